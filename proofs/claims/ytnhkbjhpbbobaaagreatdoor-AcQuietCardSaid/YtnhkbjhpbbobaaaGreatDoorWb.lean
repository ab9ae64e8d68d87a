/- own texts, made small by a tool (wip/ holds them as they were written): no statement of the seat. -/
import Derived.Test.YtnhkbjhpbbobaaaGreatDoorWa
set_option linter.unusedVariables false
set_option linter.unusedSimpArgs false
set_option linter.unnecessarySimpa false
open Array renaming getElem?_eq_some_iff→j9,getElem?_toList→Q3
open BitVec renaming ofInt→T9
open Bool renaming false→rs,true→ro,not_true→X1,not_false→W7,or_eq_false_iff→U4,eq_iff_iff→U9,and_eq_true→T1
open Decidable renaming not_not→X5
open Go renaming Value→x1,World→x4,TypeId→p9,IntKind→o7,Builtin→Y1,Program→V5,FuncId→Q9
open Go.Builtin renaming append_→Y0,len_→V7
open Go.Instr renaming loadAt→u5,fieldAt→u7,storeAt→n9,indexAt→Z0,extract→Y8,buildSlice→X2,sliceAt→U5,alloc→P7
open Go.IntKind renaming i64→W6,u64→T7
open Go.Proofs.Tryz renaming prog→x8
open Go.Result renaming andThen→V2
open Go.Sem renaming run_bind→V1,run_pure→U1
open Go.Value renaming int→U6
open Int renaming toNat_natCast→u6,le_refl→S8
open List renaming getElem?_eq_some_iff→x5,mem_of_getElem?→x6,getElem?_eq_getElem→x7,getElem?_map→v8,getD_eq_getElem?_getD→u4,length_map→u9,take_add_one→r8,length_append→r9,replicate→o4,length_set→o5,take_length→o6,length_take→o8,getElem?_set_self→l9,mem_map→j0,mem_append→j4,take_of_length_le→j5,mem_singleton→j6,eq_nil_of_length_eq_zero→c9,length_cons→Z4,map_append→Z5,getElem?_append_right→Z7,getElem?_set_ne→Z9,getElem?_append_left→Y2,getElem?_eq_none→Y4,getElem?_set→Y6,getElem?_take_of_lt→Y7,ext_getElem?→X3,mem_iff_getElem?→X6,drop_eq_getElem_cons→X8,append_assoc→X9,range→W3,append_nil→W5,flatMap_cons→W9,mem_or_eq_of_mem_set→V0,mem_cons→V4,length_eq_one_iff→V6,foldl_cons→V8,length_singleton→U2,pairwise_iff_getElem→U8,map_set→T2,map_cons→T3,set_append_right→T4,mem_range→T6,mem_filter→S1,map_map→S5,length→R6,foldl_append→Q0,getElem_mem→Q4,length_nil→Q7
open Nat renaming le_refl→p8,mul_le_mul_right→Y5,le_trans→Y9,zero_le→X7,zero_add→W0,sub_self→W8,add_mul→U7,mul_one→T5,lt_of_lt_of_le→S3,pow_le_pow_right→S4,add_sub_cancel_left→R2,min_eq_left→Q6,eq_zero_or_pos→P8
open Option renaming toList_some→o9,isNone_some→Z3,map_some→Y3,map_eq_some_iff→X0,getD_some→V9,map→T0
open Option.some renaming inj→Z6,injEq→X4
open Prod.mk renaming injEq→S7
set_option maxHeartbeats 16000000
open Option renaming some→σ,none→ν
variable{C a ai l co:Λ}{e t:p9}{K:x1->Prop}{at_ c hi k lo y:Int}{cx cy f:Bool}{sv v z:x1}{I w:x4}{R S:Nat->Prop}{N gs j n r:Nat}{cs:List x1}{d8:List (Λ)}
namespace Go.Vc
open Go Go.RowKit
set_option maxRecDepth 100000
theorem LI:(⟨#[]⟩:ByteArray)=strOfNums []:=rfl
theorem BK{ay:x1->x1->x1->x4->Prop}{B:(x1->x1->x1->x4->Prop)->Prop}(G:x1->x1->x1->x4->Prop)(h1:∀t u v w,G t u v w->ay t u v w)(e:∀a:x1->x1->x1->x4->Prop,(∀t u v w,G t u v w->a t u v w)->B a):cv ay B:=e ay h1
theorem BL{ay:x1->x1->x1->x1->x4->Prop}{B:(x1->x1->x1->x1->x4->Prop)->Prop}(G:x1->x1->x1->x1->x4->Prop)(h1:∀s t u v w,G s t u v w->ay s t u v w)(e:∀a:x1->x1->x1->x1->x4->Prop,(∀s t u v w,G s t u v w->a s t u v w)->B a):cv ay B:=e ay h1
abbrev b6(l:Λ):x1:=.string (strOfNums l)
def Bytes(l:Λ):Prop:=∀b∈l,0<=b/\b<256
theorem n7(l:Λ):(strOfNums l).size=l.length:=strOfNums_size l
theorem LJ(h:Bytes l){i:Nat}{b:Int}(hi:l[i]?=σ b):(strOfNums l)[i]?=σ (UInt8.ofNat b.toNat)/\((UInt8.ofNat b.toNat).toNat:Int)=b:=by
 have f:=h b (x6 hi);have e:=x5.1 hi;refine⟨?_,by rw[UInt8.toNat_ofNat'];omega⟩;have J:i<(strOfNums l).size:=by rw[n7];exact e.1
 rw[getElem?_pos (strOfNums l) i J];congr 1;show(strOfNums l).data[i]=_;have a:(strOfNums l).data.toList[i]?=σ (UInt8.ofNat b.toNat):=by rw[strOfNums_data,v8,hi];rfl
 rw[Q3]at a;exact(j9.1 a).2
theorem str_inj{b:Λ}(e:Bytes a)(f:Bytes b)(h:strOfNums a=strOfNums b):a=b:=by
 have h1:(strOfNums a).data.toList=(strOfNums b).data.toList:=by rw[h]
 rw[strOfNums_data,strOfNums_data]at h1;have key:∀{l:Λ},Bytes l->(l.map λn=>UInt8.ofNat n.toNat).map (λu=>((u.toNat:Nat):Int))=l:=λ{l}j=>by
  rw[S5]
  conv=>rhs;rw[<-List.map_id l]
  refine List.map_congr_left λx p=>?_;have:=j x p;show(((UInt8.ofNat x.toNat).toNat:Nat):Int)=x;rw[UInt8.toNat_ofNat'];omega
 rw[<-key e,<-key f,h1]
theorem LK(a b:Λ):strOfNums a++strOfNums b=strOfNums (a++b):=by
 apply ByteArray.ext;rw[ByteArray.data_append];simp[strOfNums]
theorem LL(l:Λ)(i j:Nat):(strOfNums l).extract i j=strOfNums ((l.take j).drop i):=by
 apply ByteArray.ext;rw[ByteArray.data_extract];apply Array.toList_inj.1;rw[Array.toList_extract];simp[strOfNums,List.extract_eq_take_drop,List.map_drop,List.map_take,List.drop_take]
theorem BM(l:Λ):(strOfNums l).toList=l.map λn=>UInt8.ofNat n.toNat:=by
 rw[ByteArray.toList_eq];exact strOfNums_data l
theorem BN{b:Λ}(e:Bytes a)(f:Bytes b):((strOfNums a).toList == (strOfNums b).toList)=decide (a=b):=by
 rw[U9,beq_iff_eq,ne,BM,BM];refine⟨λh=>str_inj e f ?_,λh=>by rw[h]⟩;unfold strOfNums;rw[h]
section
variable{P:V5}{w:x4}
theorem po{a:p9}(e:P.underlying t=σ .string):ab P (V7 #[t] a #[b6 l]) w K=K (Δ l.length):=ab.of λI _=>by
 simp[V7,run_underlying e,goInt,n7]
theorem ry{k:o7}{b:Int}{i:Nat}(a:y=(i:Int))(f:P.underlying t=σ .string)(h:Bytes l)(hi:l[i]?=σ b):ab P (Instr.index t (b6 l) (.int k y)) w K=K (.int .u8 b):=ab.of λI _=>by
 subst a;obtain⟨h1,j⟩:=LJ h hi;have e:(0:Int)<=(i:Int):=Ω
 simp only[Instr.index,asIntOf,V1,U1,V2,run_underlying f];rw[m3 e,u6,h1];simp only[U1,j]
theorem w6{b:Λ}(h:a.length+b.length<=9223372036854775807):ab P (aN .add t cx cy (b6 a) (b6 b)) w K=K (b6 (a++b)):=ab.of λI _=>by
 have:=run_string_add_sum (P:=P) (w:=I) (strOfNums a) (strOfNums b) (by rw[n7,n7];exact h);simp only[aN,eqGuard,binOp];simp[this,LK]
theorem BO{b:Λ}(e:Bytes a)(f:Bytes b):ab P (aN .eql t cx cy (b6 a) (b6 b)) w K=K (.bool (decide (a=b))):=ab.of λI _=>by
 simp[aN,eqGuard,binOp,Op.stringOp,BN e f]
theorem LM{b:Λ}(e:Bytes a)(f:Bytes b):ab P (aN .neq t cx cy (b6 a) (b6 b)) w K=K (.bool (decide (a≠b))):=ab.of λI _=>by
 simp[aN,eqGuard,binOp,Op.stringOp,BN e f]
theorem BP{k:o7}{i:Nat}(a:y=(i:Int))(f:P.underlying t=σ .string)(hi:i<=l.length):ab P (U5 t (b6 l) (σ (.int k y)) ν ν) w K=K (b6 (l.drop i)):=ab.of λI _=>by
 have j:=tH (P:=P) I (sl:=rs) (n:=(strOfNums l).size) (c:=(strOfNums l).size) (low:=σ (.int k y)) (high:=ν) (mx:=ν) (l:=i) (h:=(strOfNums l).size) (m:=(strOfNums l).size) (o3 i y a) j8 e2 (by rw[n7];exact hi) (p8 _) (p8 _);have e:(strOfNums l).extract i (strOfNums l).size=strOfNums (l.drop i):=by rw[LL,n7,o6]
 simp[U5,Instr.slice,run_underlying f,j,e]
theorem w7{s:p9}(J:P.underlying s=σ (.slice e))(he:P.underlying e=σ (.int .u8))(f:P.underlying t=σ .string)(h:aM .u8 w v l):ab P (convert s t v) w K=K (b6 l):=ab.of λI r=>by
 obtain⟨p,b,o,base,cap,rfl,_,_,x,y⟩:=h.W r;have p:l.length=l.length*1:=by simpa using p
 by_cases z:0<l.length
 .rw[x z];refine run_convert_bytes_arg I s e J he b o l.length cap l rfl (λi hi=>?_) t f;have q:l[i]?=σ l[i]:=x7 hi;rw[u4,q];exact y i _ (mo q)
 .have A:l=[]:=c9 Ω;subst A;cases base with
  |none=>
   rw[run_convert_bytes_nil I s e J he _ _ t f];rfl
  |some a=>
   rw[run_convert_bytes_string I s t e _ _ _ J he f];have:=run_bytesToString (P:=P) I a 0 cap [] (by have:=run_loadCells_list (P:=P) I a [] (λj v B=>by simp at B);simpa using this);simp only[Q7];rw[this];rfl
theorem w8{s:p9}{u:TypeDesc}{K:x1->x4->Prop}(J:P.underlying s=σ u)(y:P.underlying t=σ (.slice e))(he:P.underlying e=σ (.int .u8))(z:Bytes l)(hm:l.length<=1000000000)(A:∀v I,Ext w I->aM .u8 I v l->(∀r,(∃a n c,v= .slice (σ a) n c/\a.block=r)->w.heap.size<=r)->K v I):aH P (convert s t (b6 l)) w K:=by
 have B:=Lib.bytesWorld_at_new w e (strOfNums l);have q:=λj f=>Lib.bytesWorld_at_old w e (strOfNums l) j f;have C:=Lib.bytesWorld_size w e (strOfNums l);refine .of (Lib.run_convert_string_bytes w s t e (strOfNums l) J y he) ⟨rfl,⟨rfl,Nat.le_succ _⟩,rfl,Ω,λr o h _=>?_⟩ (A _ _ ⟨Ω,λr o h _=>?_⟩ ?_ ?_)
 .rw[q r (j9.1 h).1];exact h
 .rw[q r (j9.1 h).1];exact h
 .rw[n7];refine⟨Ξ,w.heap.size,0,_,_,rfl,?_,?_,λ_=>rfl,λj v p=>?_⟩
  .exact grownCap_ge w _ _ _
  .exact grownCap_le_maxLen w _ _ _ (by simp[maxLen];omega)
  .have f:j<l.length:=by have:=(x5.1 p).1;simpa using this
   have x:l[j]?=σ l[j]:=x7 f;rw[W0,Lib.bytesWorld_cell w e (strOfNums l) j (by rw[n7];exact f)];rw[mo x]at p;rw[<-Z6 p,strOfNums_data,u4,v8,x];have:=z l[j] (Q4 f);simp only[Y3,V9];congr 2;rw[UInt8.toNat_ofNat'];omega
 .rintro r ⟨a,n,c,h1,rfl⟩;cases h1;exact p8 _
end
end Go.Vc
namespace Go.Proofs.YtnhkbjhpbbobaaaGreatDoor
open Go Go.Vc Go.RowKit Go.Proofs Go.Proofs.Tryz
set_option maxRecDepth 100000
theorem BQ{b:Int}(h:cD b=ro):bT b=rs:=by
 have h:=rc h;unfold bT;rw[decide_eq_false_iff_not];omega
theorem BR{b:Int}{p:Λ}(h:cD b=ro):lex (b::p)=lex p:=by
 rw[lN,lN p,List.dropWhile_cons,m3 h]
theorem LN{b:Int}{p:Λ}(h:cD b=rs)(a:bT b=rs):lex (b::p)=([],rs):=by
 rw[lN,List.dropWhile_cons,m5 (by simp[h])];simp only[a,Bool.false_eq_true,if_false]
theorem BS{b:Int}{p:Λ}(h:bT b=ro):lex (b::p)=match p.dropWhile bT with
  |[]=>([b::p.takeWhile bT],ro)
  |c::r=>if cD c then((b::p.takeWhile bT)::(lex (c::r)).1,(lex (c::r)).2)else([],rs):=by
 have J:cD b=rs:=by
  cases a:cD b with
  |false=>rfl
  |true=>rw[BQ a]at h;cases h
 rw[lN,List.dropWhile_cons,m5 (by simp[J])];simp only[h,if_true,List.dropWhile_cons,List.takeWhile_cons]
 all_goals (cases List.dropWhile bT p<;>rfl)
def jD:Λ->List (Λ)->Λ->Bool->List (Λ)×Bool
 |[],out,w,op=>(if op then out++[w]else out,ro)
 |b::p,out,w,op=>
  if cD b then jD p (if op then out++[w]else out) [] rs
  else if bT b then jD p out (if op then w++[b]else[b]) ro
  else(out,rs)
theorem rz:∀(p:Λ)(out:List (Λ))(w:Λ),jD p out w rs=(out++(lex p).1,(lex p).2)/\
  jD p out w ro=match p.dropWhile bT with
   |[]=>(out++[w++p.takeWhile bT],ro)
   |c::r=>if cD c then(out++[w++p.takeWhile bT]++(lex (c::r)).1,(lex (c::r)).2)else(out,rs)
 |[],out,w=>by simp[jD,lN []]
 |b::p,out,w=>by
  by_cases J:cD b=ro
  .have hw:=BQ J;refine⟨?_,?_⟩
   .rw[jD,m3 J,(rz p _ _).1,BR J];simp
   .rw[jD,m3 J,m3 rfl,(rz p _ _).1,List.dropWhile_cons,m5 (by simp[hw])];simp only[J,if_true,BR J,List.takeWhile_cons,hw,Bool.false_eq_true,if_false,W5]
  .have e:cD b=rs:=by cases h:cD b;rfl;exact m6 h J
   by_cases hw:bT b=ro
   .refine⟨?_,?_⟩
    .rw[jD,m5 J,m3 hw,m5 Ξ,(rz p _ _).2,BS hw];cases p.dropWhile bT with
     |nil=>simp
     |cons c r=>
      simp only;by_cases a:cD c=ro
      .simp[a]
      .simp[a]
    .rw[jD,m5 J,m3 hw,m3 rfl,(rz p _ _).2,List.dropWhile_cons,m3 hw,List.takeWhile_cons,m3 hw];cases p.dropWhile bT with
     |nil=>simp
     |cons c r=>
      simp only;by_cases a:cD c=ro
      .simp[a]
      .simp[a]
   .have f:bT b=rs:=by cases h:bT b;rfl;exact m6 h hw
    refine⟨?_,?_⟩
    .rw[jD,m5 J,m5 hw,LN e f];simp
    .rw[jD,m5 J,m5 hw,List.dropWhile_cons,m5 hw];simp[e]
theorem LO(p:Λ):jD p [] [] rs=lex p:=by rw[(rz p [] []).1];simp
def qn:Nat->Nat->Λ
 |0,_=>[]
 |k+1,n=>(if n<10 then[]else qn k (n / 10))++[48+((n % 10:Nat):Int)]
def gi(n:Nat):Λ:=qn (n+1) n
theorem BT:∀{k m n:Nat},n<k->n<m->qn k n=qn m n
 |k+1,m+1,n,h1,a=>by
  unfold qn;by_cases h:n<10
  .rw[m3 h,m3 h]
  .rw[m5 h,m5 h,BT (k:=k) (m:=m) (n:=n / 10) Ω Ω]
theorem pp(n:Nat):gi n=(if n<10 then[]else gi (n / 10))++[48+((n % 10:Nat):Int)]:=by
 unfold gi;rw[qn];by_cases h:n<10
 .rw[m3 h,m3 h]
 .rw[m5 h,m5 h,BT (k:=n) (m:=n / 10+1) Ω Ω]
theorem BU:∀(k n:Nat),n<k->∀b∈gi n,48<=b/\b<=57
 |k+1,n,hk,b,a=>by
  rw[pp]at a;rcases j4.1 a with a|a
  .by_cases h:n<10
   .rw[m3 h]at a;simp at a
   .rw[m5 h]at a;exact BU k (n / 10) Ω b a
  .rw[j6]at a;omega
theorem BV(n:Nat):∀b∈gi n,48<=b/\b<=57:=BU (n+1) n Ω
def rA(l:Λ):Int:=l.foldl (λn b=>10*n+(b-48)) 0
theorem LP(l:Λ)(b:Int):rA (l++[b])=10*rA l+(b-48):=by simp[rA]
theorem w9:∀(k n:Nat),n<k->rA (gi n)=n
 |k+1,n,hk=>by
  rw[pp,LP];by_cases h:n<10
  .rw[m3 h];have:rA []=0:=rfl;omega
  .rw[m5 h,w9 k (n / 10) Ω];omega
theorem LQ{a b:Nat}(h:gi a=gi b):a=b:=by
 have h1:=w9 (a+1) a Ω;have e:=w9 (b+1) b Ω;rw[h,e]at h1;omega
theorem xa:∀(k n:Nat),n<10 ^ k->1<=k->(gi n).length<=k
 |k+1,n,h,_=>by
  rw[pp,r9];by_cases a:n<10
  .rw[m3 a];simp
  .rw[m5 a];have hk:1<=k:=by
    rcases k with _|k
    .simp at h;omega
    .omega
   have ac:(10:Nat) ^ (k+1)=10*10 ^ k:=by rw[Nat.pow_succ,Nat.mul_comm]
   have:=xa k (n / 10) Ω hk;simp only[U2];omega
def eO(t:Λ):Λ:=t.flatMap λv=>gi v.toNat++[32]
theorem LR(t:Λ)(v:Int):eO (t++[v])=eO t++(gi v.toNat++[32]):=by simp[eO]
theorem BW{r:Λ}(a:∀b∈l,b≠32):(l++32::r).takeWhile (λb=>decide (b≠32))=l/\(l++32::r).dropWhile (λb=>decide (b≠32))=32::r:=by
 induction l with
 |nil=>simp
 |cons x l e=>
  have f:=a x (.head _);have:=e λb h=>a b (.tail _ h);simp only[List.cons_append,List.takeWhile_cons,List.dropWhile_cons];simp only[f,ne_eq,not_false_eq_true,decide_true,if_true];exact⟨by rw[this.1],this.2⟩
theorem BX:∀{a b:Λ},(∀x∈a,0<=x)->(∀x∈b,0<=x)->eO a=eO b->a=b
 |[],[],_,_,_=>rfl
 |[],y::b,_,_,h=>by simp[eO]at h
 |x::a,[],_,_,h=>by simp[eO]at h
 |x::a,y::b,j,p,h=>by
  have e:∀(z:Int)(l:Λ),eO (z::l)=gi z.toNat++32::eO l:=λz l=>by simp[eO]
  rw[e,e]at h;have d:∀z:Int,∀c∈gi z.toNat,c≠32:=λz c s=>by have:=BV _ c s;omega
  have s1:=BW (r:=eO a) (d x);have q:=BW (r:=eO b) (d y);rw[h]at s1;have w:=s1.1.symm.F q.1;have A:=s1.2.symm.F q.2;have C:=j x (.head _);have E:=p y (.head _);have:=LQ w;have B:x=y:=Ω
  subst B;rw[BX (λz f=>j z (.tail _ f)) (λz f=>p z (.tail _ f)) (List.cons.inj A).2]
theorem BY(t:Λ):Bytes (eO t):=λb a=>by
 obtain⟨v,_,a⟩:=List.mem_flatMap.1 a;rcases j4.1 a with a|a
 .have:=BV _ b a;omega
 .rw[j6]at a;omega
theorem BZ{b:Int}:al x8 JK [.int .u8 b] w λv I=>v= .bool (cD b)/\Ext w I:=by
 refine aB func177 ?_;refine aV (λv U=>v= .bool (cD b)/\Ext w U) (λ_ _ h=>h) λay a=>?_;rw[bk,ak];refine⟨λh=>a _ _ ⟨by unfold cD;rw[m7 (.inl h)],Ext.refl _⟩,λh1=>?_⟩;rw[bk,ak];refine⟨λh=>a _ _ ⟨by unfold cD;rw[m7 (.inr (.inl h))],Ext.refl _⟩,λe=>?_⟩;rw[bk,ak];refine⟨λh=>a _ _ ⟨by unfold cD;rw[m7 (.inr (.inr (.inl h)))],Ext.refl _⟩,λf=>?_⟩;rw[bk];refine a _ _ ⟨?_,Ext.refl _⟩;congr 1;unfold cD;rw[U9,ne,ne];omega
theorem LS{b:Int}:al x8 JJ [.int .u8 b] w λv I=>v= .bool (bT b)/\Ext w I:=by
 refine aB func176 ?_;refine aV (λv U=>v= .bool (bT b)/\Ext w U) (λ_ _ h=>h) λay a=>?_;rw[cH,ak];refine⟨λh=>?_,λh=>a _ _ ⟨by unfold bT;rw[ms Ω],Ext.refl _⟩⟩;rw[nh];refine a _ _ ⟨?_,Ext.refl _⟩;congr 1;unfold bT;rw[U9,ne,ne];omega
def nq(w:x4)(g:Nat)(a:x1)(p:Λ)(at_:Nat)(bad:Int):Prop:=Bytes p/\p.length<=100000/\at_<=p.length/\ag w g ji [a,Δ (at_:Int),Δ bad]/\∃ba,aA .u8 cK w ba a p
theorem nq.W{g:Nat}{a:x1}{p:Λ}{at_:Nat}{bad:Int}(h:nq w g a p at_ bad)(e:Ext w I):nq I g a p at_ bad:=by
 obtain⟨h1,f,j,q,ba,r⟩:=h;exact⟨h1,f,j,q.W e,ba,r.W e⟩
theorem LU(h:aM .u8 w v l)(A:l.length<=100000):al x8 JE [v] w λf I=>Ext w I/\∃g,aA .u8 cK I g f l:=by
 have e:=h;obtain⟨B,b,o,base,cap,rfl,C,hm,p,E⟩:=h;refine aB func170 ?_;rw[qh cQ.u,bY];refine⟨λq=>⟨Ext.refl _,0,?_⟩,λ_=>?_⟩
 .have:l=[]:=by
   cases base with
   |none=>
        by_cases e:0<l.length
        .have:=p e;cases this
        .exact c9 Ω
   |some a=>cases q
  subst this;exact aA.nil _ _ _ _
 .refine lL (k:=1) (cs:=#[]) cQ.u cK.i Ω Ψ λg U G j r=>?_;have s:aA .u8 cK U g (.slice (σ ⟨g,0,ν⟩) 0 0) []:=aA.of (n:=0) (b0.full (by simpa using r) rfl Ξ);refine kx cQ.u cK.i rfl s (e.W j) Θ Θ λf x aa H y z=>?_;exact⟨j.put z Ω,x,by simpa using y⟩
theorem B1(h:aM .u8 w v l)(p:Bytes l)(e:l.length<=100000):al x8 AL [v] w λq I=>Ext w I/\∃g,q=Γ g/\w.heap.size<=g/\∃a,nq I g a l 0 (-1):=by
 refine aB func109 ?_;refine(LU h e).Y ?_;rintro a U _ ⟨f,ba,ac⟩;rw[di (cs:=#[a,Δ 0,Δ (-1)]) (by obtain⟨_,_,_,_,_,rfl,_⟩:=ac.ls;kernel_rfl)];refine bo λg aa s j r=>?_;have s1:=f.size;exact⟨f.F j,g,rfl,Ω,a,p,e,X7 _,r,ba,ac.W j⟩
def runN(f:Int->Bool)(p:Λ):Nat:=(p.takeWhile f).length
theorem LV(f:Int->Bool)(p:Λ):runN f p<=p.length:=(List.takeWhile_sublist f).length_le
theorem B2{f:Int->Bool}{p:Λ}{i:Nat}{b:Int}(hi:p[i]?=σ b)(e:f b=ro):i+runN f (p.drop i)=(i+1)+runN f (p.drop (i+1)):=by
 have a:=x5.1 hi;unfold runN;rw[X8 a.1,a.2,List.takeWhile_cons,m3 e,Z4];omega
theorem B3{f:Int->Bool}{p:Λ}{i:Nat}(h:∀b,p[i]?=σ b->f b=rs):runN f (p.drop i)=0:=by
 unfold runN;cases ac:p[i]? with
 |none=>
  rw[List.drop_of_length_le (List.getElem?_eq_none_iff.1 ac)];rfl
 |some b=>
  have a:=x5.1 ac;rw[X8 a.1,a.2,List.takeWhile_cons,m5 (by simp[h b ac])];rfl
theorem LW{g at_:Nat}{p:Λ}{bad:Int}(h:nq w g z p at_ bad):al x8 JI [Γ g] w λv I=>v=Δ ((at_+runN cD (p.drop at_):Nat):Int)/\Ext w I:=by
 obtain⟨L,M,A,a,ba,ac⟩:=h;refine aB func175 ?_;rw[aG ji.p 1 a rfl];refine⟨λv U=>Ext w U/\∃i:Nat,v=Δ (i:Int)/\i<=p.length/\i+runN cD (p.drop i)=at_+runN cD (p.drop at_),λv _=>p.length-(bU v).toNat,⟨Ext.refl _,at_,rfl,A,rfl⟩,?_⟩;rintro _ U ⟨j,i,rfl,hi,he⟩;refine aV (λv aa=>Ext w aa/\∃c:Bool,v= .bool c/\(c=ro↔ ∃b,p[i]?=σ b/\cD b=ro)) ?_ ?_
 .rintro _ aa ⟨q,c,rfl,r⟩;rw[bY];refine⟨λB=>?_,λs=>?_⟩
  .obtain⟨b,e,C⟩:=r.1 B;have E:=(x5.1 e).1;rw[aO,li Ω Ω];exact⟨⟨q,i+1,rfl,E,by rw[<-he,B2 e C]⟩,by simp only[bU];omega⟩
  .have G:=B3 (f:=cD) (p:=p) (i:=i) λb a=>by
    cases J:cD b with
    |false=>rfl
    |true=>rw[r.2 ⟨b,a,J⟩]at s;cases s
   exact⟨by rw[<-he,G,Nat.add_zero],q⟩
 .intro ay x;have y:=a.W j;rw[aG ji.p 0 y rfl,aY cQ.u (ac.W j).ls,aR,ak];refine⟨λN=>?_,λO=>x _ _ ⟨j,rs,rfl,⟨λh=>(by cases h),λ⟨b,a,_⟩=>by have:=(x5.1 a).1;omega⟩⟩⟩;have H:i<p.length:=Ω
  have e:=x7 H;rw[aG ji.p 0 y rfl,bi cQ.u cK.i Ψ (ac.W j).ls e];refine BZ.Y ?_;rintro _ P _ ⟨rfl,K⟩;exact x _ _ ⟨j.F K,_,rfl,⟨λh=>⟨_,e,h⟩,λ⟨b,a,h⟩=>by rw[e]at a;cases a;exact h⟩⟩
inductive LX where
 |word (from_ to:Nat)
 |none
 |text (at_:Nat)
def gM(p:Λ)(at_:Nat):Nat:=at_+runN cD (p.drop at_)
def kb(p:Λ)(a:Nat):Nat:=a+runN bT (p.drop a)
open Classical in
noncomputable def qo(p:Λ)(at_:Nat):LX:=
 if kb p (gM p at_)<p.length/\(∀c,p[kb p (gM p at_)]?=σ c->cD c=rs)then .text (kb p (gM p at_))else if gM p at_=kb p (gM p at_)then .none else .word (gM p at_) (kb p (gM p at_))
def rB(w:x4)(g:Nat)(e:x1)(p:Λ)(at_:Nat)(v:x1)(I:x4):Prop:=
 match qo p at_ with
 | .word a b=>v= .tuple #[b6 ((p.take b).drop a),Δ (a:Int),Δ 0]/\af (λr=>r=g) w I/\nq I g e p b (-1)
 | .none=>∃n:Nat,v= .tuple #[b6 [],Δ (n:Int),Δ 2]/\Ext w I
 | .text b=>v= .tuple #[b6 [],Δ (b:Int),Δ 11]/\af (λr=>r=g) w I/\nq I g e p at_ (b:Int)
theorem iO{a1:Nat->Prop}{a b c:x4}(h:af S a b)(k:af a1 b c)(j:∀r,r<a.heap.size->a1 r->S r):af S a c:=
 ⟨Y9 h.size k.size,λr o e J f=>k.aZ r o (h.aZ r o e J f) J λhu=>f (j r (j9.1 e).1 hu)⟩
theorem b8{g:Nat}{k:o7}{p:p9}(h:aA k e w g v l)(q:ag w j p cs)(x:e≠p)(s:lc v r):r≠j:=by
 obtain⟨rfl,_⟩:=bV h s;obtain⟨_,⟨rfl,_⟩|⟨_,_,_,f,_⟩⟩:=h
 .obtain⟨a,n,c,h,_⟩:=s;cases h
 .rintro rfl;unfold ag at q f;rw[q]at f;injection f with h1;injection h1 with z y;exact x y.symm
theorem LY{s:p9}{e f:o7}{b i:Nat}(p:x8.underlying s=σ (.slice t))(hi:aP x8 t 1 b z)(h:aM .u8 w v l)(q:i<=j)(r:j<=l.length)(x:∀a,aM .u8 w a ((l.take j).drop i)->K a):ab x8 (U5 s v (σ (.int e (i:Int))) (σ (.int f (j:Int))) ν) w K:=by
 refine tU p hi h (o3 i _ rfl) (pa j _ rfl) q r λa aW=>x a (aM.of (n:=j-i) ?_);have y:((ints .u8 l).drop (i*1)).take ((j-i)*1)=ints .u8 ((l.take j).drop i):=by
  rw[T5,T5,ints,ints,List.map_drop,List.map_take,List.drop_take]
 rw[y]at aW;exact aW
theorem LZ{g at_:Nat}{E:x1}{p:Λ}(h:nq w g E p at_ (-1)):al x8 wF [Γ g] w (rB w g E p at_):=by
 obtain⟨P,Q,an,e,ba,ac⟩:=id h;refine aB func115 ?_;rw[cR tE.u,Z3,aX,aG ji.p 2 e rfl,cH,ak];refine⟨λh=>Ω,λ_=>?_⟩;refine(LW h).Y ?_;rintro _ aa _ ⟨rfl,ao⟩;obtain⟨a,R⟩:∃a,a=at_+runN cD (p.drop at_):=⟨_,rfl⟩;rw[<-R];have ap:a<=p.length:=by have:=LV cD (p.drop at_);rw[List.length_drop]at this;omega
 refine⟨λv G=>Ext aa G/\∃i:Nat,v=Δ (i:Int)/\a<=i/\i<=p.length/\i+runN bT (p.drop i)=a+runN bT (p.drop a),λv _=>p.length-(bU v).toNat,⟨Ext.refl _,a,rfl,p8 _,ap,rfl⟩,?_⟩;rintro _ G ⟨S,i,rfl,aq,hi,he⟩;have H:=ao.F S;have U:=e.W H;have W:=ac.W H;refine aV (λv y=>Ext G y/\∃c:Bool,v= .bool c/\(c=ro↔ ∃b,p[i]?=σ b/\bT b=ro)) ?_ ?_
 rotate_left
 .intro ay q;rw[aG ji.p 0 U rfl,aY cQ.u W.ls,aR,ak];refine⟨λau=>?_,λav=>q _ _ ⟨Ext.refl _,rs,rfl,⟨λh=>(by cases h),λ⟨b,e,_⟩=>by have:=(x5.1 e).1;omega⟩⟩⟩;have z:i<p.length:=Ω
  have j:=x7 z;rw[aG ji.p 0 U rfl,bi cQ.u cK.i Ψ W.ls j];refine LS.Y ?_;rintro _ y _ ⟨rfl,A⟩;exact q _ _ ⟨A,_,rfl,⟨λh=>⟨_,j,h⟩,λ⟨b,e,h⟩=>by rw[j]at e;cases e;exact h⟩⟩
 rintro _ y ⟨A,c,rfl,s⟩;have I:=H.F A;have X:=e.W I;have Y:=ac.W I;rw[bY];refine⟨λK=>?_,λZ=>?_⟩
 .obtain⟨b,j,aw⟩:=s.1 K;have ax:=(x5.1 j).1;rw[aO,li Ω Ω];exact⟨⟨S.F A,i+1,rfl,Ω,ax,by rw[<-he,B2 j aw]⟩,by simp only[bU];omega⟩
 have aE:=B3 (f:=bT) (p:=p) (i:=i) λb e=>by
  cases J:bT b with
  |false=>rfl
  |true=>rw[s.2 ⟨b,e,J⟩]at Z;cases Z
 have az:i=a+runN bT (p.drop a):=Ω
 refine aV (λv L=>Ext y L/\∃c:Bool,v= .bool c/\(c=ro↔i<p.length/\∀c,p[i]?=σ c->cD c=rs)) ?_ ?_
 rotate_left
 .intro ay q;rw[aG ji.p 0 X rfl,aY cQ.u Y.ls,aR,ak];refine⟨λau=>?_,λav=>q _ _ ⟨Ext.refl _,rs,rfl,⟨λh=>(by cases h),λh=>Ω⟩⟩⟩;have z:i<p.length:=Ω
  have j:=x7 z;rw[aG ji.p 0 X rfl,bi cQ.u cK.i Ψ Y.ls j];refine BZ.Y ?_;rintro _ L _ ⟨rfl,M⟩;rw[bC];refine q _ _ ⟨M,_,rfl,⟨λh=>⟨z,λc s=>?_⟩,λh=>by rw[h.2 _ j];rfl⟩⟩;rw[j]at s;cases s;cases J:cD p[i]with
  |false=>rfl
  |true=>rw[J]at h;cases h
 rintro _ L ⟨M,aF,rfl,ab⟩;have x:=I.F M;have B:=e.W x;have C:=ac.W x;have ad:∀r,lc E r->r≠g:=λr aA=>b8 C B Φ aA;have N:qo p at_=open Classical in if i<p.length/\(∀c,p[i]?=σ c->cD c=rs)then .text i else if a=i then .none else .word a i:=by
  unfold qo;rw[show gM p at_=a from R.symm,show kb p a=i from az.symm]
 rw[bY];refine⟨λK=>?_,λae=>?_⟩
 .rw[bL,aT ji.p rfl];refine bq (g:=g) (o:=2) aj.i rfl rfl B Ξ λaH af aI aC=>?_;unfold rB;rw[N,m3 (ab.1 K)];exact⟨rfl,(x.V _).F af,P,Q,an,aC,ba,bs C af ad⟩
 .have ag:¬(i<p.length/\∀c,p[i]?=σ c->cD c=rs):=λh=>by rw[ab.2 h]at ae;cases ae
  rw[bk,ak];refine⟨λaJ=>?_,λaK=>?_⟩
  .intro aL O _ _;rw[aG ji.p 0 (B.W O) rfl,aY cQ.u (C.W O).ls];unfold rB;rw[N,m5 ag,m3 Ω];exact⟨p.length,rfl,x.F O⟩
  .rw[bL,aT ji.p rfl];refine bq (g:=g) (o:=1) aj.i rfl rfl B Ξ λaM ah aN ai=>?_;have am:=bs C ah ad;rw[aG ji.p 0 ai rfl];refine LY cQ.u cK.i am.ls aq hi λaP aD=>?_;rw[w7 cQ.u cK.u c6.u aD];unfold rB;rw[N,m5 ag,m5 Ω];exact⟨rfl,(x.V _).F ah,P,Q,hi,ai,ba,am⟩
abbrev bW:ah:=λ_=>False
abbrev fC(n:Nat):ah:=λr=>n<=r
theorem L0{b:Λ}{bm bv:x1}(f:aM .i64 w bm a)(s:aM .i64 w bv b):
  al x8 J4 [bm,bv] w λv I=>v= .bool (decide (a=b))/\Ext w I:=by
 refine aB func206 ?_;rw[aY aq.u f,aY aq.u s];simp only[bF,ak];refine⟨λp=>⟨?_,Ext.refl _⟩,λz=>?_⟩
 .rw[ms];rintro rfl;exact p rfl
 .have z:a.length=b.length:=Ω
  rw[aY aq.u f];refine cb.range a.length (λi _ U=>Ext w U/\a.take i=b.take i) f.le ⟨Ext.refl _,rfl⟩ ?_ ?_
  .rintro i t4 U k A ⟨e,q⟩ hk;simp only[aR,ak,eH];refine⟨λ_ aa B _ _=>?_,λh=>Ω⟩;have e:=e.F B;obtain⟨x,r⟩:=aF A;obtain⟨y,j⟩:=aF (l:=b) (i:=i) Ω;rw[bi aq.u aj.i Ψ (f.W e) r,bi aq.u aj.i Ψ (s.W e) j];simp only[bF,ak,aO];refine⟨λp=>⟨?_,e⟩,λC=>hk _ _ ⟨e,wV q r j Ω⟩⟩;rw[ms];rintro rfl;rw[r]at j;cases j;exact p rfl
  .rintro _ U k ⟨e,q⟩;simp only[aR,ak];refine⟨λh=>Ω,λ_=>⟨?_,e⟩⟩;rw[m7];rwa [o6,z,o6]at q
def kE(rest:List (Λ))(i:Nat):List (Λ):=(W3 i).flatMap λ(v:Nat)=>rest.map λt=>(v:Int)::t
theorem L1(rest:List (Λ))(i:Nat):kE rest (i+1)=kE rest i++rest.map λt=>(i:Int)::t:=by
 simp[kE,List.range_succ]
theorem B4(rest:List (Λ))(i:Nat):(kE rest i).length=i*rest.length:=by
 simp only[kE,List.length_flatMap,u9];rw[List.map_const',List.length_range,List.sum_replicate_nat]
def rC(l:Λ):Prop:=l.length<=90/\(∀x∈l,1<=x/\x<=32)/\aQ l<=1073741824
theorem ca.p(h:ca l):rC l:=⟨by have:=h.1;omega,h.2,(prod_bound h).2⟩
theorem rC.tail{s:Λ}(h:rC (k::s)):rC s:=by
 have h1:=h.2.1 k (.head _);have e:=(n3 s λx a=>h.2.1 x (.tail _ a)).1;have f:k*aQ s<=1073741824:=h.2.2;have j:=Int.mul_le_mul_of_nonneg_right h1.1 (show 0<=aQ s by omega);refine⟨?_,λx a=>h.2.1 x (.tail _ a),Ω⟩;have:=h.1;rw[Z4]at this;omega
theorem B5:∀(s:Λ){sv:x1}{w:x4},aM .i64 w sv s->rC s->
  al x8 AE [sv] w λv I=>Ext w I/\bJ (fC w.heap.size) bW I [v] (bp s)
 |[],sv,w,h,J=>by
  refine aB func29 ?_;rw[aY aq.u h];simp only[bk,Q7,Int.natCast_zero,decide_true,bH];refine lM (α:=Λ) (cs:=[.slice ν 0 0]) (A:=bW) dn.u aq.i Φ rfl iM λv I P f _=>⟨P,av.Y f (λr _ h=>?_) λ_ _ h=>h⟩;exact h.elim False.elim id
 |k::s,sv,w,h,J=>by
  have ac:1<=aQ (k::s)/\aQ (k::s)<=1073741824:=⟨(n3 _ J.2.1).1,J.2.2⟩;have q:=J.tail;have hk:=J.2.1 k (.head _);have Q:=jy q.2.1;have ao:1<=aQ s/\aQ s<=1073741824:=⟨(n3 _ q.2.1).1,q.2.2⟩;obtain⟨kn,rfl⟩:∃kn:Nat,k=kn:=⟨k.toNat,Ω⟩;have ap:kn*(bp s).length<=1073741824:=by
   have e:((kn*(bp s).length:Nat):Int)=aQ ((kn:Int)::s):=by
    rw[Int.natCast_mul,Q,aQ,Int.toNat_of_nonneg Ω]
   omega
  refine aB func29 ?_;rw[aY aq.u h];simp only[bk,ak];refine⟨λS=>by simp at S;omega,λ_=>?_⟩;refine Lx rfl aq.u aj.i h Ξ λV aW=>?_;refine(B5 s aW q).Y ?_;rintro au aa _ ⟨E,z⟩;have aw:=n0 z;refine cb.range kn (λi out U=>Ext aa U/\bJ (fC aa.heap.size) bW U [out] (kE (bp s) i)) Ω ⟨Ext.refl _,iM⟩ ?_ ?_
  .rintro i out W X M ⟨p,f⟩ Y;have Z:=bS z p;rw[gI (y:=0) (i:=0) rfl aq.u aj.i Ψ (h.W (E.F p)) (by rfl)];simp only[aR,ak];refine⟨λ_=>?_,λh=>Ω⟩;rw[ka dn.u Z];refine cb.range (bp s).length (λj out U=>Ext aa U/\bJ (fC aa.heap.size) bW U [out] (kE (bp s) i++((bp s).take j).map λt=>(i:Int)::t)) Ω ⟨p,by simpa using f⟩ ?_ ?_
   .rintro j out B ab ad ⟨C,f⟩ ae;simp only[aR,ak];refine⟨λ_=>?_,λh=>Ω⟩;obtain⟨x,G⟩:=aF ad;have ax:x.length<=100:=by
     have:=tN G;have:=q.1;omega
    refine jx rfl rfl dn.u aq.i Ψ (bS z C) G λu hu=>?_;refine eB aq.u aj.i rfl λa ga ay az H af=>?_;refine kx aq.u aj.i rfl af (dQ (bS hu H)) Θ Θ λb aA aC aD K ag=>?_;have aE:=H.size;have N:=H.then ag (by rintro r z rfl;omega);have aG:=N.size;refine lM (α:=Λ) (a:=(i:Int)::x) (R:=bW) dn.u aq.i Φ (rt (ph K (R:=bW))) (av.Y (ph K) (λr _ h=>by subst h;show B.heap.size<=r;omega) λ_ _ h=>h) λc aH L _ ah=>?_;have O:=N.F L;have aI:=L.size;refine pg dn.u aq.i rfl (bS (n0 f) O) ah (bS (av.Y (ph K) (λr _ h=>by subst h;show B.heap.size<=r;omega) λ_ _ h=>h) L) (λr _ h aW=>?_) ?_ ?_ λV aJ ai am=>?_
    .rcases aW with aW|aW
     .have:=h.2;have:B.heap.size<=r:=aW;omega
     .exact aW
    .have an:(kE (bp s) i++((bp s).take j).map λt=>(i:Int)::t).length+1<=kn*(bp s).length:=by
      simp only[r9,B4,u9,o8];have:(i+1)*(bp s).length<=kn*(bp s).length:=Y5 _ M;rw[U7]at this;omega
     omega
    .have an:(kE (bp s) i++((bp s).take j).map λt=>(i:Int)::t).length+1<=kn*(bp s).length:=by
      simp only[r9,B4,u9,o8];have:(i+1)*(bp s).length<=kn*(bp s).length:=Y5 _ M;rw[U7]at this;omega
     omega
    .simp only[aO];have aK:=C.size;refine ae _ _ ⟨(C.F O).then am (λr z h=>?_),?_⟩
     .have:=h.1;have:aa.heap.size<=r:=this;omega
     .have e:kE (bp s) i++((bp s).take (j+1)).map (λt=>(i:Int)::t)=(kE (bp s) i++((bp s).take j).map λt=>(i:Int)::t)++[(i:Int)::x]:=by
       rw[r8,G];simp
      rw[e];refine av.Y ai (λr _ h=>?_) λ_ _ h=>h;show aa.heap.size<=r;rcases h with h|h|h
      .exact h.1
      .have:B.heap.size<=r:=h;omega
      .omega
   .rintro out B ab ⟨C,f⟩;simp only[aR,ak,aO];refine⟨λh=>Ω,λ_=>Y _ _ ⟨C,?_⟩⟩;rw[L1];simpa using f
  .rintro out W X ⟨p,f⟩;rw[gI (y:=0) (i:=0) rfl aq.u aj.i Ψ (h.W (E.F p)) (by rfl)];simp only[aR,ak];refine⟨λh=>Ω,λ_=>⟨E.F p,?_⟩⟩;have aL:=E.size;have e:bp ((kn:Int)::s)=kE (bp s) kn:=by simp[bp,kE]
   rw[e];exact av.Y f (λr _ h=>by have:aa.heap.size<=r:=h;show w.heap.size<=r;omega) λ_ _ h=>h
theorem xb(s:Λ)(h:aM .i64 w sv s)(J:ca s):al x8 AE [sv] w λv I=>Ext w I/\bJ (fC w.heap.size) bW I [v] (bp s):=B5 s h J.p
theorem L2:∀(x:Nat),0<x->∃k m,x=2 ^ k*(2*m+1):=by
 intro x;induction x using Nat.strongRecOn with
 |_ x a=>
  intro h;by_cases e:x % 2=1
  .exact⟨0,x / 2,Ω⟩
  .obtain⟨k,m,hk⟩:=a (x / 2) Ω Ω;refine⟨k+1,m,?_⟩;rw[Nat.pow_succ,Nat.mul_assoc,Nat.mul_comm 2,<-Nat.mul_assoc,<-hk];omega
theorem xc{k m i:Nat}:(2 ^ k*(2*m+1)).testBit i=(decide (i=k)||decide (k<i)&&m.testBit (i-k-1)):=by
 rw[Nat.testBit_two_pow_mul];by_cases h:k<=i
 .obtain⟨d,rfl⟩:=Nat.exists_eq_add_of_le h;cases d with
  |zero=>simp
  |succ d=>
   have e:(2*m+1).testBit (d+1)=m.testBit d:=by rw[Nat.testBit_succ];congr 1;omega
   simp[e,show k+(d+1)-k=d+1 by omega]
 .simp[h,show i≠k by omega,show¬k<i by omega]
theorem L3{k m:Nat}(p:2 ^ k*(2*m+1)<2 ^ 64):(2 ^ k*(2*m+1)) &&& (2 ^ 64-2 ^ k*(2*m+1))=2 ^ k:=by
 have q:=Nat.two_pow_pos k;have hk:k<64:=by
  rcases Nat.lt_or_ge k 64 with h|h
  .exact h
  .have:2 ^ 64<=2 ^ k:=S4 Ω h;have:2 ^ k*1<=2 ^ k*(2*m+1):=Nat.mul_le_mul_left _ Ω;omega
 have e:2 ^ k*(2*m+1)=(2 ^ k*(2*m)+(2 ^ k-1))+1:=by rw[Nat.mul_add];omega
 apply Nat.eq_of_testBit_eq;intro i;rw[Nat.testBit_and,xc]
 conv=>lhs;rhs;rw[e]
 rw[Nat.testBit_two_pow_sub_succ Ω,Nat.testBit_two_pow_mul_add _ Ω,Nat.testBit_two_pow];by_cases h1:i=k
 .subst h1;simp[hk]
 .by_cases a:k<i
  .have f:(2*m).testBit (i-k)=m.testBit (i-k-1):=by
    obtain⟨d,j⟩:∃d,i-k=d+1:=⟨i-k-1,Ω⟩;rw[j,Nat.testBit_succ];congr 1;omega
   simp[h1,a,show¬i<k by omega,f,show k≠i by omega];intro h;simp[h]
  .simp[h1,a,show k≠i by omega]
def k5(a c:Nat):Nat:=(BitVec.ofNat 64 a &&& ~~~BitVec.ofNat 64 c).toNat
theorem B6(a c i:Nat):(k5 a c).testBit i=(decide (i<64)&&(a.testBit i&& !c.testBit i)):=by
 unfold k5;rw[BitVec.testBit_toNat,BitVec.getLsbD_and,BitVec.getLsbD_not,BitVec.getLsbD_ofNat,BitVec.getLsbD_ofNat];by_cases h:i<64<;>simp[h]
theorem L4(a c:Nat):k5 a c<2 ^ 64:=BitVec.isLt _
theorem L5{a:Nat}(h:∀i,n<=i->a.testBit i=rs):a<2 ^ n:=Nat.lt_pow_two_of_testBit a h
theorem B7{a i:Nat}(h:a<2 ^ n)(hi:n<=i):a.testBit i=rs:=Nat.testBit_lt_two_pow (S3 h (S4 Ω hi))
def gj(b n:Nat):List Nat:=(W3 n).filter λi=>b.testBit i
theorem B8(b n:Nat):(gj b n).Pairwise (·< ·):=List.Pairwise.filter _ List.pairwise_lt_range
theorem xd{b i:Nat}:i∈gj b n↔i<n/\b.testBit i=ro:=by simp[gj]
def pq:Option Nat->Int
 |some i=>(i:Int)
 |none=>-1
def k6(b n:Nat)(v:Int):Int:=pq ((W3 n).find? (λi:Nat=>decide (v<(i:Int))&&b.testBit i))
theorem B9:∀{l:List Nat}{k x:Nat},l.Pairwise (·< ·)->l[k]?=σ x->l.filter (λi=>decide (x<i))=l.drop (k+1)
 |y::l,0,x,h,hk=>by
  simp at hk;subst hk;rw[List.pairwise_cons]at h;simp only[List.drop_succ_cons,List.drop_zero];rw[List.filter_cons_of_neg Ξ,List.filter_eq_self.2 λa e=>by simpa using h.1 a e]
 |y::l,k+1,x,h,hk=>by
  simp only[List.getElem?_cons_succ]at hk;rw[List.pairwise_cons]at h;have:y<x:=h.1 x (x6 hk);rw[List.filter_cons_of_neg Θ,List.drop_succ_cons];exact B9 h.2 hk
theorem Ca(b n:Nat)(v:Int):k6 b n v=pq (((gj b n).filter (λi:Nat=>decide (v<i))).head?):=by
 unfold k6 gj;rw[<-List.head?_filter,List.filter_filter]
theorem L6(b n:Nat):k6 b n (-1)=pq ((gj b n)[0]?):=by
 rw[Ca,List.filter_eq_self.2 (λa _=>Θ),List.head?_eq_getElem?]
theorem Cb{b k x:Nat}(h:(gj b n)[k]?=σ x):k6 b n x=pq ((gj b n)[k+1]?):=by
 have e:(λi:Nat=>decide ((x:Int)<i))=λi=>decide (x<i):=by funext i;simp
 rw[Ca,e,B9 (B8 b n) h,List.head?_eq_getElem?,List.getElem?_drop]
theorem L7{b:Nat}{v:Int}(h:(n:Int)-1<=v):k6 b n v= -1:=by
 unfold k6;rw[List.find?_eq_none.2 λi hi=>by simp at hi ⊢;omega];rfl
theorem L8{b k m s:Nat}(y:n<=64)(f:b<2 ^ n)(e:∀i,r.testBit i=(decide (s<=i)&&b.testBit i))(hk:r=2 ^ k*(2*m+1)){v:Int}(z:v+1=s):k6 b n v=k:=by
 have p:r.testBit k=ro:=by rw[hk,xc];simp
 have q:∀i,i<k->r.testBit i=rs:=λi hi=>by rw[hk,xc];simp[show i≠k by omega,show¬k<i by omega]
 have a:=p;rw[e]at a;simp at a;have w:k<n:=by
  rcases Nat.lt_or_ge k n with h|h
  .exact h
  .rw[B7 f h]at a;cases a.2
 unfold k6;have:(W3 n).find? (λi:Nat=>decide (v<(i:Int))&&b.testBit i)=σ k:=by
  rw[List.find?_range_eq_some];refine⟨by simp[a.2];omega,by simpa using w,λj x=>?_⟩;have:=q j x;rw[e]at this;simp only[Bool.not_eq_true',Bool.and_eq_false_iff,decide_eq_false_iff_not]at this ⊢;rcases this with h|h
  .exact .inl Ω
  .exact .inr h
 rw[this];rfl
theorem L9{b s:Nat}(a:∀i,r.testBit i=(decide (s<=i)&&b.testBit i))(hk:r=0){v:Int}(e:v+1=s):k6 b n v= -1:=by
 unfold k6;rw[List.find?_eq_none.2]
 .rfl
 .intro i hi;have:=a i;rw[hk,Nat.zero_testBit]at this;simp at hi this ⊢;intro h;exact this Ω
section
variable{P:V5}{w:x4}{t:p9}{cx cy:Bool}{a b:Nat}{K:x1->Prop}
theorem n8(a:Nat):T9 64 (a:Int)=BitVec.ofNat 64 a:=BitVec.ofInt_natCast _ _
theorem Cc(x:BitVec 64):T7.wrap (x.toNat:Int)=(x.toNat:Int):=by
 have:=x.isLt;rw[lm Ω Ω]
theorem u64_and(f:a<2 ^ 64)(h:b<2 ^ 64):ab P (aN .and t cx cy (.int .u64 a) (.int .u64 b)) w K=K (.int .u64 ((a &&& b:Nat):Int)):=ab.of λI _=>by
 have e:(T9 64 (a:Int) &&& T9 64 (b:Int)).toNat=a &&& b:=by
  rw[n8,n8,BitVec.toNat_and,BitVec.toNat_ofNat,BitVec.toNat_ofNat,Nat.mod_eq_of_lt f,Nat.mod_eq_of_lt h]
 have hw:T7.wrap ((a &&& b:Nat):Int)=((a &&& b:Nat):Int):=by rw[<-e];exact Cc _
 have j:(T9 T7.bits (a:Int) &&& T9 T7.bits (b:Int)).toNat=a &&& b:=e;simp only[aN,eqGuard,binOp,Op.intBits,j,hw];rfl
theorem Cd:ab P (aN .andNot t cx cy (.int .u64 a) (.int .u64 b)) w K=K (.int .u64 (k5 a b:Int)):=ab.of λI _=>by
 have e:(T9 64 (a:Int) &&& ~~~T9 64 (b:Int)).toNat=k5 a b:=by rw[n8,n8];rfl
 have hw:T7.wrap (k5 a b:Int)=(k5 a b:Int):=Cc _;have f:(T9 T7.bits (a:Int) &&& ~~~T9 T7.bits (b:Int)).toNat=k5 a b:=e;simp only[aN,eqGuard,binOp,Op.intBits,f,hw];rfl
theorem mu{k:o7}(f:n<64):ab P (aN .shr t cx cy (.int .u64 (a:Int)) (.int k (n:Int))) w K=K (.int .u64 ((a / 2 ^ n:Nat):Int)):=ab.of λI _=>by
 have e:(a:Int).fdiv (2 ^ min n T7.bits)=((a / 2 ^ n:Nat):Int):=by
  have:min n T7.bits=n:=Q6 (by show n<=64;omega);rw[this,Int.fdiv_eq_ediv_of_nonneg _ (by exact Int.le_of_lt (Int.pow_pos Ω))];simp
 simp only[aN,eqGuard,binOp,Op.shift,u6,e];simp[show¬(n:Int)<0 by omega]
theorem xe{k:o7}(a:n<64):ab P (aN .shl t cx cy (.int .u64 1) (.int k (n:Int))) w K=K (.int .u64 ((2 ^ n:Nat):Int)):=by
 rw[Be Ω];have e:min ((n:Int).toNat) T7.bits=n:=Q6 (by show n<=64;omega);have f:2 ^ n<2 ^ 64:=Nat.pow_lt_pow_right Ω a;rw[e,Int.one_mul,show((2:Int) ^ n)=((2 ^ n:Nat):Int) by simp];generalize 2 ^ n=q at f ⊢;rw[lm Ω Ω]
end
def tY:Λ:=[0,1,56,2,57,49,28,3,61,58,42,50,38,29,17,4,62,47,59,36,45,43,51,22,53,39,33,30,24,18,12,5,63,55,48,27,60,41,37,16,46,35,44,21,52,32,23,11,54,26,40,15,34,20,31,10,25,14,19,9,13,8,7,6]
def Laid(w:x4):Prop:=w.rangeAt 0 0 (ints .u8 tY)
theorem Laid.W(h:Laid w)(a:Ext w I):Laid I:=o0 a h
theorem Ma:∀k:Nat,k<64->tY[(2 ^ k*285870213051353865 % 2 ^ 64) / 2 ^ 58]?=σ (k:Int):=Φ
theorem Mb{x k m:Nat}(f:Laid w)(j:x=2 ^ k*(2*m+1))(p:x<2 ^ 64):
  al x8 Jt [.int .u64 (x:Int)] w λv I=>v=Δ (k:Int)/\Ext w I:=by
 have z:=Nat.two_pow_pos k;have A:2 ^ k<=x:=by
  have:2 ^ k*1<=2 ^ k*(2*m+1):=Nat.mul_le_mul_left _ Ω;omega
 have hk:k<64:=by
  rcases Nat.lt_or_ge k 64 with h|h
  .exact h
  .have:2 ^ 64<=2 ^ k:=S4 Ω h;omega
 refine aB func156 ?_;simp only[bk,ak];refine⟨λh=>Ω,λ_=>?_⟩;rw[ni];have q:T7.wrap (0-(x:Int))=((2 ^ 64-x:Nat):Int):=by
  simp only[o7.wrap,o7.bits,o7.signed];simp;omega
 rw[q,u64_and p Ω,j,L3 Ω];simp only[gW];have r:T7.wrap (((2 ^ k:Nat):Int)*285870213051353865)=((2 ^ k*285870213051353865 % 2 ^ 64:Nat):Int):=by
  have e:((2 ^ k:Nat):Int)*285870213051353865=((2 ^ k*285870213051353865:Nat):Int):=Ξ
  rw[e];simp only[o7.wrap,o7.bits,o7.signed];simp
 have s:(58:Int)=((58:Nat):Int):=rfl;rw[r,s,mu Ω];have a:=Ma k hk;have y:=(x5.1 a).1;rw[wU wQ.u cK.i y,aD Ψ (by rw[T5];exact f _ _ (mo a)),fB cK.u aj.u,li Ω Ω];exact⟨rfl,Ext.refl _⟩
def kc(b n:Nat):x1:=.agg #[.int .u64 (b:Int),Δ (n:Int)]
def mv(b n:Nat):Prop:=n<=32/\b<2 ^ n
theorem Ce(s i:Nat):(2 ^ s-1).testBit i=decide (i<s):=Nat.testBit_two_pow_sub_one s i
theorem Cf{b:Nat}{v:Int}:al x8 Je [kc b n,Δ v] w λr I=>r= .bool (decide (0<=v/\v<n))/\Ext w I:=by
 refine aB func138 ?_;refine bo λg U f a e=>?_;simp only[cv,cH,ak];refine⟨λh=>?_,λh=>⟨?_,a⟩⟩
 .rw[aL b3.p 1 e rfl];simp only[aR];exact⟨by simp[h],a⟩
 .rw[ms];omega
theorem xf{b:Nat}:al x8 Ix [kc b n] w λr I=>r=Δ n/\Ext w I:=by
 refine aB func68 ?_;refine bo λg U f a e=>?_;rw[aL b3.p 1 e rfl];exact⟨rfl,a⟩
theorem Mc{n:Int}:al x8 Iv [Δ n] w λr I=>Ext w I/\r=(if 1<=n/\n<=32 then .tuple #[kc (2 ^ n.toNat-1) n.toNat,Δ 0]else .tuple #[kc 0 0,Δ 1]):=by
 refine aB func66 ?_;refine bB b3.i λg U z f j=>?_;refine aV (λv aa=>v= .bool (decide (¬(1<=n/\n<=32)))/\U=aa) ?_ ?_
 .rintro _ _ ⟨rfl,rfl⟩;simp only[ak];refine⟨λh=>?_,λh=>?_⟩
  .rw[di (cs:=#[.int .u64 0,Δ 0]) Ψ];refine b4 (vs:=[.int .u64 0,Δ 0]) b3.i rfl rfl (by intro u hu;simp at hu;rcases hu with rfl|rfl<;>rfl) j λs a x e=>?_;rw[fP b3.p b3.i rfl e.range,m5 h];exact⟨f.then a (by rintro r y rfl;omega),rfl⟩
  .have h:1<=n/\n<=32:=X5.1 h;obtain⟨m,rfl⟩:∃m:Nat,n=m:=⟨n.toNat,Ω⟩;rw[xe Ω];have ac:=Nat.two_pow_pos m;have A:2 ^ m<=2 ^ 32:=S4 Ω Ω;simp only[dp];rw[lm Ω Ω,show(((2 ^ m:Nat):Int)-1)=((2 ^ m-1:Nat):Int) by omega];rw[di (cs:=#[.int .u64 ((2 ^ m-1:Nat):Int),Δ m]) Ψ];refine b4 (vs:=[.int .u64 ((2 ^ m-1:Nat):Int),Δ m]) b3.i rfl rfl (by intro u hu;simp at hu;rcases hu with rfl|rfl<;>rfl) j λs a x e=>?_;rw[fP b3.p b3.i rfl e.range,m3 h];exact⟨f.then a (by rintro r y rfl;omega),rfl⟩
 .intro ay q;simp only[aR,bO,ak];refine⟨λh=>q _ _ ⟨?_,rfl⟩,λh=>q _ _ ⟨?_,rfl⟩⟩
  .rw[m7];omega
  .congr 1;simp;omega
theorem Cg{b:Nat}{v:Int}(y:mv b n)(z:Laid w)(G: -1<=v):al x8 IK [kc b n,Δ v] w λr I=>r=Δ (k6 b n v)/\Ext w I:=by
 obtain⟨H,e⟩:=y;have f:b<2 ^ 64:=S3 e (S4 Ω Ω);refine aB func84 ?_;refine bo λg U K a j=>?_;rw[aL b3.p 1 j rfl];simp only[dp,cH,ak];rw[li Ω Ω];refine⟨λh=>⟨by rw[L7 h],a⟩,λL=>?_⟩;rw[aL b3.p 0 j rfl];refine aV (λu aa=>U=aa/\∃r s:Nat,u= .int .u64 (r:Int)/\r<2 ^ 64/\v+1=s/\∀i,r.testBit i=(decide (s<=i)&&b.testBit i)) ?_ ?_
 .rintro _ _ ⟨rfl,r,s,rfl,A,J,q⟩;simp only[bk,ak];refine⟨λB=>⟨by rw[L9 q Ω J],a⟩,λB=>?_⟩;obtain⟨k,m,hk⟩:=L2 r Ω;refine(Mb (z.W a) hk A).Y ?_;rintro _ M _ ⟨rfl,C⟩;exact⟨by rw[L8 Ω e q hk J],a.F C⟩
 .intro ay x;refine⟨λh=>?_,λh=>?_⟩
  .obtain⟨s,rfl⟩:∃s:Nat,v=s:=⟨v.toNat,Ω⟩;have ac:0<2 ^ (s+1):=Nat.two_pow_pos _;have N:2 ^ (s+1)<=2 ^ 32:=S4 Ω Ω;simp only[aO];rw[li Ω Ω,show((s:Int)+1)=((s+1:Nat):Int) by omega,xe Ω];simp only[dp];rw[lm Ω Ω,show(((2 ^ (s+1):Nat):Int)-1)=((2 ^ (s+1)-1:Nat):Int) by omega,Cd];refine x _ _ ⟨rfl,_,s+1,rfl,L4 _ _,Ω,λi=>?_⟩;rw[B6,Ce];by_cases E:i<64
   .by_cases hi:s+1<=i
    .simp[E,hi,show¬i<s+1 by omega]
    .simp[hi,show i<s+1 by omega]
   .rw[B7 f Ω];simp
  .exact x _ _ ⟨rfl,b,0,rfl,f,Ω,λi=>Ξ⟩
theorem Md{b:Nat}(e:mv b n)(f:Laid w):al x8 IJ [kc b n] w λr I=>r=Δ (k6 b n (-1))/\Ext w I:=by
 refine aB func83 ?_;refine bo λg U q a h=>?_;rw[bA b3.p b3.i rfl h.range];refine(Cg e (f.W a) Ω).Y ?_;rintro _ aa _ ⟨rfl,j⟩;exact⟨rfl,a.F j⟩
theorem Me{b:Nat}{v:Int}(H:mv b n):al x8 Iy [kc b n,Δ v] w λr I=>r=kc (if 0<=v/\v<n then k5 b (2 ^ v.toNat)else b) n/\Ext w I:=by
 refine aB func69 ?_;refine bo λg U R x y=>?_;refine bB b3.i λJ aa S z A=>?_;have s1:=x.size;have W:=y.lt;refine cW (λe=>∃f,ag e g b3 [.int .u64 ((f:Nat):Int),Δ (n:Int)]/\ag e J b3 [.int .u64 0,Δ 0]/\Ext w e/\f=(if 0<=v/\v<n then k5 b (2 ^ v.toNat)else b)) ?_ ?_
 .rintro e ⟨f,K,L,M,rfl⟩;rw[bA b3.p b3.i rfl K.range];refine b4 (vs:=[_,_]) b3.i rfl rfl (by intro u hu;simp at hu;rcases hu with rfl|rfl<;>rfl) L λX N Y O=>?_;rw[fP b3.p b3.i rfl O.range];exact⟨rfl,M.then N (by rintro r P rfl;omega)⟩
 .intro ay B;have j:=y.W z;rw[bA b3.p b3.i rfl j.range];refine Cf.Y ?_;rintro _ Z _ ⟨rfl,a⟩;have C:=(x.F z).F a;simp only[ak,eH];refine⟨λh ab q _ _=>?_,λh=>B _ ⟨b,j.W a,A.W a,C,by rw[m5 h]⟩⟩;have E:=(j.W a).W q;rw[aL b3.p 0 E rfl];obtain⟨s,rfl⟩:∃s:Nat,v=s:=⟨v.toNat,Ω⟩;have ac:=H.1;rw[xe Ω,Cd,aT b3.p rfl];refine bq fz.i rfl rfl E (by simp[kc,x1.cells]) λad G ae Q=>?_;refine B _ ⟨_,Q,((A.W a).W q).V G Ω,(C.F q).then G (by rintro r P rfl;omega),?_⟩;rw[m3 h,u6]
def qp(v:Int):Nat:=if v<0 then 0 else 40-v.toNat
theorem xg(x:Nat):qp x=40-x:=by unfold qp;rw[m5 Ω];omega
theorem nr{b g:Nat}(e:mv b n):
  oO x8 jX [Γ g] (gj b n).length (λk vs _=>∃v:Nat,(gj b n)[k]?=σ v/\vs=[Δ (v:Int)])
   (λw=>ag w g b3 [.int .u64 (b:Int),Δ (n:Int)]/\Laid w):=by
 refine⟨jX.enters,λl ay P w r _ E ⟨s,z⟩ G=>?_⟩;have Q:=e.1;refine qg func82 ?_;rw[bA b3.p b3.i rfl s.range];refine(Md e z).free.Y ?_;rintro _ U ⟨H,rfl,f⟩;refine⟨λv aa=>∃k,k<=(gj b n).length/\v=Δ (pq (gj b n)[k]?)/\ay k aa/\ag aa g b3 [.int .u64 (b:Int),Δ (n:Int)]/\Laid aa,
  λv _=>qp (bU v),⟨0,X7 _,by rw[L6],r 0 _ _ f H.b G,s.W f,z.W f⟩,?_⟩
 rintro _ aa ⟨k,hk,rfl,A,I,J⟩;cases a:(gj b n)[k]? with
 |none=>
  have:k=(gj b n).length:=by
   have:=List.getElem?_eq_none_iff.1 a;omega
  subst this;simp only[pq,cH,ak];exact⟨λh=>Ω,λ_=>.inl A⟩
 |some x=>
  have j:=(x5.1 a).1;have R:=(xd.1 (x6 a)).1;simp only[pq,cH,ak];refine⟨λ_=>?_,λh=>Ω⟩;refine⟨rfl,(E k _ aa j ⟨I,J⟩ ⟨x,a,rfl⟩ A).Y ?_⟩;rintro _ S (⟨rfl,⟨B,C⟩,K⟩|⟨rfl,L⟩)
  .simp only[bC,X1,aX];rw[bA b3.p b3.i rfl B.range];refine(Cg e C Ω).free.Y ?_;rintro _ V ⟨M,rfl,q⟩;refine⟨⟨k+1,j,congrArg (U6 .i64) (Cb a),r _ _ _ q M.b K.1,B.W q,C.W q⟩,?_⟩;rw[Cb a];cases N:(gj b n)[k+1]? with
   |none=>show 0<qp x;rw[xg];omega
   |some y=>
    have W:x<y:=by
     have h1:=(x5.1 a).2;have O:=(x5.1 N).2;rw[<-h1,<-O];exact U8.1 (B8 b n) k (k+1) _ _ Ω
    show qp y<qp x;rw[xg,xg];omega
  .simp only[bC,W7,bH];exact .inr ⟨k,j,L⟩
theorem ns{b:Nat}:al x8 H8 [kc b n] w λr I=>Ext w I/\∃g,r= .func (.func jX) #[] #[Γ g]/\w.heap.size<=g/\ag I g b3 [.int .u64 (b:Int),Δ (n:Int)]:=by
 refine aB func35 ?_;refine bo λg U f a e=>?_;rw[lK];exact⟨a,g,rfl,Ω,e⟩
abbrev dG(s:Λ):Prop:=∀x∈s,1<=x/\x<=32
theorem dG.tail{s:Λ}(h:dG (k::s)):dG s:=λx a=>h x (.tail _ a)
theorem nt{s:Λ}(h:dG s):1<=aQ s:=(n3 s h).1
theorem qq:∀(s t:Λ)(m:Int),cz s t m=(cz s t 0).map λn=>n+m*aQ s
 |[],[],m=>by simp[cz,aQ]
 |k::s,v::t,m=>by
  unfold cz;split
  .rw[qq s t (m*k+v),qq s t (0*k+v)];simp only[Option.map_map,aQ];congr 1;funext n;simp only[Function.comp];rw[Int.add_mul,Int.add_mul,<-Int.mul_assoc];simp;omega
  .rfl
 |[],_::_,_=>rfl
 |_::_,[],_=>rfl
theorem xh{L j:Nat}{rest:List (Λ)}(p:rest.length=L):∀{kn v:Nat},v<kn->∀{x:Λ},rest[j]?=σ x->
  ((W3 kn).flatMap λ(v:Nat)=>rest.map λt=>(v:Int)::t)[v*L+j]?=σ ((v:Int)::x)
 |0,v,h,_,_=>Ω
 |kn+1,v,h,x,e=>by
  have q:=(x5.1 e).1;have f:((W3 kn).flatMap λ(v:Nat)=>rest.map λt=>(v:Int)::t).length=kn*L:=by
   simp only[List.length_flatMap,u9,p];rw[List.map_const',List.length_range,List.sum_replicate_nat]
  rw[List.range_succ,List.flatMap_append];by_cases a:v<kn
  .have:(v+1)*L<=kn*L:=Y5 _ a;rw[U7]at this;rw[Y2 (by rw[f];omega)];exact xh p a e
  .have a:v=kn:=Ω
   subst a;rw[Z7 (by rw[f];omega),f,show v*L+j-v*L=j by omega];simp[e]
theorem kF:∀{s:Λ},dG s->∀{i:Nat}{t:Λ},(bp s)[i]?=σ t->cz s t 0=σ (i:Int)
 |[],_,i,t,h=>by
  cases i with
  |zero=>simp[bp]at h;subst h;rfl
  |succ i=>simp[bp]at h
 |k::s,J,i,t,h=>by
  have hk:=J k (.head _);have a:=jy J.tail;have ac:=nt J.tail;obtain⟨kn,rfl⟩:∃kn:Nat,k=kn:=⟨k.toNat,Ω⟩;have hi:=(x5.1 h).1;rw[jy J,aQ,Int.toNat_mul Ω Ω,<-a,u6]at hi;have p:0<(bp s).length:=Ω
  have e:i / (bp s).length<kn:=Nat.div_lt_of_lt_mul (by rw[Nat.mul_comm];exact hi);have q:i % (bp s).length<(bp s).length:=Nat.mod_lt _ p;obtain⟨x,f⟩:∃x,(bp s)[i % (bp s).length]?=σ x:=⟨_,x7 q⟩;have j:=xh rfl e f;rw[Nat.mul_comm,Nat.div_add_mod]at j;have aW:((W3 ((kn:Int).toNat)).flatMap λ(v:Nat)=>(bp s).map λt=>(v:Int)::t)[i]?=σ t:=h;rw[u6,j]at aW;cases aW;unfold cz;rw[m3 ⟨Int.natCast_nonneg _,Int.ofNat_lt.2 e⟩,qq,kF J.tail f];simp only[Y3,X4,Int.zero_mul,Int.zero_add];have r:aQ s=((bp s).length:Int):=by rw[a];omega
  rw[r,<-Int.natCast_mul,<-Int.natCast_add];congr 1;rw[Nat.mul_comm,Nat.add_comm,Nat.div_add_mod]
theorem nu:∀{s:Λ},dG s->∀{t:Λ}{n:Int},cz s t 0=σ n->(bp s)[n.toNat]?=σ t
 |[],_,[],n,h=>by simp[cz]at h;subst h;rfl
 |k::s,J,v::t,n,h=>by
  have hk:=J k (.head _);have j:=jy J.tail;have ac:=nt J.tail;obtain⟨kn,rfl⟩:∃kn:Nat,k=kn:=⟨k.toNat,Ω⟩;unfold cz at h;split at h
  .rename_i w;rw[qq]at h;cases f:cz s t 0 with
   |none=>rw[f]at h;cases h
   |some q=>
    rw[f]at h;simp only[Y3,X4,Int.zero_mul,Int.zero_add]at h;have p:=pi J.tail f;simp only[Int.zero_mul,Int.zero_add,Int.one_mul]at p;obtain⟨a,rfl⟩:∃a:Nat,v=a:=⟨v.toNat,Ω⟩;have r:=xh (kn:=kn) (v:=a) rfl Ω (nu J.tail f);have e:n.toNat=a*(bp s).length+q.toNat:=by
     rw[<-h,j];have:((a*(aQ s).toNat:Nat):Int)=(a:Int)*aQ s:=by rw[Int.natCast_mul,Int.toNat_of_nonneg Ω]
     omega
    rw[e];show((W3 ((kn:Int).toNat)).flatMap λ(v:Nat)=>(bp s).map λt=>(v:Int)::t)[_]?=_;rw[u6];exact r
  .cases h
 |[],_,_::_,_,h=>by cases h
 |_::_,_,[],_,h=>by cases h
theorem Ch:∀(s:Λ),dG s->∀(n c:Int),de s (n+c*aQ s)=de s n
 |[],_,_,_=>rfl
 |k::s,J,n,c=>by
  have ac:=nt J.tail;simp only[de,aQ];rw[<-Int.mul_assoc,Ch s J.tail,Int.add_mul_ediv_right _ _ Ω,Int.add_mul_emod_self_right]
theorem tZ:∀{s:Λ},dG s->∀{n:Int},0<=n->n<aQ s->cz s (de s n) 0=σ n
 |[],_,n,a,h1=>by simp[aQ]at h1;simp[de,cz];omega
 |k::s,J,n,a,h1=>by
  have hk:=J k (.head _);have ac:=nt J.tail;simp only[de,aQ]at h1 ⊢;have f:=Int.ediv_lt_of_lt_mul Ω h1;have h:0<=n / aQ s:=Int.ediv_nonneg a Ω;have hm:n / aQ s % k=n / aQ s:=Int.emod_eq_of_lt h f;rw[hm];unfold cz;rw[m3 ⟨h,f⟩,qq];have e:de s n=de s (n % aQ s):=by
   have:=Ch s J.tail (n % aQ s) (n / aQ s);rw[<-this];congr 1;have:=Int.emod_add_mul_ediv n (aQ s);rw[Int.mul_comm (n / aQ s)];omega
  rw[e,tZ J.tail (Int.emod_nonneg _ Ω) (Int.emod_lt_of_pos _ Ω)];simp only[Y3,X4,Int.zero_mul,Int.zero_add];have:=Int.emod_add_mul_ediv n (aQ s);rw[Int.mul_comm (n / aQ s)];omega
theorem qs{s:Λ}(J:dG s){i:Nat}(h:(i:Int)<aQ s):(bp s)[i]?=σ (de s i):=by
 have:=nu J (tZ J Ω h);simpa using this
def br(s cs t:Λ):Int:=match cz s t 0 with
 |some n=>cs.getD n.toNat 0
 |none=>0
def upto{α:Type}(l:List α)(d:α)(i:Nat):List α:=l.take i++o4 (l.length-i) d
theorem rD{α:Type}(l:List α)(d:α)(i:Nat):(upto l d i).length=l.length:=by simp[upto];omega
theorem rE{α:Type}(l:List α)(d:α):upto l d 0=o4 l.length d:=by simp[upto]
theorem rF{α:Type}(l:List α)(d:α):upto l d l.length=l:=by simp[upto]
theorem rG{α:Type}{l:List α}{d x:α}{i:Nat}(h:l[i]?=σ x):(upto l d i).set i x=upto l d (i+1):=by
 have hi:=(x5.1 h).1;unfold upto;rw[T4 _ _ Θ,r8,h];have e:i-(l.take i).length=0:=Θ
 obtain⟨m,hm⟩:∃m,l.length-i=m+1:=⟨l.length-i-1,Ω⟩;rw[e,hm,show l.length-(i+1)=m by omega];simp[List.replicate_succ]
theorem rH{α:Type}{l:List α}{i:Nat}{x:α}(h:l[i]?=σ x):l.set i x=l:=by
 apply X3;intro j;rw[Y6];split
 .rename_i a;subst a;rw[m3 (x5.1 h).1,h]
 .rfl
def xi:Λ->Int
 |[]=>0
 |x::l=>l.foldl min x
def Ci(P:Int->Prop)(m:Int):Prop:=P m/\∀x,P x->m<=x
def dt(s t:Λ):Prop:=∃n,cz s t 0=σ n
theorem Mf(k v:Int)(s t:Λ):cz (k::s) (v::t) 0=if 0<=v/\v<k then(cz s t 0).map (λn=>n+(0*k+v)*aQ s)else ν:=by
 conv=>lhs;unfold cz
 rw[qq]
theorem Cj{v:Int}{s t:Λ}:dt (k::s) (v::t)↔(0<=v/\v<k)/\dt s t:=by
 unfold dt;rw[Mf];constructor
 .rintro⟨n,h⟩;split at h
  .rename_i a;cases e:cz s t 0 with
   |none=>rw[e]at h;cases h
   |some q=>exact⟨a,q,rfl⟩
  .cases h
 .rintro⟨a,q,e⟩;rw[m3 a,e];exact⟨_,rfl⟩
theorem Ck{t:Λ}:dt [] t↔t=[]:=by
 cases t with
 |nil=>exact⟨λ_=>rfl,λ_=>⟨0,rfl⟩⟩
 |cons v t=>
  constructor
  .rintro⟨_,h⟩;cases h
  .intro h;cases h
theorem ua{s t:Λ}(h:dt s t):s.length=t.length:=by
 obtain⟨n,h⟩:=h;rcases Nat.decEq s.length t.length with a|a
 .rw[wX s t 0 a]at h;cases h
 .exact a
theorem Cl{s t:Λ}(J:dG s){n:Int}(h:cz s t 0=σ n):de s n=t:=by
 have f:=pi J h;have h1:=nu J h;simp only[Int.zero_mul,Int.zero_add,Int.one_mul]at f;have a:=qs J (i:=n.toNat) Ω;rw[h1]at a;have e:((n.toNat:Nat):Int)=n:=Ω
 rw[e]at a;exact(Z6 a).symm
theorem ub{s cs:Λ}(J:dG s)(a:cs.length=(aQ s).toNat):cs=(W3 (aQ s).toNat).map λ(q:Nat)=>br s cs (de s q):=by
 apply List.ext_getElem
 .simp[a]
 .intro i h1 e;rw[List.getElem_map,List.getElem_range];have ac:=nt J;have hi:(i:Int)<aQ s:=Ω
  unfold br;rw[tZ J Ω hi];simp only[u6];rw[u4,x7 h1];rfl
theorem xj{s:Λ}(J:dG s){q:Nat}(a:q<(aQ s).toNat):dt s (de s q):=⟨_,tZ J Ω (by have:=nt J;omega)⟩
theorem Mg{s cs:Λ}(J:dG s)(e:cs.length=(aQ s).toNat)(f:a.length=(aQ s).toNat)(h:∀t,dt s t->br s cs t=br s a t):cs=a:=by
 rw[ub J e,ub J f];apply List.map_congr_left;intro q j;exact h _ (xj J (by simpa using j))
theorem Mh(h:l≠[]):Ci (λc=>c∈l) (xi l):=by
 obtain⟨x,r,rfl⟩:∃v r,l=v::r:=by cases l with
  |nil=>exact m6 rfl h
  |cons v r=>exact⟨v,r,rfl⟩
 clear h;show Ci (λc=>c∈x::r) (r.foldl min x);induction r generalizing x with
 |nil=>exact⟨.head _,λy f=>by simp at f;simp[f]⟩
 |cons y r j=>
  rw[V8];obtain⟨h1,e⟩:=j (min x y);refine⟨?_,λz a=>?_⟩
  .rcases V4.1 h1 with h1|h1
   .rw[h1];rcases Int.le_total x y with h|h
    .rw[Int.min_eq_left h];exact .head _
    .rw[Int.min_eq_right h];exact .tail _ (.head _)
   .exact .tail _ (.tail _ h1)
  .rcases V4.1 a with rfl|a
   .have:=e _ (.head _);omega
   .rcases V4.1 a with rfl|a
    .have:=e _ (.head _);omega
    .exact e _ (.tail _ a)
def qt(m:Λ)(i j:Nat):Prop:=∀(p q:Nat)(x y:Int),p<q->q<=i->q≠j->m[p]?=σ x->m[q]?=σ y->x<=y
def rI(m:Λ)(i:Nat):Prop:=∀(p q:Nat)(x y:Int),p<q->q<i->m[p]?=σ x->m[q]?=σ y->x<=y
theorem Mi{m:Λ}{i:Nat}(h:rI m i):qt m i i:=λp q x y h1 f j a e=>h p q x y h1 Ω a e
theorem Mj{m:Λ}{i:Nat}(h:qt m i 0):rI m (i+1):=λp q x y h1 f a e=>h p q x y h1 Ω Ω a e
theorem Mk{m:Λ}{i:Nat}{a b:Int}(h:qt m i j)(A:0<j)(r:m[j-1]?=σ a)(w:m[j]?=σ b)(z:a<=b):rI m (i+1):=by
 intro p q x y h1 B e f;by_cases s:q=j
 .subst s;rw[w]at f;cases f;by_cases ac:p=q-1
  .subst ac;rw[r]at e;cases e;exact z
  .have:=h p (q-1) x a Ω Ω Ω e r;omega
 .exact h p q x y h1 Ω s e f
theorem Ml{m:Λ}{i:Nat}{a b:Int}(h:qt m i j)(H:0<j)(hi:j<=i)(z:m[j-1]?=σ a)(A:m[j]?=σ b)(I:b<a):qt ((m.set j a).set (j-1) b) i (j-1):=by
 intro p q x y h1 w B e f;have C:=(x5.1 A).1;have E:∀(r:Nat),((m.set j a).set (j-1) b)[r]?=if r=j-1 then σ b else if r=j then σ a else m[r]?:=λr=>by
  by_cases h:r=j-1
  .subst h;rw[l9 Θ,m3 rfl]
  .rw[Z9 (Ne.symm h),m5 h];by_cases aW:r=j
   .subst aW;rw[l9 C,m3 rfl]
   .rw[Z9 (Ne.symm aW),m5 aW]
 rw[E]at e f;rw[m5 B]at f;by_cases s:q=j
 .rw[m3 s]at f;cases f;split at e
  .cases e;omega
  .split at e
   .omega
   .exact h p (j-1) x a Ω Ω Ω e z
 .rw[m5 s]at f;split at e
  .cases e;have:=h j q b y;by_cases F:j<q
   .exact this F w s A f
   .omega
  .split at e
   .rename_i G;subst G;cases e;exact h (p-1) q a y Ω w s z f
   .exact h p q x y h1 w s e f
theorem swap_perm{m:Λ}{i:Nat}{a b:Int}(q:i<j)(h:m[i]?=σ a)(f:m[j]?=σ b):((m.set j a).set i b).Perm m:=by
 induction m generalizing i j with
 |nil=>simp at h
 |cons x m p=>
  cases j with
  |zero=>omega
  |succ j=>
   cases i with
   |zero=>
    simp at h f ⊢;subst h;obtain⟨r,f⟩:=x5.1 f;rw[show m=m.take j++m[j]::m.drop (j+1) by simp];rw[T4 _ _ Θ];have e:j-(m.take j).length=0:=Θ
    rw[e,f];simp only[List.set_cons_zero];refine(List.Perm.cons b (List.perm_middle)).F ?_;refine(List.Perm.swap x b _).F ?_;exact List.Perm.cons x List.perm_middle.symm
   |succ i=>
    simp at h f ⊢;exact p Ω h f
theorem Mm{m:Λ}(h:rI m m.length):m.Pairwise (·<= ·):=by
 rw[U8];intro i j hi a e;exact h i j _ _ e a (x7 hi) (x7 a)
def Good(o:Λ)(n:Nat):Prop:=o.length=n/\∀(i:Nat)(p:Int),o[i]?=σ p->(0<=p/\p<n)/\∀j,j<i->o[j]? ≠σ p
theorem Good.inj{o:Λ}{i:Nat}{p:Int}(h:Good o n)(hi:o[i]?=σ p)(a:o[j]?=σ p):i=j:=by
 rcases Nat.lt_trichotomy i j with h1|h1|h1
 .exact m6 hi ((h.2 j p a).2 i h1)
 .exact h1
 .exact m6 a ((h.2 i p hi).2 j h1)
def Cm(m:Λ):Prop:=∀i:Nat,i<m.length->m[i]?=σ (i:Int)
theorem Cn{o m:Λ}(h:Good o n)(ac:m.Perm o)(J:m.Pairwise (·<= ·)):Cm m:=by
 have r:o.Nodup:=U8.2 λi j hi s B he=>by
  have:=h.inj (i:=i) (j:=j) (p:=o[j]) (by rw[x7 hi,he]) (x7 s);omega
 have w:=ac.nodup_iff.2 r;have C:m.length=n:=by rw[ac.length_eq,h.1]
 have f:∀x∈m,0<=x/\x<(n:Int):=λx y=>by
  obtain⟨i,hi,he⟩:=List.getElem_of_mem (ac.mem_iff.1 y);exact(h.2 i x (by rw[x7 hi,he])).1
 have q:∀(i:Nat)(hi:i+1<m.length),m[i]<m[i+1]:=λi hi=>by
  have h1:=U8.1 J i (i+1) Ω hi Ω;have a:=U8.1 w i (i+1) Ω hi Ω;omega
 have z:∀(i:Nat)(hi:i<m.length),(i:Int)<=m[i]:=by
  intro i;induction i with
  |zero=>intro hi;exact(f _ (Q4 hi)).1
  |succ i e=>
   intro hi;have h1:=e Ω;have a:=q i hi;omega
 have A:∀(d i:Nat)(hi:i<m.length),i+d+1=m.length->m[i]<=(i:Int):=by
  intro d;induction d with
  |zero=>
   intro i hi he;have:=(f _ (Q4 hi)).2;omega
  |succ d e=>
   intro i hi he;have h1:=e (i+1) Ω Ω;have a:=q i Ω;omega
 intro i hi;rw[x7 hi];have h1:=z i hi;have a:=A (m.length-i-1) i hi Ω;congr 1;omega
theorem Mn{o m:Λ}(h:Cm m)(ac:m.Perm o):Good o m.length:=by
 have r:m.Nodup:=U8.2 λi j hi a w he=>by
  have h1:=h i hi;have e:=h j a;rw[x7 hi]at h1;rw[x7 a]at e;have h1:=Z6 h1;have e:=Z6 e;omega
 have s:=ac.nodup_iff.1 r;refine⟨ac.length_eq.symm,λi p hi=>⟨?_,λj a f=>?_⟩⟩
 .obtain⟨k,hk,he⟩:=List.getElem_of_mem (ac.mem_iff.2 (x6 hi));have h1:=h k hk;rw[x7 hk,he]at h1;cases h1;omega
 .have q:=(x5.1 hi).1;have:=U8.1 s j i Ω q a;rw[x7 q]at hi;rw[x7 (show j<o.length by omega)]at f;exact this ((Z6 f).F (Z6 hi).symm)
theorem Good.Co{o:Λ}{p:Nat}(h:Good o n)(ac:p<n):∃j:Nat,o[j]?=σ (p:Int):=by
 let le:Int->Int->Bool:=λa b=>decide (a<=b);have h1:(o.mergeSort le).Perm o:=List.mergeSort_perm o le;have e:(o.mergeSort le).Pairwise (·<= ·):=by
  refine(List.pairwise_mergeSort (λa b c h1 e=>?_) (λa b=>?_) o).imp λh=>by simpa[le]using h
  .simp[le]at*;omega
  .simp[le];omega
 have f:=Cn h h1 e p (by rw[h1.length_eq,h.1];exact ac);obtain⟨j,q,he⟩:=List.getElem_of_mem (h1.mem_iff.1 (x6 f));exact⟨j,by rw[x7 q,he]⟩
def oa(o x:Λ):Λ:=(W3 o.length).map λ(p:Nat)=>x.getD (o.idxOf (p:Int)) 0
theorem Cp(o x:Λ):(oa o x).length=o.length:=by simp[oa]
theorem Cq{o x:Λ}{p:Int}(h:Good o n)(q:x.length=n)(a:o[j]?=σ p):(oa o x)[p.toNat]?=x[j]?:=by
 have h1:=(h.2 j p a).1;have r:=(x5.1 a).1;have hm:=x6 a;have e:=List.idxOf_lt_length_of_mem hm;have f:=h.inj (by rw[x7 e,List.getElem_idxOf e]) a;have ac:((p.toNat:Nat):Int)=p:=Ω
 have s:=h.1;unfold oa;rw[v8,List.getElem?_range Ω];simp only[Y3,ac,f];rw[u4,x7 (show j<x.length by omega)];rfl
theorem Cr{o x y:Λ}(h:Good o n)(f:x.length=n)(r:y.length=n)(q:∀(j:Nat)(p:Int),o[j]?=σ p->y[p.toNat]?=x[j]?):y=oa o x:=by
 refine X3 λp=>?_;have s:=h.1;by_cases ac:p<n
 .obtain⟨j,a⟩:=h.Co ac;have h1:=q j p a;have e:=Cq h f a;rw[u6]at h1 e;rw[h1,e]
 .rw[Y4 Ω,Y4 (by rw[Cp];omega)]
theorem pr:∀{s t:Λ},dt s t↔s.length=t.length/\∀(i:Nat)(a v:Int),s[i]?=σ a->t[i]?=σ v->0<=v/\v<a
 |[],t=>by
  rw[Ck];exact⟨λh=>⟨by rw[h],λi a v h _=>by simp at h⟩,λh=>c9 h.1.symm⟩
 |k::s,[]=>⟨λh=>m6 (ua h) Ξ,λh=>m6 h.1 Ξ⟩
 |k::s,v::t=>by
  rw[Cj,pr];refine⟨λ⟨h1,f,j⟩=>⟨by simp[f],λi a u e hu=>?_⟩,λ⟨h1,f⟩=>⟨f 0 k v rfl rfl,by simpa using h1,λi a u e hu=>f (i+1) a u (by simpa using e) (by simpa using hu)⟩⟩;cases i with
  |zero=>simp at e hu;subst e;subst hu;exact h1
  |succ i=>exact j i a u (by simpa using e) (by simpa using hu)
def e3(s o:Λ):Λ:=o.map λp=>s.getD p.toNat 0
theorem uc(s o:Λ):(e3 s o).length=o.length:=by simp[e3]
theorem Cs{s o:Λ}{p:Int}(h:Good o n)(J:s.length=n)(a:o[j]?=σ p):(e3 s o)[j]?=s[p.toNat]?:=by
 have h1:=(h.2 j p a).1;unfold e3;rw[v8,a,Y3,u4,x7 (show p.toNat<s.length by omega)];rfl
theorem Mo{s o:Λ}(h:Good o n)(J:s.length=n){x:Int}(a:x∈e3 s o):x∈s:=by
 obtain⟨p,ac,rfl⟩:=j0.1 a;obtain⟨j,e,he⟩:=List.getElem_of_mem ac;have h1:=(h.2 j p (by rw[x7 e,he])).1;rw[u4,x7 (show p.toNat<s.length by omega)];exact Q4 _
theorem ca.Mp{s o:Λ}(a:ca s)(h:Good o n)(J:s.length=n):ca (e3 s o):=
 ⟨by rw[uc,h.1,<-J];exact a.1,λx e=>a.2 x (Mo h J e)⟩
theorem Mq{s o x:Λ}(h:Good o n)(J:s.length=n)(w:dt (e3 s o) x):dt s (oa o x):=by
 obtain⟨h1,y⟩:=pr.1 w;rw[uc,h.1]at h1;refine pr.2 ⟨by rw[Cp,h.1,J],λp a v e z=>?_⟩;have ac:p<n:=by have:=(x5.1 e).1;omega
 obtain⟨j,f⟩:=h.Co ac;have q:=Cs h J f;have r:=Cq h h1.symm f;rw[u6]at q r;exact y j a v (by rw[q,e]) (by rw[<-r,z])
def ps(s cs o:Λ):Λ:=(W3 (aQ (e3 s o)).toNat).map λ(q:Nat)=>br s cs (oa o (de (e3 s o) q))
theorem Ct(s cs o:Λ):(ps s cs o).length=(aQ (e3 s o)).toNat:=by simp[ps]
theorem xk{f:Int->Bool}{x:Int}:runN f (x::l)=if f x=ro then runN f l+1 else 0:=by
 unfold runN;rw[List.takeWhile_cons];by_cases h:f x=ro
 .rw[m3 h,m3 h,Z4]
 .rw[m5 h,m5 h];rfl
theorem xl(f:Int->Bool):∀l:Λ,l.dropWhile f=l.drop (runN f l)
 |[]=>rfl
 |x::l=>by
  rw[List.dropWhile_cons,xk];by_cases h:f x=ro
  .rw[m3 h,m3 h,xl f l];rfl
  .rw[m5 h,m5 h];rfl
theorem Cu(f:Int->Bool):∀l:Λ,l.takeWhile f=l.take (runN f l)
 |[]=>rfl
 |x::l=>by
  rw[List.takeWhile_cons,xk];by_cases h:f x=ro
  .rw[m3 h,m3 h,List.take_succ_cons,Cu f l]
  .rw[m5 h,m5 h];rfl
theorem Cv{f:Int->Bool}:∀{l:Λ}{b:Int}{q:Λ},l.dropWhile f=b::q->f b=rs
 |x::l,b,q,h=>by
  rw[List.dropWhile_cons]at h;by_cases a:f x=ro
  .rw[m3 a]at h;exact Cv h
  .rw[m5 a]at h;have:=(List.cons.inj h).1;subst this;cases e:f x
   .rfl
   .exact m6 e a
theorem xm{p:Λ}{a:Nat}{b:Int}{q:Λ}(h:p.drop a=b::q):p[a]?=σ b:=by
 have:=List.getElem?_drop (xs:=p) (i:=a) (j:=0);rw[h]at this;simpa using this.symm
theorem Mr(p:Λ)(at_:Nat):match qo p at_ with
  | .word a b=>lex (p.drop at_)=(((p.take b).drop a)::(lex (p.drop b)).1,(lex (p.drop b)).2)
  | .none=>lex (p.drop at_)=([],ro)
  | .text _=>lex (p.drop at_)=([],rs):=by
 have j:(p.drop at_).dropWhile cD=p.drop (gM p at_):=by rw[xl,List.drop_drop];rfl
 have s:(p.drop (gM p at_)).dropWhile bT=p.drop (kb p (gM p at_)):=by rw[xl,List.drop_drop];rfl
 have y:(p.drop (gM p at_)).takeWhile bT=(p.take (kb p (gM p at_))).drop (gM p at_):=by
  rw[Cu,List.drop_take];congr 1;unfold kb;omega
 have h:runN bT (p.drop (gM p at_))=kb p (gM p at_)-gM p at_:=by unfold kb;omega
 have K:gM p at_<=kb p (gM p at_):=by unfold kb;omega
 unfold qo;generalize gM p at_=a at*;generalize kb p a=b at*;by_cases h1:b<p.length/\(∀c,p[b]?=σ c->cD c=rs)
 .rw[m3 h1];simp only;rw[lN,j];cases e:p.drop a with
  |nil=>
   have:=List.drop_eq_nil_iff.1 e;omega
  |cons x q=>
   simp only;rw[e]at s y h;by_cases f:bT x=ro
   .rw[m3 f,s];cases w:p.drop b with
    |nil=>have:=List.drop_eq_nil_iff.1 w;omega
    |cons c r=>
     simp only;rw[h1.2 c (xm w)];rfl
   .rw[m5 f]
 .rw[m5 h1];by_cases z:a=b
  .rw[m3 z];simp only;subst z;rw[lN,j];cases e:p.drop a with
   |nil=>rfl
   |cons x q=>
    exfalso;have A:=xm e;have F:=(x5.1 A).1;rw[e]at h;rw[e]at j;have G:=Cv j;refine h1 ⟨F,λc B=>?_⟩;rw[A]at B;cases B;exact G
  .rw[m5 z];simp only;rw[lN (p.drop at_),j];cases e:p.drop a with
   |nil=>
    rw[e]at h;have:runN bT []=0:=rfl;omega
   |cons x q=>
    simp only;rw[e]at s y h;have f:bT x=ro:=by
     rw[xk]at h;by_cases f:bT x=ro
     .exact f
     .rw[m5 f]at h;omega
    rw[m3 f,s,y];cases w:p.drop b with
    |nil=>simp only;rw[lN []];rfl
    |cons c r=>
     simp only;have C:=xm w;have H:=(x5.1 C).1;have I:cD c=ro:=by
      cases J:cD c with
      |true=>rfl
      |false=>exact m6 ⟨H,λd E=>by rw[C]at E;cases E;exact J⟩ h1
     rw[m3 I]
def iP(w:x4)(g:Nat)(R:Nat->Prop)(d8:List (Λ))(e:Bool):Prop:=∃a p at_,nq w g a p at_ (-1)/\(∀r,lc a r->R r)/\lex (p.drop at_)=(d8,e)
theorem iP.V{g:Nat}{e:Bool}(h:iP w g R d8 e)(f:af S w I)(q:¬S g)(s:∀r,R r->¬S r):iP I g R d8 e:=by
 obtain⟨x,p,a,⟨h1,y,z,A,ba,B⟩,j,C⟩:=h;exact⟨x,p,a,⟨h1,y,z,A.V f q,ba,bs B f λr E=>s r (j r E)⟩,j,C⟩
theorem iP.words{g:Nat}{q:Bool}(h:iP w g R d8 q):d8.length<=100000/\∀t∈d8,Bytes t/\t≠[]/\t.length<=100000:=by
 obtain⟨x,p,a,⟨y,z,A,_⟩,_,f⟩:=h;have B:(p.drop a).length<=100000:=by rw[List.length_drop];omega
 have e:=rv _ (p.drop a) (p8 _);rw[f]at e;refine⟨by show d8.length<=_;have e:d8.length<=_:=e;omega,λt r=>?_⟩;have j:=tS _ (p.drop a) (p8 _) t (by rw[f];exact r);refine⟨λb s=>?_,j.1,Ω⟩;have:=rc (j.2.1 b s);omega
def Ms(w:x4)(g:Nat)(R:Nat->Prop)(d8:List (Λ))(a:Bool)(v:x1)(I:x4):Prop:=af (λr=>r=g) w I/\match d8 with
 |t::l=>iP I g R l a/\∃n:Int,v= .tuple #[b6 t,Δ n,Δ 0]
 |[]=>∃n:Int,v= .tuple #[b6 [],Δ n,Δ (if a then 2 else 11)]
theorem rJ{g:Nat}{z:Bool}(h:iP w g R d8 z):al x8 wF [Γ g] w (Ms w g R d8 z):=by
 obtain⟨A,p,a,h1,B,q⟩:=h;refine(LZ h1).Y ?_;intro v I _ hw;have e:=Mr p a;unfold rB at hw;cases r:qo p a with
 |word x y=>
  rw[r]at hw e;simp only at hw e;rw[q]at e;obtain⟨rfl,s,J⟩:=hw;obtain⟨f,j⟩:=Prod.mk.inj e;subst f j;exact⟨s,⟨A,p,y,J,B,rfl⟩,_,rfl⟩
 |none=>
  rw[r]at hw e;simp only at hw e;rw[q]at e;obtain⟨f,j⟩:=Prod.mk.inj e;subst f j;obtain⟨n,rfl,C⟩:=hw;exact⟨C.V _,_,rfl⟩
 |text b=>
  rw[r]at hw e;simp only at hw e;rw[q]at e;obtain⟨f,j⟩:=Prod.mk.inj e;subst f j;obtain⟨rfl,s,_⟩:=hw;exact⟨s,_,rfl⟩
def lQ(w:Λ):x1:=match gK w with
 |some n=>.tuple #[Δ n,Δ 0]
 |none=>.tuple #[Δ 0,Δ 4]
theorem Cw{i:Nat}{b:Int}(hi:l[i]?=σ b):(l.take (i+1)).all gJ=((l.take i).all gJ&&gJ b):=by
 rw[r8,hi,List.all_append];simp
theorem Cx{i:Nat}{b:Int}(hi:l[i]?=σ b):(l.take (i+1)).foldl fe 0=fe ((l.take i).foldl fe 0) b:=by
 rw[r8,hi,Q0];rfl
theorem Cy(a:l≠[])(h:l.all gJ=ro):lO l=σ (l.foldl fe 0):=by
 unfold lO;cases l with
 |nil=>exact m6 rfl a
 |cons x l=>simp only[h,if_true]
theorem Cz{i:Nat}{b:Int}(hi:l[i]?=σ b)(a:gJ b=rs):lO l=ν:=by
 unfold lO;cases l with
 |nil=>simp at hi
 |cons x l=>
  simp only;rw[m5];intro h;have:=List.all_eq_true.1 h b (x6 hi);rw[a]at this;cases this
def qu(w l:Λ)(s:Int):Prop:=(s=1\/s= -1)/\gK w=(lO l).map λn=>s*n
theorem CA:qu (45::l) l (-1):=⟨.inr rfl,by simp only[gK];congr 1;funext n;omega⟩
theorem CB{w:Λ}(h:∀b,w[0]?=σ b->b≠45):qu w w 1:=⟨.inl rfl,by
 have e:gK w=lO w:=by
  unfold gK;cases w with
  |nil=>rfl
  |cons x l=>
   have:=h x rfl;split
   .rename_i e0 he;exact m6 (List.cons.inj he).1 this
   .rfl
 rw[e];cases lO w with
 |none=>rfl
 |some n=>simp⟩
theorem ud{w:Λ}{s:Int}(h:qu w l s)(a:lO l=ν):lQ w= .tuple #[Δ 0,Δ 4]:=by
 unfold lQ;rw[h.2,a];rfl
theorem CC{w:Λ}{s n:Int}(h:qu w l s)(a:lO l=σ n):lQ w= .tuple #[Δ (s*n),Δ 0]:=by
 unfold lQ;rw[h.2,a];rfl
theorem Mt(B:Bytes l)(L:l.length<=100000):al x8 JF [b6 l] w λv I=>v=lQ l/\Ext w I:=by
 refine aB func171 ?_;rw[LI];refine jv (λS V U=>Ext w U/\∃(m:Λ)(s:Int),S=b6 m/\V=Δ s/\Bytes m/\m.length<=100000/\qu l m s) ?_ ?_
 .rintro _ _ U ⟨H,m,s,rfl,rfl,J,ag,C⟩;rw[BO J (λb a=>by cases a),ak];refine⟨λe=>⟨by rw[ud C (by rw[e];rfl)],H⟩,λe=>?_⟩;refine w8 c6.u cQ.u cK.u J Ω λbv aa M N _=>?_;rw[aY cQ.u N];refine ra.range m.length (λi _ _ c E=>Ext aa E/\c=Δ ((m.take i).foldl fe 0)/\(m.take i).all gJ=ro) Ω ⟨Ext.refl _,rfl,rfl⟩ ?_ ?_
  .rintro i W t3 _ E X hi ⟨f,rfl,j⟩ Y;obtain⟨b,q⟩:=aF (l:=m) hi;have ah:=J b (x6 q);refine bI Ω ?_;refine BK (λ_ _ c G=>Ext aa G/\c=Δ ((m.take (i+1)).foldl fe 0)/\(m.take (i+1)).all gJ=ro) ?_ ?_
   .rintro ai aj c G Z;rw[aO];exact Y _ _ _ _ Z
   intro ay p;rw[bi cQ.u cK.i Ψ (N.W f) q];refine aV (λv G=>E=G/\v= .bool (!gJ b)) ?_ ?_
   rotate_left
   .intro ab z;rw[aR,ak];refine⟨λh=>z _ _ ⟨rfl,by unfold gJ;rw[ms Ω];rfl⟩,λh=>?_⟩;rw[bO];refine z _ _ ⟨rfl,?_⟩;unfold gJ;congr 1;by_cases O:57<b
    .rw[m7 O,ms Ω];rfl
    .rw[ms O,m7 Ω];rfl
   rintro _ _ ⟨rfl,rfl⟩;cases K:gJ b with
   |false=>
    rw[W7,bH];exact⟨by rw[ud C (Cz q K)],(H.F M).F f⟩
   |true=>
    rw[X1,aX];have am:=rc K;have A:=tT j ⟨S8 _,Φ⟩;rw[Cx q,Cw q,j,K]at p;generalize (m.take i).foldl fe 0=n at*;have A:=A;rw[dp,wrap_u8 Ω Ω,fB cK.u au.u,li Ω Ω,dp,li Ω Ω,o1 Φ,Int.tdiv_eq_ediv_of_nonneg Ω];rw[li Ω Ω,bO,ak];refine⟨λac=>p _ _ _ _ ⟨f,?_,rfl⟩,λac=>?_⟩
    .congr 1;unfold fe az;omega
    .rw[gW,li Ω Ω,aO,li Ω Ω];refine p _ _ _ _ ⟨f,?_,rfl⟩;congr 1;unfold fe az;omega
  .rintro W t3 _ E X ⟨f,rfl,j⟩;rw[o6]at j ⊢;refine cc Ω ?_;have A:=tT j ⟨S8 _,Φ⟩;have A:0<=m.foldl fe 0/\m.foldl fe 0<=4611686018427387904:=A;rw[gW];have hw:W6.wrap (s*m.foldl fe 0)=s*m.foldl fe 0:=by
    rcases C.1 with rfl|rfl<;>exact li Ω Ω
   rw[hw];exact⟨by rw[CC C (Cy e j)],(H.F M).F f⟩
 .intro ay p;refine aV (λv aa=>w=aa/\∃c:Bool,v= .bool c/\(c=ro↔l[0]?=σ 45)) ?_ ?_
  .rintro _ _ ⟨rfl,c,rfl,P⟩;rw[bY];refine⟨λad=>?_,λQ=>?_⟩
   .intro an ae _ _;have R:=P.1 ad;cases l with
    |nil=>simp at R
    |cons x r=>
     have af:x=45:=by simpa using R
     subst af;rw[BP (y:=1) (i:=1) rfl c6.u Ξ];exact p _ _ _ ⟨ae,r,-1,rfl,rfl,λb a=>B b (.tail _ a),by simp at L;omega,CA⟩
   .refine p _ _ _ ⟨Ext.refl _,l,1,rfl,rfl,B,L,CB λb a he=>?_⟩;subst he;rw[P.2 a]at Q;cases Q
  .intro ab z;rw[LM B (λb a=>by cases a),ak];refine⟨λe=>?_,λe=>z _ _ ⟨rfl,rs,rfl,⟨λh=>(by cases h),λh=>by rw[X5.1 e]at h;simp at h⟩⟩⟩;cases l with
   |nil=>exact m6 rfl e
   |cons x r=>
    rw[ry (y:=0) (b:=x) rfl c6.u B rfl,bk];exact z _ _ ⟨rfl,_,rfl,Ξ⟩
theorem ue{s s':aJ}{w:Λ}(h:dY s=σ (w,s')):s.d8=w::s'.d8/\s'={s with d8:=s'.d8}:=by
 unfold dY at h;cases a:s.d8 with
 |nil=>rw[a]at h;cases h
 |cons x l=>
  rw[a]at h;simp only[X4,S7]at h;obtain⟨rfl,rfl⟩:=h;exact⟨rfl,rfl⟩
theorem jl{n:Int}{s s':aJ}(h:bl lo hi s=σ (n,s')):(lo<=n/\n<=hi)/\(∃w,s.d8=w::s'.d8/\gK w=σ n)/\s'={s with d8:=s'.d8}:=by
 unfold bl at h;cases hw:dY s with
 |none=>rw[hw]at h;cases h
 |some q=>
  obtain⟨w,s1⟩:=q;rw[hw]at h;simp only at h;obtain⟨h1,e⟩:=ue hw;cases a:gK w with
  |none=>rw[a]at h;cases h
  |some m=>
   rw[a]at h;simp only at h;split at h
   .rename_i f;simp only[X4,S7]at h;obtain⟨rfl,rfl⟩:=h;exact⟨f,⟨w,h1,a⟩,e⟩
   .cases h
def jE(k:Nat)(s s':aJ):Prop:=s.d8.length=s'.d8.length+k/\s'={s with d8:=s'.d8}
theorem jE.refl(s:aJ):jE 0 s s:=⟨rfl,rfl⟩
theorem jE.F{a b:Nat}{r s t:aJ}(h:jE a r s)(k:jE b s t):jE (a+b) r t:=⟨by have:=h.1;have:=k.1;omega,by rw[k.2,h.2]⟩
theorem dH{n:Int}{s s':aJ}(h:bl lo hi s=σ (n,s')):jE 1 s s':=by
 obtain⟨_,⟨w,h1,_⟩,a⟩:=jl h;exact⟨by rw[h1];simp,a⟩
theorem jE.eqs{k:Nat}{s s':aJ}(h:jE k s s'):s'.m1=s.m1/\s'.big=s.big/\s'.m2=s.m2:=by rw[h.2];exact⟨rfl,rfl,rfl⟩
theorem lR{α:Type}{f:List α->aJ->Option (α×aJ)}(e:List α->aJ->Prop)(r:∀acc s a s',e acc s->f acc s=σ (a,s')->e (acc++[a]) s'):
  ∀(n:Nat)(acc:List α)(s:aJ)(l:List α)(s':aJ),e acc s->cT f n acc s=σ (l,s')->e l s'/\l.length=acc.length+n
 |0,acc,s,l,s',j,h=>by
  simp only[cT,X4,S7]at h;obtain⟨rfl,rfl⟩:=h;exact⟨j,Ω⟩
 |n+1,acc,s,l,s',j,h=>by
  simp only[cT]at h;cases p:f acc s with
  |none=>rw[p]at h;cases h
  |some q=>
   obtain⟨a,s1⟩:=q;rw[p]at h;have:=lR e r n _ _ _ _ (r _ _ _ _ j p) h;exact⟨this.1,by rw[this.2];simp;omega⟩
theorem xn{n:Int}{k:Nat}{s s':aJ}(h:ff n k s=σ (l,s')):jE l.length s s'/\l.length=k/\l.Nodup/\∀v∈l,0<=v/\v<n:=by
 have:=lR (λacc t=>jE acc.length s t/\acc.Nodup/\∀v∈acc,0<=v/\v<n) (λacc t a bn ⟨h1,p,r⟩ h=>by
  cases f:bl 0 (n-1) t with
  |none=>rw[f]at h;cases h
  |some q=>
   obtain⟨v,A⟩:=q;rw[f]at h;simp only at h;split at h
   .cases h
   .rename_i w;simp only[X4,S7]at h;obtain⟨rfl,rfl⟩:=h;have B:=(jl f).1;refine⟨by rw[r9];exact h1.F (dH f),List.nodup_append.2 ⟨p,Ξ,λx e y j he=>?_⟩,λx e=>?_⟩
    .rw[j6]at j;subst j;subst he;exact w e
    .rcases j4.1 e with e|e
     .exact r x e
     .rw[j6.1 e];omega) k [] s l s' ⟨jE.refl s,List.nodup_nil,λv z=>by cases z⟩ h
 exact⟨this.1.1,by simpa using this.2,this.1.2.1,this.1.2.2⟩
theorem xo:∀{e acc:Λ}{s s':aJ}{t:Λ},kC e acc s=σ (t,s')->∃u,t=acc++u/\dt e u/\jE u.length s s'
 |[],acc,s,s',t,h=>by
  simp only[kC,X4,S7]at h;obtain⟨rfl,rfl⟩:=h;exact⟨[],Ξ,Ck.2 rfl,jE.refl s⟩
 |k::e,acc,s,s',t,h=>by
  simp only[kC]at h;cases a:bl 0 (k-1) s with
  |none=>rw[a]at h;cases h
  |some q=>
   obtain⟨v,s1⟩:=q;rw[a]at h;obtain⟨u,rfl,hu,f⟩:=xo h;have j:=(jl a).1;exact⟨v::u,Ξ,Cj.2 ⟨Ω,hu⟩,by rw[Z4,Nat.add_comm];exact(dH a).F f⟩
def ob(co:Λ)(l:List (Λ×Int)):Prop:=(l.map (·.1)).Nodup/\∀p∈l,dt co p.1/\0<=p.2
theorem qv{acc:List (Λ×Int)}{s s':aJ}{a:Λ×Int}(h:eN co acc s=σ (a,s')):a.1∉acc.map (·.1)/\dt co a.1/\0<=a.2/\jE (a.1.length+1) s s':=by
 unfold eN at h;cases f:kC co [] s with
 |none=>rw[f]at h;cases h
 |some q=>
  obtain⟨t,s1⟩:=q;rw[f]at h;simp only at h;obtain⟨u,hu,j,p⟩:=xo f;rw[List.nil_append]at hu;subst hu;cases e:bl 0 az s1 with
  |none=>rw[e]at h;cases h
  |some q=>
   obtain⟨c,w⟩:=q;rw[e]at h;simp only at h;split at h
   .cases h
   .rename_i r;simp only[X4,S7]at h;obtain⟨rfl,rfl⟩:=h;exact⟨r,j,(jl e).1.1,p.F (dH e)⟩
structure CD(s s':aJ):Prop where
 d8:s'.d8.length<s.d8.length
 big:s.big=ro->s'.big=ro
theorem Mu{s s':aJ}{l:List (Λ×Int)}(A:∀q∈s.m2,ob q.1 q.2/\q.2.length<=N)(M:s.d8.length<=N)(h:dZ co s=σ (l,s')):
  ob co l/\l.length<=N/\s'.m2=s.m2/\CD s s':=by
 unfold dZ at h;cases f:bl (-az) az s with
 |none=>rw[f]at h;cases h
 |some q=>
  obtain⟨n,s1⟩:=q;rw[f]at h;simp only at h;have h1:=dH f;obtain⟨O,B,j⟩:=h1.eqs;split at h
  .cases J:s1.m2[(-n-1).toNat]? with
   |none=>rw[J]at h;cases h
   |some q=>
    obtain⟨z,e0⟩:=q;rw[J]at h;simp only at h;split at h
    .rename_i F;simp only[X4,S7]at h;obtain⟨rfl,rfl⟩:=h;subst F;have hm:=x6 J;rw[j]at hm;exact⟨(A _ hm).1,(A _ hm).2,j,by have:=h1.1;omega,λe=>by rw[B];exact e⟩
    .cases h
  .have:=lR (λacc t=>ob co acc/\t.m2=s.m2/\t.d8.length+acc.length<=s1.d8.length/\(s.big=ro->t.big=ro)) (λacc t a bn ⟨g1,r,G,w⟩ g=>by
    obtain⟨H,I,K,C⟩:=qv g;obtain⟨f1,f2,f3⟩:=C.eqs;refine⟨⟨?_,λp ac=>?_⟩,by rw[f3,r],by have:=C.1;simp only[r9,U2];omega,λe=>by rw[f2];exact w e⟩
    .rw[Z5];exact List.nodup_append.2 ⟨g1.1,Ξ,λx L y E he=>by
      simp only[T3,List.map_nil,j6]at E;subst E;subst he;exact H L⟩
    .rcases j4.1 ac with ac|ac
     .exact g1.2 p ac
     .rw[j6.1 ac];exact⟨I,K⟩) n.toNat [] (bj (decide (16384<min (s1.m1+n) az)) {s1 with m1:=min (s1.m1+n) az}) l s' ⟨⟨Ξ,λp ac=>by cases ac⟩,j,by simp[bj],λe=>by simp[bj,B,e]⟩ h
   obtain⟨⟨g1,r,G,w⟩,_⟩:=this;have:=h1.1;exact⟨g1,Ω,r,⟨Ω,w⟩⟩
structure uf(all:Λ)(N:Nat)(f:cA):Prop where
 scope:f.scope.Nodup/\∀v∈f.scope,0<=v/\v<all.length
 co:f.co=f.scope.map λv=>all.getD v.toNat 0
 other:0<=f.other
 lines:ob f.co f.lines
 len:f.lines.length<=N
theorem Mv{all:Λ}{s s':aJ}{f:cA}(B:∀q∈s.m2,ob q.1 q.2/\q.2.length<=N)(V:s.d8.length<=N)(h:dq all s=σ (f,s')):
  uf all N f/\(∀q∈s'.m2,ob q.1 q.2/\q.2.length<=N)/\CD s s'/\(s'.big=rs->f.scope.length<=6/\dy f.co=rs):=by
 unfold dq at h;cases C:bl (-az) az s with
 |none=>rw[C]at h;cases h
 |some q=>
 obtain⟨a,s1⟩:=q;rw[C]at h;simp only at h;have t0:=dH C;obtain⟨W,M,O⟩:=t0.eqs;cases h1:ff all.length a.natAbs s1 with
 |none=>rw[h1]at h;cases h
 |some q=>
 obtain⟨sc,w⟩:=q;rw[h1]at h;simp only at h;obtain⟨F,X,P,Q⟩:=xn h1;obtain⟨Y,R,S⟩:=F.eqs;generalize T:sc.map (λv=>all.getD v.toNat 0)=co at h;cases y:bl 0 az (bj (decide (6<a.natAbs)||dy co) w)with
 |none=>rw[y]at h;cases h
 |some q=>
 obtain⟨other,p⟩:=q;rw[y]at h;simp only at h;have G:=dH y;obtain⟨Z,z,x⟩:=G.eqs;have x:p.m2=s.m2:=by rw[x];show w.m2=_;rw[S,O]
 have aa:p.d8.length<s.d8.length:=by
  have:=t0.1;have:=F.1;have A:=G.1;have:(bj (decide (6<a.natAbs)||dy co) w).d8.length=w.d8.length:=rfl;omega
 cases A:dZ co p with
 |none=>rw[A]at h;cases h
 |some q=>
 obtain⟨lines,j⟩:=q;rw[A]at h;simp only[X4,S7]at h;obtain⟨rfl,rfl⟩:=h;obtain⟨g1,H,I,J⟩:=Mu (by rw[x];exact B) Ω A;have U:=J.big;have gt:=J.d8;have K:p.big=ro->∀E:aJ,E=(if a<0 then{j with m2:=j.m2++[(co,lines)]}else j)->E.big=ro:=λr E he=>by
  rw[he];split<;>exact U r
 have z:p.big=(s.big||(decide (6<a.natAbs)||dy co)):=by
  rw[z];show(w.big||_)=_;rw[R,M]
 refine⟨⟨⟨P,Q⟩,T.symm,(jl y).1.1,g1,H⟩,λq e=>?_,⟨?_,λr=>K (by rw[z,r];rfl) _ rfl⟩,λr=>?_⟩
 .split at e
  .rcases j4.1 e with e|e
   .rw[show j.m2=s.m2 by rw[I,x]]at e;exact B q e
   .rw[j6.1 e];exact⟨g1,H⟩
  .rw[show j.m2=s.m2 by rw[I,x]]at e;exact B q e
 .have:(if a<0 then{j with m2:=j.m2++[(co,lines)]}else j).d8=j.d8:=by split<;>rfl
  rw[this];omega
 .have L:p.big=rs:=by
   cases e:p.big with
   |false=>rfl
   |true=>rw[K e _ rfl]at r;cases r
  rw[z,U4,U4,decide_eq_false_iff_not]at L;show sc.length<=6/\_;exact⟨Ω,L.2.2⟩
structure fp(N:Nat)(f:b5):Prop where
 name:f.name.length<=64
 k:1<=f.k/\f.k<=2147483648
 co:1<=f.co.length/\f.co.length<=64/\∀z∈f.co,1<=z/\z<=32
 mw:f.d7.length<=256
 d7:∀x∈f.d7,uf f.co N x/\x.scope.length<=6/\dy x.co=rs
theorem rK{b:Bool}{s:aJ}(h:(bj b s).big=rs):s.big=rs/\b=rs:=by
 have h:(s.big||b)=rs:=h;exact U4.1 h
theorem Mw{a b:aJ}(h:a.big=ro->b.big=ro)(e:b.big=rs):a.big=rs:=by
 cases f:a.big with
 |false=>rfl
 |true=>rw[h f]at e;cases e
theorem CE{s s':aJ}{f:b5}(J:s.m2=[])(h:jA s=σ (f,s'))(e:s'.big=rs):fp s.d8.length f/\f.name∈s.d8:=by
 unfold jA at h;cases K:dY s with
 |none=>rw[K]at h;cases h
 |some q=>
 obtain⟨name,s0⟩:=q;rw[K]at h;simp only at h;obtain⟨U,aa⟩:=ue K;cases h1:bl 1 az (bj (decide (64<name.length)) s0)with
 |none=>rw[h1]at h;cases h
 |some q=>
 obtain⟨n,s1⟩:=q;rw[h1]at h;simp only at h;have r:=dH h1;cases L:bl 1 az (bj (decide (64<n)) s1)with
 |none=>rw[L]at h;cases h
 |some q=>
 obtain⟨most,Y⟩:=q;rw[L]at h;simp only at h;have M:=dH L;cases N:bl 0 az Y with
 |none=>rw[N]at h;cases h
 |some q=>
 obtain⟨E,F⟩:=q;rw[N]at h;simp only at h;have t3:=dH N;cases G:bl 1 az (bj (decide (256<E)) F)with
 |none=>rw[G]at h;cases h
 |some q=>
 obtain⟨k,A⟩:=q;rw[G]at h;simp only at h;have t4:=dH G;cases O:cT (gL most) n.toNat [] (bj (decide (2147483648<k)) A)with
 |none=>rw[O]at h;cases h
 |some q=>
 obtain⟨co,H⟩:=q;rw[O]at h;simp only at h;cases P:cT (λ_ s=>dq co s) E.toNat [] H with
 |none=>rw[P]at h;cases h
 |some q=>
 obtain⟨d7,Z⟩:=q;rw[P]at h;simp only[X4,S7]at h;obtain⟨rfl,rfl⟩:=h;have ab:=lR (λ(acc:Λ)t=>t.m2=[]/\t.d8.length<=s.d8.length/\(t.big=rs->A.big=rs/\k<=2147483648/\∀z∈acc,1<=z/\z<=32)) (λacc t a bn ⟨g1,T,Q⟩ g=>by
  unfold gL at g;cases w:bl 1 most t with
  |none=>rw[w]at g;cases g
  |some q=>
   obtain⟨z,r⟩:=q;rw[w]at g;simp only[X4,S7]at g;obtain⟨rfl,rfl⟩:=g;have V:=dH w;obtain⟨aA,ac,ad⟩:=V.eqs;have aB:=(jl w).1;refine⟨by show r.m2=[];rw[ad,g1],by show r.d8.length<=_;have:=V.1;omega,λe=>?_⟩;obtain⟨j,B⟩:=rK e;rw[ac]at j;obtain⟨R,S,ae⟩:=Q j;refine⟨R,S,λy C=>?_⟩;rcases j4.1 C with C|C
   .exact ae y C
   .rw[j6.1 C];have:=of_decide_eq_false B;omega) n.toNat [] (bj (decide (2147483648<k)) A) co H ⟨by
     show A.m2=[];rw[t4.eqs.2.2];show F.m2=[];rw[t3.eqs.2.2,M.eqs.2.2];show s1.m2=[];rw[r.eqs.2.2];show s0.m2=[];rw[aa];exact J,by
     show A.d8.length<=_;have af:=r.1;have ag:=M.1;have a3:=t3.1;have a4:=t4.1;have j:(bj (decide (64<name.length)) s0).d8=s0.d8:=rfl;have B:(bj (decide (64<n)) s1).d8=s1.d8:=rfl;have I:(bj (decide (256<E)) F).d8=F.d8:=rfl;rw[j]at af;rw[B]at ag;rw[I]at a4;rw[U,Z4];omega,λe=>by
     obtain⟨j,B⟩:=rK e;have:=of_decide_eq_false B;exact⟨j,Ω,λz ah=>by cases ah⟩⟩ O
 obtain⟨⟨ai,aj,ak⟩,al⟩:=ab;have am:=lR (λ(acc:List cA)t=>(∀q∈t.m2,ob q.1 q.2/\q.2.length<=s.d8.length)/\t.d8.length<=s.d8.length/\(t.big=rs->H.big=rs/\∀x∈acc,uf co s.d8.length x/\x.scope.length<=6/\dy x.co=rs)) (λacc t a bn ⟨g1,T,Q⟩ g=>by
  obtain⟨an,ao,W,ap⟩:=Mv g1 T g;refine⟨ao,by have:=W.d8;omega,λe=>?_⟩;obtain⟨R,S⟩:=Q (Mw W.big e);refine⟨R,λx p=>?_⟩;rcases j4.1 p with p|p
  .exact S x p
  .rw[j6.1 p];exact⟨an,ap e⟩) E.toNat [] H d7 Z ⟨(by rw[ai];intro q w;cases w),aj,λe=>⟨e,λx p=>by cases p⟩⟩ P
 obtain⟨⟨_,_,d3⟩,d4⟩:=am;obtain⟨aq,d5⟩:=d3 e;obtain⟨I,au,av⟩:=ak aq;rw[t4.eqs.2.1]at I;obtain⟨X,aw⟩:=rK I;rw[t3.eqs.2.1,M.eqs.2.1]at X;obtain⟨j,ax⟩:=rK X;rw[r.eqs.2.1]at j;obtain⟨_,ay⟩:=rK j;have:=of_decide_eq_false aw;have:=of_decide_eq_false ax;have:=of_decide_eq_false ay;have aC:=(jl h1).1;have hk:=(jl G).1;simp only[Q7,W0]at al d4;exact⟨⟨by show name.length<=64;omega,⟨hk.1,au⟩,⟨by show 1<=co.length;omega,by show co.length<=64;omega,av⟩,by show d7.length<=256;omega,d5⟩,by rw[U];exact .head _⟩
def k7(x:cA)(k:Int)(t:Λ):Int:=min (match x.lines.find? (λp=>decide (p.1=t))with
 |some p=>p.2
 |none=>x.other) k
def bx(l:Λ):Λ:=((W3 64).map λ(v:Nat)=>(v:Int)).filter λv=>decide (v∈l)
def b1(co scope:Λ):Λ:=scope.map λv=>co.getD v.toNat 0
def qw(scope a t:Λ):Λ:=scope.map λv=>t.getD (a.idxOf v) 0
abbrev cO:Type:=Λ×Λ
def jF(co:Λ)(k:Int)(x:cA):cO:=(bx x.scope,(bp (b1 co (bx x.scope))).map λt=>k7 x k (qw x.scope (bx x.scope) t))
def ez(k:Int)(a b:Λ):Λ:=List.zipWith (λx y=>min (x+y) k) a b
def jG(k:Int)(acc:List cO)(g:cO):List cO:=if g.1∈acc.map (·.1)then acc.map λh=>if h.1=g.1 then(h.1,ez k h.2 g.2)else h else acc++[g]
def kG:Λ->Int
 |[]=>0
 |x::l=>x*64 ^ l.length+kG l
def dk(l:Λ):Int:=l.length*64 ^ 6+kG l
def iQ(g:cO):List cO->List cO
 |[]=>[g]
 |h::l=>if dk h.1<dk g.1 then h::iQ g l else g::h::l
def fT(g:cO):Bool:=g.2.any λc=>decide (0<c)
def fU(f:b5):List cO:=(f.d7.map (jF f.co f.k)).foldl (jG f.k) []
def fV(f:b5):List cO:=((fU f).filter fT).foldl (λl g=>iQ g l) []
structure aI where
 k:Int
 co:Λ
 zero:Int
 unary:List (Λ)
 d7:List cO
deriving DecidableEq
def cP(f:b5):aI:=(fV f).foldl (λn g=>match g.1 with
 |[]=>{n with zero:=g.2.getD 0 0}
 |[v]=>{n with unary:=n.unary.set v.toNat g.2}
 |_=>{n with d7:=n.d7++[g]}) ⟨f.k,f.co,0,f.co.map λz=>o4 z.toNat 0,[]⟩
abbrev lS:Type:=Rd (Λ)×Rd (List (Λ×Int))
def bK(g gs:Nat)(A:ah):ah:=λr=>r=g\/r=gs\/A r
def jm(gs:Nat)(e big a f m1:Int)(sv:x1):List x1:=[Γ gs,Δ e,Δ big,Δ a,Δ f,Δ m1,sv]
def cS(g gs:Nat)(A:ah)(B:ah):ah:=λr=>¬bK g gs A r/\B r
def my(w:x4)(g gs:Nat)(A:ah)(B:ah):Prop:=g≠gs/\¬A g/\¬A gs/\(∀r,bK g gs A r->r<w.heap.size)/\∀r,B r->r<w.heap.size
def eo(w:x4)(g gs:Nat)(A:ah)(B:ah)(s:aJ)(a:Bool):Prop:=my w g gs A B/\iP w gs (cS g gs A B) s.d8 a/\(0<=s.m1/\s.m1<=az/\s.m2.length+s.d8.length<=100000)/\
 ∃big e f m1 sv,ag w g cB (jm gs 0 big e f m1 sv)/\((s.big=ro↔big≠0)/\(s.big=rs->m1=s.m1))/\bJ A (cS g gs A B) w [sv] (show List lS from s.m2)
def fg(w:x4)(g gs:Nat)(A:ah)(B:ah):Prop:=my w g gs A B/\∃(e big a f m1:Int)(sv:x1)(l:List lS),ag w g cB (jm gs e big a f m1 sv)/\(e≠0/\l.length<=100000)/\bJ A (cS g gs A B) w [sv] l
theorem my.V{g:Nat}{A:ah}{B:ah}(h:my w g gs A B)(e:af S w I):my I g gs A B:=by
 obtain⟨h1,f,j,p,q⟩:=h;exact⟨h1,f,j,λr a=>S3 (p r a) e.size,λr a=>S3 (q r a) e.size⟩
theorem CF{g:Nat}{A:ah}{B:ah}(a:∀r,A r->¬S r)(e:∀r,cS g gs A B r->¬S r):∀r,A r\/cS g gs A B r->¬S r:=λr h=>h.elim (a r) (e r)
theorem eo.V{g:Nat}{A:ah}{B:ah}{s:aJ}(h:eo w g gs A B s f)(a:af S w I)(e:∀r,bK g gs A r->¬S r)(j:∀r,cS g gs A B r->¬S r):eo I g gs A B s f:=by
 obtain⟨h1,p,q,big,x,y,m1,sv,z,C,E⟩:=h;exact⟨h1.V a,p.V a (e gs (.inr (.inl rfl))) j,q,big,x,y,m1,sv,z.V a (e g (.inl rfl)),C,av.V E a λr _ h=>CF (λr F=>e r (.inr (.inr F))) j r h⟩
theorem fg.V{g:Nat}{A:ah}{B:ah}(h:fg w g gs A B)(a:af S w I)(f:∀r,bK g gs A r->¬S r)(j:∀r,cS g gs A B r->¬S r):fg I g gs A B:=by
 obtain⟨h1,e,big,p,q,m1,sv,l,s,x,y⟩:=h;exact⟨h1.V a,e,big,p,q,m1,sv,l,s.V a (f g (.inl rfl)),x,av.V y a λr _ h=>CF (λr z=>f r (.inr (.inr z))) j r h⟩
theorem eo.W{g:Nat}{A:ah}{B:ah}{s:aJ}{a:Bool}(h:eo w g gs A B s a)(e:Ext w I):eo I g gs A B s a:=h.V (e.V λ_=>False) (λ_ _ h=>h) (λ_ _ h=>h)
theorem fg.W{g:Nat}{A:ah}{B:ah}(h:fg w g gs A B)(a:Ext w I):fg I g gs A B:=h.V (a.V λ_=>False) (λ_ _ h=>h) (λ_ _ h=>h)
def gk(w:x4)(g gs:Nat)(A:ah)(B:ah)(a:Bool)(s':Option aJ)(I:x4):Prop:=af (bK g gs A) w I/\match s' with
 |some s'=>eo I g gs A B s' a
 |none=>fg I g gs A B
theorem xp{g:Nat}{e big a f m1:Int}(h:ag w g cB (jm gs e big a f m1 sv)):al x8 mj [Γ g] w λv I=>v= .bool (decide (e=0))/\Ext w I:=by
 refine aB func113 ?_;rw[bL,aT cB.p rfl,aT fb.p rfl,aD Ψ (h.cell rfl),bk];exact⟨rfl,Ext.refl _⟩
theorem qx{g:Nat}{A:ah}{B:ah}{s:aJ}{a:Bool}(h:eo w g gs A B s a):al x8 mj [Γ g] w λv I=>v= .bool ro/\Ext w I:=by
 obtain⟨_,_,_,big,f,j,m1,sv,e,_⟩:=h;exact(xp e).Y λ_ _ _ h=>h
theorem pt{g:Nat}{A:ah}{B:ah}(h:fg w g gs A B):al x8 mj [Γ g] w λv I=>v= .bool rs/\Ext w I:=by
 obtain⟨_,e,big,p,q,m1,sv,l,a,f,_⟩:=h;refine(xp a).Y ?_;rintro _ U _ ⟨rfl,j⟩;exact⟨by rw[ms f.1],j⟩
theorem ug{g:Nat}{A B:ah}(h:A r\/cS g gs A B r)(a:¬A g):r≠g:=by
 rintro rfl;rcases h with h|h
 .exact a h
 .exact h.1 (.inl rfl)
theorem uh{g:Nat}{A:ah}{B:ah}{big x q m1 e:Int}{l:List lS}(J:my w g gs A B)(s:ag w g cB (jm gs 0 big x q m1 sv))(y:bJ A (cS g gs A B) w [sv] l)(he:e≠0)(z:l.length<=100000):
  al x8 oU [Γ g,Δ e,Δ at_] w λ_ I=>af (λr=>r=g) w I/\fg I g gs A B:=by
 refine aB func116 ?_;rw[bL,aT cB.p rfl,aT fb.p rfl,aD Ψ (s.cell rfl),bk,ak];refine⟨λ_=>?_,λh=>m6 rfl h⟩;rw[bL,aT cB.p rfl,aT fb.p rfl];refine bq (g:=g) (o:=1) kZ.i rfl rfl s (by simp[jm]) λU C H a=>?_;have a:=a;rw[bL,aT cB.p rfl,aT fb.p rfl];refine bq (g:=g) (o:=3) aj.i rfl rfl a (by simp[jm]) λaa E K f=>?_;have f:=f;have j:=C.F E;exact⟨j,J.V j,e,big,at_,q,m1,sv,l,f,⟨he,z⟩,av.V y j λr _ h G=>ug h J.2.1 G⟩
theorem ui{g:Nat}{A:ah}{B:ah}{s:aJ}{a:Bool}{e:Int}(h:eo w g gs A B s a)(he:e≠0):al x8 oU [Γ g,Δ e,Δ at_] w λ_ I=>af (λr=>r=g) w I/\fg I g gs A B:=by
 obtain⟨J,_,f,big,q,x,m1,sv,j,_,p⟩:=h;exact uh J j p he (by have:=f.2.2;show s.m2.length<=_;omega)
theorem Mx{g:Nat}{A:ah}{B:ah}{e:Int}(h:fg w g gs A B):al x8 oU [Γ g,Δ e,Δ at_] w λ_ I=>Ext w I:=by
 obtain⟨_,f,big,j,q,m1,sv,l,h1,a,_⟩:=h;refine aB func116 ?_;rw[bL,aT cB.p rfl,aT fb.p rfl,aD Ψ (h1.cell rfl),bk,ak];exact⟨λh=>m6 h a.1,λ_=>Ext.refl _⟩
theorem uj{g:Nat}{A:ah}{B:ah}{s:aJ}{y b:Bool}(h:eo w g gs A B s y):al x8 rl [Γ g,.bool b,Δ at_] w λ_ I=>af (λr=>r=g) w I/\eo I g gs A B (bj b s) y:=by
 obtain⟨J,z,C,big,E,K,m1,sv,e,G,H⟩:=id h;refine aB func111 ?_;refine aV (λv U=>w=U/\v= .bool (b&&decide (big=0))) ?_ ?_
 rotate_left
 .intro ay j;cases b with
  |false=>rw[aX];exact j _ _ ⟨rfl,rfl⟩
  |true=>
   rw[bH,bL,aT cB.p rfl,aT fb.p rfl,aD Ψ (e.cell rfl),bk,ak];refine⟨λa=>?_,λa=>j _ _ ⟨rfl,by rw[ms a];rfl⟩⟩;rw[bL,aT cB.p rfl,aT fb.p rfl,aD Ψ (e.cell rfl),bk];exact j _ _ ⟨rfl,by rw[m7 a];rfl⟩
 rintro _ _ ⟨rfl,rfl⟩;rw[bY];refine⟨λL=>?_,λM=>?_⟩
 .obtain⟨rfl,a⟩:=Bool.and_eq_true_iff.1 L;rw[bL,aT cB.p rfl,aT fb.p rfl];refine bq (g:=g) (o:=2) kZ.i rfl rfl e (by simp[jm]) λU N R q=>?_;have q:=q;rw[bL,aT cB.p rfl,aT fb.p rfl];refine bq (g:=g) (o:=4) aj.i rfl rfl q (by simp[jm]) λaa O S x=>?_;have x:=x;have f:=N.F O;exact⟨f,J.V f,z.V f (λhe=>J.1 he.symm) (λr P he=>P.1 (.inl he)),C,5,E,at_,m1,sv,x,⟨⟨λ_=>Ω,λ_=>by simp[bj]⟩,λh=>by simp[bj]at h⟩,av.V H f λr _ h Q=>ug h J.2.1 Q⟩
 .refine⟨af.refl _ _,J,z,C,big,E,K,m1,sv,e,⟨?_,λh=>G.2 (by
   have h:(s.big||b)=rs:=h;exact(U4.1 h).1)⟩,H⟩
  show(s.big||b)=ro↔big≠0;cases b with
  |false=>rw[Bool.or_false];exact G.1
  |true=>
   have a:=of_decide_eq_false (by simpa using M);simp[a]
theorem CG{g:Nat}{A:ah}{B:ah}{b:Bool}(h:fg w g gs A B):al x8 rl [Γ g,.bool b,Δ at_] w λ_ I=>Ext w I:=by
 obtain⟨_,j,big,q,r,m1,sv,l,h1,e,_⟩:=h;refine aB func111 ?_;refine aV (λv U=>w=U/\v= .bool rs) ?_ ?_
 .rintro _ _ ⟨rfl,rfl⟩;rw[aX];exact Ext.refl _
 intro ay a;cases b with
 |false=>rw[aX];exact a _ _ ⟨rfl,rfl⟩
 |true=>
  rw[bH,bL,aT cB.p rfl,aT fb.p rfl,aD Ψ (h1.cell rfl),bk,ak];refine⟨λf=>?_,λf=>a _ _ ⟨rfl,rfl⟩⟩;rw[bL,aT cB.p rfl,aT fb.p rfl,aD Ψ (h1.cell rfl),bk];exact a _ _ ⟨rfl,by rw[ms e.1]⟩
theorem eo.scan{g:Nat}{A:ah}{B:ah}{s:aJ}{a:Bool}{l:List (Λ)}(h:eo w g gs A B s a)(e:af (λr=>r=gs) w I)(J:iP I gs (cS g gs A B) l a)(C:l.length<=s.d8.length):eo I g gs A B {s with d8:=l} a:=by
 obtain⟨h1,_,f,big,p,q,m1,sv,x,y,z⟩:=h;refine⟨h1.V e,J,⟨f.1,f.2.1,by have:=f.2.2;show s.m2.length+l.length<=100000;omega⟩,big,p,q,m1,sv,x.V e h1.1,y,av.V z e λr _ h j=>?_⟩;have j:r=gs:=j;subst j;rcases h with h|h
 .exact h1.2.2.1 h
 .exact h.1 (.inr (.inl rfl))
theorem CH{g:Nat}{A:ah}{B:ah}{s:aJ}{z:Bool}(h:eo w g gs A B s z):al x8 AM [Γ g] w λv I=>gk w g gs A B z ((dY s).map (·.2)) I/\∃(t:Λ)(n:Int),v= .tuple #[b6 t,Δ n]/\Bytes t/\t.length<=100000/\∀q,dY s=σ q->t=q.1:=by
 refine aB func110 ?_;refine(qx h).Y ?_;rintro _ U _ ⟨rfl,L⟩;rw[bC,X1,aX];have h1:=h.W L;obtain⟨_,M,_,big,P,Q,m1,sv,C,_⟩:=id h1;have R:=M.words.2;rw[aG cB.p 0 C rfl];refine(rJ M).Y ?_;rintro v aa _ ⟨j,y⟩;have N:af (bK g gs A) w aa:=(L.V _).F (j.Y λr _ h=>.inr (.inl h));cases f:s.d8 with
 |cons t l=>
  rw[f]at y;obtain⟨S,n,rfl⟩:=y;have W:=h1.scan j S (by rw[f];simp);have E:dY s=σ (t,{s with d8:=l}):=by unfold dY;rw[f]
  have O:=R t (by rw[f];exact .head _);rw[fQ,fR,fS];refine aV (λv G=>aa=G/\v=Δ 0) ?_ ?_
  .rintro _ _ ⟨rfl,rfl⟩;refine cW (λx=>aa=x) ?_ ?_
   .rintro _ rfl;rw[E];exact⟨⟨N,W⟩,t,n,rfl,O.1,O.2.2,λq H=>by cases H;rfl⟩
   .intro ay a;rw[bF,ak];exact⟨λh=>m6 rfl h,λ_=>a _ rfl⟩
  .intro ay a;rw[bk,ak];exact⟨λh=>Ω,λ_=>a _ _ ⟨rfl,rfl⟩⟩
 |nil=>
  rw[f]at y;obtain⟨n,rfl⟩:=y;have E:dY s=ν:=by unfold dY;rw[f]
  obtain⟨J,_,X,big,P,Q,m1,sv,C,ag,Y⟩:=id h1;have Z:=C.V j J.1;have ab:=av.V Y j λr _ h K=>by
   have K:r=gs:=K;subst K;rcases h with h|h
   .exact J.2.2.1 h
   .exact h.1 (.inr (.inl rfl))
  rw[fQ,fR,fS];refine aV (λv G=>aa=G/\∃e:Int,v=Δ e/\e≠0) ?_ ?_
  .rintro _ _ ⟨rfl,e,rfl,he⟩;refine cW (λx=>af (λr=>r=g) aa x/\fg x g gs A B) ?_ ?_
   .rintro x ⟨ac,ad⟩;rw[E];exact⟨⟨N.F (ac.Y λr _ h=>.inl h),ad⟩,[],n,rfl,λb ae=>(by cases ae),Ξ,λq H=>by cases H⟩
   .intro ay a;rw[bF,ak];refine⟨λ_=>?_,λh=>m6 he h⟩;exact(uh (J.V j) Z ab he (by have:=X.2.2;show s.m2.length<=_;omega)).Y λ_ I _ h=>a _ h
  .intro ay a;rw[bk,ak];cases z with
   |true=>exact⟨λ_=>a _ _ ⟨rfl,4,rfl,Ω⟩,λh=>m6 rfl h⟩
   |false=>exact⟨λh=>by simp at h,λ_=>a _ _ ⟨rfl,11,rfl,Ω⟩⟩
theorem My{g:Nat}{A:ah}{B:ah}(h:fg w g gs A B):al x8 AM [Γ g] w λv I=>Ext w I/\v= .tuple #[b6 [],Δ 0]:=by
 refine aB func110 ?_;refine(pt h).Y ?_;rintro _ U _ ⟨rfl,a⟩;rw[bC,W7,bH];exact⟨a,rfl⟩
theorem xq{g:Nat}{A:ah}{B:ah}{s:aJ}{y:Bool}(h:eo w g gs A B s y):al x8 oT [Γ g,Δ lo,Δ hi] w λv I=>gk w g gs A B y ((bl lo hi s).map (·.2)) I/\∃n at_:Int,v= .tuple #[Δ n,Δ at_]/\(∀q,bl lo hi s=σ q->n=q.1)/\(bl lo hi s=ν->n=0):=by
 refine aB func112 ?_;refine(CH h).Y ?_;rintro _ U _ ⟨⟨z,f⟩,t,n,rfl,H,J,hw⟩;rw[bu,bw];cases j:dY s with
 |none=>
  have a:bl lo hi s=ν:=by unfold bl;rw[j]
  rw[j]at f;have f:=f;refine(pt f).Y ?_;rintro _ aa _ ⟨rfl,p⟩;rw[bC,W7,bH,a];exact⟨⟨z.F (p.V _),f.W p⟩,0,n,rfl,λq h=>(by cases h),λ_=>rfl⟩
 |some q=>
  obtain⟨bn,s1⟩:=q;have:=hw _ j;subst this;rw[j]at f;have f:=f;refine(qx f).Y ?_;rintro _ aa _ ⟨rfl,p⟩;rw[bC,X1,aX];refine(Mt H J).Y ?_;rintro _ K _ ⟨rfl,C⟩;have E:=(f.W p).W C;have G:=(z.F (p.V _)).F (C.V _);obtain⟨m,e,L,hm⟩:∃m e:Int,lQ t= .tuple #[Δ m,Δ e]/\((gK t=σ m/\e=0)\/(gK t=ν/\e=4)):=by
   unfold lQ;cases P:gK t with
   |none=>exact⟨0,4,rfl,.inr ⟨rfl,rfl⟩⟩
   |some m=>exact⟨m,0,rfl,.inl ⟨rfl,rfl⟩⟩
  rw[L,bu,bw];refine aV (λv M=>K=M/\v= .bool (bl lo hi s).isNone) ?_ ?_
  .rintro _ _ ⟨rfl,rfl⟩;cases a:bl lo hi s with
   |none=>
    rw[Option.isNone_none,bH];refine(ui E Ω).Y ?_;rintro _ Q _ ⟨N,O⟩;exact⟨⟨G.F (N.Y λr _ h=>.inl h),O⟩,0,n,rfl,λq h=>(by cases h),λ_=>rfl⟩
   |some q=>
    rw[Z3,aX];unfold bl at a;rw[j]at a;simp only at a;rcases hm with⟨hm,_⟩|⟨hm,_⟩
    .rw[hm]at a;simp only at a;split at a
     .cases a;exact⟨⟨G,E⟩,m,n,rfl,λq h=>(by cases h;rfl),λh=>(by cases h)⟩
     .cases a
    .rw[hm]at a;cases a
  .intro ay x;have a:bl lo hi s=match gK t with
     |none=>ν
     |some n=>if lo<=n/\n<=hi then σ (n,s1)else ν:=by
    unfold bl;rw[j];simp only;cases gK t<;>rfl
   rw[bF,ak];rcases hm with⟨hm,rfl⟩|⟨hm,rfl⟩
   .rw[hm]at a;simp only at a;refine⟨λh=>m6 rfl h,λ_=>?_⟩;rw[aR,ak];refine⟨λh=>x _ _ ⟨rfl,by rw[a,m5 Ω];rfl⟩,λh=>?_⟩;rw[bO];refine x _ _ ⟨rfl,?_⟩;rw[a];by_cases ao:hi<m
    .rw[m7 ao,m5 Ω];rfl
    .rw[ms ao,m3 Ω];rfl
   .rw[hm]at a;exact⟨λ_=>x _ _ ⟨rfl,by rw[a];rfl⟩,λh=>m6 (by omega:(4:Int)≠0) h⟩
theorem Mz{g:Nat}{A:ah}{B:ah}(h:fg w g gs A B):al x8 oT [Γ g,Δ lo,Δ hi] w λv I=>Ext w I/\v= .tuple #[Δ 0,Δ 0]:=by
 refine aB func112 ?_;refine(My h).Y ?_;rintro _ U _ ⟨a,rfl⟩;rw[bu,bw];refine(pt (h.W a)).Y ?_;rintro _ aa _ ⟨rfl,e⟩;rw[bC,W7,bH];exact⟨a.F e,rfl⟩
theorem MA{x:Int}(h:aM .i64 w sv l):al x8 KE [sv,Δ x] w λv I=>Ext w I/\∃r:Int,v=Δ r/\(0<=r↔x∈l):=by
 refine aB func264 ?_;rw[aY ax.u h];refine cb.range l.length (λi _ U=>Ext w U/\x∉l.take i) h.le ⟨Ext.refl _,Ξ⟩ ?_ ?_
 .rintro i _ U k hi ⟨a,e⟩ hk;refine bI Ω ?_;obtain⟨y,f⟩:=aF (l:=l) hi;rw[bi ax.u au.i Ψ (h.W a) f,bk,ak];refine⟨λhe=>⟨a,i,rfl,⟨λ_=>he▸x6 f,λ_=>Ω⟩⟩,λhe=>?_⟩;rw[aO];refine hk _ _ ⟨a,λhm=>?_⟩;rw[r8,f]at hm;rcases j4.1 hm with hm|hm
  .exact e hm
  .simp at hm;exact he hm
 .rintro _ U k ⟨a,e⟩;rw[o6]at e;rw[aR,ak];exact⟨λh=>Ω,λ_=>⟨a,-1,rfl,⟨λh=>Ω,λh=>m6 h e⟩⟩⟩
theorem MB{x:Int}(h:aM .i64 w sv l):al x8 Kg [sv,Δ x] w λv I=>v= .bool (decide (x∈l))/\Ext w I:=by
 refine aB func222 ?_;refine(MA h).Y ?_;rintro _ U _ ⟨a,r,rfl,e⟩;rw[cH];exact⟨by congr 1;rw[U9,ne,ne];exact e,a⟩
theorem uk:∀{l:Λ},(∀z∈l,1<=z)->∀i,aQ ((l.take i).map λk=>min k 4097)<=aQ (l.map λk=>min k 4097)/\1<=aQ ((l.take i).map λk=>min k 4097)
 |[],_,i=>by simp[aQ]
 |z::l,h,0=>by
  have a:=uk (λx e=>h x (.tail _ e)) l.length;rw[o6]at a;have f:=h z (.head _);simp only[List.take_zero,List.map_nil,T3,aQ];have:=Int.mul_le_mul_of_nonneg_left a.2 (show 0<=min z 4097 by omega);omega
 |z::l,h,i+1=>by
  have a:=uk (λx e=>h x (.tail _ e)) i;have f:=h z (.head _);simp only[List.take_succ_cons,T3,aQ];have h1:=Int.mul_le_mul_of_nonneg_left a.1 (show 0<=min z 4097 by omega);have j:=Int.mul_le_mul_of_nonneg_left a.2 (show 0<=min z 4097 by omega);exact⟨h1,Ω⟩
theorem CI(l:Λ)(x:Int):aQ (l++[x])=aQ l*x:=by
 induction l with
 |nil=>simp[aQ]
 |cons a l e=>rw[List.cons_append,aQ,e,aQ,Int.mul_assoc]
theorem CJ(h:aM .i64 w sv l)(h1:∀z∈l,1<=z):al x8 JG [sv] w λv I=>v= .bool (dy l)/\Ext w I:=by
 refine aB func173 ?_;rw[aY ax.u h];refine lG.range l.length (λi _ n U=>Ext w U/\n=Δ (aQ ((l.take i).map λk=>min k 4097))/\aQ ((l.take i).map λk=>min k 4097)<=4096) h.le ⟨Ext.refl _,by simp[aQ],by simp[aQ]⟩ ?_ ?_
 .rintro i _ _ U p hi ⟨a,rfl,f⟩ q;refine bI Ω ?_;obtain⟨z,j⟩:=aF (l:=l) hi;have s:=h1 z (x6 j);have x:=uk h1 i;have y:=uk h1 (i+1);have e:aQ ((l.take (i+1)).map λk=>min k 4097)=aQ ((l.take i).map λk=>min k 4097)*min z 4097:=by
   rw[r8,j,o9,Z5,T3,List.map_nil,CI]
  rw[bi ax.u au.i Ψ (h.W a) j,nj,gW,<-e];have A:aQ ((l.take (i+1)).map λk=>min k 4097)<=4096*4097:=by
   rw[e];have B:=Int.mul_le_mul_of_nonneg_right f (show 0<=min z 4097 by omega);have C:=Int.mul_le_mul_of_nonneg_left (show min z 4097<=4097 by omega) (show(0:Int)<=4096 by omega);omega
  rw[li Ω Ω,bO,ak];refine⟨λr=>⟨?_,a⟩,λr=>?_⟩
  .unfold dy;rw[m7];omega
  .rw[aO];exact q _ _ _ ⟨a,rfl,Ω⟩
 .rintro _ _ U p ⟨a,rfl,f⟩;rw[o6]at f;rw[aR,ak];refine⟨λh=>Ω,λ_=>⟨?_,a⟩⟩;unfold dy;rw[ms];omega
def lT(n:Int)(acc:Λ)(s:aJ):Option (Int×aJ):=match bl 0 (n-1) s with
 |none=>ν
 |some (v,s)=>if v∈acc then ν else σ (v,s)
theorem qy{α:Type}{f:List α->aJ->Option (α×aJ)}{acc:List α}{s:aJ}(h:f acc s=ν):cT f (n+1) acc s=ν:=by
 simp only[cT,h]
theorem ul{α:Type}{f:List α->aJ->Option (α×aJ)}{acc:List α}{s s':aJ}{a:α}(h:f acc s=σ (a,s')):cT f (n+1) acc s=cT f n (acc++[a]) s':=by
 simp only[cT,h]
theorem eo.rL{g:Nat}{A:ah}{B:ah}{s:aJ}{a:Bool}(h:eo w g gs A B s a):(∀r,bK g gs A r->r<w.heap.size)/\(∀r,B r->r<w.heap.size):=⟨h.1.2.2.2.1,h.1.2.2.2.2⟩
theorem MC{g k:Nat}{A B:ah}{s:aJ}{H:Bool}{m:Int}(h:eo w g gs A B s H)(hk:k<=4611686018427387904)(hm:0<=m/\m<=1000000):
  al x8 AU [Γ g,Δ (k:Int),Δ m] w λv I=>gk w g gs A B H ((ff m k s).map (·.2)) I/\
   ∃gr l,aA .i64 au I gr v l/\(∀r,lc v r->w.heap.size<=r)/\l.length<=100001/\∀q,ff m k s=σ q->l=q.1:=by
 obtain⟨ac,az⟩:=h.rL;have aC:=h.2.1.words.1;refine aB func172 ?_;refine⟨λout Q U=>∃i:Nat,Q=Δ (i:Int)/\i<=k/\af (bK g gs A) w U/\∃gr l,aA .i64 au U gr out l/\w.heap.size<=gr/\l.length<=100001/\
  ((∃st,eo U g gs A B st H/\cT (lT m) (k-i) l st=ff m k s/\l.length+st.d8.length<=100000)\/(fg U g gs A B/\ff m k s=ν)),λ_ Q _=>k-(bU Q).toNat,
  ⟨0,rfl,X7 _,af.refl _ _,w.heap.size,[],aA.nil _ _ _ _,p8 _,Ξ,.inl ⟨s,h,rfl,by simpa using aC⟩⟩,?_⟩
 rintro out _ U ⟨i,rfl,aD,ad,gr,l,ae,bc,bd,ag⟩;have s1:=ad.size;have R:∀r,lc out r->w.heap.size<=r:=λr y=>by have:=bV ae y;omega
 refine aV (λv aa=>Ext U aa/\((v= .bool ro/\i<k/\∃st,eo aa g gs A B st H/\cT (lT m) (k-i) l st=ff m k s/\l.length+st.d8.length<=100000)\/
  (v= .bool rs/\((∃st,eo aa g gs A B st H/\ff m k s=σ (l,st))\/(fg aa g gs A B/\ff m k s=ν))))) ?_ ?_
 rotate_left
 .intro ay L;rw[aR,ak];refine⟨λbe=>?_,λbf=>?_⟩
  .rcases ag with⟨st,z,p,S⟩|⟨E,W⟩
   .refine (qx z).Y ?_;rintro _ aa _ ⟨rfl,C⟩;exact L _ _ ⟨C,.inl ⟨rfl,Ω,st,z.W C,p,S⟩⟩
   .refine (pt E).Y ?_;rintro _ aa _ ⟨rfl,C⟩;exact L _ _ ⟨C,.inr ⟨rfl,.inr ⟨E.W C,W⟩⟩⟩
  .have aE:k-i=0:=Ω
   rcases ag with⟨st,z,p,S⟩|aF
   .rw[aE]at p;exact L _ _ ⟨Ext.refl _,.inr ⟨rfl,.inl ⟨st,z,p.symm⟩⟩⟩
   .exact L _ _ ⟨Ext.refl _,.inr ⟨rfl,.inr aF⟩⟩
 rintro _ aa ⟨C,aG⟩;have X:af (bK g gs A) w aa:=ad.F (C.V _);have M:=ae.W C;rcases aG with⟨rfl,aD,st,z,p,S⟩|⟨rfl,aH⟩
 rotate_left
 .rw[aX];rcases aH with⟨st,z,J⟩|⟨E,J⟩
  .rw[J];exact⟨⟨X,z⟩,gr,l,M,R,Ω,λq f=>by cases f;rfl⟩
  .rw[J];exact⟨⟨X,E⟩,gr,l,M,R,Ω,λq f=>by cases f⟩
 rw[bH,dp,li Ω Ω];have aI:k-i=(k-(i+1))+1:=Ω
 rw[aI]at p;refine(xq z).Y ?_;rintro _ ai _ ⟨⟨N,O⟩,n,at_,rfl,aK,bg⟩;rw[bu,bw];have aj:∀r,lc out r->¬bK g gs A r:=λr y aL=>by have:=ac r aL;have:=R r y;omega
 have bh:∀r,g=r->bK g gs A r:=λr h=>.inl h.symm;refine cW (λe=>af (bK g gs A) aa e/\((∃x,eo e g gs A B x H/\cT (lT m) (k-(i+1)) (l++[n]) x=ff m k s/\l.length+1+x.d8.length<=100000)\/(fg e g gs A B/\ff m k s=ν))/\l.length+1<=100001) ?_ ?_
 .rintro e ⟨am,aM,an⟩;have aN:=bs M am aj;have ao:=X.F am;have bi:=ao.size;refine eB ax.u au.i rfl λa ga ap bj G aP=>?_;refine kx ax.u au.i rfl (aN.W G) aP.ls Θ Θ λaQ aS aT bk aU Y=>?_;have bm:=G.size;rw[aO,li Ω Ω];have aW:af (bK g gs A) w aT:=iO (ao.F (G.V _)) Y λr y he=>by have he:r=gr:=he;omega
  have aq:∀r,bK g gs A r->¬(λr=>r=gr) r:=λr y he=>by have:=ac r y;have he:r=gr:=he;omega
  have av:∀r,cS g gs A B r->¬(λr=>r=gr) r:=λr y he=>by have:=az r y.2;have he:r=gr:=he;omega
  refine⟨⟨i+1,rfl,Ω,aW,aS,l++[n],aU,Ω,Θ,?_⟩,by simp only[bU];omega⟩;rcases aM with⟨x,P,aY,bn⟩|⟨aZ,W⟩
  .exact .inl ⟨x,(P.W G).V Y aq av,aY,Θ⟩
  .exact .inr ⟨(aZ.W G).V Y aq av,W⟩
 .intro bo Z;cases f:bl 0 (m-1) st with
  |none=>
   rw[f]at O;have E:=O;have K:lT m l st=ν:=by unfold lT;rw[f]
   have J:ff m k s=ν:=by rw[<-p];exact qy K
   refine aV (λv e=>Ext ai e/\v= .bool rs) ?_ ?_
   rotate_left
   .intro a1 ab;refine(pt E).Y ?_;rintro _ e _ ⟨rfl,j⟩;rw[aX];exact ab _ _ ⟨j,rfl⟩
   rintro _ e ⟨j,rfl⟩;rw[aX];exact Z _ ⟨N.F (j.V _),.inr ⟨E.W j,J⟩,Ω⟩
  |some q=>
   obtain⟨aQ,x⟩:=q;have a2:=aK _ f;subst a2;rw[f]at O;have aw:=O;have a6:=dH f;have an:l.length+1+x.d8.length<=100000:=by have:=a6.1;omega
   refine aV (λv e=>Ext ai e/\v= .bool (decide (n∈l))) ?_ ?_
   rotate_left
   .intro a1 ab;refine(qx aw).Y ?_;rintro _ e _ ⟨rfl,j⟩;rw[bH];refine(MB ((bs M N aj).W j).ls).Y ?_;rintro _ ap _ ⟨rfl,G⟩;exact ab _ _ ⟨j.F G,rfl⟩
   rintro _ e ⟨j,rfl⟩;have P:=aw.W j;rw[ak];refine⟨λa7=>?_,λa8=>?_⟩
   .have K:lT m l st=ν:=by unfold lT;rw[f];simp only;rw[m3 a7]
    refine(ui P Ω).Y ?_;rintro _ ap _ ⟨ba,bb⟩;exact Z _ ⟨(N.F (j.V _)).F (ba.Y λr _ h=>.inl h),.inr ⟨bb,by rw[<-p];exact qy K⟩,Ω⟩
   .have K:lT m l st=σ (n,x):=by unfold lT;rw[f];simp only;rw[m5 a8]
    exact Z _ ⟨N.F (j.V _),.inl ⟨x,P,by rw[<-p];exact(ul K).symm,an⟩,Ω⟩
theorem pu{a b:Int}(e:0<=a/\a<=4294967296)(f:0<=b/\b<=4294967296):al x8 H6 [Δ a,Δ b,Δ k] w λv I=>v=Δ (min (a+b) k)/\Ext w I:=by
 refine aB func31 ?_;simp only[aO,bO,ak];rw[li Ω Ω];exact⟨λh=>⟨by rw[Int.min_eq_right Ω],Ext.refl _⟩,λh=>⟨by rw[Int.min_eq_left Ω],Ext.refl _⟩⟩
def rM(a b k:Int):x1:=if cC a k/\cC b k then .tuple #[Δ (min (a+b) k),Δ 0]else .tuple #[Δ 0,Δ 3]
theorem CK{a b:Int}:al x8 A2 [Δ a,Δ b,Δ k] w λv I=>v=rM a b k/\Ext w I:=by
 refine aB func215 ?_;refine aV (λv U=>Ext w U/\v= .bool (decide (¬(cC a k/\cC b k)))) ?_ ?_
 .rintro _ U ⟨e,rfl⟩;simp only[ak,aO,nj];refine⟨λh=>⟨by unfold rM;rw[m5 h],e⟩,λh=>?_⟩;have h:=X5.1 h;obtain⟨⟨h1,r⟩,s,x⟩:=id h;have:=h1.2;rw[li Ω Ω];exact⟨by unfold rM;rw[m3 h],e⟩
 .intro ay f;refine k4.Y ?_;rintro _ aa _ ⟨rfl,j⟩;simp only[bC,bY];refine⟨λh=>f _ _ ⟨j,?_⟩,λh=>?_⟩
  .have:¬cC a k:=by simpa using h
   rw[m7];exact λh=>this h.1
  .have p:cC a k:=by simpa using h
   refine k4.Y ?_;rintro _ y _ ⟨rfl,q⟩;simp only[bC];exact f _ _ ⟨j.F q,by simp[p]⟩
theorem MD(h:aM .i64 w sv l)(f:l≠[]):
  al x8 KM [sv] w λv I=>v=Δ (xi l)/\Ext w I:=by
 obtain⟨x,l,rfl⟩:∃x r,l=x::r:=by cases l with
  |nil=>exact m6 rfl f
  |cons x r=>exact⟨x,r,rfl⟩
 have j:=h.le;refine aB func284 ?_;refine cW (λU=>w=U) ?_ ?_
 .rintro _ rfl;rw[gI (y:=0) (i:=0) rfl ax.u au.i Ψ h (by rfl)];refine⟨λm i aa=>Ext w aa/\∃k:Nat,i=Δ (k+1:Nat)/\k<=l.length/\m=Δ ((l.take k).foldl min x),λ_ i _=>l.length+1-(bU i).toNat,⟨Ext.refl _,0,rfl,X7 _,rfl⟩,?_⟩;rintro _ _ aa ⟨a,k,rfl,hk,rfl⟩;rw[aY ax.u (h.W a)];simp only[Z4,aR,ak]at j ⊢;refine⟨λq=>?_,λs=>⟨?_,a⟩⟩
  .obtain⟨y,e⟩:=aF (l:=l) (i:=k) Ω;rw[bi ax.u au.i Ψ (h.W a) (show(x::l)[k+1]?=σ y from e),nj];simp only[aO];rw[li Ω Ω];refine⟨⟨a,k+1,by congr 1,Ω,?_⟩,?_⟩
   .rw[r8,e,Q0];rfl
   .simp only[bU];omega
  .have:k=l.length:=Ω
   subst this;rw[o6];rfl
 .intro ay p;rw[aY ax.u h];simp only[aR,ak];exact⟨λh=>by simp at h;omega,λ_=>p _ rfl⟩
theorem CL{g a:Nat}{cs:Λ}(h:dj w g a sv ai k cs):al x8 wN [Γ g] w λv I=>v=Δ k/\Ext w I:=by
 obtain⟨⟨a7,gs,e,hm,f⟩,_⟩:=h;refine aB func249 ?_;rw[cR fc.u];simp only[Z3,aX];rw[aG cZ.p 1 e rfl];exact⟨rfl,Ext.refl _⟩
theorem oc{g e:Nat}{cs:Λ}(h:dj w g e sv ai k cs):
  al x8 I6 [Γ g] w λv I=>Ext w I/\∃a,w.heap.size<=a/\aA .i64 au I a v cs:=by
 obtain⟨⟨a7,gs,f,hm,j⟩,⟨_,_,ac⟩,J,q⟩:=h;refine aB func127 ?_;rw[cR fc.u];simp only[Z3,aX];rw[aG cZ.p 2 f rfl];exact wY j.ls Ω
theorem qz{g f:Nat}{cs:Λ}(h:dj w g f sv ai k cs):
  al x8 J1 [Γ g] w λv I=>v= .agg #[sv]/\Ext w I:=by
 obtain⟨⟨a7,gs,q,hm,A⟩,_⟩:=h;have s:=hm.ls.cells;refine aB func203 ?_;refine bB bD.i λB U C e x=>?_;rw[cR fc.u];simp only[Z3,aX];rw[bL,aT cZ.p rfl,bA (cs:=[sv]) bD.p bD.i rfl (pj (q.W e) (by
  intro j v a
  match j,a with
  |0,a=>exact a))]
 refine b4 (vs:=[sv]) bD.i rfl rfl (by intro u hu;simp at hu;subst hu;exact s.2) x λE y G z=>?_;rw[fP bD.p bD.i rfl z.range];exact⟨rfl,e.then y (by rintro r H rfl;omega)⟩
theorem CM(h:aM .i64 w sv ai)(q:ai.length<=1000):al x8 A7 [.agg #[sv]] w λv I=>Ext w I/\∃a,w.heap.size<=a/\aA .i64 aj I a v ai:=by
 refine aB func248 ?_;refine bo λg U r e f=>?_;rw[aL bD.p 0 f rfl];refine(mr (h.W e) Ω).Y ?_;rintro v aa _ ⟨j,a,s,hm⟩;have s1:=e.size;exact⟨e.F j,a,Ω,hm⟩
theorem CN(h:aM .i64 w sv ai):al x8 KI [.agg #[sv]] w λv I=>v=Δ ai.length/\Ext w I:=by
 refine aB func271 ?_;refine bo λg U f a e=>?_;rw[aL bD.p 0 e rfl,aY aq.u (h.W a)];exact⟨rfl,a⟩
def jn(ai:Λ)(i:Int):Int:=if 0<=i then ai.getD i.toNat 0 else 0
theorem rN{i:Int}(h:aM .i64 w sv ai):al x8 KJ [.agg #[sv],Δ i] w λv I=>v=Δ (jn ai i)/\Ext w I:=by
 refine aB func272 ?_;refine bo λg U r a e=>?_;refine aV (λv aa=>v= .bool (decide (i<0\/(ai.length:Int)<=i))/\U=aa) ?_ ?_
 .rintro _ _ ⟨rfl,rfl⟩;simp only[ak];refine⟨λh=>⟨?_,a⟩,λq=>?_⟩
  .unfold jn;split
   .rw[u4,Y4 Ω];rfl
   .rfl
  .rw[aL bD.p 0 e rfl];obtain⟨n,rfl⟩:∃n:Nat,i=n:=⟨i.toNat,Ω⟩;have f:n<ai.length:=Ω
   rw[bi aq.u aj.i Ψ (h.W a) (x7 f)];refine⟨?_,a⟩;unfold jn;rw[m3 Ω,u4,u6,x7 f];rfl
 .intro ay j;simp only[aR,ak];refine⟨λh=>j _ _ ⟨by rw[m7];omega,rfl⟩,λq=>?_⟩;rw[aL bD.p 0 e rfl,aY aq.u (h.W a)];simp only[cH];exact j _ _ ⟨by congr 1;simp;omega,rfl⟩
theorem um{g B0:Nat}(J:ca ai):
  oO x8 mi [Γ g] (aQ ai).toNat (λk vs w=>∃aS gt,vs=[Δ (k:Int),aS]/\B0<=gt/\aA .i64 aj w gt aS (de ai k))
   (λw=>ag w g bD [sv]/\aM .i64 w sv ai/\B0<=w.heap.size):=by
 refine⟨mi.enters,λl ay P w r _ z ⟨s,x,A⟩ B=>?_⟩;have ac:=prod_bound J;refine qg func95 ?_;rw[bA bD.p bD.i rfl s.range];refine(qk x J).free.Y ?_;rintro _ U ⟨C,rfl,a⟩;refine bZ.range (aQ ai).toNat (λi aa=>ay i aa/\ag aa g bD [sv]/\aM .i64 aa sv ai/\B0<=aa.heap.size) Ω ⟨r 0 _ _ a C.b B,s.W a,x.W a,Y9 A a.size⟩ ?_ ?_
 .rintro i aa k hi ⟨f,j,q,y⟩ hk;simp only[aR,ak];refine⟨λ_=>?_,λh=>Ω⟩;rw[bA bD.p bD.i rfl j.range];refine(Li q J Ω Ω).free.Y ?_;rintro _ E ⟨G,e,aS,gt,rfl,H,I⟩;rw[bu,bw];refine⟨rfl,(z i _ E hi ⟨j.W e,q.W e,Y9 y e.size⟩ ⟨aS,gt,rfl,Y9 y H,I⟩ (r _ _ _ e G.b f)).Y ?_⟩;rintro _ Q (⟨rfl,⟨K,L,M⟩,N⟩|⟨rfl,O⟩)
  .simp only[bC,X1,aX,aO];exact hk _ ⟨N.1,K,L,M⟩
  .simp only[bC,W7,bH];exact .inr ⟨i,hi,O⟩
 .rintro aa k ⟨f,j,q,_⟩;simp only[aR,ak];exact⟨λh=>Ω,λ_=>.inl f⟩
theorem uo:al x8 Ih [.agg #[sv]] w λr I=>Ext w I/\∃g,r= .func (.func mi) #[] #[Γ g]/\w.heap.size<=g/\ag I g bD [sv]:=by
 refine aB func50 ?_;refine bo λg U f a e=>?_;rw[lK];exact⟨a,g,rfl,Ω,e⟩
end Go.Proofs.YtnhkbjhpbbobaaaGreatDoor
namespace Go.Vc
open Go Go.RowKit
set_option maxRecDepth 100000
section
variable{P:V5}{w:x4}
theorem aH.cu{α:Type}{s:Sem α}{K:α->x4->Prop}(h:aH P s w λv I=>cN w I->K v I):aH P s w K:=by
 obtain⟨v,I,h1,a,e⟩:=h;exact⟨v,I,h1,a,e a⟩
structure Keys(P:V5)(k:p9)(G:x1->Prop):Prop where
 check:∀(w:x4)(em:Bool){v:x1},G v->(Instr.checkKey em 10000 k v).run P w= .ok () w
 find:∀(w:x4){x:x1},G x->∀es:List MapEntry,(∀e∈es,G e.key)->
  ((Instr.findKey k x es).run P w= .ok ν w/\∀e∈es,e.key≠x)\/∃j e,(Instr.findKey k x es).run P w= .ok (σ (j,e.val)) w/\es[j]?=σ e/\e.key=x
 stays:∀(w:x4){v:x1},G v->(Instr.keyThatStays v v).run P w= .ok v w
theorem Keys.law{k:p9}(K:WideMaps.KeyLaw P k):Keys P k λv=>∃l,keyOf P k v=σ l:=
 ⟨λw a _ ⟨_,h⟩=>K.check w a h,λw _ ⟨_,h⟩ e f=>K.find w h e f,λw _ ⟨_,h⟩=>K.stays w h⟩
theorem Keys.int{k:p9}{a:o7}(hk:P.underlying k=σ (.int a)):Keys P k λv=>∃n,v= .int a n:=by
 have key:∀n,MapKept.IsKey (.int a) (.int a n):=λn=>rfl;refine⟨λw p v ⟨n,h⟩=>?_,λw x ⟨n,h⟩ q r=>?_,λw v ⟨n,h⟩=>?_⟩
 .subst h;exact MapKept.run_checkKey hk (key n) p 9999
 .subst h;rcases MapKept.findNow_spec (key n) q 0 (λe he=>by obtain⟨m,h⟩:=r e he;rw[h];exact key m)with⟨h1,f⟩|⟨j,e,h1,f,s⟩
  .exact .inl ⟨MapKept.run_findKey hk h1,f⟩
  .exact .inr ⟨j,e,by have:=MapKept.run_findKey (P:=P) (w:=w) hk h1;simpa using this,f,s⟩
 .subst h;exact MapKept.run_keyThatStays (key n)
def ia(e:MapEntry):x1×x1:=(e.key,e.val)
def db(w:x4)(m:Nat)(d:List (x1×x1)):Prop:=∃a e,w.heap[m]?=σ (.map a e)/\MapKept.Stamped a e/\a.toList.map ia=d
theorem db.W{m:Nat}{d:List (x1×x1)}(h:db w m d)(a:Ext w I):db I m d:=by
 obtain⟨e,c,h1,f⟩:=h;exact⟨e,c,a.aZ m _ h1 rfl,f⟩
theorem db.V{m:Nat}{d:List (x1×x1)}(h:db w m d)(a:af S w I)(e:¬S m):db I m d:=by
 obtain⟨f,c,h1,j⟩:=h;exact⟨f,c,a.aZ m _ h1 rfl e,j⟩
theorem db.lt{m:Nat}{d:List (x1×x1)}(h:db w m d):m<w.heap.size:=by
 obtain⟨a,c,h1,e⟩:=h;exact(j9.1 h1).1
theorem db.nodup{m:Nat}{d:List (x1×x1)}(h:db w m d):(d.map (·.1)).Nodup:=by
 obtain⟨e,c,_,⟨_,_,a⟩,rfl⟩:=h;rw[S5];exact a
theorem lU{α:Type}{l:List α}(h:l.Nodup){i:Nat}{x:α}(hi:l[i]?=σ x)(p:l[j]?=σ x):i=j:=by
 have a:=x5.1 hi;have e:=x5.1 p;have ac:=U8.1 h;rcases Nat.lt_trichotomy i j with f|rfl|f
 .exact m6 (a.2.F e.2.symm) (ac i j a.1 e.1 f)
 .rfl
 .exact m6 (e.2.F a.2.symm) (ac j i e.1 a.1 f)
theorem od{α β:Type}(f:α->β):∀(l:List α)(i:Nat),(l.map f).eraseIdx i=(l.eraseIdx i).map f
 |[],_=>Ξ
 |_::_,0=>rfl
 |x::l,i+1=>by simp[od f l i]
theorem db.uniq{m:Nat}{d:List (x1×x1)}(h:db w m d){i:Nat}{p q:x1×x1}(hi:d[i]?=σ p)(a:d[j]?=σ q)(he:p.1=q.1):i=j:=by
 have e:=h.nodup;have h1:(d.map (·.1))[i]?=σ p.1:=by rw[v8,hi];rfl
 have f:(d.map (·.1))[j]?=σ p.1:=by rw[v8,a,he];rfl
 exact lU e h1 f
theorem uq{m:Nat}{q:Array MapEntry}{c:Nat}(h:w.heap[m]?=σ (.map q c))(a:Array MapEntry)(e:Nat):
  af (λr=>r=m) w {w with heap:=w.heap.setIfInBounds m (.map a e)}/\cN w {w with heap:=w.heap.setIfInBounds m (.map a e)}/\({w with heap:=w.heap.setIfInBounds m (.map a e)}:x4).heap[m]?=σ (.map a e):=by
 have J:=MapKept.heap_set (o':=.map a e) h;refine⟨⟨Ξ,λr o f j s=>?_⟩,⟨rfl,.lC,rfl,Ξ,λr o f j=>?_⟩,J.1⟩
 .show (w.heap.setIfInBounds m _)[r]?=σ o;rw[J.2 r s];exact f
 .show (w.heap.setIfInBounds m _)[r]?=σ o;by_cases p:r=m
  .subst p;rw[h]at f;cases f;cases j
  .rw[J.2 r p];exact f
theorem ur{K:x1->x4->Prop}(h:∀m I,m=w.heap.size->Ext w I->db I m []->K (.map (σ m)) I):aH P (Instr.makeMap t ν) w K:=by
 refine .of (run_makeMap t w) (p4 w _) (h _ _ rfl (p3 w _) ⟨#[],0,?_,MapKept.stamped_empty 0,rfl⟩);exact heap_alloc_new w _
variable{k e:p9}{G:x1->Prop}
theorem rO{c:Bool}{m:Nat}{d:List (x1×x1)}{x:x1}(y:P.underlying t=σ (.map k e))(hk:Keys P k G)(hm:db w m d)(z:∀p∈d,G p.1)(q:G x)(a:d[j]?=σ (x,v)):
  ab P (Instr.lookup t (.map (σ m)) x c) w K=K (if c then .tuple #[v,.bool ro]else v):=ab.of λI A=>by
 obtain⟨f,B,r,C,rfl⟩:=hm.W A;have E:∀e∈f.toList,G e.key:=λe he=>z (ia e) (j0.2 ⟨e,he,rfl⟩);rcases hk.find I q f.toList E with⟨_,h⟩|⟨i,s,h1,h,F⟩
 .rw[v8]at a;obtain⟨H,J,L⟩:=X0.1 a;exact m6 (congrArg Prod.fst L) (h H (x6 J))
 .have M:s.val=v:=by
   have hi:(f.toList.map ia)[i]?=σ (ia s):=by rw[v8,h];rfl
   have N:db I m (f.toList.map ia):=⟨f,B,r,C,rfl⟩;have:=N.uniq hi a F;subst this;rw[hi]at a;exact congrArg Prod.snd (Z6 a)
  simp only[Instr.lookup,V1,run_underlying y,V2,MapKept.run_getObj_map r,U1,hk.check I _ q,h1,M]
theorem ut{c:Bool}{m:Nat}{d:List (x1×x1)}{x:x1}(r:P.underlying t=σ (.map k e))(hk:Keys P k G)(a:∃s b,aP P e s b z)(hm:db w m d)(y:∀p∈d,G p.1)(f:G x)(A:∀p∈d,p.1≠x):
  ab P (Instr.lookup t (.map (σ m)) x c) w K=K (if c then .tuple #[z,.bool rs]else z):=ab.of λI B=>by
 obtain⟨h,J,C,L,rfl⟩:=hm.W B;have E:∀e∈h.toList,G e.key:=λe he=>y (ia e) (j0.2 ⟨e,he,rfl⟩);have F:(zeroValue e).run P I= .ok z I:=by
  obtain⟨s,b,i,hi,_,_,a⟩:=a;simp[zeroValue,typeInfo,hi,a]
 rcases hk.find I f h.toList E with⟨h1,j⟩|⟨i,q,h1,j,H⟩
 .simp only[Instr.lookup,V1,run_underlying r,V2,MapKept.run_getObj_map C,U1,hk.check I _ f,h1,F]
 .exact m6 H (A (ia q) (j0.2 ⟨q,x6 j,rfl⟩))
theorem ME{a:Array MapEntry}{e:MapEntry}{f:MapEntry->MapEntry}(h:a[j]?=σ e):(a.modify j f).toList.map ia=(a.toList.map ia).set j (ia (f e)):=by
 refine X3 λi=>?_;simp only[v8,Q3,Array.getElem?_modify,Y6,u9,Array.length_toList];by_cases p:j=i
 .subst p;have:=(j9.1 h);simp[this.1,this.2]
 .simp[p]
theorem rP{m:Nat}{d:List (x1×x1)}{x:x1}{K:Unit->x4->Prop}(C:P.underlying t=σ (.map k e))(hk:Keys P k G)(hm:db w m d)(L:∀p∈d,G p.1)(h:G x)(h1:∀j v0 I,d[j]?=σ (x,v0)->db I m (d.set j (x,v))->af (λr=>r=m) w I->K () I)(M:∀I,(∀p∈d,p.1≠x)->db I m (d++[(x,v)])->af (λr=>r=m) w I->K () I):aH P (Instr.mapUpdate t (.map (σ m)) x v) w K:=by
 obtain⟨f,q,a,E,rfl⟩:=hm;have N:∀e∈f.toList,G e.key:=λe he=>L (ia e) (j0.2 ⟨e,he,rfl⟩);rcases hk.find w h f.toList N with⟨s,F⟩|⟨i,H,s,hi,he⟩
 .obtain⟨y,z,A⟩:=uq a (f.push {key:=x,val:=v,born:=q}) (q+1);refine .of ?_ z (M _ (λp ac=>?_) ⟨_,_,A,MapKept.stamped_push E F,by simp[ia]⟩ y)
  .simp only[Instr.mapUpdate,V1,run_underlying C,V2,MapKept.run_getObj_map a,hk.check w _ h,s,MapKept.run_setObj_map _ a]
  .obtain⟨O,Q,rfl⟩:=j0.1 ac;exact F O Q
 .have B:f[i]?=σ H:=by simpa using hi
  obtain⟨y,z,A⟩:=uq a (f.modify i λe=>{e with key:=x,val:=v}) q;refine .of ?_ z (h1 i H.val _ (by rw[v8,hi];simp[ia,he]) ⟨_,_,A,MapKept.stamped_modify E _ _ (λ_ _=>rfl) (λR _ J=>by rw[B]at J;cases J;exact he.symm),ME B⟩ y);simp only[Instr.mapUpdate,V1,run_underlying C,V2,MapKept.run_getObj_map a,hk.check w _ h,s,B,Y3,V9,he,hk.stays w h,MapKept.run_setObj_map _ a]
theorem MF{E F:p9}{m:Nat}{d:List (x1×x1)}{x:x1}{K:x1->x4->Prop}(A:P.underlying t=σ (.map k e))(hk:Keys P k G)(hm:db w m d)(H:∀p∈d,G p.1)(h:G x)(h1:∀j v0 I,d[j]?=σ (x,v0)->db I m (d.eraseIdx j)->af (λr=>r=m) w I->K (.tuple #[]) I)(J:∀I,(∀p∈d,p.1≠x)->db I m d->af (λr=>r=m) w I->K (.tuple #[]) I):aH P (Y1.delete_ #[t,E] F #[.map (σ m),x]) w K:=by
 obtain⟨f,B,a,C,rfl⟩:=hm;have L:∀e∈f.toList,G e.key:=λe he=>H (ia e) (j0.2 ⟨e,he,rfl⟩);rcases hk.find w h f.toList L with⟨q,M⟩|⟨i,N,q,hi,he⟩
 .obtain⟨s,y,z⟩:=uq a f B;refine .of ?_ y (J _ (λp ac=>?_) ⟨_,_,z,C,rfl⟩ s)
  .simp only[Y1.delete_,List.getElem?_toArray,List.getElem?_cons_zero,List.getElem?_cons_succ,V1,run_underlying A,V2,MapKept.run_getObj_map a,hk.check w _ h,q,MapKept.run_setObj_map _ a,U1]
  .obtain⟨O,Q,rfl⟩:=j0.1 ac;exact M O Q
 .obtain⟨s,y,z⟩:=uq a (f.eraseIdxIfInBounds i) B;refine .of ?_ y (h1 i N.val _ (by rw[v8,hi];simp[ia,he]) ⟨_,_,z,MapKept.stamped_erase C _,by rw[od];simp⟩ s);simp only[Y1.delete_,List.getElem?_toArray,List.getElem?_cons_zero,List.getElem?_cons_succ,V1,run_underlying A,V2,MapKept.run_getObj_map a,hk.check w _ h,q,MapKept.run_setObj_map _ a,U1]
theorem MG{a:p9}{m:Nat}{d:List (x1×x1)}(f:P.underlying t=σ (.map k e))(hm:db w m d):ab P (V7 #[t] a #[.map (σ m)]) w K=K (Δ d.length):=ab.of λI h=>by
 obtain⟨p,q,j,r,rfl⟩:=hm.W h;simp[V7,run_underlying f,MapKept.run_getObj_map j,goInt]
def iR(w:x4)(j m:Nat)(d left:List (x1×x1))(q:Option (x1×x1)):Prop:=∃a f seen fo,w.heap[m]?=σ (.map a f)/\MapKept.Stamped a f/\a.toList.map ia=d/\
 w.heap[j]?=σ (.mapIter (σ m) f seen fo)/\f<=fo/\(leftOf a seen).toList.map ia=left/\∀p,q=σ p->fo=f/\∃h,a.toList.find? (λe=>e.born == seen.back?.getD 0)=σ h/\seen.back? =σ h.born/\ia h=p
theorem iR.map{a m:Nat}{d left:List (x1×x1)}{e:Option (x1×x1)}(h:iR w a m d left e):db w m d:=by
 obtain⟨f,c,_,_,h1,j,p,_⟩:=h;exact⟨f,c,h1,j,p⟩
theorem iR.aZ{a m:Nat}{d left:List (x1×x1)}{e:Option (x1×x1)}(h:iR w a m d left e)(f:af S w I)(hm:¬S m)(hi:e9 w I):iR I a m d left e:=by
 obtain⟨j,c,s,fo,h1,p,q,r,x⟩:=h;exact⟨j,c,s,fo,f.aZ m _ h1 rfl hm,p,q,hi a _ r rfl,x⟩
theorem iR.W{a m:Nat}{d left:List (x1×x1)}{e:Option (x1×x1)}(h:iR w a m d left e)(f:Ext w I)(hi:e9 w I):iR I a m d left e:=
 h.aZ (f.V λ_=>False) (λh=>h) hi
theorem MH(a:Array MapEntry):leftOf a #[]=a:=by
 unfold leftOf;exact Array.filter_eq_self.2 λx e=>Ξ
theorem CO{m:Nat}{d:List (x1×x1)}{K:x1->x4->Prop}(r:P.underlying t=σ (.map k e))(hm:db w m d)(h:∀a I,a=w.heap.size->Ext w I->e9 w I->iR I a m d d ν->K (Γ a) I):aH P (Instr.range t (.map (σ m))) w K:=by
 obtain⟨j,f,q,s,rfl⟩:=hm;refine .of (run_range_map w t k e m j f r q) (p4 w _) (h _ _ rfl (p3 w _) (p4 w _).lD ⟨j,f,#[],f,(p3 w _).aZ m _ q rfl,s,rfl,heap_alloc_new w _,p8 _,by rw[MH],λp ac=>by cases ac⟩)
theorem CP:∀(l:List MapEntry)(j:Nat)(a:MapEntry),(l.map (·.born)).Nodup->l[j]?=σ a->l.filter (λx=>!(x.born == a.born))=l.eraseIdx j
 |[],j,a,_,h=>by simp at h
 |x::l,0,a,f,h=>by
  simp at h;subst h;have e:=List.nodup_cons.1 (by simpa using f:(x.born::l.map (·.born)).Nodup);simp only[List.filter_cons,beq_self_eq_true,X1,Bool.false_eq_true,if_false,List.eraseIdx_cons_zero];refine List.filter_eq_self.2 λy p=>?_;have:y.born≠x.born:=λhe=>e.1 (he▸j0.2 ⟨y,p,rfl⟩);simpa using this
 |x::l,j+1,a,f,h=>by
  simp at h;have e:=List.nodup_cons.1 (by simpa using f:(x.born::l.map (·.born)).Nodup);have q:x.born≠a.born:=λhe=>e.1 (he▸j0.2 ⟨a,x6 h,rfl⟩);have r:=CP l j a e.2 h;simp only[List.filter_cons,List.eraseIdx_cons_succ,r];simp[q]
theorem CQ{free:fN}{a m:Nat}{d left:List (x1×x1)}{T:Option (x1×x1)}{K:x1->x4->Prop}(h:iR w a m d left T)(A:free.1=rs->free.2<=a)(V:left=[]->K (.tuple #[.bool rs]) w)(h1:∀j p I,left[j]?=σ p->Ext w I->cI a w I->iR I a m d (left.eraseIdx j) (σ p)->K (.tuple #[.bool ro,p.1,p.2]) I):sZ P free (Instr.next (Γ a) rs 0) w K:=by
 obtain⟨s,q,seen,fo,B,E,rfl,hi,W,rfl,_⟩:=h;have M:∀x∈s.toList,x.born<q:=E.1;have N:=E.2.1;have O:∀x∈(leftOf s seen).toList,x.born<q:=λx z=>M x (mem_left z).1;have X:∀(U:x4)(o':Obj),U.heap=w.heap->(setObj a o').run P U= .ok () {U with heap:=U.heap.setIfInBounds a o'}:=λU o' he=>by
  simp only[setObj,Sem.run];rw[he,hi]
 unfold sZ;simp only[Instr.next,getObj,V1,Sem.run,hi,B,V2,next_test_false seen s q fo M W,Bool.false_eq_true,if_false];have Y:Array.filter (λe=>!seen.contains e.born) s=leftOf s seen:=rfl;rw[Y];have Z:((leftOf s seen).toList.map (·.born)).Nodup:=by
  unfold leftOf;rw[Array.toList_filter];exact(List.Sublist.map _ List.filter_sublist).nodup N
 have aa:∀C:MapEntry,leftOf s (seen.push C.born)=(leftOf s seen).filter λx=>!(x.born == C.born):=λC=>by
  unfold leftOf;rw[Array.filter_filter];congr 1;funext x;rw[contains_push];cases seen.contains x.born<;>cases x.born == C.born<;>rfl
 generalize ab:leftOf s seen=L at*;have ad:L.filter (λx=>decide (x.born<q))=L:=Array.filter_eq_self.2 (λx z=>by simpa using O x (by simpa using z));have ae:L.filter (λx=>decide (x.born≥q))= #[]:=by
  rw[Array.filter_eq_empty_iff];intro x z;have:=O x (by simpa using z);simp;omega
 simp only[ad,ae,Array.append_empty];by_cases Q:L.size=0
 .have af:=Array.eq_empty_of_size_eq_zero Q;subst af;refine⟨.tuple #[.bool rs],w,?_,λ_=>cI.refl _ _,V rfl⟩;simp[choose,Sem.run,Question.forced]
 .have ag:L.isEmpty=rs:=by simp[Array.isEmpty,Q]
  simp only[ag,Bool.false_eq_true,if_false,Array.empty_append,Array.size_map];have ah:∃(j:Nat)(n:Nat),j<L.size/\w.drawn<=n/\(choose (Question.mapNext L.size)).run P w= .ok j {w with drawn:=n}:=by
   by_cases A:L.size<=1
   .exact⟨0,w.drawn,Ω,p8 _,by simp[choose,Sem.run,Question.forced,A]⟩
   .exact⟨_,w.drawn+1,Nat.mod_lt _ Ω,Nat.le_succ _,by
     simp only[choose,Sem.run,Question.forced,ne,A,if_false,Question.cut];rfl⟩
  obtain⟨j,n,F,R,ai⟩:=ah;have S:L.toList[j]?=σ L[j]:=by simp[F]
  have aj:=(mem_left (by rw[ab];exact Array.mem_toList_iff.2 (Array.getElem_mem F))).1;refine⟨.tuple #[.bool ro,L[j].key,L[j].val],{w with drawn:=n,heap:=w.heap.setIfInBounds a (.mapIter (σ m) q (seen.push L[j].born) q)},?_,?_,?_⟩
  .have J:=X {w with drawn:=n} (.mapIter (σ m) q (seen.push L[j].born) q) rfl;simp only[ai,Array.getElem?_map,Array.getElem?_eq_getElem F,Y3,V1,J,V2,U1]
  .intro ak;have:=A ak;refine⟨rfl,⟨rfl,R⟩,rfl,Ξ,λr o f G=>?_,λr o al f H=>?_⟩
   .show (w.heap.setIfInBounds a _)[r]?=σ o;by_cases y:r=a
    .subst y;rw[hi]at f;cases f;cases G
    .rw[(MapKept.heap_set hi).2 r y];exact f
   .show (w.heap.setIfInBounds a _)[r]?=σ o;rw[(MapKept.heap_set hi).2 r Ω];exact f
  .refine h1 j (ia L[j]) _ (by rw[v8,S];rfl) ⟨Ξ,λr o f H=>?_⟩ ⟨rfl,⟨rfl,R⟩,rfl,Ξ,λr o f G=>?_,λr o al f H=>?_⟩ ⟨s,q,seen.push L[j].born,q,?_,E,rfl,?_,p8 _,?_,λp ac=>⟨rfl,L[j],?_,Ξ,Z6 ac⟩⟩
   .show (w.heap.setIfInBounds a _)[r]?=σ o;by_cases y:r=a
    .subst y;rw[hi]at f;cases f;cases H
    .rw[(MapKept.heap_set hi).2 r y];exact f
   .show (w.heap.setIfInBounds a _)[r]?=σ o;by_cases y:r=a
    .subst y;rw[hi]at f;cases f;cases G
    .rw[(MapKept.heap_set hi).2 r y];exact f
   .show (w.heap.setIfInBounds a _)[r]?=σ o;rw[(MapKept.heap_set hi).2 r Ω];exact f
   .show (w.heap.setIfInBounds a _)[m]?=_;rw[(MapKept.heap_set hi).2 m (λhe=>by subst he;rw[hi]at B;cases B)];exact B
   .exact (MapKept.heap_set hi).1
   .rw[aa,Array.toList_filter,CP _ _ _ Z S,od]
   .simp only[Array.back?_push,V9];exact find_born _ _ N aj
theorem CR{a m:Nat}{d left:List (x1×x1)}{p:x1×x1}{K:x1->x4->Prop}(h:iR w a m d left (σ p))(f:K (.tuple #[p.1,p.2]) w):aH P (Instr.entry (Γ a)) w K:=by
 obtain⟨r,s,seen,fo,j,x,rfl,hi,y,rfl,q⟩:=h;obtain⟨rfl,z,h1,e,rfl⟩:=q p rfl;refine .of ?_ (cN.refl _) f;rw[e]at h1;simp only[Instr.entry,getObj,V1,Sem.run,hi,j,V2,e,bne_self_eq_false,Bool.false_eq_true,if_false,<-Array.find?_toList];simp only[V9]at h1;rw[h1];rfl
end
end Go.Vc
namespace Go.Proofs.YtnhkbjhpbbobaaaGreatDoor
open Go Go.Vc Go.RowKit Go.Proofs Go.Proofs.Tryz
set_option maxRecDepth 100000
def ep(a:Λ):x1:=.agg (ints .i8 a).toArray
def nv(a:Λ):Prop:=a.length=6/\∀x∈a,0<=x/\x<32
theorem MI{b:Λ}(h:ep a=ep b):a=b:=by
 unfold ep at h;have h:ints .i8 a=ints .i8 b:=congrArg Array.toList (x1.agg.inj h);have e:∀l:Λ,(ints .i8 l).map valOf=l:=λl=>by
  unfold ints;rw[S5];exact List.map_id l
 rw[<-e a,<-e b,h]
theorem CS(a:Λ):(ep a).cells.toList=ints .i8 a:=by simp[ep,x1.cells]
theorem MJ:WideMaps.ArrKey x8 cG gh 6:=⟨cG.u,Ψ,Ψ,Ψ⟩
theorem keys:Keys x8 cG λv=>∃l,keyOf x8 cG v=σ l:=Keys.law MJ.law
theorem xr{p:Λ}(h:nv p):∃l,keyOf x8 cG (ep p)=σ l:=by
 obtain⟨w,j⟩:=h
 match p,w with
 |[a,b,c,d,e,f],_=>
  have y:=j a Ξ;have z:=j b Ξ;have A:=j c Ξ;have rd:=j d Ξ;have B:=j e Ξ;have lC:=j f Ξ;have wf:∀x:Int,0<=x/\x<32->(Lit.int .i8 x).wf=ro:=λx q=>by
   simp only[Lit.wf,T1,ne];have I:o7.i8.min= -128:=Φ
   have J:o7.i8.max=127:=Φ
   omega
  have r:decide (0<x8.types.size)=ro:=Ψ
  have r:=rc r;obtain⟨n,C⟩:∃n,x8.types.size=n+1:=⟨x8.types.size-1,Ω⟩;have one:∀x:Int,0<=x/\x<32->x8.keyLits (n+1) gh [.int .i8 x]=σ [.int .i8 x]:=λx q=>by
   unfold V5.keyLits;rw[gh.u];simp[wf x q]
  unfold keyOf;rw[cG.u];simp only;have E:x8.keyType cG=ro:=Ψ
  have F:x8.cellsOf gh=1:=Ψ
  have s:x8.cellsOf cG=6:=Ψ
  have G:(ep [a,b,c,d,e,f]).formed x8 cG=ro:=by
   unfold ep x1.formed;rw[cG.u,s];rfl
  rw[E,G,CS,C];simp only[Bool.and_self,if_true];unfold V5.keyLits;rw[cG.u];simp only[s,F,ints];have H:W3 6=[0,1,2,3,4,5]:=Φ
  simp[H,one a y,one b z,one c A,one d rd,one e B,one f lC]
def pad(t:Λ):Λ:=t++o4 (6-t.length) 0
theorem MK{t:Λ}(f:t.length<=6)(a:∀x∈t,0<=x/\x<32):nv (pad t):=
 ⟨by simp[pad];omega,λx e=>by
  rcases j4.1 e with h|h
  .exact a x h
  .have:=(List.mem_replicate.1 h).2;omega⟩
theorem ML{b:Λ}(e:a.length=b.length)(h:pad a=pad b):a=b:=by
 unfold pad at h;exact(List.append_inj h e).1
theorem CT{t:Λ}:(pad t).take t.length=t:=by simp[pad]
theorem pv{b o:Nat}(e:a.length=6)(h:w.rangeAt b o (ints .i8 a)):ab x8 (u5 cG (.pointer (σ ⟨b,o,ν⟩))) w K=K (ep a):=
 Bh cG.u rfl cG.i (by simp[e]) h
theorem MM{b o:Nat}(e:a.length=6)(h:w.rangeAt b o (ints .i8 a)):ab x8 (do loadVar cG (<-asAddr (.pointer (σ ⟨b,o,ν⟩)))) w K=K (ep a):=ab.of λI f=>by
 have:=run_loadVar_mid I b o cG (ints .i8 a) (.array 6 gh) (o0 f h) cG.u rfl (by rw[cG.i.size];simp[e]);simp only[asAddr,V1,U1,Result.andThen_ok,this];rfl
theorem rQ{g:Nat}{K:Unit->x4->Prop}(e:a.length=6)(f:cs.length=6)(j:ag w g cG cs)(h:∀I,af (λr=>r=g) w I->I.heap.size=w.heap.size->ag I g cG (ints .i8 a)->K () I):aH x8 (n9 cG (Γ g) (ep a)) w K:=
 b4 (vs:=ints .i8 a) cG.i (by simp[e]) f (λv p=>by obtain⟨x,_,rfl⟩:=j0.1 p;rfl) j h
def uu:List x1:=[.int .i8 0,.int .i8 0,.int .i8 0,.int .i8 0,.int .i8 0,.int .i8 0]
theorem MN{x:Int}:al x8 tB [Δ x] w λv I=>v= .bool (decide (¬jz x))/\Ext w I:=by
 refine aB func224 ?_;simp only[cv,aR,bO,ak];refine⟨λh=>⟨?_,Ext.refl _⟩,λh=>⟨?_,Ext.refl _⟩⟩
 .rw[m7];intro a;have:=a.1;omega
 .congr 1;have:(32<x)=(¬jz x):=propext ⟨λe a=>by have:=a.2;omega,λe=>by
   by_cases f:32<x
   .exact f
   .exact m6 ⟨Ω,Ω⟩ e⟩
  simp only[this]
theorem MO(h:aM .i64 w sv l):
  al x8 wH [sv,.func (.func tB) #[] #[]] w λv I=>Ext w I/\∃n:Int,v=Δ n/\((0<=n)=¬∀x∈l,jz x):=by
 have z:=h.le;refine aB func139 ?_;rw[aY aq.u h];refine⟨λ_ t U=>Ext w U/\∃i:Nat,t=Δ i/\i<=l.length/\∀x∈l.take i,jz x,λ_ t _=>l.length-(bU t).toNat,⟨Ext.refl _,0,rfl,X7 _,Ξ⟩,?_⟩;rintro _ _ U ⟨e,i,rfl,hi,f⟩;simp only[aR,ak];refine⟨λA=>?_,λB=>⟨e,-1,rfl,?_⟩⟩
 .obtain⟨x,j⟩:=aF (l:=l) (i:=i) Ω;rw[bi aq.u aj.i Ψ (h.W e) j];show al x8 tB [Δ x] U _;refine MN.Y ?_;rintro _ aa _ ⟨rfl,p⟩;simp only[ak,aO];refine⟨λq=>⟨e.F p,i,rfl,?_⟩,λr=>?_⟩
  .exact propext ⟨λ_ s=>q (s x (x6 j)),λ_=>Ω⟩
  .rw[li Ω Ω];refine⟨⟨e.F p,i+1,rfl,Ω,λy a=>?_⟩,?_⟩
   .rw[r8,j]at a;rcases j4.1 a with a|a
    .exact f y a
    .simp at a;subst a;exact X5.1 r
   .simp only[bU];omega
 .have:i=l.length:=Ω
  rw[this,o6]at f;exact propext ⟨λh=>Ω,λh=>m6 f h⟩
theorem CU(h:aM .i64 w sv l):
  al x8 wK [sv,.func (.func tB) #[] #[]] w λv I=>v= .bool (decide (¬∀x∈l,jz x))/\Ext w I:=by
 refine aB func225 ?_;refine(MO h).Y ?_;rintro _ U _ ⟨a,n,rfl,e⟩;simp only[cH];exact⟨by congr 1;simp only[e],a⟩
abbrev Told:=List (Λ×Int)
def k8(p:Λ×Int):x1×x1:=(ep (pad p.1),Δ p.2)
def eU(w:x4)(g m:Nat)(ai:Λ)(k o:Int)(D:Told):Prop:=
 (∃sv gs,ag w g fO [sv,Δ k,Δ o,.map (σ m)]/\aA .i64 aj w gs sv ai)/\db w m (D.map k8)/\ca ai/\cC o k/\∀p∈D,dt ai p.1/\cC p.2 k/\p.2≠o
theorem eU.W{g m:Nat}{o:Int}{D:Told}(h:eU w g m ai k o D)(a:Ext w I):eU I g m ai k o D:=by
 obtain⟨⟨sv,gs,h1,e⟩,f,j⟩:=h;exact⟨⟨sv,gs,h1.W a,e.W a⟩,f.W a,j⟩
theorem xt{t:Λ}(J:ca ai)(h:dt ai t):t.length=ai.length/\∀x∈t,0<=x/\x<32:=by
 obtain⟨h1,f⟩:=pr.1 h;refine⟨h1.symm,λx j=>?_⟩;obtain⟨i,hi,rfl⟩:=List.getElem_of_mem j;obtain⟨a,e⟩:=aF (l:=ai) (i:=i) Ω;have p:=f i a _ e (x7 hi);have q:=(J.2 a (x6 e)).2;omega
theorem rR{t:Λ}(J:ca ai)(h:dt ai t):nv (pad t):=by
 obtain⟨h1,a⟩:=xt J h;exact MK (by rw[h1];exact J.1) a
theorem eU.qA{g m:Nat}{o:Int}{D:Told}(h:eU w g m ai k o D):∀p∈D.map k8,∃l,keyOf x8 cG p.1=σ l:=λp ac=>by
 obtain⟨q,a,rfl⟩:=j0.1 ac;exact xr (rR h.2.2.1 (h.2.2.2.2 q a).1)
theorem CV{s t:Λ}(J:dt ai s)(a:dt ai t)(h:ep (pad s)=ep (pad t)):s=t:=
 ML ((ua J).symm.F (ua a)) (MI h)
theorem eU.nodup{g m:Nat}{o:Int}{D:Told}(h:eU w g m ai k o D):(D.map (·.1)).Nodup:=by
 have e:=h.2.1.nodup;rw[S5]at e;refine List.Pairwise.of_map (S:=λa b=>a≠b) (λt=>ep (pad t)) (λa b h he=>h (by rw[he])) ?_;rw[S5];exact e
def MP(w:x4)(l:Λ)(k o:Int)(v:x1)(I:x4):Prop:=
 Ext w I/\(¬ca l->v= .tuple #[.pointer ν,Δ 1])/\(ca l->¬cC o k->v= .tuple #[.pointer ν,Δ 3])/\
  (ca l->cC o k->∃g m,v= .tuple #[Γ g,Δ 0]/\w.heap.size<=g/\w.heap.size<=m/\eU I g m l k o [])
theorem CW{o:Int}(h:aM .i64 w sv l):al x8 qa [sv,Δ k,Δ o] w (MP w l k o):=by
 refine aB func178 ?_;refine aV (λv U=>Ext w U/\∃c,v= .bool c/\(c=ro↔¬ca l)) ?_ ?_
 .rintro _ U ⟨e,c,rfl,f⟩;rw[bY];refine⟨λs=>⟨e,λ_=>rfl,λh=>m6 h (f.1 s),λh=>m6 h (f.1 s)⟩,λz=>?_⟩;have J:=Classical.byContradiction λh=>by have:=f.2 h;rw[z]at this;cases this
  have E:=J.1;refine k4.Y ?_;rintro _ aa _ ⟨rfl,a⟩;by_cases hi:cC o k
  rotate_left
  .simp only[hi,decide_false,bC,W7,bH];exact⟨e.F a,λh=>m6 J h,λ_ _=>rfl,λ_ h=>m6 h hi⟩
  simp only[hi,decide_true,bC,X1,aX];refine(mr ((h.W e).W a) Ω).Y ?_;rintro aS G _ ⟨x,A,H,hm⟩;have I:=hm.ls.cells;refine ur λm K L j B=>?_;rw[di (cs:=#[aS,Δ k,Δ o,.map (σ m)]) (by obtain⟨_,_,_,_,_,rfl,_⟩:=hm.ls;kernel_rfl)];refine bo λg M N q C=>?_;have s1:=e.size;have O:=a.size;have P:=x.size;have Q:=j.size;exact⟨((((e.F a).F x).F j).F q),λh=>m6 J h,λ_ h=>m6 hi h,λ_ _=>⟨g,m,rfl,Ω,Ω,⟨aS,A,C,(hm.W j).W q⟩,B.W q,J,hi,λp ac=>by cases ac⟩⟩
 .intro ay y;rw[aY aq.u h];simp only[bO,ak];refine⟨λR=>y _ _ ⟨Ext.refl _,ro,rfl,λ_ J=>by have:=J.1;omega,λ_=>rfl⟩,λS=>?_⟩;refine(CU h).Y ?_;rintro _ aa _ ⟨rfl,a⟩;refine y _ _ ⟨a,_,rfl,?_⟩;rw[ne];exact⟨λr J=>r J.2,λr J=>r ⟨Ω,J⟩⟩
def kH(t:Λ)(i:Nat):Λ:=t.take i++o4 (6-i) 0
theorem MQ{t:Λ}{i:Nat}(hi:i<=t.length)(a:t.length<=6):(kH t i).length=6:=by simp[kH];omega
theorem MR{t:Λ}{i:Nat}{x:Int}(a:t[i]?=σ x)(f:t.length<=6):(kH t i).set i x=kH t (i+1):=by
 have hi:=(x5.1 a).1;unfold kH;have e:(t.take i).length=i:=by rw[o8];omega
 rw[T4 _ _ Ω,e,W8,r8,a];have:6-i=(6-(i+1))+1:=Ω
 rw[this,List.replicate_succ];simp
theorem MS(t:Λ):kH t t.length=pad t:=by simp[kH,pad]
def CX(w:x4)(ai t:Λ)(v:x1)(I:x4):Prop:=Ext w I/\∃a e,v= .tuple #[ep a,Δ e]/\a.length=6/\(dt ai t->a=pad t/\e=0)/\(¬dt ai t->e=3)
theorem MT{g m:Nat}{t:Λ}{o:Int}{D:Told}{aS:x1}(h:eU w g m ai k o D)(I:aM .i64 w aS t):al x8 Kh [Γ g,aS] w (CX w ai t):=by
 obtain⟨⟨sv,gs,K,hm⟩,_,J,_⟩:=h;have aJ:=J.1;refine aB func226 ?_;refine bB cG.i λB U aK X C=>?_;refine bB cG.i λan aa aL L M=>?_;have y:=X.F L;have s1:=X.size;have aN:=L.size;have aP:=C.lt;have aQ:=M.lt;have aT:=K.lt;have C:=C.W L;have ah:=K.W y;rw[cR e1.u];simp only[Z3,aX];have N:∀{f:x4}{E:Λ}{e:Int},Ext w f->ag f an cG (ints .i8 E)->ag f B cG uu->E.length=6->(dt ai t->E=pad t/\e=0)->(¬dt ai t->e=3)->
   ab x8 (u5 cG (Γ an)) f λam=>aH x8 (n9 cG (Γ B) am) f λ(_:Unit)O=>ab x8 (do loadVar cG (<-asAddr (Γ B))) O λap=>CX w ai t (.tuple #[ap,Δ e]) O:=by
  intro f E e q r z H G P;rw[pv H r.range];refine rQ H rfl z λO au aU av=>?_;rw[MM H av.range];exact⟨q.put au Ω,E,e,rfl,H,G,P⟩
 rw[aY aq.u (I.W y),aG fO.p 0 ah rfl,aY aq.u (hm.ls.W y)];simp only[bF,ak];have Y:ints .i8 (kH t 0)=uu:=by simp[kH,uu,ints]
 refine⟨λaw=>N y (by rw[Y];exact M) C (by simp[kH]) (λG=>m6 (by rw[ua G]) aw) (λ_=>rfl),λZ=>?_⟩;have Z:t.length=ai.length:=Ω
 rw[aY aq.u (I.W y)];refine cb.range t.length (λi _ f=>Ext w f/\ag f an cG (ints .i8 (kH t i))/\ag f B cG uu/\∀(j:Nat)(a x:Int),j<i->ai[j]?=σ a->t[j]?=σ x->0<=x/\x<a) Ω
  ⟨y,by rw[Y];exact M,C,λj a x ax=>Ω⟩ ?_ ?_
 .rintro i _ f az hi ⟨q,r,z,Q⟩ aA;simp only[aR,ak];refine⟨λ_=>?_,λh=>Ω⟩;obtain⟨x,s⟩:=aF (l:=t) hi;obtain⟨a,A⟩:=aF (l:=ai) (i:=i) Ω;have aW:=J.2 a (x6 A);rw[bi aq.u aj.i Ψ (I.W q) s];have ac:=MQ (t:=t) (i:=i) Ω Ω;refine aV (λv aC=>f=aC/\v= .bool (decide (¬(0<=x/\x<a)))) ?_ ?_
  .rintro _ _ ⟨rfl,rfl⟩;simp only[ak];refine⟨λaD=>N q r z ac (λG=>m6 ((pr.1 G).2 i a x A s) aD) (λ_=>rfl),λR=>?_⟩;have R:=X5.1 R;rw[fB aj.u gh.u,K4 Ω Ω,wU cG.u gh.i Ω];refine bq gh.i rfl rfl r (by simp[ac];omega) λaZ ad a1 ae=>?_;simp only[aO];refine aA _ _ ⟨q.put ad Ω,?_,z.V ad (by show¬(B=an);omega),λj a' aE ax S W=>?_⟩
   .have e:(ints .i8 (kH t i)).set (0+i*1) (.int .i8 x)=ints .i8 (kH t (i+1)):=by
     rw[<-MR s Ω];simp[ints,T2]
    rw[e]at ae;exact ae
   .by_cases aI:j=i
    .subst aI;rw[A]at S;rw[s]at W;cases S;cases W;exact R
    .exact Q j a' aE Ω S W
  .intro ay af;simp only[aR,ak];refine⟨λa2=>af _ _ ⟨rfl,by rw[m7];omega⟩,λa6=>?_⟩;rw[aG fO.p 0 (K.W q) rfl,bi aq.u aj.i Ψ (hm.ls.W q) A,cH];refine af _ _ ⟨rfl,?_⟩;congr 1;exact decide_eq_decide.2 ⟨λh ao=>Ω,λh=>Ω⟩
 .rintro _ f az ⟨q,r,z,Q⟩;simp only[aR,ak];refine⟨λh=>Ω,λ_=>?_⟩;rw[MS]at r;exact N q r z (by simp[pad];omega) (λ_=>⟨rfl,rfl⟩) (λP=>m6 (pr.2 ⟨Z.symm,λj a x A s=>Q j a x (x5.1 s).1 A s⟩) P)
def jH(D:Told)(o:Int)(t:Λ):Int:=match D.find? (λp=>decide (p.1=t))with
 |some p=>p.2
 |none=>o
theorem CY{D:Told}(e:(D.map (·.1)).Nodup){p q:Λ×Int}(ac:p∈D)(f:q∈D)(h:p.1=q.1):p=q:=by
 obtain⟨i,hi⟩:=X6.1 ac;obtain⟨j,a⟩:=X6.1 f;have h1:(D.map (·.1))[i]?=σ p.1:=by rw[v8,hi];rfl
 have r:(D.map (·.1))[j]?=σ p.1:=by rw[v8,a,h];rfl
 have:=lU e h1 r;subst this;rw[hi]at a;exact Z6 a
theorem rS{D:Told}{o:Int}{t:Λ}(e:(D.map (·.1)).Nodup)(h:(t,c)∈D):jH D o t=c:=by
 unfold jH;cases a:D.find? (λp=>decide (p.1=t))with
 |none=>
  have:=List.find?_eq_none.1 a _ h;simp at this
 |some p=>
  have h1:=List.find?_some a;have h1:p.1=t:=by simpa using h1
  have:=CY e (List.mem_of_find?_eq_some a) h h1;rw[this]
theorem rT{D:Told}{o:Int}{t:Λ}(h:∀p∈D,p.1≠t):jH D o t=o:=by
 unfold jH;cases a:D.find? (λp=>decide (p.1=t))with
 |none=>rfl
 |some p=>
  have h1:=List.find?_some a;have h1:p.1=t:=by simpa using h1
  exact m6 h1 (h p (List.mem_of_find?_eq_some a))
def mz(D:Told)(t:Λ)(c o:Int)(D':Told):Prop:=(∀p,p∈D'↔(c≠o/\p=(t,c))\/(p∈D/\p.1≠t))/\D'.length<=D.length+1
theorem mz.cost{D D':Told}{t:Λ}{o:Int}(h:mz D t c o D')(q:(D.map (·.1)).Nodup)(e:(D'.map (·.1)).Nodup)(s:Λ):jH D' o s=if s=t then c else jH D o s:=by
 by_cases J:s=t
 .subst J;rw[m3 rfl];by_cases f:c=o
  .subst f;exact rT λp ac he=>by
    rcases(h.1 p).1 ac with a|a
    .exact a.1 rfl
    .exact a.2 he
  .exact rS e ((h.1 _).2 (.inl ⟨f,rfl⟩))
 .rw[m5 J];by_cases he:∃p∈D,p.1=s
  .obtain⟨p,ac,rfl⟩:=he;rw[rS q ac];exact rS e ((h.1 _).2 (.inr ⟨ac,J⟩))
  .have j:∀p∈D,p.1≠s:=λp ac h=>he ⟨p,ac,h⟩;rw[rT j];exact rT λp ac a=>by
    rcases(h.1 p).1 ac with⟨_,rfl⟩|⟨r,_⟩
    .exact J a.symm
    .exact j p r a
theorem MU{D:Told}{t:Λ}{o v0:Int}(h:(D.map (·.1)).Nodup)(e:D[j]?=σ (t,v0))(q:c≠o):mz D t c o (D.set j (t,c)):=by
 have f:=(x5.1 e).1;refine⟨λp=>⟨λac=>?_,λac=>?_⟩,Ξ⟩
 .obtain⟨i,hi⟩:=X6.1 ac;by_cases a:j=i
  .subst a;rw[l9 f]at hi;exact .inl ⟨q,(Z6 hi).symm⟩
  .rw[Z9 a]at hi;refine .inr ⟨x6 hi,λhe=>a ?_⟩;exact lU h (by rw[v8,e];rfl) (by rw[v8,hi,Y3,he])
 .rcases ac with⟨_,rfl⟩|⟨ac,r⟩
  .exact x6 (l9 f)
  .obtain⟨i,hi⟩:=X6.1 ac;have a:j≠i:=λhe=>by subst he;rw[e]at hi;cases hi;exact r rfl
   exact x6 (by rw[Z9 a];exact hi)
theorem CZ{D:Told}{t:Λ}{o:Int}(a:∀p∈D,p.1≠t)(e:c≠o):mz D t c o (D++[(t,c)]):=by
 refine⟨λp=>?_,Ξ⟩;rw[j4,j6];exact⟨λh=>h.elim (λh=>.inr ⟨h,a p h⟩) (λh=>.inl ⟨e,h⟩),λh=>h.elim (λh=>.inr h.2) (λh=>.inl h.1)⟩
theorem MV{D:Told}{t:Λ}{o v0:Int}(e:(D.map (·.1)).Nodup)(a:D[j]?=σ (t,v0)):mz D t o o (D.eraseIdx j):=by
 refine⟨λp=>⟨λac=>?_,λac=>?_⟩,by have:=List.length_eraseIdx_le D j;omega⟩
 .refine .inr ?_;obtain⟨i,f,hi⟩:=List.mem_eraseIdx_iff_getElem?.1 ac;refine⟨x6 hi,λhe=>f ?_⟩;exact lU e (by rw[v8,hi,Y3,he]) (by rw[v8,a];rfl)
 .rcases ac with⟨h,_⟩|⟨ac,q⟩
  .exact m6 rfl h
  .obtain⟨i,hi⟩:=X6.1 ac;exact List.mem_eraseIdx_iff_getElem?.2 ⟨i,λhe=>by subst he;rw[a]at hi;cases hi;exact q rfl,hi⟩
theorem MW{D:Told}{t:Λ}{o:Int}(a:∀p∈D,p.1≠t):mz D t o o D:=
 ⟨λp=>⟨λh=>.inr ⟨h,a p h⟩,λh=>h.elim (λh=>m6 rfl h.1) (λh=>h.1)⟩,Ω⟩
theorem C0{g m:Nat}{t:Λ}{o:Int}{D:Told}(h:eU w g m ai k o D)(e:dt ai t)(a:(D.map k8)[j]?=σ (ep (pad t),v)):∃c,D[j]?=σ (t,c)/\v=Δ c:=by
 rw[v8]at a;obtain⟨p,ac,he⟩:=X0.1 a;have h1:=CV (h.2.2.2.2 p (x6 ac)).1 e (congrArg Prod.fst he);exact⟨p.2,by rw[ac,<-h1],(congrArg Prod.snd he).symm⟩
theorem C1{g m:Nat}{t:Λ}{o:Int}{D:Told}(h:eU w g m ai k o D)(a:∀p∈D.map k8,p.1≠ep (pad t)):∀p∈D,p.1≠t:=λp ac he=>a (k8 p) (j0.2 ⟨p,ac,rfl⟩) (by rw[k8,he])
def MX(w:x4)(g m:Nat)(ai t:Λ)(k o c:Int)(D:Told)(v:x1)(I:x4):Prop:=
 (¬(dt ai t/\cC c k)->v=Δ 3/\Ext w I)/\(dt ai t/\cC c k->v=Δ 0/\af (λr=>r=m) w I/\∃D',mz D t c o D'/\eU I g m ai k o D')
theorem C2{g m:Nat}{t:Λ}{o:Int}{D:Told}{aS:x1}(h:eU w g m ai k o D)(ag:aM .i64 w aS t):al x8 JL [Γ g,aS,Δ c] w (MX w g m ai t k o c D):=by
 refine aB func179 ?_;refine(MT h ag).Y ?_;rintro _ U _ ⟨W,aF,e,rfl,M,ah,aj⟩;rw[bu,bw];refine bB cG.i λan aa aH X Y=>?_;refine rQ M rfl Y λZ am aI ab=>?_;have s1:=W.size;have aJ:=X.size;have aK:=Y.lt;have H:=(W.F X).put am Ω;refine aV (λv N=>v=Δ 0/\(dt ai t/\cC c k)/\af (λr=>r=m) w N/\∃D',mz D t c o D'/\eU N g m ai k o D') ?_ ?_
 .rintro _ N ⟨_,h1,E⟩;exact⟨λh=>m6 h1 h,λ_=>⟨rfl,E⟩⟩
 intro ay ap;simp only[bF,ak];by_cases A:dt ai t
 rotate_left
 .have he:=aj A;subst he;exact⟨λ_=>⟨λ_=>⟨rfl,H⟩,λh=>m6 h.1 A⟩,λh=>by simp at h⟩
 obtain⟨rfl,rfl⟩:=ah A;refine⟨λh=>m6 rfl h,λ_=>?_⟩;have x:=h.W H;obtain⟨⟨sv,gs,y,hm⟩,I,J,aq,au⟩:=id x;rw[aG fO.p 1 y rfl];refine k4.Y ?_;rintro _ av _ ⟨rfl,z⟩;have aw:=H.F z;by_cases hi:cC c k
 rotate_left
 .simp only[hi,decide_false,bC,W7,bH];exact⟨λ_=>⟨rfl,aw⟩,λh=>m6 h.2 hi⟩
 simp only[hi,decide_true,bC,X1,aX];rw[aG fO.p 2 (y.W z) rfl];simp only[bk,ak,eH];have ad:=xr (rR J A);have ax:∀{D':Told},mz D t c o D'->∀p∈D',dt ai p.1/\cC p.2 k/\p.2≠o:=λhu p ac=>by
  rcases(hu.1 p).1 ac with⟨C,rfl⟩|⟨h1,_⟩
  .exact⟨A,hi,C⟩
  .exact au p h1
 have K:∀{G B:x4}{D':Told},Ext av G->af (λr=>r=m) G B->db B m (D'.map k8)->mz D t c o D'->ay (Δ 0) B:=by
  intro G B D' f q az hu;have aA:g≠m:=λhe=>by
   obtain⟨aC,aD,ao,_⟩:=I;have y:Z.heap[g]?=_:=y;rw[he,ao]at y;cases y
  have aE:∀r,lc sv r->r≠m:=λr ae he=>by
   subst he;obtain⟨aC,aD,ao,_⟩:=I;obtain⟨_,⟨rfl,_⟩|⟨cap,cs,rfl,L,_⟩⟩:=hm
   .obtain⟨a,n,c,h1,_⟩:=ae;cases h1
   .obtain⟨a,n,c,h1,E⟩:=ae;cases h1;have L:Z.heap[gs]?=_:=L;have E:gs=r:=E;rw[E,ao]at L;cases L
  have O:=z.F f;exact ap _ _ ⟨rfl,⟨A,hi⟩,((H.F O).V _).F q,D',hu,⟨sv,gs,(y.W O).V q aA,bs (hm.W O) q aE⟩,az,J,aq,ax hu⟩
 refine⟨λC G f _ _=>?_,λC G f _ _=>?_⟩
 .rw[aG fO.p 3 ((y.W z).W f) rfl,pv M ((ab.W z).W f).range];subst C;refine MF j1.u keys ((I.W z).W f) x.qA ad (λj v0 B P s q=>?_) (λB Q s q=>?_)
  .obtain⟨fo,R,_⟩:=C0 x A P;rw[od]at s;exact K f q s (MV x.nodup R)
  .exact K f q s (MW (C1 x Q))
 .rw[aG fO.p 3 ((y.W z).W f) rfl,pv M ((ab.W z).W f).range];refine rP j1.u keys ((I.W z).W f) x.qA ad (λj v0 B P s q=>?_) (λB Q s q=>?_)
  .obtain⟨fo,R,_⟩:=C0 x A P;have S:(D.map k8).set j (ep (pad t),Δ c)=(D.set j (t,c)).map k8:=by rw[T2];rfl
   rw[S]at s;exact K f q s (MU x.nodup R C)
  .have S:D.map k8++[(ep (pad t),Δ c)]=(D++[(t,c)]).map k8:=by rw[Z5];rfl
   rw[S]at s;exact K f q s (CZ (C1 x Q) C)
theorem MY{g m:Nat}{t:Λ}{o:Int}{D:Told}{b:Bool}(h:eU w g m ai k o D)(a:dt ai t)(h1:∀c,(t,c)∈D->K (if b then .tuple #[Δ c,.bool ro]else Δ c))(r:(∀p∈D,p.1≠t)->K (if b then .tuple #[Δ 0,.bool rs]else Δ 0)):
  ab x8 (Instr.lookup j1 (.map (σ m)) (ep (pad t)) b) w K:=by
 have e:=xr (rR h.2.2.1 a);by_cases he:∃p∈D,p.1=t
 .obtain⟨p,ac,rfl⟩:=he;obtain⟨j,s⟩:=X6.1 ac;rw[rO j1.u keys h.2.1 h.qA e (j:=j) (v:=Δ p.2) (by rw[v8,s];rfl)];exact h1 p.2 ac
 .have f:∀p∈D,p.1≠t:=λp ac h=>he ⟨p,ac,h⟩;rw[ut j1.u keys ⟨_,_,au.i⟩ h.2.1 h.qA e (λq x hk=>by
   obtain⟨p,ac,rfl⟩:=j0.1 x;exact f p ac (CV (h.2.2.2.2 p ac).1 a hk))]
  exact r f
theorem MZ{g m:Nat}{o:Int}{D:Told}(h:eU w g m ai k o D):al x8 Kl [Γ g] w λv I=>v=Δ D.length/\Ext w I:=by
 obtain⟨⟨sv,gs,a,hm⟩,e,_⟩:=h;refine aB func232 ?_;rw[cR e1.u];simp only[Z3,aX];rw[aG fO.p 3 a rfl,MG j1.u e];exact⟨Ξ,Ext.refl _⟩
theorem M0{g m:Nat}{o:Int}{D:Told}(h:eU w g m ai k o D):al x8 KS [Γ g] w λv I=>v=Δ k/\Ext w I:=by
 obtain⟨⟨sv,gs,a,hm⟩,_⟩:=h;refine aB func292 ?_;rw[cR e1.u];simp only[Z3,aX];rw[aG fO.p 1 a rfl];exact⟨rfl,Ext.refl _⟩
theorem xu{g m:Nat}{o:Int}{D:Told}(h:eU w g m ai k o D):al x8 Km [Γ g] w λv I=>Ext w I/\∃a,w.heap.size<=a/\aA .i64 aj I a v ai:=by
 obtain⟨⟨sv,gs,e,hm⟩,_,J,_⟩:=h;have f:=J.1;refine aB func233 ?_;rw[cR e1.u];simp only[Z3,aX];rw[aG fO.p 0 e rfl];exact mr hm.ls Ω
theorem M1{g m:Nat}{o:Int}{D:Told}(h:eU w g m ai k o D):al x8 KT [Γ g] w λv I=>v=Δ ai.length/\Ext w I:=by
 refine aB func293 ?_;refine(xu h).Y ?_;rintro v U _ ⟨a,e,_,hm⟩;rw[aY aq.u hm.ls];exact⟨rfl,a⟩
end Go.Proofs.YtnhkbjhpbbobaaaGreatDoor
namespace Go.Vc
open Go Go.RowKit
set_option maxRecDepth 100000
def hp(v:x1)(r:Nat):Prop:=∃a n c,v= .slice (σ a) n c/\a.block=r
theorem fq(h:hp (.slice ν 0 0) r):False:=by
 obtain⟨a,n,c,h,_⟩:=h;cases h
section
variable{α:Type}{f:α->List x1}{k:Nat}
theorem gN:∀{L:List α},(∀a∈L,(f a).length=k)->(L.flatMap f).length=L.length*k
 |[],_=>Ξ
 |a::L,h=>by
  rw[W9,r9,h a (.head _),gN λb e=>h b (.tail _ e),Z4,U7];omega
theorem rU:∀{L:List α}(i:Nat),(∀a∈L,(f a).length=k)->(L.flatMap f).take (i*k)=(L.take i).flatMap f
 |[],i,_=>Ξ
 |a::L,0,_=>Ξ
 |a::L,i+1,h=>by
  have e:=h a (.head _);rw[W9,List.take_succ_cons,W9,<-rU i λb j=>h b (.tail _ j),U7,Nat.one_mul,Nat.add_comm,List.take_append,e];congr 1
  .exact j5 Ω
  .congr 1;omega
theorem uv:∀{L:List α}(i:Nat),(∀a∈L,(f a).length=k)->(L.flatMap f).drop (i*k)=(L.drop i).flatMap f
 |[],i,_=>Ξ
 |a::L,0,_=>Ξ
 |a::L,i+1,h=>by
  have e:=h a (.head _);rw[W9,List.drop_succ_cons,<-uv i λb j=>h b (.tail _ j),U7,Nat.one_mul,Nat.add_comm,List.drop_append,e];rw[List.drop_of_length_le Ω,List.nil_append];congr 1;omega
theorem pw{L:List α}{i:Nat}{a:α}(h:∀a∈L,(f a).length=k)(hi:L[i]?=σ a)(e:(f a)[j]?=σ v):(L.flatMap f)[i*k+j]?=σ v:=by
 have q:=(x5.1 e).1;rw[<-List.getElem?_drop,uv i h];have p:=x5.1 hi;rw[X8 p.1,p.2,W9,Y2 q];exact e
theorem xv{L:List α}{i:Nat}{a:α}(h:∀a∈L,(f a).length=k)(e:(f a).length=k)(hi:i<L.length):over (L.flatMap f) (i*k) (f a)=(L.set i a).flatMap f:=by
 have p:=gN h;have j:(i+1)*k<=L.length*k:=Y5 _ hi;rw[U7,Nat.one_mul]at j;rw[nZ Ω,e,rU i h,show i*k+k=(i+1)*k by rw[U7,Nat.one_mul],uv (i+1) h,List.set_eq_take_append_cons_drop,m3 hi,List.flatMap_append,W9,X9]
theorem uw{vs:List x1}{o m:Nat}(h1:o+vs.length<=m)(a:m<=cs.length):(over cs o vs).take m=over (cs.take m) o vs:=by
 rw[nZ Ω,nZ (by rw[o8];omega),X9,X9,List.take_append,List.take_append,List.take_take,List.take_take,List.drop_take,o8];rw[show min m o=o by omega,show min o m=o by omega,show min o cs.length=o by omega,j5 (l:=vs) Ω];congr 3;omega
def bh(f:α->List x1)(k:Nat)(e:p9)(w:x4)(g:Nat)(v:x1)(L:List α):Prop:=b0 w g e k v L.length (L.flatMap f)/\∀a∈L,(f a).length=k
variable{P:V5}{w:x4}{e:p9}{g:Nat}{v:x1}{L:List α}
theorem bh.nil(f:α->List x1)(k:Nat)(e:p9)(w:x4)(g:Nat):bh f k e w g (.slice ν 0 0) []:=⟨b0.nil w g e k,λa h=>by cases h⟩
theorem bh.lc(h:bh f k e w g v L)(j:hp v r):r=g/\g<w.heap.size:=by
 obtain⟨_,⟨rfl,_⟩|⟨cap,cs,rfl,p,_⟩⟩:=h.1
 .exact (fq j).elim
 .obtain⟨a,n,c,h1,q⟩:=j;cases h1;exact⟨q.symm,p.lt⟩
theorem bh.V(h:bh f k e w g v L)(a:af S w I)(j:∀r,hp v r->¬S r):bh f k e I g v L:=
 ⟨⟨h.1.1,h.1.2.imp id λ⟨cap,cs,h1,p,q⟩=>⟨cap,cs,h1,p.V a (j g ⟨_,_,_,h1,rfl⟩),q⟩⟩,h.2⟩
theorem bh.W(h:bh f k e w g v L)(a:Ext w I):bh f k e I g v L:=h.V (a.V λ_=>False) λ_ _ h=>h
theorem bh.sl(h:bh f k e w g v L):cg w k v L.length (L.flatMap f):=h.1.sl
theorem bh.le(h:bh f k e w g v L):L.length<=9223372036854775807:=by
 have:=cg.le h.sl;simpa[maxLen]using this
theorem dE{a:p9}(j:P.underlying t=σ (.slice e))(h:bh f k e w g v L):ab P (V7 #[t] a #[v]) w K=K (Δ L.length):=by
 obtain⟨_,_,_,_,_,rfl,_⟩:=h.sl;exact iL j
theorem b7{q:o7}{b:Nat}{i:Nat}(a:y=(i:Int))(j:P.underlying t=σ (.slice e))(hi:aP P e k b z)(h:bh f k e w g v L)(p:i<L.length):
  ab P (Z0 t v (.int q y)) w K=K (.pointer (σ ⟨g,i*k,ν⟩)):=by
 subst a;obtain⟨_,⟨rfl,r⟩|⟨cap,cs,rfl,s,x⟩⟩:=h.1
 .omega
 .rw[fd j hi p (λ_=>rfl),W0]
theorem bh.range{i:Nat}{a:α}(h:bh f k e w g v L)(hi:L[i]?=σ a):w.rangeAt g (i*k) (f a):=λj u hu=>by
 have h1:=pw h.2 hi hu;have s:=(x5.1 hi).1;obtain⟨_,⟨rfl,x⟩|⟨cap,cs,rfl,q,_,_,y,r⟩⟩:=h.1
 .omega
 .have p:=(x5.1 h1).1;rw[gN h.2]at p;rw[<-r,Y7 p]at h1;exact q.cell h1
theorem ux{b:Nat}{i:Nat}{a:α}{K:Unit->x4->Prop}(hi:aP P t k b z)(h:bh f k e w g v L)(j:(f a).length=k)(h1:∀u∈f a,u.oneCell'=ro)(s:i<L.length)(A:∀I,af (λr=>hp v r) w I->I.heap.size=w.heap.size->bh f k e I g v (L.set i a)->K () I):aH P (n9 t (.pointer (σ ⟨g,i*k,ν⟩)) (.agg (f a).toArray)) w K:=by
 have N:=gN h.2;have B:(i+1)*k<=L.length*k:=Y5 _ s;rw[U7,Nat.one_mul]at B;obtain⟨⟨O,⟨rfl,Q⟩|⟨cap,cs,rfl,C,x,E,y,F⟩⟩,p⟩:=h
 .omega
 .have G:L.length*k<=cs.length:=by rw[y];exact Y5 _ x
  refine Bk hi j h1 C Ω λI H J M=>A I (H.Y λr _ he=>⟨_,_,_,rfl,he.symm⟩) J ⟨⟨?_,.inr ⟨cap,_,Ξ,M,by simpa using x,E,by rw[nn,y],?_⟩⟩,λb q=>?_⟩
  .rw[gN λb q=>by
    rcases V0 q with h|rfl
    .exact p b h
    .exact j]
  .rw[o5,<-xv p j s,<-F,uw (by rw[j];omega) G]
  .rcases V0 q with h|rfl
   .exact p b h
   .exact j
theorem k9{b:Nat}{u:x1}{i:Nat}{a a':α}{K:Unit->x4->Prop}(hi:aP P t 1 b z)(hu:u.cells= #[u])(h1:u.oneCell'=ro)(h:bh f k e w g v L)(s:L[i]?=σ a)(A:f a'=(f a).set j u)(W:j<k)(M:∀I,af (λr=>hp v r) w I->I.heap.size=w.heap.size->bh f k e I g v (L.set i a')->K () I):aH P (n9 t (.pointer (σ ⟨g,i*k+j,ν⟩)) u) w K:=by
 have B:=(x5.1 s).1;have X:=gN h.2;have N:(i+1)*k<=L.length*k:=Y5 _ B;rw[U7,Nat.one_mul]at N;have O:(f a).length=k:=h.2 a (x6 s);have q:(f a').length=k:=by rw[A,o5];exact O
 have Q:(L.flatMap f).set (i*k+j) u=(L.set i a').flatMap f:=by
  rw[<-xv h.2 q B];refine X3 λp=>?_;rw[pc _ _ _ Ω,Y6,q];by_cases ac:i*k<=p/\p<i*k+k
  .rw[m3 ac,A,Y6];by_cases C:i*k+j=p
   .rw[m3 C,m3 Ω,m3 Ω,m3 Ω]
   .rw[m5 C,m5 Ω];obtain⟨y,E⟩:∃y,(f a)[p-i*k]?=σ y:=⟨_,x7 Ω⟩;have:=pw h.2 s E;rw[show i*k+(p-i*k)=p by omega]at this;rw[this,E]
  .rw[m5 ac,m5 Ω]
 obtain⟨⟨Y,⟨rfl,Z⟩|⟨cap,cs,rfl,R,F,S,G,T⟩⟩,H⟩:=h
 .omega
 .have aa:L.length*k<=cs.length:=by rw[G];exact Y5 _ F
  refine bq hi hu h1 R Ω λI U J V=>M I (U.Y λr _ he=>⟨_,_,_,rfl,he.symm⟩) J ⟨⟨?_,.inr ⟨cap,_,Ξ,V,by simpa using F,S,by rw[o5,G],?_⟩⟩,λb x=>?_⟩
  .rw[gN λb x=>by
    rcases V0 x with h|rfl
    .exact H b h
    .exact q]
  .rw[o5,<-Q,<-T,List.take_set]
  .rcases V0 x with h|rfl
   .exact H b h
   .exact q
theorem jo{N:p9}{b:Nat}{x:x1}{a:α}{K:x1->x4->Prop}(A:P.underlying t=σ (.slice e))(hi:aP P e k b z)(H:z.cells.size=k)(h:bh f k e w g v L)(F:cg w k x 1 (f a))(h1:∀u∈f a,u.oneCell'=ro)(B:(L.length+1)*b<=140737488355328)(J:L.length+1<=9223372036854775807)(M:∀j p I,bh f k e I p j (L++[a])->(∀r,hp j r->hp v r\/w.heap.size<=r)->af (λr=>hp v r) w I->K j I):aH P (Y0 #[t,t] N #[v,x]) w K:=by
 have O:(f a).length=k:=by have:=F.1;omega
 have C:∀j p I,b0 I p e k j (L.length+1) (L.flatMap f++f a)->bh f k e I p j (L++[a]):=λj p I hm=>⟨by simpa using hm,λb B=>by
  rcases j4.1 B with aW|aW
  .exact h.2 b aW
  .rw[j6.1 aW];exact O⟩
 rcases h.1.2 with⟨q,Q⟩|⟨cap,cs,q,R,_⟩
 .have hm:b0 w w.heap.size e k v L.length (L.flatMap f):=⟨h.1.1,.inl ⟨q,Q⟩⟩;subst q;refine pe A A hi H hm F h1 (by simpa using B) (by simpa[maxLen]using J) λj p I E s G=>M j p I (C _ _ _ s) (λr y=>.inr ?_) (G.Y λr y h=>Ω);have:=((C _ _ _ s).lc y).1;omega
 .refine pe A A hi H h.1 F h1 (by simpa using B) (by simpa[maxLen]using J) λj p I E s G=>M j p I (C _ _ _ s) (λr y=>?_) (G.Y λr y h=>⟨_,_,_,q,h.symm⟩);have:=((C _ _ _ s).lc y).1;rcases E with E|E
  .exact .inl ⟨_,_,_,q,by show g=r;omega⟩
  .exact .inr Ω
theorem M2{p:p9}{b:Nat}{x:x1}{a:α}{K:x1->x4->Prop}(q:P.underlying t=σ (.slice e))(hi:aP P e k b z)(s:z.cells.size=k)(h:bh f k e w g v L)(y:cg w k x 1 (f a))(h1:∀a,∀u∈f a,u.oneCell'=ro)(A:(L.length+1)*b<=140737488355328)(B:L.length+1<=9223372036854775807)(C:∀j E I,bh f k e I E j (L++[a])->(∀r,hp j r->hp v r\/w.heap.size<=r)->af (λr=>hp v r) w I->K j I):aH P (Y0 #[t,t] p #[v,x]) w K:=jo q hi s h y (h1 a) A B C
theorem iS{b:Nat}{a:α}{x:x1}{K:x1->x4->Prop}(q:P.underlying t=σ (.slice e))(hi:aP P e k b z)(B:k<=100000)(j:x.cells=(f a).toArray)(p:(f a).length=k)(r:∀v g I,g=w.heap.size->Ext w I->bh f k e I g v [a]->K v I):aH P (X2 t 1 #[(0,x)]) w K:=
 lL q hi Ω (cs:=x.cells) (Bs Ξ (by rw[j];simpa using p)) λg I s y h=>by
  have h:ag I g e (f a):=by rw[j]at h;simpa using h
  exact r _ g I s y ⟨by simpa using b0.full (n:=1) h Ω (by simp[maxLen]),λc A=>by rw[j6.1 A];exact p⟩
end
end Go.Vc
namespace Go.Proofs.YtnhkbjhpbbobaaaGreatDoor
open Go Go.Vc Go.RowKit Go.Proofs Go.Proofs.Tryz
set_option maxRecDepth 100000
theorem xw{α:Type}:∀{l:List α}{j:Nat}{x:α},l[j]?=σ x->(x::l.eraseIdx j).Perm l
 |[],j,x,h=>by simp at h
 |a::l,0,x,h=>by simp at h;subst h;exact List.Perm.refl _
 |a::l,j+1,x,h=>by
  simp at h;rw[List.eraseIdx_cons_succ];exact(List.Perm.swap a x _).F ((xw h).cons a)
theorem C3{α:Type}{l:List α}(h:j<l.length):(l.eraseIdx j).length+1=l.length:=by
 rw[List.length_eraseIdx,m3 h];omega
def qB(w:x4)(a:Nat):Nat:=match w.heap[a]? with
 |some (.mapIter (σ m) _ seen _)=>(match w.heap[m]? with
  |some (.map e _)=>(leftOf e seen).size
  |_=>0)
 |_=>0
theorem uy{a m:Nat}{d left:List (x1×x1)}{e:Option (x1×x1)}(h:iR w a m d left e):qB w a=left.length:=by
 obtain⟨j,p,seen,fo,h1,_,_,f,_,rfl,_⟩:=h;unfold qB;rw[f];simp only;rw[h1];simp
theorem M3{w0:x4}{a m:Nat}{d d0 left:List (x1×x1)}{e:Option (x1×x1)}(h:iR w a m d left e)(hm:db w0 m d0)(h1:Ext w0 w)(j:Ext w0 I)(hi:e9 w I):iR I a m d left e:=by
 obtain⟨p,c,s,fo,q,r,x,y,z⟩:=h;obtain⟨A,B,f1,_⟩:=hm;have g1:=h1.aZ m _ f1 rfl;have f:=j.aZ m _ f1 rfl;rw[q]at g1;rw[<-g1]at f;exact⟨p,c,s,fo,f,r,x,hi a _ y rfl,z⟩
abbrev px(w:x4)(g:Nat)(v:x1)(L:List (Λ)):Prop:=bh (ints .i8) 6 cG w g v L
theorem C4{k:o7}:∀u∈ints k l,u.oneCell'=ro:=λu hu=>by
 obtain⟨x,_,rfl⟩:=j0.1 hu;rfl
theorem keysIter{c0 m:Nat}{d:List (x1×x1)}{e:List (Λ)}{w0:x4}(Q:ag w0 c0 j1 [.map (σ m)])(hm:db w0 m d)(R:d.map (·.1)=e.map ep)(S:∀a∈e,a.length=6):
  p2 x8 ro nf [Γ c0] ([]:List (Λ)) (λh=>h.Perm e) (λh vs aW _=>∃a∈e,h.length<e.length/\vs=[ep a]/\aW=h++[a]) (λw=>Ext w0 w):=by
 refine⟨nf.enters,λl ay aF w r _ V s W=>?_⟩;refine qg func290 ?_;rw[aD Ψ ((Q.W s).cell rfl)];refine aH.cu (CO j1.u (hm.W s) λC U X x aG Y Z=>?_);refine⟨λaa=>∃h f left E,ay h aa/\Ext w0 aa/\w.heap.size<=aa.heap.size/\iR aa C m d left E/\left.map (·.1)=f.map ep/\(h++f).Perm e,λaa=>qB aa C,
  ⟨[],e,d,ν,r _ _ _ x Z.b W,s.F x,x.size,Y,R,List.Perm.refl _⟩,?_⟩
 rintro aa ⟨h,f,left,E,G,ab,aI,H,y,q⟩;have ad:left.length=f.length:=by have:=congrArg R6 y;simpa using this
 refine CQ H (λh=>by cases h) (λae=>?_) (λj p aJ ac I af J=>?_)
 .rw[j3 (v:=.bool rs) rfl,aX];subst ae;have:f=[]:=c9 (by rw[<-ad];rfl);subst this;rw[W5]at q;exact .inl ⟨h,q,G⟩
 .rw[j3 (v:=.bool ro) rfl,bH];refine CR J ?_;obtain⟨a,z,ah⟩:∃a,f[j]?=σ a/\p.1=ep a:=by
   have h1:(left.map (·.1))[j]?=σ p.1:=by rw[v8,ac];rfl
   rw[y,v8]at h1;obtain⟨a,K,ai⟩:=X0.1 h1;exact⟨a,K,ai.symm⟩
  have L:=q.mem_iff.1 (j4.2 (.inr (x6 z)));have M:=S a L;rw[j3 (v:=p.1) rfl,ah];refine aH.cu (bB cG.i λaK aL aM aj ak al=>?_);refine aH.cu (rQ M rfl ak λam an aN ao ap=>?_);rw[pv M ao.range];have A:=aj.put an Ω;have N:=al.F ap;have O:=(ab.F I).F A;have aq:=r _ _ _ I (by rw[<-X];exact af) G;have au:=r _ _ _ A N.b aq;have av:=J.W A N.lD;have aw:h.length<e.length:=by
   have h1:=q.length_eq;have K:=(x5.1 z).1;rw[r9]at h1;omega
  refine⟨rfl,(V h (h++[a]) _ am O ⟨a,L,aw,rfl,rfl⟩ au).Y ?_⟩;rintro _ ax (⟨rfl,P,az,aA⟩|⟨rfl,aB⟩)
  .simp only[bC,X1,aX];have B:=M3 av hm O P (aA rfl).lD;have aC:w.heap.size<=ax.heap.size:=by
    obtain⟨_,_,_,_,_,_,_,aE,_⟩:=B;have:=(j9.1 aE).1;omega
   refine⟨⟨h++[a],f.eraseIdx j,left.eraseIdx j,σ p,az,P,aC,B,?_,?_⟩,?_⟩
   .rw[<-od,y,od]
   .refine List.Perm.trans ?_ q;rw[X9];exact List.Perm.append_left h (xw z)
   .rw[uy B,uy H];have:=C3 (x5.1 ac).1;omega
  .simp only[bC,W7,bH];exact .inr ⟨h,aB⟩
theorem M4{m:Nat}:al x8 Kz [.map (σ m)] w λr I=>Ext w I/\∃g,r= .func (.func nf) #[] #[Γ g]/\w.heap.size<=g/\ag I g j1 [.map (σ m)]:=by
 refine aB func256 ?_;refine bo λg U f a e=>?_;rw[lK];exact⟨a,g,rfl,Ω,e⟩
theorem M5{c0 m:Nat}{d:List (x1×x1)}{s:List (Λ)}(Z:ag w c0 j1 [.map (σ m)])(hm:db w m d)(ab:d.map (·.1)=s.map ep)(H:∀j∈s,j.length=6)(aC:s.length<=1000000):
  al x8 KV [.slice ν 0 0,.func (.func nf) #[] #[Γ c0]] w λv I=>Ext w I/\∃g L,(∀r,hp v r->w.heap.size<=r)/\L.Perm s/\px I g v L:=by
 refine iK func303 ?_;refine bo λgs U aE J x=>?_;have x:=x;have aF:=x.lt;refine kX.old ⟨List (Λ),ro,_,_,_,_,_,_,λh I=>af (λr=>w.heap.size<=r) w I/\∃v g,ag I gs k1 [v]/\(∀r,hp v r->w.heap.size<=r/\r≠gs)/\px I g v h,λ_ _ _=>False,rfl,keysIter Z hm ab H,?_,λ_ _ p h=>h.F p,
  λ_ _ _ p h=>⟨h.1.F (p.V _),by obtain⟨v,g,h1,ac,ad⟩:=h.2;exact⟨v,g,h1.W p,ac,ad.W p⟩⟩,λ_ _ _ _ _ h=>h,J,⟨J.V _,_,0,x,λr h=>(fq h).elim,bh.nil _ _ _ _ _⟩,?_,?_,λ_ _ h=>h.elim,λ_ _ _ h=>h.elim⟩
 .rintro h _ aW I ⟨j,_,_,rfl,_⟩;rfl
 .rintro a h aW aa ae ⟨j,ah,aG,ai,rfl⟩ ⟨K,v,g,A,cL,B⟩;cases ai;have C:=H j ah;have aI:h.length<=1000000:=Ω
  refine aH.cu (bB cG.i λaJ aK aL aj M ak=>?_);refine aH.cu (rQ C rfl M λaM am aN an ao=>?_);intro aO N _ ap;have aP:=M.lt;have aq:=aj.put am Ω;have q:=aq.F N;rw[aD Ψ ((A.W q).cell rfl),pv C (an.W N).range];refine aH.cu (iS (f:=ints .i8) (a:=j) k1.u cG.i Ω (by simp[ep,x1.cells]) (by simp[C]) λa ga aQ aR y au av=>?_);have O:=au.sl;rw[W9,List.flatMap_nil,W5]at O;refine aH.cu (M2 k1.u cG.i rfl ((B.W q).W y) O (λa=>C4) Ω Ω λP aw Q E ax z ay=>?_);have aS:=K.size;have aT:=q.size;have aU:=y.size;have aV:=A.lt;have R:∀r,hp P r->w.heap.size<=r/\r≠gs:=λr e=>by
   rcases ax r e with h|h
   .exact cL r h
   .omega
  have G:ag Q gs k1 [v]:=((A.W q).W y).V z (λh=>(cL gs h).2 rfl);refine aH.cu (bq k1.i (by obtain⟨_,_,_,_,_,rfl,_⟩:=E.sl;rfl) (by obtain⟨_,_,_,_,_,rfl,_⟩:=E.sl;rfl) G Ξ λS W aX az aA=>?_);have X:af (λr=>w.heap.size<=r) aa S:=(((q.F y).V _).F (z.Y λr _ h=>(cL r h).1)).F (W.Y λr _ h=>by show w.heap.size<=r;omega);refine⟨ae.then X (λr e h=>by have h:=h;omega),⟨K.F X,P,aw,az,R,E.V W λr e h=>(R r e).2 h⟩,λ_=>?_⟩;exact((((ak.lD.F ao.lD).F ap).F av.lD).F ay.lD).F aA.lD
 .rintro h Q aB ⟨z,v,g,G,cL,B⟩;rw[aD Ψ (G.cell rfl)];intro S Y _;exact⟨(z.W λr e h=>by have:w.heap.size<=r:=h;omega).F Y,g,h,λr e=>(cL r e).1,aB,B.W Y⟩
theorem M6{c0 m:Nat}{d:List (x1×x1)}{a:List (Λ)}(e:ag w c0 j1 [.map (σ m)])(hm:db w m d)(f:d.map (·.1)=a.map ep)(j:∀p∈a,p.length=6)(q:a.length<=1000000):
  al x8 KP [.func (.func nf) #[] #[Γ c0]] w λv I=>Ext w I/\∃g L,(∀r,hp v r->w.heap.size<=r)/\L.Perm a/\px I g v L:=by
 refine aB func288 ?_;exact(M5 e hm f j q).Y λ_ _ _ h=>h
def ib:Λ->Int
 |[]=>0
 |x::l=>x*32 ^ l.length+ib l
theorem xx(n:Nat):(0:Int)<32 ^ n:=Int.pow_pos Ω
theorem uz:∀(l:Λ),(∀x∈l,0<=x/\x<32)->0<=ib l/\ib l<32 ^ l.length
 |[],_=>by simp[ib]
 |x::l,h=>by
  have j:=uz l λy a=>h y (.tail _ a);have f:=h x (.head _);have ac:=xx l.length;simp only[ib,Z4];have e:(32:Int) ^ (l.length+1)=32*32 ^ l.length:=by rw[Int.pow_succ,Int.mul_comm]
  have h1:x*32 ^ l.length<=31*32 ^ l.length:=Int.mul_le_mul_of_nonneg_right Ω Ω;have p:0<=x*32 ^ l.length:=Int.mul_nonneg f.1 Ω;rw[e];omega
def kd:Λ->Λ->Int
 |x::a,y::b=>if x<y then-1 else if y<x then 1 else kd a b
 |_,_=>0
theorem C5:∀(a b:Λ),a.length=b.length->(∀x∈a,0<=x/\x<32)->(∀x∈b,0<=x/\x<32)->(kd a b<0↔ib a<ib b)/\(ib a=ib b->a=b)
 |[],[],_,_,_=>by simp[kd]
 |[],_::_,h,_,_=>by simp at h
 |_::_,[],h,_,_=>by simp at h
 |x::a,y::b,h,s,w=>by
  have j:a.length=b.length:=by simpa using h
  have p:∀x∈a,0<=x/\x<32:=λz e=>s z (.tail _ e);have q:∀x∈b,0<=x/\x<32:=λz e=>w z (.tail _ e);have r:=C5 a b j p q;have A:=uz a p;have C:=uz b q;have ac:=xx b.length;simp only[kd,ib];rw[j]at A ⊢;have step:∀u v:Int,u<v->u*32 ^ b.length+32 ^ b.length<=v*32 ^ b.length:=λu v E=>by
   have:=Int.mul_le_mul_of_nonneg_right (show u+1<=v by omega) (show(0:Int)<=32 ^ b.length by omega);rw[Int.add_mul,Int.one_mul]at this;exact this
  by_cases h1:x<y
  .rw[m3 h1];have:=step x y h1;exact⟨⟨λ_=>Ω,λ_=>Ω⟩,λh=>Ω⟩
  .rw[m5 h1];by_cases f:y<x
   .rw[m3 f];have:=step y x f;exact⟨⟨λh=>Ω,λh=>Ω⟩,λh=>Ω⟩
   .rw[m5 f];have B:x=y:=Ω
    subst B;exact⟨r.1.F ⟨λh=>Ω,λh=>Ω⟩,λh=>by rw[r.2 Ω]⟩
theorem xy:∀{a b:Λ}{i:Nat},(∀(j:Nat)(x y:Int),j<i->a[j]?=σ x->b[j]?=σ y->x=y)->i<=a.length->i<=b.length->kd a b=kd (a.drop i) (b.drop i)
 |_,_,0,_,_,_=>Ξ
 |[],_,i+1,_,h,_=>by simp at h
 |_::_,[],i+1,_,_,h=>by simp at h
 |x::a,y::b,i+1,he,h1,e=>by
  have f:=he 0 x y Ω rfl rfl;subst f;simp only[kd,Int.lt_irrefl,if_false,List.drop_succ_cons];exact xy (λj u v q hu p=>he (j+1) u v Ω hu p) (by simpa using h1) (by simpa using e)
theorem C6{x:Int}:al x8 KU [.int .i8 x] w λv I=>v= .bool rs/\Ext w I:=by
 refine aB func302 ?_;simp only[bF];exact⟨Ξ,Ext.refl _⟩
theorem M7{x:Int}:al x8 KO [.int .i8 x,.int .i8 y] w λv I=>v=Δ (if x<y then-1 else if y<x then 1 else 0)/\Ext w I:=by
 refine aB func287 ?_;refine C6.Y ?_;rintro _ U _ ⟨rfl,a⟩;refine C6.Y ?_;rintro _ aa _ ⟨rfl,e⟩;simp only[aX,aR,bO,ak];exact⟨λh=>⟨by rw[m3 h],a.F e⟩,λh=>⟨λf=>⟨by rw[m5 h,m3 f],a.F e⟩,λf=>⟨by rw[m5 h,m5 f],a.F e⟩⟩⟩
theorem M8{bm bv:x1}{b:Λ}(q:aM .i8 w bm a)(s:aM .i8 w bv b)(S:a.length=b.length):al x8 Kx [bm,bv] w λv I=>v=Δ (kd a b)/\Ext w I:=by
 refine aB func254 ?_;have V:=q.le;rw[aY mn.u q];refine cb.range a.length (λi _ U=>Ext w U/\∀(j:Nat)(x y:Int),j<i->a[j]?=σ x->b[j]?=σ y->x=y) Ω ⟨Ext.refl _,λj x y J=>Ω⟩ ?_ ?_
 .rintro i _ U K hi ⟨e,r⟩ L;simp only[aR,ak];refine⟨λ_=>?_,λh=>Ω⟩;obtain⟨x,z⟩:=aF (l:=a) hi;obtain⟨y,A⟩:=aF (l:=b) (i:=i) Ω;rw[bi mn.u gh.i Ψ (q.W e) z,aY mn.u (s.W e)];simp only[cH,ak];refine⟨λh=>Ω,λ_=>?_⟩;rw[bi mn.u gh.i Ψ (s.W e) A];refine M7.Y ?_;rintro _ aa _ ⟨rfl,E⟩;have f:kd a b=kd (a.drop i) (b.drop i):=xy r Ω Ω;have M:a.drop i=x::a.drop (i+1):=by rw[X8 hi,(x5.1 z).2]
  have N:b.drop i=y::b.drop (i+1):=by rw[X8 Ω,(x5.1 A).2]
  rw[M,N]at f;simp only[kd]at f;simp only[bF,ak,aO];refine⟨λG=>⟨?_,e.F E⟩,λO=>L _ _ ⟨e.F E,λj P Q J B C=>?_⟩⟩
  .rw[f];by_cases h1:x<y
   .rw[m3 h1,m3 h1]
   .by_cases p:y<x
    .rw[m5 h1,m3 p,m5 h1,m3 p]
    .rw[m5 h1,m5 p]at G;exact m6 rfl G
  .by_cases R:j=i
   .subst R;rw[z]at B;rw[A]at C;cases B;cases C;have H:=X5.1 O;by_cases h1:x<y
    .rw[m3 h1]at H;omega
    .by_cases p:y<x
     .rw[m5 h1,m3 p]at H;omega
     .omega
   .exact r j P Q Ω B C
 .rintro _ U K ⟨e,r⟩;simp only[aR,show decide ((a.length:Int)<(a.length:Int))=rs from ms Ω,aX];rw[aY mn.u (q.W e),aY mn.u (s.W e)];simp only[aR,ak];refine⟨λh=>Ω,λ_=>⟨?_,e⟩⟩;have f:kd a b=kd (a.drop a.length) (b.drop a.length):=xy r Ω Ω;rw[f,List.drop_length];cases b.drop a.length<;>rfl
theorem M9{b:Λ}(p:nv a)(q:nv b):al x8 A8 [ep a,ep b] w λv I=>Ext w I/\v=Δ (kd a b):=by
 have B:∀{c:Λ},nv c->(ints .i8 c).length=6:=λh=>by simp[h.1]
 refine aB func253 ?_;refine bo λg1 U C y e=>?_;refine bo λE aa G r f=>?_;rw[CS]at e f;intro s j _ _;have e:=(e.W r).W j;have f:=f.W j;rw[tI cG.u gh.i (l:=0) (h:=6) (m:=6) j7 j8 e2 Ω Ω Ω,tI cG.u gh.i (l:=0) (h:=6) (m:=6) j7 j8 e2 Ω Ω Ω];rw[m5 Ω,m5 Ω];have ls:∀{g:Nat}{c:Λ},nv c->ag s g cG (ints .i8 c)->aM .i8 s (.slice (σ ⟨g,0+0*1,ν⟩) (6-0) (6-0)) c:=λ{g c}x z=>by
  unfold aM;refine⟨Ξ,g,0,_,6,by rw[x.1],by rw[x.1];omega,by simp[maxLen],λ_=>rfl,z.range⟩
 refine(M8 (ls p e) (ls q f) (by rw[p.1,q.1])).Y ?_;rintro _ H _ ⟨rfl,A⟩;exact⟨((y.F r).F j).F A,rfl⟩
end Go.Proofs.YtnhkbjhpbbobaaaGreatDoor
namespace Go.Vc
open Go Go.RowKit Go.Shelf Go.Proofs Go.Sort
theorem grown_of(f:Ext w I)(a:cN w I):∃q os,I=grow (w.drewN q) os:=by
 refine⟨I.drawn-w.drawn,I.heap.extract w.heap.size I.heap.size,?_⟩;have hk:∀k,k<w.heap.size->I.heap[k]?=w.heap[k]?:=λk hk=>by
  have e:=Array.getElem?_eq_getElem hk;rw[e];cases J:fL w.heap[k]with
  |true=>exact f.aZ k _ e J
  |false=>exact a.aZ k _ e J
 have ao:I.heap=w.heap++I.heap.extract w.heap.size I.heap.size:=by
  apply Array.ext_getElem?;intro k;rw[Array.getElem?_append];by_cases h:k<w.heap.size
  .rw[m3 h,hk k h]
  .rw[m5 h,Array.getElem?_extract];have:=f.size;by_cases j:k<I.heap.size
   .rw[m3 Ω];congr 1;omega
   .rw[m5 Ω,Array.getElem?_eq_none Ω]
 have h1:=a.os;have j:=a.tape.1;have p:=a.output;have r:w.drawn+(I.drawn-w.drawn)=I.drawn:=by have:=a.tape.2;omega
 cases I;simp only[grow,x4.drewN]at*;subst h1 j p;rw[<-ao,r]
section
variable{α:Type}[Inhabited α]
theorem C7(enc:α->List x1)(k:Nat)(hk:∀x,(enc x).length=k)(d:Array α):(flatK enc k d).toList=d.toList.flatMap enc:=by
 apply X3;intro t;by_cases h:t<d.size*k
 .have f:0<k:=by
   rcases P8 k with e|e
   .rw[e]at h;simp at h
   .exact e
  have j:=(Nat.div_lt_iff_lt_mul f).2 h;have p:=Nat.mod_lt t f;have q:(flatK enc k d).toList[t]?=σ ((enc d[t / k]!)[t % k]!):=by
   rw[Q3,Array.getElem?_eq_getElem (by simpa using h)];have:=get_flatK enc k d t h;rw[getElem!_pos _ t (by simpa using h)]at this;rw[this]
  have r:d.toList[t / k]?=σ d[t / k]!:=by
   rw[Q3,Array.getElem?_eq_getElem j,getElem!_pos d _ j]
  have s:(enc d[t / k]!)[t % k]?=σ ((enc d[t / k]!)[t % k]!):=by
   generalize d[t / k]! =z;rw[x7 (by rw[hk];exact p),getElem!_pos (enc z) _ (by rw[hk];exact p)]
  have:=pw (λa _=>hk a) r s;rw[q,<-this];congr 1;rw[Nat.mul_comm];exact Nat.div_add_mod t k
 .rw[Y4 (by simpa using h),Y4];rw[gN λa _=>hk a];simpa using h
theorem C8(enc:α->List x1)(k:Nat)(hk:∀x,(enc x).length=k){g m:Nat}{d:Array α}{os:Array Obj}(h:ag w g e cs)(y:d.size*k<=cs.length):
  ag (sortWorldK enc k w g 0 m d os) g e (d.toList.flatMap enc++cs.drop (d.size*k))/\∀r,r<w.heap.size->r≠g->(sortWorldK enc k w g 0 m d os).heap[r]?=w.heap[r]?:=by
 have q:=h.lt;have p:∀r,r<w.heap.size->(sortWorldK enc k w g 0 m d os).heap[r]?=(w.heap.modify g (onCells (putCells id 0 (flatK enc k d))))[r]?:=λr j=>by
  show((w.heap.modify g (onCells (putCells id 0 (flatK enc k d))))++os)[r]?=_;rw[Array.getElem?_append_left (by simpa using j)]
 refine⟨?_,λr j s=>?_⟩
 .unfold ag at h ⊢;rw[p g q,Array.getElem?_modify,m3 rfl,h];show σ (Obj.cells (putCells id 0 (flatK enc k d) cs.toArray) e (0,0))=_;refine congrArg σ (congrArg (λc=>Obj.cells c e (0,0)) ?_);apply Array.ext';apply X3;intro t;show _=(d.toList.flatMap enc++cs.drop (d.size*k))[t]?;rw[List.getElem?_append,gN λa _=>hk a,Q3];unfold putCells;rw[Array.getElem?_mapIdx,List.getElem?_toArray];have J:d.toList.length=d.size:=rfl;by_cases f:t<d.size*k
  .rw[m3 (by rw[J];exact f),x7 Ω,<-C7 enc k hk,Q3,Array.getElem?_eq_getElem (by simpa using f)];simp only[Y3,id];rw[m3 (by simpa using f),Nat.sub_zero,getElem!_pos _ t (by simpa using f)]
  .rw[m5 (by rw[J];exact f),List.getElem?_drop,J,show d.size*k+(t-d.size*k)=t by omega];cases z:cs[t]? with
   |none=>rfl
   |some x=>
    simp only[Y3];rw[m5 Θ]
 .rw[p r j,Array.getElem?_modify,m5 (Ne.symm s)]
end
theorem C9{P:V5}{K:Ren}(W:SlLaysF0.n6 P K){α:Type}{f:α->List x1}{k:Nat}{G:α->Prop}{num:α->Int}{E:α->α->Int}{F:Q9}{cap:Array x1}(aC:∀w,(isAgg (K.t 24)).run P w= .ok ro w)(aD:∀w,(Go.sizeOf (K.t 24)).run P w= .ok k w)(h1:∀a,G a->∀u∈f a,u.oneCell'=ro)(hk:∀a,G a->(f a).length=k)(aE:∀a b,G a->G b->(E a b<0↔num a<num b))(ai:Enters P F){w:x4}{g:Nat}{v:x1}{L:List α}(h:bh f k e w g v L)(N:∀a∈L,G a)(aj:L.length<65536)(aF:∀X a b,af (λr=>r=g) w X->G a->G b->al P F ([.agg (f a).toArray,.agg (f b).toArray]++cap.toList) X λu aG=>Ext X aG/\u=Δ (E a b)):
  al P (K.f 6) [v,.func (.func F) #[] cap] w λ_ I=>af (λr=>hp v r) w I/\∃M,M.Perm L/\(∀(p q:Nat)(x y:α),p<q->M[p]?=σ x->M[q]?=σ y->num x<=num y)/\bh f k e I g v M:=by
 have ak:=λargs w=>W.f6.enters rfl args w;obtain⟨⟨aZ,aH⟩,a1⟩:=id h;have am:∀p c,v= .slice p 0 c->L=[]->al P (K.f 6) [v,.func (.func F) #[] cap] w λ_ I=>af (λr=>hp v r) w I/\∃M,M.Perm L/\(∀(p q:Nat)(x y:α),p<q->M[p]?=σ x->M[q]?=σ y->num x<=num y)/\bh f k e I g v M:=λp c ac aj=>by
  refine .code ak ?_;rw[ac];refine(AnyF.slices_SortFunc_none W p c _ w).Y ?_;rintro a2 I ⟨rfl,rfl⟩;refine⟨_,rfl,cN.refl _,af.refl _ _,L,.refl _,λp q x y _ B=>by rw[aj]at B;simp at B,by rw[<-ac];exact h⟩
 rcases aH with⟨rfl,aI⟩|⟨c,cs,rfl,C,an,hm,Y,aJ⟩
 .exact am _ _ rfl (c9 aI)
 cases Z:L with
 |nil=>subst Z;exact am _ _ rfl rfl
 |cons a0 a6=>
 rw[<-Z];let β:={a:α // G a};have:Inhabited β:=⟨⟨a0,N a0 (by rw[Z];exact .head _)⟩⟩;let enc:β->List x1:=λx=>f x.1;let d:Array β:=(L.attach.map λx=>(⟨x.1,N x.1 x.2⟩:β)).toArray;have ao:d.toList.map Subtype.val=L:=by
  show(L.attach.map λx=>(⟨x.1,N x.1 x.2⟩:β)).map Subtype.val=L;rw[S5];exact List.attach_map_subtype_val L
 have R:d.size=L.length:=by simp[d]
 have H:∀x:β,(enc x).length=k:=λx=>hk x.1 x.2;have aK:d.toList.flatMap enc=L.flatMap f:=by
  have O:=congrArg (λl=>l.flatMap f) ao;rw[<-O];exact(List.flatMap_map Subtype.val f d.toList).symm
 have S:d.size*k<=cs.length:=by rw[R,Y];exact Y5 k an
 have aL:HoldsK enc k w g 0 d:=by
  intro j T;rw[size_flatK]at T;have ap:j<cs.length:=Ω
  have aa:(flatK enc k d)[j]! =cs[j]:=by
   have O:(flatK enc k d).toList[j]?=σ cs[j]:=by
    rw[C7 enc k H,aK,<-aJ,Y7 (by rw[<-R];exact T),x7 ap]
   rw[Q3]at O;rw[getElem!_pos _ j (by simpa using T)];rw[Array.getElem?_eq_getElem (by simpa using T)]at O;exact Z6 O
  refine⟨?_,?_⟩
  .show w.cell? ⟨g,0+j,ν⟩=σ ((flatK enc k d)[j]!);rw[aa];exact C.cell (by rw[W0];exact x7 ap)
  .unfold x4.frozen?;unfold ag at C;rw[C];simp
 have U:∀x y:β,ltOf (λx y:β=>E x.1 y.1) x y=decide (num x.1<num y.1):=λx y=>by
  unfold ltOf;exact decide_eq_decide.2 (aE x.1 y.1 x.2 y.2)
 have aM:SWO (ltOf λx y:β=>E x.1 y.1):=
  ⟨λx=>by rw[U];simp,λx y z p q=>by rw[U]at*;simp at*;omega,λx y z p q=>by rw[U]at*;simp at*;omega⟩
 have aq:∀m (d2:Array β) os,d2.size=d.size->af (λr=>r=g) w (sortWorldK enc k w g 0 m d2 os)/\cN w (sortWorldK enc k w g 0 m d2 os):=λm d2 os J=>by
  obtain⟨a7,au⟩:=C8 enc k H C (by rw[J];exact S);have av:w.heap.size<=(sortWorldK enc k w g 0 m d2 os).heap.size:=by
   show w.heap.size<=((w.heap.modify g _)++os).size;simp
  refine⟨⟨av,λr o A _ ab=>?_⟩,rfl,⟨rfl,Nat.le_add_right _ _⟩,rfl,av,λr o A J=>?_⟩
  .rw[au r (j9.1 A).1 ab];exact A
  .have ab:r≠g:=λhe=>by subst he;unfold ag at C;rw[C]at A;cases A;cases J
   rw[au r (j9.1 A).1 ab];exact A
 have aN:CmpLays P F cap enc k (λx y:β=>E x.1 y.1) g 0 d.size w:=λm os aO J x y=>by
  have B:=(aF _ x.1 y.1 (aq m aO os J).1 x.2 y.2).calls ai;have Q:([x1.agg (f x.1).toArray,.agg (f y.1).toArray]++cap.toList).toArray= #[.agg (enc x).toArray,.agg (enc y).toArray]++cap:=by
   apply Array.ext';simp[enc]
  rw[Q]at B;refine B.Y ?_;rintro _ I ⟨_,rfl,aP,aQ,rfl⟩;exact⟨rfl,grown_of aQ aP⟩
 have aw:=AnyQ.slices_SortFunc W k aC aD enc H (λx=>h1 x.1 x.2) (λx y:β=>E x.1 y.1) aM F cap g 0 c d w (λargs w=>ai args w) aN aL C.lt (by rw[R];omega);rw[R]at aw;refine .code ak (aw.Y ?_);rintro _ I ⟨rfl,s,n,os,⟨aR,_,ac⟩,aS,rfl⟩;have ad:=aR;obtain⟨aT,aU⟩:=aq n s os ad;obtain⟨aV,_⟩:=C8 enc k H C (by rw[ad];exact S);have V:(s.toList.map Subtype.val).Perm L:=by
  have aa:(s.extract 0 L.length).toList=s.toList:=by rw[show L.length=s.size by omega,Array.extract_size]
  have aW:(d.extract 0 L.length).toList=d.toList:=by rw[show L.length=d.size by omega,Array.extract_size]
  rw[aa,aW]at ac;rw[<-ao];exact ac.map _
 have ax:=V.length_eq;refine⟨_,rfl,aU,aT.Y λr _ A=>⟨_,_,_,rfl,A.symm⟩,s.toList.map Subtype.val,V,λp q x y aX B ay=>?_,⟨?_,.inr ⟨c,_,by rw[ax],aV,by rw[ax];exact an,hm,?_,?_⟩⟩,λa Q=>hk a (N a (V.mem_iff.1 Q))⟩
 .rw[v8,X0]at B ay;obtain⟨a8,az,rfl⟩:=B;obtain⟨ba,aA,rfl⟩:=ay;rw[Q3]at az aA;have aB:=(j9.1 az);have ae:=(j9.1 aA);have:=aS p q (X7 _) aX (by have:=ae.1;omega);rw[getElem!_pos s p aB.1,getElem!_pos s q ae.1,aB.2,ae.2,U]at this;simpa using this
 .rw[gN λa Q=>hk a (N a (V.mem_iff.1 Q))]
 .have ah:(s.toList.flatMap enc).length=s.size*k:=by rw[gN λa _=>H a];rfl
  rw[r9,ah,List.length_drop,ad,Y];rw[Y]at S;exact Nat.add_sub_cancel' S
 .have ah:(s.toList.flatMap enc).length=s.size*k:=by rw[gN λa _=>H a];rfl
  have aY:(List.map Subtype.val s.toList).length*k=(s.toList.flatMap enc).length:=by rw[ah,u9];rfl
  rw[aY,List.take_left,List.flatMap_map]
end Go.Vc
namespace Go.Proofs
open Go.Shelf
def Tryz.xz:Go.Shelf.Ren:=⟨λ|6=>289|15=>246|14=>304|28=>282|29=>283|20=>319|21=>320|22=>321|23=>322|24=>323|25=>324|26=>325|27=>326|46=>334|47=>296|48=>297|49=>335|50=>336|57=>339|n=>n,λ|22=>351|24=>326|25=>350|3=>3|39=>228|0=>0|53=>371|55=>58|4=>4|46=>365|45=>364|50=>307|5=>5|9=>9|66=>380|70=>384|76=>404|77=>405|n=>n,λ|n=>n⟩
theorem Tryz.Na:Go.Proofs.SlLaysF0.n6 Tryz.prog Tryz.xz:={
 mixed:=Ψ,
 f6:=⟨Tryz.f289.name,Φ,Tryz.func289.F (congrArg σ Ψ)⟩,
 f14:=⟨Tryz.f304.name,Φ,Tryz.func304.F (congrArg σ Ψ)⟩,
 f15:=Tryz.func246.F (congrArg σ Ψ),
 f20:=⟨Tryz.f319.name,Φ,Tryz.func319.F (congrArg σ Ψ)⟩,
 f21:=⟨Tryz.f320.name,Φ,Tryz.func320.F (congrArg σ Ψ)⟩,
 f22:=⟨Tryz.f321.name,Φ,Tryz.func321.F (congrArg σ Ψ)⟩,
 f23:=⟨Tryz.f322.name,Φ,Tryz.func322.F (congrArg σ Ψ)⟩,
 f24:=⟨Tryz.f323.name,Φ,Tryz.func323.F (congrArg σ Ψ)⟩,
 f25:=⟨Tryz.f324.name,Φ,Tryz.func324.F (congrArg σ Ψ)⟩,
 f26:=⟨Tryz.f325.name,Φ,Tryz.func325.F (congrArg σ Ψ)⟩,
 f27:=⟨Tryz.f326.name,Φ,Tryz.func326.F (congrArg σ Ψ)⟩,
 f28:=Tryz.func282.F (congrArg σ Ψ),
 f29:=Tryz.func283.F (congrArg σ Ψ),
 f46:=⟨Tryz.f334.name,Φ,Tryz.func334.F (congrArg σ Ψ)⟩,
 f47:=Tryz.func296.F (congrArg σ Ψ),
 f48:=Tryz.func297.F (congrArg σ Ψ),
 f49:=⟨Tryz.f335.name,Φ,Tryz.func335.F (congrArg σ Ψ)⟩,
 f50:=⟨Tryz.f336.name,Φ,Tryz.func336.F (congrArg σ Ψ)⟩,
 f57:=⟨Tryz.f339.name,Φ,Tryz.func339.F (congrArg σ Ψ)⟩,
 t0:=Tryz.underlying0,
 a0:=Tryz.isAgg0,
 z0:=Tryz.sizeOf0,
 v0:=Tryz.zeroValue0,
 t3:=Tryz.underlying3,
 a3:=Tryz.isAgg3,
 z3:=Tryz.sizeOf3,
 v3:=Tryz.zeroValue3,
 t4:=Tryz.underlying4,
 a4:=Tryz.isAgg4,
 z4:=Tryz.sizeOf4,
 v4:=Tryz.zeroValue4,
 t5:=Tryz.underlying5,
 a5:=Tryz.isAgg5,
 z5:=Tryz.sizeOf5,
 v5:=Tryz.zeroValue5,
 t9:=Tryz.underlying9,
 a9:=Tryz.isAgg9,
 z9:=Tryz.sizeOf9,
 v9:=Tryz.zeroValue9,
 t22:=Tryz.underlying351,
 a22:=Tryz.isAgg351,
 z22:=Tryz.sizeOf351,
 v22:=Tryz.zeroValue351,
 t25:=Tryz.underlying350,
 a25:=Tryz.isAgg350,
 z25:=Tryz.sizeOf350,
 v25:=Tryz.zeroValue350,
 t39:=Tryz.underlying228,
 a39:=Tryz.isAgg228,
 z39:=Tryz.sizeOf228,
 v39:=Tryz.zeroValue228,
 t45:=Tryz.underlying364,
 a45:=Tryz.isAgg364,
 z45:=Tryz.sizeOf364,
 v45:=Tryz.zeroValue364,
 t46:=Tryz.underlying365,
 a46:=Tryz.isAgg365,
 z46:=Tryz.sizeOf365,
 v46:=Tryz.zeroValue365,
 t50:=Tryz.underlying307,
 a50:=Tryz.isAgg307,
 z50:=Tryz.sizeOf307,
 v50:=Tryz.zeroValue307,
 t53:=Tryz.underlying371,
 a53:=Tryz.isAgg371,
 z53:=Tryz.sizeOf371,
 v53:=Tryz.zeroValue371,
 t55:=Tryz.underlying58,
 a55:=Tryz.isAgg58,
 z55:=Tryz.sizeOf58,
 v55:=Tryz.zeroValue58,
 t66:=Tryz.underlying380,
 a66:=Tryz.isAgg380,
 z66:=Tryz.sizeOf380,
 v66:=Tryz.zeroValue380,
 t70:=Tryz.underlying384,
 a70:=Tryz.isAgg384,
 z70:=Tryz.sizeOf384,
 v70:=Tryz.zeroValue384,
 t76:=Tryz.underlying404,
 a76:=Tryz.isAgg404,
 z76:=Tryz.sizeOf404,
 v76:=Tryz.zeroValue404,
 t77:=Tryz.underlying405,
 a77:=Tryz.isAgg405,
 z77:=Tryz.sizeOf405,
 v77:=Tryz.zeroValue405}
def Tryz.xA:Go.Shelf.Ren:=⟨λ|6=>192|15=>246|14=>245|28=>282|29=>283|20=>274|21=>275|22=>276|23=>277|24=>278|25=>279|26=>280|27=>281|46=>295|47=>296|48=>297|49=>298|50=>299|57=>318|n=>n,λ|22=>275|24=>280|25=>290|3=>3|39=>228|0=>0|53=>371|55=>58|4=>4|46=>365|45=>364|50=>307|5=>5|9=>9|66=>380|70=>384|76=>404|77=>405|n=>n,λ|n=>n⟩
theorem Tryz.Nb:Go.Proofs.SlLaysF0.n6 Tryz.prog Tryz.xA:={
 mixed:=Ψ,
 f6:=⟨Tryz.f192.name,Φ,Tryz.func192.F (congrArg σ Ψ)⟩,
 f14:=⟨Tryz.f245.name,Φ,Tryz.func245.F (congrArg σ Ψ)⟩,
 f15:=Tryz.func246.F (congrArg σ Ψ),
 f20:=⟨Tryz.f274.name,Φ,Tryz.func274.F (congrArg σ Ψ)⟩,
 f21:=⟨Tryz.f275.name,Φ,Tryz.func275.F (congrArg σ Ψ)⟩,
 f22:=⟨Tryz.f276.name,Φ,Tryz.func276.F (congrArg σ Ψ)⟩,
 f23:=⟨Tryz.f277.name,Φ,Tryz.func277.F (congrArg σ Ψ)⟩,
 f24:=⟨Tryz.f278.name,Φ,Tryz.func278.F (congrArg σ Ψ)⟩,
 f25:=⟨Tryz.f279.name,Φ,Tryz.func279.F (congrArg σ Ψ)⟩,
 f26:=⟨Tryz.f280.name,Φ,Tryz.func280.F (congrArg σ Ψ)⟩,
 f27:=⟨Tryz.f281.name,Φ,Tryz.func281.F (congrArg σ Ψ)⟩,
 f28:=Tryz.func282.F (congrArg σ Ψ),
 f29:=Tryz.func283.F (congrArg σ Ψ),
 f46:=⟨Tryz.f295.name,Φ,Tryz.func295.F (congrArg σ Ψ)⟩,
 f47:=Tryz.func296.F (congrArg σ Ψ),
 f48:=Tryz.func297.F (congrArg σ Ψ),
 f49:=⟨Tryz.f298.name,Φ,Tryz.func298.F (congrArg σ Ψ)⟩,
 f50:=⟨Tryz.f299.name,Φ,Tryz.func299.F (congrArg σ Ψ)⟩,
 f57:=⟨Tryz.f318.name,Φ,Tryz.func318.F (congrArg σ Ψ)⟩,
 t0:=Tryz.underlying0,
 a0:=Tryz.isAgg0,
 z0:=Tryz.sizeOf0,
 v0:=Tryz.zeroValue0,
 t3:=Tryz.underlying3,
 a3:=Tryz.isAgg3,
 z3:=Tryz.sizeOf3,
 v3:=Tryz.zeroValue3,
 t4:=Tryz.underlying4,
 a4:=Tryz.isAgg4,
 z4:=Tryz.sizeOf4,
 v4:=Tryz.zeroValue4,
 t5:=Tryz.underlying5,
 a5:=Tryz.isAgg5,
 z5:=Tryz.sizeOf5,
 v5:=Tryz.zeroValue5,
 t9:=Tryz.underlying9,
 a9:=Tryz.isAgg9,
 z9:=Tryz.sizeOf9,
 v9:=Tryz.zeroValue9,
 t22:=Tryz.underlying275,
 a22:=Tryz.isAgg275,
 z22:=Tryz.sizeOf275,
 v22:=Tryz.zeroValue275,
 t25:=Tryz.underlying290,
 a25:=Tryz.isAgg290,
 z25:=Tryz.sizeOf290,
 v25:=Tryz.zeroValue290,
 t39:=Tryz.underlying228,
 a39:=Tryz.isAgg228,
 z39:=Tryz.sizeOf228,
 v39:=Tryz.zeroValue228,
 t45:=Tryz.underlying364,
 a45:=Tryz.isAgg364,
 z45:=Tryz.sizeOf364,
 v45:=Tryz.zeroValue364,
 t46:=Tryz.underlying365,
 a46:=Tryz.isAgg365,
 z46:=Tryz.sizeOf365,
 v46:=Tryz.zeroValue365,
 t50:=Tryz.underlying307,
 a50:=Tryz.isAgg307,
 z50:=Tryz.sizeOf307,
 v50:=Tryz.zeroValue307,
 t53:=Tryz.underlying371,
 a53:=Tryz.isAgg371,
 z53:=Tryz.sizeOf371,
 v53:=Tryz.zeroValue371,
 t55:=Tryz.underlying58,
 a55:=Tryz.isAgg58,
 z55:=Tryz.sizeOf58,
 v55:=Tryz.zeroValue58,
 t66:=Tryz.underlying380,
 a66:=Tryz.isAgg380,
 z66:=Tryz.sizeOf380,
 v66:=Tryz.zeroValue380,
 t70:=Tryz.underlying384,
 a70:=Tryz.isAgg384,
 z70:=Tryz.sizeOf384,
 v70:=Tryz.zeroValue384,
 t76:=Tryz.underlying404,
 a76:=Tryz.isAgg404,
 z76:=Tryz.sizeOf404,
 v76:=Tryz.zeroValue404,
 t77:=Tryz.underlying405,
 a77:=Tryz.isAgg405,
 z77:=Tryz.sizeOf405,
 v77:=Tryz.zeroValue405}
theorem Tryz.Nc(w:x4):(isAgg (Tryz.xz.t 24)).run Tryz.prog w= .ok ro w:=Tryz.isAgg326 w
theorem Tryz.Nd(w:x4):(Go.sizeOf (Tryz.xz.t 24)).run Tryz.prog w= .ok 6 w:=Tryz.sizeOf326 w
theorem Tryz.Nf:Tryz.prog.funcs[253]?=σ Tryz.f253:=Tryz.func253
theorem Tryz.Ng(w:x4):(isAgg (Tryz.xA.t 24)).run Tryz.prog w= .ok ro w:=Tryz.isAgg280 w
theorem Tryz.Nh(w:x4):(Go.sizeOf (Tryz.xA.t 24)).run Tryz.prog w= .ok 2 w:=Tryz.sizeOf280 w
theorem Tryz.Ni:Tryz.prog.funcs[193]?=σ Tryz.f193:=Tryz.func193
end Go.Proofs
namespace Go.Proofs.YtnhkbjhpbbobaaaGreatDoor
open Go Go.Vc Go.RowKit Go.Proofs Go.Proofs.Tryz
set_option maxRecDepth 100000
def uA{α:Type}(f:α->Int)(L:List α)(a i:Nat):Prop:=∀(p q:Nat)(x y:α),a<=p->p<q->q<i->L[p]?=σ x->L[q]?=σ y->f x<=f y
def qC(L:List (Λ)):Prop:=∀a∈L,nv a
theorem qC.perm{L M:List (Λ)}(h:qC L)(ac:M.Perm L):qC M:=λa hk=>h a (ac.mem_iff.1 hk)
theorem Nj{g:Nat}{L:List (Λ)}{i:Nat}(e:y=(i:Int))(h:px w g v L)(hi:L[i]?=σ a):
  ab x8 (Z0 k1 v (Δ y)) w (λp=>ab x8 (u5 cG p) w K)=K (ep a):=by
 have f:a.length=6:=by have:=h.2 a (x6 hi);simpa using this
 rw[b7 e k1.u cG.i h (x5.1 hi).1,pv f (h.range hi)]
abbrev Da:x1:=.func (.func A8) #[] #[]
theorem uB{P:V5}{k:o7}{s:ByteArray}{i:Nat}(a:P.underlying t=σ .string)(hi:i<s.size):
  ab P (Instr.index t (.string s) (.int k (i:Int))) w K=K (.int .u8 (s[i].toNat:Int)):=ab.of λI _=>by
 simp[Instr.index,asIntOf,run_underlying a,hi]
def eA(n:Nat):Nat:=if n=0 then 0 else Nat.log2 n+1
theorem Db(h:n<256):eA n<=8:=by
 unfold eA;by_cases a:n=0
 .rw[m3 a];omega
 .rw[m5 a];have e:Nat.log2 n<8:=(Nat.log2_lt a).2 Ω;omega
theorem Nk{g:Nat}{L:List (Λ)}(h:px w g v L)(j:qC L)(s:L.length<65536):
  al x8 KQ [v,Da] w λ_ I=>af (λr=>hp v r) w I/\∃M,M.Perm L/\uA ib M 0 M.length/\px I g v M:=by
 refine(C9 Na Nc Nd (λa _=>C4) (λa e=>by simp[e.1]) (λa b e f=>(C5 a b (by rw[e.1,f.1]) e.2 f.2).1) (Enters.of x8 Nf rfl Ψ) h j s λE a b _ e f=>M9 e f).Y ?_;rintro _ I _ ⟨z,M,ac,hu,hm⟩;exact⟨z,M,ac,λp q x y _ A _ B C=>hu p q x y A B C,hm⟩
end Go.Proofs.YtnhkbjhpbbobaaaGreatDoor
namespace Go.Vc
open Go Go.RowKit
set_option maxRecDepth 100000
theorem Keys.str{P:V5}{k:p9}(hk:P.underlying k=σ .string):Keys P k λv=>∃s,v= .string s:=by
 have key:∀s,MapKept.IsKey .string (.string s):=λs=>trivial;refine⟨λw f v ⟨n,h⟩=>?_,λw x ⟨n,h⟩ p q=>?_,λw v ⟨n,h⟩=>?_⟩
 .subst h;exact MapKept.run_checkKey hk (key n) f 9999
 .subst h;rcases MapKept.findNow_spec (key n) p 0 (λe he=>by obtain⟨m,h⟩:=q e he;rw[h];exact key m)with⟨h1,a⟩|⟨j,e,h1,a,r⟩
  .exact .inl ⟨MapKept.run_findKey hk h1,a⟩
  .exact .inr ⟨j,e,by have:=MapKept.run_findKey (P:=P) (w:=w) hk h1;simpa using this,a,r⟩
 .subst h;exact MapKept.run_keyThatStays (d:=.string) (key n)
section
variable{P:V5}{w:x4}
theorem iT{s:Sem x1}(h:∀K:x1->Prop,ab P s w K=K v):cE P s v w:=by
 have h1:ab P s w (λu=>u=v):=(h λu=>u=v).mpr rfl;obtain⟨u,hu,rfl⟩:=h1;exact hu
variable{k e:p9}{G:x1->Prop}
end
end Go.Vc
namespace Go.Proofs.YtnhkbjhpbbobaaaGreatDoor
open Go Go.Vc Go.RowKit Go.Proofs Go.Proofs.Tryz
set_option maxRecDepth 100000
def ic:Nat->Nat->Λ
 |0,_=>[]
 |n+1,u=>ic n (u / 10)++[48+((u % 10:Nat):Int)]
theorem rV:∀(n u:Nat),(ic n u).length=n
 |0,_=>rfl
 |n+1,u=>by rw[ic,r9,rV n];rfl
theorem Nl(n u:Nat):ic (n+2) u=ic n (u / 100)++[48+((u / 10 % 10:Nat):Int),48+((u % 10:Nat):Int)]:=by
 rw[ic,ic,X9];rw[show u / 10 / 10=u / 100 by omega];rfl
theorem Dc:∀(n u:Nat),10 ^ n<=u->u<10 ^ (n+1)->ic (n+1) u=gi u
 |0,u,h1,a=>by
  rw[pp,m3 (by simpa using a)];simp[ic]
 |n+1,u,h1,a=>by
  have e:(10:Nat) ^ (n+1)=10*10 ^ n:=by rw[Nat.pow_succ,Nat.mul_comm]
  have f:(10:Nat) ^ (n+1+1)=10*10 ^ (n+1):=by rw[Nat.pow_succ,Nat.mul_comm]
  have h:1<=10 ^ n:=Nat.one_le_iff_ne_zero.2 Ξ;rw[pp,m5 Ω,ic,Dc n (u / 10) Ω Ω]
def gO(a C:Λ)(e u:Nat):Prop:=e<=a.length/\C.length=a.length/\∃t,C.drop e=t/\a=ic e u++t
theorem gO.two{e:Λ}{a u:Nat}(h:gO e C (a+2) u):gO e ((C.set (a+1) (48+((u % 10:Nat):Int))).set a (48+((u / 10 % 10:Nat):Int))) a (u / 100):=by
 obtain⟨h1,f,t,j,p⟩:=h;refine⟨Ω,by simp[f],_,rfl,?_⟩;rw[p,Nl,X9];congr 1;rw[List.drop_set,m5 Ω,List.drop_set,m5 Ω,<-j];have q:a<C.length:=Ω
 have r:a+1<C.length:=Ω
 rw[X8 q,X8 r,W8,R2];rfl
theorem gO.one{u:Nat}(h:gO a C 1 u):C.set 0 (48+((u % 10:Nat):Int))=a:=by
 obtain⟨h1,e,t,f,j⟩:=h;rw[j,ic,ic,List.nil_append,<-f];cases C with
 |nil=>simp at e;omega
 |cons c C=>simp
theorem gO.zero{u:Nat}(h:gO a C 0 u):C=a:=by
 obtain⟨h1,j,t,e,f⟩:=h;rw[f,ic,List.nil_append,<-e,List.drop_zero]
def la:ByteArray:=⟨#[48,48,48,49,48,50,48,51,48,52,48,53,48,54,48,55,48,56,48,57,49,48,49,49,49,50,49,51,49,52,49,53,49,54,49,55,49,56,49,57,50,48,50,49,50,50,50,51,50,52,50,53,50,54,50,55,50,56,50,57,51,48,51,49,51,50,51,51,51,52,51,53,51,54,51,55,51,56,51,57,52,48,52,49,52,50,52,51,52,52,52,53,52,54,52,55,52,56,52,57,53,48,53,49,53,50,53,51,53,52,53,53,53,54,53,55,53,56,53,57,54,48,54,49,54,50,54,51,54,52,54,53,54,54,54,55,54,56,54,57,55,48,55,49,55,50,55,51,55,52,55,53,55,54,55,55,55,56,55,57,56,48,56,49,56,50,56,51,56,52,56,53,56,54,56,55,56,56,56,57,57,48,57,49,57,50,57,51,57,52,57,53,57,54,57,55,57,56,57,57]⟩
theorem Dd:la.size=200:=by decide+kernel
theorem Nn:∀q:Fin 100,la.data.toList[2*q.val]?=σ (UInt8.ofNat (48+q.val / 10))/\la.data.toList[2*q.val+1]?=σ (UInt8.ofNat (48+q.val % 10)):=by decide+kernel
theorem xB{q:Nat}(e:q<100):(∀h,(la[2*q]'h).toNat=48+q / 10)/\∀h,(la[2*q+1]'h).toNat=48+q % 10:=by
 obtain⟨h1,f⟩:=Nn ⟨q,e⟩;refine⟨λh=>?_,λh=>?_⟩
 .have a:=(x5.1 h1).2;have:la[2*q]=UInt8.ofNat (48+q / 10):=a;rw[this,UInt8.toNat_ofNat'];omega
 .have a:=(x5.1 f).2;have:la[2*q+1]=UInt8.ofNat (48+q % 10):=a;rw[this,UInt8.toNat_ofNat'];omega
theorem wrap_u32{x:Int}(h1:0<=x)(a:x<4294967296):o7.u32.wrap x=x:=by
 simp[o7.wrap,o7.bits,o7.signed];omega
def lb(w:x4)(g o:Nat)(a C e:Λ):Prop:=ag w g nY (ints .u8 (a++C++e))/\a.length=o
theorem xC{g o c i:Nat}{a:o7}(e:y=(i:Int))(hi:i<n):
  ab x8 (Z0 cQ (.slice (σ ⟨g,o,ν⟩) n c) (.int a y)) w K=K (.pointer (σ ⟨g,o+i,ν⟩)):=by
 subst e;rw[fd cQ.u cK.i hi (λ_=>rfl),T5]
theorem xD{g o i:Nat}{x:Int}{f:Λ}{K:Unit->x4->Prop}(h:lb w g o a C f)(hi:i<C.length)(p:∀I,af (λr=>r=g) w I->lb I g o a (C.set i x) f->K () I):aH x8 (n9 cK (.pointer (σ ⟨g,o+i,ν⟩)) (.int .u8 x)) w K:=by
 obtain⟨h,rfl⟩:=h;refine bq (g:=g) (o:=a.length+i) cK.i rfl rfl h Θ λI q J j=>p I q ⟨?_,rfl⟩;have e:(ints .u8 (a++C++f)).set (a.length+i) (.int .u8 x)=ints .u8 (a++C.set i x++f):=by
  unfold ints;rw[<-T2,X9,T4 _ _ Ω,R2,List.set_append_left _ _ hi,X9]
 rw[e]at j;exact j
theorem py{g o c a q i:Nat}{x f t:Int}{h j:Λ}{K:x4->Prop}(y:lb w g o h C j)(Y:C.length=n)(Z:n<=1000)(ac:a<=n)(h1:(a:Int)-x=((i+1:Nat):Int))(E:(a:Int)-f=(i:Int))(F:i+1<n)(G:t=((2*q:Nat):Int))(p:q<100)(H:∀I,af (λr=>r=g) w I->lb I g o h ((C.set (i+1) (48+((q % 10:Nat):Int))).set i (48+((q / 10:Nat):Int))) j->K I):
  eH w λaa=>
  ab x8 (aN .sub aj rs ro (Δ (a:Int)) (Δ x)) aa λL=>
  ab x8 (aN .sub aj rs ro (Δ (a:Int)) (Δ f)) aa λz=>
  ab x8 (aN .add qf rs ro (.int .u32 t) (.int .u32 1)) aa λM=>
  ab x8 (Instr.index c6 (.string la) M) aa λt50=>
  ab x8 (Instr.index c6 (.string la) (.int .u32 t)) aa λA=>
  ab x8 (Z0 cQ (.slice (σ ⟨g,o,ν⟩) n c) L) aa λt53=>
  aH x8 (n9 cK t53 t50) aa λ(_:Unit)e=>
   (Ext aa e\/cE x8 (Instr.index c6 (.string la) (.int .u32 t)) A e/\cE x8 (aN .sub aj rs ro (Δ (a:Int)) (Δ f)) z e/\True)/\
  ab x8 (Z0 cQ (.slice (σ ⟨g,o,ν⟩) n c) z) e λN=>
   aH x8 (n9 cK N A) e λ(_:Unit)s=>K s:=by
 subst G;intro aa B _ _;have O:af (λr=>r=g) w aa:=B.V _;have P:lb aa g o h C j:=⟨y.1.W B,y.2⟩;rw[dp,li Ω Ω,dp,li Ω Ω,aO,wrap_u32 Ω Ω];rw[show((2*q:Nat):Int)+1=((2*q+1:Nat):Int) by omega];have J:=Dd;rw[uB c6.u (by rw[J];omega),uB c6.u (by rw[J];omega)];rw[(xB p).1,(xB p).2,xC h1 F];refine xD P Ω λe Q R=>⟨.inr ⟨iT λK=>?_,iT λK=>?_,trivial⟩,?_⟩
 .rw[uB c6.u (by rw[J];omega),(xB p).1]
 .rw[dp,li Ω Ω]
 .rw[xC E Ω];refine xD R Θ λs S U=>H s ((O.F Q).F S) ?_;have W:48+((q % 10:Nat):Int)=((48+q % 10:Nat):Int):=Ω
  have X:48+((q / 10:Nat):Int)=((48+q / 10:Nat):Int):=Ω
  rw[W,X];exact U
theorem gO.pair{e:Λ}{a u q:Nat}(h:gO e C (a+2) u)(f:q=u % 100):gO e ((C.set (a+1) (48+((q % 10:Nat):Int))).set a (48+((q / 10:Nat):Int))) a (u / 100):=by
 have:=h.two;rw[show u % 10=q % 10 by omega,show u / 10 % 10=q / 10 by omega]at this;exact this
theorem pz{k:o7}{a b:Nat}(e:b≠0):ab x8 (aN .rem t cx cy (.int k (a:Int)) (.int k (b:Int))) w K=K (.int k ((a % b:Nat):Int)):=by
 rw[tF Ω,Int.tmod_eq_emod_of_nonneg Ω,Int.natCast_emod]
theorem u32_quo{a b:Nat}(e:b≠0)(f:a<4294967296):ab x8 (aN .quo t cx cy (.int .u32 (a:Int)) (.int .u32 (b:Int))) w K=K (.int .u32 ((a / b:Nat):Int)):=by
 have:=Nat.div_le_self a b;rw[o1 Ω,Int.tdiv_eq_ediv_of_nonneg Ω,<-Int.natCast_ediv];generalize a / b=m at this ⊢;rw[wrap_u32 Ω Ω]
theorem u64_quo{a b:Nat}(e:b≠0)(f:a<18446744073709551616):ab x8 (aN .quo t cx cy (.int .u64 (a:Int)) (.int .u64 (b:Int))) w K=K (.int .u64 ((a / b:Nat):Int)):=by
 have:=Nat.div_le_self a b;rw[o1 Ω,Int.tdiv_eq_ediv_of_nonneg Ω,<-Int.natCast_ediv];generalize a / b=m at this ⊢;rw[lm Ω Ω]
theorem pA{a b:Nat}(f:a*b<4294967296):ab x8 (aN .mul t cx cy (.int .u32 (a:Int)) (.int .u32 (b:Int))) w K=K (.int .u32 ((a*b:Nat):Int)):=by
 have e:(a:Int)*(b:Int)=((a*b:Nat):Int):=Ξ
 rw[gW,e];generalize a*b=m at f ⊢;rw[wrap_u32 Ω Ω]
theorem gO.start{u:Nat}(h:C.length=N):gO (ic N u) C N u:=⟨by rw[rV];omega,by rw[rV,h],[],by rw[List.drop_eq_nil_iff];omega,Ξ⟩
theorem No{g o c u:Nat}{E G:Λ}(ai:lb w g o E C G)(aj:C.length=N)(ax:N<=19)(hu:u<10 ^ N):
  al x8 KY [.slice (σ ⟨g,o,ν⟩) N c,.int .u64 (u:Int)] w λv I=>v= .tuple #[]/\af (λr=>r=g) w I/\lb I g o E (ic N u) G:=by
 have s:=rV N u;refine aB func307 ?_;rw[iL cQ.u];refine⟨λam R U=>∃e4 e:Nat,am= .int .u64 (e4:Int)/\R=Δ (e:Int)/\e4<10 ^ e/\e<=N/\af (λr=>r=g) w U/\∃H,lb U g o E H G/\gO (ic N u) H e e4,
  λ_ R _=>(bU R).toNat,⟨u,N,rfl,rfl,hu,p8 _,af.refl _ _,C,ai,gO.start aj⟩,?_⟩
 rintro _ _ U ⟨e4,e,rfl,rfl,J,x,S,H,V,O⟩;have ad:H.length=N:=by rw[O.2.1,s]
 have az:(10:Nat) ^ e<=10 ^ 19:=S4 Ω Ω;have an:e4<18446744073709551616:=Ω
 have aA:(8:Int)=((8:Nat):Int):=rfl;rw[cH,ak];refine⟨λao=>?_,λao=>?_⟩
 .obtain⟨m,rfl⟩:∃m,e=m+8:=⟨e-8,Ω⟩;have aC:e4 % 100000000<100000000:=Nat.mod_lt _ Ω;rw[show U6 .u64 100000000=U6 .u64 ((100000000:Nat):Int)from rfl,pz Ω,fB fz.u qf.u,wrap_u32 Ω Ω,u64_quo Ω an];rw[show U6 .u32 10000=U6 .u32 ((10000:Nat):Int)from rfl,show U6 .u32 100=U6 .u32 ((100:Nat):Int)from rfl,show U6 .u32 2=U6 .u32 ((2:Nat):Int)from rfl];rw[u32_quo Ω Ω,pz Ω,u32_quo Ω Ω,pA Ω,pz Ω,pA Ω,u32_quo Ω Ω,pA Ω,pz Ω,pA Ω];refine py (i:=m+6) (q:=e4 % 100000000 % 10000 % 100) V ad Ω x Ω Ω Ω Ω Ω λaa z A=>?_;have h:=O.pair (q:=e4 % 100000000 % 10000 % 100) Ω;have K:=h.2.1.F s;refine py (i:=m+4) (q:=e4 % 100000000 % 10000 / 100) A K Ω x Ω Ω Ω Ω Ω λB p j=>?_;have f:=gO.pair (q:=e4 % 100000000 % 10000 / 100) h Ω;have ae:=f.2.1.F s;refine py (i:=m+2) (q:=e4 % 100000000 / 10000 % 100) j ae Ω x Ω Ω Ω Ω Ω λap W P=>?_;have ag:=gO.pair (q:=e4 % 100000000 / 10000 % 100) f Ω;have aq:=ag.2.1.F s;refine py (i:=m) (q:=e4 % 100000000 / 10000 / 100) P aq Ω x Ω Ω Ω Ω Ω λaD au av=>?_;have ah:=gO.pair (q:=e4 % 100000000 / 10000 / 100) ag Ω;rw[dp,li Ω Ω];refine⟨⟨e4 / 100000000,m,rfl,by congr 1;omega,?_,Ω,(((S.F z).F p).F W).F au,_,av,?_⟩,by simp only[bU];omega⟩
  .rw[Nat.pow_add]at J;exact Nat.div_lt_of_lt_mul (by rw[Nat.mul_comm];exact J)
  .rw[show e4 / 100 / 100 / 100 / 100=e4 / 100000000 by omega]at ah;exact ah
 .have aE:e<8:=Ω
  have aF:(10:Nat) ^ e<=10 ^ 7:=S4 Ω Ω;rw[fB fz.u qf.u,wrap_u32 Ω Ω];refine jv (λa b aa=>∃fh m:Nat,a=Δ (m:Int)/\b= .int .u32 (fh:Int)/\fh<10 ^ m/\m<4/\m<=N/\af (λr=>r=g) w aa/\∃Q,lb aa g o E Q G/\gO (ic N u) Q m fh) ?_ ?_
  rotate_left
  .intro ay L;rw[cH,ak];refine⟨λX=>?_,λX=>L _ _ _ ⟨e4,e,rfl,rfl,J,Ω,x,S,H,V,O⟩⟩;obtain⟨m,rfl⟩:∃m,e=m+4:=⟨e-4,Ω⟩;rw[show U6 .u32 10000=U6 .u32 ((10000:Nat):Int)from rfl,show U6 .u32 100=U6 .u32 ((100:Nat):Int)from rfl,show U6 .u32 2=U6 .u32 ((2:Nat):Int)from rfl];rw[pz Ω,u32_quo Ω Ω,u32_quo Ω Ω,pA Ω,pz Ω,pA Ω];refine py (i:=m+2) (q:=e4 % 10000 % 100) V ad Ω x Ω Ω Ω Ω Ω λaa z A=>?_;have h:=O.pair (q:=e4 % 10000 % 100) Ω;have K:=h.2.1.F s;refine py (i:=m) (q:=e4 % 10000 / 100) A K Ω x Ω Ω Ω Ω Ω λB p j=>?_;have f:=gO.pair (q:=e4 % 10000 / 100) h Ω;rw[dp,li Ω Ω];refine L _ _ _ ⟨e4 / 10000,m,by congr 1;omega,rfl,?_,Ω,Ω,(S.F z).F p,_,j,?_⟩
   .rw[Nat.pow_add]at J;exact Nat.div_lt_of_lt_mul (by rw[Nat.mul_comm];exact J)
   .rw[show e4 / 100 / 100=e4 / 10000 by omega]at f;exact f
  rintro _ _ aa ⟨fh,m,rfl,rfl,Y,aG,Z,z,Q,A,h⟩;have K:=h.2.1.F s;have aH:(10:Nat) ^ m<=10 ^ 3:=S4 Ω Ω;refine jv (λa b B=>∃M m:Nat,a=Δ (m:Int)/\b= .int .u32 (M:Int)/\M<10 ^ m/\m<2/\m<=N/\af (λr=>r=g) w B/\∃ab,lb B g o E ab G/\gO (ic N u) ab m M) ?_ ?_
  rotate_left
  .intro ay L;rw[cH,ak];refine⟨λX=>?_,λX=>L _ _ _ ⟨fh,m,rfl,rfl,Y,Ω,Z,z,Q,A,h⟩⟩;obtain⟨m,rfl⟩:∃bP,m=bP+2:=⟨m-2,Ω⟩;rw[show U6 .u32 100=U6 .u32 ((100:Nat):Int)from rfl,show U6 .u32 2=U6 .u32 ((2:Nat):Int)from rfl];rw[pz Ω,pA Ω,u32_quo Ω Ω];refine py (i:=m) (q:=fh % 100) A K Ω Z Ω Ω Ω Ω Ω λB p j=>?_;have f:=h.pair rfl;rw[dp,li Ω Ω];refine L _ _ _ ⟨fh / 100,m,by congr 1;omega,rfl,?_,Ω,Ω,z.F p,_,j,f⟩;rw[Nat.pow_add]at Y;exact Nat.div_lt_of_lt_mul (by rw[Nat.mul_comm];exact Y)
  rintro _ _ B ⟨M,m,rfl,rfl,ac,aI,Z,p,ab,j,f⟩;have ae:=f.2.1.F s;rw[bO,ak];refine⟨λaw=>?_,λaw=>?_⟩
  .obtain rfl:m=1:=Ω
   have ac:M<10:=by simpa using ac
   rw[aO,wrap_u32 Ω Ω,fB qf.u cK.u,wrap_u8 Ω Ω,xC (y:=0) (i:=0) rfl Ω];refine xD j Ω λap W P=>?_;have:=f.one;rw[Nat.mod_eq_of_lt ac]at this;rw[this]at P;exact⟨rfl,p.F W,P⟩
  .obtain rfl:m=0:=Ω
   rw[f.zero]at j;exact⟨rfl,p,j⟩
def rW:Λ:=[1,10,100,1000,10000,100000,1000000,10000000,100000000,1000000000,10000000000,100000000000,1000000000000,10000000000000,100000000000000,1000000000000000,10000000000000000,100000000000000000,1000000000000000000,10000000000000000000]
def fs(w:x4):Prop:=w.rangeAt 1 0 (ints .u64 rW)
theorem fs.W(h:fs w)(a:Ext w I):fs I:=o0 a h
theorem Np:∀k:Nat,k<20->rW[k]?=σ (((10 ^ k:Nat)):Int):=Φ
theorem De{s:Nat}(h:2 ^ s<=n):eA n=s+eA (n / 2 ^ s):=by
 have J:=Nat.two_pow_pos s;have h1:n / 2 ^ s≠0:=by have:=Nat.div_pos h J;omega
 have f:n≠0:=Ω
 unfold eA;rw[m5 f,m5 h1];have e:Nat.log2 n=Nat.log2 (n / 2 ^ s)+s:=by
  refine(Nat.log2_eq_iff f).2 ⟨?_,?_⟩
  .rw[Nat.pow_add];have:=Y5 (2 ^ s) (Nat.log2_self_le h1);have:=Nat.div_mul_le_self n (2 ^ s);omega
  .have j:=Nat.lt_log2_self (n:=n / 2 ^ s);rw[show Nat.log2 (n / 2 ^ s)+s+1=(Nat.log2 (n / 2 ^ s)+1)+s by omega,Nat.pow_add];have:=Y5 (2 ^ s) (show n / 2 ^ s+1<=2 ^ (Nat.log2 (n / 2 ^ s)+1) by omega);have p:=Nat.lt_div_mul_add J (a:=n);rw[U7]at this;omega
 omega
def rX:ByteArray:=⟨#[0,1,2,2,3,3,3,3,4,4,4,4,4,4,4,4,5,5,5,5,5,5,5,5,5,5,5,5,5,5,5,5,6,6,6,6,6,6,6,6,6,6,6,6,6,6,6,6,6,6,6,6,6,6,6,6,6,6,6,6,6,6,6,6,7,7,7,7,7,7,7,7,7,7,7,7,7,7,7,7,7,7,7,7,7,7,7,7,7,7,7,7,7,7,7,7,7,7,7,7,7,7,7,7,7,7,7,7,7,7,7,7,7,7,7,7,7,7,7,7,7,7,7,7,7,7,7,7,8,8,8,8,8,8,8,8,8,8,8,8,8,8,8,8,8,8,8,8,8,8,8,8,8,8,8,8,8,8,8,8,8,8,8,8,8,8,8,8,8,8,8,8,8,8,8,8,8,8,8,8,8,8,8,8,8,8,8,8,8,8,8,8,8,8,8,8,8,8,8,8,8,8,8,8,8,8,8,8,8,8,8,8,8,8,8,8,8,8,8,8,8,8,8,8,8,8,8,8,8,8,8,8,8,8,8,8,8,8,8,8,8,8,8,8,8,8,8,8,8,8,8,8,8,8,8,8]⟩
theorem Nq:rX.size=256:=by decide+kernel
theorem Nr:∀q:Fin 256,rX.data.toList[q.val]?=σ (UInt8.ofNat (eA q.val)):=by decide+kernel
theorem Ns{q:Nat}(a:q<256):∀h,(rX[q]'h).toNat=eA q:=λh=>by
 have h1:=Nr ⟨q,a⟩;have e:=(x5.1 h1).2;have:rX[q]=UInt8.ofNat (eA q):=e;have f:=Db a;rw[this,UInt8.toNat_ofNat'];omega
theorem Nt(E:n<18446744073709551616):al x8 KL [.int .u64 (n:Int)] w λv I=>v=Δ (eA n:Int)/\Ext w I:=by
 refine aB func283 ?_;have step:∀{s x m:Nat}{ay:x1->x1->x4->Prop}{y c:Int},s<64->x<18446744073709551616->m+eA x=eA n->m<=64->y=(2 ^ s:Nat)->c=(s:Int)->2 ^ s<=18446744073709551615->(∀a bP:Nat,a<2 ^ s\/(a=x / 2 ^ s/\bP=m+s)->a<=x->bP+eA a=eA n->bP<=m+s->ay (.int .u64 (a:Int)) (Δ (bP:Int)) w)->
   ab x8 (aN .geq fz rs ro (.int .u64 (x:Int)) (.int .u64 y)) w λt4=>
    Split t4 (ab x8 (aN .shr fz rs ro (.int .u64 (x:Int)) (.int .u64 c)) w λr=>ab x8 (aN .add aj rs ro (Δ (m:Int)) (Δ c)) w λz=>ay r z w) (ay (.int .u64 (x:Int)) (Δ (m:Int)) w):=by
  intro s x m ay y c J f hm G A B p e;subst A B;rw[cH,ak];refine⟨λh=>?_,λh=>e x m (.inl Ω) (p8 _) hm Ω⟩;rw[mu J,aO,li Ω Ω];have:=De (n:=x) (s:=s) Ω;have:=e (x / 2 ^ s) (m+s) (.inr ⟨rfl,rfl⟩) (Nat.div_le_self _ _) Ω Ω;exact this
 refine jv (λx m U=>w=U/\∃a bP:Nat,x= .int .u64 (a:Int)/\m=Δ (bP:Int)/\a<4294967296/\bP+eA a=eA n/\bP<=32) ?_ ?_
 rotate_left
 .intro ay e;rw[cH,ak];refine⟨λh=>?_,λh=>e _ _ _ ⟨rfl,n,0,rfl,rfl,Ω,Ω,Ω⟩⟩;rw[show U6 .u64 32=U6 .u64 ((32:Nat):Int)from rfl,mu Ω];have:=De (n:=n) (s:=32) Ω;exact e _ _ _ ⟨rfl,n / 2 ^ 32,32,rfl,rfl,Ω,Ω,Ω⟩
 rintro _ _ _ ⟨rfl,x,m,rfl,rfl,f,hm,q⟩;refine jv (λx m U=>w=U/\∃a bP:Nat,x= .int .u64 (a:Int)/\m=Δ (bP:Int)/\a<65536/\bP+eA a=eA n/\bP<=48) ?_ ?_
 rotate_left
 .intro ay e;refine step (s:=16) Ω Ω hm Ω Ω Ω Ω λa bP h1 p j C=>e _ _ _ ⟨rfl,a,bP,rfl,rfl,?_,j,Ω⟩;rcases h1 with h1|⟨h1,_⟩<;>omega
 rintro _ _ _ ⟨rfl,x,m,rfl,rfl,f,hm,q⟩;refine jv (λx m U=>w=U/\∃a bP:Nat,x= .int .u64 (a:Int)/\m=Δ (bP:Int)/\a<256/\bP+eA a=eA n/\bP<=56) ?_ ?_
 rotate_left
 .intro ay e;refine step (s:=8) Ω Ω hm Ω Ω Ω Ω λa bP h1 p j C=>e _ _ _ ⟨rfl,a,bP,rfl,rfl,?_,j,Ω⟩;rcases h1 with h1|⟨h1,_⟩<;>omega
 rintro _ _ _ ⟨rfl,x,m,rfl,rfl,f,hm,q⟩;have J:=Nq;have H:=Db f;rw[fB fz.u cK.u,wrap_u8 Ω Ω];refine(uB (s:=rX) c6.u (by rw[J];omega)).mpr ?_;rw[Ns f,fB cK.u aj.u,li Ω Ω,aO,li Ω Ω];exact⟨by congr 1;omega,Ext.refl _⟩
theorem Df{k:o7}{a:Nat}(f:n<64):ab x8 (aN .shr t cx cy (Δ (a:Int)) (.int k (n:Int))) w K=K (Δ ((a / 2 ^ n:Nat):Int)):=ab.of λI _=>by
 have e:(a:Int).fdiv (2 ^ min n W6.bits)=((a / 2 ^ n:Nat):Int):=by
  have:min n W6.bits=n:=Q6 (by show n<=64;omega);rw[this,Int.fdiv_eq_ediv_of_nonneg _ (by exact Int.le_of_lt (Int.pow_pos Ω))];simp
 simp only[aN,eqGuard,binOp,Op.shift,u6,e];rfl
theorem Nu:∀L:Fin 64,7<=L.val->2 ^ L.val<=10 ^ (L.val*78913 / 262144+1)/\10 ^ (L.val*78913 / 262144)<=10*2 ^ (L.val-1)/\1<=L.val*78913 / 262144/\L.val*78913 / 262144<19:=by decide+kernel
theorem Nv{d:Nat}(y:fs w)(h1:100<=d)(C:d<9223372036854775808):al x8 KX [.int .u64 (d:Int)] w λv I=>Ext w I/\∃n:Nat,v=Δ ((n+1:Nat):Int)/\n<19/\10 ^ n<=d/\d<10 ^ (n+1):=by
 have j:d≠0:=Ω
 have p:eA d=Nat.log2 d+1:=by unfold eA;rw[m5 j]
 have E:2 ^ (eA d-1)<=d:=by rw[p];exact Nat.log2_self_le j
 have G:d<2 ^ eA d:=by rw[p];exact Nat.lt_log2_self
 have z:7<=eA d:=by
  by_cases h:7<=eA d
  .exact h
  .have:2 ^ eA d<=2 ^ 6:=S4 Ω Ω;omega
 have A:eA d<64:=by
  by_cases h:eA d<64
  .exact h
  .have:2 ^ 63<=2 ^ (eA d-1):=S4 Ω Ω;omega
 obtain⟨B,q,t3,t4⟩:=Nu ⟨eA d,A⟩ z;simp only at B q t3 t4;refine aB func306 ?_;refine(Nt Ω).Y ?_;rintro _ U _ ⟨rfl,a⟩;generalize eA d=L at*;refine al.Y (K:=λv aa=>v=Δ ((L*78913 / 262144:Nat):Int)/\Ext U aa) ?_ ?_
 .refine aB func327 ?_;rw[gW,li Ω Ω,show U6 .u64 18=U6 .u64 ((18:Nat):Int)from rfl,show(L:Int)*78913=((L*78913:Nat):Int) by omega,Df Ω];exact⟨rfl,Ext.refl _⟩
 rintro _ aa _ ⟨rfl,e⟩;generalize L*78913 / 262144=t at*;have ac:=Np t Ω;rw[wU wR.u fz.i Ω,aD Ψ (by rw[T5];exact((y.W a).W e) _ _ (mo ac)),cH];refine al.Y (K:=λv r=>v=Δ ((if 10 ^ t<=d then 1 else 0:Nat):Int)/\Ext aa r) ?_ ?_
 .refine aB func328 ?_;rw[ak];refine⟨λh=>⟨by rw[m3 Ω];rfl,Ext.refl _⟩,λh=>⟨by rw[m5 Ω];rfl,Ext.refl _⟩⟩
 rintro _ r _ ⟨rfl,x⟩;rw[aO];by_cases f:10 ^ t<=d
 .rw[m3 f,li Ω Ω];exact⟨(a.F e).F x,t,by congr 1,t4,f,Ω⟩
 .rw[m5 f,li Ω Ω];obtain⟨s,rfl⟩:∃s,t=s+1:=⟨t-1,Ω⟩;rw[Nat.pow_succ]at q;exact⟨(a.F e).F x,s,by congr 1,Ω,Ω,Ω⟩
theorem Dg{k a:o7}{x:Int}{i:Nat}{s:ByteArray}(e:x=(i:Int))(f:y=(j:Int))(p:x8.underlying t=σ .string)(q:i<=j)(r:j<=s.size):
  ab x8 (U5 t (.string s) (σ (.int k x)) (σ (.int a y)) ν) w K=K (.string (s.extract i j)):=ab.of λI _=>by
 subst e f;have z:=tH (P:=x8) I (sl:=rs) (n:=s.size) (c:=s.size) (low:=σ (.int k (i:Int))) (high:=σ (.int a (j:Int))) (mx:=ν) (l:=i) (h:=j) (m:=s.size) ⟨k,rfl⟩ ⟨a,rfl⟩ e2 q r (p8 _);simp[U5,Instr.slice,run_underlying p,z]
theorem Nw:∀q:Fin 100,la.extract (2*q.val) (2*q.val+2)=strOfNums [48+((q.val / 10:Nat):Int),48+((q.val % 10:Nat):Int)]:=by decide+kernel
def Dh:ByteArray:=⟨#[48,49,50,51,52,53,54,55,56,57,97,98,99,100,101,102,103,104,105,106,107,108,109,110,111,112,113,114,115,116,117,118,119,120,121,122]⟩
theorem Nx:∀q:Fin 10,Dh.extract q.val (q.val+1)=strOfNums [48+(q.val:Int)]:=by decide+kernel
theorem Di(h:n<10):gi n=[48+(n:Int)]:=by rw[pp,m3 h,Nat.mod_eq_of_lt h];rfl
theorem Ny(h1:10<=n)(a:n<100):gi n=[48+((n / 10:Nat):Int),48+((n % 10:Nat):Int)]:=by
 rw[pp,m5 Ω,Di Ω];rfl
theorem Nz(a:n<100):al x8 KW [Δ (n:Int)] w λv I=>v=b6 (gi n)/\Ext w I:=by
 refine aB func305 ?_;rw[aR,ak];refine⟨λh=>?_,λh=>?_⟩
 .rw[aO,li Ω Ω];refine(Dg (s:=Dh) (i:=n) (j:=n+1) rfl Ω c6.u Ω (by show n+1<=36;omega)).mpr ?_;rw[Nx ⟨n,Ω⟩,Di Ω];exact⟨rfl,Ext.refl _⟩
 .rw[gW,li Ω Ω,gW,li Ω Ω,aO,li Ω Ω];refine(Dg (s:=la) (i:=2*n) (j:=2*n+2) Ω Ω c6.u Ω (by rw[Dd];omega)).mpr ?_;rw[Nw ⟨n,a⟩,Ny Ω a];exact⟨rfl,Ext.refl _⟩
theorem NA{g:Nat}{f h:Λ}(a:lb w g 1 f C h)(p:C.length<=23):aM .u8 w (.slice (σ ⟨g,1,ν⟩) C.length 23) C:=by
 obtain⟨a,ac⟩:=a;refine⟨Ξ,g,1,_,23,rfl,p,by simp[maxLen],λ_=>rfl,λj v e=>?_⟩;have q:j<C.length:=by have:=(x5.1 e).1;simpa using this
 refine a.cell ?_;rw[ints,Z5,Z5,Y2 Θ,Z7 Θ,u9,ac,R2];exact e
theorem Dj{g m:Nat}(a:y=((m+2:Nat):Int))(hm:m<=22):
  ab x8 (U5 nY (Γ g) (σ (Δ 1)) (σ (Δ y)) ν) w K=K (.slice (σ ⟨g,1,ν⟩) (m+1) 23):=by
 subst a;have:=tI (w:=w) (b:=g) (o:=0) (low:=σ (Δ 1)) (high:=σ (Δ ((m+2:Nat):Int))) (mx:=ν) (l:=1) (h:=m+2) (m:=24) (K:=K) nY.u cK.i ⟨_,rfl⟩ ⟨_,rfl⟩ e2 Ω Ω Ω;rw[this,m5 Ω];rfl
theorem NB(q:fs w)(s:n<9223372036854775808):al x8 KR [Δ (n:Int),Δ 10] w λv I=>v=b6 (gi n)/\Ext w I:=by
 refine aB func291 ?_;rw[bk];refine(ak).mpr ⟨λ_=>?_,λh=>m6 rfl h⟩;refine aV (λv U=>w=U/\v= .bool (decide (n<100))) ?_ ?_
 rotate_left
 .intro ay a;rw[nh,ak];refine⟨λ_=>?_,λh=>Ω⟩;rw[aR];exact a _ _ ⟨rfl,by congr 1;rw[U9,ne,ne];omega⟩
 rintro _ _ ⟨rfl,rfl⟩;rw[ak];refine⟨λh=>?_,λh=>?_⟩
 .exact (Nz h).Y λ_ _ _ h=>h
 refine bB nY.i λg U E f x=>?_;rw[fB au.u fz.u,lm Ω Ω];refine aV (λv aa=>U=aa/\v= .int .u64 (n:Int)) ?_ ?_
 rotate_left
 .intro ay a;rw[aR,ak];exact⟨λh=>Ω,λ_=>a _ _ ⟨rfl,rfl⟩⟩
 rintro _ _ ⟨rfl,rfl⟩;refine(Nv (q.W f) Ω s).Y ?_;rintro _ aa _ ⟨j,m,rfl,hm,y,p⟩;rw[aO,li Ω Ω];rw[Dj (m:=m) Ω Ω];have z:lb aa g 1 [0] (o4 (m+1) 0) (o4 (22-m) 0):=by
  refine⟨?_,rfl⟩;have e:[0]++o4 (m+1) (0:Int)++o4 (22-m) 0=o4 24 0:=by
   rw[show[(0:Int)]=o4 1 0 from rfl,List.replicate_append_replicate,List.replicate_append_replicate];congr 1;omega
  rw[e];exact x.W j
 refine(No (N:=m+1) z Ξ Ω p).Y ?_;rintro _ G _ ⟨rfl,A,B⟩;refine cc Ω ?_;rw[aO,li Ω Ω];rw[Dj (m:=m) Ω Ω];have C:=rV (m+1) n;have J:=NA B Ω;rw[C]at J;rw[w7 cQ.u cK.u c6.u J,Dc m n y p];refine⟨rfl,(f.F j).then A λr H he=>?_⟩;have he:r=g:=he;omega
theorem NC(a:fs w)(e:n<9223372036854775808):al x8 wJ [Δ (n:Int)] w λv I=>v=b6 (gi n)/\Ext w I:=by
 refine aB func223 ?_;refine al.Y (K:=λv I=>v=b6 (gi n)/\Ext w I) ?_ (λ_ _ _ h=>h);refine aB func265 ?_;exact(NB a e).Y λ_ _ _ h=>h
theorem fs.V(h:fs w)(a:af S w I)(e:¬S 1):fs I:=iu a e h
def ds(w:x4)(g gs:Nat)(A:ah)(B:ah)(a:Bool)(s:Option aJ):Prop:=match s with
 |some s=>eo w g gs A B s a
 |none=>fg w g gs A B
theorem gk.of{g:Nat}{A:ah}{B:ah}{a:Bool}{s:Option aJ}(h:gk w g gs A B a s I):af (bK g gs A) w I/\ds I g gs A B a s:=h
theorem gk.mk{g:Nat}{A:ah}{B:ah}{a:Bool}{s:Option aJ}(h:af (bK g gs A) w I)(e:ds I g gs A B a s):gk w g gs A B a s I:=⟨h,e⟩
theorem ds.V{g:Nat}{A:ah}{B:ah}{a:Bool}{s:Option aJ}(h:ds w g gs A B a s)(e:af S w I)(f:∀r,bK g gs A r->¬S r)(j:∀r,cS g gs A B r->¬S r):ds I g gs A B a s:=by
 cases s with
 |none=>exact fg.V h e f j
 |some s=>exact eo.V h e f j
theorem ds.W{g:Nat}{A:ah}{B:ah}{a:Bool}{s:Option aJ}(h:ds w g gs A B a s)(e:Ext w I):ds I g gs A B a s:=h.V (e.V λ_=>False) (λ_ _ h=>h) λ_ _ h=>h
theorem ds.side{g:Nat}{A:ah}{B:ah}{a:Bool}{s:Option aJ}(h:ds w g gs A B a s):my w g gs A B:=by
 cases s with
 |none=>exact h.1
 |some s=>exact h.1
def bf(lo hi:Int)(s:Option aJ):Option (Int×aJ):=s.bind (bl lo hi)
theorem nw{g:Nat}{A:ah}{B:ah}{s:Option aJ}{a:Bool}(h:ds w g gs A B a s):al x8 oT [Γ g,Δ lo,Δ hi] w λv I=>gk w g gs A B a ((bf lo hi s).map (·.2)) I/\∃n at_:Int,v= .tuple #[Δ n,Δ at_]/\(∀q,bf lo hi s=σ q->n=q.1)/\(bf lo hi s=ν->n=0):=by
 cases s with
 |none=>
  refine(Mz h).Y ?_;rintro _ U _ ⟨e,rfl⟩;exact⟨⟨e.V _,fg.W h e⟩,0,0,rfl,λq h=>(by cases h),λ_=>rfl⟩
 |some s=>exact xq h
theorem qD{g:Nat}{A:ah}{B:ah}{s:Option aJ}{a:Bool}(h:ds w g gs A B a s):al x8 mj [Γ g] w λv I=>v= .bool s.isSome/\Ext w I:=by
 cases s with
 |none=>exact pt h
 |some s=>exact qx h
theorem ND{g:Nat}{A:ah}{B:ah}{s:Option aJ}{a:Bool}{e:Int}(h:ds w g gs A B a s)(he:e≠0):al x8 oU [Γ g,Δ e,Δ at_] w λ_ I=>gk w g gs A B a ν I:=by
 cases s with
 |none=>
  refine(Mx h).Y ?_;rintro _ U _ f;exact⟨f.V _,fg.W h f⟩
 |some s=>
  refine(ui h he).Y ?_;rintro _ U _ ⟨j,p⟩;exact⟨j.Y λr _ h=>.inl h,p⟩
theorem rY{g:Nat}{A:ah}{B:ah}{s:Option aJ}{a b:Bool}(h:ds w g gs A B a s):al x8 rl [Γ g,.bool b,Δ at_] w λ_ I=>gk w g gs A B a (s.map (bj b)) I:=by
 cases s with
 |none=>
  refine(CG h).Y ?_;rintro _ U _ e;exact⟨e.V _,fg.W h e⟩
 |some s=>
  refine(uj h).Y ?_;rintro _ U _ ⟨f,j⟩;exact⟨f.Y λr _ h=>.inl h,j⟩
theorem oe{n:Int}{s:Option aJ}{s':aJ}(h:bf lo hi s=σ (n,s')):lo<=n/\n<=hi:=by
 cases s with
 |none=>cases h
 |some s=>exact(jl h).1
def gl(a acc:Λ)(s:Option aJ):Option (Λ×aJ):=s.bind (kC a acc)
theorem Dk{acc:Λ}{s:Option aJ}:gl (k::a) acc s=match bf 0 (k-1) s with
  |none=>ν
  |some (v,s)=>kC a (acc++[v]) s:=by
 cases s with
 |none=>rfl
 |some s=>
  show kC (k::a) acc s=_;rw[kC];show _=match bl 0 (k-1) s with|none=>ν|some (v,s)=>kC a (acc++[v]) s
  cases bl 0 (k-1) s<;>rfl
theorem Dl:∀(t:Λ),(∀x∈t,0<=x/\x<=az)->(eO t).length<=20*t.length
 |[],_=>by simp[eO]
 |x::t,h=>by
  have j:=Dl t λy a=>h y (.tail _ a);have f:=h x (.head _);have p:=xa 19 x.toNat (by unfold az at f;omega) Ω;have e:eO (x::t)=gi x.toNat++[32]++eO t:=by simp[eO]
  rw[e];simp only[r9,Z4,Q7];omega
theorem NE{g an:Nat}{A B:ah}{s:Option aJ}{S:Bool}{ai:x1->x4->Prop}(h:ds w g gs A B S s)(ak:aM .i64 w sv co)(aI:∀r,lc sv r->¬bK g gs A r/\r≠an)(aK:∀z∈co,1<=z/\z<=az)(bP:co.length<=100001)(aP:fs w)(h1:cS g gs A B 1)(am:ag w an ey [.slice ν 0 0,Δ 0])(ao:¬bK g gs A an)(ap:¬B an)(aq:∀t I aS gt,t.length=co.length->(∀x∈t,0<=x/\x<=az)->af (λr=>bK g gs A r\/r=an) w I->ag I an ey [aS,Δ 0]->aA .i64 au I gt aS t->w.heap.size<=gt->
   ds I g gs A B S ((gl co [] s).map (·.2))->(∀q,gl co [] s=σ q->t=q.1)->ai (b6 (eO t)) I):
  cb (.string ⟨#[]⟩) (Δ 0) w λkey W C aQ=>
   ab x8 (aN .lss aj rs rs W (Δ (co.length:Int))) C λaR=>
   Split aR (ab x8 (Z0 ax sv W) C λaU=>
   ab x8 (u5 au aU) C λaV=>
   ab x8 (aN .sub au rs ro aV (Δ 1)) C λaW=>
   al x8 oT [Γ g,(Δ 0),aW] C λav G=>
   ab x8 (Y8 av 0) G λaw=>
   ab x8 (Y8 av 1) G λbQ=>
   ab x8 (u7 ey (Γ an) 0) G λaX=>
   ab x8 (u5 ax aX) G λaY=>
   aH x8 (X2 ax 1 #[(0,aw)]) G λaZ a1=>
   aH x8 (Y0 #[ax,ax] ax #[aY,aZ]) a1 λa2 ay=>
   ab x8 (u7 ey (Γ an) 0) ay λa6=>
   aH x8 (n9 ax a6 a2) ay λ(_:Unit)a7=>
   al x8 wJ [aw] a7 λa8 K=>
   ab x8 (aN .add c6 rs ro a8 (.string ⟨#[32]⟩)) K λba=>
   ab x8 (aN .add c6 rs rs key ba) K λbb=>
   ab x8 (aN .add aj rs ro W (Δ 1)) K λbc=>
   aQ bb bc K) (ai key C):=by
 have bR:=am.lt;have bd:=h.side;obtain⟨bS,bT,bU,be,bg⟩:=bd;refine cb.range co.length (λj key U=>∃t aS gt s1,key=b6 (eO t)/\t.length=j/\(∀x∈t,0<=x/\x<=az)/\af (λr=>bK g gs A r\/r=an) w U/\ag U an ey [aS,Δ 0]/\aA .i64 au U gt aS t/\w.heap.size<=gt/\
  ds U g gs A B S s1/\gl co [] s=gl (co.drop j) t s1) ak.le ⟨[],_,w.heap.size,s,rfl,rfl,λx y=>(by cases y),af.refl _ _,am,aA.nil _ _ _ _,p8 _,h,rfl⟩ ?_ ?_
 rotate_left
 .rintro _ U bh ⟨t,aS,gt,s1,rfl,L,H,E,M,N,X,O,he⟩;refine cc Ω ?_;rw[List.drop_length]at he;cases s1 with
  |none=>
   have he:=he;exact aq t U aS gt L H E M N X (by rw[he];exact O) (λq e=>by rw[he]at e;cases e)
  |some s1=>
   have he:=he;exact aq t U aS gt L H E M N X (by rw[he];exact O) (λq e=>by rw[he]at e;cases e;rfl)
 rintro j _ U bh aB ⟨t,aS,gt,s1,rfl,L,H,E,M,N,X,O,he⟩ bj;obtain⟨z,Y⟩:=aF (l:=co) aB;have bk:=aK z (x6 Y);have bV:z<=4611686018427387904:=bk.2;have bl:=jk ak E λr f a n c bm bn=>by
  have:=aI r ⟨a,n,c,bm,bn⟩;exact f.elim this.1 this.2
 have ae:∀r,bK g gs A r->r<w.heap.size:=be;refine bI Ω ?_;rw[bi ax.u au.i Ψ bl Y,dp,li Ω Ω];refine(nw O).Y ?_;rintro _ aa _ ⟨bo,n,at_,rfl,aC,bp⟩;obtain⟨P,br⟩:=bo.of;have aD:0<=n/\n<=az:=by
  cases e:bf 0 (z-1) s1 with
  |none=>rw[bp e];exact⟨Ω,by unfold az;omega⟩
  |some q=>
   rw[aC q e];have:=oe e;exact⟨this.1,by unfold az;omega⟩
 rw[bu,bw];have aE:=M.V P ao;have bs:=N.V P λ_ bt=>by have:=ae _ bt;omega
 rw[aL ey.p 0 aE rfl];refine eB ax.u au.i rfl λa ga bx bW J bz=>?_;refine kx ax.u au.i rfl (bs.W J) bz.ls Θ Θ λbA bB bC bX Z Q=>?_;have bY:=E.size;have bZ:=P.size;have z3:=J.size;have z4:=Q.size;rw[aT ey.p rfl];have bD:=(aE.W J).V Q (λhe=>by have he:=he;omega);refine bq (g:=an) (o:=0) ax.i Z.ls.cells.1 Z.ls.cells.2 bD Ξ λbE ac b0 ad=>?_;have ad:=ad;have bF:af (λr=>bK g gs A r\/r=an) w bx:=(E.F (P.Y λr _ h=>.inl h)).F (J.V _);have bG:af (λr=>bK g gs A r\/r=an) w bC:=iO bF Q λr f he=>by have he:r=gt:=he;omega
 have aG:af (λr=>bK g gs A r\/r=an) w bE:=bG.F (ac.Y λr _ h=>.inr h);have bH:¬(λr=>bK g gs A r\/r=an) 1:=λh=>h.elim h1.1 λh=>ap (h▸h1.2);obtain⟨m,rfl⟩:∃m:Nat,n=(m:Int):=⟨n.toNat,Ω⟩;unfold az at aD;refine(NC (aP.V aG bH) Ω).Y ?_;rintro _ b1 _ ⟨rfl,R⟩;have b2:=xa 19 m Ω Ω;have b3:=Dl t H;rw[show(ByteArray.mk #[32])=strOfNums [32]from rfl,w6 Θ,w6 Θ,aO];refine bj _ _ ⟨t++[(m:Int)],bA,bB,(bf 0 (z-1) s1).map (·.2),?_,by simp[L],λx y=>?_,aG.F (R.V _),ad.W R,(Z.V ac (λ_ he=>by have he:=he;omega)).W R,Ω,?_,?_⟩
 .rw[LR,u6]
 .rcases j4.1 y with y|y
  .exact H x y
  .rw[j6.1 y];exact aD
 .refine ds.W ?_ R;have bJ:=br.W J;have bL:∀r,bK g gs A r->¬(λr=>r=gt) r:=λr f he=>by have:=ae r f;have he:r=gt:=he;omega
  have bM:∀r,cS g gs A B r->¬(λr=>r=gt) r:=λr f he=>by have:=bg r f.2;have he:r=gt:=he;omega
  have bN:∀r,bK g gs A r->¬(λr=>r=an) r:=λr f he=>by have he:r=an:=he;exact ao (he▸f)
  have bO:∀r,cS g gs A B r->¬(λr=>r=an) r:=λr f he=>by have he:r=an:=he;exact ap (he▸f.2)
  exact(bJ.V Q bL bM).V ac bN bO
 .rw[he,X8 aB,show co[j]=z from(x5.1 Y).2,Dk];cases e:bf 0 (z-1) s1 with
  |none=>rfl
  |some q=>
   rw[aC q e];rfl
def ea(s:aJ):Prop:=s.big=rs->s.m1<=16384
def ld(n:Int)(s:aJ):aJ:=bj (decide (16384<min (s.m1+n) az)) {s with m1:=min (s.m1+n) az}
theorem NF(n:Int)(s:aJ):ea (ld n s):=λh=>by
 have h:(s.big||decide (16384<min (s.m1+n) az))=rs:=h;have:=of_decide_eq_false (U4.1 h).2;show min (s.m1+n) az<=16384;omega
theorem NG{g:Nat}{A B:ah}{s:Option aJ}{z:Bool}{n:Int}{K:x4->Prop}(h:ds w g gs A B z s)(P:∀t,s=σ t->0<=n/\n<=az/\ea t)(L:∀I,af (bK g gs A) w I->ds I g gs A B z (s.map (ld n))->K I):
  ab x8 (bR (Γ g)) w λQ=>
  ab x8 (u7 cB Q 2) w λR=>
  ab x8 (u5 au R) w λS=>
  ab x8 (aN .add au rs rs S (Δ n)) w λW=>
  ab x8 (Y1.min_ #[au,au] au #[W,(Δ 4611686018427387904)]) w λX=>
  ab x8 (bR (Γ g)) w λY=>
  ab x8 (u7 cB Y 2) w λZ=>
  aH x8 (n9 au Z X) w λ(_:Unit)q=>
  ab x8 (bR (Γ g)) q λt77=>
  ab x8 (u7 cB t77 2) q λac=>
  ab x8 (u5 au ac) q λad=>
  ab x8 (aN .gtr au rs ro ad (Δ 16384)) q λae=>
  al x8 rl [Γ g,ae,Δ at_] q λ_ ag=>K ag:=by
 cases s with
 |none=>
  obtain⟨J,e,big,C,E,m1,sv,l,x,y,G⟩:=id h;rw[aG cB.p 2 x rfl,aO,nj,bL,aT cB.p rfl];refine bq (g:=g) (o:=5) au.i rfl rfl x (by simp[jm]) λU a ai f=>?_;rw[aG cB.p 2 f rfl,bO];have M:fg U g gs A B:=⟨J.V a,e,big,C,E,_,sv,l,f,y,av.V G a λr _ h H=>ug h J.2.1 H⟩;refine(CG M).Y ?_;rintro _ aa _ N;exact L _ ((a.Y λr _ h=>.inl h).F (N.V _)) (M.W N)
 |some s=>
  obtain⟨aq,aj,hi⟩:=P s rfl;obtain⟨J,ak,am,big,C,E,m1,sv,x,y,G⟩:=id h;rw[aG cB.p 2 x rfl,aO,nj,bL,aT cB.p rfl];refine bq (g:=g) (o:=5) au.i rfl rfl x (by simp[jm]) λU a ai f=>?_;have f:=f;rw[aG cB.p 2 f rfl,bO];have key:s.big=rs->min (W6.wrap (m1+n)) 4611686018427387904=min (s.m1+n) az:=λj=>by
   rw[y.2 j];have:=hi j;unfold az at aj ⊢;rw[li Ω Ω]
  have an:eo U g gs A B {s with m1:=min (s.m1+n) az} z:=⟨J.V a,ak.V a (λhe=>J.1 he.symm) (λr ao he=>ao.1 (.inl he)),⟨by show 0<=min _ _;unfold az;omega,by show min _ _<=_;omega,am.2.2⟩,big,C,E,_,sv,f,⟨y.1,key⟩,av.V G a λr _ h H=>ug h J.2.1 H⟩;refine(uj an).Y ?_;rintro _ aa _ ⟨ap,O⟩;refine L _ ((a.F ap).Y λr _ h=>.inl h) ?_;have e:bj (decide (16384<min (W6.wrap (m1+n)) 4611686018427387904)) {s with m1:=min (s.m1+n) az}=ld n s:=by
   cases j:s.big with
   |false=>rw[key j,<-j];rfl
   |true=>simp[ld,bj,j]
  rw[e]at O;exact O
def ke(co:Λ)(s:Option aJ):Option (List (Λ×Int)×aJ):=s.bind (dZ co)
def mA(w:x4)(m:Nat)(acc:List (Λ×Int)):Prop:=db w m (acc.map λp=>(b6 (eO p.1),Δ 1))
def lV(w:x4)(m:Nat):Prop:=∃d,db w m d/\∀p∈d,∃(k:ByteArray)(c:Int),p=(.string k,Δ c)
theorem mA.any{m:Nat}{acc:List (Λ×Int)}(h:mA w m acc):lV w m:=⟨_,h,λp ac=>by
 obtain⟨q,_,rfl⟩:=j0.1 ac;exact⟨_,_,rfl⟩⟩
theorem NH{m:Nat}{k:ByteArray}(h:lV w m)(e:∀c:Int,K (Δ c)):ab x8 (Instr.lookup ir (.map (σ m)) (.string k) rs) w K:=by
 obtain⟨d,hm,f⟩:=h;have hk:=Keys.str c6.u;have q:∀p∈d,∃s,p.1=x1.string s:=λp ac=>by obtain⟨s,c,rfl⟩:=f p ac;exact⟨s,rfl⟩
 by_cases he:∃p∈d,p.1=x1.string k
 .obtain⟨p,ac,a⟩:=he;obtain⟨j,r⟩:=X6.1 ac;obtain⟨s,c,rfl⟩:=f p ac;have a:x1.string s=x1.string k:=a;rw[a]at r;rw[rO ir.u hk hm q ⟨k,rfl⟩ r];exact e c
 .have x:∀p∈d,p.1≠x1.string k:=λp ac h=>he ⟨p,ac,h⟩;rw[ut ir.u hk ⟨_,_,aj.i⟩ hm q ⟨k,rfl⟩ x];exact e 0
theorem NI{m:Nat}{k:ByteArray}{K:Unit->x4->Prop}(h:lV w m)(q:∀I,af (λr=>r=m) w I->lV I m->K () I):aH x8 (Instr.mapUpdate ir (.map (σ m)) (.string k) (Δ c)) w K:=by
 obtain⟨d,hm,a⟩:=h;have x:∀p∈d,∃s,p.1=x1.string s:=λp ac=>by obtain⟨s,c,rfl⟩:=a p ac;exact⟨s,rfl⟩
 refine rP ir.u (Keys.str c6.u) hm x ⟨k,rfl⟩ (λj v0 I y e f=>q I f ⟨_,e,λp ac=>?_⟩) (λI z e f=>q I f ⟨_,e,λp ac=>?_⟩)
 .rcases V0 ac with ac|rfl
  .exact a p ac
  .exact⟨_,_,rfl⟩
 .rcases j4.1 ac with ac|ac
  .exact a p ac
  .rw[j6.1 ac];exact⟨_,_,rfl⟩
theorem Dm{b:Λ}(e:∀x∈a,0<=x)(f:∀x∈b,0<=x)(h:b6 (eO a)=b6 (eO b)):a=b:=by
 have h:=x1.string.inj h;exact BX e f (str_inj (BY a) (BY b) h)
theorem xE{acc:List (Λ×Int)}:∀p∈acc.map λp=>(b6 (eO p.1),U6 .i64 1),∃s,p.1=x1.string s:=λp ac=>by
 obtain⟨q,_,rfl⟩:=j0.1 ac;exact⟨_,rfl⟩
theorem Dn{m:Nat}{acc:List (Λ×Int)}{t:Λ}(h:mA w m acc)(e:∀p∈acc,∀x∈p.1,0<=x)(f:∀x∈t,0<=x):
  ab x8 (Instr.lookup ir (.map (σ m)) (b6 (eO t)) rs) w K=K (Δ (if t∈acc.map (·.1)then 1 else 0)):=by
 have hk:=Keys.str c6.u;by_cases he:t∈acc.map (·.1)
 .rw[m3 he];obtain⟨p,ac,rfl⟩:=j0.1 he;obtain⟨j,r⟩:=X6.1 ac;rw[rO ir.u hk h xE ⟨_,rfl⟩ (by rw[v8,r];rfl)];simp
 .rw[m5 he];rw[ut ir.u hk ⟨_,_,aj.i⟩ h xE ⟨_,rfl⟩ (λp ac s=>?_)]
  .simp
  .obtain⟨q,a,rfl⟩:=j0.1 ac;have:=Dm (e q a) f s;exact he (j0.2 ⟨q,a,this⟩)
theorem NJ{m:Nat}{acc:List (Λ×Int)}{t:Λ}{K:Unit->x4->Prop}(h:mA w m acc)(z:∀p∈acc,∀x∈p.1,0<=x)(A:∀x∈t,0<=x)(B:t∉acc.map (·.1))(C:∀I,af (λr=>r=m) w I->mA I m (acc++[(t,c)])->K () I):aH x8 (Instr.mapUpdate ir (.map (σ m)) (b6 (eO t)) (Δ 1)) w K:=by
 refine rP ir.u (Keys.str c6.u) h xE ⟨_,rfl⟩ (λj v0 I e f s=>?_) (λI _ f s=>C I s ?_)
 .rw[v8]at e;obtain⟨q,y,a⟩:=X0.1 e;have a:=congrArg Prod.fst a;have:=Dm (z q (x6 y)) A a;exact m6 (j0.2 ⟨q,x6 y,this⟩) B
 .unfold mA;rw[Z5];exact f
theorem NK{m:Nat}{acc:List (Λ×Int)}{t:Λ}{ok:Prop}{K:Unit->x4->Prop}(e:lV w m)(z:ok->mA w m acc/\(∀p∈acc,∀x∈p.1,0<=x)/\(∀x∈t,0<=x)/\t∉acc.map (·.1))(f:∀I,af (λr=>r=m) w I->lV I m->(ok->mA I m (acc++[(t,c)]))->K () I):
  ab x8 (Instr.lookup ir (.map (σ m)) (b6 (eO t)) rs) w λA=>
  ab x8 (aN .add aj rs ro A (Δ 1)) w λB=>
  aH x8 (Instr.mapUpdate ir (.map (σ m)) (b6 (eO t)) B) w K:=by
 by_cases j:ok
 .obtain⟨h1,q,s,y⟩:=z j;rw[Dn h1 q s,m5 y,aO,li Ω Ω];exact NJ h1 q s y λI a J=>f I a J.any λ_=>J
 .refine NH e λfo=>?_;rw[aO];exact NI e λI a J=>f I a J λh=>m6 h j
def fD{α:Type}(f:List α->aJ->Option (α×aJ))(n:Nat)(acc:List α)(o:Option aJ):Option (List α×aJ):=o.bind (cT f n acc)
theorem lV.V{m:Nat}(h:lV w m)(a:af S w I)(e:¬S m):lV I m:=by
 obtain⟨d,h1,f⟩:=h;exact⟨d,h1.V a e,f⟩
theorem ds.words{g:Nat}{A:ah}{B:ah}{a:Bool}{s:aJ}(h:ds w g gs A B a (σ s)):s.d8.length<=100000:=by
 have h:=h;exact h.2.1.words.1
theorem Do{acc:List (Λ×Int)}{st:aJ}{t:Λ}(j:∀q,gl co [] (σ st)=σ q->t=q.1)(a:∀q,bf 0 az ((gl co [] (σ st)).map (·.2))=σ q->c=q.1):
  (bf 0 az ((gl co [] (σ st)).map (·.2))=ν->eN co acc st=ν)/\∀q,bf 0 az ((gl co [] (σ st)).map (·.2))=σ q->eN co acc st=if t∈acc.map (·.1)then ν else σ ((t,c),q.2):=by
 have e:gl co [] (σ st)=kC co [] st:=rfl;rw[e]at j a ⊢;unfold eN;cases h1:kC co [] st with
 |none=>exact⟨λ_=>rfl,λq f=>(by cases f)⟩
 |some q=>
  obtain⟨bn,s1⟩:=q;rw[h1]at j a;have:=j _ rfl;subst this;have p:bf 0 az ((σ (t,s1)).map (·.2))=bl 0 az s1:=rfl;rw[p]at a ⊢;simp only;cases r:bl 0 az s1 with
  |none=>exact⟨λ_=>rfl,λq f=>(by cases f)⟩
  |some q=>
   obtain⟨s,w⟩:=q;rw[r]at a;have:=a _ rfl;subst this;exact⟨λh=>(by cases h),λq f=>(by cases f;rfl)⟩
theorem NL{g:Nat}{A B:ah}{s:Option aJ}{Z:Bool}{Q:x1->x4->Prop}(h:ds w g gs A B Z s)(bZ:aM .i64 w sv co)(aZ:∀r,lc sv r->¬bK g gs A r/\r<w.heap.size)(b0:∀z∈co,1<=z/\z<=az)(b1:co.length<=100001)(b2:fs w)(h1:cS g gs A B 1)(b3:(N:Int)<=az)(bp:∀v I l,gk w g gs A B Z ((fD (eN co) N [] s).map (·.2)) I->bJ (fC w.heap.size) bW I [v] (show List (Λ×Int)from l)->(∀q,fD (eN co) N [] s=σ q->l=q.1)->Q v I):
  aH x8 (Instr.makeMap ir ν) w λa1 y=>
 cb (.slice ν 0 0) (Δ 0) y λout i H k=>
  cv (α:=x1->x4->Prop) (λ(b4:x1)(S:x4)=>
   Split b4 (aH x8 (P7 ey ro (.tuple #[])) S λx j=>
  ab x8 (V7 #[ax] aj #[sv]) j λb5=>
  cb (.string ⟨#[]⟩) (Δ 0) j λkey a2 U b6=>
   ab x8 (aN .lss aj rs rs a2 b5) U λb7=>
   Split b7 (ab x8 (Z0 ax sv a2) U λb8=>
   ab x8 (u5 au b8) U λb9=>
   ab x8 (aN .sub au rs ro b9 (Δ 1)) U λca=>
   al x8 oT [Γ g,(Δ 0),ca] U λbr aa=>
   ab x8 (Y8 br 0) aa λbs=>
   ab x8 (Y8 br 1) aa λdt=>
   ab x8 (u7 ey x 0) aa λcc=>
   ab x8 (u5 ax cc) aa λcd=>
   aH x8 (X2 ax 1 #[(0,bs)]) aa λce J=>
   aH x8 (Y0 #[ax,ax] ax #[cd,ce]) J λcf bt=>
   ab x8 (u7 ey x 0) bt λcg=>
   aH x8 (n9 ax cg cf) bt λ(_:Unit)ch=>
   al x8 wJ [bs] ch λci aD=>
   ab x8 (aN .add c6 rs ro ci (.string ⟨#[32]⟩)) aD λcj=>
   ab x8 (aN .add c6 rs rs key cj) aD λck=>
   ab x8 (aN .add aj rs ro a2 (Δ 1)) aD λcl=>
   b6 ck cl aD)
    (al x8 oT [Γ g,(Δ 0),(Δ 4611686018427387904)] U λbx aE=>
  ab x8 (Y8 bx 0) aE λcm=>
  ab x8 (Y8 bx 1) aE λcn=>
  ab x8 (u7 ey x 1) aE λcp=>
  aH x8 (n9 au cp cm) aE λ(_:Unit)cq=>
  cv (α:=x4->Prop) (λ(W:x4)=>
   ab x8 (Instr.lookup ir a1 key rs) W λcr=>
   ab x8 (aN .add aj rs ro cr (Δ 1)) W λct=>
   aH x8 (Instr.mapUpdate ir a1 key ct) W λ(_:Unit)ad=>
   ab x8 (u5 ey x) ad λcu=>
   aH x8 (X2 jZ 1 #[(0,cu)]) ad λcw aq=>
   aH x8 (Y0 #[jZ,jZ] jZ #[out,cw]) aq λcz aF=>
   ab x8 (aN .add au rs ro i (Δ 1)) aF λcA=>
  k cz cA aF) λbz=>
  cv (α:=x1->x4->Prop) (λ(cB:x1)(M:x4)=>
   Split cB (al x8 oU [Γ g,(Δ 4),cn] M λdu bC=>
    bz bC)
    (bz M)) λbD=>
  al x8 mj [Γ g] cq λcC ai=>
  Split cC (ab x8 (Instr.lookup ir a1 key rs) ai λcD=>
  ab x8 (aN .gtr aj rs ro cD (Δ 0)) ai λcE=>
  bD cE ai)
   (bD (.bool rs) ai)))
    (Q out S)) λbE=>
  ab x8 (aN .lss au rs rs i (Δ (N:Int))) H λcF=>
  Split cF (al x8 mj [Γ g] H λcG cH=>
  bE cG cH)
   (bE (.bool rs) H):=by
 obtain⟨dv,dw,dx,cI,aG⟩:=h.side;have ae:∀r,bK g gs A r->r<w.heap.size:=cI;unfold az at b3;refine ur λC y dy a6 a7=>?_;have dz:=a6.size;have dA:=a7.lt;generalize E:fD (eN co) N [] s=bF at bp;refine⟨λout a8 H=>∃(i:Nat)(acc:List (Λ×Int))(so:Option aJ),a8=Δ (i:Int)/\i<=N/\af (bK g gs A) w H/\y.heap.size<=H.heap.size/\bJ (fC y.heap.size) bW H [out] acc/\ds H g gs A B Z so/\
   bF=fD (eN co) (N-i) acc so/\lV H C/\acc.length<=100001/\∀st,so=σ st->mA H C acc/\(∀p∈acc,∀x∈p.1,0<=x)/\acc.length+st.d8.length<=100000,
  λ_ a8 _=>N-(bU a8).toNat,⟨0,[],s,rfl,X7 _,a6.V _,p8 _,iM,h.W a6,E.symm,⟨[],a7,λp ac=>(by cases ac)⟩,Ξ,λst cJ=>⟨a7,λp ac=>(by cases ac),?_⟩⟩,?_⟩
 .subst cJ;have:=h.words;simpa using this
 rintro out _ H ⟨i,acc,so,rfl,dC,bG,z9,bI,ba,aI,cK,dD,bb⟩;refine aV (λv S=>Ext H S/\((v= .bool ro/\i<N/\∃st,so=σ st)\/(v= .bool rs/\(so=ν\/i=N)))) ?_ ?_
 rotate_left
 .intro ay bc;rw[aR,ak];refine⟨λcL=>?_,λdE=>bc _ _ ⟨Ext.refl _,.inr ⟨rfl,.inr Ω⟩⟩⟩;refine(qD ba).Y ?_;rintro _ S _ ⟨rfl,O⟩;cases so with
  |none=>exact bc _ _ ⟨O,.inr ⟨rfl,.inl rfl⟩⟩
  |some st=>exact bc _ _ ⟨O,.inl ⟨rfl,Ω,st,rfl⟩⟩
 rintro _ S ⟨O,cM⟩;rcases cM with⟨rfl,cL,st,rfl⟩|⟨rfl,cN⟩
 rotate_left
 .rw[aX];have bL:bF=so.map λst=>(acc,st):=by
   rcases cN with rfl|rfl
   .exact aI
   .rw[W8]at aI;rw[aI];cases so<;>rfl
  refine bp out S acc (gk.mk (bG.F (O.V _)) ?_) (bS (av.Y bI (λr _ h=>by have h:y.heap.size<=r:=h;show w.heap.size<=r;omega) λ_ _ h=>h) O) (λq K=>?_)
  .rw[bL,Option.map_map];have e:T0 ((λx=>x.2)∘λst=>(acc,st)) so=so:=by cases so<;>rfl
   rw[e];exact ba.W O
  .rw[bL]at K;cases so with
   |none=>cases K
   |some st=>cases K;rfl
 rw[bH];obtain⟨bb,bd,dF⟩:=bb st rfl;have dG:=O.size;refine bB ey.i λan j dH bM bN=>?_;have aw:=O.F bM;have be:af (bK g gs A) w j:=bG.F (aw.V _);have bP:aM .i64 j sv co:=jk bZ be λr f a n c cO cP=>(aZ r ⟨a,n,c,cO,cP⟩).1 f;rw[aY ax.u bP];have aK:¬bK g gs A an:=λE=>by have:=ae _ E;omega
 refine NE (s:=σ st) (ba.W aw) bP (λr f=>⟨(aZ r f).1,by have:=(aZ r f).2;omega⟩) b0 b1 (b2.V be h1.1) h1 bN aK (λcQ=>by have:=aG _ cQ;omega) λt U aS gt dI cR bQ cT cU cV cX cY=>?_;have dJ:=bM.size;have z12:=bQ.size;have dK:=bN.lt;have bg:∀x∈t,0<=x:=λx cZ=>(cR x cZ).1;refine(nw cX).Y ?_;rintro _ aa _ ⟨bh,c,dL,rfl,c0,dM⟩;obtain⟨aL,c1⟩:=bh.of;have dN:=aL.size;rw[bu,bw,aT ey.p rfl];refine bq (g:=an) (o:=1) au.i rfl rfl (cT.V aL aK) Ξ λJ aP dO bi=>?_;have bi:ag J an ey [aS,Δ c]:=bi;have c2:aA .i64 au J gt aS t:=(cU.V aL (λ_ E=>by have:=ae _ E;omega)).V aP (λ_ he=>by have he:gt=an:=he;omega);have bj:af (λr=>bK g gs A r\/r=an) j J:=(bQ.F (aL.Y λr _ h=>.inl h)).F (aP.Y λr _ h=>.inr h);have X:ds J g gs A B Z ((bf 0 az ((gl co [] (σ st)).map (·.2))).map (·.2)):=c1.V aP (λr f he=>by have he:r=an:=he;exact aK (he▸f)) (λr f he=>by have:=aG r f.2;have he:r=an:=he;omega);have bR:¬(λr=>bK g gs A r\/r=an) C:=λh=>h.elim (λh=>by have:=ae _ h;omega) (λh=>Ω);have c3:lV J C:=(cK.V (aw.V (λ_=>False)) (λh=>h)).V bj bR;have bT:mA J C acc:=(db.W bb aw).V bj bR;obtain⟨bk,bl⟩:=Do (acc:=acc) cY c0;refine cW (λW=>af (bK g gs A) J W/\ds W g gs A B Z ((eN co acc st).map (·.2))) ?_ ?_
 .rintro W ⟨am,c4⟩;have bm:¬bK g gs A C:=λh=>by have:=ae _ h;omega
  have dP:=aP.size;have dQ:=am.size;refine NK (acc:=acc) (t:=t) (c:=c) (ok:=∃q,eN co acc st=σ q) (c3.V am bm) (λ⟨q,K⟩=>⟨db.V bT am bm,bd,bg,λP=>?_⟩) λad aB c5 c7=>?_
  .cases L:bf 0 az ((gl co [] (σ st)).map (·.2))with
   |none=>rw[bk L]at K;cases K
   |some ao=>rw[bl ao L,m3 P]at K;cases K
  have dR:=aB.size;have c8:ag ad an ey [aS,Δ c]:=(bi.V am aK).V aB (λhe=>by have he:an=C:=he;omega);have c9:aA .i64 au ad gt aS t:=(c2.V am (λ_ E=>by have:=ae _ E;omega)).V aB (λ_ he=>by have he:gt=C:=he;omega);rw[bA ey.p ey.i rfl c8.range];have bV:bJ (fC j.heap.size) bW ad [aS,Δ c] (t,c):=⟨[aS],[Δ c],fC j.heap.size,bW,rfl,λ_ h=>h,λ_ h=>h.elim,λ_ _ _ h=>h,av.Y (ph c9) (λr _ h=>by subst h;exact cV) (λ_ _ h=>h),rfl⟩;refine lM (α:=Λ×Int) (a:=(t,c)) (cs:=[aS,Δ c]) (A:=fC j.heap.size) (R:=bW) jZ.u ey.i Φ rfl bV λu aq ap _ da=>?_;have z22:=ap.size;have dc:bJ (λr=>fC y.heap.size r/\r<j.heap.size/\r≠an) bW j [out] acc:=bS (av.Y (n0 bI) (λr _ h=>⟨h.1,by have:=h.2;omega,by have:=h.2;omega⟩) λ_ _ h=>h) aw;have bX:af (λr=>bK g gs A r\/r=an\/r=C) j aq:=(((bj.Y λr _ h=>h.elim .inl λh=>.inr (.inl h)).F (am.Y λr _ h=>.inl h)).F (aB.Y λr _ h=>.inr (.inr h))).F (ap.V _);have dd:=av.V dc bX λr f h E=>by
   rcases h with h|h
   .have aQ:y.heap.size<=r:=h.1;rcases E with E|E|E
    .have:=ae _ E;omega
    .exact h.2.2 E
    .omega
   .exact h
  refine pg (α:=Λ×Int) (a:=(t,c)) (A:=fC j.heap.size) jZ.u ey.i rfl dd da (bS bV ap) (λr _ h aW=>?_) Ω Ω λdS aF de aC=>?_
  .rcases aW with aW|aW
   .have:=h.2;have:j.heap.size<=r:=aW;omega
   .exact aW
  have dT:=aC.size;rw[aO,li Ω Ω];have df:af (bK g gs A) w aq:=iO be bX λr f h=>by
   rcases h with h|h|h
   .exact h
   .omega
   .omega
  have dg:af (bK g gs A) w aF:=iO df aC λr f h=>by have aQ:y.heap.size<=r:=h.1;omega
  have dh:ds aq g gs A B Z ((eN co acc st).map (·.2)):=(c4.V aB (λr f he=>by have he:r=C:=he;exact bm (he▸f)) (λr f he=>by have:=aG r f.2;have he:r=C:=he;omega)).W ap;have di:∀r,bK g gs A r->¬(fC y.heap.size r/\r<j.heap.size/\r≠an):=λr f he=>by have:=ae _ f;have aQ:y.heap.size<=r:=he.1;omega
  have dj:∀r,cS g gs A B r->¬(fC y.heap.size r/\r<j.heap.size/\r≠an):=λr f he=>by have:=aG r f.2;have aQ:y.heap.size<=r:=he.1;omega
  have bY:¬(fC y.heap.size C/\C<j.heap.size/\C≠an):=λhe=>by have aQ:y.heap.size<=C:=he.1;omega
  refine⟨⟨i+1,acc++[(t,c)],(eN co acc st).map (·.2),rfl,Ω,dg,Ω,?_,dh.V aC di dj,?_,(c5.V (ap.V (λ_=>False)) (λh=>h)).V aC bY,Θ,λdk dl=>?_⟩,by simp only[bU];omega⟩
  .refine av.Y de (λr _ h=>?_) λ_ _ h=>h;show y.heap.size<=r;rcases h with h|h|h
   .exact h.1
   .have h:j.heap.size<=r:=h;omega
   .omega
  .rw[aI,show N-i=(N-(i+1))+1 by omega];cases G:eN co acc st with
   |none=>exact qy G
   |some q=>
    obtain⟨a,dk⟩:=q;have dm:a=(t,c):=by
     cases L:bf 0 az ((gl co [] (σ st)).map (·.2))with
     |none=>rw[bk L]at G;cases G
     |some ao=>
      rw[bl ao L]at G;split at G
      .cases G
      .cases G;rfl
    subst dm;exact ul G
  .obtain⟨q,K,rfl⟩:=X0.1 dl;have dU:=(qv K).2.2.2.1;refine⟨db.V ((db.W (c7 ⟨q,K⟩) ap)) aC bY,λp ac=>?_,by simp only[r9,U2];omega⟩;rcases j4.1 ac with ac|ac
   .exact bd p ac
   .rw[j6.1 ac];exact bg
 .intro dV bn;cases L:bf 0 az ((gl co [] (σ st)).map (·.2))with
  |none=>
   rw[L]at X;have G:=bk L;refine aV (λv M=>Ext J M/\v= .bool rs) ?_ ?_
   .rintro _ M ⟨Y,rfl⟩;rw[aX];exact bn _ ⟨Y.V _,by rw[G];exact X.W Y⟩
   .intro dn bo;refine(qD X).Y ?_;rintro _ ai _ ⟨rfl,aU⟩;rw[show((ν:Option (Int×aJ)).map (·.2)).isSome=rs from rfl,aX];exact bo _ _ ⟨aU,rfl⟩
  |some ao=>
   rw[L]at X;have G:=bl ao L;refine aV (λv M=>Ext J M/\v= .bool (decide (t∈acc.map (·.1)))) ?_ ?_
   .rintro _ M ⟨Y,rfl⟩;rw[ak];refine⟨λP=>?_,λdp=>?_⟩
    .refine (ND (X.W Y) Ω).Y ?_;rintro _ bC _ bh;obtain⟨dq,dr⟩:=bh.of;exact bn _ ⟨(Y.V _).F dq,by rw[G,m3 P];exact dr⟩
    .exact bn _ ⟨Y.V _,by rw[G,m5 dp];exact X.W Y⟩
   .intro dn bo;refine(qD X).Y ?_;rintro _ ai _ ⟨rfl,aU⟩;rw[show((σ ao:Option (Int×aJ)).map (·.2)).isSome=ro from rfl,bH,Dn (db.W bT aU) bd bg,bO];refine bo _ _ ⟨aU,?_⟩;congr 1;by_cases P:t∈acc.map (·.1)
    .rw[m3 P,m7 P];rfl
    .rw[m5 P,ms P];rfl
theorem Dp(co:Λ)(s:Option aJ):ke co s=match bf (-az) az s with
 |none=>ν
 |some (n,s)=>
  if n<0 then match s.m2[(-n-1).toNat]? with
   |none=>ν
   |some (z,l)=>if z=co then σ (l,s)else ν
  else cT (eN co) n.toNat [] (ld n s):=by
 cases s with
 |none=>rfl
 |some s=>
  show dZ co s=_;unfold dZ;show _=match bl (-az) az s with
   |none=>ν
   |some (n,s)=>
    if n<0 then match s.m2[(-n-1).toNat]? with
     |none=>ν
     |some (z,l)=>if z=co then σ (l,s)else ν
    else cT (eN co) n.toNat [] (ld n s)
  cases bl (-az) az s<;>rfl
theorem Dq{m:Bool}{S R:ah}{a:lS}(h:av.rep (α:=lS) m S R w cs a):∃u v,cs=[u,v]/\av.rep (α:=Λ) rs bW R w [u] a.1/\av.rep (α:=List (Λ×Int)) rs bW R w [v] a.2:=by
 obtain⟨c,d,f,j,rfl,_,_,_,h1,e⟩:=h;have h1:=h1;have e:=e;obtain⟨u,rfl⟩:=V6.1 (show c.length=1 from av.len h1);obtain⟨v,rfl⟩:=V6.1 (show d.length=1 from av.len e);exact⟨u,v,rfl,h1,e⟩
theorem NM{g:Nat}{A B:ah}{s:Option aJ}{Q:Bool}(h:ds w g gs A B Q s)(hi:∀t,s=σ t->ea t)(av:aM .i64 w sv co)(K:∀r,lc sv r->¬bK g gs A r/\r<w.heap.size)(aw:∀z∈co,1<=z/\z<=az)(ax:co.length<=100001)(aA:fs w)(h1:cS g gs A B 1):
  al x8 JH [Γ g,sv] w λv I=>gk w g gs A B Q ((ke co s).map (·.2)) I/\∃l,Seen (λr=>cS g gs A B r\/w.heap.size<=r) I [v] (show List (Λ×Int)from l)/\∀q,ke co s=σ q->l=q.1:=by
 have aC:=h.side;obtain⟨bc,bd,be,aE,bg⟩:=id aC;have ae:∀r,bK g gs A r->r<w.heap.size:=aE;refine aB func174 ?_;refine(nw (lo:=-az) (hi:=az) h).Y ?_;rintro _ U _ ⟨aF,n,at_,rfl,S,aH⟩;obtain⟨L,ai⟩:=aF.of;have bh:=L.size;have j:=Dp co s;rw[bu,bw];have aj:=jk av L λr C a n c M W=>(K r ⟨a,n,c,M,W⟩).1 C;have bi:∀r,lc sv r->¬bK g gs A r/\r<U.heap.size:=λr C=>⟨(K r C).1,by have:=(K r C).2;omega⟩;have rest:∀aa,Ext U aa->(∀q,bf (-az) az s=σ q->¬n<0)->∀N:Nat,n=(N:Int)->(N:Int)<=az->∀y,af (bK g gs A) aa y->ds y g gs A B Q (((bf (-az) az s).map (·.2)).map (ld n))->
   ∀v I l,gk y g gs A B Q ((fD (eN co) N [] (((bf (-az) az s).map (·.2)).map (ld n))).map (·.2)) I->bJ (fC y.heap.size) bW I [v] (show List (Λ×Int)from l)->(∀q,fD (eN co) N [] (((bf (-az) az s).map (·.2)).map (ld n))=σ q->l=q.1)->
   gk w g gs A B Q ((ke co s).map (·.2)) I/\∃l,Seen (λr=>cS g gs A B r\/w.heap.size<=r) I [v] (show List (Λ×Int)from l)/\∀q,ke co s=σ q->l=q.1:=by
  intro aa x O N X Y y G Z v I l aI aK aL;obtain⟨aN,aO⟩:=aI.of;have aP:=x.size;have z3:=G.size;have e:ke co s=fD (eN co) N [] (((bf (-az) az s).map (·.2)).map (ld n)):=by
   rw[j];cases f:bf (-az) az s with
   |none=>rfl
   |some q=>
    obtain⟨aQ,s1⟩:=q;have:=S _ f;subst this;simp only;rw[m5 (O _ f),X,u6];rfl
  rw[e];refine⟨gk.mk (((L.F (x.V _)).F G).F aN) aO,l,rr aK λr _ h=>?_,aL⟩;rcases h with h|h
  .have h:=h;exact .inr Ω
  .exact h.elim
 refine aV (λv aa=>Ext U aa/\v= .bool (decide (n<0/\(bf (-az) az s).isSome=ro))) ?_ ?_
 rotate_left
 .intro ay R;refine(qD ai).Y ?_;rintro _ aa _ ⟨rfl,x⟩;cases f:bf (-az) az s with
  |none=>
   rw[show((ν:Option (Int×aJ)).map (·.2)).isSome=rs from rfl,aX];exact R _ _ ⟨x,by rw[ms];rintro⟨_,h⟩;rw[f]at h;cases h⟩
  |some q=>
   rw[show((σ q:Option (Int×aJ)).map (·.2)).isSome=ro from rfl,bH,aR];exact R _ _ ⟨x,by congr 1;rw[U9,ne,ne,f];exact⟨λh=>⟨h,rfl⟩,λh=>h.1⟩⟩
 rintro _ aa ⟨x,rfl⟩;have H:=ai.W x;have aP:=x.size;rw[ak];refine⟨λO=>?_,λaS=>?_⟩
 rotate_left
 .have O:∀q,bf (-az) az s=σ q->¬n<0:=λq f h=>aS ⟨h,by rw[f];rfl⟩;obtain⟨N,X,Y⟩:∃N:Nat,n=(N:Int)/\(N:Int)<=az:=by
   cases f:bf (-az) az s with
   |none=>rw[aH f];exact⟨0,rfl,by unfold az;omega⟩
   |some q=>
    have h1:=O q f;have aU:=oe f;have aW:=S q f;exact⟨n.toNat,Ω,Ω⟩
  refine NG H (λt aY=>?_) λy G Z=>?_
  .obtain⟨q,f,rfl⟩:=X0.1 aY;have aU:=oe f;have aW:=S q f;refine⟨Ω,Ω,?_⟩;cases s with
   |none=>cases f
   |some s0=>
    have am:=(dH f).eqs;have an:=hi s0 rfl;intro ao;rw[am.1];rw[am.2.1]at ao;exact an ao
  .have z3:=G.size;have aZ:af (bK g gs A) w y:=(L.F (x.V _)).F G;subst X;refine NL Z ((jk (aj.W x) G λr C a n c M W=>(K r ⟨a,n,c,M,W⟩).1 C)) (λr C=>⟨(K r C).1,by have:=(K r C).2;omega⟩) aw ax (aA.V aZ h1.1) h1 Y λv I l a b c=>?_;exact rest aa x O N rfl Y y G Z v I l a b c
 .obtain⟨a1,a2⟩:=O;obtain⟨⟨aQ,s1⟩,f⟩:=Option.isSome_iff_exists.1 a2;have:=S _ f;subst this;have bj:=oe f;rw[f]at j H;simp only at j;rw[m3 a1]at j;have H:=H;obtain⟨_,an,bk,big,bl,bm,m1,bn,ab,bo,ac⟩:=id H;have bp:az=4611686018427387904:=rfl;refine aV (λv y=>Ext aa y/\v= .bool (decide (ke co s=ν))) ?_ ?_
  .rintro _ y ⟨E,rfl⟩;rw[ak];refine⟨λa6=>?_,λap=>?_⟩
   .refine (ui (H.W E) Ω).Y ?_;rintro _ bq _ ⟨a7,a8⟩;rw[a6];refine⟨gk.mk (((L.F (x.V _)).F (E.V _)).F (a7.Y λr _ h=>.inl h)) a8,[],iM,λq f=>by cases f⟩
   .cases P:s1.m2[(-n-1).toNat]? with
    |none=>rw[P]at j;exact m6 j ap
    |some q=>
     obtain⟨z,l⟩:=q;rw[P]at j;simp only at j;have ba:z=co:=by
      by_cases J:z=co
      .exact J
      .rw[m5 J]at j;exact m6 j ap
     rw[m3 ba]at j;rw[aG cB.p 3 (ab.W E) rfl,ni,li Ω Ω,dp,li Ω Ω];refine mp (i:=(-n-1).toNat) Ω iI.u k0.i (bS ac E) P λb o cs ad ag=>?_;obtain⟨u,v,rfl,hu,M⟩:=Dq ag;rw[aT k0.p rfl,aD Ψ (ad 1 v rfl)];rw[j];refine⟨gk.mk ((L.F (x.V _)).F (E.V _)) (H.W E),l,rr M λr _ h=>?_,λq f=>by cases f;rfl⟩;rcases h with h|h
     .exact h.elim
     .exact .inl h
  .intro ay R;rw[ni,li Ω Ω,aG cB.p 3 ab rfl,ka iI.u ac,bO,ak];refine⟨λaq=>R _ _ ⟨Ext.refl _,?_⟩,λau=>?_⟩
   .have aq:(s1.m2.length:Int)<0-n:=aq;rw[Y4 Ω]at j;rw[m7 j]
   .have au:¬(s1.m2.length:Int)<0-n:=au;have bb:(-n-1).toNat<s1.m2.length:=Ω
    obtain⟨⟨z,l⟩,P⟩:∃q,s1.m2[(-n-1).toNat]?=σ q:=⟨_,x7 bb⟩;rw[aG cB.p 3 ab rfl,ni,li Ω Ω,dp,li Ω Ω];refine mp (i:=(-n-1).toNat) Ω iI.u k0.i ac P λb o cs ad ag=>?_;obtain⟨u,v,rfl,hu,M⟩:=Dq ag;rw[aT k0.p rfl,aD Ψ (ad 0 u rfl)];refine(tO (dQ hu) (aj.W x)).Y ?_;rintro _ y _ ⟨rfl,E⟩;rw[bC];refine R _ _ ⟨E,?_⟩;rw[P]at j;simp only at j;by_cases J:z=co
    .rw[m3 J]at j;rw[m7 J,ms (by rw[j];simp)];rfl
    .rw[m5 J]at j;rw[ms J,m7 j];rfl
abbrev qE(n:Nat):ah:=λr=>r<n
def rZ(n:Int)(k:Nat)(s:Option aJ):Option (Λ×aJ):=s.bind (ff n k)
theorem NN{g k:Nat}{A B:ah}{s:Option aJ}{m:Int}(h:ds w g gs A B f s)(hk:k<=4611686018427387904)(hm:0<=m/\m<=1000000):
  al x8 AU [Γ g,Δ (k:Int),Δ m] w λv I=>gk w g gs A B f ((rZ m k s).map (·.2)) I/\
   ∃gr l,aA .i64 au I gr v l/\(∀r,lc v r->w.heap.size<=r)/\l.length<=100001/\∀q,rZ m k s=σ q->l=q.1:=by
 cases s with
 |some s=>exact MC h hk hm
 |none=>
  have h:=h;refine aB func172 ?_;refine⟨λout p U=>w=U/\out= .slice ν 0 0/\p=Δ 0,λ_ _ _=>0,⟨rfl,rfl,rfl⟩,?_⟩;rintro _ _ _ ⟨rfl,rfl,rfl⟩;refine aV (λv aa=>Ext w aa/\v= .bool rs) ?_ ?_
  .rintro _ aa ⟨e,rfl⟩;rw[aX];exact⟨gk.mk (e.V _) (h.W e),0,[],aA.nil _ _ _ _,λr x=>m6 x (λh=>by obtain⟨a,n,c,h,_⟩:=h;cases h),Ξ,λq y=>by cases y⟩
  .intro ay j;rw[aR,ak];refine⟨λ_=>?_,λ_=>j _ _ ⟨Ext.refl _,rfl⟩⟩;refine(pt h).Y ?_;rintro _ aa _ ⟨rfl,e⟩;exact j _ _ ⟨e,rfl⟩
def uC(z:Λ)(l:List (Λ×Int))(s:aJ):aJ:={s with m2:=s.m2++[(z,l)]}
def Dr(w:x4)(g gs:Nat):Prop:=∃(e big a f m1:Int)(sv:x1),ag w g cB (jm gs e big a f m1 sv)/\e≠0
def iU(w:x4)(g gs:Nat)(A:ah)(B:ah)(a:Bool)(s:Option aJ):Prop:=match s with
 |some s=>eo w g gs A B s a
 |none=>Dr w g gs
theorem ds.q{g:Nat}{A:ah}{B:ah}{a:Bool}{s:Option aJ}(h:ds w g gs A B a s):iU w g gs A B a s:=by
 cases s with
 |some s=>exact h
 |none=>
  obtain⟨_,e,big,f,j,m1,sv,l,p,r,_⟩:=h;exact⟨e,big,f,j,m1,sv,p,r.1⟩
theorem iU.V{g:Nat}{A:ah}{B:ah}{a:Bool}{s:Option aJ}(h:iU w g gs A B a s)(f:af S w I)(p:¬S g)(q:∀r,bK g gs A r->r<w.heap.size->¬S r)(x:∀r,cS g gs A B r->¬S r):iU I g gs A B a s:=by
 cases s with
 |some s=>
  have h:=h;exact eo.V h f (λr j=>q r j (h.1.2.2.2.1 r j)) x
 |none=>
  obtain⟨e,big,y,z,m1,sv,C,E⟩:=h;exact⟨e,big,y,z,m1,sv,C.V f p,E⟩
theorem iU.W{g:Nat}{A:ah}{B:ah}{a:Bool}{s:Option aJ}(h:iU w g gs A B a s)(e:Ext w I):iU I g gs A B a s:=h.V (e.V λ_=>False) (λh=>h) (λ_ _ _ h=>h) (λ_ _ h=>h)
theorem Ds{g:Nat}{A:ah}{B:ah}{s:Option aJ}{a:Bool}(h:iU w g gs A B a s):al x8 mj [Γ g] w λv I=>v= .bool s.isSome/\Ext w I:=by
 cases s with
 |none=>
  obtain⟨e,big,q,r,m1,sv,f,j⟩:=h;refine(xp f).Y ?_;rintro _ U _ ⟨rfl,p⟩;exact⟨by rw[ms j];rfl,p⟩
 |some s=>exact qx h
theorem iP.aZ{g:Nat}{R':Nat->Prop}(h:iP w g R d8 f)(j:af S w I)(s:¬S g)(x:∀r,R r->¬S r)(y:∀r,R r->R' r):iP I g R' d8 f:=by
 obtain⟨z,p,a,⟨h1,A,B,C,ba,E⟩,q,F⟩:=h;exact⟨z,p,a,⟨h1,A,B,C.V j s,ba,bs E j λr e=>x r (q r e)⟩,λr e=>y r (q r e),F⟩
theorem nx{α:Type}[av α]{m:Bool}{S R:ah}{l:List α}(h:av.rep m S R w [v] l):∃a n c,v= .slice a n c:=by
 obtain⟨vs,e,F,ac,he,J,hm⟩:=kA h;obtain⟨f,b,o,base,cap,rfl,_⟩:=J;exact⟨_,_,_,rfl⟩
def ny(w:x4)(g gs:Nat)(A:ah)(B:ah)(R:ah)(a:Bool)(s:Option aJ):Prop:=match s with
 |some s=>my w g gs A B/\iP w gs R s.d8 a/\(0<=s.m1/\s.m1<=az/\s.m2.length+s.d8.length<=100000)/\
  ∃big e f m1 sv,ag w g cB (jm gs 0 big e f m1 sv)/\((s.big=ro↔big≠0)/\(s.big=rs->m1=s.m1))/\bJ A R w [sv] (show List lS from s.m2)
 |none=>Dr w g gs
theorem ny.V{g:Nat}{A R:ah}{B:ah}{x:Bool}{s:Option aJ}(h:ny w g gs A B R x s)(a:af S w I)(y:¬S g)(z:∀r,bK g gs A r->r<w.heap.size->¬S r)(C:∀r,R r->¬S r):ny I g gs A B R x s:=by
 cases s with
 |some s=>
  obtain⟨h1,E,F,big,f,j,m1,sv,p,q,G⟩:=h;have H:=h1.2.2.2.1;exact⟨h1.V a,E.V a (z gs (.inr (.inl rfl)) (H _ (.inr (.inl rfl)))) C,F,big,f,j,m1,sv,p.V a y,q,av.V G a λr J h=>h.elim (λh=>z r (.inr (.inr h)) J) (C r)⟩
 |none=>
  obtain⟨e,big,f,j,m1,sv,p,q⟩:=h;exact⟨e,big,f,j,m1,sv,p.V a y,q⟩
theorem ny.out{g:Nat}{A R B e:ah}{s:Option aJ}(h:ny w g gs A B R f s)(j:∀r,R r->cS g gs A e r)(q:∀r,e r->r<w.heap.size):iU w g gs A e f s:=by
 cases s with
 |some s=>
  obtain⟨⟨x,y,z,C,P⟩,⟨E,p,a,F,G,H⟩,I,big,J,K,m1,sv,L,M,N⟩:=h;exact⟨⟨x,y,z,C,q⟩,⟨E,p,a,F,λr O=>j r (G r O),H⟩,I,big,J,K,m1,sv,L,M,av.Y N (λ_ _ h=>h) λr _ h=>j r h⟩
 |none=>exact h
theorem ds.qr{g:Nat}{A R:ah}{B:ah}{y:Bool}{s:Option aJ}(h:ds w g gs A B y s)(z:∀r,cS g gs A B r->R r):ny w g gs A B R y s:=by
 cases s with
 |some s=>
  obtain⟨h1,⟨C,p,a,E,F,G⟩,H,big,f,j,m1,sv,q,x,I⟩:=h;exact⟨h1,⟨C,p,a,E,λr J=>z r (F r J),G⟩,H,big,f,j,m1,sv,q,x,av.Y I (λ_ _ h=>h) λr _ h=>z r h⟩
 |none=>
  obtain⟨_,e,big,f,j,m1,sv,l,q,x,_⟩:=h;exact⟨e,big,f,j,m1,sv,q,x.1⟩
theorem NO{g:Nat}{A B R:ah}{s:Option aJ}{O:Bool}{aU az u:x1}{z:Λ}{l:List (Λ×Int)}{K:x4->Prop}(h:ds w g gs A B O s)(P:∀r,cS g gs A B r->R r)(aj:∀r,R r->cS g gs A (qE w.heap.size) r)(ak:∀t,s=σ t->t.m2.length+1+t.d8.length<=100000)(al:ag w N ci [aU,u,az,v])(hu:av.rep (α:=Λ) rs bW R w [u] z)(am:av.rep (α:=List (Λ×Int)) rs bW R w [v] l)(aA:∀I aK,af (bK g gs A) w I->(∀r,aK r->A r\/w.heap.size<=r)->ny I g gs aK (qE w.heap.size) R O (s.map (uC z l))->K I):
  ab x8 (bR (Γ g)) w λQ=>
  ab x8 (u7 cB Q 3) w λS=>
  ab x8 (u5 iI S) w λan=>
  ab x8 (u7 ci (Γ N) 1) w λt76=>
  ab x8 (u5 ax t76) w λt77=>
  ab x8 (u7 ci (Γ N) 3) w λaB=>
  ab x8 (u5 jZ aB) w λaC=>
  ab x8 (Instr.build k0 #[(0,t77),(1,aC)]) w λaD=>
  aH x8 (X2 iI 1 #[(0,aD)]) w λaE F=>
   (Ext w F\/cE x8 (u5 iI S) an F/\cE x8 (u7 cB Q 3) S F/\cE x8 (bR (Γ g)) Q F/\True)/\
   aH x8 (Y0 #[iI,iI] iI #[an,aE]) F λaF W=>
    ab x8 (bR (Γ g)) W λaI=>
    ab x8 (u7 cB aI 3) W λaM=>
    aH x8 (n9 iI aM aF) W λ(_:Unit)aN=>K aN:=by
 obtain⟨aO,e,big,j,q,m1,sv,H,y,L,a6,aP⟩:my w g gs A B/\∃e big j q m1 sv,∃H:List lS,ag w g cB (jm gs e big j q m1 sv)/\bJ A R w [sv] H/\H.length<=100000/\
   ∀I aK C,my I g gs aK (qE w.heap.size)->af (λr=>A r\/r=g) w I->ag I g cB (jm gs e big j q m1 C)->bJ aK R I [C] (H++[((z,l):lS)])->ny I g gs aK (qE w.heap.size) R O (s.map (uC z l)):=by
  cases s with
  |none=>
   obtain⟨h1,e,big,j,q,m1,sv,e0,X,M,Y⟩:=h;exact⟨h1,e,big,j,q,m1,sv,e0,X,av.Y Y (λ_ _ h=>h) λr _ h=>P r h,M.2,λI aK C J _ y L=>⟨e,big,j,q,m1,C,y,M.1⟩⟩
  |some s=>
   obtain⟨h1,aQ,ap,big,j,q,m1,sv,X,M,Y⟩:=h;have ak:=ak s rfl;refine⟨h1,0,big,j,q,m1,sv,s.m2,X,av.Y Y (λ_ _ h=>h) λr _ h=>P r h,(show s.m2.length<=100000 by omega),λI aK C J aR y L=>⟨J,?_,⟨ap.1,ap.2.1,?_⟩,big,j,q,m1,C,y,M,L⟩⟩
   .exact iP.aZ aQ aR (λhe=>he.elim h1.2.2.1 λh=>h1.1 h.symm) (λr f he=>he.elim (λh=>f.1 (.inr (.inr h))) λh=>f.1 (.inl h)) P
   .show (s.m2++[(z,l)]).length+s.d8.length<=100000;simp;omega
 obtain⟨aS,Z,aV,aq,a7⟩:=id aO;rw[aG cB.p 3 y rfl,aL ci.p 1 al rfl,aL ci.p 3 al rfl];rw[di (cs:=#[u,v]) (by obtain⟨_,_,_,rfl⟩:=nx hu;obtain⟨_,_,_,rfl⟩:=nx am;kernel_rfl)];have au:bJ (λ_=>False) R w [u,v] ((z,l):lS):=⟨[u],[v],bW,bW,rfl,λ_ h=>h,λ_ h=>h,λ_ _ h _=>h,hu,am⟩;refine lM (α:=lS) (a:=(z,l)) (R:=R) iI.u k0.i Φ rfl au λx U E _ aW=>?_;have a8:=E.size;refine⟨.inl E,?_⟩;refine pg iI.u k0.i rfl (bS L E) aW (bS au E) (λr _ aX G=>?_) Ω Ω λaY aa ac ad=>?_
 .rcases G with G|G
  .exact G
  .exact (aj r G).1 (.inr (.inr aX))
 have ba:=ad.size;have a1:=(y.W E).V ad Z;rw[bL,aT cB.p rfl];refine bq (g:=g) (o:=6) iI.i (rt ac) (gY ac) a1 (by simp[jm]) λae aw bb ai=>?_;have ai:=ai;have ay:af (λr=>A r\/r=g) w ae:=((E.V _).F (ad.Y λr _ h=>.inl h)).F (aw.Y λr _ h=>.inr h);let aK:ah:=λr=>(A r\/w.heap.size<=r)/\r<aa.heap.size;have bc:g<w.heap.size:=aq g (.inl rfl);have bd:=aq gs (.inr (.inl rfl));have a2:=av.Y (S':=aK) (R':=R) ac (λr f h=>⟨h.elim .inl λh=>h.elim False.elim λh=>.inr Ω,f⟩) (λr f h=>h);refine aA ae aK (ay.Y λr _ h=>h.elim (λh=>.inr (.inr h)) .inl) (λr f=>f.1) (aP ae aK aY ⟨aS,λh=>h.1.elim Z λh=>Ω,λh=>h.1.elim aV λh=>Ω,λr f=>?_,?_⟩ ay ai (av.V a2 aw λr f ao he=>?_))
 .rcases f with rfl|rfl|f
  .omega
  .omega
  .have:=f.2;omega
 .intro r f;have f:r<w.heap.size:=f;omega
 .have he:r=g:=he;subst he;rcases ao with ao|ao
  .exact ao.1.elim Z λh=>Ω
  .exact (aj _ ao).1 (.inl rfl)
theorem NP{e:Nat}{aU E:x1}{scope all:Λ}{M:x4->Prop}(N:ag w e ci [aU,.slice ν 0 0,Δ 0,.slice ν 0 0])(O:aM .i64 w aU scope)(Y:∀r,lc aU r->r≠e)(Z:aM .i64 w E all)(ac:∀r,lc E r->r≠e)(ad:∀v∈scope,0<=v/\v<all.length)(aG:scope.length<=100001)(ae:∀I d9 gz,af (λr=>r=e) w I->ag I e ci [aU,d9,Δ 0,.slice ν 0 0]->aA .i64 au I gz d9 (scope.map λv=>all.getD v.toNat 0)->w.heap.size<=gz->M I):
 bZ (Δ 0) w λF s k=>
  ab x8 (aN .lss aj rs rs F (Δ (scope.length:Int))) s λah=>
  Split ah (ab x8 (Z0 ax aU F) s λai=>
  ab x8 (u5 au ai) s λal=>
  eH s λf=>
  ab x8 (u7 ci (Γ e) 1) f λt39=>
  ab x8 (u5 ax t39) f λP=>
  ab x8 (Z0 ax E al) f λam=>
  ab x8 (u5 au am) f λan=>
  aH x8 (X2 ax 1 #[(0,an)]) f λt45 z=>
   (Ext f z\/cE x8 (u5 ax t39) P z/\cE x8 (u7 ci (Γ e) 1) t39 z/\True)/\
  aH x8 (Y0 #[ax,ax] ax #[P,t45]) z λt46 Q=>
   ab x8 (u7 ci (Γ e) 1) Q λao=>
   aH x8 (n9 ax ao t46) Q λ(_:Unit)R=>
    ab x8 (aN .add aj rs ro F (Δ 1)) R λap=>
  k ap R) (M s):=by
 have aI:=N.lt;refine bZ.range scope.length (λi U=>af (λr=>r=e) w U/\∃d9 gz,ag U e ci [aU,d9,Δ 0,.slice ν 0 0]/\aA .i64 au U gz d9 ((scope.take i).map λv=>all.getD v.toNat 0)/\w.heap.size<=gz) O.le ⟨af.refl _ _,_,w.heap.size,N,aA.nil _ _ _ _,p8 _⟩ ?_ ?_
 rotate_left
 .rintro U aq ⟨j,d9,gz,A,B,S⟩;rw[o6]at B;rw[aR,ak];exact⟨λh=>Ω,λ_=>ae U d9 gz j A B S⟩
 rintro i U aq hi ⟨j,d9,gz,A,B,S⟩ av;obtain⟨v,G⟩:=aF (l:=scope) hi;have aJ:=ad v (x6 G);have aw:all[v.toNat]?=σ (all.getD v.toNat 0):=by
  rw[u4,x7 Ω];rfl
 have ay:=jk O j λr C a n c H J=>Y r ⟨a,n,c,H,J⟩ C;have az:=jk Z j λr C a n c H J=>ac r ⟨a,n,c,H,J⟩ C;refine bI Ω ?_;rw[bi ax.u au.i Ψ ay G];intro aa q _ _;have aK:=j.size;have aP:=q.size;rw[aL ci.p 1 (A.W q) rfl];rw[gI (y:=v) (i:=v.toNat) Ω ax.u au.i Ψ (az.W q) aw];refine eB ax.u au.i rfl λa ga aQ aS x aB=>?_;refine⟨.inl x,?_⟩;have z3:=x.size;refine kx ax.u au.i rfl ((B.W q).W x) aB.ls Θ Θ λaC aD aV aW K W=>?_;rw[aT ci.p rfl];have aE:=((A.W q).W x).V W (λhe=>by have he:=he;omega);refine bq (g:=e) (o:=1) ax.i K.ls.cells.1 K.ls.cells.2 aE Ξ λaX X aY L=>?_;have L:=L;rw[aO];refine av _ ⟨(iO (j.F ((q.F x).V _)) W λr C he=>by have he:r=gz:=he;omega).F X,aC,aD,L,?_,Ω⟩;rw[r8,G,o9,Z5];exact K.V X (λ_ he=>by have he:=he;omega)
abbrev jI:Type:=Rd (Λ)×Rd (Λ)×Int×Rd (List (Λ×Int))
def iV(f:cA):jI:=(f.scope,f.co,f.other,f.lines)
theorem Dt{R:ah}{aU d9 ck:x1}{o:Int}{sc:Λ}{l:List (Λ×Int)}(h1:av.rep (α:=Λ) rs bW R w [aU] sc)(e:av.rep (α:=Λ) rs bW R w [d9] a)(f:av.rep (α:=List (Λ×Int)) rs bW R w [ck] l):
  Seen R w [aU,d9,Δ o,ck] ((sc,a,o,l):jI):=
 ⟨[aU],[d9,Δ o,ck],bW,bW,rfl,λ_ h=>h,λ_ h=>h,λ_ _ h _=>h,h1,[d9],[Δ o,ck],bW,bW,rfl,λ_ h=>h,λ_ h=>h,λ_ _ h _=>h,e,[Δ o],[ck],bW,bW,rfl,λ_ h=>h,λ_ h=>h,λ_ _ h _=>h,rfl,f⟩
theorem r0{R:ah}{g:Nat}(h:aA .i64 e w g v l)(q:∀r,lc v r->R r):av.rep (α:=Λ) rs bW R w [v] l:=by
 have h1:bJ (λr=>r=g) bW w [v] l:=ph h;obtain⟨vs,s,F,ac,he,J,hm⟩:=kA h1;refine⟨v,rfl,vs,s,λ_ _=>False,⟨λ_ _ h=>h,λh=>(by cases h),λh=>by cases h⟩,⟨he.1,λi c a x y=>?_⟩,?_,λh=>by cases h⟩
 .exact he.2 i c a x y
 .obtain⟨f,b,o,base,cap,rfl,z,A,j,E,B⟩:=J;refine⟨f,b,o,base,cap,rfl,z,A,j,λp=>.inr (q b ?_),B⟩;have C:0<l.length:=by
   rw[f]at p;rcases P8 l.length with h|h
   .rw[h,Nat.zero_mul]at p;omega
   .exact h
  exact⟨⟨b,o,ν⟩,l.length,cap,by rw[j C],rfl⟩
theorem Du{α:Type}[av α]{R R':ah}{a:α}(h:Seen R w cs a)(e:∀r,r<w.heap.size->R r->R' r):Seen R' w cs a:=av.Y h (λ_ _ h=>h) e
theorem Dv{f a:Nat}{K:x1->x4->Prop}(e:cs.length=4)(h1:∀v∈cs,v.oneCell'=ro)(q:ag w f ci cs){h:List x1}(s:h.length=4)(x:ag w a ci h)(y:∀I,af (λr=>r=a) w I->K (.agg cs.toArray) I):
  ab x8 (u5 ci (Γ f)) w λz=>
  aH x8 (n9 ci (Γ a) z) w λ(_:Unit)j=>
  ab x8 (do loadVar ci (<-asAddr (Γ a))) j λA=>K A j:=by
 rw[bA ci.p ci.i e q.range];refine b4 ci.i e s h1 x λI B _ C=>?_;rw[fP ci.p ci.i e C.range];exact y I B
theorem Dw{s s':aJ}{l:List (Λ×Int)}(h:dZ co s=σ (l,s')):s'.m2=s.m2/\s'.d8.length<=s.d8.length:=by
 unfold dZ at h;cases e:bl (-az) az s with
 |none=>rw[e]at h;cases h
 |some q=>
  obtain⟨n,s1⟩:=q;rw[e]at h;simp only at h;have h1:=dH e;obtain⟨r,w,f⟩:=h1.eqs;split at h
  .cases J:s1.m2[(-n-1).toNat]? with
   |none=>rw[J]at h;cases h
   |some q=>
    obtain⟨z,e0⟩:=q;rw[J]at h;simp only at h;split at h
    .simp only[X4,S7]at h;obtain⟨rfl,rfl⟩:=h;exact⟨f,by have:=h1.1;omega⟩
    .cases h
  .have:=lR (λacc t=>t.m2=s.m2/\t.d8.length<=s.d8.length) (λacc t a bn ⟨p,x⟩ g=>by
    obtain⟨y,A,B,j⟩:=qv g;obtain⟨f1,f2,f3⟩:=j.eqs;exact⟨by rw[f3,p],by have:=j.1;omega⟩) n.toNat [] (bj (decide (16384<min (s1.m1+n) az)) {s1 with m1:=min (s1.m1+n) az}) l s' ⟨f,by have:=h1.1;show s1.d8.length<=_;omega⟩ h
   exact this.1
theorem NQ{g:Nat}{A B:ah}{s:aJ}{W:Bool}{bb:x1}{all:Λ}(h:eo w g gs A B s W)(hi:ea s)(bI:aM .i64 w bb all)(bc:∀r,lc bb r->¬bK g gs A r/\r<w.heap.size)(cj:∀z∈all,1<=z/\z<=az)(dj:all.length<=100001)(cl:fs w)(h1:cS g gs A B 1):
  al x8 AN [Γ g,bb] w λv I=>∃aK X cs,∃bJ:jI,v= .agg cs.toArray/\cs.length=4/\af (bK g gs A) w I/\(∀r,aK r->A r\/w.heap.size<=r)/\(∀r,X r->(B r\/w.heap.size<=r)/\r<I.heap.size)/\(∀r,B r->X r)/\iU I g gs aK X W ((dq all s).map (·.2))/\
   Seen (cS g gs aK X) I cs bJ/\∀q,dq all s=σ q->bJ=iV q.1:=by
 have cm:=h.1;obtain⟨dk,dl,bd,cn,R⟩:=id cm;have ae:∀r,bK g gs A r->r<w.heap.size:=cn;have dm:az=4611686018427387904:=rfl;have dn:=h.2.2.1.2.2;refine aB func114 ?_;refine bB ci.i λE U dp be aO=>?_;have aO:=aO;have dr:=be.size;have dt:=aO.lt;have L:¬bK g gs A E:=λj=>by have:=ae _ j;omega
 refine(xq (h.W be)).Y ?_;rintro _ aa _ ⟨Y,a,at_,rfl,bL,cp⟩;obtain⟨bg,bh⟩:=Y.of;have du:=bg.size;rw[bu,bw,aR,ni];have dv: -az<=a/\a<=az:=by
  cases C:bl (-az) az s with
  |none=>rw[cp C];unfold az;omega
  |some q=>rw[bL q C];exact(jl C).1
 rw[li Ω Ω,tG,show max a (0-a)=((a.natAbs:Nat):Int) by omega];have bM:=(be.V _).F bg;have cq:=jk bI bM λr f a n c H bi=>(bc r ⟨a,n,c,H,bi⟩).1 f;rw[aY ax.u cq];refine(NN bh Ω Ω).Y ?_;rintro aU dw _ ⟨Y,gr,scope,aD,cr,dx,ct⟩;obtain⟨bk,cu⟩:=Y.of;have z3:=bk.size;rw[di (cs:=#[aU,.slice ν 0 0,Δ 0,.slice ν 0 0]) (by obtain⟨_,_,_,_,_,rfl,_⟩:=aD.ls;kernel_rfl)];refine bB ci.i λy dz dA aE aP=>?_;have aP:=aP;have z4:=aE.size;have dC:=aP.lt;have bm:=aD.ls.cells;refine b4 (vs:=[aU,.slice ν 0 0,Δ 0,.slice ν 0 0]) ci.i rfl rfl (by intro v H;simp at H;rcases H with rfl|rfl|rfl|rfl<;>first|exact bm.2|rfl) aP λaQ aF dD cw=>?_;have am:¬bK g gs A y:=λj=>by have:=ae _ j;omega
 have bN:ds aQ g gs A B W ((rZ all.length a.natAbs ((bl (-az) az s).map (·.2))).map (·.2)):=(cu.W aE).V aF (λr f he=>by have he:r=y:=he;exact am (he▸f)) (λr f he=>by have:=R r f.2;have he:r=y:=he;omega);have bP:af (bK g gs A) w aQ:=iO ((bM.F bk).F (aE.V _)) aF λr f he=>by have he:r=y:=he;omega
 have cz:ag aQ E ci [.slice ν 0 0,.slice ν 0 0,Δ 0,.slice ν 0 0]:=(((aO.V bg L).V bk L).W aE).V aF (λhe=>by have he:E=y:=he;omega);have cB:aA .i64 au aQ gr aU scope:=bs (aD.W aE) aF λr f he=>by
  obtain⟨cC,bh⟩:=bV aD f;have he:r=y:=he;omega
 refine(qD bN).Y ?_;rintro _ bQ _ ⟨rfl,Z⟩;have an:=bN.W Z;have aG:=cB.W Z;have bn:=cw.W Z;have bR:=cz.W Z;have dE:=Z.size;have z5:=aF.size;have O:∀r,lc aU r->aa.heap.size<=r/\r≠y/\r≠E:=λr f=>by
  obtain⟨cC,bh⟩:=bV aD f;have:=cr r f;exact⟨this,Ω,Ω⟩
 have K:dq all s=match rZ all.length a.natAbs ((bl (-az) az s).map (·.2))with
   |none=>ν
   |some (sc,J)=>(ke (sc.map λv=>all.getD v.toNat 0) ((bf 0 az (σ (bj (decide (6<a.natAbs)||dy (sc.map λv=>all.getD v.toNat 0)) J))).map (·.2))).map λq=>((⟨sc,sc.map λv=>all.getD v.toNat 0,((bl 0 az (bj (decide (6<a.natAbs)||dy (sc.map λv=>all.getD v.toNat 0)) J)).map (·.1)).getD 0,q.1⟩:cA),if a<0 then uC (sc.map λv=>all.getD v.toNat 0) q.1 q.2 else q.2):=by
  unfold dq;cases C:bl (-az) az s with
  |none=>rfl
  |some q=>
   obtain⟨a',s1⟩:=q;have:=bL _ C;subst this;simp only;show _=match ff all.length a.natAbs s1 with
    |none=>ν
    |some (sc,J)=>_
   cases ff all.length a.natAbs s1 with
   |none=>rfl
   |some q=>
    obtain⟨sc,J⟩:=q;simp only;show _=T0 _ (ke _ ((bl 0 az _).map (·.2)));cases bl 0 az (bj (decide (6<a.natAbs)||dy (sc.map λv=>all.getD v.toNat 0)) J)with
    |none=>rfl
    |some q=>
     obtain⟨o,G⟩:=q;simp only;show _=T0 _ (dZ _ G);cases dZ (sc.map λv=>all.getD v.toNat 0) G with
     |none=>rfl
     |some q=>rfl
 rw[bC,bY];cases ab:rZ all.length a.natAbs ((bl (-az) az s).map (·.2))with
 |none=>
  rw[ab]at an K;simp only at K;refine⟨λ_=>?_,λh=>by simp at h⟩;refine Dv rfl (by intro v H;simp at H;rcases H with rfl|rfl|rfl|rfl<;>first|exact bm.2|rfl) bn rfl bR λac M=>?_;have cD:=M.size;refine⟨A,λr=>(B r\/w.heap.size<=r)/\r<ac.heap.size,_,(scope,[],0,[]),rfl,rfl,iO (bP.F (Z.V _)) M λr f he=>by have he:r=E:=he;omega,λr f=>.inl f,λr f=>f,λr f=>⟨.inl f,by have:=R r f;omega⟩,?_,?_,λq C=>by rw[K]at C;cases C⟩
  .rw[K];have cE:iU ac g gs A B W (T0 (λx=>x.2) (ν:Option (Λ×aJ))):=an.q.V M (λhe=>by have:=ae g (.inl rfl);have he:g=E:=he;omega) (λr f _ he=>by have he:r=E:=he;exact L (he▸f)) (λr f he=>by have:=R r f.2;have he:r=E:=he;omega);exact cE
  .refine Dt (r0 (bs aG M λr f he=>(O r f).2.2 he) λr f=>?_) iM iM;have N:=O r f;have ao:=(bV aG f);exact⟨λj=>by have:=ae _ j;omega,.inr Ω,Ω⟩
 |some q=>
  obtain⟨sc,J⟩:=q;have:=ct _ ab;subst this;rw[ab]at an K;simp only at K;refine⟨λh=>by simp at h,λ_=>?_⟩;have an:=an;obtain⟨s1,cF,cG⟩:∃s1,(bl (-az) az s).map (·.2)=σ s1/\ff all.length a.natAbs s1=σ (scope,J):=by
   cases C:(bl (-az) az s).map (·.2)with
   |none=>rw[C]at ab;cases ab
   |some s1=>rw[C]at ab;exact⟨s1,rfl,ab⟩
  obtain⟨dF,cH,rfl⟩:=X0.1 cF;have bT:=dH cH;obtain⟨bU,dG,dI,bX⟩:=xn cG;have bo:=bT.eqs;have bp:=bU.eqs;have cI:ea J:=λP=>by rw[bp.1,bo.1];rw[bp.2.1,bo.2.1]at P;exact hi P
  have cJ:J.m2.length+1+J.d8.length<=100000:=by rw[bp.2.2,bo.2.2];have:=bT.1;have:=bU.1;omega
  generalize br:(scope.map λv=>all.getD v.toNat 0)=co at K;have bZ:∀z∈co,1<=z/\z<=az:=λz aS=>by
   rw[<-br]at aS;obtain⟨v,H,rfl⟩:=j0.1 aS;have:=bX v H;refine cj _ ?_;rw[u4,x7 Ω];exact Q4 _
  have dJ:co.length=scope.length:=by rw[<-br,u9]
  have b0:af (bK g gs A) w bQ:=bP.F (Z.V _);have cK:=jk bI b0 λr f a n c H bi=>(bc r ⟨a,n,c,H,bi⟩).1 f;rw[aL ci.p 0 bn rfl,aY ax.u aG.ls];refine NP bn aG.ls (λr f=>(O r f).2.1) cK (λr f=>by have:=(bc r f).2;omega) bX Ω λac d9 gz M b1 aV dK=>?_;rw[br]at aV;have cD:=M.size;have bt:∀r,cS g gs A B r->¬(λr=>r=y) r:=λr f he=>by have:=R r f.2;have he:r=y:=he;omega
  have bx:∀r,bK g gs A r->¬(λr=>r=y) r:=λr f he=>by have he:r=y:=he;exact am (he▸f)
  have b2:=an.V M bx bt;have cL:af (bK g gs A) w ac:=iO b0 M λr f he=>by have he:r=y:=he;omega
  refine cW (λaX=>af (bK g gs A) ac aX/\eo aX g gs A B (bj (decide (6<a.natAbs)||dy co) J) W) ?_ ?_
  rotate_left
  .intro ay aH;rw[bO,ak];refine⟨λdL=>?_,λdM=>?_⟩
   .refine (uj b2).Y ?_;rintro _ cM _ ⟨cN,cO⟩;refine aH _ ⟨cN.Y λr _ h=>.inl h,?_⟩;rw[m7 Ω,Bool.true_or];exact cO
   .rw[aL ci.p 1 b1 rfl];refine(CJ aV.ls λz aS=>(bZ z aS).1).Y ?_;rintro _ cM _ ⟨rfl,b3⟩;refine(uj (b2.W b3)).Y ?_;rintro _ dN _ ⟨cP,cQ⟩;refine aH _ ⟨(b3.V _).F (cP.Y λr _ h=>.inl h),?_⟩;rw[ms Ω,Bool.false_or];exact cQ
  rintro aX ⟨aZ,a1⟩;have dO:=aZ.size;generalize bd:bj (decide (6<a.natAbs)||dy co) J=G at K a1;have cR:ea G:=λP=>by
   subst bd;have P:(J.big||_)=rs:=P;exact cI (U4.1 P).1
  have dP:G.m2.length+1+G.d8.length<=100000:=by subst bd;exact cJ
  have a1:ds aX g gs A B W (σ G):=a1;refine(nw (lo:=0) (hi:=az) a1).Y ?_;rintro _ b5 _ ⟨Y,o,dQ,rfl,cT,dR⟩;obtain⟨a2,cU⟩:=Y.of;have dS:=a2.size;rw[bu,bw,aT ci.p rfl];have cV:=(b1.V aZ am).V a2 am;refine bq (g:=y) (o:=2) au.i rfl rfl cV Ξ λcX ap dT a6=>?_;have a6:=a6;rw[aL ci.p 1 a6 rfl];have cY:=cU.V ap bx bt;have bz:af (bK g gs A) ac b5:=aZ.F a2;have cZ:af (bK g gs A) w b5:=cL.F bz;have b6:af (bK g gs A) w cX:=iO cZ ap λr f he=>by have he:r=y:=he;omega
  have ad:∀r,lc d9 r->bQ.heap.size<=r/\r<ac.heap.size:=λr f=>by have:=bV aV f;omega
  have b7:=bs (bs aV bz λr f j=>by have:=ae _ j;have:=ad r f;omega) ap λr f he=>by have he:r=y:=he;have:=ad r f;omega
  have c0:=bs (bs (bs aG M λr f he=>(O r f).2.1 he) bz λr f j=>by have:=ae _ j;have:=O r f;omega) ap λr f he=>(O r f).2.1 he;have dU:=ap.size;refine(NM cY (λt bA=>?_) b7.ls (λr f=>⟨λj=>by have:=ae _ j;have:=ad r f;omega,by have:=ad r f;omega⟩) bZ Ω (cl.V b6 h1.1) h1).Y ?_
  .obtain⟨q,C,rfl⟩:=X0.1 bA;have b8:=(dH C).eqs;intro P;rw[b8.1];rw[b8.2.1]at P;exact cR P
  rintro ck c1 _ ⟨Y,l,bD,b9⟩;obtain⟨aq,c2⟩:=Y.of;have dV:=aq.size;have bE:ck.cells= #[ck]/\ck.oneCell'=ro:=⟨rt bD,gY bD⟩;rw[aT ci.p rfl];have c3:=a6.V aq am;refine bq (g:=y) (o:=3) jZ.i bE.1 bE.2 c3 Ξ λQ ai dW a7=>?_;have a7:=a7;have dX:=ai.size;have ca:=c2.V ai bx bt;have c4:af (bK g gs A) w c1:=b6.F aq;have c5:af (bK g gs A) w Q:=iO c4 ai λr f he=>by have he:r=y:=he;omega
  have cb:=bs (bs c0 aq λr f j=>by have:=ae _ j;have:=O r f;omega) ai λr f he=>(O r f).2.1 he;have a8:=bs (bs b7 aq λr f j=>by have:=ae _ j;have:=ad r f;omega) ai λr f he=>by have he:r=y:=he;have:=ad r f;omega
  have c6:ag Q E ci [.slice ν 0 0,.slice ν 0 0,Δ 0,.slice ν 0 0]:=((((((bR.V M (λhe=>by have he:=he;omega)).V aZ L).V a2 L).V ap (λhe=>by have he:=he;omega)).V aq L).V ai (λhe=>by have he:=he;omega));let S:ah:=λr=>(B r\/w.heap.size<=r)/\r<Q.heap.size;have cc:av.rep rs bW (λr=>cS g gs A S r/\r≠y/\r≠E) Q [ck] l:=by
   refine Du (av.V bD ai λr f h he=>?_) λr f h=>?_
   .have he:r=y:=he;rcases h with h|h
    .exact h
    .rcases h with h|h
     .have:=R r h.2;omega
     .omega
   .rcases h with h|h
    .have:=R r h.2;exact⟨⟨h.1,.inl h.2,f⟩,Ω,Ω⟩
    .exact⟨⟨λj=>by have:=ae _ j;omega,.inr Ω,f⟩,Ω,Ω⟩
  have c7:∀r,lc aU r->cS g gs A S r/\r≠y/\r≠E:=λr f=>by
   have N:=O r f;have ao:=(bV cb f);exact⟨⟨λj=>by have:=ae _ j;omega,.inr Ω,Ω⟩,N.2⟩
  have cd:∀r,lc d9 r->cS g gs A S r/\r≠y/\r≠E:=λr f=>by
   have N:=ad r f;have ao:=(bV a8 f);exact⟨⟨λj=>by have:=ae _ j;omega,.inr Ω,Ω⟩,Ω,Ω⟩
  have c8:Seen (λr=>cS g gs A S r/\r≠y/\r≠E) Q [aU,d9,Δ o,ck] ((scope,co,o,l):jI):=Dt (r0 cb c7) (r0 a8 cd) cc;have c9:∀q,dq all s=σ q->((scope,co,o,l):jI)=iV q.1:=λq C=>by
   rw[K]at C;obtain⟨dY,bF,rfl⟩:=X0.1 C;have N:=b9 _ bF;cases aw:bl 0 az G with
   |none=>have e:bf 0 az (σ G)=ν:=aw;rw[e]at bF;cases bF
   |some aj=>
    have ao:=cT aj aw;rw[N,ao];rfl
  have da:∀v∈[aU,d9,U6 .i64 o,ck],v.oneCell'=ro:=by
   intro v H;simp at H;rcases H with rfl|rfl|rfl|rfl
   .exact bm.2
   .exact a8.ls.cells.2
   .rfl
   .exact bE.2
  have ce:∀r,cS g gs A B r->cS g gs A S r/\r≠y/\r≠E:=λr f=>by
   have:=R r f.2;exact⟨⟨f.1,.inl f.2,Ω⟩,Ω,Ω⟩
  refine cW (λbG=>∃aK,af (bK g gs A) Q bG/\(∀r,aK r->A r\/Q.heap.size<=r)/\∃X,ny bG g gs aK X (λr=>cS g gs A S r/\r≠y/\r≠E) W ((dq all s).map (·.2))) ?_ ?_
  .rintro bG ⟨aK,aI,aN,X,db⟩;have eb:=aI.size;refine Dv rfl da (a7.V aI am) rfl (c6.V aI L) λcf ba=>?_;have ec:=ba.size;have cg:∀r,bK g gs aK r->¬(λr=>r=E) r:=λr f he=>by
    have he:r=E:=he;subst he;rcases f with f|f|f
    .exact L (.inl f)
    .exact L (.inr (.inl f))
    .rcases aN _ f with f|f
     .exact L (.inr (.inr f))
     .omega
   have ch:∀r,(cS g gs A S r/\r≠y/\r≠E)->cS g gs aK (λr=>(B r\/w.heap.size<=r)/\r<cf.heap.size/\(r<Q.heap.size\/B r)) r:=λr h=>⟨λj=>h.1.1 (j.imp id (Or.imp id λj=>(aN r j).elim id λaW=>by have:=h.1.2.2;omega)),h.1.2.1,by have:=h.1.2.2;omega,.inl h.1.2.2⟩;have dc:=db.V ba (cg g (.inl rfl)) (λr f _=>cg r f) (λr f=>f.2.2);refine⟨aK,λr=>(B r\/w.heap.size<=r)/\r<cf.heap.size/\(r<Q.heap.size\/B r),_,(scope,co,o,l),rfl,rfl,iO (c5.F aI) ba λr f he=>by have he:r=E:=he;omega,λr f=>(aN r f).imp id λh=>Ω,λr f=>⟨f.1,f.2.1⟩,λr f=>⟨.inl f,by have:=R r f;omega,.inr f⟩,dc.out ch λr f=>f.2.1,?_,c9⟩;refine Du (av.V (av.V c8 aI λr _ h j=>?_) ba λr _ h he=>?_) λr _ h=>ch r h
   .rcases h with h|h
    .exact h
    .exact h.1.1 j
   .rcases h with h|h
    .exact h
    .exact h.2.2 he
  .intro ay aH;rw[ak];refine⟨λdd=>?_,λde=>?_⟩
   .intro bH aC _ _;have ed:=aC.size;have df:∀r,(cS g gs A S r/\r≠y/\r≠E)->cS g gs A (qE bH.heap.size) r:=λr h=>⟨h.1.1,by have:=h.1.2.2;show r<bH.heap.size;omega⟩;refine NO (ca.W aC) ce df (λt bA=>?_) (a7.W aC) (r0 (a8.W aC) cd) (bS cc aC) λee aK dg aN dh=>?_
    .obtain⟨q,C,rfl⟩:=X0.1 bA;cases aw:bl 0 az G with
     |none=>have e:bf 0 az (σ G)=ν:=aw;rw[e]at C;cases C
     |some aj=>
      have e:bf 0 az (σ G)=σ aj:=aw;rw[e]at C;have h1:q.2.m2=aj.2.m2/\q.2.d8.length<=aj.2.d8.length:=Dw (l:=q.1) (s':=q.2) C;have N:=dH (n:=aj.1) (s':=aj.2) aw;have ao:=N.eqs.2.2;have ef:=N.1;rw[h1.1,ao];have:=h1.2;omega
    .refine aH _ ⟨aK,(aC.V _).F dg,λr f=>(aN r f).imp id λh=>Ω,qE bH.heap.size,?_⟩;have e:(dq all s).map (·.2)=((ke co ((bf 0 az (σ G)).map (·.2))).map (·.2)).map (uC co l):=by
      rw[K];cases C:ke co ((bf 0 az (σ G)).map (·.2))with
      |none=>rfl
      |some q=>
       have N:=b9 _ C;simp only[Y3,m3 dd,N]
     rw[e];exact dh
   .refine aH _ ⟨A,af.refl _ _,λr f=>.inl f,B,?_⟩;have e:(dq all s).map (·.2)=(ke co ((bf 0 az (σ G)).map (·.2))).map (·.2):=by
     rw[K];cases C:ke co ((bf 0 az (σ G)).map (·.2))with
     |none=>rfl
     |some q=>simp only[Y3,m5 de]
    rw[e];exact ca.qr ce
def nz(l:Λ):Prop:=∀v∈l,0<=v/\v<64
theorem r1(h:nz l){v:Int}:v∈bx l↔v∈l:=by
 unfold bx;rw[S1,ne];refine⟨λh=>h.2,λa=>⟨?_,a⟩⟩;obtain⟨h1,e⟩:=h v a;exact j0.2 ⟨v.toNat,T6.2 Ω,Ω⟩
theorem NR(l:Λ):nz (bx l):=λv a=>by
 obtain⟨n,e,rfl⟩:=j0.1 (S1.1 a).1;have:=T6.1 e;omega
theorem xF(l:Λ):(bx l).Pairwise (·< ·):=by
 unfold bx;refine List.Pairwise.filter _ ?_;rw[List.pairwise_map];exact List.pairwise_lt_range.imp λh=>Ω
theorem Dx(l:Λ):(bx l).Nodup:=(xF l).imp λh=>Ω
where
 nodup_le' {a b:Λ} (h:a.Nodup) (J:∀x∈a,x∈b):a.length<=b.length:=by
  induction a generalizing b with
  |nil=>exact X7 _
  |cons x a ih=>
   have aW:=List.nodup_cons.1 h;have hx:=J x (.head _);have:=ih aW.2 λy hy=>(List.mem_erase_of_ne (λ(he:y=x)=>aW.1 (by rw[<-he];exact hy))).2 (J y (.tail _ hy));rw[List.length_erase_of_mem hx]at this;have:=List.length_pos_of_mem hx;rw[Z4];omega
theorem Dy(n:Nat):(0:Int)<64 ^ n:=Int.pow_pos Ω
theorem uD:∀(l:Λ),nz l->0<=kG l/\kG l<64 ^ l.length
 |[],_=>by simp[kG]
 |x::l,h=>by
  have j:=uD l λy a=>h y (.tail _ a);have f:=h x (.head _);have ac:=Dy l.length;simp only[kG,Z4];have e:(64:Int) ^ (l.length+1)=64*64 ^ l.length:=by rw[Int.pow_succ,Int.mul_comm]
  have h1:x*64 ^ l.length<=63*64 ^ l.length:=Int.mul_le_mul_of_nonneg_right Ω Ω;have p:0<=x*64 ^ l.length:=Int.mul_nonneg f.1 Ω;rw[e];omega
def jJ:Λ->Λ->Int
 |x::a,y::b=>if x<y then-1 else if y<x then 1 else jJ a b
 |[],[]=>0
 |[],_::_=>-1
 |_::_,[]=>1
theorem Dz:∀(a b:Λ),a.length=b.length->nz a->nz b->(jJ a b<0↔kG a<kG b)/\(jJ a b=0↔a=b)/\(kG a=kG b->a=b)
 |[],[],_,_,_=>by simp[jJ]
 |[],_::_,h,_,_=>by simp at h
 |_::_,[],h,_,_=>by simp at h
 |x::a,y::b,h,s,w=>by
  have p:a.length=b.length:=by simpa using h
  have q:=λz e=>s z (.tail _ e);have r:=λz e=>w z (.tail _ e);have f:=Dz a b p q r;have A:=uD a q;have C:=uD b r;have ac:=Dy b.length;simp only[jJ,kG];rw[p]at A ⊢;have step:∀u v:Int,u<v->u*64 ^ b.length+64 ^ b.length<=v*64 ^ b.length:=λu v E=>by
   have:=Int.mul_le_mul_of_nonneg_right (show u+1<=v by omega) (show(0:Int)<=64 ^ b.length by omega);rw[Int.add_mul,Int.one_mul]at this;exact this
  by_cases h1:x<y
  .rw[m3 h1];have:=step x y h1;exact⟨⟨λ_=>Ω,λ_=>Ω⟩,⟨λh=>Ω,λh=>by have:=(List.cons.inj h).1;omega⟩,λh=>Ω⟩
  .rw[m5 h1];by_cases j:y<x
   .rw[m3 j];have:=step y x j;exact⟨⟨λh=>Ω,λh=>Ω⟩,⟨λh=>Ω,λh=>by have:=(List.cons.inj h).1;omega⟩,λh=>Ω⟩
   .rw[m5 j];have B:x=y:=Ω
    subst B;exact⟨f.1.F ⟨λh=>Ω,λh=>Ω⟩,f.2.1.F ⟨λh=>by rw[h],λh=>(List.cons.inj h).2⟩,λh=>by rw[f.2.2 Ω]⟩
def lf(l:Λ):Prop:=nz l/\l.length<=6
theorem DA(h:lf l):0<=kG l/\kG l<64 ^ 6:=by
 have:=uD l h.1;have e:(64:Int) ^ l.length<=64 ^ 6:=by
  have a:=h.2
  match l.length,a with
  |0,_=>decide
  |1,_=>decide
  |2,_=>decide
  |3,_=>decide
  |4,_=>decide
  |5,_=>decide
  |6,_=>decide
  |n+7,h=>omega
 omega
theorem xG{b:Λ}(j:lf a)(p:lf b):(dk a<dk b↔a.length<b.length\/(a.length=b.length/\jJ a b<0))/\(dk a=dk b->a=b):=by
 have h1:=DA j;have q:=DA p;have e:(64:Int) ^ 6=68719476736:=Φ
 rw[e]at h1 q;unfold dk;rw[e];by_cases f:a.length=b.length
 .have:=Dz a b f j.1 p.1;rw[f];exact⟨⟨λh=>.inr ⟨rfl,this.1.2 Ω⟩,λh=>by
   rcases h with h|⟨_,h⟩
   .omega
   .have:=this.1.1 h;omega⟩,λh=>this.2.2 Ω⟩
 .exact⟨⟨λh=>.inl Ω,λh=>by
   rcases h with h|⟨h,_⟩
   .omega
   .exact m6 h f⟩,λh=>Ω⟩
theorem uE(g:cO):∀l:List cO,(iQ g l).Perm (g::l)
 |[]=>List.Perm.refl _
 |h::l=>by
  unfold iQ;split
  .exact ((uE g l).cons h).F (List.Perm.swap g h l)
  .exact List.Perm.refl _
theorem DB{g:cO}:∀{l:List cO},l.Pairwise (λa b=>dk a.1<dk b.1)->(∀h∈l,dk h.1≠dk g.1)->(iQ g l).Pairwise (λa b=>dk a.1<dk b.1)
 |[],_,_=>by simp[iQ]
 |h::l,ac,j=>by
  have f:=List.pairwise_cons.1 ac;unfold iQ;split
  .rename_i p;refine List.pairwise_cons.2 ⟨λx e=>?_,DB f.2 λx e=>j x (.tail _ e)⟩;rcases V4.1 ((uE g l).mem_iff.1 e)with rfl|e
   .exact p
   .exact f.1 x e
  .rename_i q;have:=j h (.head _);refine List.pairwise_cons.2 ⟨λx e=>?_,ac⟩;rcases V4.1 e with rfl|e
   .omega
   .have:=f.1 x e;omega
theorem DC:∀(l acc:List cO),acc.Pairwise (λa b=>dk a.1<dk b.1)->l.Pairwise (λa b=>dk a.1≠dk b.1)->(∀a∈acc,∀b∈l,dk a.1≠dk b.1)->
  (l.foldl (λl g=>iQ g l) acc).Pairwise (λa b=>dk a.1<dk b.1)/\(l.foldl (λl g=>iQ g l) acc).Perm (acc++l)
 |[],acc,h,_,_=>⟨h,Ξ⟩
 |g::l,acc,h,q,f=>by
  have j:=List.pairwise_cons.1 q;have:=DC l (iQ g acc) (DB h λa e=>f a e g (.head _)) j.2 λa e b p=>by
   rcases V4.1 ((uE g acc).mem_iff.1 e)with rfl|e
   .exact j.1 b p
   .exact f a e b (.tail _ p)
  refine⟨this.1,this.2.F ?_⟩;exact((uE g acc).append_right l).F (List.perm_middle).symm
theorem xH{α:Type}{f:α->Int}:∀{L M:List α},L.Pairwise (λa b=>f a<f b)->M.Pairwise (λa b=>f a<f b)->(∀x,x∈L↔x∈M)->L=M
 |[],M,_,_,h=>by
  cases M with
  |nil=>rfl
  |cons y M=>exact m6 ((h y).2 (.head _)) Ξ
 |x::L,[],_,_,h=>m6 ((h x).1 (.head _)) Ξ
 |x::L,y::M,h1,q,h=>by
  have j:=List.pairwise_cons.1 h1;have p:=List.pairwise_cons.1 q;have r:x=y:=by
   rcases V4.1 ((h x).1 (.head _))with he|hm
   .exact he
   .rcases V4.1 ((h y).2 (.head _))with he|s
    .exact he.symm
    .have a:=p.1 x hm;have b:=j.1 y s;omega
  subst r;rw[xH j.2 p.2 λz=>⟨λe=>?_,λe=>?_⟩]
  .rcases V4.1 ((h z).1 (.tail _ e))with he|hm
   .subst he;have:=j.1 z e;omega
   .exact hm
  .rcases V4.1 ((h z).2 (.tail _ e))with he|hm
   .subst he;have:=p.1 z e;omega
   .exact hm
structure ie(co:Λ)(k:Int)(g:cO):Prop where
 scope:lf g.1
 up:g.1.Pairwise (·< ·)
 d6:∀v∈g.1,v<co.length
 len:g.2.length=(aQ (b1 co g.1)).toNat
 small:aQ (b1 co g.1)<=4096
 jK:∀c∈g.2,0<=c/\c<=k
theorem og{sc:Λ}(e:∀z∈co,1<=z/\z<=32)(f:∀v∈sc,0<=v/\v<co.length):∀z∈b1 co sc,1<=z/\z<=32:=λz h=>by
 obtain⟨v,j,rfl⟩:=j0.1 h;obtain⟨h1,p⟩:=f v j;have a:v.toNat<co.length:=Ω
 rw[u4,x7 a];exact e _ (Q4 a)
theorem NS{b:Λ}(h:a.Perm b):aQ a=aQ b:=by
 induction h with
 |nil=>rfl
 |cons x _ e=>simp only[aQ,e]
 |swap x y l=>simp only[aQ];rw[<-Int.mul_assoc,<-Int.mul_assoc,Int.mul_comm y x]
 |trans _ _ h1 f=>exact h1.F f
theorem NT{b:Λ}(h:a.length=b.length):(ez k a b).length=b.length:=by simp[ez,h]
theorem NU{b:Λ}(hk:0<=k)(f:∀c∈a,0<=c/\c<=k)(j:∀c∈b,0<=c/\c<=k):∀c∈ez k a b,0<=c/\c<=k:=by
 induction a generalizing b with
 |nil=>intro c e;simp[ez]at e
 |cons x a p=>
  cases b with
  |nil=>intro c e;simp[ez]at e
  |cons y b=>
   intro c e;have q:=f x (.head _);have r:=j y (.head _);rcases V4.1 (show c∈min (x+y) k::ez k a b from e)with rfl|e
   .omega
   .exact p (λc h=>f c (.tail _ h)) (λc h=>j c (.tail _ h)) c e
def kI(l:List cO):Prop:=(l.map (·.1)).Nodup
theorem NV{acc:List cO}{g:cO}(hk:0<=k)(j:∀h∈acc,ie co k h)(p:kI acc)(a:ie co k g):(∀h∈jG k acc g,ie co k h)/\kI (jG k acc g)/\(jG k acc g).length<=acc.length+1:=by
 unfold jG;split
 .refine⟨λh ao=>?_,?_,Ξ⟩
  .obtain⟨f,hm,rfl⟩:=j0.1 ao;have h1:=j f hm;split
   .rename_i he;have r:f.2.length=g.2.length:=by rw[h1.len,a.len,he]
    exact⟨h1.scope,h1.up,h1.d6,by show(ez k f.2 g.2).length=_;rw[NT r,a.len,he],h1.small,NU hk h1.jK a.jK⟩
   .exact h1
  .unfold kI;rw[S5];have e:((λx:cO=>x.1)∘λh:cO=>if h.1=g.1 then(h.1,ez k h.2 g.2)else h)=λx:cO=>x.1:=by
    funext h;simp only[Function.comp];split<;>rfl
   rw[e];exact p
 .rename_i s;refine⟨λh ao=>?_,?_,Ξ⟩
  .rcases j4.1 ao with ao|ao
   .exact j h ao
   .rw[j6.1 ao];exact a
  .unfold kI;rw[Z5];exact List.nodup_append.2 ⟨p,Ξ,λx w y q he=>by
    simp only[T3,List.map_nil,j6]at q;subst q;subst he;exact s w⟩
theorem xI{co:Λ}{k:Int}(hk:0<=k):∀{l acc:List cO},(∀h∈acc,ie co k h)->kI acc->(∀g∈l,ie co k g)->(∀h∈l.foldl (jG k) acc,ie co k h)/\kI (l.foldl (jG k) acc)/\(l.foldl (jG k) acc).length<=acc.length+l.length
 |[],acc,a,e,_=>⟨a,e,Ξ⟩
 |g::l,acc,a,e,f=>by
  obtain⟨h1,j,s⟩:=NV hk a e (f g (.head _));obtain⟨p,q,w⟩:=xI hk h1 j λx r=>f x (.tail _ r);exact⟨p,q,by simp only[V8,Z4];omega⟩
end Go.Proofs.YtnhkbjhpbbobaaaGreatDoor
