/- own texts, made small by a tool (wip/ holds them as they were written): no statement of the seat. -/
import Derived.Test.YtnhkbjhpbbobaaaGreatDoorZa
set_option linter.unusedVariables false
set_option linter.unusedSimpArgs false
set_option linter.unnecessarySimpa false
open Array renaming getElem?_eq_some_iff→b8,getElem?_toList→Q0
open BitVec renaming ofInt→T8
open Bool renaming false→v6,true→v2,not_true→X3,not_false→W6,or_eq_false_iff→U1,eq_iff_iff→U8,and_eq_true→U9
open Decidable renaming not_not→X5
open Go renaming Value→x4,World→x5,TypeId→o5,IntKind→j0,Builtin→Y1,Program→V3,FuncId→Q6
open Go.Builtin renaming append_→Z9,len_→V0
open Go.Instr renaming loadAt→u6,fieldAt→u7,storeAt→l9,indexAt→c9,extract→Y8,buildSlice→X2,sliceAt→U4
open Go.IntKind renaming i64→W5,u64→T7
open Go.Proofs.Tryz renaming prog→v8
open Go.Result renaming andThen→V1
open Go.Sem renaming run_bind→W9,run_pure→V8
open Go.Value renaming int→U3
open Int renaming toNat_natCast→u9,le_refl→S0
open List renaming getElem?_eq_some_iff→x6,mem_of_getElem?→x7,getElem?_eq_getElem→x8,getElem?_map→u4,getD_eq_getElem?_getD→u5,length_map→r8,take_add_one→r9,replicate→o6,length_set→o7,length_take→o8,length_append→o9,getElem?_set_self→n9,take_length→j4,mem_map→j5,mem_append→j9,mem_singleton→b9,take_of_length_le→Z0,map_append→Z3,eq_nil_of_length_eq_zero→Z5,getElem?_set_ne→Z6,getElem?_append_right→Z7,length_cons→Y0,getElem?_append_left→Y4,getElem?_eq_none→Y5,getElem?_take_of_lt→Y6,getElem?_set→Y7,ext_getElem?→X0,mem_iff_getElem?→X8,range→X9,drop_eq_getElem_cons→W3,mem_or_eq_of_mem_set→W8,length_eq_one_iff→V4,foldl_cons→V5,flatMap_cons→V6,mem_cons→V7,append_nil→U2,pairwise_iff_getElem→U5,map_set→T2,map_cons→T3,set_append_right→T4,length_singleton→T5,append_assoc→T6,mem_range→S2,foldl_append→S3,map_map→S6,mem_filter→S9,getElem?_drop→R3,length→Q2,getElem_mem→Q9
open Nat renaming le_refl→o4,le_trans→X1,mul_le_mul_right→X4,zero_add→X6,zero_le→W0,sub_self→V2,add_mul→U6,mul_one→T0,lt_of_lt_of_le→S4,pow_le_pow_right→S5,add_sub_cancel_left→Q5,eq_zero_or_pos→Q8
open Ne renaming symm→R7
open Option renaming toList_some→j6,isNone_some→Y2,map_some→Y3,map_eq_some_iff→Y9,getD_some→W7,map→U7
open Option.some renaming inj→Z4,injEq→X7
open Prod.mk renaming injEq→S8
set_option maxHeartbeats 16000000
open Option renaming some→σ,none→ν
variable{C a aj l co:Λ}{e t:o5}{K:x4->Prop}{at_ c hi k lo y:Int}{cx cy f:Bool}{sv v z:x4}{I w:x5}{R S:Nat->Prop}{N gs j n r:Nat}{cs:List x4}{hp:List (Λ)}
namespace Go.Vc
open Go Go.RowKit
set_option maxRecDepth 100000
theorem Ll:(⟨#[]⟩:ByteArray)=strOfNums []:=rfl
theorem Bz{ax:x4->x4->x4->x5->Prop}{B:(x4->x4->x4->x5->Prop)->Prop}(G:x4->x4->x4->x5->Prop)(h1:∀t u v w,G t u v w->ax t u v w)(e:∀a:x4->x4->x4->x5->Prop,(∀t u v w,G t u v w->a t u v w)->B a):cC ax B:=e ax h1
theorem BA{ax:x4->x4->x4->x4->x5->Prop}{B:(x4->x4->x4->x4->x5->Prop)->Prop}(G:x4->x4->x4->x4->x5->Prop)(h1:∀s t u v w,G s t u v w->ax s t u v w)(e:∀a:x4->x4->x4->x4->x5->Prop,(∀s t u v w,G s t u v w->a s t u v w)->B a):cC ax B:=e ax h1
abbrev ca(l:Λ):x4:=.string (strOfNums l)
def Bytes(l:Λ):Prop:=∀b∈l,0<=b/\b<256
theorem nT(l:Λ):(strOfNums l).size=l.length:=strOfNums_size l
theorem Lm(h:Bytes l){i:Nat}{b:Int}(hi:l[i]?=σ b):(strOfNums l)[i]?=σ (UInt8.ofNat b.toNat)/\((UInt8.ofNat b.toNat).toNat:Int)=b:=by
 have f:=h b (x7 hi);have e:=x6.1 hi;refine⟨?_,by rw[UInt8.toNat_ofNat'];omega⟩;have J:i<(strOfNums l).size:=by rw[nT];exact e.1
 rw[getElem?_pos (strOfNums l) i J];congr 1;show(strOfNums l).data[i]=_;have a:(strOfNums l).data.toList[i]?=σ (UInt8.ofNat b.toNat):=by rw[strOfNums_data,u4,hi];rfl
 rw[Q0]at a;exact(b8.1 a).2
theorem str_inj{b:Λ}(e:Bytes a)(f:Bytes b)(h:strOfNums a=strOfNums b):a=b:=by
 have h1:(strOfNums a).data.toList=(strOfNums b).data.toList:=by rw[h]
 rw[strOfNums_data,strOfNums_data]at h1;have key:∀{l:Λ},Bytes l->(l.map λn=>UInt8.ofNat n.toNat).map (λu=>((u.toNat:Nat):Int))=l:=λ{l}j=>by
  rw[S6]
  conv=>rhs;rw[<-List.map_id l]
  refine List.map_congr_left λx p=>?_;have:=j x p;show(((UInt8.ofNat x.toNat).toNat:Nat):Int)=x;rw[UInt8.toNat_ofNat'];omega
 rw[<-key e,<-key f,h1]
theorem Ln(a b:Λ):strOfNums a++strOfNums b=strOfNums (a++b):=by
 apply ByteArray.ext;rw[ByteArray.data_append];simp[strOfNums]
theorem Lo(l:Λ)(i j:Nat):(strOfNums l).extract i j=strOfNums ((l.take j).drop i):=by
 apply ByteArray.ext;rw[ByteArray.data_extract];apply Array.toList_inj.1;rw[Array.toList_extract];simp[strOfNums,List.extract_eq_take_drop,List.map_drop,List.map_take,List.drop_take]
theorem BB(l:Λ):(strOfNums l).toList=l.map λn=>UInt8.ofNat n.toNat:=by
 rw[ByteArray.toList_eq];exact strOfNums_data l
theorem BC{b:Λ}(e:Bytes a)(f:Bytes b):((strOfNums a).toList == (strOfNums b).toList)=decide (a=b):=by
 rw[U8,beq_iff_eq,sp,BB,BB];refine⟨λh=>str_inj e f ?_,λh=>by rw[h]⟩;unfold strOfNums;rw[h]
section
variable{P:V3}{w:x5}
theorem o3{a:o5}(e:P.underlying t=σ .string):ab P (V0 #[t] a #[ca l]) w K=K (Δ l.length):=ab.of λI _=>by
 simp[V0,run_underlying e,goInt,nT]
theorem rk{k:j0}{b:Int}{i:Nat}(a:y=(i:Int))(f:P.underlying t=σ .string)(h:Bytes l)(hi:l[i]?=σ b):ab P (Instr.index t (ca l) (.int k y)) w K=K (.int .u8 b):=ab.of λI _=>by
 subst a;obtain⟨h1,j⟩:=Lm h hi;have e:(0:Int)<=(i:Int):=Ω
 simp only[Instr.index,asIntOf,W9,V8,V1,run_underlying f];rw[ms e,u9,h1];simp only[V8,j]
theorem wL{b:Λ}(h:a.length+b.length<=9223372036854775807):ab P (aO .add t cx cy (ca a) (ca b)) w K=K (ca (a++b)):=ab.of λI _=>by
 have:=run_string_add_sum (P:=P) (w:=I) (strOfNums a) (strOfNums b) (by rw[nT,nT];exact h);simp only[aO,eqGuard,binOp];simp[this,Ln]
theorem BD{b:Λ}(e:Bytes a)(f:Bytes b):ab P (aO .eql t cx cy (ca a) (ca b)) w K=K (.bool (decide (a=b))):=ab.of λI _=>by
 simp[aO,eqGuard,binOp,Op.stringOp,BC e f]
theorem Lp{b:Λ}(e:Bytes a)(f:Bytes b):ab P (aO .neq t cx cy (ca a) (ca b)) w K=K (.bool (decide (a≠b))):=ab.of λI _=>by
 simp[aO,eqGuard,binOp,Op.stringOp,BC e f]
theorem BE{k:j0}{i:Nat}(a:y=(i:Int))(f:P.underlying t=σ .string)(hi:i<=l.length):ab P (U4 t (ca l) (σ (.int k y)) ν ν) w K=K (ca (l.drop i)):=ab.of λI _=>by
 have j:=tn (P:=P) I (sl:=v6) (n:=(strOfNums l).size) (c:=(strOfNums l).size) (low:=σ (.int k y)) (high:=ν) (mx:=ν) (l:=i) (h:=(strOfNums l).size) (m:=(strOfNums l).size) (oS i y a) kR fh (by rw[nT];exact hi) (o4 _) (o4 _);have e:(strOfNums l).extract i (strOfNums l).size=strOfNums (l.drop i):=by rw[Lo,nT,j4]
 simp[U4,Instr.slice,run_underlying f,j,e]
theorem wM{s:o5}(J:P.underlying s=σ (.slice e))(he:P.underlying e=σ (.int .u8))(f:P.underlying t=σ .string)(h:aN .u8 w v l):ab P (convert s t v) w K=K (ca l):=ab.of λI r=>by
 obtain⟨p,b,o,base,cap,rfl,_,_,x,y⟩:=h.W r;have p:l.length=l.length*1:=by simpa using p
 by_cases z:0<l.length
 .rw[x z];refine run_convert_bytes_arg I s e J he b o l.length cap l rfl (λi hi=>?_) t f;have q:l[i]?=σ l[i]:=x8 hi;rw[u5,q];exact y i _ (mc q)
 .have A:l=[]:=Z5 Ω;subst A;cases base with
  |none=>
   rw[run_convert_bytes_nil I s e J he _ _ t f];rfl
  |some a=>
   rw[run_convert_bytes_string I s t e _ _ _ J he f];have:=run_bytesToString (P:=P) I a 0 cap [] (by have:=run_loadCells_list (P:=P) I a [] (λj v B=>by simp at B);simpa using this);simp only[List.length_nil];rw[this];rfl
theorem wN{s:o5}{u:TypeDesc}{K:x4->x5->Prop}(J:P.underlying s=σ u)(y:P.underlying t=σ (.slice e))(he:P.underlying e=σ (.int .u8))(z:Bytes l)(hm:l.length<=1000000000)(A:∀v I,Ext w I->aN .u8 I v l->(∀r,(∃a n c,v= .slice (σ a) n c/\a.block=r)->w.heap.size<=r)->K v I):aF P (convert s t (ca l)) w K:=by
 have B:=Lib.bytesWorld_at_new w e (strOfNums l);have q:=λj f=>Lib.bytesWorld_at_old w e (strOfNums l) j f;have C:=Lib.bytesWorld_size w e (strOfNums l);refine .of (Lib.run_convert_string_bytes w s t e (strOfNums l) J y he) ⟨rfl,⟨rfl,Nat.le_succ _⟩,rfl,Ω,λr o h _=>?_⟩ (A _ _ ⟨Ω,λr o h _=>?_⟩ ?_ ?_)
 .rw[q r (b8.1 h).1];exact h
 .rw[q r (b8.1 h).1];exact h
 .rw[nT];refine⟨Ξ,w.heap.size,0,_,_,rfl,?_,?_,λ_=>rfl,λj v p=>?_⟩
  .exact grownCap_ge w _ _ _
  .exact grownCap_le_maxLen w _ _ _ (by simp[maxLen];omega)
  .have f:j<l.length:=by have:=(x6.1 p).1;simpa using this
   have x:l[j]?=σ l[j]:=x8 f;rw[X6,Lib.bytesWorld_cell w e (strOfNums l) j (by rw[nT];exact f)];rw[mc x]at p;rw[<-Z4 p,strOfNums_data,u5,u4,x];have:=z l[j] (Q9 f);simp only[Y3,W7];congr 2;rw[UInt8.toNat_ofNat'];omega
 .rintro r ⟨a,n,c,h1,rfl⟩;cases h1;exact o4 _
end
end Go.Vc
namespace Go.Proofs.YtnhkbjhpbbobaaaGreatDoor
open Go Go.Vc Go.RowKit Go.Proofs Go.Proofs.Tryz
set_option maxRecDepth 100000
theorem BF{b:Int}(h:cH b=v2):bV b=v6:=by
 have h:=ty h;unfold bV;rw[decide_eq_false_iff_not];omega
theorem BG{b:Int}{p:Λ}(h:cH b=v2):lex (b::p)=lex p:=by
 rw[lD,lD p,List.dropWhile_cons,ms h]
theorem Lq{b:Int}{p:Λ}(h:cH b=v6)(a:bV b=v6):lex (b::p)=([],v6):=by
 rw[lD,List.dropWhile_cons,rc (by simp[h])];simp only[a,Bool.false_eq_true,if_false]
theorem BH{b:Int}{p:Λ}(h:bV b=v2):lex (b::p)=match p.dropWhile bV with
  |[]=>([b::p.takeWhile bV],v2)
  |c::r=>if cH c then((b::p.takeWhile bV)::(lex (c::r)).1,(lex (c::r)).2)else([],v6):=by
 have J:cH b=v6:=by
  cases a:cH b with
  |false=>rfl
  |true=>rw[BF a]at h;cases h
 rw[lD,List.dropWhile_cons,rc (by simp[J])];simp only[h,if_true,List.dropWhile_cons,List.takeWhile_cons]
 all_goals (cases List.dropWhile bV p<;>rfl)
def jx:Λ->List (Λ)->Λ->Bool->List (Λ)×Bool
 |[],out,w,op=>(if op then out++[w]else out,v2)
 |b::p,out,w,op=>
  if cH b then jx p (if op then out++[w]else out) [] v6
  else if bV b then jx p out (if op then w++[b]else[b]) v2
  else(out,v6)
theorem rl:∀(p:Λ)(out:List (Λ))(w:Λ),jx p out w v6=(out++(lex p).1,(lex p).2)/\
  jx p out w v2=match p.dropWhile bV with
   |[]=>(out++[w++p.takeWhile bV],v2)
   |c::r=>if cH c then(out++[w++p.takeWhile bV]++(lex (c::r)).1,(lex (c::r)).2)else(out,v6)
 |[],out,w=>by simp[jx,lD []]
 |b::p,out,w=>by
  by_cases J:cH b=v2
  .have hw:=BF J;refine⟨?_,?_⟩
   .rw[jx,ms J,(rl p _ _).1,BG J];simp
   .rw[jx,ms J,ms rfl,(rl p _ _).1,List.dropWhile_cons,rc (by simp[hw])];simp only[J,if_true,BG J,List.takeWhile_cons,hw,Bool.false_eq_true,if_false,U2]
  .have e:cH b=v6:=by cases h:cH b;rfl;exact ro h J
   by_cases hw:bV b=v2
   .refine⟨?_,?_⟩
    .rw[jx,rc J,ms hw,rc Ξ,(rl p _ _).2,BH hw];cases p.dropWhile bV with
     |nil=>simp
     |cons c r=>
      simp only;by_cases a:cH c=v2
      .simp[a]
      .simp[a]
    .rw[jx,rc J,ms hw,ms rfl,(rl p _ _).2,List.dropWhile_cons,ms hw,List.takeWhile_cons,ms hw];cases p.dropWhile bV with
     |nil=>simp
     |cons c r=>
      simp only;by_cases a:cH c=v2
      .simp[a]
      .simp[a]
   .have f:bV b=v6:=by cases h:bV b;rfl;exact ro h hw
    refine⟨?_,?_⟩
    .rw[jx,rc J,rc hw,Lq e f];simp
    .rw[jx,rc J,rc hw,List.dropWhile_cons,rc hw];simp[e]
theorem Lr(p:Λ):jx p [] [] v6=lex p:=by rw[(rl p [] []).1];simp
def qa:Nat->Nat->Λ
 |0,_=>[]
 |k+1,n=>(if n<10 then[]else qa k (n / 10))++[48+((n % 10:Nat):Int)]
def gi(n:Nat):Λ:=qa (n+1) n
theorem BI:∀{k m n:Nat},n<k->n<m->qa k n=qa m n
 |k+1,m+1,n,h1,a=>by
  unfold qa;by_cases h:n<10
  .rw[ms h,ms h]
  .rw[rc h,rc h,BI (k:=k) (m:=m) (n:=n / 10) Ω Ω]
theorem pa(n:Nat):gi n=(if n<10 then[]else gi (n / 10))++[48+((n % 10:Nat):Int)]:=by
 unfold gi;rw[qa];by_cases h:n<10
 .rw[ms h,ms h]
 .rw[rc h,rc h,BI (k:=n) (m:=n / 10+1) Ω Ω]
theorem BJ:∀(k n:Nat),n<k->∀b∈gi n,48<=b/\b<=57
 |k+1,n,hk,b,a=>by
  rw[pa]at a;rcases j9.1 a with a|a
  .by_cases h:n<10
   .rw[ms h]at a;simp at a
   .rw[rc h]at a;exact BJ k (n / 10) Ω b a
  .rw[b9]at a;omega
theorem BK(n:Nat):∀b∈gi n,48<=b/\b<=57:=BJ (n+1) n Ω
def rm(l:Λ):Int:=l.foldl (λn b=>10*n+(b-48)) 0
theorem Ls(l:Λ)(b:Int):rm (l++[b])=10*rm l+(b-48):=by simp[rm]
theorem wO:∀(k n:Nat),n<k->rm (gi n)=n
 |k+1,n,hk=>by
  rw[pa,Ls];by_cases h:n<10
  .rw[ms h];have:rm []=0:=rfl;omega
  .rw[rc h,wO k (n / 10) Ω];omega
theorem Lt{a b:Nat}(h:gi a=gi b):a=b:=by
 have h1:=wO (a+1) a Ω;have e:=wO (b+1) b Ω;rw[h,e]at h1;omega
theorem wP:∀(k n:Nat),n<10 ^ k->1<=k->(gi n).length<=k
 |k+1,n,h,_=>by
  rw[pa,o9];by_cases a:n<10
  .rw[ms a];simp
  .rw[rc a];have hk:1<=k:=by
    rcases k with _|k
    .simp at h;omega
    .omega
   have ac:(10:Nat) ^ (k+1)=10*10 ^ k:=by rw[Nat.pow_succ,Nat.mul_comm]
   have:=wP k (n / 10) Ω hk;simp only[T5];omega
def eO(t:Λ):Λ:=t.flatMap λv=>gi v.toNat++[32]
theorem Lu(t:Λ)(v:Int):eO (t++[v])=eO t++(gi v.toNat++[32]):=by simp[eO]
theorem BL{r:Λ}(a:∀b∈l,b≠32):(l++32::r).takeWhile (λb=>decide (b≠32))=l/\(l++32::r).dropWhile (λb=>decide (b≠32))=32::r:=by
 induction l with
 |nil=>simp
 |cons x l e=>
  have f:=a x (.head _);have:=e λb h=>a b (.tail _ h);simp only[List.cons_append,List.takeWhile_cons,List.dropWhile_cons];simp only[f,ne_eq,not_false_eq_true,decide_true,if_true];exact⟨by rw[this.1],this.2⟩
theorem BM:∀{a b:Λ},(∀x∈a,0<=x)->(∀x∈b,0<=x)->eO a=eO b->a=b
 |[],[],_,_,_=>rfl
 |[],y::b,_,_,h=>by simp[eO]at h
 |x::a,[],_,_,h=>by simp[eO]at h
 |x::a,y::b,j,p,h=>by
  have e:∀(z:Int)(l:Λ),eO (z::l)=gi z.toNat++32::eO l:=λz l=>by simp[eO]
  rw[e,e]at h;have d:∀z:Int,∀c∈gi z.toNat,c≠32:=λz c s=>by have:=BK _ c s;omega
  have s1:=BL (r:=eO a) (d x);have q:=BL (r:=eO b) (d y);rw[h]at s1;have w:=s1.1.symm.F q.1;have A:=s1.2.symm.F q.2;have C:=j x (.head _);have E:=p y (.head _);have:=Lt w;have B:x=y:=Ω
  subst B;rw[BM (λz f=>j z (.tail _ f)) (λz f=>p z (.tail _ f)) (List.cons.inj A).2]
theorem BN(t:Λ):Bytes (eO t):=λb a=>by
 obtain⟨v,_,a⟩:=List.mem_flatMap.1 a;rcases j9.1 a with a|a
 .have:=BK _ b a;omega
 .rw[b9]at a;omega
theorem BO{b:Int}:al v8 Jp [.int .u8 b] w λv I=>v= .bool (cH b)/\Ext w I:=by
 refine aB func177 ?_;refine aZ (λv U=>v= .bool (cH b)/\Ext w U) (λ_ _ h=>h) λax a=>?_;rw[bm,am];refine⟨λh=>a _ _ ⟨by unfold cH;rw[rs (.inl h)],Ext.refl _⟩,λh1=>?_⟩;rw[bm,am];refine⟨λh=>a _ _ ⟨by unfold cH;rw[rs (.inr (.inl h))],Ext.refl _⟩,λe=>?_⟩;rw[bm,am];refine⟨λh=>a _ _ ⟨by unfold cH;rw[rs (.inr (.inr (.inl h)))],Ext.refl _⟩,λf=>?_⟩;rw[bm];refine a _ _ ⟨?_,Ext.refl _⟩;congr 1;unfold cH;rw[U8,sp,sp];omega
theorem Lv{b:Int}:al v8 Jo [.int .u8 b] w λv I=>v= .bool (bV b)/\Ext w I:=by
 refine aB func176 ?_;refine aZ (λv U=>v= .bool (bV b)/\Ext w U) (λ_ _ h=>h) λax a=>?_;rw[cP,am];refine⟨λh=>?_,λh=>a _ _ ⟨by unfold bV;rw[s2 Ω],Ext.refl _⟩⟩;rw[lA];refine a _ _ ⟨?_,Ext.refl _⟩;congr 1;unfold bV;rw[U8,sp,sp];omega
def nj(w:x5)(g:Nat)(a:x4)(p:Λ)(at_:Nat)(bad:Int):Prop:=Bytes p/\p.length<=100000/\at_<=p.length/\ag w g iU [a,Δ (at_:Int),Δ bad]/\∃a8,aA .u8 cN w a8 a p
theorem nj.W{g:Nat}{a:x4}{p:Λ}{at_:Nat}{bad:Int}(h:nj w g a p at_ bad)(e:Ext w I):nj I g a p at_ bad:=by
 obtain⟨h1,f,j,q,a8,r⟩:=h;exact⟨h1,f,j,q.W e,a8,r.W e⟩
theorem Lw(h:aN .u8 w v l)(A:l.length<=100000):al v8 Jj [v] w λf I=>Ext w I/\∃g,aA .u8 cN I g f l:=by
 have e:=h;obtain⟨B,b,o,base,cap,rfl,C,hm,p,E⟩:=h;refine aB func170 ?_;rw[tk cT.u,b4];refine⟨λq=>⟨Ext.refl _,0,?_⟩,λ_=>?_⟩
 .have:l=[]:=by
   cases base with
   |none=>
        by_cases e:0<l.length
        .have:=p e;cases this
        .exact Z5 Ω
   |some a=>cases q
  subst this;exact aA.nil _ _ _ _
 .refine kS (k:=1) (cs:=#[]) cT.u cN.i Ω Ψ λg U G j r=>?_;have s:aA .u8 cN U g (.slice (σ ⟨g,0,ν⟩) 0 0) []:=aA.of (n:=0) (b0.full (by simpa using r) rfl Ξ);refine kp cT.u cN.i rfl s (e.W j) Θ Θ λf x aa H y z=>?_;exact⟨j.put z Ω,x,by simpa using y⟩
theorem BP(h:aN .u8 w v l)(p:Bytes l)(e:l.length<=100000):al v8 Aw [v] w λq I=>Ext w I/\∃g,q=Γ g/\w.heap.size<=g/\∃a,nj I g a l 0 (-1):=by
 refine aB func109 ?_;refine(Lw h e).Y ?_;rintro a U _ ⟨f,a8,ac⟩;rw[dm (cs:=#[a,Δ 0,Δ (-1)]) (by obtain⟨_,_,_,_,_,rfl,_⟩:=ac.ls;kernel_rfl)];refine bp λg aa s j r=>?_;have s1:=f.size;exact⟨f.F j,g,rfl,Ω,a,p,e,W0 _,r,a8,ac.W j⟩
def runN(f:Int->Bool)(p:Λ):Nat:=(p.takeWhile f).length
theorem Lx(f:Int->Bool)(p:Λ):runN f p<=p.length:=(List.takeWhile_sublist f).length_le
theorem BQ{f:Int->Bool}{p:Λ}{i:Nat}{b:Int}(hi:p[i]?=σ b)(e:f b=v2):i+runN f (p.drop i)=(i+1)+runN f (p.drop (i+1)):=by
 have a:=x6.1 hi;unfold runN;rw[W3 a.1,a.2,List.takeWhile_cons,ms e,Y0];omega
theorem BR{f:Int->Bool}{p:Λ}{i:Nat}(h:∀b,p[i]?=σ b->f b=v6):runN f (p.drop i)=0:=by
 unfold runN;cases ac:p[i]? with
 |none=>
  rw[List.drop_of_length_le (List.getElem?_eq_none_iff.1 ac)];rfl
 |some b=>
  have a:=x6.1 ac;rw[W3 a.1,a.2,List.takeWhile_cons,rc (by simp[h b ac])];rfl
theorem Ly{g at_:Nat}{p:Λ}{bad:Int}(h:nj w g z p at_ bad):al v8 Jn [Γ g] w λv I=>v=Δ ((at_+runN cH (p.drop at_):Nat):Int)/\Ext w I:=by
 obtain⟨L,M,A,a,a8,ac⟩:=h;refine aB func175 ?_;rw[aK iU.p 1 a rfl];refine⟨λv U=>Ext w U/\∃i:Nat,v=Δ (i:Int)/\i<=p.length/\i+runN cH (p.drop i)=at_+runN cH (p.drop at_),λv _=>p.length-(bX v).toNat,⟨Ext.refl _,at_,rfl,A,rfl⟩,?_⟩;rintro _ U ⟨j,i,rfl,hi,he⟩;refine aZ (λv aa=>Ext w aa/\∃c:Bool,v= .bool c/\(c=v2↔ ∃b,p[i]?=σ b/\cH b=v2)) ?_ ?_
 .rintro _ aa ⟨q,c,rfl,r⟩;rw[b4];refine⟨λB=>?_,λs=>?_⟩
  .obtain⟨b,e,C⟩:=r.1 B;have E:=(x6.1 e).1;rw[aP,m1 Ω Ω];exact⟨⟨q,i+1,rfl,E,by rw[<-he,BQ e C]⟩,by simp only[bX];omega⟩
  .have G:=BR (f:=cH) (p:=p) (i:=i) λb a=>by
    cases J:cH b with
    |false=>rfl
    |true=>rw[r.2 ⟨b,a,J⟩]at s;cases s
   exact⟨by rw[<-he,G,Nat.add_zero],q⟩
 .intro ax x;have y:=a.W j;rw[aK iU.p 0 y rfl,a1 cT.u (ac.W j).ls,aS,am];refine⟨λN=>?_,λO=>x _ _ ⟨j,v6,rfl,⟨λh=>(by cases h),λ⟨b,a,_⟩=>by have:=(x6.1 a).1;omega⟩⟩⟩;have H:i<p.length:=Ω
  have e:=x8 H;rw[aK iU.p 0 y rfl,bk cT.u cN.i Ψ (ac.W j).ls e];refine BO.Y ?_;rintro _ P _ ⟨rfl,K⟩;exact x _ _ ⟨j.F K,_,rfl,⟨λh=>⟨_,e,h⟩,λ⟨b,a,h⟩=>by rw[e]at a;cases a;exact h⟩⟩
inductive Lz where
 |word (from_ to:Nat)
 |none
 |text (at_:Nat)
def gH(p:Λ)(at_:Nat):Nat:=at_+runN cH (p.drop at_)
def jY(p:Λ)(a:Nat):Nat:=a+runN bV (p.drop a)
open Classical in
noncomputable def qb(p:Λ)(at_:Nat):Lz:=
 if jY p (gH p at_)<p.length/\(∀c,p[jY p (gH p at_)]?=σ c->cH c=v6)then .text (jY p (gH p at_))else if gH p at_=jY p (gH p at_)then .none else .word (gH p at_) (jY p (gH p at_))
def rn(w:x5)(g:Nat)(e:x4)(p:Λ)(at_:Nat)(v:x4)(I:x5):Prop:=
 match qb p at_ with
 | .word a b=>v= .tuple #[ca ((p.take b).drop a),Δ (a:Int),Δ 0]/\af (λr=>r=g) w I/\nj I g e p b (-1)
 | .none=>∃n:Nat,v= .tuple #[ca [],Δ (n:Int),Δ 2]/\Ext w I
 | .text b=>v= .tuple #[ca [],Δ (b:Int),Δ 11]/\af (λr=>r=g) w I/\nj I g e p at_ (b:Int)
theorem iB{aX:Nat->Prop}{a b c:x5}(h:af S a b)(k:af aX b c)(j:∀r,r<a.heap.size->aX r->S r):af S a c:=
 ⟨X1 h.size k.size,λr o e J f=>k.aY r o (h.aY r o e J f) J λhu=>f (j r (b8.1 e).1 hu)⟩
theorem ce{g:Nat}{k:j0}{p:o5}(h:aA k e w g v l)(q:ag w j p cs)(x:e≠p)(s:lw v r):r≠j:=by
 obtain⟨rfl,_⟩:=bZ h s;obtain⟨_,⟨rfl,_⟩|⟨_,_,_,f,_⟩⟩:=h
 .obtain⟨a,n,c,h,_⟩:=s;cases h
 .rintro rfl;unfold ag at q f;rw[q]at f;injection f with h1;injection h1 with z y;exact x y.symm
theorem LA{s:o5}{e f:j0}{b i:Nat}(p:v8.underlying s=σ (.slice t))(hi:aR v8 t 1 b z)(h:aN .u8 w v l)(q:i<=j)(r:j<=l.length)(x:∀a,aN .u8 w a ((l.take j).drop i)->K a):ab v8 (U4 s v (σ (.int e (i:Int))) (σ (.int f (j:Int))) ν) w K:=by
 refine tz p hi h (oS i _ rfl) (oT j _ rfl) q r λa aW=>x a (aN.of (n:=j-i) ?_);have y:((ints .u8 l).drop (i*1)).take ((j-i)*1)=ints .u8 ((l.take j).drop i):=by
  rw[T0,T0,ints,ints,List.map_drop,List.map_take,List.drop_take]
 rw[y]at aW;exact aW
theorem LB{g at_:Nat}{E:x4}{p:Λ}(h:nj w g E p at_ (-1)):al v8 wj [Γ g] w (rn w g E p at_):=by
 obtain⟨P,Q,an,e,a8,ac⟩:=id h;refine aB func115 ?_;rw[dg tj.u,Y2,a6,aK iU.p 2 e rfl,cP,am];refine⟨λh=>Ω,λ_=>?_⟩;refine(Ly h).Y ?_;rintro _ aa _ ⟨rfl,ao⟩;obtain⟨a,R⟩:∃a,a=at_+runN cH (p.drop at_):=⟨_,rfl⟩;rw[<-R];have ap:a<=p.length:=by have:=Lx cH (p.drop at_);rw[List.length_drop]at this;omega
 refine⟨λv G=>Ext aa G/\∃i:Nat,v=Δ (i:Int)/\a<=i/\i<=p.length/\i+runN bV (p.drop i)=a+runN bV (p.drop a),λv _=>p.length-(bX v).toNat,⟨Ext.refl _,a,rfl,o4 _,ap,rfl⟩,?_⟩;rintro _ G ⟨S,i,rfl,aq,hi,he⟩;have H:=ao.F S;have U:=e.W H;have W:=ac.W H;refine aZ (λv y=>Ext G y/\∃c:Bool,v= .bool c/\(c=v2↔ ∃b,p[i]?=σ b/\bV b=v2)) ?_ ?_
 rotate_left
 .intro ax q;rw[aK iU.p 0 U rfl,a1 cT.u W.ls,aS,am];refine⟨λau=>?_,λav=>q _ _ ⟨Ext.refl _,v6,rfl,⟨λh=>(by cases h),λ⟨b,e,_⟩=>by have:=(x6.1 e).1;omega⟩⟩⟩;have z:i<p.length:=Ω
  have j:=x8 z;rw[aK iU.p 0 U rfl,bk cT.u cN.i Ψ W.ls j];refine Lv.Y ?_;rintro _ y _ ⟨rfl,A⟩;exact q _ _ ⟨A,_,rfl,⟨λh=>⟨_,j,h⟩,λ⟨b,e,h⟩=>by rw[j]at e;cases e;exact h⟩⟩
 rintro _ y ⟨A,c,rfl,s⟩;have I:=H.F A;have X:=e.W I;have Y:=ac.W I;rw[b4];refine⟨λK=>?_,λZ=>?_⟩
 .obtain⟨b,j,aw⟩:=s.1 K;have ay:=(x6.1 j).1;rw[aP,m1 Ω Ω];exact⟨⟨S.F A,i+1,rfl,Ω,ay,by rw[<-he,BQ j aw]⟩,by simp only[bX];omega⟩
 have aE:=BR (f:=bV) (p:=p) (i:=i) λb e=>by
  cases J:bV b with
  |false=>rfl
  |true=>rw[s.2 ⟨b,e,J⟩]at Z;cases Z
 have az:i=a+runN bV (p.drop a):=Ω
 refine aZ (λv L=>Ext y L/\∃c:Bool,v= .bool c/\(c=v2↔i<p.length/\∀c,p[i]?=σ c->cH c=v6)) ?_ ?_
 rotate_left
 .intro ax q;rw[aK iU.p 0 X rfl,a1 cT.u Y.ls,aS,am];refine⟨λau=>?_,λav=>q _ _ ⟨Ext.refl _,v6,rfl,⟨λh=>(by cases h),λh=>Ω⟩⟩⟩;have z:i<p.length:=Ω
  have j:=x8 z;rw[aK iU.p 0 X rfl,bk cT.u cN.i Ψ Y.ls j];refine BO.Y ?_;rintro _ L _ ⟨rfl,M⟩;rw[bM];refine q _ _ ⟨M,_,rfl,⟨λh=>⟨z,λc s=>?_⟩,λh=>by rw[h.2 _ j];rfl⟩⟩;rw[j]at s;cases s;cases J:cH p[i]with
  |false=>rfl
  |true=>rw[J]at h;cases h
 rintro _ L ⟨M,aF,rfl,ab⟩;have x:=I.F M;have B:=e.W x;have C:=ac.W x;have ad:∀r,lw E r->r≠g:=λr aA=>ce C B Φ aA;have N:qb p at_=open Classical in if i<p.length/\(∀c,p[i]?=σ c->cH c=v6)then .text i else if a=i then .none else .word a i:=by
  unfold qb;rw[show gH p at_=a from R.symm,show jY p a=i from az.symm]
 rw[b4];refine⟨λK=>?_,λae=>?_⟩
 .rw[bY,aU iU.p rfl];refine bt (g:=g) (o:=2) ai.i rfl rfl B Ξ λaG af aH aC=>?_;unfold rn;rw[N,ms (ab.1 K)];exact⟨rfl,(x.V _).F af,P,Q,an,aC,a8,bA C af ad⟩
 .have ag:¬(i<p.length/\∀c,p[i]?=σ c->cH c=v6):=λh=>by rw[ab.2 h]at ae;cases ae
  rw[bm,am];refine⟨λaI=>?_,λaJ=>?_⟩
  .intro aL O _ _;rw[aK iU.p 0 (B.W O) rfl,a1 cT.u (C.W O).ls];unfold rn;rw[N,rc ag,ms Ω];exact⟨p.length,rfl,x.F O⟩
  .rw[bY,aU iU.p rfl];refine bt (g:=g) (o:=1) ai.i rfl rfl B Ξ λaM ah aN aj=>?_;have ak:=bA C ah ad;rw[aK iU.p 0 aj rfl];refine LA cT.u cN.i ak.ls aq hi λaO aD=>?_;rw[wM cT.u cN.u da.u aD];unfold rn;rw[N,rc ag,rc Ω];exact⟨rfl,(x.V _).F ah,P,Q,hi,aj,a8,ak⟩
abbrev bO:ah:=λ_=>False
abbrev eU(n:Nat):ah:=λr=>n<=r
theorem LC{b:Λ}{bh bv:x4}(f:aN .i64 w bh a)(s:aN .i64 w bv b):
  al v8 JJ [bh,bv] w λv I=>v= .bool (decide (a=b))/\Ext w I:=by
 refine aB func206 ?_;rw[a1 aq.u f,a1 aq.u s];simp only[bL,am];refine⟨λp=>⟨?_,Ext.refl _⟩,λz=>?_⟩
 .rw[s2];rintro rfl;exact p rfl
 .have z:a.length=b.length:=Ω
  rw[a1 aq.u f];refine ch.range a.length (λi _ U=>Ext w U/\a.take i=b.take i) f.le ⟨Ext.refl _,rfl⟩ ?_ ?_
  .rintro i t4 U k A ⟨e,q⟩ hk;simp only[aS,am,ei];refine⟨λ_ aa B _ _=>?_,λh=>Ω⟩;have e:=e.F B;obtain⟨x,r⟩:=aD A;obtain⟨y,j⟩:=aD (l:=b) (i:=i) Ω;rw[bk aq.u ai.i Ψ (f.W e) r,bk aq.u ai.i Ψ (s.W e) j];simp only[bL,am,aP];refine⟨λp=>⟨?_,e⟩,λC=>hk _ _ ⟨e,wD q r j Ω⟩⟩;rw[s2];rintro rfl;rw[r]at j;cases j;exact p rfl
  .rintro _ U k ⟨e,q⟩;simp only[aS,am];refine⟨λh=>Ω,λ_=>⟨?_,e⟩⟩;rw[rs];rwa [j4,z,j4]at q
def kv(rest:List (Λ))(i:Nat):List (Λ):=(X9 i).flatMap λ(v:Nat)=>rest.map λt=>(v:Int)::t
theorem LD(rest:List (Λ))(i:Nat):kv rest (i+1)=kv rest i++rest.map λt=>(i:Int)::t:=by
 simp[kv,List.range_succ]
theorem BS(rest:List (Λ))(i:Nat):(kv rest i).length=i*rest.length:=by
 simp only[kv,List.length_flatMap,r8];rw[List.map_const',List.length_range,List.sum_replicate_nat]
def rp(l:Λ):Prop:=l.length<=90/\(∀x∈l,1<=x/\x<=32)/\aQ l<=1073741824
theorem cg.p(h:cg l):rp l:=⟨by have:=h.1;omega,h.2,(prod_bound h).2⟩
theorem rp.tail{s:Λ}(h:rp (k::s)):rp s:=by
 have h1:=h.2.1 k (.head _);have e:=(me s λx a=>h.2.1 x (.tail _ a)).1;have f:k*aQ s<=1073741824:=h.2.2;have j:=Int.mul_le_mul_of_nonneg_right h1.1 (show 0<=aQ s by omega);refine⟨?_,λx a=>h.2.1 x (.tail _ a),Ω⟩;have:=h.1;rw[Y0]at this;omega
theorem wQ:∀(s:Λ){sv:x4}{w:x5},aN .i64 w sv s->rp s->
  al v8 wg [sv] w λv I=>Ext w I/\bq (eU w.heap.size) bO I [v] (bo s)
 |[],sv,w,h,J=>by
  refine aB func29 ?_;rw[a1 aq.u h];simp only[bm,List.length_nil,Int.natCast_zero,decide_true,bQ];refine ju (α:=Λ) (cs:=[.slice ν 0 0]) (A:=bO) ci.u aq.i Φ rfl gh λv I P f _=>⟨P,an.Y f (λr _ h=>?_) λ_ _ h=>h⟩;exact h.elim False.elim id
 |k::s,sv,w,h,J=>by
  have ac:1<=aQ (k::s)/\aQ (k::s)<=1073741824:=⟨(me _ J.2.1).1,J.2.2⟩;have q:=J.tail;have hk:=J.2.1 k (.head _);have Q:=ks q.2.1;have ap:1<=aQ s/\aQ s<=1073741824:=⟨(me _ q.2.1).1,q.2.2⟩;obtain⟨kn,rfl⟩:∃kn:Nat,k=kn:=⟨k.toNat,Ω⟩;have au:kn*(bo s).length<=1073741824:=by
   have e:((kn*(bo s).length:Nat):Int)=aQ ((kn:Int)::s):=by
    rw[Int.natCast_mul,Q,aQ,Int.toNat_of_nonneg Ω]
   omega
  refine aB func29 ?_;rw[a1 aq.u h];simp only[bm,am];refine⟨λS=>by simp at S;omega,λ_=>?_⟩;refine Lb rfl aq.u ai.i h Ξ λV aW=>?_;refine(wQ s aW q).Y ?_;rintro av aa _ ⟨E,z⟩;have aw:=ng z;refine ch.range kn (λi out U=>Ext aa U/\bq (eU aa.heap.size) bO U [out] (kv (bo s) i)) Ω ⟨Ext.refl _,gh⟩ ?_ ?_
  .rintro i out W X M ⟨p,f⟩ Y;have Z:=bu z p;rw[fM (y:=0) (i:=0) rfl aq.u ai.i Ψ (h.W (E.F p)) (by rfl)];simp only[aS,am];refine⟨λ_=>?_,λh=>Ω⟩;rw[gR ci.u Z];refine ch.range (bo s).length (λj out U=>Ext aa U/\bq (eU aa.heap.size) bO U [out] (kv (bo s) i++((bo s).take j).map λt=>(i:Int)::t)) Ω ⟨p,by simpa using f⟩ ?_ ?_
   .rintro j out B ab ad ⟨C,f⟩ ae;simp only[aS,am];refine⟨λ_=>?_,λh=>Ω⟩;obtain⟨x,G⟩:=aD ad;have ax:x.length<=100:=by
     have:=Bk G;have:=q.1;omega
    refine jX rfl rfl ci.u aq.i Ψ (bu z C) G λu hu=>?_;refine eT aq.u ai.i rfl λa ga ay az H af=>?_;refine kp aq.u ai.i rfl af (en (bu hu H)) Θ Θ λb aA aC aE K ag=>?_;have aF:=H.size;have N:=H.then ag (by rintro r z rfl;omega);have aG:=N.size;refine ju (α:=Λ) (a:=(i:Int)::x) (R:=bO) ci.u aq.i Φ (lC (md K (R:=bO))) (an.Y (md K) (λr _ h=>by subst h;show B.heap.size<=r;omega) λ_ _ h=>h) λc aH L _ ah=>?_;have O:=N.F L;have aI:=L.size;refine nQ ci.u aq.i rfl (bu (ng f) O) ah (bu (an.Y (md K) (λr _ h=>by subst h;show B.heap.size<=r;omega) λ_ _ h=>h) L) (λr _ h aW=>?_) ?_ ?_ λV aJ aj ak=>?_
    .rcases aW with aW|aW
     .have:=h.2;have:B.heap.size<=r:=aW;omega
     .exact aW
    .have ao:(kv (bo s) i++((bo s).take j).map λt=>(i:Int)::t).length+1<=kn*(bo s).length:=by
      simp only[o9,BS,r8,o8];have:(i+1)*(bo s).length<=kn*(bo s).length:=X4 _ M;rw[U6]at this;omega
     omega
    .have ao:(kv (bo s) i++((bo s).take j).map λt=>(i:Int)::t).length+1<=kn*(bo s).length:=by
      simp only[o9,BS,r8,o8];have:(i+1)*(bo s).length<=kn*(bo s).length:=X4 _ M;rw[U6]at this;omega
     omega
    .simp only[aP];have aK:=C.size;refine ae _ _ ⟨(C.F O).then ak (λr z h=>?_),?_⟩
     .have:=h.1;have:aa.heap.size<=r:=this;omega
     .have e:kv (bo s) i++((bo s).take (j+1)).map (λt=>(i:Int)::t)=(kv (bo s) i++((bo s).take j).map λt=>(i:Int)::t)++[(i:Int)::x]:=by
       rw[r9,G];simp
      rw[e];refine an.Y aj (λr _ h=>?_) λ_ _ h=>h;show aa.heap.size<=r;rcases h with h|h|h
      .exact h.1
      .have:B.heap.size<=r:=h;omega
      .omega
   .rintro out B ab ⟨C,f⟩;simp only[aS,am,aP];refine⟨λh=>Ω,λ_=>Y _ _ ⟨C,?_⟩⟩;rw[LD];simpa using f
  .rintro out W X ⟨p,f⟩;rw[fM (y:=0) (i:=0) rfl aq.u ai.i Ψ (h.W (E.F p)) (by rfl)];simp only[aS,am];refine⟨λh=>Ω,λ_=>⟨E.F p,?_⟩⟩;have aL:=E.size;have e:bo ((kn:Int)::s)=kv (bo s) kn:=by simp[bo,kv]
   rw[e];exact an.Y f (λr _ h=>by have:aa.heap.size<=r:=h;show w.heap.size<=r;omega) λ_ _ h=>h
theorem wR(s:Λ)(h:aN .i64 w sv s)(J:cg s):al v8 wg [sv] w λv I=>Ext w I/\bq (eU w.heap.size) bO I [v] (bo s):=wQ s h J.p
theorem LF:∀(x:Nat),0<x->∃k m,x=2 ^ k*(2*m+1):=by
 intro x;induction x using Nat.strongRecOn with
 |_ x a=>
  intro h;by_cases e:x % 2=1
  .exact⟨0,x / 2,Ω⟩
  .obtain⟨k,m,hk⟩:=a (x / 2) Ω Ω;refine⟨k+1,m,?_⟩;rw[Nat.pow_succ,Nat.mul_assoc,Nat.mul_comm 2,<-Nat.mul_assoc,<-hk];omega
theorem wS{k m i:Nat}:(2 ^ k*(2*m+1)).testBit i=(decide (i=k)||decide (k<i)&&m.testBit (i-k-1)):=by
 rw[Nat.testBit_two_pow_mul];by_cases h:k<=i
 .obtain⟨d,rfl⟩:=Nat.exists_eq_add_of_le h;cases d with
  |zero=>simp
  |succ d=>
   have e:(2*m+1).testBit (d+1)=m.testBit d:=by rw[Nat.testBit_succ];congr 1;omega
   simp[e,show k+(d+1)-k=d+1 by omega]
 .simp[h,show i≠k by omega,show¬k<i by omega]
theorem LG{k m:Nat}(p:2 ^ k*(2*m+1)<2 ^ 64):(2 ^ k*(2*m+1)) &&& (2 ^ 64-2 ^ k*(2*m+1))=2 ^ k:=by
 have q:=Nat.two_pow_pos k;have hk:k<64:=by
  rcases Nat.lt_or_ge k 64 with h|h
  .exact h
  .have:2 ^ 64<=2 ^ k:=S5 Ω h;have:2 ^ k*1<=2 ^ k*(2*m+1):=Nat.mul_le_mul_left _ Ω;omega
 have e:2 ^ k*(2*m+1)=(2 ^ k*(2*m)+(2 ^ k-1))+1:=by rw[Nat.mul_add];omega
 apply Nat.eq_of_testBit_eq;intro i;rw[Nat.testBit_and,wS]
 conv=>lhs;rhs;rw[e]
 rw[Nat.testBit_two_pow_sub_succ Ω,Nat.testBit_two_pow_mul_add _ Ω,Nat.testBit_two_pow];by_cases h1:i=k
 .subst h1;simp[hk]
 .by_cases a:k<i
  .have f:(2*m).testBit (i-k)=m.testBit (i-k-1):=by
    obtain⟨d,j⟩:∃d,i-k=d+1:=⟨i-k-1,Ω⟩;rw[j,Nat.testBit_succ];congr 1;omega
   simp[h1,a,show¬i<k by omega,f,show k≠i by omega];intro h;simp[h]
  .simp[h1,a,show k≠i by omega]
def kV(a c:Nat):Nat:=(BitVec.ofNat 64 a &&& ~~~BitVec.ofNat 64 c).toNat
theorem BT(a c i:Nat):(kV a c).testBit i=(decide (i<64)&&(a.testBit i&& !c.testBit i)):=by
 unfold kV;rw[BitVec.testBit_toNat,BitVec.getLsbD_and,BitVec.getLsbD_not,BitVec.getLsbD_ofNat,BitVec.getLsbD_ofNat];by_cases h:i<64<;>simp[h]
theorem LH(a c:Nat):kV a c<2 ^ 64:=BitVec.isLt _
theorem LI{a:Nat}(h:∀i,n<=i->a.testBit i=v6):a<2 ^ n:=Nat.lt_pow_two_of_testBit a h
theorem BU{a i:Nat}(h:a<2 ^ n)(hi:n<=i):a.testBit i=v6:=Nat.testBit_lt_two_pow (S4 h (S5 Ω hi))
def gI(b n:Nat):List Nat:=(X9 n).filter λi=>b.testBit i
theorem BV(b n:Nat):(gI b n).Pairwise (·< ·):=List.Pairwise.filter _ List.pairwise_lt_range
theorem wT{b i:Nat}:i∈gI b n↔i<n/\b.testBit i=v2:=by simp[gI]
def pb:Option Nat->Int
 |some i=>(i:Int)
 |none=>-1
def kW(b n:Nat)(v:Int):Int:=pb ((X9 n).find? (λi:Nat=>decide (v<(i:Int))&&b.testBit i))
theorem BW:∀{l:List Nat}{k x:Nat},l.Pairwise (·< ·)->l[k]?=σ x->l.filter (λi=>decide (x<i))=l.drop (k+1)
 |y::l,0,x,h,hk=>by
  simp at hk;subst hk;rw[List.pairwise_cons]at h;simp only[List.drop_succ_cons,List.drop_zero];rw[List.filter_cons_of_neg Ξ,List.filter_eq_self.2 λa e=>by simpa using h.1 a e]
 |y::l,k+1,x,h,hk=>by
  simp only[List.getElem?_cons_succ]at hk;rw[List.pairwise_cons]at h;have:y<x:=h.1 x (x7 hk);rw[List.filter_cons_of_neg Θ,List.drop_succ_cons];exact BW h.2 hk
theorem BX(b n:Nat)(v:Int):kW b n v=pb (((gI b n).filter (λi:Nat=>decide (v<i))).head?):=by
 unfold kW gI;rw[<-List.head?_filter,List.filter_filter]
theorem LJ(b n:Nat):kW b n (-1)=pb ((gI b n)[0]?):=by
 rw[BX,List.filter_eq_self.2 (λa _=>Θ),List.head?_eq_getElem?]
theorem BY{b k x:Nat}(h:(gI b n)[k]?=σ x):kW b n x=pb ((gI b n)[k+1]?):=by
 have e:(λi:Nat=>decide ((x:Int)<i))=λi=>decide (x<i):=by funext i;simp
 rw[BX,e,BW (BV b n) h,List.head?_eq_getElem?,R3]
theorem LK{b:Nat}{v:Int}(h:(n:Int)-1<=v):kW b n v= -1:=by
 unfold kW;rw[List.find?_eq_none.2 λi hi=>by simp at hi ⊢;omega];rfl
theorem LL{b k m s:Nat}(y:n<=64)(f:b<2 ^ n)(e:∀i,r.testBit i=(decide (s<=i)&&b.testBit i))(hk:r=2 ^ k*(2*m+1)){v:Int}(z:v+1=s):kW b n v=k:=by
 have p:r.testBit k=v2:=by rw[hk,wS];simp
 have q:∀i,i<k->r.testBit i=v6:=λi hi=>by rw[hk,wS];simp[show i≠k by omega,show¬k<i by omega]
 have a:=p;rw[e]at a;simp at a;have w:k<n:=by
  rcases Nat.lt_or_ge k n with h|h
  .exact h
  .rw[BU f h]at a;cases a.2
 unfold kW;have:(X9 n).find? (λi:Nat=>decide (v<(i:Int))&&b.testBit i)=σ k:=by
  rw[List.find?_range_eq_some];refine⟨by simp[a.2];omega,by simpa using w,λj x=>?_⟩;have:=q j x;rw[e]at this;simp only[Bool.not_eq_true',Bool.and_eq_false_iff,decide_eq_false_iff_not]at this ⊢;rcases this with h|h
  .exact .inl Ω
  .exact .inr h
 rw[this];rfl
theorem LM{b s:Nat}(a:∀i,r.testBit i=(decide (s<=i)&&b.testBit i))(hk:r=0){v:Int}(e:v+1=s):kW b n v= -1:=by
 unfold kW;rw[List.find?_eq_none.2]
 .rfl
 .intro i hi;have:=a i;rw[hk,Nat.zero_testBit]at this;simp at hi this ⊢;intro h;exact this Ω
section
variable{P:V3}{w:x5}{t:o5}{cx cy:Bool}{a b:Nat}{K:x4->Prop}
theorem nU(a:Nat):T8 64 (a:Int)=BitVec.ofNat 64 a:=BitVec.ofInt_natCast _ _
theorem BZ(x:BitVec 64):T7.wrap (x.toNat:Int)=(x.toNat:Int):=by
 have:=x.isLt;rw[m2 Ω Ω]
theorem u64_and(f:a<2 ^ 64)(h:b<2 ^ 64):ab P (aO .and t cx cy (.int .u64 a) (.int .u64 b)) w K=K (.int .u64 ((a &&& b:Nat):Int)):=ab.of λI _=>by
 have e:(T8 64 (a:Int) &&& T8 64 (b:Int)).toNat=a &&& b:=by
  rw[nU,nU,BitVec.toNat_and,BitVec.toNat_ofNat,BitVec.toNat_ofNat,Nat.mod_eq_of_lt f,Nat.mod_eq_of_lt h]
 have hw:T7.wrap ((a &&& b:Nat):Int)=((a &&& b:Nat):Int):=by rw[<-e];exact BZ _
 have j:(T8 T7.bits (a:Int) &&& T8 T7.bits (b:Int)).toNat=a &&& b:=e;simp only[aO,eqGuard,binOp,Op.intBits,j,hw];rfl
theorem B1:ab P (aO .andNot t cx cy (.int .u64 a) (.int .u64 b)) w K=K (.int .u64 (kV a b:Int)):=ab.of λI _=>by
 have e:(T8 64 (a:Int) &&& ~~~T8 64 (b:Int)).toNat=kV a b:=by rw[nU,nU];rfl
 have hw:T7.wrap (kV a b:Int)=(kV a b:Int):=BZ _;have f:(T8 T7.bits (a:Int) &&& ~~~T8 T7.bits (b:Int)).toNat=kV a b:=e;simp only[aO,eqGuard,binOp,Op.intBits,f,hw];rfl
theorem mj{k:j0}(f:n<64):ab P (aO .shr t cx cy (.int .u64 (a:Int)) (.int k (n:Int))) w K=K (.int .u64 ((a / 2 ^ n:Nat):Int)):=ab.of λI _=>by
 have e:(a:Int).fdiv (2 ^ min n T7.bits)=((a / 2 ^ n:Nat):Int):=by
  have:min n T7.bits=n:=Nat.min_eq_left (by show n<=64;omega);rw[this,Int.fdiv_eq_ediv_of_nonneg _ (by exact Int.le_of_lt (Int.pow_pos Ω))];simp
 simp only[aO,eqGuard,binOp,Op.shift,u9,e];simp[show¬(n:Int)<0 by omega]
theorem wU{k:j0}(a:n<64):ab P (aO .shl t cx cy (.int .u64 1) (.int k (n:Int))) w K=K (.int .u64 ((2 ^ n:Nat):Int)):=by
 rw[AY Ω];have e:min ((n:Int).toNat) T7.bits=n:=Nat.min_eq_left (by show n<=64;omega);have f:2 ^ n<2 ^ 64:=Nat.pow_lt_pow_right Ω a;rw[e,Int.one_mul,show((2:Int) ^ n)=((2 ^ n:Nat):Int) by simp];generalize 2 ^ n=q at f ⊢;rw[m2 Ω Ω]
end
def tE:Λ:=[0,1,56,2,57,49,28,3,61,58,42,50,38,29,17,4,62,47,59,36,45,43,51,22,53,39,33,30,24,18,12,5,63,55,48,27,60,41,37,16,46,35,44,21,52,32,23,11,54,26,40,15,34,20,31,10,25,14,19,9,13,8,7,6]
def Laid(w:x5):Prop:=w.rangeAt 0 0 (ints .u8 tE)
theorem Laid.W(h:Laid w)(a:Ext w I):Laid I:=oR a h
theorem LN:∀k:Nat,k<64->tE[(2 ^ k*285870213051353865 % 2 ^ 64) / 2 ^ 58]?=σ (k:Int):=Φ
theorem LO{x k m:Nat}(f:Laid w)(j:x=2 ^ k*(2*m+1))(p:x<2 ^ 64):
  al v8 I9 [.int .u64 (x:Int)] w λv I=>v=Δ (k:Int)/\Ext w I:=by
 have z:=Nat.two_pow_pos k;have A:2 ^ k<=x:=by
  have:2 ^ k*1<=2 ^ k*(2*m+1):=Nat.mul_le_mul_left _ Ω;omega
 have hk:k<64:=by
  rcases Nat.lt_or_ge k 64 with h|h
  .exact h
  .have:2 ^ 64<=2 ^ k:=S5 Ω h;omega
 refine aB func156 ?_;simp only[bm,am];refine⟨λh=>Ω,λ_=>?_⟩;rw[nc];have q:T7.wrap (0-(x:Int))=((2 ^ 64-x:Nat):Int):=by
  simp only[j0.wrap,j0.bits,j0.signed];simp;omega
 rw[q,u64_and p Ω,j,LG Ω];simp only[fz];have r:T7.wrap (((2 ^ k:Nat):Int)*285870213051353865)=((2 ^ k*285870213051353865 % 2 ^ 64:Nat):Int):=by
  have e:((2 ^ k:Nat):Int)*285870213051353865=((2 ^ k*285870213051353865:Nat):Int):=Ξ
  rw[e];simp only[j0.wrap,j0.bits,j0.signed];simp
 have s:(58:Int)=((58:Nat):Int):=rfl;rw[r,s,mj Ω];have a:=LN k hk;have y:=(x6.1 a).1;rw[wC wy.u cN.i y,aE Ψ (by rw[T0];exact f _ _ (mc a)),fA cN.u ai.u,m1 Ω Ω];exact⟨rfl,Ext.refl _⟩
def jZ(b n:Nat):x4:=.agg #[.int .u64 (b:Int),Δ (n:Int)]
def ml(b n:Nat):Prop:=n<=32/\b<2 ^ n
theorem B2(s i:Nat):(2 ^ s-1).testBit i=decide (i<s):=Nat.testBit_two_pow_sub_one s i
theorem B3{b:Nat}{v:Int}:al v8 IU [jZ b n,Δ v] w λr I=>r= .bool (decide (0<=v/\v<n))/\Ext w I:=by
 refine aB func138 ?_;refine bp λg U f a e=>?_;simp only[cC,cP,am];refine⟨λh=>?_,λh=>⟨?_,a⟩⟩
 .rw[aL b5.p 1 e rfl];simp only[aS];exact⟨by simp[h],a⟩
 .rw[s2];omega
theorem wV{b:Nat}:al v8 If [jZ b n] w λr I=>r=Δ n/\Ext w I:=by
 refine aB func68 ?_;refine bp λg U f a e=>?_;rw[aL b5.p 1 e rfl];exact⟨rfl,a⟩
theorem LP{n:Int}:al v8 Ic [Δ n] w λr I=>Ext w I/\r=(if 1<=n/\n<=32 then .tuple #[jZ (2 ^ n.toNat-1) n.toNat,Δ 0]else .tuple #[jZ 0 0,Δ 1]):=by
 refine aB func66 ?_;refine bF b5.i λg U z f j=>?_;refine aZ (λv aa=>v= .bool (decide (¬(1<=n/\n<=32)))/\U=aa) ?_ ?_
 .rintro _ _ ⟨rfl,rfl⟩;simp only[am];refine⟨λh=>?_,λh=>?_⟩
  .rw[dm (cs:=#[.int .u64 0,Δ 0]) Ψ];refine b6 (vs:=[.int .u64 0,Δ 0]) b5.i rfl rfl (by intro u hu;simp at hu;rcases hu with rfl|rfl<;>rfl) j λs a x e=>?_;rw[fi b5.p b5.i rfl e.range,rc h];exact⟨f.then a (by rintro r y rfl;omega),rfl⟩
  .have h:1<=n/\n<=32:=X5.1 h;obtain⟨m,rfl⟩:∃m:Nat,n=m:=⟨n.toNat,Ω⟩;rw[wU Ω];have ac:=Nat.two_pow_pos m;have A:2 ^ m<=2 ^ 32:=S5 Ω Ω;simp only[dx];rw[m2 Ω Ω,show(((2 ^ m:Nat):Int)-1)=((2 ^ m-1:Nat):Int) by omega];rw[dm (cs:=#[.int .u64 ((2 ^ m-1:Nat):Int),Δ m]) Ψ];refine b6 (vs:=[.int .u64 ((2 ^ m-1:Nat):Int),Δ m]) b5.i rfl rfl (by intro u hu;simp at hu;rcases hu with rfl|rfl<;>rfl) j λs a x e=>?_;rw[fi b5.p b5.i rfl e.range,ms h];exact⟨f.then a (by rintro r y rfl;omega),rfl⟩
 .intro ax q;simp only[aS,bU,am];refine⟨λh=>q _ _ ⟨?_,rfl⟩,λh=>q _ _ ⟨?_,rfl⟩⟩
  .rw[rs];omega
  .congr 1;simp;omega
theorem B4{b:Nat}{v:Int}(y:ml b n)(z:Laid w)(G: -1<=v):al v8 Is [jZ b n,Δ v] w λr I=>r=Δ (kW b n v)/\Ext w I:=by
 obtain⟨H,e⟩:=y;have f:b<2 ^ 64:=S4 e (S5 Ω Ω);refine aB func84 ?_;refine bp λg U K a j=>?_;rw[aL b5.p 1 j rfl];simp only[dx,cP,am];rw[m1 Ω Ω];refine⟨λh=>⟨by rw[LK h],a⟩,λL=>?_⟩;rw[aL b5.p 0 j rfl];refine aZ (λu aa=>U=aa/\∃r s:Nat,u= .int .u64 (r:Int)/\r<2 ^ 64/\v+1=s/\∀i,r.testBit i=(decide (s<=i)&&b.testBit i)) ?_ ?_
 .rintro _ _ ⟨rfl,r,s,rfl,A,J,q⟩;simp only[bm,am];refine⟨λB=>⟨by rw[LM q Ω J],a⟩,λB=>?_⟩;obtain⟨k,m,hk⟩:=LF r Ω;refine(LO (z.W a) hk A).Y ?_;rintro _ M _ ⟨rfl,C⟩;exact⟨by rw[LL Ω e q hk J],a.F C⟩
 .intro ax x;refine⟨λh=>?_,λh=>?_⟩
  .obtain⟨s,rfl⟩:∃s:Nat,v=s:=⟨v.toNat,Ω⟩;have ac:0<2 ^ (s+1):=Nat.two_pow_pos _;have N:2 ^ (s+1)<=2 ^ 32:=S5 Ω Ω;simp only[aP];rw[m1 Ω Ω,show((s:Int)+1)=((s+1:Nat):Int) by omega,wU Ω];simp only[dx];rw[m2 Ω Ω,show(((2 ^ (s+1):Nat):Int)-1)=((2 ^ (s+1)-1:Nat):Int) by omega,B1];refine x _ _ ⟨rfl,_,s+1,rfl,LH _ _,Ω,λi=>?_⟩;rw[BT,B2];by_cases E:i<64
   .by_cases hi:s+1<=i
    .simp[E,hi,show¬i<s+1 by omega]
    .simp[hi,show i<s+1 by omega]
   .rw[BU f Ω];simp
  .exact x _ _ ⟨rfl,b,0,rfl,f,Ω,λi=>Ξ⟩
theorem LQ{b:Nat}(e:ml b n)(f:Laid w):al v8 Ir [jZ b n] w λr I=>r=Δ (kW b n (-1))/\Ext w I:=by
 refine aB func83 ?_;refine bp λg U q a h=>?_;rw[bC b5.p b5.i rfl h.range];refine(B4 e (f.W a) Ω).Y ?_;rintro _ aa _ ⟨rfl,j⟩;exact⟨rfl,a.F j⟩
theorem LR{b:Nat}{v:Int}(H:ml b n):al v8 Ig [jZ b n,Δ v] w λr I=>r=jZ (if 0<=v/\v<n then kV b (2 ^ v.toNat)else b) n/\Ext w I:=by
 refine aB func69 ?_;refine bp λg U R x y=>?_;refine bF b5.i λJ aa S z A=>?_;have s1:=x.size;have W:=y.lt;refine c7 (λe=>∃f,ag e g b5 [.int .u64 ((f:Nat):Int),Δ (n:Int)]/\ag e J b5 [.int .u64 0,Δ 0]/\Ext w e/\f=(if 0<=v/\v<n then kV b (2 ^ v.toNat)else b)) ?_ ?_
 .rintro e ⟨f,K,L,M,rfl⟩;rw[bC b5.p b5.i rfl K.range];refine b6 (vs:=[_,_]) b5.i rfl rfl (by intro u hu;simp at hu;rcases hu with rfl|rfl<;>rfl) L λX N Y O=>?_;rw[fi b5.p b5.i rfl O.range];exact⟨rfl,M.then N (by rintro r P rfl;omega)⟩
 .intro ax B;have j:=y.W z;rw[bC b5.p b5.i rfl j.range];refine B3.Y ?_;rintro _ Z _ ⟨rfl,a⟩;have C:=(x.F z).F a;simp only[am,ei];refine⟨λh ab q _ _=>?_,λh=>B _ ⟨b,j.W a,A.W a,C,by rw[rc h]⟩⟩;have E:=(j.W a).W q;rw[aL b5.p 0 E rfl];obtain⟨s,rfl⟩:∃s:Nat,v=s:=⟨v.toNat,Ω⟩;have ac:=H.1;rw[wU Ω,B1,aU b5.p rfl];refine bt fK.i rfl rfl E (by simp[jZ,x4.cells]) λad G ae Q=>?_;refine B _ ⟨_,Q,((A.W a).W q).V G Ω,(C.F q).then G (by rintro r P rfl;omega),?_⟩;rw[ms h,u9]
def qc(v:Int):Nat:=if v<0 then 0 else 40-v.toNat
theorem wW(x:Nat):qc x=40-x:=by unfold qc;rw[rc Ω];omega
theorem nV{b g:Nat}(e:ml b n):
  pT v8 kl [Γ g] (gI b n).length (λk vs _=>∃v:Nat,(gI b n)[k]?=σ v/\vs=[Δ (v:Int)])
   (λw=>ag w g b5 [.int .u64 (b:Int),Δ (n:Int)]/\Laid w):=by
 refine⟨kl.enters,λl ax P w r _ E ⟨s,z⟩ G=>?_⟩;have Q:=e.1;refine q8 func82 ?_;rw[bC b5.p b5.i rfl s.range];refine(LQ e z).free.Y ?_;rintro _ U ⟨H,rfl,f⟩;refine⟨λv aa=>∃k,k<=(gI b n).length/\v=Δ (pb (gI b n)[k]?)/\ax k aa/\ag aa g b5 [.int .u64 (b:Int),Δ (n:Int)]/\Laid aa,
  λv _=>qc (bX v),⟨0,W0 _,by rw[LJ],r 0 _ _ f H.b G,s.W f,z.W f⟩,?_⟩
 rintro _ aa ⟨k,hk,rfl,A,I,J⟩;cases a:(gI b n)[k]? with
 |none=>
  have:k=(gI b n).length:=by
   have:=List.getElem?_eq_none_iff.1 a;omega
  subst this;simp only[pb,cP,am];exact⟨λh=>Ω,λ_=>.inl A⟩
 |some x=>
  have j:=(x6.1 a).1;have R:=(wT.1 (x7 a)).1;simp only[pb,cP,am];refine⟨λ_=>?_,λh=>Ω⟩;refine⟨rfl,(E k _ aa j ⟨I,J⟩ ⟨x,a,rfl⟩ A).Y ?_⟩;rintro _ S (⟨rfl,⟨B,C⟩,K⟩|⟨rfl,L⟩)
  .simp only[bM,X3,a6];rw[bC b5.p b5.i rfl B.range];refine(B4 e C Ω).free.Y ?_;rintro _ V ⟨M,rfl,q⟩;refine⟨⟨k+1,j,congrArg (U3 .i64) (BY a),r _ _ _ q M.b K.1,B.W q,C.W q⟩,?_⟩;rw[BY a];cases N:(gI b n)[k+1]? with
   |none=>show 0<qc x;rw[wW];omega
   |some y=>
    have W:x<y:=by
     have h1:=(x6.1 a).2;have O:=(x6.1 N).2;rw[<-h1,<-O];exact U5.1 (BV b n) k (k+1) _ _ Ω
    show qc y<qc x;rw[wW,wW];omega
  .simp only[bM,W6,bQ];exact .inr ⟨k,j,L⟩
theorem nW{b:Nat}:al v8 Ap [jZ b n] w λr I=>Ext w I/\∃g,r= .func (.func kl) #[] #[Γ g]/\w.heap.size<=g/\ag I g b5 [.int .u64 (b:Int),Δ (n:Int)]:=by
 refine aB func35 ?_;refine bp λg U f a e=>?_;rw[mb];exact⟨a,g,rfl,Ω,e⟩
abbrev dP(s:Λ):Prop:=∀x∈s,1<=x/\x<=32
theorem dP.tail{s:Λ}(h:dP (k::s)):dP s:=λx a=>h x (.tail _ a)
theorem nk{s:Λ}(h:dP s):1<=aQ s:=(me s h).1
theorem qd:∀(s t:Λ)(m:Int),cp s t m=(cp s t 0).map λn=>n+m*aQ s
 |[],[],m=>by simp[cp,aQ]
 |k::s,v::t,m=>by
  unfold cp;split
  .rw[qd s t (m*k+v),qd s t (0*k+v)];simp only[Option.map_map,aQ];congr 1;funext n;simp only[Function.comp];rw[Int.add_mul,Int.add_mul,<-Int.mul_assoc];simp;omega
  .rfl
 |[],_::_,_=>rfl
 |_::_,[],_=>rfl
theorem wX{L j:Nat}{rest:List (Λ)}(p:rest.length=L):∀{kn v:Nat},v<kn->∀{x:Λ},rest[j]?=σ x->
  ((X9 kn).flatMap λ(v:Nat)=>rest.map λt=>(v:Int)::t)[v*L+j]?=σ ((v:Int)::x)
 |0,v,h,_,_=>Ω
 |kn+1,v,h,x,e=>by
  have q:=(x6.1 e).1;have f:((X9 kn).flatMap λ(v:Nat)=>rest.map λt=>(v:Int)::t).length=kn*L:=by
   simp only[List.length_flatMap,r8,p];rw[List.map_const',List.length_range,List.sum_replicate_nat]
  rw[List.range_succ,List.flatMap_append];by_cases a:v<kn
  .have:(v+1)*L<=kn*L:=X4 _ a;rw[U6]at this;rw[Y4 (by rw[f];omega)];exact wX p a e
  .have a:v=kn:=Ω
   subst a;rw[Z7 (by rw[f];omega),f,show v*L+j-v*L=j by omega];simp[e]
theorem kw:∀{s:Λ},dP s->∀{i:Nat}{t:Λ},(bo s)[i]?=σ t->cp s t 0=σ (i:Int)
 |[],_,i,t,h=>by
  cases i with
  |zero=>simp[bo]at h;subst h;rfl
  |succ i=>simp[bo]at h
 |k::s,J,i,t,h=>by
  have hk:=J k (.head _);have a:=ks J.tail;have ac:=nk J.tail;obtain⟨kn,rfl⟩:∃kn:Nat,k=kn:=⟨k.toNat,Ω⟩;have hi:=(x6.1 h).1;rw[ks J,aQ,Int.toNat_mul Ω Ω,<-a,u9]at hi;have p:0<(bo s).length:=Ω
  have e:i / (bo s).length<kn:=Nat.div_lt_of_lt_mul (by rw[Nat.mul_comm];exact hi);have q:i % (bo s).length<(bo s).length:=Nat.mod_lt _ p;obtain⟨x,f⟩:∃x,(bo s)[i % (bo s).length]?=σ x:=⟨_,x8 q⟩;have j:=wX rfl e f;rw[Nat.mul_comm,Nat.div_add_mod]at j;have aW:((X9 ((kn:Int).toNat)).flatMap λ(v:Nat)=>(bo s).map λt=>(v:Int)::t)[i]?=σ t:=h;rw[u9,j]at aW;cases aW;unfold cp;rw[ms ⟨Int.natCast_nonneg _,Int.ofNat_lt.2 e⟩,qd,kw J.tail f];simp only[Y3,X7,Int.zero_mul,Int.zero_add];have r:aQ s=((bo s).length:Int):=by rw[a];omega
  rw[r,<-Int.natCast_mul,<-Int.natCast_add];congr 1;rw[Nat.mul_comm,Nat.add_comm,Nat.div_add_mod]
theorem nX:∀{s:Λ},dP s->∀{t:Λ}{n:Int},cp s t 0=σ n->(bo s)[n.toNat]?=σ t
 |[],_,[],n,h=>by simp[cp]at h;subst h;rfl
 |k::s,J,v::t,n,h=>by
  have hk:=J k (.head _);have j:=ks J.tail;have ac:=nk J.tail;obtain⟨kn,rfl⟩:∃kn:Nat,k=kn:=⟨k.toNat,Ω⟩;unfold cp at h;split at h
  .rename_i w;rw[qd]at h;cases f:cp s t 0 with
   |none=>rw[f]at h;cases h
   |some q=>
    rw[f]at h;simp only[Y3,X7,Int.zero_mul,Int.zero_add]at h;have p:=mf J.tail f;simp only[Int.zero_mul,Int.zero_add,Int.one_mul]at p;obtain⟨a,rfl⟩:∃a:Nat,v=a:=⟨v.toNat,Ω⟩;have r:=wX (kn:=kn) (v:=a) rfl Ω (nX J.tail f);have e:n.toNat=a*(bo s).length+q.toNat:=by
     rw[<-h,j];have:((a*(aQ s).toNat:Nat):Int)=(a:Int)*aQ s:=by rw[Int.natCast_mul,Int.toNat_of_nonneg Ω]
     omega
    rw[e];show((X9 ((kn:Int).toNat)).flatMap λ(v:Nat)=>(bo s).map λt=>(v:Int)::t)[_]?=_;rw[u9];exact r
  .cases h
 |[],_,_::_,_,h=>by cases h
 |_::_,_,[],_,h=>by cases h
theorem B5:∀(s:Λ),dP s->∀(n c:Int),dn s (n+c*aQ s)=dn s n
 |[],_,_,_=>rfl
 |k::s,J,n,c=>by
  have ac:=nk J.tail;simp only[dn,aQ];rw[<-Int.mul_assoc,B5 s J.tail,Int.add_mul_ediv_right _ _ Ω,Int.add_mul_emod_self_right]
theorem tF:∀{s:Λ},dP s->∀{n:Int},0<=n->n<aQ s->cp s (dn s n) 0=σ n
 |[],_,n,a,h1=>by simp[aQ]at h1;simp[dn,cp];omega
 |k::s,J,n,a,h1=>by
  have hk:=J k (.head _);have ac:=nk J.tail;simp only[dn,aQ]at h1 ⊢;have f:=Int.ediv_lt_of_lt_mul Ω h1;have h:0<=n / aQ s:=Int.ediv_nonneg a Ω;have hm:n / aQ s % k=n / aQ s:=Int.emod_eq_of_lt h f;rw[hm];unfold cp;rw[ms ⟨h,f⟩,qd];have e:dn s n=dn s (n % aQ s):=by
   have:=B5 s J.tail (n % aQ s) (n / aQ s);rw[<-this];congr 1;have:=Int.emod_add_mul_ediv n (aQ s);rw[Int.mul_comm (n / aQ s)];omega
  rw[e,tF J.tail (Int.emod_nonneg _ Ω) (Int.emod_lt_of_pos _ Ω)];simp only[Y3,X7,Int.zero_mul,Int.zero_add];have:=Int.emod_add_mul_ediv n (aQ s);rw[Int.mul_comm (n / aQ s)];omega
theorem rq{s:Λ}(J:dP s){i:Nat}(h:(i:Int)<aQ s):(bo s)[i]?=σ (dn s i):=by
 have:=nX J (tF J Ω h);simpa using this
def br(s cs t:Λ):Int:=match cp s t 0 with
 |some n=>cs.getD n.toNat 0
 |none=>0
def upto{α:Type}(l:List α)(d:α)(i:Nat):List α:=l.take i++o6 (l.length-i) d
theorem pc{α:Type}(l:List α)(d:α)(i:Nat):(upto l d i).length=l.length:=by simp[upto];omega
theorem qe{α:Type}(l:List α)(d:α):upto l d 0=o6 l.length d:=by simp[upto]
theorem qf{α:Type}(l:List α)(d:α):upto l d l.length=l:=by simp[upto]
theorem qg{α:Type}{l:List α}{d x:α}{i:Nat}(h:l[i]?=σ x):(upto l d i).set i x=upto l d (i+1):=by
 have hi:=(x6.1 h).1;unfold upto;rw[T4 _ _ Θ,r9,h];have e:i-(l.take i).length=0:=Θ
 obtain⟨m,hm⟩:∃m,l.length-i=m+1:=⟨l.length-i-1,Ω⟩;rw[e,hm,show l.length-(i+1)=m by omega];simp[List.replicate_succ]
theorem rr{α:Type}{l:List α}{i:Nat}{x:α}(h:l[i]?=σ x):l.set i x=l:=by
 apply X0;intro j;rw[Y7];split
 .rename_i a;subst a;rw[ms (x6.1 h).1,h]
 .rfl
def wY:Λ->Int
 |[]=>0
 |x::l=>l.foldl min x
def B6(P:Int->Prop)(m:Int):Prop:=P m/\∀x,P x->m<=x
def dv(s t:Λ):Prop:=∃n,cp s t 0=σ n
theorem LS(k v:Int)(s t:Λ):cp (k::s) (v::t) 0=if 0<=v/\v<k then(cp s t 0).map (λn=>n+(0*k+v)*aQ s)else ν:=by
 conv=>lhs;unfold cp
 rw[qd]
theorem B7{v:Int}{s t:Λ}:dv (k::s) (v::t)↔(0<=v/\v<k)/\dv s t:=by
 unfold dv;rw[LS];constructor
 .rintro⟨n,h⟩;split at h
  .rename_i a;cases e:cp s t 0 with
   |none=>rw[e]at h;cases h
   |some q=>exact⟨a,q,rfl⟩
  .cases h
 .rintro⟨a,q,e⟩;rw[ms a,e];exact⟨_,rfl⟩
theorem B8{t:Λ}:dv [] t↔t=[]:=by
 cases t with
 |nil=>exact⟨λ_=>rfl,λ_=>⟨0,rfl⟩⟩
 |cons v t=>
  constructor
  .rintro⟨_,h⟩;cases h
  .intro h;cases h
theorem tG{s t:Λ}(h:dv s t):s.length=t.length:=by
 obtain⟨n,h⟩:=h;rcases Nat.decEq s.length t.length with a|a
 .rw[wF s t 0 a]at h;cases h
 .exact a
theorem B9{s t:Λ}(J:dP s){n:Int}(h:cp s t 0=σ n):dn s n=t:=by
 have f:=mf J h;have h1:=nX J h;simp only[Int.zero_mul,Int.zero_add,Int.one_mul]at f;have a:=rq J (i:=n.toNat) Ω;rw[h1]at a;have e:((n.toNat:Nat):Int)=n:=Ω
 rw[e]at a;exact(Z4 a).symm
theorem tH{s cs:Λ}(J:dP s)(a:cs.length=(aQ s).toNat):cs=(X9 (aQ s).toNat).map λ(q:Nat)=>br s cs (dn s q):=by
 apply List.ext_getElem
 .simp[a]
 .intro i h1 e;rw[List.getElem_map,List.getElem_range];have ac:=nk J;have hi:(i:Int)<aQ s:=Ω
  unfold br;rw[tF J Ω hi];simp only[u9];rw[u5,x8 h1];rfl
theorem wZ{s:Λ}(J:dP s){q:Nat}(a:q<(aQ s).toNat):dv s (dn s q):=⟨_,tF J Ω (by have:=nk J;omega)⟩
theorem LU{s cs:Λ}(J:dP s)(e:cs.length=(aQ s).toNat)(f:a.length=(aQ s).toNat)(h:∀t,dv s t->br s cs t=br s a t):cs=a:=by
 rw[tH J e,tH J f];apply List.map_congr_left;intro q j;exact h _ (wZ J (by simpa using j))
theorem LV(h:l≠[]):B6 (λc=>c∈l) (wY l):=by
 obtain⟨x,r,rfl⟩:∃v r,l=v::r:=by cases l with
  |nil=>exact ro rfl h
  |cons v r=>exact⟨v,r,rfl⟩
 clear h;show B6 (λc=>c∈x::r) (r.foldl min x);induction r generalizing x with
 |nil=>exact⟨.head _,λy f=>by simp at f;simp[f]⟩
 |cons y r j=>
  rw[V5];obtain⟨h1,e⟩:=j (min x y);refine⟨?_,λz a=>?_⟩
  .rcases V7.1 h1 with h1|h1
   .rw[h1];rcases Int.le_total x y with h|h
    .rw[Int.min_eq_left h];exact .head _
    .rw[Int.min_eq_right h];exact .tail _ (.head _)
   .exact .tail _ (.tail _ h1)
  .rcases V7.1 a with rfl|a
   .have:=e _ (.head _);omega
   .rcases V7.1 a with rfl|a
    .have:=e _ (.head _);omega
    .exact e _ (.tail _ a)
def qh(m:Λ)(i j:Nat):Prop:=∀(p q:Nat)(x y:Int),p<q->q<=i->q≠j->m[p]?=σ x->m[q]?=σ y->x<=y
def rt(m:Λ)(i:Nat):Prop:=∀(p q:Nat)(x y:Int),p<q->q<i->m[p]?=σ x->m[q]?=σ y->x<=y
theorem LW{m:Λ}{i:Nat}(h:rt m i):qh m i i:=λp q x y h1 f j a e=>h p q x y h1 Ω a e
theorem LX{m:Λ}{i:Nat}(h:qh m i 0):rt m (i+1):=λp q x y h1 f a e=>h p q x y h1 Ω Ω a e
theorem LY{m:Λ}{i:Nat}{a b:Int}(h:qh m i j)(A:0<j)(r:m[j-1]?=σ a)(w:m[j]?=σ b)(z:a<=b):rt m (i+1):=by
 intro p q x y h1 B e f;by_cases s:q=j
 .subst s;rw[w]at f;cases f;by_cases ac:p=q-1
  .subst ac;rw[r]at e;cases e;exact z
  .have:=h p (q-1) x a Ω Ω Ω e r;omega
 .exact h p q x y h1 Ω s e f
theorem LZ{m:Λ}{i:Nat}{a b:Int}(h:qh m i j)(H:0<j)(hi:j<=i)(z:m[j-1]?=σ a)(A:m[j]?=σ b)(I:b<a):qh ((m.set j a).set (j-1) b) i (j-1):=by
 intro p q x y h1 w B e f;have C:=(x6.1 A).1;have E:∀(r:Nat),((m.set j a).set (j-1) b)[r]?=if r=j-1 then σ b else if r=j then σ a else m[r]?:=λr=>by
  by_cases h:r=j-1
  .subst h;rw[n9 Θ,ms rfl]
  .rw[Z6 (R7 h),rc h];by_cases aW:r=j
   .subst aW;rw[n9 C,ms rfl]
   .rw[Z6 (R7 aW),rc aW]
 rw[E]at e f;rw[rc B]at f;by_cases s:q=j
 .rw[ms s]at f;cases f;split at e
  .cases e;omega
  .split at e
   .omega
   .exact h p (j-1) x a Ω Ω Ω e z
 .rw[rc s]at f;split at e
  .cases e;have:=h j q b y;by_cases F:j<q
   .exact this F w s A f
   .omega
  .split at e
   .rename_i G;subst G;cases e;exact h (p-1) q a y Ω w s z f
   .exact h p q x y h1 w s e f
theorem swap_perm{m:Λ}{i:Nat}{a b:Int}(q:i<j)(h:m[i]?=σ a)(f:m[j]?=σ b):((m.set j a).set i b).Perm m:=by
 induction m generalizing i j with
 |nil=>simp at h
 |cons x m p=>
  cases j with
  |zero=>omega
  |succ j=>
   cases i with
   |zero=>
    simp at h f ⊢;subst h;obtain⟨r,f⟩:=x6.1 f;rw[show m=m.take j++m[j]::m.drop (j+1) by simp];rw[T4 _ _ Θ];have e:j-(m.take j).length=0:=Θ
    rw[e,f];simp only[List.set_cons_zero];refine(List.Perm.cons b (List.perm_middle)).F ?_;refine(List.Perm.swap x b _).F ?_;exact List.Perm.cons x List.perm_middle.symm
   |succ i=>
    simp at h f ⊢;exact p Ω h f
theorem L0{m:Λ}(h:rt m m.length):m.Pairwise (·<= ·):=by
 rw[U5];intro i j hi a e;exact h i j _ _ e a (x8 hi) (x8 a)
def Good(o:Λ)(n:Nat):Prop:=o.length=n/\∀(i:Nat)(p:Int),o[i]?=σ p->(0<=p/\p<n)/\∀j,j<i->o[j]? ≠σ p
theorem Good.inj{o:Λ}{i:Nat}{p:Int}(h:Good o n)(hi:o[i]?=σ p)(a:o[j]?=σ p):i=j:=by
 rcases Nat.lt_trichotomy i j with h1|h1|h1
 .exact ro hi ((h.2 j p a).2 i h1)
 .exact h1
 .exact ro a ((h.2 i p hi).2 j h1)
def Ca(m:Λ):Prop:=∀i:Nat,i<m.length->m[i]?=σ (i:Int)
theorem Cb{o m:Λ}(h:Good o n)(ac:m.Perm o)(J:m.Pairwise (·<= ·)):Ca m:=by
 have r:o.Nodup:=U5.2 λi j hi s B he=>by
  have:=h.inj (i:=i) (j:=j) (p:=o[j]) (by rw[x8 hi,he]) (x8 s);omega
 have w:=ac.nodup_iff.2 r;have C:m.length=n:=by rw[ac.length_eq,h.1]
 have f:∀x∈m,0<=x/\x<(n:Int):=λx y=>by
  obtain⟨i,hi,he⟩:=List.getElem_of_mem (ac.mem_iff.1 y);exact(h.2 i x (by rw[x8 hi,he])).1
 have q:∀(i:Nat)(hi:i+1<m.length),m[i]<m[i+1]:=λi hi=>by
  have h1:=U5.1 J i (i+1) Ω hi Ω;have a:=U5.1 w i (i+1) Ω hi Ω;omega
 have z:∀(i:Nat)(hi:i<m.length),(i:Int)<=m[i]:=by
  intro i;induction i with
  |zero=>intro hi;exact(f _ (Q9 hi)).1
  |succ i e=>
   intro hi;have h1:=e Ω;have a:=q i hi;omega
 have A:∀(d i:Nat)(hi:i<m.length),i+d+1=m.length->m[i]<=(i:Int):=by
  intro d;induction d with
  |zero=>
   intro i hi he;have:=(f _ (Q9 hi)).2;omega
  |succ d e=>
   intro i hi he;have h1:=e (i+1) Ω Ω;have a:=q i Ω;omega
 intro i hi;rw[x8 hi];have h1:=z i hi;have a:=A (m.length-i-1) i hi Ω;congr 1;omega
theorem L1{o m:Λ}(h:Ca m)(ac:m.Perm o):Good o m.length:=by
 have r:m.Nodup:=U5.2 λi j hi a w he=>by
  have h1:=h i hi;have e:=h j a;rw[x8 hi]at h1;rw[x8 a]at e;have h1:=Z4 h1;have e:=Z4 e;omega
 have s:=ac.nodup_iff.1 r;refine⟨ac.length_eq.symm,λi p hi=>⟨?_,λj a f=>?_⟩⟩
 .obtain⟨k,hk,he⟩:=List.getElem_of_mem (ac.mem_iff.2 (x7 hi));have h1:=h k hk;rw[x8 hk,he]at h1;cases h1;omega
 .have q:=(x6.1 hi).1;have:=U5.1 s j i Ω q a;rw[x8 q]at hi;rw[x8 (show j<o.length by omega)]at f;exact this ((Z4 f).F (Z4 hi).symm)
theorem Good.Cc{o:Λ}{p:Nat}(h:Good o n)(ac:p<n):∃j:Nat,o[j]?=σ (p:Int):=by
 let le:Int->Int->Bool:=λa b=>decide (a<=b);have h1:(o.mergeSort le).Perm o:=List.mergeSort_perm o le;have e:(o.mergeSort le).Pairwise (·<= ·):=by
  refine(List.pairwise_mergeSort (λa b c h1 e=>?_) (λa b=>?_) o).imp λh=>by simpa[le]using h
  .simp[le]at*;omega
  .simp[le];omega
 have f:=Cb h h1 e p (by rw[h1.length_eq,h.1];exact ac);obtain⟨j,q,he⟩:=List.getElem_of_mem (h1.mem_iff.1 (x7 f));exact⟨j,by rw[x8 q,he]⟩
def nY(o x:Λ):Λ:=(X9 o.length).map λ(p:Nat)=>x.getD (o.idxOf (p:Int)) 0
theorem Cd(o x:Λ):(nY o x).length=o.length:=by simp[nY]
theorem Ce{o x:Λ}{p:Int}(h:Good o n)(q:x.length=n)(a:o[j]?=σ p):(nY o x)[p.toNat]?=x[j]?:=by
 have h1:=(h.2 j p a).1;have r:=(x6.1 a).1;have hm:=x7 a;have e:=List.idxOf_lt_length_of_mem hm;have f:=h.inj (by rw[x8 e,List.getElem_idxOf e]) a;have ac:((p.toNat:Nat):Int)=p:=Ω
 have s:=h.1;unfold nY;rw[u4,List.getElem?_range Ω];simp only[Y3,ac,f];rw[u5,x8 (show j<x.length by omega)];rfl
theorem Cf{o x y:Λ}(h:Good o n)(f:x.length=n)(r:y.length=n)(q:∀(j:Nat)(p:Int),o[j]?=σ p->y[p.toNat]?=x[j]?):y=nY o x:=by
 refine X0 λp=>?_;have s:=h.1;by_cases ac:p<n
 .obtain⟨j,a⟩:=h.Cc ac;have h1:=q j p a;have e:=Ce h f a;rw[u9]at h1 e;rw[h1,e]
 .rw[Y5 Ω,Y5 (by rw[Cd];omega)]
theorem pd:∀{s t:Λ},dv s t↔s.length=t.length/\∀(i:Nat)(a v:Int),s[i]?=σ a->t[i]?=σ v->0<=v/\v<a
 |[],t=>by
  rw[B8];exact⟨λh=>⟨by rw[h],λi a v h _=>by simp at h⟩,λh=>Z5 h.1.symm⟩
 |k::s,[]=>⟨λh=>ro (tG h) Ξ,λh=>ro h.1 Ξ⟩
 |k::s,v::t=>by
  rw[B7,pd];refine⟨λ⟨h1,f,j⟩=>⟨by simp[f],λi a u e hu=>?_⟩,λ⟨h1,f⟩=>⟨f 0 k v rfl rfl,by simpa using h1,λi a u e hu=>f (i+1) a u (by simpa using e) (by simpa using hu)⟩⟩;cases i with
  |zero=>simp at e hu;subst e;subst hu;exact h1
  |succ i=>exact j i a u (by simpa using e) (by simpa using hu)
def e2(s o:Λ):Λ:=o.map λp=>s.getD p.toNat 0
theorem tI(s o:Λ):(e2 s o).length=o.length:=by simp[e2]
theorem Cg{s o:Λ}{p:Int}(h:Good o n)(J:s.length=n)(a:o[j]?=σ p):(e2 s o)[j]?=s[p.toNat]?:=by
 have h1:=(h.2 j p a).1;unfold e2;rw[u4,a,Y3,u5,x8 (show p.toNat<s.length by omega)];rfl
theorem L2{s o:Λ}(h:Good o n)(J:s.length=n){x:Int}(a:x∈e2 s o):x∈s:=by
 obtain⟨p,ac,rfl⟩:=j5.1 a;obtain⟨j,e,he⟩:=List.getElem_of_mem ac;have h1:=(h.2 j p (by rw[x8 e,he])).1;rw[u5,x8 (show p.toNat<s.length by omega)];exact Q9 _
theorem cg.L3{s o:Λ}(a:cg s)(h:Good o n)(J:s.length=n):cg (e2 s o):=
 ⟨by rw[tI,h.1,<-J];exact a.1,λx e=>a.2 x (L2 h J e)⟩
theorem L4{s o x:Λ}(h:Good o n)(J:s.length=n)(w:dv (e2 s o) x):dv s (nY o x):=by
 obtain⟨h1,y⟩:=pd.1 w;rw[tI,h.1]at h1;refine pd.2 ⟨by rw[Cd,h.1,J],λp a v e z=>?_⟩;have ac:p<n:=by have:=(x6.1 e).1;omega
 obtain⟨j,f⟩:=h.Cc ac;have q:=Cg h J f;have r:=Ce h h1.symm f;rw[u9]at q r;exact y j a v (by rw[q,e]) (by rw[<-r,z])
def pe(s cs o:Λ):Λ:=(X9 (aQ (e2 s o)).toNat).map λ(q:Nat)=>br s cs (nY o (dn (e2 s o) q))
theorem Ch(s cs o:Λ):(pe s cs o).length=(aQ (e2 s o)).toNat:=by simp[pe]
theorem w1{f:Int->Bool}{x:Int}:runN f (x::l)=if f x=v2 then runN f l+1 else 0:=by
 unfold runN;rw[List.takeWhile_cons];by_cases h:f x=v2
 .rw[ms h,ms h,Y0]
 .rw[rc h,rc h];rfl
theorem w2(f:Int->Bool):∀l:Λ,l.dropWhile f=l.drop (runN f l)
 |[]=>rfl
 |x::l=>by
  rw[List.dropWhile_cons,w1];by_cases h:f x=v2
  .rw[ms h,ms h,w2 f l];rfl
  .rw[rc h,rc h];rfl
theorem Ci(f:Int->Bool):∀l:Λ,l.takeWhile f=l.take (runN f l)
 |[]=>rfl
 |x::l=>by
  rw[List.takeWhile_cons,w1];by_cases h:f x=v2
  .rw[ms h,ms h,List.take_succ_cons,Ci f l]
  .rw[rc h,rc h];rfl
theorem Cj{f:Int->Bool}:∀{l:Λ}{b:Int}{q:Λ},l.dropWhile f=b::q->f b=v6
 |x::l,b,q,h=>by
  rw[List.dropWhile_cons]at h;by_cases a:f x=v2
  .rw[ms a]at h;exact Cj h
  .rw[rc a]at h;have:=(List.cons.inj h).1;subst this;cases e:f x
   .rfl
   .exact ro e a
theorem w3{p:Λ}{a:Nat}{b:Int}{q:Λ}(h:p.drop a=b::q):p[a]?=σ b:=by
 have:=R3 (xs:=p) (i:=a) (j:=0);rw[h]at this;simpa using this.symm
theorem L5(p:Λ)(at_:Nat):match qb p at_ with
  | .word a b=>lex (p.drop at_)=(((p.take b).drop a)::(lex (p.drop b)).1,(lex (p.drop b)).2)
  | .none=>lex (p.drop at_)=([],v2)
  | .text _=>lex (p.drop at_)=([],v6):=by
 have j:(p.drop at_).dropWhile cH=p.drop (gH p at_):=by rw[w2,List.drop_drop];rfl
 have s:(p.drop (gH p at_)).dropWhile bV=p.drop (jY p (gH p at_)):=by rw[w2,List.drop_drop];rfl
 have y:(p.drop (gH p at_)).takeWhile bV=(p.take (jY p (gH p at_))).drop (gH p at_):=by
  rw[Ci,List.drop_take];congr 1;unfold jY;omega
 have h:runN bV (p.drop (gH p at_))=jY p (gH p at_)-gH p at_:=by unfold jY;omega
 have K:gH p at_<=jY p (gH p at_):=by unfold jY;omega
 unfold qb;generalize gH p at_=a at*;generalize jY p a=b at*;by_cases h1:b<p.length/\(∀c,p[b]?=σ c->cH c=v6)
 .rw[ms h1];simp only;rw[lD,j];cases e:p.drop a with
  |nil=>
   have:=List.drop_eq_nil_iff.1 e;omega
  |cons x q=>
   simp only;rw[e]at s y h;by_cases f:bV x=v2
   .rw[ms f,s];cases w:p.drop b with
    |nil=>have:=List.drop_eq_nil_iff.1 w;omega
    |cons c r=>
     simp only;rw[h1.2 c (w3 w)];rfl
   .rw[rc f]
 .rw[rc h1];by_cases z:a=b
  .rw[ms z];simp only;subst z;rw[lD,j];cases e:p.drop a with
   |nil=>rfl
   |cons x q=>
    exfalso;have A:=w3 e;have F:=(x6.1 A).1;rw[e]at h;rw[e]at j;have G:=Cj j;refine h1 ⟨F,λc B=>?_⟩;rw[A]at B;cases B;exact G
  .rw[rc z];simp only;rw[lD (p.drop at_),j];cases e:p.drop a with
   |nil=>
    rw[e]at h;have:runN bV []=0:=rfl;omega
   |cons x q=>
    simp only;rw[e]at s y h;have f:bV x=v2:=by
     rw[w1]at h;by_cases f:bV x=v2
     .exact f
     .rw[rc f]at h;omega
    rw[ms f,s,y];cases w:p.drop b with
    |nil=>simp only;rw[lD []];rfl
    |cons c r=>
     simp only;have C:=w3 w;have H:=(x6.1 C).1;have I:cH c=v2:=by
      cases J:cH c with
      |true=>rfl
      |false=>exact ro ⟨H,λd E=>by rw[C]at E;cases E;exact J⟩ h1
     rw[ms I]
def iC(w:x5)(g:Nat)(R:Nat->Prop)(hp:List (Λ))(e:Bool):Prop:=∃a p at_,nj w g a p at_ (-1)/\(∀r,lw a r->R r)/\lex (p.drop at_)=(hp,e)
theorem iC.V{g:Nat}{e:Bool}(h:iC w g R hp e)(f:af S w I)(q:¬S g)(s:∀r,R r->¬S r):iC I g R hp e:=by
 obtain⟨x,p,a,⟨h1,y,z,A,a8,B⟩,j,C⟩:=h;exact⟨x,p,a,⟨h1,y,z,A.V f q,a8,bA B f λr E=>s r (j r E)⟩,j,C⟩
theorem iC.words{g:Nat}{q:Bool}(h:iC w g R hp q):hp.length<=100000/\∀t∈hp,Bytes t/\t≠[]/\t.length<=100000:=by
 obtain⟨x,p,a,⟨y,z,A,_⟩,_,f⟩:=h;have B:(p.drop a).length<=100000:=by rw[List.length_drop];omega
 have e:=rg _ (p.drop a) (o4 _);rw[f]at e;refine⟨by show hp.length<=_;have e:hp.length<=_:=e;omega,λt r=>?_⟩;have j:=tv _ (p.drop a) (o4 _) t (by rw[f];exact r);refine⟨λb s=>?_,j.1,Ω⟩;have:=ty (j.2.1 b s);omega
def L6(w:x5)(g:Nat)(R:Nat->Prop)(hp:List (Λ))(a:Bool)(v:x4)(I:x5):Prop:=af (λr=>r=g) w I/\match hp with
 |t::l=>iC I g R l a/\∃n:Int,v= .tuple #[ca t,Δ n,Δ 0]
 |[]=>∃n:Int,v= .tuple #[ca [],Δ n,Δ (if a then 2 else 11)]
theorem ru{g:Nat}{z:Bool}(h:iC w g R hp z):al v8 wj [Γ g] w (L6 w g R hp z):=by
 obtain⟨A,p,a,h1,B,q⟩:=h;refine(LB h1).Y ?_;intro v I _ hw;have e:=L5 p a;unfold rn at hw;cases r:qb p a with
 |word x y=>
  rw[r]at hw e;simp only at hw e;rw[q]at e;obtain⟨rfl,s,J⟩:=hw;obtain⟨f,j⟩:=Prod.mk.inj e;subst f j;exact⟨s,⟨A,p,y,J,B,rfl⟩,_,rfl⟩
 |none=>
  rw[r]at hw e;simp only at hw e;rw[q]at e;obtain⟨f,j⟩:=Prod.mk.inj e;subst f j;obtain⟨n,rfl,C⟩:=hw;exact⟨C.V _,_,rfl⟩
 |text b=>
  rw[r]at hw e;simp only at hw e;rw[q]at e;obtain⟨f,j⟩:=Prod.mk.inj e;subst f j;obtain⟨rfl,s,_⟩:=hw;exact⟨s,_,rfl⟩
def lF(w:Λ):x4:=match gF w with
 |some n=>.tuple #[Δ n,Δ 0]
 |none=>.tuple #[Δ 0,Δ 4]
theorem Ck{i:Nat}{b:Int}(hi:l[i]?=σ b):(l.take (i+1)).all gE=((l.take i).all gE&&gE b):=by
 rw[r9,hi,List.all_append];simp
theorem Cl{i:Nat}{b:Int}(hi:l[i]?=σ b):(l.take (i+1)).foldl fb 0=fb ((l.take i).foldl fb 0) b:=by
 rw[r9,hi,S3];rfl
theorem Cm(a:l≠[])(h:l.all gE=v2):lE l=σ (l.foldl fb 0):=by
 unfold lE;cases l with
 |nil=>exact ro rfl a
 |cons x l=>simp only[h,if_true]
theorem Cn{i:Nat}{b:Int}(hi:l[i]?=σ b)(a:gE b=v6):lE l=ν:=by
 unfold lE;cases l with
 |nil=>simp at hi
 |cons x l=>
  simp only;rw[rc];intro h;have:=List.all_eq_true.1 h b (x7 hi);rw[a]at this;cases this
def qi(w l:Λ)(s:Int):Prop:=(s=1\/s= -1)/\gF w=(lE l).map λn=>s*n
theorem Co:qi (45::l) l (-1):=⟨.inr rfl,by simp only[gF];congr 1;funext n;omega⟩
theorem Cp{w:Λ}(h:∀b,w[0]?=σ b->b≠45):qi w w 1:=⟨.inl rfl,by
 have e:gF w=lE w:=by
  unfold gF;cases w with
  |nil=>rfl
  |cons x l=>
   have:=h x rfl;split
   .rename_i l' he;exact ro (List.cons.inj he).1 this
   .rfl
 rw[e];cases lE w with
 |none=>rfl
 |some n=>simp⟩
theorem tJ{w:Λ}{s:Int}(h:qi w l s)(a:lE l=ν):lF w= .tuple #[Δ 0,Δ 4]:=by
 unfold lF;rw[h.2,a];rfl
theorem Cq{w:Λ}{s n:Int}(h:qi w l s)(a:lE l=σ n):lF w= .tuple #[Δ (s*n),Δ 0]:=by
 unfold lF;rw[h.2,a];rfl
theorem L7(B:Bytes l)(L:l.length<=100000):al v8 Jk [ca l] w λv I=>v=lF l/\Ext w I:=by
 refine aB func171 ?_;rw[Ll];refine jo (λS V U=>Ext w U/\∃(m:Λ)(s:Int),S=ca m/\V=Δ s/\Bytes m/\m.length<=100000/\qi l m s) ?_ ?_
 .rintro _ _ U ⟨H,m,s,rfl,rfl,J,ag,C⟩;rw[BD J (λb a=>by cases a),am];refine⟨λe=>⟨by rw[tJ C (by rw[e];rfl)],H⟩,λe=>?_⟩;refine wN da.u cT.u cN.u J Ω λbv aa M N _=>?_;rw[a1 cT.u N];refine qT.range m.length (λi _ _ c E=>Ext aa E/\c=Δ ((m.take i).foldl fb 0)/\(m.take i).all gE=v2) Ω ⟨Ext.refl _,rfl,rfl⟩ ?_ ?_
  .rintro i W t3 _ E X hi ⟨f,rfl,j⟩ Y;obtain⟨b,q⟩:=aD (l:=m) hi;have ah:=J b (x7 q);refine bG Ω ?_;refine Bz (λ_ _ c G=>Ext aa G/\c=Δ ((m.take (i+1)).foldl fb 0)/\(m.take (i+1)).all gE=v2) ?_ ?_
   .rintro ai aj c G Z;rw[aP];exact Y _ _ _ _ Z
   intro ax p;rw[bk cT.u cN.i Ψ (N.W f) q];refine aZ (λv G=>E=G/\v= .bool (!gE b)) ?_ ?_
   rotate_left
   .intro ab z;rw[aS,am];refine⟨λh=>z _ _ ⟨rfl,by unfold gE;rw[s2 Ω];rfl⟩,λh=>?_⟩;rw[bU];refine z _ _ ⟨rfl,?_⟩;unfold gE;congr 1;by_cases O:57<b
    .rw[rs O,s2 Ω];rfl
    .rw[s2 O,rs Ω];rfl
   rintro _ _ ⟨rfl,rfl⟩;cases K:gE b with
   |false=>
    rw[W6,bQ];exact⟨by rw[tJ C (Cn q K)],(H.F M).F f⟩
   |true=>
    rw[X3,a6];have ak:=ty K;have A:=tw j ⟨S0 _,Φ⟩;rw[Cl q,Ck q,j,K]at p;generalize (m.take i).foldl fb 0=n at*;have A:=A;rw[dx,wrap_u8 Ω Ω,fA cN.u av.u,m1 Ω Ω,dx,m1 Ω Ω,nN Φ,Int.tdiv_eq_ediv_of_nonneg Ω];rw[m1 Ω Ω,bU,am];refine⟨λac=>p _ _ _ _ ⟨f,?_,rfl⟩,λac=>?_⟩
    .congr 1;unfold fb ay;omega
    .rw[fz,m1 Ω Ω,aP,m1 Ω Ω];refine p _ _ _ _ ⟨f,?_,rfl⟩;congr 1;unfold fb ay;omega
  .rintro W t3 _ E X ⟨f,rfl,j⟩;rw[j4]at j ⊢;refine cd Ω ?_;have A:=tw j ⟨S0 _,Φ⟩;have A:0<=m.foldl fb 0/\m.foldl fb 0<=4611686018427387904:=A;rw[fz];have hw:W5.wrap (s*m.foldl fb 0)=s*m.foldl fb 0:=by
    rcases C.1 with rfl|rfl<;>exact m1 Ω Ω
   rw[hw];exact⟨by rw[Cq C (Cm e j)],(H.F M).F f⟩
 .intro ax p;refine aZ (λv aa=>w=aa/\∃c:Bool,v= .bool c/\(c=v2↔l[0]?=σ 45)) ?_ ?_
  .rintro _ _ ⟨rfl,c,rfl,P⟩;rw[b4];refine⟨λad=>?_,λQ=>?_⟩
   .intro an ae _ _;have R:=P.1 ad;cases l with
    |nil=>simp at R
    |cons x r=>
     have af:x=45:=by simpa using R
     subst af;rw[BE (y:=1) (i:=1) rfl da.u Ξ];exact p _ _ _ ⟨ae,r,-1,rfl,rfl,λb a=>B b (.tail _ a),by simp at L;omega,Co⟩
   .refine p _ _ _ ⟨Ext.refl _,l,1,rfl,rfl,B,L,Cp λb a he=>?_⟩;subst he;rw[P.2 a]at Q;cases Q
  .intro ab z;rw[Lp B (λb a=>by cases a),am];refine⟨λe=>?_,λe=>z _ _ ⟨rfl,v6,rfl,⟨λh=>(by cases h),λh=>by rw[X5.1 e]at h;simp at h⟩⟩⟩;cases l with
   |nil=>exact ro rfl e
   |cons x r=>
    rw[rk (y:=0) (b:=x) rfl da.u B rfl,bm];exact z _ _ ⟨rfl,_,rfl,Ξ⟩
theorem tK{s s':aJ}{w:Λ}(h:dV s=σ (w,s')):s.hp=w::s'.hp/\s'={s with hp:=s'.hp}:=by
 unfold dV at h;cases a:s.hp with
 |nil=>rw[a]at h;cases h
 |cons x l=>
  rw[a]at h;simp only[X7,S8]at h;obtain⟨rfl,rfl⟩:=h;exact⟨rfl,rfl⟩
theorem i9{n:Int}{s s':aJ}(h:bl lo hi s=σ (n,s')):(lo<=n/\n<=hi)/\(∃w,s.hp=w::s'.hp/\gF w=σ n)/\s'={s with hp:=s'.hp}:=by
 unfold bl at h;cases hw:dV s with
 |none=>rw[hw]at h;cases h
 |some q=>
  obtain⟨w,s1⟩:=q;rw[hw]at h;simp only at h;obtain⟨h1,e⟩:=tK hw;cases a:gF w with
  |none=>rw[a]at h;cases h
  |some m=>
   rw[a]at h;simp only at h;split at h
   .rename_i f;simp only[X7,S8]at h;obtain⟨rfl,rfl⟩:=h;exact⟨f,⟨w,h1,a⟩,e⟩
   .cases h
def jy(k:Nat)(s s':aJ):Prop:=s.hp.length=s'.hp.length+k/\s'={s with hp:=s'.hp}
theorem jy.refl(s:aJ):jy 0 s s:=⟨rfl,rfl⟩
theorem jy.F{a b:Nat}{r s t:aJ}(h:jy a r s)(k:jy b s t):jy (a+b) r t:=⟨by have:=h.1;have:=k.1;omega,by rw[k.2,h.2]⟩
theorem dG{n:Int}{s s':aJ}(h:bl lo hi s=σ (n,s')):jy 1 s s':=by
 obtain⟨_,⟨w,h1,_⟩,a⟩:=i9 h;exact⟨by rw[h1];simp,a⟩
theorem jy.eqs{k:Nat}{s s':aJ}(h:jy k s s'):s'.m5=s.m5/\s'.big=s.big/\s'.m6=s.m6:=by rw[h.2];exact⟨rfl,rfl,rfl⟩
theorem lG{α:Type}{f:List α->aJ->Option (α×aJ)}(e:List α->aJ->Prop)(r:∀acc s a s',e acc s->f acc s=σ (a,s')->e (acc++[a]) s'):
  ∀(n:Nat)(acc:List α)(s:aJ)(l:List α)(s':aJ),e acc s->cW f n acc s=σ (l,s')->e l s'/\l.length=acc.length+n
 |0,acc,s,l,s',j,h=>by
  simp only[cW,X7,S8]at h;obtain⟨rfl,rfl⟩:=h;exact⟨j,Ω⟩
 |n+1,acc,s,l,s',j,h=>by
  simp only[cW]at h;cases p:f acc s with
  |none=>rw[p]at h;cases h
  |some q=>
   obtain⟨a,s1⟩:=q;rw[p]at h;have:=lG e r n _ _ _ _ (r _ _ _ _ j p) h;exact⟨this.1,by rw[this.2];simp;omega⟩
theorem w4{n:Int}{k:Nat}{s s':aJ}(h:fc n k s=σ (l,s')):jy l.length s s'/\l.length=k/\l.Nodup/\∀v∈l,0<=v/\v<n:=by
 have:=lG (λacc t=>jy acc.length s t/\acc.Nodup/\∀v∈acc,0<=v/\v<n) (λacc t a bs ⟨h1,p,r⟩ h=>by
  cases f:bl 0 (n-1) t with
  |none=>rw[f]at h;cases h
  |some q=>
   obtain⟨v,A⟩:=q;rw[f]at h;simp only at h;split at h
   .cases h
   .rename_i w;simp only[X7,S8]at h;obtain⟨rfl,rfl⟩:=h;have B:=(i9 f).1;refine⟨by rw[o9];exact h1.F (dG f),List.nodup_append.2 ⟨p,Ξ,λx e y j he=>?_⟩,λx e=>?_⟩
    .rw[b9]at j;subst j;subst he;exact w e
    .rcases j9.1 e with e|e
     .exact r x e
     .rw[b9.1 e];omega) k [] s l s' ⟨jy.refl s,List.nodup_nil,λv z=>by cases z⟩ h
 exact⟨this.1.1,by simpa using this.2,this.1.2.1,this.1.2.2⟩
theorem w5:∀{e acc:Λ}{s s':aJ}{t:Λ},kt e acc s=σ (t,s')->∃u,t=acc++u/\dv e u/\jy u.length s s'
 |[],acc,s,s',t,h=>by
  simp only[kt,X7,S8]at h;obtain⟨rfl,rfl⟩:=h;exact⟨[],Ξ,B8.2 rfl,jy.refl s⟩
 |k::e,acc,s,s',t,h=>by
  simp only[kt]at h;cases a:bl 0 (k-1) s with
  |none=>rw[a]at h;cases h
  |some q=>
   obtain⟨v,s1⟩:=q;rw[a]at h;obtain⟨u,rfl,hu,f⟩:=w5 h;have j:=(i9 a).1;exact⟨v::u,Ξ,B7.2 ⟨Ω,hu⟩,by rw[Y0,Nat.add_comm];exact(dG a).F f⟩
def nZ(co:Λ)(l:List (Λ×Int)):Prop:=(l.map (·.1)).Nodup/\∀p∈l,dv co p.1/\0<=p.2
theorem qj{acc:List (Λ×Int)}{s s':aJ}{a:Λ×Int}(h:eN co acc s=σ (a,s')):a.1∉acc.map (·.1)/\dv co a.1/\0<=a.2/\jy (a.1.length+1) s s':=by
 unfold eN at h;cases f:kt co [] s with
 |none=>rw[f]at h;cases h
 |some q=>
  obtain⟨t,s1⟩:=q;rw[f]at h;simp only at h;obtain⟨u,hu,j,p⟩:=w5 f;rw[List.nil_append]at hu;subst hu;cases e:bl 0 ay s1 with
  |none=>rw[e]at h;cases h
  |some q=>
   obtain⟨c,w⟩:=q;rw[e]at h;simp only at h;split at h
   .cases h
   .rename_i r;simp only[X7,S8]at h;obtain⟨rfl,rfl⟩:=h;exact⟨r,j,(i9 e).1.1,p.F (dG e)⟩
structure Cr(s s':aJ):Prop where
 hp:s'.hp.length<s.hp.length
 big:s.big=v2->s'.big=v2
theorem L8{s s':aJ}{l:List (Λ×Int)}(A:∀q∈s.m6,nZ q.1 q.2/\q.2.length<=N)(M:s.hp.length<=N)(h:dW co s=σ (l,s')):
  nZ co l/\l.length<=N/\s'.m6=s.m6/\Cr s s':=by
 unfold dW at h;cases f:bl (-ay) ay s with
 |none=>rw[f]at h;cases h
 |some q=>
  obtain⟨n,s1⟩:=q;rw[f]at h;simp only at h;have h1:=dG f;obtain⟨O,B,j⟩:=h1.eqs;split at h
  .cases J:s1.m6[(-n-1).toNat]? with
   |none=>rw[J]at h;cases h
   |some q=>
    obtain⟨z,l'⟩:=q;rw[J]at h;simp only at h;split at h
    .rename_i F;simp only[X7,S8]at h;obtain⟨rfl,rfl⟩:=h;subst F;have hm:=x7 J;rw[j]at hm;exact⟨(A _ hm).1,(A _ hm).2,j,by have:=h1.1;omega,λe=>by rw[B];exact e⟩
    .cases h
  .have:=lG (λacc t=>nZ co acc/\t.m6=s.m6/\t.hp.length+acc.length<=s1.hp.length/\(s.big=v2->t.big=v2)) (λacc t a bs ⟨g1,r,G,w⟩ g=>by
    obtain⟨H,I,K,C⟩:=qj g;obtain⟨f1,f2,f3⟩:=C.eqs;refine⟨⟨?_,λp ac=>?_⟩,by rw[f3,r],by have:=C.1;simp only[o9,T5];omega,λe=>by rw[f2];exact w e⟩
    .rw[Z3];exact List.nodup_append.2 ⟨g1.1,Ξ,λx L y E he=>by
      simp only[T3,List.map_nil,b9]at E;subst E;subst he;exact H L⟩
    .rcases j9.1 ac with ac|ac
     .exact g1.2 p ac
     .rw[b9.1 ac];exact⟨I,K⟩) n.toNat [] (bi (decide (16384<min (s1.m5+n) ay)) {s1 with m5:=min (s1.m5+n) ay}) l s' ⟨⟨Ξ,λp ac=>by cases ac⟩,j,by simp[bi],λe=>by simp[bi,B,e]⟩ h
   obtain⟨⟨g1,r,G,w⟩,_⟩:=this;have:=h1.1;exact⟨g1,Ω,r,⟨Ω,w⟩⟩
structure tL(all:Λ)(N:Nat)(f:cE):Prop where
 scope:f.scope.Nodup/\∀v∈f.scope,0<=v/\v<all.length
 co:f.co=f.scope.map λv=>all.getD v.toNat 0
 other:0<=f.other
 lines:nZ f.co f.lines
 len:f.lines.length<=N
theorem L9{all:Λ}{s s':aJ}{f:cE}(B:∀q∈s.m6,nZ q.1 q.2/\q.2.length<=N)(V:s.hp.length<=N)(h:dp all s=σ (f,s')):
  tL all N f/\(∀q∈s'.m6,nZ q.1 q.2/\q.2.length<=N)/\Cr s s'/\(s'.big=v6->f.scope.length<=6/\dy f.co=v6):=by
 unfold dp at h;cases C:bl (-ay) ay s with
 |none=>rw[C]at h;cases h
 |some q=>
 obtain⟨a,s1⟩:=q;rw[C]at h;simp only at h;have t0:=dG C;obtain⟨W,M,O⟩:=t0.eqs;cases h1:fc all.length a.natAbs s1 with
 |none=>rw[h1]at h;cases h
 |some q=>
 obtain⟨sc,w⟩:=q;rw[h1]at h;simp only at h;obtain⟨F,X,P,Q⟩:=w4 h1;obtain⟨Y,R,S⟩:=F.eqs;generalize T:sc.map (λv=>all.getD v.toNat 0)=co at h;cases y:bl 0 ay (bi (decide (6<a.natAbs)||dy co) w)with
 |none=>rw[y]at h;cases h
 |some q=>
 obtain⟨other,p⟩:=q;rw[y]at h;simp only at h;have G:=dG y;obtain⟨Z,z,x⟩:=G.eqs;have x:p.m6=s.m6:=by rw[x];show w.m6=_;rw[S,O]
 have aa:p.hp.length<s.hp.length:=by
  have:=t0.1;have:=F.1;have A:=G.1;have:(bi (decide (6<a.natAbs)||dy co) w).hp.length=w.hp.length:=rfl;omega
 cases A:dW co p with
 |none=>rw[A]at h;cases h
 |some q=>
 obtain⟨lines,j⟩:=q;rw[A]at h;simp only[X7,S8]at h;obtain⟨rfl,rfl⟩:=h;obtain⟨g1,H,I,J⟩:=L8 (by rw[x];exact B) Ω A;have U:=J.big;have gt:=J.hp;have K:p.big=v2->∀E:aJ,E=(if a<0 then{j with m6:=j.m6++[(co,lines)]}else j)->E.big=v2:=λr E he=>by
  rw[he];split<;>exact U r
 have z:p.big=(s.big||(decide (6<a.natAbs)||dy co)):=by
  rw[z];show(w.big||_)=_;rw[R,M]
 refine⟨⟨⟨P,Q⟩,T.symm,(i9 y).1.1,g1,H⟩,λq e=>?_,⟨?_,λr=>K (by rw[z,r];rfl) _ rfl⟩,λr=>?_⟩
 .split at e
  .rcases j9.1 e with e|e
   .rw[show j.m6=s.m6 by rw[I,x]]at e;exact B q e
   .rw[b9.1 e];exact⟨g1,H⟩
  .rw[show j.m6=s.m6 by rw[I,x]]at e;exact B q e
 .have:(if a<0 then{j with m6:=j.m6++[(co,lines)]}else j).hp=j.hp:=by split<;>rfl
  rw[this];omega
 .have L:p.big=v6:=by
   cases e:p.big with
   |false=>rfl
   |true=>rw[K e _ rfl]at r;cases r
  rw[z,U1,U1,decide_eq_false_iff_not]at L;show sc.length<=6/\_;exact⟨Ω,L.2.2⟩
structure fl(N:Nat)(f:b7):Prop where
 name:f.name.length<=64
 k:1<=f.k/\f.k<=2147483648
 co:1<=f.co.length/\f.co.length<=64/\∀z∈f.co,1<=z/\z<=32
 mm:f.d9.length<=256
 d9:∀x∈f.d9,tL f.co N x/\x.scope.length<=6/\dy x.co=v6
theorem rv{b:Bool}{s:aJ}(h:(bi b s).big=v6):s.big=v6/\b=v6:=by
 have h:(s.big||b)=v6:=h;exact U1.1 h
theorem Ma{a b:aJ}(h:a.big=v2->b.big=v2)(e:b.big=v6):a.big=v6:=by
 cases f:a.big with
 |false=>rfl
 |true=>rw[h f]at e;cases e
theorem Cs{s s':aJ}{f:b7}(J:s.m6=[])(h:jw s=σ (f,s'))(e:s'.big=v6):fl s.hp.length f/\f.name∈s.hp:=by
 unfold jw at h;cases K:dV s with
 |none=>rw[K]at h;cases h
 |some q=>
 obtain⟨name,s0⟩:=q;rw[K]at h;simp only at h;obtain⟨U,aa⟩:=tK K;cases h1:bl 1 ay (bi (decide (64<name.length)) s0)with
 |none=>rw[h1]at h;cases h
 |some q=>
 obtain⟨n,s1⟩:=q;rw[h1]at h;simp only at h;have r:=dG h1;cases L:bl 1 ay (bi (decide (64<n)) s1)with
 |none=>rw[L]at h;cases h
 |some q=>
 obtain⟨most,Y⟩:=q;rw[L]at h;simp only at h;have M:=dG L;cases N:bl 0 ay Y with
 |none=>rw[N]at h;cases h
 |some q=>
 obtain⟨E,F⟩:=q;rw[N]at h;simp only at h;have t3:=dG N;cases G:bl 1 ay (bi (decide (256<E)) F)with
 |none=>rw[G]at h;cases h
 |some q=>
 obtain⟨k,A⟩:=q;rw[G]at h;simp only at h;have t4:=dG G;cases O:cW (gG most) n.toNat [] (bi (decide (2147483648<k)) A)with
 |none=>rw[O]at h;cases h
 |some q=>
 obtain⟨co,H⟩:=q;rw[O]at h;simp only at h;cases P:cW (λ_ s=>dp co s) E.toNat [] H with
 |none=>rw[P]at h;cases h
 |some q=>
 obtain⟨d9,Z⟩:=q;rw[P]at h;simp only[X7,S8]at h;obtain⟨rfl,rfl⟩:=h;have ab:=lG (λ(acc:Λ)t=>t.m6=[]/\t.hp.length<=s.hp.length/\(t.big=v6->A.big=v6/\k<=2147483648/\∀z∈acc,1<=z/\z<=32)) (λacc t a bs ⟨g1,T,Q⟩ g=>by
  unfold gG at g;cases w:bl 1 most t with
  |none=>rw[w]at g;cases g
  |some q=>
   obtain⟨z,r⟩:=q;rw[w]at g;simp only[X7,S8]at g;obtain⟨rfl,rfl⟩:=g;have V:=dG w;obtain⟨aA,ac,ad⟩:=V.eqs;have aB:=(i9 w).1;refine⟨by show r.m6=[];rw[ad,g1],by show r.hp.length<=_;have:=V.1;omega,λe=>?_⟩;obtain⟨j,B⟩:=rv e;rw[ac]at j;obtain⟨R,S,ae⟩:=Q j;refine⟨R,S,λy C=>?_⟩;rcases j9.1 C with C|C
   .exact ae y C
   .rw[b9.1 C];have:=of_decide_eq_false B;omega) n.toNat [] (bi (decide (2147483648<k)) A) co H ⟨by
     show A.m6=[];rw[t4.eqs.2.2];show F.m6=[];rw[t3.eqs.2.2,M.eqs.2.2];show s1.m6=[];rw[r.eqs.2.2];show s0.m6=[];rw[aa];exact J,by
     show A.hp.length<=_;have af:=r.1;have ag:=M.1;have a3:=t3.1;have a4:=t4.1;have j:(bi (decide (64<name.length)) s0).hp=s0.hp:=rfl;have B:(bi (decide (64<n)) s1).hp=s1.hp:=rfl;have I:(bi (decide (256<E)) F).hp=F.hp:=rfl;rw[j]at af;rw[B]at ag;rw[I]at a4;rw[U,Y0];omega,λe=>by
     obtain⟨j,B⟩:=rv e;have:=of_decide_eq_false B;exact⟨j,Ω,λz ah=>by cases ah⟩⟩ O
 obtain⟨⟨ai,aj,ak⟩,al⟩:=ab;have am:=lG (λ(acc:List cE)t=>(∀q∈t.m6,nZ q.1 q.2/\q.2.length<=s.hp.length)/\t.hp.length<=s.hp.length/\(t.big=v6->H.big=v6/\∀x∈acc,tL co s.hp.length x/\x.scope.length<=6/\dy x.co=v6)) (λacc t a bs ⟨g1,T,Q⟩ g=>by
  obtain⟨an,ao,W,ap⟩:=L9 g1 T g;refine⟨ao,by have:=W.hp;omega,λe=>?_⟩;obtain⟨R,S⟩:=Q (Ma W.big e);refine⟨R,λx p=>?_⟩;rcases j9.1 p with p|p
  .exact S x p
  .rw[b9.1 p];exact⟨an,ap e⟩) E.toNat [] H d9 Z ⟨(by rw[ai];intro q w;cases w),aj,λe=>⟨e,λx p=>by cases p⟩⟩ P
 obtain⟨⟨_,_,d3⟩,d4⟩:=am;obtain⟨aq,d5⟩:=d3 e;obtain⟨I,au,av⟩:=ak aq;rw[t4.eqs.2.1]at I;obtain⟨X,aw⟩:=rv I;rw[t3.eqs.2.1,M.eqs.2.1]at X;obtain⟨j,ax⟩:=rv X;rw[r.eqs.2.1]at j;obtain⟨_,az⟩:=rv j;have:=of_decide_eq_false aw;have:=of_decide_eq_false ax;have:=of_decide_eq_false az;have aC:=(i9 h1).1;have hk:=(i9 G).1;simp only[List.length_nil,X6]at al d4;exact⟨⟨by show name.length<=64;omega,⟨hk.1,au⟩,⟨by show 1<=co.length;omega,by show co.length<=64;omega,av⟩,by show d9.length<=256;omega,d5⟩,by rw[U];exact .head _⟩
def kX(x:cE)(k:Int)(t:Λ):Int:=min (match x.lines.find? (λp=>decide (p.1=t))with
 |some p=>p.2
 |none=>x.other) k
def bw(l:Λ):Λ:=((X9 64).map λ(v:Nat)=>(v:Int)).filter λv=>decide (v∈l)
def bN(co scope:Λ):Λ:=scope.map λv=>co.getD v.toNat 0
def qk(scope a t:Λ):Λ:=scope.map λv=>t.getD (a.idxOf v) 0
abbrev cQ:Type:=Λ×Λ
def jz(co:Λ)(k:Int)(x:cE):cQ:=(bw x.scope,(bo (bN co (bw x.scope))).map λt=>kX x k (qk x.scope (bw x.scope) t))
def ev(k:Int)(a b:Λ):Λ:=List.zipWith (λx y=>min (x+y) k) a b
def jA(k:Int)(acc:List cQ)(g:cQ):List cQ:=if g.1∈acc.map (·.1)then acc.map λh=>if h.1=g.1 then(h.1,ev k h.2 g.2)else h else acc++[g]
def kx:Λ->Int
 |[]=>0
 |x::l=>x*64 ^ l.length+kx l
def di(l:Λ):Int:=l.length*64 ^ 6+kx l
def iD(g:cQ):List cQ->List cQ
 |[]=>[g]
 |h::l=>if di h.1<di g.1 then h::iD g l else g::h::l
def fQ(g:cQ):Bool:=g.2.any λc=>decide (0<c)
def fR(f:b7):List cQ:=(f.d9.map (jz f.co f.k)).foldl (jA f.k) []
def fS(f:b7):List cQ:=((fR f).filter fQ).foldl (λl g=>iD g l) []
structure aH where
 k:Int
 co:Λ
 zero:Int
 unary:List (Λ)
 d9:List cQ
deriving DecidableEq
def cf(f:b7):aH:=(fS f).foldl (λn g=>match g.1 with
 |[]=>{n with zero:=g.2.getD 0 0}
 |[v]=>{n with unary:=n.unary.set v.toNat g.2}
 |_=>{n with d9:=n.d9++[g]}) ⟨f.k,f.co,0,f.co.map λz=>o6 z.toNat 0,[]⟩
abbrev lH:Type:=Rd (Λ)×Rd (List (Λ×Int))
def bJ(g gs:Nat)(A:ah):ah:=λr=>r=g\/r=gs\/A r
def ja(gs:Nat)(e big a f m5:Int)(sv:x4):List x4:=[Γ gs,Δ e,Δ big,Δ a,Δ f,Δ m5,sv]
def cU(g gs:Nat)(A:ah)(B:ah):ah:=λr=>¬bJ g gs A r/\B r
def mn(w:x5)(g gs:Nat)(A:ah)(B:ah):Prop:=g≠gs/\¬A g/\¬A gs/\(∀r,bJ g gs A r->r<w.heap.size)/\∀r,B r->r<w.heap.size
def eo(w:x5)(g gs:Nat)(A:ah)(B:ah)(s:aJ)(a:Bool):Prop:=mn w g gs A B/\iC w gs (cU g gs A B) s.hp a/\(0<=s.m5/\s.m5<=ay/\s.m6.length+s.hp.length<=100000)/\
 ∃big e f m5 sv,ag w g cF (ja gs 0 big e f m5 sv)/\((s.big=v2↔big≠0)/\(s.big=v6->m5=s.m5))/\bq A (cU g gs A B) w [sv] (show List lH from s.m6)
def fd(w:x5)(g gs:Nat)(A:ah)(B:ah):Prop:=mn w g gs A B/\∃(e big a f m5:Int)(sv:x4)(l:List lH),ag w g cF (ja gs e big a f m5 sv)/\(e≠0/\l.length<=100000)/\bq A (cU g gs A B) w [sv] l
theorem mn.V{g:Nat}{A:ah}{B:ah}(h:mn w g gs A B)(e:af S w I):mn I g gs A B:=by
 obtain⟨h1,f,j,p,q⟩:=h;exact⟨h1,f,j,λr a=>S4 (p r a) e.size,λr a=>S4 (q r a) e.size⟩
theorem Ct{g:Nat}{A:ah}{B:ah}(a:∀r,A r->¬S r)(e:∀r,cU g gs A B r->¬S r):∀r,A r\/cU g gs A B r->¬S r:=λr h=>h.elim (a r) (e r)
theorem eo.V{g:Nat}{A:ah}{B:ah}{s:aJ}(h:eo w g gs A B s f)(a:af S w I)(e:∀r,bJ g gs A r->¬S r)(j:∀r,cU g gs A B r->¬S r):eo I g gs A B s f:=by
 obtain⟨h1,p,q,big,x,y,m5,sv,z,C,E⟩:=h;exact⟨h1.V a,p.V a (e gs (.inr (.inl rfl))) j,q,big,x,y,m5,sv,z.V a (e g (.inl rfl)),C,an.V E a λr _ h=>Ct (λr F=>e r (.inr (.inr F))) j r h⟩
theorem fd.V{g:Nat}{A:ah}{B:ah}(h:fd w g gs A B)(a:af S w I)(f:∀r,bJ g gs A r->¬S r)(j:∀r,cU g gs A B r->¬S r):fd I g gs A B:=by
 obtain⟨h1,e,big,p,q,m5,sv,l,s,x,y⟩:=h;exact⟨h1.V a,e,big,p,q,m5,sv,l,s.V a (f g (.inl rfl)),x,an.V y a λr _ h=>Ct (λr z=>f r (.inr (.inr z))) j r h⟩
theorem eo.W{g:Nat}{A:ah}{B:ah}{s:aJ}{a:Bool}(h:eo w g gs A B s a)(e:Ext w I):eo I g gs A B s a:=h.V (e.V λ_=>False) (λ_ _ h=>h) (λ_ _ h=>h)
theorem fd.W{g:Nat}{A:ah}{B:ah}(h:fd w g gs A B)(a:Ext w I):fd I g gs A B:=h.V (a.V λ_=>False) (λ_ _ h=>h) (λ_ _ h=>h)
def gj(w:x5)(g gs:Nat)(A:ah)(B:ah)(a:Bool)(s':Option aJ)(I:x5):Prop:=af (bJ g gs A) w I/\match s' with
 |some s'=>eo I g gs A B s' a
 |none=>fd I g gs A B
theorem w6{g:Nat}{e big a f m5:Int}(h:ag w g cF (ja gs e big a f m5 sv)):al v8 l6 [Γ g] w λv I=>v= .bool (decide (e=0))/\Ext w I:=by
 refine aB func113 ?_;rw[bY,aU cF.p rfl,aU e9.p rfl,aE Ψ (h.cell rfl),bm];exact⟨rfl,Ext.refl _⟩
theorem ql{g:Nat}{A:ah}{B:ah}{s:aJ}{a:Bool}(h:eo w g gs A B s a):al v8 l6 [Γ g] w λv I=>v= .bool v2/\Ext w I:=by
 obtain⟨_,_,_,big,f,j,m5,sv,e,_⟩:=h;exact(w6 e).Y λ_ _ _ h=>h
theorem pf{g:Nat}{A:ah}{B:ah}(h:fd w g gs A B):al v8 l6 [Γ g] w λv I=>v= .bool v6/\Ext w I:=by
 obtain⟨_,e,big,p,q,m5,sv,l,a,f,_⟩:=h;refine(w6 a).Y ?_;rintro _ U _ ⟨rfl,j⟩;exact⟨by rw[s2 f.1],j⟩
theorem tM{g:Nat}{A B:ah}(h:A r\/cU g gs A B r)(a:¬A g):r≠g:=by
 rintro rfl;rcases h with h|h
 .exact a h
 .exact h.1 (.inl rfl)
theorem tN{g:Nat}{A:ah}{B:ah}{big x q m5 e:Int}{l:List lH}(J:mn w g gs A B)(s:ag w g cF (ja gs 0 big x q m5 sv))(y:bq A (cU g gs A B) w [sv] l)(he:e≠0)(z:l.length<=100000):
  al v8 oJ [Γ g,Δ e,Δ at_] w λ_ I=>af (λr=>r=g) w I/\fd I g gs A B:=by
 refine aB func116 ?_;rw[bY,aU cF.p rfl,aU e9.p rfl,aE Ψ (s.cell rfl),bm,am];refine⟨λ_=>?_,λh=>ro rfl h⟩;rw[bY,aU cF.p rfl,aU e9.p rfl];refine bt (g:=g) (o:=1) kN.i rfl rfl s (by simp[ja]) λU C H a=>?_;have a:=a;rw[bY,aU cF.p rfl,aU e9.p rfl];refine bt (g:=g) (o:=3) ai.i rfl rfl a (by simp[ja]) λaa E K f=>?_;have f:=f;have j:=C.F E;exact⟨j,J.V j,e,big,at_,q,m5,sv,l,f,⟨he,z⟩,an.V y j λr _ h G=>tM h J.2.1 G⟩
theorem tO{g:Nat}{A:ah}{B:ah}{s:aJ}{a:Bool}{e:Int}(h:eo w g gs A B s a)(he:e≠0):al v8 oJ [Γ g,Δ e,Δ at_] w λ_ I=>af (λr=>r=g) w I/\fd I g gs A B:=by
 obtain⟨J,_,f,big,q,x,m5,sv,j,_,p⟩:=h;exact tN J j p he (by have:=f.2.2;show s.m6.length<=_;omega)
theorem Mb{g:Nat}{A:ah}{B:ah}{e:Int}(h:fd w g gs A B):al v8 oJ [Γ g,Δ e,Δ at_] w λ_ I=>Ext w I:=by
 obtain⟨_,f,big,j,q,m5,sv,l,h1,a,_⟩:=h;refine aB func116 ?_;rw[bY,aU cF.p rfl,aU e9.p rfl,aE Ψ (h1.cell rfl),bm,am];exact⟨λh=>ro h a.1,λ_=>Ext.refl _⟩
theorem tP{g:Nat}{A:ah}{B:ah}{s:aJ}{y b:Bool}(h:eo w g gs A B s y):al v8 q2 [Γ g,.bool b,Δ at_] w λ_ I=>af (λr=>r=g) w I/\eo I g gs A B (bi b s) y:=by
 obtain⟨J,z,C,big,E,K,m5,sv,e,G,H⟩:=id h;refine aB func111 ?_;refine aZ (λv U=>w=U/\v= .bool (b&&decide (big=0))) ?_ ?_
 rotate_left
 .intro ax j;cases b with
  |false=>rw[a6];exact j _ _ ⟨rfl,rfl⟩
  |true=>
   rw[bQ,bY,aU cF.p rfl,aU e9.p rfl,aE Ψ (e.cell rfl),bm,am];refine⟨λa=>?_,λa=>j _ _ ⟨rfl,by rw[s2 a];rfl⟩⟩;rw[bY,aU cF.p rfl,aU e9.p rfl,aE Ψ (e.cell rfl),bm];exact j _ _ ⟨rfl,by rw[rs a];rfl⟩
 rintro _ _ ⟨rfl,rfl⟩;rw[b4];refine⟨λL=>?_,λM=>?_⟩
 .obtain⟨rfl,a⟩:=Bool.and_eq_true_iff.1 L;rw[bY,aU cF.p rfl,aU e9.p rfl];refine bt (g:=g) (o:=2) kN.i rfl rfl e (by simp[ja]) λU N R q=>?_;have q:=q;rw[bY,aU cF.p rfl,aU e9.p rfl];refine bt (g:=g) (o:=4) ai.i rfl rfl q (by simp[ja]) λaa O S x=>?_;have x:=x;have f:=N.F O;exact⟨f,J.V f,z.V f (λhe=>J.1 he.symm) (λr P he=>P.1 (.inl he)),C,5,E,at_,m5,sv,x,⟨⟨λ_=>Ω,λ_=>by simp[bi]⟩,λh=>by simp[bi]at h⟩,an.V H f λr _ h Q=>tM h J.2.1 Q⟩
 .refine⟨af.refl _ _,J,z,C,big,E,K,m5,sv,e,⟨?_,λh=>G.2 (by
   have h:(s.big||b)=v6:=h;exact(U1.1 h).1)⟩,H⟩
  show(s.big||b)=v2↔big≠0;cases b with
  |false=>rw[Bool.or_false];exact G.1
  |true=>
   have a:=of_decide_eq_false (by simpa using M);simp[a]
theorem Cu{g:Nat}{A:ah}{B:ah}{b:Bool}(h:fd w g gs A B):al v8 q2 [Γ g,.bool b,Δ at_] w λ_ I=>Ext w I:=by
 obtain⟨_,j,big,q,r,m5,sv,l,h1,e,_⟩:=h;refine aB func111 ?_;refine aZ (λv U=>w=U/\v= .bool v6) ?_ ?_
 .rintro _ _ ⟨rfl,rfl⟩;rw[a6];exact Ext.refl _
 intro ax a;cases b with
 |false=>rw[a6];exact a _ _ ⟨rfl,rfl⟩
 |true=>
  rw[bQ,bY,aU cF.p rfl,aU e9.p rfl,aE Ψ (h1.cell rfl),bm,am];refine⟨λf=>?_,λf=>a _ _ ⟨rfl,rfl⟩⟩;rw[bY,aU cF.p rfl,aU e9.p rfl,aE Ψ (h1.cell rfl),bm];exact a _ _ ⟨rfl,by rw[s2 e.1]⟩
theorem eo.scan{g:Nat}{A:ah}{B:ah}{s:aJ}{a:Bool}{l:List (Λ)}(h:eo w g gs A B s a)(e:af (λr=>r=gs) w I)(J:iC I gs (cU g gs A B) l a)(C:l.length<=s.hp.length):eo I g gs A B {s with hp:=l} a:=by
 obtain⟨h1,_,f,big,p,q,m5,sv,x,y,z⟩:=h;refine⟨h1.V e,J,⟨f.1,f.2.1,by have:=f.2.2;show s.m6.length+l.length<=100000;omega⟩,big,p,q,m5,sv,x.V e h1.1,y,an.V z e λr _ h j=>?_⟩;have j:r=gs:=j;subst j;rcases h with h|h
 .exact h1.2.2.1 h
 .exact h.1 (.inr (.inl rfl))
theorem Cv{g:Nat}{A:ah}{B:ah}{s:aJ}{z:Bool}(h:eo w g gs A B s z):al v8 Ax [Γ g] w λv I=>gj w g gs A B z ((dV s).map (·.2)) I/\∃(t:Λ)(n:Int),v= .tuple #[ca t,Δ n]/\Bytes t/\t.length<=100000/\∀q,dV s=σ q->t=q.1:=by
 refine aB func110 ?_;refine(ql h).Y ?_;rintro _ U _ ⟨rfl,L⟩;rw[bM,X3,a6];have h1:=h.W L;obtain⟨_,M,_,big,P,Q,m5,sv,C,_⟩:=id h1;have R:=M.words.2;rw[aK cF.p 0 C rfl];refine(ru M).Y ?_;rintro v aa _ ⟨j,y⟩;have N:af (bJ g gs A) w aa:=(L.V _).F (j.Y λr _ h=>.inr (.inl h));cases f:s.hp with
 |cons t l=>
  rw[f]at y;obtain⟨S,n,rfl⟩:=y;have W:=h1.scan j S (by rw[f];simp);have E:dV s=σ (t,{s with hp:=l}):=by unfold dV;rw[f]
  have O:=R t (by rw[f];exact .head _);rw[fN,fO,fP];refine aZ (λv G=>aa=G/\v=Δ 0) ?_ ?_
  .rintro _ _ ⟨rfl,rfl⟩;refine c7 (λx=>aa=x) ?_ ?_
   .rintro _ rfl;rw[E];exact⟨⟨N,W⟩,t,n,rfl,O.1,O.2.2,λq H=>by cases H;rfl⟩
   .intro ax a;rw[bL,am];exact⟨λh=>ro rfl h,λ_=>a _ rfl⟩
  .intro ax a;rw[bm,am];exact⟨λh=>Ω,λ_=>a _ _ ⟨rfl,rfl⟩⟩
 |nil=>
  rw[f]at y;obtain⟨n,rfl⟩:=y;have E:dV s=ν:=by unfold dV;rw[f]
  obtain⟨J,_,X,big,P,Q,m5,sv,C,ag,Y⟩:=id h1;have Z:=C.V j J.1;have ab:=an.V Y j λr _ h K=>by
   have K:r=gs:=K;subst K;rcases h with h|h
   .exact J.2.2.1 h
   .exact h.1 (.inr (.inl rfl))
  rw[fN,fO,fP];refine aZ (λv G=>aa=G/\∃e:Int,v=Δ e/\e≠0) ?_ ?_
  .rintro _ _ ⟨rfl,e,rfl,he⟩;refine c7 (λx=>af (λr=>r=g) aa x/\fd x g gs A B) ?_ ?_
   .rintro x ⟨ac,ad⟩;rw[E];exact⟨⟨N.F (ac.Y λr _ h=>.inl h),ad⟩,[],n,rfl,λb ae=>(by cases ae),Ξ,λq H=>by cases H⟩
   .intro ax a;rw[bL,am];refine⟨λ_=>?_,λh=>ro he h⟩;exact(tN (J.V j) Z ab he (by have:=X.2.2;show s.m6.length<=_;omega)).Y λ_ I _ h=>a _ h
  .intro ax a;rw[bm,am];cases z with
   |true=>exact⟨λ_=>a _ _ ⟨rfl,4,rfl,Ω⟩,λh=>ro rfl h⟩
   |false=>exact⟨λh=>by simp at h,λ_=>a _ _ ⟨rfl,11,rfl,Ω⟩⟩
theorem Mc{g:Nat}{A:ah}{B:ah}(h:fd w g gs A B):al v8 Ax [Γ g] w λv I=>Ext w I/\v= .tuple #[ca [],Δ 0]:=by
 refine aB func110 ?_;refine(pf h).Y ?_;rintro _ U _ ⟨rfl,a⟩;rw[bM,W6,bQ];exact⟨a,rfl⟩
theorem w7{g:Nat}{A:ah}{B:ah}{s:aJ}{y:Bool}(h:eo w g gs A B s y):al v8 oI [Γ g,Δ lo,Δ hi] w λv I=>gj w g gs A B y ((bl lo hi s).map (·.2)) I/\∃n at_:Int,v= .tuple #[Δ n,Δ at_]/\(∀q,bl lo hi s=σ q->n=q.1)/\(bl lo hi s=ν->n=0):=by
 refine aB func112 ?_;refine(Cv h).Y ?_;rintro _ U _ ⟨⟨z,f⟩,t,n,rfl,H,J,hw⟩;rw[bx,bz];cases j:dV s with
 |none=>
  have a:bl lo hi s=ν:=by unfold bl;rw[j]
  rw[j]at f;have f:=f;refine(pf f).Y ?_;rintro _ aa _ ⟨rfl,p⟩;rw[bM,W6,bQ,a];exact⟨⟨z.F (p.V _),f.W p⟩,0,n,rfl,λq h=>(by cases h),λ_=>rfl⟩
 |some q=>
  obtain⟨bs,s1⟩:=q;have:=hw _ j;subst this;rw[j]at f;have f:=f;refine(ql f).Y ?_;rintro _ aa _ ⟨rfl,p⟩;rw[bM,X3,a6];refine(L7 H J).Y ?_;rintro _ K _ ⟨rfl,C⟩;have E:=(f.W p).W C;have G:=(z.F (p.V _)).F (C.V _);obtain⟨m,e,L,hm⟩:∃m e:Int,lF t= .tuple #[Δ m,Δ e]/\((gF t=σ m/\e=0)\/(gF t=ν/\e=4)):=by
   unfold lF;cases P:gF t with
   |none=>exact⟨0,4,rfl,.inr ⟨rfl,rfl⟩⟩
   |some m=>exact⟨m,0,rfl,.inl ⟨rfl,rfl⟩⟩
  rw[L,bx,bz];refine aZ (λv M=>K=M/\v= .bool (bl lo hi s).isNone) ?_ ?_
  .rintro _ _ ⟨rfl,rfl⟩;cases a:bl lo hi s with
   |none=>
    rw[Option.isNone_none,bQ];refine(tO E Ω).Y ?_;rintro _ Q _ ⟨N,O⟩;exact⟨⟨G.F (N.Y λr _ h=>.inl h),O⟩,0,n,rfl,λq h=>(by cases h),λ_=>rfl⟩
   |some q=>
    rw[Y2,a6];unfold bl at a;rw[j]at a;simp only at a;rcases hm with⟨hm,_⟩|⟨hm,_⟩
    .rw[hm]at a;simp only at a;split at a
     .cases a;exact⟨⟨G,E⟩,m,n,rfl,λq h=>(by cases h;rfl),λh=>(by cases h)⟩
     .cases a
    .rw[hm]at a;cases a
  .intro ax x;have a:bl lo hi s=match gF t with
     |none=>ν
     |some n=>if lo<=n/\n<=hi then σ (n,s1)else ν:=by
    unfold bl;rw[j];simp only;cases gF t<;>rfl
   rw[bL,am];rcases hm with⟨hm,rfl⟩|⟨hm,rfl⟩
   .rw[hm]at a;simp only at a;refine⟨λh=>ro rfl h,λ_=>?_⟩;rw[aS,am];refine⟨λh=>x _ _ ⟨rfl,by rw[a,rc Ω];rfl⟩,λh=>?_⟩;rw[bU];refine x _ _ ⟨rfl,?_⟩;rw[a];by_cases au:hi<m
    .rw[rs au,rc Ω];rfl
    .rw[s2 au,ms Ω];rfl
   .rw[hm]at a;exact⟨λ_=>x _ _ ⟨rfl,by rw[a];rfl⟩,λh=>ro (by omega:(4:Int)≠0) h⟩
theorem Md{g:Nat}{A:ah}{B:ah}(h:fd w g gs A B):al v8 oI [Γ g,Δ lo,Δ hi] w λv I=>Ext w I/\v= .tuple #[Δ 0,Δ 0]:=by
 refine aB func112 ?_;refine(Mc h).Y ?_;rintro _ U _ ⟨a,rfl⟩;rw[bx,bz];refine(pf (h.W a)).Y ?_;rintro _ aa _ ⟨rfl,e⟩;rw[bM,W6,bQ];exact⟨a.F e,rfl⟩
theorem Me{x:Int}(h:aN .i64 w sv l):al v8 Kj [sv,Δ x] w λv I=>Ext w I/\∃r:Int,v=Δ r/\(0<=r↔x∈l):=by
 refine aB func264 ?_;rw[a1 aw.u h];refine ch.range l.length (λi _ U=>Ext w U/\x∉l.take i) h.le ⟨Ext.refl _,Ξ⟩ ?_ ?_
 .rintro i _ U k hi ⟨a,e⟩ hk;refine bG Ω ?_;obtain⟨y,f⟩:=aD (l:=l) hi;rw[bk aw.u av.i Ψ (h.W a) f,bm,am];refine⟨λhe=>⟨a,i,rfl,⟨λ_=>he▸x7 f,λ_=>Ω⟩⟩,λhe=>?_⟩;rw[aP];refine hk _ _ ⟨a,λhm=>?_⟩;rw[r9,f]at hm;rcases j9.1 hm with hm|hm
  .exact e hm
  .simp at hm;exact he hm
 .rintro _ U k ⟨a,e⟩;rw[j4]at e;rw[aS,am];exact⟨λh=>Ω,λ_=>⟨a,-1,rfl,⟨λh=>Ω,λh=>ro h e⟩⟩⟩
theorem Mf{x:Int}(h:aN .i64 w sv l):al v8 JV [sv,Δ x] w λv I=>v= .bool (decide (x∈l))/\Ext w I:=by
 refine aB func222 ?_;refine(Me h).Y ?_;rintro _ U _ ⟨a,r,rfl,e⟩;rw[cP];exact⟨by congr 1;rw[U8,sp,sp];exact e,a⟩
theorem tQ:∀{l:Λ},(∀z∈l,1<=z)->∀i,aQ ((l.take i).map λk=>min k 4097)<=aQ (l.map λk=>min k 4097)/\1<=aQ ((l.take i).map λk=>min k 4097)
 |[],_,i=>by simp[aQ]
 |z::l,h,0=>by
  have a:=tQ (λx e=>h x (.tail _ e)) l.length;rw[j4]at a;have f:=h z (.head _);simp only[List.take_zero,List.map_nil,T3,aQ];have:=Int.mul_le_mul_of_nonneg_left a.2 (show 0<=min z 4097 by omega);omega
 |z::l,h,i+1=>by
  have a:=tQ (λx e=>h x (.tail _ e)) i;have f:=h z (.head _);simp only[List.take_succ_cons,T3,aQ];have h1:=Int.mul_le_mul_of_nonneg_left a.1 (show 0<=min z 4097 by omega);have j:=Int.mul_le_mul_of_nonneg_left a.2 (show 0<=min z 4097 by omega);exact⟨h1,Ω⟩
theorem Cw(l:Λ)(x:Int):aQ (l++[x])=aQ l*x:=by
 induction l with
 |nil=>simp[aQ]
 |cons a l e=>rw[List.cons_append,aQ,e,aQ,Int.mul_assoc]
theorem Cx(h:aN .i64 w sv l)(h1:∀z∈l,1<=z):al v8 Jl [sv] w λv I=>v= .bool (dy l)/\Ext w I:=by
 refine aB func173 ?_;rw[a1 aw.u h];refine lu.range l.length (λi _ n U=>Ext w U/\n=Δ (aQ ((l.take i).map λk=>min k 4097))/\aQ ((l.take i).map λk=>min k 4097)<=4096) h.le ⟨Ext.refl _,by simp[aQ],by simp[aQ]⟩ ?_ ?_
 .rintro i _ _ U p hi ⟨a,rfl,f⟩ q;refine bG Ω ?_;obtain⟨z,j⟩:=aD (l:=l) hi;have s:=h1 z (x7 j);have x:=tQ h1 i;have y:=tQ h1 (i+1);have e:aQ ((l.take (i+1)).map λk=>min k 4097)=aQ ((l.take i).map λk=>min k 4097)*min z 4097:=by
   rw[r9,j,j6,Z3,T3,List.map_nil,Cw]
  rw[bk aw.u av.i Ψ (h.W a) j,ma,fz,<-e];have A:aQ ((l.take (i+1)).map λk=>min k 4097)<=4096*4097:=by
   rw[e];have B:=Int.mul_le_mul_of_nonneg_right f (show 0<=min z 4097 by omega);have C:=Int.mul_le_mul_of_nonneg_left (show min z 4097<=4097 by omega) (show(0:Int)<=4096 by omega);omega
  rw[m1 Ω Ω,bU,am];refine⟨λr=>⟨?_,a⟩,λr=>?_⟩
  .unfold dy;rw[rs];omega
  .rw[aP];exact q _ _ _ ⟨a,rfl,Ω⟩
 .rintro _ _ U p ⟨a,rfl,f⟩;rw[j4]at f;rw[aS,am];refine⟨λh=>Ω,λ_=>⟨?_,a⟩⟩;unfold dy;rw[s2];omega
def lI(n:Int)(acc:Λ)(s:aJ):Option (Int×aJ):=match bl 0 (n-1) s with
 |none=>ν
 |some (v,s)=>if v∈acc then ν else σ (v,s)
theorem qm{α:Type}{f:List α->aJ->Option (α×aJ)}{acc:List α}{s:aJ}(h:f acc s=ν):cW f (n+1) acc s=ν:=by
 simp only[cW,h]
theorem tR{α:Type}{f:List α->aJ->Option (α×aJ)}{acc:List α}{s s':aJ}{a:α}(h:f acc s=σ (a,s')):cW f (n+1) acc s=cW f n (acc++[a]) s':=by
 simp only[cW,h]
theorem eo.rx{g:Nat}{A:ah}{B:ah}{s:aJ}{a:Bool}(h:eo w g gs A B s a):(∀r,bJ g gs A r->r<w.heap.size)/\(∀r,B r->r<w.heap.size):=⟨h.1.2.2.2.1,h.1.2.2.2.2⟩
theorem Mg{g k:Nat}{A B:ah}{s:aJ}{H:Bool}{m:Int}(h:eo w g gs A B s H)(hk:k<=4611686018427387904)(hm:0<=m/\m<=1000000):
  al v8 AF [Γ g,Δ (k:Int),Δ m] w λv I=>gj w g gs A B H ((fc m k s).map (·.2)) I/\
   ∃gr l,aA .i64 av I gr v l/\(∀r,lw v r->w.heap.size<=r)/\l.length<=100001/\∀q,fc m k s=σ q->l=q.1:=by
 obtain⟨ac,az⟩:=h.rx;have aC:=h.2.1.words.1;refine aB func172 ?_;refine⟨λout Q U=>∃i:Nat,Q=Δ (i:Int)/\i<=k/\af (bJ g gs A) w U/\∃gr l,aA .i64 av U gr out l/\w.heap.size<=gr/\l.length<=100001/\
  ((∃st,eo U g gs A B st H/\cW (lI m) (k-i) l st=fc m k s/\l.length+st.hp.length<=100000)\/(fd U g gs A B/\fc m k s=ν)),λ_ Q _=>k-(bX Q).toNat,
  ⟨0,rfl,W0 _,af.refl _ _,w.heap.size,[],aA.nil _ _ _ _,o4 _,Ξ,.inl ⟨s,h,rfl,by simpa using aC⟩⟩,?_⟩
 rintro out _ U ⟨i,rfl,aD,ad,gr,l,ae,bc,bd,ag⟩;have s1:=ad.size;have R:∀r,lw out r->w.heap.size<=r:=λr y=>by have:=bZ ae y;omega
 refine aZ (λv aa=>Ext U aa/\((v= .bool v2/\i<k/\∃st,eo aa g gs A B st H/\cW (lI m) (k-i) l st=fc m k s/\l.length+st.hp.length<=100000)\/
  (v= .bool v6/\((∃st,eo aa g gs A B st H/\fc m k s=σ (l,st))\/(fd aa g gs A B/\fc m k s=ν))))) ?_ ?_
 rotate_left
 .intro ax L;rw[aS,am];refine⟨λbe=>?_,λbf=>?_⟩
  .rcases ag with⟨st,z,p,S⟩|⟨E,W⟩
   .refine (ql z).Y ?_;rintro _ aa _ ⟨rfl,C⟩;exact L _ _ ⟨C,.inl ⟨rfl,Ω,st,z.W C,p,S⟩⟩
   .refine (pf E).Y ?_;rintro _ aa _ ⟨rfl,C⟩;exact L _ _ ⟨C,.inr ⟨rfl,.inr ⟨E.W C,W⟩⟩⟩
  .have aE:k-i=0:=Ω
   rcases ag with⟨st,z,p,S⟩|aF
   .rw[aE]at p;exact L _ _ ⟨Ext.refl _,.inr ⟨rfl,.inl ⟨st,z,p.symm⟩⟩⟩
   .exact L _ _ ⟨Ext.refl _,.inr ⟨rfl,.inr aF⟩⟩
 rintro _ aa ⟨C,aG⟩;have X:af (bJ g gs A) w aa:=ad.F (C.V _);have M:=ae.W C;rcases aG with⟨rfl,aD,st,z,p,S⟩|⟨rfl,aH⟩
 rotate_left
 .rw[a6];rcases aH with⟨st,z,J⟩|⟨E,J⟩
  .rw[J];exact⟨⟨X,z⟩,gr,l,M,R,Ω,λq f=>by cases f;rfl⟩
  .rw[J];exact⟨⟨X,E⟩,gr,l,M,R,Ω,λq f=>by cases f⟩
 rw[bQ,dx,m1 Ω Ω];have aI:k-i=(k-(i+1))+1:=Ω
 rw[aI]at p;refine(w7 z).Y ?_;rintro _ ai _ ⟨⟨N,O⟩,n,at_,rfl,aK,bg⟩;rw[bx,bz];have aj:∀r,lw out r->¬bJ g gs A r:=λr y aL=>by have:=ac r aL;have:=R r y;omega
 have bh:∀r,g=r->bJ g gs A r:=λr h=>.inl h.symm;refine c7 (λe=>af (bJ g gs A) aa e/\((∃x,eo e g gs A B x H/\cW (lI m) (k-(i+1)) (l++[n]) x=fc m k s/\l.length+1+x.hp.length<=100000)\/(fd e g gs A B/\fc m k s=ν))/\l.length+1<=100001) ?_ ?_
 .rintro e ⟨ak,aM,an⟩;have aN:=bA M ak aj;have ao:=X.F ak;have bi:=ao.size;refine eT aw.u av.i rfl λa ga ap bj G aO=>?_;refine kp aw.u av.i rfl (aN.W G) aO.ls Θ Θ λaQ aR aT bk aU Y=>?_;have bm:=G.size;rw[aP,m1 Ω Ω];have aV:af (bJ g gs A) w aT:=iB (ao.F (G.V _)) Y λr y he=>by have he:r=gr:=he;omega
  have aq:∀r,bJ g gs A r->¬(λr=>r=gr) r:=λr y he=>by have:=ac r y;have he:r=gr:=he;omega
  have au:∀r,cU g gs A B r->¬(λr=>r=gr) r:=λr y he=>by have:=az r y.2;have he:r=gr:=he;omega
  refine⟨⟨i+1,rfl,Ω,aV,aR,l++[n],aU,Ω,Θ,?_⟩,by simp only[bX];omega⟩;rcases aM with⟨x,P,aW,bn⟩|⟨aX,W⟩
  .exact .inl ⟨x,(P.W G).V Y aq au,aW,Θ⟩
  .exact .inr ⟨(aX.W G).V Y aq au,W⟩
 .intro bo Z;cases f:bl 0 (m-1) st with
  |none=>
   rw[f]at O;have E:=O;have K:lI m l st=ν:=by unfold lI;rw[f]
   have J:fc m k s=ν:=by rw[<-p];exact qm K
   refine aZ (λv e=>Ext ai e/\v= .bool v6) ?_ ?_
   rotate_left
   .intro aY ab;refine(pf E).Y ?_;rintro _ e _ ⟨rfl,j⟩;rw[a6];exact ab _ _ ⟨j,rfl⟩
   rintro _ e ⟨j,rfl⟩;rw[a6];exact Z _ ⟨N.F (j.V _),.inr ⟨E.W j,J⟩,Ω⟩
  |some q=>
   obtain⟨aQ,x⟩:=q;have a1:=aK _ f;subst a1;rw[f]at O;have ay:=O;have a2:=dG f;have an:l.length+1+x.hp.length<=100000:=by have:=a2.1;omega
   refine aZ (λv e=>Ext ai e/\v= .bool (decide (n∈l))) ?_ ?_
   rotate_left
   .intro aY ab;refine(ql ay).Y ?_;rintro _ e _ ⟨rfl,j⟩;rw[bQ];refine(Mf ((bA M N aj).W j).ls).Y ?_;rintro _ ap _ ⟨rfl,G⟩;exact ab _ _ ⟨j.F G,rfl⟩
   rintro _ e ⟨j,rfl⟩;have P:=ay.W j;rw[am];refine⟨λa7=>?_,λa8=>?_⟩
   .have K:lI m l st=ν:=by unfold lI;rw[f];simp only;rw[ms a7]
    refine(tO P Ω).Y ?_;rintro _ ap _ ⟨ba,bb⟩;exact Z _ ⟨(N.F (j.V _)).F (ba.Y λr _ h=>.inl h),.inr ⟨bb,by rw[<-p];exact qm K⟩,Ω⟩
   .have K:lI m l st=σ (n,x):=by unfold lI;rw[f];simp only;rw[rc a8]
    exact Z _ ⟨N.F (j.V _),.inl ⟨x,P,by rw[<-p];exact(tR K).symm,an⟩,Ω⟩
theorem n0{a b:Int}(e:0<=a/\a<=4294967296)(f:0<=b/\b<=4294967296):al v8 HT [Δ a,Δ b,Δ k] w λv I=>v=Δ (min (a+b) k)/\Ext w I:=by
 refine aB func31 ?_;simp only[aP,bU,am];rw[m1 Ω Ω];exact⟨λh=>⟨by rw[Int.min_eq_right Ω],Ext.refl _⟩,λh=>⟨by rw[Int.min_eq_left Ω],Ext.refl _⟩⟩
def ry(a b k:Int):x4:=if cG a k/\cG b k then .tuple #[Δ (min (a+b) k),Δ 0]else .tuple #[Δ 0,Δ 3]
theorem Cy{a b:Int}:al v8 AN [Δ a,Δ b,Δ k] w λv I=>v=ry a b k/\Ext w I:=by
 refine aB func215 ?_;refine aZ (λv U=>Ext w U/\v= .bool (decide (¬(cG a k/\cG b k)))) ?_ ?_
 .rintro _ U ⟨e,rfl⟩;simp only[am,aP,ma];refine⟨λh=>⟨by unfold ry;rw[rc h],e⟩,λh=>?_⟩;have h:=X5.1 h;obtain⟨⟨h1,r⟩,s,x⟩:=id h;have:=h1.2;rw[m1 Ω Ω];exact⟨by unfold ry;rw[ms h],e⟩
 .intro ax f;refine kU.Y ?_;rintro _ aa _ ⟨rfl,j⟩;simp only[bM,b4];refine⟨λh=>f _ _ ⟨j,?_⟩,λh=>?_⟩
  .have:¬cG a k:=by simpa using h
   rw[rs];exact λh=>this h.1
  .have p:cG a k:=by simpa using h
   refine kU.Y ?_;rintro _ y _ ⟨rfl,q⟩;simp only[bM];exact f _ _ ⟨j.F q,by simp[p]⟩
theorem Mh(h:aN .i64 w sv l)(f:l≠[]):
  al v8 Kr [sv] w λv I=>v=Δ (wY l)/\Ext w I:=by
 obtain⟨x,l,rfl⟩:∃x r,l=x::r:=by cases l with
  |nil=>exact ro rfl f
  |cons x r=>exact⟨x,r,rfl⟩
 have j:=h.le;refine aB func284 ?_;refine c7 (λU=>w=U) ?_ ?_
 .rintro _ rfl;rw[fM (y:=0) (i:=0) rfl aw.u av.i Ψ h (by rfl)];refine⟨λm i aa=>Ext w aa/\∃k:Nat,i=Δ (k+1:Nat)/\k<=l.length/\m=Δ ((l.take k).foldl min x),λ_ i _=>l.length+1-(bX i).toNat,⟨Ext.refl _,0,rfl,W0 _,rfl⟩,?_⟩;rintro _ _ aa ⟨a,k,rfl,hk,rfl⟩;rw[a1 aw.u (h.W a)];simp only[Y0,aS,am]at j ⊢;refine⟨λq=>?_,λs=>⟨?_,a⟩⟩
  .obtain⟨y,e⟩:=aD (l:=l) (i:=k) Ω;rw[bk aw.u av.i Ψ (h.W a) (show(x::l)[k+1]?=σ y from e),ma];simp only[aP];rw[m1 Ω Ω];refine⟨⟨a,k+1,by congr 1,Ω,?_⟩,?_⟩
   .rw[r9,e,S3];rfl
   .simp only[bX];omega
  .have:k=l.length:=Ω
   subst this;rw[j4];rfl
 .intro ax p;rw[a1 aw.u h];simp only[aS,am];exact⟨λh=>by simp at h;omega,λ_=>p _ rfl⟩
theorem Cz{g a:Nat}{cs:Λ}(h:dh w g a sv aj k cs):al v8 ws [Γ g] w λv I=>v=Δ k/\Ext w I:=by
 obtain⟨⟨ba,gs,e,hm,f⟩,_⟩:=h;refine aB func249 ?_;rw[dg fa.u];simp only[Y2,a6];rw[aK c5.p 1 e rfl];exact⟨rfl,Ext.refl _⟩
theorem n1{g e:Nat}{cs:Λ}(h:dh w g e sv aj k cs):
  al v8 IL [Γ g] w λv I=>Ext w I/\∃a,w.heap.size<=a/\aA .i64 av I a v cs:=by
 obtain⟨⟨ba,gs,f,hm,j⟩,⟨_,_,ac⟩,J,q⟩:=h;refine aB func127 ?_;rw[dg fa.u];simp only[Y2,a6];rw[aK c5.p 2 f rfl];exact wG j.ls Ω
theorem qn{g f:Nat}{cs:Λ}(h:dh w g f sv aj k cs):
  al v8 JG [Γ g] w λv I=>v= .agg #[sv]/\Ext w I:=by
 obtain⟨⟨ba,gs,q,hm,A⟩,_⟩:=h;have s:=hm.ls.cells;refine aB func203 ?_;refine bF bH.i λB U C e x=>?_;rw[dg fa.u];simp only[Y2,a6];rw[bY,aU c5.p rfl,bC (cs:=[sv]) bH.p bH.i rfl (o1 (q.W e) (by
  intro j v a
  match j,a with
  |0,a=>exact a))]
 refine b6 (vs:=[sv]) bH.i rfl rfl (by intro u hu;simp at hu;subst hu;exact s.2) x λE y G z=>?_;rw[fi bH.p bH.i rfl z.range];exact⟨rfl,e.then y (by rintro r H rfl;omega)⟩
theorem CA(h:aN .i64 w sv aj)(q:aj.length<=1000):al v8 AS [.agg #[sv]] w λv I=>Ext w I/\∃a,w.heap.size<=a/\aA .i64 ai I a v aj:=by
 refine aB func248 ?_;refine bp λg U r e f=>?_;rw[aL bH.p 0 f rfl];refine(mh (h.W e) Ω).Y ?_;rintro v aa _ ⟨j,a,s,hm⟩;have s1:=e.size;exact⟨e.F j,a,Ω,hm⟩
theorem CB(h:aN .i64 w sv aj):al v8 Kn [.agg #[sv]] w λv I=>v=Δ aj.length/\Ext w I:=by
 refine aB func271 ?_;refine bp λg U f a e=>?_;rw[aL bH.p 0 e rfl,a1 aq.u (h.W a)];exact⟨rfl,a⟩
def jb(aj:Λ)(i:Int):Int:=if 0<=i then aj.getD i.toNat 0 else 0
theorem rz{i:Int}(h:aN .i64 w sv aj):al v8 Ko [.agg #[sv],Δ i] w λv I=>v=Δ (jb aj i)/\Ext w I:=by
 refine aB func272 ?_;refine bp λg U r a e=>?_;refine aZ (λv aa=>v= .bool (decide (i<0\/(aj.length:Int)<=i))/\U=aa) ?_ ?_
 .rintro _ _ ⟨rfl,rfl⟩;simp only[am];refine⟨λh=>⟨?_,a⟩,λq=>?_⟩
  .unfold jb;split
   .rw[u5,Y5 Ω];rfl
   .rfl
  .rw[aL bH.p 0 e rfl];obtain⟨n,rfl⟩:∃n:Nat,i=n:=⟨i.toNat,Ω⟩;have f:n<aj.length:=Ω
   rw[bk aq.u ai.i Ψ (h.W a) (x8 f)];refine⟨?_,a⟩;unfold jb;rw[ms Ω,u5,u9,x8 f];rfl
 .intro ax j;simp only[aS,am];refine⟨λh=>j _ _ ⟨by rw[rs];omega,rfl⟩,λq=>?_⟩;rw[aL bH.p 0 e rfl,a1 aq.u (h.W a)];simp only[cP];exact j _ _ ⟨by congr 1;simp;omega,rfl⟩
theorem w8{g B0:Nat}(J:cg aj):
  pT v8 m4 [Γ g] (aQ aj).toNat (λk vs w=>∃aT gt,vs=[Δ (k:Int),aT]/\B0<=gt/\aA .i64 ai w gt aT (dn aj k))
   (λw=>ag w g bH [sv]/\aN .i64 w sv aj/\B0<=w.heap.size):=by
 refine⟨m4.enters,λl ax P w r _ z ⟨s,x,A⟩ B=>?_⟩;have ac:=prod_bound J;refine q8 func95 ?_;rw[bC bH.p bH.i rfl s.range];refine(p8 x J).free.Y ?_;rintro _ U ⟨C,rfl,a⟩;refine bW.range (aQ aj).toNat (λi aa=>ax i aa/\ag aa g bH [sv]/\aN .i64 aa sv aj/\B0<=aa.heap.size) Ω ⟨r 0 _ _ a C.b B,s.W a,x.W a,X1 A a.size⟩ ?_ ?_
 .rintro i aa k hi ⟨f,j,q,y⟩ hk;simp only[aS,am];refine⟨λ_=>?_,λh=>Ω⟩;rw[bC bH.p bH.i rfl j.range];refine(KX q J Ω Ω).free.Y ?_;rintro _ E ⟨G,e,aT,gt,rfl,H,I⟩;rw[bx,bz];refine⟨rfl,(z i _ E hi ⟨j.W e,q.W e,X1 y e.size⟩ ⟨aT,gt,rfl,X1 y H,I⟩ (r _ _ _ e G.b f)).Y ?_⟩;rintro _ Q (⟨rfl,⟨K,L,M⟩,N⟩|⟨rfl,O⟩)
  .simp only[bM,X3,a6,aP];exact hk _ ⟨N.1,K,L,M⟩
  .simp only[bM,W6,bQ];exact .inr ⟨i,hi,O⟩
 .rintro aa k ⟨f,j,q,_⟩;simp only[aS,am];exact⟨λh=>Ω,λ_=>.inl f⟩
theorem w9:al v8 HZ [.agg #[sv]] w λr I=>Ext w I/\∃g,r= .func (.func m4) #[] #[Γ g]/\w.heap.size<=g/\ag I g bH [sv]:=by
 refine aB func50 ?_;refine bp λg U f a e=>?_;rw[mb];exact⟨a,g,rfl,Ω,e⟩
end Go.Proofs.YtnhkbjhpbbobaaaGreatDoor
namespace Go.Vc
open Go Go.RowKit
set_option maxRecDepth 100000
section
variable{P:V3}{w:x5}
theorem aF.cB{α:Type}{s:Sem α}{K:α->x5->Prop}(h:aF P s w λv I=>cO w I->K v I):aF P s w K:=by
 obtain⟨v,I,h1,a,e⟩:=h;exact⟨v,I,h1,a,e a⟩
structure Keys(P:V3)(k:o5)(G:x4->Prop):Prop where
 check:∀(w:x5)(em:Bool){v:x4},G v->(Instr.checkKey em 10000 k v).run P w= .ok () w
 find:∀(w:x5){x:x4},G x->∀es:List MapEntry,(∀e∈es,G e.key)->
  ((Instr.findKey k x es).run P w= .ok ν w/\∀e∈es,e.key≠x)\/∃j e,(Instr.findKey k x es).run P w= .ok (σ (j,e.val)) w/\es[j]?=σ e/\e.key=x
 stays:∀(w:x5){v:x4},G v->(Instr.keyThatStays v v).run P w= .ok v w
theorem Keys.law{k:o5}(K:WideMaps.KeyLaw P k):Keys P k λv=>∃l,keyOf P k v=σ l:=
 ⟨λw a _ ⟨_,h⟩=>K.check w a h,λw _ ⟨_,h⟩ e f=>K.find w h e f,λw _ ⟨_,h⟩=>K.stays w h⟩
theorem Keys.int{k:o5}{a:j0}(hk:P.underlying k=σ (.int a)):Keys P k λv=>∃n,v= .int a n:=by
 have key:∀n,MapKept.IsKey (.int a) (.int a n):=λn=>rfl;refine⟨λw p v ⟨n,h⟩=>?_,λw x ⟨n,h⟩ q r=>?_,λw v ⟨n,h⟩=>?_⟩
 .subst h;exact MapKept.run_checkKey hk (key n) p 9999
 .subst h;rcases MapKept.findNow_spec (key n) q 0 (λe he=>by obtain⟨m,h⟩:=r e he;rw[h];exact key m)with⟨h1,f⟩|⟨j,e,h1,f,s⟩
  .exact .inl ⟨MapKept.run_findKey hk h1,f⟩
  .exact .inr ⟨j,e,by have:=MapKept.run_findKey (P:=P) (w:=w) hk h1;simpa using this,f,s⟩
 .subst h;exact MapKept.run_keyThatStays (key n)
def gT(e:MapEntry):x4×x4:=(e.key,e.val)
def dd(w:x5)(m:Nat)(d:List (x4×x4)):Prop:=∃a e,w.heap[m]?=σ (.map a e)/\MapKept.Stamped a e/\a.toList.map gT=d
theorem dd.W{m:Nat}{d:List (x4×x4)}(h:dd w m d)(a:Ext w I):dd I m d:=by
 obtain⟨e,c,h1,f⟩:=h;exact⟨e,c,a.aY m _ h1 rfl,f⟩
theorem dd.V{m:Nat}{d:List (x4×x4)}(h:dd w m d)(a:af S w I)(e:¬S m):dd I m d:=by
 obtain⟨f,c,h1,j⟩:=h;exact⟨f,c,a.aY m _ h1 rfl e,j⟩
theorem dd.lt{m:Nat}{d:List (x4×x4)}(h:dd w m d):m<w.heap.size:=by
 obtain⟨a,c,h1,e⟩:=h;exact(b8.1 h1).1
theorem dd.nodup{m:Nat}{d:List (x4×x4)}(h:dd w m d):(d.map (·.1)).Nodup:=by
 obtain⟨e,c,_,⟨_,_,a⟩,rfl⟩:=h;rw[S6];exact a
theorem lJ{α:Type}{l:List α}(h:l.Nodup){i:Nat}{x:α}(hi:l[i]?=σ x)(p:l[j]?=σ x):i=j:=by
 have a:=x6.1 hi;have e:=x6.1 p;have ac:=U5.1 h;rcases Nat.lt_trichotomy i j with f|rfl|f
 .exact ro (a.2.F e.2.symm) (ac i j a.1 e.1 f)
 .rfl
 .exact ro (e.2.F a.2.symm) (ac j i e.1 a.1 f)
theorem n2{α β:Type}(f:α->β):∀(l:List α)(i:Nat),(l.map f).eraseIdx i=(l.eraseIdx i).map f
 |[],_=>Ξ
 |_::_,0=>rfl
 |x::l,i+1=>by simp[n2 f l i]
theorem dd.uniq{m:Nat}{d:List (x4×x4)}(h:dd w m d){i:Nat}{p q:x4×x4}(hi:d[i]?=σ p)(a:d[j]?=σ q)(he:p.1=q.1):i=j:=by
 have e:=h.nodup;have h1:(d.map (·.1))[i]?=σ p.1:=by rw[u4,hi];rfl
 have f:(d.map (·.1))[j]?=σ p.1:=by rw[u4,a,he];rfl
 exact lJ e h1 f
theorem tS{m:Nat}{q:Array MapEntry}{c:Nat}(h:w.heap[m]?=σ (.map q c))(a:Array MapEntry)(e:Nat):
  af (λr=>r=m) w {w with heap:=w.heap.setIfInBounds m (.map a e)}/\cO w {w with heap:=w.heap.setIfInBounds m (.map a e)}/\({w with heap:=w.heap.setIfInBounds m (.map a e)}:x5).heap[m]?=σ (.map a e):=by
 have J:=MapKept.heap_set (o':=.map a e) h;refine⟨⟨Ξ,λr o f j s=>?_⟩,⟨rfl,.ln,rfl,Ξ,λr o f j=>?_⟩,J.1⟩
 .show (w.heap.setIfInBounds m _)[r]?=σ o;rw[J.2 r s];exact f
 .show (w.heap.setIfInBounds m _)[r]?=σ o;by_cases p:r=m
  .subst p;rw[h]at f;cases f;cases j
  .rw[J.2 r p];exact f
theorem tT{K:x4->x5->Prop}(h:∀m I,m=w.heap.size->Ext w I->dd I m []->K (.map (σ m)) I):aF P (Instr.makeMap t ν) w K:=by
 refine .of (run_makeMap t w) (pW w _) (h _ _ rfl (pV w _) ⟨#[],0,?_,MapKept.stamped_empty 0,rfl⟩);exact heap_alloc_new w _
variable{k e:o5}{G:x4->Prop}
theorem rA{c:Bool}{m:Nat}{d:List (x4×x4)}{x:x4}(y:P.underlying t=σ (.map k e))(hk:Keys P k G)(hm:dd w m d)(z:∀p∈d,G p.1)(q:G x)(a:d[j]?=σ (x,v)):
  ab P (Instr.lookup t (.map (σ m)) x c) w K=K (if c then .tuple #[v,.bool v2]else v):=ab.of λI A=>by
 obtain⟨f,B,r,C,rfl⟩:=hm.W A;have E:∀e∈f.toList,G e.key:=λe he=>z (gT e) (j5.2 ⟨e,he,rfl⟩);rcases hk.find I q f.toList E with⟨_,h⟩|⟨i,s,h1,h,F⟩
 .rw[u4]at a;obtain⟨H,J,L⟩:=Y9.1 a;exact ro (congrArg Prod.fst L) (h H (x7 J))
 .have M:s.val=v:=by
   have hi:(f.toList.map gT)[i]?=σ (gT s):=by rw[u4,h];rfl
   have N:dd I m (f.toList.map gT):=⟨f,B,r,C,rfl⟩;have:=N.uniq hi a F;subst this;rw[hi]at a;exact congrArg Prod.snd (Z4 a)
  simp only[Instr.lookup,W9,run_underlying y,V1,MapKept.run_getObj_map r,V8,hk.check I _ q,h1,M]
theorem tU{c:Bool}{m:Nat}{d:List (x4×x4)}{x:x4}(r:P.underlying t=σ (.map k e))(hk:Keys P k G)(a:∃s b,aR P e s b z)(hm:dd w m d)(y:∀p∈d,G p.1)(f:G x)(A:∀p∈d,p.1≠x):
  ab P (Instr.lookup t (.map (σ m)) x c) w K=K (if c then .tuple #[z,.bool v6]else z):=ab.of λI B=>by
 obtain⟨h,J,C,L,rfl⟩:=hm.W B;have E:∀e∈h.toList,G e.key:=λe he=>y (gT e) (j5.2 ⟨e,he,rfl⟩);have F:(zeroValue e).run P I= .ok z I:=by
  obtain⟨s,b,i,hi,_,_,a⟩:=a;simp[zeroValue,typeInfo,hi,a]
 rcases hk.find I f h.toList E with⟨h1,j⟩|⟨i,q,h1,j,H⟩
 .simp only[Instr.lookup,W9,run_underlying r,V1,MapKept.run_getObj_map C,V8,hk.check I _ f,h1,F]
 .exact ro H (A (gT q) (j5.2 ⟨q,x7 j,rfl⟩))
theorem Mi{a:Array MapEntry}{e:MapEntry}{f:MapEntry->MapEntry}(h:a[j]?=σ e):(a.modify j f).toList.map gT=(a.toList.map gT).set j (gT (f e)):=by
 refine X0 λi=>?_;simp only[u4,Q0,Array.getElem?_modify,Y7,r8,Array.length_toList];by_cases p:j=i
 .subst p;have:=(b8.1 h);simp[this.1,this.2]
 .simp[p]
theorem rB{m:Nat}{d:List (x4×x4)}{x:x4}{K:Unit->x5->Prop}(C:P.underlying t=σ (.map k e))(hk:Keys P k G)(hm:dd w m d)(L:∀p∈d,G p.1)(h:G x)(h1:∀j v0 I,d[j]?=σ (x,v0)->dd I m (d.set j (x,v))->af (λr=>r=m) w I->K () I)(M:∀I,(∀p∈d,p.1≠x)->dd I m (d++[(x,v)])->af (λr=>r=m) w I->K () I):aF P (Instr.mapUpdate t (.map (σ m)) x v) w K:=by
 obtain⟨f,q,a,E,rfl⟩:=hm;have N:∀e∈f.toList,G e.key:=λe he=>L (gT e) (j5.2 ⟨e,he,rfl⟩);rcases hk.find w h f.toList N with⟨s,F⟩|⟨i,H,s,hi,he⟩
 .obtain⟨y,z,A⟩:=tS a (f.push {key:=x,val:=v,born:=q}) (q+1);refine .of ?_ z (M _ (λp ac=>?_) ⟨_,_,A,MapKept.stamped_push E F,by simp[gT]⟩ y)
  .simp only[Instr.mapUpdate,W9,run_underlying C,V1,MapKept.run_getObj_map a,hk.check w _ h,s,MapKept.run_setObj_map _ a]
  .obtain⟨O,Q,rfl⟩:=j5.1 ac;exact F O Q
 .have B:f[i]?=σ H:=by simpa using hi
  obtain⟨y,z,A⟩:=tS a (f.modify i λe=>{e with key:=x,val:=v}) q;refine .of ?_ z (h1 i H.val _ (by rw[u4,hi];simp[gT,he]) ⟨_,_,A,MapKept.stamped_modify E _ _ (λ_ _=>rfl) (λR _ J=>by rw[B]at J;cases J;exact he.symm),Mi B⟩ y);simp only[Instr.mapUpdate,W9,run_underlying C,V1,MapKept.run_getObj_map a,hk.check w _ h,s,B,Y3,W7,he,hk.stays w h,MapKept.run_setObj_map _ a]
theorem Mj{E F:o5}{m:Nat}{d:List (x4×x4)}{x:x4}{K:x4->x5->Prop}(A:P.underlying t=σ (.map k e))(hk:Keys P k G)(hm:dd w m d)(H:∀p∈d,G p.1)(h:G x)(h1:∀j v0 I,d[j]?=σ (x,v0)->dd I m (d.eraseIdx j)->af (λr=>r=m) w I->K (.tuple #[]) I)(J:∀I,(∀p∈d,p.1≠x)->dd I m d->af (λr=>r=m) w I->K (.tuple #[]) I):aF P (Y1.delete_ #[t,E] F #[.map (σ m),x]) w K:=by
 obtain⟨f,B,a,C,rfl⟩:=hm;have L:∀e∈f.toList,G e.key:=λe he=>H (gT e) (j5.2 ⟨e,he,rfl⟩);rcases hk.find w h f.toList L with⟨q,M⟩|⟨i,N,q,hi,he⟩
 .obtain⟨s,y,z⟩:=tS a f B;refine .of ?_ y (J _ (λp ac=>?_) ⟨_,_,z,C,rfl⟩ s)
  .simp only[Y1.delete_,List.getElem?_toArray,List.getElem?_cons_zero,List.getElem?_cons_succ,W9,run_underlying A,V1,MapKept.run_getObj_map a,hk.check w _ h,q,MapKept.run_setObj_map _ a,V8]
  .obtain⟨O,Q,rfl⟩:=j5.1 ac;exact M O Q
 .obtain⟨s,y,z⟩:=tS a (f.eraseIdxIfInBounds i) B;refine .of ?_ y (h1 i N.val _ (by rw[u4,hi];simp[gT,he]) ⟨_,_,z,MapKept.stamped_erase C _,by rw[n2];simp⟩ s);simp only[Y1.delete_,List.getElem?_toArray,List.getElem?_cons_zero,List.getElem?_cons_succ,W9,run_underlying A,V1,MapKept.run_getObj_map a,hk.check w _ h,q,MapKept.run_setObj_map _ a,V8]
theorem Mk{a:o5}{m:Nat}{d:List (x4×x4)}(f:P.underlying t=σ (.map k e))(hm:dd w m d):ab P (V0 #[t] a #[.map (σ m)]) w K=K (Δ d.length):=ab.of λI h=>by
 obtain⟨p,q,j,r,rfl⟩:=hm.W h;simp[V0,run_underlying f,MapKept.run_getObj_map j,goInt]
def iE(w:x5)(j m:Nat)(d left:List (x4×x4))(q:Option (x4×x4)):Prop:=∃a f seen fk,w.heap[m]?=σ (.map a f)/\MapKept.Stamped a f/\a.toList.map gT=d/\
 w.heap[j]?=σ (.mapIter (σ m) f seen fk)/\f<=fk/\(leftOf a seen).toList.map gT=left/\∀p,q=σ p->fk=f/\∃h,a.toList.find? (λe=>e.born == seen.back?.getD 0)=σ h/\seen.back? =σ h.born/\gT h=p
theorem iE.map{a m:Nat}{d left:List (x4×x4)}{e:Option (x4×x4)}(h:iE w a m d left e):dd w m d:=by
 obtain⟨f,c,_,_,h1,j,p,_⟩:=h;exact⟨f,c,h1,j,p⟩
theorem iE.aY{a m:Nat}{d left:List (x4×x4)}{e:Option (x4×x4)}(h:iE w a m d left e)(f:af S w I)(hm:¬S m)(hi:e8 w I):iE I a m d left e:=by
 obtain⟨j,c,s,fk,h1,p,q,r,x⟩:=h;exact⟨j,c,s,fk,f.aY m _ h1 rfl hm,p,q,hi a _ r rfl,x⟩
theorem iE.W{a m:Nat}{d left:List (x4×x4)}{e:Option (x4×x4)}(h:iE w a m d left e)(f:Ext w I)(hi:e8 w I):iE I a m d left e:=
 h.aY (f.V λ_=>False) (λh=>h) hi
theorem Ml(a:Array MapEntry):leftOf a #[]=a:=by
 unfold leftOf;exact Array.filter_eq_self.2 λx e=>Ξ
theorem CC{m:Nat}{d:List (x4×x4)}{K:x4->x5->Prop}(r:P.underlying t=σ (.map k e))(hm:dd w m d)(h:∀a I,a=w.heap.size->Ext w I->e8 w I->iE I a m d d ν->K (Γ a) I):aF P (Instr.range t (.map (σ m))) w K:=by
 obtain⟨j,f,q,s,rfl⟩:=hm;refine .of (run_range_map w t k e m j f r q) (pW w _) (h _ _ rfl (pV w _) (pW w _).lp ⟨j,f,#[],f,(pV w _).aY m _ q rfl,s,rfl,heap_alloc_new w _,o4 _,by rw[Ml],λp ac=>by cases ac⟩)
theorem CD:∀(l:List MapEntry)(j:Nat)(a:MapEntry),(l.map (·.born)).Nodup->l[j]?=σ a->l.filter (λx=>!(x.born == a.born))=l.eraseIdx j
 |[],j,a,_,h=>by simp at h
 |x::l,0,a,f,h=>by
  simp at h;subst h;have e:=List.nodup_cons.1 (by simpa using f:(x.born::l.map (·.born)).Nodup);simp only[List.filter_cons,beq_self_eq_true,X3,Bool.false_eq_true,if_false,List.eraseIdx_cons_zero];refine List.filter_eq_self.2 λy p=>?_;have:y.born≠x.born:=λhe=>e.1 (he▸j5.2 ⟨y,p,rfl⟩);simpa using this
 |x::l,j+1,a,f,h=>by
  simp at h;have e:=List.nodup_cons.1 (by simpa using f:(x.born::l.map (·.born)).Nodup);have q:x.born≠a.born:=λhe=>e.1 (he▸j5.2 ⟨a,x7 h,rfl⟩);have r:=CD l j a e.2 h;simp only[List.filter_cons,List.eraseIdx_cons_succ,r];simp[q]
theorem CE{free:fJ}{a m:Nat}{d left:List (x4×x4)}{T:Option (x4×x4)}{K:x4->x5->Prop}(h:iE w a m d left T)(A:free.1=v6->free.2<=a)(V:left=[]->K (.tuple #[.bool v6]) w)(h1:∀j p I,left[j]?=σ p->Ext w I->cL a w I->iE I a m d (left.eraseIdx j) (σ p)->K (.tuple #[.bool v2,p.1,p.2]) I):sH P free (Instr.next (Γ a) v6 0) w K:=by
 obtain⟨s,q,seen,fk,B,E,rfl,hi,W,rfl,_⟩:=h;have M:∀x∈s.toList,x.born<q:=E.1;have N:=E.2.1;have O:∀x∈(leftOf s seen).toList,x.born<q:=λx z=>M x (mem_left z).1;have X:∀(U:x5)(o':Obj),U.heap=w.heap->(setObj a o').run P U= .ok () {U with heap:=U.heap.setIfInBounds a o'}:=λU o' he=>by
  simp only[setObj,Sem.run];rw[he,hi]
 unfold sH;simp only[Instr.next,getObj,W9,Sem.run,hi,B,V1,next_test_false seen s q fk M W,Bool.false_eq_true,if_false];have Y:Array.filter (λe=>!seen.contains e.born) s=leftOf s seen:=rfl;rw[Y];have Z:((leftOf s seen).toList.map (·.born)).Nodup:=by
  unfold leftOf;rw[Array.toList_filter];exact(List.Sublist.map _ List.filter_sublist).nodup N
 have aa:∀C:MapEntry,leftOf s (seen.push C.born)=(leftOf s seen).filter λx=>!(x.born == C.born):=λC=>by
  unfold leftOf;rw[Array.filter_filter];congr 1;funext x;rw[contains_push];cases seen.contains x.born<;>cases x.born == C.born<;>rfl
 generalize ab:leftOf s seen=L at*;have ad:L.filter (λx=>decide (x.born<q))=L:=Array.filter_eq_self.2 (λx z=>by simpa using O x (by simpa using z));have ae:L.filter (λx=>decide (x.born≥q))= #[]:=by
  rw[Array.filter_eq_empty_iff];intro x z;have:=O x (by simpa using z);simp;omega
 simp only[ad,ae,Array.append_empty];by_cases Q:L.size=0
 .have af:=Array.eq_empty_of_size_eq_zero Q;subst af;refine⟨.tuple #[.bool v6],w,?_,λ_=>cL.refl _ _,V rfl⟩;simp[choose,Sem.run,Question.forced]
 .have ag:L.isEmpty=v6:=by simp[Array.isEmpty,Q]
  simp only[ag,Bool.false_eq_true,if_false,Array.empty_append,Array.size_map];have ah:∃(j:Nat)(n:Nat),j<L.size/\w.drawn<=n/\(choose (Question.mapNext L.size)).run P w= .ok j {w with drawn:=n}:=by
   by_cases A:L.size<=1
   .exact⟨0,w.drawn,Ω,o4 _,by simp[choose,Sem.run,Question.forced,A]⟩
   .exact⟨_,w.drawn+1,Nat.mod_lt _ Ω,Nat.le_succ _,by
     simp only[choose,Sem.run,Question.forced,sp,A,if_false,Question.cut];rfl⟩
  obtain⟨j,n,F,R,ai⟩:=ah;have S:L.toList[j]?=σ L[j]:=by simp[F]
  have aj:=(mem_left (by rw[ab];exact Array.mem_toList_iff.2 (Array.getElem_mem F))).1;refine⟨.tuple #[.bool v2,L[j].key,L[j].val],{w with drawn:=n,heap:=w.heap.setIfInBounds a (.mapIter (σ m) q (seen.push L[j].born) q)},?_,?_,?_⟩
  .have J:=X {w with drawn:=n} (.mapIter (σ m) q (seen.push L[j].born) q) rfl;simp only[ai,Array.getElem?_map,Array.getElem?_eq_getElem F,Y3,W9,J,V1,V8]
  .intro ak;have:=A ak;refine⟨rfl,⟨rfl,R⟩,rfl,Ξ,λr o f G=>?_,λr o al f H=>?_⟩
   .show (w.heap.setIfInBounds a _)[r]?=σ o;by_cases y:r=a
    .subst y;rw[hi]at f;cases f;cases G
    .rw[(MapKept.heap_set hi).2 r y];exact f
   .show (w.heap.setIfInBounds a _)[r]?=σ o;rw[(MapKept.heap_set hi).2 r Ω];exact f
  .refine h1 j (gT L[j]) _ (by rw[u4,S];rfl) ⟨Ξ,λr o f H=>?_⟩ ⟨rfl,⟨rfl,R⟩,rfl,Ξ,λr o f G=>?_,λr o al f H=>?_⟩ ⟨s,q,seen.push L[j].born,q,?_,E,rfl,?_,o4 _,?_,λp ac=>⟨rfl,L[j],?_,Ξ,Z4 ac⟩⟩
   .show (w.heap.setIfInBounds a _)[r]?=σ o;by_cases y:r=a
    .subst y;rw[hi]at f;cases f;cases H
    .rw[(MapKept.heap_set hi).2 r y];exact f
   .show (w.heap.setIfInBounds a _)[r]?=σ o;by_cases y:r=a
    .subst y;rw[hi]at f;cases f;cases G
    .rw[(MapKept.heap_set hi).2 r y];exact f
   .show (w.heap.setIfInBounds a _)[r]?=σ o;rw[(MapKept.heap_set hi).2 r Ω];exact f
   .show (w.heap.setIfInBounds a _)[m]?=_;rw[(MapKept.heap_set hi).2 m (λhe=>by subst he;rw[hi]at B;cases B)];exact B
   .exact (MapKept.heap_set hi).1
   .rw[aa,Array.toList_filter,CD _ _ _ Z S,n2]
   .simp only[Array.back?_push,W7];exact find_born _ _ N aj
theorem CF{a m:Nat}{d left:List (x4×x4)}{p:x4×x4}{K:x4->x5->Prop}(h:iE w a m d left (σ p))(f:K (.tuple #[p.1,p.2]) w):aF P (Instr.entry (Γ a)) w K:=by
 obtain⟨r,s,seen,fk,j,x,rfl,hi,y,rfl,q⟩:=h;obtain⟨rfl,z,h1,e,rfl⟩:=q p rfl;refine .of ?_ (cO.refl _) f;rw[e]at h1;simp only[Instr.entry,getObj,W9,Sem.run,hi,j,V1,e,bne_self_eq_false,Bool.false_eq_true,if_false,<-Array.find?_toList];simp only[W7]at h1;rw[h1];rfl
end
end Go.Vc
namespace Go.Proofs.YtnhkbjhpbbobaaaGreatDoor
open Go Go.Vc Go.RowKit Go.Proofs Go.Proofs.Tryz
set_option maxRecDepth 100000
def ep(a:Λ):x4:=.agg (ints .i8 a).toArray
def nl(a:Λ):Prop:=a.length=6/\∀x∈a,0<=x/\x<32
theorem Mm{b:Λ}(h:ep a=ep b):a=b:=by
 unfold ep at h;have h:ints .i8 a=ints .i8 b:=congrArg Array.toList (x4.agg.inj h);have e:∀l:Λ,(ints .i8 l).map valOf=l:=λl=>by
  unfold ints;rw[S6];exact List.map_id l
 rw[<-e a,<-e b,h]
theorem CG(a:Λ):(ep a).cells.toList=ints .i8 a:=by simp[ep,x4.cells]
theorem Mn:WideMaps.ArrKey v8 cJ gg 6:=⟨cJ.u,Ψ,Ψ,Ψ⟩
theorem keys:Keys v8 cJ λv=>∃l,keyOf v8 cJ v=σ l:=Keys.law Mn.law
theorem xa{p:Λ}(h:nl p):∃l,keyOf v8 cJ (ep p)=σ l:=by
 obtain⟨w,j⟩:=h
 match p,w with
 |[a,b,c,d,e,f],_=>
  have y:=j a Ξ;have z:=j b Ξ;have A:=j c Ξ;have rd:=j d Ξ;have B:=j e Ξ;have ln:=j f Ξ;have wf:∀x:Int,0<=x/\x<32->(Lit.int .i8 x).wf=v2:=λx q=>by
   simp only[Lit.wf,U9,sp];have I:j0.i8.min= -128:=Φ
   have J:j0.i8.max=127:=Φ
   omega
  have r:decide (0<v8.types.size)=v2:=Ψ
  have r:=ty r;obtain⟨n,C⟩:∃n,v8.types.size=n+1:=⟨v8.types.size-1,Ω⟩;have one:∀x:Int,0<=x/\x<32->v8.keyLits (n+1) gg [.int .i8 x]=σ [.int .i8 x]:=λx q=>by
   unfold V3.keyLits;rw[gg.u];simp[wf x q]
  unfold keyOf;rw[cJ.u];simp only;have E:v8.keyType cJ=v2:=Ψ
  have F:v8.cellsOf gg=1:=Ψ
  have s:v8.cellsOf cJ=6:=Ψ
  have G:(ep [a,b,c,d,e,f]).formed v8 cJ=v2:=by
   unfold ep x4.formed;rw[cJ.u,s];rfl
  rw[E,G,CG,C];simp only[Bool.and_self,if_true];unfold V3.keyLits;rw[cJ.u];simp only[s,F,ints];have H:X9 6=[0,1,2,3,4,5]:=Φ
  simp[H,one a y,one b z,one c A,one d rd,one e B,one f ln]
def pad(t:Λ):Λ:=t++o6 (6-t.length) 0
theorem Mo{t:Λ}(f:t.length<=6)(a:∀x∈t,0<=x/\x<32):nl (pad t):=
 ⟨by simp[pad];omega,λx e=>by
  rcases j9.1 e with h|h
  .exact a x h
  .have:=(List.mem_replicate.1 h).2;omega⟩
theorem Mp{b:Λ}(e:a.length=b.length)(h:pad a=pad b):a=b:=by
 unfold pad at h;exact(List.append_inj h e).1
theorem CH{t:Λ}:(pad t).take t.length=t:=by simp[pad]
theorem pg{b o:Nat}(e:a.length=6)(h:w.rangeAt b o (ints .i8 a)):ab v8 (u6 cJ (.pointer (σ ⟨b,o,ν⟩))) w K=K (ep a):=
 A1 cJ.u rfl cJ.i (by simp[e]) h
theorem Mq{b o:Nat}(e:a.length=6)(h:w.rangeAt b o (ints .i8 a)):ab v8 (do loadVar cJ (<-asAddr (.pointer (σ ⟨b,o,ν⟩)))) w K=K (ep a):=ab.of λI f=>by
 have:=run_loadVar_mid I b o cJ (ints .i8 a) (.array 6 gg) (oR f h) cJ.u rfl (by rw[cJ.i.size];simp[e]);simp only[asAddr,W9,V8,Result.andThen_ok,this];rfl
theorem rC{g:Nat}{K:Unit->x5->Prop}(e:a.length=6)(f:cs.length=6)(j:ag w g cJ cs)(h:∀I,af (λr=>r=g) w I->I.heap.size=w.heap.size->ag I g cJ (ints .i8 a)->K () I):aF v8 (l9 cJ (Γ g) (ep a)) w K:=
 b6 (vs:=ints .i8 a) cJ.i (by simp[e]) f (λv p=>by obtain⟨x,_,rfl⟩:=j5.1 p;rfl) j h
def tV:List x4:=[.int .i8 0,.int .i8 0,.int .i8 0,.int .i8 0,.int .i8 0,.int .i8 0]
theorem Mr{x:Int}:al v8 tf [Δ x] w λv I=>v= .bool (decide (¬jv x))/\Ext w I:=by
 refine aB func224 ?_;simp only[cC,aS,bU,am];refine⟨λh=>⟨?_,Ext.refl _⟩,λh=>⟨?_,Ext.refl _⟩⟩
 .rw[rs];intro a;have:=a.1;omega
 .congr 1;have:(32<x)=(¬jv x):=propext ⟨λe a=>by have:=a.2;omega,λe=>by
   by_cases f:32<x
   .exact f
   .exact ro ⟨Ω,Ω⟩ e⟩
  simp only[this]
theorem Ms(h:aN .i64 w sv l):
  al v8 wm [sv,.func (.func tf) #[] #[]] w λv I=>Ext w I/\∃n:Int,v=Δ n/\((0<=n)=¬∀x∈l,jv x):=by
 have z:=h.le;refine aB func139 ?_;rw[a1 aq.u h];refine⟨λ_ t U=>Ext w U/\∃i:Nat,t=Δ i/\i<=l.length/\∀x∈l.take i,jv x,λ_ t _=>l.length-(bX t).toNat,⟨Ext.refl _,0,rfl,W0 _,Ξ⟩,?_⟩;rintro _ _ U ⟨e,i,rfl,hi,f⟩;simp only[aS,am];refine⟨λA=>?_,λB=>⟨e,-1,rfl,?_⟩⟩
 .obtain⟨x,j⟩:=aD (l:=l) (i:=i) Ω;rw[bk aq.u ai.i Ψ (h.W e) j];show al v8 tf [Δ x] U _;refine Mr.Y ?_;rintro _ aa _ ⟨rfl,p⟩;simp only[am,aP];refine⟨λq=>⟨e.F p,i,rfl,?_⟩,λr=>?_⟩
  .exact propext ⟨λ_ s=>q (s x (x7 j)),λ_=>Ω⟩
  .rw[m1 Ω Ω];refine⟨⟨e.F p,i+1,rfl,Ω,λy a=>?_⟩,?_⟩
   .rw[r9,j]at a;rcases j9.1 a with a|a
    .exact f y a
    .simp at a;subst a;exact X5.1 r
   .simp only[bX];omega
 .have:i=l.length:=Ω
  rw[this,j4]at f;exact propext ⟨λh=>Ω,λh=>ro f h⟩
theorem CI(h:aN .i64 w sv l):
  al v8 wp [sv,.func (.func tf) #[] #[]] w λv I=>v= .bool (decide (¬∀x∈l,jv x))/\Ext w I:=by
 refine aB func225 ?_;refine(Ms h).Y ?_;rintro _ U _ ⟨a,n,rfl,e⟩;simp only[cP];exact⟨by congr 1;simp only[e],a⟩
abbrev Told:=List (Λ×Int)
def kY(p:Λ×Int):x4×x4:=(ep (pad p.1),Δ p.2)
def eV(w:x5)(g m:Nat)(aj:Λ)(k o:Int)(D:Told):Prop:=
 (∃sv gs,ag w g fL [sv,Δ k,Δ o,.map (σ m)]/\aA .i64 ai w gs sv aj)/\dd w m (D.map kY)/\cg aj/\cG o k/\∀p∈D,dv aj p.1/\cG p.2 k/\p.2≠o
theorem eV.W{g m:Nat}{o:Int}{D:Told}(h:eV w g m aj k o D)(a:Ext w I):eV I g m aj k o D:=by
 obtain⟨⟨sv,gs,h1,e⟩,f,j⟩:=h;exact⟨⟨sv,gs,h1.W a,e.W a⟩,f.W a,j⟩
theorem xb{t:Λ}(J:cg aj)(h:dv aj t):t.length=aj.length/\∀x∈t,0<=x/\x<32:=by
 obtain⟨h1,f⟩:=pd.1 h;refine⟨h1.symm,λx j=>?_⟩;obtain⟨i,hi,rfl⟩:=List.getElem_of_mem j;obtain⟨a,e⟩:=aD (l:=aj) (i:=i) Ω;have p:=f i a _ e (x8 hi);have q:=(J.2 a (x7 e)).2;omega
theorem rD{t:Λ}(J:cg aj)(h:dv aj t):nl (pad t):=by
 obtain⟨h1,a⟩:=xb J h;exact Mo (by rw[h1];exact J.1) a
theorem eV.qo{g m:Nat}{o:Int}{D:Told}(h:eV w g m aj k o D):∀p∈D.map kY,∃l,keyOf v8 cJ p.1=σ l:=λp ac=>by
 obtain⟨q,a,rfl⟩:=j5.1 ac;exact xa (rD h.2.2.1 (h.2.2.2.2 q a).1)
theorem CJ{s t:Λ}(J:dv aj s)(a:dv aj t)(h:ep (pad s)=ep (pad t)):s=t:=
 Mp ((tG J).symm.F (tG a)) (Mm h)
theorem eV.nodup{g m:Nat}{o:Int}{D:Told}(h:eV w g m aj k o D):(D.map (·.1)).Nodup:=by
 have e:=h.2.1.nodup;rw[S6]at e;refine List.Pairwise.of_map (S:=λa b=>a≠b) (λt=>ep (pad t)) (λa b h he=>h (by rw[he])) ?_;rw[S6];exact e
def Mt(w:x5)(l:Λ)(k o:Int)(v:x4)(I:x5):Prop:=
 Ext w I/\(¬cg l->v= .tuple #[.pointer ν,Δ 1])/\(cg l->¬cG o k->v= .tuple #[.pointer ν,Δ 3])/\
  (cg l->cG o k->∃g m,v= .tuple #[Γ g,Δ 0]/\w.heap.size<=g/\w.heap.size<=m/\eV I g m l k o [])
theorem CK{o:Int}(h:aN .i64 w sv l):al v8 pZ [sv,Δ k,Δ o] w (Mt w l k o):=by
 refine aB func178 ?_;refine aZ (λv U=>Ext w U/\∃c,v= .bool c/\(c=v2↔¬cg l)) ?_ ?_
 .rintro _ U ⟨e,c,rfl,f⟩;rw[b4];refine⟨λs=>⟨e,λ_=>rfl,λh=>ro h (f.1 s),λh=>ro h (f.1 s)⟩,λz=>?_⟩;have J:=Classical.byContradiction λh=>by have:=f.2 h;rw[z]at this;cases this
  have E:=J.1;refine kU.Y ?_;rintro _ aa _ ⟨rfl,a⟩;by_cases hi:cG o k
  rotate_left
  .simp only[hi,decide_false,bM,W6,bQ];exact⟨e.F a,λh=>ro J h,λ_ _=>rfl,λ_ h=>ro h hi⟩
  simp only[hi,decide_true,bM,X3,a6];refine(mh ((h.W e).W a) Ω).Y ?_;rintro aT G _ ⟨x,A,H,hm⟩;have I:=hm.ls.cells;refine tT λm K L j B=>?_;rw[dm (cs:=#[aT,Δ k,Δ o,.map (σ m)]) (by obtain⟨_,_,_,_,_,rfl,_⟩:=hm.ls;kernel_rfl)];refine bp λg M N q C=>?_;have s1:=e.size;have O:=a.size;have P:=x.size;have Q:=j.size;exact⟨((((e.F a).F x).F j).F q),λh=>ro J h,λ_ h=>ro hi h,λ_ _=>⟨g,m,rfl,Ω,Ω,⟨aT,A,C,(hm.W j).W q⟩,B.W q,J,hi,λp ac=>by cases ac⟩⟩
 .intro ax y;rw[a1 aq.u h];simp only[bU,am];refine⟨λR=>y _ _ ⟨Ext.refl _,v2,rfl,λ_ J=>by have:=J.1;omega,λ_=>rfl⟩,λS=>?_⟩;refine(CI h).Y ?_;rintro _ aa _ ⟨rfl,a⟩;refine y _ _ ⟨a,_,rfl,?_⟩;rw[sp];exact⟨λr J=>r J.2,λr J=>r ⟨Ω,J⟩⟩
def ky(t:Λ)(i:Nat):Λ:=t.take i++o6 (6-i) 0
theorem Mu{t:Λ}{i:Nat}(hi:i<=t.length)(a:t.length<=6):(ky t i).length=6:=by simp[ky];omega
theorem Mv{t:Λ}{i:Nat}{x:Int}(a:t[i]?=σ x)(f:t.length<=6):(ky t i).set i x=ky t (i+1):=by
 have hi:=(x6.1 a).1;unfold ky;have e:(t.take i).length=i:=by rw[o8];omega
 rw[T4 _ _ Ω,e,V2,r9,a];have:6-i=(6-(i+1))+1:=Ω
 rw[this,List.replicate_succ];simp
theorem Mw(t:Λ):ky t t.length=pad t:=by simp[ky,pad]
def CL(w:x5)(aj t:Λ)(v:x4)(I:x5):Prop:=Ext w I/\∃a e,v= .tuple #[ep a,Δ e]/\a.length=6/\(dv aj t->a=pad t/\e=0)/\(¬dv aj t->e=3)
theorem Mx{g m:Nat}{t:Λ}{o:Int}{D:Told}{aT:x4}(h:eV w g m aj k o D)(I:aN .i64 w aT t):al v8 JW [Γ g,aT] w (CL w aj t):=by
 obtain⟨⟨sv,gs,K,hm⟩,_,J,_⟩:=h;have aI:=J.1;refine aB func226 ?_;refine bF cJ.i λB U aJ X C=>?_;refine bF cJ.i λao aa aL L M=>?_;have y:=X.F L;have s1:=X.size;have aM:=L.size;have aO:=C.lt;have aQ:=M.lt;have aR:=K.lt;have C:=C.W L;have ah:=K.W y;rw[dg e1.u];simp only[Y2,a6];have N:∀{f:x5}{E:Λ}{e:Int},Ext w f->ag f ao cJ (ints .i8 E)->ag f B cJ tV->E.length=6->(dv aj t->E=pad t/\e=0)->(¬dv aj t->e=3)->
   ab v8 (u6 cJ (Γ ao)) f λak=>aF v8 (l9 cJ (Γ B) ak) f λ(_:Unit)O=>ab v8 (do loadVar cJ (<-asAddr (Γ B))) O λan=>CL w aj t (.tuple #[an,Δ e]) O:=by
  intro f E e q r z H G P;rw[pg H r.range];refine rC H rfl z λO ap aU av=>?_;rw[Mq H av.range];exact⟨q.put ap Ω,E,e,rfl,H,G,P⟩
 rw[a1 aq.u (I.W y),aK fL.p 0 ah rfl,a1 aq.u (hm.ls.W y)];simp only[bL,am];have Y:ints .i8 (ky t 0)=tV:=by simp[ky,tV,ints]
 refine⟨λaw=>N y (by rw[Y];exact M) C (by simp[ky]) (λG=>ro (by rw[tG G]) aw) (λ_=>rfl),λZ=>?_⟩;have Z:t.length=aj.length:=Ω
 rw[a1 aq.u (I.W y)];refine ch.range t.length (λi _ f=>Ext w f/\ag f ao cJ (ints .i8 (ky t i))/\ag f B cJ tV/\∀(j:Nat)(a x:Int),j<i->aj[j]?=σ a->t[j]?=σ x->0<=x/\x<a) Ω
  ⟨y,by rw[Y];exact M,C,λj a x ay=>Ω⟩ ?_ ?_
 .rintro i _ f az hi ⟨q,r,z,Q⟩ aA;simp only[aS,am];refine⟨λ_=>?_,λh=>Ω⟩;obtain⟨x,s⟩:=aD (l:=t) hi;obtain⟨a,A⟩:=aD (l:=aj) (i:=i) Ω;have aV:=J.2 a (x7 A);rw[bk aq.u ai.i Ψ (I.W q) s];have ac:=Mu (t:=t) (i:=i) Ω Ω;refine aZ (λv aC=>f=aC/\v= .bool (decide (¬(0<=x/\x<a)))) ?_ ?_
  .rintro _ _ ⟨rfl,rfl⟩;simp only[am];refine⟨λaE=>N q r z ac (λG=>ro ((pd.1 G).2 i a x A s) aE) (λ_=>rfl),λR=>?_⟩;have R:=X5.1 R;rw[fA ai.u gg.u,KJ Ω Ω,wC cJ.u gg.i Ω];refine bt gg.i rfl rfl r (by simp[ac];omega) λaW ad aX ae=>?_;simp only[aP];refine aA _ _ ⟨q.put ad Ω,?_,z.V ad (by show¬(B=ao);omega),λj a' aG ay S W=>?_⟩
   .have e:(ints .i8 (ky t i)).set (0+i*1) (.int .i8 x)=ints .i8 (ky t (i+1)):=by
     rw[<-Mv s Ω];simp[ints,T2]
    rw[e]at ae;exact ae
   .by_cases aH:j=i
    .subst aH;rw[A]at S;rw[s]at W;cases S;cases W;exact R
    .exact Q j a' aG Ω S W
  .intro ax af;simp only[aS,am];refine⟨λaY=>af _ _ ⟨rfl,by rw[rs];omega⟩,λa2=>?_⟩;rw[aK fL.p 0 (K.W q) rfl,bk aq.u ai.i Ψ (hm.ls.W q) A,cP];refine af _ _ ⟨rfl,?_⟩;congr 1;exact decide_eq_decide.2 ⟨λh au=>Ω,λh=>Ω⟩
 .rintro _ f az ⟨q,r,z,Q⟩;simp only[aS,am];refine⟨λh=>Ω,λ_=>?_⟩;rw[Mw]at r;exact N q r z (by simp[pad];omega) (λ_=>⟨rfl,rfl⟩) (λP=>ro (pd.2 ⟨Z.symm,λj a x A s=>Q j a x (x6.1 s).1 A s⟩) P)
def jB(D:Told)(o:Int)(t:Λ):Int:=match D.find? (λp=>decide (p.1=t))with
 |some p=>p.2
 |none=>o
theorem CM{D:Told}(e:(D.map (·.1)).Nodup){p q:Λ×Int}(ac:p∈D)(f:q∈D)(h:p.1=q.1):p=q:=by
 obtain⟨i,hi⟩:=X8.1 ac;obtain⟨j,a⟩:=X8.1 f;have h1:(D.map (·.1))[i]?=σ p.1:=by rw[u4,hi];rfl
 have r:(D.map (·.1))[j]?=σ p.1:=by rw[u4,a,h];rfl
 have:=lJ e h1 r;subst this;rw[hi]at a;exact Z4 a
theorem rE{D:Told}{o:Int}{t:Λ}(e:(D.map (·.1)).Nodup)(h:(t,c)∈D):jB D o t=c:=by
 unfold jB;cases a:D.find? (λp=>decide (p.1=t))with
 |none=>
  have:=List.find?_eq_none.1 a _ h;simp at this
 |some p=>
  have h1:=List.find?_some a;have h1:p.1=t:=by simpa using h1
  have:=CM e (List.mem_of_find?_eq_some a) h h1;rw[this]
theorem rF{D:Told}{o:Int}{t:Λ}(h:∀p∈D,p.1≠t):jB D o t=o:=by
 unfold jB;cases a:D.find? (λp=>decide (p.1=t))with
 |none=>rfl
 |some p=>
  have h1:=List.find?_some a;have h1:p.1=t:=by simpa using h1
  exact ro h1 (h p (List.mem_of_find?_eq_some a))
def mo(D:Told)(t:Λ)(c o:Int)(D':Told):Prop:=(∀p,p∈D'↔(c≠o/\p=(t,c))\/(p∈D/\p.1≠t))/\D'.length<=D.length+1
theorem mo.cost{D D':Told}{t:Λ}{o:Int}(h:mo D t c o D')(q:(D.map (·.1)).Nodup)(e:(D'.map (·.1)).Nodup)(s:Λ):jB D' o s=if s=t then c else jB D o s:=by
 by_cases J:s=t
 .subst J;rw[ms rfl];by_cases f:c=o
  .subst f;exact rF λp ac he=>by
    rcases(h.1 p).1 ac with a|a
    .exact a.1 rfl
    .exact a.2 he
  .exact rE e ((h.1 _).2 (.inl ⟨f,rfl⟩))
 .rw[rc J];by_cases he:∃p∈D,p.1=s
  .obtain⟨p,ac,rfl⟩:=he;rw[rE q ac];exact rE e ((h.1 _).2 (.inr ⟨ac,J⟩))
  .have j:∀p∈D,p.1≠s:=λp ac h=>he ⟨p,ac,h⟩;rw[rF j];exact rF λp ac a=>by
    rcases(h.1 p).1 ac with⟨_,rfl⟩|⟨r,_⟩
    .exact J a.symm
    .exact j p r a
theorem My{D:Told}{t:Λ}{o v0:Int}(h:(D.map (·.1)).Nodup)(e:D[j]?=σ (t,v0))(q:c≠o):mo D t c o (D.set j (t,c)):=by
 have f:=(x6.1 e).1;refine⟨λp=>⟨λac=>?_,λac=>?_⟩,Ξ⟩
 .obtain⟨i,hi⟩:=X8.1 ac;by_cases a:j=i
  .subst a;rw[n9 f]at hi;exact .inl ⟨q,(Z4 hi).symm⟩
  .rw[Z6 a]at hi;refine .inr ⟨x7 hi,λhe=>a ?_⟩;exact lJ h (by rw[u4,e];rfl) (by rw[u4,hi,Y3,he])
 .rcases ac with⟨_,rfl⟩|⟨ac,r⟩
  .exact x7 (n9 f)
  .obtain⟨i,hi⟩:=X8.1 ac;have a:j≠i:=λhe=>by subst he;rw[e]at hi;cases hi;exact r rfl
   exact x7 (by rw[Z6 a];exact hi)
theorem CN{D:Told}{t:Λ}{o:Int}(a:∀p∈D,p.1≠t)(e:c≠o):mo D t c o (D++[(t,c)]):=by
 refine⟨λp=>?_,Ξ⟩;rw[j9,b9];exact⟨λh=>h.elim (λh=>.inr ⟨h,a p h⟩) (λh=>.inl ⟨e,h⟩),λh=>h.elim (λh=>.inr h.2) (λh=>.inl h.1)⟩
theorem Mz{D:Told}{t:Λ}{o v0:Int}(e:(D.map (·.1)).Nodup)(a:D[j]?=σ (t,v0)):mo D t o o (D.eraseIdx j):=by
 refine⟨λp=>⟨λac=>?_,λac=>?_⟩,by have:=List.length_eraseIdx_le D j;omega⟩
 .refine .inr ?_;obtain⟨i,f,hi⟩:=List.mem_eraseIdx_iff_getElem?.1 ac;refine⟨x7 hi,λhe=>f ?_⟩;exact lJ e (by rw[u4,hi,Y3,he]) (by rw[u4,a];rfl)
 .rcases ac with⟨h,_⟩|⟨ac,q⟩
  .exact ro rfl h
  .obtain⟨i,hi⟩:=X8.1 ac;exact List.mem_eraseIdx_iff_getElem?.2 ⟨i,λhe=>by subst he;rw[a]at hi;cases hi;exact q rfl,hi⟩
theorem MA{D:Told}{t:Λ}{o:Int}(a:∀p∈D,p.1≠t):mo D t o o D:=
 ⟨λp=>⟨λh=>.inr ⟨h,a p h⟩,λh=>h.elim (λh=>ro rfl h.1) (λh=>h.1)⟩,Ω⟩
theorem CO{g m:Nat}{t:Λ}{o:Int}{D:Told}(h:eV w g m aj k o D)(e:dv aj t)(a:(D.map kY)[j]?=σ (ep (pad t),v)):∃c,D[j]?=σ (t,c)/\v=Δ c:=by
 rw[u4]at a;obtain⟨p,ac,he⟩:=Y9.1 a;have h1:=CJ (h.2.2.2.2 p (x7 ac)).1 e (congrArg Prod.fst he);exact⟨p.2,by rw[ac,<-h1],(congrArg Prod.snd he).symm⟩
theorem CP{g m:Nat}{t:Λ}{o:Int}{D:Told}(h:eV w g m aj k o D)(a:∀p∈D.map kY,p.1≠ep (pad t)):∀p∈D,p.1≠t:=λp ac he=>a (kY p) (j5.2 ⟨p,ac,rfl⟩) (by rw[kY,he])
def MB(w:x5)(g m:Nat)(aj t:Λ)(k o c:Int)(D:Told)(v:x4)(I:x5):Prop:=
 (¬(dv aj t/\cG c k)->v=Δ 3/\Ext w I)/\(dv aj t/\cG c k->v=Δ 0/\af (λr=>r=m) w I/\∃D',mo D t c o D'/\eV I g m aj k o D')
theorem CQ{g m:Nat}{t:Λ}{o:Int}{D:Told}{aT:x4}(h:eV w g m aj k o D)(ag:aN .i64 w aT t):al v8 Jq [Γ g,aT,Δ c] w (MB w g m aj t k o c D):=by
 refine aB func179 ?_;refine(Mx h ag).Y ?_;rintro _ U _ ⟨W,aF,e,rfl,M,ah,ai⟩;rw[bx,bz];refine bF cJ.i λao aa aG X Y=>?_;refine rC M rfl Y λZ ak aH ab=>?_;have s1:=W.size;have aI:=X.size;have aJ:=Y.lt;have H:=(W.F X).put ak Ω;refine aZ (λv N=>v=Δ 0/\(dv aj t/\cG c k)/\af (λr=>r=m) w N/\∃D',mo D t c o D'/\eV N g m aj k o D') ?_ ?_
 .rintro _ N ⟨_,h1,E⟩;exact⟨λh=>ro h1 h,λ_=>⟨rfl,E⟩⟩
 intro ax an;simp only[bL,am];by_cases A:dv aj t
 rotate_left
 .have he:=ai A;subst he;exact⟨λ_=>⟨λ_=>⟨rfl,H⟩,λh=>ro h.1 A⟩,λh=>by simp at h⟩
 obtain⟨rfl,rfl⟩:=ah A;refine⟨λh=>ro rfl h,λ_=>?_⟩;have x:=h.W H;obtain⟨⟨sv,gs,y,hm⟩,I,J,ap,aq⟩:=id x;rw[aK fL.p 1 y rfl];refine kU.Y ?_;rintro _ av _ ⟨rfl,z⟩;have aw:=H.F z;by_cases hi:cG c k
 rotate_left
 .simp only[hi,decide_false,bM,W6,bQ];exact⟨λ_=>⟨rfl,aw⟩,λh=>ro h.2 hi⟩
 simp only[hi,decide_true,bM,X3,a6];rw[aK fL.p 2 (y.W z) rfl];simp only[bm,am,ei];have ad:=xa (rD J A);have ay:∀{D':Told},mo D t c o D'->∀p∈D',dv aj p.1/\cG p.2 k/\p.2≠o:=λhu p ac=>by
  rcases(hu.1 p).1 ac with⟨C,rfl⟩|⟨h1,_⟩
  .exact⟨A,hi,C⟩
  .exact aq p h1
 have K:∀{G B:x5}{D':Told},Ext av G->af (λr=>r=m) G B->dd B m (D'.map kY)->mo D t c o D'->ax (Δ 0) B:=by
  intro G B D' f q az hu;have aA:g≠m:=λhe=>by
   obtain⟨aC,aD,au,_⟩:=I;have y:Z.heap[g]?=_:=y;rw[he,au]at y;cases y
  have aE:∀r,lw sv r->r≠m:=λr ae he=>by
   subst he;obtain⟨aC,aD,au,_⟩:=I;obtain⟨_,⟨rfl,_⟩|⟨cap,cs,rfl,L,_⟩⟩:=hm
   .obtain⟨a,n,c,h1,_⟩:=ae;cases h1
   .obtain⟨a,n,c,h1,E⟩:=ae;cases h1;have L:Z.heap[gs]?=_:=L;have E:gs=r:=E;rw[E,au]at L;cases L
  have O:=z.F f;exact an _ _ ⟨rfl,⟨A,hi⟩,((H.F O).V _).F q,D',hu,⟨sv,gs,(y.W O).V q aA,bA (hm.W O) q aE⟩,az,J,ap,ay hu⟩
 refine⟨λC G f _ _=>?_,λC G f _ _=>?_⟩
 .rw[aK fL.p 3 ((y.W z).W f) rfl,pg M ((ab.W z).W f).range];subst C;refine Mj jT.u keys ((I.W z).W f) x.qo ad (λj v0 B P s q=>?_) (λB Q s q=>?_)
  .obtain⟨fk,R,_⟩:=CO x A P;rw[n2]at s;exact K f q s (Mz x.nodup R)
  .exact K f q s (MA (CP x Q))
 .rw[aK fL.p 3 ((y.W z).W f) rfl,pg M ((ab.W z).W f).range];refine rB jT.u keys ((I.W z).W f) x.qo ad (λj v0 B P s q=>?_) (λB Q s q=>?_)
  .obtain⟨fk,R,_⟩:=CO x A P;have S:(D.map kY).set j (ep (pad t),Δ c)=(D.set j (t,c)).map kY:=by rw[T2];rfl
   rw[S]at s;exact K f q s (My x.nodup R C)
  .have S:D.map kY++[(ep (pad t),Δ c)]=(D++[(t,c)]).map kY:=by rw[Z3];rfl
   rw[S]at s;exact K f q s (CN (CP x Q) C)
theorem MC{g m:Nat}{t:Λ}{o:Int}{D:Told}{b:Bool}(h:eV w g m aj k o D)(a:dv aj t)(h1:∀c,(t,c)∈D->K (if b then .tuple #[Δ c,.bool v2]else Δ c))(r:(∀p∈D,p.1≠t)->K (if b then .tuple #[Δ 0,.bool v6]else Δ 0)):
  ab v8 (Instr.lookup jT (.map (σ m)) (ep (pad t)) b) w K:=by
 have e:=xa (rD h.2.2.1 a);by_cases he:∃p∈D,p.1=t
 .obtain⟨p,ac,rfl⟩:=he;obtain⟨j,s⟩:=X8.1 ac;rw[rA jT.u keys h.2.1 h.qo e (j:=j) (v:=Δ p.2) (by rw[u4,s];rfl)];exact h1 p.2 ac
 .have f:∀p∈D,p.1≠t:=λp ac h=>he ⟨p,ac,h⟩;rw[tU jT.u keys ⟨_,_,av.i⟩ h.2.1 h.qo e (λq x hk=>by
   obtain⟨p,ac,rfl⟩:=j5.1 x;exact f p ac (CJ (h.2.2.2.2 p ac).1 a hk))]
  exact r f
theorem MD{g m:Nat}{o:Int}{D:Told}(h:eV w g m aj k o D):al v8 J0 [Γ g] w λv I=>v=Δ D.length/\Ext w I:=by
 obtain⟨⟨sv,gs,a,hm⟩,e,_⟩:=h;refine aB func232 ?_;rw[dg e1.u];simp only[Y2,a6];rw[aK fL.p 3 a rfl,Mk jT.u e];exact⟨Ξ,Ext.refl _⟩
theorem ME{g m:Nat}{o:Int}{D:Told}(h:eV w g m aj k o D):al v8 Kx [Γ g] w λv I=>v=Δ k/\Ext w I:=by
 obtain⟨⟨sv,gs,a,hm⟩,_⟩:=h;refine aB func292 ?_;rw[dg e1.u];simp only[Y2,a6];rw[aK fL.p 1 a rfl];exact⟨rfl,Ext.refl _⟩
theorem xc{g m:Nat}{o:Int}{D:Told}(h:eV w g m aj k o D):al v8 J1 [Γ g] w λv I=>Ext w I/\∃a,w.heap.size<=a/\aA .i64 ai I a v aj:=by
 obtain⟨⟨sv,gs,e,hm⟩,_,J,_⟩:=h;have f:=J.1;refine aB func233 ?_;rw[dg e1.u];simp only[Y2,a6];rw[aK fL.p 0 e rfl];exact mh hm.ls Ω
theorem MF{g m:Nat}{o:Int}{D:Told}(h:eV w g m aj k o D):al v8 Ky [Γ g] w λv I=>v=Δ aj.length/\Ext w I:=by
 refine aB func293 ?_;refine(xc h).Y ?_;rintro v U _ ⟨a,e,_,hm⟩;rw[a1 aq.u hm.ls];exact⟨rfl,a⟩
end Go.Proofs.YtnhkbjhpbbobaaaGreatDoor
namespace Go.Vc
open Go Go.RowKit
set_option maxRecDepth 100000
def lm(v:x4)(r:Nat):Prop:=∃a n c,v= .slice (σ a) n c/\a.block=r
theorem fm(h:lm (.slice ν 0 0) r):False:=by
 obtain⟨a,n,c,h,_⟩:=h;cases h
section
variable{α:Type}{f:α->List x4}{k:Nat}
theorem iF:∀{L:List α},(∀a∈L,(f a).length=k)->(L.flatMap f).length=L.length*k
 |[],_=>Ξ
 |a::L,h=>by
  rw[V6,o9,h a (.head _),iF λb e=>h b (.tail _ e),Y0,U6];omega
theorem rG:∀{L:List α}(i:Nat),(∀a∈L,(f a).length=k)->(L.flatMap f).take (i*k)=(L.take i).flatMap f
 |[],i,_=>Ξ
 |a::L,0,_=>Ξ
 |a::L,i+1,h=>by
  have e:=h a (.head _);rw[V6,List.take_succ_cons,V6,<-rG i λb j=>h b (.tail _ j),U6,Nat.one_mul,Nat.add_comm,List.take_append,e];congr 1
  .exact Z0 Ω
  .congr 1;omega
theorem tW:∀{L:List α}(i:Nat),(∀a∈L,(f a).length=k)->(L.flatMap f).drop (i*k)=(L.drop i).flatMap f
 |[],i,_=>Ξ
 |a::L,0,_=>Ξ
 |a::L,i+1,h=>by
  have e:=h a (.head _);rw[V6,List.drop_succ_cons,<-tW i λb j=>h b (.tail _ j),U6,Nat.one_mul,Nat.add_comm,List.drop_append,e];rw[List.drop_of_length_le Ω,List.nil_append];congr 1;omega
theorem qp{L:List α}{i:Nat}{a:α}(h:∀a∈L,(f a).length=k)(hi:L[i]?=σ a)(e:(f a)[j]?=σ v):(L.flatMap f)[i*k+j]?=σ v:=by
 have q:=(x6.1 e).1;rw[<-R3,tW i h];have p:=x6.1 hi;rw[W3 p.1,p.2,V6,Y4 q];exact e
theorem xd{L:List α}{i:Nat}{a:α}(h:∀a∈L,(f a).length=k)(e:(f a).length=k)(hi:i<L.length):over (L.flatMap f) (i*k) (f a)=(L.set i a).flatMap f:=by
 have p:=iF h;have j:(i+1)*k<=L.length*k:=X4 _ hi;rw[U6,Nat.one_mul]at j;rw[nO Ω,e,rG i h,show i*k+k=(i+1)*k by rw[U6,Nat.one_mul],tW (i+1) h,List.set_eq_take_append_cons_drop,ms hi,List.flatMap_append,V6,T6]
theorem tX{vs:List x4}{o m:Nat}(h1:o+vs.length<=m)(a:m<=cs.length):(over cs o vs).take m=over (cs.take m) o vs:=by
 rw[nO Ω,nO (by rw[o8];omega),T6,T6,List.take_append,List.take_append,List.take_take,List.take_take,List.drop_take,o8];rw[show min m o=o by omega,show min o m=o by omega,show min o cs.length=o by omega,Z0 (l:=vs) Ω];congr 3;omega
def bj(f:α->List x4)(k:Nat)(e:o5)(w:x5)(g:Nat)(v:x4)(L:List α):Prop:=b0 w g e k v L.length (L.flatMap f)/\∀a∈L,(f a).length=k
variable{P:V3}{w:x5}{e:o5}{g:Nat}{v:x4}{L:List α}
theorem bj.nil(f:α->List x4)(k:Nat)(e:o5)(w:x5)(g:Nat):bj f k e w g (.slice ν 0 0) []:=⟨b0.nil w g e k,λa h=>by cases h⟩
theorem bj.lw(h:bj f k e w g v L)(j:lm v r):r=g/\g<w.heap.size:=by
 obtain⟨_,⟨rfl,_⟩|⟨cap,cs,rfl,p,_⟩⟩:=h.1
 .exact (fm j).elim
 .obtain⟨a,n,c,h1,q⟩:=j;cases h1;exact⟨q.symm,p.lt⟩
theorem bj.V(h:bj f k e w g v L)(a:af S w I)(j:∀r,lm v r->¬S r):bj f k e I g v L:=
 ⟨⟨h.1.1,h.1.2.imp id λ⟨cap,cs,h1,p,q⟩=>⟨cap,cs,h1,p.V a (j g ⟨_,_,_,h1,rfl⟩),q⟩⟩,h.2⟩
theorem bj.W(h:bj f k e w g v L)(a:Ext w I):bj f k e I g v L:=h.V (a.V λ_=>False) λ_ _ h=>h
theorem bj.sl(h:bj f k e w g v L):cc w k v L.length (L.flatMap f):=h.1.sl
theorem bj.le(h:bj f k e w g v L):L.length<=9223372036854775807:=by
 have:=cc.le h.sl;simpa[maxLen]using this
theorem ew{a:o5}(j:P.underlying t=σ (.slice e))(h:bj f k e w g v L):ab P (V0 #[t] a #[v]) w K=K (Δ L.length):=by
 obtain⟨_,_,_,_,_,rfl,_⟩:=h.sl;exact iV j
theorem cj{q:j0}{b:Nat}{i:Nat}(a:y=(i:Int))(j:P.underlying t=σ (.slice e))(hi:aR P e k b z)(h:bj f k e w g v L)(p:i<L.length):
  ab P (c9 t v (.int q y)) w K=K (.pointer (σ ⟨g,i*k,ν⟩)):=by
 subst a;obtain⟨_,⟨rfl,r⟩|⟨cap,cs,rfl,s,x⟩⟩:=h.1
 .omega
 .rw[eS j hi p (λ_=>rfl),X6]
theorem bj.range{i:Nat}{a:α}(h:bj f k e w g v L)(hi:L[i]?=σ a):w.rangeAt g (i*k) (f a):=λj u hu=>by
 have h1:=qp h.2 hi hu;have s:=(x6.1 hi).1;obtain⟨_,⟨rfl,x⟩|⟨cap,cs,rfl,q,_,_,y,r⟩⟩:=h.1
 .omega
 .have p:=(x6.1 h1).1;rw[iF h.2]at p;rw[<-r,Y6 p]at h1;exact q.cell h1
theorem xe{b:Nat}{i:Nat}{a:α}{K:Unit->x5->Prop}(hi:aR P t k b z)(h:bj f k e w g v L)(j:(f a).length=k)(h1:∀u∈f a,u.oneCell'=v2)(s:i<L.length)(A:∀I,af (λr=>lm v r) w I->I.heap.size=w.heap.size->bj f k e I g v (L.set i a)->K () I):aF P (l9 t (.pointer (σ ⟨g,i*k,ν⟩)) (.agg (f a).toArray)) w K:=by
 have N:=iF h.2;have B:(i+1)*k<=L.length*k:=X4 _ s;rw[U6,Nat.one_mul]at B;obtain⟨⟨O,⟨rfl,Q⟩|⟨cap,cs,rfl,C,x,E,y,F⟩⟩,p⟩:=h
 .omega
 .have G:L.length*k<=cs.length:=by rw[y];exact X4 _ x
  refine A4 hi j h1 C Ω λI H J M=>A I (H.Y λr _ he=>⟨_,_,_,rfl,he.symm⟩) J ⟨⟨?_,.inr ⟨cap,_,Ξ,M,by simpa using x,E,by rw[nf,y],?_⟩⟩,λb q=>?_⟩
  .rw[iF λb q=>by
    rcases W8 q with h|rfl
    .exact p b h
    .exact j]
  .rw[o7,<-xd p j s,<-F,tX (by rw[j];omega) G]
  .rcases W8 q with h|rfl
   .exact p b h
   .exact j
theorem kZ{b:Nat}{u:x4}{i:Nat}{a a':α}{K:Unit->x5->Prop}(hi:aR P t 1 b z)(hu:u.cells= #[u])(h1:u.oneCell'=v2)(h:bj f k e w g v L)(s:L[i]?=σ a)(A:f a'=(f a).set j u)(W:j<k)(M:∀I,af (λr=>lm v r) w I->I.heap.size=w.heap.size->bj f k e I g v (L.set i a')->K () I):aF P (l9 t (.pointer (σ ⟨g,i*k+j,ν⟩)) u) w K:=by
 have B:=(x6.1 s).1;have X:=iF h.2;have N:(i+1)*k<=L.length*k:=X4 _ B;rw[U6,Nat.one_mul]at N;have O:(f a).length=k:=h.2 a (x7 s);have q:(f a').length=k:=by rw[A,o7];exact O
 have Q:(L.flatMap f).set (i*k+j) u=(L.set i a').flatMap f:=by
  rw[<-xd h.2 q B];refine X0 λp=>?_;rw[oV _ _ _ Ω,Y7,q];by_cases ac:i*k<=p/\p<i*k+k
  .rw[ms ac,A,Y7];by_cases C:i*k+j=p
   .rw[ms C,ms Ω,ms Ω,ms Ω]
   .rw[rc C,rc Ω];obtain⟨y,E⟩:∃y,(f a)[p-i*k]?=σ y:=⟨_,x8 Ω⟩;have:=qp h.2 s E;rw[show i*k+(p-i*k)=p by omega]at this;rw[this,E]
  .rw[rc ac,rc Ω]
 obtain⟨⟨Y,⟨rfl,Z⟩|⟨cap,cs,rfl,R,F,S,G,T⟩⟩,H⟩:=h
 .omega
 .have aa:L.length*k<=cs.length:=by rw[G];exact X4 _ F
  refine bt hi hu h1 R Ω λI U J V=>M I (U.Y λr _ he=>⟨_,_,_,rfl,he.symm⟩) J ⟨⟨?_,.inr ⟨cap,_,Ξ,V,by simpa using F,S,by rw[o7,G],?_⟩⟩,λb x=>?_⟩
  .rw[iF λb x=>by
    rcases W8 x with h|rfl
    .exact H b h
    .exact q]
  .rw[o7,<-Q,<-T,List.take_set]
  .rcases W8 x with h|rfl
   .exact H b h
   .exact q
theorem jC{N:o5}{b:Nat}{x:x4}{a:α}{K:x4->x5->Prop}(A:P.underlying t=σ (.slice e))(hi:aR P e k b z)(H:z.cells.size=k)(h:bj f k e w g v L)(F:cc w k x 1 (f a))(h1:∀u∈f a,u.oneCell'=v2)(B:(L.length+1)*b<=140737488355328)(J:L.length+1<=9223372036854775807)(M:∀j p I,bj f k e I p j (L++[a])->(∀r,lm j r->lm v r\/w.heap.size<=r)->af (λr=>lm v r) w I->K j I):aF P (Z9 #[t,t] N #[v,x]) w K:=by
 have O:(f a).length=k:=by have:=F.1;omega
 have C:∀j p I,b0 I p e k j (L.length+1) (L.flatMap f++f a)->bj f k e I p j (L++[a]):=λj p I hm=>⟨by simpa using hm,λb B=>by
  rcases j9.1 B with aW|aW
  .exact h.2 b aW
  .rw[b9.1 aW];exact O⟩
 rcases h.1.2 with⟨q,Q⟩|⟨cap,cs,q,R,_⟩
 .have hm:b0 w w.heap.size e k v L.length (L.flatMap f):=⟨h.1.1,.inl ⟨q,Q⟩⟩;subst q;refine oX A A hi H hm F h1 (by simpa using B) (by simpa[maxLen]using J) λj p I E s G=>M j p I (C _ _ _ s) (λr y=>.inr ?_) (G.Y λr y h=>Ω);have:=((C _ _ _ s).lw y).1;omega
 .refine oX A A hi H h.1 F h1 (by simpa using B) (by simpa[maxLen]using J) λj p I E s G=>M j p I (C _ _ _ s) (λr y=>?_) (G.Y λr y h=>⟨_,_,_,q,h.symm⟩);have:=((C _ _ _ s).lw y).1;rcases E with E|E
  .exact .inl ⟨_,_,_,q,by show g=r;omega⟩
  .exact .inr Ω
theorem MG{p:o5}{b:Nat}{x:x4}{a:α}{K:x4->x5->Prop}(q:P.underlying t=σ (.slice e))(hi:aR P e k b z)(s:z.cells.size=k)(h:bj f k e w g v L)(y:cc w k x 1 (f a))(h1:∀a,∀u∈f a,u.oneCell'=v2)(A:(L.length+1)*b<=140737488355328)(B:L.length+1<=9223372036854775807)(C:∀j E I,bj f k e I E j (L++[a])->(∀r,lm j r->lm v r\/w.heap.size<=r)->af (λr=>lm v r) w I->K j I):aF P (Z9 #[t,t] p #[v,x]) w K:=jC q hi s h y (h1 a) A B C
theorem jc{b:Nat}{a:α}{x:x4}{K:x4->x5->Prop}(q:P.underlying t=σ (.slice e))(hi:aR P e k b z)(B:k<=100000)(j:x.cells=(f a).toArray)(p:(f a).length=k)(r:∀v g I,g=w.heap.size->Ext w I->bj f k e I g v [a]->K v I):aF P (X2 t 1 #[(0,x)]) w K:=
 kS q hi Ω (cs:=x.cells) (Be Ξ (by rw[j];simpa using p)) λg I s y h=>by
  have h:ag I g e (f a):=by rw[j]at h;simpa using h
  exact r _ g I s y ⟨by simpa using b0.full (n:=1) h Ω (by simp[maxLen]),λc A=>by rw[b9.1 A];exact p⟩
end
end Go.Vc
namespace Go.Proofs.YtnhkbjhpbbobaaaGreatDoor
open Go Go.Vc Go.RowKit Go.Proofs Go.Proofs.Tryz
set_option maxRecDepth 100000
theorem xf{α:Type}:∀{l:List α}{j:Nat}{x:α},l[j]?=σ x->(x::l.eraseIdx j).Perm l
 |[],j,x,h=>by simp at h
 |a::l,0,x,h=>by simp at h;subst h;exact List.Perm.refl _
 |a::l,j+1,x,h=>by
  simp at h;rw[List.eraseIdx_cons_succ];exact(List.Perm.swap a x _).F ((xf h).cons a)
theorem CR{α:Type}{l:List α}(h:j<l.length):(l.eraseIdx j).length+1=l.length:=by
 rw[List.length_eraseIdx,ms h];omega
def qq(w:x5)(a:Nat):Nat:=match w.heap[a]? with
 |some (.mapIter (σ m) _ seen _)=>(match w.heap[m]? with
  |some (.map e _)=>(leftOf e seen).size
  |_=>0)
 |_=>0
theorem tY{a m:Nat}{d left:List (x4×x4)}{e:Option (x4×x4)}(h:iE w a m d left e):qq w a=left.length:=by
 obtain⟨j,p,seen,fk,h1,_,_,f,_,rfl,_⟩:=h;unfold qq;rw[f];simp only;rw[h1];simp
theorem MH{w0:x5}{a m:Nat}{d d0 left:List (x4×x4)}{e:Option (x4×x4)}(h:iE w a m d left e)(hm:dd w0 m d0)(h1:Ext w0 w)(j:Ext w0 I)(hi:e8 w I):iE I a m d left e:=by
 obtain⟨p,c,s,fk,q,r,x,y,z⟩:=h;obtain⟨A,B,f1,_⟩:=hm;have g1:=h1.aY m _ f1 rfl;have f:=j.aY m _ f1 rfl;rw[q]at g1;rw[<-g1]at f;exact⟨p,c,s,fk,f,r,x,hi a _ y rfl,z⟩
abbrev ph(w:x5)(g:Nat)(v:x4)(L:List (Λ)):Prop:=bj (ints .i8) 6 cJ w g v L
theorem CS{k:j0}:∀u∈ints k l,u.oneCell'=v2:=λu hu=>by
 obtain⟨x,_,rfl⟩:=j5.1 hu;rfl
theorem keysIter{dq m:Nat}{d:List (x4×x4)}{e:List (Λ)}{w0:x5}(Q:ag w0 dq jT [.map (σ m)])(hm:dd w0 m d)(R:d.map (·.1)=e.map ep)(S:∀a∈e,a.length=6):
  pS v8 v2 m9 [Γ dq] ([]:List (Λ)) (λh=>h.Perm e) (λh vs aW _=>∃a∈e,h.length<e.length/\vs=[ep a]/\aW=h++[a]) (λw=>Ext w0 w):=by
 refine⟨m9.enters,λl ax aG w r _ V s W=>?_⟩;refine q8 func290 ?_;rw[aE Ψ ((Q.W s).cell rfl)];refine aF.cB (CC jT.u (hm.W s) λC U X x aH Y Z=>?_);refine⟨λaa=>∃h f left E,ax h aa/\Ext w0 aa/\w.heap.size<=aa.heap.size/\iE aa C m d left E/\left.map (·.1)=f.map ep/\(h++f).Perm e,λaa=>qq aa C,
  ⟨[],e,d,ν,r _ _ _ x Z.b W,s.F x,x.size,Y,R,List.Perm.refl _⟩,?_⟩
 rintro aa ⟨h,f,left,E,G,ab,aI,H,y,q⟩;have ad:left.length=f.length:=by have:=congrArg Q2 y;simpa using this
 refine CE H (λh=>by cases h) (λae=>?_) (λj p aJ ac I af J=>?_)
 .rw[jV (v:=.bool v6) rfl,a6];subst ae;have:f=[]:=Z5 (by rw[<-ad];rfl);subst this;rw[U2]at q;exact .inl ⟨h,q,G⟩
 .rw[jV (v:=.bool v2) rfl,bQ];refine CF J ?_;obtain⟨a,z,ah⟩:∃a,f[j]?=σ a/\p.1=ep a:=by
   have h1:(left.map (·.1))[j]?=σ p.1:=by rw[u4,ac];rfl
   rw[y,u4]at h1;obtain⟨a,K,ai⟩:=Y9.1 h1;exact⟨a,K,ai.symm⟩
  have L:=q.mem_iff.1 (j9.2 (.inr (x7 z)));have M:=S a L;rw[jV (v:=p.1) rfl,ah];refine aF.cB (bF cJ.i λaK aL aM aj ak al=>?_);refine aF.cB (rC M rfl ak λam an aN ao ap=>?_);rw[pg M ao.range];have A:=aj.put an Ω;have N:=al.F ap;have O:=(ab.F I).F A;have aq:=r _ _ _ I (by rw[<-X];exact af) G;have au:=r _ _ _ A N.b aq;have av:=J.W A N.lp;have aw:h.length<e.length:=by
   have h1:=q.length_eq;have K:=(x6.1 z).1;rw[o9]at h1;omega
  refine⟨rfl,(V h (h++[a]) _ am O ⟨a,L,aw,rfl,rfl⟩ au).Y ?_⟩;rintro _ ay (⟨rfl,P,az,aA⟩|⟨rfl,aB⟩)
  .simp only[bM,X3,a6];have B:=MH av hm O P (aA rfl).lp;have aC:w.heap.size<=ay.heap.size:=by
    obtain⟨_,_,_,_,_,_,_,aD,_⟩:=B;have:=(b8.1 aD).1;omega
   refine⟨⟨h++[a],f.eraseIdx j,left.eraseIdx j,σ p,az,P,aC,B,?_,?_⟩,?_⟩
   .rw[<-n2,y,n2]
   .refine List.Perm.trans ?_ q;rw[T6];exact List.Perm.append_left h (xf z)
   .rw[tY B,tY H];have:=CR (x6.1 ac).1;omega
  .simp only[bM,W6,bQ];exact .inr ⟨h,aB⟩
theorem MI{m:Nat}:al v8 Ke [.map (σ m)] w λr I=>Ext w I/\∃g,r= .func (.func m9) #[] #[Γ g]/\w.heap.size<=g/\ag I g jT [.map (σ m)]:=by
 refine aB func256 ?_;refine bp λg U f a e=>?_;rw[mb];exact⟨a,g,rfl,Ω,e⟩
theorem MJ{dq m:Nat}{d:List (x4×x4)}{s:List (Λ)}(Z:ag w dq jT [.map (σ m)])(hm:dd w m d)(ab:d.map (·.1)=s.map ep)(H:∀j∈s,j.length=6)(aC:s.length<=1000000):
  al v8 KA [.slice ν 0 0,.func (.func m9) #[] #[Γ dq]] w λv I=>Ext w I/\∃g L,(∀r,lm v r->w.heap.size<=r)/\L.Perm s/\ph I g v L:=by
 refine jr func303 ?_;refine bp λgs U aD J x=>?_;have x:=x;have aG:=x.lt;refine lx.old ⟨List (Λ),v2,_,_,_,_,_,_,λh I=>af (λr=>w.heap.size<=r) w I/\∃v g,ag I gs kP [v]/\(∀r,lm v r->w.heap.size<=r/\r≠gs)/\ph I g v h,λ_ _ _=>False,rfl,keysIter Z hm ab H,?_,λ_ _ p h=>h.F p,
  λ_ _ _ p h=>⟨h.1.F (p.V _),by obtain⟨v,g,h1,ac,ad⟩:=h.2;exact⟨v,g,h1.W p,ac,ad.W p⟩⟩,λ_ _ _ _ _ h=>h,J,⟨J.V _,_,0,x,λr h=>(fm h).elim,bj.nil _ _ _ _ _⟩,?_,?_,λ_ _ h=>h.elim,λ_ _ _ h=>h.elim⟩
 .rintro h _ aW I ⟨j,_,_,rfl,_⟩;rfl
 .rintro a h aW aa ae ⟨j,ah,aH,ai,rfl⟩ ⟨K,v,g,A,ds,B⟩;cases ai;have C:=H j ah;have aI:h.length<=1000000:=Ω
  refine aF.cB (bF cJ.i λaJ aK aL aj M ak=>?_);refine aF.cB (rC C rfl M λaM am aN an ao=>?_);intro aO N _ ap;have aP:=M.lt;have aq:=aj.put am Ω;have q:=aq.F N;rw[aE Ψ ((A.W q).cell rfl),pg C (an.W N).range];refine aF.cB (jc (f:=ints .i8) (a:=j) kP.u cJ.i Ω (by simp[ep,x4.cells]) (by simp[C]) λa ga aQ aR y au av=>?_);have O:=au.sl;rw[V6,List.flatMap_nil,U2]at O;refine aF.cB (MG kP.u cJ.i rfl ((B.W q).W y) O (λa=>CS) Ω Ω λP aw Q E ax z ay=>?_);have aS:=K.size;have aT:=q.size;have aU:=y.size;have aV:=A.lt;have R:∀r,lm P r->w.heap.size<=r/\r≠gs:=λr e=>by
   rcases ax r e with h|h
   .exact ds r h
   .omega
  have G:ag Q gs kP [v]:=((A.W q).W y).V z (λh=>(ds gs h).2 rfl);refine aF.cB (bt kP.i (by obtain⟨_,_,_,_,_,rfl,_⟩:=E.sl;rfl) (by obtain⟨_,_,_,_,_,rfl,_⟩:=E.sl;rfl) G Ξ λS W aX az aA=>?_);have X:af (λr=>w.heap.size<=r) aa S:=(((q.F y).V _).F (z.Y λr _ h=>(ds r h).1)).F (W.Y λr _ h=>by show w.heap.size<=r;omega);refine⟨ae.then X (λr e h=>by have h:=h;omega),⟨K.F X,P,aw,az,R,E.V W λr e h=>(R r e).2 h⟩,λ_=>?_⟩;exact((((ak.lp.F ao.lp).F ap).F av.lp).F ay.lp).F aA.lp
 .rintro h Q aB ⟨z,v,g,G,ds,B⟩;rw[aE Ψ (G.cell rfl)];intro S Y _;exact⟨(z.W λr e h=>by have:w.heap.size<=r:=h;omega).F Y,g,h,λr e=>(ds r e).1,aB,B.W Y⟩
theorem MK{dq m:Nat}{d:List (x4×x4)}{a:List (Λ)}(e:ag w dq jT [.map (σ m)])(hm:dd w m d)(f:d.map (·.1)=a.map ep)(j:∀p∈a,p.length=6)(q:a.length<=1000000):
  al v8 Ku [.func (.func m9) #[] #[Γ dq]] w λv I=>Ext w I/\∃g L,(∀r,lm v r->w.heap.size<=r)/\L.Perm a/\ph I g v L:=by
 refine aB func288 ?_;exact(MJ e hm f j q).Y λ_ _ _ h=>h
def gU:Λ->Int
 |[]=>0
 |x::l=>x*32 ^ l.length+gU l
theorem xg(n:Nat):(0:Int)<32 ^ n:=Int.pow_pos Ω
theorem tZ:∀(l:Λ),(∀x∈l,0<=x/\x<32)->0<=gU l/\gU l<32 ^ l.length
 |[],_=>by simp[gU]
 |x::l,h=>by
  have j:=tZ l λy a=>h y (.tail _ a);have f:=h x (.head _);have ac:=xg l.length;simp only[gU,Y0];have e:(32:Int) ^ (l.length+1)=32*32 ^ l.length:=by rw[Int.pow_succ,Int.mul_comm]
  have h1:x*32 ^ l.length<=31*32 ^ l.length:=Int.mul_le_mul_of_nonneg_right Ω Ω;have p:0<=x*32 ^ l.length:=Int.mul_nonneg f.1 Ω;rw[e];omega
def j1:Λ->Λ->Int
 |x::a,y::b=>if x<y then-1 else if y<x then 1 else j1 a b
 |_,_=>0
theorem CT:∀(a b:Λ),a.length=b.length->(∀x∈a,0<=x/\x<32)->(∀x∈b,0<=x/\x<32)->(j1 a b<0↔gU a<gU b)/\(gU a=gU b->a=b)
 |[],[],_,_,_=>by simp[j1]
 |[],_::_,h,_,_=>by simp at h
 |_::_,[],h,_,_=>by simp at h
 |x::a,y::b,h,s,w=>by
  have j:a.length=b.length:=by simpa using h
  have p:∀x∈a,0<=x/\x<32:=λz e=>s z (.tail _ e);have q:∀x∈b,0<=x/\x<32:=λz e=>w z (.tail _ e);have r:=CT a b j p q;have A:=tZ a p;have C:=tZ b q;have ac:=xg b.length;simp only[j1,gU];rw[j]at A ⊢;have step:∀u v:Int,u<v->u*32 ^ b.length+32 ^ b.length<=v*32 ^ b.length:=λu v E=>by
   have:=Int.mul_le_mul_of_nonneg_right (show u+1<=v by omega) (show(0:Int)<=32 ^ b.length by omega);rw[Int.add_mul,Int.one_mul]at this;exact this
  by_cases h1:x<y
  .rw[ms h1];have:=step x y h1;exact⟨⟨λ_=>Ω,λ_=>Ω⟩,λh=>Ω⟩
  .rw[rc h1];by_cases f:y<x
   .rw[ms f];have:=step y x f;exact⟨⟨λh=>Ω,λh=>Ω⟩,λh=>Ω⟩
   .rw[rc f];have B:x=y:=Ω
    subst B;exact⟨r.1.F ⟨λh=>Ω,λh=>Ω⟩,λh=>by rw[r.2 Ω]⟩
theorem xh:∀{a b:Λ}{i:Nat},(∀(j:Nat)(x y:Int),j<i->a[j]?=σ x->b[j]?=σ y->x=y)->i<=a.length->i<=b.length->j1 a b=j1 (a.drop i) (b.drop i)
 |_,_,0,_,_,_=>Ξ
 |[],_,i+1,_,h,_=>by simp at h
 |_::_,[],i+1,_,_,h=>by simp at h
 |x::a,y::b,i+1,he,h1,e=>by
  have f:=he 0 x y Ω rfl rfl;subst f;simp only[j1,Int.lt_irrefl,if_false,List.drop_succ_cons];exact xh (λj u v q hu p=>he (j+1) u v Ω hu p) (by simpa using h1) (by simpa using e)
theorem CU{x:Int}:al v8 Kz [.int .i8 x] w λv I=>v= .bool v6/\Ext w I:=by
 refine aB func302 ?_;simp only[bL];exact⟨Ξ,Ext.refl _⟩
theorem ML{x:Int}:al v8 Kt [.int .i8 x,.int .i8 y] w λv I=>v=Δ (if x<y then-1 else if y<x then 1 else 0)/\Ext w I:=by
 refine aB func287 ?_;refine CU.Y ?_;rintro _ U _ ⟨rfl,a⟩;refine CU.Y ?_;rintro _ aa _ ⟨rfl,e⟩;simp only[a6,aS,bU,am];exact⟨λh=>⟨by rw[ms h],a.F e⟩,λh=>⟨λf=>⟨by rw[rc h,ms f],a.F e⟩,λf=>⟨by rw[rc h,rc f],a.F e⟩⟩⟩
theorem MM{bh bv:x4}{b:Λ}(q:aN .i8 w bh a)(s:aN .i8 w bv b)(S:a.length=b.length):al v8 Kc [bh,bv] w λv I=>v=Δ (j1 a b)/\Ext w I:=by
 refine aB func254 ?_;have V:=q.le;rw[a1 l8.u q];refine ch.range a.length (λi _ U=>Ext w U/\∀(j:Nat)(x y:Int),j<i->a[j]?=σ x->b[j]?=σ y->x=y) Ω ⟨Ext.refl _,λj x y J=>Ω⟩ ?_ ?_
 .rintro i _ U K hi ⟨e,r⟩ L;simp only[aS,am];refine⟨λ_=>?_,λh=>Ω⟩;obtain⟨x,z⟩:=aD (l:=a) hi;obtain⟨y,A⟩:=aD (l:=b) (i:=i) Ω;rw[bk l8.u gg.i Ψ (q.W e) z,a1 l8.u (s.W e)];simp only[cP,am];refine⟨λh=>Ω,λ_=>?_⟩;rw[bk l8.u gg.i Ψ (s.W e) A];refine ML.Y ?_;rintro _ aa _ ⟨rfl,E⟩;have f:j1 a b=j1 (a.drop i) (b.drop i):=xh r Ω Ω;have M:a.drop i=x::a.drop (i+1):=by rw[W3 hi,(x6.1 z).2]
  have N:b.drop i=y::b.drop (i+1):=by rw[W3 Ω,(x6.1 A).2]
  rw[M,N]at f;simp only[j1]at f;simp only[bL,am,aP];refine⟨λG=>⟨?_,e.F E⟩,λO=>L _ _ ⟨e.F E,λj P Q J B C=>?_⟩⟩
  .rw[f];by_cases h1:x<y
   .rw[ms h1,ms h1]
   .by_cases p:y<x
    .rw[rc h1,ms p,rc h1,ms p]
    .rw[rc h1,rc p]at G;exact ro rfl G
  .by_cases R:j=i
   .subst R;rw[z]at B;rw[A]at C;cases B;cases C;have H:=X5.1 O;by_cases h1:x<y
    .rw[ms h1]at H;omega
    .by_cases p:y<x
     .rw[rc h1,ms p]at H;omega
     .omega
   .exact r j P Q Ω B C
 .rintro _ U K ⟨e,r⟩;simp only[aS,show decide ((a.length:Int)<(a.length:Int))=v6 from s2 Ω,a6];rw[a1 l8.u (q.W e),a1 l8.u (s.W e)];simp only[aS,am];refine⟨λh=>Ω,λ_=>⟨?_,e⟩⟩;have f:j1 a b=j1 (a.drop a.length) (b.drop a.length):=xh r Ω Ω;rw[f,List.drop_length];cases b.drop a.length<;>rfl
theorem MN{b:Λ}(p:nl a)(q:nl b):al v8 AT [ep a,ep b] w λv I=>Ext w I/\v=Δ (j1 a b):=by
 have B:∀{c:Λ},nl c->(ints .i8 c).length=6:=λh=>by simp[h.1]
 refine aB func253 ?_;refine bp λg1 U C y e=>?_;refine bp λE aa G r f=>?_;rw[CG]at e f;intro s j _ _;have e:=(e.W r).W j;have f:=f.W j;rw[tp cJ.u gg.i (l:=0) (h:=6) (m:=6) jW kR fh Ω Ω Ω,tp cJ.u gg.i (l:=0) (h:=6) (m:=6) jW kR fh Ω Ω Ω];rw[rc Ω,rc Ω];have ls:∀{g:Nat}{c:Λ},nl c->ag s g cJ (ints .i8 c)->aN .i8 s (.slice (σ ⟨g,0+0*1,ν⟩) (6-0) (6-0)) c:=λ{g c}x z=>by
  unfold aN;refine⟨Ξ,g,0,_,6,by rw[x.1],by rw[x.1];omega,by simp[maxLen],λ_=>rfl,z.range⟩
 refine(MM (ls p e) (ls q f) (by rw[p.1,q.1])).Y ?_;rintro _ H _ ⟨rfl,A⟩;exact⟨((y.F r).F j).F A,rfl⟩
end Go.Proofs.YtnhkbjhpbbobaaaGreatDoor
namespace Go.Vc
open Go Go.RowKit Go.Shelf Go.Proofs Go.Sort
theorem grown_of(f:Ext w I)(a:cO w I):∃q os,I=grow (w.drewN q) os:=by
 refine⟨I.drawn-w.drawn,I.heap.extract w.heap.size I.heap.size,?_⟩;have hk:∀k,k<w.heap.size->I.heap[k]?=w.heap[k]?:=λk hk=>by
  have e:=Array.getElem?_eq_getElem hk;rw[e];cases J:fH w.heap[k]with
  |true=>exact f.aY k _ e J
  |false=>exact a.aY k _ e J
 have au:I.heap=w.heap++I.heap.extract w.heap.size I.heap.size:=by
  apply Array.ext_getElem?;intro k;rw[Array.getElem?_append];by_cases h:k<w.heap.size
  .rw[ms h,hk k h]
  .rw[rc h,Array.getElem?_extract];have:=f.size;by_cases j:k<I.heap.size
   .rw[ms Ω];congr 1;omega
   .rw[rc Ω,Array.getElem?_eq_none Ω]
 have h1:=a.os;have j:=a.tape.1;have p:=a.output;have r:w.drawn+(I.drawn-w.drawn)=I.drawn:=by have:=a.tape.2;omega
 cases I;simp only[grow,x5.drewN]at*;subst h1 j p;rw[<-au,r]
section
variable{α:Type}[Inhabited α]
theorem CV(enc:α->List x4)(k:Nat)(hk:∀x,(enc x).length=k)(d:Array α):(flatK enc k d).toList=d.toList.flatMap enc:=by
 apply X0;intro t;by_cases h:t<d.size*k
 .have f:0<k:=by
   rcases Q8 k with e|e
   .rw[e]at h;simp at h
   .exact e
  have j:=(Nat.div_lt_iff_lt_mul f).2 h;have p:=Nat.mod_lt t f;have q:(flatK enc k d).toList[t]?=σ ((enc d[t / k]!)[t % k]!):=by
   rw[Q0,Array.getElem?_eq_getElem (by simpa using h)];have:=get_flatK enc k d t h;rw[getElem!_pos _ t (by simpa using h)]at this;rw[this]
  have r:d.toList[t / k]?=σ d[t / k]!:=by
   rw[Q0,Array.getElem?_eq_getElem j,getElem!_pos d _ j]
  have s:(enc d[t / k]!)[t % k]?=σ ((enc d[t / k]!)[t % k]!):=by
   generalize d[t / k]! =z;rw[x8 (by rw[hk];exact p),getElem!_pos (enc z) _ (by rw[hk];exact p)]
  have:=qp (λa _=>hk a) r s;rw[q,<-this];congr 1;rw[Nat.mul_comm];exact Nat.div_add_mod t k
 .rw[Y5 (by simpa using h),Y5];rw[iF λa _=>hk a];simpa using h
theorem CW(enc:α->List x4)(k:Nat)(hk:∀x,(enc x).length=k){g m:Nat}{d:Array α}{os:Array Obj}(h:ag w g e cs)(y:d.size*k<=cs.length):
  ag (sortWorldK enc k w g 0 m d os) g e (d.toList.flatMap enc++cs.drop (d.size*k))/\∀r,r<w.heap.size->r≠g->(sortWorldK enc k w g 0 m d os).heap[r]?=w.heap[r]?:=by
 have q:=h.lt;have p:∀r,r<w.heap.size->(sortWorldK enc k w g 0 m d os).heap[r]?=(w.heap.modify g (onCells (putCells id 0 (flatK enc k d))))[r]?:=λr j=>by
  show((w.heap.modify g (onCells (putCells id 0 (flatK enc k d))))++os)[r]?=_;rw[Array.getElem?_append_left (by simpa using j)]
 refine⟨?_,λr j s=>?_⟩
 .unfold ag at h ⊢;rw[p g q,Array.getElem?_modify,ms rfl,h];show σ (Obj.cells (putCells id 0 (flatK enc k d) cs.toArray) e (0,0))=_;refine congrArg σ (congrArg (λc=>Obj.cells c e (0,0)) ?_);apply Array.ext';apply X0;intro t;show _=(d.toList.flatMap enc++cs.drop (d.size*k))[t]?;rw[List.getElem?_append,iF λa _=>hk a,Q0];unfold putCells;rw[Array.getElem?_mapIdx,List.getElem?_toArray];have J:d.toList.length=d.size:=rfl;by_cases f:t<d.size*k
  .rw[ms (by rw[J];exact f),x8 Ω,<-CV enc k hk,Q0,Array.getElem?_eq_getElem (by simpa using f)];simp only[Y3,id];rw[ms (by simpa using f),Nat.sub_zero,getElem!_pos _ t (by simpa using f)]
  .rw[rc (by rw[J];exact f),R3,J,show d.size*k+(t-d.size*k)=t by omega];cases z:cs[t]? with
   |none=>rfl
   |some x=>
    simp only[Y3];rw[rc Θ]
 .rw[p r j,Array.getElem?_modify,rc (R7 s)]
end
theorem CX{P:V3}{K:Ren}(W:SlLaysF0.n6 P K){α:Type}{f:α->List x4}{k:Nat}{G:α->Prop}{num:α->Int}{E:α->α->Int}{F:Q6}{cap:Array x4}(aC:∀w,(isAgg (K.t 24)).run P w= .ok v2 w)(aD:∀w,(Go.sizeOf (K.t 24)).run P w= .ok k w)(h1:∀a,G a->∀u∈f a,u.oneCell'=v2)(hk:∀a,G a->(f a).length=k)(aE:∀a b,G a->G b->(E a b<0↔num a<num b))(ai:Enters P F){w:x5}{g:Nat}{v:x4}{L:List α}(h:bj f k e w g v L)(N:∀a∈L,G a)(aj:L.length<65536)(aF:∀X a b,af (λr=>r=g) w X->G a->G b->al P F ([.agg (f a).toArray,.agg (f b).toArray]++cap.toList) X λu aG=>Ext X aG/\u=Δ (E a b)):
  al P (K.f 6) [v,.func (.func F) #[] cap] w λ_ I=>af (λr=>lm v r) w I/\∃M,M.Perm L/\(∀(p q:Nat)(x y:α),p<q->M[p]?=σ x->M[q]?=σ y->num x<=num y)/\bj f k e I g v M:=by
 have ak:=λargs w=>W.f6.enters rfl args w;obtain⟨⟨aZ,aH⟩,a1⟩:=id h;have am:∀p c,v= .slice p 0 c->L=[]->al P (K.f 6) [v,.func (.func F) #[] cap] w λ_ I=>af (λr=>lm v r) w I/\∃M,M.Perm L/\(∀(p q:Nat)(x y:α),p<q->M[p]?=σ x->M[q]?=σ y->num x<=num y)/\bj f k e I g v M:=λp c ac aj=>by
  refine .code ak ?_;rw[ac];refine(AnyF.slices_SortFunc_none W p c _ w).Y ?_;rintro a2 I ⟨rfl,rfl⟩;refine⟨_,rfl,cO.refl _,af.refl _ _,L,.refl _,λp q x y _ B=>by rw[aj]at B;simp at B,by rw[<-ac];exact h⟩
 rcases aH with⟨rfl,aI⟩|⟨c,cs,rfl,C,an,hm,Y,aJ⟩
 .exact am _ _ rfl (Z5 aI)
 cases Z:L with
 |nil=>subst Z;exact am _ _ rfl rfl
 |cons a0 a6=>
 rw[<-Z];let β:={a:α // G a};have:Inhabited β:=⟨⟨a0,N a0 (by rw[Z];exact .head _)⟩⟩;let enc:β->List x4:=λx=>f x.1;let d:Array β:=(L.attach.map λx=>(⟨x.1,N x.1 x.2⟩:β)).toArray;have ao:d.toList.map Subtype.val=L:=by
  show(L.attach.map λx=>(⟨x.1,N x.1 x.2⟩:β)).map Subtype.val=L;rw[S6];exact List.attach_map_subtype_val L
 have R:d.size=L.length:=by simp[d]
 have H:∀x:β,(enc x).length=k:=λx=>hk x.1 x.2;have aK:d.toList.flatMap enc=L.flatMap f:=by
  have O:=congrArg (λl=>l.flatMap f) ao;rw[<-O];exact(List.flatMap_map Subtype.val f d.toList).symm
 have S:d.size*k<=cs.length:=by rw[R,Y];exact X4 k an
 have aL:HoldsK enc k w g 0 d:=by
  intro j T;rw[size_flatK]at T;have ap:j<cs.length:=Ω
  have aa:(flatK enc k d)[j]! =cs[j]:=by
   have O:(flatK enc k d).toList[j]?=σ cs[j]:=by
    rw[CV enc k H,aK,<-aJ,Y6 (by rw[<-R];exact T),x8 ap]
   rw[Q0]at O;rw[getElem!_pos _ j (by simpa using T)];rw[Array.getElem?_eq_getElem (by simpa using T)]at O;exact Z4 O
  refine⟨?_,?_⟩
  .show w.cell? ⟨g,0+j,ν⟩=σ ((flatK enc k d)[j]!);rw[aa];exact C.cell (by rw[X6];exact x8 ap)
  .unfold x5.frozen?;unfold ag at C;rw[C];simp
 have U:∀x y:β,ltOf (λx y:β=>E x.1 y.1) x y=decide (num x.1<num y.1):=λx y=>by
  unfold ltOf;exact decide_eq_decide.2 (aE x.1 y.1 x.2 y.2)
 have aM:SWO (ltOf λx y:β=>E x.1 y.1):=
  ⟨λx=>by rw[U];simp,λx y z p q=>by rw[U]at*;simp at*;omega,λx y z p q=>by rw[U]at*;simp at*;omega⟩
 have aq:∀m (d2:Array β) os,d2.size=d.size->af (λr=>r=g) w (sortWorldK enc k w g 0 m d2 os)/\cO w (sortWorldK enc k w g 0 m d2 os):=λm d2 os J=>by
  obtain⟨a7,au⟩:=CW enc k H C (by rw[J];exact S);have av:w.heap.size<=(sortWorldK enc k w g 0 m d2 os).heap.size:=by
   show w.heap.size<=((w.heap.modify g _)++os).size;simp
  refine⟨⟨av,λr o A _ ab=>?_⟩,rfl,⟨rfl,Nat.le_add_right _ _⟩,rfl,av,λr o A J=>?_⟩
  .rw[au r (b8.1 A).1 ab];exact A
  .have ab:r≠g:=λhe=>by subst he;unfold ag at C;rw[C]at A;cases A;cases J
   rw[au r (b8.1 A).1 ab];exact A
 have aN:CmpLays P F cap enc k (λx y:β=>E x.1 y.1) g 0 d.size w:=λm os aO J x y=>by
  have B:=(aF _ x.1 y.1 (aq m aO os J).1 x.2 y.2).calls ai;have Q:([x4.agg (f x.1).toArray,.agg (f y.1).toArray]++cap.toList).toArray= #[.agg (enc x).toArray,.agg (enc y).toArray]++cap:=by
   apply Array.ext';simp[enc]
  rw[Q]at B;refine B.Y ?_;rintro _ I ⟨_,rfl,aP,aQ,rfl⟩;exact⟨rfl,grown_of aQ aP⟩
 have aw:=AnyQ.slices_SortFunc W k aC aD enc H (λx=>h1 x.1 x.2) (λx y:β=>E x.1 y.1) aM F cap g 0 c d w (λargs w=>ai args w) aN aL C.lt (by rw[R];omega);rw[R]at aw;refine .code ak (aw.Y ?_);rintro _ I ⟨rfl,s,n,os,⟨aR,_,ac⟩,aS,rfl⟩;have ad:=aR;obtain⟨aT,aU⟩:=aq n s os ad;obtain⟨aV,_⟩:=CW enc k H C (by rw[ad];exact S);have V:(s.toList.map Subtype.val).Perm L:=by
  have aa:(s.extract 0 L.length).toList=s.toList:=by rw[show L.length=s.size by omega,Array.extract_size]
  have aW:(d.extract 0 L.length).toList=d.toList:=by rw[show L.length=d.size by omega,Array.extract_size]
  rw[aa,aW]at ac;rw[<-ao];exact ac.map _
 have ax:=V.length_eq;refine⟨_,rfl,aU,aT.Y λr _ A=>⟨_,_,_,rfl,A.symm⟩,s.toList.map Subtype.val,V,λp q x y aX B ay=>?_,⟨?_,.inr ⟨c,_,by rw[ax],aV,by rw[ax];exact an,hm,?_,?_⟩⟩,λa Q=>hk a (N a (V.mem_iff.1 Q))⟩
 .rw[u4,Y9]at B ay;obtain⟨a8,az,rfl⟩:=B;obtain⟨ba,aA,rfl⟩:=ay;rw[Q0]at az aA;have aB:=(b8.1 az);have ae:=(b8.1 aA);have:=aS p q (W0 _) aX (by have:=ae.1;omega);rw[getElem!_pos s p aB.1,getElem!_pos s q ae.1,aB.2,ae.2,U]at this;simpa using this
 .rw[iF λa Q=>hk a (N a (V.mem_iff.1 Q))]
 .have ah:(s.toList.flatMap enc).length=s.size*k:=by rw[iF λa _=>H a];rfl
  rw[o9,ah,List.length_drop,ad,Y];rw[Y]at S;exact Nat.add_sub_cancel' S
 .have ah:(s.toList.flatMap enc).length=s.size*k:=by rw[iF λa _=>H a];rfl
  have aY:(List.map Subtype.val s.toList).length*k=(s.toList.flatMap enc).length:=by rw[ah,r8];rfl
  rw[aY,List.take_left,List.flatMap_map]
end Go.Vc
namespace Go.Proofs
open Go.Shelf
def Tryz.xi:Go.Shelf.Ren:=⟨λ|6=>289|15=>246|14=>304|28=>282|29=>283|20=>319|21=>320|22=>321|23=>322|24=>323|25=>324|26=>325|27=>326|46=>334|47=>296|48=>297|49=>335|50=>336|57=>339|n=>n,λ|22=>351|24=>326|25=>350|3=>3|39=>228|0=>0|53=>371|55=>58|4=>4|46=>365|45=>364|50=>307|5=>5|9=>9|66=>380|70=>384|76=>404|77=>405|n=>n,λ|n=>n⟩
theorem Tryz.MO:Go.Proofs.SlLaysF0.n6 Tryz.prog Tryz.xi:={
 mixed:=Ψ,
 f6:=⟨Tryz.f289.name,Φ,Tryz.func289.F (congrArg σ Ψ)⟩,
 f14:=⟨Tryz.f304.name,Φ,Tryz.func304.F (congrArg σ Ψ)⟩,
 f15:=Tryz.func246.F (congrArg σ Ψ),
 f20:=⟨Tryz.f319.name,Φ,Tryz.func319.F (congrArg σ Ψ)⟩,
 f21:=⟨Tryz.f320.name,Φ,Tryz.func320.F (congrArg σ Ψ)⟩,
 f22:=⟨Tryz.f321.name,Φ,Tryz.func321.F (congrArg σ Ψ)⟩,
 f23:=⟨Tryz.f322.name,Φ,Tryz.func322.F (congrArg σ Ψ)⟩,
 f24:=⟨Tryz.f323.name,Φ,Tryz.func323.F (congrArg σ Ψ)⟩,
 f25:=⟨Tryz.f324.name,Φ,Tryz.func324.F (congrArg σ Ψ)⟩,
 f26:=⟨Tryz.f325.name,Φ,Tryz.func325.F (congrArg σ Ψ)⟩,
 f27:=⟨Tryz.f326.name,Φ,Tryz.func326.F (congrArg σ Ψ)⟩,
 f28:=Tryz.func282.F (congrArg σ Ψ),
 f29:=Tryz.func283.F (congrArg σ Ψ),
 f46:=⟨Tryz.f334.name,Φ,Tryz.func334.F (congrArg σ Ψ)⟩,
 f47:=Tryz.func296.F (congrArg σ Ψ),
 f48:=Tryz.func297.F (congrArg σ Ψ),
 f49:=⟨Tryz.f335.name,Φ,Tryz.func335.F (congrArg σ Ψ)⟩,
 f50:=⟨Tryz.f336.name,Φ,Tryz.func336.F (congrArg σ Ψ)⟩,
 f57:=⟨Tryz.f339.name,Φ,Tryz.func339.F (congrArg σ Ψ)⟩,
 t0:=Tryz.underlying0,
 a0:=Tryz.isAgg0,
 z0:=Tryz.sizeOf0,
 v0:=Tryz.zeroValue0,
 t3:=Tryz.underlying3,
 a3:=Tryz.isAgg3,
 z3:=Tryz.sizeOf3,
 v3:=Tryz.zeroValue3,
 t4:=Tryz.underlying4,
 a4:=Tryz.isAgg4,
 z4:=Tryz.sizeOf4,
 v4:=Tryz.zeroValue4,
 t5:=Tryz.underlying5,
 a5:=Tryz.isAgg5,
 z5:=Tryz.sizeOf5,
 v5:=Tryz.zeroValue5,
 t9:=Tryz.underlying9,
 a9:=Tryz.isAgg9,
 z9:=Tryz.sizeOf9,
 v9:=Tryz.zeroValue9,
 t22:=Tryz.underlying351,
 a22:=Tryz.isAgg351,
 z22:=Tryz.sizeOf351,
 v22:=Tryz.zeroValue351,
 t25:=Tryz.underlying350,
 a25:=Tryz.isAgg350,
 z25:=Tryz.sizeOf350,
 v25:=Tryz.zeroValue350,
 t39:=Tryz.underlying228,
 a39:=Tryz.isAgg228,
 z39:=Tryz.sizeOf228,
 v39:=Tryz.zeroValue228,
 t45:=Tryz.underlying364,
 a45:=Tryz.isAgg364,
 z45:=Tryz.sizeOf364,
 v45:=Tryz.zeroValue364,
 t46:=Tryz.underlying365,
 a46:=Tryz.isAgg365,
 z46:=Tryz.sizeOf365,
 v46:=Tryz.zeroValue365,
 t50:=Tryz.underlying307,
 a50:=Tryz.isAgg307,
 z50:=Tryz.sizeOf307,
 v50:=Tryz.zeroValue307,
 t53:=Tryz.underlying371,
 a53:=Tryz.isAgg371,
 z53:=Tryz.sizeOf371,
 v53:=Tryz.zeroValue371,
 t55:=Tryz.underlying58,
 a55:=Tryz.isAgg58,
 z55:=Tryz.sizeOf58,
 v55:=Tryz.zeroValue58,
 t66:=Tryz.underlying380,
 a66:=Tryz.isAgg380,
 z66:=Tryz.sizeOf380,
 v66:=Tryz.zeroValue380,
 t70:=Tryz.underlying384,
 a70:=Tryz.isAgg384,
 z70:=Tryz.sizeOf384,
 v70:=Tryz.zeroValue384,
 t76:=Tryz.underlying404,
 a76:=Tryz.isAgg404,
 z76:=Tryz.sizeOf404,
 v76:=Tryz.zeroValue404,
 t77:=Tryz.underlying405,
 a77:=Tryz.isAgg405,
 z77:=Tryz.sizeOf405,
 v77:=Tryz.zeroValue405}
def Tryz.xj:Go.Shelf.Ren:=⟨λ|6=>192|15=>246|14=>245|28=>282|29=>283|20=>274|21=>275|22=>276|23=>277|24=>278|25=>279|26=>280|27=>281|46=>295|47=>296|48=>297|49=>298|50=>299|57=>318|n=>n,λ|22=>275|24=>280|25=>290|3=>3|39=>228|0=>0|53=>371|55=>58|4=>4|46=>365|45=>364|50=>307|5=>5|9=>9|66=>380|70=>384|76=>404|77=>405|n=>n,λ|n=>n⟩
theorem Tryz.MP:Go.Proofs.SlLaysF0.n6 Tryz.prog Tryz.xj:={
 mixed:=Ψ,
 f6:=⟨Tryz.f192.name,Φ,Tryz.func192.F (congrArg σ Ψ)⟩,
 f14:=⟨Tryz.f245.name,Φ,Tryz.func245.F (congrArg σ Ψ)⟩,
 f15:=Tryz.func246.F (congrArg σ Ψ),
 f20:=⟨Tryz.f274.name,Φ,Tryz.func274.F (congrArg σ Ψ)⟩,
 f21:=⟨Tryz.f275.name,Φ,Tryz.func275.F (congrArg σ Ψ)⟩,
 f22:=⟨Tryz.f276.name,Φ,Tryz.func276.F (congrArg σ Ψ)⟩,
 f23:=⟨Tryz.f277.name,Φ,Tryz.func277.F (congrArg σ Ψ)⟩,
 f24:=⟨Tryz.f278.name,Φ,Tryz.func278.F (congrArg σ Ψ)⟩,
 f25:=⟨Tryz.f279.name,Φ,Tryz.func279.F (congrArg σ Ψ)⟩,
 f26:=⟨Tryz.f280.name,Φ,Tryz.func280.F (congrArg σ Ψ)⟩,
 f27:=⟨Tryz.f281.name,Φ,Tryz.func281.F (congrArg σ Ψ)⟩,
 f28:=Tryz.func282.F (congrArg σ Ψ),
 f29:=Tryz.func283.F (congrArg σ Ψ),
 f46:=⟨Tryz.f295.name,Φ,Tryz.func295.F (congrArg σ Ψ)⟩,
 f47:=Tryz.func296.F (congrArg σ Ψ),
 f48:=Tryz.func297.F (congrArg σ Ψ),
 f49:=⟨Tryz.f298.name,Φ,Tryz.func298.F (congrArg σ Ψ)⟩,
 f50:=⟨Tryz.f299.name,Φ,Tryz.func299.F (congrArg σ Ψ)⟩,
 f57:=⟨Tryz.f318.name,Φ,Tryz.func318.F (congrArg σ Ψ)⟩,
 t0:=Tryz.underlying0,
 a0:=Tryz.isAgg0,
 z0:=Tryz.sizeOf0,
 v0:=Tryz.zeroValue0,
 t3:=Tryz.underlying3,
 a3:=Tryz.isAgg3,
 z3:=Tryz.sizeOf3,
 v3:=Tryz.zeroValue3,
 t4:=Tryz.underlying4,
 a4:=Tryz.isAgg4,
 z4:=Tryz.sizeOf4,
 v4:=Tryz.zeroValue4,
 t5:=Tryz.underlying5,
 a5:=Tryz.isAgg5,
 z5:=Tryz.sizeOf5,
 v5:=Tryz.zeroValue5,
 t9:=Tryz.underlying9,
 a9:=Tryz.isAgg9,
 z9:=Tryz.sizeOf9,
 v9:=Tryz.zeroValue9,
 t22:=Tryz.underlying275,
 a22:=Tryz.isAgg275,
 z22:=Tryz.sizeOf275,
 v22:=Tryz.zeroValue275,
 t25:=Tryz.underlying290,
 a25:=Tryz.isAgg290,
 z25:=Tryz.sizeOf290,
 v25:=Tryz.zeroValue290,
 t39:=Tryz.underlying228,
 a39:=Tryz.isAgg228,
 z39:=Tryz.sizeOf228,
 v39:=Tryz.zeroValue228,
 t45:=Tryz.underlying364,
 a45:=Tryz.isAgg364,
 z45:=Tryz.sizeOf364,
 v45:=Tryz.zeroValue364,
 t46:=Tryz.underlying365,
 a46:=Tryz.isAgg365,
 z46:=Tryz.sizeOf365,
 v46:=Tryz.zeroValue365,
 t50:=Tryz.underlying307,
 a50:=Tryz.isAgg307,
 z50:=Tryz.sizeOf307,
 v50:=Tryz.zeroValue307,
 t53:=Tryz.underlying371,
 a53:=Tryz.isAgg371,
 z53:=Tryz.sizeOf371,
 v53:=Tryz.zeroValue371,
 t55:=Tryz.underlying58,
 a55:=Tryz.isAgg58,
 z55:=Tryz.sizeOf58,
 v55:=Tryz.zeroValue58,
 t66:=Tryz.underlying380,
 a66:=Tryz.isAgg380,
 z66:=Tryz.sizeOf380,
 v66:=Tryz.zeroValue380,
 t70:=Tryz.underlying384,
 a70:=Tryz.isAgg384,
 z70:=Tryz.sizeOf384,
 v70:=Tryz.zeroValue384,
 t76:=Tryz.underlying404,
 a76:=Tryz.isAgg404,
 z76:=Tryz.sizeOf404,
 v76:=Tryz.zeroValue404,
 t77:=Tryz.underlying405,
 a77:=Tryz.isAgg405,
 z77:=Tryz.sizeOf405,
 v77:=Tryz.zeroValue405}
theorem Tryz.MQ(w:x5):(isAgg (Tryz.xi.t 24)).run Tryz.prog w= .ok v2 w:=Tryz.isAgg326 w
theorem Tryz.MR(w:x5):(Go.sizeOf (Tryz.xi.t 24)).run Tryz.prog w= .ok 6 w:=Tryz.sizeOf326 w
theorem Tryz.MS:Tryz.prog.funcs[253]?=σ Tryz.f253:=Tryz.func253
theorem Tryz.MT(w:x5):(isAgg (Tryz.xj.t 24)).run Tryz.prog w= .ok v2 w:=Tryz.isAgg280 w
theorem Tryz.MU(w:x5):(Go.sizeOf (Tryz.xj.t 24)).run Tryz.prog w= .ok 2 w:=Tryz.sizeOf280 w
theorem Tryz.MV:Tryz.prog.funcs[193]?=σ Tryz.f193:=Tryz.func193
end Go.Proofs
namespace Go.Proofs.YtnhkbjhpbbobaaaGreatDoor
open Go Go.Vc Go.RowKit Go.Proofs Go.Proofs.Tryz
set_option maxRecDepth 100000
def ua{α:Type}(f:α->Int)(L:List α)(a i:Nat):Prop:=∀(p q:Nat)(x y:α),a<=p->p<q->q<i->L[p]?=σ x->L[q]?=σ y->f x<=f y
def qs(L:List (Λ)):Prop:=∀a∈L,nl a
theorem qs.perm{L M:List (Λ)}(h:qs L)(ac:M.Perm L):qs M:=λa hk=>h a (ac.mem_iff.1 hk)
theorem MW{g:Nat}{L:List (Λ)}{i:Nat}(e:y=(i:Int))(h:ph w g v L)(hi:L[i]?=σ a):
  ab v8 (c9 kP v (Δ y)) w (λp=>ab v8 (u6 cJ p) w K)=K (ep a):=by
 have f:a.length=6:=by have:=h.2 a (x7 hi);simpa using this
 rw[cj e kP.u cJ.i h (x6.1 hi).1,pg f (h.range hi)]
abbrev CY:x4:=.func (.func AT) #[] #[]
theorem ub{P:V3}{k:j0}{s:ByteArray}{i:Nat}(a:P.underlying t=σ .string)(hi:i<s.size):
  ab P (Instr.index t (.string s) (.int k (i:Int))) w K=K (.int .u8 (s[i].toNat:Int)):=ab.of λI _=>by
 simp[Instr.index,asIntOf,run_underlying a,hi]
def ey(n:Nat):Nat:=if n=0 then 0 else Nat.log2 n+1
theorem CZ(h:n<256):ey n<=8:=by
 unfold ey;by_cases a:n=0
 .rw[ms a];omega
 .rw[rc a];have e:Nat.log2 n<8:=(Nat.log2_lt a).2 Ω;omega
theorem MX{g:Nat}{L:List (Λ)}(h:ph w g v L)(j:qs L)(s:L.length<65536):
  al v8 Kv [v,CY] w λ_ I=>af (λr=>lm v r) w I/\∃M,M.Perm L/\ua gU M 0 M.length/\ph I g v M:=by
 refine(CX MO MQ MR (λa _=>CS) (λa e=>by simp[e.1]) (λa b e f=>(CT a b (by rw[e.1,f.1]) e.2 f.2).1) (Enters.of v8 MS rfl Ψ) h j s λE a b _ e f=>MN e f).Y ?_;rintro _ I _ ⟨z,M,ac,hu,hm⟩;exact⟨z,M,ac,λp q x y _ A _ B C=>hu p q x y A B C,hm⟩
end Go.Proofs.YtnhkbjhpbbobaaaGreatDoor
namespace Go.Vc
open Go Go.RowKit
set_option maxRecDepth 100000
theorem Keys.str{P:V3}{k:o5}(hk:P.underlying k=σ .string):Keys P k λv=>∃s,v= .string s:=by
 have key:∀s,MapKept.IsKey .string (.string s):=λs=>trivial;refine⟨λw f v ⟨n,h⟩=>?_,λw x ⟨n,h⟩ p q=>?_,λw v ⟨n,h⟩=>?_⟩
 .subst h;exact MapKept.run_checkKey hk (key n) f 9999
 .subst h;rcases MapKept.findNow_spec (key n) p 0 (λe he=>by obtain⟨m,h⟩:=q e he;rw[h];exact key m)with⟨h1,a⟩|⟨j,e,h1,a,r⟩
  .exact .inl ⟨MapKept.run_findKey hk h1,a⟩
  .exact .inr ⟨j,e,by have:=MapKept.run_findKey (P:=P) (w:=w) hk h1;simpa using this,a,r⟩
 .subst h;exact MapKept.run_keyThatStays (d:=.string) (key n)
section
variable{P:V3}{w:x5}
theorem mp{s:Sem x4}(h:∀K:x4->Prop,ab P s w K=K v):b2 P s v w:=by
 have h1:ab P s w (λu=>u=v):=(h λu=>u=v).mpr rfl;obtain⟨u,hu,rfl⟩:=h1;exact hu
variable{k e:o5}{G:x4->Prop}
end
end Go.Vc
namespace Go.Proofs.YtnhkbjhpbbobaaaGreatDoor
open Go Go.Vc Go.RowKit Go.Proofs Go.Proofs.Tryz
set_option maxRecDepth 100000
def gV:Nat->Nat->Λ
 |0,_=>[]
 |n+1,u=>gV n (u / 10)++[48+((u % 10:Nat):Int)]
theorem rH:∀(n u:Nat),(gV n u).length=n
 |0,_=>rfl
 |n+1,u=>by rw[gV,o9,rH n];rfl
theorem MY(n u:Nat):gV (n+2) u=gV n (u / 100)++[48+((u / 10 % 10:Nat):Int),48+((u % 10:Nat):Int)]:=by
 rw[gV,gV,T6];rw[show u / 10 / 10=u / 100 by omega];rfl
theorem C0:∀(n u:Nat),10 ^ n<=u->u<10 ^ (n+1)->gV (n+1) u=gi u
 |0,u,h1,a=>by
  rw[pa,ms (by simpa using a)];simp[gV]
 |n+1,u,h1,a=>by
  have e:(10:Nat) ^ (n+1)=10*10 ^ n:=by rw[Nat.pow_succ,Nat.mul_comm]
  have f:(10:Nat) ^ (n+1+1)=10*10 ^ (n+1):=by rw[Nat.pow_succ,Nat.mul_comm]
  have h:1<=10 ^ n:=Nat.one_le_iff_ne_zero.2 Ξ;rw[pa,rc Ω,gV,C0 n (u / 10) Ω Ω]
def gJ(a C:Λ)(e u:Nat):Prop:=e<=a.length/\C.length=a.length/\∃t,C.drop e=t/\a=gV e u++t
theorem gJ.two{e:Λ}{a u:Nat}(h:gJ e C (a+2) u):gJ e ((C.set (a+1) (48+((u % 10:Nat):Int))).set a (48+((u / 10 % 10:Nat):Int))) a (u / 100):=by
 obtain⟨h1,f,t,j,p⟩:=h;refine⟨Ω,by simp[f],_,rfl,?_⟩;rw[p,MY,T6];congr 1;rw[List.drop_set,rc Ω,List.drop_set,rc Ω,<-j];have q:a<C.length:=Ω
 have r:a+1<C.length:=Ω
 rw[W3 q,W3 r,V2,Q5];rfl
theorem gJ.one{u:Nat}(h:gJ a C 1 u):C.set 0 (48+((u % 10:Nat):Int))=a:=by
 obtain⟨h1,e,t,f,j⟩:=h;rw[j,gV,gV,List.nil_append,<-f];cases C with
 |nil=>simp at e;omega
 |cons c C=>simp
theorem gJ.zero{u:Nat}(h:gJ a C 0 u):C=a:=by
 obtain⟨h1,j,t,e,f⟩:=h;rw[f,gV,List.nil_append,<-e,List.drop_zero]
def k0:ByteArray:=⟨#[48,48,48,49,48,50,48,51,48,52,48,53,48,54,48,55,48,56,48,57,49,48,49,49,49,50,49,51,49,52,49,53,49,54,49,55,49,56,49,57,50,48,50,49,50,50,50,51,50,52,50,53,50,54,50,55,50,56,50,57,51,48,51,49,51,50,51,51,51,52,51,53,51,54,51,55,51,56,51,57,52,48,52,49,52,50,52,51,52,52,52,53,52,54,52,55,52,56,52,57,53,48,53,49,53,50,53,51,53,52,53,53,53,54,53,55,53,56,53,57,54,48,54,49,54,50,54,51,54,52,54,53,54,54,54,55,54,56,54,57,55,48,55,49,55,50,55,51,55,52,55,53,55,54,55,55,55,56,55,57,56,48,56,49,56,50,56,51,56,52,56,53,56,54,56,55,56,56,56,57,57,48,57,49,57,50,57,51,57,52,57,53,57,54,57,55,57,56,57,57]⟩
theorem C1:k0.size=200:=by decide+kernel
theorem MZ:∀q:Fin 100,k0.data.toList[2*q.val]?=σ (UInt8.ofNat (48+q.val / 10))/\k0.data.toList[2*q.val+1]?=σ (UInt8.ofNat (48+q.val % 10)):=by decide+kernel
theorem xk{q:Nat}(e:q<100):(∀h,(k0[2*q]'h).toNat=48+q / 10)/\∀h,(k0[2*q+1]'h).toNat=48+q % 10:=by
 obtain⟨h1,f⟩:=MZ ⟨q,e⟩;refine⟨λh=>?_,λh=>?_⟩
 .have a:=(x6.1 h1).2;have:k0[2*q]=UInt8.ofNat (48+q / 10):=a;rw[this,UInt8.toNat_ofNat'];omega
 .have a:=(x6.1 f).2;have:k0[2*q+1]=UInt8.ofNat (48+q % 10):=a;rw[this,UInt8.toNat_ofNat'];omega
theorem wrap_u32{x:Int}(h1:0<=x)(a:x<4294967296):j0.u32.wrap x=x:=by
 simp[j0.wrap,j0.bits,j0.signed];omega
def k1(w:x5)(g o:Nat)(a C e:Λ):Prop:=ag w g nM (ints .u8 (a++C++e))/\a.length=o
theorem xl{g o c i:Nat}{a:j0}(e:y=(i:Int))(hi:i<n):
  ab v8 (c9 cT (.slice (σ ⟨g,o,ν⟩) n c) (.int a y)) w K=K (.pointer (σ ⟨g,o+i,ν⟩)):=by
 subst e;rw[eS cT.u cN.i hi (λ_=>rfl),T0]
theorem xm{g o i:Nat}{x:Int}{f:Λ}{K:Unit->x5->Prop}(h:k1 w g o a C f)(hi:i<C.length)(p:∀I,af (λr=>r=g) w I->k1 I g o a (C.set i x) f->K () I):aF v8 (l9 cN (.pointer (σ ⟨g,o+i,ν⟩)) (.int .u8 x)) w K:=by
 obtain⟨h,rfl⟩:=h;refine bt (g:=g) (o:=a.length+i) cN.i rfl rfl h Θ λI q J j=>p I q ⟨?_,rfl⟩;have e:(ints .u8 (a++C++f)).set (a.length+i) (.int .u8 x)=ints .u8 (a++C.set i x++f):=by
  unfold ints;rw[<-T2,T6,T4 _ _ Ω,Q5,List.set_append_left _ _ hi,T6]
 rw[e]at j;exact j
theorem pi{g o c a q i:Nat}{x f t:Int}{h j:Λ}{K:x5->Prop}(y:k1 w g o h C j)(Y:C.length=n)(Z:n<=1000)(ac:a<=n)(h1:(a:Int)-x=((i+1:Nat):Int))(E:(a:Int)-f=(i:Int))(F:i+1<n)(G:t=((2*q:Nat):Int))(p:q<100)(H:∀I,af (λr=>r=g) w I->k1 I g o h ((C.set (i+1) (48+((q % 10:Nat):Int))).set i (48+((q / 10:Nat):Int))) j->K I):
  ei w λaa=>
  ab v8 (aO .sub ai v6 v2 (Δ (a:Int)) (Δ x)) aa λL=>
  ab v8 (aO .sub ai v6 v2 (Δ (a:Int)) (Δ f)) aa λz=>
  ab v8 (aO .add p4 v6 v2 (.int .u32 t) (.int .u32 1)) aa λM=>
  ab v8 (Instr.index da (.string k0) M) aa λt50=>
  ab v8 (Instr.index da (.string k0) (.int .u32 t)) aa λA=>
  ab v8 (c9 cT (.slice (σ ⟨g,o,ν⟩) n c) L) aa λt53=>
  aF v8 (l9 cN t53 t50) aa λ(_:Unit)e=>
   (Ext aa e\/b2 v8 (Instr.index da (.string k0) (.int .u32 t)) A e/\b2 v8 (aO .sub ai v6 v2 (Δ (a:Int)) (Δ f)) z e/\True)/\
  ab v8 (c9 cT (.slice (σ ⟨g,o,ν⟩) n c) z) e λN=>
   aF v8 (l9 cN N A) e λ(_:Unit)s=>K s:=by
 subst G;intro aa B _ _;have O:af (λr=>r=g) w aa:=B.V _;have P:k1 aa g o h C j:=⟨y.1.W B,y.2⟩;rw[dx,m1 Ω Ω,dx,m1 Ω Ω,aP,wrap_u32 Ω Ω];rw[show((2*q:Nat):Int)+1=((2*q+1:Nat):Int) by omega];have J:=C1;rw[ub da.u (by rw[J];omega),ub da.u (by rw[J];omega)];rw[(xk p).1,(xk p).2,xl h1 F];refine xm P Ω λe Q R=>⟨.inr ⟨mp λK=>?_,mp λK=>?_,trivial⟩,?_⟩
 .rw[ub da.u (by rw[J];omega),(xk p).1]
 .rw[dx,m1 Ω Ω]
 .rw[xl E Ω];refine xm R Θ λs S U=>H s ((O.F Q).F S) ?_;have W:48+((q % 10:Nat):Int)=((48+q % 10:Nat):Int):=Ω
  have X:48+((q / 10:Nat):Int)=((48+q / 10:Nat):Int):=Ω
  rw[W,X];exact U
theorem gJ.pair{e:Λ}{a u q:Nat}(h:gJ e C (a+2) u)(f:q=u % 100):gJ e ((C.set (a+1) (48+((q % 10:Nat):Int))).set a (48+((q / 10:Nat):Int))) a (u / 100):=by
 have:=h.two;rw[show u % 10=q % 10 by omega,show u / 10 % 10=q / 10 by omega]at this;exact this
theorem pj{k:j0}{a b:Nat}(e:b≠0):ab v8 (aO .rem t cx cy (.int k (a:Int)) (.int k (b:Int))) w K=K (.int k ((a % b:Nat):Int)):=by
 rw[q9 Ω,Int.tmod_eq_emod_of_nonneg Ω,Int.natCast_emod]
theorem u32_quo{a b:Nat}(e:b≠0)(f:a<4294967296):ab v8 (aO .quo t cx cy (.int .u32 (a:Int)) (.int .u32 (b:Int))) w K=K (.int .u32 ((a / b:Nat):Int)):=by
 have:=Nat.div_le_self a b;rw[nN Ω,Int.tdiv_eq_ediv_of_nonneg Ω,<-Int.natCast_ediv];generalize a / b=m at this ⊢;rw[wrap_u32 Ω Ω]
theorem u64_quo{a b:Nat}(e:b≠0)(f:a<18446744073709551616):ab v8 (aO .quo t cx cy (.int .u64 (a:Int)) (.int .u64 (b:Int))) w K=K (.int .u64 ((a / b:Nat):Int)):=by
 have:=Nat.div_le_self a b;rw[nN Ω,Int.tdiv_eq_ediv_of_nonneg Ω,<-Int.natCast_ediv];generalize a / b=m at this ⊢;rw[m2 Ω Ω]
theorem pk{a b:Nat}(f:a*b<4294967296):ab v8 (aO .mul t cx cy (.int .u32 (a:Int)) (.int .u32 (b:Int))) w K=K (.int .u32 ((a*b:Nat):Int)):=by
 have e:(a:Int)*(b:Int)=((a*b:Nat):Int):=Ξ
 rw[fz,e];generalize a*b=m at f ⊢;rw[wrap_u32 Ω Ω]
theorem gJ.start{u:Nat}(h:C.length=N):gJ (gV N u) C N u:=⟨by rw[rH];omega,by rw[rH,h],[],by rw[List.drop_eq_nil_iff];omega,Ξ⟩
theorem M0{g o c u:Nat}{E G:Λ}(ai:k1 w g o E C G)(aj:C.length=N)(ay:N<=19)(hu:u<10 ^ N):
  al v8 KD [.slice (σ ⟨g,o,ν⟩) N c,.int .u64 (u:Int)] w λv I=>v= .tuple #[]/\af (λr=>r=g) w I/\k1 I g o E (gV N u) G:=by
 have s:=rH N u;refine aB func307 ?_;rw[iV cT.u];refine⟨λak R U=>∃eW e:Nat,ak= .int .u64 (eW:Int)/\R=Δ (e:Int)/\eW<10 ^ e/\e<=N/\af (λr=>r=g) w U/\∃H,k1 U g o E H G/\gJ (gV N u) H e eW,
  λ_ R _=>(bX R).toNat,⟨u,N,rfl,rfl,hu,o4 _,af.refl _ _,C,ai,gJ.start aj⟩,?_⟩
 rintro _ _ U ⟨eW,e,rfl,rfl,J,x,S,H,V,O⟩;have ad:H.length=N:=by rw[O.2.1,s]
 have az:(10:Nat) ^ e<=10 ^ 19:=S5 Ω Ω;have an:eW<18446744073709551616:=Ω
 have aA:(8:Int)=((8:Nat):Int):=rfl;rw[cP,am];refine⟨λao=>?_,λao=>?_⟩
 .obtain⟨m,rfl⟩:∃m,e=m+8:=⟨e-8,Ω⟩;have aC:eW % 100000000<100000000:=Nat.mod_lt _ Ω;rw[show U3 .u64 100000000=U3 .u64 ((100000000:Nat):Int)from rfl,pj Ω,fA fK.u p4.u,wrap_u32 Ω Ω,u64_quo Ω an];rw[show U3 .u32 10000=U3 .u32 ((10000:Nat):Int)from rfl,show U3 .u32 100=U3 .u32 ((100:Nat):Int)from rfl,show U3 .u32 2=U3 .u32 ((2:Nat):Int)from rfl];rw[u32_quo Ω Ω,pj Ω,u32_quo Ω Ω,pk Ω,pj Ω,pk Ω,u32_quo Ω Ω,pk Ω,pj Ω,pk Ω];refine pi (i:=m+6) (q:=eW % 100000000 % 10000 % 100) V ad Ω x Ω Ω Ω Ω Ω λaa z A=>?_;have h:=O.pair (q:=eW % 100000000 % 10000 % 100) Ω;have K:=h.2.1.F s;refine pi (i:=m+4) (q:=eW % 100000000 % 10000 / 100) A K Ω x Ω Ω Ω Ω Ω λB p j=>?_;have f:=gJ.pair (q:=eW % 100000000 % 10000 / 100) h Ω;have ae:=f.2.1.F s;refine pi (i:=m+2) (q:=eW % 100000000 / 10000 % 100) j ae Ω x Ω Ω Ω Ω Ω λap W P=>?_;have ag:=gJ.pair (q:=eW % 100000000 / 10000 % 100) f Ω;have aq:=ag.2.1.F s;refine pi (i:=m) (q:=eW % 100000000 / 10000 / 100) P aq Ω x Ω Ω Ω Ω Ω λaD au av=>?_;have ah:=gJ.pair (q:=eW % 100000000 / 10000 / 100) ag Ω;rw[dx,m1 Ω Ω];refine⟨⟨eW / 100000000,m,rfl,by congr 1;omega,?_,Ω,(((S.F z).F p).F W).F au,_,av,?_⟩,by simp only[bX];omega⟩
  .rw[Nat.pow_add]at J;exact Nat.div_lt_of_lt_mul (by rw[Nat.mul_comm];exact J)
  .rw[show eW / 100 / 100 / 100 / 100=eW / 100000000 by omega]at ah;exact ah
 .have aE:e<8:=Ω
  have aF:(10:Nat) ^ e<=10 ^ 7:=S5 Ω Ω;rw[fA fK.u p4.u,wrap_u32 Ω Ω];refine jo (λa b aa=>∃e3 m:Nat,a=Δ (m:Int)/\b= .int .u32 (e3:Int)/\e3<10 ^ m/\m<4/\m<=N/\af (λr=>r=g) w aa/\∃Q,k1 aa g o E Q G/\gJ (gV N u) Q m e3) ?_ ?_
  rotate_left
  .intro ax L;rw[cP,am];refine⟨λX=>?_,λX=>L _ _ _ ⟨eW,e,rfl,rfl,J,Ω,x,S,H,V,O⟩⟩;obtain⟨m,rfl⟩:∃m,e=m+4:=⟨e-4,Ω⟩;rw[show U3 .u32 10000=U3 .u32 ((10000:Nat):Int)from rfl,show U3 .u32 100=U3 .u32 ((100:Nat):Int)from rfl,show U3 .u32 2=U3 .u32 ((2:Nat):Int)from rfl];rw[pj Ω,u32_quo Ω Ω,u32_quo Ω Ω,pk Ω,pj Ω,pk Ω];refine pi (i:=m+2) (q:=eW % 10000 % 100) V ad Ω x Ω Ω Ω Ω Ω λaa z A=>?_;have h:=O.pair (q:=eW % 10000 % 100) Ω;have K:=h.2.1.F s;refine pi (i:=m) (q:=eW % 10000 / 100) A K Ω x Ω Ω Ω Ω Ω λB p j=>?_;have f:=gJ.pair (q:=eW % 10000 / 100) h Ω;rw[dx,m1 Ω Ω];refine L _ _ _ ⟨eW / 10000,m,by congr 1;omega,rfl,?_,Ω,Ω,(S.F z).F p,_,j,?_⟩
   .rw[Nat.pow_add]at J;exact Nat.div_lt_of_lt_mul (by rw[Nat.mul_comm];exact J)
   .rw[show eW / 100 / 100=eW / 10000 by omega]at f;exact f
  rintro _ _ aa ⟨e3,m,rfl,rfl,Y,aG,Z,z,Q,A,h⟩;have K:=h.2.1.F s;have aH:(10:Nat) ^ m<=10 ^ 3:=S5 Ω Ω;refine jo (λa b B=>∃M m:Nat,a=Δ (m:Int)/\b= .int .u32 (M:Int)/\M<10 ^ m/\m<2/\m<=N/\af (λr=>r=g) w B/\∃ab,k1 B g o E ab G/\gJ (gV N u) ab m M) ?_ ?_
  rotate_left
  .intro ax L;rw[cP,am];refine⟨λX=>?_,λX=>L _ _ _ ⟨e3,m,rfl,rfl,Y,Ω,Z,z,Q,A,h⟩⟩;obtain⟨m,rfl⟩:∃bP,m=bP+2:=⟨m-2,Ω⟩;rw[show U3 .u32 100=U3 .u32 ((100:Nat):Int)from rfl,show U3 .u32 2=U3 .u32 ((2:Nat):Int)from rfl];rw[pj Ω,pk Ω,u32_quo Ω Ω];refine pi (i:=m) (q:=e3 % 100) A K Ω Z Ω Ω Ω Ω Ω λB p j=>?_;have f:=h.pair rfl;rw[dx,m1 Ω Ω];refine L _ _ _ ⟨e3 / 100,m,by congr 1;omega,rfl,?_,Ω,Ω,z.F p,_,j,f⟩;rw[Nat.pow_add]at Y;exact Nat.div_lt_of_lt_mul (by rw[Nat.mul_comm];exact Y)
  rintro _ _ B ⟨M,m,rfl,rfl,ac,aI,Z,p,ab,j,f⟩;have ae:=f.2.1.F s;rw[bU,am];refine⟨λaw=>?_,λaw=>?_⟩
  .obtain rfl:m=1:=Ω
   have ac:M<10:=by simpa using ac
   rw[aP,wrap_u32 Ω Ω,fA p4.u cN.u,wrap_u8 Ω Ω,xl (y:=0) (i:=0) rfl Ω];refine xm j Ω λap W P=>?_;have:=f.one;rw[Nat.mod_eq_of_lt ac]at this;rw[this]at P;exact⟨rfl,p.F W,P⟩
  .obtain rfl:m=0:=Ω
   rw[f.zero]at j;exact⟨rfl,p,j⟩
def rI:Λ:=[1,10,100,1000,10000,100000,1000000,10000000,100000000,1000000000,10000000000,100000000000,1000000000000,10000000000000,100000000000000,1000000000000000,10000000000000000,100000000000000000,1000000000000000000,10000000000000000000]
def fo(w:x5):Prop:=w.rangeAt 1 0 (ints .u64 rI)
theorem fo.W(h:fo w)(a:Ext w I):fo I:=oR a h
theorem M1:∀k:Nat,k<20->rI[k]?=σ (((10 ^ k:Nat)):Int):=Φ
theorem C2{s:Nat}(h:2 ^ s<=n):ey n=s+ey (n / 2 ^ s):=by
 have J:=Nat.two_pow_pos s;have h1:n / 2 ^ s≠0:=by have:=Nat.div_pos h J;omega
 have f:n≠0:=Ω
 unfold ey;rw[rc f,rc h1];have e:Nat.log2 n=Nat.log2 (n / 2 ^ s)+s:=by
  refine(Nat.log2_eq_iff f).2 ⟨?_,?_⟩
  .rw[Nat.pow_add];have:=X4 (2 ^ s) (Nat.log2_self_le h1);have:=Nat.div_mul_le_self n (2 ^ s);omega
  .have j:=Nat.lt_log2_self (n:=n / 2 ^ s);rw[show Nat.log2 (n / 2 ^ s)+s+1=(Nat.log2 (n / 2 ^ s)+1)+s by omega,Nat.pow_add];have:=X4 (2 ^ s) (show n / 2 ^ s+1<=2 ^ (Nat.log2 (n / 2 ^ s)+1) by omega);have p:=Nat.lt_div_mul_add J (a:=n);rw[U6]at this;omega
 omega
def rJ:ByteArray:=⟨#[0,1,2,2,3,3,3,3,4,4,4,4,4,4,4,4,5,5,5,5,5,5,5,5,5,5,5,5,5,5,5,5,6,6,6,6,6,6,6,6,6,6,6,6,6,6,6,6,6,6,6,6,6,6,6,6,6,6,6,6,6,6,6,6,7,7,7,7,7,7,7,7,7,7,7,7,7,7,7,7,7,7,7,7,7,7,7,7,7,7,7,7,7,7,7,7,7,7,7,7,7,7,7,7,7,7,7,7,7,7,7,7,7,7,7,7,7,7,7,7,7,7,7,7,7,7,7,7,8,8,8,8,8,8,8,8,8,8,8,8,8,8,8,8,8,8,8,8,8,8,8,8,8,8,8,8,8,8,8,8,8,8,8,8,8,8,8,8,8,8,8,8,8,8,8,8,8,8,8,8,8,8,8,8,8,8,8,8,8,8,8,8,8,8,8,8,8,8,8,8,8,8,8,8,8,8,8,8,8,8,8,8,8,8,8,8,8,8,8,8,8,8,8,8,8,8,8,8,8,8,8,8,8,8,8,8,8,8,8,8,8,8,8,8,8,8,8,8,8,8,8,8,8,8,8,8]⟩
theorem M2:rJ.size=256:=by decide+kernel
theorem M3:∀q:Fin 256,rJ.data.toList[q.val]?=σ (UInt8.ofNat (ey q.val)):=by decide+kernel
theorem M4{q:Nat}(a:q<256):∀h,(rJ[q]'h).toNat=ey q:=λh=>by
 have h1:=M3 ⟨q,a⟩;have e:=(x6.1 h1).2;have:rJ[q]=UInt8.ofNat (ey q):=e;have f:=CZ a;rw[this,UInt8.toNat_ofNat'];omega
theorem M5(E:n<18446744073709551616):al v8 Kq [.int .u64 (n:Int)] w λv I=>v=Δ (ey n:Int)/\Ext w I:=by
 refine aB func283 ?_;have step:∀{s x m:Nat}{ax:x4->x4->x5->Prop}{y c:Int},s<64->x<18446744073709551616->m+ey x=ey n->m<=64->y=(2 ^ s:Nat)->c=(s:Int)->2 ^ s<=18446744073709551615->(∀a bP:Nat,a<2 ^ s\/(a=x / 2 ^ s/\bP=m+s)->a<=x->bP+ey a=ey n->bP<=m+s->ax (.int .u64 (a:Int)) (Δ (bP:Int)) w)->
   ab v8 (aO .geq fK v6 v2 (.int .u64 (x:Int)) (.int .u64 y)) w λt4=>
    Split t4 (ab v8 (aO .shr fK v6 v2 (.int .u64 (x:Int)) (.int .u64 c)) w λr=>ab v8 (aO .add ai v6 v2 (Δ (m:Int)) (Δ c)) w λz=>ax r z w) (ax (.int .u64 (x:Int)) (Δ (m:Int)) w):=by
  intro s x m ax y c J f hm G A B p e;subst A B;rw[cP,am];refine⟨λh=>?_,λh=>e x m (.inl Ω) (o4 _) hm Ω⟩;rw[mj J,aP,m1 Ω Ω];have:=C2 (n:=x) (s:=s) Ω;have:=e (x / 2 ^ s) (m+s) (.inr ⟨rfl,rfl⟩) (Nat.div_le_self _ _) Ω Ω;exact this
 refine jo (λx m U=>w=U/\∃a bP:Nat,x= .int .u64 (a:Int)/\m=Δ (bP:Int)/\a<4294967296/\bP+ey a=ey n/\bP<=32) ?_ ?_
 rotate_left
 .intro ax e;rw[cP,am];refine⟨λh=>?_,λh=>e _ _ _ ⟨rfl,n,0,rfl,rfl,Ω,Ω,Ω⟩⟩;rw[show U3 .u64 32=U3 .u64 ((32:Nat):Int)from rfl,mj Ω];have:=C2 (n:=n) (s:=32) Ω;exact e _ _ _ ⟨rfl,n / 2 ^ 32,32,rfl,rfl,Ω,Ω,Ω⟩
 rintro _ _ _ ⟨rfl,x,m,rfl,rfl,f,hm,q⟩;refine jo (λx m U=>w=U/\∃a bP:Nat,x= .int .u64 (a:Int)/\m=Δ (bP:Int)/\a<65536/\bP+ey a=ey n/\bP<=48) ?_ ?_
 rotate_left
 .intro ax e;refine step (s:=16) Ω Ω hm Ω Ω Ω Ω λa bP h1 p j C=>e _ _ _ ⟨rfl,a,bP,rfl,rfl,?_,j,Ω⟩;rcases h1 with h1|⟨h1,_⟩<;>omega
 rintro _ _ _ ⟨rfl,x,m,rfl,rfl,f,hm,q⟩;refine jo (λx m U=>w=U/\∃a bP:Nat,x= .int .u64 (a:Int)/\m=Δ (bP:Int)/\a<256/\bP+ey a=ey n/\bP<=56) ?_ ?_
 rotate_left
 .intro ax e;refine step (s:=8) Ω Ω hm Ω Ω Ω Ω λa bP h1 p j C=>e _ _ _ ⟨rfl,a,bP,rfl,rfl,?_,j,Ω⟩;rcases h1 with h1|⟨h1,_⟩<;>omega
 rintro _ _ _ ⟨rfl,x,m,rfl,rfl,f,hm,q⟩;have J:=M2;have H:=CZ f;rw[fA fK.u cN.u,wrap_u8 Ω Ω];refine(ub (s:=rJ) da.u (by rw[J];omega)).mpr ?_;rw[M4 f,fA cN.u ai.u,m1 Ω Ω,aP,m1 Ω Ω];exact⟨by congr 1;omega,Ext.refl _⟩
theorem C3{k:j0}{a:Nat}(f:n<64):ab v8 (aO .shr t cx cy (Δ (a:Int)) (.int k (n:Int))) w K=K (Δ ((a / 2 ^ n:Nat):Int)):=ab.of λI _=>by
 have e:(a:Int).fdiv (2 ^ min n W5.bits)=((a / 2 ^ n:Nat):Int):=by
  have:min n W5.bits=n:=Nat.min_eq_left (by show n<=64;omega);rw[this,Int.fdiv_eq_ediv_of_nonneg _ (by exact Int.le_of_lt (Int.pow_pos Ω))];simp
 simp only[aO,eqGuard,binOp,Op.shift,u9,e];rfl
theorem M6:∀L:Fin 64,7<=L.val->2 ^ L.val<=10 ^ (L.val*78913 / 262144+1)/\10 ^ (L.val*78913 / 262144)<=10*2 ^ (L.val-1)/\1<=L.val*78913 / 262144/\L.val*78913 / 262144<19:=by decide+kernel
theorem M7{d:Nat}(y:fo w)(h1:100<=d)(C:d<9223372036854775808):al v8 KC [.int .u64 (d:Int)] w λv I=>Ext w I/\∃n:Nat,v=Δ ((n+1:Nat):Int)/\n<19/\10 ^ n<=d/\d<10 ^ (n+1):=by
 have j:d≠0:=Ω
 have p:ey d=Nat.log2 d+1:=by unfold ey;rw[rc j]
 have E:2 ^ (ey d-1)<=d:=by rw[p];exact Nat.log2_self_le j
 have G:d<2 ^ ey d:=by rw[p];exact Nat.lt_log2_self
 have z:7<=ey d:=by
  by_cases h:7<=ey d
  .exact h
  .have:2 ^ ey d<=2 ^ 6:=S5 Ω Ω;omega
 have A:ey d<64:=by
  by_cases h:ey d<64
  .exact h
  .have:2 ^ 63<=2 ^ (ey d-1):=S5 Ω Ω;omega
 obtain⟨B,q,t3,t4⟩:=M6 ⟨ey d,A⟩ z;simp only at B q t3 t4;refine aB func306 ?_;refine(M5 Ω).Y ?_;rintro _ U _ ⟨rfl,a⟩;generalize ey d=L at*;refine al.Y (K:=λv aa=>v=Δ ((L*78913 / 262144:Nat):Int)/\Ext U aa) ?_ ?_
 .refine aB func327 ?_;rw[fz,m1 Ω Ω,show U3 .u64 18=U3 .u64 ((18:Nat):Int)from rfl,show(L:Int)*78913=((L*78913:Nat):Int) by omega,C3 Ω];exact⟨rfl,Ext.refl _⟩
 rintro _ aa _ ⟨rfl,e⟩;generalize L*78913 / 262144=t at*;have ac:=M1 t Ω;rw[wC wz.u fK.i Ω,aE Ψ (by rw[T0];exact((y.W a).W e) _ _ (mc ac)),cP];refine al.Y (K:=λv r=>v=Δ ((if 10 ^ t<=d then 1 else 0:Nat):Int)/\Ext aa r) ?_ ?_
 .refine aB func328 ?_;rw[am];refine⟨λh=>⟨by rw[ms Ω];rfl,Ext.refl _⟩,λh=>⟨by rw[rc Ω];rfl,Ext.refl _⟩⟩
 rintro _ r _ ⟨rfl,x⟩;rw[aP];by_cases f:10 ^ t<=d
 .rw[ms f,m1 Ω Ω];exact⟨(a.F e).F x,t,by congr 1,t4,f,Ω⟩
 .rw[rc f,m1 Ω Ω];obtain⟨s,rfl⟩:∃s,t=s+1:=⟨t-1,Ω⟩;rw[Nat.pow_succ]at q;exact⟨(a.F e).F x,s,by congr 1,Ω,Ω,Ω⟩
theorem C4{k a:j0}{x:Int}{i:Nat}{s:ByteArray}(e:x=(i:Int))(f:y=(j:Int))(p:v8.underlying t=σ .string)(q:i<=j)(r:j<=s.size):
  ab v8 (U4 t (.string s) (σ (.int k x)) (σ (.int a y)) ν) w K=K (.string (s.extract i j)):=ab.of λI _=>by
 subst e f;have z:=tn (P:=v8) I (sl:=v6) (n:=s.size) (c:=s.size) (low:=σ (.int k (i:Int))) (high:=σ (.int a (j:Int))) (mx:=ν) (l:=i) (h:=j) (m:=s.size) ⟨k,rfl⟩ ⟨a,rfl⟩ fh q r (o4 _);simp[U4,Instr.slice,run_underlying p,z]
theorem M8:∀q:Fin 100,k0.extract (2*q.val) (2*q.val+2)=strOfNums [48+((q.val / 10:Nat):Int),48+((q.val % 10:Nat):Int)]:=by decide+kernel
def C5:ByteArray:=⟨#[48,49,50,51,52,53,54,55,56,57,97,98,99,100,101,102,103,104,105,106,107,108,109,110,111,112,113,114,115,116,117,118,119,120,121,122]⟩
theorem M9:∀q:Fin 10,C5.extract q.val (q.val+1)=strOfNums [48+(q.val:Int)]:=by decide+kernel
theorem C6(h:n<10):gi n=[48+(n:Int)]:=by rw[pa,ms h,Nat.mod_eq_of_lt h];rfl
theorem Na(h1:10<=n)(a:n<100):gi n=[48+((n / 10:Nat):Int),48+((n % 10:Nat):Int)]:=by
 rw[pa,rc Ω,C6 Ω];rfl
theorem Nb(a:n<100):al v8 KB [Δ (n:Int)] w λv I=>v=ca (gi n)/\Ext w I:=by
 refine aB func305 ?_;rw[aS,am];refine⟨λh=>?_,λh=>?_⟩
 .rw[aP,m1 Ω Ω];refine(C4 (s:=C5) (i:=n) (j:=n+1) rfl Ω da.u Ω (by show n+1<=36;omega)).mpr ?_;rw[M9 ⟨n,Ω⟩,C6 Ω];exact⟨rfl,Ext.refl _⟩
 .rw[fz,m1 Ω Ω,fz,m1 Ω Ω,aP,m1 Ω Ω];refine(C4 (s:=k0) (i:=2*n) (j:=2*n+2) Ω Ω da.u Ω (by rw[C1];omega)).mpr ?_;rw[M8 ⟨n,a⟩,Na Ω a];exact⟨rfl,Ext.refl _⟩
theorem Nc{g:Nat}{f h:Λ}(a:k1 w g 1 f C h)(p:C.length<=23):aN .u8 w (.slice (σ ⟨g,1,ν⟩) C.length 23) C:=by
 obtain⟨a,ac⟩:=a;refine⟨Ξ,g,1,_,23,rfl,p,by simp[maxLen],λ_=>rfl,λj v e=>?_⟩;have q:j<C.length:=by have:=(x6.1 e).1;simpa using this
 refine a.cell ?_;rw[ints,Z3,Z3,Y4 Θ,Z7 Θ,r8,ac,Q5];exact e
theorem C7{g m:Nat}(a:y=((m+2:Nat):Int))(hm:m<=22):
  ab v8 (U4 nM (Γ g) (σ (Δ 1)) (σ (Δ y)) ν) w K=K (.slice (σ ⟨g,1,ν⟩) (m+1) 23):=by
 subst a;have:=tp (w:=w) (b:=g) (o:=0) (low:=σ (Δ 1)) (high:=σ (Δ ((m+2:Nat):Int))) (mx:=ν) (l:=1) (h:=m+2) (m:=24) (K:=K) nM.u cN.i ⟨_,rfl⟩ ⟨_,rfl⟩ fh Ω Ω Ω;rw[this,rc Ω];rfl
theorem Nd(q:fo w)(s:n<9223372036854775808):al v8 Kw [Δ (n:Int),Δ 10] w λv I=>v=ca (gi n)/\Ext w I:=by
 refine aB func291 ?_;rw[bm];refine(am).mpr ⟨λ_=>?_,λh=>ro rfl h⟩;refine aZ (λv U=>w=U/\v= .bool (decide (n<100))) ?_ ?_
 rotate_left
 .intro ax a;rw[lA,am];refine⟨λ_=>?_,λh=>Ω⟩;rw[aS];exact a _ _ ⟨rfl,by congr 1;rw[U8,sp,sp];omega⟩
 rintro _ _ ⟨rfl,rfl⟩;rw[am];refine⟨λh=>?_,λh=>?_⟩
 .exact (Nb h).Y λ_ _ _ h=>h
 refine bF nM.i λg U E f x=>?_;rw[fA av.u fK.u,m2 Ω Ω];refine aZ (λv aa=>U=aa/\v= .int .u64 (n:Int)) ?_ ?_
 rotate_left
 .intro ax a;rw[aS,am];exact⟨λh=>Ω,λ_=>a _ _ ⟨rfl,rfl⟩⟩
 rintro _ _ ⟨rfl,rfl⟩;refine(M7 (q.W f) Ω s).Y ?_;rintro _ aa _ ⟨j,m,rfl,hm,y,p⟩;rw[aP,m1 Ω Ω];rw[C7 (m:=m) Ω Ω];have z:k1 aa g 1 [0] (o6 (m+1) 0) (o6 (22-m) 0):=by
  refine⟨?_,rfl⟩;have e:[0]++o6 (m+1) (0:Int)++o6 (22-m) 0=o6 24 0:=by
   rw[show[(0:Int)]=o6 1 0 from rfl,List.replicate_append_replicate,List.replicate_append_replicate];congr 1;omega
  rw[e];exact x.W j
 refine(M0 (N:=m+1) z Ξ Ω p).Y ?_;rintro _ G _ ⟨rfl,A,B⟩;refine cd Ω ?_;rw[aP,m1 Ω Ω];rw[C7 (m:=m) Ω Ω];have C:=rH (m+1) n;have J:=Nc B Ω;rw[C]at J;rw[wM cT.u cN.u da.u J,C0 m n y p];refine⟨rfl,(f.F j).then A λr H he=>?_⟩;have he:r=g:=he;omega
theorem Nf(a:fo w)(e:n<9223372036854775808):al v8 wo [Δ (n:Int)] w λv I=>v=ca (gi n)/\Ext w I:=by
 refine aB func223 ?_;refine al.Y (K:=λv I=>v=ca (gi n)/\Ext w I) ?_ (λ_ _ _ h=>h);refine aB func265 ?_;exact(Nd a e).Y λ_ _ _ h=>h
theorem fo.V(h:fo w)(a:af S w I)(e:¬S 1):fo I:=iz a e h
def dt(w:x5)(g gs:Nat)(A:ah)(B:ah)(a:Bool)(s:Option aJ):Prop:=match s with
 |some s=>eo w g gs A B s a
 |none=>fd w g gs A B
theorem gj.of{g:Nat}{A:ah}{B:ah}{a:Bool}{s:Option aJ}(h:gj w g gs A B a s I):af (bJ g gs A) w I/\dt I g gs A B a s:=h
theorem gj.mk{g:Nat}{A:ah}{B:ah}{a:Bool}{s:Option aJ}(h:af (bJ g gs A) w I)(e:dt I g gs A B a s):gj w g gs A B a s I:=⟨h,e⟩
theorem dt.V{g:Nat}{A:ah}{B:ah}{a:Bool}{s:Option aJ}(h:dt w g gs A B a s)(e:af S w I)(f:∀r,bJ g gs A r->¬S r)(j:∀r,cU g gs A B r->¬S r):dt I g gs A B a s:=by
 cases s with
 |none=>exact fd.V h e f j
 |some s=>exact eo.V h e f j
theorem dt.W{g:Nat}{A:ah}{B:ah}{a:Bool}{s:Option aJ}(h:dt w g gs A B a s)(e:Ext w I):dt I g gs A B a s:=h.V (e.V λ_=>False) (λ_ _ h=>h) λ_ _ h=>h
theorem dt.side{g:Nat}{A:ah}{B:ah}{a:Bool}{s:Option aJ}(h:dt w g gs A B a s):mn w g gs A B:=by
 cases s with
 |none=>exact h.1
 |some s=>exact h.1
def bf(lo hi:Int)(s:Option aJ):Option (Int×aJ):=s.bind (bl lo hi)
theorem nn{g:Nat}{A:ah}{B:ah}{s:Option aJ}{a:Bool}(h:dt w g gs A B a s):al v8 oI [Γ g,Δ lo,Δ hi] w λv I=>gj w g gs A B a ((bf lo hi s).map (·.2)) I/\∃n at_:Int,v= .tuple #[Δ n,Δ at_]/\(∀q,bf lo hi s=σ q->n=q.1)/\(bf lo hi s=ν->n=0):=by
 cases s with
 |none=>
  refine(Md h).Y ?_;rintro _ U _ ⟨e,rfl⟩;exact⟨⟨e.V _,fd.W h e⟩,0,0,rfl,λq h=>(by cases h),λ_=>rfl⟩
 |some s=>exact w7 h
theorem qt{g:Nat}{A:ah}{B:ah}{s:Option aJ}{a:Bool}(h:dt w g gs A B a s):al v8 l6 [Γ g] w λv I=>v= .bool s.isSome/\Ext w I:=by
 cases s with
 |none=>exact pf h
 |some s=>exact ql h
theorem Ng{g:Nat}{A:ah}{B:ah}{s:Option aJ}{a:Bool}{e:Int}(h:dt w g gs A B a s)(he:e≠0):al v8 oJ [Γ g,Δ e,Δ at_] w λ_ I=>gj w g gs A B a ν I:=by
 cases s with
 |none=>
  refine(Mb h).Y ?_;rintro _ U _ f;exact⟨f.V _,fd.W h f⟩
 |some s=>
  refine(tO h he).Y ?_;rintro _ U _ ⟨j,p⟩;exact⟨j.Y λr _ h=>.inl h,p⟩
theorem rK{g:Nat}{A:ah}{B:ah}{s:Option aJ}{a b:Bool}(h:dt w g gs A B a s):al v8 q2 [Γ g,.bool b,Δ at_] w λ_ I=>gj w g gs A B a (s.map (bi b)) I:=by
 cases s with
 |none=>
  refine(Cu h).Y ?_;rintro _ U _ e;exact⟨e.V _,fd.W h e⟩
 |some s=>
  refine(tP h).Y ?_;rintro _ U _ ⟨f,j⟩;exact⟨f.Y λr _ h=>.inl h,j⟩
theorem n3{n:Int}{s:Option aJ}{s':aJ}(h:bf lo hi s=σ (n,s')):lo<=n/\n<=hi:=by
 cases s with
 |none=>cases h
 |some s=>exact(i9 h).1
def gk(a acc:Λ)(s:Option aJ):Option (Λ×aJ):=s.bind (kt a acc)
theorem C8{acc:Λ}{s:Option aJ}:gk (k::a) acc s=match bf 0 (k-1) s with
  |none=>ν
  |some (v,s)=>kt a (acc++[v]) s:=by
 cases s with
 |none=>rfl
 |some s=>
  show kt (k::a) acc s=_;rw[kt];show _=match bl 0 (k-1) s with|none=>ν|some (v,s)=>kt a (acc++[v]) s
  cases bl 0 (k-1) s<;>rfl
theorem C9:∀(t:Λ),(∀x∈t,0<=x/\x<=ay)->(eO t).length<=20*t.length
 |[],_=>by simp[eO]
 |x::t,h=>by
  have j:=C9 t λy a=>h y (.tail _ a);have f:=h x (.head _);have p:=wP 19 x.toNat (by unfold ay at f;omega) Ω;have e:eO (x::t)=gi x.toNat++[32]++eO t:=by simp[eO]
  rw[e];simp only[o9,Y0,List.length_nil];omega
theorem Nh{g ao:Nat}{A B:ah}{s:Option aJ}{S:Bool}{aj:x4->x5->Prop}(h:dt w g gs A B S s)(ak:aN .i64 w sv co)(aI:∀r,lw sv r->¬bJ g gs A r/\r≠ao)(aK:∀z∈co,1<=z/\z<=ay)(bP:co.length<=100001)(aM:fo w)(h1:cU g gs A B 1)(am:ag w ao eu [.slice ν 0 0,Δ 0])(an:¬bJ g gs A ao)(ap:¬B ao)(aq:∀t I aT gt,t.length=co.length->(∀x∈t,0<=x/\x<=ay)->af (λr=>bJ g gs A r\/r=ao) w I->ag I ao eu [aT,Δ 0]->aA .i64 av I gt aT t->w.heap.size<=gt->
   dt I g gs A B S ((gk co [] s).map (·.2))->(∀q,gk co [] s=σ q->t=q.1)->aj (ca (eO t)) I):
  ch (.string ⟨#[]⟩) (Δ 0) w λkey W C aQ=>
   ab v8 (aO .lss ai v6 v6 W (Δ (co.length:Int))) C λaR=>
   Split aR (ab v8 (c9 aw sv W) C λaS=>
   ab v8 (u6 av aS) C λaV=>
   ab v8 (aO .sub av v6 v2 aV (Δ 1)) C λaW=>
   al v8 oI [Γ g,(Δ 0),aW] C λau G=>
   ab v8 (Y8 au 0) G λax=>
   ab v8 (Y8 au 1) G λbQ=>
   ab v8 (u7 eu (Γ ao) 0) G λaX=>
   ab v8 (u6 aw aX) G λaY=>
   aF v8 (X2 aw 1 #[(0,ax)]) G λaZ a1=>
   aF v8 (Z9 #[aw,aw] aw #[aY,aZ]) a1 λa2 az=>
   ab v8 (u7 eu (Γ ao) 0) az λa6=>
   aF v8 (l9 aw a6 a2) az λ(_:Unit)a7=>
   al v8 wo [ax] a7 λa8 K=>
   ab v8 (aO .add da v6 v2 a8 (.string ⟨#[32]⟩)) K λba=>
   ab v8 (aO .add da v6 v6 key ba) K λbb=>
   ab v8 (aO .add ai v6 v2 W (Δ 1)) K λbc=>
   aQ bb bc K) (aj key C):=by
 have bR:=am.lt;have bd:=h.side;obtain⟨bS,bT,bU,be,bg⟩:=bd;refine ch.range co.length (λj key U=>∃t aT gt s1,key=ca (eO t)/\t.length=j/\(∀x∈t,0<=x/\x<=ay)/\af (λr=>bJ g gs A r\/r=ao) w U/\ag U ao eu [aT,Δ 0]/\aA .i64 av U gt aT t/\w.heap.size<=gt/\
  dt U g gs A B S s1/\gk co [] s=gk (co.drop j) t s1) ak.le ⟨[],_,w.heap.size,s,rfl,rfl,λx y=>(by cases y),af.refl _ _,am,aA.nil _ _ _ _,o4 _,h,rfl⟩ ?_ ?_
 rotate_left
 .rintro _ U bh ⟨t,aT,gt,s1,rfl,L,H,E,M,N,X,O,he⟩;refine cd Ω ?_;rw[List.drop_length]at he;cases s1 with
  |none=>
   have he:=he;exact aq t U aT gt L H E M N X (by rw[he];exact O) (λq e=>by rw[he]at e;cases e)
  |some s1=>
   have he:=he;exact aq t U aT gt L H E M N X (by rw[he];exact O) (λq e=>by rw[he]at e;cases e;rfl)
 rintro j _ U bh aB ⟨t,aT,gt,s1,rfl,L,H,E,M,N,X,O,he⟩ bi;obtain⟨z,Y⟩:=aD (l:=co) aB;have bj:=aK z (x7 Y);have bV:z<=4611686018427387904:=bj.2;have bl:=i7 ak E λr f a n c bm bn=>by
  have:=aI r ⟨a,n,c,bm,bn⟩;exact f.elim this.1 this.2
 have ae:∀r,bJ g gs A r->r<w.heap.size:=be;refine bG Ω ?_;rw[bk aw.u av.i Ψ bl Y,dx,m1 Ω Ω];refine(nn O).Y ?_;rintro _ aa _ ⟨bo,n,at_,rfl,aC,bp⟩;obtain⟨P,bq⟩:=bo.of;have aE:0<=n/\n<=ay:=by
  cases e:bf 0 (z-1) s1 with
  |none=>rw[bp e];exact⟨Ω,by unfold ay;omega⟩
  |some q=>
   rw[aC q e];have:=n3 e;exact⟨this.1,by unfold ay;omega⟩
 rw[bx,bz];have aG:=M.V P an;have br:=N.V P λ_ bs=>by have:=ae _ bs;omega
 rw[aL eu.p 0 aG rfl];refine eT aw.u av.i rfl λa ga bu bW J bw=>?_;refine kp aw.u av.i rfl (br.W J) bw.ls Θ Θ λbA bB bC bX Z Q=>?_;have bY:=E.size;have bZ:=P.size;have z3:=J.size;have z4:=Q.size;rw[aU eu.p rfl];have bD:=(aG.W J).V Q (λhe=>by have he:=he;omega);refine bt (g:=ao) (o:=0) aw.i Z.ls.cells.1 Z.ls.cells.2 bD Ξ λbE ac b0 ad=>?_;have ad:=ad;have bF:af (λr=>bJ g gs A r\/r=ao) w bu:=(E.F (P.Y λr _ h=>.inl h)).F (J.V _);have bH:af (λr=>bJ g gs A r\/r=ao) w bC:=iB bF Q λr f he=>by have he:r=gt:=he;omega
 have aH:af (λr=>bJ g gs A r\/r=ao) w bE:=bH.F (ac.Y λr _ h=>.inr h);have bI:¬(λr=>bJ g gs A r\/r=ao) 1:=λh=>h.elim h1.1 λh=>ap (h▸h1.2);obtain⟨m,rfl⟩:∃m:Nat,n=(m:Int):=⟨n.toNat,Ω⟩;unfold ay at aE;refine(Nf (aM.V aH bI) Ω).Y ?_;rintro _ b1 _ ⟨rfl,R⟩;have b2:=wP 19 m Ω Ω;have b3:=C9 t H;rw[show(ByteArray.mk #[32])=strOfNums [32]from rfl,wL Θ,wL Θ,aP];refine bi _ _ ⟨t++[(m:Int)],bA,bB,(bf 0 (z-1) s1).map (·.2),?_,by simp[L],λx y=>?_,aH.F (R.V _),ad.W R,(Z.V ac (λ_ he=>by have he:=he;omega)).W R,Ω,?_,?_⟩
 .rw[Lu,u9]
 .rcases j9.1 y with y|y
  .exact H x y
  .rw[b9.1 y];exact aE
 .refine dt.W ?_ R;have bK:=bq.W J;have bL:∀r,bJ g gs A r->¬(λr=>r=gt) r:=λr f he=>by have:=ae r f;have he:r=gt:=he;omega
  have bM:∀r,cU g gs A B r->¬(λr=>r=gt) r:=λr f he=>by have:=bg r f.2;have he:r=gt:=he;omega
  have bN:∀r,bJ g gs A r->¬(λr=>r=ao) r:=λr f he=>by have he:r=ao:=he;exact an (he▸f)
  have bO:∀r,cU g gs A B r->¬(λr=>r=ao) r:=λr f he=>by have he:r=ao:=he;exact ap (he▸f.2)
  exact(bK.V Q bL bM).V ac bN bO
 .rw[he,W3 aB,show co[j]=z from(x6.1 Y).2,C8];cases e:bf 0 (z-1) s1 with
  |none=>rfl
  |some q=>
   rw[aC q e];rfl
def dX(s:aJ):Prop:=s.big=v6->s.m5<=16384
def k2(n:Int)(s:aJ):aJ:=bi (decide (16384<min (s.m5+n) ay)) {s with m5:=min (s.m5+n) ay}
theorem Ni(n:Int)(s:aJ):dX (k2 n s):=λh=>by
 have h:(s.big||decide (16384<min (s.m5+n) ay))=v6:=h;have:=of_decide_eq_false (U1.1 h).2;show min (s.m5+n) ay<=16384;omega
theorem Nj{g:Nat}{A B:ah}{s:Option aJ}{z:Bool}{n:Int}{K:x5->Prop}(h:dt w g gs A B z s)(P:∀t,s=σ t->0<=n/\n<=ay/\dX t)(L:∀I,af (bJ g gs A) w I->dt I g gs A B z (s.map (k2 n))->K I):
  ab v8 (bT (Γ g)) w λQ=>
  ab v8 (u7 cF Q 2) w λR=>
  ab v8 (u6 av R) w λS=>
  ab v8 (aO .add av v6 v6 S (Δ n)) w λW=>
  ab v8 (Y1.min_ #[av,av] av #[W,(Δ 4611686018427387904)]) w λX=>
  ab v8 (bT (Γ g)) w λY=>
  ab v8 (u7 cF Y 2) w λZ=>
  aF v8 (l9 av Z X) w λ(_:Unit)q=>
  ab v8 (bT (Γ g)) q λt77=>
  ab v8 (u7 cF t77 2) q λac=>
  ab v8 (u6 av ac) q λad=>
  ab v8 (aO .gtr av v6 v2 ad (Δ 16384)) q λae=>
  al v8 q2 [Γ g,ae,Δ at_] q λ_ ag=>K ag:=by
 cases s with
 |none=>
  obtain⟨J,e,big,C,E,m5,sv,l,x,y,G⟩:=id h;rw[aK cF.p 2 x rfl,aP,ma,bY,aU cF.p rfl];refine bt (g:=g) (o:=5) av.i rfl rfl x (by simp[ja]) λU a ai f=>?_;rw[aK cF.p 2 f rfl,bU];have M:fd U g gs A B:=⟨J.V a,e,big,C,E,_,sv,l,f,y,an.V G a λr _ h H=>tM h J.2.1 H⟩;refine(Cu M).Y ?_;rintro _ aa _ N;exact L _ ((a.Y λr _ h=>.inl h).F (N.V _)) (M.W N)
 |some s=>
  obtain⟨au,aj,hi⟩:=P s rfl;obtain⟨J,ak,am,big,C,E,m5,sv,x,y,G⟩:=id h;rw[aK cF.p 2 x rfl,aP,ma,bY,aU cF.p rfl];refine bt (g:=g) (o:=5) av.i rfl rfl x (by simp[ja]) λU a ai f=>?_;have f:=f;rw[aK cF.p 2 f rfl,bU];have key:s.big=v6->min (W5.wrap (m5+n)) 4611686018427387904=min (s.m5+n) ay:=λj=>by
   rw[y.2 j];have:=hi j;unfold ay at aj ⊢;rw[m1 Ω Ω]
  have ao:eo U g gs A B {s with m5:=min (s.m5+n) ay} z:=⟨J.V a,ak.V a (λhe=>J.1 he.symm) (λr ap he=>ap.1 (.inl he)),⟨by show 0<=min _ _;unfold ay;omega,by show min _ _<=_;omega,am.2.2⟩,big,C,E,_,sv,f,⟨y.1,key⟩,an.V G a λr _ h H=>tM h J.2.1 H⟩;refine(tP ao).Y ?_;rintro _ aa _ ⟨aq,O⟩;refine L _ ((a.F aq).Y λr _ h=>.inl h) ?_;have e:bi (decide (16384<min (W5.wrap (m5+n)) 4611686018427387904)) {s with m5:=min (s.m5+n) ay}=k2 n s:=by
   cases j:s.big with
   |false=>rw[key j,<-j];rfl
   |true=>simp[k2,bi,j]
  rw[e]at O;exact O
def j2(co:Λ)(s:Option aJ):Option (List (Λ×Int)×aJ):=s.bind (dW co)
def mq(w:x5)(m:Nat)(acc:List (Λ×Int)):Prop:=dd w m (acc.map λp=>(ca (eO p.1),Δ 1))
def lK(w:x5)(m:Nat):Prop:=∃d,dd w m d/\∀p∈d,∃(k:ByteArray)(c:Int),p=(.string k,Δ c)
theorem mq.any{m:Nat}{acc:List (Λ×Int)}(h:mq w m acc):lK w m:=⟨_,h,λp ac=>by
 obtain⟨q,_,rfl⟩:=j5.1 ac;exact⟨_,_,rfl⟩⟩
theorem Nk{m:Nat}{k:ByteArray}(h:lK w m)(e:∀c:Int,K (Δ c)):ab v8 (Instr.lookup ie (.map (σ m)) (.string k) v6) w K:=by
 obtain⟨d,hm,f⟩:=h;have hk:=Keys.str da.u;have q:∀p∈d,∃s,p.1=x4.string s:=λp ac=>by obtain⟨s,c,rfl⟩:=f p ac;exact⟨s,rfl⟩
 by_cases he:∃p∈d,p.1=x4.string k
 .obtain⟨p,ac,a⟩:=he;obtain⟨j,r⟩:=X8.1 ac;obtain⟨s,c,rfl⟩:=f p ac;have a:x4.string s=x4.string k:=a;rw[a]at r;rw[rA ie.u hk hm q ⟨k,rfl⟩ r];exact e c
 .have x:∀p∈d,p.1≠x4.string k:=λp ac h=>he ⟨p,ac,h⟩;rw[tU ie.u hk ⟨_,_,ai.i⟩ hm q ⟨k,rfl⟩ x];exact e 0
theorem Nl{m:Nat}{k:ByteArray}{K:Unit->x5->Prop}(h:lK w m)(q:∀I,af (λr=>r=m) w I->lK I m->K () I):aF v8 (Instr.mapUpdate ie (.map (σ m)) (.string k) (Δ c)) w K:=by
 obtain⟨d,hm,a⟩:=h;have x:∀p∈d,∃s,p.1=x4.string s:=λp ac=>by obtain⟨s,c,rfl⟩:=a p ac;exact⟨s,rfl⟩
 refine rB ie.u (Keys.str da.u) hm x ⟨k,rfl⟩ (λj v0 I y e f=>q I f ⟨_,e,λp ac=>?_⟩) (λI z e f=>q I f ⟨_,e,λp ac=>?_⟩)
 .rcases W8 ac with ac|rfl
  .exact a p ac
  .exact⟨_,_,rfl⟩
 .rcases j9.1 ac with ac|ac
  .exact a p ac
  .rw[b9.1 ac];exact⟨_,_,rfl⟩
theorem Da{b:Λ}(e:∀x∈a,0<=x)(f:∀x∈b,0<=x)(h:ca (eO a)=ca (eO b)):a=b:=by
 have h:=x4.string.inj h;exact BM e f (str_inj (BN a) (BN b) h)
theorem xn{acc:List (Λ×Int)}:∀p∈acc.map λp=>(ca (eO p.1),U3 .i64 1),∃s,p.1=x4.string s:=λp ac=>by
 obtain⟨q,_,rfl⟩:=j5.1 ac;exact⟨_,rfl⟩
theorem Db{m:Nat}{acc:List (Λ×Int)}{t:Λ}(h:mq w m acc)(e:∀p∈acc,∀x∈p.1,0<=x)(f:∀x∈t,0<=x):
  ab v8 (Instr.lookup ie (.map (σ m)) (ca (eO t)) v6) w K=K (Δ (if t∈acc.map (·.1)then 1 else 0)):=by
 have hk:=Keys.str da.u;by_cases he:t∈acc.map (·.1)
 .rw[ms he];obtain⟨p,ac,rfl⟩:=j5.1 he;obtain⟨j,r⟩:=X8.1 ac;rw[rA ie.u hk h xn ⟨_,rfl⟩ (by rw[u4,r];rfl)];simp
 .rw[rc he];rw[tU ie.u hk ⟨_,_,ai.i⟩ h xn ⟨_,rfl⟩ (λp ac s=>?_)]
  .simp
  .obtain⟨q,a,rfl⟩:=j5.1 ac;have:=Da (e q a) f s;exact he (j5.2 ⟨q,a,this⟩)
theorem Nn{m:Nat}{acc:List (Λ×Int)}{t:Λ}{K:Unit->x5->Prop}(h:mq w m acc)(z:∀p∈acc,∀x∈p.1,0<=x)(A:∀x∈t,0<=x)(B:t∉acc.map (·.1))(C:∀I,af (λr=>r=m) w I->mq I m (acc++[(t,c)])->K () I):aF v8 (Instr.mapUpdate ie (.map (σ m)) (ca (eO t)) (Δ 1)) w K:=by
 refine rB ie.u (Keys.str da.u) h xn ⟨_,rfl⟩ (λj v0 I e f s=>?_) (λI _ f s=>C I s ?_)
 .rw[u4]at e;obtain⟨q,y,a⟩:=Y9.1 e;have a:=congrArg Prod.fst a;have:=Da (z q (x7 y)) A a;exact ro (j5.2 ⟨q,x7 y,this⟩) B
 .unfold mq;rw[Z3];exact f
theorem No{m:Nat}{acc:List (Λ×Int)}{t:Λ}{ok:Prop}{K:Unit->x5->Prop}(e:lK w m)(z:ok->mq w m acc/\(∀p∈acc,∀x∈p.1,0<=x)/\(∀x∈t,0<=x)/\t∉acc.map (·.1))(f:∀I,af (λr=>r=m) w I->lK I m->(ok->mq I m (acc++[(t,c)]))->K () I):
  ab v8 (Instr.lookup ie (.map (σ m)) (ca (eO t)) v6) w λA=>
  ab v8 (aO .add ai v6 v2 A (Δ 1)) w λB=>
  aF v8 (Instr.mapUpdate ie (.map (σ m)) (ca (eO t)) B) w K:=by
 by_cases j:ok
 .obtain⟨h1,q,s,y⟩:=z j;rw[Db h1 q s,rc y,aP,m1 Ω Ω];exact Nn h1 q s y λI a J=>f I a J.any λ_=>J
 .refine Nk e λfk=>?_;rw[aP];exact Nl e λI a J=>f I a J λh=>ro h j
def fB{α:Type}(f:List α->aJ->Option (α×aJ))(n:Nat)(acc:List α)(o:Option aJ):Option (List α×aJ):=o.bind (cW f n acc)
theorem lK.V{m:Nat}(h:lK w m)(a:af S w I)(e:¬S m):lK I m:=by
 obtain⟨d,h1,f⟩:=h;exact⟨d,h1.V a e,f⟩
theorem dt.words{g:Nat}{A:ah}{B:ah}{a:Bool}{s:aJ}(h:dt w g gs A B a (σ s)):s.hp.length<=100000:=by
 have h:=h;exact h.2.1.words.1
theorem Dc{acc:List (Λ×Int)}{st:aJ}{t:Λ}(j:∀q,gk co [] (σ st)=σ q->t=q.1)(a:∀q,bf 0 ay ((gk co [] (σ st)).map (·.2))=σ q->c=q.1):
  (bf 0 ay ((gk co [] (σ st)).map (·.2))=ν->eN co acc st=ν)/\∀q,bf 0 ay ((gk co [] (σ st)).map (·.2))=σ q->eN co acc st=if t∈acc.map (·.1)then ν else σ ((t,c),q.2):=by
 have e:gk co [] (σ st)=kt co [] st:=rfl;rw[e]at j a ⊢;unfold eN;cases h1:kt co [] st with
 |none=>exact⟨λ_=>rfl,λq f=>(by cases f)⟩
 |some q=>
  obtain⟨bs,s1⟩:=q;rw[h1]at j a;have:=j _ rfl;subst this;have p:bf 0 ay ((σ (t,s1)).map (·.2))=bl 0 ay s1:=rfl;rw[p]at a ⊢;simp only;cases r:bl 0 ay s1 with
  |none=>exact⟨λ_=>rfl,λq f=>(by cases f)⟩
  |some q=>
   obtain⟨s,w⟩:=q;rw[r]at a;have:=a _ rfl;subst this;exact⟨λh=>(by cases h),λq f=>(by cases f;rfl)⟩
theorem Np{g:Nat}{A B:ah}{s:Option aJ}{Z:Bool}{Q:x4->x5->Prop}(h:dt w g gs A B Z s)(bZ:aN .i64 w sv co)(aV:∀r,lw sv r->¬bJ g gs A r/\r<w.heap.size)(b0:∀z∈co,1<=z/\z<=ay)(b1:co.length<=100001)(b2:fo w)(h1:cU g gs A B 1)(b3:(N:Int)<=ay)(bp:∀v I l,gj w g gs A B Z ((fB (eN co) N [] s).map (·.2)) I->bq (eU w.heap.size) bO I [v] (show List (Λ×Int)from l)->(∀q,fB (eN co) N [] s=σ q->l=q.1)->Q v I):
  aF v8 (Instr.makeMap ie ν) w λaX y=>
 ch (.slice ν 0 0) (Δ 0) y λout i H k=>
  cC (α:=x4->x5->Prop) (λ(b4:x4)(S:x5)=>
   Split b4 (aF v8 (Instr.alloc eu v2 (.tuple #[])) S λx j=>
  ab v8 (V0 #[aw] ai #[sv]) j λb5=>
  ch (.string ⟨#[]⟩) (Δ 0) j λkey aY U b6=>
   ab v8 (aO .lss ai v6 v6 aY b5) U λb7=>
   Split b7 (ab v8 (c9 aw sv aY) U λb8=>
   ab v8 (u6 av b8) U λca=>
   ab v8 (aO .sub av v6 v2 ca (Δ 1)) U λcb=>
   al v8 oI [Γ g,(Δ 0),cb] U λbr aa=>
   ab v8 (Y8 br 0) aa λbs=>
   ab v8 (Y8 br 1) aa λdw=>
   ab v8 (u7 eu x 0) aa λcc=>
   ab v8 (u6 aw cc) aa λcd=>
   aF v8 (X2 aw 1 #[(0,bs)]) aa λce J=>
   aF v8 (Z9 #[aw,aw] aw #[cd,ce]) J λcf bw=>
   ab v8 (u7 eu x 0) bw λcg=>
   aF v8 (l9 aw cg cf) bw λ(_:Unit)ci=>
   al v8 wo [bs] ci λcj aD=>
   ab v8 (aO .add da v6 v2 cj (.string ⟨#[32]⟩)) aD λck=>
   ab v8 (aO .add da v6 v6 key ck) aD λcl=>
   ab v8 (aO .add ai v6 v2 aY (Δ 1)) aD λcm=>
   b6 cl cm aD)
    (al v8 oI [Γ g,(Δ 0),(Δ 4611686018427387904)] U λbA aE=>
  ab v8 (Y8 bA 0) aE λcn=>
  ab v8 (Y8 bA 1) aE λcp=>
  ab v8 (u7 eu x 1) aE λcq=>
  aF v8 (l9 av cq cn) aE λ(_:Unit)cr=>
  cC (α:=x5->Prop) (λ(W:x5)=>
   ab v8 (Instr.lookup ie aX key v6) W λct=>
   ab v8 (aO .add ai v6 v2 ct (Δ 1)) W λcu=>
   aF v8 (Instr.mapUpdate ie aX key cu) W λ(_:Unit)ad=>
   ab v8 (u6 eu x) ad λcw=>
   aF v8 (X2 jS 1 #[(0,cw)]) ad λcz au=>
   aF v8 (Z9 #[jS,jS] jS #[out,cz]) au λcA aG=>
   ab v8 (aO .add av v6 v2 i (Δ 1)) aG λcB=>
  k cA cB aG) λbB=>
  cC (α:=x4->x5->Prop) (λ(cD:x4)(M:x5)=>
   Split cD (al v8 oJ [Γ g,(Δ 4),cp] M λdx bD=>
    bB bD)
    (bB M)) λbE=>
  al v8 l6 [Γ g] cr λcE aj=>
  Split cE (ab v8 (Instr.lookup ie aX key v6) aj λcF=>
  ab v8 (aO .gtr ai v6 v2 cF (Δ 0)) aj λcG=>
  bE cG aj)
   (bE (.bool v6) aj)))
    (Q out S)) λbG=>
  ab v8 (aO .lss av v6 v6 i (Δ (N:Int))) H λcH=>
  Split cH (al v8 l6 [Γ g] H λcI cJ=>
  bG cI cJ)
   (bG (.bool v6) H):=by
 obtain⟨dy,dz,dA,cK,aH⟩:=h.side;have ae:∀r,bJ g gs A r->r<w.heap.size:=cK;unfold ay at b3;refine tT λC y dC a2 a7=>?_;have dD:=a2.size;have dE:=a7.lt;generalize E:fB (eN co) N [] s=bH at bp;refine⟨λout a8 H=>∃(i:Nat)(acc:List (Λ×Int))(so:Option aJ),a8=Δ (i:Int)/\i<=N/\af (bJ g gs A) w H/\y.heap.size<=H.heap.size/\bq (eU y.heap.size) bO H [out] acc/\dt H g gs A B Z so/\
   bH=fB (eN co) (N-i) acc so/\lK H C/\acc.length<=100001/\∀st,so=σ st->mq H C acc/\(∀p∈acc,∀x∈p.1,0<=x)/\acc.length+st.hp.length<=100000,
  λ_ a8 _=>N-(bX a8).toNat,⟨0,[],s,rfl,W0 _,a2.V _,o4 _,gh,h.W a2,E.symm,⟨[],a7,λp ac=>(by cases ac)⟩,Ξ,λst cL=>⟨a7,λp ac=>(by cases ac),?_⟩⟩,?_⟩
 .subst cL;have:=h.words;simpa using this
 rintro out _ H ⟨i,acc,so,rfl,dF,bI,z9,bK,ba,aI,cM,dG,bb⟩;refine aZ (λv S=>Ext H S/\((v= .bool v2/\i<N/\∃st,so=σ st)\/(v= .bool v6/\(so=ν\/i=N)))) ?_ ?_
 rotate_left
 .intro ax bc;rw[aS,am];refine⟨λcN=>?_,λdH=>bc _ _ ⟨Ext.refl _,.inr ⟨rfl,.inr Ω⟩⟩⟩;refine(qt ba).Y ?_;rintro _ S _ ⟨rfl,O⟩;cases so with
  |none=>exact bc _ _ ⟨O,.inr ⟨rfl,.inl rfl⟩⟩
  |some st=>exact bc _ _ ⟨O,.inl ⟨rfl,Ω,st,rfl⟩⟩
 rintro _ S ⟨O,cO⟩;rcases cO with⟨rfl,cN,st,rfl⟩|⟨rfl,cP⟩
 rotate_left
 .rw[a6];have bL:bH=so.map λst=>(acc,st):=by
   rcases cP with rfl|rfl
   .exact aI
   .rw[V2]at aI;rw[aI];cases so<;>rfl
  refine bp out S acc (gj.mk (bI.F (O.V _)) ?_) (bu (an.Y bK (λr _ h=>by have h:y.heap.size<=r:=h;show w.heap.size<=r;omega) λ_ _ h=>h) O) (λq K=>?_)
  .rw[bL,Option.map_map];have e:U7 ((λx=>x.2)∘λst=>(acc,st)) so=so:=by cases so<;>rfl
   rw[e];exact ba.W O
  .rw[bL]at K;cases so with
   |none=>cases K
   |some st=>cases K;rfl
 rw[bQ];obtain⟨bb,bd,dI⟩:=bb st rfl;have dJ:=O.size;refine bF eu.i λao j dK bM bN=>?_;have az:=O.F bM;have be:af (bJ g gs A) w j:=bI.F (az.V _);have bP:aN .i64 j sv co:=i7 bZ be λr f a n c cQ cR=>(aV r ⟨a,n,c,cQ,cR⟩).1 f;rw[a1 aw.u bP];have aK:¬bJ g gs A ao:=λE=>by have:=ae _ E;omega
 refine Nh (s:=σ st) (ba.W az) bP (λr f=>⟨(aV r f).1,by have:=(aV r f).2;omega⟩) b0 b1 (b2.V be h1.1) h1 bN aK (λcS=>by have:=aH _ cS;omega) λt U aT gt dL cT bR cV cW cX cY cZ=>?_;have dM:=bM.size;have z12:=bR.size;have dN:=bN.lt;have bg:∀x∈t,0<=x:=λx c0=>(cT x c0).1;refine(nn cY).Y ?_;rintro _ aa _ ⟨bh,c,dO,rfl,c1,dP⟩;obtain⟨aL,c2⟩:=bh.of;have dQ:=aL.size;rw[bx,bz,aU eu.p rfl];refine bt (g:=ao) (o:=1) av.i rfl rfl (cV.V aL aK) Ξ λJ aM dR bi=>?_;have bi:ag J ao eu [aT,Δ c]:=bi;have c3:aA .i64 av J gt aT t:=(cW.V aL (λ_ E=>by have:=ae _ E;omega)).V aM (λ_ he=>by have he:gt=ao:=he;omega);have bj:af (λr=>bJ g gs A r\/r=ao) j J:=(bR.F (aL.Y λr _ h=>.inl h)).F (aM.Y λr _ h=>.inr h);have X:dt J g gs A B Z ((bf 0 ay ((gk co [] (σ st)).map (·.2))).map (·.2)):=c2.V aM (λr f he=>by have he:r=ao:=he;exact aK (he▸f)) (λr f he=>by have:=aH r f.2;have he:r=ao:=he;omega);have bS:¬(λr=>bJ g gs A r\/r=ao) C:=λh=>h.elim (λh=>by have:=ae _ h;omega) (λh=>Ω);have c4:lK J C:=(cM.V (az.V (λ_=>False)) (λh=>h)).V bj bS;have bT:mq J C acc:=(dd.W bb az).V bj bS;obtain⟨bk,bl⟩:=Dc (acc:=acc) cZ c1;refine c7 (λW=>af (bJ g gs A) J W/\dt W g gs A B Z ((eN co acc st).map (·.2))) ?_ ?_
 .rintro W ⟨ak,c5⟩;have bm:¬bJ g gs A C:=λh=>by have:=ae _ h;omega
  have dS:=aM.size;have dT:=ak.size;refine No (acc:=acc) (t:=t) (c:=c) (ok:=∃q,eN co acc st=σ q) (c4.V ak bm) (λ⟨q,K⟩=>⟨dd.V bT ak bm,bd,bg,λP=>?_⟩) λad aB c6 c8=>?_
  .cases L:bf 0 ay ((gk co [] (σ st)).map (·.2))with
   |none=>rw[bk L]at K;cases K
   |some ap=>rw[bl ap L,ms P]at K;cases K
  have dU:=aB.size;have db:ag ad ao eu [aT,Δ c]:=(bi.V ak aK).V aB (λhe=>by have he:ao=C:=he;omega);have dc:aA .i64 av ad gt aT t:=(c3.V ak (λ_ E=>by have:=ae _ E;omega)).V aB (λ_ he=>by have he:gt=C:=he;omega);rw[bC eu.p eu.i rfl db.range];have bV:bq (eU j.heap.size) bO ad [aT,Δ c] (t,c):=⟨[aT],[Δ c],eU j.heap.size,bO,rfl,λ_ h=>h,λ_ h=>h.elim,λ_ _ _ h=>h,an.Y (md dc) (λr _ h=>by subst h;exact cX) (λ_ _ h=>h),rfl⟩;refine ju (α:=Λ×Int) (a:=(t,c)) (cs:=[aT,Δ c]) (A:=eU j.heap.size) (R:=bO) jS.u eu.i Φ rfl bV λu au aq _ de=>?_;have z22:=aq.size;have df:bq (λr=>eU y.heap.size r/\r<j.heap.size/\r≠ao) bO j [out] acc:=bu (an.Y (ng bK) (λr _ h=>⟨h.1,by have:=h.2;omega,by have:=h.2;omega⟩) λ_ _ h=>h) az;have bW:af (λr=>bJ g gs A r\/r=ao\/r=C) j au:=(((bj.Y λr _ h=>h.elim .inl λh=>.inr (.inl h)).F (ak.Y λr _ h=>.inl h)).F (aB.Y λr _ h=>.inr (.inr h))).F (aq.V _);have dg:=an.V df bW λr f h E=>by
   rcases h with h|h
   .have aQ:y.heap.size<=r:=h.1;rcases E with E|E|E
    .have:=ae _ E;omega
    .exact h.2.2 E
    .omega
   .exact h
  refine nQ (α:=Λ×Int) (a:=(t,c)) (A:=eU j.heap.size) jS.u eu.i rfl dg de (bu bV aq) (λr _ h aW=>?_) Ω Ω λdV aG dh aC=>?_
  .rcases aW with aW|aW
   .have:=h.2;have:j.heap.size<=r:=aW;omega
   .exact aW
  have dW:=aC.size;rw[aP,m1 Ω Ω];have di:af (bJ g gs A) w au:=iB be bW λr f h=>by
   rcases h with h|h|h
   .exact h
   .omega
   .omega
  have dj:af (bJ g gs A) w aG:=iB di aC λr f h=>by have aQ:y.heap.size<=r:=h.1;omega
  have dk:dt au g gs A B Z ((eN co acc st).map (·.2)):=(c5.V aB (λr f he=>by have he:r=C:=he;exact bm (he▸f)) (λr f he=>by have:=aH r f.2;have he:r=C:=he;omega)).W aq;have dl:∀r,bJ g gs A r->¬(eU y.heap.size r/\r<j.heap.size/\r≠ao):=λr f he=>by have:=ae _ f;have aQ:y.heap.size<=r:=he.1;omega
  have dm:∀r,cU g gs A B r->¬(eU y.heap.size r/\r<j.heap.size/\r≠ao):=λr f he=>by have:=aH r f.2;have aQ:y.heap.size<=r:=he.1;omega
  have bY:¬(eU y.heap.size C/\C<j.heap.size/\C≠ao):=λhe=>by have aQ:y.heap.size<=C:=he.1;omega
  refine⟨⟨i+1,acc++[(t,c)],(eN co acc st).map (·.2),rfl,Ω,dj,Ω,?_,dk.V aC dl dm,?_,(c6.V (aq.V (λ_=>False)) (λh=>h)).V aC bY,Θ,λdn dp=>?_⟩,by simp only[bX];omega⟩
  .refine an.Y dh (λr _ h=>?_) λ_ _ h=>h;show y.heap.size<=r;rcases h with h|h|h
   .exact h.1
   .have h:j.heap.size<=r:=h;omega
   .omega
  .rw[aI,show N-i=(N-(i+1))+1 by omega];cases G:eN co acc st with
   |none=>exact qm G
   |some q=>
    obtain⟨a,dn⟩:=q;have dq:a=(t,c):=by
     cases L:bf 0 ay ((gk co [] (σ st)).map (·.2))with
     |none=>rw[bk L]at G;cases G
     |some ap=>
      rw[bl ap L]at G;split at G
      .cases G
      .cases G;rfl
    subst dq;exact tR G
  .obtain⟨q,K,rfl⟩:=Y9.1 dp;have dX:=(qj K).2.2.2.1;refine⟨dd.V ((dd.W (c8 ⟨q,K⟩) aq)) aC bY,λp ac=>?_,by simp only[o9,T5];omega⟩;rcases j9.1 ac with ac|ac
   .exact bd p ac
   .rw[b9.1 ac];exact bg
 .intro dY bn;cases L:bf 0 ay ((gk co [] (σ st)).map (·.2))with
  |none=>
   rw[L]at X;have G:=bk L;refine aZ (λv M=>Ext J M/\v= .bool v6) ?_ ?_
   .rintro _ M ⟨Y,rfl⟩;rw[a6];exact bn _ ⟨Y.V _,by rw[G];exact X.W Y⟩
   .intro dr bo;refine(qt X).Y ?_;rintro _ aj _ ⟨rfl,aR⟩;rw[show((ν:Option (Int×aJ)).map (·.2)).isSome=v6 from rfl,a6];exact bo _ _ ⟨aR,rfl⟩
  |some ap=>
   rw[L]at X;have G:=bl ap L;refine aZ (λv M=>Ext J M/\v= .bool (decide (t∈acc.map (·.1)))) ?_ ?_
   .rintro _ M ⟨Y,rfl⟩;rw[am];refine⟨λP=>?_,λds=>?_⟩
    .refine (Ng (X.W Y) Ω).Y ?_;rintro _ bD _ bh;obtain⟨du,dv⟩:=bh.of;exact bn _ ⟨(Y.V _).F du,by rw[G,ms P];exact dv⟩
    .exact bn _ ⟨Y.V _,by rw[G,rc ds];exact X.W Y⟩
   .intro dr bo;refine(qt X).Y ?_;rintro _ aj _ ⟨rfl,aR⟩;rw[show((σ ap:Option (Int×aJ)).map (·.2)).isSome=v2 from rfl,bQ,Db (dd.W bT aR) bd bg,bU];refine bo _ _ ⟨aR,?_⟩;congr 1;by_cases P:t∈acc.map (·.1)
    .rw[ms P,rs P];rfl
    .rw[rc P,s2 P];rfl
theorem Dd(co:Λ)(s:Option aJ):j2 co s=match bf (-ay) ay s with
 |none=>ν
 |some (n,s)=>
  if n<0 then match s.m6[(-n-1).toNat]? with
   |none=>ν
   |some (z,l)=>if z=co then σ (l,s)else ν
  else cW (eN co) n.toNat [] (k2 n s):=by
 cases s with
 |none=>rfl
 |some s=>
  show dW co s=_;unfold dW;show _=match bl (-ay) ay s with
   |none=>ν
   |some (n,s)=>
    if n<0 then match s.m6[(-n-1).toNat]? with
     |none=>ν
     |some (z,l)=>if z=co then σ (l,s)else ν
    else cW (eN co) n.toNat [] (k2 n s)
  cases bl (-ay) ay s<;>rfl
theorem De{m:Bool}{S R:ah}{a:lH}(h:an.rep (α:=lH) m S R w cs a):∃u v,cs=[u,v]/\an.rep (α:=Λ) v6 bO R w [u] a.1/\an.rep (α:=List (Λ×Int)) v6 bO R w [v] a.2:=by
 obtain⟨c,d,f,j,rfl,_,_,_,h1,e⟩:=h;have h1:=h1;have e:=e;obtain⟨u,rfl⟩:=V4.1 (show c.length=1 from an.len h1);obtain⟨v,rfl⟩:=V4.1 (show d.length=1 from an.len e);exact⟨u,v,rfl,h1,e⟩
theorem Nq{g:Nat}{A B:ah}{s:Option aJ}{Q:Bool}(h:dt w g gs A B Q s)(hi:∀t,s=σ t->dX t)(av:aN .i64 w sv co)(K:∀r,lw sv r->¬bJ g gs A r/\r<w.heap.size)(aw:∀z∈co,1<=z/\z<=ay)(az:co.length<=100001)(aA:fo w)(h1:cU g gs A B 1):
  al v8 Jm [Γ g,sv] w λv I=>gj w g gs A B Q ((j2 co s).map (·.2)) I/\∃l,Seen (λr=>cU g gs A B r\/w.heap.size<=r) I [v] (show List (Λ×Int)from l)/\∀q,j2 co s=σ q->l=q.1:=by
 have aC:=h.side;obtain⟨bc,bd,be,aD,bg⟩:=id aC;have ae:∀r,bJ g gs A r->r<w.heap.size:=aD;refine aB func174 ?_;refine(nn (lo:=-ay) (hi:=ay) h).Y ?_;rintro _ U _ ⟨aF,n,at_,rfl,S,aG⟩;obtain⟨L,ai⟩:=aF.of;have bh:=L.size;have j:=Dd co s;rw[bx,bz];have aj:=i7 av L λr C a n c M W=>(K r ⟨a,n,c,M,W⟩).1 C;have bi:∀r,lw sv r->¬bJ g gs A r/\r<U.heap.size:=λr C=>⟨(K r C).1,by have:=(K r C).2;omega⟩;have rest:∀aa,Ext U aa->(∀q,bf (-ay) ay s=σ q->¬n<0)->∀N:Nat,n=(N:Int)->(N:Int)<=ay->∀y,af (bJ g gs A) aa y->dt y g gs A B Q (((bf (-ay) ay s).map (·.2)).map (k2 n))->
   ∀v I l,gj y g gs A B Q ((fB (eN co) N [] (((bf (-ay) ay s).map (·.2)).map (k2 n))).map (·.2)) I->bq (eU y.heap.size) bO I [v] (show List (Λ×Int)from l)->(∀q,fB (eN co) N [] (((bf (-ay) ay s).map (·.2)).map (k2 n))=σ q->l=q.1)->
   gj w g gs A B Q ((j2 co s).map (·.2)) I/\∃l,Seen (λr=>cU g gs A B r\/w.heap.size<=r) I [v] (show List (Λ×Int)from l)/\∀q,j2 co s=σ q->l=q.1:=by
  intro aa x O N X Y y G Z v I l aH aI aL;obtain⟨aM,aO⟩:=aH.of;have aP:=x.size;have z3:=G.size;have e:j2 co s=fB (eN co) N [] (((bf (-ay) ay s).map (·.2)).map (k2 n)):=by
   rw[j];cases f:bf (-ay) ay s with
   |none=>rfl
   |some q=>
    obtain⟨aQ,s1⟩:=q;have:=S _ f;subst this;simp only;rw[rc (O _ f),X,u9];rfl
  rw[e];refine⟨gj.mk (((L.F (x.V _)).F G).F aM) aO,l,p6 aI λr _ h=>?_,aL⟩;rcases h with h|h
  .have h:=h;exact .inr Ω
  .exact h.elim
 refine aZ (λv aa=>Ext U aa/\v= .bool (decide (n<0/\(bf (-ay) ay s).isSome=v2))) ?_ ?_
 rotate_left
 .intro ax R;refine(qt ai).Y ?_;rintro _ aa _ ⟨rfl,x⟩;cases f:bf (-ay) ay s with
  |none=>
   rw[show((ν:Option (Int×aJ)).map (·.2)).isSome=v6 from rfl,a6];exact R _ _ ⟨x,by rw[s2];rintro⟨_,h⟩;rw[f]at h;cases h⟩
  |some q=>
   rw[show((σ q:Option (Int×aJ)).map (·.2)).isSome=v2 from rfl,bQ,aS];exact R _ _ ⟨x,by congr 1;rw[U8,sp,sp,f];exact⟨λh=>⟨h,rfl⟩,λh=>h.1⟩⟩
 rintro _ aa ⟨x,rfl⟩;have H:=ai.W x;have aP:=x.size;rw[am];refine⟨λO=>?_,λaR=>?_⟩
 rotate_left
 .have O:∀q,bf (-ay) ay s=σ q->¬n<0:=λq f h=>aR ⟨h,by rw[f];rfl⟩;obtain⟨N,X,Y⟩:∃N:Nat,n=(N:Int)/\(N:Int)<=ay:=by
   cases f:bf (-ay) ay s with
   |none=>rw[aG f];exact⟨0,rfl,by unfold ay;omega⟩
   |some q=>
    have h1:=O q f;have aT:=n3 f;have aV:=S q f;exact⟨n.toNat,Ω,Ω⟩
  refine Nj H (λt aW=>?_) λy G Z=>?_
  .obtain⟨q,f,rfl⟩:=Y9.1 aW;have aT:=n3 f;have aV:=S q f;refine⟨Ω,Ω,?_⟩;cases s with
   |none=>cases f
   |some s0=>
    have ak:=(dG f).eqs;have an:=hi s0 rfl;intro ao;rw[ak.1];rw[ak.2.1]at ao;exact an ao
  .have z3:=G.size;have aX:af (bJ g gs A) w y:=(L.F (x.V _)).F G;subst X;refine Np Z ((i7 (aj.W x) G λr C a n c M W=>(K r ⟨a,n,c,M,W⟩).1 C)) (λr C=>⟨(K r C).1,by have:=(K r C).2;omega⟩) aw az (aA.V aX h1.1) h1 Y λv I l a b c=>?_;exact rest aa x O N rfl Y y G Z v I l a b c
 .obtain⟨aY,a1⟩:=O;obtain⟨⟨aQ,s1⟩,f⟩:=Option.isSome_iff_exists.1 a1;have:=S _ f;subst this;have bj:=n3 f;rw[f]at j H;simp only at j;rw[ms aY]at j;have H:=H;obtain⟨_,an,bk,big,bl,bm,m5,bn,ab,bo,ac⟩:=id H;have bp:ay=4611686018427387904:=rfl;refine aZ (λv y=>Ext aa y/\v= .bool (decide (j2 co s=ν))) ?_ ?_
  .rintro _ y ⟨E,rfl⟩;rw[am];refine⟨λa2=>?_,λap=>?_⟩
   .refine (tO (H.W E) Ω).Y ?_;rintro _ br _ ⟨a7,a8⟩;rw[a2];refine⟨gj.mk (((L.F (x.V _)).F (E.V _)).F (a7.Y λr _ h=>.inl h)) a8,[],gh,λq f=>by cases f⟩
   .cases P:s1.m6[(-n-1).toNat]? with
    |none=>rw[P]at j;exact ro j ap
    |some q=>
     obtain⟨z,l⟩:=q;rw[P]at j;simp only at j;have ba:z=co:=by
      by_cases J:z=co
      .exact J
      .rw[rc J]at j;exact ro j ap
     rw[ms ba]at j;rw[aK cF.p 3 (ab.W E) rfl,nc,m1 Ω Ω,dx,m1 Ω Ω];refine kT (i:=(-n-1).toNat) Ω ix.u kO.i (bu ac E) P λb o cs ad ag=>?_;obtain⟨u,v,rfl,hu,M⟩:=De ag;rw[aU kO.p rfl,aE Ψ (ad 1 v rfl)];rw[j];refine⟨gj.mk ((L.F (x.V _)).F (E.V _)) (H.W E),l,p6 M λr _ h=>?_,λq f=>by cases f;rfl⟩;rcases h with h|h
     .exact h.elim
     .exact .inl h
  .intro ax R;rw[nc,m1 Ω Ω,aK cF.p 3 ab rfl,gR ix.u ac,bU,am];refine⟨λaq=>R _ _ ⟨Ext.refl _,?_⟩,λau=>?_⟩
   .have aq:(s1.m6.length:Int)<0-n:=aq;rw[Y5 Ω]at j;rw[rs j]
   .have au:¬(s1.m6.length:Int)<0-n:=au;have bb:(-n-1).toNat<s1.m6.length:=Ω
    obtain⟨⟨z,l⟩,P⟩:∃q,s1.m6[(-n-1).toNat]?=σ q:=⟨_,x8 bb⟩;rw[aK cF.p 3 ab rfl,nc,m1 Ω Ω,dx,m1 Ω Ω];refine kT (i:=(-n-1).toNat) Ω ix.u kO.i ac P λb o cs ad ag=>?_;obtain⟨u,v,rfl,hu,M⟩:=De ag;rw[aU kO.p rfl,aE Ψ (ad 0 u rfl)];refine(KW (en hu) (aj.W x)).Y ?_;rintro _ y _ ⟨rfl,E⟩;rw[bM];refine R _ _ ⟨E,?_⟩;rw[P]at j;simp only at j;by_cases J:z=co
    .rw[ms J]at j;rw[rs J,s2 (by rw[j];simp)];rfl
    .rw[rc J]at j;rw[s2 J,rs j];rfl
abbrev qu(n:Nat):ah:=λr=>r<n
def rL(n:Int)(k:Nat)(s:Option aJ):Option (Λ×aJ):=s.bind (fc n k)
theorem Nr{g k:Nat}{A B:ah}{s:Option aJ}{m:Int}(h:dt w g gs A B f s)(hk:k<=4611686018427387904)(hm:0<=m/\m<=1000000):
  al v8 AF [Γ g,Δ (k:Int),Δ m] w λv I=>gj w g gs A B f ((rL m k s).map (·.2)) I/\
   ∃gr l,aA .i64 av I gr v l/\(∀r,lw v r->w.heap.size<=r)/\l.length<=100001/\∀q,rL m k s=σ q->l=q.1:=by
 cases s with
 |some s=>exact Mg h hk hm
 |none=>
  have h:=h;refine aB func172 ?_;refine⟨λout p U=>w=U/\out= .slice ν 0 0/\p=Δ 0,λ_ _ _=>0,⟨rfl,rfl,rfl⟩,?_⟩;rintro _ _ _ ⟨rfl,rfl,rfl⟩;refine aZ (λv aa=>Ext w aa/\v= .bool v6) ?_ ?_
  .rintro _ aa ⟨e,rfl⟩;rw[a6];exact⟨gj.mk (e.V _) (h.W e),0,[],aA.nil _ _ _ _,λr x=>ro x (λh=>by obtain⟨a,n,c,h,_⟩:=h;cases h),Ξ,λq y=>by cases y⟩
  .intro ax j;rw[aS,am];refine⟨λ_=>?_,λ_=>j _ _ ⟨Ext.refl _,rfl⟩⟩;refine(pf h).Y ?_;rintro _ aa _ ⟨rfl,e⟩;exact j _ _ ⟨e,rfl⟩
def uc(z:Λ)(l:List (Λ×Int))(s:aJ):aJ:={s with m6:=s.m6++[(z,l)]}
def Df(w:x5)(g gs:Nat):Prop:=∃(e big a f m5:Int)(sv:x4),ag w g cF (ja gs e big a f m5 sv)/\e≠0
def iG(w:x5)(g gs:Nat)(A:ah)(B:ah)(a:Bool)(s:Option aJ):Prop:=match s with
 |some s=>eo w g gs A B s a
 |none=>Df w g gs
theorem dt.q{g:Nat}{A:ah}{B:ah}{a:Bool}{s:Option aJ}(h:dt w g gs A B a s):iG w g gs A B a s:=by
 cases s with
 |some s=>exact h
 |none=>
  obtain⟨_,e,big,f,j,m5,sv,l,p,r,_⟩:=h;exact⟨e,big,f,j,m5,sv,p,r.1⟩
theorem iG.V{g:Nat}{A:ah}{B:ah}{a:Bool}{s:Option aJ}(h:iG w g gs A B a s)(f:af S w I)(p:¬S g)(q:∀r,bJ g gs A r->r<w.heap.size->¬S r)(x:∀r,cU g gs A B r->¬S r):iG I g gs A B a s:=by
 cases s with
 |some s=>
  have h:=h;exact eo.V h f (λr j=>q r j (h.1.2.2.2.1 r j)) x
 |none=>
  obtain⟨e,big,y,z,m5,sv,C,E⟩:=h;exact⟨e,big,y,z,m5,sv,C.V f p,E⟩
theorem iG.W{g:Nat}{A:ah}{B:ah}{a:Bool}{s:Option aJ}(h:iG w g gs A B a s)(e:Ext w I):iG I g gs A B a s:=h.V (e.V λ_=>False) (λh=>h) (λ_ _ _ h=>h) (λ_ _ h=>h)
theorem Dg{g:Nat}{A:ah}{B:ah}{s:Option aJ}{a:Bool}(h:iG w g gs A B a s):al v8 l6 [Γ g] w λv I=>v= .bool s.isSome/\Ext w I:=by
 cases s with
 |none=>
  obtain⟨e,big,q,r,m5,sv,f,j⟩:=h;refine(w6 f).Y ?_;rintro _ U _ ⟨rfl,p⟩;exact⟨by rw[s2 j];rfl,p⟩
 |some s=>exact ql h
theorem iC.aY{g:Nat}{R':Nat->Prop}(h:iC w g R hp f)(j:af S w I)(s:¬S g)(x:∀r,R r->¬S r)(y:∀r,R r->R' r):iC I g R' hp f:=by
 obtain⟨z,p,a,⟨h1,A,B,C,a8,E⟩,q,F⟩:=h;exact⟨z,p,a,⟨h1,A,B,C.V j s,a8,bA E j λr e=>x r (q r e)⟩,λr e=>y r (q r e),F⟩
theorem np{α:Type}[an α]{m:Bool}{S R:ah}{l:List α}(h:an.rep m S R w [v] l):∃a n c,v= .slice a n c:=by
 obtain⟨vs,e,F,ac,he,J,hm⟩:=jt h;obtain⟨f,b,o,base,cap,rfl,_⟩:=J;exact⟨_,_,_,rfl⟩
def nq(w:x5)(g gs:Nat)(A:ah)(B:ah)(R:ah)(a:Bool)(s:Option aJ):Prop:=match s with
 |some s=>mn w g gs A B/\iC w gs R s.hp a/\(0<=s.m5/\s.m5<=ay/\s.m6.length+s.hp.length<=100000)/\
  ∃big e f m5 sv,ag w g cF (ja gs 0 big e f m5 sv)/\((s.big=v2↔big≠0)/\(s.big=v6->m5=s.m5))/\bq A R w [sv] (show List lH from s.m6)
 |none=>Df w g gs
theorem nq.V{g:Nat}{A R:ah}{B:ah}{x:Bool}{s:Option aJ}(h:nq w g gs A B R x s)(a:af S w I)(y:¬S g)(z:∀r,bJ g gs A r->r<w.heap.size->¬S r)(C:∀r,R r->¬S r):nq I g gs A B R x s:=by
 cases s with
 |some s=>
  obtain⟨h1,E,F,big,f,j,m5,sv,p,q,G⟩:=h;have H:=h1.2.2.2.1;exact⟨h1.V a,E.V a (z gs (.inr (.inl rfl)) (H _ (.inr (.inl rfl)))) C,F,big,f,j,m5,sv,p.V a y,q,an.V G a λr J h=>h.elim (λh=>z r (.inr (.inr h)) J) (C r)⟩
 |none=>
  obtain⟨e,big,f,j,m5,sv,p,q⟩:=h;exact⟨e,big,f,j,m5,sv,p.V a y,q⟩
theorem nq.out{g:Nat}{A R B e:ah}{s:Option aJ}(h:nq w g gs A B R f s)(j:∀r,R r->cU g gs A e r)(q:∀r,e r->r<w.heap.size):iG w g gs A e f s:=by
 cases s with
 |some s=>
  obtain⟨⟨x,y,z,C,P⟩,⟨E,p,a,F,G,H⟩,I,big,J,K,m5,sv,L,M,N⟩:=h;exact⟨⟨x,y,z,C,q⟩,⟨E,p,a,F,λr O=>j r (G r O),H⟩,I,big,J,K,m5,sv,L,M,an.Y N (λ_ _ h=>h) λr _ h=>j r h⟩
 |none=>exact h
theorem dt.qr{g:Nat}{A R:ah}{B:ah}{y:Bool}{s:Option aJ}(h:dt w g gs A B y s)(z:∀r,cU g gs A B r->R r):nq w g gs A B R y s:=by
 cases s with
 |some s=>
  obtain⟨h1,⟨C,p,a,E,F,G⟩,H,big,f,j,m5,sv,q,x,I⟩:=h;exact⟨h1,⟨C,p,a,E,λr J=>z r (F r J),G⟩,H,big,f,j,m5,sv,q,x,an.Y I (λ_ _ h=>h) λr _ h=>z r h⟩
 |none=>
  obtain⟨_,e,big,f,j,m5,sv,l,q,x,_⟩:=h;exact⟨e,big,f,j,m5,sv,q,x.1⟩
theorem Ns{g:Nat}{A B R:ah}{s:Option aJ}{O:Bool}{aV az u:x4}{z:Λ}{l:List (Λ×Int)}{K:x5->Prop}(h:dt w g gs A B O s)(P:∀r,cU g gs A B r->R r)(aj:∀r,R r->cU g gs A (qu w.heap.size) r)(ak:∀t,s=σ t->t.m6.length+1+t.hp.length<=100000)(al:ag w N cm [aV,u,az,v])(hu:an.rep (α:=Λ) v6 bO R w [u] z)(am:an.rep (α:=List (Λ×Int)) v6 bO R w [v] l)(aA:∀I aM,af (bJ g gs A) w I->(∀r,aM r->A r\/w.heap.size<=r)->nq I g gs aM (qu w.heap.size) R O (s.map (uc z l))->K I):
  ab v8 (bT (Γ g)) w λQ=>
  ab v8 (u7 cF Q 3) w λS=>
  ab v8 (u6 ix S) w λao=>
  ab v8 (u7 cm (Γ N) 1) w λt76=>
  ab v8 (u6 aw t76) w λt77=>
  ab v8 (u7 cm (Γ N) 3) w λaB=>
  ab v8 (u6 jS aB) w λaC=>
  ab v8 (Instr.build kO #[(0,t77),(1,aC)]) w λaD=>
  aF v8 (X2 ix 1 #[(0,aD)]) w λaE F=>
   (Ext w F\/b2 v8 (u6 ix S) ao F/\b2 v8 (u7 cF Q 3) S F/\b2 v8 (bT (Γ g)) Q F/\True)/\
   aF v8 (Z9 #[ix,ix] ix #[ao,aE]) F λaG W=>
    ab v8 (bT (Γ g)) W λaH=>
    ab v8 (u7 cF aH 3) W λaI=>
    aF v8 (l9 ix aI aG) W λ(_:Unit)aN=>K aN:=by
 obtain⟨aO,e,big,j,q,m5,sv,H,y,L,a6,aP⟩:mn w g gs A B/\∃e big j q m5 sv,∃H:List lH,ag w g cF (ja gs e big j q m5 sv)/\bq A R w [sv] H/\H.length<=100000/\
   ∀I aM C,mn I g gs aM (qu w.heap.size)->af (λr=>A r\/r=g) w I->ag I g cF (ja gs e big j q m5 C)->bq aM R I [C] (H++[((z,l):lH)])->nq I g gs aM (qu w.heap.size) R O (s.map (uc z l)):=by
  cases s with
  |none=>
   obtain⟨h1,e,big,j,q,m5,sv,l',X,M,Y⟩:=h;exact⟨h1,e,big,j,q,m5,sv,l',X,an.Y Y (λ_ _ h=>h) λr _ h=>P r h,M.2,λI aM C J _ y L=>⟨e,big,j,q,m5,C,y,M.1⟩⟩
  |some s=>
   obtain⟨h1,aQ,ap,big,j,q,m5,sv,X,M,Y⟩:=h;have ak:=ak s rfl;refine⟨h1,0,big,j,q,m5,sv,s.m6,X,an.Y Y (λ_ _ h=>h) λr _ h=>P r h,(show s.m6.length<=100000 by omega),λI aM C J aR y L=>⟨J,?_,⟨ap.1,ap.2.1,?_⟩,big,j,q,m5,C,y,M,L⟩⟩
   .exact iC.aY aQ aR (λhe=>he.elim h1.2.2.1 λh=>h1.1 h.symm) (λr f he=>he.elim (λh=>f.1 (.inr (.inr h))) λh=>f.1 (.inl h)) P
   .show (s.m6++[(z,l)]).length+s.hp.length<=100000;simp;omega
 obtain⟨aS,Z,aT,aq,a7⟩:=id aO;rw[aK cF.p 3 y rfl,aL cm.p 1 al rfl,aL cm.p 3 al rfl];rw[dm (cs:=#[u,v]) (by obtain⟨_,_,_,rfl⟩:=np hu;obtain⟨_,_,_,rfl⟩:=np am;kernel_rfl)];have av:bq (λ_=>False) R w [u,v] ((z,l):lH):=⟨[u],[v],bO,bO,rfl,λ_ h=>h,λ_ h=>h,λ_ _ h _=>h,hu,am⟩;refine ju (α:=lH) (a:=(z,l)) (R:=R) ix.u kO.i Φ rfl av λx U E _ aW=>?_;have a8:=E.size;refine⟨.inl E,?_⟩;refine nQ ix.u kO.i rfl (bu L E) aW (bu av E) (λr _ aX G=>?_) Ω Ω λaZ aa ac ad=>?_
 .rcases G with G|G
  .exact G
  .exact (aj r G).1 (.inr (.inr aX))
 have ba:=ad.size;have a1:=(y.W E).V ad Z;rw[bY,aU cF.p rfl];refine bt (g:=g) (o:=6) ix.i (lC ac) (iX ac) a1 (by simp[ja]) λae ax bb ai=>?_;have ai:=ai;have ay:af (λr=>A r\/r=g) w ae:=((E.V _).F (ad.Y λr _ h=>.inl h)).F (ax.Y λr _ h=>.inr h);let aM:ah:=λr=>(A r\/w.heap.size<=r)/\r<aa.heap.size;have bc:g<w.heap.size:=aq g (.inl rfl);have bd:=aq gs (.inr (.inl rfl));have a2:=an.Y (S':=aM) (R':=R) ac (λr f h=>⟨h.elim .inl λh=>h.elim False.elim λh=>.inr Ω,f⟩) (λr f h=>h);refine aA ae aM (ay.Y λr _ h=>h.elim (λh=>.inr (.inr h)) .inl) (λr f=>f.1) (aP ae aM aZ ⟨aS,λh=>h.1.elim Z λh=>Ω,λh=>h.1.elim aT λh=>Ω,λr f=>?_,?_⟩ ay ai (an.V a2 ax λr f au he=>?_))
 .rcases f with rfl|rfl|f
  .omega
  .omega
  .have:=f.2;omega
 .intro r f;have f:r<w.heap.size:=f;omega
 .have he:r=g:=he;subst he;rcases au with au|au
  .exact au.1.elim Z λh=>Ω
  .exact (aj _ au).1 (.inl rfl)
theorem Nt{e:Nat}{aV E:x4}{scope all:Λ}{M:x5->Prop}(N:ag w e cm [aV,.slice ν 0 0,Δ 0,.slice ν 0 0])(O:aN .i64 w aV scope)(Y:∀r,lw aV r->r≠e)(Z:aN .i64 w E all)(ac:∀r,lw E r->r≠e)(ad:∀v∈scope,0<=v/\v<all.length)(aH:scope.length<=100001)(ae:∀I lc gz,af (λr=>r=e) w I->ag I e cm [aV,lc,Δ 0,.slice ν 0 0]->aA .i64 av I gz lc (scope.map λv=>all.getD v.toNat 0)->w.heap.size<=gz->M I):
 bW (Δ 0) w λF s k=>
  ab v8 (aO .lss ai v6 v6 F (Δ (scope.length:Int))) s λah=>
  Split ah (ab v8 (c9 aw aV F) s λaj=>
  ab v8 (u6 av aj) s λak=>
  ei s λf=>
  ab v8 (u7 cm (Γ e) 1) f λt39=>
  ab v8 (u6 aw t39) f λP=>
  ab v8 (c9 aw E ak) f λal=>
  ab v8 (u6 av al) f λan=>
  aF v8 (X2 aw 1 #[(0,an)]) f λt45 z=>
   (Ext f z\/b2 v8 (u6 aw t39) P z/\b2 v8 (u7 cm (Γ e) 1) t39 z/\True)/\
  aF v8 (Z9 #[aw,aw] aw #[P,t45]) z λt46 Q=>
   ab v8 (u7 cm (Γ e) 1) Q λao=>
   aF v8 (l9 aw ao t46) Q λ(_:Unit)R=>
    ab v8 (aO .add ai v6 v2 F (Δ 1)) R λap=>
  k ap R) (M s):=by
 have aI:=N.lt;refine bW.range scope.length (λi U=>af (λr=>r=e) w U/\∃lc gz,ag U e cm [aV,lc,Δ 0,.slice ν 0 0]/\aA .i64 av U gz lc ((scope.take i).map λv=>all.getD v.toNat 0)/\w.heap.size<=gz) O.le ⟨af.refl _ _,_,w.heap.size,N,aA.nil _ _ _ _,o4 _⟩ ?_ ?_
 rotate_left
 .rintro U aq ⟨j,lc,gz,A,B,S⟩;rw[j4]at B;rw[aS,am];exact⟨λh=>Ω,λ_=>ae U lc gz j A B S⟩
 rintro i U aq hi ⟨j,lc,gz,A,B,S⟩ au;obtain⟨v,G⟩:=aD (l:=scope) hi;have aJ:=ad v (x7 G);have ax:all[v.toNat]?=σ (all.getD v.toNat 0):=by
  rw[u5,x8 Ω];rfl
 have ay:=i7 O j λr C a n c H J=>Y r ⟨a,n,c,H,J⟩ C;have az:=i7 Z j λr C a n c H J=>ac r ⟨a,n,c,H,J⟩ C;refine bG Ω ?_;rw[bk aw.u av.i Ψ ay G];intro aa q _ _;have aK:=j.size;have aM:=q.size;rw[aL cm.p 1 (A.W q) rfl];rw[fM (y:=v) (i:=v.toNat) Ω aw.u av.i Ψ (az.W q) ax];refine eT aw.u av.i rfl λa ga aQ aR x aB=>?_;refine⟨.inl x,?_⟩;have z3:=x.size;refine kp aw.u av.i rfl ((B.W q).W x) aB.ls Θ Θ λaC aE aT aW K W=>?_;rw[aU cm.p rfl];have aG:=((A.W q).W x).V W (λhe=>by have he:=he;omega);refine bt (g:=e) (o:=1) aw.i K.ls.cells.1 K.ls.cells.2 aG Ξ λaX X aY L=>?_;have L:=L;rw[aP];refine au _ ⟨(iB (j.F ((q.F x).V _)) W λr C he=>by have he:r=gz:=he;omega).F X,aC,aE,L,?_,Ω⟩;rw[r9,G,j6,Z3];exact K.V X (λ_ he=>by have he:=he;omega)
abbrev jD:Type:=Rd (Λ)×Rd (Λ)×Int×Rd (List (Λ×Int))
def iH(f:cE):jD:=(f.scope,f.co,f.other,f.lines)
theorem Dh{R:ah}{aV lc cq:x4}{o:Int}{sc:Λ}{l:List (Λ×Int)}(h1:an.rep (α:=Λ) v6 bO R w [aV] sc)(e:an.rep (α:=Λ) v6 bO R w [lc] a)(f:an.rep (α:=List (Λ×Int)) v6 bO R w [cq] l):
  Seen R w [aV,lc,Δ o,cq] ((sc,a,o,l):jD):=
 ⟨[aV],[lc,Δ o,cq],bO,bO,rfl,λ_ h=>h,λ_ h=>h,λ_ _ h _=>h,h1,[lc],[Δ o,cq],bO,bO,rfl,λ_ h=>h,λ_ h=>h,λ_ _ h _=>h,e,[Δ o],[cq],bO,bO,rfl,λ_ h=>h,λ_ h=>h,λ_ _ h _=>h,rfl,f⟩
theorem rM{R:ah}{g:Nat}(h:aA .i64 e w g v l)(q:∀r,lw v r->R r):an.rep (α:=Λ) v6 bO R w [v] l:=by
 have h1:bq (λr=>r=g) bO w [v] l:=md h;obtain⟨vs,s,F,ac,he,J,hm⟩:=jt h1;refine⟨v,rfl,vs,s,λ_ _=>False,⟨λ_ _ h=>h,λh=>(by cases h),λh=>by cases h⟩,⟨he.1,λi c a x y=>?_⟩,?_,λh=>by cases h⟩
 .exact he.2 i c a x y
 .obtain⟨f,b,o,base,cap,rfl,z,A,j,E,B⟩:=J;refine⟨f,b,o,base,cap,rfl,z,A,j,λp=>.inr (q b ?_),B⟩;have C:0<l.length:=by
   rw[f]at p;rcases Q8 l.length with h|h
   .rw[h,Nat.zero_mul]at p;omega
   .exact h
  exact⟨⟨b,o,ν⟩,l.length,cap,by rw[j C],rfl⟩
theorem Di{α:Type}[an α]{R R':ah}{a:α}(h:Seen R w cs a)(e:∀r,r<w.heap.size->R r->R' r):Seen R' w cs a:=an.Y h (λ_ _ h=>h) e
theorem Dj{f a:Nat}{K:x4->x5->Prop}(e:cs.length=4)(h1:∀v∈cs,v.oneCell'=v2)(q:ag w f cm cs){h:List x4}(s:h.length=4)(x:ag w a cm h)(y:∀I,af (λr=>r=a) w I->K (.agg cs.toArray) I):
  ab v8 (u6 cm (Γ f)) w λz=>
  aF v8 (l9 cm (Γ a) z) w λ(_:Unit)j=>
  ab v8 (do loadVar cm (<-asAddr (Γ a))) j λA=>K A j:=by
 rw[bC cm.p cm.i e q.range];refine b6 cm.i e s h1 x λI B _ C=>?_;rw[fi cm.p cm.i e C.range];exact y I B
theorem Dk{s s':aJ}{l:List (Λ×Int)}(h:dW co s=σ (l,s')):s'.m6=s.m6/\s'.hp.length<=s.hp.length:=by
 unfold dW at h;cases e:bl (-ay) ay s with
 |none=>rw[e]at h;cases h
 |some q=>
  obtain⟨n,s1⟩:=q;rw[e]at h;simp only at h;have h1:=dG e;obtain⟨r,w,f⟩:=h1.eqs;split at h
  .cases J:s1.m6[(-n-1).toNat]? with
   |none=>rw[J]at h;cases h
   |some q=>
    obtain⟨z,l'⟩:=q;rw[J]at h;simp only at h;split at h
    .simp only[X7,S8]at h;obtain⟨rfl,rfl⟩:=h;exact⟨f,by have:=h1.1;omega⟩
    .cases h
  .have:=lG (λacc t=>t.m6=s.m6/\t.hp.length<=s.hp.length) (λacc t a bs ⟨p,x⟩ g=>by
    obtain⟨y,A,B,j⟩:=qj g;obtain⟨f1,f2,f3⟩:=j.eqs;exact⟨by rw[f3,p],by have:=j.1;omega⟩) n.toNat [] (bi (decide (16384<min (s1.m5+n) ay)) {s1 with m5:=min (s1.m5+n) ay}) l s' ⟨f,by have:=h1.1;show s1.hp.length<=_;omega⟩ h
   exact this.1
theorem Nu{g:Nat}{A B:ah}{s:aJ}{W:Bool}{bb:x4}{all:Λ}(h:eo w g gs A B s W)(hi:dX s)(bI:aN .i64 w bb all)(bc:∀r,lw bb r->¬bJ g gs A r/\r<w.heap.size)(ci:∀z∈all,1<=z/\z<=ay)(di:all.length<=100001)(cj:fo w)(h1:cU g gs A B 1):
  al v8 Ay [Γ g,bb] w λv I=>∃aM X cs,∃bK:jD,v= .agg cs.toArray/\cs.length=4/\af (bJ g gs A) w I/\(∀r,aM r->A r\/w.heap.size<=r)/\(∀r,X r->(B r\/w.heap.size<=r)/\r<I.heap.size)/\(∀r,B r->X r)/\iG I g gs aM X W ((dp all s).map (·.2))/\
   Seen (cU g gs aM X) I cs bK/\∀q,dp all s=σ q->bK=iH q.1:=by
 have ck:=h.1;obtain⟨dj,dk,bd,cl,R⟩:=id ck;have ae:∀r,bJ g gs A r->r<w.heap.size:=cl;have dl:ay=4611686018427387904:=rfl;have dn:=h.2.2.1.2.2;refine aB func114 ?_;refine bF cm.i λE U dq be aO=>?_;have aO:=aO;have dr:=be.size;have ds:=aO.lt;have L:¬bJ g gs A E:=λj=>by have:=ae _ j;omega
 refine(w7 (h.W be)).Y ?_;rintro _ aa _ ⟨Y,a,at_,rfl,bL,cn⟩;obtain⟨bg,bh⟩:=Y.of;have du:=bg.size;rw[bx,bz,aS,nc];have dv: -ay<=a/\a<=ay:=by
  cases C:bl (-ay) ay s with
  |none=>rw[cn C];unfold ay;omega
  |some q=>rw[bL q C];exact(i9 C).1
 rw[m1 Ω Ω,tm,show max a (0-a)=((a.natAbs:Nat):Int) by omega];have bN:=(be.V _).F bg;have cp:=i7 bI bN λr f a n c H bj=>(bc r ⟨a,n,c,H,bj⟩).1 f;rw[a1 aw.u cp];refine(Nr bh Ω Ω).Y ?_;rintro aV dw _ ⟨Y,gr,scope,aD,cr,dx,ct⟩;obtain⟨bk,cu⟩:=Y.of;have z3:=bk.size;rw[dm (cs:=#[aV,.slice ν 0 0,Δ 0,.slice ν 0 0]) (by obtain⟨_,_,_,_,_,rfl,_⟩:=aD.ls;kernel_rfl)];refine bF cm.i λy dz dA aE aP=>?_;have aP:=aP;have z4:=aE.size;have dC:=aP.lt;have bm:=aD.ls.cells;refine b6 (vs:=[aV,.slice ν 0 0,Δ 0,.slice ν 0 0]) cm.i rfl rfl (by intro v H;simp at H;rcases H with rfl|rfl|rfl|rfl<;>first|exact bm.2|rfl) aP λaQ aF dD cw=>?_;have ak:¬bJ g gs A y:=λj=>by have:=ae _ j;omega
 have bP:dt aQ g gs A B W ((rL all.length a.natAbs ((bl (-ay) ay s).map (·.2))).map (·.2)):=(cu.W aE).V aF (λr f he=>by have he:r=y:=he;exact ak (he▸f)) (λr f he=>by have:=R r f.2;have he:r=y:=he;omega);have bQ:af (bJ g gs A) w aQ:=iB ((bN.F bk).F (aE.V _)) aF λr f he=>by have he:r=y:=he;omega
 have cz:ag aQ E cm [.slice ν 0 0,.slice ν 0 0,Δ 0,.slice ν 0 0]:=(((aO.V bg L).V bk L).W aE).V aF (λhe=>by have he:E=y:=he;omega);have cA:aA .i64 av aQ gr aV scope:=bA (aD.W aE) aF λr f he=>by
  obtain⟨cB,bh⟩:=bZ aD f;have he:r=y:=he;omega
 refine(qt bP).Y ?_;rintro _ bR _ ⟨rfl,Z⟩;have ao:=bP.W Z;have aG:=cA.W Z;have bn:=cw.W Z;have bS:=cz.W Z;have dE:=Z.size;have z5:=aF.size;have O:∀r,lw aV r->aa.heap.size<=r/\r≠y/\r≠E:=λr f=>by
  obtain⟨cB,bh⟩:=bZ aD f;have:=cr r f;exact⟨this,Ω,Ω⟩
 have K:dp all s=match rL all.length a.natAbs ((bl (-ay) ay s).map (·.2))with
   |none=>ν
   |some (sc,J)=>(j2 (sc.map λv=>all.getD v.toNat 0) ((bf 0 ay (σ (bi (decide (6<a.natAbs)||dy (sc.map λv=>all.getD v.toNat 0)) J))).map (·.2))).map λq=>((⟨sc,sc.map λv=>all.getD v.toNat 0,((bl 0 ay (bi (decide (6<a.natAbs)||dy (sc.map λv=>all.getD v.toNat 0)) J)).map (·.1)).getD 0,q.1⟩:cE),if a<0 then uc (sc.map λv=>all.getD v.toNat 0) q.1 q.2 else q.2):=by
  unfold dp;cases C:bl (-ay) ay s with
  |none=>rfl
  |some q=>
   obtain⟨a',s1⟩:=q;have:=bL _ C;subst this;simp only;show _=match fc all.length a.natAbs s1 with
    |none=>ν
    |some (sc,J)=>_
   cases fc all.length a.natAbs s1 with
   |none=>rfl
   |some q=>
    obtain⟨sc,J⟩:=q;simp only;show _=U7 _ (j2 _ ((bl 0 ay _).map (·.2)));cases bl 0 ay (bi (decide (6<a.natAbs)||dy (sc.map λv=>all.getD v.toNat 0)) J)with
    |none=>rfl
    |some q=>
     obtain⟨o,G⟩:=q;simp only;show _=U7 _ (dW _ G);cases dW (sc.map λv=>all.getD v.toNat 0) G with
     |none=>rfl
     |some q=>rfl
 rw[bM,b4];cases ab:rL all.length a.natAbs ((bl (-ay) ay s).map (·.2))with
 |none=>
  rw[ab]at ao K;simp only at K;refine⟨λ_=>?_,λh=>by simp at h⟩;refine Dj rfl (by intro v H;simp at H;rcases H with rfl|rfl|rfl|rfl<;>first|exact bm.2|rfl) bn rfl bS λac M=>?_;have cC:=M.size;refine⟨A,λr=>(B r\/w.heap.size<=r)/\r<ac.heap.size,_,(scope,[],0,[]),rfl,rfl,iB (bQ.F (Z.V _)) M λr f he=>by have he:r=E:=he;omega,λr f=>.inl f,λr f=>f,λr f=>⟨.inl f,by have:=R r f;omega⟩,?_,?_,λq C=>by rw[K]at C;cases C⟩
  .rw[K];have cD:iG ac g gs A B W (U7 (λx=>x.2) (ν:Option (Λ×aJ))):=ao.q.V M (λhe=>by have:=ae g (.inl rfl);have he:g=E:=he;omega) (λr f _ he=>by have he:r=E:=he;exact L (he▸f)) (λr f he=>by have:=R r f.2;have he:r=E:=he;omega);exact cD
  .refine Dh (rM (bA aG M λr f he=>(O r f).2.2 he) λr f=>?_) gh gh;have N:=O r f;have ap:=(bZ aG f);exact⟨λj=>by have:=ae _ j;omega,.inr Ω,Ω⟩
 |some q=>
  obtain⟨sc,J⟩:=q;have:=ct _ ab;subst this;rw[ab]at ao K;simp only at K;refine⟨λh=>by simp at h,λ_=>?_⟩;have ao:=ao;obtain⟨s1,cF,cG⟩:∃s1,(bl (-ay) ay s).map (·.2)=σ s1/\fc all.length a.natAbs s1=σ (scope,J):=by
   cases C:(bl (-ay) ay s).map (·.2)with
   |none=>rw[C]at ab;cases ab
   |some s1=>rw[C]at ab;exact⟨s1,rfl,ab⟩
  obtain⟨dF,cH,rfl⟩:=Y9.1 cF;have bT:=dG cH;obtain⟨bV,dH,dI,bW⟩:=w4 cG;have bo:=bT.eqs;have bp:=bV.eqs;have cI:dX J:=λP=>by rw[bp.1,bo.1];rw[bp.2.1,bo.2.1]at P;exact hi P
  have cJ:J.m6.length+1+J.hp.length<=100000:=by rw[bp.2.2,bo.2.2];have:=bT.1;have:=bV.1;omega
  generalize bq:(scope.map λv=>all.getD v.toNat 0)=co at K;have bX:∀z∈co,1<=z/\z<=ay:=λz aR=>by
   rw[<-bq]at aR;obtain⟨v,H,rfl⟩:=j5.1 aR;have:=bW v H;refine ci _ ?_;rw[u5,x8 Ω];exact Q9 _
  have dJ:co.length=scope.length:=by rw[<-bq,r8]
  have bY:af (bJ g gs A) w bR:=bQ.F (Z.V _);have cK:=i7 bI bY λr f a n c H bj=>(bc r ⟨a,n,c,H,bj⟩).1 f;rw[aL cm.p 0 bn rfl,a1 aw.u aG.ls];refine Nt bn aG.ls (λr f=>(O r f).2.1) cK (λr f=>by have:=(bc r f).2;omega) bW Ω λac lc gz M b0 aT dK=>?_;rw[bq]at aT;have cC:=M.size;have br:∀r,cU g gs A B r->¬(λr=>r=y) r:=λr f he=>by have:=R r f.2;have he:r=y:=he;omega
  have bs:∀r,bJ g gs A r->¬(λr=>r=y) r:=λr f he=>by have he:r=y:=he;exact ak (he▸f)
  have b1:=ao.V M bs br;have cL:af (bJ g gs A) w ac:=iB bY M λr f he=>by have he:r=y:=he;omega
  refine c7 (λaX=>af (bJ g gs A) ac aX/\eo aX g gs A B (bi (decide (6<a.natAbs)||dy co) J) W) ?_ ?_
  rotate_left
  .intro ax aH;rw[bU,am];refine⟨λdL=>?_,λdM=>?_⟩
   .refine (tP b1).Y ?_;rintro _ cM _ ⟨cN,cO⟩;refine aH _ ⟨cN.Y λr _ h=>.inl h,?_⟩;rw[rs Ω,Bool.true_or];exact cO
   .rw[aL cm.p 1 b0 rfl];refine(Cx aT.ls λz aR=>(bX z aR).1).Y ?_;rintro _ cM _ ⟨rfl,b2⟩;refine(tP (b1.W b2)).Y ?_;rintro _ dN _ ⟨cP,cQ⟩;refine aH _ ⟨(b2.V _).F (cP.Y λr _ h=>.inl h),?_⟩;rw[s2 Ω,Bool.false_or];exact cQ
  rintro aX ⟨aY,aZ⟩;have dO:=aY.size;generalize bd:bi (decide (6<a.natAbs)||dy co) J=G at K aZ;have cR:dX G:=λP=>by
   subst bd;have P:(J.big||_)=v6:=P;exact cI (U1.1 P).1
  have dP:G.m6.length+1+G.hp.length<=100000:=by subst bd;exact cJ
  have aZ:dt aX g gs A B W (σ G):=aZ;refine(nn (lo:=0) (hi:=ay) aZ).Y ?_;rintro _ b3 _ ⟨Y,o,dQ,rfl,cS,dR⟩;obtain⟨a2,cT⟩:=Y.of;have dS:=a2.size;rw[bx,bz,aU cm.p rfl];have cV:=(b0.V aY ak).V a2 ak;refine bt (g:=y) (o:=2) av.i rfl rfl cV Ξ λcW aq dT a6=>?_;have a6:=a6;rw[aL cm.p 1 a6 rfl];have cX:=cT.V aq bs br;have bw:af (bJ g gs A) ac b3:=aY.F a2;have cY:af (bJ g gs A) w b3:=cL.F bw;have b5:af (bJ g gs A) w cW:=iB cY aq λr f he=>by have he:r=y:=he;omega
  have ad:∀r,lw lc r->bR.heap.size<=r/\r<ac.heap.size:=λr f=>by have:=bZ aT f;omega
  have b7:=bA (bA aT bw λr f j=>by have:=ae _ j;have:=ad r f;omega) aq λr f he=>by have he:r=y:=he;have:=ad r f;omega
  have cZ:=bA (bA (bA aG M λr f he=>(O r f).2.1 he) bw λr f j=>by have:=ae _ j;have:=O r f;omega) aq λr f he=>(O r f).2.1 he;have dU:=aq.size;refine(Nq cX (λt bB=>?_) b7.ls (λr f=>⟨λj=>by have:=ae _ j;have:=ad r f;omega,by have:=ad r f;omega⟩) bX Ω (cj.V b5 h1.1) h1).Y ?_
  .obtain⟨q,C,rfl⟩:=Y9.1 bB;have b8:=(dG C).eqs;intro P;rw[b8.1];rw[b8.2.1]at P;exact cR P
  rintro cq c0 _ ⟨Y,l,bC,b9⟩;obtain⟨au,c1⟩:=Y.of;have dV:=au.size;have bD:cq.cells= #[cq]/\cq.oneCell'=v2:=⟨lC bC,iX bC⟩;rw[aU cm.p rfl];have c2:=a6.V au ak;refine bt (g:=y) (o:=3) jS.i bD.1 bD.2 c2 Ξ λQ ai dY a7=>?_;have a7:=a7;have dZ:=ai.size;have ca:=c1.V ai bs br;have c3:af (bJ g gs A) w c0:=b5.F au;have c4:af (bJ g gs A) w Q:=iB c3 ai λr f he=>by have he:r=y:=he;omega
  have cb:=bA (bA cZ au λr f j=>by have:=ae _ j;have:=O r f;omega) ai λr f he=>(O r f).2.1 he;have a8:=bA (bA b7 au λr f j=>by have:=ae _ j;have:=ad r f;omega) ai λr f he=>by have he:r=y:=he;have:=ad r f;omega
  have c5:ag Q E cm [.slice ν 0 0,.slice ν 0 0,Δ 0,.slice ν 0 0]:=((((((bS.V M (λhe=>by have he:=he;omega)).V aY L).V a2 L).V aq (λhe=>by have he:=he;omega)).V au L).V ai (λhe=>by have he:=he;omega));let S:ah:=λr=>(B r\/w.heap.size<=r)/\r<Q.heap.size;have cc:an.rep v6 bO (λr=>cU g gs A S r/\r≠y/\r≠E) Q [cq] l:=by
   refine Di (an.V bC ai λr f h he=>?_) λr f h=>?_
   .have he:r=y:=he;rcases h with h|h
    .exact h
    .rcases h with h|h
     .have:=R r h.2;omega
     .omega
   .rcases h with h|h
    .have:=R r h.2;exact⟨⟨h.1,.inl h.2,f⟩,Ω,Ω⟩
    .exact⟨⟨λj=>by have:=ae _ j;omega,.inr Ω,f⟩,Ω,Ω⟩
  have c6:∀r,lw aV r->cU g gs A S r/\r≠y/\r≠E:=λr f=>by
   have N:=O r f;have ap:=(bZ cb f);exact⟨⟨λj=>by have:=ae _ j;omega,.inr Ω,Ω⟩,N.2⟩
  have cd:∀r,lw lc r->cU g gs A S r/\r≠y/\r≠E:=λr f=>by
   have N:=ad r f;have ap:=(bZ a8 f);exact⟨⟨λj=>by have:=ae _ j;omega,.inr Ω,Ω⟩,Ω,Ω⟩
  have c8:Seen (λr=>cU g gs A S r/\r≠y/\r≠E) Q [aV,lc,Δ o,cq] ((scope,co,o,l):jD):=Dh (rM cb c6) (rM a8 cd) cc;have c9:∀q,dp all s=σ q->((scope,co,o,l):jD)=iH q.1:=λq C=>by
   rw[K]at C;obtain⟨ea,bE,rfl⟩:=Y9.1 C;have N:=b9 _ bE;cases az:bl 0 ay G with
   |none=>have e:bf 0 ay (σ G)=ν:=az;rw[e]at bE;cases bE
   |some aj=>
    have ap:=cS aj az;rw[N,ap];rfl
  have da:∀v∈[aV,lc,U3 .i64 o,cq],v.oneCell'=v2:=by
   intro v H;simp at H;rcases H with rfl|rfl|rfl|rfl
   .exact bm.2
   .exact a8.ls.cells.2
   .rfl
   .exact bD.2
  have ce:∀r,cU g gs A B r->cU g gs A S r/\r≠y/\r≠E:=λr f=>by
   have:=R r f.2;exact⟨⟨f.1,.inl f.2,Ω⟩,Ω,Ω⟩
  refine c7 (λbG=>∃aM,af (bJ g gs A) Q bG/\(∀r,aM r->A r\/Q.heap.size<=r)/\∃X,nq bG g gs aM X (λr=>cU g gs A S r/\r≠y/\r≠E) W ((dp all s).map (·.2))) ?_ ?_
  .rintro bG ⟨aM,aI,aK,X,db⟩;have eb:=aI.size;refine Dj rfl da (a7.V aI ak) rfl (c5.V aI L) λcf ba=>?_;have ec:=ba.size;have cg:∀r,bJ g gs aM r->¬(λr=>r=E) r:=λr f he=>by
    have he:r=E:=he;subst he;rcases f with f|f|f
    .exact L (.inl f)
    .exact L (.inr (.inl f))
    .rcases aK _ f with f|f
     .exact L (.inr (.inr f))
     .omega
   have ch:∀r,(cU g gs A S r/\r≠y/\r≠E)->cU g gs aM (λr=>(B r\/w.heap.size<=r)/\r<cf.heap.size/\(r<Q.heap.size\/B r)) r:=λr h=>⟨λj=>h.1.1 (j.imp id (Or.imp id λj=>(aK r j).elim id λaW=>by have:=h.1.2.2;omega)),h.1.2.1,by have:=h.1.2.2;omega,.inl h.1.2.2⟩;have dc:=db.V ba (cg g (.inl rfl)) (λr f _=>cg r f) (λr f=>f.2.2);refine⟨aM,λr=>(B r\/w.heap.size<=r)/\r<cf.heap.size/\(r<Q.heap.size\/B r),_,(scope,co,o,l),rfl,rfl,iB (c4.F aI) ba λr f he=>by have he:r=E:=he;omega,λr f=>(aK r f).imp id λh=>Ω,λr f=>⟨f.1,f.2.1⟩,λr f=>⟨.inl f,by have:=R r f;omega,.inr f⟩,dc.out ch λr f=>f.2.1,?_,c9⟩;refine Di (an.V (an.V c8 aI λr _ h j=>?_) ba λr _ h he=>?_) λr _ h=>ch r h
   .rcases h with h|h
    .exact h
    .exact h.1.1 j
   .rcases h with h|h
    .exact h
    .exact h.2.2 he
  .intro ax aH;rw[am];refine⟨λdd=>?_,λde=>?_⟩
   .intro bH aC _ _;have ed:=aC.size;have df:∀r,(cU g gs A S r/\r≠y/\r≠E)->cU g gs A (qu bH.heap.size) r:=λr h=>⟨h.1.1,by have:=h.1.2.2;show r<bH.heap.size;omega⟩;refine Ns (ca.W aC) ce df (λt bB=>?_) (a7.W aC) (rM (a8.W aC) cd) (bu cc aC) λee aM dg aK dh=>?_
    .obtain⟨q,C,rfl⟩:=Y9.1 bB;cases az:bl 0 ay G with
     |none=>have e:bf 0 ay (σ G)=ν:=az;rw[e]at C;cases C
     |some aj=>
      have e:bf 0 ay (σ G)=σ aj:=az;rw[e]at C;have h1:q.2.m6=aj.2.m6/\q.2.hp.length<=aj.2.hp.length:=Dk (l:=q.1) (s':=q.2) C;have N:=dG (n:=aj.1) (s':=aj.2) az;have ap:=N.eqs.2.2;have ef:=N.1;rw[h1.1,ap];have:=h1.2;omega
    .refine aH _ ⟨aM,(aC.V _).F dg,λr f=>(aK r f).imp id λh=>Ω,qu bH.heap.size,?_⟩;have e:(dp all s).map (·.2)=((j2 co ((bf 0 ay (σ G)).map (·.2))).map (·.2)).map (uc co l):=by
      rw[K];cases C:j2 co ((bf 0 ay (σ G)).map (·.2))with
      |none=>rfl
      |some q=>
       have N:=b9 _ C;simp only[Y3,ms dd,N]
     rw[e];exact dh
   .refine aH _ ⟨A,af.refl _ _,λr f=>.inl f,B,?_⟩;have e:(dp all s).map (·.2)=(j2 co ((bf 0 ay (σ G)).map (·.2))).map (·.2):=by
     rw[K];cases C:j2 co ((bf 0 ay (σ G)).map (·.2))with
     |none=>rfl
     |some q=>simp only[Y3,rc de]
    rw[e];exact ca.qr ce
def nr(l:Λ):Prop:=∀v∈l,0<=v/\v<64
theorem rN(h:nr l){v:Int}:v∈bw l↔v∈l:=by
 unfold bw;rw[S9,sp];refine⟨λh=>h.2,λa=>⟨?_,a⟩⟩;obtain⟨h1,e⟩:=h v a;exact j5.2 ⟨v.toNat,S2.2 Ω,Ω⟩
theorem Nv(l:Λ):nr (bw l):=λv a=>by
 obtain⟨n,e,rfl⟩:=j5.1 (S9.1 a).1;have:=S2.1 e;omega
theorem xo(l:Λ):(bw l).Pairwise (·< ·):=by
 unfold bw;refine List.Pairwise.filter _ ?_;rw[List.pairwise_map];exact List.pairwise_lt_range.imp λh=>Ω
theorem Dl(l:Λ):(bw l).Nodup:=(xo l).imp λh=>Ω
where
 nodup_le' {a b:Λ} (h:a.Nodup) (J:∀x∈a,x∈b):a.length<=b.length:=by
  induction a generalizing b with
  |nil=>exact W0 _
  |cons x a ih=>
   have aW:=List.nodup_cons.1 h;have hx:=J x (.head _);have:=ih aW.2 λy hy=>(List.mem_erase_of_ne (λ(he:y=x)=>aW.1 (by rw[<-he];exact hy))).2 (J y (.tail _ hy));rw[List.length_erase_of_mem hx]at this;have:=List.length_pos_of_mem hx;rw[Y0];omega
theorem Dm(n:Nat):(0:Int)<64 ^ n:=Int.pow_pos Ω
theorem ud:∀(l:Λ),nr l->0<=kx l/\kx l<64 ^ l.length
 |[],_=>by simp[kx]
 |x::l,h=>by
  have j:=ud l λy a=>h y (.tail _ a);have f:=h x (.head _);have ac:=Dm l.length;simp only[kx,Y0];have e:(64:Int) ^ (l.length+1)=64*64 ^ l.length:=by rw[Int.pow_succ,Int.mul_comm]
  have h1:x*64 ^ l.length<=63*64 ^ l.length:=Int.mul_le_mul_of_nonneg_right Ω Ω;have p:0<=x*64 ^ l.length:=Int.mul_nonneg f.1 Ω;rw[e];omega
def jE:Λ->Λ->Int
 |x::a,y::b=>if x<y then-1 else if y<x then 1 else jE a b
 |[],[]=>0
 |[],_::_=>-1
 |_::_,[]=>1
theorem Dn:∀(a b:Λ),a.length=b.length->nr a->nr b->(jE a b<0↔kx a<kx b)/\(jE a b=0↔a=b)/\(kx a=kx b->a=b)
 |[],[],_,_,_=>by simp[jE]
 |[],_::_,h,_,_=>by simp at h
 |_::_,[],h,_,_=>by simp at h
 |x::a,y::b,h,s,w=>by
  have p:a.length=b.length:=by simpa using h
  have q:=λz e=>s z (.tail _ e);have r:=λz e=>w z (.tail _ e);have f:=Dn a b p q r;have A:=ud a q;have C:=ud b r;have ac:=Dm b.length;simp only[jE,kx];rw[p]at A ⊢;have step:∀u v:Int,u<v->u*64 ^ b.length+64 ^ b.length<=v*64 ^ b.length:=λu v E=>by
   have:=Int.mul_le_mul_of_nonneg_right (show u+1<=v by omega) (show(0:Int)<=64 ^ b.length by omega);rw[Int.add_mul,Int.one_mul]at this;exact this
  by_cases h1:x<y
  .rw[ms h1];have:=step x y h1;exact⟨⟨λ_=>Ω,λ_=>Ω⟩,⟨λh=>Ω,λh=>by have:=(List.cons.inj h).1;omega⟩,λh=>Ω⟩
  .rw[rc h1];by_cases j:y<x
   .rw[ms j];have:=step y x j;exact⟨⟨λh=>Ω,λh=>Ω⟩,⟨λh=>Ω,λh=>by have:=(List.cons.inj h).1;omega⟩,λh=>Ω⟩
   .rw[rc j];have B:x=y:=Ω
    subst B;exact⟨f.1.F ⟨λh=>Ω,λh=>Ω⟩,f.2.1.F ⟨λh=>by rw[h],λh=>(List.cons.inj h).2⟩,λh=>by rw[f.2.2 Ω]⟩
def k3(l:Λ):Prop:=nr l/\l.length<=6
theorem Do(h:k3 l):0<=kx l/\kx l<64 ^ 6:=by
 have:=ud l h.1;have e:(64:Int) ^ l.length<=64 ^ 6:=by
  have a:=h.2
  match l.length,a with
  |0,_=>decide
  |1,_=>decide
  |2,_=>decide
  |3,_=>decide
  |4,_=>decide
  |5,_=>decide
  |6,_=>decide
  |n+7,h=>omega
 omega
theorem xp{b:Λ}(j:k3 a)(p:k3 b):(di a<di b↔a.length<b.length\/(a.length=b.length/\jE a b<0))/\(di a=di b->a=b):=by
 have h1:=Do j;have q:=Do p;have e:(64:Int) ^ 6=68719476736:=Φ
 rw[e]at h1 q;unfold di;rw[e];by_cases f:a.length=b.length
 .have:=Dn a b f j.1 p.1;rw[f];exact⟨⟨λh=>.inr ⟨rfl,this.1.2 Ω⟩,λh=>by
   rcases h with h|⟨_,h⟩
   .omega
   .have:=this.1.1 h;omega⟩,λh=>this.2.2 Ω⟩
 .exact⟨⟨λh=>.inl Ω,λh=>by
   rcases h with h|⟨h,_⟩
   .omega
   .exact ro h f⟩,λh=>Ω⟩
theorem ue(g:cQ):∀l:List cQ,(iD g l).Perm (g::l)
 |[]=>List.Perm.refl _
 |h::l=>by
  unfold iD;split
  .exact ((ue g l).cons h).F (List.Perm.swap g h l)
  .exact List.Perm.refl _
theorem Dp{g:cQ}:∀{l:List cQ},l.Pairwise (λa b=>di a.1<di b.1)->(∀h∈l,di h.1≠di g.1)->(iD g l).Pairwise (λa b=>di a.1<di b.1)
 |[],_,_=>by simp[iD]
 |h::l,ac,j=>by
  have f:=List.pairwise_cons.1 ac;unfold iD;split
  .rename_i p;refine List.pairwise_cons.2 ⟨λx e=>?_,Dp f.2 λx e=>j x (.tail _ e)⟩;rcases V7.1 ((ue g l).mem_iff.1 e)with rfl|e
   .exact p
   .exact f.1 x e
  .rename_i q;have:=j h (.head _);refine List.pairwise_cons.2 ⟨λx e=>?_,ac⟩;rcases V7.1 e with rfl|e
   .omega
   .have:=f.1 x e;omega
theorem Dq:∀(l acc:List cQ),acc.Pairwise (λa b=>di a.1<di b.1)->l.Pairwise (λa b=>di a.1≠di b.1)->(∀a∈acc,∀b∈l,di a.1≠di b.1)->
  (l.foldl (λl g=>iD g l) acc).Pairwise (λa b=>di a.1<di b.1)/\(l.foldl (λl g=>iD g l) acc).Perm (acc++l)
 |[],acc,h,_,_=>⟨h,Ξ⟩
 |g::l,acc,h,q,f=>by
  have j:=List.pairwise_cons.1 q;have:=Dq l (iD g acc) (Dp h λa e=>f a e g (.head _)) j.2 λa e b p=>by
   rcases V7.1 ((ue g acc).mem_iff.1 e)with rfl|e
   .exact j.1 b p
   .exact f a e b (.tail _ p)
  refine⟨this.1,this.2.F ?_⟩;exact((ue g acc).append_right l).F (List.perm_middle).symm
theorem xq{α:Type}{f:α->Int}:∀{L M:List α},L.Pairwise (λa b=>f a<f b)->M.Pairwise (λa b=>f a<f b)->(∀x,x∈L↔x∈M)->L=M
 |[],M,_,_,h=>by
  cases M with
  |nil=>rfl
  |cons y M=>exact ro ((h y).2 (.head _)) Ξ
 |x::L,[],_,_,h=>ro ((h x).1 (.head _)) Ξ
 |x::L,y::M,h1,q,h=>by
  have j:=List.pairwise_cons.1 h1;have p:=List.pairwise_cons.1 q;have r:x=y:=by
   rcases V7.1 ((h x).1 (.head _))with he|hm
   .exact he
   .rcases V7.1 ((h y).2 (.head _))with he|s
    .exact he.symm
    .have a:=p.1 x hm;have b:=j.1 y s;omega
  subst r;rw[xq j.2 p.2 λz=>⟨λe=>?_,λe=>?_⟩]
  .rcases V7.1 ((h z).1 (.tail _ e))with he|hm
   .subst he;have:=j.1 z e;omega
   .exact hm
  .rcases V7.1 ((h z).2 (.tail _ e))with he|hm
   .subst he;have:=p.1 z e;omega
   .exact hm
structure gK(co:Λ)(k:Int)(g:cQ):Prop where
 scope:k3 g.1
 up:g.1.Pairwise (·< ·)
 d6:∀v∈g.1,v<co.length
 len:g.2.length=(aQ (bN co g.1)).toNat
 small:aQ (bN co g.1)<=4096
 jd:∀c∈g.2,0<=c/\c<=k
theorem pm{sc:Λ}(e:∀z∈co,1<=z/\z<=32)(f:∀v∈sc,0<=v/\v<co.length):∀z∈bN co sc,1<=z/\z<=32:=λz h=>by
 obtain⟨v,j,rfl⟩:=j5.1 h;obtain⟨h1,p⟩:=f v j;have a:v.toNat<co.length:=Ω
 rw[u5,x8 a];exact e _ (Q9 a)
theorem Nw{b:Λ}(h:a.Perm b):aQ a=aQ b:=by
 induction h with
 |nil=>rfl
 |cons x _ e=>simp only[aQ,e]
 |swap x y l=>simp only[aQ];rw[<-Int.mul_assoc,<-Int.mul_assoc,Int.mul_comm y x]
 |trans _ _ h1 f=>exact h1.F f
theorem Nx{b:Λ}(h:a.length=b.length):(ev k a b).length=b.length:=by simp[ev,h]
theorem Ny{b:Λ}(hk:0<=k)(f:∀c∈a,0<=c/\c<=k)(j:∀c∈b,0<=c/\c<=k):∀c∈ev k a b,0<=c/\c<=k:=by
 induction a generalizing b with
 |nil=>intro c e;simp[ev]at e
 |cons x a p=>
  cases b with
  |nil=>intro c e;simp[ev]at e
  |cons y b=>
   intro c e;have q:=f x (.head _);have r:=j y (.head _);rcases V7.1 (show c∈min (x+y) k::ev k a b from e)with rfl|e
   .omega
   .exact p (λc h=>f c (.tail _ h)) (λc h=>j c (.tail _ h)) c e
def kz(l:List cQ):Prop:=(l.map (·.1)).Nodup
theorem Nz{acc:List cQ}{g:cQ}(hk:0<=k)(j:∀h∈acc,gK co k h)(p:kz acc)(a:gK co k g):(∀h∈jA k acc g,gK co k h)/\kz (jA k acc g)/\(jA k acc g).length<=acc.length+1:=by
 unfold jA;split
 .refine⟨λh au=>?_,?_,Ξ⟩
  .obtain⟨f,hm,rfl⟩:=j5.1 au;have h1:=j f hm;split
   .rename_i he;have r:f.2.length=g.2.length:=by rw[h1.len,a.len,he]
    exact⟨h1.scope,h1.up,h1.d6,by show(ev k f.2 g.2).length=_;rw[Nx r,a.len,he],h1.small,Ny hk h1.jd a.jd⟩
   .exact h1
  .unfold kz;rw[S6];have e:((λx:cQ=>x.1)∘λh:cQ=>if h.1=g.1 then(h.1,ev k h.2 g.2)else h)=λx:cQ=>x.1:=by
    funext h;simp only[Function.comp];split<;>rfl
   rw[e];exact p
 .rename_i s;refine⟨λh au=>?_,?_,Ξ⟩
  .rcases j9.1 au with au|au
   .exact j h au
   .rw[b9.1 au];exact a
  .unfold kz;rw[Z3];exact List.nodup_append.2 ⟨p,Ξ,λx w y q he=>by
    simp only[T3,List.map_nil,b9]at q;subst q;subst he;exact s w⟩
theorem xr{co:Λ}{k:Int}(hk:0<=k):∀{l acc:List cQ},(∀h∈acc,gK co k h)->kz acc->(∀g∈l,gK co k g)->(∀h∈l.foldl (jA k) acc,gK co k h)/\kz (l.foldl (jA k) acc)/\(l.foldl (jA k) acc).length<=acc.length+l.length
 |[],acc,a,e,_=>⟨a,e,Ξ⟩
 |g::l,acc,a,e,f=>by
  obtain⟨h1,j,s⟩:=Nz hk a e (f g (.head _));obtain⟨p,q,w⟩:=xr hk h1 j λx r=>f x (.tail _ r);exact⟨p,q,by simp only[V5,Y0];omega⟩
end Go.Proofs.YtnhkbjhpbbobaaaGreatDoor
