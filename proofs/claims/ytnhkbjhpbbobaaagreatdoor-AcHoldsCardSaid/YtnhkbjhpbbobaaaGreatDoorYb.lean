/- own texts, made small by a tool (wip/ holds them as they were written): no statement of the seat. -/
import Derived.Test.YtnhkbjhpbbobaaaGreatDoorYa
set_option linter.defProp false
set_option linter.unusedVariables false
set_option linter.unusedSimpArgs false
set_option linter.unnecessarySimpa false
open Array renaming getElem?_eq_some_iff→Z0,getElem?_toList→Q0
open BitVec renaming ofInt→T8
open Bool renaming false→v6,true→v2,not_true→X3,not_false→W6,or_eq_false_iff→U1,eq_iff_iff→U6,and_eq_true→U9
open Decidable renaming not_not→X5
open Go renaming Value→x4,World→x6,TypeId→o5,IntKind→j4,Builtin→Y4,Program→V5,FuncId→Q6
open Go.Builtin renaming append_→Z9,len_→V1
open Go.Instr renaming loadAt→u6,fieldAt→u7,storeAt→j0,indexAt→b8,extract→Y8,buildSlice→X2,sliceAt→U4,alloc→Q8
open Go.IntKind renaming i64→W5,u64→T7
open Go.Proofs.Tryz renaming prog→v8
open Go.Result renaming andThen→V2
open Go.Sem renaming run_bind→W9,run_pure→V9
open Go.Value renaming int→U3
open Int renaming toNat_natCast→u9,le_refl→S9
open List renaming getElem?_eq_some_iff→x5,mem_of_getElem?→x7,getElem?_eq_getElem→x8,getElem?_map→u4,getD_eq_getElem?_getD→u5,length_map→r8,take_add_one→r9,replicate→o6,length_set→o7,length_take→o8,take_length→o9,length_append→n9,getElem?_set_self→l9,mem_map→j5,mem_append→j9,mem_singleton→c9,take_of_length_le→b9,eq_nil_of_length_eq_zero→Z2,map_append→Z4,getElem?_set_ne→Z6,getElem?_append_right→Z7,length_cons→Y1,getElem?_append_left→Y2,getElem?_eq_none→Y5,getElem?_take_of_lt→Y6,getElem?_set→Y7,ext_getElem?→X0,mem_iff_getElem?→X8,range→X9,drop_eq_getElem_cons→W3,mem_or_eq_of_mem_set→W8,mem_cons→V4,length_eq_one_iff→V6,foldl_cons→V7,flatMap_cons→V8,append_nil→U2,pairwise_iff_getElem→U5,map_set→T2,map_cons→T3,set_append_right→T4,length_singleton→T5,append_assoc→T6,mem_range→S1,foldl_append→S2,map_map→S5,mem_filter→S8,getElem?_drop→R3,length→Q2,getElem_mem→P6
open Nat renaming le_refl→o4,le_trans→X1,mul_le_mul_right→X4,zero_add→X6,zero_le→W0,sub_self→V0,add_mul→U7,mul_one→T0,lt_of_lt_of_le→S3,pow_le_pow_right→S4,add_sub_cancel_left→Q5,eq_zero_or_pos→Q9
open Ne renaming symm→R7
open Option renaming toList_some→j6,isNone_some→Y0,map_some→Y3,map_eq_some_iff→Y9,getD_some→W7,map→U8
open Option.some renaming inj→Z5,injEq→X7
open Prod.mk renaming injEq→S7
set_option maxHeartbeats 16000000
open Option renaming some→σ,none→ν
variable{C a aj l co:Λ}{e t:o5}{K:x4->Prop}{at_ c hi k lo y:Int}{cx cy f:Bool}{sv v z:x4}{I w:x6}{R S:Nat->Prop}{N gs j n r:Nat}{cs:List x4}{hp:List (Λ)}
namespace Go.Vc
open Go Go.RowKit
set_option maxRecDepth 100000
def LB:(⟨#[]⟩:ByteArray)=strOfNums []:=rfl
def BE{ax:x4->x4->x4->x6->Prop}{B:(x4->x4->x4->x6->Prop)->Prop}(G:x4->x4->x4->x6->Prop)(h1:∀t u v w,G t u v w->ax t u v w)(e:∀a:x4->x4->x4->x6->Prop,(∀t u v w,G t u v w->a t u v w)->B a):cB ax B:=e ax h1
def BF{ax:x4->x4->x4->x4->x6->Prop}{B:(x4->x4->x4->x4->x6->Prop)->Prop}(G:x4->x4->x4->x4->x6->Prop)(h1:∀s t u v w,G s t u v w->ax s t u v w)(e:∀a:x4->x4->x4->x4->x6->Prop,(∀s t u v w,G s t u v w->a s t u v w)->B a):cB ax B:=e ax h1
abbrev cf(l:Λ):x4:=.string (strOfNums l)
def Bytes(l:Λ):Prop:=∀b∈l,0<=b/\b<256
def n1(l:Λ):(strOfNums l).size=l.length:=strOfNums_size l
def LC(h:Bytes l){i:Nat}{b:Int}(hi:l[i]?=σ b):(strOfNums l)[i]?=σ (UInt8.ofNat b.toNat)/\((UInt8.ofNat b.toNat).toNat:Int)=b:=by
 have:=h b (x7 hi);have e:=x5.1 hi;refine⟨?_,by rw[UInt8.toNat_ofNat'];omega⟩;have J:i<(strOfNums l).size:=by rw[n1];exact e.1
 rw[getElem?_pos (strOfNums l) i J];congr 1;show(strOfNums l).data[i]=_;have a:(strOfNums l).data.toList[i]?=σ (UInt8.ofNat b.toNat):=by rw[strOfNums_data,u4,hi];rfl
 rw[Q0]at a;exact(Z0.1 a).2
def str_inj{b:Λ}(e:Bytes a)(f:Bytes b)(h:strOfNums a=strOfNums b):a=b:=by
 have h1:(strOfNums a).data.toList=(strOfNums b).data.toList:=by rw[h]
 rw[strOfNums_data,strOfNums_data]at h1;have key:∀{l:Λ},Bytes l->(l.map λn=>UInt8.ofNat n.toNat).map (λu=>((u.toNat:Nat):Int))=l:=λ{l}j=>by
  rw[S5]
  conv=>rhs;rw[<-List.map_id l]
  refine List.map_congr_left λx p=>?_;have:=j x p;show(((UInt8.ofNat x.toNat).toNat:Nat):Int)=x;rw[UInt8.toNat_ofNat'];omega
 rw[<-key e,<-key f,h1]
def LD(a b:Λ):strOfNums a++strOfNums b=strOfNums (a++b):=by
 apply ByteArray.ext;rw[ByteArray.data_append];simp[strOfNums]
def LF(l:Λ)(i j:Nat):(strOfNums l).extract i j=strOfNums ((l.take j).drop i):=by
 apply ByteArray.ext;rw[ByteArray.data_extract];apply Array.toList_inj.1;rw[Array.toList_extract];simp[strOfNums,List.extract_eq_take_drop,List.map_drop,List.map_take,List.drop_take]
def BG(l:Λ):(strOfNums l).toList=l.map λn=>UInt8.ofNat n.toNat:=by
 rw[ByteArray.toList_eq];exact strOfNums_data l
def BH{b:Λ}(e:Bytes a)(f:Bytes b):((strOfNums a).toList == (strOfNums b).toList)=decide (a=b):=by
 rw[U6,beq_iff_eq,sp,BG,BG];refine⟨λh=>str_inj e f ?_,λh=>by rw[h]⟩;unfold strOfNums;rw[h]
section
variable{P:V5}{w:x6}
def pf{a:o5}(e:P.underlying t=σ .string):ab P (V1 #[t] a #[cf l]) w K=K (Δ l.length):=ab.of λI _=>by
 simp[V1,run_underlying e,goInt,n1]
def rx{k:j4}{b:Int}{i:Nat}(a:y=(i:Int))(f:P.underlying t=σ .string)(h:Bytes l)(hi:l[i]?=σ b):ab P (Instr.index t (cf l) (.int k y)) w K=K (.int .u8 b):=ab.of λI _=>by
 subst a;obtain⟨h1,j⟩:=LC h hi;have e:(0:Int)<=(i:Int):=Ω
 simp only[Instr.index,asIntOf,W9,V9,V2,run_underlying f];rw[ms e,u9,h1];simp only[V9,j]
def wU{b:Λ}(h:a.length+b.length<=9223372036854775807):ab P (aP .add t cx cy (cf a) (cf b)) w K=K (cf (a++b)):=ab.of λI _=>by
 have:=run_string_add_sum (P:=P) (w:=I) (strOfNums a) (strOfNums b) (by rw[n1,n1];exact h);simp only[aP,eqGuard,binOp];simp[this,LD]
def BI{b:Λ}(e:Bytes a)(f:Bytes b):ab P (aP .eql t cx cy (cf a) (cf b)) w K=K (.bool (decide (a=b))):=ab.of λI _=>by
 simp[aP,eqGuard,binOp,Op.stringOp,BH e f]
def LG{b:Λ}(e:Bytes a)(f:Bytes b):ab P (aP .neq t cx cy (cf a) (cf b)) w K=K (.bool (decide (a≠b))):=ab.of λI _=>by
 simp[aP,eqGuard,binOp,Op.stringOp,BH e f]
def BJ{k:j4}{i:Nat}(a:y=(i:Int))(f:P.underlying t=σ .string)(hi:i<=l.length):ab P (U4 t (cf l) (σ (.int k y)) ν ν) w K=K (cf (l.drop i)):=ab.of λI _=>by
 have j:=tz (P:=P) I (sl:=v6) (n:=(strOfNums l).size) (c:=(strOfNums l).size) (low:=σ (.int k y)) (high:=ν) (mx:=ν) (l:=i) (h:=(strOfNums l).size) (m:=(strOfNums l).size) (oY i y a) kY fo (by rw[n1];exact hi) (o4 _) (o4 _);have e:(strOfNums l).extract i (strOfNums l).size=strOfNums (l.drop i):=by rw[LF,n1,o9]
 simp[U4,Instr.slice,run_underlying f,j,e]
def wV{s:o5}(J:P.underlying s=σ (.slice e))(he:P.underlying e=σ (.int .u8))(f:P.underlying t=σ .string)(h:aM .u8 w v l):ab P (convert s t v) w K=K (cf l):=ab.of λI r=>by
 obtain⟨p,b,o,base,cap,rfl,_,_,x,y⟩:=h.W r;have p:l.length=l.length*1:=by simpa using p
 by_cases z:0<l.length
 .rw[x z];refine run_convert_bytes_arg I s e J he b o l.length cap l rfl (λi hi=>?_) t f;have q:l[i]?=σ l[i]:=x8 hi;rw[u5,q];exact y i _ (mh q)
 .have A:l=[]:=Z2 Ω;subst A;cases base with
  |none=>
   rw[run_convert_bytes_nil I s e J he _ _ t f];rfl
  |some a=>
   rw[run_convert_bytes_string I s t e _ _ _ J he f];have:=run_bytesToString (P:=P) I a 0 cap [] (by have:=run_loadCells_list (P:=P) I a [] (λj v B=>by simp at B);simpa using this);simp only[List.length_nil];rw[this];rfl
def wW{s:o5}{u:TypeDesc}{K:x4->x6->Prop}(J:P.underlying s=σ u)(y:P.underlying t=σ (.slice e))(he:P.underlying e=σ (.int .u8))(z:Bytes l)(hm:l.length<=1000000000)(A:∀v I,Ext w I->aM .u8 I v l->(∀r,(∃a n c,v= .slice (σ a) n c/\a.block=r)->w.heap.size<=r)->K v I):aG P (convert s t (cf l)) w K:=by
 have B:=Lib.bytesWorld_at_new w e (strOfNums l);have q:=λj f=>Lib.bytesWorld_at_old w e (strOfNums l) j f;have C:=Lib.bytesWorld_size w e (strOfNums l);refine .of (Lib.run_convert_string_bytes w s t e (strOfNums l) J y he) ⟨rfl,⟨rfl,Nat.le_succ _⟩,rfl,Ω,λr o h _=>?_⟩ (A _ _ ⟨Ω,λr o h _=>?_⟩ ?_ ?_)
 .rw[q r (Z0.1 h).1];exact h
 .rw[q r (Z0.1 h).1];exact h
 .rw[n1];refine⟨Ξ,w.heap.size,0,_,_,rfl,?_,?_,λ_=>rfl,λj v p=>?_⟩
  .exact grownCap_ge w _ _ _
  .exact grownCap_le_maxLen w _ _ _ (by simp[maxLen];omega)
  .have f:j<l.length:=by have:=(x5.1 p).1;simpa using this
   have x:l[j]?=σ l[j]:=x8 f;rw[X6,Lib.bytesWorld_cell w e (strOfNums l) j (by rw[n1];exact f)];rw[mh x]at p;rw[<-Z5 p,strOfNums_data,u5,u4,x];have:=z l[j] (P6 f);simp only[Y3,W7];congr 2;rw[UInt8.toNat_ofNat'];omega
 .rintro r ⟨a,n,c,h1,rfl⟩;cases h1;exact o4 _
end
end Go.Vc
namespace Go.Proofs.YtnhkbjhpbbobaaaGreatDoor
open Go Go.Vc Go.RowKit Go.Proofs Go.Proofs.Tryz
set_option maxRecDepth 100000
def BK{b:Int}(h:cH b=v2):bV b=v6:=by
 have h:=ty h;unfold bV;rw[decide_eq_false_iff_not];omega
def BL{b:Int}{p:Λ}(h:cH b=v2):lex (b::p)=lex p:=by
 rw[lI,lI p,List.dropWhile_cons,ms h]
def LH{b:Int}{p:Λ}(h:cH b=v6)(a:bV b=v6):lex (b::p)=([],v6):=by
 rw[lI,List.dropWhile_cons,rc (by simp[h])];simp only[a,Bool.false_eq_true,if_false]
def BM{b:Int}{p:Λ}(h:bV b=v2):lex (b::p)=match p.dropWhile bV with
  |[]=>([b::p.takeWhile bV],v2)
  |c::r=>if cH c then((b::p.takeWhile bV)::(lex (c::r)).1,(lex (c::r)).2)else([],v6):=by
 have J:cH b=v6:=by
  cases a:cH b with
  |false=>rfl
  |true=>rw[BK a]at h;cases h
 rw[lI,List.dropWhile_cons,rc (by simp[J])];simp only[h,if_true,List.dropWhile_cons,List.takeWhile_cons]
 all_goals (cases List.dropWhile bV p<;>rfl)
def jE:Λ->List (Λ)->Λ->Bool->List (Λ)×Bool
 |[],out,w,op=>(if op then out++[w]else out,v2)
 |b::p,out,w,op=>
  if cH b then jE p (if op then out++[w]else out) [] v6
  else if bV b then jE p out (if op then w++[b]else[b]) v2
  else(out,v6)
theorem ry:∀(p:Λ)(out:List (Λ))(w:Λ),jE p out w v6=(out++(lex p).1,(lex p).2)/\
  jE p out w v2=match p.dropWhile bV with
   |[]=>(out++[w++p.takeWhile bV],v2)
   |c::r=>if cH c then(out++[w++p.takeWhile bV]++(lex (c::r)).1,(lex (c::r)).2)else(out,v6)
 |[],out,w=>by simp[jE,lI []]
 |b::p,out,w=>by
  by_cases J:cH b=v2
  .have hw:=BK J;refine⟨?_,?_⟩
   .rw[jE,ms J,(ry p _ _).1,BL J];simp
   .rw[jE,ms J,ms rfl,(ry p _ _).1,List.dropWhile_cons,rc (by simp[hw])];simp only[J,if_true,BL J,List.takeWhile_cons,hw,Bool.false_eq_true,if_false,U2]
  .have e:cH b=v6:=by cases h:cH b;rfl;exact ro h J
   by_cases hw:bV b=v2
   .refine⟨?_,?_⟩
    .rw[jE,rc J,ms hw,rc Ξ,(ry p _ _).2,BM hw];cases p.dropWhile bV with
     |nil=>simp
     |cons c r=>
      simp only;by_cases a:cH c=v2
      .simp[a]
      .simp[a]
    .rw[jE,rc J,ms hw,ms rfl,(ry p _ _).2,List.dropWhile_cons,ms hw,List.takeWhile_cons,ms hw];cases p.dropWhile bV with
     |nil=>simp
     |cons c r=>
      simp only;by_cases a:cH c=v2
      .simp[a]
      .simp[a]
   .have f:bV b=v6:=by cases h:bV b;rfl;exact ro h hw
    refine⟨?_,?_⟩
    .rw[jE,rc J,rc hw,LH e f];simp
    .rw[jE,rc J,rc hw,List.dropWhile_cons,rc hw];simp[e]
def LI(p:Λ):jE p [] [] v6=lex p:=by rw[(ry p [] []).1];simp
def qe:Nat->Nat->Λ
 |0,_=>[]
 |k+1,n=>(if n<10 then[]else qe k (n / 10))++[48+((n % 10:Nat):Int)]
def gp(n:Nat):Λ:=qe (n+1) n
theorem BN:∀{k m n:Nat},n<k->n<m->qe k n=qe m n
 |k+1,m+1,n,h1,a=>by
  unfold qe;by_cases h:n<10
  .rw[ms h,ms h]
  .rw[rc h,rc h,BN (k:=k) (m:=m) (n:=n / 10) Ω Ω]
def pg(n:Nat):gp n=(if n<10 then[]else gp (n / 10))++[48+((n % 10:Nat):Int)]:=by
 unfold gp;rw[qe];by_cases h:n<10
 .rw[ms h,ms h]
 .rw[rc h,rc h,BN (k:=n) (m:=n / 10+1) Ω Ω]
theorem BO:∀(k n:Nat),n<k->∀b∈gp n,48<=b/\b<=57
 |k+1,n,hk,b,a=>by
  rw[pg]at a;rcases j9.1 a with a|a
  .by_cases h:n<10
   .rw[ms h]at a;simp at a
   .rw[rc h]at a;exact BO k (n / 10) Ω b a
  .rw[c9]at a;omega
def BP(n:Nat):∀b∈gp n,48<=b/\b<=57:=BO (n+1) n Ω
def rz(l:Λ):Int:=l.foldl (λn b=>10*n+(b-48)) 0
def LJ(l:Λ)(b:Int):rz (l++[b])=10*rz l+(b-48):=by simp[rz]
theorem wX:∀(k n:Nat),n<k->rz (gp n)=n
 |k+1,n,hk=>by
  rw[pg,LJ];by_cases h:n<10
  .rw[ms h];have:rz []=0:=rfl;omega
  .rw[rc h,wX k (n / 10) Ω];omega
def LK{a b:Nat}(h:gp a=gp b):a=b:=by
 have h1:=wX (a+1) a Ω;have e:=wX (b+1) b Ω;rw[h,e]at h1;omega
theorem wY:∀(k n:Nat),n<10 ^ k->1<=k->(gp n).length<=k
 |k+1,n,h,_=>by
  rw[pg,n9];by_cases a:n<10
  .rw[ms a];simp
  .rw[rc a];have hk:1<=k:=by
    rcases k with _|k
    .simp at h;omega
    .omega
   have ac:(10:Nat) ^ (k+1)=10*10 ^ k:=by rw[Nat.pow_succ,Nat.mul_comm]
   have:=wY k (n / 10) Ω hk;simp only[T5];omega
def eO(t:Λ):Λ:=t.flatMap λv=>gp v.toNat++[32]
def LL(t:Λ)(v:Int):eO (t++[v])=eO t++(gp v.toNat++[32]):=by simp[eO]
def BQ{r:Λ}(a:∀b∈l,b≠32):(l++32::r).takeWhile (λb=>decide (b≠32))=l/\(l++32::r).dropWhile (λb=>decide (b≠32))=32::r:=by
 induction l with
 |nil=>simp
 |cons x l e=>
  have f:=a x (.head _);have:=e λb h=>a b (.tail _ h);simp only[List.cons_append,List.takeWhile_cons,List.dropWhile_cons];simp only[f,ne_eq,not_false_eq_true,decide_true,if_true];exact⟨by rw[this.1],this.2⟩
theorem BR:∀{a b:Λ},(∀x∈a,0<=x)->(∀x∈b,0<=x)->eO a=eO b->a=b
 |[],[],_,_,_=>rfl
 |[],y::b,_,_,h=>by simp[eO]at h
 |x::a,[],_,_,h=>by simp[eO]at h
 |x::a,y::b,j,p,h=>by
  have e:∀(z:Int)(l:Λ),eO (z::l)=gp z.toNat++32::eO l:=λz l=>by simp[eO]
  rw[e,e]at h;have d:∀z:Int,∀c∈gp z.toNat,c≠32:=λz c s=>by have:=BP _ c s;omega
  have s1:=BQ (r:=eO a) (d x);have q:=BQ (r:=eO b) (d y);rw[h]at s1;have w:=s1.1.symm.F q.1;have A:=s1.2.symm.F q.2;have:=j x (.head _);have:=p y (.head _);have:=LK w;have B:x=y:=Ω
  subst B;rw[BR (λz f=>j z (.tail _ f)) (λz f=>p z (.tail _ f)) (List.cons.inj A).2]
def BS(t:Λ):Bytes (eO t):=λb a=>by
 obtain⟨v,_,a⟩:=List.mem_flatMap.1 a;rcases j9.1 a with a|a
 .have:=BP _ b a;omega
 .rw[c9]at a;omega
def BT{b:Int}:ak v8 JF [.int .u8 b] w λv I=>v= .bool (cH b)/\Ext w I:=by
 refine az func177 ?_;refine aY (λv U=>v= .bool (cH b)/\Ext w U) (λ_ _ h=>h) λax a=>?_;rw[bl,al];refine⟨λh=>a _ _ ⟨by unfold cH;rw[rs (.inl h)],Ext.refl _⟩,λh1=>?_⟩;rw[bl,al];refine⟨λh=>a _ _ ⟨by unfold cH;rw[rs (.inr (.inl h))],Ext.refl _⟩,λe=>?_⟩;rw[bl,al];refine⟨λh=>a _ _ ⟨by unfold cH;rw[rs (.inr (.inr (.inl h)))],Ext.refl _⟩,λf=>?_⟩;rw[bl];refine a _ _ ⟨?_,Ext.refl _⟩;congr 1;unfold cH;rw[U6,sp,sp];omega
def LM{b:Int}:ak v8 JE [.int .u8 b] w λv I=>v= .bool (bV b)/\Ext w I:=by
 refine az func176 ?_;refine aY (λv U=>v= .bool (bV b)/\Ext w U) (λ_ _ h=>h) λax a=>?_;rw[cP,al];refine⟨λh=>?_,λh=>a _ _ ⟨by unfold bV;rw[s2 Ω],Ext.refl _⟩⟩;rw[mf];refine a _ _ ⟨?_,Ext.refl _⟩;congr 1;unfold bV;rw[U6,sp,sp];omega
def nq(w:x6)(g:Nat)(a:x4)(p:Λ)(at_:Nat)(bad:Int):Prop:=Bytes p/\p.length<=100000/\at_<=p.length/\ag w g jc [a,Δ (at_:Int),Δ bad]/\∃bb,aB .u8 cO w bb a p
def nq.W{g:Nat}{a:x4}{p:Λ}{at_:Nat}{bad:Int}(h:nq w g a p at_ bad)(e:Ext w I):nq I g a p at_ bad:=by
 obtain⟨h1,f,j,q,bb,r⟩:=h;exact⟨h1,f,j,q.W e,bb,r.W e⟩
def LN(h:aM .u8 w v l)(A:l.length<=100000):ak v8 Jz [v] w λf I=>Ext w I/\∃g,aB .u8 cO I g f l:=by
 have e:=h;obtain⟨B,b,o,base,cap,rfl,C,hm,p,E⟩:=h;refine az func170 ?_;rw[p9 cT.u,cb];refine⟨λq=>⟨Ext.refl _,0,?_⟩,λ_=>?_⟩
 .have:l=[]:=by
   cases base with
   |none=>
        by_cases e:0<l.length
        .have:=p e;cases this
        .exact Z2 Ω
   |some a=>cases q
  subst this;exact aB.nil _ _ _ _
 .refine kZ (k:=1) (cs:=#[]) cT.u cO.i Ω Ψ λg U G j r=>?_;have s:aB .u8 cO U g (.slice (σ ⟨g,0,ν⟩) 0 0) []:=aB.of (n:=0) (b2.full (by simpa using r) rfl Ξ);refine kt cT.u cO.i rfl s (e.W j) Θ Θ λf x V H y z=>?_;exact⟨j.put z Ω,x,by simpa using y⟩
def BU(h:aM .u8 w v l)(p:Bytes l)(e:l.length<=100000):ak v8 AC [v] w λq I=>Ext w I/\∃g,q=Γ g/\w.heap.size<=g/\∃a,nq I g a l 0 (-1):=by
 refine az func109 ?_;refine(LN h e).Y ?_;rintro a U _ ⟨f,bb,ac⟩;rw[dk (cs:=#[a,Δ 0,Δ (-1)]) (by obtain⟨_,_,_,_,_,rfl,_⟩:=ac.ls;kernel_rfl)];refine bn λg V s j r=>?_;have s1:=f.size;exact⟨f.F j,g,rfl,Ω,a,p,e,W0 _,r,bb,ac.W j⟩
def runN(f:Int->Bool)(p:Λ):Nat:=(p.takeWhile f).length
def LO(f:Int->Bool)(p:Λ):runN f p<=p.length:=(List.takeWhile_sublist f).length_le
def BV{f:Int->Bool}{p:Λ}{i:Nat}{b:Int}(hi:p[i]?=σ b)(e:f b=v2):i+runN f (p.drop i)=(i+1)+runN f (p.drop (i+1)):=by
 have a:=x5.1 hi;unfold runN;rw[W3 a.1,a.2,List.takeWhile_cons,ms e,Y1];omega
def BW{f:Int->Bool}{p:Λ}{i:Nat}(h:∀b,p[i]?=σ b->f b=v6):runN f (p.drop i)=0:=by
 unfold runN;cases ac:p[i]? with
 |none=>
  rw[List.drop_of_length_le (List.getElem?_eq_none_iff.1 ac)];rfl
 |some b=>
  have a:=x5.1 ac;rw[W3 a.1,a.2,List.takeWhile_cons,rc (by simp[h b ac])];rfl
def LP{g at_:Nat}{p:Λ}{bad:Int}(h:nq w g z p at_ bad):ak v8 JD [Γ g] w λv I=>v=Δ ((at_+runN cH (p.drop at_):Nat):Int)/\Ext w I:=by
 obtain⟨L,M,A,a,bb,ac⟩:=h;refine az func175 ?_;rw[aL jc.p 1 a rfl];refine⟨λv U=>Ext w U/\∃i:Nat,v=Δ (i:Int)/\i<=p.length/\i+runN cH (p.drop i)=at_+runN cH (p.drop at_),λv _=>p.length-(bZ v).toNat,⟨Ext.refl _,at_,rfl,A,rfl⟩,?_⟩;rintro _ U ⟨j,i,rfl,hi,he⟩;refine aY (λv V=>Ext w V/\∃c:Bool,v= .bool c/\(c=v2↔ ∃b,p[i]?=σ b/\cH b=v2)) ?_ ?_
 .rintro _ V ⟨q,c,rfl,r⟩;rw[cb];refine⟨λB=>?_,λs=>?_⟩
  .obtain⟨b,e,C⟩:=r.1 B;have E:=(x5.1 e).1;rw[aO,m1 Ω Ω];exact⟨⟨q,i+1,rfl,E,by rw[<-he,BV e C]⟩,by simp only[bZ];omega⟩
  .have G:=BW (f:=cH) (p:=p) (i:=i) λb a=>by
    cases J:cH b with
    |false=>rfl
    |true=>rw[r.2 ⟨b,a,J⟩]at s;cases s
   exact⟨by rw[<-he,G,Nat.add_zero],q⟩
 .intro ax x;have y:=a.W j;rw[aL jc.p 0 y rfl,a1 cT.u (ac.W j).ls,aT,al];refine⟨λN=>?_,λO=>x _ _ ⟨j,v6,rfl,⟨λh=>(by cases h),λ⟨b,a,_⟩=>by have:=(x5.1 a).1;omega⟩⟩⟩;have H:i<p.length:=Ω
  have e:=x8 H;rw[aL jc.p 0 y rfl,bh cT.u cO.i Ψ (ac.W j).ls e];refine BT.Y ?_;rintro _ P _ ⟨rfl,K⟩;exact x _ _ ⟨j.F K,_,rfl,⟨λh=>⟨_,e,h⟩,λ⟨b,a,h⟩=>by rw[e]at a;cases a;exact h⟩⟩
inductive LQ where
 |word (from_ to:Nat)
 |none
 |text (at_:Nat)
def gO(p:Λ)(at_:Nat):Nat:=at_+runN cH (p.drop at_)
def j2(p:Λ)(a:Nat):Nat:=a+runN bV (p.drop a)
open Classical in
noncomputable def qf(p:Λ)(at_:Nat):LQ:=
 if j2 p (gO p at_)<p.length/\(∀c,p[j2 p (gO p at_)]?=σ c->cH c=v6)then .text (j2 p (gO p at_))else if gO p at_=j2 p (gO p at_)then .none else .word (gO p at_) (j2 p (gO p at_))
def rA(w:x6)(g:Nat)(e:x4)(p:Λ)(at_:Nat)(v:x4)(I:x6):Prop:=
 match qf p at_ with
 | .word a b=>v= .tuple #[cf ((p.take b).drop a),Δ (a:Int),Δ 0]/\af (λr=>r=g) w I/\nq I g e p b (-1)
 | .none=>∃n:Nat,v= .tuple #[cf [],Δ (n:Int),Δ 2]/\Ext w I
 | .text b=>v= .tuple #[cf [],Δ (b:Int),Δ 11]/\af (λr=>r=g) w I/\nq I g e p at_ (b:Int)
def iJ{aZ:Nat->Prop}{a b c:x6}(h:af S a b)(k:af aZ b c)(j:∀r,r<a.heap.size->aZ r->S r):af S a c:=
 ⟨X1 h.size k.size,λr o e J f=>k.aX r o (h.aX r o e J f) J λhu=>f (j r (Z0.1 e).1 hu)⟩
def ch{g:Nat}{k:j4}{p:o5}(h:aB k e w g v l)(q:ag w j p cs)(x:e≠p)(s:lw v r):r≠j:=by
 obtain⟨rfl,_⟩:=bW h s;obtain⟨_,⟨rfl,_⟩|⟨_,_,_,f,_⟩⟩:=h
 .obtain⟨a,n,c,h,_⟩:=s;cases h
 .rintro rfl;unfold ag at q f;rw[q]at f;injection f with h1;injection h1 with z y;exact x y.symm
def LR{s:o5}{e f:j4}{b i:Nat}(p:v8.underlying s=σ (.slice t))(hi:aR v8 t 1 b z)(h:aM .u8 w v l)(q:i<=j)(r:j<=l.length)(x:∀a,aM .u8 w a ((l.take j).drop i)->K a):ab v8 (U4 s v (σ (.int e (i:Int))) (σ (.int f (j:Int))) ν) w K:=by
 refine tJ p hi h (oY i _ rfl) (oZ j _ rfl) q r λa aW=>x a (aM.of (n:=j-i) ?_);have y:((ints .u8 l).drop (i*1)).take ((j-i)*1)=ints .u8 ((l.take j).drop i):=by
  rw[T0,T0,ints,ints,List.map_drop,List.map_take,List.drop_take]
 rw[y]at aW;exact aW
def LS{g at_:Nat}{E:x4}{p:Λ}(h:nq w g E p at_ (-1)):ak v8 wu [Γ g] w (rA w g E p at_):=by
 obtain⟨P,Q,an,e,bb,ac⟩:=id h;refine az func115 ?_;rw[di tw.u,Y0,a7,aL jc.p 2 e rfl,cP,al];refine⟨λh=>Ω,λ_=>?_⟩;refine(LP h).Y ?_;rintro _ V _ ⟨rfl,ao⟩;obtain⟨a,R⟩:∃a,a=at_+runN cH (p.drop at_):=⟨_,rfl⟩;rw[<-R];have ap:a<=p.length:=by have:=LO cH (p.drop at_);rw[List.length_drop]at this;omega
 refine⟨λv G=>Ext V G/\∃i:Nat,v=Δ (i:Int)/\a<=i/\i<=p.length/\i+runN bV (p.drop i)=a+runN bV (p.drop a),λv _=>p.length-(bZ v).toNat,⟨Ext.refl _,a,rfl,o4 _,ap,rfl⟩,?_⟩;rintro _ G ⟨S,i,rfl,aq,hi,he⟩;have H:=ao.F S;have U:=e.W H;have W:=ac.W H;refine aY (λv y=>Ext G y/\∃c:Bool,v= .bool c/\(c=v2↔ ∃b,p[i]?=σ b/\bV b=v2)) ?_ ?_
 rotate_left
 .intro ax q;rw[aL jc.p 0 U rfl,a1 cT.u W.ls,aT,al];refine⟨λau=>?_,λav=>q _ _ ⟨Ext.refl _,v6,rfl,⟨λh=>(by cases h),λ⟨b,e,_⟩=>by have:=(x5.1 e).1;omega⟩⟩⟩;have z:i<p.length:=Ω
  have j:=x8 z;rw[aL jc.p 0 U rfl,bh cT.u cO.i Ψ W.ls j];refine LM.Y ?_;rintro _ y _ ⟨rfl,A⟩;exact q _ _ ⟨A,_,rfl,⟨λh=>⟨_,j,h⟩,λ⟨b,e,h⟩=>by rw[j]at e;cases e;exact h⟩⟩
 rintro _ y ⟨A,c,rfl,s⟩;have I:=H.F A;have X:=e.W I;have Y:=ac.W I;rw[cb];refine⟨λK=>?_,λZ=>?_⟩
 .obtain⟨b,j,aw⟩:=s.1 K;have ay:=(x5.1 j).1;rw[aO,m1 Ω Ω];exact⟨⟨S.F A,i+1,rfl,Ω,ay,by rw[<-he,BV j aw]⟩,by simp only[bZ];omega⟩
 have aE:=BW (f:=bV) (p:=p) (i:=i) λb e=>by
  cases J:bV b with
  |false=>rfl
  |true=>rw[s.2 ⟨b,e,J⟩]at Z;cases Z
 have aA:i=a+runN bV (p.drop a):=Ω
 refine aY (λv L=>Ext y L/\∃c:Bool,v= .bool c/\(c=v2↔i<p.length/\∀c,p[i]?=σ c->cH c=v6)) ?_ ?_
 rotate_left
 .intro ax q;rw[aL jc.p 0 X rfl,a1 cT.u Y.ls,aT,al];refine⟨λau=>?_,λav=>q _ _ ⟨Ext.refl _,v6,rfl,⟨λh=>(by cases h),λh=>Ω⟩⟩⟩;have z:i<p.length:=Ω
  have j:=x8 z;rw[aL jc.p 0 X rfl,bh cT.u cO.i Ψ Y.ls j];refine BT.Y ?_;rintro _ L _ ⟨rfl,M⟩;rw[bL];refine q _ _ ⟨M,_,rfl,⟨λh=>⟨z,λc s=>?_⟩,λh=>by rw[h.2 _ j];rfl⟩⟩;rw[j]at s;cases s;cases J:cH p[i]with
  |false=>rfl
  |true=>rw[J]at h;cases h
 rintro _ L ⟨M,aF,rfl,ab⟩;have x:=I.F M;have B:=e.W x;have C:=ac.W x;have ad:∀r,lw E r->r≠g:=λr aB=>ch C B Φ aB;have N:qf p at_=open Classical in if i<p.length/\(∀c,p[i]?=σ c->cH c=v6)then .text i else if a=i then .none else .word a i:=by
  unfold qf;rw[show gO p at_=a from R.symm,show j2 p a=i from aA.symm]
 rw[cb];refine⟨λK=>?_,λae=>?_⟩
 .rw[b0,aU jc.p rfl];refine bu (g:=g) (o:=2) ai.i rfl rfl B Ξ λaG af aH aC=>?_;unfold rA;rw[N,ms (ab.1 K)];exact⟨rfl,(x.aa _).F af,P,Q,an,aC,bb,bw C af ad⟩
 .have ag:¬(i<p.length/\∀c,p[i]?=σ c->cH c=v6):=λh=>by rw[ab.2 h]at ae;cases ae
  rw[bl,al];refine⟨λaI=>?_,λaJ=>?_⟩
  .intro aK O _ _;rw[aL jc.p 0 (B.W O) rfl,a1 cT.u (C.W O).ls];unfold rA;rw[N,rc ag,ms Ω];exact⟨p.length,rfl,x.F O⟩
  .rw[b0,aU jc.p rfl];refine bu (g:=g) (o:=1) ai.i rfl rfl B Ξ λaM ah aN aj=>?_;have am:=bw C ah ad;rw[aL jc.p 0 aj rfl];refine LR cT.u cO.i am.ls aq hi λaP aD=>?_;rw[wV cT.u cO.u db.u aD];unfold rA;rw[N,rc ag,rc Ω];exact⟨rfl,(x.aa _).F ah,P,Q,hi,aj,bb,am⟩
abbrev bQ:ah:=λ_=>False
abbrev eV(n:Nat):ah:=λr=>n<=r
def LU{b:Λ}{bj bv:x4}(f:aM .i64 w bj a)(s:aM .i64 w bv b):
  ak v8 JZ [bj,bv] w λv I=>v= .bool (decide (a=b))/\Ext w I:=by
 refine az func206 ?_;rw[a1 an.u f,a1 an.u s];simp only[bK,al];refine⟨λp=>⟨?_,Ext.refl _⟩,λz=>?_⟩
 .rw[s2];rintro rfl;exact p rfl
 .have z:a.length=b.length:=Ω
  rw[a1 an.u f];refine b7.range a.length (λi _ U=>Ext w U/\a.take i=b.take i) f.le ⟨Ext.refl _,rfl⟩ ?_ ?_
  .rintro i t4 U k A ⟨e,q⟩ hk;simp only[aT,al,en];refine⟨λ_ V B _ _=>?_,λh=>Ω⟩;have e:=e.F B;obtain⟨x,r⟩:=aD A;obtain⟨y,j⟩:=aD (l:=b) (i:=i) Ω;rw[bh an.u ai.i Ψ (f.W e) r,bh an.u ai.i Ψ (s.W e) j];simp only[bK,al,aO];refine⟨λp=>⟨?_,e⟩,λC=>hk _ _ ⟨e,wL q r j Ω⟩⟩;rw[s2];rintro rfl;rw[r]at j;cases j;exact p rfl
  .rintro _ U k ⟨e,q⟩;simp only[aT,al];refine⟨λh=>Ω,λ_=>⟨?_,e⟩⟩;rw[rs];rwa [o9,z,o9]at q
def kz(rest:List (Λ))(i:Nat):List (Λ):=(X9 i).flatMap λ(v:Nat)=>rest.map λt=>(v:Int)::t
def LV(rest:List (Λ))(i:Nat):kz rest (i+1)=kz rest i++rest.map λt=>(i:Int)::t:=by
 simp[kz,List.range_succ]
def BX(rest:List (Λ))(i:Nat):(kz rest i).length=i*rest.length:=by
 simp only[kz,List.length_flatMap,r8];rw[List.map_const',List.length_range,List.sum_replicate_nat]
def rB(l:Λ):Prop:=l.length<=90/\(∀x∈l,1<=x/\x<=32)/\aQ l<=1073741824
def ci.p(h:ci l):rB l:=⟨by have:=h.1;omega,h.2,(prod_bound h).2⟩
def rB.tail{s:Λ}(h:rB (k::s)):rB s:=by
 have h1:=h.2.1 k (.head _);have e:=(ml s λx a=>h.2.1 x (.tail _ a)).1;have f:k*aQ s<=1073741824:=h.2.2;have j:=Int.mul_le_mul_of_nonneg_right h1.1 (show 0<=aQ s by omega);refine⟨?_,λx a=>h.2.1 x (.tail _ a),Ω⟩;have:=h.1;rw[Y1]at this;omega
theorem wZ:∀(s:Λ){sv:x4}{w:x6},aM .i64 w sv s->rB s->
  ak v8 wq [sv] w λv I=>Ext w I/\bs (eV w.heap.size) bQ I [v] (br s)
 |[],sv,w,h,J=>by
  refine az func29 ?_;rw[a1 an.u h];simp only[bl,List.length_nil,Int.natCast_zero,decide_true,bO];refine jB (α:=Λ) (cs:=[.slice ν 0 0]) (A:=bQ) ca.u an.i Φ rfl gm λv I P f _=>⟨P,ao.Y f (λr _ h=>?_) λ_ _ h=>h⟩;exact h.elim False.elim id
 |k::s,sv,w,h,J=>by
  have ac:1<=aQ (k::s)/\aQ (k::s)<=1073741824:=⟨(ml _ J.2.1).1,J.2.2⟩;have q:=J.tail;have hk:=J.2.1 k (.head _);have Q:=j1 q.2.1;have aq:1<=aQ s/\aQ s<=1073741824:=⟨(ml _ q.2.1).1,q.2.2⟩;obtain⟨kn,rfl⟩:∃kn:Nat,k=kn:=⟨k.toNat,Ω⟩;have au:kn*(br s).length<=1073741824:=by
   have e:((kn*(br s).length:Nat):Int)=aQ ((kn:Int)::s):=by
    rw[Int.natCast_mul,Q,aQ,Int.toNat_of_nonneg Ω]
   omega
  refine az func29 ?_;rw[a1 an.u h];simp only[bl,al];refine⟨λS=>by simp at S;omega,λ_=>?_⟩;refine Lr rfl an.u ai.i h Ξ λW aW=>?_;refine(wZ s aW q).Y ?_;rintro av V _ ⟨E,z⟩;have aw:=nn z;refine b7.range kn (λi out U=>Ext V U/\bs (eV V.heap.size) bQ U [out] (kz (br s) i)) Ω ⟨Ext.refl _,gm⟩ ?_ ?_
  .rintro i out X Y M ⟨p,f⟩ Z;have aa:=bp z p;rw[fP (y:=0) (i:=0) rfl an.u ai.i Ψ (h.W (E.F p)) (by rfl)];simp only[aT,al];refine⟨λ_=>?_,λh=>Ω⟩;rw[fU ca.u aa];refine b7.range (br s).length (λj out U=>Ext V U/\bs (eV V.heap.size) bQ U [out] (kz (br s) i++((br s).take j).map λt=>(i:Int)::t)) Ω ⟨p,by simpa using f⟩ ?_ ?_
   .rintro j out B ab ad ⟨C,f⟩ ae;simp only[aT,al];refine⟨λ_=>?_,λh=>Ω⟩;obtain⟨x,G⟩:=aD ad;have ax:x.length<=100:=by
     have:=wO G;have:=q.1;omega
    refine gn rfl rfl ca.u an.i Ψ (bp z C) G λu hu=>?_;refine eU an.u ai.i rfl λa ga ay aA H af=>?_;refine kt an.u ai.i rfl af (dl (bp hu H)) Θ Θ λb aB aC aE K ag=>?_;have aF:=H.size;have N:=H.then ag (by rintro r z rfl;omega);have aG:=N.size;refine jB (α:=Λ) (a:=(i:Int)::x) (R:=bQ) ca.u an.i Φ (lH (mj K (R:=bQ))) (ao.Y (mj K) (λr _ h=>by subst h;show B.heap.size<=r;omega) λ_ _ h=>h) λc aH L _ ah=>?_;have O:=N.F L;have aI:=L.size;refine nY ca.u an.i rfl (bp (nn f) O) ah (bp (ao.Y (mj K) (λr _ h=>by subst h;show B.heap.size<=r;omega) λ_ _ h=>h) L) (λr _ h aW=>?_) ?_ ?_ λW aJ aj am=>?_
    .rcases aW with aW|aW
     .have:=h.2;have:B.heap.size<=r:=aW;omega
     .exact aW
    .have ap:(kz (br s) i++((br s).take j).map λt=>(i:Int)::t).length+1<=kn*(br s).length:=by
      simp only[n9,BX,r8,o8];have:(i+1)*(br s).length<=kn*(br s).length:=X4 _ M;rw[U7]at this;omega
     omega
    .have ap:(kz (br s) i++((br s).take j).map λt=>(i:Int)::t).length+1<=kn*(br s).length:=by
      simp only[n9,BX,r8,o8];have:(i+1)*(br s).length<=kn*(br s).length:=X4 _ M;rw[U7]at this;omega
     omega
    .simp only[aO];have aK:=C.size;refine ae _ _ ⟨(C.F O).then am (λr z h=>?_),?_⟩
     .have:=h.1;have:V.heap.size<=r:=this;omega
     .have e:kz (br s) i++((br s).take (j+1)).map (λt=>(i:Int)::t)=(kz (br s) i++((br s).take j).map λt=>(i:Int)::t)++[(i:Int)::x]:=by
       rw[r9,G];simp
      rw[e];refine ao.Y aj (λr _ h=>?_) λ_ _ h=>h;show V.heap.size<=r;rcases h with h|h|h
      .exact h.1
      .have:B.heap.size<=r:=h;omega
      .omega
   .rintro out B ab ⟨C,f⟩;simp only[aT,al,aO];refine⟨λh=>Ω,λ_=>Z _ _ ⟨C,?_⟩⟩;rw[LV];simpa using f
  .rintro out X Y ⟨p,f⟩;rw[fP (y:=0) (i:=0) rfl an.u ai.i Ψ (h.W (E.F p)) (by rfl)];simp only[aT,al];refine⟨λh=>Ω,λ_=>⟨E.F p,?_⟩⟩;have aL:=E.size;have e:br ((kn:Int)::s)=kz (br s) kn:=by simp[br,kz]
   rw[e];exact ao.Y f (λr _ h=>by have:V.heap.size<=r:=h;show w.heap.size<=r;omega) λ_ _ h=>h
def tO(s:Λ)(h:aM .i64 w sv s)(J:ci s):ak v8 wq [sv] w λv I=>Ext w I/\bs (eV w.heap.size) bQ I [v] (br s):=wZ s h J.p
def LW:∀(x:Nat),0<x->∃k m,x=2 ^ k*(2*m+1):=by
 intro x;induction x using Nat.strongRecOn with
 |_ x a=>
  intro h;by_cases e:x % 2=1
  .exact⟨0,x / 2,Ω⟩
  .obtain⟨k,m,hk⟩:=a (x / 2) Ω Ω;refine⟨k+1,m,?_⟩;rw[Nat.pow_succ,Nat.mul_assoc,Nat.mul_comm 2,<-Nat.mul_assoc,<-hk];omega
def w1{k m i:Nat}:(2 ^ k*(2*m+1)).testBit i=(decide (i=k)||decide (k<i)&&m.testBit (i-k-1)):=by
 rw[Nat.testBit_two_pow_mul];by_cases h:k<=i
 .obtain⟨d,rfl⟩:=Nat.exists_eq_add_of_le h;cases d with
  |zero=>simp
  |succ d=>
   have e:(2*m+1).testBit (d+1)=m.testBit d:=by rw[Nat.testBit_succ];congr 1;omega
   simp[e,show k+(d+1)-k=d+1 by omega]
 .simp[h,show i≠k by omega,show¬k<i by omega]
def LX{k m:Nat}(p:2 ^ k*(2*m+1)<2 ^ 64):(2 ^ k*(2*m+1)) &&& (2 ^ 64-2 ^ k*(2*m+1))=2 ^ k:=by
 have:=Nat.two_pow_pos k;have hk:k<64:=by
  rcases Nat.lt_or_ge k 64 with h|h
  .exact h
  .have:2 ^ 64<=2 ^ k:=S4 Ω h;have:2 ^ k*1<=2 ^ k*(2*m+1):=Nat.mul_le_mul_left _ Ω;omega
 have e:2 ^ k*(2*m+1)=(2 ^ k*(2*m)+(2 ^ k-1))+1:=by rw[Nat.mul_add];omega
 apply Nat.eq_of_testBit_eq;intro i;rw[Nat.testBit_and,w1]
 conv=>lhs;rhs;rw[e]
 rw[Nat.testBit_two_pow_sub_succ Ω,Nat.testBit_two_pow_mul_add _ Ω,Nat.testBit_two_pow];by_cases h1:i=k
 .subst h1;simp[hk]
 .by_cases a:k<i
  .have f:(2*m).testBit (i-k)=m.testBit (i-k-1):=by
    obtain⟨d,j⟩:∃d,i-k=d+1:=⟨i-k-1,Ω⟩;rw[j,Nat.testBit_succ];congr 1;omega
   simp[h1,a,show¬i<k by omega,f,show k≠i by omega];intro h;simp[h]
  .simp[h1,a,show k≠i by omega]
def k2(a c:Nat):Nat:=(BitVec.ofNat 64 a &&& ~~~BitVec.ofNat 64 c).toNat
def BY(a c i:Nat):(k2 a c).testBit i=(decide (i<64)&&(a.testBit i&& !c.testBit i)):=by
 unfold k2;rw[BitVec.testBit_toNat,BitVec.getLsbD_and,BitVec.getLsbD_not,BitVec.getLsbD_ofNat,BitVec.getLsbD_ofNat];by_cases h:i<64<;>simp[h]
def LY(a c:Nat):k2 a c<2 ^ 64:=BitVec.isLt _
def LZ{a:Nat}(h:∀i,n<=i->a.testBit i=v6):a<2 ^ n:=Nat.lt_pow_two_of_testBit a h
def BZ{a i:Nat}(h:a<2 ^ n)(hi:n<=i):a.testBit i=v6:=Nat.testBit_lt_two_pow (S3 h (S4 Ω hi))
def gP(b n:Nat):List Nat:=(X9 n).filter λi=>b.testBit i
def B1(b n:Nat):(gP b n).Pairwise (·< ·):=List.Pairwise.filter _ List.pairwise_lt_range
def w2{b i:Nat}:i∈gP b n↔i<n/\b.testBit i=v2:=by simp[gP]
def ph:Option Nat->Int
 |some i=>(i:Int)
 |none=>-1
def k3(b n:Nat)(v:Int):Int:=ph ((X9 n).find? (λi:Nat=>decide (v<(i:Int))&&b.testBit i))
theorem B2:∀{l:List Nat}{k x:Nat},l.Pairwise (·< ·)->l[k]?=σ x->l.filter (λi=>decide (x<i))=l.drop (k+1)
 |y::l,0,x,h,hk=>by
  simp at hk;subst hk;rw[List.pairwise_cons]at h;simp only[List.drop_succ_cons,List.drop_zero];rw[List.filter_cons_of_neg Ξ,List.filter_eq_self.2 λa e=>by simpa using h.1 a e]
 |y::l,k+1,x,h,hk=>by
  simp only[List.getElem?_cons_succ]at hk;rw[List.pairwise_cons]at h;have:y<x:=h.1 x (x7 hk);rw[List.filter_cons_of_neg Θ,List.drop_succ_cons];exact B2 h.2 hk
def B3(b n:Nat)(v:Int):k3 b n v=ph (((gP b n).filter (λi:Nat=>decide (v<i))).head?):=by
 unfold k3 gP;rw[<-List.head?_filter,List.filter_filter]
def L0(b n:Nat):k3 b n (-1)=ph ((gP b n)[0]?):=by
 rw[B3,List.filter_eq_self.2 (λa _=>Θ),List.head?_eq_getElem?]
def B4{b k x:Nat}(h:(gP b n)[k]?=σ x):k3 b n x=ph ((gP b n)[k+1]?):=by
 have e:(λi:Nat=>decide ((x:Int)<i))=λi=>decide (x<i):=by funext i;simp
 rw[B3,e,B2 (B1 b n) h,List.head?_eq_getElem?,R3]
def L1{b:Nat}{v:Int}(h:(n:Int)-1<=v):k3 b n v= -1:=by
 unfold k3;rw[List.find?_eq_none.2 λi hi=>by simp at hi ⊢;omega];rfl
def L2{b k m s:Nat}(y:n<=64)(f:b<2 ^ n)(e:∀i,r.testBit i=(decide (s<=i)&&b.testBit i))(hk:r=2 ^ k*(2*m+1)){v:Int}(z:v+1=s):k3 b n v=k:=by
 have p:r.testBit k=v2:=by rw[hk,w1];simp
 have q:∀i,i<k->r.testBit i=v6:=λi hi=>by rw[hk,w1];simp[show i≠k by omega,show¬k<i by omega]
 have a:=p;rw[e]at a;simp at a;have w:k<n:=by
  rcases Nat.lt_or_ge k n with h|h
  .exact h
  .rw[BZ f h]at a;cases a.2
 unfold k3;have:(X9 n).find? (λi:Nat=>decide (v<(i:Int))&&b.testBit i)=σ k:=by
  rw[List.find?_range_eq_some];refine⟨by simp[a.2];omega,by simpa using w,λj x=>?_⟩;have:=q j x;rw[e]at this;simp only[Bool.not_eq_true',Bool.and_eq_false_iff,decide_eq_false_iff_not]at this ⊢;rcases this with h|h
  .exact .inl Ω
  .exact .inr h
 rw[this];rfl
def L3{b s:Nat}(a:∀i,r.testBit i=(decide (s<=i)&&b.testBit i))(hk:r=0){v:Int}(e:v+1=s):k3 b n v= -1:=by
 unfold k3;rw[List.find?_eq_none.2]
 .rfl
 .intro i hi;have:=a i;rw[hk,Nat.zero_testBit]at this;simp at hi this ⊢;intro h;exact this Ω
section
variable{P:V5}{w:x6}{t:o5}{cx cy:Bool}{a b:Nat}{K:x4->Prop}
def n2(a:Nat):T8 64 (a:Int)=BitVec.ofNat 64 a:=BitVec.ofInt_natCast _ _
def B5(x:BitVec 64):T7.wrap (x.toNat:Int)=(x.toNat:Int):=by
 have:=x.isLt;rw[m2 Ω Ω]
def u64_and(f:a<2 ^ 64)(h:b<2 ^ 64):ab P (aP .and t cx cy (.int .u64 a) (.int .u64 b)) w K=K (.int .u64 ((a &&& b:Nat):Int)):=ab.of λI _=>by
 have e:(T8 64 (a:Int) &&& T8 64 (b:Int)).toNat=a &&& b:=by
  rw[n2,n2,BitVec.toNat_and,BitVec.toNat_ofNat,BitVec.toNat_ofNat,Nat.mod_eq_of_lt f,Nat.mod_eq_of_lt h]
 have hw:T7.wrap ((a &&& b:Nat):Int)=((a &&& b:Nat):Int):=by rw[<-e];exact B5 _
 have j:(T8 T7.bits (a:Int) &&& T8 T7.bits (b:Int)).toNat=a &&& b:=e;simp only[aP,eqGuard,binOp,Op.intBits,j,hw];rfl
def B6:ab P (aP .andNot t cx cy (.int .u64 a) (.int .u64 b)) w K=K (.int .u64 (k2 a b:Int)):=ab.of λI _=>by
 have e:(T8 64 (a:Int) &&& ~~~T8 64 (b:Int)).toNat=k2 a b:=by rw[n2,n2];rfl
 have hw:T7.wrap (k2 a b:Int)=(k2 a b:Int):=B5 _;have f:(T8 T7.bits (a:Int) &&& ~~~T8 T7.bits (b:Int)).toNat=k2 a b:=e;simp only[aP,eqGuard,binOp,Op.intBits,f,hw];rfl
def mp{k:j4}(f:n<64):ab P (aP .shr t cx cy (.int .u64 (a:Int)) (.int k (n:Int))) w K=K (.int .u64 ((a / 2 ^ n:Nat):Int)):=ab.of λI _=>by
 have e:(a:Int).fdiv (2 ^ min n T7.bits)=((a / 2 ^ n:Nat):Int):=by
  have:min n T7.bits=n:=Nat.min_eq_left (by show n<=64;omega);rw[this,Int.fdiv_eq_ediv_of_nonneg _ (by exact Int.le_of_lt (Int.pow_pos Ω))];simp
 simp only[aP,eqGuard,binOp,Op.shift,u9,e];simp[show¬(n:Int)<0 by omega]
def w3{k:j4}(a:n<64):ab P (aP .shl t cx cy (.int .u64 1) (.int k (n:Int))) w K=K (.int .u64 ((2 ^ n:Nat):Int)):=by
 rw[A4 Ω];have e:min ((n:Int).toNat) T7.bits=n:=Nat.min_eq_left (by show n<=64;omega);have f:2 ^ n<2 ^ 64:=Nat.pow_lt_pow_right Ω a;rw[e,Int.one_mul,show((2:Int) ^ n)=((2 ^ n:Nat):Int) by simp];generalize 2 ^ n=q at f ⊢;rw[m2 Ω Ω]
end
def tP:Λ:=[0,1,56,2,57,49,28,3,61,58,42,50,38,29,17,4,62,47,59,36,45,43,51,22,53,39,33,30,24,18,12,5,63,55,48,27,60,41,37,16,46,35,44,21,52,32,23,11,54,26,40,15,34,20,31,10,25,14,19,9,13,8,7,6]
def Laid(w:x6):Prop:=w.rangeAt 0 0 (ints .u8 tP)
def Laid.W(h:Laid w)(a:Ext w I):Laid I:=oX a h
def L4:∀k:Nat,k<64->tP[(2 ^ k*285870213051353865 % 2 ^ 64) / 2 ^ 58]?=σ (k:Int):=Φ
def L5{x k m:Nat}(f:Laid w)(j:x=2 ^ k*(2*m+1))(p:x<2 ^ 64):
  ak v8 Jp [.int .u64 (x:Int)] w λv I=>v=Δ (k:Int)/\Ext w I:=by
 have z:=Nat.two_pow_pos k;have A:2 ^ k<=x:=by
  have:2 ^ k*1<=2 ^ k*(2*m+1):=Nat.mul_le_mul_left _ Ω;omega
 have hk:k<64:=by
  rcases Nat.lt_or_ge k 64 with h|h
  .exact h
  .have:2 ^ 64<=2 ^ k:=S4 Ω h;omega
 refine az func156 ?_;simp only[bl,al];refine⟨λh=>Ω,λ_=>?_⟩;rw[nh];have q:T7.wrap (0-(x:Int))=((2 ^ 64-x:Nat):Int):=by
  simp only[j4.wrap,j4.bits,j4.signed];simp;omega
 rw[q,u64_and p Ω,j,LX Ω];simp only[fB];have r:T7.wrap (((2 ^ k:Nat):Int)*285870213051353865)=((2 ^ k*285870213051353865 % 2 ^ 64:Nat):Int):=by
  have e:((2 ^ k:Nat):Int)*285870213051353865=((2 ^ k*285870213051353865:Nat):Int):=Ξ
  rw[e];simp only[j4.wrap,j4.bits,j4.signed];simp
 have s:(58:Int)=((58:Nat):Int):=rfl;rw[r,s,mp Ω];have a:=L4 k hk;have y:=(x5.1 a).1;rw[wK wG.u cO.i y,aF Ψ (by rw[T0];exact f _ _ (mh a)),fC cO.u ai.u,m1 Ω Ω];exact⟨rfl,Ext.refl _⟩
def j3(b n:Nat):x4:=.agg #[.int .u64 (b:Int),Δ (n:Int)]
def mq(b n:Nat):Prop:=n<=32/\b<2 ^ n
def B7(s i:Nat):(2 ^ s-1).testBit i=decide (i<s):=Nat.testBit_two_pow_sub_one s i
def B8{b:Nat}{v:Int}:ak v8 Ja [j3 b n,Δ v] w λr I=>r= .bool (decide (0<=v/\v<n))/\Ext w I:=by
 refine az func138 ?_;refine bn λg U f a e=>?_;simp only[cB,cP,al];refine⟨λh=>?_,λh=>⟨?_,a⟩⟩
 .rw[aJ cc.p 1 e rfl];simp only[aT];exact⟨by simp[h],a⟩
 .rw[s2];omega
def w4{b:Nat}:ak v8 Iu [j3 b n] w λr I=>r=Δ n/\Ext w I:=by
 refine az func68 ?_;refine bn λg U f a e=>?_;rw[aJ cc.p 1 e rfl];exact⟨rfl,a⟩
def L6{n:Int}:ak v8 Is [Δ n] w λr I=>Ext w I/\r=(if 1<=n/\n<=32 then .tuple #[j3 (2 ^ n.toNat-1) n.toNat,Δ 0]else .tuple #[j3 0 0,Δ 1]):=by
 refine az func66 ?_;refine bE cc.i λg U z f j=>?_;refine aY (λv V=>v= .bool (decide (¬(1<=n/\n<=32)))/\U=V) ?_ ?_
 .rintro _ _ ⟨rfl,rfl⟩;simp only[al];refine⟨λh=>?_,λh=>?_⟩
  .rw[dk (cs:=#[.int .u64 0,Δ 0]) Ψ];refine b1 (vs:=[.int .u64 0,Δ 0]) cc.i rfl rfl (by intro u hu;simp at hu;rcases hu with rfl|rfl<;>rfl) j λs a x e=>?_;rw[fe cc.p cc.i rfl e.range,rc h];exact⟨f.then a (by rintro r y rfl;omega),rfl⟩
  .have h:1<=n/\n<=32:=X5.1 h;obtain⟨m,rfl⟩:∃m:Nat,n=m:=⟨n.toNat,Ω⟩;rw[w3 Ω];have ac:=Nat.two_pow_pos m;have A:2 ^ m<=2 ^ 32:=S4 Ω Ω;simp only[dA];rw[m2 Ω Ω,show(((2 ^ m:Nat):Int)-1)=((2 ^ m-1:Nat):Int) by omega];rw[dk (cs:=#[.int .u64 ((2 ^ m-1:Nat):Int),Δ m]) Ψ];refine b1 (vs:=[.int .u64 ((2 ^ m-1:Nat):Int),Δ m]) cc.i rfl rfl (by intro u hu;simp at hu;rcases hu with rfl|rfl<;>rfl) j λs a x e=>?_;rw[fe cc.p cc.i rfl e.range,ms h];exact⟨f.then a (by rintro r y rfl;omega),rfl⟩
 .intro ax q;simp only[aT,bP,al];refine⟨λh=>q _ _ ⟨?_,rfl⟩,λh=>q _ _ ⟨?_,rfl⟩⟩
  .rw[rs];omega
  .congr 1;simp;omega
def B9{b:Nat}{v:Int}(y:mq b n)(z:Laid w)(G: -1<=v):ak v8 IH [j3 b n,Δ v] w λr I=>r=Δ (k3 b n v)/\Ext w I:=by
 obtain⟨H,e⟩:=y;have f:b<2 ^ 64:=S3 e (S4 Ω Ω);refine az func84 ?_;refine bn λg U K a j=>?_;rw[aJ cc.p 1 j rfl];simp only[dA,cP,al];rw[m1 Ω Ω];refine⟨λh=>⟨by rw[L1 h],a⟩,λL=>?_⟩;rw[aJ cc.p 0 j rfl];refine aY (λu V=>U=V/\∃r s:Nat,u= .int .u64 (r:Int)/\r<2 ^ 64/\v+1=s/\∀i,r.testBit i=(decide (s<=i)&&b.testBit i)) ?_ ?_
 .rintro _ _ ⟨rfl,r,s,rfl,A,J,q⟩;simp only[bl,al];refine⟨λB=>⟨by rw[L3 q Ω J],a⟩,λB=>?_⟩;obtain⟨k,m,hk⟩:=LW r Ω;refine(L5 (z.W a) hk A).Y ?_;rintro _ M _ ⟨rfl,C⟩;exact⟨by rw[L2 Ω e q hk J],a.F C⟩
 .intro ax x;refine⟨λh=>?_,λh=>?_⟩
  .obtain⟨s,rfl⟩:∃s:Nat,v=s:=⟨v.toNat,Ω⟩;have ac:0<2 ^ (s+1):=Nat.two_pow_pos _;have N:2 ^ (s+1)<=2 ^ 32:=S4 Ω Ω;simp only[aO];rw[m1 Ω Ω,show((s:Int)+1)=((s+1:Nat):Int) by omega,w3 Ω];simp only[dA];rw[m2 Ω Ω,show(((2 ^ (s+1):Nat):Int)-1)=((2 ^ (s+1)-1:Nat):Int) by omega,B6];refine x _ _ ⟨rfl,_,s+1,rfl,LY _ _,Ω,λi=>?_⟩;rw[BY,B7];by_cases E:i<64
   .by_cases hi:s+1<=i
    .simp[E,hi,show¬i<s+1 by omega]
    .simp[hi,show i<s+1 by omega]
   .rw[BZ f Ω];simp
  .exact x _ _ ⟨rfl,b,0,rfl,f,Ω,λi=>Ξ⟩
def L7{b:Nat}(e:mq b n)(f:Laid w):ak v8 IG [j3 b n] w λr I=>r=Δ (k3 b n (-1))/\Ext w I:=by
 refine az func83 ?_;refine bn λg U q a h=>?_;rw[bz cc.p cc.i rfl h.range];refine(B9 e (f.W a) Ω).Y ?_;rintro _ V _ ⟨rfl,j⟩;exact⟨rfl,a.F j⟩
def L8{b:Nat}{v:Int}(H:mq b n):ak v8 Iv [j3 b n,Δ v] w λr I=>r=j3 (if 0<=v/\v<n then k2 b (2 ^ v.toNat)else b) n/\Ext w I:=by
 refine az func69 ?_;refine bn λg U R x y=>?_;refine bE cc.i λJ V S z A=>?_;have s1:=x.size;have W:=y.lt;refine c8 (λe=>∃f,ag e g cc [.int .u64 ((f:Nat):Int),Δ (n:Int)]/\ag e J cc [.int .u64 0,Δ 0]/\Ext w e/\f=(if 0<=v/\v<n then k2 b (2 ^ v.toNat)else b)) ?_ ?_
 .rintro e ⟨f,K,L,M,rfl⟩;rw[bz cc.p cc.i rfl K.range];refine b1 (vs:=[_,_]) cc.i rfl rfl (by intro u hu;simp at hu;rcases hu with rfl|rfl<;>rfl) L λX N Y O=>?_;rw[fe cc.p cc.i rfl O.range];exact⟨rfl,M.then N (by rintro r P rfl;omega)⟩
 .intro ax B;have j:=y.W z;rw[bz cc.p cc.i rfl j.range];refine B8.Y ?_;rintro _ Z _ ⟨rfl,a⟩;have C:=(x.F z).F a;simp only[al,en];refine⟨λh ab q _ _=>?_,λh=>B _ ⟨b,j.W a,A.W a,C,by rw[rc h]⟩⟩;have E:=(j.W a).W q;rw[aJ cc.p 0 E rfl];obtain⟨s,rfl⟩:∃s:Nat,v=s:=⟨v.toNat,Ω⟩;have ac:=H.1;rw[w3 Ω,B6,aU cc.p rfl];refine bu fN.i rfl rfl E (by simp[j3,x4.cells]) λad G ae Q=>?_;refine B _ ⟨_,Q,((A.W a).W q).aa G Ω,(C.F q).then G (by rintro r P rfl;omega),?_⟩;rw[ms h,u9]
def qg(v:Int):Nat:=if v<0 then 0 else 40-v.toNat
def w5(x:Nat):qg x=40-x:=by unfold qg;rw[rc Ω];omega
def n3{b g:Nat}(e:mq b n):
  pX v8 kq [Γ g] (gP b n).length (λk vs _=>∃v:Nat,(gP b n)[k]?=σ v/\vs=[Δ (v:Int)])
   (λw=>ag w g cc [.int .u64 (b:Int),Δ (n:Int)]/\Laid w):=by
 refine⟨kq.enters,λl ax P w r _ E ⟨s,z⟩ G=>?_⟩;have Q:=e.1;refine rk func82 ?_;rw[bz cc.p cc.i rfl s.range];refine(L7 e z).free.Y ?_;rintro _ U ⟨H,rfl,f⟩;refine⟨λv V=>∃k,k<=(gP b n).length/\v=Δ (ph (gP b n)[k]?)/\ax k V/\ag V g cc [.int .u64 (b:Int),Δ (n:Int)]/\Laid V,
  λv _=>qg (bZ v),⟨0,W0 _,by rw[L0],r 0 _ _ f H.b G,s.W f,z.W f⟩,?_⟩
 rintro _ V ⟨k,hk,rfl,A,I,J⟩;cases a:(gP b n)[k]? with
 |none=>
  have:k=(gP b n).length:=by
   have:=List.getElem?_eq_none_iff.1 a;omega
  subst this;simp only[ph,cP,al];exact⟨λh=>Ω,λ_=>.inl A⟩
 |some x=>
  have j:=(x5.1 a).1;have R:=(w2.1 (x7 a)).1;simp only[ph,cP,al];refine⟨λ_=>?_,λh=>Ω⟩;refine⟨rfl,(E k _ V j ⟨I,J⟩ ⟨x,a,rfl⟩ A).Y ?_⟩;rintro _ S (⟨rfl,⟨B,C⟩,K⟩|⟨rfl,L⟩)
  .simp only[bL,X3,a7];rw[bz cc.p cc.i rfl B.range];refine(B9 e C Ω).free.Y ?_;rintro _ W ⟨M,rfl,q⟩;refine⟨⟨k+1,j,congrArg (U3 .i64) (B4 a),r _ _ _ q M.b K.1,B.W q,C.W q⟩,?_⟩;rw[B4 a];cases N:(gP b n)[k+1]? with
   |none=>show 0<qg x;rw[w5];omega
   |some y=>
    have X:x<y:=by
     have h1:=(x5.1 a).2;have O:=(x5.1 N).2;rw[<-h1,<-O];exact U5.1 (B1 b n) k (k+1) _ _ Ω
    show qg y<qg x;rw[w5,w5];omega
  .simp only[bL,W6,bO];exact .inr ⟨k,j,L⟩
def n4{b:Nat}:ak v8 Av [j3 b n] w λr I=>Ext w I/\∃g,r= .func (.func kq) #[] #[Γ g]/\w.heap.size<=g/\ag I g cc [.int .u64 (b:Int),Δ (n:Int)]:=by
 refine az func35 ?_;refine bn λg U f a e=>?_;rw[mg];exact⟨a,g,rfl,Ω,e⟩
abbrev dT(s:Λ):Prop:=∀x∈s,1<=x/\x<=32
def dT.tail{s:Λ}(h:dT (k::s)):dT s:=λx a=>h x (.tail _ a)
def nr{s:Λ}(h:dT s):1<=aQ s:=(ml s h).1
theorem qh:∀(s t:Λ)(m:Int),cj s t m=(cj s t 0).map λn=>n+m*aQ s
 |[],[],m=>by simp[cj,aQ]
 |k::s,v::t,m=>by
  unfold cj;split
  .rw[qh s t (m*k+v),qh s t (0*k+v)];simp only[Option.map_map,aQ];congr 1;funext n;simp only[Function.comp];rw[Int.add_mul,Int.add_mul,<-Int.mul_assoc];simp;omega
  .rfl
 |[],_::_,_=>rfl
 |_::_,[],_=>rfl
theorem w6{L j:Nat}{rest:List (Λ)}(p:rest.length=L):∀{kn v:Nat},v<kn->∀{x:Λ},rest[j]?=σ x->
  ((X9 kn).flatMap λ(v:Nat)=>rest.map λt=>(v:Int)::t)[v*L+j]?=σ ((v:Int)::x)
 |0,v,h,_,_=>Ω
 |kn+1,v,h,x,e=>by
  have q:=(x5.1 e).1;have f:((X9 kn).flatMap λ(v:Nat)=>rest.map λt=>(v:Int)::t).length=kn*L:=by
   simp only[List.length_flatMap,r8,p];rw[List.map_const',List.length_range,List.sum_replicate_nat]
  rw[List.range_succ,List.flatMap_append];by_cases a:v<kn
  .have:(v+1)*L<=kn*L:=X4 _ a;rw[U7]at this;rw[Y2 (by rw[f];omega)];exact w6 p a e
  .have a:v=kn:=Ω
   subst a;rw[Z7 (by rw[f];omega),f,show v*L+j-v*L=j by omega];simp[e]
theorem kA:∀{s:Λ},dT s->∀{i:Nat}{t:Λ},(br s)[i]?=σ t->cj s t 0=σ (i:Int)
 |[],_,i,t,h=>by
  cases i with
  |zero=>simp[br]at h;subst h;rfl
  |succ i=>simp[br]at h
 |k::s,J,i,t,h=>by
  have hk:=J k (.head _);have a:=j1 J.tail;have ac:=nr J.tail;obtain⟨kn,rfl⟩:∃kn:Nat,k=kn:=⟨k.toNat,Ω⟩;have hi:=(x5.1 h).1;rw[j1 J,aQ,Int.toNat_mul Ω Ω,<-a,u9]at hi;have p:0<(br s).length:=Ω
  have e:i / (br s).length<kn:=Nat.div_lt_of_lt_mul (by rw[Nat.mul_comm];exact hi);have q:i % (br s).length<(br s).length:=Nat.mod_lt _ p;obtain⟨x,f⟩:∃x,(br s)[i % (br s).length]?=σ x:=⟨_,x8 q⟩;have j:=w6 rfl e f;rw[Nat.mul_comm,Nat.div_add_mod]at j;have aW:((X9 ((kn:Int).toNat)).flatMap λ(v:Nat)=>(br s).map λt=>(v:Int)::t)[i]?=σ t:=h;rw[u9,j]at aW;cases aW;unfold cj;rw[ms ⟨Int.natCast_nonneg _,Int.ofNat_lt.2 e⟩,qh,kA J.tail f];simp only[Y3,X7,Int.zero_mul,Int.zero_add];have r:aQ s=((br s).length:Int):=by rw[a];omega
  rw[r,<-Int.natCast_mul,<-Int.natCast_add];congr 1;rw[Nat.mul_comm,Nat.add_comm,Nat.div_add_mod]
theorem ns:∀{s:Λ},dT s->∀{t:Λ}{n:Int},cj s t 0=σ n->(br s)[n.toNat]?=σ t
 |[],_,[],n,h=>by simp[cj]at h;subst h;rfl
 |k::s,J,v::t,n,h=>by
  have hk:=J k (.head _);have j:=j1 J.tail;have ac:=nr J.tail;obtain⟨kn,rfl⟩:∃kn:Nat,k=kn:=⟨k.toNat,Ω⟩;unfold cj at h;split at h
  .rename_i w;rw[qh]at h;cases f:cj s t 0 with
   |none=>rw[f]at h;cases h
   |some q=>
    rw[f]at h;simp only[Y3,X7,Int.zero_mul,Int.zero_add]at h;have p:=mm J.tail f;simp only[Int.zero_mul,Int.zero_add,Int.one_mul]at p;obtain⟨a,rfl⟩:∃a:Nat,v=a:=⟨v.toNat,Ω⟩;have r:=w6 (kn:=kn) (v:=a) rfl Ω (ns J.tail f);have e:n.toNat=a*(br s).length+q.toNat:=by
     rw[<-h,j];have:((a*(aQ s).toNat:Nat):Int)=(a:Int)*aQ s:=by rw[Int.natCast_mul,Int.toNat_of_nonneg Ω]
     omega
    rw[e];show((X9 ((kn:Int).toNat)).flatMap λ(v:Nat)=>(br s).map λt=>(v:Int)::t)[_]?=_;rw[u9];exact r
  .cases h
 |[],_,_::_,_,h=>by cases h
 |_::_,_,[],_,h=>by cases h
theorem Ca:∀(s:Λ),dT s->∀(n c:Int),dr s (n+c*aQ s)=dr s n
 |[],_,_,_=>rfl
 |k::s,J,n,c=>by
  have:=nr J.tail;simp only[dr,aQ];rw[<-Int.mul_assoc,Ca s J.tail,Int.add_mul_ediv_right _ _ Ω,Int.add_mul_emod_self_right]
theorem tQ:∀{s:Λ},dT s->∀{n:Int},0<=n->n<aQ s->cj s (dr s n) 0=σ n
 |[],_,n,a,h1=>by simp[aQ]at h1;simp[dr,cj];omega
 |k::s,J,n,a,h1=>by
  have hk:=J k (.head _);have ac:=nr J.tail;simp only[dr,aQ]at h1 ⊢;have f:=Int.ediv_lt_of_lt_mul Ω h1;have h:0<=n / aQ s:=Int.ediv_nonneg a Ω;have hm:n / aQ s % k=n / aQ s:=Int.emod_eq_of_lt h f;rw[hm];unfold cj;rw[ms ⟨h,f⟩,qh];have e:dr s n=dr s (n % aQ s):=by
   have:=Ca s J.tail (n % aQ s) (n / aQ s);rw[<-this];congr 1;have:=Int.emod_add_mul_ediv n (aQ s);rw[Int.mul_comm (n / aQ s)];omega
  rw[e,tQ J.tail (Int.emod_nonneg _ Ω) (Int.emod_lt_of_pos _ Ω)];simp only[Y3,X7,Int.zero_mul,Int.zero_add];have:=Int.emod_add_mul_ediv n (aQ s);rw[Int.mul_comm (n / aQ s)];omega
def rC{s:Λ}(J:dT s){i:Nat}(h:(i:Int)<aQ s):(br s)[i]?=σ (dr s i):=by
 have:=ns J (tQ J Ω h);simpa using this
def bq(s cs t:Λ):Int:=match cj s t 0 with
 |some n=>cs.getD n.toNat 0
 |none=>0
def upto{α:Type}(l:List α)(d:α)(i:Nat):List α:=l.take i++o6 (l.length-i) d
def pi{α:Type}(l:List α)(d:α)(i:Nat):(upto l d i).length=l.length:=by simp[upto];omega
def qi{α:Type}(l:List α)(d:α):upto l d 0=o6 l.length d:=by simp[upto]
def qj{α:Type}(l:List α)(d:α):upto l d l.length=l:=by simp[upto]
def qk{α:Type}{l:List α}{d x:α}{i:Nat}(h:l[i]?=σ x):(upto l d i).set i x=upto l d (i+1):=by
 have:=(x5.1 h).1;unfold upto;rw[T4 _ _ Θ,r9,h];have e:i-(l.take i).length=0:=Θ
 obtain⟨m,hm⟩:∃m,l.length-i=m+1:=⟨l.length-i-1,Ω⟩;rw[e,hm,show l.length-(i+1)=m by omega];simp[List.replicate_succ]
def rD{α:Type}{l:List α}{i:Nat}{x:α}(h:l[i]?=σ x):l.set i x=l:=by
 apply X0;intro j;rw[Y7];split
 .rename_i a;subst a;rw[ms (x5.1 h).1,h]
 .rfl
def w7:Λ->Int
 |[]=>0
 |x::l=>l.foldl min x
def Cb(P:Int->Prop)(m:Int):Prop:=P m/\∀x,P x->m<=x
def dx(s t:Λ):Prop:=∃n,cj s t 0=σ n
def L9(k v:Int)(s t:Λ):cj (k::s) (v::t) 0=if 0<=v/\v<k then(cj s t 0).map (λn=>n+(0*k+v)*aQ s)else ν:=by
 conv=>lhs;unfold cj
 rw[qh]
def Cc{v:Int}{s t:Λ}:dx (k::s) (v::t)↔(0<=v/\v<k)/\dx s t:=by
 unfold dx;rw[L9];constructor
 .rintro⟨n,h⟩;split at h
  .rename_i a;cases e:cj s t 0 with
   |none=>rw[e]at h;cases h
   |some q=>exact⟨a,q,rfl⟩
  .cases h
 .rintro⟨a,q,e⟩;rw[ms a,e];exact⟨_,rfl⟩
def Cd{t:Λ}:dx [] t↔t=[]:=by
 cases t with
 |nil=>exact⟨λ_=>rfl,λ_=>⟨0,rfl⟩⟩
 |cons v t=>
  constructor
  .rintro⟨_,h⟩;cases h
  .intro h;cases h
def tR{s t:Λ}(h:dx s t):s.length=t.length:=by
 obtain⟨n,h⟩:=h;rcases Nat.decEq s.length t.length with a|a
 .rw[wN s t 0 a]at h;cases h
 .exact a
def Ce{s t:Λ}(J:dT s){n:Int}(h:cj s t 0=σ n):dr s n=t:=by
 have f:=mm J h;have h1:=ns J h;simp only[Int.zero_mul,Int.zero_add,Int.one_mul]at f;have a:=rC J (i:=n.toNat) Ω;rw[h1]at a;have e:((n.toNat:Nat):Int)=n:=Ω
 rw[e]at a;exact(Z5 a).symm
def tS{s cs:Λ}(J:dT s)(a:cs.length=(aQ s).toNat):cs=(X9 (aQ s).toNat).map λ(q:Nat)=>bq s cs (dr s q):=by
 apply List.ext_getElem
 .simp[a]
 .intro i h1 e;rw[List.getElem_map,List.getElem_range];have:=nr J;have hi:(i:Int)<aQ s:=Ω
  unfold bq;rw[tQ J Ω hi];simp only[u9];rw[u5,x8 h1];rfl
def w8{s:Λ}(J:dT s){q:Nat}(a:q<(aQ s).toNat):dx s (dr s q):=⟨_,tQ J Ω (by have:=nr J;omega)⟩
def Ma{s cs:Λ}(J:dT s)(e:cs.length=(aQ s).toNat)(f:a.length=(aQ s).toNat)(h:∀t,dx s t->bq s cs t=bq s a t):cs=a:=by
 rw[tS J e,tS J f];apply List.map_congr_left;intro q j;exact h _ (w8 J (by simpa using j))
def Mb(h:l≠[]):Cb (λc=>c∈l) (w7 l):=by
 obtain⟨x,r,rfl⟩:∃v r,l=v::r:=by cases l with
  |nil=>exact ro rfl h
  |cons v r=>exact⟨v,r,rfl⟩
 clear h;show Cb (λc=>c∈x::r) (r.foldl min x);induction r generalizing x with
 |nil=>exact⟨.head _,λy f=>by simp at f;simp[f]⟩
 |cons y r j=>
  rw[V7];obtain⟨h1,e⟩:=j (min x y);refine⟨?_,λz a=>?_⟩
  .rcases V4.1 h1 with h1|h1
   .rw[h1];rcases Int.le_total x y with h|h
    .rw[Int.min_eq_left h];exact .head _
    .rw[Int.min_eq_right h];exact .tail _ (.head _)
   .exact .tail _ (.tail _ h1)
  .rcases V4.1 a with rfl|a
   .have:=e _ (.head _);omega
   .rcases V4.1 a with rfl|a
    .have:=e _ (.head _);omega
    .exact e _ (.tail _ a)
def ql(m:Λ)(i j:Nat):Prop:=∀(p q:Nat)(x y:Int),p<q->q<=i->q≠j->m[p]?=σ x->m[q]?=σ y->x<=y
def rE(m:Λ)(i:Nat):Prop:=∀(p q:Nat)(x y:Int),p<q->q<i->m[p]?=σ x->m[q]?=σ y->x<=y
def Mc{m:Λ}{i:Nat}(h:rE m i):ql m i i:=λp q x y h1 f j a e=>h p q x y h1 Ω a e
def Md{m:Λ}{i:Nat}(h:ql m i 0):rE m (i+1):=λp q x y h1 f a e=>h p q x y h1 Ω Ω a e
def Me{m:Λ}{i:Nat}{a b:Int}(h:ql m i j)(A:0<j)(r:m[j-1]?=σ a)(w:m[j]?=σ b)(z:a<=b):rE m (i+1):=by
 intro p q x y h1 B e f;by_cases s:q=j
 .subst s;rw[w]at f;cases f;by_cases ac:p=q-1
  .subst ac;rw[r]at e;cases e;exact z
  .have:=h p (q-1) x a Ω Ω Ω e r;omega
 .exact h p q x y h1 Ω s e f
def Mf{m:Λ}{i:Nat}{a b:Int}(h:ql m i j)(H:0<j)(hi:j<=i)(z:m[j-1]?=σ a)(A:m[j]?=σ b)(I:b<a):ql ((m.set j a).set (j-1) b) i (j-1):=by
 intro p q x y h1 w B e f;have C:=(x5.1 A).1;have E:∀(r:Nat),((m.set j a).set (j-1) b)[r]?=if r=j-1 then σ b else if r=j then σ a else m[r]?:=λr=>by
  by_cases h:r=j-1
  .subst h;rw[l9 Θ,ms rfl]
  .rw[Z6 (R7 h),rc h];by_cases aW:r=j
   .subst aW;rw[l9 C,ms rfl]
   .rw[Z6 (R7 aW),rc aW]
 rw[E]at e f;rw[rc B]at f;by_cases s:q=j
 .rw[ms s]at f;cases f;split at e
  .cases e;omega
  .split at e
   .omega
   .exact h p (j-1) x a Ω Ω Ω e z
 .rw[rc s]at f;split at e
  .cases e;have:=h j q b y;by_cases F:j<q
   .exact this F w s A f
   .omega
  .split at e
   .rename_i G;subst G;cases e;exact h (p-1) q a y Ω w s z f
   .exact h p q x y h1 w s e f
def swap_perm{m:Λ}{i:Nat}{a b:Int}(q:i<j)(h:m[i]?=σ a)(f:m[j]?=σ b):((m.set j a).set i b).Perm m:=by
 induction m generalizing i j with
 |nil=>simp at h
 |cons x m p=>
  cases j with
  |zero=>omega
  |succ j=>
   cases i with
   |zero=>
    simp at h f ⊢;subst h;obtain⟨r,f⟩:=x5.1 f;rw[show m=m.take j++m[j]::m.drop (j+1) by simp];rw[T4 _ _ Θ];have e:j-(m.take j).length=0:=Θ
    rw[e,f];simp only[List.set_cons_zero];refine(List.Perm.cons b (List.perm_middle)).F ?_;refine(List.Perm.swap x b _).F ?_;exact List.Perm.cons x List.perm_middle.symm
   |succ i=>
    simp at h f ⊢;exact p Ω h f
def Mg{m:Λ}(h:rE m m.length):m.Pairwise (·<= ·):=by
 rw[U5];intro i j hi a e;exact h i j _ _ e a (x8 hi) (x8 a)
def Good(o:Λ)(n:Nat):Prop:=o.length=n/\∀(i:Nat)(p:Int),o[i]?=σ p->(0<=p/\p<n)/\∀j,j<i->o[j]? ≠σ p
def Good.inj{o:Λ}{i:Nat}{p:Int}(h:Good o n)(hi:o[i]?=σ p)(a:o[j]?=σ p):i=j:=by
 rcases Nat.lt_trichotomy i j with h1|h1|h1
 .exact ro hi ((h.2 j p a).2 i h1)
 .exact h1
 .exact ro a ((h.2 i p hi).2 j h1)
def Cf(m:Λ):Prop:=∀i:Nat,i<m.length->m[i]?=σ (i:Int)
def Cg{o m:Λ}(h:Good o n)(ac:m.Perm o)(J:m.Pairwise (·<= ·)):Cf m:=by
 have r:o.Nodup:=U5.2 λi j hi s B he=>by
  have:=h.inj (i:=i) (j:=j) (p:=o[j]) (by rw[x8 hi,he]) (x8 s);omega
 have w:=ac.nodup_iff.2 r;have C:m.length=n:=by rw[ac.length_eq,h.1]
 have f:∀x∈m,0<=x/\x<(n:Int):=λx y=>by
  obtain⟨i,hi,he⟩:=List.getElem_of_mem (ac.mem_iff.1 y);exact(h.2 i x (by rw[x8 hi,he])).1
 have q:∀(i:Nat)(hi:i+1<m.length),m[i]<m[i+1]:=λi hi=>by
  have h1:=U5.1 J i (i+1) Ω hi Ω;have a:=U5.1 w i (i+1) Ω hi Ω;omega
 have z:∀(i:Nat)(hi:i<m.length),(i:Int)<=m[i]:=by
  intro i;induction i with
  |zero=>intro hi;exact(f _ (P6 hi)).1
  |succ i e=>
   intro hi;have h1:=e Ω;have a:=q i hi;omega
 have A:∀(d i:Nat)(hi:i<m.length),i+d+1=m.length->m[i]<=(i:Int):=by
  intro d;induction d with
  |zero=>
   intro i hi he;have:=(f _ (P6 hi)).2;omega
  |succ d e=>
   intro i hi he;have h1:=e (i+1) Ω Ω;have a:=q i Ω;omega
 intro i hi;rw[x8 hi];have h1:=z i hi;have a:=A (m.length-i-1) i hi Ω;congr 1;omega
def Mh{o m:Λ}(h:Cf m)(ac:m.Perm o):Good o m.length:=by
 have r:m.Nodup:=U5.2 λi j hi a w he=>by
  have h1:=h i hi;have e:=h j a;rw[x8 hi]at h1;rw[x8 a]at e;have h1:=Z5 h1;have e:=Z5 e;omega
 have s:=ac.nodup_iff.1 r;refine⟨ac.length_eq.symm,λi p hi=>⟨?_,λj a f=>?_⟩⟩
 .obtain⟨k,hk,he⟩:=List.getElem_of_mem (ac.mem_iff.2 (x7 hi));have h1:=h k hk;rw[x8 hk,he]at h1;cases h1;omega
 .have q:=(x5.1 hi).1;have:=U5.1 s j i Ω q a;rw[x8 q]at hi;rw[x8 (show j<o.length by omega)]at f;exact this ((Z5 f).F (Z5 hi).symm)
def Good.Ch{o:Λ}{p:Nat}(h:Good o n)(ac:p<n):∃j:Nat,o[j]?=σ (p:Int):=by
 let le:Int->Int->Bool:=λa b=>decide (a<=b);have h1:(o.mergeSort le).Perm o:=List.mergeSort_perm o le;have e:(o.mergeSort le).Pairwise (·<= ·):=by
  refine(List.pairwise_mergeSort (λa b c h1 e=>?_) (λa b=>?_) o).imp λh=>by simpa[le]using h
  .simp[le]at*;omega
  .simp[le];omega
 have f:=Cg h h1 e p (by rw[h1.length_eq,h.1];exact ac);obtain⟨j,q,he⟩:=List.getElem_of_mem (h1.mem_iff.1 (x7 f));exact⟨j,by rw[x8 q,he]⟩
def n5(o x:Λ):Λ:=(X9 o.length).map λ(p:Nat)=>x.getD (o.idxOf (p:Int)) 0
def Ci(o x:Λ):(n5 o x).length=o.length:=by simp[n5]
def Cj{o x:Λ}{p:Int}(h:Good o n)(q:x.length=n)(a:o[j]?=σ p):(n5 o x)[p.toNat]?=x[j]?:=by
 have:=(h.2 j p a).1;have:=(x5.1 a).1;have hm:=x7 a;have e:=List.idxOf_lt_length_of_mem hm;have f:=h.inj (by rw[x8 e,List.getElem_idxOf e]) a;have ac:((p.toNat:Nat):Int)=p:=Ω
 have:=h.1;unfold n5;rw[u4,List.getElem?_range Ω];simp only[Y3,ac,f];rw[u5,x8 (show j<x.length by omega)];rfl
def Ck{o x y:Λ}(h:Good o n)(f:x.length=n)(r:y.length=n)(q:∀(j:Nat)(p:Int),o[j]?=σ p->y[p.toNat]?=x[j]?):y=n5 o x:=by
 refine X0 λp=>?_;have:=h.1;by_cases ac:p<n
 .obtain⟨j,a⟩:=h.Ch ac;have h1:=q j p a;have e:=Cj h f a;rw[u9]at h1 e;rw[h1,e]
 .rw[Y5 Ω,Y5 (by rw[Ci];omega)]
theorem pj:∀{s t:Λ},dx s t↔s.length=t.length/\∀(i:Nat)(a v:Int),s[i]?=σ a->t[i]?=σ v->0<=v/\v<a
 |[],t=>by
  rw[Cd];exact⟨λh=>⟨by rw[h],λi a v h _=>by simp at h⟩,λh=>Z2 h.1.symm⟩
 |k::s,[]=>⟨λh=>ro (tR h) Ξ,λh=>ro h.1 Ξ⟩
 |k::s,v::t=>by
  rw[Cc,pj];refine⟨λ⟨h1,f,j⟩=>⟨by simp[f],λi a u e hu=>?_⟩,λ⟨h1,f⟩=>⟨f 0 k v rfl rfl,by simpa using h1,λi a u e hu=>f (i+1) a u (by simpa using e) (by simpa using hu)⟩⟩;cases i with
  |zero=>simp at e hu;subst e;subst hu;exact h1
  |succ i=>exact j i a u (by simpa using e) (by simpa using hu)
def e5(s o:Λ):Λ:=o.map λp=>s.getD p.toNat 0
def tT(s o:Λ):(e5 s o).length=o.length:=by simp[e5]
def Cl{s o:Λ}{p:Int}(h:Good o n)(J:s.length=n)(a:o[j]?=σ p):(e5 s o)[j]?=s[p.toNat]?:=by
 have:=(h.2 j p a).1;unfold e5;rw[u4,a,Y3,u5,x8 (show p.toNat<s.length by omega)];rfl
def Mi{s o:Λ}(h:Good o n)(J:s.length=n){x:Int}(a:x∈e5 s o):x∈s:=by
 obtain⟨p,ac,rfl⟩:=j5.1 a;obtain⟨j,e,he⟩:=List.getElem_of_mem ac;have:=(h.2 j p (by rw[x8 e,he])).1;rw[u5,x8 (show p.toNat<s.length by omega)];exact P6 _
def ci.Mj{s o:Λ}(a:ci s)(h:Good o n)(J:s.length=n):ci (e5 s o):=
 ⟨by rw[tT,h.1,<-J];exact a.1,λx e=>a.2 x (Mi h J e)⟩
def Mk{s o x:Λ}(h:Good o n)(J:s.length=n)(w:dx (e5 s o) x):dx s (n5 o x):=by
 obtain⟨h1,y⟩:=pj.1 w;rw[tT,h.1]at h1;refine pj.2 ⟨by rw[Ci,h.1,J],λp a v e z=>?_⟩;have ac:p<n:=by have:=(x5.1 e).1;omega
 obtain⟨j,f⟩:=h.Ch ac;have q:=Cl h J f;have r:=Cj h h1.symm f;rw[u9]at q r;exact y j a v (by rw[q,e]) (by rw[<-r,z])
def pk(s cs o:Λ):Λ:=(X9 (aQ (e5 s o)).toNat).map λ(q:Nat)=>bq s cs (n5 o (dr (e5 s o) q))
def Cm(s cs o:Λ):(pk s cs o).length=(aQ (e5 s o)).toNat:=by simp[pk]
def w9{f:Int->Bool}{x:Int}:runN f (x::l)=if f x=v2 then runN f l+1 else 0:=by
 unfold runN;rw[List.takeWhile_cons];by_cases h:f x=v2
 .rw[ms h,ms h,Y1]
 .rw[rc h,rc h];rfl
theorem xa(f:Int->Bool):∀l:Λ,l.dropWhile f=l.drop (runN f l)
 |[]=>rfl
 |x::l=>by
  rw[List.dropWhile_cons,w9];by_cases h:f x=v2
  .rw[ms h,ms h,xa f l];rfl
  .rw[rc h,rc h];rfl
theorem Cn(f:Int->Bool):∀l:Λ,l.takeWhile f=l.take (runN f l)
 |[]=>rfl
 |x::l=>by
  rw[List.takeWhile_cons,w9];by_cases h:f x=v2
  .rw[ms h,ms h,List.take_succ_cons,Cn f l]
  .rw[rc h,rc h];rfl
theorem Co{f:Int->Bool}:∀{l:Λ}{b:Int}{q:Λ},l.dropWhile f=b::q->f b=v6
 |x::l,b,q,h=>by
  rw[List.dropWhile_cons]at h;by_cases a:f x=v2
  .rw[ms a]at h;exact Co h
  .rw[rc a]at h;have:=(List.cons.inj h).1;subst this;cases e:f x
   .rfl
   .exact ro e a
def xb{p:Λ}{a:Nat}{b:Int}{q:Λ}(h:p.drop a=b::q):p[a]?=σ b:=by
 have:=R3 (xs:=p) (i:=a) (j:=0);rw[h]at this;simpa using this.symm
def Ml(p:Λ)(at_:Nat):match qf p at_ with
  | .word a b=>lex (p.drop at_)=(((p.take b).drop a)::(lex (p.drop b)).1,(lex (p.drop b)).2)
  | .none=>lex (p.drop at_)=([],v2)
  | .text _=>lex (p.drop at_)=([],v6):=by
 have j:(p.drop at_).dropWhile cH=p.drop (gO p at_):=by rw[xa,List.drop_drop];rfl
 have s:(p.drop (gO p at_)).dropWhile bV=p.drop (j2 p (gO p at_)):=by rw[xa,List.drop_drop];rfl
 have y:(p.drop (gO p at_)).takeWhile bV=(p.take (j2 p (gO p at_))).drop (gO p at_):=by
  rw[Cn,List.drop_take];congr 1;unfold j2;omega
 have h:runN bV (p.drop (gO p at_))=j2 p (gO p at_)-gO p at_:=by unfold j2;omega
 have K:gO p at_<=j2 p (gO p at_):=by unfold j2;omega
 unfold qf;generalize gO p at_=a at*;generalize j2 p a=b at*;by_cases h1:b<p.length/\(∀c,p[b]?=σ c->cH c=v6)
 .rw[ms h1];simp only;rw[lI,j];cases e:p.drop a with
  |nil=>
   have:=List.drop_eq_nil_iff.1 e;omega
  |cons x q=>
   simp only;rw[e]at s y h;by_cases f:bV x=v2
   .rw[ms f,s];cases w:p.drop b with
    |nil=>have:=List.drop_eq_nil_iff.1 w;omega
    |cons c r=>
     simp only;rw[h1.2 c (xb w)];rfl
   .rw[rc f]
 .rw[rc h1];by_cases z:a=b
  .rw[ms z];simp only;subst z;rw[lI,j];cases e:p.drop a with
   |nil=>rfl
   |cons x q=>
    exfalso;have A:=xb e;have F:=(x5.1 A).1;rw[e]at h;rw[e]at j;have G:=Co j;refine h1 ⟨F,λc B=>?_⟩;rw[A]at B;cases B;exact G
  .rw[rc z];simp only;rw[lI (p.drop at_),j];cases e:p.drop a with
   |nil=>
    rw[e]at h;have:runN bV []=0:=rfl;omega
   |cons x q=>
    simp only;rw[e]at s y h;have f:bV x=v2:=by
     rw[w9]at h;by_cases f:bV x=v2
     .exact f
     .rw[rc f]at h;omega
    rw[ms f,s,y];cases w:p.drop b with
    |nil=>simp only;rw[lI []];rfl
    |cons c r=>
     simp only;have C:=xb w;have H:=(x5.1 C).1;have I:cH c=v2:=by
      cases J:cH c with
      |true=>rfl
      |false=>exact ro ⟨H,λd E=>by rw[C]at E;cases E;exact J⟩ h1
     rw[ms I]
def iK(w:x6)(g:Nat)(R:Nat->Prop)(hp:List (Λ))(e:Bool):Prop:=∃a p at_,nq w g a p at_ (-1)/\(∀r,lw a r->R r)/\lex (p.drop at_)=(hp,e)
def iK.aa{g:Nat}{e:Bool}(h:iK w g R hp e)(f:af S w I)(q:¬S g)(s:∀r,R r->¬S r):iK I g R hp e:=by
 obtain⟨x,p,a,⟨h1,y,z,A,bb,B⟩,j,C⟩:=h;exact⟨x,p,a,⟨h1,y,z,A.aa f q,bb,bw B f λr E=>s r (j r E)⟩,j,C⟩
def iK.words{g:Nat}{q:Bool}(h:iK w g R hp q):hp.length<=100000/\∀t∈hp,Bytes t/\t≠[]/\t.length<=100000:=by
 obtain⟨x,p,a,⟨y,z,A,_⟩,_,f⟩:=h;have B:(p.drop a).length<=100000:=by rw[List.length_drop];omega
 have e:=rr _ (p.drop a) (o4 _);rw[f]at e;refine⟨by show hp.length<=_;have e:hp.length<=_:=e;omega,λt r=>?_⟩;have j:=tG _ (p.drop a) (o4 _) t (by rw[f];exact r);refine⟨λb s=>?_,j.1,Ω⟩;have:=ty (j.2.1 b s);omega
def Mm(w:x6)(g:Nat)(R:Nat->Prop)(hp:List (Λ))(a:Bool)(v:x4)(I:x6):Prop:=af (λr=>r=g) w I/\match hp with
 |t::l=>iK I g R l a/\∃n:Int,v= .tuple #[cf t,Δ n,Δ 0]
 |[]=>∃n:Int,v= .tuple #[cf [],Δ n,Δ (if a then 2 else 11)]
def rF{g:Nat}{z:Bool}(h:iK w g R hp z):ak v8 wu [Γ g] w (Mm w g R hp z):=by
 obtain⟨A,p,a,h1,B,q⟩:=h;refine(LS h1).Y ?_;intro v I _ hw;have e:=Ml p a;unfold rA at hw;cases r:qf p a with
 |word x y=>
  rw[r]at hw e;simp only at hw e;rw[q]at e;obtain⟨rfl,s,J⟩:=hw;obtain⟨f,j⟩:=Prod.mk.inj e;subst f j;exact⟨s,⟨A,p,y,J,B,rfl⟩,_,rfl⟩
 |none=>
  rw[r]at hw e;simp only at hw e;rw[q]at e;obtain⟨f,j⟩:=Prod.mk.inj e;subst f j;obtain⟨n,rfl,C⟩:=hw;exact⟨C.aa _,_,rfl⟩
 |text b=>
  rw[r]at hw e;simp only at hw e;rw[q]at e;obtain⟨f,j⟩:=Prod.mk.inj e;subst f j;obtain⟨rfl,s,_⟩:=hw;exact⟨s,_,rfl⟩
def lK(w:Λ):x4:=match gM w with
 |some n=>.tuple #[Δ n,Δ 0]
 |none=>.tuple #[Δ 0,Δ 4]
def Cp{i:Nat}{b:Int}(hi:l[i]?=σ b):(l.take (i+1)).all gL=((l.take i).all gL&&gL b):=by
 rw[r9,hi,List.all_append];simp
def Cq{i:Nat}{b:Int}(hi:l[i]?=σ b):(l.take (i+1)).foldl ff 0=ff ((l.take i).foldl ff 0) b:=by
 rw[r9,hi,S2];rfl
def Cr(a:l≠[])(h:l.all gL=v2):lJ l=σ (l.foldl ff 0):=by
 unfold lJ;cases l with
 |nil=>exact ro rfl a
 |cons x l=>simp only[h,if_true]
def Cs{i:Nat}{b:Int}(hi:l[i]?=σ b)(a:gL b=v6):lJ l=ν:=by
 unfold lJ;cases l with
 |nil=>simp at hi
 |cons x l=>
  simp only;rw[rc];intro h;have:=List.all_eq_true.1 h b (x7 hi);rw[a]at this;cases this
def qm(w l:Λ)(s:Int):Prop:=(s=1\/s= -1)/\gM w=(lJ l).map λn=>s*n
def Ct:qm (45::l) l (-1):=⟨.inr rfl,by simp only[gM];congr 1;funext n;omega⟩
def Cu{w:Λ}(h:∀b,w[0]?=σ b->b≠45):qm w w 1:=⟨.inl rfl,by
 have e:gM w=lJ w:=by
  unfold gM;cases w with
  |nil=>rfl
  |cons x l=>
   have:=h x rfl;split
   .rename_i l' he;exact ro (List.cons.inj he).1 this
   .rfl
 rw[e];cases lJ w with
 |none=>rfl
 |some n=>simp⟩
def tU{w:Λ}{s:Int}(h:qm w l s)(a:lJ l=ν):lK w= .tuple #[Δ 0,Δ 4]:=by
 unfold lK;rw[h.2,a];rfl
def Cv{w:Λ}{s n:Int}(h:qm w l s)(a:lJ l=σ n):lK w= .tuple #[Δ (s*n),Δ 0]:=by
 unfold lK;rw[h.2,a];rfl
def Mn(B:Bytes l)(L:l.length<=100000):ak v8 JA [cf l] w λv I=>v=lK l/\Ext w I:=by
 refine az func171 ?_;rw[LB];refine i9 (λS W U=>Ext w U/\∃(m:Λ)(s:Int),S=cf m/\W=Δ s/\Bytes m/\m.length<=100000/\qm l m s) ?_ ?_
 .rintro _ _ U ⟨H,m,s,rfl,rfl,J,ag,C⟩;rw[BI J (λb a=>by cases a),al];refine⟨λe=>⟨by rw[tU C (by rw[e];rfl)],H⟩,λe=>?_⟩;refine wW db.u cT.u cO.u J Ω λbv V M N _=>?_;rw[a1 cT.u N];refine q3.range m.length (λi _ _ c E=>Ext V E/\c=Δ ((m.take i).foldl ff 0)/\(m.take i).all gL=v2) Ω ⟨Ext.refl _,rfl,rfl⟩ ?_ ?_
  .rintro i X t3 _ E Y hi ⟨f,rfl,j⟩ Z;obtain⟨b,q⟩:=aD (l:=m) hi;have ah:=J b (x7 q);refine bC Ω ?_;refine BE (λ_ _ c G=>Ext V G/\c=Δ ((m.take (i+1)).foldl ff 0)/\(m.take (i+1)).all gL=v2) ?_ ?_
   .rintro ai aj c G aa;rw[aO];exact Z _ _ _ _ aa
   intro ax p;rw[bh cT.u cO.i Ψ (N.W f) q];refine aY (λv G=>E=G/\v= .bool (!gL b)) ?_ ?_
   rotate_left
   .intro ab z;rw[aT,al];refine⟨λh=>z _ _ ⟨rfl,by unfold gL;rw[s2 Ω];rfl⟩,λh=>?_⟩;rw[bP];refine z _ _ ⟨rfl,?_⟩;unfold gL;congr 1;by_cases O:57<b
    .rw[rs O,s2 Ω];rfl
    .rw[s2 O,rs Ω];rfl
   rintro _ _ ⟨rfl,rfl⟩;cases K:gL b with
   |false=>
    rw[W6,bO];exact⟨by rw[tU C (Cs q K)],(H.F M).F f⟩
   |true=>
    rw[X3,a7];have am:=ty K;have A:=tH j ⟨S9 _,Φ⟩;rw[Cq q,Cp q,j,K]at p;generalize (m.take i).foldl ff 0=n at*;have A:=A;rw[dA,wrap_u8 Ω Ω,fC cO.u av.u,m1 Ω Ω,dA,m1 Ω Ω,nU Φ,Int.tdiv_eq_ediv_of_nonneg Ω];rw[m1 Ω Ω,bP,al];refine⟨λac=>p _ _ _ _ ⟨f,?_,rfl⟩,λac=>?_⟩
    .congr 1;unfold ff ay;omega
    .rw[fB,m1 Ω Ω,aO,m1 Ω Ω];refine p _ _ _ _ ⟨f,?_,rfl⟩;congr 1;unfold ff ay;omega
  .rintro X t3 _ E Y ⟨f,rfl,j⟩;rw[o9]at j ⊢;refine b3 Ω ?_;have A:=tH j ⟨S9 _,Φ⟩;have A:0<=m.foldl ff 0/\m.foldl ff 0<=4611686018427387904:=A;rw[fB];have hw:W5.wrap (s*m.foldl ff 0)=s*m.foldl ff 0:=by
    rcases C.1 with rfl|rfl<;>exact m1 Ω Ω
   rw[hw];exact⟨by rw[Cv C (Cr e j)],(H.F M).F f⟩
 .intro ax p;refine aY (λv V=>w=V/\∃c:Bool,v= .bool c/\(c=v2↔l[0]?=σ 45)) ?_ ?_
  .rintro _ _ ⟨rfl,c,rfl,P⟩;rw[cb];refine⟨λad=>?_,λQ=>?_⟩
   .intro an ae _ _;have R:=P.1 ad;cases l with
    |nil=>simp at R
    |cons x r=>
     have af:x=45:=by simpa using R
     subst af;rw[BJ (y:=1) (i:=1) rfl db.u Ξ];exact p _ _ _ ⟨ae,r,-1,rfl,rfl,λb a=>B b (.tail _ a),by simp at L;omega,Ct⟩
   .refine p _ _ _ ⟨Ext.refl _,l,1,rfl,rfl,B,L,Cu λb a he=>?_⟩;subst he;rw[P.2 a]at Q;cases Q
  .intro ab z;rw[LG B (λb a=>by cases a),al];refine⟨λe=>?_,λe=>z _ _ ⟨rfl,v6,rfl,⟨λh=>(by cases h),λh=>by rw[X5.1 e]at h;simp at h⟩⟩⟩;cases l with
   |nil=>exact ro rfl e
   |cons x r=>
    rw[rx (y:=0) (b:=x) rfl db.u B rfl,bl];exact z _ _ ⟨rfl,_,rfl,Ξ⟩
def tV{s s':aK}{w:Λ}(h:ea s=σ (w,s')):s.hp=w::s'.hp/\s'={s with hp:=s'.hp}:=by
 unfold ea at h;cases a:s.hp with
 |nil=>rw[a]at h;cases h
 |cons x l=>
  rw[a]at h;simp only[X7,S7]at h;obtain⟨rfl,rfl⟩:=h;exact⟨rfl,rfl⟩
def ji{n:Int}{s s':aK}(h:bm lo hi s=σ (n,s')):(lo<=n/\n<=hi)/\(∃w,s.hp=w::s'.hp/\gM w=σ n)/\s'={s with hp:=s'.hp}:=by
 unfold bm at h;cases hw:ea s with
 |none=>rw[hw]at h;cases h
 |some q=>
  obtain⟨w,s1⟩:=q;rw[hw]at h;simp only at h;obtain⟨h1,e⟩:=tV hw;cases a:gM w with
  |none=>rw[a]at h;cases h
  |some m=>
   rw[a]at h;simp only at h;split at h
   .rename_i f;simp only[X7,S7]at h;obtain⟨rfl,rfl⟩:=h;exact⟨f,⟨w,h1,a⟩,e⟩
   .cases h
def jF(k:Nat)(s s':aK):Prop:=s.hp.length=s'.hp.length+k/\s'={s with hp:=s'.hp}
def jF.refl(s:aK):jF 0 s s:=⟨rfl,rfl⟩
def jF.F{a b:Nat}{r s t:aK}(h:jF a r s)(k:jF b s t):jF (a+b) r t:=⟨by have:=h.1;have:=k.1;omega,by rw[k.2,h.2]⟩
def dL{n:Int}{s s':aK}(h:bm lo hi s=σ (n,s')):jF 1 s s':=by
 obtain⟨_,⟨w,h1,_⟩,a⟩:=ji h;exact⟨by rw[h1];simp,a⟩
def jF.eqs{k:Nat}{s s':aK}(h:jF k s s'):s'.m5=s.m5/\s'.big=s.big/\s'.m6=s.m6:=by rw[h.2];exact⟨rfl,rfl,rfl⟩
theorem lL{α:Type}{f:List α->aK->Option (α×aK)}(e:List α->aK->Prop)(r:∀acc s a s',e acc s->f acc s=σ (a,s')->e (acc++[a]) s'):
  ∀(n:Nat)(acc:List α)(s:aK)(l:List α)(s':aK),e acc s->cX f n acc s=σ (l,s')->e l s'/\l.length=acc.length+n
 |0,acc,s,l,s',j,h=>by
  simp only[cX,X7,S7]at h;obtain⟨rfl,rfl⟩:=h;exact⟨j,Ω⟩
 |n+1,acc,s,l,s',j,h=>by
  simp only[cX]at h;cases p:f acc s with
  |none=>rw[p]at h;cases h
  |some q=>
   obtain⟨a,s1⟩:=q;rw[p]at h;have:=lL e r n _ _ _ _ (r _ _ _ _ j p) h;exact⟨this.1,by rw[this.2];simp;omega⟩
def xc{n:Int}{k:Nat}{s s':aK}(h:fg n k s=σ (l,s')):jF l.length s s'/\l.length=k/\l.Nodup/\∀v∈l,0<=v/\v<n:=by
 have:=lL (λacc t=>jF acc.length s t/\acc.Nodup/\∀v∈acc,0<=v/\v<n) (λacc t a bt ⟨h1,p,r⟩ h=>by
  cases f:bm 0 (n-1) t with
  |none=>rw[f]at h;cases h
  |some q=>
   obtain⟨v,A⟩:=q;rw[f]at h;simp only at h;split at h
   .cases h
   .rename_i w;simp only[X7,S7]at h;obtain⟨rfl,rfl⟩:=h;have B:=(ji f).1;refine⟨by rw[n9];exact h1.F (dL f),List.nodup_append.2 ⟨p,Ξ,λx e y j he=>?_⟩,λx e=>?_⟩
    .rw[c9]at j;subst j;subst he;exact w e
    .rcases j9.1 e with e|e
     .exact r x e
     .rw[c9.1 e];omega) k [] s l s' ⟨jF.refl s,List.nodup_nil,λv z=>by cases z⟩ h
 exact⟨this.1.1,by simpa using this.2,this.1.2.1,this.1.2.2⟩
theorem xd:∀{e acc:Λ}{s s':aK}{t:Λ},kx e acc s=σ (t,s')->∃u,t=acc++u/\dx e u/\jF u.length s s'
 |[],acc,s,s',t,h=>by
  simp only[kx,X7,S7]at h;obtain⟨rfl,rfl⟩:=h;exact⟨[],Ξ,Cd.2 rfl,jF.refl s⟩
 |k::e,acc,s,s',t,h=>by
  simp only[kx]at h;cases a:bm 0 (k-1) s with
  |none=>rw[a]at h;cases h
  |some q=>
   obtain⟨v,s1⟩:=q;rw[a]at h;obtain⟨u,rfl,hu,f⟩:=xd h;have j:=(ji a).1;exact⟨v::u,Ξ,Cc.2 ⟨Ω,hu⟩,by rw[Y1,Nat.add_comm];exact(dL a).F f⟩
def n7(co:Λ)(l:List (Λ×Int)):Prop:=(l.map (·.1)).Nodup/\∀p∈l,dx co p.1/\0<=p.2
def qn{acc:List (Λ×Int)}{s s':aK}{a:Λ×Int}(h:eN co acc s=σ (a,s')):a.1∉acc.map (·.1)/\dx co a.1/\0<=a.2/\jF (a.1.length+1) s s':=by
 unfold eN at h;cases f:kx co [] s with
 |none=>rw[f]at h;cases h
 |some q=>
  obtain⟨t,s1⟩:=q;rw[f]at h;simp only at h;obtain⟨u,hu,j,p⟩:=xd f;rw[List.nil_append]at hu;subst hu;cases e:bm 0 ay s1 with
  |none=>rw[e]at h;cases h
  |some q=>
   obtain⟨c,w⟩:=q;rw[e]at h;simp only at h;split at h
   .cases h
   .rename_i r;simp only[X7,S7]at h;obtain⟨rfl,rfl⟩:=h;exact⟨r,j,(ji e).1.1,p.F (dL e)⟩
structure Cw(s s':aK):Prop where
 hp:s'.hp.length<s.hp.length
 big:s.big=v2->s'.big=v2
def Mo{s s':aK}{l:List (Λ×Int)}(A:∀q∈s.m6,n7 q.1 q.2/\q.2.length<=N)(M:s.hp.length<=N)(h:eb co s=σ (l,s')):
  n7 co l/\l.length<=N/\s'.m6=s.m6/\Cw s s':=by
 unfold eb at h;cases f:bm (-ay) ay s with
 |none=>rw[f]at h;cases h
 |some q=>
  obtain⟨n,s1⟩:=q;rw[f]at h;simp only at h;have h1:=dL f;obtain⟨O,B,j⟩:=h1.eqs;split at h
  .cases J:s1.m6[(-n-1).toNat]? with
   |none=>rw[J]at h;cases h
   |some q=>
    obtain⟨z,l'⟩:=q;rw[J]at h;simp only at h;split at h
    .rename_i F;simp only[X7,S7]at h;obtain⟨rfl,rfl⟩:=h;subst F;have hm:=x7 J;rw[j]at hm;exact⟨(A _ hm).1,(A _ hm).2,j,by have:=h1.1;omega,λe=>by rw[B];exact e⟩
    .cases h
  .have:=lL (λacc t=>n7 co acc/\t.m6=s.m6/\t.hp.length+acc.length<=s1.hp.length/\(s.big=v2->t.big=v2)) (λacc t a bt ⟨g1,r,G,w⟩ g=>by
    obtain⟨H,I,K,C⟩:=qn g;obtain⟨f1,f2,f3⟩:=C.eqs;refine⟨⟨?_,λp ac=>?_⟩,by rw[f3,r],by have:=C.1;simp only[n9,T5];omega,λe=>by rw[f2];exact w e⟩
    .rw[Z4];exact List.nodup_append.2 ⟨g1.1,Ξ,λx L y E he=>by
      simp only[T3,List.map_nil,c9]at E;subst E;subst he;exact H L⟩
    .rcases j9.1 ac with ac|ac
     .exact g1.2 p ac
     .rw[c9.1 ac];exact⟨I,K⟩) n.toNat [] (bi (decide (16384<min (s1.m5+n) ay)) {s1 with m5:=min (s1.m5+n) ay}) l s' ⟨⟨Ξ,λp ac=>by cases ac⟩,j,by simp[bi],λe=>by simp[bi,B,e]⟩ h
   obtain⟨⟨g1,r,G,w⟩,_⟩:=this;have:=h1.1;exact⟨g1,Ω,r,⟨Ω,w⟩⟩
structure tW(all:Λ)(N:Nat)(f:cE):Prop where
 scope:f.scope.Nodup/\∀v∈f.scope,0<=v/\v<all.length
 co:f.co=f.scope.map λv=>all.getD v.toNat 0
 other:0<=f.other
 lines:n7 f.co f.lines
 len:f.lines.length<=N
def Mp{all:Λ}{s s':aK}{f:cE}(B:∀q∈s.m6,n7 q.1 q.2/\q.2.length<=N)(V:s.hp.length<=N)(h:ds all s=σ (f,s')):
  tW all N f/\(∀q∈s'.m6,n7 q.1 q.2/\q.2.length<=N)/\Cw s s'/\(s'.big=v6->f.scope.length<=6/\dB f.co=v6):=by
 unfold ds at h;cases C:bm (-ay) ay s with
 |none=>rw[C]at h;cases h
 |some q=>
 obtain⟨a,s1⟩:=q;rw[C]at h;simp only at h;have t0:=dL C;obtain⟨W,M,O⟩:=t0.eqs;cases h1:fg all.length a.natAbs s1 with
 |none=>rw[h1]at h;cases h
 |some q=>
 obtain⟨sc,w⟩:=q;rw[h1]at h;simp only at h;obtain⟨F,X,P,Q⟩:=xc h1;obtain⟨Y,R,S⟩:=F.eqs;generalize T:sc.map (λv=>all.getD v.toNat 0)=co at h;cases y:bm 0 ay (bi (decide (6<a.natAbs)||dB co) w)with
 |none=>rw[y]at h;cases h
 |some q=>
 obtain⟨other,p⟩:=q;rw[y]at h;simp only at h;have G:=dL y;obtain⟨Z,z,x⟩:=G.eqs;have x:p.m6=s.m6:=by rw[x];show w.m6=_;rw[S,O]
 have aa:p.hp.length<s.hp.length:=by
  have:=t0.1;have:=F.1;have A:=G.1;have:(bi (decide (6<a.natAbs)||dB co) w).hp.length=w.hp.length:=rfl;omega
 cases A:eb co p with
 |none=>rw[A]at h;cases h
 |some q=>
 obtain⟨lines,j⟩:=q;rw[A]at h;simp only[X7,S7]at h;obtain⟨rfl,rfl⟩:=h;obtain⟨g1,H,I,J⟩:=Mo (by rw[x];exact B) Ω A;have U:=J.big;have gt:=J.hp;have K:p.big=v2->∀E:aK,E=(if a<0 then{j with m6:=j.m6++[(co,lines)]}else j)->E.big=v2:=λr E he=>by
  rw[he];split<;>exact U r
 have z:p.big=(s.big||(decide (6<a.natAbs)||dB co)):=by
  rw[z];show(w.big||_)=_;rw[R,M]
 refine⟨⟨⟨P,Q⟩,T.symm,(ji y).1.1,g1,H⟩,λq e=>?_,⟨?_,λr=>K (by rw[z,r];rfl) _ rfl⟩,λr=>?_⟩
 .split at e
  .rcases j9.1 e with e|e
   .rw[show j.m6=s.m6 by rw[I,x]]at e;exact B q e
   .rw[c9.1 e];exact⟨g1,H⟩
  .rw[show j.m6=s.m6 by rw[I,x]]at e;exact B q e
 .have:(if a<0 then{j with m6:=j.m6++[(co,lines)]}else j).hp=j.hp:=by split<;>rfl
  rw[this];omega
 .have L:p.big=v6:=by
   cases e:p.big with
   |false=>rfl
   |true=>rw[K e _ rfl]at r;cases r
  rw[z,U1,U1,decide_eq_false_iff_not]at L;show sc.length<=6/\_;exact⟨Ω,L.2.2⟩
structure fq(N:Nat)(f:ce):Prop where
 name:f.name.length<=64
 k:1<=f.k/\f.k<=2147483648
 co:1<=f.co.length/\f.co.length<=64/\∀z∈f.co,1<=z/\z<=32
 mr:f.d9.length<=256
 d9:∀x∈f.d9,tW f.co N x/\x.scope.length<=6/\dB x.co=v6
def rG{b:Bool}{s:aK}(h:(bi b s).big=v6):s.big=v6/\b=v6:=by
 have h:(s.big||b)=v6:=h;exact U1.1 h
def Mq{a b:aK}(h:a.big=v2->b.big=v2)(e:b.big=v6):a.big=v6:=by
 cases f:a.big with
 |false=>rfl
 |true=>rw[h f]at e;cases e
def Cx{s s':aK}{f:ce}(J:s.m6=[])(h:jD s=σ (f,s'))(e:s'.big=v6):fq s.hp.length f/\f.name∈s.hp:=by
 unfold jD at h;cases K:ea s with
 |none=>rw[K]at h;cases h
 |some q=>
 obtain⟨name,s0⟩:=q;rw[K]at h;simp only at h;obtain⟨U,V⟩:=tV K;cases h1:bm 1 ay (bi (decide (64<name.length)) s0)with
 |none=>rw[h1]at h;cases h
 |some q=>
 obtain⟨n,s1⟩:=q;rw[h1]at h;simp only at h;have r:=dL h1;cases L:bm 1 ay (bi (decide (64<n)) s1)with
 |none=>rw[L]at h;cases h
 |some q=>
 obtain⟨most,Z⟩:=q;rw[L]at h;simp only at h;have M:=dL L;cases N:bm 0 ay Z with
 |none=>rw[N]at h;cases h
 |some q=>
 obtain⟨E,F⟩:=q;rw[N]at h;simp only at h;have t3:=dL N;cases G:bm 1 ay (bi (decide (256<E)) F)with
 |none=>rw[G]at h;cases h
 |some q=>
 obtain⟨k,A⟩:=q;rw[G]at h;simp only at h;have t4:=dL G;cases O:cX (gN most) n.toNat [] (bi (decide (2147483648<k)) A)with
 |none=>rw[O]at h;cases h
 |some q=>
 obtain⟨co,H⟩:=q;rw[O]at h;simp only at h;cases P:cX (λ_ s=>ds co s) E.toNat [] H with
 |none=>rw[P]at h;cases h
 |some q=>
 obtain⟨d9,aa⟩:=q;rw[P]at h;simp only[X7,S7]at h;obtain⟨rfl,rfl⟩:=h;have ab:=lL (λ(acc:Λ)t=>t.m6=[]/\t.hp.length<=s.hp.length/\(t.big=v6->A.big=v6/\k<=2147483648/\∀z∈acc,1<=z/\z<=32)) (λacc t a bt ⟨g1,T,Q⟩ g=>by
  unfold gN at g;cases w:bm 1 most t with
  |none=>rw[w]at g;cases g
  |some q=>
   obtain⟨z,r⟩:=q;rw[w]at g;simp only[X7,S7]at g;obtain⟨rfl,rfl⟩:=g;have W:=dL w;obtain⟨aA,ac,ad⟩:=W.eqs;have:=(ji w).1;refine⟨by show r.m6=[];rw[ad,g1],by show r.hp.length<=_;have:=W.1;omega,λe=>?_⟩;obtain⟨j,B⟩:=rG e;rw[ac]at j;obtain⟨R,S,ae⟩:=Q j;refine⟨R,S,λy C=>?_⟩;rcases j9.1 C with C|C
   .exact ae y C
   .rw[c9.1 C];have:=of_decide_eq_false B;omega) n.toNat [] (bi (decide (2147483648<k)) A) co H ⟨by
     show A.m6=[];rw[t4.eqs.2.2];show F.m6=[];rw[t3.eqs.2.2,M.eqs.2.2];show s1.m6=[];rw[r.eqs.2.2];show s0.m6=[];rw[V];exact J,by
     show A.hp.length<=_;have af:=r.1;have ag:=M.1;have:=t3.1;have a4:=t4.1;have j:(bi (decide (64<name.length)) s0).hp=s0.hp:=rfl;have B:(bi (decide (64<n)) s1).hp=s1.hp:=rfl;have I:(bi (decide (256<E)) F).hp=F.hp:=rfl;rw[j]at af;rw[B]at ag;rw[I]at a4;rw[U,Y1];omega,λe=>by
     obtain⟨j,B⟩:=rG e;have:=of_decide_eq_false B;exact⟨j,Ω,λz ah=>by cases ah⟩⟩ O
 obtain⟨⟨ai,aj,ak⟩,al⟩:=ab;have am:=lL (λ(acc:List cE)t=>(∀q∈t.m6,n7 q.1 q.2/\q.2.length<=s.hp.length)/\t.hp.length<=s.hp.length/\(t.big=v6->H.big=v6/\∀x∈acc,tW co s.hp.length x/\x.scope.length<=6/\dB x.co=v6)) (λacc t a bt ⟨g1,T,Q⟩ g=>by
  obtain⟨an,ao,X,ap⟩:=Mp g1 T g;refine⟨ao,by have:=X.hp;omega,λe=>?_⟩;obtain⟨R,S⟩:=Q (Mq X.big e);refine⟨R,λx p=>?_⟩;rcases j9.1 p with p|p
  .exact S x p
  .rw[c9.1 p];exact⟨an,ap e⟩) E.toNat [] H d9 aa ⟨(by rw[ai];intro q w;cases w),aj,λe=>⟨e,λx p=>by cases p⟩⟩ P
 obtain⟨⟨_,_,d3⟩,d4⟩:=am;obtain⟨aq,d5⟩:=d3 e;obtain⟨I,au,av⟩:=ak aq;rw[t4.eqs.2.1]at I;obtain⟨Y,aw⟩:=rG I;rw[t3.eqs.2.1,M.eqs.2.1]at Y;obtain⟨j,ax⟩:=rG Y;rw[r.eqs.2.1]at j;obtain⟨_,az⟩:=rG j;have:=of_decide_eq_false aw;have:=of_decide_eq_false ax;have:=of_decide_eq_false az;have:=(ji h1).1;have hk:=(ji G).1;simp only[List.length_nil,X6]at al d4;exact⟨⟨by show name.length<=64;omega,⟨hk.1,au⟩,⟨by show 1<=co.length;omega,by show co.length<=64;omega,av⟩,by show d9.length<=256;omega,d5⟩,by rw[U];exact .head _⟩
def k4(x:cE)(k:Int)(t:Λ):Int:=min (match x.lines.find? (λp=>decide (p.1=t))with
 |some p=>p.2
 |none=>x.other) k
def bx(l:Λ):Λ:=((X9 64).map λ(v:Nat)=>(v:Int)).filter λv=>decide (v∈l)
def bN(co scope:Λ):Λ:=scope.map λv=>co.getD v.toNat 0
def qo(scope a t:Λ):Λ:=scope.map λv=>t.getD (a.idxOf v) 0
abbrev cR:Type:=Λ×Λ
def jG(co:Λ)(k:Int)(x:cE):cR:=(bx x.scope,(br (bN co (bx x.scope))).map λt=>k4 x k (qo x.scope (bx x.scope) t))
def ez(k:Int)(a b:Λ):Λ:=List.zipWith (λx y=>min (x+y) k) a b
def jH(k:Int)(acc:List cR)(g:cR):List cR:=if g.1∈acc.map (·.1)then acc.map λh=>if h.1=g.1 then(h.1,ez k h.2 g.2)else h else acc++[g]
def kB:Λ->Int
 |[]=>0
 |x::l=>x*64 ^ l.length+kB l
def dn(l:Λ):Int:=l.length*64 ^ 6+kB l
def iL(g:cR):List cR->List cR
 |[]=>[g]
 |h::l=>if dn h.1<dn g.1 then h::iL g l else g::h::l
def fV(g:cR):Bool:=g.2.any λc=>decide (0<c)
def fW(f:ce):List cR:=(f.d9.map (jG f.co f.k)).foldl (jH f.k) []
def fX(f:ce):List cR:=((fW f).filter fV).foldl (λl g=>iL g l) []
structure aI where
 k:Int
 co:Λ
 zero:Int
 unary:List (Λ)
 d9:List cR
deriving DecidableEq
def cK(f:ce):aI:=(fX f).foldl (λn g=>match g.1 with
 |[]=>{n with zero:=g.2.getD 0 0}
 |[v]=>{n with unary:=n.unary.set v.toNat g.2}
 |_=>{n with d9:=n.d9++[g]}) ⟨f.k,f.co,0,f.co.map λz=>o6 z.toNat 0,[]⟩
abbrev lM:Type:=Rd (Λ)×Rd (List (Λ×Int))
def bM(g gs:Nat)(A:ah):ah:=λr=>r=g\/r=gs\/A r
def jj(gs:Nat)(e big a f m5:Int)(sv:x4):List x4:=[Γ gs,Δ e,Δ big,Δ a,Δ f,Δ m5,sv]
def cV(g gs:Nat)(A:ah)(B:ah):ah:=λr=>¬bM g gs A r/\B r
def mu(w:x6)(g gs:Nat)(A:ah)(B:ah):Prop:=g≠gs/\¬A g/\¬A gs/\(∀r,bM g gs A r->r<w.heap.size)/\∀r,B r->r<w.heap.size
def er(w:x6)(g gs:Nat)(A:ah)(B:ah)(s:aK)(a:Bool):Prop:=mu w g gs A B/\iK w gs (cV g gs A B) s.hp a/\(0<=s.m5/\s.m5<=ay/\s.m6.length+s.hp.length<=100000)/\
 ∃big e f m5 sv,ag w g cF (jj gs 0 big e f m5 sv)/\((s.big=v2↔big≠0)/\(s.big=v6->m5=s.m5))/\bs A (cV g gs A B) w [sv] (show List lM from s.m6)
def fh(w:x6)(g gs:Nat)(A:ah)(B:ah):Prop:=mu w g gs A B/\∃(e big a f m5:Int)(sv:x4)(l:List lM),ag w g cF (jj gs e big a f m5 sv)/\(e≠0/\l.length<=100000)/\bs A (cV g gs A B) w [sv] l
def mu.aa{g:Nat}{A:ah}{B:ah}(h:mu w g gs A B)(e:af S w I):mu I g gs A B:=by
 obtain⟨h1,f,j,p,q⟩:=h;exact⟨h1,f,j,λr a=>S3 (p r a) e.size,λr a=>S3 (q r a) e.size⟩
def Cy{g:Nat}{A:ah}{B:ah}(a:∀r,A r->¬S r)(e:∀r,cV g gs A B r->¬S r):∀r,A r\/cV g gs A B r->¬S r:=λr h=>h.elim (a r) (e r)
def er.aa{g:Nat}{A:ah}{B:ah}{s:aK}(h:er w g gs A B s f)(a:af S w I)(e:∀r,bM g gs A r->¬S r)(j:∀r,cV g gs A B r->¬S r):er I g gs A B s f:=by
 obtain⟨h1,p,q,big,x,y,m5,sv,z,C,E⟩:=h;exact⟨h1.aa a,p.aa a (e gs (.inr (.inl rfl))) j,q,big,x,y,m5,sv,z.aa a (e g (.inl rfl)),C,ao.aa E a λr _ h=>Cy (λr F=>e r (.inr (.inr F))) j r h⟩
def fh.aa{g:Nat}{A:ah}{B:ah}(h:fh w g gs A B)(a:af S w I)(f:∀r,bM g gs A r->¬S r)(j:∀r,cV g gs A B r->¬S r):fh I g gs A B:=by
 obtain⟨h1,e,big,p,q,m5,sv,l,s,x,y⟩:=h;exact⟨h1.aa a,e,big,p,q,m5,sv,l,s.aa a (f g (.inl rfl)),x,ao.aa y a λr _ h=>Cy (λr z=>f r (.inr (.inr z))) j r h⟩
def er.W{g:Nat}{A:ah}{B:ah}{s:aK}{a:Bool}(h:er w g gs A B s a)(e:Ext w I):er I g gs A B s a:=h.aa (e.aa λ_=>False) (λ_ _ h=>h) (λ_ _ h=>h)
def fh.W{g:Nat}{A:ah}{B:ah}(h:fh w g gs A B)(a:Ext w I):fh I g gs A B:=h.aa (a.aa λ_=>False) (λ_ _ h=>h) (λ_ _ h=>h)
def gq(w:x6)(g gs:Nat)(A:ah)(B:ah)(a:Bool)(s':Option aK)(I:x6):Prop:=af (bM g gs A) w I/\match s' with
 |some s'=>er I g gs A B s' a
 |none=>fh I g gs A B
def xe{g:Nat}{e big a f m5:Int}(h:ag w g cF (jj gs e big a f m5 sv)):ak v8 mc [Γ g] w λv I=>v= .bool (decide (e=0))/\Ext w I:=by
 refine az func113 ?_;rw[b0,aU cF.p rfl,aU fc.p rfl,aF Ψ (h.cell rfl),bl];exact⟨rfl,Ext.refl _⟩
def qp{g:Nat}{A:ah}{B:ah}{s:aK}{a:Bool}(h:er w g gs A B s a):ak v8 mc [Γ g] w λv I=>v= .bool v2/\Ext w I:=by
 obtain⟨_,_,_,big,f,j,m5,sv,e,_⟩:=h;exact(xe e).Y λ_ _ _ h=>h
def pm{g:Nat}{A:ah}{B:ah}(h:fh w g gs A B):ak v8 mc [Γ g] w λv I=>v= .bool v6/\Ext w I:=by
 obtain⟨_,e,big,p,q,m5,sv,l,a,f,_⟩:=h;refine(xe a).Y ?_;rintro _ U _ ⟨rfl,j⟩;exact⟨by rw[s2 f.1],j⟩
def tX{g:Nat}{A B:ah}(h:A r\/cV g gs A B r)(a:¬A g):r≠g:=by
 rintro rfl;rcases h with h|h
 .exact a h
 .exact h.1 (.inl rfl)
def tY{g:Nat}{A:ah}{B:ah}{big x q m5 e:Int}{l:List lM}(J:mu w g gs A B)(s:ag w g cF (jj gs 0 big x q m5 sv))(y:bs A (cV g gs A B) w [sv] l)(he:e≠0)(z:l.length<=100000):
  ak v8 oO [Γ g,Δ e,Δ at_] w λ_ I=>af (λr=>r=g) w I/\fh I g gs A B:=by
 refine az func116 ?_;rw[b0,aU cF.p rfl,aU fc.p rfl,aF Ψ (s.cell rfl),bl,al];refine⟨λ_=>?_,λh=>ro rfl h⟩;rw[b0,aU cF.p rfl,aU fc.p rfl];refine bu (g:=g) (o:=1) kU.i rfl rfl s (by simp[jj]) λU C H a=>?_;have a:=a;rw[b0,aU cF.p rfl,aU fc.p rfl];refine bu (g:=g) (o:=3) ai.i rfl rfl a (by simp[jj]) λV E K f=>?_;have f:=f;have j:=C.F E;exact⟨j,J.aa j,e,big,at_,q,m5,sv,l,f,⟨he,z⟩,ao.aa y j λr _ h G=>tX h J.2.1 G⟩
def tZ{g:Nat}{A:ah}{B:ah}{s:aK}{a:Bool}{e:Int}(h:er w g gs A B s a)(he:e≠0):ak v8 oO [Γ g,Δ e,Δ at_] w λ_ I=>af (λr=>r=g) w I/\fh I g gs A B:=by
 obtain⟨J,_,f,big,q,x,m5,sv,j,_,p⟩:=h;exact tY J j p he (by have:=f.2.2;show s.m6.length<=_;omega)
def Mr{g:Nat}{A:ah}{B:ah}{e:Int}(h:fh w g gs A B):ak v8 oO [Γ g,Δ e,Δ at_] w λ_ I=>Ext w I:=by
 obtain⟨_,f,big,j,q,m5,sv,l,h1,a,_⟩:=h;refine az func116 ?_;rw[b0,aU cF.p rfl,aU fc.p rfl,aF Ψ (h1.cell rfl),bl,al];exact⟨λh=>ro h a.1,λ_=>Ext.refl _⟩
def ua{g:Nat}{A:ah}{B:ah}{s:aK}{y b:Bool}(h:er w g gs A B s y):ak v8 re [Γ g,.bool b,Δ at_] w λ_ I=>af (λr=>r=g) w I/\er I g gs A B (bi b s) y:=by
 obtain⟨J,z,C,big,E,K,m5,sv,e,G,H⟩:=id h;refine az func111 ?_;refine aY (λv U=>w=U/\v= .bool (b&&decide (big=0))) ?_ ?_
 rotate_left
 .intro ax j;cases b with
  |false=>rw[a7];exact j _ _ ⟨rfl,rfl⟩
  |true=>
   rw[bO,b0,aU cF.p rfl,aU fc.p rfl,aF Ψ (e.cell rfl),bl,al];refine⟨λa=>?_,λa=>j _ _ ⟨rfl,by rw[s2 a];rfl⟩⟩;rw[b0,aU cF.p rfl,aU fc.p rfl,aF Ψ (e.cell rfl),bl];exact j _ _ ⟨rfl,by rw[rs a];rfl⟩
 rintro _ _ ⟨rfl,rfl⟩;rw[cb];refine⟨λL=>?_,λM=>?_⟩
 .obtain⟨rfl,a⟩:=Bool.and_eq_true_iff.1 L;rw[b0,aU cF.p rfl,aU fc.p rfl];refine bu (g:=g) (o:=2) kU.i rfl rfl e (by simp[jj]) λU N R q=>?_;have q:=q;rw[b0,aU cF.p rfl,aU fc.p rfl];refine bu (g:=g) (o:=4) ai.i rfl rfl q (by simp[jj]) λV O S x=>?_;have x:=x;have f:=N.F O;exact⟨f,J.aa f,z.aa f (λhe=>J.1 he.symm) (λr P he=>P.1 (.inl he)),C,5,E,at_,m5,sv,x,⟨⟨λ_=>Ω,λ_=>by simp[bi]⟩,λh=>by simp[bi]at h⟩,ao.aa H f λr _ h Q=>tX h J.2.1 Q⟩
 .refine⟨af.refl _ _,J,z,C,big,E,K,m5,sv,e,⟨?_,λh=>G.2 (by
   have h:(s.big||b)=v6:=h;exact(U1.1 h).1)⟩,H⟩
  show(s.big||b)=v2↔big≠0;cases b with
  |false=>rw[Bool.or_false];exact G.1
  |true=>
   have a:=of_decide_eq_false (by simpa using M);simp[a]
def Cz{g:Nat}{A:ah}{B:ah}{b:Bool}(h:fh w g gs A B):ak v8 re [Γ g,.bool b,Δ at_] w λ_ I=>Ext w I:=by
 obtain⟨_,j,big,q,r,m5,sv,l,h1,e,_⟩:=h;refine az func111 ?_;refine aY (λv U=>w=U/\v= .bool v6) ?_ ?_
 .rintro _ _ ⟨rfl,rfl⟩;rw[a7];exact Ext.refl _
 intro ax a;cases b with
 |false=>rw[a7];exact a _ _ ⟨rfl,rfl⟩
 |true=>
  rw[bO,b0,aU cF.p rfl,aU fc.p rfl,aF Ψ (h1.cell rfl),bl,al];refine⟨λf=>?_,λf=>a _ _ ⟨rfl,rfl⟩⟩;rw[b0,aU cF.p rfl,aU fc.p rfl,aF Ψ (h1.cell rfl),bl];exact a _ _ ⟨rfl,by rw[s2 e.1]⟩
def er.scan{g:Nat}{A:ah}{B:ah}{s:aK}{a:Bool}{l:List (Λ)}(h:er w g gs A B s a)(e:af (λr=>r=gs) w I)(J:iK I gs (cV g gs A B) l a)(C:l.length<=s.hp.length):er I g gs A B {s with hp:=l} a:=by
 obtain⟨h1,_,f,big,p,q,m5,sv,x,y,z⟩:=h;refine⟨h1.aa e,J,⟨f.1,f.2.1,by have:=f.2.2;show s.m6.length+l.length<=100000;omega⟩,big,p,q,m5,sv,x.aa e h1.1,y,ao.aa z e λr _ h j=>?_⟩;have j:r=gs:=j;subst j;rcases h with h|h
 .exact h1.2.2.1 h
 .exact h.1 (.inr (.inl rfl))
def CA{g:Nat}{A:ah}{B:ah}{s:aK}{z:Bool}(h:er w g gs A B s z):ak v8 AD [Γ g] w λv I=>gq w g gs A B z ((ea s).map (·.2)) I/\∃(t:Λ)(n:Int),v= .tuple #[cf t,Δ n]/\Bytes t/\t.length<=100000/\∀q,ea s=σ q->t=q.1:=by
 refine az func110 ?_;refine(qp h).Y ?_;rintro _ U _ ⟨rfl,L⟩;rw[bL,X3,a7];have h1:=h.W L;obtain⟨_,M,_,big,P,Q,m5,sv,C,_⟩:=id h1;have R:=M.words.2;rw[aL cF.p 0 C rfl];refine(rF M).Y ?_;rintro v V _ ⟨j,y⟩;have N:af (bM g gs A) w V:=(L.aa _).F (j.Y λr _ h=>.inr (.inl h));cases f:s.hp with
 |cons t l=>
  rw[f]at y;obtain⟨S,n,rfl⟩:=y;have W:=h1.scan j S (by rw[f];simp);have E:ea s=σ (t,{s with hp:=l}):=by unfold ea;rw[f]
  have O:=R t (by rw[f];exact .head _);rw[fQ,fR,fS];refine aY (λv G=>V=G/\v=Δ 0) ?_ ?_
  .rintro _ _ ⟨rfl,rfl⟩;refine c8 (λx=>V=x) ?_ ?_
   .rintro _ rfl;rw[E];exact⟨⟨N,W⟩,t,n,rfl,O.1,O.2.2,λq H=>by cases H;rfl⟩
   .intro ax a;rw[bK,al];exact⟨λh=>ro rfl h,λ_=>a _ rfl⟩
  .intro ax a;rw[bl,al];exact⟨λh=>Ω,λ_=>a _ _ ⟨rfl,rfl⟩⟩
 |nil=>
  rw[f]at y;obtain⟨n,rfl⟩:=y;have E:ea s=ν:=by unfold ea;rw[f]
  obtain⟨J,_,X,big,P,Q,m5,sv,C,ag,Y⟩:=id h1;have Z:=C.aa j J.1;have ab:=ao.aa Y j λr _ h K=>by
   have K:r=gs:=K;subst K;rcases h with h|h
   .exact J.2.2.1 h
   .exact h.1 (.inr (.inl rfl))
  rw[fQ,fR,fS];refine aY (λv G=>V=G/\∃e:Int,v=Δ e/\e≠0) ?_ ?_
  .rintro _ _ ⟨rfl,e,rfl,he⟩;refine c8 (λx=>af (λr=>r=g) V x/\fh x g gs A B) ?_ ?_
   .rintro x ⟨ac,ad⟩;rw[E];exact⟨⟨N.F (ac.Y λr _ h=>.inl h),ad⟩,[],n,rfl,λb ae=>(by cases ae),Ξ,λq H=>by cases H⟩
   .intro ax a;rw[bK,al];refine⟨λ_=>?_,λh=>ro he h⟩;exact(tY (J.aa j) Z ab he (by have:=X.2.2;show s.m6.length<=_;omega)).Y λ_ I _ h=>a _ h
  .intro ax a;rw[bl,al];cases z with
   |true=>exact⟨λ_=>a _ _ ⟨rfl,4,rfl,Ω⟩,λh=>ro rfl h⟩
   |false=>exact⟨λh=>by simp at h,λ_=>a _ _ ⟨rfl,11,rfl,Ω⟩⟩
def Ms{g:Nat}{A:ah}{B:ah}(h:fh w g gs A B):ak v8 AD [Γ g] w λv I=>Ext w I/\v= .tuple #[cf [],Δ 0]:=by
 refine az func110 ?_;refine(pm h).Y ?_;rintro _ U _ ⟨rfl,a⟩;rw[bL,W6,bO];exact⟨a,rfl⟩
def xf{g:Nat}{A:ah}{B:ah}{s:aK}{y:Bool}(h:er w g gs A B s y):ak v8 oN [Γ g,Δ lo,Δ hi] w λv I=>gq w g gs A B y ((bm lo hi s).map (·.2)) I/\∃n at_:Int,v= .tuple #[Δ n,Δ at_]/\(∀q,bm lo hi s=σ q->n=q.1)/\(bm lo hi s=ν->n=0):=by
 refine az func112 ?_;refine(CA h).Y ?_;rintro _ U _ ⟨⟨z,f⟩,t,n,rfl,H,J,hw⟩;rw[bA,bB];cases j:ea s with
 |none=>
  have a:bm lo hi s=ν:=by unfold bm;rw[j]
  rw[j]at f;have f:=f;refine(pm f).Y ?_;rintro _ V _ ⟨rfl,p⟩;rw[bL,W6,bO,a];exact⟨⟨z.F (p.aa _),f.W p⟩,0,n,rfl,λq h=>(by cases h),λ_=>rfl⟩
 |some q=>
  obtain⟨bt,s1⟩:=q;have:=hw _ j;subst this;rw[j]at f;have f:=f;refine(qp f).Y ?_;rintro _ V _ ⟨rfl,p⟩;rw[bL,X3,a7];refine(Mn H J).Y ?_;rintro _ K _ ⟨rfl,C⟩;have E:=(f.W p).W C;have G:=(z.F (p.aa _)).F (C.aa _);obtain⟨m,e,L,hm⟩:∃m e:Int,lK t= .tuple #[Δ m,Δ e]/\((gM t=σ m/\e=0)\/(gM t=ν/\e=4)):=by
   unfold lK;cases P:gM t with
   |none=>exact⟨0,4,rfl,.inr ⟨rfl,rfl⟩⟩
   |some m=>exact⟨m,0,rfl,.inl ⟨rfl,rfl⟩⟩
  rw[L,bA,bB];refine aY (λv M=>K=M/\v= .bool (bm lo hi s).isNone) ?_ ?_
  .rintro _ _ ⟨rfl,rfl⟩;cases a:bm lo hi s with
   |none=>
    rw[Option.isNone_none,bO];refine(tZ E Ω).Y ?_;rintro _ Q _ ⟨N,O⟩;exact⟨⟨G.F (N.Y λr _ h=>.inl h),O⟩,0,n,rfl,λq h=>(by cases h),λ_=>rfl⟩
   |some q=>
    rw[Y0,a7];unfold bm at a;rw[j]at a;simp only at a;rcases hm with⟨hm,_⟩|⟨hm,_⟩
    .rw[hm]at a;simp only at a;split at a
     .cases a;exact⟨⟨G,E⟩,m,n,rfl,λq h=>(by cases h;rfl),λh=>(by cases h)⟩
     .cases a
    .rw[hm]at a;cases a
  .intro ax x;have a:bm lo hi s=match gM t with
     |none=>ν
     |some n=>if lo<=n/\n<=hi then σ (n,s1)else ν:=by
    unfold bm;rw[j];simp only;cases gM t<;>rfl
   rw[bK,al];rcases hm with⟨hm,rfl⟩|⟨hm,rfl⟩
   .rw[hm]at a;simp only at a;refine⟨λh=>ro rfl h,λ_=>?_⟩;rw[aT,al];refine⟨λh=>x _ _ ⟨rfl,by rw[a,rc Ω];rfl⟩,λh=>?_⟩;rw[bP];refine x _ _ ⟨rfl,?_⟩;rw[a];by_cases au:hi<m
    .rw[rs au,rc Ω];rfl
    .rw[s2 au,ms Ω];rfl
   .rw[hm]at a;exact⟨λ_=>x _ _ ⟨rfl,by rw[a];rfl⟩,λh=>ro (by omega:(4:Int)≠0) h⟩
def Mt{g:Nat}{A:ah}{B:ah}(h:fh w g gs A B):ak v8 oN [Γ g,Δ lo,Δ hi] w λv I=>Ext w I/\v= .tuple #[Δ 0,Δ 0]:=by
 refine az func112 ?_;refine(Ms h).Y ?_;rintro _ U _ ⟨a,rfl⟩;rw[bA,bB];refine(pm (h.W a)).Y ?_;rintro _ V _ ⟨rfl,e⟩;rw[bL,W6,bO];exact⟨a.F e,rfl⟩
def Mu{x:Int}(h:aM .i64 w sv l):ak v8 Kz [sv,Δ x] w λv I=>Ext w I/\∃r:Int,v=Δ r/\(0<=r↔x∈l):=by
 refine az func264 ?_;rw[a1 aw.u h];refine b7.range l.length (λi _ U=>Ext w U/\x∉l.take i) h.le ⟨Ext.refl _,Ξ⟩ ?_ ?_
 .rintro i _ U k hi ⟨a,e⟩ hk;refine bC Ω ?_;obtain⟨y,f⟩:=aD (l:=l) hi;rw[bh aw.u av.i Ψ (h.W a) f,bl,al];refine⟨λhe=>⟨a,i,rfl,⟨λ_=>he▸x7 f,λ_=>Ω⟩⟩,λhe=>?_⟩;rw[aO];refine hk _ _ ⟨a,λhm=>?_⟩;rw[r9,f]at hm;rcases j9.1 hm with hm|hm
  .exact e hm
  .simp at hm;exact he hm
 .rintro _ U k ⟨a,e⟩;rw[o9]at e;rw[aT,al];exact⟨λh=>Ω,λ_=>⟨a,-1,rfl,⟨λh=>Ω,λh=>ro h e⟩⟩⟩
def Mv{x:Int}(h:aM .i64 w sv l):ak v8 Kb [sv,Δ x] w λv I=>v= .bool (decide (x∈l))/\Ext w I:=by
 refine az func222 ?_;refine(Mu h).Y ?_;rintro _ U _ ⟨a,r,rfl,e⟩;rw[cP];exact⟨by congr 1;rw[U6,sp,sp];exact e,a⟩
theorem ub:∀{l:Λ},(∀z∈l,1<=z)->∀i,aQ ((l.take i).map λk=>min k 4097)<=aQ (l.map λk=>min k 4097)/\1<=aQ ((l.take i).map λk=>min k 4097)
 |[],_,i=>by simp[aQ]
 |z::l,h,0=>by
  have a:=ub (λx e=>h x (.tail _ e)) l.length;rw[o9]at a;have f:=h z (.head _);simp only[List.take_zero,List.map_nil,T3,aQ];have:=Int.mul_le_mul_of_nonneg_left a.2 (show 0<=min z 4097 by omega);omega
 |z::l,h,i+1=>by
  have a:=ub (λx e=>h x (.tail _ e)) i;have f:=h z (.head _);simp only[List.take_succ_cons,T3,aQ];have h1:=Int.mul_le_mul_of_nonneg_left a.1 (show 0<=min z 4097 by omega);have:=Int.mul_le_mul_of_nonneg_left a.2 (show 0<=min z 4097 by omega);exact⟨h1,Ω⟩
def CB(l:Λ)(x:Int):aQ (l++[x])=aQ l*x:=by
 induction l with
 |nil=>simp[aQ]
 |cons a l e=>rw[List.cons_append,aQ,e,aQ,Int.mul_assoc]
def CC(h:aM .i64 w sv l)(h1:∀z∈l,1<=z):ak v8 JB [sv] w λv I=>v= .bool (dB l)/\Ext w I:=by
 refine az func173 ?_;rw[a1 aw.u h];refine kS.range l.length (λi _ n U=>Ext w U/\n=Δ (aQ ((l.take i).map λk=>min k 4097))/\aQ ((l.take i).map λk=>min k 4097)<=4096) h.le ⟨Ext.refl _,by simp[aQ],by simp[aQ]⟩ ?_ ?_
 .rintro i _ _ U p hi ⟨a,rfl,f⟩ q;refine bC Ω ?_;obtain⟨z,j⟩:=aD (l:=l) hi;have s:=h1 z (x7 j);have x:=ub h1 i;have y:=ub h1 (i+1);have e:aQ ((l.take (i+1)).map λk=>min k 4097)=aQ ((l.take i).map λk=>min k 4097)*min z 4097:=by
   rw[r9,j,j6,Z4,T3,List.map_nil,CB]
  rw[bh aw.u av.i Ψ (h.W a) j,ni,fB,<-e];have A:aQ ((l.take (i+1)).map λk=>min k 4097)<=4096*4097:=by
   rw[e];have B:=Int.mul_le_mul_of_nonneg_right f (show 0<=min z 4097 by omega);have C:=Int.mul_le_mul_of_nonneg_left (show min z 4097<=4097 by omega) (show(0:Int)<=4096 by omega);omega
  rw[m1 Ω Ω,bP,al];refine⟨λr=>⟨?_,a⟩,λr=>?_⟩
  .unfold dB;rw[rs];omega
  .rw[aO];exact q _ _ _ ⟨a,rfl,Ω⟩
 .rintro _ _ U p ⟨a,rfl,f⟩;rw[o9]at f;rw[aT,al];refine⟨λh=>Ω,λ_=>⟨?_,a⟩⟩;unfold dB;rw[s2];omega
def lN(n:Int)(acc:Λ)(s:aK):Option (Int×aK):=match bm 0 (n-1) s with
 |none=>ν
 |some (v,s)=>if v∈acc then ν else σ (v,s)
def qq{α:Type}{f:List α->aK->Option (α×aK)}{acc:List α}{s:aK}(h:f acc s=ν):cX f (n+1) acc s=ν:=by
 simp only[cX,h]
def uc{α:Type}{f:List α->aK->Option (α×aK)}{acc:List α}{s s':aK}{a:α}(h:f acc s=σ (a,s')):cX f (n+1) acc s=cX f n (acc++[a]) s':=by
 simp only[cX,h]
def er.rH{g:Nat}{A:ah}{B:ah}{s:aK}{a:Bool}(h:er w g gs A B s a):(∀r,bM g gs A r->r<w.heap.size)/\(∀r,B r->r<w.heap.size):=⟨h.1.2.2.2.1,h.1.2.2.2.2⟩
def Mw{g k:Nat}{A B:ah}{s:aK}{H:Bool}{m:Int}(h:er w g gs A B s H)(hk:k<=4611686018427387904)(hm:0<=m/\m<=1000000):
  ak v8 AL [Γ g,Δ (k:Int),Δ m] w λv I=>gq w g gs A B H ((fg m k s).map (·.2)) I/\
   ∃gr l,aB .i64 av I gr v l/\(∀r,lw v r->w.heap.size<=r)/\l.length<=100001/\∀q,fg m k s=σ q->l=q.1:=by
 obtain⟨ac,aA⟩:=h.rH;have aC:=h.2.1.words.1;refine az func172 ?_;refine⟨λout Q U=>∃i:Nat,Q=Δ (i:Int)/\i<=k/\af (bM g gs A) w U/\∃gr l,aB .i64 av U gr out l/\w.heap.size<=gr/\l.length<=100001/\
  ((∃st,er U g gs A B st H/\cX (lN m) (k-i) l st=fg m k s/\l.length+st.hp.length<=100000)\/(fh U g gs A B/\fg m k s=ν)),λ_ Q _=>k-(bZ Q).toNat,
  ⟨0,rfl,W0 _,af.refl _ _,w.heap.size,[],aB.nil _ _ _ _,o4 _,Ξ,.inl ⟨s,h,rfl,by simpa using aC⟩⟩,?_⟩
 rintro out _ U ⟨i,rfl,aD,ad,gr,l,ae,bc,bd,ag⟩;have s1:=ad.size;have R:∀r,lw out r->w.heap.size<=r:=λr y=>by have:=bW ae y;omega
 refine aY (λv V=>Ext U V/\((v= .bool v2/\i<k/\∃st,er V g gs A B st H/\cX (lN m) (k-i) l st=fg m k s/\l.length+st.hp.length<=100000)\/
  (v= .bool v6/\((∃st,er V g gs A B st H/\fg m k s=σ (l,st))\/(fh V g gs A B/\fg m k s=ν))))) ?_ ?_
 rotate_left
 .intro ax L;rw[aT,al];refine⟨λbe=>?_,λbf=>?_⟩
  .rcases ag with⟨st,z,p,S⟩|⟨E,W⟩
   .refine (qp z).Y ?_;rintro _ V _ ⟨rfl,C⟩;exact L _ _ ⟨C,.inl ⟨rfl,Ω,st,z.W C,p,S⟩⟩
   .refine (pm E).Y ?_;rintro _ V _ ⟨rfl,C⟩;exact L _ _ ⟨C,.inr ⟨rfl,.inr ⟨E.W C,W⟩⟩⟩
  .have aE:k-i=0:=Ω
   rcases ag with⟨st,z,p,S⟩|aF
   .rw[aE]at p;exact L _ _ ⟨Ext.refl _,.inr ⟨rfl,.inl ⟨st,z,p.symm⟩⟩⟩
   .exact L _ _ ⟨Ext.refl _,.inr ⟨rfl,.inr aF⟩⟩
 rintro _ V ⟨C,aG⟩;have X:af (bM g gs A) w V:=ad.F (C.aa _);have M:=ae.W C;rcases aG with⟨rfl,aD,st,z,p,S⟩|⟨rfl,aH⟩
 rotate_left
 .rw[a7];rcases aH with⟨st,z,J⟩|⟨E,J⟩
  .rw[J];exact⟨⟨X,z⟩,gr,l,M,R,Ω,λq f=>by cases f;rfl⟩
  .rw[J];exact⟨⟨X,E⟩,gr,l,M,R,Ω,λq f=>by cases f⟩
 rw[bO,dA,m1 Ω Ω];have aI:k-i=(k-(i+1))+1:=Ω
 rw[aI]at p;refine(xf z).Y ?_;rintro _ ai _ ⟨⟨N,O⟩,n,at_,rfl,aJ,bg⟩;rw[bA,bB];have aj:∀r,lw out r->¬bM g gs A r:=λr y aL=>by have:=ac r aL;have:=R r y;omega
 have bh:∀r,g=r->bM g gs A r:=λr h=>.inl h.symm;refine c8 (λe=>af (bM g gs A) V e/\((∃x,er e g gs A B x H/\cX (lN m) (k-(i+1)) (l++[n]) x=fg m k s/\l.length+1+x.hp.length<=100000)\/(fh e g gs A B/\fg m k s=ν))/\l.length+1<=100001) ?_ ?_
 .rintro e ⟨am,aM,an⟩;have aN:=bw M am aj;have ao:=X.F am;have bi:=ao.size;refine eU aw.u av.i rfl λa ga ap bj G aP=>?_;refine kt aw.u av.i rfl (aN.W G) aP.ls Θ Θ λaQ aR aS bk aU Y=>?_;have bl:=G.size;rw[aO,m1 Ω Ω];have aV:af (bM g gs A) w aS:=iJ (ao.F (G.aa _)) Y λr y he=>by have he:r=gr:=he;omega
  have aq:∀r,bM g gs A r->¬(λr=>r=gr) r:=λr y he=>by have:=ac r y;have he:r=gr:=he;omega
  have au:∀r,cV g gs A B r->¬(λr=>r=gr) r:=λr y he=>by have:=aA r y.2;have he:r=gr:=he;omega
  refine⟨⟨i+1,rfl,Ω,aV,aR,l++[n],aU,Ω,Θ,?_⟩,by simp only[bZ];omega⟩;rcases aM with⟨x,P,aW,bn⟩|⟨aX,W⟩
  .exact .inl ⟨x,(P.W G).aa Y aq au,aW,Θ⟩
  .exact .inr ⟨(aX.W G).aa Y aq au,W⟩
 .intro bo Z;cases f:bm 0 (m-1) st with
  |none=>
   rw[f]at O;have E:=O;have K:lN m l st=ν:=by unfold lN;rw[f]
   have J:fg m k s=ν:=by rw[<-p];exact qq K
   refine aY (λv e=>Ext ai e/\v= .bool v6) ?_ ?_
   rotate_left
   .intro aZ ab;refine(pm E).Y ?_;rintro _ e _ ⟨rfl,j⟩;rw[a7];exact ab _ _ ⟨j,rfl⟩
   rintro _ e ⟨j,rfl⟩;rw[a7];exact Z _ ⟨N.F (j.aa _),.inr ⟨E.W j,J⟩,Ω⟩
  |some q=>
   obtain⟨aQ,x⟩:=q;have a1:=aJ _ f;subst a1;rw[f]at O;have ay:=O;have a2:=dL f;have an:l.length+1+x.hp.length<=100000:=by have:=a2.1;omega
   refine aY (λv e=>Ext ai e/\v= .bool (decide (n∈l))) ?_ ?_
   rotate_left
   .intro aZ ab;refine(qp ay).Y ?_;rintro _ e _ ⟨rfl,j⟩;rw[bO];refine(Mv ((bw M N aj).W j).ls).Y ?_;rintro _ ap _ ⟨rfl,G⟩;exact ab _ _ ⟨j.F G,rfl⟩
   rintro _ e ⟨j,rfl⟩;have P:=ay.W j;rw[al];refine⟨λa6=>?_,λa8=>?_⟩
   .have K:lN m l st=ν:=by unfold lN;rw[f];simp only;rw[ms a6]
    refine(tZ P Ω).Y ?_;rintro _ ap _ ⟨ba,bb⟩;exact Z _ ⟨(N.F (j.aa _)).F (ba.Y λr _ h=>.inl h),.inr ⟨bb,by rw[<-p];exact qq K⟩,Ω⟩
   .have K:lN m l st=σ (n,x):=by unfold lN;rw[f];simp only;rw[rc a8]
    exact Z _ ⟨N.F (j.aa _),.inl ⟨x,P,by rw[<-p];exact(uc K).symm,an⟩,Ω⟩
def nt{a b:Int}(e:0<=a/\a<=4294967296)(f:0<=b/\b<=4294967296):ak v8 H5 [Δ a,Δ b,Δ k] w λv I=>v=Δ (min (a+b) k)/\Ext w I:=by
 refine az func31 ?_;simp only[aO,bP,al];rw[m1 Ω Ω];exact⟨λh=>⟨by rw[Int.min_eq_right Ω],Ext.refl _⟩,λh=>⟨by rw[Int.min_eq_left Ω],Ext.refl _⟩⟩
def rI(a b k:Int):x4:=if cG a k/\cG b k then .tuple #[Δ (min (a+b) k),Δ 0]else .tuple #[Δ 0,Δ 3]
def CD{a b:Int}:ak v8 AT [Δ a,Δ b,Δ k] w λv I=>v=rI a b k/\Ext w I:=by
 refine az func215 ?_;refine aY (λv U=>Ext w U/\v= .bool (decide (¬(cG a k/\cG b k)))) ?_ ?_
 .rintro _ U ⟨e,rfl⟩;simp only[al,aO,ni];refine⟨λh=>⟨by unfold rI;rw[rc h],e⟩,λh=>?_⟩;have h:=X5.1 h;obtain⟨⟨h1,r⟩,s,x⟩:=id h;have:=h1.2;rw[m1 Ω Ω];exact⟨by unfold rI;rw[ms h],e⟩
 .intro ax f;refine k0.Y ?_;rintro _ V _ ⟨rfl,j⟩;simp only[bL,cb];refine⟨λh=>f _ _ ⟨j,?_⟩,λh=>?_⟩
  .have:¬cG a k:=by simpa using h
   rw[rs];exact λh=>this h.1
  .have p:cG a k:=by simpa using h
   refine k0.Y ?_;rintro _ y _ ⟨rfl,q⟩;simp only[bL];exact f _ _ ⟨j.F q,by simp[p]⟩
def Mx(h:aM .i64 w sv l)(f:l≠[]):
  ak v8 KH [sv] w λv I=>v=Δ (w7 l)/\Ext w I:=by
 obtain⟨x,l,rfl⟩:∃x r,l=x::r:=by cases l with
  |nil=>exact ro rfl f
  |cons x r=>exact⟨x,r,rfl⟩
 have j:=h.le;refine az func284 ?_;refine c8 (λU=>w=U) ?_ ?_
 .rintro _ rfl;rw[fP (y:=0) (i:=0) rfl aw.u av.i Ψ h (by rfl)];refine⟨λm i V=>Ext w V/\∃k:Nat,i=Δ (k+1:Nat)/\k<=l.length/\m=Δ ((l.take k).foldl min x),λ_ i _=>l.length+1-(bZ i).toNat,⟨Ext.refl _,0,rfl,W0 _,rfl⟩,?_⟩;rintro _ _ V ⟨a,k,rfl,hk,rfl⟩;rw[a1 aw.u (h.W a)];simp only[Y1,aT,al]at j ⊢;refine⟨λq=>?_,λs=>⟨?_,a⟩⟩
  .obtain⟨y,e⟩:=aD (l:=l) (i:=k) Ω;rw[bh aw.u av.i Ψ (h.W a) (show(x::l)[k+1]?=σ y from e),ni];simp only[aO];rw[m1 Ω Ω];refine⟨⟨a,k+1,by congr 1,Ω,?_⟩,?_⟩
   .rw[r9,e,S2];rfl
   .simp only[bZ];omega
  .have:k=l.length:=Ω
   subst this;rw[o9];rfl
 .intro ax p;rw[a1 aw.u h];simp only[aT,al];exact⟨λh=>by simp at h;omega,λ_=>p _ rfl⟩
def CE{g a:Nat}{cs:Λ}(h:dm w g a sv aj k cs):ak v8 wD [Γ g] w λv I=>v=Δ k/\Ext w I:=by
 obtain⟨⟨a8,gs,e,hm,f⟩,_⟩:=h;refine az func249 ?_;rw[di fd.u];simp only[Y0,a7];rw[aL c4.p 1 e rfl];exact⟨rfl,Ext.refl _⟩
def n8{g e:Nat}{cs:Λ}(h:dm w g e sv aj k cs):
  ak v8 I2 [Γ g] w λv I=>Ext w I/\∃a,w.heap.size<=a/\aB .i64 av I a v cs:=by
 obtain⟨⟨a8,gs,f,hm,j⟩,⟨_,_,ac⟩,J,q⟩:=h;refine az func127 ?_;rw[di fd.u];simp only[Y0,a7];rw[aL c4.p 2 f rfl];exact wP j.ls Ω
def qs{g f:Nat}{cs:Λ}(h:dm w g f sv aj k cs):
  ak v8 JW [Γ g] w λv I=>v= .agg #[sv]/\Ext w I:=by
 obtain⟨⟨a8,gs,q,hm,A⟩,_⟩:=h;have s:=hm.ls.cells;refine az func203 ?_;refine bE bH.i λB U C e x=>?_;rw[di fd.u];simp only[Y0,a7];rw[b0,aU c4.p rfl,bz (cs:=[sv]) bH.p bH.i rfl (pd (q.W e) (by
  intro j v a
  match j,a with
  |0,a=>exact a))]
 refine b1 (vs:=[sv]) bH.i rfl rfl (by intro u hu;simp at hu;subst hu;exact s.2) x λE y G z=>?_;rw[fe bH.p bH.i rfl z.range];exact⟨rfl,e.then y (by rintro r H rfl;omega)⟩
def CF(h:aM .i64 w sv aj)(q:aj.length<=1000):ak v8 AY [.agg #[sv]] w λv I=>Ext w I/\∃a,w.heap.size<=a/\aB .i64 ai I a v aj:=by
 refine az func248 ?_;refine bn λg U r e f=>?_;rw[aJ bH.p 0 f rfl];refine(k1 (h.W e) Ω).Y ?_;rintro v V _ ⟨j,a,s,hm⟩;have s1:=e.size;exact⟨e.F j,a,Ω,hm⟩
def CG(h:aM .i64 w sv aj):ak v8 KD [.agg #[sv]] w λv I=>v=Δ aj.length/\Ext w I:=by
 refine az func271 ?_;refine bn λg U f a e=>?_;rw[aJ bH.p 0 e rfl,a1 an.u (h.W a)];exact⟨rfl,a⟩
def jk(aj:Λ)(i:Int):Int:=if 0<=i then aj.getD i.toNat 0 else 0
def rJ{i:Int}(h:aM .i64 w sv aj):ak v8 KE [.agg #[sv],Δ i] w λv I=>v=Δ (jk aj i)/\Ext w I:=by
 refine az func272 ?_;refine bn λg U r a e=>?_;refine aY (λv V=>v= .bool (decide (i<0\/(aj.length:Int)<=i))/\U=V) ?_ ?_
 .rintro _ _ ⟨rfl,rfl⟩;simp only[al];refine⟨λh=>⟨?_,a⟩,λq=>?_⟩
  .unfold jk;split
   .rw[u5,Y5 Ω];rfl
   .rfl
  .rw[aJ bH.p 0 e rfl];obtain⟨n,rfl⟩:∃n:Nat,i=n:=⟨i.toNat,Ω⟩;have f:n<aj.length:=Ω
   rw[bh an.u ai.i Ψ (h.W a) (x8 f)];refine⟨?_,a⟩;unfold jk;rw[ms Ω,u5,u9,x8 f];rfl
 .intro ax j;simp only[aT,al];refine⟨λh=>j _ _ ⟨by rw[rs];omega,rfl⟩,λq=>?_⟩;rw[aJ bH.p 0 e rfl,a1 an.u (h.W a)];simp only[cP];exact j _ _ ⟨by congr 1;simp;omega,rfl⟩
def xg{g B0:Nat}(J:ci aj):
  pX v8 nb [Γ g] (aQ aj).toNat (λk vs w=>∃aV gt,vs=[Δ (k:Int),aV]/\B0<=gt/\aB .i64 ai w gt aV (dr aj k))
   (λw=>ag w g bH [sv]/\aM .i64 w sv aj/\B0<=w.heap.size):=by
 refine⟨nb.enters,λl ax P w r _ z ⟨s,x,A⟩ B=>?_⟩;have ac:=prod_bound J;refine rk func95 ?_;rw[bz bH.p bH.i rfl s.range];refine(qc x J).free.Y ?_;rintro _ U ⟨C,rfl,a⟩;refine bY.range (aQ aj).toNat (λi V=>ax i V/\ag V g bH [sv]/\aM .i64 V sv aj/\B0<=V.heap.size) Ω ⟨r 0 _ _ a C.b B,s.W a,x.W a,X1 A a.size⟩ ?_ ?_
 .rintro i V k hi ⟨f,j,q,y⟩ hk;simp only[aT,al];refine⟨λ_=>?_,λh=>Ω⟩;rw[bz bH.p bH.i rfl j.range];refine(Ld q J Ω Ω).free.Y ?_;rintro _ E ⟨G,e,aV,gt,rfl,H,I⟩;rw[bA,bB];refine⟨rfl,(z i _ E hi ⟨j.W e,q.W e,X1 y e.size⟩ ⟨aV,gt,rfl,X1 y H,I⟩ (r _ _ _ e G.b f)).Y ?_⟩;rintro _ Q (⟨rfl,⟨K,L,M⟩,N⟩|⟨rfl,O⟩)
  .simp only[bL,X3,a7,aO];exact hk _ ⟨N.1,K,L,M⟩
  .simp only[bL,W6,bO];exact .inr ⟨i,hi,O⟩
 .rintro V k ⟨f,j,q,_⟩;simp only[aT,al];exact⟨λh=>Ω,λ_=>.inl f⟩
def xh:ak v8 Ig [.agg #[sv]] w λr I=>Ext w I/\∃g,r= .func (.func nb) #[] #[Γ g]/\w.heap.size<=g/\ag I g bH [sv]:=by
 refine az func50 ?_;refine bn λg U f a e=>?_;rw[mg];exact⟨a,g,rfl,Ω,e⟩
end Go.Proofs.YtnhkbjhpbbobaaaGreatDoor
namespace Go.Vc
open Go Go.RowKit
set_option maxRecDepth 100000
section
variable{P:V5}{w:x6}
def aG.cA{α:Type}{s:Sem α}{K:α->x6->Prop}(h:aG P s w λv I=>cQ w I->K v I):aG P s w K:=by
 obtain⟨v,I,h1,a,e⟩:=h;exact⟨v,I,h1,a,e a⟩
structure Keys(P:V5)(k:o5)(G:x4->Prop):Prop where
 check:∀(w:x6)(em:Bool){v:x4},G v->(Instr.checkKey em 10000 k v).run P w= .ok () w
 find:∀(w:x6){x:x4},G x->∀es:List MapEntry,(∀e∈es,G e.key)->
  ((Instr.findKey k x es).run P w= .ok ν w/\∀e∈es,e.key≠x)\/∃j e,(Instr.findKey k x es).run P w= .ok (σ (j,e.val)) w/\es[j]?=σ e/\e.key=x
 stays:∀(w:x6){v:x4},G v->(Instr.keyThatStays v v).run P w= .ok v w
def Keys.law{k:o5}(K:WideMaps.KeyLaw P k):Keys P k λv=>∃l,keyOf P k v=σ l:=
 ⟨λw a _ ⟨_,h⟩=>K.check w a h,λw _ ⟨_,h⟩ e f=>K.find w h e f,λw _ ⟨_,h⟩=>K.stays w h⟩
def Keys.int{k:o5}{a:j4}(hk:P.underlying k=σ (.int a)):Keys P k λv=>∃n,v= .int a n:=by
 have key:∀n,MapKept.IsKey (.int a) (.int a n):=λn=>rfl;refine⟨λw p v ⟨n,h⟩=>?_,λw x ⟨n,h⟩ q r=>?_,λw v ⟨n,h⟩=>?_⟩
 .subst h;exact MapKept.run_checkKey hk (key n) p 9999
 .subst h;rcases MapKept.findNow_spec (key n) q 0 (λe he=>by obtain⟨m,h⟩:=r e he;rw[h];exact key m)with⟨h1,f⟩|⟨j,e,h1,f,s⟩
  .exact .inl ⟨MapKept.run_findKey hk h1,f⟩
  .exact .inr ⟨j,e,by have:=MapKept.run_findKey (P:=P) (w:=w) hk h1;simpa using this,f,s⟩
 .subst h;exact MapKept.run_keyThatStays (key n)
def gZ(e:MapEntry):x4×x4:=(e.key,e.val)
def de(w:x6)(m:Nat)(d:List (x4×x4)):Prop:=∃a e,w.heap[m]?=σ (.map a e)/\MapKept.Stamped a e/\a.toList.map gZ=d
def de.W{m:Nat}{d:List (x4×x4)}(h:de w m d)(a:Ext w I):de I m d:=by
 obtain⟨e,c,h1,f⟩:=h;exact⟨e,c,a.aX m _ h1 rfl,f⟩
def de.aa{m:Nat}{d:List (x4×x4)}(h:de w m d)(a:af S w I)(e:¬S m):de I m d:=by
 obtain⟨f,c,h1,j⟩:=h;exact⟨f,c,a.aX m _ h1 rfl e,j⟩
def de.lt{m:Nat}{d:List (x4×x4)}(h:de w m d):m<w.heap.size:=by
 obtain⟨a,c,h1,e⟩:=h;exact(Z0.1 h1).1
def de.nodup{m:Nat}{d:List (x4×x4)}(h:de w m d):(d.map (·.1)).Nodup:=by
 obtain⟨e,c,_,⟨_,_,a⟩,rfl⟩:=h;rw[S5];exact a
def lO{α:Type}{l:List α}(h:l.Nodup){i:Nat}{x:α}(hi:l[i]?=σ x)(p:l[j]?=σ x):i=j:=by
 have a:=x5.1 hi;have e:=x5.1 p;have ac:=U5.1 h;rcases Nat.lt_trichotomy i j with f|rfl|f
 .exact ro (a.2.F e.2.symm) (ac i j a.1 e.1 f)
 .rfl
 .exact ro (e.2.F a.2.symm) (ac j i e.1 a.1 f)
theorem oa{α β:Type}(f:α->β):∀(l:List α)(i:Nat),(l.map f).eraseIdx i=(l.eraseIdx i).map f
 |[],_=>Ξ
 |_::_,0=>rfl
 |x::l,i+1=>by simp[oa f l i]
def de.uniq{m:Nat}{d:List (x4×x4)}(h:de w m d){i:Nat}{p q:x4×x4}(hi:d[i]?=σ p)(a:d[j]?=σ q)(he:p.1=q.1):i=j:=by
 have e:=h.nodup;have h1:(d.map (·.1))[i]?=σ p.1:=by rw[u4,hi];rfl
 have f:(d.map (·.1))[j]?=σ p.1:=by rw[u4,a,he];rfl
 exact lO e h1 f
def ud{m:Nat}{q:Array MapEntry}{c:Nat}(h:w.heap[m]?=σ (.map q c))(a:Array MapEntry)(e:Nat):
  af (λr=>r=m) w {w with heap:=w.heap.setIfInBounds m (.map a e)}/\cQ w {w with heap:=w.heap.setIfInBounds m (.map a e)}/\({w with heap:=w.heap.setIfInBounds m (.map a e)}:x6).heap[m]?=σ (.map a e):=by
 have J:=MapKept.heap_set (o':=.map a e) h;refine⟨⟨Ξ,λr o f j s=>?_⟩,⟨rfl,.ly,rfl,Ξ,λr o f j=>?_⟩,J.1⟩
 .show (w.heap.setIfInBounds m _)[r]?=σ o;rw[J.2 r s];exact f
 .show (w.heap.setIfInBounds m _)[r]?=σ o;by_cases p:r=m
  .subst p;rw[h]at f;cases f;cases j
  .rw[J.2 r p];exact f
def ue{K:x4->x6->Prop}(h:∀m I,m=w.heap.size->Ext w I->de I m []->K (.map (σ m)) I):aG P (Instr.makeMap t ν) w K:=by
 refine .of (run_makeMap t w) (p0 w _) (h _ _ rfl (pZ w _) ⟨#[],0,?_,MapKept.stamped_empty 0,rfl⟩);exact heap_alloc_new w _
variable{k e:o5}{G:x4->Prop}
def rK{c:Bool}{m:Nat}{d:List (x4×x4)}{x:x4}(y:P.underlying t=σ (.map k e))(hk:Keys P k G)(hm:de w m d)(z:∀p∈d,G p.1)(q:G x)(a:d[j]?=σ (x,v)):
  ab P (Instr.lookup t (.map (σ m)) x c) w K=K (if c then .tuple #[v,.bool v2]else v):=ab.of λI A=>by
 obtain⟨f,B,r,C,rfl⟩:=hm.W A;have E:∀e∈f.toList,G e.key:=λe he=>z (gZ e) (j5.2 ⟨e,he,rfl⟩);rcases hk.find I q f.toList E with⟨_,h⟩|⟨i,s,h1,h,F⟩
 .rw[u4]at a;obtain⟨H,J,L⟩:=Y9.1 a;exact ro (congrArg Prod.fst L) (h H (x7 J))
 .have M:s.val=v:=by
   have hi:(f.toList.map gZ)[i]?=σ (gZ s):=by rw[u4,h];rfl
   have N:de I m (f.toList.map gZ):=⟨f,B,r,C,rfl⟩;have:=N.uniq hi a F;subst this;rw[hi]at a;exact congrArg Prod.snd (Z5 a)
  simp only[Instr.lookup,W9,run_underlying y,V2,MapKept.run_getObj_map r,V9,hk.check I _ q,h1,M]
def uf{c:Bool}{m:Nat}{d:List (x4×x4)}{x:x4}(r:P.underlying t=σ (.map k e))(hk:Keys P k G)(a:∃s b,aR P e s b z)(hm:de w m d)(y:∀p∈d,G p.1)(f:G x)(A:∀p∈d,p.1≠x):
  ab P (Instr.lookup t (.map (σ m)) x c) w K=K (if c then .tuple #[z,.bool v6]else z):=ab.of λI B=>by
 obtain⟨h,J,C,L,rfl⟩:=hm.W B;have E:∀e∈h.toList,G e.key:=λe he=>y (gZ e) (j5.2 ⟨e,he,rfl⟩);have F:(zeroValue e).run P I= .ok z I:=by
  obtain⟨s,b,i,hi,_,_,a⟩:=a;simp[zeroValue,typeInfo,hi,a]
 rcases hk.find I f h.toList E with⟨h1,j⟩|⟨i,q,h1,j,H⟩
 .simp only[Instr.lookup,W9,run_underlying r,V2,MapKept.run_getObj_map C,V9,hk.check I _ f,h1,F]
 .exact ro H (A (gZ q) (j5.2 ⟨q,x7 j,rfl⟩))
def My{a:Array MapEntry}{e:MapEntry}{f:MapEntry->MapEntry}(h:a[j]?=σ e):(a.modify j f).toList.map gZ=(a.toList.map gZ).set j (gZ (f e)):=by
 refine X0 λi=>?_;simp only[u4,Q0,Array.getElem?_modify,Y7,r8,Array.length_toList];by_cases p:j=i
 .subst p;have:=(Z0.1 h);simp[this.1,this.2]
 .simp[p]
def rL{m:Nat}{d:List (x4×x4)}{x:x4}{K:Unit->x6->Prop}(C:P.underlying t=σ (.map k e))(hk:Keys P k G)(hm:de w m d)(L:∀p∈d,G p.1)(h:G x)(h1:∀j v0 I,d[j]?=σ (x,v0)->de I m (d.set j (x,v))->af (λr=>r=m) w I->K () I)(M:∀I,(∀p∈d,p.1≠x)->de I m (d++[(x,v)])->af (λr=>r=m) w I->K () I):aG P (Instr.mapUpdate t (.map (σ m)) x v) w K:=by
 obtain⟨f,q,a,E,rfl⟩:=hm;have N:∀e∈f.toList,G e.key:=λe he=>L (gZ e) (j5.2 ⟨e,he,rfl⟩);rcases hk.find w h f.toList N with⟨s,F⟩|⟨i,H,s,hi,he⟩
 .obtain⟨y,z,A⟩:=ud a (f.push {key:=x,val:=v,born:=q}) (q+1);refine .of ?_ z (M _ (λp ac=>?_) ⟨_,_,A,MapKept.stamped_push E F,by simp[gZ]⟩ y)
  .simp only[Instr.mapUpdate,W9,run_underlying C,V2,MapKept.run_getObj_map a,hk.check w _ h,s,MapKept.run_setObj_map _ a]
  .obtain⟨O,Q,rfl⟩:=j5.1 ac;exact F O Q
 .have B:f[i]?=σ H:=by simpa using hi
  obtain⟨y,z,A⟩:=ud a (f.modify i λe=>{e with key:=x,val:=v}) q;refine .of ?_ z (h1 i H.val _ (by rw[u4,hi];simp[gZ,he]) ⟨_,_,A,MapKept.stamped_modify E _ _ (λ_ _=>rfl) (λR _ J=>by rw[B]at J;cases J;exact he.symm),My B⟩ y);simp only[Instr.mapUpdate,W9,run_underlying C,V2,MapKept.run_getObj_map a,hk.check w _ h,s,B,Y3,W7,he,hk.stays w h,MapKept.run_setObj_map _ a]
def Mz{E F:o5}{m:Nat}{d:List (x4×x4)}{x:x4}{K:x4->x6->Prop}(A:P.underlying t=σ (.map k e))(hk:Keys P k G)(hm:de w m d)(H:∀p∈d,G p.1)(h:G x)(h1:∀j v0 I,d[j]?=σ (x,v0)->de I m (d.eraseIdx j)->af (λr=>r=m) w I->K (.tuple #[]) I)(J:∀I,(∀p∈d,p.1≠x)->de I m d->af (λr=>r=m) w I->K (.tuple #[]) I):aG P (Y4.delete_ #[t,E] F #[.map (σ m),x]) w K:=by
 obtain⟨f,B,a,C,rfl⟩:=hm;have L:∀e∈f.toList,G e.key:=λe he=>H (gZ e) (j5.2 ⟨e,he,rfl⟩);rcases hk.find w h f.toList L with⟨q,M⟩|⟨i,N,q,hi,he⟩
 .obtain⟨s,y,z⟩:=ud a f B;refine .of ?_ y (J _ (λp ac=>?_) ⟨_,_,z,C,rfl⟩ s)
  .simp only[Y4.delete_,List.getElem?_toArray,List.getElem?_cons_zero,List.getElem?_cons_succ,W9,run_underlying A,V2,MapKept.run_getObj_map a,hk.check w _ h,q,MapKept.run_setObj_map _ a,V9]
  .obtain⟨O,Q,rfl⟩:=j5.1 ac;exact M O Q
 .obtain⟨s,y,z⟩:=ud a (f.eraseIdxIfInBounds i) B;refine .of ?_ y (h1 i N.val _ (by rw[u4,hi];simp[gZ,he]) ⟨_,_,z,MapKept.stamped_erase C _,by rw[oa];simp⟩ s);simp only[Y4.delete_,List.getElem?_toArray,List.getElem?_cons_zero,List.getElem?_cons_succ,W9,run_underlying A,V2,MapKept.run_getObj_map a,hk.check w _ h,q,MapKept.run_setObj_map _ a,V9]
def MA{a:o5}{m:Nat}{d:List (x4×x4)}(f:P.underlying t=σ (.map k e))(hm:de w m d):ab P (V1 #[t] a #[.map (σ m)]) w K=K (Δ d.length):=ab.of λI h=>by
 obtain⟨p,q,j,r,rfl⟩:=hm.W h;simp[V1,run_underlying f,MapKept.run_getObj_map j,goInt]
def iM(w:x6)(j m:Nat)(d left:List (x4×x4))(q:Option (x4×x4)):Prop:=∃a f seen fp,w.heap[m]?=σ (.map a f)/\MapKept.Stamped a f/\a.toList.map gZ=d/\
 w.heap[j]?=σ (.mapIter (σ m) f seen fp)/\f<=fp/\(leftOf a seen).toList.map gZ=left/\∀p,q=σ p->fp=f/\∃h,a.toList.find? (λe=>e.born == seen.back?.getD 0)=σ h/\seen.back? =σ h.born/\gZ h=p
def iM.map{a m:Nat}{d left:List (x4×x4)}{e:Option (x4×x4)}(h:iM w a m d left e):de w m d:=by
 obtain⟨f,c,_,_,h1,j,p,_⟩:=h;exact⟨f,c,h1,j,p⟩
def iM.aX{a m:Nat}{d left:List (x4×x4)}{e:Option (x4×x4)}(h:iM w a m d left e)(f:af S w I)(hm:¬S m)(hi:fb w I):iM I a m d left e:=by
 obtain⟨j,c,s,fp,h1,p,q,r,x⟩:=h;exact⟨j,c,s,fp,f.aX m _ h1 rfl hm,p,q,hi a _ r rfl,x⟩
def iM.W{a m:Nat}{d left:List (x4×x4)}{e:Option (x4×x4)}(h:iM w a m d left e)(f:Ext w I)(hi:fb w I):iM I a m d left e:=
 h.aX (f.aa λ_=>False) (λh=>h) hi
def MB(a:Array MapEntry):leftOf a #[]=a:=by
 unfold leftOf;exact Array.filter_eq_self.2 λx e=>Ξ
def CH{m:Nat}{d:List (x4×x4)}{K:x4->x6->Prop}(r:P.underlying t=σ (.map k e))(hm:de w m d)(h:∀a I,a=w.heap.size->Ext w I->fb w I->iM I a m d d ν->K (Γ a) I):aG P (Instr.range t (.map (σ m))) w K:=by
 obtain⟨j,f,q,s,rfl⟩:=hm;refine .of (run_range_map w t k e m j f r q) (p0 w _) (h _ _ rfl (pZ w _) (p0 w _).lz ⟨j,f,#[],f,(pZ w _).aX m _ q rfl,s,rfl,heap_alloc_new w _,o4 _,by rw[MB],λp ac=>by cases ac⟩)
theorem CI:∀(l:List MapEntry)(j:Nat)(a:MapEntry),(l.map (·.born)).Nodup->l[j]?=σ a->l.filter (λx=>!(x.born == a.born))=l.eraseIdx j
 |[],j,a,_,h=>by simp at h
 |x::l,0,a,f,h=>by
  simp at h;subst h;have e:=List.nodup_cons.1 (by simpa using f:(x.born::l.map (·.born)).Nodup);simp only[List.filter_cons,beq_self_eq_true,X3,Bool.false_eq_true,if_false,List.eraseIdx_cons_zero];refine List.filter_eq_self.2 λy p=>?_;have:y.born≠x.born:=λhe=>e.1 (he▸j5.2 ⟨y,p,rfl⟩);simpa using this
 |x::l,j+1,a,f,h=>by
  simp at h;have e:=List.nodup_cons.1 (by simpa using f:(x.born::l.map (·.born)).Nodup);have q:x.born≠a.born:=λhe=>e.1 (he▸j5.2 ⟨a,x7 h,rfl⟩);have r:=CI l j a e.2 h;simp only[List.filter_cons,List.eraseIdx_cons_succ,r];simp[q]
def CJ{free:fM}{a m:Nat}{d left:List (x4×x4)}{T:Option (x4×x4)}{K:x4->x6->Prop}(h:iM w a m d left T)(A:free.1=v6->free.2<=a)(V:left=[]->K (.tuple #[.bool v6]) w)(h1:∀j p I,left[j]?=σ p->Ext w I->cM a w I->iM I a m d (left.eraseIdx j) (σ p)->K (.tuple #[.bool v2,p.1,p.2]) I):sS P free (Instr.next (Γ a) v6 0) w K:=by
 obtain⟨s,q,seen,fp,B,E,rfl,hi,W,rfl,_⟩:=h;have M:∀x∈s.toList,x.born<q:=E.1;have N:=E.2.1;have O:∀x∈(leftOf s seen).toList,x.born<q:=λx z=>M x (mem_left z).1;have X:∀(U:x6)(o':Obj),U.heap=w.heap->(setObj a o').run P U= .ok () {U with heap:=U.heap.setIfInBounds a o'}:=λU o' he=>by
  simp only[setObj,Sem.run];rw[he,hi]
 unfold sS;simp only[Instr.next,getObj,W9,Sem.run,hi,B,V2,next_test_false seen s q fp M W,Bool.false_eq_true,if_false];have Y:Array.filter (λe=>!seen.contains e.born) s=leftOf s seen:=rfl;rw[Y];have Z:((leftOf s seen).toList.map (·.born)).Nodup:=by
  unfold leftOf;rw[Array.toList_filter];exact(List.Sublist.map _ List.filter_sublist).nodup N
 have aa:∀C:MapEntry,leftOf s (seen.push C.born)=(leftOf s seen).filter λx=>!(x.born == C.born):=λC=>by
  unfold leftOf;rw[Array.filter_filter];congr 1;funext x;rw[contains_push];cases seen.contains x.born<;>cases x.born == C.born<;>rfl
 generalize ab:leftOf s seen=L at*;have ad:L.filter (λx=>decide (x.born<q))=L:=Array.filter_eq_self.2 (λx z=>by simpa using O x (by simpa using z));have ae:L.filter (λx=>decide (x.born≥q))= #[]:=by
  rw[Array.filter_eq_empty_iff];intro x z;have:=O x (by simpa using z);simp;omega
 simp only[ad,ae,Array.append_empty];by_cases Q:L.size=0
 .have af:=Array.eq_empty_of_size_eq_zero Q;subst af;refine⟨.tuple #[.bool v6],w,?_,λ_=>cM.refl _ _,V rfl⟩;simp[choose,Sem.run,Question.forced]
 .have ag:L.isEmpty=v6:=by simp[Array.isEmpty,Q]
  simp only[ag,Bool.false_eq_true,if_false,Array.empty_append,Array.size_map];have ah:∃(j:Nat)(n:Nat),j<L.size/\w.drawn<=n/\(choose (Question.mapNext L.size)).run P w= .ok j {w with drawn:=n}:=by
   by_cases A:L.size<=1
   .exact⟨0,w.drawn,Ω,o4 _,by simp[choose,Sem.run,Question.forced,A]⟩
   .exact⟨_,w.drawn+1,Nat.mod_lt _ Ω,Nat.le_succ _,by
     simp only[choose,Sem.run,Question.forced,sp,A,if_false,Question.cut];rfl⟩
  obtain⟨j,n,F,R,ai⟩:=ah;have S:L.toList[j]?=σ L[j]:=by simp[F]
  have aj:=(mem_left (by rw[ab];exact Array.mem_toList_iff.2 (Array.getElem_mem F))).1;refine⟨.tuple #[.bool v2,L[j].key,L[j].val],{w with drawn:=n,heap:=w.heap.setIfInBounds a (.mapIter (σ m) q (seen.push L[j].born) q)},?_,?_,?_⟩
  .have J:=X {w with drawn:=n} (.mapIter (σ m) q (seen.push L[j].born) q) rfl;simp only[ai,Array.getElem?_map,Array.getElem?_eq_getElem F,Y3,W9,J,V2,V9]
  .intro ak;have:=A ak;refine⟨rfl,⟨rfl,R⟩,rfl,Ξ,λr o f G=>?_,λr o al f H=>?_⟩
   .show (w.heap.setIfInBounds a _)[r]?=σ o;by_cases y:r=a
    .subst y;rw[hi]at f;cases f;cases G
    .rw[(MapKept.heap_set hi).2 r y];exact f
   .show (w.heap.setIfInBounds a _)[r]?=σ o;rw[(MapKept.heap_set hi).2 r Ω];exact f
  .refine h1 j (gZ L[j]) _ (by rw[u4,S];rfl) ⟨Ξ,λr o f H=>?_⟩ ⟨rfl,⟨rfl,R⟩,rfl,Ξ,λr o f G=>?_,λr o al f H=>?_⟩ ⟨s,q,seen.push L[j].born,q,?_,E,rfl,?_,o4 _,?_,λp ac=>⟨rfl,L[j],?_,Ξ,Z5 ac⟩⟩
   .show (w.heap.setIfInBounds a _)[r]?=σ o;by_cases y:r=a
    .subst y;rw[hi]at f;cases f;cases H
    .rw[(MapKept.heap_set hi).2 r y];exact f
   .show (w.heap.setIfInBounds a _)[r]?=σ o;by_cases y:r=a
    .subst y;rw[hi]at f;cases f;cases G
    .rw[(MapKept.heap_set hi).2 r y];exact f
   .show (w.heap.setIfInBounds a _)[r]?=σ o;rw[(MapKept.heap_set hi).2 r Ω];exact f
   .show (w.heap.setIfInBounds a _)[m]?=_;rw[(MapKept.heap_set hi).2 m (λhe=>by subst he;rw[hi]at B;cases B)];exact B
   .exact (MapKept.heap_set hi).1
   .rw[aa,Array.toList_filter,CI _ _ _ Z S,oa]
   .simp only[Array.back?_push,W7];exact find_born _ _ N aj
def CK{a m:Nat}{d left:List (x4×x4)}{p:x4×x4}{K:x4->x6->Prop}(h:iM w a m d left (σ p))(f:K (.tuple #[p.1,p.2]) w):aG P (Instr.entry (Γ a)) w K:=by
 obtain⟨r,s,seen,fp,j,x,rfl,hi,y,rfl,q⟩:=h;obtain⟨rfl,z,h1,e,rfl⟩:=q p rfl;refine .of ?_ (cQ.refl _) f;rw[e]at h1;simp only[Instr.entry,getObj,W9,Sem.run,hi,j,V2,e,bne_self_eq_false,Bool.false_eq_true,if_false,<-Array.find?_toList];simp only[W7]at h1;rw[h1];rfl
end
end Go.Vc
namespace Go.Proofs.YtnhkbjhpbbobaaaGreatDoor
open Go Go.Vc Go.RowKit Go.Proofs Go.Proofs.Tryz
set_option maxRecDepth 100000
def et(a:Λ):x4:=.agg (ints .i8 a).toArray
def nu(a:Λ):Prop:=a.length=6/\∀x∈a,0<=x/\x<32
def MC{b:Λ}(h:et a=et b):a=b:=by
 unfold et at h;have h:ints .i8 a=ints .i8 b:=congrArg Array.toList (x4.agg.inj h);have e:∀l:Λ,(ints .i8 l).map valOf=l:=λl=>by
  unfold ints;rw[S5];exact List.map_id l
 rw[<-e a,<-e b,h]
def CL(a:Λ):(et a).cells.toList=ints .i8 a:=by simp[et,x4.cells]
def MD:WideMaps.ArrKey v8 cJ gl 6:=⟨cJ.u,Ψ,Ψ,Ψ⟩
def keys:Keys v8 cJ λv=>∃l,keyOf v8 cJ v=σ l:=Keys.law MD.law
def xi{p:Λ}(h:nu p):∃l,keyOf v8 cJ (et p)=σ l:=by
 obtain⟨w,j⟩:=h
 match p,w with
 |[a,b,c,d,e,f],_=>
  have y:=j a Ξ;have z:=j b Ξ;have A:=j c Ξ;have rd:=j d Ξ;have B:=j e Ξ;have ly:=j f Ξ;have wf:∀x:Int,0<=x/\x<32->(Lit.int .i8 x).wf=v2:=λx q=>by
   simp only[Lit.wf,U9,sp];have I:j4.i8.min= -128:=Φ
   have J:j4.i8.max=127:=Φ
   omega
  have r:decide (0<v8.types.size)=v2:=Ψ
  have r:=ty r;obtain⟨n,C⟩:∃n,v8.types.size=n+1:=⟨v8.types.size-1,Ω⟩;have one:∀x:Int,0<=x/\x<32->v8.keyLits (n+1) gl [.int .i8 x]=σ [.int .i8 x]:=λx q=>by
   unfold V5.keyLits;rw[gl.u];simp[wf x q]
  unfold keyOf;rw[cJ.u];simp only;have E:v8.keyType cJ=v2:=Ψ
  have F:v8.cellsOf gl=1:=Ψ
  have s:v8.cellsOf cJ=6:=Ψ
  have G:(et [a,b,c,d,e,f]).formed v8 cJ=v2:=by
   unfold et x4.formed;rw[cJ.u,s];rfl
  rw[E,G,CL,C];simp only[Bool.and_self,if_true];unfold V5.keyLits;rw[cJ.u];simp only[s,F,ints];have H:X9 6=[0,1,2,3,4,5]:=Φ
  simp[H,one a y,one b z,one c A,one d rd,one e B,one f ly]
def pad(t:Λ):Λ:=t++o6 (6-t.length) 0
def ME{t:Λ}(f:t.length<=6)(a:∀x∈t,0<=x/\x<32):nu (pad t):=
 ⟨by simp[pad];omega,λx e=>by
  rcases j9.1 e with h|h
  .exact a x h
  .have:=(List.mem_replicate.1 h).2;omega⟩
def MF{b:Λ}(e:a.length=b.length)(h:pad a=pad b):a=b:=by
 unfold pad at h;exact(List.append_inj h e).1
def CM{t:Λ}:(pad t).take t.length=t:=by simp[pad]
def pn{b o:Nat}(e:a.length=6)(h:w.rangeAt b o (ints .i8 a)):ab v8 (u6 cJ (.pointer (σ ⟨b,o,ν⟩))) w K=K (et a):=
 A7 cJ.u rfl cJ.i (by simp[e]) h
def MG{b o:Nat}(e:a.length=6)(h:w.rangeAt b o (ints .i8 a)):ab v8 (do loadVar cJ (<-asAddr (.pointer (σ ⟨b,o,ν⟩)))) w K=K (et a):=ab.of λI f=>by
 have:=run_loadVar_mid I b o cJ (ints .i8 a) (.array 6 gl) (oX f h) cJ.u rfl (by rw[cJ.i.size];simp[e]);simp only[asAddr,W9,V9,Result.andThen_ok,this];rfl
def rM{g:Nat}{K:Unit->x6->Prop}(e:a.length=6)(f:cs.length=6)(j:ag w g cJ cs)(h:∀I,af (λr=>r=g) w I->I.heap.size=w.heap.size->ag I g cJ (ints .i8 a)->K () I):aG v8 (j0 cJ (Γ g) (et a)) w K:=
 b1 (vs:=ints .i8 a) cJ.i (by simp[e]) f (λv p=>by obtain⟨x,_,rfl⟩:=j5.1 p;rfl) j h
def ug:List x4:=[.int .i8 0,.int .i8 0,.int .i8 0,.int .i8 0,.int .i8 0,.int .i8 0]
def MH{x:Int}:ak v8 ts [Δ x] w λv I=>v= .bool (decide (¬jC x))/\Ext w I:=by
 refine az func224 ?_;simp only[cB,aT,bP,al];refine⟨λh=>⟨?_,Ext.refl _⟩,λh=>⟨?_,Ext.refl _⟩⟩
 .rw[rs];intro a;have:=a.1;omega
 .congr 1;have:(32<x)=(¬jC x):=propext ⟨λe a=>by have:=a.2;omega,λe=>by
   by_cases f:32<x
   .exact f
   .exact ro ⟨Ω,Ω⟩ e⟩
  simp only[this]
def MI(h:aM .i64 w sv l):
  ak v8 wx [sv,.func (.func ts) #[] #[]] w λv I=>Ext w I/\∃n:Int,v=Δ n/\((0<=n)=¬∀x∈l,jC x):=by
 have z:=h.le;refine az func139 ?_;rw[a1 an.u h];refine⟨λ_ t U=>Ext w U/\∃i:Nat,t=Δ i/\i<=l.length/\∀x∈l.take i,jC x,λ_ t _=>l.length-(bZ t).toNat,⟨Ext.refl _,0,rfl,W0 _,Ξ⟩,?_⟩;rintro _ _ U ⟨e,i,rfl,hi,f⟩;simp only[aT,al];refine⟨λA=>?_,λB=>⟨e,-1,rfl,?_⟩⟩
 .obtain⟨x,j⟩:=aD (l:=l) (i:=i) Ω;rw[bh an.u ai.i Ψ (h.W e) j];show ak v8 ts [Δ x] U _;refine MH.Y ?_;rintro _ V _ ⟨rfl,p⟩;simp only[al,aO];refine⟨λq=>⟨e.F p,i,rfl,?_⟩,λr=>?_⟩
  .exact propext ⟨λ_ s=>q (s x (x7 j)),λ_=>Ω⟩
  .rw[m1 Ω Ω];refine⟨⟨e.F p,i+1,rfl,Ω,λy a=>?_⟩,?_⟩
   .rw[r9,j]at a;rcases j9.1 a with a|a
    .exact f y a
    .simp at a;subst a;exact X5.1 r
   .simp only[bZ];omega
 .have:i=l.length:=Ω
  rw[this,o9]at f;exact propext ⟨λh=>Ω,λh=>ro f h⟩
def CN(h:aM .i64 w sv l):
  ak v8 wA [sv,.func (.func ts) #[] #[]] w λv I=>v= .bool (decide (¬∀x∈l,jC x))/\Ext w I:=by
 refine az func225 ?_;refine(MI h).Y ?_;rintro _ U _ ⟨a,n,rfl,e⟩;simp only[cP];exact⟨by congr 1;simp only[e],a⟩
abbrev Told:=List (Λ×Int)
def k5(p:Λ×Int):x4×x4:=(et (pad p.1),Δ p.2)
def eW(w:x6)(g m:Nat)(aj:Λ)(k o:Int)(D:Told):Prop:=
 (∃sv gs,ag w g fO [sv,Δ k,Δ o,.map (σ m)]/\aB .i64 ai w gs sv aj)/\de w m (D.map k5)/\ci aj/\cG o k/\∀p∈D,dx aj p.1/\cG p.2 k/\p.2≠o
def eW.W{g m:Nat}{o:Int}{D:Told}(h:eW w g m aj k o D)(a:Ext w I):eW I g m aj k o D:=by
 obtain⟨⟨sv,gs,h1,e⟩,f,j⟩:=h;exact⟨⟨sv,gs,h1.W a,e.W a⟩,f.W a,j⟩
def xj{t:Λ}(J:ci aj)(h:dx aj t):t.length=aj.length/\∀x∈t,0<=x/\x<32:=by
 obtain⟨h1,f⟩:=pj.1 h;refine⟨h1.symm,λx j=>?_⟩;obtain⟨i,hi,rfl⟩:=List.getElem_of_mem j;obtain⟨a,e⟩:=aD (l:=aj) (i:=i) Ω;have:=f i a _ e (x8 hi);have:=(J.2 a (x7 e)).2;omega
def rN{t:Λ}(J:ci aj)(h:dx aj t):nu (pad t):=by
 obtain⟨h1,a⟩:=xj J h;exact ME (by rw[h1];exact J.1) a
def eW.qt{g m:Nat}{o:Int}{D:Told}(h:eW w g m aj k o D):∀p∈D.map k5,∃l,keyOf v8 cJ p.1=σ l:=λp ac=>by
 obtain⟨q,a,rfl⟩:=j5.1 ac;exact xi (rN h.2.2.1 (h.2.2.2.2 q a).1)
def CO{s t:Λ}(J:dx aj s)(a:dx aj t)(h:et (pad s)=et (pad t)):s=t:=
 MF ((tR J).symm.F (tR a)) (MC h)
def eW.nodup{g m:Nat}{o:Int}{D:Told}(h:eW w g m aj k o D):(D.map (·.1)).Nodup:=by
 have e:=h.2.1.nodup;rw[S5]at e;refine List.Pairwise.of_map (S:=λa b=>a≠b) (λt=>et (pad t)) (λa b h he=>h (by rw[he])) ?_;rw[S5];exact e
def MJ(w:x6)(l:Λ)(k o:Int)(v:x4)(I:x6):Prop:=
 Ext w I/\(¬ci l->v= .tuple #[.pointer ν,Δ 1])/\(ci l->¬cG o k->v= .tuple #[.pointer ν,Δ 3])/\
  (ci l->cG o k->∃g m,v= .tuple #[Γ g,Δ 0]/\w.heap.size<=g/\w.heap.size<=m/\eW I g m l k o [])
def CP{o:Int}(h:aM .i64 w sv l):ak v8 p3 [sv,Δ k,Δ o] w (MJ w l k o):=by
 refine az func178 ?_;refine aY (λv U=>Ext w U/\∃c,v= .bool c/\(c=v2↔¬ci l)) ?_ ?_
 .rintro _ U ⟨e,c,rfl,f⟩;rw[cb];refine⟨λs=>⟨e,λ_=>rfl,λh=>ro h (f.1 s),λh=>ro h (f.1 s)⟩,λz=>?_⟩;have J:=Classical.byContradiction λh=>by have:=f.2 h;rw[z]at this;cases this
  have E:=J.1;refine k0.Y ?_;rintro _ V _ ⟨rfl,a⟩;by_cases hi:cG o k
  rotate_left
  .simp only[hi,decide_false,bL,W6,bO];exact⟨e.F a,λh=>ro J h,λ_ _=>rfl,λ_ h=>ro h hi⟩
  simp only[hi,decide_true,bL,X3,a7];refine(k1 ((h.W e).W a) Ω).Y ?_;rintro aV G _ ⟨x,A,H,hm⟩;have I:=hm.ls.cells;refine ue λm K L j B=>?_;rw[dk (cs:=#[aV,Δ k,Δ o,.map (σ m)]) (by obtain⟨_,_,_,_,_,rfl,_⟩:=hm.ls;kernel_rfl)];refine bn λg M N q C=>?_;have s1:=e.size;have O:=a.size;have P:=x.size;have Q:=j.size;exact⟨((((e.F a).F x).F j).F q),λh=>ro J h,λ_ h=>ro hi h,λ_ _=>⟨g,m,rfl,Ω,Ω,⟨aV,A,C,(hm.W j).W q⟩,B.W q,J,hi,λp ac=>by cases ac⟩⟩
 .intro ax y;rw[a1 an.u h];simp only[bP,al];refine⟨λR=>y _ _ ⟨Ext.refl _,v2,rfl,λ_ J=>by have:=J.1;omega,λ_=>rfl⟩,λS=>?_⟩;refine(CN h).Y ?_;rintro _ V _ ⟨rfl,a⟩;refine y _ _ ⟨a,_,rfl,?_⟩;rw[sp];exact⟨λr J=>r J.2,λr J=>r ⟨Ω,J⟩⟩
def kC(t:Λ)(i:Nat):Λ:=t.take i++o6 (6-i) 0
def MK{t:Λ}{i:Nat}(hi:i<=t.length)(a:t.length<=6):(kC t i).length=6:=by simp[kC];omega
def ML{t:Λ}{i:Nat}{x:Int}(a:t[i]?=σ x)(f:t.length<=6):(kC t i).set i x=kC t (i+1):=by
 have hi:=(x5.1 a).1;unfold kC;have e:(t.take i).length=i:=by rw[o8];omega
 rw[T4 _ _ Ω,e,V0,r9,a];have:6-i=(6-(i+1))+1:=Ω
 rw[this,List.replicate_succ];simp
def MM(t:Λ):kC t t.length=pad t:=by simp[kC,pad]
def CQ(w:x6)(aj t:Λ)(v:x4)(I:x6):Prop:=Ext w I/\∃a e,v= .tuple #[et a,Δ e]/\a.length=6/\(dx aj t->a=pad t/\e=0)/\(¬dx aj t->e=3)
def MN{g m:Nat}{t:Λ}{o:Int}{D:Told}{aV:x4}(h:eW w g m aj k o D)(I:aM .i64 w aV t):ak v8 Kc [Γ g,aV] w (CQ w aj t):=by
 obtain⟨⟨sv,gs,K,hm⟩,_,J,_⟩:=h;have aI:=J.1;refine az func226 ?_;refine bE cJ.i λB U aJ X C=>?_;refine bE cJ.i λaq V aK L M=>?_;have y:=X.F L;have s1:=X.size;have aN:=L.size;have aP:=C.lt;have aQ:=M.lt;have aR:=K.lt;have C:=C.W L;have ah:=K.W y;rw[di e4.u];simp only[Y0,a7];have N:∀{f:x6}{E:Λ}{e:Int},Ext w f->ag f aq cJ (ints .i8 E)->ag f B cJ ug->E.length=6->(dx aj t->E=pad t/\e=0)->(¬dx aj t->e=3)->
   ab v8 (u6 cJ (Γ aq)) f λam=>aG v8 (j0 cJ (Γ B) am) f λ(_:Unit)O=>ab v8 (do loadVar cJ (<-asAddr (Γ B))) O λao=>CQ w aj t (.tuple #[ao,Δ e]) O:=by
  intro f E e q r z H G P;rw[pn H r.range];refine rM H rfl z λO ap aS av=>?_;rw[MG H av.range];exact⟨q.put ap Ω,E,e,rfl,H,G,P⟩
 rw[a1 an.u (I.W y),aL fO.p 0 ah rfl,a1 an.u (hm.ls.W y)];simp only[bK,al];have Y:ints .i8 (kC t 0)=ug:=by simp[kC,ug,ints]
 refine⟨λaw=>N y (by rw[Y];exact M) C (by simp[kC]) (λG=>ro (by rw[tR G]) aw) (λ_=>rfl),λZ=>?_⟩;have Z:t.length=aj.length:=Ω
 rw[a1 an.u (I.W y)];refine b7.range t.length (λi _ f=>Ext w f/\ag f aq cJ (ints .i8 (kC t i))/\ag f B cJ ug/\∀(j:Nat)(a x:Int),j<i->aj[j]?=σ a->t[j]?=σ x->0<=x/\x<a) Ω
  ⟨y,by rw[Y];exact M,C,λj a x ay=>Ω⟩ ?_ ?_
 .rintro i _ f aA hi ⟨q,r,z,Q⟩ aB;simp only[aT,al];refine⟨λ_=>?_,λh=>Ω⟩;obtain⟨x,s⟩:=aD (l:=t) hi;obtain⟨a,A⟩:=aD (l:=aj) (i:=i) Ω;have aU:=J.2 a (x7 A);rw[bh an.u ai.i Ψ (I.W q) s];have ac:=MK (t:=t) (i:=i) Ω Ω;refine aY (λv aC=>f=aC/\v= .bool (decide (¬(0<=x/\x<a)))) ?_ ?_
  .rintro _ _ ⟨rfl,rfl⟩;simp only[al];refine⟨λaE=>N q r z ac (λG=>ro ((pj.1 G).2 i a x A s) aE) (λ_=>rfl),λR=>?_⟩;have R:=X5.1 R;rw[fC ai.u gl.u,KZ Ω Ω,wK cJ.u gl.i Ω];refine bu gl.i rfl rfl r (by simp[ac];omega) λaW ad aX ae=>?_;simp only[aO];refine aB _ _ ⟨q.put ad Ω,?_,z.aa ad (by show¬(B=aq);omega),λj a' aF ay S W=>?_⟩
   .have e:(ints .i8 (kC t i)).set (0+i*1) (.int .i8 x)=ints .i8 (kC t (i+1)):=by
     rw[<-ML s Ω];simp[ints,T2]
    rw[e]at ae;exact ae
   .by_cases aH:j=i
    .subst aH;rw[A]at S;rw[s]at W;cases S;cases W;exact R
    .exact Q j a' aF Ω S W
  .intro ax af;simp only[aT,al];refine⟨λaZ=>af _ _ ⟨rfl,by rw[rs];omega⟩,λa2=>?_⟩;rw[aL fO.p 0 (K.W q) rfl,bh an.u ai.i Ψ (hm.ls.W q) A,cP];refine af _ _ ⟨rfl,?_⟩;congr 1;exact decide_eq_decide.2 ⟨λh au=>Ω,λh=>Ω⟩
 .rintro _ f aA ⟨q,r,z,Q⟩;simp only[aT,al];refine⟨λh=>Ω,λ_=>?_⟩;rw[MM]at r;exact N q r z (by simp[pad];omega) (λ_=>⟨rfl,rfl⟩) (λP=>ro (pj.2 ⟨Z.symm,λj a x A s=>Q j a x (x5.1 s).1 A s⟩) P)
def jI(D:Told)(o:Int)(t:Λ):Int:=match D.find? (λp=>decide (p.1=t))with
 |some p=>p.2
 |none=>o
def CR{D:Told}(e:(D.map (·.1)).Nodup){p q:Λ×Int}(ac:p∈D)(f:q∈D)(h:p.1=q.1):p=q:=by
 obtain⟨i,hi⟩:=X8.1 ac;obtain⟨j,a⟩:=X8.1 f;have h1:(D.map (·.1))[i]?=σ p.1:=by rw[u4,hi];rfl
 have r:(D.map (·.1))[j]?=σ p.1:=by rw[u4,a,h];rfl
 have:=lO e h1 r;subst this;rw[hi]at a;exact Z5 a
def rO{D:Told}{o:Int}{t:Λ}(e:(D.map (·.1)).Nodup)(h:(t,c)∈D):jI D o t=c:=by
 unfold jI;cases a:D.find? (λp=>decide (p.1=t))with
 |none=>
  have:=List.find?_eq_none.1 a _ h;simp at this
 |some p=>
  have h1:=List.find?_some a;have h1:p.1=t:=by simpa using h1
  have:=CR e (List.mem_of_find?_eq_some a) h h1;rw[this]
def rP{D:Told}{o:Int}{t:Λ}(h:∀p∈D,p.1≠t):jI D o t=o:=by
 unfold jI;cases a:D.find? (λp=>decide (p.1=t))with
 |none=>rfl
 |some p=>
  have h1:=List.find?_some a;have h1:p.1=t:=by simpa using h1
  exact ro h1 (h p (List.mem_of_find?_eq_some a))
def mv(D:Told)(t:Λ)(c o:Int)(D':Told):Prop:=(∀p,p∈D'↔(c≠o/\p=(t,c))\/(p∈D/\p.1≠t))/\D'.length<=D.length+1
def mv.cost{D D':Told}{t:Λ}{o:Int}(h:mv D t c o D')(q:(D.map (·.1)).Nodup)(e:(D'.map (·.1)).Nodup)(s:Λ):jI D' o s=if s=t then c else jI D o s:=by
 by_cases J:s=t
 .subst J;rw[ms rfl];by_cases f:c=o
  .subst f;exact rP λp ac he=>by
    rcases(h.1 p).1 ac with a|a
    .exact a.1 rfl
    .exact a.2 he
  .exact rO e ((h.1 _).2 (.inl ⟨f,rfl⟩))
 .rw[rc J];by_cases he:∃p∈D,p.1=s
  .obtain⟨p,ac,rfl⟩:=he;rw[rO q ac];exact rO e ((h.1 _).2 (.inr ⟨ac,J⟩))
  .have j:∀p∈D,p.1≠s:=λp ac h=>he ⟨p,ac,h⟩;rw[rP j];exact rP λp ac a=>by
    rcases(h.1 p).1 ac with⟨_,rfl⟩|⟨r,_⟩
    .exact J a.symm
    .exact j p r a
def MO{D:Told}{t:Λ}{o v0:Int}(h:(D.map (·.1)).Nodup)(e:D[j]?=σ (t,v0))(q:c≠o):mv D t c o (D.set j (t,c)):=by
 have f:=(x5.1 e).1;refine⟨λp=>⟨λac=>?_,λac=>?_⟩,Ξ⟩
 .obtain⟨i,hi⟩:=X8.1 ac;by_cases a:j=i
  .subst a;rw[l9 f]at hi;exact .inl ⟨q,(Z5 hi).symm⟩
  .rw[Z6 a]at hi;refine .inr ⟨x7 hi,λhe=>a ?_⟩;exact lO h (by rw[u4,e];rfl) (by rw[u4,hi,Y3,he])
 .rcases ac with⟨_,rfl⟩|⟨ac,r⟩
  .exact x7 (l9 f)
  .obtain⟨i,hi⟩:=X8.1 ac;have a:j≠i:=λhe=>by subst he;rw[e]at hi;cases hi;exact r rfl
   exact x7 (by rw[Z6 a];exact hi)
def CS{D:Told}{t:Λ}{o:Int}(a:∀p∈D,p.1≠t)(e:c≠o):mv D t c o (D++[(t,c)]):=by
 refine⟨λp=>?_,Ξ⟩;rw[j9,c9];exact⟨λh=>h.elim (λh=>.inr ⟨h,a p h⟩) (λh=>.inl ⟨e,h⟩),λh=>h.elim (λh=>.inr h.2) (λh=>.inl h.1)⟩
def MP{D:Told}{t:Λ}{o v0:Int}(e:(D.map (·.1)).Nodup)(a:D[j]?=σ (t,v0)):mv D t o o (D.eraseIdx j):=by
 refine⟨λp=>⟨λac=>?_,λac=>?_⟩,by have:=List.length_eraseIdx_le D j;omega⟩
 .refine .inr ?_;obtain⟨i,f,hi⟩:=List.mem_eraseIdx_iff_getElem?.1 ac;refine⟨x7 hi,λhe=>f ?_⟩;exact lO e (by rw[u4,hi,Y3,he]) (by rw[u4,a];rfl)
 .rcases ac with⟨h,_⟩|⟨ac,q⟩
  .exact ro rfl h
  .obtain⟨i,hi⟩:=X8.1 ac;exact List.mem_eraseIdx_iff_getElem?.2 ⟨i,λhe=>by subst he;rw[a]at hi;cases hi;exact q rfl,hi⟩
def MQ{D:Told}{t:Λ}{o:Int}(a:∀p∈D,p.1≠t):mv D t o o D:=
 ⟨λp=>⟨λh=>.inr ⟨h,a p h⟩,λh=>h.elim (λh=>ro rfl h.1) (λh=>h.1)⟩,Ω⟩
def CT{g m:Nat}{t:Λ}{o:Int}{D:Told}(h:eW w g m aj k o D)(e:dx aj t)(a:(D.map k5)[j]?=σ (et (pad t),v)):∃c,D[j]?=σ (t,c)/\v=Δ c:=by
 rw[u4]at a;obtain⟨p,ac,he⟩:=Y9.1 a;have h1:=CO (h.2.2.2.2 p (x7 ac)).1 e (congrArg Prod.fst he);exact⟨p.2,by rw[ac,<-h1],(congrArg Prod.snd he).symm⟩
def CU{g m:Nat}{t:Λ}{o:Int}{D:Told}(h:eW w g m aj k o D)(a:∀p∈D.map k5,p.1≠et (pad t)):∀p∈D,p.1≠t:=λp ac he=>a (k5 p) (j5.2 ⟨p,ac,rfl⟩) (by rw[k5,he])
def MR(w:x6)(g m:Nat)(aj t:Λ)(k o c:Int)(D:Told)(v:x4)(I:x6):Prop:=
 (¬(dx aj t/\cG c k)->v=Δ 3/\Ext w I)/\(dx aj t/\cG c k->v=Δ 0/\af (λr=>r=m) w I/\∃D',mv D t c o D'/\eW I g m aj k o D')
def CV{g m:Nat}{t:Λ}{o:Int}{D:Told}{aV:x4}(h:eW w g m aj k o D)(ag:aM .i64 w aV t):ak v8 JG [Γ g,aV,Δ c] w (MR w g m aj t k o c D):=by
 refine az func179 ?_;refine(MN h ag).Y ?_;rintro _ U _ ⟨W,aF,e,rfl,M,ah,ai⟩;rw[bA,bB];refine bE cJ.i λaq V aG X Y=>?_;refine rM M rfl Y λZ am aH ab=>?_;have s1:=W.size;have aI:=X.size;have aJ:=Y.lt;have H:=(W.F X).put am Ω;refine aY (λv N=>v=Δ 0/\(dx aj t/\cG c k)/\af (λr=>r=m) w N/\∃D',mv D t c o D'/\eW N g m aj k o D') ?_ ?_
 .rintro _ N ⟨_,h1,E⟩;exact⟨λh=>ro h1 h,λ_=>⟨rfl,E⟩⟩
 intro ax an;simp only[bK,al];by_cases A:dx aj t
 rotate_left
 .have he:=ai A;subst he;exact⟨λ_=>⟨λ_=>⟨rfl,H⟩,λh=>ro h.1 A⟩,λh=>by simp at h⟩
 obtain⟨rfl,rfl⟩:=ah A;refine⟨λh=>ro rfl h,λ_=>?_⟩;have x:=h.W H;obtain⟨⟨sv,gs,y,hm⟩,I,J,ao,ap⟩:=id x;rw[aL fO.p 1 y rfl];refine k0.Y ?_;rintro _ av _ ⟨rfl,z⟩;have aw:=H.F z;by_cases hi:cG c k
 rotate_left
 .simp only[hi,decide_false,bL,W6,bO];exact⟨λ_=>⟨rfl,aw⟩,λh=>ro h.2 hi⟩
 simp only[hi,decide_true,bL,X3,a7];rw[aL fO.p 2 (y.W z) rfl];simp only[bl,al,en];have ad:=xi (rN J A);have ay:∀{D':Told},mv D t c o D'->∀p∈D',dx aj p.1/\cG p.2 k/\p.2≠o:=λhu p ac=>by
  rcases(hu.1 p).1 ac with⟨C,rfl⟩|⟨h1,_⟩
  .exact⟨A,hi,C⟩
  .exact ap p h1
 have K:∀{G B:x6}{D':Told},Ext av G->af (λr=>r=m) G B->de B m (D'.map k5)->mv D t c o D'->ax (Δ 0) B:=by
  intro G B D' f q aA hu;have aB:g≠m:=λhe=>by
   obtain⟨aC,aD,au,_⟩:=I;have y:Z.heap[g]?=_:=y;rw[he,au]at y;cases y
  have aE:∀r,lw sv r->r≠m:=λr ae he=>by
   subst he;obtain⟨aC,aD,au,_⟩:=I;obtain⟨_,⟨rfl,_⟩|⟨cap,cs,rfl,L,_⟩⟩:=hm
   .obtain⟨a,n,c,h1,_⟩:=ae;cases h1
   .obtain⟨a,n,c,h1,E⟩:=ae;cases h1;have L:Z.heap[gs]?=_:=L;have E:gs=r:=E;rw[E,au]at L;cases L
  have O:=z.F f;exact an _ _ ⟨rfl,⟨A,hi⟩,((H.F O).aa _).F q,D',hu,⟨sv,gs,(y.W O).aa q aB,bw (hm.W O) q aE⟩,aA,J,ao,ay hu⟩
 refine⟨λC G f _ _=>?_,λC G f _ _=>?_⟩
 .rw[aL fO.p 3 ((y.W z).W f) rfl,pn M ((ab.W z).W f).range];subst C;refine Mz jW.u keys ((I.W z).W f) x.qt ad (λj v0 B P s q=>?_) (λB Q s q=>?_)
  .obtain⟨fp,R,_⟩:=CT x A P;rw[oa]at s;exact K f q s (MP x.nodup R)
  .exact K f q s (MQ (CU x Q))
 .rw[aL fO.p 3 ((y.W z).W f) rfl,pn M ((ab.W z).W f).range];refine rL jW.u keys ((I.W z).W f) x.qt ad (λj v0 B P s q=>?_) (λB Q s q=>?_)
  .obtain⟨fp,R,_⟩:=CT x A P;have S:(D.map k5).set j (et (pad t),Δ c)=(D.set j (t,c)).map k5:=by rw[T2];rfl
   rw[S]at s;exact K f q s (MO x.nodup R C)
  .have S:D.map k5++[(et (pad t),Δ c)]=(D++[(t,c)]).map k5:=by rw[Z4];rfl
   rw[S]at s;exact K f q s (CS (CU x Q) C)
def MS{g m:Nat}{t:Λ}{o:Int}{D:Told}{b:Bool}(h:eW w g m aj k o D)(a:dx aj t)(h1:∀c,(t,c)∈D->K (if b then .tuple #[Δ c,.bool v2]else Δ c))(r:(∀p∈D,p.1≠t)->K (if b then .tuple #[Δ 0,.bool v6]else Δ 0)):
  ab v8 (Instr.lookup jW (.map (σ m)) (et (pad t)) b) w K:=by
 have e:=xi (rN h.2.2.1 a);by_cases he:∃p∈D,p.1=t
 .obtain⟨p,ac,rfl⟩:=he;obtain⟨j,s⟩:=X8.1 ac;rw[rK jW.u keys h.2.1 h.qt e (j:=j) (v:=Δ p.2) (by rw[u4,s];rfl)];exact h1 p.2 ac
 .have f:∀p∈D,p.1≠t:=λp ac h=>he ⟨p,ac,h⟩;rw[uf jW.u keys ⟨_,_,av.i⟩ h.2.1 h.qt e (λq x hk=>by
   obtain⟨p,ac,rfl⟩:=j5.1 x;exact f p ac (CO (h.2.2.2.2 p ac).1 a hk))]
  exact r f
def MT{g m:Nat}{o:Int}{D:Told}(h:eW w g m aj k o D):ak v8 Kg [Γ g] w λv I=>v=Δ D.length/\Ext w I:=by
 obtain⟨⟨sv,gs,a,hm⟩,e,_⟩:=h;refine az func232 ?_;rw[di e4.u];simp only[Y0,a7];rw[aL fO.p 3 a rfl,MA jW.u e];exact⟨Ξ,Ext.refl _⟩
def MU{g m:Nat}{o:Int}{D:Told}(h:eW w g m aj k o D):ak v8 KN [Γ g] w λv I=>v=Δ k/\Ext w I:=by
 obtain⟨⟨sv,gs,a,hm⟩,_⟩:=h;refine az func292 ?_;rw[di e4.u];simp only[Y0,a7];rw[aL fO.p 1 a rfl];exact⟨rfl,Ext.refl _⟩
def xk{g m:Nat}{o:Int}{D:Told}(h:eW w g m aj k o D):ak v8 Kh [Γ g] w λv I=>Ext w I/\∃a,w.heap.size<=a/\aB .i64 ai I a v aj:=by
 obtain⟨⟨sv,gs,e,hm⟩,_,J,_⟩:=h;have f:=J.1;refine az func233 ?_;rw[di e4.u];simp only[Y0,a7];rw[aL fO.p 0 e rfl];exact k1 hm.ls Ω
def MV{g m:Nat}{o:Int}{D:Told}(h:eW w g m aj k o D):ak v8 KO [Γ g] w λv I=>v=Δ aj.length/\Ext w I:=by
 refine az func293 ?_;refine(xk h).Y ?_;rintro v U _ ⟨a,e,_,hm⟩;rw[a1 an.u hm.ls];exact⟨rfl,a⟩
end Go.Proofs.YtnhkbjhpbbobaaaGreatDoor
namespace Go.Vc
open Go Go.RowKit
set_option maxRecDepth 100000
def lm(v:x4)(r:Nat):Prop:=∃a n c,v= .slice (σ a) n c/\a.block=r
def fi(h:lm (.slice ν 0 0) r):False:=by
 obtain⟨a,n,c,h,_⟩:=h;cases h
section
variable{α:Type}{f:α->List x4}{k:Nat}
theorem iN:∀{L:List α},(∀a∈L,(f a).length=k)->(L.flatMap f).length=L.length*k
 |[],_=>Ξ
 |a::L,h=>by
  rw[V8,n9,h a (.head _),iN λb e=>h b (.tail _ e),Y1,U7];omega
theorem rQ:∀{L:List α}(i:Nat),(∀a∈L,(f a).length=k)->(L.flatMap f).take (i*k)=(L.take i).flatMap f
 |[],i,_=>Ξ
 |a::L,0,_=>Ξ
 |a::L,i+1,h=>by
  have e:=h a (.head _);rw[V8,List.take_succ_cons,V8,<-rQ i λb j=>h b (.tail _ j),U7,Nat.one_mul,Nat.add_comm,List.take_append,e];congr 1
  .exact b9 Ω
  .congr 1;omega
theorem uh:∀{L:List α}(i:Nat),(∀a∈L,(f a).length=k)->(L.flatMap f).drop (i*k)=(L.drop i).flatMap f
 |[],i,_=>Ξ
 |a::L,0,_=>Ξ
 |a::L,i+1,h=>by
  have e:=h a (.head _);rw[V8,List.drop_succ_cons,<-uh i λb j=>h b (.tail _ j),U7,Nat.one_mul,Nat.add_comm,List.drop_append,e];rw[List.drop_of_length_le Ω,List.nil_append];congr 1;omega
def qu{L:List α}{i:Nat}{a:α}(h:∀a∈L,(f a).length=k)(hi:L[i]?=σ a)(e:(f a)[j]?=σ v):(L.flatMap f)[i*k+j]?=σ v:=by
 have q:=(x5.1 e).1;rw[<-R3,uh i h];have p:=x5.1 hi;rw[W3 p.1,p.2,V8,Y2 q];exact e
def xl{L:List α}{i:Nat}{a:α}(h:∀a∈L,(f a).length=k)(e:(f a).length=k)(hi:i<L.length):over (L.flatMap f) (i*k) (f a)=(L.set i a).flatMap f:=by
 have:=iN h;have j:(i+1)*k<=L.length*k:=X4 _ hi;rw[U7,Nat.one_mul]at j;rw[nV Ω,e,rQ i h,show i*k+k=(i+1)*k by rw[U7,Nat.one_mul],uh (i+1) h,List.set_eq_take_append_cons_drop,ms hi,List.flatMap_append,V8,T6]
def ui{vs:List x4}{o m:Nat}(h1:o+vs.length<=m)(a:m<=cs.length):(over cs o vs).take m=over (cs.take m) o vs:=by
 rw[nV Ω,nV (by rw[o8];omega),T6,T6,List.take_append,List.take_append,List.take_take,List.take_take,List.drop_take,o8];rw[show min m o=o by omega,show min o m=o by omega,show min o cs.length=o by omega,b9 (l:=vs) Ω];congr 3;omega
def bk(f:α->List x4)(k:Nat)(e:o5)(w:x6)(g:Nat)(v:x4)(L:List α):Prop:=b2 w g e k v L.length (L.flatMap f)/\∀a∈L,(f a).length=k
variable{P:V5}{w:x6}{e:o5}{g:Nat}{v:x4}{L:List α}
def bk.nil(f:α->List x4)(k:Nat)(e:o5)(w:x6)(g:Nat):bk f k e w g (.slice ν 0 0) []:=⟨b2.nil w g e k,λa h=>by cases h⟩
def bk.lw(h:bk f k e w g v L)(j:lm v r):r=g/\g<w.heap.size:=by
 obtain⟨_,⟨rfl,_⟩|⟨cap,cs,rfl,p,_⟩⟩:=h.1
 .exact (fi j).elim
 .obtain⟨a,n,c,h1,q⟩:=j;cases h1;exact⟨q.symm,p.lt⟩
def bk.aa(h:bk f k e w g v L)(a:af S w I)(j:∀r,lm v r->¬S r):bk f k e I g v L:=
 ⟨⟨h.1.1,h.1.2.imp id λ⟨cap,cs,h1,p,q⟩=>⟨cap,cs,h1,p.aa a (j g ⟨_,_,_,h1,rfl⟩),q⟩⟩,h.2⟩
def bk.W(h:bk f k e w g v L)(a:Ext w I):bk f k e I g v L:=h.aa (a.aa λ_=>False) λ_ _ h=>h
def bk.sl(h:bk f k e w g v L):cg w k v L.length (L.flatMap f):=h.1.sl
def bk.le(h:bk f k e w g v L):L.length<=9223372036854775807:=by
 have:=cg.le h.sl;simpa[maxLen]using this
def ef{a:o5}(j:P.underlying t=σ (.slice e))(h:bk f k e w g v L):ab P (V1 #[t] a #[v]) w K=K (Δ L.length):=by
 obtain⟨_,_,_,_,_,rfl,_⟩:=h.sl;exact jd j
def ck{q:j4}{b:Nat}{i:Nat}(a:y=(i:Int))(j:P.underlying t=σ (.slice e))(hi:aR P e k b z)(h:bk f k e w g v L)(p:i<L.length):
  ab P (b8 t v (.int q y)) w K=K (.pointer (σ ⟨g,i*k,ν⟩)):=by
 subst a;obtain⟨_,⟨rfl,r⟩|⟨cap,cs,rfl,s,x⟩⟩:=h.1
 .omega
 .rw[eT j hi p (λ_=>rfl),X6]
def bk.range{i:Nat}{a:α}(h:bk f k e w g v L)(hi:L[i]?=σ a):w.rangeAt g (i*k) (f a):=λj u hu=>by
 have h1:=qu h.2 hi hu;have:=(x5.1 hi).1;obtain⟨_,⟨rfl,x⟩|⟨cap,cs,rfl,q,_,_,y,r⟩⟩:=h.1
 .omega
 .have p:=(x5.1 h1).1;rw[iN h.2]at p;rw[<-r,Y6 p]at h1;exact q.cell h1
def xm{b:Nat}{i:Nat}{a:α}{K:Unit->x6->Prop}(hi:aR P t k b z)(h:bk f k e w g v L)(j:(f a).length=k)(h1:∀u∈f a,u.oneCell'=v2)(s:i<L.length)(A:∀I,af (λr=>lm v r) w I->I.heap.size=w.heap.size->bk f k e I g v (L.set i a)->K () I):aG P (j0 t (.pointer (σ ⟨g,i*k,ν⟩)) (.agg (f a).toArray)) w K:=by
 have N:=iN h.2;have B:(i+1)*k<=L.length*k:=X4 _ s;rw[U7,Nat.one_mul]at B;obtain⟨⟨O,⟨rfl,Q⟩|⟨cap,cs,rfl,C,x,E,y,F⟩⟩,p⟩:=h
 .omega
 .have G:L.length*k<=cs.length:=by rw[y];exact X4 _ x
  refine Bb hi j h1 C Ω λI H J M=>A I (H.Y λr _ he=>⟨_,_,_,rfl,he.symm⟩) J ⟨⟨?_,.inr ⟨cap,_,Ξ,M,by simpa using x,E,by rw[nl,y],?_⟩⟩,λb q=>?_⟩
  .rw[iN λb q=>by
    rcases W8 q with h|rfl
    .exact p b h
    .exact j]
  .rw[o7,<-xl p j s,<-F,ui (by rw[j];omega) G]
  .rcases W8 q with h|rfl
   .exact p b h
   .exact j
def k6{b:Nat}{u:x4}{i:Nat}{a a':α}{K:Unit->x6->Prop}(hi:aR P t 1 b z)(hu:u.cells= #[u])(h1:u.oneCell'=v2)(h:bk f k e w g v L)(s:L[i]?=σ a)(A:f a'=(f a).set j u)(W:j<k)(M:∀I,af (λr=>lm v r) w I->I.heap.size=w.heap.size->bk f k e I g v (L.set i a')->K () I):aG P (j0 t (.pointer (σ ⟨g,i*k+j,ν⟩)) u) w K:=by
 have B:=(x5.1 s).1;have X:=iN h.2;have N:(i+1)*k<=L.length*k:=X4 _ B;rw[U7,Nat.one_mul]at N;have O:(f a).length=k:=h.2 a (x7 s);have q:(f a').length=k:=by rw[A,o7];exact O
 have Q:(L.flatMap f).set (i*k+j) u=(L.set i a').flatMap f:=by
  rw[<-xl h.2 q B];refine X0 λp=>?_;rw[o1 _ _ _ Ω,Y7,q];by_cases ac:i*k<=p/\p<i*k+k
  .rw[ms ac,A,Y7];by_cases C:i*k+j=p
   .rw[ms C,ms Ω,ms Ω,ms Ω]
   .rw[rc C,rc Ω];obtain⟨y,E⟩:∃y,(f a)[p-i*k]?=σ y:=⟨_,x8 Ω⟩;have:=qu h.2 s E;rw[show i*k+(p-i*k)=p by omega]at this;rw[this,E]
  .rw[rc ac,rc Ω]
 obtain⟨⟨Y,⟨rfl,Z⟩|⟨cap,cs,rfl,R,F,S,G,T⟩⟩,H⟩:=h
 .omega
 .have aa:L.length*k<=cs.length:=by rw[G];exact X4 _ F
  refine bu hi hu h1 R Ω λI U J V=>M I (U.Y λr _ he=>⟨_,_,_,rfl,he.symm⟩) J ⟨⟨?_,.inr ⟨cap,_,Ξ,V,by simpa using F,S,by rw[o7,G],?_⟩⟩,λb x=>?_⟩
  .rw[iN λb x=>by
    rcases W8 x with h|rfl
    .exact H b h
    .exact q]
  .rw[o7,<-Q,<-T,List.take_set]
  .rcases W8 x with h|rfl
   .exact H b h
   .exact q
def jl{N:o5}{b:Nat}{x:x4}{a:α}{K:x4->x6->Prop}(A:P.underlying t=σ (.slice e))(hi:aR P e k b z)(H:z.cells.size=k)(h:bk f k e w g v L)(F:cg w k x 1 (f a))(h1:∀u∈f a,u.oneCell'=v2)(B:(L.length+1)*b<=140737488355328)(J:L.length+1<=9223372036854775807)(M:∀j p I,bk f k e I p j (L++[a])->(∀r,lm j r->lm v r\/w.heap.size<=r)->af (λr=>lm v r) w I->K j I):aG P (Z9 #[t,t] N #[v,x]) w K:=by
 have O:(f a).length=k:=by have:=F.1;omega
 have C:∀j p I,b2 I p e k j (L.length+1) (L.flatMap f++f a)->bk f k e I p j (L++[a]):=λj p I hm=>⟨by simpa using hm,λb B=>by
  rcases j9.1 B with aW|aW
  .exact h.2 b aW
  .rw[c9.1 aW];exact O⟩
 rcases h.1.2 with⟨q,Q⟩|⟨cap,cs,q,R,_⟩
 .have hm:b2 w w.heap.size e k v L.length (L.flatMap f):=⟨h.1.1,.inl ⟨q,Q⟩⟩;subst q;refine o3 A A hi H hm F h1 (by simpa using B) (by simpa[maxLen]using J) λj p I E s G=>M j p I (C _ _ _ s) (λr y=>.inr ?_) (G.Y λr y h=>Ω);have:=((C _ _ _ s).lw y).1;omega
 .refine o3 A A hi H h.1 F h1 (by simpa using B) (by simpa[maxLen]using J) λj p I E s G=>M j p I (C _ _ _ s) (λr y=>?_) (G.Y λr y h=>⟨_,_,_,q,h.symm⟩);have:=((C _ _ _ s).lw y).1;rcases E with E|E
  .exact .inl ⟨_,_,_,q,by show g=r;omega⟩
  .exact .inr Ω
def MW{p:o5}{b:Nat}{x:x4}{a:α}{K:x4->x6->Prop}(q:P.underlying t=σ (.slice e))(hi:aR P e k b z)(s:z.cells.size=k)(h:bk f k e w g v L)(y:cg w k x 1 (f a))(h1:∀a,∀u∈f a,u.oneCell'=v2)(A:(L.length+1)*b<=140737488355328)(B:L.length+1<=9223372036854775807)(C:∀j E I,bk f k e I E j (L++[a])->(∀r,lm j r->lm v r\/w.heap.size<=r)->af (λr=>lm v r) w I->K j I):aG P (Z9 #[t,t] p #[v,x]) w K:=jl q hi s h y (h1 a) A B C
def iO{b:Nat}{a:α}{x:x4}{K:x4->x6->Prop}(q:P.underlying t=σ (.slice e))(hi:aR P e k b z)(B:k<=100000)(j:x.cells=(f a).toArray)(p:(f a).length=k)(r:∀v g I,g=w.heap.size->Ext w I->bk f k e I g v [a]->K v I):aG P (X2 t 1 #[(0,x)]) w K:=
 kZ q hi Ω (cs:=x.cells) (Bk Ξ (by rw[j];simpa using p)) λg I s y h=>by
  have h:ag I g e (f a):=by rw[j]at h;simpa using h
  exact r _ g I s y ⟨by simpa using b2.full (n:=1) h Ω (by simp[maxLen]),λc A=>by rw[c9.1 A];exact p⟩
end
end Go.Vc
namespace Go.Proofs.YtnhkbjhpbbobaaaGreatDoor
open Go Go.Vc Go.RowKit Go.Proofs Go.Proofs.Tryz
set_option maxRecDepth 100000
theorem xn{α:Type}:∀{l:List α}{j:Nat}{x:α},l[j]?=σ x->(x::l.eraseIdx j).Perm l
 |[],j,x,h=>by simp at h
 |a::l,0,x,h=>by simp at h;subst h;exact List.Perm.refl _
 |a::l,j+1,x,h=>by
  simp at h;rw[List.eraseIdx_cons_succ];exact(List.Perm.swap a x _).F ((xn h).cons a)
def CW{α:Type}{l:List α}(h:j<l.length):(l.eraseIdx j).length+1=l.length:=by
 rw[List.length_eraseIdx,ms h];omega
def qv(w:x6)(a:Nat):Nat:=match w.heap[a]? with
 |some (.mapIter (σ m) _ seen _)=>(match w.heap[m]? with
  |some (.map e _)=>(leftOf e seen).size
  |_=>0)
 |_=>0
def uj{a m:Nat}{d left:List (x4×x4)}{e:Option (x4×x4)}(h:iM w a m d left e):qv w a=left.length:=by
 obtain⟨j,p,seen,fp,h1,_,_,f,_,rfl,_⟩:=h;unfold qv;rw[f];simp only;rw[h1];simp
def MX{w0:x6}{a m:Nat}{d d0 left:List (x4×x4)}{e:Option (x4×x4)}(h:iM w a m d left e)(hm:de w0 m d0)(h1:Ext w0 w)(j:Ext w0 I)(hi:fb w I):iM I a m d left e:=by
 obtain⟨p,c,s,fp,q,r,x,y,z⟩:=h;obtain⟨A,B,f1,_⟩:=hm;have g1:=h1.aX m _ f1 rfl;have f:=j.aX m _ f1 rfl;rw[q]at g1;rw[<-g1]at f;exact⟨p,c,s,fp,f,r,x,hi a _ y rfl,z⟩
abbrev po(w:x6)(g:Nat)(v:x4)(L:List (Λ)):Prop:=bk (ints .i8) 6 cJ w g v L
def CX{k:j4}:∀u∈ints k l,u.oneCell'=v2:=λu hu=>by
 obtain⟨x,_,rfl⟩:=j5.1 hu;rfl
def keysIter{dt m:Nat}{d:List (x4×x4)}{e:List (Λ)}{w0:x6}(Q:ag w0 dt jW [.map (σ m)])(hm:de w0 m d)(R:d.map (·.1)=e.map et)(S:∀a∈e,a.length=6):
  pW v8 v2 ne [Γ dt] ([]:List (Λ)) (λh=>h.Perm e) (λh vs aW _=>∃a∈e,h.length<e.length/\vs=[et a]/\aW=h++[a]) (λw=>Ext w0 w):=by
 refine⟨ne.enters,λl ax aE w r _ W s X=>?_⟩;refine rk func290 ?_;rw[aF Ψ ((Q.W s).cell rfl)];refine aG.cA (CH jW.u (hm.W s) λC U Y x aH Z aa=>?_);refine⟨λV=>∃h f left E,ax h V/\Ext w0 V/\w.heap.size<=V.heap.size/\iM V C m d left E/\left.map (·.1)=f.map et/\(h++f).Perm e,λV=>qv V C,
  ⟨[],e,d,ν,r _ _ _ x aa.b X,s.F x,x.size,Z,R,List.Perm.refl _⟩,?_⟩
 rintro V ⟨h,f,left,E,G,ab,aI,H,y,q⟩;have ad:left.length=f.length:=by have:=congrArg Q2 y;simpa using this
 refine CJ H (λh=>by cases h) (λae=>?_) (λj p aJ ac I af J=>?_)
 .rw[jY (v:=.bool v6) rfl,a7];subst ae;have:f=[]:=Z2 (by rw[<-ad];rfl);subst this;rw[U2]at q;exact .inl ⟨h,q,G⟩
 .rw[jY (v:=.bool v2) rfl,bO];refine CK J ?_;obtain⟨a,z,ah⟩:∃a,f[j]?=σ a/\p.1=et a:=by
   have h1:(left.map (·.1))[j]?=σ p.1:=by rw[u4,ac];rfl
   rw[y,u4]at h1;obtain⟨a,K,ai⟩:=Y9.1 h1;exact⟨a,K,ai.symm⟩
  have L:=q.mem_iff.1 (j9.2 (.inr (x7 z)));have M:=S a L;rw[jY (v:=p.1) rfl,ah];refine aG.cA (bE cJ.i λaK aL aM aj ak al=>?_);refine aG.cA (rM M rfl ak λam an aN ao ap=>?_);rw[pn M ao.range];have A:=aj.put an Ω;have N:=al.F ap;have O:=(ab.F I).F A;have aq:=r _ _ _ I (by rw[<-Y];exact af) G;have au:=r _ _ _ A N.b aq;have av:=J.W A N.lz;have aw:h.length<e.length:=by
   have h1:=q.length_eq;have K:=(x5.1 z).1;rw[n9]at h1;omega
  refine⟨rfl,(W h (h++[a]) _ am O ⟨a,L,aw,rfl,rfl⟩ au).Y ?_⟩;rintro _ ay (⟨rfl,P,az,aA⟩|⟨rfl,aB⟩)
  .simp only[bL,X3,a7];have B:=MX av hm O P (aA rfl).lz;have aC:w.heap.size<=ay.heap.size:=by
    obtain⟨_,_,_,_,_,_,_,aD,_⟩:=B;have:=(Z0.1 aD).1;omega
   refine⟨⟨h++[a],f.eraseIdx j,left.eraseIdx j,σ p,az,P,aC,B,?_,?_⟩,?_⟩
   .rw[<-oa,y,oa]
   .refine List.Perm.trans ?_ q;rw[T6];exact List.Perm.append_left h (xn z)
   .rw[uj B,uj H];have:=CW (x5.1 ac).1;omega
  .simp only[bL,W6,bO];exact .inr ⟨h,aB⟩
def MY{m:Nat}:ak v8 Ku [.map (σ m)] w λr I=>Ext w I/\∃g,r= .func (.func ne) #[] #[Γ g]/\w.heap.size<=g/\ag I g jW [.map (σ m)]:=by
 refine az func256 ?_;refine bn λg U f a e=>?_;rw[mg];exact⟨a,g,rfl,Ω,e⟩
def MZ{dt m:Nat}{d:List (x4×x4)}{s:List (Λ)}(Z:ag w dt jW [.map (σ m)])(hm:de w m d)(ab:d.map (·.1)=s.map et)(H:∀j∈s,j.length=6)(aC:s.length<=1000000):
  ak v8 KQ [.slice ν 0 0,.func (.func ne) #[] #[Γ dt]] w λv I=>Ext w I/\∃g L,(∀r,lm v r->w.heap.size<=r)/\L.Perm s/\po I g v L:=by
 refine jy func303 ?_;refine bn λgs U aD J x=>?_;have x:=x;have:=x.lt;refine lD.old ⟨List (Λ),v2,_,_,_,_,_,_,λh I=>af (λr=>w.heap.size<=r) w I/\∃v g,ag I gs kW [v]/\(∀r,lm v r->w.heap.size<=r/\r≠gs)/\po I g v h,λ_ _ _=>False,rfl,keysIter Z hm ab H,?_,λ_ _ p h=>h.F p,
  λ_ _ _ p h=>⟨h.1.F (p.aa _),by obtain⟨v,g,h1,ac,ad⟩:=h.2;exact⟨v,g,h1.W p,ac,ad.W p⟩⟩,λ_ _ _ _ _ h=>h,J,⟨J.aa _,_,0,x,λr h=>(fi h).elim,bk.nil _ _ _ _ _⟩,?_,?_,λ_ _ h=>h.elim,λ_ _ _ h=>h.elim⟩
 .rintro h _ aW I ⟨j,_,_,rfl,_⟩;rfl
 .rintro a h aW V ae ⟨j,ah,aH,ai,rfl⟩ ⟨K,v,g,A,df,B⟩;cases ai;have C:=H j ah;have aI:h.length<=1000000:=Ω
  refine aG.cA (bE cJ.i λaJ aK aL aj M al=>?_);refine aG.cA (rM C rfl M λaM am aN an ao=>?_);intro aO N _ ap;have:=M.lt;have aq:=aj.put am Ω;have q:=aq.F N;rw[aF Ψ ((A.W q).cell rfl),pn C (an.W N).range];refine aG.cA (iO (f:=ints .i8) (a:=j) kW.u cJ.i Ω (by simp[et,x4.cells]) (by simp[C]) λa ga aQ aR y au av=>?_);have O:=au.sl;rw[V8,List.flatMap_nil,U2]at O;refine aG.cA (MW kW.u cJ.i rfl ((B.W q).W y) O (λa=>CX) Ω Ω λP aw Q E ax z ay=>?_);have:=K.size;have:=q.size;have:=y.size;have:=A.lt;have R:∀r,lm P r->w.heap.size<=r/\r≠gs:=λr e=>by
   rcases ax r e with h|h
   .exact df r h
   .omega
  have G:ag Q gs kW [v]:=((A.W q).W y).aa z (λh=>(df gs h).2 rfl);refine aG.cA (bu kW.i (by obtain⟨_,_,_,_,_,rfl,_⟩:=E.sl;rfl) (by obtain⟨_,_,_,_,_,rfl,_⟩:=E.sl;rfl) G Ξ λS W aX az aA=>?_);have X:af (λr=>w.heap.size<=r) V S:=(((q.F y).aa _).F (z.Y λr _ h=>(df r h).1)).F (W.Y λr _ h=>by show w.heap.size<=r;omega);refine⟨ae.then X (λr e h=>by have h:=h;omega),⟨K.F X,P,aw,az,R,E.aa W λr e h=>(R r e).2 h⟩,λ_=>?_⟩;exact((((al.lz.F ao.lz).F ap).F av.lz).F ay.lz).F aA.lz
 .rintro h Q aB ⟨z,v,g,G,df,B⟩;rw[aF Ψ (G.cell rfl)];intro S Y _;exact⟨(z.W λr e h=>by have:w.heap.size<=r:=h;omega).F Y,g,h,λr e=>(df r e).1,aB,B.W Y⟩
def M0{dt m:Nat}{d:List (x4×x4)}{a:List (Λ)}(e:ag w dt jW [.map (σ m)])(hm:de w m d)(f:d.map (·.1)=a.map et)(j:∀p∈a,p.length=6)(q:a.length<=1000000):
  ak v8 KK [.func (.func ne) #[] #[Γ dt]] w λv I=>Ext w I/\∃g L,(∀r,lm v r->w.heap.size<=r)/\L.Perm a/\po I g v L:=by
 refine az func288 ?_;exact(MZ e hm f j q).Y λ_ _ _ h=>h
def ia:Λ->Int
 |[]=>0
 |x::l=>x*32 ^ l.length+ia l
def xo(n:Nat):(0:Int)<32 ^ n:=Int.pow_pos Ω
theorem uk:∀(l:Λ),(∀x∈l,0<=x/\x<32)->0<=ia l/\ia l<32 ^ l.length
 |[],_=>by simp[ia]
 |x::l,h=>by
  have:=uk l λy a=>h y (.tail _ a);have f:=h x (.head _);have:=xo l.length;simp only[ia,Y1];have e:(32:Int) ^ (l.length+1)=32*32 ^ l.length:=by rw[Int.pow_succ,Int.mul_comm]
  have h1:x*32 ^ l.length<=31*32 ^ l.length:=Int.mul_le_mul_of_nonneg_right Ω Ω;have p:0<=x*32 ^ l.length:=Int.mul_nonneg f.1 Ω;rw[e];omega
def j7:Λ->Λ->Int
 |x::a,y::b=>if x<y then-1 else if y<x then 1 else j7 a b
 |_,_=>0
theorem CY:∀(a b:Λ),a.length=b.length->(∀x∈a,0<=x/\x<32)->(∀x∈b,0<=x/\x<32)->(j7 a b<0↔ia a<ia b)/\(ia a=ia b->a=b)
 |[],[],_,_,_=>by simp[j7]
 |[],_::_,h,_,_=>by simp at h
 |_::_,[],h,_,_=>by simp at h
 |x::a,y::b,h,s,w=>by
  have j:a.length=b.length:=by simpa using h
  have p:∀x∈a,0<=x/\x<32:=λz e=>s z (.tail _ e);have q:∀x∈b,0<=x/\x<32:=λz e=>w z (.tail _ e);have r:=CY a b j p q;have A:=uk a p;have C:=uk b q;have ac:=xo b.length;simp only[j7,ia];rw[j]at A ⊢;have step:∀u v:Int,u<v->u*32 ^ b.length+32 ^ b.length<=v*32 ^ b.length:=λu v E=>by
   have:=Int.mul_le_mul_of_nonneg_right (show u+1<=v by omega) (show(0:Int)<=32 ^ b.length by omega);rw[Int.add_mul,Int.one_mul]at this;exact this
  by_cases h1:x<y
  .rw[ms h1];have:=step x y h1;exact⟨⟨λ_=>Ω,λ_=>Ω⟩,λh=>Ω⟩
  .rw[rc h1];by_cases f:y<x
   .rw[ms f];have:=step y x f;exact⟨⟨λh=>Ω,λh=>Ω⟩,λh=>Ω⟩
   .rw[rc f];have B:x=y:=Ω
    subst B;exact⟨r.1.F ⟨λh=>Ω,λh=>Ω⟩,λh=>by rw[r.2 Ω]⟩
theorem xp:∀{a b:Λ}{i:Nat},(∀(j:Nat)(x y:Int),j<i->a[j]?=σ x->b[j]?=σ y->x=y)->i<=a.length->i<=b.length->j7 a b=j7 (a.drop i) (b.drop i)
 |_,_,0,_,_,_=>Ξ
 |[],_,i+1,_,h,_=>by simp at h
 |_::_,[],i+1,_,_,h=>by simp at h
 |x::a,y::b,i+1,he,h1,e=>by
  have f:=he 0 x y Ω rfl rfl;subst f;simp only[j7,Int.lt_irrefl,if_false,List.drop_succ_cons];exact xp (λj u v q hu p=>he (j+1) u v Ω hu p) (by simpa using h1) (by simpa using e)
def CZ{x:Int}:ak v8 KP [.int .i8 x] w λv I=>v= .bool v6/\Ext w I:=by
 refine az func302 ?_;simp only[bK];exact⟨Ξ,Ext.refl _⟩
def M1{x:Int}:ak v8 KJ [.int .i8 x,.int .i8 y] w λv I=>v=Δ (if x<y then-1 else if y<x then 1 else 0)/\Ext w I:=by
 refine az func287 ?_;refine CZ.Y ?_;rintro _ U _ ⟨rfl,a⟩;refine CZ.Y ?_;rintro _ V _ ⟨rfl,e⟩;simp only[a7,aT,bP,al];exact⟨λh=>⟨by rw[ms h],a.F e⟩,λh=>⟨λf=>⟨by rw[rc h,ms f],a.F e⟩,λf=>⟨by rw[rc h,rc f],a.F e⟩⟩⟩
def M2{bj bv:x4}{b:Λ}(q:aM .i8 w bj a)(s:aM .i8 w bv b)(S:a.length=b.length):ak v8 Ks [bj,bv] w λv I=>v=Δ (j7 a b)/\Ext w I:=by
 refine az func254 ?_;have W:=q.le;rw[a1 me.u q];refine b7.range a.length (λi _ U=>Ext w U/\∀(j:Nat)(x y:Int),j<i->a[j]?=σ x->b[j]?=σ y->x=y) Ω ⟨Ext.refl _,λj x y J=>Ω⟩ ?_ ?_
 .rintro i _ U K hi ⟨e,r⟩ L;simp only[aT,al];refine⟨λ_=>?_,λh=>Ω⟩;obtain⟨x,z⟩:=aD (l:=a) hi;obtain⟨y,A⟩:=aD (l:=b) (i:=i) Ω;rw[bh me.u gl.i Ψ (q.W e) z,a1 me.u (s.W e)];simp only[cP,al];refine⟨λh=>Ω,λ_=>?_⟩;rw[bh me.u gl.i Ψ (s.W e) A];refine M1.Y ?_;rintro _ V _ ⟨rfl,E⟩;have f:j7 a b=j7 (a.drop i) (b.drop i):=xp r Ω Ω;have M:a.drop i=x::a.drop (i+1):=by rw[W3 hi,(x5.1 z).2]
  have N:b.drop i=y::b.drop (i+1):=by rw[W3 Ω,(x5.1 A).2]
  rw[M,N]at f;simp only[j7]at f;simp only[bK,al,aO];refine⟨λG=>⟨?_,e.F E⟩,λO=>L _ _ ⟨e.F E,λj P Q J B C=>?_⟩⟩
  .rw[f];by_cases h1:x<y
   .rw[ms h1,ms h1]
   .by_cases p:y<x
    .rw[rc h1,ms p,rc h1,ms p]
    .rw[rc h1,rc p]at G;exact ro rfl G
  .by_cases R:j=i
   .subst R;rw[z]at B;rw[A]at C;cases B;cases C;have H:=X5.1 O;by_cases h1:x<y
    .rw[ms h1]at H;omega
    .by_cases p:y<x
     .rw[rc h1,ms p]at H;omega
     .omega
   .exact r j P Q Ω B C
 .rintro _ U K ⟨e,r⟩;simp only[aT,show decide ((a.length:Int)<(a.length:Int))=v6 from s2 Ω,a7];rw[a1 me.u (q.W e),a1 me.u (s.W e)];simp only[aT,al];refine⟨λh=>Ω,λ_=>⟨?_,e⟩⟩;have f:j7 a b=j7 (a.drop a.length) (b.drop a.length):=xp r Ω Ω;rw[f,List.drop_length];cases b.drop a.length<;>rfl
def M3{b:Λ}(p:nu a)(q:nu b):ak v8 AZ [et a,et b] w λv I=>Ext w I/\v=Δ (j7 a b):=by
 have B:∀{c:Λ},nu c->(ints .i8 c).length=6:=λh=>by simp[h.1]
 refine az func253 ?_;refine bn λg1 U C y e=>?_;refine bn λE V G r f=>?_;rw[CL]at e f;intro s j _ _;have e:=(e.W r).W j;have f:=f.W j;rw[tA cJ.u gl.i (l:=0) (h:=6) (m:=6) jZ kY fo Ω Ω Ω,tA cJ.u gl.i (l:=0) (h:=6) (m:=6) jZ kY fo Ω Ω Ω];rw[rc Ω,rc Ω];have ls:∀{g:Nat}{c:Λ},nu c->ag s g cJ (ints .i8 c)->aM .i8 s (.slice (σ ⟨g,0+0*1,ν⟩) (6-0) (6-0)) c:=λ{g c}x z=>by
  unfold aM;refine⟨Ξ,g,0,_,6,by rw[x.1],by rw[x.1];omega,by simp[maxLen],λ_=>rfl,z.range⟩
 refine(M2 (ls p e) (ls q f) (by rw[p.1,q.1])).Y ?_;rintro _ H _ ⟨rfl,A⟩;exact⟨((y.F r).F j).F A,rfl⟩
end Go.Proofs.YtnhkbjhpbbobaaaGreatDoor
namespace Go.Vc
open Go Go.RowKit Go.Shelf Go.Proofs Go.Sort
def grown_of(f:Ext w I)(a:cQ w I):∃q os,I=grow (w.drewN q) os:=by
 refine⟨I.drawn-w.drawn,I.heap.extract w.heap.size I.heap.size,?_⟩;have hk:∀k,k<w.heap.size->I.heap[k]?=w.heap[k]?:=λk hk=>by
  have e:=Array.getElem?_eq_getElem hk;rw[e];cases J:fK w.heap[k]with
  |true=>exact f.aX k _ e J
  |false=>exact a.aX k _ e J
 have au:I.heap=w.heap++I.heap.extract w.heap.size I.heap.size:=by
  apply Array.ext_getElem?;intro k;rw[Array.getElem?_append];by_cases h:k<w.heap.size
  .rw[ms h,hk k h]
  .rw[rc h,Array.getElem?_extract];have:=f.size;by_cases j:k<I.heap.size
   .rw[ms Ω];congr 1;omega
   .rw[rc Ω,Array.getElem?_eq_none Ω]
 have h1:=a.os;have j:=a.tape.1;have p:=a.output;have r:w.drawn+(I.drawn-w.drawn)=I.drawn:=by have:=a.tape.2;omega
 cases I;simp only[grow,x6.drewN]at*;subst h1 j p;rw[<-au,r]
section
variable{α:Type}[Inhabited α]
def C0(enc:α->List x4)(k:Nat)(hk:∀x,(enc x).length=k)(d:Array α):(flatK enc k d).toList=d.toList.flatMap enc:=by
 apply X0;intro t;by_cases h:t<d.size*k
 .have f:0<k:=by
   rcases Q9 k with e|e
   .rw[e]at h;simp at h
   .exact e
  have j:=(Nat.div_lt_iff_lt_mul f).2 h;have p:=Nat.mod_lt t f;have q:(flatK enc k d).toList[t]?=σ ((enc d[t / k]!)[t % k]!):=by
   rw[Q0,Array.getElem?_eq_getElem (by simpa using h)];have:=get_flatK enc k d t h;rw[getElem!_pos _ t (by simpa using h)]at this;rw[this]
  have r:d.toList[t / k]?=σ d[t / k]!:=by
   rw[Q0,Array.getElem?_eq_getElem j,getElem!_pos d _ j]
  have s:(enc d[t / k]!)[t % k]?=σ ((enc d[t / k]!)[t % k]!):=by
   generalize d[t / k]! =z;rw[x8 (by rw[hk];exact p),getElem!_pos (enc z) _ (by rw[hk];exact p)]
  have:=qu (λa _=>hk a) r s;rw[q,<-this];congr 1;rw[Nat.mul_comm];exact Nat.div_add_mod t k
 .rw[Y5 (by simpa using h),Y5];rw[iN λa _=>hk a];simpa using h
def C1(enc:α->List x4)(k:Nat)(hk:∀x,(enc x).length=k){g m:Nat}{d:Array α}{os:Array Obj}(h:ag w g e cs)(y:d.size*k<=cs.length):
  ag (sortWorldK enc k w g 0 m d os) g e (d.toList.flatMap enc++cs.drop (d.size*k))/\∀r,r<w.heap.size->r≠g->(sortWorldK enc k w g 0 m d os).heap[r]?=w.heap[r]?:=by
 have q:=h.lt;have p:∀r,r<w.heap.size->(sortWorldK enc k w g 0 m d os).heap[r]?=(w.heap.modify g (onCells (putCells id 0 (flatK enc k d))))[r]?:=λr j=>by
  show((w.heap.modify g (onCells (putCells id 0 (flatK enc k d))))++os)[r]?=_;rw[Array.getElem?_append_left (by simpa using j)]
 refine⟨?_,λr j s=>?_⟩
 .unfold ag at h ⊢;rw[p g q,Array.getElem?_modify,ms rfl,h];show σ (Obj.cells (putCells id 0 (flatK enc k d) cs.toArray) e (0,0))=_;refine congrArg σ (congrArg (λc=>Obj.cells c e (0,0)) ?_);apply Array.ext';apply X0;intro t;show _=(d.toList.flatMap enc++cs.drop (d.size*k))[t]?;rw[List.getElem?_append,iN λa _=>hk a,Q0];unfold putCells;rw[Array.getElem?_mapIdx,List.getElem?_toArray];have J:d.toList.length=d.size:=rfl;by_cases f:t<d.size*k
  .rw[ms (by rw[J];exact f),x8 Ω,<-C0 enc k hk,Q0,Array.getElem?_eq_getElem (by simpa using f)];simp only[Y3,id];rw[ms (by simpa using f),Nat.sub_zero,getElem!_pos _ t (by simpa using f)]
  .rw[rc (by rw[J];exact f),R3,J,show d.size*k+(t-d.size*k)=t by omega];cases z:cs[t]? with
   |none=>rfl
   |some x=>
    simp only[Y3];rw[rc Θ]
 .rw[p r j,Array.getElem?_modify,rc (R7 s)]
end
def C2{P:V5}{K:Ren}(W:SlLaysF0.n6 P K){α:Type}{f:α->List x4}{k:Nat}{G:α->Prop}{num:α->Int}{E:α->α->Int}{F:Q6}{cap:Array x4}(aC:∀w,(isAgg (K.t 24)).run P w= .ok v2 w)(aD:∀w,(Go.sizeOf (K.t 24)).run P w= .ok k w)(h1:∀a,G a->∀u∈f a,u.oneCell'=v2)(hk:∀a,G a->(f a).length=k)(aE:∀a b,G a->G b->(E a b<0↔num a<num b))(ai:Enters P F){w:x6}{g:Nat}{v:x4}{L:List α}(h:bk f k e w g v L)(N:∀a∈L,G a)(aj:L.length<65536)(aF:∀X a b,af (λr=>r=g) w X->G a->G b->ak P F ([.agg (f a).toArray,.agg (f b).toArray]++cap.toList) X λu aG=>Ext X aG/\u=Δ (E a b)):
  ak P (K.f 6) [v,.func (.func F) #[] cap] w λ_ I=>af (λr=>lm v r) w I/\∃M,M.Perm L/\(∀(p q:Nat)(x y:α),p<q->M[p]?=σ x->M[q]?=σ y->num x<=num y)/\bk f k e I g v M:=by
 have al:=λargs w=>W.f6.enters rfl args w;obtain⟨⟨aZ,aH⟩,a1⟩:=id h;have am:∀p c,v= .slice p 0 c->L=[]->ak P (K.f 6) [v,.func (.func F) #[] cap] w λ_ I=>af (λr=>lm v r) w I/\∃M,M.Perm L/\(∀(p q:Nat)(x y:α),p<q->M[p]?=σ x->M[q]?=σ y->num x<=num y)/\bk f k e I g v M:=λp c ac aj=>by
  refine .code al ?_;rw[ac];refine(AnyF.slices_SortFunc_none W p c _ w).Y ?_;rintro a2 I ⟨rfl,rfl⟩;refine⟨_,rfl,cQ.refl _,af.refl _ _,L,.refl _,λp q x y _ B=>by rw[aj]at B;simp at B,by rw[<-ac];exact h⟩
 rcases aH with⟨rfl,aI⟩|⟨c,cs,rfl,C,an,hm,Y,aJ⟩
 .exact am _ _ rfl (Z2 aI)
 cases Z:L with
 |nil=>subst Z;exact am _ _ rfl rfl
 |cons a0 a6=>
 rw[<-Z];let β:={a:α // G a};have:Inhabited β:=⟨⟨a0,N a0 (by rw[Z];exact .head _)⟩⟩;let enc:β->List x4:=λx=>f x.1;let d:Array β:=(L.attach.map λx=>(⟨x.1,N x.1 x.2⟩:β)).toArray;have ao:d.toList.map Subtype.val=L:=by
  show(L.attach.map λx=>(⟨x.1,N x.1 x.2⟩:β)).map Subtype.val=L;rw[S5];exact List.attach_map_subtype_val L
 have R:d.size=L.length:=by simp[d]
 have H:∀x:β,(enc x).length=k:=λx=>hk x.1 x.2;have aK:d.toList.flatMap enc=L.flatMap f:=by
  have O:=congrArg (λl=>l.flatMap f) ao;rw[<-O];exact(List.flatMap_map Subtype.val f d.toList).symm
 have S:d.size*k<=cs.length:=by rw[R,Y];exact X4 k an
 have aL:HoldsK enc k w g 0 d:=by
  intro j T;rw[size_flatK]at T;have ap:j<cs.length:=Ω
  have aa:(flatK enc k d)[j]! =cs[j]:=by
   have O:(flatK enc k d).toList[j]?=σ cs[j]:=by
    rw[C0 enc k H,aK,<-aJ,Y6 (by rw[<-R];exact T),x8 ap]
   rw[Q0]at O;rw[getElem!_pos _ j (by simpa using T)];rw[Array.getElem?_eq_getElem (by simpa using T)]at O;exact Z5 O
  refine⟨?_,?_⟩
  .show w.cell? ⟨g,0+j,ν⟩=σ ((flatK enc k d)[j]!);rw[aa];exact C.cell (by rw[X6];exact x8 ap)
  .unfold x6.frozen?;unfold ag at C;rw[C];simp
 have U:∀x y:β,ltOf (λx y:β=>E x.1 y.1) x y=decide (num x.1<num y.1):=λx y=>by
  unfold ltOf;exact decide_eq_decide.2 (aE x.1 y.1 x.2 y.2)
 have aM:SWO (ltOf λx y:β=>E x.1 y.1):=
  ⟨λx=>by rw[U];simp,λx y z p q=>by rw[U]at*;simp at*;omega,λx y z p q=>by rw[U]at*;simp at*;omega⟩
 have aq:∀m (d2:Array β) os,d2.size=d.size->af (λr=>r=g) w (sortWorldK enc k w g 0 m d2 os)/\cQ w (sortWorldK enc k w g 0 m d2 os):=λm d2 os J=>by
  obtain⟨a7,au⟩:=C1 enc k H C (by rw[J];exact S);have av:w.heap.size<=(sortWorldK enc k w g 0 m d2 os).heap.size:=by
   show w.heap.size<=((w.heap.modify g _)++os).size;simp
  refine⟨⟨av,λr o A _ ab=>?_⟩,rfl,⟨rfl,Nat.le_add_right _ _⟩,rfl,av,λr o A J=>?_⟩
  .rw[au r (Z0.1 A).1 ab];exact A
  .have ab:r≠g:=λhe=>by subst he;unfold ag at C;rw[C]at A;cases A;cases J
   rw[au r (Z0.1 A).1 ab];exact A
 have aN:CmpLays P F cap enc k (λx y:β=>E x.1 y.1) g 0 d.size w:=λm os aO J x y=>by
  have B:=(aF _ x.1 y.1 (aq m aO os J).1 x.2 y.2).calls ai;have Q:([x4.agg (f x.1).toArray,.agg (f y.1).toArray]++cap.toList).toArray= #[.agg (enc x).toArray,.agg (enc y).toArray]++cap:=by
   apply Array.ext';simp[enc]
  rw[Q]at B;refine B.Y ?_;rintro _ I ⟨_,rfl,aP,aQ,rfl⟩;exact⟨rfl,grown_of aQ aP⟩
 have aw:=AnyQ.slices_SortFunc W k aC aD enc H (λx=>h1 x.1 x.2) (λx y:β=>E x.1 y.1) aM F cap g 0 c d w (λargs w=>ai args w) aN aL C.lt (by rw[R];omega);rw[R]at aw;refine .code al (aw.Y ?_);rintro _ I ⟨rfl,s,n,os,⟨aR,_,ac⟩,aS,rfl⟩;have ad:=aR;obtain⟨aT,aU⟩:=aq n s os ad;obtain⟨aV,_⟩:=C1 enc k H C (by rw[ad];exact S);have V:(s.toList.map Subtype.val).Perm L:=by
  have aa:(s.extract 0 L.length).toList=s.toList:=by rw[show L.length=s.size by omega,Array.extract_size]
  have aW:(d.extract 0 L.length).toList=d.toList:=by rw[show L.length=d.size by omega,Array.extract_size]
  rw[aa,aW]at ac;rw[<-ao];exact ac.map _
 have ax:=V.length_eq;refine⟨_,rfl,aU,aT.Y λr _ A=>⟨_,_,_,rfl,A.symm⟩,s.toList.map Subtype.val,V,λp q x y aX B ay=>?_,⟨?_,.inr ⟨c,_,by rw[ax],aV,by rw[ax];exact an,hm,?_,?_⟩⟩,λa Q=>hk a (N a (V.mem_iff.1 Q))⟩
 .rw[u4,Y9]at B ay;obtain⟨a8,az,rfl⟩:=B;obtain⟨ba,aA,rfl⟩:=ay;rw[Q0]at az aA;have aB:=(Z0.1 az);have ae:=(Z0.1 aA);have:=aS p q (W0 _) aX (by have:=ae.1;omega);rw[getElem!_pos s p aB.1,getElem!_pos s q ae.1,aB.2,ae.2,U]at this;simpa using this
 .rw[iN λa Q=>hk a (N a (V.mem_iff.1 Q))]
 .have ah:(s.toList.flatMap enc).length=s.size*k:=by rw[iN λa _=>H a];rfl
  rw[n9,ah,List.length_drop,ad,Y];rw[Y]at S;exact Nat.add_sub_cancel' S
 .have ah:(s.toList.flatMap enc).length=s.size*k:=by rw[iN λa _=>H a];rfl
  have aY:(List.map Subtype.val s.toList).length*k=(s.toList.flatMap enc).length:=by rw[ah,r8];rfl
  rw[aY,List.take_left,List.flatMap_map]
end Go.Vc
namespace Go.Proofs
open Go.Shelf
def Tryz.xq:Go.Shelf.Ren:=⟨λ|6=>289|15=>246|14=>304|28=>282|29=>283|20=>319|21=>320|22=>321|23=>322|24=>323|25=>324|26=>325|27=>326|46=>334|47=>296|48=>297|49=>335|50=>336|57=>339|n=>n,λ|22=>351|24=>326|25=>350|3=>3|39=>228|0=>0|53=>371|55=>58|4=>4|46=>365|45=>364|50=>307|5=>5|9=>9|66=>380|70=>384|76=>404|77=>405|n=>n,λ|n=>n⟩
def Tryz.M4:Go.Proofs.SlLaysF0.n6 Tryz.prog Tryz.xq:={
 mixed:=Ψ,
 f6:=⟨Tryz.f289.name,Φ,Tryz.func289.F (congrArg σ Ψ)⟩,
 f14:=⟨Tryz.f304.name,Φ,Tryz.func304.F (congrArg σ Ψ)⟩,
 f15:=Tryz.func246.F (congrArg σ Ψ),
 f20:=⟨Tryz.f319.name,Φ,Tryz.func319.F (congrArg σ Ψ)⟩,
 f21:=⟨Tryz.f320.name,Φ,Tryz.func320.F (congrArg σ Ψ)⟩,
 f22:=⟨Tryz.f321.name,Φ,Tryz.func321.F (congrArg σ Ψ)⟩,
 f23:=⟨Tryz.f322.name,Φ,Tryz.func322.F (congrArg σ Ψ)⟩,
 f24:=⟨Tryz.f323.name,Φ,Tryz.func323.F (congrArg σ Ψ)⟩,
 f25:=⟨Tryz.f324.name,Φ,Tryz.func324.F (congrArg σ Ψ)⟩,
 f26:=⟨Tryz.f325.name,Φ,Tryz.func325.F (congrArg σ Ψ)⟩,
 f27:=⟨Tryz.f326.name,Φ,Tryz.func326.F (congrArg σ Ψ)⟩,
 f28:=Tryz.func282.F (congrArg σ Ψ),
 f29:=Tryz.func283.F (congrArg σ Ψ),
 f46:=⟨Tryz.f334.name,Φ,Tryz.func334.F (congrArg σ Ψ)⟩,
 f47:=Tryz.func296.F (congrArg σ Ψ),
 f48:=Tryz.func297.F (congrArg σ Ψ),
 f49:=⟨Tryz.f335.name,Φ,Tryz.func335.F (congrArg σ Ψ)⟩,
 f50:=⟨Tryz.f336.name,Φ,Tryz.func336.F (congrArg σ Ψ)⟩,
 f57:=⟨Tryz.f339.name,Φ,Tryz.func339.F (congrArg σ Ψ)⟩,
 t0:=Tryz.underlying0,
 a0:=Tryz.isAgg0,
 z0:=Tryz.sizeOf0,
 v0:=Tryz.zeroValue0,
 t3:=Tryz.underlying3,
 a3:=Tryz.isAgg3,
 z3:=Tryz.sizeOf3,
 v3:=Tryz.zeroValue3,
 t4:=Tryz.underlying4,
 a4:=Tryz.isAgg4,
 z4:=Tryz.sizeOf4,
 v4:=Tryz.zeroValue4,
 t5:=Tryz.underlying5,
 a5:=Tryz.isAgg5,
 z5:=Tryz.sizeOf5,
 v5:=Tryz.zeroValue5,
 t9:=Tryz.underlying9,
 a9:=Tryz.isAgg9,
 z9:=Tryz.sizeOf9,
 v9:=Tryz.zeroValue9,
 t22:=Tryz.underlying351,
 a22:=Tryz.isAgg351,
 z22:=Tryz.sizeOf351,
 v22:=Tryz.zeroValue351,
 t25:=Tryz.underlying350,
 a25:=Tryz.isAgg350,
 z25:=Tryz.sizeOf350,
 v25:=Tryz.zeroValue350,
 t39:=Tryz.underlying228,
 a39:=Tryz.isAgg228,
 z39:=Tryz.sizeOf228,
 v39:=Tryz.zeroValue228,
 t45:=Tryz.underlying364,
 a45:=Tryz.isAgg364,
 z45:=Tryz.sizeOf364,
 v45:=Tryz.zeroValue364,
 t46:=Tryz.underlying365,
 a46:=Tryz.isAgg365,
 z46:=Tryz.sizeOf365,
 v46:=Tryz.zeroValue365,
 t50:=Tryz.underlying307,
 a50:=Tryz.isAgg307,
 z50:=Tryz.sizeOf307,
 v50:=Tryz.zeroValue307,
 t53:=Tryz.underlying371,
 a53:=Tryz.isAgg371,
 z53:=Tryz.sizeOf371,
 v53:=Tryz.zeroValue371,
 t55:=Tryz.underlying58,
 a55:=Tryz.isAgg58,
 z55:=Tryz.sizeOf58,
 v55:=Tryz.zeroValue58,
 t66:=Tryz.underlying380,
 a66:=Tryz.isAgg380,
 z66:=Tryz.sizeOf380,
 v66:=Tryz.zeroValue380,
 t70:=Tryz.underlying384,
 a70:=Tryz.isAgg384,
 z70:=Tryz.sizeOf384,
 v70:=Tryz.zeroValue384,
 t76:=Tryz.underlying404,
 a76:=Tryz.isAgg404,
 z76:=Tryz.sizeOf404,
 v76:=Tryz.zeroValue404,
 t77:=Tryz.underlying405,
 a77:=Tryz.isAgg405,
 z77:=Tryz.sizeOf405,
 v77:=Tryz.zeroValue405}
def Tryz.xr:Go.Shelf.Ren:=⟨λ|6=>192|15=>246|14=>245|28=>282|29=>283|20=>274|21=>275|22=>276|23=>277|24=>278|25=>279|26=>280|27=>281|46=>295|47=>296|48=>297|49=>298|50=>299|57=>318|n=>n,λ|22=>275|24=>280|25=>290|3=>3|39=>228|0=>0|53=>371|55=>58|4=>4|46=>365|45=>364|50=>307|5=>5|9=>9|66=>380|70=>384|76=>404|77=>405|n=>n,λ|n=>n⟩
def Tryz.M5:Go.Proofs.SlLaysF0.n6 Tryz.prog Tryz.xr:={
 mixed:=Ψ,
 f6:=⟨Tryz.f192.name,Φ,Tryz.func192.F (congrArg σ Ψ)⟩,
 f14:=⟨Tryz.f245.name,Φ,Tryz.func245.F (congrArg σ Ψ)⟩,
 f15:=Tryz.func246.F (congrArg σ Ψ),
 f20:=⟨Tryz.f274.name,Φ,Tryz.func274.F (congrArg σ Ψ)⟩,
 f21:=⟨Tryz.f275.name,Φ,Tryz.func275.F (congrArg σ Ψ)⟩,
 f22:=⟨Tryz.f276.name,Φ,Tryz.func276.F (congrArg σ Ψ)⟩,
 f23:=⟨Tryz.f277.name,Φ,Tryz.func277.F (congrArg σ Ψ)⟩,
 f24:=⟨Tryz.f278.name,Φ,Tryz.func278.F (congrArg σ Ψ)⟩,
 f25:=⟨Tryz.f279.name,Φ,Tryz.func279.F (congrArg σ Ψ)⟩,
 f26:=⟨Tryz.f280.name,Φ,Tryz.func280.F (congrArg σ Ψ)⟩,
 f27:=⟨Tryz.f281.name,Φ,Tryz.func281.F (congrArg σ Ψ)⟩,
 f28:=Tryz.func282.F (congrArg σ Ψ),
 f29:=Tryz.func283.F (congrArg σ Ψ),
 f46:=⟨Tryz.f295.name,Φ,Tryz.func295.F (congrArg σ Ψ)⟩,
 f47:=Tryz.func296.F (congrArg σ Ψ),
 f48:=Tryz.func297.F (congrArg σ Ψ),
 f49:=⟨Tryz.f298.name,Φ,Tryz.func298.F (congrArg σ Ψ)⟩,
 f50:=⟨Tryz.f299.name,Φ,Tryz.func299.F (congrArg σ Ψ)⟩,
 f57:=⟨Tryz.f318.name,Φ,Tryz.func318.F (congrArg σ Ψ)⟩,
 t0:=Tryz.underlying0,
 a0:=Tryz.isAgg0,
 z0:=Tryz.sizeOf0,
 v0:=Tryz.zeroValue0,
 t3:=Tryz.underlying3,
 a3:=Tryz.isAgg3,
 z3:=Tryz.sizeOf3,
 v3:=Tryz.zeroValue3,
 t4:=Tryz.underlying4,
 a4:=Tryz.isAgg4,
 z4:=Tryz.sizeOf4,
 v4:=Tryz.zeroValue4,
 t5:=Tryz.underlying5,
 a5:=Tryz.isAgg5,
 z5:=Tryz.sizeOf5,
 v5:=Tryz.zeroValue5,
 t9:=Tryz.underlying9,
 a9:=Tryz.isAgg9,
 z9:=Tryz.sizeOf9,
 v9:=Tryz.zeroValue9,
 t22:=Tryz.underlying275,
 a22:=Tryz.isAgg275,
 z22:=Tryz.sizeOf275,
 v22:=Tryz.zeroValue275,
 t25:=Tryz.underlying290,
 a25:=Tryz.isAgg290,
 z25:=Tryz.sizeOf290,
 v25:=Tryz.zeroValue290,
 t39:=Tryz.underlying228,
 a39:=Tryz.isAgg228,
 z39:=Tryz.sizeOf228,
 v39:=Tryz.zeroValue228,
 t45:=Tryz.underlying364,
 a45:=Tryz.isAgg364,
 z45:=Tryz.sizeOf364,
 v45:=Tryz.zeroValue364,
 t46:=Tryz.underlying365,
 a46:=Tryz.isAgg365,
 z46:=Tryz.sizeOf365,
 v46:=Tryz.zeroValue365,
 t50:=Tryz.underlying307,
 a50:=Tryz.isAgg307,
 z50:=Tryz.sizeOf307,
 v50:=Tryz.zeroValue307,
 t53:=Tryz.underlying371,
 a53:=Tryz.isAgg371,
 z53:=Tryz.sizeOf371,
 v53:=Tryz.zeroValue371,
 t55:=Tryz.underlying58,
 a55:=Tryz.isAgg58,
 z55:=Tryz.sizeOf58,
 v55:=Tryz.zeroValue58,
 t66:=Tryz.underlying380,
 a66:=Tryz.isAgg380,
 z66:=Tryz.sizeOf380,
 v66:=Tryz.zeroValue380,
 t70:=Tryz.underlying384,
 a70:=Tryz.isAgg384,
 z70:=Tryz.sizeOf384,
 v70:=Tryz.zeroValue384,
 t76:=Tryz.underlying404,
 a76:=Tryz.isAgg404,
 z76:=Tryz.sizeOf404,
 v76:=Tryz.zeroValue404,
 t77:=Tryz.underlying405,
 a77:=Tryz.isAgg405,
 z77:=Tryz.sizeOf405,
 v77:=Tryz.zeroValue405}
def Tryz.M6(w:x6):(isAgg (Tryz.xq.t 24)).run Tryz.prog w= .ok v2 w:=Tryz.isAgg326 w
def Tryz.M7(w:x6):(Go.sizeOf (Tryz.xq.t 24)).run Tryz.prog w= .ok 6 w:=Tryz.sizeOf326 w
def Tryz.M8:Tryz.prog.funcs[253]?=σ Tryz.f253:=Tryz.func253
def Tryz.M9(w:x6):(isAgg (Tryz.xr.t 24)).run Tryz.prog w= .ok v2 w:=Tryz.isAgg280 w
def Tryz.Na(w:x6):(Go.sizeOf (Tryz.xr.t 24)).run Tryz.prog w= .ok 2 w:=Tryz.sizeOf280 w
def Tryz.Nb:Tryz.prog.funcs[193]?=σ Tryz.f193:=Tryz.func193
end Go.Proofs
namespace Go.Proofs.YtnhkbjhpbbobaaaGreatDoor
open Go Go.Vc Go.RowKit Go.Proofs Go.Proofs.Tryz
set_option maxRecDepth 100000
def ul{α:Type}(f:α->Int)(L:List α)(a i:Nat):Prop:=∀(p q:Nat)(x y:α),a<=p->p<q->q<i->L[p]?=σ x->L[q]?=σ y->f x<=f y
def qw(L:List (Λ)):Prop:=∀a∈L,nu a
def qw.perm{L M:List (Λ)}(h:qw L)(ac:M.Perm L):qw M:=λa hk=>h a (ac.mem_iff.1 hk)
def Nc{g:Nat}{L:List (Λ)}{i:Nat}(e:y=(i:Int))(h:po w g v L)(hi:L[i]?=σ a):
  ab v8 (b8 kW v (Δ y)) w (λp=>ab v8 (u6 cJ p) w K)=K (et a):=by
 have f:a.length=6:=by have:=h.2 a (x7 hi);simpa using this
 rw[ck e kW.u cJ.i h (x5.1 hi).1,pn f (h.range hi)]
abbrev C3:x4:=.func (.func AZ) #[] #[]
def um{P:V5}{k:j4}{s:ByteArray}{i:Nat}(a:P.underlying t=σ .string)(hi:i<s.size):
  ab P (Instr.index t (.string s) (.int k (i:Int))) w K=K (.int .u8 (s[i].toNat:Int)):=ab.of λI _=>by
 simp[Instr.index,asIntOf,run_underlying a,hi]
def eA(n:Nat):Nat:=if n=0 then 0 else Nat.log2 n+1
def C4(h:n<256):eA n<=8:=by
 unfold eA;by_cases a:n=0
 .rw[ms a];omega
 .rw[rc a];have:Nat.log2 n<8:=(Nat.log2_lt a).2 Ω;omega
def Nd{g:Nat}{L:List (Λ)}(h:po w g v L)(j:qw L)(s:L.length<65536):
  ak v8 KL [v,C3] w λ_ I=>af (λr=>lm v r) w I/\∃M,M.Perm L/\ul ia M 0 M.length/\po I g v M:=by
 refine(C2 M4 M6 M7 (λa _=>CX) (λa e=>by simp[e.1]) (λa b e f=>(CY a b (by rw[e.1,f.1]) e.2 f.2).1) (Enters.of v8 M8 rfl Ψ) h j s λE a b _ e f=>M3 e f).Y ?_;rintro _ I _ ⟨z,M,ac,hu,hm⟩;exact⟨z,M,ac,λp q x y _ A _ B C=>hu p q x y A B C,hm⟩
end Go.Proofs.YtnhkbjhpbbobaaaGreatDoor
namespace Go.Vc
open Go Go.RowKit
set_option maxRecDepth 100000
def Keys.str{P:V5}{k:o5}(hk:P.underlying k=σ .string):Keys P k λv=>∃s,v= .string s:=by
 have key:∀s,MapKept.IsKey .string (.string s):=λs=>trivial;refine⟨λw f v ⟨n,h⟩=>?_,λw x ⟨n,h⟩ p q=>?_,λw v ⟨n,h⟩=>?_⟩
 .subst h;exact MapKept.run_checkKey hk (key n) f 9999
 .subst h;rcases MapKept.findNow_spec (key n) p 0 (λe he=>by obtain⟨m,h⟩:=q e he;rw[h];exact key m)with⟨h1,a⟩|⟨j,e,h1,a,r⟩
  .exact .inl ⟨MapKept.run_findKey hk h1,a⟩
  .exact .inr ⟨j,e,by have:=MapKept.run_findKey (P:=P) (w:=w) hk h1;simpa using this,a,r⟩
 .subst h;exact MapKept.run_keyThatStays (d:=.string) (key n)
section
variable{P:V5}{w:x6}
def mw{s:Sem x4}(h:∀K:x4->Prop,ab P s w K=K v):b6 P s v w:=by
 have h1:ab P s w (λu=>u=v):=(h λu=>u=v).mpr rfl;obtain⟨u,hu,rfl⟩:=h1;exact hu
variable{k e:o5}{G:x4->Prop}
end
end Go.Vc
namespace Go.Proofs.YtnhkbjhpbbobaaaGreatDoor
open Go Go.Vc Go.RowKit Go.Proofs Go.Proofs.Tryz
set_option maxRecDepth 100000
def ib:Nat->Nat->Λ
 |0,_=>[]
 |n+1,u=>ib n (u / 10)++[48+((u % 10:Nat):Int)]
theorem rR:∀(n u:Nat),(ib n u).length=n
 |0,_=>rfl
 |n+1,u=>by rw[ib,n9,rR n];rfl
def Nf(n u:Nat):ib (n+2) u=ib n (u / 100)++[48+((u / 10 % 10:Nat):Int),48+((u % 10:Nat):Int)]:=by
 rw[ib,ib,T6];rw[show u / 10 / 10=u / 100 by omega];rfl
theorem C5:∀(n u:Nat),10 ^ n<=u->u<10 ^ (n+1)->ib (n+1) u=gp u
 |0,u,h1,a=>by
  rw[pg,ms (by simpa using a)];simp[ib]
 |n+1,u,h1,a=>by
  have e:(10:Nat) ^ (n+1)=10*10 ^ n:=by rw[Nat.pow_succ,Nat.mul_comm]
  have f:(10:Nat) ^ (n+1+1)=10*10 ^ (n+1):=by rw[Nat.pow_succ,Nat.mul_comm]
  have h:1<=10 ^ n:=Nat.one_le_iff_ne_zero.2 Ξ;rw[pg,rc Ω,ib,C5 n (u / 10) Ω Ω]
def gQ(a C:Λ)(e u:Nat):Prop:=e<=a.length/\C.length=a.length/\∃t,C.drop e=t/\a=ib e u++t
def gQ.two{e:Λ}{a u:Nat}(h:gQ e C (a+2) u):gQ e ((C.set (a+1) (48+((u % 10:Nat):Int))).set a (48+((u / 10 % 10:Nat):Int))) a (u / 100):=by
 obtain⟨h1,f,t,j,p⟩:=h;refine⟨Ω,by simp[f],_,rfl,?_⟩;rw[p,Nf,T6];congr 1;rw[List.drop_set,rc Ω,List.drop_set,rc Ω,<-j];have q:a<C.length:=Ω
 have r:a+1<C.length:=Ω
 rw[W3 q,W3 r,V0,Q5];rfl
def gQ.one{u:Nat}(h:gQ a C 1 u):C.set 0 (48+((u % 10:Nat):Int))=a:=by
 obtain⟨h1,e,t,f,j⟩:=h;rw[j,ib,ib,List.nil_append,<-f];cases C with
 |nil=>simp at e;omega
 |cons c C=>simp
def gQ.zero{u:Nat}(h:gQ a C 0 u):C=a:=by
 obtain⟨h1,j,t,e,f⟩:=h;rw[f,ib,List.nil_append,<-e,List.drop_zero]
def k7:ByteArray:=⟨#[48,48,48,49,48,50,48,51,48,52,48,53,48,54,48,55,48,56,48,57,49,48,49,49,49,50,49,51,49,52,49,53,49,54,49,55,49,56,49,57,50,48,50,49,50,50,50,51,50,52,50,53,50,54,50,55,50,56,50,57,51,48,51,49,51,50,51,51,51,52,51,53,51,54,51,55,51,56,51,57,52,48,52,49,52,50,52,51,52,52,52,53,52,54,52,55,52,56,52,57,53,48,53,49,53,50,53,51,53,52,53,53,53,54,53,55,53,56,53,57,54,48,54,49,54,50,54,51,54,52,54,53,54,54,54,55,54,56,54,57,55,48,55,49,55,50,55,51,55,52,55,53,55,54,55,55,55,56,55,57,56,48,56,49,56,50,56,51,56,52,56,53,56,54,56,55,56,56,56,57,57,48,57,49,57,50,57,51,57,52,57,53,57,54,57,55,57,56,57,57]⟩
def C6:k7.size=200:=by decide+kernel
def Ng:∀q:Fin 100,k7.data.toList[2*q.val]?=σ (UInt8.ofNat (48+q.val / 10))/\k7.data.toList[2*q.val+1]?=σ (UInt8.ofNat (48+q.val % 10)):=by decide+kernel
def xt{q:Nat}(e:q<100):(∀h,(k7[2*q]'h).toNat=48+q / 10)/\∀h,(k7[2*q+1]'h).toNat=48+q % 10:=by
 obtain⟨h1,f⟩:=Ng ⟨q,e⟩;refine⟨λh=>?_,λh=>?_⟩
 .have a:=(x5.1 h1).2;have:k7[2*q]=UInt8.ofNat (48+q / 10):=a;rw[this,UInt8.toNat_ofNat'];omega
 .have a:=(x5.1 f).2;have:k7[2*q+1]=UInt8.ofNat (48+q % 10):=a;rw[this,UInt8.toNat_ofNat'];omega
def wrap_u32{x:Int}(h1:0<=x)(a:x<4294967296):j4.u32.wrap x=x:=by
 simp[j4.wrap,j4.bits,j4.signed];omega
def k8(w:x6)(g o:Nat)(a C e:Λ):Prop:=ag w g nT (ints .u8 (a++C++e))/\a.length=o
def xu{g o c i:Nat}{a:j4}(e:y=(i:Int))(hi:i<n):
  ab v8 (b8 cT (.slice (σ ⟨g,o,ν⟩) n c) (.int a y)) w K=K (.pointer (σ ⟨g,o+i,ν⟩)):=by
 subst e;rw[eT cT.u cO.i hi (λ_=>rfl),T0]
def xv{g o i:Nat}{x:Int}{f:Λ}{K:Unit->x6->Prop}(h:k8 w g o a C f)(hi:i<C.length)(p:∀I,af (λr=>r=g) w I->k8 I g o a (C.set i x) f->K () I):aG v8 (j0 cO (.pointer (σ ⟨g,o+i,ν⟩)) (.int .u8 x)) w K:=by
 obtain⟨h,rfl⟩:=h;refine bu (g:=g) (o:=a.length+i) cO.i rfl rfl h Θ λI q J j=>p I q ⟨?_,rfl⟩;have e:(ints .u8 (a++C++f)).set (a.length+i) (.int .u8 x)=ints .u8 (a++C.set i x++f):=by
  unfold ints;rw[<-T2,T6,T4 _ _ Ω,Q5,List.set_append_left _ _ hi,T6]
 rw[e]at j;exact j
def pp{g o c a q i:Nat}{x f t:Int}{h j:Λ}{K:x6->Prop}(y:k8 w g o h C j)(Y:C.length=n)(Z:n<=1000)(ac:a<=n)(h1:(a:Int)-x=((i+1:Nat):Int))(E:(a:Int)-f=(i:Int))(F:i+1<n)(G:t=((2*q:Nat):Int))(p:q<100)(H:∀I,af (λr=>r=g) w I->k8 I g o h ((C.set (i+1) (48+((q % 10:Nat):Int))).set i (48+((q / 10:Nat):Int))) j->K I):
  en w λV=>
  ab v8 (aP .sub ai v6 v2 (Δ (a:Int)) (Δ x)) V λL=>
  ab v8 (aP .sub ai v6 v2 (Δ (a:Int)) (Δ f)) V λz=>
  ab v8 (aP .add p8 v6 v2 (.int .u32 t) (.int .u32 1)) V λM=>
  ab v8 (Instr.index db (.string k7) M) V λt50=>
  ab v8 (Instr.index db (.string k7) (.int .u32 t)) V λA=>
  ab v8 (b8 cT (.slice (σ ⟨g,o,ν⟩) n c) L) V λt53=>
  aG v8 (j0 cO t53 t50) V λ(_:Unit)e=>
   (Ext V e\/b6 v8 (Instr.index db (.string k7) (.int .u32 t)) A e/\b6 v8 (aP .sub ai v6 v2 (Δ (a:Int)) (Δ f)) z e/\True)/\
  ab v8 (b8 cT (.slice (σ ⟨g,o,ν⟩) n c) z) e λN=>
   aG v8 (j0 cO N A) e λ(_:Unit)s=>K s:=by
 subst G;intro V B _ _;have O:af (λr=>r=g) w V:=B.aa _;have P:k8 V g o h C j:=⟨y.1.W B,y.2⟩;rw[dA,m1 Ω Ω,dA,m1 Ω Ω,aO,wrap_u32 Ω Ω];rw[show((2*q:Nat):Int)+1=((2*q+1:Nat):Int) by omega];have J:=C6;rw[um db.u (by rw[J];omega),um db.u (by rw[J];omega)];rw[(xt p).1,(xt p).2,xu h1 F];refine xv P Ω λe Q R=>⟨.inr ⟨mw λK=>?_,mw λK=>?_,trivial⟩,?_⟩
 .rw[um db.u (by rw[J];omega),(xt p).1]
 .rw[dA,m1 Ω Ω]
 .rw[xu E Ω];refine xv R Θ λs S U=>H s ((O.F Q).F S) ?_;have W:48+((q % 10:Nat):Int)=((48+q % 10:Nat):Int):=Ω
  have X:48+((q / 10:Nat):Int)=((48+q / 10:Nat):Int):=Ω
  rw[W,X];exact U
def gQ.pair{e:Λ}{a u q:Nat}(h:gQ e C (a+2) u)(f:q=u % 100):gQ e ((C.set (a+1) (48+((q % 10:Nat):Int))).set a (48+((q / 10:Nat):Int))) a (u / 100):=by
 have:=h.two;rw[show u % 10=q % 10 by omega,show u / 10 % 10=q / 10 by omega]at this;exact this
def pq{k:j4}{a b:Nat}(e:b≠0):ab v8 (aP .rem t cx cy (.int k (a:Int)) (.int k (b:Int))) w K=K (.int k ((a % b:Nat):Int)):=by
 rw[rl Ω,Int.tmod_eq_emod_of_nonneg Ω,Int.natCast_emod]
def u32_quo{a b:Nat}(e:b≠0)(f:a<4294967296):ab v8 (aP .quo t cx cy (.int .u32 (a:Int)) (.int .u32 (b:Int))) w K=K (.int .u32 ((a / b:Nat):Int)):=by
 have:=Nat.div_le_self a b;rw[nU Ω,Int.tdiv_eq_ediv_of_nonneg Ω,<-Int.natCast_ediv];generalize a / b=m at this ⊢;rw[wrap_u32 Ω Ω]
def u64_quo{a b:Nat}(e:b≠0)(f:a<18446744073709551616):ab v8 (aP .quo t cx cy (.int .u64 (a:Int)) (.int .u64 (b:Int))) w K=K (.int .u64 ((a / b:Nat):Int)):=by
 have:=Nat.div_le_self a b;rw[nU Ω,Int.tdiv_eq_ediv_of_nonneg Ω,<-Int.natCast_ediv];generalize a / b=m at this ⊢;rw[m2 Ω Ω]
def pr{a b:Nat}(f:a*b<4294967296):ab v8 (aP .mul t cx cy (.int .u32 (a:Int)) (.int .u32 (b:Int))) w K=K (.int .u32 ((a*b:Nat):Int)):=by
 have e:(a:Int)*(b:Int)=((a*b:Nat):Int):=Ξ
 rw[fB,e];generalize a*b=m at f ⊢;rw[wrap_u32 Ω Ω]
def gQ.start{u:Nat}(h:C.length=N):gQ (ib N u) C N u:=⟨by rw[rR];omega,by rw[rR,h],[],by rw[List.drop_eq_nil_iff];omega,Ξ⟩
def Nh{g o c u:Nat}{E G:Λ}(ai:k8 w g o E C G)(aj:C.length=N)(ay:N<=19)(hu:u<10 ^ N):
  ak v8 KT [.slice (σ ⟨g,o,ν⟩) N c,.int .u64 (u:Int)] w λv I=>v= .tuple #[]/\af (λr=>r=g) w I/\k8 I g o E (ib N u) G:=by
 have s:=rR N u;refine az func307 ?_;rw[jd cT.u];refine⟨λam R U=>∃eX e:Nat,am= .int .u64 (eX:Int)/\R=Δ (e:Int)/\eX<10 ^ e/\e<=N/\af (λr=>r=g) w U/\∃H,k8 U g o E H G/\gQ (ib N u) H e eX,
  λ_ R _=>(bZ R).toNat,⟨u,N,rfl,rfl,hu,o4 _,af.refl _ _,C,ai,gQ.start aj⟩,?_⟩
 rintro _ _ U ⟨eX,e,rfl,rfl,J,x,S,H,W,O⟩;have ad:H.length=N:=by rw[O.2.1,s]
 have aA:(10:Nat) ^ e<=10 ^ 19:=S4 Ω Ω;have an:eX<18446744073709551616:=Ω
 have aB:(8:Int)=((8:Nat):Int):=rfl;rw[cP,al];refine⟨λao=>?_,λao=>?_⟩
 .obtain⟨m,rfl⟩:∃m,e=m+8:=⟨e-8,Ω⟩;have aC:eX % 100000000<100000000:=Nat.mod_lt _ Ω;rw[show U3 .u64 100000000=U3 .u64 ((100000000:Nat):Int)from rfl,pq Ω,fC fN.u p8.u,wrap_u32 Ω Ω,u64_quo Ω an];rw[show U3 .u32 10000=U3 .u32 ((10000:Nat):Int)from rfl,show U3 .u32 100=U3 .u32 ((100:Nat):Int)from rfl,show U3 .u32 2=U3 .u32 ((2:Nat):Int)from rfl];rw[u32_quo Ω Ω,pq Ω,u32_quo Ω Ω,pr Ω,pq Ω,pr Ω,u32_quo Ω Ω,pr Ω,pq Ω,pr Ω];refine pp (i:=m+6) (q:=eX % 100000000 % 10000 % 100) W ad Ω x Ω Ω Ω Ω Ω λV z A=>?_;have h:=O.pair (q:=eX % 100000000 % 10000 % 100) Ω;have K:=h.2.1.F s;refine pp (i:=m+4) (q:=eX % 100000000 % 10000 / 100) A K Ω x Ω Ω Ω Ω Ω λB p j=>?_;have f:=gQ.pair (q:=eX % 100000000 % 10000 / 100) h Ω;have ae:=f.2.1.F s;refine pp (i:=m+2) (q:=eX % 100000000 / 10000 % 100) j ae Ω x Ω Ω Ω Ω Ω λap X P=>?_;have ag:=gQ.pair (q:=eX % 100000000 / 10000 % 100) f Ω;have aq:=ag.2.1.F s;refine pp (i:=m) (q:=eX % 100000000 / 10000 / 100) P aq Ω x Ω Ω Ω Ω Ω λaD au av=>?_;have ah:=gQ.pair (q:=eX % 100000000 / 10000 / 100) ag Ω;rw[dA,m1 Ω Ω];refine⟨⟨eX / 100000000,m,rfl,by congr 1;omega,?_,Ω,(((S.F z).F p).F X).F au,_,av,?_⟩,by simp only[bZ];omega⟩
  .rw[Nat.pow_add]at J;exact Nat.div_lt_of_lt_mul (by rw[Nat.mul_comm];exact J)
  .rw[show eX / 100 / 100 / 100 / 100=eX / 100000000 by omega]at ah;exact ah
 .have aE:e<8:=Ω
  have aF:(10:Nat) ^ e<=10 ^ 7:=S4 Ω Ω;rw[fC fN.u p8.u,wrap_u32 Ω Ω];refine i9 (λa b V=>∃e6 m:Nat,a=Δ (m:Int)/\b= .int .u32 (e6:Int)/\e6<10 ^ m/\m<4/\m<=N/\af (λr=>r=g) w V/\∃Q,k8 V g o E Q G/\gQ (ib N u) Q m e6) ?_ ?_
  rotate_left
  .intro ax L;rw[cP,al];refine⟨λY=>?_,λY=>L _ _ _ ⟨eX,e,rfl,rfl,J,Ω,x,S,H,W,O⟩⟩;obtain⟨m,rfl⟩:∃m,e=m+4:=⟨e-4,Ω⟩;rw[show U3 .u32 10000=U3 .u32 ((10000:Nat):Int)from rfl,show U3 .u32 100=U3 .u32 ((100:Nat):Int)from rfl,show U3 .u32 2=U3 .u32 ((2:Nat):Int)from rfl];rw[pq Ω,u32_quo Ω Ω,u32_quo Ω Ω,pr Ω,pq Ω,pr Ω];refine pp (i:=m+2) (q:=eX % 10000 % 100) W ad Ω x Ω Ω Ω Ω Ω λV z A=>?_;have h:=O.pair (q:=eX % 10000 % 100) Ω;have K:=h.2.1.F s;refine pp (i:=m) (q:=eX % 10000 / 100) A K Ω x Ω Ω Ω Ω Ω λB p j=>?_;have f:=gQ.pair (q:=eX % 10000 / 100) h Ω;rw[dA,m1 Ω Ω];refine L _ _ _ ⟨eX / 10000,m,by congr 1;omega,rfl,?_,Ω,Ω,(S.F z).F p,_,j,?_⟩
   .rw[Nat.pow_add]at J;exact Nat.div_lt_of_lt_mul (by rw[Nat.mul_comm];exact J)
   .rw[show eX / 100 / 100=eX / 10000 by omega]at f;exact f
  rintro _ _ V ⟨e6,m,rfl,rfl,Z,aG,aa,z,Q,A,h⟩;have K:=h.2.1.F s;have aH:(10:Nat) ^ m<=10 ^ 3:=S4 Ω Ω;refine i9 (λa b B=>∃M m:Nat,a=Δ (m:Int)/\b= .int .u32 (M:Int)/\M<10 ^ m/\m<2/\m<=N/\af (λr=>r=g) w B/\∃ab,k8 B g o E ab G/\gQ (ib N u) ab m M) ?_ ?_
  rotate_left
  .intro ax L;rw[cP,al];refine⟨λY=>?_,λY=>L _ _ _ ⟨e6,m,rfl,rfl,Z,Ω,aa,z,Q,A,h⟩⟩;obtain⟨m,rfl⟩:∃bR,m=bR+2:=⟨m-2,Ω⟩;rw[show U3 .u32 100=U3 .u32 ((100:Nat):Int)from rfl,show U3 .u32 2=U3 .u32 ((2:Nat):Int)from rfl];rw[pq Ω,pr Ω,u32_quo Ω Ω];refine pp (i:=m) (q:=e6 % 100) A K Ω aa Ω Ω Ω Ω Ω λB p j=>?_;have f:=h.pair rfl;rw[dA,m1 Ω Ω];refine L _ _ _ ⟨e6 / 100,m,by congr 1;omega,rfl,?_,Ω,Ω,z.F p,_,j,f⟩;rw[Nat.pow_add]at Z;exact Nat.div_lt_of_lt_mul (by rw[Nat.mul_comm];exact Z)
  rintro _ _ B ⟨M,m,rfl,rfl,ac,aI,aa,p,ab,j,f⟩;have ae:=f.2.1.F s;rw[bP,al];refine⟨λaw=>?_,λaw=>?_⟩
  .obtain rfl:m=1:=Ω
   have ac:M<10:=by simpa using ac
   rw[aO,wrap_u32 Ω Ω,fC p8.u cO.u,wrap_u8 Ω Ω,xu (y:=0) (i:=0) rfl Ω];refine xv j Ω λap X P=>?_;have:=f.one;rw[Nat.mod_eq_of_lt ac]at this;rw[this]at P;exact⟨rfl,p.F X,P⟩
  .obtain rfl:m=0:=Ω
   rw[f.zero]at j;exact⟨rfl,p,j⟩
def rS:Λ:=[1,10,100,1000,10000,100000,1000000,10000000,100000000,1000000000,10000000000,100000000000,1000000000000,10000000000000,100000000000000,1000000000000000,10000000000000000,100000000000000000,1000000000000000000,10000000000000000000]
def fs(w:x6):Prop:=w.rangeAt 1 0 (ints .u64 rS)
def fs.W(h:fs w)(a:Ext w I):fs I:=oX a h
def Ni:∀k:Nat,k<20->rS[k]?=σ (((10 ^ k:Nat)):Int):=Φ
def C7{s:Nat}(h:2 ^ s<=n):eA n=s+eA (n / 2 ^ s):=by
 have J:=Nat.two_pow_pos s;have h1:n / 2 ^ s≠0:=by have:=Nat.div_pos h J;omega
 have f:n≠0:=Ω
 unfold eA;rw[rc f,rc h1];have e:Nat.log2 n=Nat.log2 (n / 2 ^ s)+s:=by
  refine(Nat.log2_eq_iff f).2 ⟨?_,?_⟩
  .rw[Nat.pow_add];have:=X4 (2 ^ s) (Nat.log2_self_le h1);have:=Nat.div_mul_le_self n (2 ^ s);omega
  .have j:=Nat.lt_log2_self (n:=n / 2 ^ s);rw[show Nat.log2 (n / 2 ^ s)+s+1=(Nat.log2 (n / 2 ^ s)+1)+s by omega,Nat.pow_add];have:=X4 (2 ^ s) (show n / 2 ^ s+1<=2 ^ (Nat.log2 (n / 2 ^ s)+1) by omega);have p:=Nat.lt_div_mul_add J (a:=n);rw[U7]at this;omega
 omega
def rT:ByteArray:=⟨#[0,1,2,2,3,3,3,3,4,4,4,4,4,4,4,4,5,5,5,5,5,5,5,5,5,5,5,5,5,5,5,5,6,6,6,6,6,6,6,6,6,6,6,6,6,6,6,6,6,6,6,6,6,6,6,6,6,6,6,6,6,6,6,6,7,7,7,7,7,7,7,7,7,7,7,7,7,7,7,7,7,7,7,7,7,7,7,7,7,7,7,7,7,7,7,7,7,7,7,7,7,7,7,7,7,7,7,7,7,7,7,7,7,7,7,7,7,7,7,7,7,7,7,7,7,7,7,7,8,8,8,8,8,8,8,8,8,8,8,8,8,8,8,8,8,8,8,8,8,8,8,8,8,8,8,8,8,8,8,8,8,8,8,8,8,8,8,8,8,8,8,8,8,8,8,8,8,8,8,8,8,8,8,8,8,8,8,8,8,8,8,8,8,8,8,8,8,8,8,8,8,8,8,8,8,8,8,8,8,8,8,8,8,8,8,8,8,8,8,8,8,8,8,8,8,8,8,8,8,8,8,8,8,8,8,8,8,8,8,8,8,8,8,8,8,8,8,8,8,8,8,8,8,8,8,8]⟩
def Nj:rT.size=256:=by decide+kernel
def Nk:∀q:Fin 256,rT.data.toList[q.val]?=σ (UInt8.ofNat (eA q.val)):=by decide+kernel
def Nl{q:Nat}(a:q<256):∀h,(rT[q]'h).toNat=eA q:=λh=>by
 have h1:=Nk ⟨q,a⟩;have e:=(x5.1 h1).2;have:rT[q]=UInt8.ofNat (eA q):=e;have f:=C4 a;rw[this,UInt8.toNat_ofNat'];omega
def Nn(E:n<18446744073709551616):ak v8 KG [.int .u64 (n:Int)] w λv I=>v=Δ (eA n:Int)/\Ext w I:=by
 refine az func283 ?_;have step:∀{s x m:Nat}{ax:x4->x4->x6->Prop}{y c:Int},s<64->x<18446744073709551616->m+eA x=eA n->m<=64->y=(2 ^ s:Nat)->c=(s:Int)->2 ^ s<=18446744073709551615->(∀a bR:Nat,a<2 ^ s\/(a=x / 2 ^ s/\bR=m+s)->a<=x->bR+eA a=eA n->bR<=m+s->ax (.int .u64 (a:Int)) (Δ (bR:Int)) w)->
   ab v8 (aP .geq fN v6 v2 (.int .u64 (x:Int)) (.int .u64 y)) w λt4=>
    Split t4 (ab v8 (aP .shr fN v6 v2 (.int .u64 (x:Int)) (.int .u64 c)) w λr=>ab v8 (aP .add ai v6 v2 (Δ (m:Int)) (Δ c)) w λz=>ax r z w) (ax (.int .u64 (x:Int)) (Δ (m:Int)) w):=by
  intro s x m ax y c J f hm G A B p e;subst A B;rw[cP,al];refine⟨λh=>?_,λh=>e x m (.inl Ω) (o4 _) hm Ω⟩;rw[mp J,aO,m1 Ω Ω];have:=C7 (n:=x) (s:=s) Ω;have:=e (x / 2 ^ s) (m+s) (.inr ⟨rfl,rfl⟩) (Nat.div_le_self _ _) Ω Ω;exact this
 refine i9 (λx m U=>w=U/\∃a bR:Nat,x= .int .u64 (a:Int)/\m=Δ (bR:Int)/\a<4294967296/\bR+eA a=eA n/\bR<=32) ?_ ?_
 rotate_left
 .intro ax e;rw[cP,al];refine⟨λh=>?_,λh=>e _ _ _ ⟨rfl,n,0,rfl,rfl,Ω,Ω,Ω⟩⟩;rw[show U3 .u64 32=U3 .u64 ((32:Nat):Int)from rfl,mp Ω];have:=C7 (n:=n) (s:=32) Ω;exact e _ _ _ ⟨rfl,n / 2 ^ 32,32,rfl,rfl,Ω,Ω,Ω⟩
 rintro _ _ _ ⟨rfl,x,m,rfl,rfl,f,hm,q⟩;refine i9 (λx m U=>w=U/\∃a bR:Nat,x= .int .u64 (a:Int)/\m=Δ (bR:Int)/\a<65536/\bR+eA a=eA n/\bR<=48) ?_ ?_
 rotate_left
 .intro ax e;refine step (s:=16) Ω Ω hm Ω Ω Ω Ω λa bR h1 p j C=>e _ _ _ ⟨rfl,a,bR,rfl,rfl,?_,j,Ω⟩;rcases h1 with h1|⟨h1,_⟩<;>omega
 rintro _ _ _ ⟨rfl,x,m,rfl,rfl,f,hm,q⟩;refine i9 (λx m U=>w=U/\∃a bR:Nat,x= .int .u64 (a:Int)/\m=Δ (bR:Int)/\a<256/\bR+eA a=eA n/\bR<=56) ?_ ?_
 rotate_left
 .intro ax e;refine step (s:=8) Ω Ω hm Ω Ω Ω Ω λa bR h1 p j C=>e _ _ _ ⟨rfl,a,bR,rfl,rfl,?_,j,Ω⟩;rcases h1 with h1|⟨h1,_⟩<;>omega
 rintro _ _ _ ⟨rfl,x,m,rfl,rfl,f,hm,q⟩;have J:=Nj;have H:=C4 f;rw[fC fN.u cO.u,wrap_u8 Ω Ω];refine(um (s:=rT) db.u (by rw[J];omega)).mpr ?_;rw[Nl f,fC cO.u ai.u,m1 Ω Ω,aO,m1 Ω Ω];exact⟨by congr 1;omega,Ext.refl _⟩
def C8{k:j4}{a:Nat}(f:n<64):ab v8 (aP .shr t cx cy (Δ (a:Int)) (.int k (n:Int))) w K=K (Δ ((a / 2 ^ n:Nat):Int)):=ab.of λI _=>by
 have e:(a:Int).fdiv (2 ^ min n W5.bits)=((a / 2 ^ n:Nat):Int):=by
  have:min n W5.bits=n:=Nat.min_eq_left (by show n<=64;omega);rw[this,Int.fdiv_eq_ediv_of_nonneg _ (by exact Int.le_of_lt (Int.pow_pos Ω))];simp
 simp only[aP,eqGuard,binOp,Op.shift,u9,e];rfl
def No:∀L:Fin 64,7<=L.val->2 ^ L.val<=10 ^ (L.val*78913 / 262144+1)/\10 ^ (L.val*78913 / 262144)<=10*2 ^ (L.val-1)/\1<=L.val*78913 / 262144/\L.val*78913 / 262144<19:=by decide+kernel
def Np{d:Nat}(y:fs w)(h1:100<=d)(C:d<9223372036854775808):ak v8 KS [.int .u64 (d:Int)] w λv I=>Ext w I/\∃n:Nat,v=Δ ((n+1:Nat):Int)/\n<19/\10 ^ n<=d/\d<10 ^ (n+1):=by
 have j:d≠0:=Ω
 have p:eA d=Nat.log2 d+1:=by unfold eA;rw[rc j]
 have E:2 ^ (eA d-1)<=d:=by rw[p];exact Nat.log2_self_le j
 have:d<2 ^ eA d:=by rw[p];exact Nat.lt_log2_self
 have z:7<=eA d:=by
  by_cases h:7<=eA d
  .exact h
  .have:2 ^ eA d<=2 ^ 6:=S4 Ω Ω;omega
 have A:eA d<64:=by
  by_cases h:eA d<64
  .exact h
  .have:2 ^ 63<=2 ^ (eA d-1):=S4 Ω Ω;omega
 obtain⟨B,q,t3,t4⟩:=No ⟨eA d,A⟩ z;simp only at B q t3 t4;refine az func306 ?_;refine(Nn Ω).Y ?_;rintro _ U _ ⟨rfl,a⟩;generalize eA d=L at*;refine ak.Y (K:=λv V=>v=Δ ((L*78913 / 262144:Nat):Int)/\Ext U V) ?_ ?_
 .refine az func327 ?_;rw[fB,m1 Ω Ω,show U3 .u64 18=U3 .u64 ((18:Nat):Int)from rfl,show(L:Int)*78913=((L*78913:Nat):Int) by omega,C8 Ω];exact⟨rfl,Ext.refl _⟩
 rintro _ V _ ⟨rfl,e⟩;generalize L*78913 / 262144=t at*;have ac:=Ni t Ω;rw[wK wH.u fN.i Ω,aF Ψ (by rw[T0];exact((y.W a).W e) _ _ (mh ac)),cP];refine ak.Y (K:=λv r=>v=Δ ((if 10 ^ t<=d then 1 else 0:Nat):Int)/\Ext V r) ?_ ?_
 .refine az func328 ?_;rw[al];refine⟨λh=>⟨by rw[ms Ω];rfl,Ext.refl _⟩,λh=>⟨by rw[rc Ω];rfl,Ext.refl _⟩⟩
 rintro _ r _ ⟨rfl,x⟩;rw[aO];by_cases f:10 ^ t<=d
 .rw[ms f,m1 Ω Ω];exact⟨(a.F e).F x,t,by congr 1,t4,f,Ω⟩
 .rw[rc f,m1 Ω Ω];obtain⟨s,rfl⟩:∃s,t=s+1:=⟨t-1,Ω⟩;rw[Nat.pow_succ]at q;exact⟨(a.F e).F x,s,by congr 1,Ω,Ω,Ω⟩
def C9{k a:j4}{x:Int}{i:Nat}{s:ByteArray}(e:x=(i:Int))(f:y=(j:Int))(p:v8.underlying t=σ .string)(q:i<=j)(r:j<=s.size):
  ab v8 (U4 t (.string s) (σ (.int k x)) (σ (.int a y)) ν) w K=K (.string (s.extract i j)):=ab.of λI _=>by
 subst e f;have z:=tz (P:=v8) I (sl:=v6) (n:=s.size) (c:=s.size) (low:=σ (.int k (i:Int))) (high:=σ (.int a (j:Int))) (mx:=ν) (l:=i) (h:=j) (m:=s.size) ⟨k,rfl⟩ ⟨a,rfl⟩ fo q r (o4 _);simp[U4,Instr.slice,run_underlying p,z]
def Nq:∀q:Fin 100,k7.extract (2*q.val) (2*q.val+2)=strOfNums [48+((q.val / 10:Nat):Int),48+((q.val % 10:Nat):Int)]:=by decide+kernel
def Da:ByteArray:=⟨#[48,49,50,51,52,53,54,55,56,57,97,98,99,100,101,102,103,104,105,106,107,108,109,110,111,112,113,114,115,116,117,118,119,120,121,122]⟩
def Nr:∀q:Fin 10,Da.extract q.val (q.val+1)=strOfNums [48+(q.val:Int)]:=by decide+kernel
def Db(h:n<10):gp n=[48+(n:Int)]:=by rw[pg,ms h,Nat.mod_eq_of_lt h];rfl
def Ns(h1:10<=n)(a:n<100):gp n=[48+((n / 10:Nat):Int),48+((n % 10:Nat):Int)]:=by
 rw[pg,rc Ω,Db Ω];rfl
def Nt(a:n<100):ak v8 KR [Δ (n:Int)] w λv I=>v=cf (gp n)/\Ext w I:=by
 refine az func305 ?_;rw[aT,al];refine⟨λh=>?_,λh=>?_⟩
 .rw[aO,m1 Ω Ω];refine(C9 (s:=Da) (i:=n) (j:=n+1) rfl Ω db.u Ω (by show n+1<=36;omega)).mpr ?_;rw[Nr ⟨n,Ω⟩,Db Ω];exact⟨rfl,Ext.refl _⟩
 .rw[fB,m1 Ω Ω,fB,m1 Ω Ω,aO,m1 Ω Ω];refine(C9 (s:=k7) (i:=2*n) (j:=2*n+2) Ω Ω db.u Ω (by rw[C6];omega)).mpr ?_;rw[Nq ⟨n,a⟩,Ns Ω a];exact⟨rfl,Ext.refl _⟩
def Nu{g:Nat}{f h:Λ}(a:k8 w g 1 f C h)(p:C.length<=23):aM .u8 w (.slice (σ ⟨g,1,ν⟩) C.length 23) C:=by
 obtain⟨a,ac⟩:=a;refine⟨Ξ,g,1,_,23,rfl,p,by simp[maxLen],λ_=>rfl,λj v e=>?_⟩;have q:j<C.length:=by have:=(x5.1 e).1;simpa using this
 refine a.cell ?_;rw[ints,Z4,Z4,Y2 Θ,Z7 Θ,r8,ac,Q5];exact e
def Dc{g m:Nat}(a:y=((m+2:Nat):Int))(hm:m<=22):
  ab v8 (U4 nT (Γ g) (σ (Δ 1)) (σ (Δ y)) ν) w K=K (.slice (σ ⟨g,1,ν⟩) (m+1) 23):=by
 subst a;have:=tA (w:=w) (b:=g) (o:=0) (low:=σ (Δ 1)) (high:=σ (Δ ((m+2:Nat):Int))) (mx:=ν) (l:=1) (h:=m+2) (m:=24) (K:=K) nT.u cO.i ⟨_,rfl⟩ ⟨_,rfl⟩ fo Ω Ω Ω;rw[this,rc Ω];rfl
def Nv(q:fs w)(s:n<9223372036854775808):ak v8 KM [Δ (n:Int),Δ 10] w λv I=>v=cf (gp n)/\Ext w I:=by
 refine az func291 ?_;rw[bl];refine(al).mpr ⟨λ_=>?_,λh=>ro rfl h⟩;refine aY (λv U=>w=U/\v= .bool (decide (n<100))) ?_ ?_
 rotate_left
 .intro ax a;rw[mf,al];refine⟨λ_=>?_,λh=>Ω⟩;rw[aT];exact a _ _ ⟨rfl,by congr 1;rw[U6,sp,sp];omega⟩
 rintro _ _ ⟨rfl,rfl⟩;rw[al];refine⟨λh=>?_,λh=>?_⟩
 .exact (Nt h).Y λ_ _ _ h=>h
 refine bE nT.i λg U E f x=>?_;rw[fC av.u fN.u,m2 Ω Ω];refine aY (λv V=>U=V/\v= .int .u64 (n:Int)) ?_ ?_
 rotate_left
 .intro ax a;rw[aT,al];exact⟨λh=>Ω,λ_=>a _ _ ⟨rfl,rfl⟩⟩
 rintro _ _ ⟨rfl,rfl⟩;refine(Np (q.W f) Ω s).Y ?_;rintro _ V _ ⟨j,m,rfl,hm,y,p⟩;rw[aO,m1 Ω Ω];rw[Dc (m:=m) Ω Ω];have z:k8 V g 1 [0] (o6 (m+1) 0) (o6 (22-m) 0):=by
  refine⟨?_,rfl⟩;have e:[0]++o6 (m+1) (0:Int)++o6 (22-m) 0=o6 24 0:=by
   rw[show[(0:Int)]=o6 1 0 from rfl,List.replicate_append_replicate,List.replicate_append_replicate];congr 1;omega
  rw[e];exact x.W j
 refine(Nh (N:=m+1) z Ξ Ω p).Y ?_;rintro _ G _ ⟨rfl,A,B⟩;refine b3 Ω ?_;rw[aO,m1 Ω Ω];rw[Dc (m:=m) Ω Ω];have C:=rR (m+1) n;have J:=Nu B Ω;rw[C]at J;rw[wV cT.u cO.u db.u J,C5 m n y p];refine⟨rfl,(f.F j).then A λr H he=>?_⟩;have he:r=g:=he;omega
def Nw(a:fs w)(e:n<9223372036854775808):ak v8 wz [Δ (n:Int)] w λv I=>v=cf (gp n)/\Ext w I:=by
 refine az func223 ?_;refine ak.Y (K:=λv I=>v=cf (gp n)/\Ext w I) ?_ (λ_ _ _ h=>h);refine az func265 ?_;exact(Nv a e).Y λ_ _ _ h=>h
def fs.aa(h:fs w)(a:af S w I)(e:¬S 1):fs I:=iH a e h
def dw(w:x6)(g gs:Nat)(A:ah)(B:ah)(a:Bool)(s:Option aK):Prop:=match s with
 |some s=>er w g gs A B s a
 |none=>fh w g gs A B
def gq.of{g:Nat}{A:ah}{B:ah}{a:Bool}{s:Option aK}(h:gq w g gs A B a s I):af (bM g gs A) w I/\dw I g gs A B a s:=h
def gq.mk{g:Nat}{A:ah}{B:ah}{a:Bool}{s:Option aK}(h:af (bM g gs A) w I)(e:dw I g gs A B a s):gq w g gs A B a s I:=⟨h,e⟩
def dw.aa{g:Nat}{A:ah}{B:ah}{a:Bool}{s:Option aK}(h:dw w g gs A B a s)(e:af S w I)(f:∀r,bM g gs A r->¬S r)(j:∀r,cV g gs A B r->¬S r):dw I g gs A B a s:=by
 cases s with
 |none=>exact fh.aa h e f j
 |some s=>exact er.aa h e f j
def dw.W{g:Nat}{A:ah}{B:ah}{a:Bool}{s:Option aK}(h:dw w g gs A B a s)(e:Ext w I):dw I g gs A B a s:=h.aa (e.aa λ_=>False) (λ_ _ h=>h) λ_ _ h=>h
def dw.side{g:Nat}{A:ah}{B:ah}{a:Bool}{s:Option aK}(h:dw w g gs A B a s):mu w g gs A B:=by
 cases s with
 |none=>exact h.1
 |some s=>exact h.1
def bf(lo hi:Int)(s:Option aK):Option (Int×aK):=s.bind (bm lo hi)
def nv{g:Nat}{A:ah}{B:ah}{s:Option aK}{a:Bool}(h:dw w g gs A B a s):ak v8 oN [Γ g,Δ lo,Δ hi] w λv I=>gq w g gs A B a ((bf lo hi s).map (·.2)) I/\∃n at_:Int,v= .tuple #[Δ n,Δ at_]/\(∀q,bf lo hi s=σ q->n=q.1)/\(bf lo hi s=ν->n=0):=by
 cases s with
 |none=>
  refine(Mt h).Y ?_;rintro _ U _ ⟨e,rfl⟩;exact⟨⟨e.aa _,fh.W h e⟩,0,0,rfl,λq h=>(by cases h),λ_=>rfl⟩
 |some s=>exact xf h
def qx{g:Nat}{A:ah}{B:ah}{s:Option aK}{a:Bool}(h:dw w g gs A B a s):ak v8 mc [Γ g] w λv I=>v= .bool s.isSome/\Ext w I:=by
 cases s with
 |none=>exact pm h
 |some s=>exact qp h
def Nx{g:Nat}{A:ah}{B:ah}{s:Option aK}{a:Bool}{e:Int}(h:dw w g gs A B a s)(he:e≠0):ak v8 oO [Γ g,Δ e,Δ at_] w λ_ I=>gq w g gs A B a ν I:=by
 cases s with
 |none=>
  refine(Mr h).Y ?_;rintro _ U _ f;exact⟨f.aa _,fh.W h f⟩
 |some s=>
  refine(tZ h he).Y ?_;rintro _ U _ ⟨j,p⟩;exact⟨j.Y λr _ h=>.inl h,p⟩
def rU{g:Nat}{A:ah}{B:ah}{s:Option aK}{a b:Bool}(h:dw w g gs A B a s):ak v8 re [Γ g,.bool b,Δ at_] w λ_ I=>gq w g gs A B a (s.map (bi b)) I:=by
 cases s with
 |none=>
  refine(Cz h).Y ?_;rintro _ U _ e;exact⟨e.aa _,fh.W h e⟩
 |some s=>
  refine(ua h).Y ?_;rintro _ U _ ⟨f,j⟩;exact⟨f.Y λr _ h=>.inl h,j⟩
def ob{n:Int}{s:Option aK}{s':aK}(h:bf lo hi s=σ (n,s')):lo<=n/\n<=hi:=by
 cases s with
 |none=>cases h
 |some s=>exact(ji h).1
def gu(a acc:Λ)(s:Option aK):Option (Λ×aK):=s.bind (kx a acc)
def Dd{acc:Λ}{s:Option aK}:gu (k::a) acc s=match bf 0 (k-1) s with
  |none=>ν
  |some (v,s)=>kx a (acc++[v]) s:=by
 cases s with
 |none=>rfl
 |some s=>
  show kx (k::a) acc s=_;rw[kx];show _=match bm 0 (k-1) s with|none=>ν|some (v,s)=>kx a (acc++[v]) s
  cases bm 0 (k-1) s<;>rfl
theorem De:∀(t:Λ),(∀x∈t,0<=x/\x<=ay)->(eO t).length<=20*t.length
 |[],_=>by simp[eO]
 |x::t,h=>by
  have:=De t λy a=>h y (.tail _ a);have f:=h x (.head _);have:=wY 19 x.toNat (by unfold ay at f;omega) Ω;have e:eO (x::t)=gp x.toNat++[32]++eO t:=by simp[eO]
  rw[e];simp only[n9,Y1,List.length_nil];omega
def Ny{g aq:Nat}{A B:ah}{s:Option aK}{S:Bool}{aj:x4->x6->Prop}(h:dw w g gs A B S s)(al:aM .i64 w sv co)(aI:∀r,lw sv r->¬bM g gs A r/\r≠aq)(aL:∀z∈co,1<=z/\z<=ay)(bP:co.length<=100001)(aN:fs w)(h1:cV g gs A B 1)(am:ag w aq ey [.slice ν 0 0,Δ 0])(an:¬bM g gs A aq)(ao:¬B aq)(ap:∀t I aV gt,t.length=co.length->(∀x∈t,0<=x/\x<=ay)->af (λr=>bM g gs A r\/r=aq) w I->ag I aq ey [aV,Δ 0]->aB .i64 av I gt aV t->w.heap.size<=gt->
   dw I g gs A B S ((gu co [] s).map (·.2))->(∀q,gu co [] s=σ q->t=q.1)->aj (cf (eO t)) I):
  b7 (.string ⟨#[]⟩) (Δ 0) w λkey W C aQ=>
   ab v8 (aP .lss ai v6 v6 W (Δ (co.length:Int))) C λaR=>
   Split aR (ab v8 (b8 aw sv W) C λaS=>
   ab v8 (u6 av aS) C λaT=>
   ab v8 (aP .sub av v6 v2 aT (Δ 1)) C λaW=>
   ak v8 oN [Γ g,(Δ 0),aW] C λau G=>
   ab v8 (Y8 au 0) G λax=>
   ab v8 (Y8 au 1) G λbQ=>
   ab v8 (u7 ey (Γ aq) 0) G λaX=>
   ab v8 (u6 aw aX) G λaY=>
   aG v8 (X2 aw 1 #[(0,ax)]) G λaZ a1=>
   aG v8 (Z9 #[aw,aw] aw #[aY,aZ]) a1 λa2 az=>
   ab v8 (u7 ey (Γ aq) 0) az λa6=>
   aG v8 (j0 aw a6 a2) az λ(_:Unit)a7=>
   ak v8 wz [ax] a7 λa8 K=>
   ab v8 (aP .add db v6 v2 a8 (.string ⟨#[32]⟩)) K λba=>
   ab v8 (aP .add db v6 v6 key ba) K λbb=>
   ab v8 (aP .add ai v6 v2 W (Δ 1)) K λbc=>
   aQ bb bc K) (aj key C):=by
 have bR:=am.lt;have bd:=h.side;obtain⟨bS,bT,bU,be,bg⟩:=bd;refine b7.range co.length (λj key U=>∃t aV gt s1,key=cf (eO t)/\t.length=j/\(∀x∈t,0<=x/\x<=ay)/\af (λr=>bM g gs A r\/r=aq) w U/\ag U aq ey [aV,Δ 0]/\aB .i64 av U gt aV t/\w.heap.size<=gt/\
  dw U g gs A B S s1/\gu co [] s=gu (co.drop j) t s1) al.le ⟨[],_,w.heap.size,s,rfl,rfl,λx y=>(by cases y),af.refl _ _,am,aB.nil _ _ _ _,o4 _,h,rfl⟩ ?_ ?_
 rotate_left
 .rintro _ U bi ⟨t,aV,gt,s1,rfl,L,H,E,M,N,X,O,he⟩;refine b3 Ω ?_;rw[List.drop_length]at he;cases s1 with
  |none=>
   have he:=he;exact ap t U aV gt L H E M N X (by rw[he];exact O) (λq e=>by rw[he]at e;cases e)
  |some s1=>
   have he:=he;exact ap t U aV gt L H E M N X (by rw[he];exact O) (λq e=>by rw[he]at e;cases e;rfl)
 rintro j _ U bi aA ⟨t,aV,gt,s1,rfl,L,H,E,M,N,X,O,he⟩ bj;obtain⟨z,Y⟩:=aD (l:=co) aA;have bk:=aL z (x7 Y);have bV:z<=4611686018427387904:=bk.2;have bl:=jh al E λr f a n c bm bn=>by
  have:=aI r ⟨a,n,c,bm,bn⟩;exact f.elim this.1 this.2
 have ae:∀r,bM g gs A r->r<w.heap.size:=be;refine bC Ω ?_;rw[bh aw.u av.i Ψ bl Y,dA,m1 Ω Ω];refine(nv O).Y ?_;rintro _ V _ ⟨bo,n,at_,rfl,aC,bp⟩;obtain⟨P,bq⟩:=bo.of;have aE:0<=n/\n<=ay:=by
  cases e:bf 0 (z-1) s1 with
  |none=>rw[bp e];exact⟨Ω,by unfold ay;omega⟩
  |some q=>
   rw[aC q e];have:=ob e;exact⟨this.1,by unfold ay;omega⟩
 rw[bA,bB];have aF:=M.aa P an;have br:=N.aa P λ_ bs=>by have:=ae _ bs;omega
 rw[aJ ey.p 0 aF rfl];refine eU aw.u av.i rfl λa ga bt bW J bw=>?_;refine kt aw.u av.i rfl (br.W J) bw.ls Θ Θ λbx bz bD bX Z Q=>?_;have bY:=E.size;have bZ:=P.size;have z3:=J.size;have z4:=Q.size;rw[aU ey.p rfl];have bE:=(aF.W J).aa Q (λhe=>by have he:=he;omega);refine bu (g:=aq) (o:=0) aw.i Z.ls.cells.1 Z.ls.cells.2 bE Ξ λbF ac b0 ad=>?_;have ad:=ad;have bG:af (λr=>bM g gs A r\/r=aq) w bt:=(E.F (P.Y λr _ h=>.inl h)).F (J.aa _);have bH:af (λr=>bM g gs A r\/r=aq) w bD:=iJ bG Q λr f he=>by have he:r=gt:=he;omega
 have aH:af (λr=>bM g gs A r\/r=aq) w bF:=bH.F (ac.Y λr _ h=>.inr h);have bI:¬(λr=>bM g gs A r\/r=aq) 1:=λh=>h.elim h1.1 λh=>ao (h▸h1.2);obtain⟨m,rfl⟩:∃m:Nat,n=(m:Int):=⟨n.toNat,Ω⟩;unfold ay at aE;refine(Nw (aN.aa aH bI) Ω).Y ?_;rintro _ b1 _ ⟨rfl,R⟩;have b2:=wY 19 m Ω Ω;have b4:=De t H;rw[show(ByteArray.mk #[32])=strOfNums [32]from rfl,wU Θ,wU Θ,aO];refine bj _ _ ⟨t++[(m:Int)],bx,bz,(bf 0 (z-1) s1).map (·.2),?_,by simp[L],λx y=>?_,aH.F (R.aa _),ad.W R,(Z.aa ac (λ_ he=>by have he:=he;omega)).W R,Ω,?_,?_⟩
 .rw[LL,u9]
 .rcases j9.1 y with y|y
  .exact H x y
  .rw[c9.1 y];exact aE
 .refine dw.W ?_ R;have bJ:=bq.W J;have bK:∀r,bM g gs A r->¬(λr=>r=gt) r:=λr f he=>by have:=ae r f;have he:r=gt:=he;omega
  have bL:∀r,cV g gs A B r->¬(λr=>r=gt) r:=λr f he=>by have:=bg r f.2;have he:r=gt:=he;omega
  have bN:∀r,bM g gs A r->¬(λr=>r=aq) r:=λr f he=>by have he:r=aq:=he;exact an (he▸f)
  have bO:∀r,cV g gs A B r->¬(λr=>r=aq) r:=λr f he=>by have he:r=aq:=he;exact ao (he▸f.2)
  exact(bJ.aa Q bK bL).aa ac bN bO
 .rw[he,W3 aA,show co[j]=z from(x5.1 Y).2,Dd];cases e:bf 0 (z-1) s1 with
  |none=>rfl
  |some q=>
   rw[aC q e];rfl
def ec(s:aK):Prop:=s.big=v6->s.m5<=16384
def k9(n:Int)(s:aK):aK:=bi (decide (16384<min (s.m5+n) ay)) {s with m5:=min (s.m5+n) ay}
def Nz(n:Int)(s:aK):ec (k9 n s):=λh=>by
 have h:(s.big||decide (16384<min (s.m5+n) ay))=v6:=h;have:=of_decide_eq_false (U1.1 h).2;show min (s.m5+n) ay<=16384;omega
def NA{g:Nat}{A B:ah}{s:Option aK}{z:Bool}{n:Int}{K:x6->Prop}(h:dw w g gs A B z s)(P:∀t,s=σ t->0<=n/\n<=ay/\ec t)(L:∀I,af (bM g gs A) w I->dw I g gs A B z (s.map (k9 n))->K I):
  ab v8 (bU (Γ g)) w λQ=>
  ab v8 (u7 cF Q 2) w λR=>
  ab v8 (u6 av R) w λS=>
  ab v8 (aP .add av v6 v6 S (Δ n)) w λW=>
  ab v8 (Y4.min_ #[av,av] av #[W,(Δ 4611686018427387904)]) w λX=>
  ab v8 (bU (Γ g)) w λY=>
  ab v8 (u7 cF Y 2) w λZ=>
  aG v8 (j0 av Z X) w λ(_:Unit)q=>
  ab v8 (bU (Γ g)) q λt77=>
  ab v8 (u7 cF t77 2) q λac=>
  ab v8 (u6 av ac) q λad=>
  ab v8 (aP .gtr av v6 v2 ad (Δ 16384)) q λae=>
  ak v8 re [Γ g,ae,Δ at_] q λ_ ag=>K ag:=by
 cases s with
 |none=>
  obtain⟨J,e,big,C,E,m5,sv,l,x,y,G⟩:=id h;rw[aL cF.p 2 x rfl,aO,ni,b0,aU cF.p rfl];refine bu (g:=g) (o:=5) av.i rfl rfl x (by simp[jj]) λU a ai f=>?_;rw[aL cF.p 2 f rfl,bP];have M:fh U g gs A B:=⟨J.aa a,e,big,C,E,_,sv,l,f,y,ao.aa G a λr _ h H=>tX h J.2.1 H⟩;refine(Cz M).Y ?_;rintro _ V _ N;exact L _ ((a.Y λr _ h=>.inl h).F (N.aa _)) (M.W N)
 |some s=>
  obtain⟨au,aj,hi⟩:=P s rfl;obtain⟨J,al,am,big,C,E,m5,sv,x,y,G⟩:=id h;rw[aL cF.p 2 x rfl,aO,ni,b0,aU cF.p rfl];refine bu (g:=g) (o:=5) av.i rfl rfl x (by simp[jj]) λU a ai f=>?_;have f:=f;rw[aL cF.p 2 f rfl,bP];have key:s.big=v6->min (W5.wrap (m5+n)) 4611686018427387904=min (s.m5+n) ay:=λj=>by
   rw[y.2 j];have:=hi j;unfold ay at aj ⊢;rw[m1 Ω Ω]
  have an:er U g gs A B {s with m5:=min (s.m5+n) ay} z:=⟨J.aa a,al.aa a (λhe=>J.1 he.symm) (λr ap he=>ap.1 (.inl he)),⟨by show 0<=min _ _;unfold ay;omega,by show min _ _<=_;omega,am.2.2⟩,big,C,E,_,sv,f,⟨y.1,key⟩,ao.aa G a λr _ h H=>tX h J.2.1 H⟩;refine(ua an).Y ?_;rintro _ V _ ⟨aq,O⟩;refine L _ ((a.F aq).Y λr _ h=>.inl h) ?_;have e:bi (decide (16384<min (W5.wrap (m5+n)) 4611686018427387904)) {s with m5:=min (s.m5+n) ay}=k9 n s:=by
   cases j:s.big with
   |false=>rw[key j,<-j];rfl
   |true=>simp[k9,bi,j]
  rw[e]at O;exact O
def j8(co:Λ)(s:Option aK):Option (List (Λ×Int)×aK):=s.bind (eb co)
def my(w:x6)(m:Nat)(acc:List (Λ×Int)):Prop:=de w m (acc.map λp=>(cf (eO p.1),Δ 1))
def lP(w:x6)(m:Nat):Prop:=∃d,de w m d/\∀p∈d,∃(k:ByteArray)(c:Int),p=(.string k,Δ c)
def my.any{m:Nat}{acc:List (Λ×Int)}(h:my w m acc):lP w m:=⟨_,h,λp ac=>by
 obtain⟨q,_,rfl⟩:=j5.1 ac;exact⟨_,_,rfl⟩⟩
def NB{m:Nat}{k:ByteArray}(h:lP w m)(e:∀c:Int,K (Δ c)):ab v8 (Instr.lookup io (.map (σ m)) (.string k) v6) w K:=by
 obtain⟨d,hm,f⟩:=h;have hk:=Keys.str db.u;have q:∀p∈d,∃s,p.1=x4.string s:=λp ac=>by obtain⟨s,c,rfl⟩:=f p ac;exact⟨s,rfl⟩
 by_cases he:∃p∈d,p.1=x4.string k
 .obtain⟨p,ac,a⟩:=he;obtain⟨j,r⟩:=X8.1 ac;obtain⟨s,c,rfl⟩:=f p ac;have a:x4.string s=x4.string k:=a;rw[a]at r;rw[rK io.u hk hm q ⟨k,rfl⟩ r];exact e c
 .have x:∀p∈d,p.1≠x4.string k:=λp ac h=>he ⟨p,ac,h⟩;rw[uf io.u hk ⟨_,_,ai.i⟩ hm q ⟨k,rfl⟩ x];exact e 0
def NC{m:Nat}{k:ByteArray}{K:Unit->x6->Prop}(h:lP w m)(q:∀I,af (λr=>r=m) w I->lP I m->K () I):aG v8 (Instr.mapUpdate io (.map (σ m)) (.string k) (Δ c)) w K:=by
 obtain⟨d,hm,a⟩:=h;have x:∀p∈d,∃s,p.1=x4.string s:=λp ac=>by obtain⟨s,c,rfl⟩:=a p ac;exact⟨s,rfl⟩
 refine rL io.u (Keys.str db.u) hm x ⟨k,rfl⟩ (λj v0 I y e f=>q I f ⟨_,e,λp ac=>?_⟩) (λI z e f=>q I f ⟨_,e,λp ac=>?_⟩)
 .rcases W8 ac with ac|rfl
  .exact a p ac
  .exact⟨_,_,rfl⟩
 .rcases j9.1 ac with ac|ac
  .exact a p ac
  .rw[c9.1 ac];exact⟨_,_,rfl⟩
def Df{b:Λ}(e:∀x∈a,0<=x)(f:∀x∈b,0<=x)(h:cf (eO a)=cf (eO b)):a=b:=by
 have h:=x4.string.inj h;exact BR e f (str_inj (BS a) (BS b) h)
def xw{acc:List (Λ×Int)}:∀p∈acc.map λp=>(cf (eO p.1),U3 .i64 1),∃s,p.1=x4.string s:=λp ac=>by
 obtain⟨q,_,rfl⟩:=j5.1 ac;exact⟨_,rfl⟩
def Dg{m:Nat}{acc:List (Λ×Int)}{t:Λ}(h:my w m acc)(e:∀p∈acc,∀x∈p.1,0<=x)(f:∀x∈t,0<=x):
  ab v8 (Instr.lookup io (.map (σ m)) (cf (eO t)) v6) w K=K (Δ (if t∈acc.map (·.1)then 1 else 0)):=by
 have hk:=Keys.str db.u;by_cases he:t∈acc.map (·.1)
 .rw[ms he];obtain⟨p,ac,rfl⟩:=j5.1 he;obtain⟨j,r⟩:=X8.1 ac;rw[rK io.u hk h xw ⟨_,rfl⟩ (by rw[u4,r];rfl)];simp
 .rw[rc he];rw[uf io.u hk ⟨_,_,ai.i⟩ h xw ⟨_,rfl⟩ (λp ac s=>?_)]
  .simp
  .obtain⟨q,a,rfl⟩:=j5.1 ac;have:=Df (e q a) f s;exact he (j5.2 ⟨q,a,this⟩)
def ND{m:Nat}{acc:List (Λ×Int)}{t:Λ}{K:Unit->x6->Prop}(h:my w m acc)(z:∀p∈acc,∀x∈p.1,0<=x)(A:∀x∈t,0<=x)(B:t∉acc.map (·.1))(C:∀I,af (λr=>r=m) w I->my I m (acc++[(t,c)])->K () I):aG v8 (Instr.mapUpdate io (.map (σ m)) (cf (eO t)) (Δ 1)) w K:=by
 refine rL io.u (Keys.str db.u) h xw ⟨_,rfl⟩ (λj v0 I e f s=>?_) (λI _ f s=>C I s ?_)
 .rw[u4]at e;obtain⟨q,y,a⟩:=Y9.1 e;have a:=congrArg Prod.fst a;have:=Df (z q (x7 y)) A a;exact ro (j5.2 ⟨q,x7 y,this⟩) B
 .unfold my;rw[Z4];exact f
def NE{m:Nat}{acc:List (Λ×Int)}{t:Λ}{ok:Prop}{K:Unit->x6->Prop}(e:lP w m)(z:ok->my w m acc/\(∀p∈acc,∀x∈p.1,0<=x)/\(∀x∈t,0<=x)/\t∉acc.map (·.1))(f:∀I,af (λr=>r=m) w I->lP I m->(ok->my I m (acc++[(t,c)]))->K () I):
  ab v8 (Instr.lookup io (.map (σ m)) (cf (eO t)) v6) w λA=>
  ab v8 (aP .add ai v6 v2 A (Δ 1)) w λB=>
  aG v8 (Instr.mapUpdate io (.map (σ m)) (cf (eO t)) B) w K:=by
 by_cases j:ok
 .obtain⟨h1,q,s,y⟩:=z j;rw[Dg h1 q s,rc y,aO,m1 Ω Ω];exact ND h1 q s y λI a J=>f I a J.any λ_=>J
 .refine NB e λfp=>?_;rw[aO];exact NC e λI a J=>f I a J λh=>ro h j
def fD{α:Type}(f:List α->aK->Option (α×aK))(n:Nat)(acc:List α)(o:Option aK):Option (List α×aK):=o.bind (cX f n acc)
def lP.aa{m:Nat}(h:lP w m)(a:af S w I)(e:¬S m):lP I m:=by
 obtain⟨d,h1,f⟩:=h;exact⟨d,h1.aa a e,f⟩
def dw.words{g:Nat}{A:ah}{B:ah}{a:Bool}{s:aK}(h:dw w g gs A B a (σ s)):s.hp.length<=100000:=by
 have h:=h;exact h.2.1.words.1
def Dh{acc:List (Λ×Int)}{st:aK}{t:Λ}(j:∀q,gu co [] (σ st)=σ q->t=q.1)(a:∀q,bf 0 ay ((gu co [] (σ st)).map (·.2))=σ q->c=q.1):
  (bf 0 ay ((gu co [] (σ st)).map (·.2))=ν->eN co acc st=ν)/\∀q,bf 0 ay ((gu co [] (σ st)).map (·.2))=σ q->eN co acc st=if t∈acc.map (·.1)then ν else σ ((t,c),q.2):=by
 have e:gu co [] (σ st)=kx co [] st:=rfl;rw[e]at j a ⊢;unfold eN;cases h1:kx co [] st with
 |none=>exact⟨λ_=>rfl,λq f=>(by cases f)⟩
 |some q=>
  obtain⟨bt,s1⟩:=q;rw[h1]at j a;have:=j _ rfl;subst this;have p:bf 0 ay ((σ (t,s1)).map (·.2))=bm 0 ay s1:=rfl;rw[p]at a ⊢;simp only;cases r:bm 0 ay s1 with
  |none=>exact⟨λ_=>rfl,λq f=>(by cases f)⟩
  |some q=>
   obtain⟨s,w⟩:=q;rw[r]at a;have:=a _ rfl;subst this;exact⟨λh=>(by cases h),λq f=>(by cases f;rfl)⟩
def NF{g:Nat}{A B:ah}{s:Option aK}{Y:Bool}{Q:x4->x6->Prop}(h:dw w g gs A B Y s)(bY:aM .i64 w sv co)(aS:∀r,lw sv r->¬bM g gs A r/\r<w.heap.size)(b0:∀z∈co,1<=z/\z<=ay)(b1:co.length<=100001)(b2:fs w)(h1:cV g gs A B 1)(b3:(N:Int)<=ay)(bq:∀v I l,gq w g gs A B Y ((fD (eN co) N [] s).map (·.2)) I->bs (eV w.heap.size) bQ I [v] (show List (Λ×Int)from l)->(∀q,fD (eN co) N [] s=σ q->l=q.1)->Q v I):
  aG v8 (Instr.makeMap io ν) w λaX y=>
 b7 (.slice ν 0 0) (Δ 0) y λout i H k=>
  cB (α:=x4->x6->Prop) (λ(b4:x4)(S:x6)=>
   Split b4 (aG v8 (Q8 ey v2 (.tuple #[])) S λx j=>
  ab v8 (V1 #[aw] ai #[sv]) j λb5=>
  b7 (.string ⟨#[]⟩) (Δ 0) j λkey aZ U b6=>
   ab v8 (aP .lss ai v6 v6 aZ b5) U λb9=>
   Split b9 (ab v8 (b8 aw sv aZ) U λca=>
   ab v8 (u6 av ca) U λcb=>
   ab v8 (aP .sub av v6 v2 cb (Δ 1)) U λcc=>
   ak v8 oN [Γ g,(Δ 0),cc] U λbr Z=>
   ab v8 (Y8 br 0) Z λbt=>
   ab v8 (Y8 br 1) Z λdv=>
   ab v8 (u7 ey x 0) Z λcd=>
   ab v8 (u6 aw cd) Z λce=>
   aG v8 (X2 aw 1 #[(0,bt)]) Z λcf J=>
   aG v8 (Z9 #[aw,aw] aw #[ce,cf]) J λcg bw=>
   ab v8 (u7 ey x 0) bw λch=>
   aG v8 (j0 aw ch cg) bw λ(_:Unit)ci=>
   ak v8 wz [bt] ci λcj aD=>
   ab v8 (aP .add db v6 v2 cj (.string ⟨#[32]⟩)) aD λck=>
   ab v8 (aP .add db v6 v6 key ck) aD λcl=>
   ab v8 (aP .add ai v6 v2 aZ (Δ 1)) aD λcm=>
   b6 cl cm aD)
    (ak v8 oN [Γ g,(Δ 0),(Δ 4611686018427387904)] U λbx aE=>
  ab v8 (Y8 bx 0) aE λcn=>
  ab v8 (Y8 bx 1) aE λcp=>
  ab v8 (u7 ey x 1) aE λcq=>
  aG v8 (j0 av cq cn) aE λ(_:Unit)cr=>
  cB (α:=x6->Prop) (λ(V:x6)=>
   ab v8 (Instr.lookup io aX key v6) V λct=>
   ab v8 (aP .add ai v6 v2 ct (Δ 1)) V λcu=>
   aG v8 (Instr.mapUpdate io aX key cu) V λ(_:Unit)ad=>
   ab v8 (u6 ey x) ad λcw=>
   aG v8 (X2 jV 1 #[(0,cw)]) ad λcz au=>
   aG v8 (Z9 #[jV,jV] jV #[out,cz]) au λcA aF=>
   ab v8 (aP .add av v6 v2 i (Δ 1)) aF λcC=>
  k cA cC aF) λbC=>
  cB (α:=x4->x6->Prop) (λ(cD:x4)(M:x6)=>
   Split cD (ak v8 oO [Γ g,(Δ 4),cp] M λdx bD=>
    bC bD)
    (bC M)) λbF=>
  ak v8 mc [Γ g] cr λcE aj=>
  Split cE (ab v8 (Instr.lookup io aX key v6) aj λcF=>
  ab v8 (aP .gtr ai v6 v2 cF (Δ 0)) aj λcG=>
  bF cG aj)
   (bF (.bool v6) aj)))
    (Q out S)) λbG=>
  ab v8 (aP .lss av v6 v6 i (Δ (N:Int))) H λcH=>
  Split cH (ak v8 mc [Γ g] H λcI cJ=>
  bG cI cJ)
   (bG (.bool v6) H):=by
 obtain⟨dy,dz,dA,cK,aH⟩:=h.side;have ae:∀r,bM g gs A r->r<w.heap.size:=cK;unfold ay at b3;refine ue λC y dC a2 a6=>?_;have dD:=a2.size;have dE:=a6.lt;generalize E:fD (eN co) N [] s=bH at bq;refine⟨λout a8 H=>∃(i:Nat)(acc:List (Λ×Int))(so:Option aK),a8=Δ (i:Int)/\i<=N/\af (bM g gs A) w H/\y.heap.size<=H.heap.size/\bs (eV y.heap.size) bQ H [out] acc/\dw H g gs A B Y so/\
   bH=fD (eN co) (N-i) acc so/\lP H C/\acc.length<=100001/\∀st,so=σ st->my H C acc/\(∀p∈acc,∀x∈p.1,0<=x)/\acc.length+st.hp.length<=100000,
  λ_ a8 _=>N-(bZ a8).toNat,⟨0,[],s,rfl,W0 _,a2.aa _,o4 _,gm,h.W a2,E.symm,⟨[],a6,λp ac=>(by cases ac)⟩,Ξ,λst cL=>⟨a6,λp ac=>(by cases ac),?_⟩⟩,?_⟩
 .subst cL;have:=h.words;simpa using this
 rintro out _ H ⟨i,acc,so,rfl,dF,bI,z9,bJ,ba,aI,cM,dG,bb⟩;refine aY (λv S=>Ext H S/\((v= .bool v2/\i<N/\∃st,so=σ st)\/(v= .bool v6/\(so=ν\/i=N)))) ?_ ?_
 rotate_left
 .intro ax bc;rw[aT,al];refine⟨λcN=>?_,λdH=>bc _ _ ⟨Ext.refl _,.inr ⟨rfl,.inr Ω⟩⟩⟩;refine(qx ba).Y ?_;rintro _ S _ ⟨rfl,O⟩;cases so with
  |none=>exact bc _ _ ⟨O,.inr ⟨rfl,.inl rfl⟩⟩
  |some st=>exact bc _ _ ⟨O,.inl ⟨rfl,Ω,st,rfl⟩⟩
 rintro _ S ⟨O,cO⟩;rcases cO with⟨rfl,cN,st,rfl⟩|⟨rfl,cP⟩
 rotate_left
 .rw[a7];have bK:bH=so.map λst=>(acc,st):=by
   rcases cP with rfl|rfl
   .exact aI
   .rw[V0]at aI;rw[aI];cases so<;>rfl
  refine bq out S acc (gq.mk (bI.F (O.aa _)) ?_) (bp (ao.Y bJ (λr _ h=>by have h:y.heap.size<=r:=h;show w.heap.size<=r;omega) λ_ _ h=>h) O) (λq K=>?_)
  .rw[bK,Option.map_map];have e:U8 ((λx=>x.2)∘λst=>(acc,st)) so=so:=by cases so<;>rfl
   rw[e];exact ba.W O
  .rw[bK]at K;cases so with
   |none=>cases K
   |some st=>cases K;rfl
 rw[bO];obtain⟨bb,bd,dI⟩:=bb st rfl;have dJ:=O.size;refine bE ey.i λaq j dK bL bN=>?_;have az:=O.F bL;have be:af (bM g gs A) w j:=bI.F (az.aa _);have bR:aM .i64 j sv co:=jh bY be λr f a n c cQ cR=>(aS r ⟨a,n,c,cQ,cR⟩).1 f;rw[a1 aw.u bR];have aJ:¬bM g gs A aq:=λE=>by have:=ae _ E;omega
 refine Ny (s:=σ st) (ba.W az) bR (λr f=>⟨(aS r f).1,by have:=(aS r f).2;omega⟩) b0 b1 (b2.aa be h1.1) h1 bN aJ (λcS=>by have:=aH _ cS;omega) λt U aV gt dL cT bS cU cW cX cY cZ=>?_;have dM:=bL.size;have z12:=bS.size;have dN:=bN.lt;have bg:∀x∈t,0<=x:=λx c0=>(cT x c0).1;refine(nv cY).Y ?_;rintro _ Z _ ⟨bh,c,dO,rfl,c1,dP⟩;obtain⟨aL,c2⟩:=bh.of;have dQ:=aL.size;rw[bA,bB,aU ey.p rfl];refine bu (g:=aq) (o:=1) av.i rfl rfl (cU.aa aL aJ) Ξ λJ aN dR bi=>?_;have bi:ag J aq ey [aV,Δ c]:=bi;have c3:aB .i64 av J gt aV t:=(cW.aa aL (λ_ E=>by have:=ae _ E;omega)).aa aN (λ_ he=>by have he:gt=aq:=he;omega);have bj:af (λr=>bM g gs A r\/r=aq) j J:=(bS.F (aL.Y λr _ h=>.inl h)).F (aN.Y λr _ h=>.inr h);have W:dw J g gs A B Y ((bf 0 ay ((gu co [] (σ st)).map (·.2))).map (·.2)):=c2.aa aN (λr f he=>by have he:r=aq:=he;exact aJ (he▸f)) (λr f he=>by have:=aH r f.2;have he:r=aq:=he;omega);have bT:¬(λr=>bM g gs A r\/r=aq) C:=λh=>h.elim (λh=>by have:=ae _ h;omega) (λh=>Ω);have c4:lP J C:=(cM.aa (az.aa (λ_=>False)) (λh=>h)).aa bj bT;have bU:my J C acc:=(de.W bb az).aa bj bT;obtain⟨bk,bl⟩:=Dh (acc:=acc) cZ c1;refine c8 (λV=>af (bM g gs A) J V/\dw V g gs A B Y ((eN co acc st).map (·.2))) ?_ ?_
 .rintro V ⟨am,c5⟩;have bm:¬bM g gs A C:=λh=>by have:=ae _ h;omega
  have dS:=aN.size;have dT:=am.size;refine NE (acc:=acc) (t:=t) (c:=c) (ok:=∃q,eN co acc st=σ q) (c4.aa am bm) (λ⟨q,K⟩=>⟨de.aa bU am bm,bd,bg,λP=>?_⟩) λad aA c6 c7=>?_
  .cases L:bf 0 ay ((gu co [] (σ st)).map (·.2))with
   |none=>rw[bk L]at K;cases K
   |some an=>rw[bl an L,ms P]at K;cases K
  have dU:=aA.size;have da:ag ad aq ey [aV,Δ c]:=(bi.aa am aJ).aa aA (λhe=>by have he:aq=C:=he;omega);have dc:aB .i64 av ad gt aV t:=(c3.aa am (λ_ E=>by have:=ae _ E;omega)).aa aA (λ_ he=>by have he:gt=C:=he;omega);rw[bz ey.p ey.i rfl da.range];have bV:bs (eV j.heap.size) bQ ad [aV,Δ c] (t,c):=⟨[aV],[Δ c],eV j.heap.size,bQ,rfl,λ_ h=>h,λ_ h=>h.elim,λ_ _ _ h=>h,ao.Y (mj dc) (λr _ h=>by subst h;exact cX) (λ_ _ h=>h),rfl⟩;refine jB (α:=Λ×Int) (a:=(t,c)) (cs:=[aV,Δ c]) (A:=eV j.heap.size) (R:=bQ) jV.u ey.i Φ rfl bV λu au ap _ dd=>?_;have z22:=ap.size;have df:bs (λr=>eV y.heap.size r/\r<j.heap.size/\r≠aq) bQ j [out] acc:=bp (ao.Y (nn bJ) (λr _ h=>⟨h.1,by have:=h.2;omega,by have:=h.2;omega⟩) λ_ _ h=>h) az;have bW:af (λr=>bM g gs A r\/r=aq\/r=C) j au:=(((bj.Y λr _ h=>h.elim .inl λh=>.inr (.inl h)).F (am.Y λr _ h=>.inl h)).F (aA.Y λr _ h=>.inr (.inr h))).F (ap.aa _);have dg:=ao.aa df bW λr f h E=>by
   rcases h with h|h
   .have aQ:y.heap.size<=r:=h.1;rcases E with E|E|E
    .have:=ae _ E;omega
    .exact h.2.2 E
    .omega
   .exact h
  refine nY (α:=Λ×Int) (a:=(t,c)) (A:=eV j.heap.size) jV.u ey.i rfl dg dd (bp bV ap) (λr _ h aW=>?_) Ω Ω λdV aF dh aC=>?_
  .rcases aW with aW|aW
   .have:=h.2;have:j.heap.size<=r:=aW;omega
   .exact aW
  have dW:=aC.size;rw[aO,m1 Ω Ω];have di:af (bM g gs A) w au:=iJ be bW λr f h=>by
   rcases h with h|h|h
   .exact h
   .omega
   .omega
  have dj:af (bM g gs A) w aF:=iJ di aC λr f h=>by have aQ:y.heap.size<=r:=h.1;omega
  have dk:dw au g gs A B Y ((eN co acc st).map (·.2)):=(c5.aa aA (λr f he=>by have he:r=C:=he;exact bm (he▸f)) (λr f he=>by have:=aH r f.2;have he:r=C:=he;omega)).W ap;have dl:∀r,bM g gs A r->¬(eV y.heap.size r/\r<j.heap.size/\r≠aq):=λr f he=>by have:=ae _ f;have aQ:y.heap.size<=r:=he.1;omega
  have dm:∀r,cV g gs A B r->¬(eV y.heap.size r/\r<j.heap.size/\r≠aq):=λr f he=>by have:=aH r f.2;have aQ:y.heap.size<=r:=he.1;omega
  have bX:¬(eV y.heap.size C/\C<j.heap.size/\C≠aq):=λhe=>by have aQ:y.heap.size<=C:=he.1;omega
  refine⟨⟨i+1,acc++[(t,c)],(eN co acc st).map (·.2),rfl,Ω,dj,Ω,?_,dk.aa aC dl dm,?_,(c6.aa (ap.aa (λ_=>False)) (λh=>h)).aa aC bX,Θ,λdn dp=>?_⟩,by simp only[bZ];omega⟩
  .refine ao.Y dh (λr _ h=>?_) λ_ _ h=>h;show y.heap.size<=r;rcases h with h|h|h
   .exact h.1
   .have h:j.heap.size<=r:=h;omega
   .omega
  .rw[aI,show N-i=(N-(i+1))+1 by omega];cases G:eN co acc st with
   |none=>exact qq G
   |some q=>
    obtain⟨a,dn⟩:=q;have dq:a=(t,c):=by
     cases L:bf 0 ay ((gu co [] (σ st)).map (·.2))with
     |none=>rw[bk L]at G;cases G
     |some an=>
      rw[bl an L]at G;split at G
      .cases G
      .cases G;rfl
    subst dq;exact uc G
  .obtain⟨q,K,rfl⟩:=Y9.1 dp;have dX:=(qn K).2.2.2.1;refine⟨de.aa ((de.W (c7 ⟨q,K⟩) ap)) aC bX,λp ac=>?_,by simp only[n9,T5];omega⟩;rcases j9.1 ac with ac|ac
   .exact bd p ac
   .rw[c9.1 ac];exact bg
 .intro dY bn;cases L:bf 0 ay ((gu co [] (σ st)).map (·.2))with
  |none=>
   rw[L]at W;have G:=bk L;refine aY (λv M=>Ext J M/\v= .bool v6) ?_ ?_
   .rintro _ M ⟨X,rfl⟩;rw[a7];exact bn _ ⟨X.aa _,by rw[G];exact W.W X⟩
   .intro dr bo;refine(qx W).Y ?_;rintro _ aj _ ⟨rfl,aR⟩;rw[show((ν:Option (Int×aK)).map (·.2)).isSome=v6 from rfl,a7];exact bo _ _ ⟨aR,rfl⟩
  |some an=>
   rw[L]at W;have G:=bl an L;refine aY (λv M=>Ext J M/\v= .bool (decide (t∈acc.map (·.1)))) ?_ ?_
   .rintro _ M ⟨X,rfl⟩;rw[al];refine⟨λP=>?_,λds=>?_⟩
    .refine (Nx (W.W X) Ω).Y ?_;rintro _ bD _ bh;obtain⟨dt,du⟩:=bh.of;exact bn _ ⟨(X.aa _).F dt,by rw[G,ms P];exact du⟩
    .exact bn _ ⟨X.aa _,by rw[G,rc ds];exact W.W X⟩
   .intro dr bo;refine(qx W).Y ?_;rintro _ aj _ ⟨rfl,aR⟩;rw[show((σ an:Option (Int×aK)).map (·.2)).isSome=v2 from rfl,bO,Dg (de.W bU aR) bd bg,bP];refine bo _ _ ⟨aR,?_⟩;congr 1;by_cases P:t∈acc.map (·.1)
    .rw[ms P,rs P];rfl
    .rw[rc P,s2 P];rfl
def Di(co:Λ)(s:Option aK):j8 co s=match bf (-ay) ay s with
 |none=>ν
 |some (n,s)=>
  if n<0 then match s.m6[(-n-1).toNat]? with
   |none=>ν
   |some (z,l)=>if z=co then σ (l,s)else ν
  else cX (eN co) n.toNat [] (k9 n s):=by
 cases s with
 |none=>rfl
 |some s=>
  show eb co s=_;unfold eb;show _=match bm (-ay) ay s with
   |none=>ν
   |some (n,s)=>
    if n<0 then match s.m6[(-n-1).toNat]? with
     |none=>ν
     |some (z,l)=>if z=co then σ (l,s)else ν
    else cX (eN co) n.toNat [] (k9 n s)
  cases bm (-ay) ay s<;>rfl
def Dj{m:Bool}{S R:ah}{a:lM}(h:ao.rep (α:=lM) m S R w cs a):∃u v,cs=[u,v]/\ao.rep (α:=Λ) v6 bQ R w [u] a.1/\ao.rep (α:=List (Λ×Int)) v6 bQ R w [v] a.2:=by
 obtain⟨c,d,f,j,rfl,_,_,_,h1,e⟩:=h;have h1:=h1;have e:=e;obtain⟨u,rfl⟩:=V6.1 (show c.length=1 from ao.len h1);obtain⟨v,rfl⟩:=V6.1 (show d.length=1 from ao.len e);exact⟨u,v,rfl,h1,e⟩
def NG{g:Nat}{A B:ah}{s:Option aK}{Q:Bool}(h:dw w g gs A B Q s)(hi:∀t,s=σ t->ec t)(av:aM .i64 w sv co)(K:∀r,lw sv r->¬bM g gs A r/\r<w.heap.size)(aw:∀z∈co,1<=z/\z<=ay)(aA:co.length<=100001)(aB:fs w)(h1:cV g gs A B 1):
  ak v8 JC [Γ g,sv] w λv I=>gq w g gs A B Q ((j8 co s).map (·.2)) I/\∃l,Seen (λr=>cV g gs A B r\/w.heap.size<=r) I [v] (show List (Λ×Int)from l)/\∀q,j8 co s=σ q->l=q.1:=by
 have aC:=h.side;obtain⟨bc,bd,be,aD,bg⟩:=id aC;have ae:∀r,bM g gs A r->r<w.heap.size:=aD;refine az func174 ?_;refine(nv (lo:=-ay) (hi:=ay) h).Y ?_;rintro _ U _ ⟨aE,n,at_,rfl,S,aG⟩;obtain⟨L,ai⟩:=aE.of;have bh:=L.size;have j:=Di co s;rw[bA,bB];have aj:=jh av L λr C a n c M W=>(K r ⟨a,n,c,M,W⟩).1 C;have bi:∀r,lw sv r->¬bM g gs A r/\r<U.heap.size:=λr C=>⟨(K r C).1,by have:=(K r C).2;omega⟩;have rest:∀V,Ext U V->(∀q,bf (-ay) ay s=σ q->¬n<0)->∀N:Nat,n=(N:Int)->(N:Int)<=ay->∀y,af (bM g gs A) V y->dw y g gs A B Q (((bf (-ay) ay s).map (·.2)).map (k9 n))->
   ∀v I l,gq y g gs A B Q ((fD (eN co) N [] (((bf (-ay) ay s).map (·.2)).map (k9 n))).map (·.2)) I->bs (eV y.heap.size) bQ I [v] (show List (Λ×Int)from l)->(∀q,fD (eN co) N [] (((bf (-ay) ay s).map (·.2)).map (k9 n))=σ q->l=q.1)->
   gq w g gs A B Q ((j8 co s).map (·.2)) I/\∃l,Seen (λr=>cV g gs A B r\/w.heap.size<=r) I [v] (show List (Λ×Int)from l)/\∀q,j8 co s=σ q->l=q.1:=by
  intro V x O N X Y y G Z v I l aH aI aJ;obtain⟨aN,aO⟩:=aH.of;have aP:=x.size;have z3:=G.size;have e:j8 co s=fD (eN co) N [] (((bf (-ay) ay s).map (·.2)).map (k9 n)):=by
   rw[j];cases f:bf (-ay) ay s with
   |none=>rfl
   |some q=>
    obtain⟨aQ,s1⟩:=q;have:=S _ f;subst this;simp only;rw[rc (O _ f),X,u9];rfl
  rw[e];refine⟨gq.mk (((L.F (x.aa _)).F G).F aN) aO,l,pa aI λr _ h=>?_,aJ⟩;rcases h with h|h
  .have h:=h;exact .inr Ω
  .exact h.elim
 refine aY (λv V=>Ext U V/\v= .bool (decide (n<0/\(bf (-ay) ay s).isSome=v2))) ?_ ?_
 rotate_left
 .intro ax R;refine(qx ai).Y ?_;rintro _ V _ ⟨rfl,x⟩;cases f:bf (-ay) ay s with
  |none=>
   rw[show((ν:Option (Int×aK)).map (·.2)).isSome=v6 from rfl,a7];exact R _ _ ⟨x,by rw[s2];rintro⟨_,h⟩;rw[f]at h;cases h⟩
  |some q=>
   rw[show((σ q:Option (Int×aK)).map (·.2)).isSome=v2 from rfl,bO,aT];exact R _ _ ⟨x,by congr 1;rw[U6,sp,sp,f];exact⟨λh=>⟨h,rfl⟩,λh=>h.1⟩⟩
 rintro _ V ⟨x,rfl⟩;have H:=ai.W x;have aP:=x.size;rw[al];refine⟨λO=>?_,λaR=>?_⟩
 rotate_left
 .have O:∀q,bf (-ay) ay s=σ q->¬n<0:=λq f h=>aR ⟨h,by rw[f];rfl⟩;obtain⟨N,X,Y⟩:∃N:Nat,n=(N:Int)/\(N:Int)<=ay:=by
   cases f:bf (-ay) ay s with
   |none=>rw[aG f];exact⟨0,rfl,by unfold ay;omega⟩
   |some q=>
    have h1:=O q f;have aS:=ob f;have aV:=S q f;exact⟨n.toNat,Ω,Ω⟩
  refine NA H (λt aW=>?_) λy G Z=>?_
  .obtain⟨q,f,rfl⟩:=Y9.1 aW;have aS:=ob f;have aV:=S q f;refine⟨Ω,Ω,?_⟩;cases s with
   |none=>cases f
   |some s0=>
    have am:=(dL f).eqs;have an:=hi s0 rfl;intro ao;rw[am.1];rw[am.2.1]at ao;exact an ao
  .have z3:=G.size;have aX:af (bM g gs A) w y:=(L.F (x.aa _)).F G;subst X;refine NF Z ((jh (aj.W x) G λr C a n c M W=>(K r ⟨a,n,c,M,W⟩).1 C)) (λr C=>⟨(K r C).1,by have:=(K r C).2;omega⟩) aw aA (aB.aa aX h1.1) h1 Y λv I l a b c=>?_;exact rest V x O N rfl Y y G Z v I l a b c
 .obtain⟨aZ,a1⟩:=O;obtain⟨⟨aQ,s1⟩,f⟩:=Option.isSome_iff_exists.1 a1;have:=S _ f;subst this;have bj:=ob f;rw[f]at j H;simp only at j;rw[ms aZ]at j;have H:=H;obtain⟨_,an,bk,big,bl,bm,m5,bn,ab,bo,ac⟩:=id H;have bq:ay=4611686018427387904:=rfl;refine aY (λv y=>Ext V y/\v= .bool (decide (j8 co s=ν))) ?_ ?_
  .rintro _ y ⟨E,rfl⟩;rw[al];refine⟨λa2=>?_,λap=>?_⟩
   .refine (tZ (H.W E) Ω).Y ?_;rintro _ br _ ⟨a6,a8⟩;rw[a2];refine⟨gq.mk (((L.F (x.aa _)).F (E.aa _)).F (a6.Y λr _ h=>.inl h)) a8,[],gm,λq f=>by cases f⟩
   .cases P:s1.m6[(-n-1).toNat]? with
    |none=>rw[P]at j;exact ro j ap
    |some q=>
     obtain⟨z,l⟩:=q;rw[P]at j;simp only at j;have ba:z=co:=by
      by_cases J:z=co
      .exact J
      .rw[rc J]at j;exact ro j ap
     rw[ms ba]at j;rw[aL cF.p 3 (ab.W E) rfl,nh,m1 Ω Ω,dA,m1 Ω Ω];refine kv (i:=(-n-1).toNat) Ω iF.u kV.i (bp ac E) P λb o cs ad ag=>?_;obtain⟨u,v,rfl,hu,M⟩:=Dj ag;rw[aU kV.p rfl,aF Ψ (ad 1 v rfl)];rw[j];refine⟨gq.mk ((L.F (x.aa _)).F (E.aa _)) (H.W E),l,pa M λr _ h=>?_,λq f=>by cases f;rfl⟩;rcases h with h|h
     .exact h.elim
     .exact .inl h
  .intro ax R;rw[nh,m1 Ω Ω,aL cF.p 3 ab rfl,fU iF.u ac,bP,al];refine⟨λaq=>R _ _ ⟨Ext.refl _,?_⟩,λau=>?_⟩
   .have aq:(s1.m6.length:Int)<0-n:=aq;rw[Y5 Ω]at j;rw[rs j]
   .have au:¬(s1.m6.length:Int)<0-n:=au;have bb:(-n-1).toNat<s1.m6.length:=Ω
    obtain⟨⟨z,l⟩,P⟩:∃q,s1.m6[(-n-1).toNat]?=σ q:=⟨_,x8 bb⟩;rw[aL cF.p 3 ab rfl,nh,m1 Ω Ω,dA,m1 Ω Ω];refine kv (i:=(-n-1).toNat) Ω iF.u kV.i ac P λb o cs ad ag=>?_;obtain⟨u,v,rfl,hu,M⟩:=Dj ag;rw[aU kV.p rfl,aF Ψ (ad 0 u rfl)];refine(Lc (dl hu) (aj.W x)).Y ?_;rintro _ y _ ⟨rfl,E⟩;rw[bL];refine R _ _ ⟨E,?_⟩;rw[P]at j;simp only at j;by_cases J:z=co
    .rw[ms J]at j;rw[rs J,s2 (by rw[j];simp)];rfl
    .rw[rc J]at j;rw[s2 J,rs j];rfl
abbrev qy(n:Nat):ah:=λr=>r<n
def rV(n:Int)(k:Nat)(s:Option aK):Option (Λ×aK):=s.bind (fg n k)
def NH{g k:Nat}{A B:ah}{s:Option aK}{m:Int}(h:dw w g gs A B f s)(hk:k<=4611686018427387904)(hm:0<=m/\m<=1000000):
  ak v8 AL [Γ g,Δ (k:Int),Δ m] w λv I=>gq w g gs A B f ((rV m k s).map (·.2)) I/\
   ∃gr l,aB .i64 av I gr v l/\(∀r,lw v r->w.heap.size<=r)/\l.length<=100001/\∀q,rV m k s=σ q->l=q.1:=by
 cases s with
 |some s=>exact Mw h hk hm
 |none=>
  have h:=h;refine az func172 ?_;refine⟨λout p U=>w=U/\out= .slice ν 0 0/\p=Δ 0,λ_ _ _=>0,⟨rfl,rfl,rfl⟩,?_⟩;rintro _ _ _ ⟨rfl,rfl,rfl⟩;refine aY (λv V=>Ext w V/\v= .bool v6) ?_ ?_
  .rintro _ V ⟨e,rfl⟩;rw[a7];exact⟨gq.mk (e.aa _) (h.W e),0,[],aB.nil _ _ _ _,λr x=>ro x (λh=>by obtain⟨a,n,c,h,_⟩:=h;cases h),Ξ,λq y=>by cases y⟩
  .intro ax j;rw[aT,al];refine⟨λ_=>?_,λ_=>j _ _ ⟨Ext.refl _,rfl⟩⟩;refine(pm h).Y ?_;rintro _ V _ ⟨rfl,e⟩;exact j _ _ ⟨e,rfl⟩
def uo(z:Λ)(l:List (Λ×Int))(s:aK):aK:={s with m6:=s.m6++[(z,l)]}
def Dk(w:x6)(g gs:Nat):Prop:=∃(e big a f m5:Int)(sv:x4),ag w g cF (jj gs e big a f m5 sv)/\e≠0
def iP(w:x6)(g gs:Nat)(A:ah)(B:ah)(a:Bool)(s:Option aK):Prop:=match s with
 |some s=>er w g gs A B s a
 |none=>Dk w g gs
def dw.q{g:Nat}{A:ah}{B:ah}{a:Bool}{s:Option aK}(h:dw w g gs A B a s):iP w g gs A B a s:=by
 cases s with
 |some s=>exact h
 |none=>
  obtain⟨_,e,big,f,j,m5,sv,l,p,r,_⟩:=h;exact⟨e,big,f,j,m5,sv,p,r.1⟩
def iP.aa{g:Nat}{A:ah}{B:ah}{a:Bool}{s:Option aK}(h:iP w g gs A B a s)(f:af S w I)(p:¬S g)(q:∀r,bM g gs A r->r<w.heap.size->¬S r)(x:∀r,cV g gs A B r->¬S r):iP I g gs A B a s:=by
 cases s with
 |some s=>
  have h:=h;exact er.aa h f (λr j=>q r j (h.1.2.2.2.1 r j)) x
 |none=>
  obtain⟨e,big,y,z,m5,sv,C,E⟩:=h;exact⟨e,big,y,z,m5,sv,C.aa f p,E⟩
def iP.W{g:Nat}{A:ah}{B:ah}{a:Bool}{s:Option aK}(h:iP w g gs A B a s)(e:Ext w I):iP I g gs A B a s:=h.aa (e.aa λ_=>False) (λh=>h) (λ_ _ _ h=>h) (λ_ _ h=>h)
def Dl{g:Nat}{A:ah}{B:ah}{s:Option aK}{a:Bool}(h:iP w g gs A B a s):ak v8 mc [Γ g] w λv I=>v= .bool s.isSome/\Ext w I:=by
 cases s with
 |none=>
  obtain⟨e,big,q,r,m5,sv,f,j⟩:=h;refine(xe f).Y ?_;rintro _ U _ ⟨rfl,p⟩;exact⟨by rw[s2 j];rfl,p⟩
 |some s=>exact qp h
def iK.aX{g:Nat}{R':Nat->Prop}(h:iK w g R hp f)(j:af S w I)(s:¬S g)(x:∀r,R r->¬S r)(y:∀r,R r->R' r):iK I g R' hp f:=by
 obtain⟨z,p,a,⟨h1,A,B,C,bb,E⟩,q,F⟩:=h;exact⟨z,p,a,⟨h1,A,B,C.aa j s,bb,bw E j λr e=>x r (q r e)⟩,λr e=>y r (q r e),F⟩
def nw{α:Type}[ao α]{m:Bool}{S R:ah}{l:List α}(h:ao.rep m S R w [v] l):∃a n c,v= .slice a n c:=by
 obtain⟨vs,e,F,ac,he,J,hm⟩:=jA h;obtain⟨f,b,o,base,cap,rfl,_⟩:=J;exact⟨_,_,_,rfl⟩
def nx(w:x6)(g gs:Nat)(A:ah)(B:ah)(R:ah)(a:Bool)(s:Option aK):Prop:=match s with
 |some s=>mu w g gs A B/\iK w gs R s.hp a/\(0<=s.m5/\s.m5<=ay/\s.m6.length+s.hp.length<=100000)/\
  ∃big e f m5 sv,ag w g cF (jj gs 0 big e f m5 sv)/\((s.big=v2↔big≠0)/\(s.big=v6->m5=s.m5))/\bs A R w [sv] (show List lM from s.m6)
 |none=>Dk w g gs
def nx.aa{g:Nat}{A R:ah}{B:ah}{x:Bool}{s:Option aK}(h:nx w g gs A B R x s)(a:af S w I)(y:¬S g)(z:∀r,bM g gs A r->r<w.heap.size->¬S r)(C:∀r,R r->¬S r):nx I g gs A B R x s:=by
 cases s with
 |some s=>
  obtain⟨h1,E,F,big,f,j,m5,sv,p,q,G⟩:=h;have H:=h1.2.2.2.1;exact⟨h1.aa a,E.aa a (z gs (.inr (.inl rfl)) (H _ (.inr (.inl rfl)))) C,F,big,f,j,m5,sv,p.aa a y,q,ao.aa G a λr J h=>h.elim (λh=>z r (.inr (.inr h)) J) (C r)⟩
 |none=>
  obtain⟨e,big,f,j,m5,sv,p,q⟩:=h;exact⟨e,big,f,j,m5,sv,p.aa a y,q⟩
def nx.out{g:Nat}{A R B e:ah}{s:Option aK}(h:nx w g gs A B R f s)(j:∀r,R r->cV g gs A e r)(q:∀r,e r->r<w.heap.size):iP w g gs A e f s:=by
 cases s with
 |some s=>
  obtain⟨⟨x,y,z,C,P⟩,⟨E,p,a,F,G,H⟩,I,big,J,K,m5,sv,L,M,N⟩:=h;exact⟨⟨x,y,z,C,q⟩,⟨E,p,a,F,λr O=>j r (G r O),H⟩,I,big,J,K,m5,sv,L,M,ao.Y N (λ_ _ h=>h) λr _ h=>j r h⟩
 |none=>exact h
def dw.qr{g:Nat}{A R:ah}{B:ah}{y:Bool}{s:Option aK}(h:dw w g gs A B y s)(z:∀r,cV g gs A B r->R r):nx w g gs A B R y s:=by
 cases s with
 |some s=>
  obtain⟨h1,⟨C,p,a,E,F,G⟩,H,big,f,j,m5,sv,q,x,I⟩:=h;exact⟨h1,⟨C,p,a,E,λr J=>z r (F r J),G⟩,H,big,f,j,m5,sv,q,x,ao.Y I (λ_ _ h=>h) λr _ h=>z r h⟩
 |none=>
  obtain⟨_,e,big,f,j,m5,sv,l,q,x,_⟩:=h;exact⟨e,big,f,j,m5,sv,q,x.1⟩
def NI{g:Nat}{A B R:ah}{s:Option aK}{O:Bool}{aS az u:x4}{z:Λ}{l:List (Λ×Int)}{K:x6->Prop}(h:dw w g gs A B O s)(P:∀r,cV g gs A B r->R r)(aj:∀r,R r->cV g gs A (qy w.heap.size) r)(ak:∀t,s=σ t->t.m6.length+1+t.hp.length<=100000)(al:ag w N cn [aS,u,az,v])(hu:ao.rep (α:=Λ) v6 bQ R w [u] z)(am:ao.rep (α:=List (Λ×Int)) v6 bQ R w [v] l)(aA:∀I aN,af (bM g gs A) w I->(∀r,aN r->A r\/w.heap.size<=r)->nx I g gs aN (qy w.heap.size) R O (s.map (uo z l))->K I):
  ab v8 (bU (Γ g)) w λQ=>
  ab v8 (u7 cF Q 3) w λS=>
  ab v8 (u6 iF S) w λan=>
  ab v8 (u7 cn (Γ N) 1) w λt76=>
  ab v8 (u6 aw t76) w λt77=>
  ab v8 (u7 cn (Γ N) 3) w λaB=>
  ab v8 (u6 jV aB) w λaC=>
  ab v8 (Instr.build kV #[(0,t77),(1,aC)]) w λaD=>
  aG v8 (X2 iF 1 #[(0,aD)]) w λaE F=>
   (Ext w F\/b6 v8 (u6 iF S) an F/\b6 v8 (u7 cF Q 3) S F/\b6 v8 (bU (Γ g)) Q F/\True)/\
   aG v8 (Z9 #[iF,iF] iF #[an,aE]) F λaF W=>
    ab v8 (bU (Γ g)) W λaH=>
    ab v8 (u7 cF aH 3) W λaI=>
    aG v8 (j0 iF aI aF) W λ(_:Unit)aM=>K aM:=by
 obtain⟨aO,e,big,j,q,m5,sv,H,y,L,a6,aP⟩:mu w g gs A B/\∃e big j q m5 sv,∃H:List lM,ag w g cF (jj gs e big j q m5 sv)/\bs A R w [sv] H/\H.length<=100000/\
   ∀I aN C,mu I g gs aN (qy w.heap.size)->af (λr=>A r\/r=g) w I->ag I g cF (jj gs e big j q m5 C)->bs aN R I [C] (H++[((z,l):lM)])->nx I g gs aN (qy w.heap.size) R O (s.map (uo z l)):=by
  cases s with
  |none=>
   obtain⟨h1,e,big,j,q,m5,sv,l',X,M,Y⟩:=h;exact⟨h1,e,big,j,q,m5,sv,l',X,ao.Y Y (λ_ _ h=>h) λr _ h=>P r h,M.2,λI aN C J _ y L=>⟨e,big,j,q,m5,C,y,M.1⟩⟩
  |some s=>
   obtain⟨h1,aQ,ap,big,j,q,m5,sv,X,M,Y⟩:=h;have ak:=ak s rfl;refine⟨h1,0,big,j,q,m5,sv,s.m6,X,ao.Y Y (λ_ _ h=>h) λr _ h=>P r h,(show s.m6.length<=100000 by omega),λI aN C J aR y L=>⟨J,?_,⟨ap.1,ap.2.1,?_⟩,big,j,q,m5,C,y,M,L⟩⟩
   .exact iK.aX aQ aR (λhe=>he.elim h1.2.2.1 λh=>h1.1 h.symm) (λr f he=>he.elim (λh=>f.1 (.inr (.inr h))) λh=>f.1 (.inl h)) P
   .show (s.m6++[(z,l)]).length+s.hp.length<=100000;simp;omega
 obtain⟨aT,Z,aV,aq,a7⟩:=id aO;rw[aL cF.p 3 y rfl,aJ cn.p 1 al rfl,aJ cn.p 3 al rfl];rw[dk (cs:=#[u,v]) (by obtain⟨_,_,_,rfl⟩:=nw hu;obtain⟨_,_,_,rfl⟩:=nw am;kernel_rfl)];have av:bs (λ_=>False) R w [u,v] ((z,l):lM):=⟨[u],[v],bQ,bQ,rfl,λ_ h=>h,λ_ h=>h,λ_ _ h _=>h,hu,am⟩;refine jB (α:=lM) (a:=(z,l)) (R:=R) iF.u kV.i Φ rfl av λx U E _ aW=>?_;have a8:=E.size;refine⟨.inl E,?_⟩;refine nY iF.u kV.i rfl (bp L E) aW (bp av E) (λr _ aY G=>?_) Ω Ω λaZ V ac ad=>?_
 .rcases G with G|G
  .exact G
  .exact (aj r G).1 (.inr (.inr aY))
 have ba:=ad.size;have a1:=(y.W E).aa ad Z;rw[b0,aU cF.p rfl];refine bu (g:=g) (o:=6) iF.i (lH ac) (fT ac) a1 (by simp[jj]) λae ax bb ai=>?_;have ai:=ai;have ay:af (λr=>A r\/r=g) w ae:=((E.aa _).F (ad.Y λr _ h=>.inl h)).F (ax.Y λr _ h=>.inr h);let aN:ah:=λr=>(A r\/w.heap.size<=r)/\r<V.heap.size;have bc:g<w.heap.size:=aq g (.inl rfl);have bd:=aq gs (.inr (.inl rfl));have a2:=ao.Y (S':=aN) (R':=R) ac (λr f h=>⟨h.elim .inl λh=>h.elim False.elim λh=>.inr Ω,f⟩) (λr f h=>h);refine aA ae aN (ay.Y λr _ h=>h.elim (λh=>.inr (.inr h)) .inl) (λr f=>f.1) (aP ae aN aZ ⟨aT,λh=>h.1.elim Z λh=>Ω,λh=>h.1.elim aV λh=>Ω,λr f=>?_,?_⟩ ay ai (ao.aa a2 ax λr f au he=>?_))
 .rcases f with rfl|rfl|f
  .omega
  .omega
  .have:=f.2;omega
 .intro r f;have f:r<w.heap.size:=f;omega
 .have he:r=g:=he;subst he;rcases au with au|au
  .exact au.1.elim Z λh=>Ω
  .exact (aj _ au).1 (.inl rfl)
def NJ{e:Nat}{aS E:x4}{scope all:Λ}{M:x6->Prop}(N:ag w e cn [aS,.slice ν 0 0,Δ 0,.slice ν 0 0])(O:aM .i64 w aS scope)(Y:∀r,lw aS r->r≠e)(Z:aM .i64 w E all)(ac:∀r,lw E r->r≠e)(ad:∀v∈scope,0<=v/\v<all.length)(aH:scope.length<=100001)(ae:∀I lc gz,af (λr=>r=e) w I->ag I e cn [aS,lc,Δ 0,.slice ν 0 0]->aB .i64 av I gz lc (scope.map λv=>all.getD v.toNat 0)->w.heap.size<=gz->M I):
 bY (Δ 0) w λF s k=>
  ab v8 (aP .lss ai v6 v6 F (Δ (scope.length:Int))) s λah=>
  Split ah (ab v8 (b8 aw aS F) s λaj=>
  ab v8 (u6 av aj) s λak=>
  en s λf=>
  ab v8 (u7 cn (Γ e) 1) f λt39=>
  ab v8 (u6 aw t39) f λP=>
  ab v8 (b8 aw E ak) f λam=>
  ab v8 (u6 av am) f λan=>
  aG v8 (X2 aw 1 #[(0,an)]) f λt45 z=>
   (Ext f z\/b6 v8 (u6 aw t39) P z/\b6 v8 (u7 cn (Γ e) 1) t39 z/\True)/\
  aG v8 (Z9 #[aw,aw] aw #[P,t45]) z λt46 Q=>
   ab v8 (u7 cn (Γ e) 1) Q λao=>
   aG v8 (j0 aw ao t46) Q λ(_:Unit)R=>
    ab v8 (aP .add ai v6 v2 F (Δ 1)) R λap=>
  k ap R) (M s):=by
 have aI:=N.lt;refine bY.range scope.length (λi U=>af (λr=>r=e) w U/\∃lc gz,ag U e cn [aS,lc,Δ 0,.slice ν 0 0]/\aB .i64 av U gz lc ((scope.take i).map λv=>all.getD v.toNat 0)/\w.heap.size<=gz) O.le ⟨af.refl _ _,_,w.heap.size,N,aB.nil _ _ _ _,o4 _⟩ ?_ ?_
 rotate_left
 .rintro U aq ⟨j,lc,gz,A,B,S⟩;rw[o9]at B;rw[aT,al];exact⟨λh=>Ω,λ_=>ae U lc gz j A B S⟩
 rintro i U aq hi ⟨j,lc,gz,A,B,S⟩ au;obtain⟨v,G⟩:=aD (l:=scope) hi;have aK:=ad v (x7 G);have ax:all[v.toNat]?=σ (all.getD v.toNat 0):=by
  rw[u5,x8 Ω];rfl
 have ay:=jh O j λr C a n c H J=>Y r ⟨a,n,c,H,J⟩ C;have az:=jh Z j λr C a n c H J=>ac r ⟨a,n,c,H,J⟩ C;refine bC Ω ?_;rw[bh aw.u av.i Ψ ay G];intro V q _ _;have aL:=j.size;have aN:=q.size;rw[aJ cn.p 1 (A.W q) rfl];rw[fP (y:=v) (i:=v.toNat) Ω aw.u av.i Ψ (az.W q) ax];refine eU aw.u av.i rfl λa ga aQ aR x aA=>?_;refine⟨.inl x,?_⟩;have z3:=x.size;refine kt aw.u av.i rfl ((B.W q).W x) aA.ls Θ Θ λaC aE aV aW K W=>?_;rw[aU cn.p rfl];have aF:=((A.W q).W x).aa W (λhe=>by have he:=he;omega);refine bu (g:=e) (o:=1) aw.i K.ls.cells.1 K.ls.cells.2 aF Ξ λaX X aY L=>?_;have L:=L;rw[aO];refine au _ ⟨(iJ (j.F ((q.F x).aa _)) W λr C he=>by have he:r=gz:=he;omega).F X,aC,aE,L,?_,Ω⟩;rw[r9,G,j6,Z4];exact K.aa X (λ_ he=>by have he:=he;omega)
abbrev jJ:Type:=Rd (Λ)×Rd (Λ)×Int×Rd (List (Λ×Int))
def iQ(f:cE):jJ:=(f.scope,f.co,f.other,f.lines)
def Dm{R:ah}{aS lc cq:x4}{o:Int}{sc:Λ}{l:List (Λ×Int)}(h1:ao.rep (α:=Λ) v6 bQ R w [aS] sc)(e:ao.rep (α:=Λ) v6 bQ R w [lc] a)(f:ao.rep (α:=List (Λ×Int)) v6 bQ R w [cq] l):
  Seen R w [aS,lc,Δ o,cq] ((sc,a,o,l):jJ):=
 ⟨[aS],[lc,Δ o,cq],bQ,bQ,rfl,λ_ h=>h,λ_ h=>h,λ_ _ h _=>h,h1,[lc],[Δ o,cq],bQ,bQ,rfl,λ_ h=>h,λ_ h=>h,λ_ _ h _=>h,e,[Δ o],[cq],bQ,bQ,rfl,λ_ h=>h,λ_ h=>h,λ_ _ h _=>h,rfl,f⟩
def rW{R:ah}{g:Nat}(h:aB .i64 e w g v l)(q:∀r,lw v r->R r):ao.rep (α:=Λ) v6 bQ R w [v] l:=by
 have h1:bs (λr=>r=g) bQ w [v] l:=mj h;obtain⟨vs,s,F,ac,he,J,hm⟩:=jA h1;refine⟨v,rfl,vs,s,λ_ _=>False,⟨λ_ _ h=>h,λh=>(by cases h),λh=>by cases h⟩,⟨he.1,λi c a x y=>?_⟩,?_,λh=>by cases h⟩
 .exact he.2 i c a x y
 .obtain⟨f,b,o,base,cap,rfl,z,A,j,E,B⟩:=J;refine⟨f,b,o,base,cap,rfl,z,A,j,λp=>.inr (q b ?_),B⟩;have C:0<l.length:=by
   rw[f]at p;rcases Q9 l.length with h|h
   .rw[h,Nat.zero_mul]at p;omega
   .exact h
  exact⟨⟨b,o,ν⟩,l.length,cap,by rw[j C],rfl⟩
def Dn{α:Type}[ao α]{R R':ah}{a:α}(h:Seen R w cs a)(e:∀r,r<w.heap.size->R r->R' r):Seen R' w cs a:=ao.Y h (λ_ _ h=>h) e
def Do{f a:Nat}{K:x4->x6->Prop}(e:cs.length=4)(h1:∀v∈cs,v.oneCell'=v2)(q:ag w f cn cs){h:List x4}(s:h.length=4)(x:ag w a cn h)(y:∀I,af (λr=>r=a) w I->K (.agg cs.toArray) I):
  ab v8 (u6 cn (Γ f)) w λz=>
  aG v8 (j0 cn (Γ a) z) w λ(_:Unit)j=>
  ab v8 (do loadVar cn (<-asAddr (Γ a))) j λA=>K A j:=by
 rw[bz cn.p cn.i e q.range];refine b1 cn.i e s h1 x λI B _ C=>?_;rw[fe cn.p cn.i e C.range];exact y I B
def Dp{s s':aK}{l:List (Λ×Int)}(h:eb co s=σ (l,s')):s'.m6=s.m6/\s'.hp.length<=s.hp.length:=by
 unfold eb at h;cases e:bm (-ay) ay s with
 |none=>rw[e]at h;cases h
 |some q=>
  obtain⟨n,s1⟩:=q;rw[e]at h;simp only at h;have h1:=dL e;obtain⟨r,w,f⟩:=h1.eqs;split at h
  .cases J:s1.m6[(-n-1).toNat]? with
   |none=>rw[J]at h;cases h
   |some q=>
    obtain⟨z,l'⟩:=q;rw[J]at h;simp only at h;split at h
    .simp only[X7,S7]at h;obtain⟨rfl,rfl⟩:=h;exact⟨f,by have:=h1.1;omega⟩
    .cases h
  .have:=lL (λacc t=>t.m6=s.m6/\t.hp.length<=s.hp.length) (λacc t a bt ⟨p,x⟩ g=>by
    obtain⟨y,A,B,j⟩:=qn g;obtain⟨f1,f2,f3⟩:=j.eqs;exact⟨by rw[f3,p],by have:=j.1;omega⟩) n.toNat [] (bi (decide (16384<min (s1.m5+n) ay)) {s1 with m5:=min (s1.m5+n) ay}) l s' ⟨f,by have:=h1.1;show s1.hp.length<=_;omega⟩ h
   exact this.1
def NK{g:Nat}{A B:ah}{s:aK}{W:Bool}{bb:x4}{all:Λ}(h:er w g gs A B s W)(hi:ec s)(bI:aM .i64 w bb all)(bc:∀r,lw bb r->¬bM g gs A r/\r<w.heap.size)(ci:∀z∈all,1<=z/\z<=ay)(di:all.length<=100001)(cj:fs w)(h1:cV g gs A B 1):
  ak v8 AE [Γ g,bb] w λv I=>∃aN X cs,∃bJ:jJ,v= .agg cs.toArray/\cs.length=4/\af (bM g gs A) w I/\(∀r,aN r->A r\/w.heap.size<=r)/\(∀r,X r->(B r\/w.heap.size<=r)/\r<I.heap.size)/\(∀r,B r->X r)/\iP I g gs aN X W ((ds all s).map (·.2))/\
   Seen (cV g gs aN X) I cs bJ/\∀q,ds all s=σ q->bJ=iQ q.1:=by
 have ck:=h.1;obtain⟨dj,dl,bd,cl,R⟩:=id ck;have ae:∀r,bM g gs A r->r<w.heap.size:=cl;have dm:ay=4611686018427387904:=rfl;have dn:=h.2.2.1.2.2;refine az func114 ?_;refine bE cn.i λE U dp be aO=>?_;have aO:=aO;have dq:=be.size;have dr:=aO.lt;have L:¬bM g gs A E:=λj=>by have:=ae _ j;omega
 refine(xf (h.W be)).Y ?_;rintro _ V _ ⟨Y,a,at_,rfl,bK,cm⟩;obtain⟨bg,bh⟩:=Y.of;have dt:=bg.size;rw[bA,bB,aT,nh];have du: -ay<=a/\a<=ay:=by
  cases C:bm (-ay) ay s with
  |none=>rw[cm C];unfold ay;omega
  |some q=>rw[bK q C];exact(ji C).1
 rw[m1 Ω Ω,tx,show max a (0-a)=((a.natAbs:Nat):Int) by omega];have bN:=(be.aa _).F bg;have cp:=jh bI bN λr f a n c H bj=>(bc r ⟨a,n,c,H,bj⟩).1 f;rw[a1 aw.u cp];refine(NH bh Ω Ω).Y ?_;rintro aS dv _ ⟨Y,gr,scope,aD,cr,dx,ct⟩;obtain⟨bk,cu⟩:=Y.of;have z3:=bk.size;rw[dk (cs:=#[aS,.slice ν 0 0,Δ 0,.slice ν 0 0]) (by obtain⟨_,_,_,_,_,rfl,_⟩:=aD.ls;kernel_rfl)];refine bE cn.i λy dy dz aE aP=>?_;have aP:=aP;have z4:=aE.size;have dA:=aP.lt;have bl:=aD.ls.cells;refine b1 (vs:=[aS,.slice ν 0 0,Δ 0,.slice ν 0 0]) cn.i rfl rfl (by intro v H;simp at H;rcases H with rfl|rfl|rfl|rfl<;>first|exact bl.2|rfl) aP λaQ aF dC cw=>?_;have am:¬bM g gs A y:=λj=>by have:=ae _ j;omega
 have bO:dw aQ g gs A B W ((rV all.length a.natAbs ((bm (-ay) ay s).map (·.2))).map (·.2)):=(cu.W aE).aa aF (λr f he=>by have he:r=y:=he;exact am (he▸f)) (λr f he=>by have:=R r f.2;have he:r=y:=he;omega);have bR:af (bM g gs A) w aQ:=iJ ((bN.F bk).F (aE.aa _)) aF λr f he=>by have he:r=y:=he;omega
 have cz:ag aQ E cn [.slice ν 0 0,.slice ν 0 0,Δ 0,.slice ν 0 0]:=(((aO.aa bg L).aa bk L).W aE).aa aF (λhe=>by have he:E=y:=he;omega);have cA:aB .i64 av aQ gr aS scope:=bw (aD.W aE) aF λr f he=>by
  obtain⟨cB,bh⟩:=bW aD f;have he:r=y:=he;omega
 refine(qx bO).Y ?_;rintro _ bS _ ⟨rfl,Z⟩;have an:=bO.W Z;have aG:=cA.W Z;have bn:=cw.W Z;have bT:=cz.W Z;have dD:=Z.size;have z5:=aF.size;have O:∀r,lw aS r->V.heap.size<=r/\r≠y/\r≠E:=λr f=>by
  obtain⟨cB,bh⟩:=bW aD f;have:=cr r f;exact⟨this,Ω,Ω⟩
 have K:ds all s=match rV all.length a.natAbs ((bm (-ay) ay s).map (·.2))with
   |none=>ν
   |some (sc,J)=>(j8 (sc.map λv=>all.getD v.toNat 0) ((bf 0 ay (σ (bi (decide (6<a.natAbs)||dB (sc.map λv=>all.getD v.toNat 0)) J))).map (·.2))).map λq=>((⟨sc,sc.map λv=>all.getD v.toNat 0,((bm 0 ay (bi (decide (6<a.natAbs)||dB (sc.map λv=>all.getD v.toNat 0)) J)).map (·.1)).getD 0,q.1⟩:cE),if a<0 then uo (sc.map λv=>all.getD v.toNat 0) q.1 q.2 else q.2):=by
  unfold ds;cases C:bm (-ay) ay s with
  |none=>rfl
  |some q=>
   obtain⟨a',s1⟩:=q;have:=bK _ C;subst this;simp only;show _=match fg all.length a.natAbs s1 with
    |none=>ν
    |some (sc,J)=>_
   cases fg all.length a.natAbs s1 with
   |none=>rfl
   |some q=>
    obtain⟨sc,J⟩:=q;simp only;show _=U8 _ (j8 _ ((bm 0 ay _).map (·.2)));cases bm 0 ay (bi (decide (6<a.natAbs)||dB (sc.map λv=>all.getD v.toNat 0)) J)with
    |none=>rfl
    |some q=>
     obtain⟨o,G⟩:=q;simp only;show _=U8 _ (eb _ G);cases eb (sc.map λv=>all.getD v.toNat 0) G with
     |none=>rfl
     |some q=>rfl
 rw[bL,cb];cases ab:rV all.length a.natAbs ((bm (-ay) ay s).map (·.2))with
 |none=>
  rw[ab]at an K;simp only at K;refine⟨λ_=>?_,λh=>by simp at h⟩;refine Do rfl (by intro v H;simp at H;rcases H with rfl|rfl|rfl|rfl<;>first|exact bl.2|rfl) bn rfl bT λac M=>?_;have cC:=M.size;refine⟨A,λr=>(B r\/w.heap.size<=r)/\r<ac.heap.size,_,(scope,[],0,[]),rfl,rfl,iJ (bR.F (Z.aa _)) M λr f he=>by have he:r=E:=he;omega,λr f=>.inl f,λr f=>f,λr f=>⟨.inl f,by have:=R r f;omega⟩,?_,?_,λq C=>by rw[K]at C;cases C⟩
  .rw[K];have cD:iP ac g gs A B W (U8 (λx=>x.2) (ν:Option (Λ×aK))):=an.q.aa M (λhe=>by have:=ae g (.inl rfl);have he:g=E:=he;omega) (λr f _ he=>by have he:r=E:=he;exact L (he▸f)) (λr f he=>by have:=R r f.2;have he:r=E:=he;omega);exact cD
  .refine Dm (rW (bw aG M λr f he=>(O r f).2.2 he) λr f=>?_) gm gm;have N:=O r f;have ap:=(bW aG f);exact⟨λj=>by have:=ae _ j;omega,.inr Ω,Ω⟩
 |some q=>
  obtain⟨sc,J⟩:=q;have:=ct _ ab;subst this;rw[ab]at an K;simp only at K;refine⟨λh=>by simp at h,λ_=>?_⟩;have an:=an;obtain⟨s1,cF,cG⟩:∃s1,(bm (-ay) ay s).map (·.2)=σ s1/\fg all.length a.natAbs s1=σ (scope,J):=by
   cases C:(bm (-ay) ay s).map (·.2)with
   |none=>rw[C]at ab;cases ab
   |some s1=>rw[C]at ab;exact⟨s1,rfl,ab⟩
  obtain⟨dE,cH,rfl⟩:=Y9.1 cF;have bU:=dL cH;obtain⟨bV,dF,dG,bX⟩:=xc cG;have bo:=bU.eqs;have bq:=bV.eqs;have cI:ec J:=λP=>by rw[bq.1,bo.1];rw[bq.2.1,bo.2.1]at P;exact hi P
  have cJ:J.m6.length+1+J.hp.length<=100000:=by rw[bq.2.2,bo.2.2];have:=bU.1;have:=bV.1;omega
  generalize br:(scope.map λv=>all.getD v.toNat 0)=co at K;have bY:∀z∈co,1<=z/\z<=ay:=λz aR=>by
   rw[<-br]at aR;obtain⟨v,H,rfl⟩:=j5.1 aR;have:=bX v H;refine ci _ ?_;rw[u5,x8 Ω];exact P6 _
  have dH:co.length=scope.length:=by rw[<-br,r8]
  have bZ:af (bM g gs A) w bS:=bR.F (Z.aa _);have cK:=jh bI bZ λr f a n c H bj=>(bc r ⟨a,n,c,H,bj⟩).1 f;rw[aJ cn.p 0 bn rfl,a1 aw.u aG.ls];refine NJ bn aG.ls (λr f=>(O r f).2.1) cK (λr f=>by have:=(bc r f).2;omega) bX Ω λac lc gz M b0 aV dI=>?_;rw[br]at aV;have cC:=M.size;have bs:∀r,cV g gs A B r->¬(λr=>r=y) r:=λr f he=>by have:=R r f.2;have he:r=y:=he;omega
  have bt:∀r,bM g gs A r->¬(λr=>r=y) r:=λr f he=>by have he:r=y:=he;exact am (he▸f)
  have b2:=an.aa M bt bs;have cL:af (bM g gs A) w ac:=iJ bZ M λr f he=>by have he:r=y:=he;omega
  refine c8 (λaX=>af (bM g gs A) ac aX/\er aX g gs A B (bi (decide (6<a.natAbs)||dB co) J) W) ?_ ?_
  rotate_left
  .intro ax aH;rw[bP,al];refine⟨λdJ=>?_,λdK=>?_⟩
   .refine (ua b2).Y ?_;rintro _ cM _ ⟨cN,cO⟩;refine aH _ ⟨cN.Y λr _ h=>.inl h,?_⟩;rw[rs Ω,Bool.true_or];exact cO
   .rw[aJ cn.p 1 b0 rfl];refine(CC aV.ls λz aR=>(bY z aR).1).Y ?_;rintro _ cM _ ⟨rfl,b3⟩;refine(ua (b2.W b3)).Y ?_;rintro _ dM _ ⟨cP,cQ⟩;refine aH _ ⟨(b3.aa _).F (cP.Y λr _ h=>.inl h),?_⟩;rw[s2 Ω,Bool.false_or];exact cQ
  rintro aX ⟨aY,aZ⟩;have dN:=aY.size;generalize bd:bi (decide (6<a.natAbs)||dB co) J=G at K aZ;have cR:ec G:=λP=>by
   subst bd;have P:(J.big||_)=v6:=P;exact cI (U1.1 P).1
  have dO:G.m6.length+1+G.hp.length<=100000:=by subst bd;exact cJ
  have aZ:dw aX g gs A B W (σ G):=aZ;refine(nv (lo:=0) (hi:=ay) aZ).Y ?_;rintro _ b4 _ ⟨Y,o,dP,rfl,cS,dQ⟩;obtain⟨a2,cT⟩:=Y.of;have dR:=a2.size;rw[bA,bB,aU cn.p rfl];have cU:=(b0.aa aY am).aa a2 am;refine bu (g:=y) (o:=2) av.i rfl rfl cU Ξ λcW aq dS a6=>?_;have a6:=a6;rw[aJ cn.p 1 a6 rfl];have cX:=cT.aa aq bt bs;have bx:af (bM g gs A) ac b4:=aY.F a2;have cY:af (bM g gs A) w b4:=cL.F bx;have b5:af (bM g gs A) w cW:=iJ cY aq λr f he=>by have he:r=y:=he;omega
  have ad:∀r,lw lc r->bS.heap.size<=r/\r<ac.heap.size:=λr f=>by have:=bW aV f;omega
  have b6:=bw (bw aV bx λr f j=>by have:=ae _ j;have:=ad r f;omega) aq λr f he=>by have he:r=y:=he;have:=ad r f;omega
  have cZ:=bw (bw (bw aG M λr f he=>(O r f).2.1 he) bx λr f j=>by have:=ae _ j;have:=O r f;omega) aq λr f he=>(O r f).2.1 he;have dT:=aq.size;refine(NG cX (λt bz=>?_) b6.ls (λr f=>⟨λj=>by have:=ae _ j;have:=ad r f;omega,by have:=ad r f;omega⟩) bY Ω (cj.aa b5 h1.1) h1).Y ?_
  .obtain⟨q,C,rfl⟩:=Y9.1 bz;have b7:=(dL C).eqs;intro P;rw[b7.1];rw[b7.2.1]at P;exact cR P
  rintro cq c0 _ ⟨Y,l,bC,b8⟩;obtain⟨au,c1⟩:=Y.of;have dU:=au.size;have bD:cq.cells= #[cq]/\cq.oneCell'=v2:=⟨lH bC,fT bC⟩;rw[aU cn.p rfl];have c2:=a6.aa au am;refine bu (g:=y) (o:=3) jV.i bD.1 bD.2 c2 Ξ λQ ai dV a7=>?_;have a7:=a7;have dW:=ai.size;have b9:=c1.aa ai bt bs;have c3:af (bM g gs A) w c0:=b5.F au;have c4:af (bM g gs A) w Q:=iJ c3 ai λr f he=>by have he:r=y:=he;omega
  have ca:=bw (bw cZ au λr f j=>by have:=ae _ j;have:=O r f;omega) ai λr f he=>(O r f).2.1 he;have a8:=bw (bw b6 au λr f j=>by have:=ae _ j;have:=ad r f;omega) ai λr f he=>by have he:r=y:=he;have:=ad r f;omega
  have c5:ag Q E cn [.slice ν 0 0,.slice ν 0 0,Δ 0,.slice ν 0 0]:=((((((bT.aa M (λhe=>by have he:=he;omega)).aa aY L).aa a2 L).aa aq (λhe=>by have he:=he;omega)).aa au L).aa ai (λhe=>by have he:=he;omega));let S:ah:=λr=>(B r\/w.heap.size<=r)/\r<Q.heap.size;have cc:ao.rep v6 bQ (λr=>cV g gs A S r/\r≠y/\r≠E) Q [cq] l:=by
   refine Dn (ao.aa bC ai λr f h he=>?_) λr f h=>?_
   .have he:r=y:=he;rcases h with h|h
    .exact h
    .rcases h with h|h
     .have:=R r h.2;omega
     .omega
   .rcases h with h|h
    .have:=R r h.2;exact⟨⟨h.1,.inl h.2,f⟩,Ω,Ω⟩
    .exact⟨⟨λj=>by have:=ae _ j;omega,.inr Ω,f⟩,Ω,Ω⟩
  have c6:∀r,lw aS r->cV g gs A S r/\r≠y/\r≠E:=λr f=>by
   have N:=O r f;have ap:=(bW ca f);exact⟨⟨λj=>by have:=ae _ j;omega,.inr Ω,Ω⟩,N.2⟩
  have cd:∀r,lw lc r->cV g gs A S r/\r≠y/\r≠E:=λr f=>by
   have N:=ad r f;have ap:=(bW a8 f);exact⟨⟨λj=>by have:=ae _ j;omega,.inr Ω,Ω⟩,Ω,Ω⟩
  have c7:Seen (λr=>cV g gs A S r/\r≠y/\r≠E) Q [aS,lc,Δ o,cq] ((scope,co,o,l):jJ):=Dm (rW ca c6) (rW a8 cd) cc;have c9:∀q,ds all s=σ q->((scope,co,o,l):jJ)=iQ q.1:=λq C=>by
   rw[K]at C;obtain⟨dX,bF,rfl⟩:=Y9.1 C;have N:=b8 _ bF;cases aA:bm 0 ay G with
   |none=>have e:bf 0 ay (σ G)=ν:=aA;rw[e]at bF;cases bF
   |some aj=>
    have ap:=cS aj aA;rw[N,ap];rfl
  have da:∀v∈[aS,lc,U3 .i64 o,cq],v.oneCell'=v2:=by
   intro v H;simp at H;rcases H with rfl|rfl|rfl|rfl
   .exact bl.2
   .exact a8.ls.cells.2
   .rfl
   .exact bD.2
  have ce:∀r,cV g gs A B r->cV g gs A S r/\r≠y/\r≠E:=λr f=>by
   have:=R r f.2;exact⟨⟨f.1,.inl f.2,Ω⟩,Ω,Ω⟩
  refine c8 (λbG=>∃aN,af (bM g gs A) Q bG/\(∀r,aN r->A r\/Q.heap.size<=r)/\∃X,nx bG g gs aN X (λr=>cV g gs A S r/\r≠y/\r≠E) W ((ds all s).map (·.2))) ?_ ?_
  .rintro bG ⟨aN,aI,aL,X,db⟩;have dY:=aI.size;refine Do rfl da (a7.aa aI am) rfl (c5.aa aI L) λcf ba=>?_;have dZ:=ba.size;have cg:∀r,bM g gs aN r->¬(λr=>r=E) r:=λr f he=>by
    have he:r=E:=he;subst he;rcases f with f|f|f
    .exact L (.inl f)
    .exact L (.inr (.inl f))
    .rcases aL _ f with f|f
     .exact L (.inr (.inr f))
     .omega
   have ch:∀r,(cV g gs A S r/\r≠y/\r≠E)->cV g gs aN (λr=>(B r\/w.heap.size<=r)/\r<cf.heap.size/\(r<Q.heap.size\/B r)) r:=λr h=>⟨λj=>h.1.1 (j.imp id (Or.imp id λj=>(aL r j).elim id λaW=>by have:=h.1.2.2;omega)),h.1.2.1,by have:=h.1.2.2;omega,.inl h.1.2.2⟩;have dc:=db.aa ba (cg g (.inl rfl)) (λr f _=>cg r f) (λr f=>f.2.2);refine⟨aN,λr=>(B r\/w.heap.size<=r)/\r<cf.heap.size/\(r<Q.heap.size\/B r),_,(scope,co,o,l),rfl,rfl,iJ (c4.F aI) ba λr f he=>by have he:r=E:=he;omega,λr f=>(aL r f).imp id λh=>Ω,λr f=>⟨f.1,f.2.1⟩,λr f=>⟨.inl f,by have:=R r f;omega,.inr f⟩,dc.out ch λr f=>f.2.1,?_,c9⟩;refine Dn (ao.aa (ao.aa c7 aI λr _ h j=>?_) ba λr _ h he=>?_) λr _ h=>ch r h
   .rcases h with h|h
    .exact h
    .exact h.1.1 j
   .rcases h with h|h
    .exact h
    .exact h.2.2 he
  .intro ax aH;rw[al];refine⟨λdd=>?_,λde=>?_⟩
   .intro bH aC _ _;have ea:=aC.size;have df:∀r,(cV g gs A S r/\r≠y/\r≠E)->cV g gs A (qy bH.heap.size) r:=λr h=>⟨h.1.1,by have:=h.1.2.2;show r<bH.heap.size;omega⟩;refine NI (b9.W aC) ce df (λt bz=>?_) (a7.W aC) (rW (a8.W aC) cd) (bp cc aC) λed aN dg aL dh=>?_
    .obtain⟨q,C,rfl⟩:=Y9.1 bz;cases aA:bm 0 ay G with
     |none=>have e:bf 0 ay (σ G)=ν:=aA;rw[e]at C;cases C
     |some aj=>
      have e:bf 0 ay (σ G)=σ aj:=aA;rw[e]at C;have h1:q.2.m6=aj.2.m6/\q.2.hp.length<=aj.2.hp.length:=Dp (l:=q.1) (s':=q.2) C;have N:=dL (n:=aj.1) (s':=aj.2) aA;have ap:=N.eqs.2.2;have ee:=N.1;rw[h1.1,ap];have:=h1.2;omega
    .refine aH _ ⟨aN,(aC.aa _).F dg,λr f=>(aL r f).imp id λh=>Ω,qy bH.heap.size,?_⟩;have e:(ds all s).map (·.2)=((j8 co ((bf 0 ay (σ G)).map (·.2))).map (·.2)).map (uo co l):=by
      rw[K];cases C:j8 co ((bf 0 ay (σ G)).map (·.2))with
      |none=>rfl
      |some q=>
       have N:=b8 _ C;simp only[Y3,ms dd,N]
     rw[e];exact dh
   .refine aH _ ⟨A,af.refl _ _,λr f=>.inl f,B,?_⟩;have e:(ds all s).map (·.2)=(j8 co ((bf 0 ay (σ G)).map (·.2))).map (·.2):=by
     rw[K];cases C:j8 co ((bf 0 ay (σ G)).map (·.2))with
     |none=>rfl
     |some q=>simp only[Y3,rc de]
    rw[e];exact b9.qr ce
def ny(l:Λ):Prop:=∀v∈l,0<=v/\v<64
def rX(h:ny l){v:Int}:v∈bx l↔v∈l:=by
 unfold bx;rw[S8,sp];refine⟨λh=>h.2,λa=>⟨?_,a⟩⟩;obtain⟨h1,e⟩:=h v a;exact j5.2 ⟨v.toNat,S1.2 Ω,Ω⟩
def NL(l:Λ):ny (bx l):=λv a=>by
 obtain⟨n,e,rfl⟩:=j5.1 (S8.1 a).1;have:=S1.1 e;omega
def xx(l:Λ):(bx l).Pairwise (·< ·):=by
 unfold bx;refine List.Pairwise.filter _ ?_;rw[List.pairwise_map];exact List.pairwise_lt_range.imp λh=>Ω
def Dq(l:Λ):(bx l).Nodup:=(xx l).imp λh=>Ω
where
 nodup_le' {a b:Λ} (h:a.Nodup) (J:∀x∈a,x∈b):a.length<=b.length:=by
  induction a generalizing b with
  |nil=>exact W0 _
  |cons x a ih=>
   have aW:=List.nodup_cons.1 h;have hx:=J x (.head _);have:=ih aW.2 λy hy=>(List.mem_erase_of_ne (λ(he:y=x)=>aW.1 (by rw[<-he];exact hy))).2 (J y (.tail _ hy));rw[List.length_erase_of_mem hx]at this;have:=List.length_pos_of_mem hx;rw[Y1];omega
def Dr(n:Nat):(0:Int)<64 ^ n:=Int.pow_pos Ω
theorem uq:∀(l:Λ),ny l->0<=kB l/\kB l<64 ^ l.length
 |[],_=>by simp[kB]
 |x::l,h=>by
  have:=uq l λy a=>h y (.tail _ a);have f:=h x (.head _);have:=Dr l.length;simp only[kB,Y1];have e:(64:Int) ^ (l.length+1)=64*64 ^ l.length:=by rw[Int.pow_succ,Int.mul_comm]
  have h1:x*64 ^ l.length<=63*64 ^ l.length:=Int.mul_le_mul_of_nonneg_right Ω Ω;have p:0<=x*64 ^ l.length:=Int.mul_nonneg f.1 Ω;rw[e];omega
def jK:Λ->Λ->Int
 |x::a,y::b=>if x<y then-1 else if y<x then 1 else jK a b
 |[],[]=>0
 |[],_::_=>-1
 |_::_,[]=>1
theorem Ds:∀(a b:Λ),a.length=b.length->ny a->ny b->(jK a b<0↔kB a<kB b)/\(jK a b=0↔a=b)/\(kB a=kB b->a=b)
 |[],[],_,_,_=>by simp[jK]
 |[],_::_,h,_,_=>by simp at h
 |_::_,[],h,_,_=>by simp at h
 |x::a,y::b,h,s,w=>by
  have p:a.length=b.length:=by simpa using h
  have q:=λz e=>s z (.tail _ e);have r:=λz e=>w z (.tail _ e);have f:=Ds a b p q r;have A:=uq a q;have C:=uq b r;have ac:=Dr b.length;simp only[jK,kB];rw[p]at A ⊢;have step:∀u v:Int,u<v->u*64 ^ b.length+64 ^ b.length<=v*64 ^ b.length:=λu v E=>by
   have:=Int.mul_le_mul_of_nonneg_right (show u+1<=v by omega) (show(0:Int)<=64 ^ b.length by omega);rw[Int.add_mul,Int.one_mul]at this;exact this
  by_cases h1:x<y
  .rw[ms h1];have:=step x y h1;exact⟨⟨λ_=>Ω,λ_=>Ω⟩,⟨λh=>Ω,λh=>by have:=(List.cons.inj h).1;omega⟩,λh=>Ω⟩
  .rw[rc h1];by_cases j:y<x
   .rw[ms j];have:=step y x j;exact⟨⟨λh=>Ω,λh=>Ω⟩,⟨λh=>Ω,λh=>by have:=(List.cons.inj h).1;omega⟩,λh=>Ω⟩
   .rw[rc j];have B:x=y:=Ω
    subst B;exact⟨f.1.F ⟨λh=>Ω,λh=>Ω⟩,f.2.1.F ⟨λh=>by rw[h],λh=>(List.cons.inj h).2⟩,λh=>by rw[f.2.2 Ω]⟩
def la(l:Λ):Prop:=ny l/\l.length<=6
def Dt(h:la l):0<=kB l/\kB l<64 ^ 6:=by
 have:=uq l h.1;have e:(64:Int) ^ l.length<=64 ^ 6:=by
  have a:=h.2
  match l.length,a with
  |0,_=>decide
  |1,_=>decide
  |2,_=>decide
  |3,_=>decide
  |4,_=>decide
  |5,_=>decide
  |6,_=>decide
  |n+7,h=>omega
 omega
def xy{b:Λ}(j:la a)(p:la b):(dn a<dn b↔a.length<b.length\/(a.length=b.length/\jK a b<0))/\(dn a=dn b->a=b):=by
 have h1:=Dt j;have q:=Dt p;have e:(64:Int) ^ 6=68719476736:=Φ
 rw[e]at h1 q;unfold dn;rw[e];by_cases f:a.length=b.length
 .have:=Ds a b f j.1 p.1;rw[f];exact⟨⟨λh=>.inr ⟨rfl,this.1.2 Ω⟩,λh=>by
   rcases h with h|⟨_,h⟩
   .omega
   .have:=this.1.1 h;omega⟩,λh=>this.2.2 Ω⟩
 .exact⟨⟨λh=>.inl Ω,λh=>by
   rcases h with h|⟨h,_⟩
   .omega
   .exact ro h f⟩,λh=>Ω⟩
theorem ur(g:cR):∀l:List cR,(iL g l).Perm (g::l)
 |[]=>List.Perm.refl _
 |h::l=>by
  unfold iL;split
  .exact ((ur g l).cons h).F (List.Perm.swap g h l)
  .exact List.Perm.refl _
theorem Du{g:cR}:∀{l:List cR},l.Pairwise (λa b=>dn a.1<dn b.1)->(∀h∈l,dn h.1≠dn g.1)->(iL g l).Pairwise (λa b=>dn a.1<dn b.1)
 |[],_,_=>by simp[iL]
 |h::l,ac,j=>by
  have f:=List.pairwise_cons.1 ac;unfold iL;split
  .rename_i p;refine List.pairwise_cons.2 ⟨λx e=>?_,Du f.2 λx e=>j x (.tail _ e)⟩;rcases V4.1 ((ur g l).mem_iff.1 e)with rfl|e
   .exact p
   .exact f.1 x e
  .rename_i q;have:=j h (.head _);refine List.pairwise_cons.2 ⟨λx e=>?_,ac⟩;rcases V4.1 e with rfl|e
   .omega
   .have:=f.1 x e;omega
theorem Dv:∀(l acc:List cR),acc.Pairwise (λa b=>dn a.1<dn b.1)->l.Pairwise (λa b=>dn a.1≠dn b.1)->(∀a∈acc,∀b∈l,dn a.1≠dn b.1)->
  (l.foldl (λl g=>iL g l) acc).Pairwise (λa b=>dn a.1<dn b.1)/\(l.foldl (λl g=>iL g l) acc).Perm (acc++l)
 |[],acc,h,_,_=>⟨h,Ξ⟩
 |g::l,acc,h,q,f=>by
  have j:=List.pairwise_cons.1 q;have:=Dv l (iL g acc) (Du h λa e=>f a e g (.head _)) j.2 λa e b p=>by
   rcases V4.1 ((ur g acc).mem_iff.1 e)with rfl|e
   .exact j.1 b p
   .exact f a e b (.tail _ p)
  refine⟨this.1,this.2.F ?_⟩;exact((ur g acc).append_right l).F (List.perm_middle).symm
theorem xz{α:Type}{f:α->Int}:∀{L M:List α},L.Pairwise (λa b=>f a<f b)->M.Pairwise (λa b=>f a<f b)->(∀x,x∈L↔x∈M)->L=M
 |[],M,_,_,h=>by
  cases M with
  |nil=>rfl
  |cons y M=>exact ro ((h y).2 (.head _)) Ξ
 |x::L,[],_,_,h=>ro ((h x).1 (.head _)) Ξ
 |x::L,y::M,h1,q,h=>by
  have j:=List.pairwise_cons.1 h1;have p:=List.pairwise_cons.1 q;have r:x=y:=by
   rcases V4.1 ((h x).1 (.head _))with he|hm
   .exact he
   .rcases V4.1 ((h y).2 (.head _))with he|s
    .exact he.symm
    .have a:=p.1 x hm;have b:=j.1 y s;omega
  subst r;rw[xz j.2 p.2 λz=>⟨λe=>?_,λe=>?_⟩]
  .rcases V4.1 ((h z).1 (.tail _ e))with he|hm
   .subst he;have:=j.1 z e;omega
   .exact hm
  .rcases V4.1 ((h z).2 (.tail _ e))with he|hm
   .subst he;have:=p.1 z e;omega
   .exact hm
structure gR(co:Λ)(k:Int)(g:cR):Prop where
 scope:la g.1
 up:g.1.Pairwise (·< ·)
 d6:∀v∈g.1,v<co.length
 len:g.2.length=(aQ (bN co g.1)).toNat
 small:aQ (bN co g.1)<=4096
 jm:∀c∈g.2,0<=c/\c<=k
def ps{sc:Λ}(e:∀z∈co,1<=z/\z<=32)(f:∀v∈sc,0<=v/\v<co.length):∀z∈bN co sc,1<=z/\z<=32:=λz h=>by
 obtain⟨v,j,rfl⟩:=j5.1 h;obtain⟨h1,p⟩:=f v j;have a:v.toNat<co.length:=Ω
 rw[u5,x8 a];exact e _ (P6 a)
def NM{b:Λ}(h:a.Perm b):aQ a=aQ b:=by
 induction h with
 |nil=>rfl
 |cons x _ e=>simp only[aQ,e]
 |swap x y l=>simp only[aQ];rw[<-Int.mul_assoc,<-Int.mul_assoc,Int.mul_comm y x]
 |trans _ _ h1 f=>exact h1.F f
def NN{b:Λ}(h:a.length=b.length):(ez k a b).length=b.length:=by simp[ez,h]
def NO{b:Λ}(hk:0<=k)(f:∀c∈a,0<=c/\c<=k)(j:∀c∈b,0<=c/\c<=k):∀c∈ez k a b,0<=c/\c<=k:=by
 induction a generalizing b with
 |nil=>intro c e;simp[ez]at e
 |cons x a p=>
  cases b with
  |nil=>intro c e;simp[ez]at e
  |cons y b=>
   intro c e;have:=f x (.head _);have:=j y (.head _);rcases V4.1 (show c∈min (x+y) k::ez k a b from e)with rfl|e
   .omega
   .exact p (λc h=>f c (.tail _ h)) (λc h=>j c (.tail _ h)) c e
def kD(l:List cR):Prop:=(l.map (·.1)).Nodup
def NP{acc:List cR}{g:cR}(hk:0<=k)(j:∀h∈acc,gR co k h)(p:kD acc)(a:gR co k g):(∀h∈jH k acc g,gR co k h)/\kD (jH k acc g)/\(jH k acc g).length<=acc.length+1:=by
 unfold jH;split
 .refine⟨λh au=>?_,?_,Ξ⟩
  .obtain⟨f,hm,rfl⟩:=j5.1 au;have h1:=j f hm;split
   .rename_i he;have r:f.2.length=g.2.length:=by rw[h1.len,a.len,he]
    exact⟨h1.scope,h1.up,h1.d6,by show(ez k f.2 g.2).length=_;rw[NN r,a.len,he],h1.small,NO hk h1.jm a.jm⟩
   .exact h1
  .unfold kD;rw[S5];have e:((λx:cR=>x.1)∘λh:cR=>if h.1=g.1 then(h.1,ez k h.2 g.2)else h)=λx:cR=>x.1:=by
    funext h;simp only[Function.comp];split<;>rfl
   rw[e];exact p
 .rename_i s;refine⟨λh au=>?_,?_,Ξ⟩
  .rcases j9.1 au with au|au
   .exact j h au
   .rw[c9.1 au];exact a
  .unfold kD;rw[Z4];exact List.nodup_append.2 ⟨p,Ξ,λx w y q he=>by
    simp only[T3,List.map_nil,c9]at q;subst q;subst he;exact s w⟩
theorem xA{co:Λ}{k:Int}(hk:0<=k):∀{l acc:List cR},(∀h∈acc,gR co k h)->kD acc->(∀g∈l,gR co k g)->(∀h∈l.foldl (jH k) acc,gR co k h)/\kD (l.foldl (jH k) acc)/\(l.foldl (jH k) acc).length<=acc.length+l.length
 |[],acc,a,e,_=>⟨a,e,Ξ⟩
 |g::l,acc,a,e,f=>by
  obtain⟨h1,j,s⟩:=NP hk a e (f g (.head _));obtain⟨p,q,w⟩:=xA hk h1 j λx r=>f x (.tail _ r);exact⟨p,q,by simp only[V7,Y1];omega⟩
end Go.Proofs.YtnhkbjhpbbobaaaGreatDoor
