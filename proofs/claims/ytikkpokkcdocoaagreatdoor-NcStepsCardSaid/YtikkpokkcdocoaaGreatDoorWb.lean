/- own texts, made small by a tool (wip/ holds them as they were written): no statement of the seat. -/
import Derived.Test.YtikkpokkcdocoaaGreatDoorWa
set_option linter.defProp false
set_option linter.unusedVariables false
set_option linter.unusedSimpArgs false
set_option linter.unnecessarySimpa false
open Array renaming getElem?_eq_some_iff→j5,getElem?_toList→R3
open BitVec renaming ofInt→T4
open Bool renaming not_true→X3,not_false→W3,eq_iff_iff→V7,and_eq_true→U3,or_eq_false_iff→U7
open Decidable renaming not_not→X4
open Go renaming Value→x3,World→x4,TypeId→r9,IntKind→n9,Builtin→Z5,Program→V1,FuncId→Q2
open Go.Builtin renaming append_→Z3,len_→W9
open Go.Instr renaming loadAt→u5,fieldAt→u6,storeAt→o9,indexAt→j9,extract→Y1,buildSlice→Y8,sliceAt→U1
open Go.IntKind renaming i64→X9,u64→T3
open Go.Proofs.Tryz renaming prog→x8
open Go.Result renaming andThen→V0
open Go.Sem renaming run_bind→W8,run_pure→V6
open Go.Value renaming int→V8
open Int renaming toNat_natCast→r8
open List renaming getElem?_eq_some_iff→x5,mem_of_getElem?→x6,getElem?_eq_getElem→x7,getElem?_map→v8,getD_eq_getElem?_getD→u4,length_map→u7,take_add_one→u9,length_append→o4,replicate→o5,length_take→o7,take_length→o8,mem_map→l9,mem_append→j0,take_of_length_le→j4,mem_singleton→j6,eq_nil_of_length_eq_zero→c9,getElem?_set_self→b8,length_cons→Z2,map_append→Z4,length_set→Z9,getElem?_take_of_lt→Y0,getElem?_eq_none→Y2,getElem?_append_left→Y3,getElem?_set_ne→Y4,getElem?_append_right→Y5,append_assoc→Y6,ext_getElem?→Y9,getElem?_set→X1,mem_iff_getElem?→X5,drop_eq_getElem_cons→W0,range→W5,flatMap_cons→W6,mem_or_eq_of_mem_set→W7,length_eq_one_iff→V2,append_nil→V3,mem_cons→V4,pairwise_iff_getElem→V9,map_set→U8,map_cons→T0,length_singleton→T1,foldl_cons→S0,set_append_right→S1,getElem_mem→S4,getElem?_drop→S5,mem_filter→S7,map_map→R6,length→Q4
open Nat renaming le_refl→o6,le_trans→Y7,mul_le_mul_right→X0,zero_add→X6,zero_le→X8,mul_one→U4,add_mul→U5,sub_self→T2,lt_of_lt_of_le→T8,pow_le_pow_right→T9,add_sub_cancel_left→Q1,eq_zero_or_pos→Q5
open Ne renaming symm→R2
open Option renaming toList_some→l7,some→b9,isNone_some→Z6,map_some→Z7,map_eq_some_iff→X2,getD_some→V5,map→U2
open Option.some renaming inj→Z0,injEq→X7
open Prod.mk renaming injEq→S3
set_option maxHeartbeats 16000000
open Option renaming some→σ,none→ν
variable{N a gs j n r:Nat}{C ag all ks l sizes t:Λ}{w w':x4}{sv v z:x3}{R S:Nat->Prop}{at_ c e hi k lo y:Int}{cs:List x3}{K:x3->Prop}{toks:List (Λ)}{clean cx cy:Bool}
namespace Go.Proofs.YtikkpokkcdocoaaGreatDoor
open Go Go.Vc Go.RowKit Go.Proofs Go.Proofs.Tryz
set_option maxRecDepth 100000
def Ai{b:Int}(h:cB b=true):bO b=false:=by
 have h:=of_decide_eq_true h;unfold bO;rw[decide_eq_false_iff_not];omega
def Aj{b:Int}{p:Λ}(h:cB b=true):lex (b::p)=lex p:=by
 rw[kq,kq p,List.dropWhile_cons,if_pos h]
def JD{b:Int}{p:Λ}(h:cB b=false)(a:bO b=false):lex (b::p)=([],false):=by
 rw[kq,List.dropWhile_cons,if_neg (by simp[h])];simp only[a,Bool.false_eq_true,if_false]
def Ak{b:Int}{p:Λ}(h:bO b=true):lex (b::p)=match p.dropWhile bO with
  |[]=>([b::p.takeWhile bO],true)
  |c::r=>if cB c then((b::p.takeWhile bO)::(lex (c::r)).1,(lex (c::r)).2)else([],false):=by
 have I:cB b=false:=by
  cases a:cB b with
  |false=>rfl
  |true=>rw[Ai a]at h;cases h
 rw[kq,List.dropWhile_cons,if_neg (by simp[I])];simp only[h,if_true,List.dropWhile_cons,List.takeWhile_cons]
 all_goals (cases List.dropWhile bO p<;>rfl)
def ir:Λ->List (Λ)->Λ->Bool->List (Λ)×Bool
 |[],out,w,op=>(if op then out++[w]else out,true)
 |b::p,out,w,op=>
  if cB b then ir p (if op then out++[w]else out) [] false
  else if bO b then ir p out (if op then w++[b]else[b]) true
  else(out,false)
theorem qh:∀(p:Λ)(out:List (Λ))(w:Λ),ir p out w false=(out++(lex p).1,(lex p).2)/\
  ir p out w true=match p.dropWhile bO with
   |[]=>(out++[w++p.takeWhile bO],true)
   |c::r=>if cB c then(out++[w++p.takeWhile bO]++(lex (c::r)).1,(lex (c::r)).2)else(out,false)
 |[],out,w=>by simp[ir,kq []]
 |b::p,out,w=>by
  by_cases I:cB b=true
  .have hw:=Ai I;refine⟨?_,?_⟩
   .rw[ir,if_pos I,(qh p _ _).1,Aj I];simp
   .rw[ir,if_pos I,if_pos rfl,(qh p _ _).1,List.dropWhile_cons,if_neg (by simp[hw])];simp only[I,if_true,Aj I,List.takeWhile_cons,hw,Bool.false_eq_true,if_false,V3]
  .have e:cB b=false:=by cases h:cB b;rfl;exact absurd h I
   by_cases hw:bO b=true
   .refine⟨?_,?_⟩
    .rw[ir,if_neg I,if_pos hw,if_neg Ξ,(qh p _ _).2,Ak hw];cases p.dropWhile bO with
     |nil=>simp
     |cons c r=>
      simp only;by_cases a:cB c=true
      .simp[a]
      .simp[a]
    .rw[ir,if_neg I,if_pos hw,if_pos rfl,(qh p _ _).2,List.dropWhile_cons,if_pos hw,List.takeWhile_cons,if_pos hw];cases p.dropWhile bO with
     |nil=>simp
     |cons c r=>
      simp only;by_cases a:cB c=true
      .simp[a]
      .simp[a]
   .have f:bO b=false:=by cases h:bO b;rfl;exact absurd h hw
    refine⟨?_,?_⟩
    .rw[ir,if_neg I,if_neg hw,JD e f];simp
    .rw[ir,if_neg I,if_neg hw,List.dropWhile_cons,if_neg hw];simp[e]
def JE(p:Λ):ir p [] [] false=lex p:=by rw[(qh p [] []).1];simp
def oW:Nat->Nat->Λ
 |0,_=>[]
 |k+1,n=>(if n<10 then[]else oW k (n / 10))++[48+((n % 10:Nat):Int)]
def fs(n:Nat):Λ:=oW (n+1) n
theorem Al:∀{k m n:Nat},n<k->n<m->oW k n=oW m n
 |k+1,m+1,n,h1,a=>by
  unfold oW;by_cases h:n<10
  .rw[if_pos h,if_pos h]
  .rw[if_neg h,if_neg h,Al (k:=k) (m:=m) (n:=n / 10) Ω Ω]
def nQ(n:Nat):fs n=(if n<10 then[]else fs (n / 10))++[48+((n % 10:Nat):Int)]:=by
 unfold fs;rw[oW];by_cases h:n<10
 .rw[if_pos h,if_pos h]
 .rw[if_neg h,if_neg h,Al (k:=n) (m:=n / 10+1) Ω Ω]
theorem Am:∀(k n:Nat),n<k->∀b∈fs n,48<=b/\b<=57
 |k+1,n,hk,b,a=>by
  rw[nQ]at a;rcases j0.1 a with a|a
  .by_cases h:n<10
   .rw[if_pos h]at a;simp at a
   .rw[if_neg h]at a;exact Am k (n / 10) Ω b a
  .rw[j6]at a;omega
def An(n:Nat):∀b∈fs n,48<=b/\b<=57:=Am (n+1) n Ω
def qi(l:Λ):Int:=l.foldl (λn b=>10*n+(b-48)) 0
def JF(l:Λ)(b:Int):qi (l++[b])=10*qi l+(b-48):=by simp[qi]
theorem vu:∀(k n:Nat),n<k->qi (fs n)=n
 |k+1,n,hk=>by
  rw[nQ,JF];by_cases h:n<10
  .rw[if_pos h];have:qi []=0:=rfl;omega
  .rw[if_neg h,vu k (n / 10) Ω];omega
def JG{b:Nat}(h:fs a=fs b):a=b:=by
 have h1:=vu (a+1) a Ω;have e:=vu (b+1) b Ω;rw[h,e]at h1;omega
theorem vv:∀(k n:Nat),n<10 ^ k->1<=k->(fs n).length<=k
 |k+1,n,h,_=>by
  rw[nQ,o4];by_cases a:n<10
  .rw[if_pos a];simp
  .rw[if_neg a];have hk:1<=k:=by
    rcases k with _|k
    .simp at h;omega
    .omega
   have e:(10:Nat) ^ (k+1)=10*10 ^ k:=by rw[Nat.pow_succ,Nat.mul_comm]
   have:=vv k (n / 10) Ω hk;simp only[T1];omega
def ej(t:Λ):Λ:=t.flatMap λv=>fs v.toNat++[32]
def JH(t:Λ)(v:Int):ej (t++[v])=ej t++(fs v.toNat++[32]):=by simp[ej]
def Ao{r:Λ}(a:∀b∈l,b≠32):(l++32::r).takeWhile (λb=>decide (b≠32))=l/\(l++32::r).dropWhile (λb=>decide (b≠32))=32::r:=by
 induction l with
 |nil=>simp
 |cons x l e=>
  have f:=a x (.head _);have:=e λb h=>a b (.tail _ h);simp only[List.cons_append,List.takeWhile_cons,List.dropWhile_cons];simp only[f,ne_eq,not_false_eq_true,decide_true,if_true];exact⟨by rw[this.1],this.2⟩
theorem Ap:∀{a b:Λ},(∀x∈a,0<=x)->(∀x∈b,0<=x)->ej a=ej b->a=b
 |[],[],_,_,_=>rfl
 |[],y::b,_,_,h=>by simp[ej]at h
 |x::a,[],_,_,h=>by simp[ej]at h
 |x::a,y::b,j,p,h=>by
  have e:∀(z:Int)(l:Λ),ej (z::l)=fs z.toNat++32::ej l:=λz l=>by simp[ej]
  rw[e,e]at h;have d:∀z:Int,∀c∈fs z.toNat,c≠32:=λz c s=>by have:=An _ c s;omega
  have s1:=Ao (r:=ej a) (d x);have q:=Ao (r:=ej b) (d y);rw[h]at s1;have w:fs x.toNat=fs y.toNat:=s1.1.symm.trans q.1;have A:=s1.2.symm.trans q.2;have C:=j x (.head _);have E:=p y (.head _);have:=JG w;have B:x=y:=Ω
  subst B;rw[Ap (λz f=>j z (.tail _ f)) (λz f=>p z (.tail _ f)) (List.cons.inj A).2]
def Aq(t:Λ):Bytes (ej t):=λb a=>by
 obtain⟨v,_,a⟩:=List.mem_flatMap.1 a;rcases j0.1 a with a|a
 .have:=An _ b a;omega
 .rw[j6]at a;omega
def Ar{b:Int}:ai x8 HE [.int .u8 b] w λv w'=>v= .bool (cB b)/\Ext w w':=by
 refine az func170 ?_;refine aW (λv J=>v= .bool (cB b)/\Ext w J) (λ_ _ h=>h) λax a=>?_;rw[bf,aj];refine⟨λh=>a _ _ ⟨by unfold cB;rw[decide_eq_true (.inl h)],Ext.refl _⟩,λh1=>?_⟩;rw[bf,aj];refine⟨λh=>a _ _ ⟨by unfold cB;rw[decide_eq_true (.inr (.inl h))],Ext.refl _⟩,λe=>?_⟩;rw[bf,aj];refine⟨λh=>a _ _ ⟨by unfold cB;rw[decide_eq_true (.inr (.inr (.inl h)))],Ext.refl _⟩,λf=>?_⟩;rw[bf];refine a _ _ ⟨?_,Ext.refl _⟩;congr 1;unfold cB;rw[V7,decide_eq_true_eq,decide_eq_true_eq];omega
def JI{b:Int}:ai x8 HD [.int .u8 b] w λv w'=>v= .bool (bO b)/\Ext w w':=by
 refine az func169 ?_;refine aW (λv J=>v= .bool (bO b)/\Ext w J) (λ_ _ h=>h) λax a=>?_;rw[cS,aj];refine⟨λh=>?_,λh=>a _ _ ⟨by unfold bO;rw[decide_eq_false Ω],Ext.refl _⟩⟩;rw[lU];refine a _ _ ⟨?_,Ext.refl _⟩;congr 1;unfold bO;rw[V7,decide_eq_true_eq,decide_eq_true_eq];omega
def l4(w:x4)(g:Nat)(a:x3)(p:Λ)(at_:Nat)(bad:Int):Prop:=Bytes p/\p.length<=100000/\at_<=p.length/\ac w g hV [a,Δ (at_:Int),Δ bad]/\∃bq,au .u8 cI w bq a p
def l4.ext{g:Nat}{a:x3}{p:Λ}{at_:Nat}{bad:Int}(h:l4 w g a p at_ bad)(e:Ext w w'):l4 w' g a p at_ bad:=by
 obtain⟨h1,f,j,q,bq,r⟩:=h;exact⟨h1,f,j,q.ext e,bq,r.ext e⟩
def JJ(h:aG .u8 w v l)(A:l.length<=100000):ai x8 Hy [v] w λf w'=>Ext w w'/\∃g,au .u8 cI w' g f l:=by
 have e:=h;obtain⟨B,b,o,base,cap,rfl,C,hm,p,E⟩:=h;refine az func163 ?_;rw[r6 cM.u,cg];refine⟨λq=>⟨Ext.refl _,0,?_⟩,λ_=>?_⟩
 .have:l=[]:=by
   cases base with
   |none=>
        by_cases e:0<l.length
        .have:=p e;cases this
        .exact c9 Ω
   |some a=>cases q
  subst this;exact au.nil _ _ _ _
 .refine jK (k:=1) (cs:=#[]) cM.u cI.i Ω Ψ λg J G j r=>?_;have s:au .u8 cI J g (.slice (σ ⟨g,0,ν⟩) 0 0) []:=au.of (n:=0) (bX.full (by simpa using r) rfl Ξ);refine jo cM.u cI.i rfl s (e.ext j) Θ Θ λf x U H y z=>?_;exact⟨j.put z Ω,x,by simpa using y⟩
def As(h:aG .u8 w v l)(q:Bytes l)(e:l.length<=100000):ai x8 y6 [v] w λr w'=>Ext w w'/\∃g,r=Γ g/\w.heap.size<=g/\∃a,l4 w' g a l 0 (-1):=by
 refine az func108 ?_;refine(JJ h e).mono ?_;rintro a J _ ⟨f,bq,j⟩;rw[dq (cs:=#[a,Δ 0,Δ (-1)]) (by obtain⟨_,_,_,_,_,rfl,_⟩:=j.ls;kernel_rfl)];refine bk λg U x p s=>?_;have s1:=f.size;exact⟨f.trans p,g,rfl,Ω,a,q,e,X8 _,s,bq,j.ext p⟩
def runN(f:Int->Bool)(p:Λ):Nat:=(p.takeWhile f).length
def JK(f:Int->Bool)(p:Λ):runN f p<=p.length:=(List.takeWhile_sublist f).length_le
def Au{f:Int->Bool}{p:Λ}{i:Nat}{b:Int}(hi:p[i]?=σ b)(e:f b=true):i+runN f (p.drop i)=(i+1)+runN f (p.drop (i+1)):=by
 have a:=x5.1 hi;unfold runN;rw[W0 a.1,a.2,List.takeWhile_cons,if_pos e,Z2];omega
def Av{f:Int->Bool}{p:Λ}{i:Nat}(h:∀b,p[i]?=σ b->f b=false):runN f (p.drop i)=0:=by
 unfold runN;cases a:p[i]? with
 |none=>
  rw[List.drop_of_length_le (List.getElem?_eq_none_iff.1 a)];rfl
 |some b=>
  have e:=x5.1 a;rw[W0 e.1,e.2,List.takeWhile_cons,if_neg (by simp[h b a])];rfl
def JL{g at_:Nat}{A:x3}{p:Λ}{bad:Int}(h:l4 w g A p at_ bad):ai x8 HC [Γ g] w λv w'=>v=Δ ((at_+runN cB (p.drop at_):Nat):Int)/\Ext w w':=by
 obtain⟨M,N,B,a,bq,q⟩:=h;refine az func168 ?_;rw[aP hV.p 1 a rfl];refine⟨λv J=>Ext w J/\∃i:Nat,v=Δ (i:Int)/\i<=p.length/\i+runN cB (p.drop i)=at_+runN cB (p.drop at_),λv _=>p.length-(b0 v).toNat,⟨Ext.refl _,at_,rfl,B,rfl⟩,?_⟩;rintro _ J ⟨j,i,rfl,hi,he⟩;refine aW (λv U=>Ext w U/\∃c:Bool,v= .bool c/\(c=true↔ ∃b,p[i]?=σ b/\cB b=true)) ?_ ?_
 .rintro _ U ⟨r,c,rfl,s⟩;rw[cg];refine⟨λC=>?_,λx=>?_⟩
  .obtain⟨b,e,E⟩:=s.1 C;have G:=(x5.1 e).1;rw[aL,wrap_i64 Ω Ω];exact⟨⟨r,i+1,rfl,G,by rw[<-he,Au e E]⟩,by simp only[b0];omega⟩
  .have H:=Av (f:=cB) (p:=p) (i:=i) λb a=>by
    cases I:cB b with
    |false=>rfl
    |true=>rw[s.2 ⟨b,a,I⟩]at x;cases x
   exact⟨by rw[<-he,H,Nat.add_zero],r⟩
 .intro ax y;have z:=a.ext j;rw[aP hV.p 0 z rfl,aU cM.u (q.ext j).ls,aR,aj];refine⟨λO=>?_,λP=>y _ _ ⟨j,false,rfl,⟨λh=>(by cases h),λ⟨b,a,_⟩=>by have:=(x5.1 a).1;omega⟩⟩⟩;have K:i<p.length:=Ω
  have e:p[i]?=σ p[i]:=x7 K;rw[aP hV.p 0 z rfl,bb cM.u cI.i Ψ (q.ext j).ls e];refine Ar.mono ?_;rintro _ Q _ ⟨rfl,L⟩;exact y _ _ ⟨j.trans L,_,rfl,⟨λh=>⟨_,e,h⟩,λ⟨b,a,h⟩=>by rw[e]at a;cases a;exact h⟩⟩
inductive JM where
 |word (from_ to:Nat)
 |none
 |text (at_:Nat)
def gx(p:Λ)(at_:Nat):Nat:=at_+runN cB (p.drop at_)
def iQ(p:Λ)(a:Nat):Nat:=a+runN bO (p.drop a)
open Classical in
noncomputable def oX(p:Λ)(at_:Nat):JM:=
 if iQ p (gx p at_)<p.length/\(∀c,p[iQ p (gx p at_)]?=σ c->cB c=false)then .text (iQ p (gx p at_))else if gx p at_=iQ p (gx p at_)then .none else .word (gx p at_) (iQ p (gx p at_))
def qj(w:x4)(g:Nat)(e:x3)(p:Λ)(at_:Nat)(v:x3)(w':x4):Prop:=
 match oX p at_ with
 | .word a b=>v= .tuple #[bT ((p.take b).drop a),Δ (a:Int),Δ 0]/\ae (λr=>r=g) w w'/\l4 w' g e p b (-1)
 | .none=>∃n:Nat,v= .tuple #[bT [],Δ (n:Int),Δ 2]/\Ext w w'
 | .text b=>v= .tuple #[bT [],Δ (b:Int),Δ 11]/\ae (λr=>r=g) w w'/\l4 w' g e p at_ (b:Int)
def hD{aT:Nat->Prop}{a b c:x4}(h:ae S a b)(k:ae aT b c)(j:∀r,r<a.heap.size->aT r->S r):ae S a c:=
 ⟨Y7 h.size k.size,λr o e I f=>k.aV r o (h.aV r o e I f) I λhu=>f (j r (j5.1 e).1 hu)⟩
def ch{g:Nat}{k:n9}{e p:r9}(h:au k e w g v l)(q:ac w j p cs)(x:e≠p)(s:leads v r):r≠j:=by
 obtain⟨rfl,_⟩:=bR h s;obtain⟨_,⟨rfl,_⟩|⟨_,_,_,f,_⟩⟩:=h
 .obtain⟨a,n,c,h,_⟩:=s;cases h
 .rintro rfl;unfold ac at q f;rw[q]at f;injection f with h1;injection h1 with z y;exact x y.symm
def JN{s t:r9}{e f:n9}{b i:Nat}(p:x8.underlying s=σ (.slice t))(hi:aQ x8 t 1 b z)(h:aG .u8 w v l)(q:i<=j)(r:j<=l.length)(x:∀a,aG .u8 w a ((l.take j).drop i)->K a):V x8 (U1 s v (σ (.int e (i:Int))) (σ (.int f (j:Int))) ν) w K:=by
 refine sj p hi h (nF i _ rfl) (nG j _ rfl) q r λa h'=>x a (aG.of (n:=j-i) ?_);have y:((ints .u8 l).drop (i*1)).take ((j-i)*1)=ints .u8 ((l.take j).drop i):=by
  rw[U4,U4,ints,ints,List.map_drop,List.map_take,List.drop_take]
 rw[y]at h';exact h'
def JO{g at_:Nat}{G:x3}{p:Λ}(h:l4 w g G p at_ (-1)):ai x8 uV [Γ g] w (qj w g G p at_):=by
 obtain⟨R,S,ao,e,bq,H⟩:=id h;refine az func114 ?_;rw[dc r3.u,Z6,aY,aP hV.p 2 e rfl,cS,aj];refine⟨λh=>Ω,λ_=>?_⟩;refine(JL h).mono ?_;rintro _ U _ ⟨rfl,ap⟩;obtain⟨a,V⟩:∃a,a=at_+runN cB (p.drop at_):=⟨_,rfl⟩;rw[<-V];have aq:a<=p.length:=by have:=JK cB (p.drop at_);rw[List.length_drop]at this;omega
 refine⟨λv J=>Ext U J/\∃i:Nat,v=Δ (i:Int)/\a<=i/\i<=p.length/\i+runN bO (p.drop i)=a+runN bO (p.drop a),λv _=>p.length-(b0 v).toNat,⟨Ext.refl _,a,rfl,o6 _,aq,rfl⟩,?_⟩;rintro _ J ⟨W,i,rfl,au,hi,he⟩;have K:=ap.trans W;have X:=e.ext K;have Y:=H.ext K;refine aW (λv z=>Ext J z/\∃c:Bool,v= .bool c/\(c=true↔ ∃b,p[i]?=σ b/\bO b=true)) ?_ ?_
 rotate_left
 .intro ax s;rw[aP hV.p 0 X rfl,aU cM.u Y.ls,aR,aj];refine⟨λav=>?_,λaw=>s _ _ ⟨Ext.refl _,false,rfl,⟨λh=>(by cases h),λ⟨b,e,_⟩=>by have:=(x5.1 e).1;omega⟩⟩⟩;have A:i<p.length:=Ω
  have q:p[i]?=σ p[i]:=x7 A;rw[aP hV.p 0 X rfl,bb cM.u cI.i Ψ Y.ls q];refine JI.mono ?_;rintro _ z _ ⟨rfl,B⟩;exact s _ _ ⟨B,_,rfl,⟨λh=>⟨_,q,h⟩,λ⟨b,e,h⟩=>by rw[q]at e;cases e;exact h⟩⟩
 rintro _ z ⟨B,c,rfl,x⟩;have L:=K.trans B;have Z:=e.ext L;have ab:=H.ext L;rw[cg];refine⟨λM=>?_,λac=>?_⟩
 .obtain⟨b,q,ay⟩:=x.1 M;have aA:=(x5.1 q).1;rw[aL,wrap_i64 Ω Ω];exact⟨⟨W.trans B,i+1,rfl,Ω,aA,by rw[<-he,Au q ay]⟩,by simp only[b0];omega⟩
 have aF:=Av (f:=bO) (p:=p) (i:=i) λb e=>by
  cases I:bO b with
  |false=>rfl
  |true=>rw[x.2 ⟨b,e,I⟩]at ac;cases ac
 have aB:i=a+runN bO (p.drop a):=Ω
 refine aW (λv N=>Ext z N/\∃c:Bool,v= .bool c/\(c=true↔i<p.length/\∀c,p[i]?=σ c->cB c=false)) ?_ ?_
 rotate_left
 .intro ax s;rw[aP hV.p 0 Z rfl,aU cM.u ab.ls,aR,aj];refine⟨λav=>?_,λaw=>s _ _ ⟨Ext.refl _,false,rfl,⟨λh=>(by cases h),λh=>Ω⟩⟩⟩;have A:i<p.length:=Ω
  have q:p[i]?=σ p[i]:=x7 A;rw[aP hV.p 0 Z rfl,bb cM.u cI.i Ψ ab.ls q];refine Ar.mono ?_;rintro _ N _ ⟨rfl,O⟩;rw[bJ];refine s _ _ ⟨O,_,rfl,⟨λh=>⟨A,λc x=>?_⟩,λh=>by rw[h.2 _ q];rfl⟩⟩;rw[q]at x;cases x;cases I:cB p[i]with
  |false=>rfl
  |true=>rw[I]at h;cases h
 rintro _ N ⟨O,aG,rfl,ad⟩;have y:=L.trans O;have C:=e.ext y;have E:=H.ext y;have ae:∀r,leads G r->r≠g:=λr aC=>ch E C Φ aC;have P:oX p at_=open Classical in if i<p.length/\(∀c,p[i]?=σ c->cB c=false)then .text i else if a=i then .none else .word a i:=by
  unfold oX;rw[show gx p at_=a from V.symm,show iQ p a=i from aB.symm]
 rw[cg];refine⟨λM=>?_,λaf=>?_⟩
 .rw[bY,aS hV.p rfl];refine bp (g:=g) (o:=2) ah.i rfl rfl C Ξ λaH ag aI aD=>?_;unfold qj;rw[P,if_pos (ad.1 M)];exact⟨rfl,(y.aa _).trans ag,R,S,ao,aD,bq,br E ag ae⟩
 .have ak:¬(i<p.length/\∀c,p[i]?=σ c->cB c=false):=λh=>by rw[ad.2 h]at af;cases af
  rw[bf,aj];refine⟨λaJ=>?_,λaK=>?_⟩
  .intro aM Q _ _;rw[aP hV.p 0 (C.ext Q) rfl,aU cM.u (E.ext Q).ls];unfold qj;rw[P,if_neg ak,if_pos Ω];exact⟨p.length,rfl,y.trans Q⟩
  .rw[bY,aS hV.p rfl];refine bp (g:=g) (o:=1) ah.i rfl rfl C Ξ λaN al aO am=>?_;have an:=br E al ae;rw[aP hV.p 0 am rfl];refine JN (i:=a) (j:=i) cM.u cI.i an.ls au hi λaQ aE=>?_;rw[vr cM.u cI.u c5.u aE];unfold qj;rw[P,if_neg ak,if_neg Ω];exact⟨rfl,(y.aa _).trans al,R,S,hi,am,bq,an⟩
abbrev bu:af:=λ_=>False
abbrev eo(n:Nat):af:=λr=>n<=r
def JP{a b:Λ}{ba bv:x3}(f:aG .i64 w ba a)(s:aG .i64 w bv b):
  ai x8 HY [ba,bv] w λv w'=>v= .bool (decide (a=b))/\Ext w w':=by
 refine az func199 ?_;rw[aU an.u f,aU an.u s];simp only[bN,aj];refine⟨λp=>⟨?_,Ext.refl _⟩,λz=>?_⟩
 .rw[decide_eq_false];rintro rfl;exact p rfl
 .have z:a.length=b.length:=Ω
  rw[aU an.u f];refine b4.range a.length (λi _ J=>Ext w J/\a.take i=b.take i) f.le ⟨Ext.refl _,rfl⟩ ?_ ?_
  .rintro i t4 J k A ⟨e,q⟩ hk;simp only[aR,aj,ef];refine⟨λ_ U B _ _=>?_,λh=>Ω⟩;have e:=e.trans B;obtain⟨x,r⟩:=aF (l:=a) A;obtain⟨y,j⟩:=aF (l:=b) (i:=i) Ω;rw[bb an.u ah.i Ψ (f.ext e) r,bb an.u ah.i Ψ (s.ext e) j];simp only[bN,aj,aL];refine⟨λp=>⟨?_,e⟩,λC=>hk _ _ ⟨e,vf q r j Ω⟩⟩;rw[decide_eq_false];rintro rfl;rw[r]at j;cases j;exact p rfl
  .rintro _ J k ⟨e,q⟩;simp only[aR,aj];refine⟨λh=>Ω,λ_=>⟨?_,e⟩⟩;rw[decide_eq_true];rwa [o8,z,o8]at q
def jq(rest:List (Λ))(i:Nat):List (Λ):=(W5 i).flatMap λ(v:Nat)=>rest.map λt=>(v:Int)::t
def JQ(rest:List (Λ))(i:Nat):jq rest (i+1)=jq rest i++rest.map λt=>(i:Int)::t:=by
 simp[jq,List.range_succ]
def Aw(rest:List (Λ))(i:Nat):(jq rest i).length=i*rest.length:=by
 simp only[jq,List.length_flatMap,u7];rw[List.map_const',List.length_range,List.sum_replicate_nat]
def oY(l:Λ):Prop:=l.length<=90/\(∀x∈l,1<=x/\x<=32)/\aN l<=1073741824
def ca.p(h:ca l):oY l:=⟨by have:=h.1;omega,h.2,(prod_bound h).2⟩
def oY.tail{s:Λ}(h:oY (k::s)):oY s:=by
 have h1:=h.2.1 k (.head _);have e:=(k3 s λx a=>h.2.1 x (.tail _ a)).1;have f:k*aN s<=1073741824:=h.2.2;have j:=Int.mul_le_mul_of_nonneg_right h1.1 (show 0<=aN s by omega);refine⟨?_,λx a=>h.2.1 x (.tail _ a),Ω⟩;have:=h.1;rw[Z2]at this;omega
theorem vw:∀(s:Λ){sv:x3}{w:x4},aG .i64 w sv s->oY s->
  ai x8 uS [sv] w λv w'=>Ext w w'/\bl (eo w.heap.size) bu w' [v] (bc s)
 |[],sv,w,h,I=>by
  refine az func30 ?_;rw[aU an.u h];simp only[bf,List.length_nil,Int.natCast_zero,decide_true,bQ];refine im (α:=Λ) (a:=[]) (cs:=[.slice ν 0 0]) (A:=bu) b6.u an.i Φ rfl fU λv w' P f _=>⟨P,al.mono f (λr _ h=>?_) λ_ _ h=>h⟩;exact h.elim False.elim id
 |k::s,sv,w,h,I=>by
  have ap:1<=aN (k::s)/\aN (k::s)<=1073741824:=⟨(k3 _ I.2.1).1,I.2.2⟩;have z:oY s:=I.tail;have hk:=I.2.1 k (.head _);have Q:=io z.2.1;have aq:1<=aN s/\aN s<=1073741824:=⟨(k3 _ z.2.1).1,z.2.2⟩;obtain⟨kn,rfl⟩:∃kn:Nat,k=kn:=⟨k.toNat,Ω⟩;have au:kn*(bc s).length<=1073741824:=by
   have e:((kn*(bc s).length:Nat):Int)=aN ((kn:Int)::s):=by
    rw[Int.natCast_mul,Q,aN,Int.toNat_of_nonneg Ω]
   omega
  refine az func30 ?_;rw[aU an.u h];simp only[bf,aj];refine⟨λS=>by simp at S;omega,λ_=>?_⟩;refine Jo (i:=1) rfl an.u ah.i h Ξ λV h'=>?_;refine(vw s h' z).mono ?_;rintro av U _ ⟨E,B⟩;have aw:=l0 B;refine b4.range kn (λi out J=>Ext U J/\bl (eo U.heap.size) bu J [out] (jq (bc s) i)) Ω ⟨Ext.refl _,fU⟩ ?_ ?_
  .rintro i out W X M ⟨q,f⟩ Y;have Z:=bm B q;rw[fq (y:=0) (i:=0) rfl an.u ah.i Ψ (h.ext (E.trans q)) (by rfl)];simp only[aR,aj];refine⟨λ_=>?_,λh=>Ω⟩;rw[gq b6.u Z];refine b4.range (bc s).length (λj out J=>Ext U J/\bl (eo U.heap.size) bu J [out] (jq (bc s) i++((bc s).take j).map λt=>(i:Int)::t)) Ω ⟨q,by simpa using f⟩ ?_ ?_
   .rintro j out p aa ab ⟨C,f⟩ ac;simp only[aR,aj];refine⟨λ_=>?_,λh=>Ω⟩;obtain⟨x,G⟩:=aF (l:=(bc s)) ab;have ax:x.length<=100:=by
     have:=vi G;have:=z.1;omega
    refine gL rfl rfl b6.u an.i Ψ (bm B C) G λu hu=>?_;refine et an.u ah.i rfl λa ga ay aA H ad=>?_;refine jo an.u ah.i rfl ad (dJ (bm hu H)) Θ Θ λb aB ae aC K af=>?_;have aD:=H.size;have N:Ext p ae:=H.then af (by rintro r B rfl;omega);have aE:=N.size;refine im (α:=Λ) (a:=(i:Int)::x) (cs:=[b]) (A:=eo p.heap.size) (R:=bu) b6.u an.i Φ (kp (k2 K (R:=bu))) (al.mono (k2 K) (λr _ h=>by subst h;show p.heap.size<=r;omega) λ_ _ h=>h) λc aH L _ ag=>?_;have O:=N.trans L;have aI:=L.size;refine mH (α:=Λ) (a:=(i:Int)::x) (A:=eo p.heap.size) b6.u an.i rfl (bm (l0 f) O) ag (bm (al.mono (k2 K) (λr _ h=>by subst h;show p.heap.size<=r;omega) λ_ _ h=>h) L) (λr _ h h'=>?_) ?_ ?_ λV aJ ak am=>?_
    .rcases h' with h'|h'
     .have:=h.2;have:p.heap.size<=r:=h';omega
     .exact h'
    .have ao:(jq (bc s) i++((bc s).take j).map λt=>(i:Int)::t).length+1<=kn*(bc s).length:=by
      simp only[o4,Aw,u7,o7];have:(i+1)*(bc s).length<=kn*(bc s).length:=X0 _ M;rw[U5]at this;omega
     omega
    .have ao:(jq (bc s) i++((bc s).take j).map λt=>(i:Int)::t).length+1<=kn*(bc s).length:=by
      simp only[o4,Aw,u7,o7];have:(i+1)*(bc s).length<=kn*(bc s).length:=X0 _ M;rw[U5]at this;omega
     omega
    .simp only[aL];have aK:=C.size;refine ac _ _ ⟨(C.trans O).then am (λr B h=>?_),?_⟩
     .have:=h.1;have:U.heap.size<=r:=this;omega
     .have e:jq (bc s) i++((bc s).take (j+1)).map (λt=>(i:Int)::t)=(jq (bc s) i++((bc s).take j).map λt=>(i:Int)::t)++[(i:Int)::x]:=by
       rw[u9,G];simp
      rw[e];refine al.mono ak (λr _ h=>?_) λ_ _ h=>h;show U.heap.size<=r;rcases h with h|h|h
      .exact h.1
      .have:p.heap.size<=r:=h;omega
      .omega
   .rintro out p aa ⟨C,f⟩;simp only[aR,aj,aL];refine⟨λh=>Ω,λ_=>Y _ _ ⟨C,?_⟩⟩;rw[JQ];simpa using f
  .rintro out W X ⟨q,f⟩;rw[fq (y:=0) (i:=0) rfl an.u ah.i Ψ (h.ext (E.trans q)) (by rfl)];simp only[aR,aj];refine⟨λh=>Ω,λ_=>⟨E.trans q,?_⟩⟩;have aM:=E.size;have e:bc ((kn:Int)::s)=jq (bc s) kn:=by simp[bc,jq]
   rw[e];exact al.mono f (λr _ h=>by have:U.heap.size<=r:=h;show w.heap.size<=r;omega) λ_ _ h=>h
def vx(s:Λ)(h:aG .i64 w sv s)(I:ca s):ai x8 uS [sv] w λv w'=>Ext w w'/\bl (eo w.heap.size) bu w' [v] (bc s):=vw s h I.p
def JR:∀(x:Nat),0<x->∃k m,x=2 ^ k*(2*m+1):=by
 intro x;induction x using Nat.strongRecOn with
 |_ x a=>
  intro h;by_cases e:x % 2=1
  .exact⟨0,x / 2,Ω⟩
  .obtain⟨k,m,hk⟩:=a (x / 2) Ω Ω;refine⟨k+1,m,?_⟩;rw[Nat.pow_succ,Nat.mul_assoc,Nat.mul_comm 2,<-Nat.mul_assoc,<-hk];omega
def vy{k m i:Nat}:(2 ^ k*(2*m+1)).testBit i=(decide (i=k)||decide (k<i)&&m.testBit (i-k-1)):=by
 rw[Nat.testBit_two_pow_mul];by_cases h:k<=i
 .obtain⟨d,rfl⟩:=Nat.exists_eq_add_of_le h;cases d with
  |zero=>simp
  |succ d=>
   have e:(2*m+1).testBit (d+1)=m.testBit d:=by rw[Nat.testBit_succ];congr 1;omega
   simp[e,show k+(d+1)-k=d+1 by omega]
 .simp[h,show i≠k by omega,show¬k<i by omega]
def JS{k m:Nat}(p:2 ^ k*(2*m+1)<2 ^ 64):(2 ^ k*(2*m+1)) &&& (2 ^ 64-2 ^ k*(2*m+1))=2 ^ k:=by
 have q:0<2 ^ k:=Nat.two_pow_pos k;have hk:k<64:=by
  rcases Nat.lt_or_ge k 64 with h|h
  .exact h
  .have:2 ^ 64<=2 ^ k:=T9 Ω h;have:2 ^ k*1<=2 ^ k*(2*m+1):=Nat.mul_le_mul_left _ Ω;omega
 have e:2 ^ k*(2*m+1)=(2 ^ k*(2*m)+(2 ^ k-1))+1:=by rw[Nat.mul_add];omega
 apply Nat.eq_of_testBit_eq;intro i;rw[Nat.testBit_and,vy]
 conv=>lhs;rhs;rw[e]
 rw[Nat.testBit_two_pow_sub_succ Ω,Nat.testBit_two_pow_mul_add _ Ω,Nat.testBit_two_pow];by_cases h1:i=k
 .subst h1;simp[hk]
 .by_cases a:k<i
  .have f:(2*m).testBit (i-k)=m.testBit (i-k-1):=by
    obtain⟨d,j⟩:∃d,i-k=d+1:=⟨i-k-1,Ω⟩;rw[j,Nat.testBit_succ];congr 1;omega
   simp[h1,a,show¬i<k by omega,f,show k≠i by omega];intro h;simp[h]
  .simp[h1,a,show k≠i by omega]
def jO(a c:Nat):Nat:=(BitVec.ofNat 64 a &&& ~~~BitVec.ofNat 64 c).toNat
def Ax(a c i:Nat):(jO a c).testBit i=(decide (i<64)&&(a.testBit i&& !c.testBit i)):=by
 unfold jO;rw[BitVec.testBit_toNat,BitVec.getLsbD_and,BitVec.getLsbD_not,BitVec.getLsbD_ofNat,BitVec.getLsbD_ofNat];by_cases h:i<64<;>simp[h]
def JT(a c:Nat):jO a c<2 ^ 64:=BitVec.isLt _
def JU(h:∀i,n<=i->a.testBit i=false):a<2 ^ n:=Nat.lt_pow_two_of_testBit a h
def Ay{i:Nat}(h:a<2 ^ n)(hi:n<=i):a.testBit i=false:=Nat.testBit_lt_two_pow (T8 h (T9 Ω hi))
def fW(b n:Nat):List Nat:=(W5 n).filter λi=>b.testBit i
def Az(b n:Nat):(fW b n).Pairwise (·< ·):=List.Pairwise.filter _ List.pairwise_lt_range
def vz{b i:Nat}:i∈fW b n↔i<n/\b.testBit i=true:=by simp[fW]
def nR:Option Nat->Int
 |some i=>(i:Int)
 |none=>-1
def jP(b n:Nat)(v:Int):Int:=nR ((W5 n).find? (λi:Nat=>decide (v<(i:Int))&&b.testBit i))
theorem AA:∀{l:List Nat}{k x:Nat},l.Pairwise (·< ·)->l[k]?=σ x->l.filter (λi=>decide (x<i))=l.drop (k+1)
 |y::l,0,x,h,hk=>by
  simp at hk;subst hk;rw[List.pairwise_cons]at h;simp only[List.drop_succ_cons,List.drop_zero];rw[List.filter_cons_of_neg Ξ,List.filter_eq_self.2 λa e=>by simpa using h.1 a e]
 |y::l,k+1,x,h,hk=>by
  simp only[List.getElem?_cons_succ]at hk;rw[List.pairwise_cons]at h;have:y<x:=h.1 x (x6 hk);rw[List.filter_cons_of_neg Θ,List.drop_succ_cons];exact AA h.2 hk
def AB(b n:Nat)(v:Int):jP b n v=nR (((fW b n).filter (λi:Nat=>decide (v<i))).head?):=by
 unfold jP fW;rw[<-List.head?_filter,List.filter_filter]
def JV(b n:Nat):jP b n (-1)=nR ((fW b n)[0]?):=by
 rw[AB,List.filter_eq_self.2 (λa _=>Θ),List.head?_eq_getElem?]
def AC{b k x:Nat}(h:(fW b n)[k]?=σ x):jP b n x=nR ((fW b n)[k+1]?):=by
 have e:(λi:Nat=>decide ((x:Int)<i))=λi=>decide (x<i):=by funext i;simp
 rw[AB,e,AA (Az b n) h,List.head?_eq_getElem?,S5]
def JW{b:Nat}{v:Int}(h:(n:Int)-1<=v):jP b n v= -1:=by
 unfold jP;rw[List.find?_eq_none.2 λi hi=>by simp at hi ⊢;omega];rfl
def JX{b k m s:Nat}(y:n<=64)(f:b<2 ^ n)(e:∀i,r.testBit i=(decide (s<=i)&&b.testBit i))(hk:r=2 ^ k*(2*m+1)){v:Int}(z:v+1=s):jP b n v=k:=by
 have p:r.testBit k=true:=by rw[hk,vy];simp
 have q:∀i,i<k->r.testBit i=false:=λi hi=>by rw[hk,vy];simp[show i≠k by omega,show¬k<i by omega]
 have a:=p;rw[e]at a;simp at a;have w:k<n:=by
  rcases Nat.lt_or_ge k n with h|h
  .exact h
  .rw[Ay f h]at a;cases a.2
 unfold jP;have:(W5 n).find? (λi:Nat=>decide (v<(i:Int))&&b.testBit i)=σ k:=by
  rw[List.find?_range_eq_some];refine⟨by simp[a.2];omega,by simpa using w,λj x=>?_⟩;have:=q j x;rw[e]at this;simp only[Bool.not_eq_true',Bool.and_eq_false_iff,decide_eq_false_iff_not]at this ⊢;rcases this with h|h
  .exact .inl Ω
  .exact .inr h
 rw[this];rfl
def JY{b s:Nat}(a:∀i,r.testBit i=(decide (s<=i)&&b.testBit i))(hk:r=0){v:Int}(e:v+1=s):jP b n v= -1:=by
 unfold jP;rw[List.find?_eq_none.2]
 .rfl
 .intro i hi;have:=a i;rw[hk,Nat.zero_testBit]at this;simp at hi this ⊢;intro h;exact this Ω
section
variable{P:V1}{w:x4}{t:r9}{cx cy:Bool}{a b:Nat}{K:x3->Prop}
def mL(a:Nat):T4 64 (a:Int)=BitVec.ofNat 64 a:=BitVec.ofInt_natCast _ _
def AD(x:BitVec 64):T3.wrap (x.toNat:Int)=(x.toNat:Int):=by
 have:=x.isLt;rw[wrap_u64 Ω Ω]
def u64_and(f:a<2 ^ 64)(h:b<2 ^ 64):V P (aJ .and t cx cy (.int .u64 a) (.int .u64 b)) w K=K (.int .u64 ((a &&& b:Nat):Int)):=V.of λw' _=>by
 have e:(T4 64 (a:Int) &&& T4 64 (b:Int)).toNat=a &&& b:=by
  rw[mL,mL,BitVec.toNat_and,BitVec.toNat_ofNat,BitVec.toNat_ofNat,Nat.mod_eq_of_lt f,Nat.mod_eq_of_lt h]
 have hw:T3.wrap ((a &&& b:Nat):Int)=((a &&& b:Nat):Int):=by rw[<-e];exact AD _
 have j:(T4 T3.bits (a:Int) &&& T4 T3.bits (b:Int)).toNat=a &&& b:=e;simp only[aJ,eqGuard,binOp,Op.intBits,j,hw];rfl
def AE:V P (aJ .andNot t cx cy (.int .u64 a) (.int .u64 b)) w K=K (.int .u64 (jO a b:Int)):=V.of λw' _=>by
 have e:(T4 64 (a:Int) &&& ~~~T4 64 (b:Int)).toNat=jO a b:=by rw[mL,mL];rfl
 have hw:T3.wrap (jO a b:Int)=(jO a b:Int):=AD _;have f:(T4 T3.bits (a:Int) &&& ~~~T4 T3.bits (b:Int)).toNat=jO a b:=e;simp only[aJ,eqGuard,binOp,Op.intBits,f,hw];rfl
def k8{k:n9}(f:n<64):V P (aJ .shr t cx cy (.int .u64 (a:Int)) (.int k (n:Int))) w K=K (.int .u64 ((a / 2 ^ n:Nat):Int)):=V.of λw' _=>by
 have e:(a:Int).fdiv (2 ^ min n T3.bits)=((a / 2 ^ n:Nat):Int):=by
  have:min n T3.bits=n:=Nat.min_eq_left (by show n<=64;omega);rw[this,Int.fdiv_eq_ediv_of_nonneg _ (by exact Int.le_of_lt (Int.pow_pos Ω))];simp
 simp only[aJ,eqGuard,binOp,Op.shift,r8,e];simp[show¬(n:Int)<0 by omega]
def vA{k:n9}(a:n<64):V P (aJ .shl t cx cy (.int .u64 1) (.int k (n:Int))) w K=K (.int .u64 ((2 ^ n:Nat):Int)):=by
 rw[zx Ω];have e:min ((n:Int).toNat) T3.bits=n:=Nat.min_eq_left (by show n<=64;omega);have f:2 ^ n<2 ^ 64:=Nat.pow_lt_pow_right Ω a;rw[e,Int.one_mul,show((2:Int) ^ n)=((2 ^ n:Nat):Int) by simp];generalize 2 ^ n=q at f ⊢;rw[wrap_u64 Ω Ω]
end
def sq:Λ:=[0,1,56,2,57,49,28,3,61,58,42,50,38,29,17,4,62,47,59,36,45,43,51,22,53,39,33,30,24,18,12,5,63,55,48,27,60,41,37,16,46,35,44,21,52,32,23,11,54,26,40,15,34,20,31,10,25,14,19,9,13,8,7,6]
def Laid(w:x4):Prop:=w.rangeAt 0 0 (ints .u8 sq)
def Laid.ext(h:Laid w)(a:Ext w w'):Laid w':=nE a h
def JZ:∀k:Nat,k<64->sq[(2 ^ k*285870213051353865 % 2 ^ 64) / 2 ^ 58]?=σ (k:Int):=Φ
def J0{x k m:Nat}(f:Laid w)(j:x=2 ^ k*(2*m+1))(p:x<2 ^ 64):
  ai x8 Hq [.int .u64 (x:Int)] w λv w'=>v=Δ (k:Int)/\Ext w w':=by
 have z:0<2 ^ k:=Nat.two_pow_pos k;have A:2 ^ k<=x:=by
  have:2 ^ k*1<=2 ^ k*(2*m+1):=Nat.mul_le_mul_left _ Ω;omega
 have hk:k<64:=by
  rcases Nat.lt_or_ge k 64 with h|h
  .exact h
  .have:2 ^ 64<=2 ^ k:=T9 Ω h;omega
 refine az func150 ?_;simp only[bf,aj];refine⟨λh=>Ω,λ_=>?_⟩;rw[lV];have q:T3.wrap (0-(x:Int))=((2 ^ 64-x:Nat):Int):=by
  simp only[n9.wrap,n9.bits,n9.signed];simp;omega
 rw[q,u64_and p Ω,j,JS Ω];simp only[gp];have r:T3.wrap (((2 ^ k:Nat):Int)*285870213051353865)=((2 ^ k*285870213051353865 % 2 ^ 64:Nat):Int):=by
  have e:((2 ^ k:Nat):Int)*285870213051353865=((2 ^ k*285870213051353865:Nat):Int):=Ξ
  rw[e];simp only[n9.wrap,n9.bits,n9.signed];simp
 have s:(58:Int)=((58:Nat):Int):=rfl;rw[r,s,k8 Ω];have a:=JZ k hk;have y:=(x5.1 a).1;rw[ve (t:=r4) r4.u cI.i y,aD Ψ (by rw[U4];exact f _ _ (k1 a)),fp cI.u ah.u,wrap_i64 Ω Ω];exact⟨rfl,Ext.refl _⟩
def iR(b n:Nat):x3:=.agg #[.int .u64 (b:Int),Δ (n:Int)]
def k9(b n:Nat):Prop:=n<=32/\b<2 ^ n
def AF(s i:Nat):(2 ^ s-1).testBit i=decide (i<s):=Nat.testBit_two_pow_sub_one s i
def AG{b:Nat}{v:Int}:ai x8 He [iR b n,Δ v] w λr w'=>r= .bool (decide (0<=v/\v<n))/\Ext w w':=by
 refine az func137 ?_;refine bk λg J f a e=>?_;simp only[ct,cS,aj];refine⟨λh=>?_,λh=>⟨?_,a⟩⟩
 .rw[aH b5.p 1 e rfl];simp only[aR];exact⟨by simp[h],a⟩
 .rw[decide_eq_false];omega
def vB{b:Nat}:ai x8 Gz [iR b n] w λr w'=>r=Δ n/\Ext w w':=by
 refine az func68 ?_;refine bk λg J f a e=>?_;rw[aH b5.p 1 e rfl];exact⟨rfl,a⟩
def J1{n:Int}:ai x8 Gx [Δ n] w λr w'=>Ext w w'/\r=(if 1<=n/\n<=32 then .tuple #[iR (2 ^ n.toNat-1) n.toNat,Δ 0]else .tuple #[iR 0 0,Δ 1]):=by
 refine az func66 ?_;refine bw b5.i λg J z f j=>?_;refine aW (λv U=>v= .bool (decide (¬(1<=n/\n<=32)))/\J=U) ?_ ?_
 .rintro _ _ ⟨rfl,rfl⟩;simp only[aj];refine⟨λh=>?_,λh=>?_⟩
  .rw[dq (cs:=#[.int .u64 0,Δ 0]) Ψ];refine b1 (vs:=[.int .u64 0,Δ 0]) b5.i rfl rfl (by intro u hu;simp at hu;rcases hu with rfl|rfl<;>rfl) j λs a x e=>?_;rw[fb b5.p b5.i rfl e.range,if_neg h];exact⟨f.then a (by rintro r y rfl;omega),rfl⟩
  .have h:1<=n/\n<=32:=X4.1 h;obtain⟨m,rfl⟩:∃m:Nat,n=m:=⟨n.toNat,Ω⟩;rw[vA Ω];have A:0<2 ^ m:=Nat.two_pow_pos m;have B:2 ^ m<=2 ^ 32:=T9 Ω Ω;simp only[ed];rw[wrap_u64 Ω Ω,show(((2 ^ m:Nat):Int)-1)=((2 ^ m-1:Nat):Int) by omega];rw[dq (cs:=#[.int .u64 ((2 ^ m-1:Nat):Int),Δ m]) Ψ];refine b1 (vs:=[.int .u64 ((2 ^ m-1:Nat):Int),Δ m]) b5.i rfl rfl (by intro u hu;simp at hu;rcases hu with rfl|rfl<;>rfl) j λs a x e=>?_;rw[fb b5.p b5.i rfl e.range,if_pos h];exact⟨f.then a (by rintro r y rfl;omega),rfl⟩
 .intro ax q;simp only[aR,bS,aj];refine⟨λh=>q _ _ ⟨?_,rfl⟩,λh=>q _ _ ⟨?_,rfl⟩⟩
  .rw[decide_eq_true];omega
  .congr 1;simp;omega
def AH{b:Nat}{v:Int}(y:k9 b n)(z:Laid w)(G: -1<=v):ai x8 GM [iR b n,Δ v] w λr w'=>r=Δ (jP b n v)/\Ext w w':=by
 obtain⟨H,e⟩:=y;have f:b<2 ^ 64:=T8 e (T9 Ω Ω);refine az func83 ?_;refine bk λg J K a j=>?_;rw[aH b5.p 1 j rfl];simp only[ed,cS,aj];rw[wrap_i64 Ω Ω];refine⟨λh=>⟨by rw[JW h],a⟩,λL=>?_⟩;rw[aH b5.p 0 j rfl];refine aW (λu U=>J=U/\∃r s:Nat,u= .int .u64 (r:Int)/\r<2 ^ 64/\v+1=s/\∀i,r.testBit i=(decide (s<=i)&&b.testBit i)) ?_ ?_
 .rintro _ _ ⟨rfl,r,s,rfl,A,I,q⟩;simp only[bf,aj];refine⟨λB=>⟨by rw[JY q Ω I],a⟩,λB=>?_⟩;obtain⟨k,m,hk⟩:=JR r Ω;refine(J0 (z.ext a) hk A).mono ?_;rintro _ M _ ⟨rfl,C⟩;exact⟨by rw[JX Ω e q hk I],a.trans C⟩
 .intro ax x;refine⟨λh=>?_,λh=>?_⟩
  .obtain⟨s,rfl⟩:∃s:Nat,v=s:=⟨v.toNat,Ω⟩;have N:0<2 ^ (s+1):=Nat.two_pow_pos _;have O:2 ^ (s+1)<=2 ^ 32:=T9 Ω Ω;simp only[aL];rw[wrap_i64 Ω Ω,show((s:Int)+1)=((s+1:Nat):Int) by omega,vA Ω];simp only[ed];rw[wrap_u64 Ω Ω,show(((2 ^ (s+1):Nat):Int)-1)=((2 ^ (s+1)-1:Nat):Int) by omega,AE];refine x _ _ ⟨rfl,_,s+1,rfl,JT _ _,Ω,λi=>?_⟩;rw[Ax,AF];by_cases E:i<64
   .by_cases hi:s+1<=i
    .simp[E,hi,show¬i<s+1 by omega]
    .simp[hi,show i<s+1 by omega]
   .rw[Ay f Ω];simp
  .exact x _ _ ⟨rfl,b,0,rfl,f,Ω,λi=>Ξ⟩
def J2{b:Nat}(e:k9 b n)(f:Laid w):ai x8 GL [iR b n] w λr w'=>r=Δ (jP b n (-1))/\Ext w w':=by
 refine az func82 ?_;refine bk λg J q a h=>?_;rw[bE b5.p b5.i rfl h.range];refine(AH e (f.ext a) Ω).mono ?_;rintro _ U _ ⟨rfl,j⟩;exact⟨rfl,a.trans j⟩
def J3{b:Nat}{v:Int}(H:k9 b n):ai x8 GA [iR b n,Δ v] w λr w'=>r=iR (if 0<=v/\v<n then jO b (2 ^ v.toNat)else b) n/\Ext w w':=by
 refine az func69 ?_;refine bk λg J R x y=>?_;refine bw b5.i λI U S z A=>?_;have s1:=x.size;have V:=y.lt;refine dh (λe=>∃f,ac e g b5 [.int .u64 ((f:Nat):Int),Δ (n:Int)]/\ac e I b5 [.int .u64 0,Δ 0]/\Ext w e/\f=(if 0<=v/\v<n then jO b (2 ^ v.toNat)else b)) ?_ ?_
 .rintro e ⟨f,K,L,M,rfl⟩;rw[bE b5.p b5.i rfl K.range];refine b1 (vs:=[_,_]) b5.i rfl rfl (by intro u hu;simp at hu;rcases hu with rfl|rfl<;>rfl) L λW N X O=>?_;rw[fb b5.p b5.i rfl O.range];exact⟨rfl,M.then N (by rintro r P rfl;omega)⟩
 .intro ax B;have j:=y.ext z;rw[bE b5.p b5.i rfl j.range];refine AG.mono ?_;rintro _ Y _ ⟨rfl,a⟩;have C:=(x.trans z).trans a;simp only[aj,ef];refine⟨λh Z q _ _=>?_,λh=>B _ ⟨b,j.ext a,A.ext a,C,by rw[if_neg h]⟩⟩;have E:=(j.ext a).ext q;rw[aH b5.p 0 E rfl];obtain⟨s,rfl⟩:∃s:Nat,v=s:=⟨v.toNat,Ω⟩;have ab:=H.1;rw[vA Ω,AE,aS b5.p rfl];refine bp fC.i rfl rfl E (by simp[iR,x3.cells]) λad G ae Q=>?_;refine B _ ⟨_,Q,((A.ext a).ext q).aa G Ω,(C.trans q).then G (by rintro r P rfl;omega),?_⟩;rw[if_pos h,r8]
def oZ(v:Int):Nat:=if v<0 then 0 else 40-v.toNat
def vC(x:Nat):oZ x=40-x:=by unfold oZ;rw[if_neg Ω];omega
def l5{b g:Nat}(e:k9 b n):
  oG x8 jk [Γ g] (fW b n).length (λk vs _=>∃v:Nat,(fW b n)[k]?=σ v/\vs=[Δ (v:Int)])
   (λw=>ac w g b5 [.int .u64 (b:Int),Δ (n:Int)]/\Laid w):=by
 refine⟨jk.enters,λl ax Q w r _ E ⟨s,z⟩ G=>?_⟩;have R:=e.1;refine p5 func81 ?_;rw[bE b5.p b5.i rfl s.range];refine(J2 e z).free.mono ?_;rintro _ J ⟨H,rfl,f⟩;refine⟨λv U=>∃k,k<=(fW b n).length/\v=Δ (nR (fW b n)[k]?)/\ax k U/\ac U g b5 [.int .u64 (b:Int),Δ (n:Int)]/\Laid U,
  λv _=>oZ (b0 v),⟨0,X8 _,by rw[JV],r 0 _ _ f H.b G,s.ext f,z.ext f⟩,?_⟩
 rintro _ U ⟨k,hk,rfl,A,I,K⟩;cases a:(fW b n)[k]? with
 |none=>
  have:k=(fW b n).length:=by
   have:=List.getElem?_eq_none_iff.1 a;omega
  subst this;simp only[nR,cS,aj];exact⟨λh=>Ω,λ_=>.inl A⟩
 |some x=>
  have j:=(x5.1 a).1;have S:=(vz.1 (x6 a)).1;simp only[nR,cS,aj];refine⟨λ_=>?_,λh=>Ω⟩;refine⟨rfl,(E k _ U j ⟨I,K⟩ ⟨x,a,rfl⟩ A).mono ?_⟩;rintro _ V (⟨rfl,⟨B,C⟩,L⟩|⟨rfl,M⟩)
  .simp only[bJ,X3,aY];rw[bE b5.p b5.i rfl B.range];refine(AH e C Ω).free.mono ?_;rintro _ W ⟨N,rfl,q⟩;refine⟨⟨k+1,j,congrArg (V8 .i64) (AC a),r _ _ _ q N.b L.1,B.ext q,C.ext q⟩,?_⟩;rw[AC a];cases O:(fW b n)[k+1]? with
   |none=>show 0<oZ x;rw[vC];omega
   |some y=>
    have X:x<y:=by
     have h1:=(x5.1 a).2;have P:=(x5.1 O).2;rw[<-h1,<-P];exact V9.1 (Az b n) k (k+1) _ _ Ω
    show oZ y<oZ x;rw[vC,vC];omega
  .simp only[bJ,W3,bQ];exact .inr ⟨k,j,M⟩
def l6{b:Nat}:ai x8 yZ [iR b n] w λr w'=>Ext w w'/\∃g,r= .func (.func jk) #[] #[Γ g]/\w.heap.size<=g/\ac w' g b5 [.int .u64 (b:Int),Δ (n:Int)]:=by
 refine az func36 ?_;refine bk λg J f a e=>?_;rw[k0];exact⟨a,g,rfl,Ω,e⟩
abbrev dE(s:Λ):Prop:=∀x∈s,1<=x/\x<=32
def dE.tail{s:Λ}(h:dE (k::s)):dE s:=λx a=>h x (.tail _ a)
def l8{s:Λ}(h:dE s):1<=aN s:=(k3 s h).1
theorem o0:∀(s t:Λ)(m:Int),cj s t m=(cj s t 0).map λn=>n+m*aN s
 |[],[],m=>by simp[cj,aN]
 |k::s,v::t,m=>by
  unfold cj;split
  .rw[o0 s t (m*k+v),o0 s t (0*k+v)];simp only[Option.map_map,aN];congr 1;funext n;simp only[Function.comp];rw[Int.add_mul,Int.add_mul,<-Int.mul_assoc];simp;omega
  .rfl
 |[],_::_,_=>rfl
 |_::_,[],_=>rfl
theorem vD{L j:Nat}{rest:List (Λ)}(p:rest.length=L):∀{kn v:Nat},v<kn->∀{x:Λ},rest[j]?=σ x->
  ((W5 kn).flatMap λ(v:Nat)=>rest.map λt=>(v:Int)::t)[v*L+j]?=σ ((v:Int)::x)
 |0,v,h,_,_=>Ω
 |kn+1,v,h,x,e=>by
  have q:=(x5.1 e).1;have f:((W5 kn).flatMap λ(v:Nat)=>rest.map λt=>(v:Int)::t).length=kn*L:=by
   simp only[List.length_flatMap,u7,p];rw[List.map_const',List.length_range,List.sum_replicate_nat]
  rw[List.range_succ,List.flatMap_append];by_cases a:v<kn
  .have:(v+1)*L<=kn*L:=X0 _ a;rw[U5]at this;rw[Y3 (by rw[f];omega)];exact vD p a e
  .have a:v=kn:=Ω
   subst a;rw[Y5 (by rw[f];omega),f,show v*L+j-v*L=j by omega];simp[e]
theorem iS:∀{s:Λ},dE s->∀{i:Nat}{t:Λ},(bc s)[i]?=σ t->cj s t 0=σ (i:Int)
 |[],_,i,t,h=>by
  cases i with
  |zero=>simp[bc]at h;subst h;rfl
  |succ i=>simp[bc]at h
 |k::s,I,i,t,h=>by
  have hk:=I k (.head _);have a:=io I.tail;have w:=l8 I.tail;obtain⟨kn,rfl⟩:∃kn:Nat,k=kn:=⟨k.toNat,Ω⟩;have hi:=(x5.1 h).1;rw[io I,aN,Int.toNat_mul Ω Ω,<-a,r8]at hi;have p:0<(bc s).length:=Ω
  have e:i / (bc s).length<kn:=Nat.div_lt_of_lt_mul (by rw[Nat.mul_comm];exact hi);have q:i % (bc s).length<(bc s).length:=Nat.mod_lt _ p;obtain⟨x,f⟩:∃x,(bc s)[i % (bc s).length]?=σ x:=⟨_,x7 q⟩;have j:=vD (kn:=kn) rfl e f;rw[Nat.mul_comm,Nat.div_add_mod]at j;have h':((W5 ((kn:Int).toNat)).flatMap λ(v:Nat)=>(bc s).map λt=>(v:Int)::t)[i]?=σ t:=h;rw[r8,j]at h';cases h';unfold cj;rw[if_pos ⟨Int.natCast_nonneg _,Int.ofNat_lt.2 e⟩,o0,iS I.tail f];simp only[Z7,X7,Int.zero_mul,Int.zero_add];have r:aN s=((bc s).length:Int):=by rw[a];omega
  rw[r,<-Int.natCast_mul,<-Int.natCast_add];congr 1;rw[Nat.mul_comm,Nat.add_comm,Nat.div_add_mod]
theorem mM:∀{s:Λ},dE s->∀{t:Λ}{n:Int},cj s t 0=σ n->(bc s)[n.toNat]?=σ t
 |[],_,[],n,h=>by simp[cj]at h;subst h;rfl
 |k::s,I,v::t,n,h=>by
  have hk:=I k (.head _);have j:=io I.tail;have w:=l8 I.tail;obtain⟨kn,rfl⟩:∃kn:Nat,k=kn:=⟨k.toNat,Ω⟩;unfold cj at h;split at h
  .rename_i x;rw[o0]at h;cases f:cj s t 0 with
   |none=>rw[f]at h;cases h
   |some q=>
    rw[f]at h;simp only[Z7,X7,Int.zero_mul,Int.zero_add]at h;have p:=k4 I.tail f;simp only[Int.zero_mul,Int.zero_add,Int.one_mul]at p;obtain⟨a,rfl⟩:∃a:Nat,v=a:=⟨v.toNat,Ω⟩;have r:=vD (kn:=kn) (v:=a) rfl Ω (mM I.tail f);have e:n.toNat=a*(bc s).length+q.toNat:=by
     rw[<-h,j];have:((a*(aN s).toNat:Nat):Int)=(a:Int)*aN s:=by rw[Int.natCast_mul,Int.toNat_of_nonneg Ω]
     omega
    rw[e];show((W5 ((kn:Int).toNat)).flatMap λ(v:Nat)=>(bc s).map λt=>(v:Int)::t)[_]?=_;rw[r8];exact r
  .cases h
 |[],_,_::_,_,h=>by cases h
 |_::_,_,[],_,h=>by cases h
theorem AI:∀(s:Λ),dE s->∀(n c:Int),cN s (n+c*aN s)=cN s n
 |[],_,_,_=>rfl
 |k::s,I,n,c=>by
  have a:=l8 I.tail;simp only[cN,aN];rw[<-Int.mul_assoc,AI s I.tail,Int.add_mul_ediv_right _ _ Ω,Int.add_mul_emod_self_right]
theorem sr:∀{s:Λ},dE s->∀{n:Int},0<=n->n<aN s->cj s (cN s n) 0=σ n
 |[],_,n,a,h1=>by simp[aN]at h1;simp[cN,cj];omega
 |k::s,I,n,a,h1=>by
  have hk:=I k (.head _);have j:=l8 I.tail;simp only[cN,aN]at h1 ⊢;have f:n / aN s<k:=Int.ediv_lt_of_lt_mul Ω h1;have h:0<=n / aN s:=Int.ediv_nonneg a Ω;have hm:n / aN s % k=n / aN s:=Int.emod_eq_of_lt h f;rw[hm];unfold cj;rw[if_pos ⟨h,f⟩,o0];have e:cN s n=cN s (n % aN s):=by
   have:=AI s I.tail (n % aN s) (n / aN s);rw[<-this];congr 1;have:=Int.emod_add_mul_ediv n (aN s);rw[Int.mul_comm (n / aN s)];omega
  rw[e,sr I.tail (Int.emod_nonneg _ Ω) (Int.emod_lt_of_pos _ Ω)];simp only[Z7,X7,Int.zero_mul,Int.zero_add];have:=Int.emod_add_mul_ediv n (aN s);rw[Int.mul_comm (n / aN s)];omega
def o1{s:Λ}(I:dE s){i:Nat}(h:(i:Int)<aN s):(bc s)[i]?=σ (cN s i):=by
 have:=mM I (sr I (n:=(i:Int)) Ω h);simpa using this
def bh(s cs t:Λ):Int:=match cj s t 0 with
 |some n=>cs.getD n.toNat 0
 |none=>0
def upto{α:Type}(l:List α)(d:α)(i:Nat):List α:=l.take i++o5 (l.length-i) d
def nS{α:Type}(l:List α)(d:α)(i:Nat):(upto l d i).length=l.length:=by simp[upto];omega
def o2{α:Type}(l:List α)(d:α):upto l d 0=o5 l.length d:=by simp[upto]
def o3{α:Type}(l:List α)(d:α):upto l d l.length=l:=by simp[upto]
def pa{α:Type}{l:List α}{d x:α}{i:Nat}(h:l[i]?=σ x):(upto l d i).set i x=upto l d (i+1):=by
 have hi:=(x5.1 h).1;unfold upto;rw[S1 _ _ Θ,u9,h];have e:i-(l.take i).length=0:=Θ
 obtain⟨m,hm⟩:∃m,l.length-i=m+1:=⟨l.length-i-1,Ω⟩;rw[e,hm,show l.length-(i+1)=m by omega];simp[List.replicate_succ]
def qk{α:Type}{l:List α}{i:Nat}{x:α}(h:l[i]?=σ x):l.set i x=l:=by
 apply Y9;intro j;rw[X1];split
 .rename_i a;subst a;rw[if_pos (x5.1 h).1,h]
 .rfl
def vE:Λ->Int
 |[]=>0
 |x::l=>l.foldl min x
def AJ(P:Int->Prop)(m:Int):Prop:=P m/\∀x,P x->m<=x
def dj(s t:Λ):Prop:=∃n,cj s t 0=σ n
def J4(k v:Int)(s t:Λ):cj (k::s) (v::t) 0=if 0<=v/\v<k then(cj s t 0).map (λn=>n+(0*k+v)*aN s)else ν:=by
 conv=>lhs;unfold cj
 rw[o0]
def AK{v:Int}{s:Λ}:dj (k::s) (v::t)↔(0<=v/\v<k)/\dj s t:=by
 unfold dj;rw[J4];constructor
 .rintro⟨n,h⟩;split at h
  .rename_i a;cases e:cj s t 0 with
   |none=>rw[e]at h;cases h
   |some q=>exact⟨a,q,rfl⟩
  .cases h
 .rintro⟨a,q,e⟩;rw[if_pos a,e];exact⟨_,rfl⟩
def AL:dj [] t↔t=[]:=by
 cases t with
 |nil=>exact⟨λ_=>rfl,λ_=>⟨0,rfl⟩⟩
 |cons v t=>
  constructor
  .rintro⟨_,h⟩;cases h
  .intro h;cases h
def ss{s:Λ}(h:dj s t):s.length=t.length:=by
 obtain⟨n,h⟩:=h;rcases Nat.decEq s.length t.length with a|a
 .rw[vh s t 0 a]at h;cases h
 .exact a
def AM{s:Λ}(I:dE s){n:Int}(h:cj s t 0=σ n):cN s n=t:=by
 have f:=k4 I h;have h1:=mM I h;simp only[Int.zero_mul,Int.zero_add,Int.one_mul]at f;have a:=o1 I (i:=n.toNat) Ω;rw[h1]at a;have e:((n.toNat:Nat):Int)=n:=Ω
 rw[e]at a;exact(Z0 a).symm
def su{s cs:Λ}(I:dE s)(a:cs.length=(aN s).toNat):cs=(W5 (aN s).toNat).map λ(q:Nat)=>bh s cs (cN s q):=by
 apply List.ext_getElem
 .simp[a]
 .intro i h1 e;rw[List.getElem_map,List.getElem_range];have f:=l8 I;have hi:(i:Int)<aN s:=Ω
  unfold bh;rw[sr I Ω hi];simp only[r8];rw[u4,x7 h1];rfl
def vF{s:Λ}(I:dE s){q:Nat}(a:q<(aN s).toNat):dj s (cN s q):=⟨_,sr I Ω (by have:=l8 I;omega)⟩
def J5{s cs a:Λ}(I:dE s)(e:cs.length=(aN s).toNat)(f:a.length=(aN s).toNat)(h:∀t,dj s t->bh s cs t=bh s a t):cs=a:=by
 rw[su I e,su I f];apply List.map_congr_left;intro q j;exact h _ (vF I (by simpa using j))
def J6(h:l≠[]):AJ (λc=>c∈l) (vE l):=by
 obtain⟨x,r,rfl⟩:∃v r,l=v::r:=by cases l with
  |nil=>exact absurd rfl h
  |cons v r=>exact⟨v,r,rfl⟩
 clear h;show AJ (λc=>c∈x::r) (r.foldl min x);induction r generalizing x with
 |nil=>exact⟨.head _,λy f=>by simp at f;simp[f]⟩
 |cons y r j=>
  rw[S0];obtain⟨h1,e⟩:=j (min x y);refine⟨?_,λz a=>?_⟩
  .rcases V4.1 h1 with h1|h1
   .rw[h1];rcases Int.le_total x y with h|h
    .rw[Int.min_eq_left h];exact .head _
    .rw[Int.min_eq_right h];exact .tail _ (.head _)
   .exact .tail _ (.tail _ h1)
  .rcases V4.1 a with rfl|a
   .have:=e _ (.head _);omega
   .rcases V4.1 a with rfl|a
    .have:=e _ (.head _);omega
    .exact e _ (.tail _ a)
def pb(m:Λ)(i j:Nat):Prop:=∀(p q:Nat)(x y:Int),p<q->q<=i->q≠j->m[p]?=σ x->m[q]?=σ y->x<=y
def ql(m:Λ)(i:Nat):Prop:=∀(p q:Nat)(x y:Int),p<q->q<i->m[p]?=σ x->m[q]?=σ y->x<=y
def J7{m:Λ}{i:Nat}(h:ql m i):pb m i i:=λp q x y h1 f j a e=>h p q x y h1 Ω a e
def J8{m:Λ}{i:Nat}(h:pb m i 0):ql m (i+1):=λp q x y h1 f a e=>h p q x y h1 Ω Ω a e
def J9{m:Λ}{i:Nat}{a b:Int}(h:pb m i j)(B:0<j)(r:m[j-1]?=σ a)(w:m[j]?=σ b)(z:a<=b):ql m (i+1):=by
 intro p q x y h1 C e f;by_cases s:q=j
 .subst s;rw[w]at f;cases f;by_cases A:p=q-1
  .subst A;rw[r]at e;cases e;exact z
  .have:=h p (q-1) x a Ω Ω Ω e r;omega
 .exact h p q x y h1 Ω s e f
def Ka{m:Λ}{i:Nat}{a b:Int}(h:pb m i j)(H:0<j)(hi:j<=i)(z:m[j-1]?=σ a)(A:m[j]?=σ b)(I:b<a):pb ((m.set j a).set (j-1) b) i (j-1):=by
 intro p q x y h1 w B e f;have C:=(x5.1 A).1;have E:∀(r:Nat),((m.set j a).set (j-1) b)[r]?=if r=j-1 then σ b else if r=j then σ a else m[r]?:=λr=>by
  by_cases h:r=j-1
  .subst h;rw[b8 Θ,if_pos rfl]
  .rw[Y4 (R2 h),if_neg h];by_cases h':r=j
   .subst h';rw[b8 C,if_pos rfl]
   .rw[Y4 (R2 h'),if_neg h']
 rw[E]at e f;rw[if_neg B]at f;by_cases s:q=j
 .rw[if_pos s]at f;cases f;split at e
  .cases e;omega
  .split at e
   .omega
   .exact h p (j-1) x a Ω Ω Ω e z
 .rw[if_neg s]at f;split at e
  .cases e;have:=h j q b y;by_cases F:j<q
   .exact this F w s A f
   .omega
  .split at e
   .rename_i G;subst G;cases e;exact h (p-1) q a y Ω w s z f
   .exact h p q x y h1 w s e f
def swap_perm{m:Λ}{i:Nat}{a b:Int}(q:i<j)(h:m[i]?=σ a)(f:m[j]?=σ b):((m.set j a).set i b).Perm m:=by
 induction m generalizing i j with
 |nil=>simp at h
 |cons x m p=>
  cases j with
  |zero=>omega
  |succ j=>
   cases i with
   |zero=>
    simp at h f ⊢;subst h;obtain⟨r,f⟩:=x5.1 f;rw[show m=m.take j++m[j]::m.drop (j+1) by simp];rw[S1 _ _ Θ];have e:j-(m.take j).length=0:=Θ
    rw[e,f];simp only[List.set_cons_zero];refine(List.Perm.cons b (List.perm_middle)).trans ?_;refine(List.Perm.swap x b _).trans ?_;exact List.Perm.cons x List.perm_middle.symm
   |succ i=>
    simp at h f ⊢;exact p Ω h f
def Kb{m:Λ}(h:ql m m.length):m.Pairwise (·<= ·):=by
 rw[V9];intro i j hi a e;exact h i j _ _ e a (x7 hi) (x7 a)
def Good(o:Λ)(n:Nat):Prop:=o.length=n/\∀(i:Nat)(p:Int),o[i]?=σ p->(0<=p/\p<n)/\∀j,j<i->o[j]? ≠σ p
def Good.inj{o:Λ}{i:Nat}{p:Int}(h:Good o n)(hi:o[i]?=σ p)(a:o[j]?=σ p):i=j:=by
 rcases Nat.lt_trichotomy i j with h1|h1|h1
 .exact absurd hi ((h.2 j p a).2 i h1)
 .exact h1
 .exact absurd a ((h.2 i p hi).2 j h1)
def AN(m:Λ):Prop:=∀i:Nat,i<m.length->m[i]?=σ (i:Int)
def AO{o m:Λ}(h:Good o n)(a:m.Perm o)(I:m.Pairwise (·<= ·)):AN m:=by
 have s:o.Nodup:=V9.2 λi j hi w C he=>by
  have:=h.inj (i:=i) (j:=j) (p:=o[j]) (by rw[x7 hi,he]) (x7 w);omega
 have y:m.Nodup:=a.nodup_iff.2 s;have E:m.length=n:=by rw[a.length_eq,h.1]
 have q:∀x∈m,0<=x/\x<(n:Int):=λx z=>by
  obtain⟨i,hi,he⟩:=List.getElem_of_mem (a.mem_iff.1 z);exact(h.2 i x (by rw[x7 hi,he])).1
 have r:∀(i:Nat)(hi:i+1<m.length),m[i]<m[i+1]:=λi hi=>by
  have h1:=V9.1 I i (i+1) Ω hi Ω;have e:=V9.1 y i (i+1) Ω hi Ω;omega
 have A:∀(i:Nat)(hi:i<m.length),(i:Int)<=m[i]:=by
  intro i;induction i with
  |zero=>intro hi;exact(q _ (S4 hi)).1
  |succ i f=>
   intro hi;have h1:=f Ω;have e:=r i hi;omega
 have B:∀(d i:Nat)(hi:i<m.length),i+d+1=m.length->m[i]<=(i:Int):=by
  intro d;induction d with
  |zero=>
   intro i hi he;have:=(q _ (S4 hi)).2;omega
  |succ d f=>
   intro i hi he;have h1:=f (i+1) Ω Ω;have e:=r i Ω;omega
 intro i hi;rw[x7 hi];have h1:=A i hi;have e:=B (m.length-i-1) i hi Ω;congr 1;omega
def Kc{o m:Λ}(h:AN m)(e:m.Perm o):Good o m.length:=by
 have s:m.Nodup:=V9.2 λi j hi a x he=>by
  have h1:=h i hi;have f:=h j a;rw[x7 hi]at h1;rw[x7 a]at f;have h1:=Z0 h1;have f:=Z0 f;omega
 have w:o.Nodup:=e.nodup_iff.1 s;refine⟨e.length_eq.symm,λi p hi=>⟨?_,λj a q=>?_⟩⟩
 .obtain⟨k,hk,he⟩:=List.getElem_of_mem (e.mem_iff.2 (x6 hi));have h1:=h k hk;rw[x7 hk,he]at h1;cases h1;omega
 .have r:i<o.length:=(x5.1 hi).1;have:=V9.1 w j i Ω r a;rw[x7 r]at hi;rw[x7 (show j<o.length by omega)]at q;exact this ((Z0 q).trans (Z0 hi).symm)
def Good.AP{o:Λ}{p:Nat}(h:Good o n)(f:p<n):∃j:Nat,o[j]?=σ (p:Int):=by
 let le:Int->Int->Bool:=λa b=>decide (a<=b);have h1:(o.mergeSort le).Perm o:=List.mergeSort_perm o le;have e:(o.mergeSort le).Pairwise (·<= ·):=by
  refine(List.pairwise_mergeSort (le:=le) (λa b c h1 e=>?_) (λa b=>?_) o).imp λh=>by simpa[le]using h
  .simp[le]at*;omega
  .simp[le];omega
 have q:=AO h h1 e p (by rw[h1.length_eq,h.1];exact f);obtain⟨j,r,he⟩:=List.getElem_of_mem (h1.mem_iff.1 (x6 q));exact⟨j,by rw[x7 r,he]⟩
def ma(o x:Λ):Λ:=(W5 o.length).map λ(p:Nat)=>x.getD (o.idxOf (p:Int)) 0
def AQ(o x:Λ):(ma o x).length=o.length:=by simp[ma]
def AR{o x:Λ}{p:Int}(h:Good o n)(r:x.length=n)(a:o[j]?=σ p):(ma o x)[p.toNat]?=x[j]?:=by
 have h1:=(h.2 j p a).1;have s:j<o.length:=(x5.1 a).1;have hm:p∈o:=x6 a;have e:=List.idxOf_lt_length_of_mem hm;have f:o.idxOf p=j:=h.inj (by rw[x7 e,List.getElem_idxOf e]) a;have q:((p.toNat:Nat):Int)=p:=Ω
 have w:=h.1;unfold ma;rw[v8,List.getElem?_range Ω];simp only[Z7,q,f];rw[u4,x7 (show j<x.length by omega)];rfl
def AS{o x y:Λ}(h:Good o n)(f:x.length=n)(s:y.length=n)(q:∀(j:Nat)(p:Int),o[j]?=σ p->y[p.toNat]?=x[j]?):y=ma o x:=by
 refine Y9 λp=>?_;have w:=h.1;by_cases r:p<n
 .obtain⟨j,a⟩:=h.AP r;have h1:=q j p a;have e:=AR h f a;rw[r8]at h1 e;rw[h1,e]
 .rw[Y2 Ω,Y2 (by rw[AQ];omega)]
theorem nT:∀{s t:Λ},dj s t↔s.length=t.length/\∀(i:Nat)(a v:Int),s[i]?=σ a->t[i]?=σ v->0<=v/\v<a
 |[],t=>by
  rw[AL];exact⟨λh=>⟨by rw[h],λi a v h _=>by simp at h⟩,λh=>c9 h.1.symm⟩
 |k::s,[]=>⟨λh=>absurd (ss h) Ξ,λh=>absurd h.1 Ξ⟩
 |k::s,v::t=>by
  rw[AK,nT (s:=s) (t:=t)];refine⟨λ⟨h1,f,j⟩=>⟨by simp[f],λi a u e hu=>?_⟩,λ⟨h1,f⟩=>⟨f 0 k v rfl rfl,by simpa using h1,λi a u e hu=>f (i+1) a u (by simpa using e) (by simpa using hu)⟩⟩;cases i with
  |zero=>simp at e hu;subst e;subst hu;exact h1
  |succ i=>exact j i a u (by simpa using e) (by simpa using hu)
def eu(s o:Λ):Λ:=o.map λp=>s.getD p.toNat 0
def sw(s o:Λ):(eu s o).length=o.length:=by simp[eu]
def AT{s o:Λ}{p:Int}(h:Good o n)(I:s.length=n)(a:o[j]?=σ p):(eu s o)[j]?=s[p.toNat]?:=by
 have h1:=(h.2 j p a).1;unfold eu;rw[v8,a,Z7,u4,x7 (show p.toNat<s.length by omega)];rfl
def Kd{s o:Λ}(h:Good o n)(I:s.length=n){x:Int}(a:x∈eu s o):x∈s:=by
 obtain⟨p,e,rfl⟩:=l9.1 a;obtain⟨j,f,he⟩:=List.getElem_of_mem e;have h1:=(h.2 j p (by rw[x7 f,he])).1;rw[u4,x7 (show p.toNat<s.length by omega)];exact S4 _
def ca.Ke{s o:Λ}(a:ca s)(h:Good o n)(I:s.length=n):ca (eu s o):=
 ⟨by rw[sw,h.1,<-I];exact a.1,λx e=>a.2 x (Kd h I e)⟩
def Kf{s o x:Λ}(h:Good o n)(I:s.length=n)(w:dj (eu s o) x):dj s (ma o x):=by
 obtain⟨h1,y⟩:=nT.1 w;rw[sw,h.1]at h1;refine nT.2 ⟨by rw[AQ,h.1,I],λp a v e z=>?_⟩;have A:p<n:=by have:=(x5.1 e).1;omega
 obtain⟨j,f⟩:=h.AP A;have q:=AT h I f;have r:=AR h h1.symm f;rw[r8]at q r;exact y j a v (by rw[q,e]) (by rw[<-r,z])
def nU(s cs o:Λ):Λ:=(W5 (aN (eu s o)).toNat).map λ(q:Nat)=>bh s cs (ma o (cN (eu s o) q))
def AU(s cs o:Λ):(nU s cs o).length=(aN (eu s o)).toNat:=by simp[nU]
def vG{f:Int->Bool}{x:Int}:runN f (x::l)=if f x=true then runN f l+1 else 0:=by
 unfold runN;rw[List.takeWhile_cons];by_cases h:f x=true
 .rw[if_pos h,if_pos h,Z2]
 .rw[if_neg h,if_neg h];rfl
theorem vH(f:Int->Bool):∀l:Λ,l.dropWhile f=l.drop (runN f l)
 |[]=>rfl
 |x::l=>by
  rw[List.dropWhile_cons,vG];by_cases h:f x=true
  .rw[if_pos h,if_pos h,vH f l];rfl
  .rw[if_neg h,if_neg h];rfl
theorem AV(f:Int->Bool):∀l:Λ,l.takeWhile f=l.take (runN f l)
 |[]=>rfl
 |x::l=>by
  rw[List.takeWhile_cons,vG];by_cases h:f x=true
  .rw[if_pos h,if_pos h,List.take_succ_cons,AV f l]
  .rw[if_neg h,if_neg h];rfl
theorem AW{f:Int->Bool}:∀{l:Λ}{b:Int}{q:Λ},l.dropWhile f=b::q->f b=false
 |x::l,b,q,h=>by
  rw[List.dropWhile_cons]at h;by_cases a:f x=true
  .rw[if_pos a]at h;exact AW h
  .rw[if_neg a]at h;have:=(List.cons.inj h).1;subst this;cases e:f x
   .rfl
   .exact absurd e a
def vI{p:Λ}{b:Int}{q:Λ}(h:p.drop a=b::q):p[a]?=σ b:=by
 have:=S5 (xs:=p) (i:=a) (j:=0);rw[h]at this;simpa using this.symm
def Kg(p:Λ)(at_:Nat):match oX p at_ with
  | .word a b=>lex (p.drop at_)=(((p.take b).drop a)::(lex (p.drop b)).1,(lex (p.drop b)).2)
  | .none=>lex (p.drop at_)=([],true)
  | .text _=>lex (p.drop at_)=([],false):=by
 have j:(p.drop at_).dropWhile cB=p.drop (gx p at_):=by rw[vH,List.drop_drop];rfl
 have s:(p.drop (gx p at_)).dropWhile bO=p.drop (iQ p (gx p at_)):=by rw[vH,List.drop_drop];rfl
 have y:(p.drop (gx p at_)).takeWhile bO=(p.take (iQ p (gx p at_))).drop (gx p at_):=by
  rw[AV,List.drop_take];congr 1;unfold iQ;omega
 have h:runN bO (p.drop (gx p at_))=iQ p (gx p at_)-gx p at_:=by unfold iQ;omega
 have K:gx p at_<=iQ p (gx p at_):=by unfold iQ;omega
 unfold oX;generalize gx p at_=a at*;generalize iQ p a=b at*;by_cases h1:b<p.length/\(∀c,p[b]?=σ c->cB c=false)
 .rw[if_pos h1];simp only;rw[kq,j];cases e:p.drop a with
  |nil=>
   have:=List.drop_eq_nil_iff.1 e;omega
  |cons x q=>
   simp only;rw[e]at s y h;by_cases f:bO x=true
   .rw[if_pos f,s];cases w:p.drop b with
    |nil=>have:=List.drop_eq_nil_iff.1 w;omega
    |cons c r=>
     simp only;rw[h1.2 c (vI w)];rfl
   .rw[if_neg f]
 .rw[if_neg h1];by_cases z:a=b
  .rw[if_pos z];simp only;subst z;rw[kq,j];cases e:p.drop a with
   |nil=>rfl
   |cons x q=>
    exfalso;have A:=vI e;have F:=(x5.1 A).1;rw[e]at h;rw[e]at j;have G:=AW j;refine h1 ⟨F,λc B=>?_⟩;rw[A]at B;cases B;exact G
  .rw[if_neg z];simp only;rw[kq (p.drop at_),j];cases e:p.drop a with
   |nil=>
    rw[e]at h;have:runN bO []=0:=rfl;omega
   |cons x q=>
    simp only;rw[e]at s y h;have f:bO x=true:=by
     rw[vG]at h;by_cases f:bO x=true
     .exact f
     .rw[if_neg f]at h;omega
    rw[if_pos f,s,y];cases w:p.drop b with
    |nil=>simp only;rw[kq []];rfl
    |cons c r=>
     simp only;have C:=vI w;have H:=(x5.1 C).1;have J:cB c=true:=by
      cases I:cB c with
      |true=>rfl
      |false=>exact absurd ⟨H,λd E=>by rw[C]at E;cases E;exact I⟩ h1
     rw[if_pos J]
def hE(w:x4)(g:Nat)(R:Nat->Prop)(toks:List (Λ))(clean:Bool):Prop:=∃a p at_,l4 w g a p at_ (-1)/\(∀r,leads a r->R r)/\lex (p.drop at_)=(toks,clean)
def hE.aa{g:Nat}(h:hE w g R toks clean)(e:ae S w w')(j:¬S g)(q:∀r,R r->¬S r):hE w' g R toks clean:=by
 obtain⟨s,p,a,⟨h1,x,y,z,bq,A⟩,f,B⟩:=h;exact⟨s,p,a,⟨h1,x,y,z.aa e j,bq,br A e λr C=>q r (f r C)⟩,f,B⟩
def hE.words{g:Nat}(h:hE w g R toks clean):toks.length<=100000/\∀t∈toks,Bytes t/\t≠[]/\t.length<=100000:=by
 obtain⟨s,p,a,⟨x,y,z,_⟩,_,f⟩:=h;have A:(p.drop a).length<=100000:=by rw[List.length_drop];omega
 have e:=qc _ (p.drop a) (o6 _);rw[f]at e;refine⟨by show toks.length<=_;have e:toks.length<=_:=e;omega,λt q=>?_⟩;have j:=sg _ (p.drop a) (o6 _) t (by rw[f];exact q);refine⟨λb r=>?_,j.1,Ω⟩;have:=of_decide_eq_true (j.2.1 b r);omega
def Kh(w:x4)(g:Nat)(R:Nat->Prop)(toks:List (Λ))(clean:Bool)(v:x3)(w':x4):Prop:=ae (λr=>r=g) w w'/\match toks with
 |t::l=>hE w' g R l clean/\∃n:Int,v= .tuple #[bT t,Δ n,Δ 0]
 |[]=>∃n:Int,v= .tuple #[bT [],Δ n,Δ (if clean then 2 else 11)]
def qm{g:Nat}(h:hE w g R toks clean):ai x8 uV [Γ g] w (Kh w g R toks clean):=by
 obtain⟨z,p,a,h1,A,q⟩:=h;refine(JO h1).mono ?_;intro v w' _ hw;have e:=Kg p a;unfold qj at hw;cases r:oX p a with
 |word x y=>
  rw[r]at hw e;simp only at hw e;rw[q]at e;obtain⟨rfl,s,I⟩:=hw;obtain⟨f,j⟩:=Prod.mk.inj e;subst f j;exact⟨s,⟨z,p,y,I,A,rfl⟩,_,rfl⟩
 |none=>
  rw[r]at hw e;simp only at hw e;rw[q]at e;obtain⟨f,j⟩:=Prod.mk.inj e;subst f j;obtain⟨n,rfl,B⟩:=hw;exact⟨B.aa _,_,rfl⟩
 |text b=>
  rw[r]at hw e;simp only at hw e;rw[q]at e;obtain⟨f,j⟩:=Prod.mk.inj e;subst f j;obtain⟨rfl,s,_⟩:=hw;exact⟨s,_,rfl⟩
def kt(w:Λ):x3:=match gv w with
 |some n=>.tuple #[Δ n,Δ 0]
 |none=>.tuple #[Δ 0,Δ 4]
def AX{i:Nat}{b:Int}(hi:l[i]?=σ b):(l.take (i+1)).all gu=((l.take i).all gu&&gu b):=by
 rw[u9,hi,List.all_append];simp
def AY{i:Nat}{b:Int}(hi:l[i]?=σ b):(l.take (i+1)).foldl e2 0=e2 ((l.take i).foldl e2 0) b:=by
 rw[u9,hi,List.foldl_append];rfl
def AZ(a:l≠[])(h:l.all gu=true):kr l=σ (l.foldl e2 0):=by
 unfold kr;cases l with
 |nil=>exact absurd rfl a
 |cons x l=>simp only[h,if_true]
def A0{i:Nat}{b:Int}(hi:l[i]?=σ b)(a:gu b=false):kr l=ν:=by
 unfold kr;cases l with
 |nil=>simp at hi
 |cons x l=>
  simp only;rw[if_neg];intro h;have:=List.all_eq_true.1 h b (x6 hi);rw[a]at this;cases this
def pc(w l:Λ)(s:Int):Prop:=(s=1\/s= -1)/\gv w=(kr l).map λn=>s*n
def A1:pc (45::l) l (-1):=⟨.inr rfl,by simp only[gv];congr 1;funext n;omega⟩
def A2{w:Λ}(h:∀b,w[0]?=σ b->b≠45):pc w w 1:=⟨.inl rfl,by
 have e:gv w=kr w:=by
  unfold gv;cases w with
  |nil=>rfl
  |cons x l=>
   have:=h x rfl;split
   .rename_i l' he;exact absurd (List.cons.inj he).1 this
   .rfl
 rw[e];cases kr w with
 |none=>rfl
 |some n=>simp⟩
def sx{w:Λ}{s:Int}(h:pc w l s)(a:kr l=ν):kt w= .tuple #[Δ 0,Δ 4]:=by
 unfold kt;rw[h.2,a];rfl
def A3{w:Λ}{s n:Int}(h:pc w l s)(a:kr l=σ n):kt w= .tuple #[Δ (s*n),Δ 0]:=by
 unfold kt;rw[h.2,a];rfl
def Ki(B:Bytes l)(L:l.length<=100000):ai x8 Hz [bT l] w λv w'=>v=kt l/\Ext w w':=by
 refine az func164 ?_;rw[Jy];refine ii (λS V J=>Ext w J/\∃(m:Λ)(s:Int),S=bT m/\V=Δ s/\Bytes m/\m.length<=100000/\pc l m s) ?_ ?_
 .rintro _ _ J ⟨H,m,s,rfl,rfl,I,af,C⟩;rw[Ag I (λb a=>by cases a),aj];refine⟨λe=>⟨by rw[sx C (by rw[e];rfl)],H⟩,λe=>?_⟩;refine vt c5.u cM.u cI.u I Ω λbv U M N _=>?_;rw[aU cM.u N];refine pR.range m.length (λi _ _ c E=>Ext U E/\c=Δ ((m.take i).foldl e2 0)/\(m.take i).all gu=true) Ω ⟨Ext.refl _,rfl,rfl⟩ ?_ ?_
  .rintro i W t3 _ E X hi ⟨f,rfl,j⟩ Y;obtain⟨b,q⟩:=aF (l:=m) hi;have ag:=I b (x6 q);refine bA Ω ?_;refine Ac (λ_ _ c G=>Ext U G/\c=Δ ((m.take (i+1)).foldl e2 0)/\(m.take (i+1)).all gu=true) ?_ ?_
   .rintro ah ak c G Z;rw[aL];exact Y _ _ _ _ Z
   intro ax p;rw[bb cM.u cI.i Ψ (N.ext f) q];refine aW (λv G=>E=G/\v= .bool (!gu b)) ?_ ?_
   rotate_left
   .intro aa z;rw[aR,aj];refine⟨λh=>z _ _ ⟨rfl,by unfold gu;rw[decide_eq_false Ω];rfl⟩,λh=>?_⟩;rw[bS];refine z _ _ ⟨rfl,?_⟩;unfold gu;congr 1;by_cases O:57<b
    .rw[decide_eq_true O,decide_eq_false Ω];rfl
    .rw[decide_eq_false O,decide_eq_true Ω];rfl
   rintro _ _ ⟨rfl,rfl⟩;cases K:gu b with
   |false=>
    rw[W3,bQ];exact⟨by rw[sx C (A0 q K)],(H.trans M).trans f⟩
   |true=>
    rw[X3,aY];have al:=of_decide_eq_true K;have A:=sh (l:=m.take i) (n:=0) j ⟨Int.le_refl _,Φ⟩;rw[AY q,AX q,j,K]at p;generalize (m.take i).foldl e2 0=n at*;have A:0<=n/\n<=4611686018427387904:=A;rw[ed,wrap_u8 Ω Ω,fp cI.u am.u,wrap_i64 (x:=b-48) Ω Ω,ed,wrap_i64 Ω Ω,p6 Φ,Int.tdiv_eq_ediv_of_nonneg Ω];rw[wrap_i64 Ω Ω,bS,aj];refine⟨λab=>p _ _ _ _ ⟨f,?_,rfl⟩,λab=>?_⟩
    .congr 1;unfold e2 av;omega
    .rw[gp,wrap_i64 Ω Ω,aL,wrap_i64 Ω Ω];refine p _ _ _ _ ⟨f,?_,rfl⟩;congr 1;unfold e2 av;omega
  .rintro W t3 _ E X ⟨f,rfl,j⟩;rw[o8]at j ⊢;refine b2 Ω ?_;have A:=sh (l:=m) (n:=0) j ⟨Int.le_refl _,Φ⟩;have A:0<=m.foldl e2 0/\m.foldl e2 0<=4611686018427387904:=A;rw[gp];have hw:X9.wrap (s*m.foldl e2 0)=s*m.foldl e2 0:=by
    rcases C.1 with rfl|rfl<;>exact wrap_i64 Ω Ω
   rw[hw];exact⟨by rw[A3 C (AZ e j)],(H.trans M).trans f⟩
 .intro ax p;refine aW (λv U=>w=U/\∃c:Bool,v= .bool c/\(c=true↔l[0]?=σ 45)) ?_ ?_
  .rintro _ _ ⟨rfl,c,rfl,P⟩;rw[cg];refine⟨λac=>?_,λQ=>?_⟩
   .intro an ad _ _;have R:=P.1 ac;cases l with
    |nil=>simp at R
    |cons x r=>
     have ae:x=45:=by simpa using R
     subst ae;rw[Ah (y:=1) (i:=1) rfl c5.u Ξ];exact p _ _ _ ⟨ad,r,-1,rfl,rfl,λb a=>B b (.tail _ a),by simp at L;omega,A1⟩
   .refine p _ _ _ ⟨Ext.refl _,l,1,rfl,rfl,B,L,A2 λb a he=>?_⟩;subst he;rw[P.2 a]at Q;cases Q
  .intro aa z;rw[JC B (λb a=>by cases a),aj];refine⟨λe=>?_,λe=>z _ _ ⟨rfl,false,rfl,⟨λh=>(by cases h),λh=>by rw[X4.1 e]at h;simp at h⟩⟩⟩;cases l with
   |nil=>exact absurd rfl e
   |cons x r=>
    rw[qg (y:=0) (i:=0) (b:=x) rfl c5.u B rfl,bf];exact z _ _ ⟨rfl,_,rfl,Ξ⟩
def sy{s s':aE}{w:Λ}(h:dU s=σ (w,s')):s.toks=w::s'.toks/\s'={s with toks:=s'.toks}:=by
 unfold dU at h;cases a:s.toks with
 |nil=>rw[a]at h;cases h
 |cons x l=>
  rw[a]at h;simp only[X7,S3]at h;obtain⟨rfl,rfl⟩:=h;exact⟨rfl,rfl⟩
def h4{n:Int}{s s':aE}(h:bd lo hi s=σ (n,s')):(lo<=n/\n<=hi)/\(∃w,s.toks=w::s'.toks/\gv w=σ n)/\s'={s with toks:=s'.toks}:=by
 unfold bd at h;cases hw:dU s with
 |none=>rw[hw]at h;cases h
 |some q=>
  obtain⟨w,s1⟩:=q;rw[hw]at h;simp only at h;obtain⟨h1,e⟩:=sy hw;cases a:gv w with
  |none=>rw[a]at h;cases h
  |some m=>
   rw[a]at h;simp only at h;split at h
   .rename_i f;simp only[X7,S3]at h;obtain⟨rfl,rfl⟩:=h;exact⟨f,⟨w,h1,a⟩,e⟩
   .cases h
def iu(k:Nat)(s s':aE):Prop:=s.toks.length=s'.toks.length+k/\s'={s with toks:=s'.toks}
def iu.refl(s:aE):iu 0 s s:=⟨rfl,rfl⟩
def iu.trans{b:Nat}{r s t:aE}(h:iu a r s)(k:iu b s t):iu (a+b) r t:=⟨by have:=h.1;have:=k.1;omega,by rw[k.2,h.2]⟩
def dK{n:Int}{s s':aE}(h:bd lo hi s=σ (n,s')):iu 1 s s':=by
 obtain⟨_,⟨w,h1,_⟩,a⟩:=h4 h;exact⟨by rw[h1];simp,a⟩
def iu.eqs{k:Nat}{s s':aE}(h:iu k s s'):s'.told=s.told/\s'.big=s.big/\s'.shared=s.shared:=by rw[h.2];exact⟨rfl,rfl,rfl⟩
theorem ku{α:Type}{f:List α->aE->Option (α×aE)}(e:List α->aE->Prop)(r:∀acc s a s',e acc s->f acc s=σ (a,s')->e (acc++[a]) s'):
  ∀(n:Nat)(acc:List α)(s:aE)(l:List α)(s':aE),e acc s->cO f n acc s=σ (l,s')->e l s'/\l.length=acc.length+n
 |0,acc,s,l,s',j,h=>by
  simp only[cO,X7,S3]at h;obtain⟨rfl,rfl⟩:=h;exact⟨j,Ω⟩
 |n+1,acc,s,l,s',j,h=>by
  simp only[cO]at h;cases p:f acc s with
  |none=>rw[p]at h;cases h
  |some q=>
   obtain⟨a,s1⟩:=q;rw[p]at h;have:=ku e r n _ _ _ _ (r _ _ _ _ j p) h;exact⟨this.1,by rw[this.2];simp;omega⟩
def vJ{n:Int}{k:Nat}{s s':aE}(h:e3 n k s=σ (l,s')):iu l.length s s'/\l.length=k/\l.Nodup/\∀v∈l,0<=v/\v<n:=by
 have:=ku (λacc t=>iu acc.length s t/\acc.Nodup/\∀v∈acc,0<=v/\v<n) (λacc t a bn ⟨h1,p,r⟩ h=>by
  cases f:bd 0 (n-1) t with
  |none=>rw[f]at h;cases h
  |some q=>
   obtain⟨v,A⟩:=q;rw[f]at h;simp only at h;split at h
   .cases h
   .rename_i w;simp only[X7,S3]at h;obtain⟨rfl,rfl⟩:=h;have B:=(h4 f).1;refine⟨by rw[o4];exact h1.trans (dK f),List.nodup_append.2 ⟨p,Ξ,λx e y j he=>?_⟩,λx e=>?_⟩
    .rw[j6]at j;subst j;subst he;exact w e
    .rcases j0.1 e with e|e
     .exact r x e
     .rw[j6.1 e];omega) k [] s l s' ⟨iu.refl s,List.nodup_nil,λv z=>by cases z⟩ h
 exact⟨this.1.1,by simpa using this.2,this.1.2.1,this.1.2.2⟩
theorem vK:∀{ks acc:Λ}{s s':aE}{t:Λ},iP ks acc s=σ (t,s')->∃u,t=acc++u/\dj ks u/\iu u.length s s'
 |[],acc,s,s',t,h=>by
  simp only[iP,X7,S3]at h;obtain⟨rfl,rfl⟩:=h;exact⟨[],Ξ,AL.2 rfl,iu.refl s⟩
 |k::ks,acc,s,s',t,h=>by
  simp only[iP]at h;cases a:bd 0 (k-1) s with
  |none=>rw[a]at h;cases h
  |some q=>
   obtain⟨v,s1⟩:=q;rw[a]at h;obtain⟨u,rfl,hu,e⟩:=vK h;have f:=(h4 a).1;exact⟨v::u,Ξ,AK.2 ⟨Ω,hu⟩,by rw[Z2,Nat.add_comm];exact(dK a).trans e⟩
def mN(sizes:Λ)(l:List (Λ×Int)):Prop:=(l.map (·.1)).Nodup/\∀p∈l,dj sizes p.1/\0<=p.2
def pd{acc:List (Λ×Int)}{s s':aE}{a:Λ×Int}(h:dV sizes acc s=σ (a,s')):a.1∉acc.map (·.1)/\dj sizes a.1/\0<=a.2/\iu (a.1.length+1) s s':=by
 unfold dV at h;cases f:iP sizes [] s with
 |none=>rw[f]at h;cases h
 |some q=>
  obtain⟨t,s1⟩:=q;rw[f]at h;simp only at h;obtain⟨u,hu,j,p⟩:=vK f;rw[List.nil_append]at hu;subst hu;cases e:bd 0 av s1 with
  |none=>rw[e]at h;cases h
  |some q=>
   obtain⟨c,w⟩:=q;rw[e]at h;simp only at h;split at h
   .cases h
   .rename_i r;simp only[X7,S3]at h;obtain⟨rfl,rfl⟩:=h;exact⟨r,j,(h4 e).1.1,p.trans (dK e)⟩
structure A4(s s':aE):Prop where
 toks:s'.toks.length<s.toks.length
 big:s.big=true->s'.big=true
def Kj{s s':aE}{l:List (Λ×Int)}(B:∀q∈s.shared,mN q.1 q.2/\q.2.length<=N)(O:s.toks.length<=N)(h:dW sizes s=σ (l,s')):
  mN sizes l/\l.length<=N/\s'.shared=s.shared/\A4 s s':=by
 unfold dW at h;cases j:bd (-av) av s with
 |none=>rw[j]at h;cases h
 |some q=>
  obtain⟨n,s1⟩:=q;rw[j]at h;simp only at h;have h1:=dK j;obtain⟨P,C,r⟩:=h1.eqs;split at h
  .cases I:s1.shared[(-n-1).toNat]? with
   |none=>rw[I]at h;cases h
   |some q=>
    obtain⟨z,l'⟩:=q;rw[I]at h;simp only at h;split at h
    .rename_i G;simp only[X7,S3]at h;obtain⟨rfl,rfl⟩:=h;subst G;have hm:=x6 I;rw[r]at hm;exact⟨(B _ hm).1,(B _ hm).2,r,by have:=h1.1;omega,λf=>by rw[C];exact f⟩
    .cases h
  .have:=ku (λacc t=>mN sizes acc/\t.shared=s.shared/\t.toks.length+acc.length<=s1.toks.length/\(s.big=true->t.big=true)) (λacc t a bn ⟨g1,w,H,A⟩ g=>by
    obtain⟨J,K,L,E⟩:=pd g;obtain⟨f1,f2,f3⟩:=E.eqs;refine⟨⟨?_,λp e=>?_⟩,by rw[f3,w],by have:=E.1;simp only[o4,T1];omega,λf=>by rw[f2];exact A f⟩
    .rw[Z4];exact List.nodup_append.2 ⟨g1.1,Ξ,λx M y F he=>by
      simp only[T0,List.map_nil,j6]at F;subst F;subst he;exact J M⟩
    .rcases j0.1 e with e|e
     .exact g1.2 p e
     .rw[j6.1 e];exact⟨K,L⟩) n.toNat [] (a8 (decide (16384<min (s1.told+n) av)) {s1 with told:=min (s1.told+n) av}) l s' ⟨⟨Ξ,λp e=>by cases e⟩,r,by simp[a8],λf=>by simp[a8,C,f]⟩ h
   obtain⟨⟨g1,w,H,A⟩,_⟩:=this;have:=h1.1;exact⟨g1,Ω,w,⟨Ω,A⟩⟩
structure sz(all:Λ)(N:Nat)(f:cv):Prop where
 scope:f.scope.Nodup/\∀v∈f.scope,0<=v/\v<all.length
 sizes:f.sizes=f.scope.map λv=>all.getD v.toNat 0
 other:0<=f.other
 lines:mN f.sizes f.lines
 len:f.lines.length<=N
def Kk{s s':aE}{f:cv}(B:∀q∈s.shared,mN q.1 q.2/\q.2.length<=N)(V:s.toks.length<=N)(h:da all s=σ (f,s')):
  sz all N f/\(∀q∈s'.shared,mN q.1 q.2/\q.2.length<=N)/\A4 s s'/\(s'.big=false->f.scope.length<=6/\dt f.sizes=false):=by
 unfold da at h;cases C:bd (-av) av s with
 |none=>rw[C]at h;cases h
 |some q=>
 obtain⟨a,s1⟩:=q;rw[C]at h;simp only at h;have t0:=dK C;obtain⟨W,M,O⟩:=t0.eqs;cases h1:e3 all.length a.natAbs s1 with
 |none=>rw[h1]at h;cases h
 |some q=>
 obtain⟨sc,w⟩:=q;rw[h1]at h;simp only at h;obtain⟨F,X,P,Q⟩:=vJ h1;obtain⟨Y,R,S⟩:=F.eqs;generalize T:sc.map (λv=>all.getD v.toNat 0)=sizes at h;cases y:bd 0 av (a8 (decide (6<a.natAbs)||dt sizes) w)with
 |none=>rw[y]at h;cases h
 |some q=>
 obtain⟨other,p⟩:=q;rw[y]at h;simp only at h;have G:=dK y;obtain⟨Z,z,x⟩:=G.eqs;have x:p.shared=s.shared:=by rw[x];show w.shared=_;rw[S,O]
 have aa:p.toks.length<s.toks.length:=by
  have:=t0.1;have:=F.1;have A:=G.1;have:(a8 (decide (6<a.natAbs)||dt sizes) w).toks.length=w.toks.length:=rfl;omega
 cases A:dW sizes p with
 |none=>rw[A]at h;cases h
 |some q=>
 obtain⟨lines,j⟩:=q;rw[A]at h;simp only[X7,S3]at h;obtain⟨rfl,rfl⟩:=h;obtain⟨g1,H,I,J⟩:=Kj (N:=N) (by rw[x];exact B) Ω A;have U:=J.big;have gt:=J.toks;have K:p.big=true->∀E:aE,E=(if a<0 then{j with shared:=j.shared++[(sizes,lines)]}else j)->E.big=true:=λr E he=>by
  rw[he];split<;>exact U r
 have z:p.big=(s.big||(decide (6<a.natAbs)||dt sizes)):=by
  rw[z];show(w.big||_)=_;rw[R,M]
 refine⟨⟨⟨P,Q⟩,T.symm,(h4 y).1.1,g1,H⟩,λq e=>?_,⟨?_,λr=>K (by rw[z,r];rfl) _ rfl⟩,λr=>?_⟩
 .split at e
  .rcases j0.1 e with e|e
   .rw[show j.shared=s.shared by rw[I,x]]at e;exact B q e
   .rw[j6.1 e];exact⟨g1,H⟩
  .rw[show j.shared=s.shared by rw[I,x]]at e;exact B q e
 .have:(if a<0 then{j with shared:=j.shared++[(sizes,lines)]}else j).toks=j.toks:=by split<;>rfl
  rw[this];omega
 .have L:p.big=false:=by
   cases e:p.big with
   |false=>rfl
   |true=>rw[K e _ rfl]at r;cases r
  rw[z,U7,U7,decide_eq_false_iff_not]at L;show sc.length<=6/\_;exact⟨Ω,L.2.2⟩
structure fd(N:Nat)(f:cb):Prop where
 name:f.name.length<=64
 k:1<=f.k/\f.k<=2147483648
 sizes:1<=f.sizes.length/\f.sizes.length<=64/\∀z∈f.sizes,1<=z/\z<=32
 la:f.funs.length<=256
 funs:∀x∈f.funs,sz f.sizes N x/\x.scope.length<=6/\dt x.sizes=false
def qn{b:Bool}{s:aE}(h:(a8 b s).big=false):s.big=false/\b=false:=by
 have h:(s.big||b)=false:=h;exact U7.1 h
def Kl{a b:aE}(h:a.big=true->b.big=true)(e:b.big=false):a.big=false:=by
 cases f:a.big with
 |false=>rfl
 |true=>rw[h f]at e;cases e
def A5{s s':aE}{f:cb}(I:s.shared=[])(h:hZ s=σ (f,s'))(e:s'.big=false):fd s.toks.length f/\f.name∈s.toks:=by
 unfold hZ at h;cases L:dU s with
 |none=>rw[L]at h;cases h
 |some q=>
 obtain⟨name,s0⟩:=q;rw[L]at h;simp only at h;obtain⟨J,U⟩:=sy L;cases h1:bd 1 av (a8 (decide (64<name.length)) s0)with
 |none=>rw[h1]at h;cases h
 |some q=>
 obtain⟨n,s1⟩:=q;rw[h1]at h;simp only at h;have r:=dK h1;cases M:bd 1 av (a8 (decide (64<n)) s1)with
 |none=>rw[M]at h;cases h
 |some q=>
 obtain⟨most,Z⟩:=q;rw[M]at h;simp only at h;have N:=dK M;cases O:bd 0 av Z with
 |none=>rw[O]at h;cases h
 |some q=>
 obtain⟨E,F⟩:=q;rw[O]at h;simp only at h;have t3:=dK O;cases G:bd 1 av (a8 (decide (256<E)) F)with
 |none=>rw[G]at h;cases h
 |some q=>
 obtain⟨k,A⟩:=q;rw[G]at h;simp only at h;have t4:=dK G;cases P:cO (fV most) n.toNat [] (a8 (decide (2147483648<k)) A)with
 |none=>rw[P]at h;cases h
 |some q=>
 obtain⟨sizes,H⟩:=q;rw[P]at h;simp only at h;cases Q:cO (λ_ s=>da sizes s) E.toNat [] H with
 |none=>rw[Q]at h;cases h
 |some q=>
 obtain⟨funs,aa⟩:=q;rw[Q]at h;simp only[X7,S3]at h;obtain⟨rfl,rfl⟩:=h;have ab:=ku (λ(acc:Λ)t=>t.shared=[]/\t.toks.length<=s.toks.length/\(t.big=false->A.big=false/\k<=2147483648/\∀z∈acc,1<=z/\z<=32)) (λacc t a bn ⟨g1,V,R⟩ g=>by
  unfold fV at g;cases w:bd 1 most t with
  |none=>rw[w]at g;cases g
  |some q=>
   obtain⟨z,r⟩:=q;rw[w]at g;simp only[X7,S3]at g;obtain⟨rfl,rfl⟩:=g;have W:=dK w;obtain⟨aA,ac,ad⟩:=W.eqs;have aB:=(h4 w).1;refine⟨by show r.shared=[];rw[ad,g1],by show r.toks.length<=_;have:=W.1;omega,λe=>?_⟩;obtain⟨j,B⟩:=qn e;rw[ac]at j;obtain⟨S,T,ae⟩:=R j;refine⟨S,T,λy C=>?_⟩;rcases j0.1 C with C|C
   .exact ae y C
   .rw[j6.1 C];have:=of_decide_eq_false B;omega) n.toNat [] (a8 (decide (2147483648<k)) A) sizes H ⟨by
     show A.shared=[];rw[t4.eqs.2.2];show F.shared=[];rw[t3.eqs.2.2,N.eqs.2.2];show s1.shared=[];rw[r.eqs.2.2];show s0.shared=[];rw[U];exact I,by
     show A.toks.length<=_;have af:=r.1;have ag:=N.1;have a3:=t3.1;have a4:=t4.1;have j:(a8 (decide (64<name.length)) s0).toks=s0.toks:=rfl;have B:(a8 (decide (64<n)) s1).toks=s1.toks:=rfl;have K:(a8 (decide (256<E)) F).toks=F.toks:=rfl;rw[j]at af;rw[B]at ag;rw[K]at a4;rw[J,Z2];omega,λe=>by
     obtain⟨j,B⟩:=qn e;have:=of_decide_eq_false B;exact⟨j,Ω,λz ah=>by cases ah⟩⟩ P
 obtain⟨⟨ai,aj,ak⟩,al⟩:=ab;have am:=ku (λ(acc:List cv)t=>(∀q∈t.shared,mN q.1 q.2/\q.2.length<=s.toks.length)/\t.toks.length<=s.toks.length/\(t.big=false->H.big=false/\∀x∈acc,sz sizes s.toks.length x/\x.scope.length<=6/\dt x.sizes=false)) (λacc t a bn ⟨g1,V,R⟩ g=>by
  obtain⟨an,ao,X,ap⟩:=Kk g1 V g;refine⟨ao,by have:=X.toks;omega,λe=>?_⟩;obtain⟨S,T⟩:=R (Kl X.big e);refine⟨S,λx p=>?_⟩;rcases j0.1 p with p|p
  .exact T x p
  .rw[j6.1 p];exact⟨an,ap e⟩) E.toNat [] H funs aa ⟨(by rw[ai];intro q w;cases w),aj,λe=>⟨e,λx p=>by cases p⟩⟩ Q
 obtain⟨⟨_,_,d3⟩,d4⟩:=am;obtain⟨aq,d5⟩:=d3 e;obtain⟨K,au,aw⟩:=ak aq;rw[t4.eqs.2.1]at K;obtain⟨Y,ax⟩:=qn K;rw[t3.eqs.2.1,N.eqs.2.1]at Y;obtain⟨j,ay⟩:=qn Y;rw[r.eqs.2.1]at j;obtain⟨_,az⟩:=qn j;have:=of_decide_eq_false ax;have:=of_decide_eq_false ay;have:=of_decide_eq_false az;have aC:=(h4 h1).1;have hk:=(h4 G).1;simp only[List.length_nil,X6]at al d4;exact⟨⟨by show name.length<=64;omega,⟨hk.1,au⟩,⟨by show 1<=sizes.length;omega,by show sizes.length<=64;omega,aw⟩,by show funs.length<=256;omega,d5⟩,by rw[J];exact .head _⟩
def jQ(x:cv)(k:Int)(t:Λ):Int:=min (match x.lines.find? (λp=>decide (p.1=t))with
 |some p=>p.2
 |none=>x.other) k
def bo(l:Λ):Λ:=((W5 64).map λ(v:Nat)=>(v:Int)).filter λv=>decide (v∈l)
def bI(sizes scope:Λ):Λ:=scope.map λv=>sizes.getD v.toNat 0
def pe(scope a t:Λ):Λ:=scope.map λv=>t.getD (a.idxOf v) 0
abbrev cJ:Type:=Λ×Λ
def h5(sizes:Λ)(k:Int)(x:cv):cJ:=(bo x.scope,(bc (bI sizes (bo x.scope))).map λt=>jQ x k (pe x.scope (bo x.scope) t))
def ee(k:Int)(a b:Λ):Λ:=List.zipWith (λx y=>min (x+y) k) a b
def iv(k:Int)(acc:List cJ)(g:cJ):List cJ:=if g.1∈acc.map (·.1)then acc.map λh=>if h.1=g.1 then(h.1,ee k h.2 g.2)else h else acc++[g]
def jr:Λ->Int
 |[]=>0
 |x::l=>x*64 ^ l.length+jr l
def db(l:Λ):Int:=l.length*64 ^ 6+jr l
def hF(g:cJ):List cJ->List cJ
 |[]=>[g]
 |h::l=>if db h.1<db g.1 then h::hF g l else g::h::l
def fH(g:cJ):Bool:=g.2.any λc=>decide (0<c)
def ft(f:cb):List cJ:=(f.funs.map (h5 f.sizes f.k)).foldl (iv f.k) []
def fI(f:cb):List cJ:=((ft f).filter fH).foldl (λl g=>hF g l) []
structure aK where
 k:Int
 sizes:Λ
 zero:Int
 unary:List (Λ)
 funs:List cJ
deriving DecidableEq
def cH(f:cb):aK:=(fI f).foldl (λn g=>match g.1 with
 |[]=>{n with zero:=g.2.getD 0 0}
 |[v]=>{n with unary:=n.unary.set v.toNat g.2}
 |_=>{n with funs:=n.funs++[g]}) ⟨f.k,f.sizes,0,f.sizes.map λz=>o5 z.toNat 0,[]⟩
abbrev iT:Type:=Rd (Λ)×Rd (List (Λ×Int))
def bG(g gs:Nat)(A:af):af:=λr=>r=g\/r=gs\/A r
def fJ(gs:Nat)(e big a f told:Int)(sv:x3):List x3:=[Γ gs,Δ e,Δ big,Δ a,Δ f,Δ told,sv]
def cG(g gs:Nat)(A:af)(B:af):af:=λr=>¬bG g gs A r/\B r
def lb(w:x4)(g gs:Nat)(A:af)(B:af):Prop:=g≠gs/\¬A g/\¬A gs/\(∀r,bG g gs A r->r<w.heap.size)/\∀r,B r->r<w.heap.size
def di(w:x4)(g gs:Nat)(A:af)(B:af)(s:aE)(clean:Bool):Prop:=lb w g gs A B/\hE w gs (cG g gs A B) s.toks clean/\(0<=s.told/\s.told<=av/\s.shared.length+s.toks.length<=100000)/\
 ∃big a e told sv,ac w g ci (fJ gs 0 big a e told sv)/\((s.big=true↔big≠0)/\(s.big=false->told=s.told))/\bl A (cG g gs A B) w [sv] (show List iT from s.shared)
def eE(w:x4)(g gs:Nat)(A:af)(B:af):Prop:=lb w g gs A B/\∃(e big a f told:Int)(sv:x3)(l:List iT),ac w g ci (fJ gs e big a f told sv)/\(e≠0/\l.length<=100000)/\bl A (cG g gs A B) w [sv] l
def lb.aa{g:Nat}{A:af}{B:af}(h:lb w g gs A B)(e:ae S w w'):lb w' g gs A B:=by
 obtain⟨h1,f,j,p,q⟩:=h;exact⟨h1,f,j,λr a=>T8 (p r a) e.size,λr a=>T8 (q r a) e.size⟩
def A6{g:Nat}{A:af}{B:af}(a:∀r,A r->¬S r)(e:∀r,cG g gs A B r->¬S r):∀r,A r\/cG g gs A B r->¬S r:=λr h=>h.elim (a r) (e r)
def di.aa{g:Nat}{A:af}{B:af}{s:aE}(h:di w g gs A B s clean)(a:ae S w w')(e:∀r,bG g gs A r->¬S r)(f:∀r,cG g gs A B r->¬S r):di w' g gs A B s clean:=by
 obtain⟨h1,j,p,big,q,x,told,sv,y,z,C⟩:=h;exact⟨h1.aa a,j.aa a (e gs (.inr (.inl rfl))) f,p,big,q,x,told,sv,y.aa a (e g (.inl rfl)),z,al.aa C a λr _ h=>A6 (λr E=>e r (.inr (.inr E))) f r h⟩
def eE.aa{g:Nat}{A:af}{B:af}(h:eE w g gs A B)(a:ae S w w')(f:∀r,bG g gs A r->¬S r)(j:∀r,cG g gs A B r->¬S r):eE w' g gs A B:=by
 obtain⟨h1,e,big,p,q,told,sv,l,s,x,y⟩:=h;exact⟨h1.aa a,e,big,p,q,told,sv,l,s.aa a (f g (.inl rfl)),x,al.aa y a λr _ h=>A6 (λr z=>f r (.inr (.inr z))) j r h⟩
def di.ext{g:Nat}{A:af}{B:af}{s:aE}(h:di w g gs A B s clean)(a:Ext w w'):di w' g gs A B s clean:=h.aa (a.aa λ_=>False) (λ_ _ h=>h) (λ_ _ h=>h)
def eE.ext{g:Nat}{A:af}{B:af}(h:eE w g gs A B)(a:Ext w w'):eE w' g gs A B:=h.aa (a.aa λ_=>False) (λ_ _ h=>h) (λ_ _ h=>h)
def fX(w:x4)(g gs:Nat)(A:af)(B:af)(clean:Bool)(s':Option aE)(w':x4):Prop:=ae (bG g gs A) w w'/\match s' with
 |some s'=>di w' g gs A B s' clean
 |none=>eE w' g gs A B
def vL{g:Nat}{big a f told:Int}(h:ac w g ci (fJ gs e big a f told sv)):ai x8 kW [Γ g] w λv w'=>v= .bool (decide (e=0))/\Ext w w':=by
 refine az func112 ?_;rw[bY,aS ci.p rfl,aS e1.p rfl,aD Ψ (h.cell (o:=0+1+0) rfl),bf];exact⟨rfl,Ext.refl _⟩
def pf{g:Nat}{A:af}{B:af}{s:aE}(h:di w g gs A B s clean):ai x8 kW [Γ g] w λv w'=>v= .bool true/\Ext w w':=by
 obtain⟨_,_,_,big,e,f,told,sv,a,_⟩:=h;exact(vL a).mono λ_ _ _ h=>h
def nV{g:Nat}{A:af}{B:af}(h:eE w g gs A B):ai x8 kW [Γ g] w λv w'=>v= .bool false/\Ext w w':=by
 obtain⟨_,e,big,p,q,told,sv,l,a,f,_⟩:=h;refine(vL a).mono ?_;rintro _ J _ ⟨rfl,j⟩;exact⟨by rw[decide_eq_false f.1],j⟩
def sA{g:Nat}{A B:af}(h:A r\/cG g gs A B r)(a:¬A g):r≠g:=by
 rintro rfl;rcases h with h|h
 .exact a h
 .exact h.1 (.inl rfl)
def sB{g:Nat}{A:af}{B:af}{big s a told:Int}{l:List iT}(I:lb w g gs A B)(x:ac w g ci (fJ gs 0 big s a told sv))(y:bl A (cG g gs A B) w [sv] l)(he:e≠0)(z:l.length<=100000):
  ai x8 nz [Γ g,Δ e,Δ at_] w λ_ w'=>ae (λr=>r=g) w w'/\eE w' g gs A B:=by
 refine az func115 ?_;rw[bY,aS ci.p rfl,aS e1.p rfl,aD Ψ (x.cell (o:=0+1+0) rfl),bf,aj];refine⟨λ_=>?_,λh=>absurd rfl h⟩;rw[bY,aS ci.p rfl,aS e1.p rfl];refine bp (g:=g) (o:=1) jF.i rfl rfl x (by simp[fJ]) λJ C H f=>?_;have f:ac J g ci (fJ gs e big s a told sv):=f;rw[bY,aS ci.p rfl,aS e1.p rfl];refine bp (g:=g) (o:=3) ah.i rfl rfl f (by simp[fJ]) λU E K j=>?_;have j:ac U g ci (fJ gs e big at_ a told sv):=j;have q:=C.trans E;exact⟨q,I.aa q,e,big,at_,a,told,sv,l,j,⟨he,z⟩,al.aa y q λr _ h G=>sA h I.2.1 G⟩
def sC{g:Nat}{A:af}{B:af}{s:aE}(h:di w g gs A B s clean)(he:e≠0):ai x8 nz [Γ g,Δ e,Δ at_] w λ_ w'=>ae (λr=>r=g) w w'/\eE w' g gs A B:=by
 obtain⟨I,_,a,big,p,q,told,sv,f,_,j⟩:=h;exact sB I f j he (by have:=a.2.2;show s.shared.length<=_;omega)
def Km{g:Nat}{A:af}{B:af}(h:eE w g gs A B):ai x8 nz [Γ g,Δ e,Δ at_] w λ_ w'=>Ext w w':=by
 obtain⟨_,f,big,j,q,told,sv,l,h1,a,_⟩:=h;refine az func115 ?_;rw[bY,aS ci.p rfl,aS e1.p rfl,aD Ψ (h1.cell (o:=0+1+0) rfl),bf,aj];exact⟨λh=>absurd h a.1,λ_=>Ext.refl _⟩
def sD{g:Nat}{A:af}{B:af}{s:aE}{b:Bool}(h:di w g gs A B s clean):ai x8 p0 [Γ g,.bool b,Δ at_] w λ_ w'=>ae (λr=>r=g) w w'/\di w' g gs A B (a8 b s) clean:=by
 obtain⟨I,z,C,big,e,E,told,sv,f,G,H⟩:=id h;refine az func110 ?_;refine aW (λv J=>w=J/\v= .bool (b&&decide (big=0))) ?_ ?_
 rotate_left
 .intro ax q;cases b with
  |false=>rw[aY];exact q _ _ ⟨rfl,rfl⟩
  |true=>
   rw[bQ,bY,aS ci.p rfl,aS e1.p rfl,aD Ψ (f.cell (o:=0+1+1) rfl),bf,aj];refine⟨λa=>?_,λa=>q _ _ ⟨rfl,by rw[decide_eq_false a];rfl⟩⟩;rw[bY,aS ci.p rfl,aS e1.p rfl,aD Ψ (f.cell (o:=0+1+0) rfl),bf];exact q _ _ ⟨rfl,by rw[decide_eq_true a];rfl⟩
 rintro _ _ ⟨rfl,rfl⟩;rw[cg];refine⟨λK=>?_,λL=>?_⟩
 .obtain⟨rfl,a⟩:=Bool.and_eq_true_iff.1 K;rw[bY,aS ci.p rfl,aS e1.p rfl];refine bp (g:=g) (o:=2) jF.i rfl rfl f (by simp[fJ]) λJ M Q x=>?_;have x:ac J g ci (fJ gs 0 5 e E told sv):=x;rw[bY,aS ci.p rfl,aS e1.p rfl];refine bp (g:=g) (o:=4) ah.i rfl rfl x (by simp[fJ]) λU N R y=>?_;have y:ac U g ci (fJ gs 0 5 e at_ told sv):=y;have j:=M.trans N;exact⟨j,I.aa j,z.aa j (λhe=>I.1 he.symm) (λr O he=>O.1 (.inl he)),C,5,e,at_,told,sv,y,⟨⟨λ_=>Ω,λ_=>by simp[a8]⟩,λh=>by simp[a8]at h⟩,al.aa H j λr _ h P=>sA h I.2.1 P⟩
 .refine⟨ae.refl _ _,I,z,C,big,e,E,told,sv,f,⟨?_,λh=>G.2 (by
   have h:(s.big||b)=false:=h;exact(U7.1 h).1)⟩,H⟩
  show(s.big||b)=true↔big≠0;cases b with
  |false=>rw[Bool.or_false];exact G.1
  |true=>
   have a:big≠0:=of_decide_eq_false (by simpa using L);simp[a]
def A7{g:Nat}{A:af}{B:af}{b:Bool}(h:eE w g gs A B):ai x8 p0 [Γ g,.bool b,Δ at_] w λ_ w'=>Ext w w':=by
 obtain⟨_,j,big,q,r,told,sv,l,h1,e,_⟩:=h;refine az func110 ?_;refine aW (λv J=>w=J/\v= .bool false) ?_ ?_
 .rintro _ _ ⟨rfl,rfl⟩;rw[aY];exact Ext.refl _
 intro ax a;cases b with
 |false=>rw[aY];exact a _ _ ⟨rfl,rfl⟩
 |true=>
  rw[bQ,bY,aS ci.p rfl,aS e1.p rfl,aD Ψ (h1.cell (o:=0+1+1) rfl),bf,aj];refine⟨λf=>?_,λf=>a _ _ ⟨rfl,rfl⟩⟩;rw[bY,aS ci.p rfl,aS e1.p rfl,aD Ψ (h1.cell (o:=0+1+0) rfl),bf];exact a _ _ ⟨rfl,by rw[decide_eq_false e.1]⟩
def di.scan{g:Nat}{A:af}{B:af}{s:aE}{l:List (Λ)}(h:di w g gs A B s clean)(a:ae (λr=>r=gs) w w')(I:hE w' gs (cG g gs A B) l clean)(z:l.length<=s.toks.length):di w' g gs A B {s with toks:=l} clean:=by
 obtain⟨h1,_,e,big,j,p,told,sv,q,x,y⟩:=h;refine⟨h1.aa a,I,⟨e.1,e.2.1,by have:=e.2.2;show s.shared.length+l.length<=100000;omega⟩,big,j,p,told,sv,q.aa a h1.1,x,al.aa y a λr _ h f=>?_⟩;have f:r=gs:=f;subst f;rcases h with h|h
 .exact h1.2.2.1 h
 .exact h.1 (.inr (.inl rfl))
def A8{g:Nat}{A:af}{B:af}{s:aE}(h:di w g gs A B s clean):ai x8 y7 [Γ g] w λv w'=>fX w g gs A B clean ((dU s).map (·.2)) w'/\∃(t:Λ)(n:Int),v= .tuple #[bT t,Δ n]/\Bytes t/\t.length<=100000/\∀q,dU s=σ q->t=q.1:=by
 refine az func109 ?_;refine(pf h).mono ?_;rintro _ J _ ⟨rfl,K⟩;rw[bJ,X3,aY];have h1:=h.ext K;obtain⟨_,L,_,big,O,P,told,sv,z,_⟩:=id h1;have Q:=L.words.2;rw[aP ci.p 0 z rfl];refine(qm L).mono ?_;rintro v U _ ⟨j,y⟩;have M:ae (bG g gs A) w U:=(K.aa _).trans (j.mono λr _ h=>.inr (.inl h));cases f:s.toks with
 |cons t l=>
  rw[f]at y;obtain⟨R,n,rfl⟩:=y;have S:=h1.scan j R (by rw[f];simp);have C:dU s=σ (t,{s with toks:=l}):=by unfold dU;rw[f]
  have N:=Q t (by rw[f];exact .head _);rw[gY,gZ,ha];refine aW (λv E=>U=E/\v=Δ 0) ?_ ?_
  .rintro _ _ ⟨rfl,rfl⟩;refine dh (λx=>U=x) ?_ ?_
   .rintro _ rfl;rw[C];exact⟨⟨M,S⟩,t,n,rfl,N.1,N.2.2,λq G=>by cases G;rfl⟩
   .intro ax a;rw[bN,aj];exact⟨λh=>absurd rfl h,λ_=>a _ rfl⟩
  .intro ax a;rw[bf,aj];exact⟨λh=>Ω,λ_=>a _ _ ⟨rfl,rfl⟩⟩
 |nil=>
  rw[f]at y;obtain⟨n,rfl⟩:=y;have C:dU s=ν:=by unfold dU;rw[f]
  obtain⟨H,_,V,big,O,P,told,sv,z,ad,W⟩:=id h1;have X:=z.aa j H.1;have Y:=al.aa W j λr _ h I=>by
   have I:r=gs:=I;subst I;rcases h with h|h
   .exact H.2.2.1 h
   .exact h.1 (.inr (.inl rfl))
  rw[gY,gZ,ha];refine aW (λv E=>U=E/\∃e:Int,v=Δ e/\e≠0) ?_ ?_
  .rintro _ _ ⟨rfl,e,rfl,he⟩;refine dh (λx=>ae (λr=>r=g) U x/\eE x g gs A B) ?_ ?_
   .rintro x ⟨Z,ab⟩;rw[C];exact⟨⟨M.trans (Z.mono λr _ h=>.inl h),ab⟩,[],n,rfl,λb ac=>(by cases ac),Ξ,λq G=>by cases G⟩
   .intro ax a;rw[bN,aj];refine⟨λ_=>?_,λh=>absurd he h⟩;exact(sB (H.aa j) X Y he (by have:=V.2.2;show s.shared.length<=_;omega)).mono λ_ w' _ h=>a _ h
  .intro ax a;rw[bf,aj];cases clean with
   |true=>exact⟨λ_=>a _ _ ⟨rfl,4,rfl,Ω⟩,λh=>absurd rfl h⟩
   |false=>exact⟨λh=>by simp at h,λ_=>a _ _ ⟨rfl,11,rfl,Ω⟩⟩
def Kn{g:Nat}{A:af}{B:af}(h:eE w g gs A B):ai x8 y7 [Γ g] w λv w'=>Ext w w'/\v= .tuple #[bT [],Δ 0]:=by
 refine az func109 ?_;refine(nV h).mono ?_;rintro _ J _ ⟨rfl,a⟩;rw[bJ,W3,bQ];exact⟨a,rfl⟩
def vM{g:Nat}{A:af}{B:af}{s:aE}(h:di w g gs A B s clean):ai x8 ny [Γ g,Δ lo,Δ hi] w λv w'=>fX w g gs A B clean ((bd lo hi s).map (·.2)) w'/\∃n at_:Int,v= .tuple #[Δ n,Δ at_]/\(∀q,bd lo hi s=σ q->n=q.1)/\(bd lo hi s=ν->n=0):=by
 refine az func111 ?_;refine(A8 h).mono ?_;rintro _ J _ ⟨⟨y,f⟩,t,n,rfl,H,I,hw⟩;rw[bx,bz];cases j:dU s with
 |none=>
  have a:bd lo hi s=ν:=by unfold bd;rw[j]
  rw[j]at f;have f:eE J g gs A B:=f;refine(nV f).mono ?_;rintro _ U _ ⟨rfl,p⟩;rw[bJ,W3,bQ,a];exact⟨⟨y.trans (p.aa _),f.ext p⟩,0,n,rfl,λq h=>(by cases h),λ_=>rfl⟩
 |some q=>
  obtain⟨bn,s1⟩:=q;have:=hw _ j;subst this;rw[j]at f;have f:di J g gs A B s1 clean:=f;refine(pf f).mono ?_;rintro _ U _ ⟨rfl,p⟩;rw[bJ,X3,aY];refine(Ki H I).mono ?_;rintro _ z _ ⟨rfl,C⟩;have E:=(f.ext p).ext C;have G:ae (bG g gs A) w z:=(y.trans (p.aa _)).trans (C.aa _);obtain⟨m,e,K,hm⟩:∃m e:Int,kt t= .tuple #[Δ m,Δ e]/\((gv t=σ m/\e=0)\/(gv t=ν/\e=4)):=by
   unfold kt;cases O:gv t with
   |none=>exact⟨0,4,rfl,.inr ⟨rfl,rfl⟩⟩
   |some m=>exact⟨m,0,rfl,.inl ⟨rfl,rfl⟩⟩
  rw[K,bx,bz];refine aW (λv L=>z=L/\v= .bool (bd lo hi s).isNone) ?_ ?_
  .rintro _ _ ⟨rfl,rfl⟩;cases a:bd lo hi s with
   |none=>
    rw[Option.isNone_none,bQ];refine(sC E Ω).mono ?_;rintro _ P _ ⟨M,N⟩;exact⟨⟨G.trans (M.mono λr _ h=>.inl h),N⟩,0,n,rfl,λq h=>(by cases h),λ_=>rfl⟩
   |some q=>
    rw[Z6,aY];unfold bd at a;rw[j]at a;simp only at a;rcases hm with⟨hm,_⟩|⟨hm,_⟩
    .rw[hm]at a;simp only at a;split at a
     .cases a;exact⟨⟨G,E⟩,m,n,rfl,λq h=>(by cases h;rfl),λh=>(by cases h)⟩
     .cases a
    .rw[hm]at a;cases a
  .intro ax x;have a:bd lo hi s=match gv t with
     |none=>ν
     |some n=>if lo<=n/\n<=hi then σ (n,s1)else ν:=by
    unfold bd;rw[j];simp only;cases gv t<;>rfl
   rw[bN,aj];rcases hm with⟨hm,rfl⟩|⟨hm,rfl⟩
   .rw[hm]at a;simp only at a;refine⟨λh=>absurd rfl h,λ_=>?_⟩;rw[aR,aj];refine⟨λh=>x _ _ ⟨rfl,by rw[a,if_neg Ω];rfl⟩,λh=>?_⟩;rw[bS];refine x _ _ ⟨rfl,?_⟩;rw[a];by_cases ap:hi<m
    .rw[decide_eq_true ap,if_neg Ω];rfl
    .rw[decide_eq_false ap,if_pos Ω];rfl
   .rw[hm]at a;exact⟨λ_=>x _ _ ⟨rfl,by rw[a];rfl⟩,λh=>absurd (by omega:(4:Int)≠0) h⟩
def Ko{g:Nat}{A:af}{B:af}(h:eE w g gs A B):ai x8 ny [Γ g,Δ lo,Δ hi] w λv w'=>Ext w w'/\v= .tuple #[Δ 0,Δ 0]:=by
 refine az func111 ?_;refine(Kn h).mono ?_;rintro _ J _ ⟨a,rfl⟩;rw[bx,bz];refine(nV (h.ext a)).mono ?_;rintro _ U _ ⟨rfl,e⟩;rw[bJ,W3,bQ];exact⟨a.trans e,rfl⟩
def Kp{x:Int}(h:aG .i64 w sv l):ai x8 Iu [sv,Δ x] w λv w'=>Ext w w'/\∃r:Int,v=Δ r/\(0<=r↔x∈l):=by
 refine az func251 ?_;rw[aU aq.u h];refine b4.range l.length (λi _ J=>Ext w J/\x∉l.take i) h.le ⟨Ext.refl _,Ξ⟩ ?_ ?_
 .rintro i _ J k hi ⟨a,e⟩ hk;refine bA Ω ?_;obtain⟨y,f⟩:=aF (l:=l) hi;rw[bb aq.u am.i Ψ (h.ext a) f,bf,aj];refine⟨λhe=>⟨a,i,rfl,⟨λ_=>he▸x6 f,λ_=>Ω⟩⟩,λhe=>?_⟩;rw[aL];refine hk _ _ ⟨a,λhm=>?_⟩;rw[u9,f]at hm;rcases j0.1 hm with hm|hm
  .exact e hm
  .simp at hm;exact he hm
 .rintro _ J k ⟨a,e⟩;rw[o8]at e;rw[aR,aj];exact⟨λh=>Ω,λ_=>⟨a,-1,rfl,⟨λh=>Ω,λh=>absurd h e⟩⟩⟩
def Kq{x:Int}(h:aG .i64 w sv l):ai x8 H6 [sv,Δ x] w λv w'=>v= .bool (decide (x∈l))/\Ext w w':=by
 refine az func211 ?_;refine(Kp h).mono ?_;rintro _ J _ ⟨a,r,rfl,e⟩;rw[cS];exact⟨by congr 1;rw[V7,decide_eq_true_eq,decide_eq_true_eq];exact e,a⟩
theorem sE:∀{l:Λ},(∀z∈l,1<=z)->∀i,aN ((l.take i).map λk=>min k 4097)<=aN (l.map λk=>min k 4097)/\1<=aN ((l.take i).map λk=>min k 4097)
 |[],_,i=>by simp[aN]
 |z::l,h,0=>by
  have a:=sE (l:=l) (λx e=>h x (.tail _ e)) l.length;rw[o8]at a;have f:=h z (.head _);simp only[List.take_zero,List.map_nil,T0,aN];have:=Int.mul_le_mul_of_nonneg_left a.2 (show 0<=min z 4097 by omega);omega
 |z::l,h,i+1=>by
  have a:=sE (l:=l) (λx e=>h x (.tail _ e)) i;have f:=h z (.head _);simp only[List.take_succ_cons,T0,aN];have h1:=Int.mul_le_mul_of_nonneg_left a.1 (show 0<=min z 4097 by omega);have j:=Int.mul_le_mul_of_nonneg_left a.2 (show 0<=min z 4097 by omega);exact⟨h1,Ω⟩
def Ba(l:Λ)(x:Int):aN (l++[x])=aN l*x:=by
 induction l with
 |nil=>simp[aN]
 |cons a l e=>rw[List.cons_append,aN,e,aN,Int.mul_assoc]
def Bb(h:aG .i64 w sv l)(h1:∀z∈l,1<=z):ai x8 HA [sv] w λv w'=>v= .bool (dt l)/\Ext w w':=by
 refine az func166 ?_;rw[aU aq.u h];refine mw.range l.length (λi _ n J=>Ext w J/\n=Δ (aN ((l.take i).map λk=>min k 4097))/\aN ((l.take i).map λk=>min k 4097)<=4096) h.le ⟨Ext.refl _,by simp[aN],by simp[aN]⟩ ?_ ?_
 .rintro i _ _ J p hi ⟨a,rfl,f⟩ q;refine bA Ω ?_;obtain⟨z,j⟩:=aF (l:=l) hi;have s:=h1 z (x6 j);have x:=sE h1 i;have y:=sE h1 (i+1);have e:aN ((l.take (i+1)).map λk=>min k 4097)=aN ((l.take i).map λk=>min k 4097)*min z 4097:=by
   rw[u9,j,l7,Z4,T0,List.map_nil,Ba]
  rw[bb aq.u am.i Ψ (h.ext a) j,lW,gp,<-e];have A:aN ((l.take (i+1)).map λk=>min k 4097)<=4096*4097:=by
   rw[e];have B:=Int.mul_le_mul_of_nonneg_right f (show 0<=min z 4097 by omega);have C:=Int.mul_le_mul_of_nonneg_left (show min z 4097<=4097 by omega) (show(0:Int)<=4096 by omega);omega
  rw[wrap_i64 Ω Ω,bS,aj];refine⟨λr=>⟨?_,a⟩,λr=>?_⟩
  .unfold dt;rw[decide_eq_true];omega
  .rw[aL];exact q _ _ _ ⟨a,rfl,Ω⟩
 .rintro _ _ J p ⟨a,rfl,f⟩;rw[o8]at f;rw[aR,aj];refine⟨λh=>Ω,λ_=>⟨?_,a⟩⟩;unfold dt;rw[decide_eq_false];omega
def kv(n:Int)(acc:Λ)(s:aE):Option (Int×aE):=match bd 0 (n-1) s with
 |none=>ν
 |some (v,s)=>if v∈acc then ν else σ (v,s)
def pg{α:Type}{f:List α->aE->Option (α×aE)}{acc:List α}{s:aE}(h:f acc s=ν):cO f (n+1) acc s=ν:=by
 simp only[cO,h]
def sF{α:Type}{f:List α->aE->Option (α×aE)}{acc:List α}{s s':aE}{a:α}(h:f acc s=σ (a,s')):cO f (n+1) acc s=cO f n (acc++[a]) s':=by
 simp only[cO,h]
def di.qo{g:Nat}{A:af}{B:af}{s:aE}(h:di w g gs A B s clean):(∀r,bG g gs A r->r<w.heap.size)/\(∀r,B r->r<w.heap.size):=⟨h.1.2.2.2.1,h.1.2.2.2.2⟩
def Kr{g k:Nat}{A B:af}{s:aE}{m:Int}(h:di w g gs A B s clean)(hk:k<=4611686018427387904)(hm:0<=m/\m<=1000000):
  ai x8 zg [Γ g,Δ (k:Int),Δ m] w λv w'=>fX w g gs A B clean ((e3 m k s).map (·.2)) w'/\
   ∃gr l,au .i64 am w' gr v l/\(∀r,leads v r->w.heap.size<=r)/\l.length<=100001/\∀q,e3 m k s=σ q->l=q.1:=by
 obtain⟨ab,ay⟩:=h.qo;have aA:=h.2.1.words.1;refine az func165 ?_;refine⟨λout Q J=>∃i:Nat,Q=Δ (i:Int)/\i<=k/\ae (bG g gs A) w J/\∃gr l,au .i64 am J gr out l/\w.heap.size<=gr/\l.length<=100001/\
  ((∃st,di J g gs A B st clean/\cO (kv m) (k-i) l st=e3 m k s/\l.length+st.toks.length<=100000)\/(eE J g gs A B/\e3 m k s=ν)),λ_ Q _=>k-(b0 Q).toNat,
  ⟨0,rfl,X8 _,ae.refl _ _,w.heap.size,[],au.nil _ _ _ _,o6 _,Ξ,.inl ⟨s,h,rfl,by simpa using aA⟩⟩,?_⟩
 rintro out _ J ⟨i,rfl,aB,ac,gr,l,ad,ba,bb,ag⟩;have s1:=ac.size;have R:∀r,leads out r->w.heap.size<=r:=λr y=>by have:=bR ad y;omega
 refine aW (λv U=>Ext J U/\((v= .bool true/\i<k/\∃st,di U g gs A B st clean/\cO (kv m) (k-i) l st=e3 m k s/\l.length+st.toks.length<=100000)\/
  (v= .bool false/\((∃st,di U g gs A B st clean/\e3 m k s=σ (l,st))\/(eE U g gs A B/\e3 m k s=ν))))) ?_ ?_
 rotate_left
 .intro ax K;rw[aR,aj];refine⟨λbc=>?_,λbe=>?_⟩
  .rcases ag with⟨st,z,x,S⟩|⟨E,V⟩
   .refine (pf z).mono ?_;rintro _ U _ ⟨rfl,C⟩;exact K _ _ ⟨C,.inl ⟨rfl,Ω,st,z.ext C,x,S⟩⟩
   .refine (nV E).mono ?_;rintro _ U _ ⟨rfl,C⟩;exact K _ _ ⟨C,.inr ⟨rfl,.inr ⟨E.ext C,V⟩⟩⟩
  .have aC:k-i=0:=Ω
   rcases ag with⟨st,z,x,S⟩|aD
   .rw[aC]at x;exact K _ _ ⟨Ext.refl _,.inr ⟨rfl,.inl ⟨st,z,x.symm⟩⟩⟩
   .exact K _ _ ⟨Ext.refl _,.inr ⟨rfl,.inr aD⟩⟩
 rintro _ U ⟨C,aF⟩;have W:ae (bG g gs A) w U:=ac.trans (C.aa _);have L:=ad.ext C;rcases aF with⟨rfl,aB,st,z,x,S⟩|⟨rfl,aG⟩
 rotate_left
 .rw[aY];rcases aG with⟨st,z,H⟩|⟨E,H⟩
  .rw[H];exact⟨⟨W,z⟩,gr,l,L,R,Ω,λq f=>by cases f;rfl⟩
  .rw[H];exact⟨⟨W,E⟩,gr,l,L,R,Ω,λq f=>by cases f⟩
 rw[bQ,ed,wrap_i64 Ω Ω];have aH:k-i=(k-(i+1))+1:=Ω
 rw[aH]at x;refine(vM z).mono ?_;rintro _ M _ ⟨⟨N,O⟩,n,at_,rfl,aI,bf⟩;rw[bx,bz];have ah:∀r,leads out r->¬bG g gs A r:=λr y aJ=>by have:=ab r aJ;have:=R r y;omega
 have bg:∀r,g=r->bG g gs A r:=λr h=>.inl h.symm;refine dh (λe=>ae (bG g gs A) U e/\((∃p,di e g gs A B p clean/\cO (kv m) (k-(i+1)) (l++[n]) p=e3 m k s/\l.length+1+p.toks.length<=100000)\/(eE e g gs A B/\e3 m k s=ν))/\l.length+1<=100001) ?_ ?_
 .rintro e ⟨ak,aK,al⟩;have aM:=br L ak ah;have an:=W.trans ak;have bh:=an.size;refine et aq.u am.i rfl λa ga ao bi G aN=>?_;refine jo aq.u am.i rfl (aM.ext G) aN.ls Θ Θ λaO aP aQ bj aS X=>?_;have bk:=G.size;rw[aL,wrap_i64 Ω Ω];have aT:ae (bG g gs A) w aQ:=hD (an.trans (G.aa _)) X λr y he=>by have he:r=gr:=he;omega
  have ap:∀r,bG g gs A r->¬(λr=>r=gr) r:=λr y he=>by have:=ab r y;have he:r=gr:=he;omega
  have av:∀r,cG g gs A B r->¬(λr=>r=gr) r:=λr y he=>by have:=ay r y.2;have he:r=gr:=he;omega
  refine⟨⟨i+1,rfl,Ω,aT,aP,l++[n],aS,Ω,Θ,?_⟩,by simp only[b0];omega⟩;rcases aK with⟨p,P,aU,bl⟩|⟨aV,V⟩
  .exact .inl ⟨p,(P.ext G).aa X ap av,aU,Θ⟩
  .exact .inr ⟨(aV.ext G).aa X ap av,V⟩
 .intro bm Y;cases f:bd 0 (m-1) st with
  |none=>
   rw[f]at O;have E:eE M g gs A B:=O;have I:kv m l st=ν:=by unfold kv;rw[f]
   have H:e3 m k s=ν:=by rw[<-x];exact pg I
   refine aW (λv e=>Ext M e/\v= .bool false) ?_ ?_
   rotate_left
   .intro aX Z;refine(nV E).mono ?_;rintro _ e _ ⟨rfl,j⟩;rw[aY];exact Z _ _ ⟨j,rfl⟩
   rintro _ e ⟨j,rfl⟩;rw[aY];exact Y _ ⟨N.trans (j.aa _),.inr ⟨E.ext j,H⟩,Ω⟩
  |some q=>
   obtain⟨aO,p⟩:=q;have aZ:=aI _ f;subst aZ;rw[f]at O;have aw:di M g gs A B p clean:=O;have a1:=dK f;have al:l.length+1+p.toks.length<=100000:=by have:=a1.1;omega
   refine aW (λv e=>Ext M e/\v= .bool (decide (n∈l))) ?_ ?_
   rotate_left
   .intro aX Z;refine(pf aw).mono ?_;rintro _ e _ ⟨rfl,j⟩;rw[bQ];refine(Kq ((br L N ah).ext j).ls).mono ?_;rintro _ ao _ ⟨rfl,G⟩;exact Z _ _ ⟨j.trans G,rfl⟩
   rintro _ e ⟨j,rfl⟩;have P:=aw.ext j;rw[aj];refine⟨λa2=>?_,λa6=>?_⟩
   .have I:kv m l st=ν:=by unfold kv;rw[f];simp only;rw[if_pos a2]
    refine(sC P Ω).mono ?_;rintro _ ao _ ⟨a7,a8⟩;exact Y _ ⟨(N.trans (j.aa _)).trans (a7.mono λr _ h=>.inl h),.inr ⟨a8,by rw[<-x];exact pg I⟩,Ω⟩
   .have I:kv m l st=σ (n,p):=by unfold kv;rw[f];simp only;rw[if_neg a6]
    exact Y _ ⟨N.trans (j.aa _),.inl ⟨p,P,by rw[<-x];exact(sF I).symm,al⟩,Ω⟩
def mb{a b:Int}(e:0<=a/\a<=4294967296)(f:0<=b/\b<=4294967296):ai x8 Gc [Δ a,Δ b,Δ k] w λv w'=>v=Δ (min (a+b) k)/\Ext w w':=by
 refine az func32 ?_;simp only[aL,bS,aj];rw[wrap_i64 Ω Ω];exact⟨λh=>⟨by rw[Int.min_eq_right Ω],Ext.refl _⟩,λh=>⟨by rw[Int.min_eq_left Ω],Ext.refl _⟩⟩
def qp(a b k:Int):x3:=if cA a k/\cA b k then .tuple #[Δ (min (a+b) k),Δ 0]else .tuple #[Δ 0,Δ 3]
def Bc{a b:Int}:ai x8 zf [Δ a,Δ b,Δ k] w λv w'=>v=qp a b k/\Ext w w':=by
 refine az func160 ?_;refine aW (λv J=>Ext w J/\v= .bool (decide (¬(cA a k/\cA b k)))) ?_ ?_
 .rintro _ J ⟨e,rfl⟩;simp only[aj,aL,lW];refine⟨λh=>⟨by unfold qp;rw[if_neg h],e⟩,λh=>?_⟩;have h:=X4.1 h;obtain⟨⟨h1,r⟩,s,x⟩:=id h;have:=h1.2;rw[wrap_i64 Ω Ω];exact⟨by unfold qp;rw[if_pos h],e⟩
 .intro ax f;refine jN.mono ?_;rintro _ U _ ⟨rfl,j⟩;simp only[bJ,cg];refine⟨λh=>f _ _ ⟨j,?_⟩,λh=>?_⟩
  .have:¬cA a k:=by simpa using h
   rw[decide_eq_true];exact λh=>this h.1
  .have p:cA a k:=by simpa using h
   refine jN.mono ?_;rintro _ y _ ⟨rfl,q⟩;simp only[bJ];exact f _ _ ⟨j.trans q,by simp[p]⟩
def Ks(h:aG .i64 w sv l)(f:l≠[]):
  ai x8 IC [sv] w λv w'=>v=Δ (vE l)/\Ext w w':=by
 obtain⟨x,l,rfl⟩:∃x r,l=x::r:=by cases l with
  |nil=>exact absurd rfl f
  |cons x r=>exact⟨x,r,rfl⟩
 have j:=h.le;refine az func271 ?_;refine dh (λJ=>w=J) ?_ ?_
 .rintro _ rfl;rw[fq (y:=0) (i:=0) rfl aq.u am.i Ψ h (by rfl)];refine⟨λm i U=>Ext w U/\∃k:Nat,i=Δ (k+1:Nat)/\k<=l.length/\m=Δ ((l.take k).foldl min x),λ_ i _=>l.length+1-(b0 i).toNat,⟨Ext.refl _,0,rfl,X8 _,rfl⟩,?_⟩;rintro _ _ U ⟨a,k,rfl,hk,rfl⟩;rw[aU aq.u (h.ext a)];simp only[Z2,aR,aj]at j ⊢;refine⟨λq=>?_,λs=>⟨?_,a⟩⟩
  .obtain⟨y,e⟩:=aF (l:=l) (i:=k) Ω;rw[bb aq.u am.i Ψ (h.ext a) (show(x::l)[k+1]?=σ y from e),lW];simp only[aL];rw[wrap_i64 Ω Ω];refine⟨⟨a,k+1,by congr 1,Ω,?_⟩,?_⟩
   .rw[u9,e,List.foldl_append];rfl
   .simp only[b0];omega
  .have:k=l.length:=Ω
   subst this;rw[o8];rfl
 .intro ax p;rw[aU aq.u h];simp only[aR,aj];exact⟨λh=>by simp at h;omega,λ_=>p _ rfl⟩
def Bd{g:Nat}{cs:Λ}(h:dd w g a sv ag k cs):ai x8 u3 [Γ g] w λv w'=>v=Δ k/\Ext w w':=by
 obtain⟨⟨aZ,gs,e,hm,f⟩,_⟩:=h;refine az func237 ?_;rw[dc eV.u];simp only[Z6,aY];rw[aP cZ.p 1 e rfl];exact⟨rfl,Ext.refl _⟩
def mO{g e:Nat}{cs:Λ}(h:dd w g e sv ag k cs):
  ai x8 G6 [Γ g] w λv w'=>Ext w w'/\∃a,w.heap.size<=a/\au .i64 am w' a v cs:=by
 obtain⟨⟨aZ,gs,f,hm,j⟩,⟨_,_,q⟩,I,r⟩:=h;refine az func126 ?_;rw[dc eV.u];simp only[Z6,aY];rw[aP cZ.p 2 f rfl];exact vk j.ls Ω
def ph{g f:Nat}{cs:Λ}(h:dd w g f sv ag k cs):
  ai x8 HV [Γ g] w λv w'=>v= .agg #[sv]/\Ext w w':=by
 obtain⟨⟨aZ,gs,q,hm,A⟩,_⟩:=h;have s:=hm.ls.cells;refine az func196 ?_;refine bw bC.i λB J C e x=>?_;rw[dc eV.u];simp only[Z6,aY];rw[bY,aS cZ.p rfl,bE (cs:=[sv]) bC.p bC.i rfl (nN (q.ext e) (by
  intro j v a
  match j,a with
  |0,a=>exact a))]
 refine b1 (vs:=[sv]) bC.i rfl rfl (by intro u hu;simp at hu;subst hu;exact s.2) x λE y G z=>?_;rw[fb bC.p bC.i rfl z.range];exact⟨rfl,e.then y (by rintro r H rfl;omega)⟩
def Be(h:aG .i64 w sv ag)(q:ag.length<=1000):ai x8 zs [.agg #[sv]] w λv w'=>Ext w w'/\∃a,w.heap.size<=a/\au .i64 ah w' a v ag:=by
 refine az func236 ?_;refine bk λg J r e f=>?_;rw[aH bC.p 0 f rfl];refine(k6 (h.ext e) Ω).mono ?_;rintro v U _ ⟨j,a,s,hm⟩;have s1:=e.size;exact⟨e.trans j,a,Ω,hm⟩
def Bf(h:aG .i64 w sv ag):ai x8 Iy [.agg #[sv]] w λv w'=>v=Δ ag.length/\Ext w w':=by
 refine az func258 ?_;refine bk λg J f a e=>?_;rw[aH bC.p 0 e rfl,aU an.u (h.ext a)];exact⟨rfl,a⟩
def h6(ag:Λ)(i:Int):Int:=if 0<=i then ag.getD i.toNat 0 else 0
def qq{i:Int}(h:aG .i64 w sv ag):ai x8 Iz [.agg #[sv],Δ i] w λv w'=>v=Δ (h6 ag i)/\Ext w w':=by
 refine az func259 ?_;refine bk λg J r a e=>?_;refine aW (λv U=>v= .bool (decide (i<0\/(ag.length:Int)<=i))/\J=U) ?_ ?_
 .rintro _ _ ⟨rfl,rfl⟩;simp only[aj];refine⟨λh=>⟨?_,a⟩,λq=>?_⟩
  .unfold h6;split
   .rw[u4,Y2 Ω];rfl
   .rfl
  .rw[aH bC.p 0 e rfl];obtain⟨n,rfl⟩:∃n:Nat,i=n:=⟨i.toNat,Ω⟩;have f:n<ag.length:=Ω
   rw[bb an.u ah.i Ψ (h.ext a) (x7 f)];refine⟨?_,a⟩;unfold h6;rw[if_pos Ω,u4,r8,x7 f];rfl
 .intro ax j;simp only[aR,aj];refine⟨λh=>j _ _ ⟨by rw[decide_eq_true];omega,rfl⟩,λq=>?_⟩;rw[aH bC.p 0 e rfl,aU an.u (h.ext a)];simp only[cS];exact j _ _ ⟨by congr 1;simp;omega,rfl⟩
def sG{g B0:Nat}(I:ca ag):
  oG x8 kV [Γ g] (aN ag).toNat (λk vs w=>∃aO gt,vs=[Δ (k:Int),aO]/\B0<=gt/\au .i64 ah w gt aO (cN ag k))
   (λw=>ac w g bC [sv]/\aG .i64 w sv ag/\B0<=w.heap.size):=by
 refine⟨kV.enters,λl ax Q w r _ z ⟨s,x,A⟩ B=>?_⟩;have R:=prod_bound I;refine p5 func94 ?_;rw[bE bC.p bC.i rfl s.range];refine(oT x I).free.mono ?_;rintro _ J ⟨C,rfl,a⟩;refine bU.range (aN ag).toNat (λi U=>ax i U/\ac U g bC [sv]/\aG .i64 U sv ag/\B0<=U.heap.size) Ω ⟨r 0 _ _ a C.b B,s.ext a,x.ext a,Y7 A a.size⟩ ?_ ?_
 .rintro i U k hi ⟨f,j,q,y⟩ hk;simp only[aR,aj];refine⟨λ_=>?_,λh=>Ω⟩;rw[bE bC.p bC.i rfl j.range];refine(Ja q I Ω Ω).free.mono ?_;rintro _ E ⟨G,e,aO,gt,rfl,H,K⟩;rw[bx,bz];refine⟨rfl,(z i _ E hi ⟨j.ext e,q.ext e,Y7 y e.size⟩ ⟨aO,gt,rfl,Y7 y H,K⟩ (r _ _ _ e G.b f)).mono ?_⟩;rintro _ S (⟨rfl,⟨L,M,N⟩,O⟩|⟨rfl,P⟩)
  .simp only[bJ,X3,aY,aL];exact hk _ ⟨O.1,L,M,N⟩
  .simp only[bJ,W3,bQ];exact .inr ⟨i,hi,P⟩
 .rintro U k ⟨f,j,q,_⟩;simp only[aR,aj];exact⟨λh=>Ω,λ_=>.inl f⟩
def sH:ai x8 Gl [.agg #[sv]] w λr w'=>Ext w w'/\∃g,r= .func (.func kV) #[] #[Γ g]/\w.heap.size<=g/\ac w' g bC [sv]:=by
 refine az func51 ?_;refine bk λg J f a e=>?_;rw[k0];exact⟨a,g,rfl,Ω,e⟩
end Go.Proofs.YtikkpokkcdocoaaGreatDoor
namespace Go.Vc
open Go Go.RowKit
set_option maxRecDepth 100000
section
variable{P:V1}{w:x4}
def aB.cr{α:Type}{s:Sem α}{K:α->x4->Prop}(h:aB P s w λv w'=>cL w w'->K v w'):aB P s w K:=by
 obtain⟨v,w',h1,a,e⟩:=h;exact⟨v,w',h1,a,e a⟩
structure Keys(P:V1)(k:r9)(G:x3->Prop):Prop where
 check:∀(w:x4)(em:Bool){v:x3},G v->(Instr.checkKey em 10000 k v).run P w= .ok () w
 find:∀(w:x4){x:x3},G x->∀es:List MapEntry,(∀e∈es,G e.key)->
  ((Instr.findKey k x es).run P w= .ok ν w/\∀e∈es,e.key≠x)\/∃j e,(Instr.findKey k x es).run P w= .ok (σ (j,e.val)) w/\es[j]?=σ e/\e.key=x
 stays:∀(w:x4){v:x3},G v->(Instr.keyThatStays v v).run P w= .ok v w
def Keys.law{k:r9}(K:WideMaps.KeyLaw P k):Keys P k λv=>∃l,keyOf P k v=σ l:=
 ⟨λw a _ ⟨_,h⟩=>K.check w a h,λw _ ⟨_,h⟩ e f=>K.find w h e f,λw _ ⟨_,h⟩=>K.stays w h⟩
def Keys.int{k:r9}{a:n9}(hk:P.underlying k=σ (.int a)):Keys P k λv=>∃n,v= .int a n:=by
 have key:∀n,MapKept.IsKey (.int a) (.int a n):=λn=>rfl;refine⟨λw p v ⟨n,h⟩=>?_,λw x ⟨n,h⟩ q r=>?_,λw v ⟨n,h⟩=>?_⟩
 .subst h;exact MapKept.run_checkKey hk (key n) p 9999
 .subst h;rcases MapKept.findNow_spec (key n) q 0 (λe he=>by obtain⟨m,h⟩:=r e he;rw[h];exact key m)with⟨h1,f⟩|⟨j,e,h1,f,s⟩
  .exact .inl ⟨MapKept.run_findKey hk h1,f⟩
  .exact .inr ⟨j,e,by have:=MapKept.run_findKey (P:=P) (w:=w) hk h1;simpa using this,f,s⟩
 .subst h;exact MapKept.run_keyThatStays (d:=.int a) (key n)
def gM(e:MapEntry):x3×x3:=(e.key,e.val)
def c7(w:x4)(m:Nat)(d:List (x3×x3)):Prop:=∃a e,w.heap[m]?=σ (.map a e)/\MapKept.Stamped a e/\a.toList.map gM=d
def c7.ext{m:Nat}{d:List (x3×x3)}(h:c7 w m d)(a:Ext w w'):c7 w' m d:=by
 obtain⟨e,c,h1,f⟩:=h;exact⟨e,c,a.aV m _ h1 rfl,f⟩
def c7.aa{m:Nat}{d:List (x3×x3)}(h:c7 w m d)(a:ae S w w')(e:¬S m):c7 w' m d:=by
 obtain⟨f,c,h1,j⟩:=h;exact⟨f,c,a.aV m _ h1 rfl e,j⟩
def c7.lt{m:Nat}{d:List (x3×x3)}(h:c7 w m d):m<w.heap.size:=by
 obtain⟨a,c,h1,e⟩:=h;exact(j5.1 h1).1
def c7.nodup{m:Nat}{d:List (x3×x3)}(h:c7 w m d):(d.map (·.1)).Nodup:=by
 obtain⟨e,c,_,⟨_,_,a⟩,rfl⟩:=h;rw[R6];exact a
def kw{α:Type}{l:List α}(h:l.Nodup){i:Nat}{x:α}(hi:l[i]?=σ x)(q:l[j]?=σ x):i=j:=by
 have a:=x5.1 hi;have e:=x5.1 q;have p:=V9.1 h;rcases Nat.lt_trichotomy i j with f|rfl|f
 .exact absurd (a.2.trans e.2.symm) (p i j a.1 e.1 f)
 .rfl
 .exact absurd (e.2.trans a.2.symm) (p j i e.1 a.1 f)
theorem mP{α β:Type}(f:α->β):∀(l:List α)(i:Nat),(l.map f).eraseIdx i=(l.eraseIdx i).map f
 |[],_=>Ξ
 |_::_,0=>rfl
 |x::l,i+1=>by simp[mP f l i]
def c7.uniq{m:Nat}{d:List (x3×x3)}(h:c7 w m d){i:Nat}{p q:x3×x3}(hi:d[i]?=σ p)(a:d[j]?=σ q)(he:p.1=q.1):i=j:=by
 have e:=h.nodup;have h1:(d.map (·.1))[i]?=σ p.1:=by rw[v8,hi];rfl
 have f:(d.map (·.1))[j]?=σ p.1:=by rw[v8,a,he];rfl
 exact kw e h1 f
def sI{m:Nat}{q:Array MapEntry}{c:Nat}(h:w.heap[m]?=σ (.map q c))(a:Array MapEntry)(e:Nat):
  ae (λr=>r=m) w {w with heap:=w.heap.setIfInBounds m (.map a e)}/\cL w {w with heap:=w.heap.setIfInBounds m (.map a e)}/\({w with heap:=w.heap.setIfInBounds m (.map a e)}:x4).heap[m]?=σ (.map a e):=by
 have I:=MapKept.heap_set (o':=.map a e) h;refine⟨⟨Ξ,λr o f j s=>?_⟩,⟨rfl,.ke,rfl,Ξ,λr o f j=>?_⟩,I.1⟩
 .show (w.heap.setIfInBounds m _)[r]?=σ o;rw[I.2 r s];exact f
 .show (w.heap.setIfInBounds m _)[r]?=σ o;by_cases p:r=m
  .subst p;rw[h]at f;cases f;cases j
  .rw[I.2 r p];exact f
def sJ{t:r9}{K:x3->x4->Prop}(h:∀m w',m=w.heap.size->Ext w w'->c7 w' m []->K (.map (σ m)) w'):aB P (Instr.makeMap t ν) w K:=by
 refine .of (run_makeMap t w) (oI w _) (h _ _ rfl (oH w _) ⟨#[],0,?_,MapKept.stamped_empty 0,rfl⟩);exact heap_alloc_new w _
variable{k e:r9}{G:x3->Prop}
def qs{t:r9}{c:Bool}{m:Nat}{d:List (x3×x3)}{x:x3}(y:P.underlying t=σ (.map k e))(hk:Keys P k G)(hm:c7 w m d)(z:∀p∈d,G p.1)(q:G x)(a:d[j]?=σ (x,v)):
  V P (Instr.lookup t (.map (σ m)) x c) w K=K (if c then .tuple #[v,.bool true]else v):=V.of λw' A=>by
 obtain⟨f,B,r,C,rfl⟩:=hm.ext A;have E:∀e∈f.toList,G e.key:=λe he=>z (gM e) (l9.2 ⟨e,he,rfl⟩);rcases hk.find w' q f.toList E with⟨_,h⟩|⟨i,s,h1,h,F⟩
 .rw[v8]at a;obtain⟨H,I,J⟩:=X2.1 a;exact absurd (congrArg Prod.fst J) (h H (x6 I))
 .have L:s.val=v:=by
   have hi:(f.toList.map gM)[i]?=σ (gM s):=by rw[v8,h];rfl
   have M:c7 w' m (f.toList.map gM):=⟨f,B,r,C,rfl⟩;have:=M.uniq hi a F;subst this;rw[hi]at a;exact congrArg Prod.snd (Z0 a)
  simp only[Instr.lookup,W8,run_underlying y,V0,MapKept.run_getObj_map r,V6,hk.check w' _ q,h1,L]
def sK{t:r9}{c:Bool}{m:Nat}{d:List (x3×x3)}{x:x3}(r:P.underlying t=σ (.map k e))(hk:Keys P k G)(a:∃s b,aQ P e s b z)(hm:c7 w m d)(y:∀p∈d,G p.1)(f:G x)(A:∀p∈d,p.1≠x):
  V P (Instr.lookup t (.map (σ m)) x c) w K=K (if c then .tuple #[z,.bool false]else z):=V.of λw' B=>by
 obtain⟨h,I,C,J,rfl⟩:=hm.ext B;have E:∀e∈h.toList,G e.key:=λe he=>y (gM e) (l9.2 ⟨e,he,rfl⟩);have F:(zeroValue e).run P w'= .ok z w':=by
  obtain⟨s,b,i,hi,_,_,a⟩:=a;simp[zeroValue,typeInfo,hi,a]
 rcases hk.find w' f h.toList E with⟨h1,j⟩|⟨i,q,h1,j,H⟩
 .simp only[Instr.lookup,W8,run_underlying r,V0,MapKept.run_getObj_map C,V6,hk.check w' _ f,h1,F]
 .exact absurd H (A (gM q) (l9.2 ⟨q,x6 j,rfl⟩))
def Kt{a:Array MapEntry}{e:MapEntry}{f:MapEntry->MapEntry}(h:a[j]?=σ e):(a.modify j f).toList.map gM=(a.toList.map gM).set j (gM (f e)):=by
 refine Y9 λi=>?_;simp only[v8,R3,Array.getElem?_modify,X1,u7,Array.length_toList];by_cases p:j=i
 .subst p;have:=(j5.1 h);simp[this.1,this.2]
 .simp[p]
def qt{t:r9}{m:Nat}{d:List (x3×x3)}{x:x3}{K:Unit->x4->Prop}(C:P.underlying t=σ (.map k e))(hk:Keys P k G)(hm:c7 w m d)(J:∀p∈d,G p.1)(h:G x)(h1:∀j v0 w',d[j]?=σ (x,v0)->c7 w' m (d.set j (x,v))->ae (λr=>r=m) w w'->K () w')(L:∀w',(∀p∈d,p.1≠x)->c7 w' m (d++[(x,v)])->ae (λr=>r=m) w w'->K () w'):aB P (Instr.mapUpdate t (.map (σ m)) x v) w K:=by
 obtain⟨f,q,a,E,rfl⟩:=hm;have M:∀e∈f.toList,G e.key:=λe he=>J (gM e) (l9.2 ⟨e,he,rfl⟩);rcases hk.find w h f.toList M with⟨s,F⟩|⟨i,H,s,hi,he⟩
 .obtain⟨y,z,A⟩:=sI a (f.push {key:=x,val:=v,born:=q}) (q+1);refine .of (v:=()) (w':=_) ?_ z (L _ (λp N=>?_) ⟨_,_,A,MapKept.stamped_push E F,by simp[gM]⟩ y)
  .simp only[Instr.mapUpdate,W8,run_underlying C,V0,MapKept.run_getObj_map a,hk.check w _ h,s,MapKept.run_setObj_map _ a]
  .obtain⟨O,Q,rfl⟩:=l9.1 N;exact F O Q
 .have B:f[i]?=σ H:=by simpa using hi
  obtain⟨y,z,A⟩:=sI a (f.modify i λe=>{e with key:=x,val:=v}) q;refine .of (v:=()) (w':=_) ?_ z (h1 i H.val _ (by rw[v8,hi];simp[gM,he]) ⟨_,_,A,MapKept.stamped_modify E _ _ (λ_ _=>rfl) (λR _ I=>by rw[B]at I;cases I;exact he.symm),Kt B⟩ y);simp only[Instr.mapUpdate,W8,run_underlying C,V0,MapKept.run_getObj_map a,hk.check w _ h,s,B,Z7,V5,he,hk.stays w h,MapKept.run_setObj_map _ a]
def Ku{t E F:r9}{m:Nat}{d:List (x3×x3)}{x:x3}{K:x3->x4->Prop}(A:P.underlying t=σ (.map k e))(hk:Keys P k G)(hm:c7 w m d)(H:∀p∈d,G p.1)(h:G x)(h1:∀j v0 w',d[j]?=σ (x,v0)->c7 w' m (d.eraseIdx j)->ae (λr=>r=m) w w'->K (.tuple #[]) w')(I:∀w',(∀p∈d,p.1≠x)->c7 w' m d->ae (λr=>r=m) w w'->K (.tuple #[]) w'):aB P (Z5.delete_ #[t,E] F #[.map (σ m),x]) w K:=by
 obtain⟨f,B,a,C,rfl⟩:=hm;have J:∀e∈f.toList,G e.key:=λe he=>H (gM e) (l9.2 ⟨e,he,rfl⟩);rcases hk.find w h f.toList J with⟨q,L⟩|⟨i,M,q,hi,he⟩
 .obtain⟨s,y,z⟩:=sI a f B;refine .of (v:=.tuple #[]) (w':=_) ?_ y (I _ (λp N=>?_) ⟨_,_,z,C,rfl⟩ s)
  .simp only[Z5.delete_,List.getElem?_toArray,List.getElem?_cons_zero,List.getElem?_cons_succ,W8,run_underlying A,V0,MapKept.run_getObj_map a,hk.check w _ h,q,MapKept.run_setObj_map _ a,V6]
  .obtain⟨O,Q,rfl⟩:=l9.1 N;exact L O Q
 .obtain⟨s,y,z⟩:=sI a (f.eraseIdxIfInBounds i) B;refine .of (v:=.tuple #[]) (w':=_) ?_ y (h1 i M.val _ (by rw[v8,hi];simp[gM,he]) ⟨_,_,z,MapKept.stamped_erase C _,by rw[mP];simp⟩ s);simp only[Z5.delete_,List.getElem?_toArray,List.getElem?_cons_zero,List.getElem?_cons_succ,W8,run_underlying A,V0,MapKept.run_getObj_map a,hk.check w _ h,q,MapKept.run_setObj_map _ a,V6]
def Kv{t a:r9}{m:Nat}{d:List (x3×x3)}(f:P.underlying t=σ (.map k e))(hm:c7 w m d):V P (W9 #[t] a #[.map (σ m)]) w K=K (Δ d.length):=V.of λw' h=>by
 obtain⟨p,q,j,r,rfl⟩:=hm.ext h;simp[W9,run_underlying f,MapKept.run_getObj_map j,goInt]
def hG(w:x4)(j m:Nat)(d left:List (x3×x3))(q:Option (x3×x3)):Prop:=∃a f seen hb,w.heap[m]?=σ (.map a f)/\MapKept.Stamped a f/\a.toList.map gM=d/\
 w.heap[j]?=σ (.mapIter (σ m) f seen hb)/\f<=hb/\(leftOf a seen).toList.map gM=left/\∀p,q=σ p->hb=f/\∃h,a.toList.find? (λe=>e.born == seen.back?.getD 0)=σ h/\seen.back? =σ h.born/\gM h=p
def hG.map{m:Nat}{d left:List (x3×x3)}{e:Option (x3×x3)}(h:hG w a m d left e):c7 w m d:=by
 obtain⟨f,c,_,_,h1,j,p,_⟩:=h;exact⟨f,c,h1,j,p⟩
def hG.aV{m:Nat}{d left:List (x3×x3)}{e:Option (x3×x3)}(h:hG w a m d left e)(f:ae S w w')(hm:¬S m)(hi:e0 w w'):hG w' a m d left e:=by
 obtain⟨j,c,s,hb,h1,p,q,r,x⟩:=h;exact⟨j,c,s,hb,f.aV m _ h1 rfl hm,p,q,hi a _ r rfl,x⟩
def hG.ext{m:Nat}{d left:List (x3×x3)}{e:Option (x3×x3)}(h:hG w a m d left e)(f:Ext w w')(hi:e0 w w'):hG w' a m d left e:=
 h.aV (f.aa λ_=>False) (λh=>h) hi
def Kw(a:Array MapEntry):leftOf a #[]=a:=by
 unfold leftOf;exact Array.filter_eq_self.2 λx e=>Ξ
def Bg{t:r9}{m:Nat}{d:List (x3×x3)}{K:x3->x4->Prop}(r:P.underlying t=σ (.map k e))(hm:c7 w m d)(h:∀a w',a=w.heap.size->Ext w w'->e0 w w'->hG w' a m d d ν->K (Γ a) w'):aB P (Instr.range t (.map (σ m))) w K:=by
 obtain⟨j,f,q,s,rfl⟩:=hm;refine .of (run_range_map w t k e m j f r q) (oI w _) (h _ _ rfl (oH w _) (oI w _).kf ⟨j,f,#[],f,(oH w _).aV m _ q rfl,s,rfl,heap_alloc_new w _,o6 _,by rw[Kw],λp x=>by cases x⟩)
theorem Bh:∀(l:List MapEntry)(j:Nat)(a:MapEntry),(l.map (·.born)).Nodup->l[j]?=σ a->l.filter (λx=>!(x.born == a.born))=l.eraseIdx j
 |[],j,a,_,h=>by simp at h
 |x::l,0,a,f,h=>by
  simp at h;subst h;have e:=List.nodup_cons.1 (by simpa using f:(x.born::l.map (·.born)).Nodup);simp only[List.filter_cons,beq_self_eq_true,X3,Bool.false_eq_true,if_false,List.eraseIdx_cons_zero];refine List.filter_eq_self.2 λy p=>?_;have:y.born≠x.born:=λhe=>e.1 (he▸l9.2 ⟨y,p,rfl⟩);simpa using this
 |x::l,j+1,a,f,h=>by
  simp at h;have e:=List.nodup_cons.1 (by simpa using f:(x.born::l.map (·.born)).Nodup);have q:x.born≠a.born:=λhe=>e.1 (he▸l9.2 ⟨a,x6 h,rfl⟩);have r:=Bh l j a e.2 h;simp only[List.filter_cons,List.eraseIdx_cons_succ,r];simp[q]
def Bi{free:fB}{m:Nat}{d left:List (x3×x3)}{T:Option (x3×x3)}{K:x3->x4->Prop}(h:hG w a m d left T)(A:free.1=false->free.2<=a)(U:left=[]->K (.tuple #[.bool false]) w)(h1:∀j p w',left[j]?=σ p->Ext w w'->cC a w w'->hG w' a m d (left.eraseIdx j) (σ p)->K (.tuple #[.bool true,p.1,p.2]) w'):rt P free (Instr.next (Γ a) false 0) w K:=by
 obtain⟨q,s,seen,hb,B,E,rfl,hi,V,rfl,_⟩:=h;have M:∀x∈q.toList,x.born<s:=E.1;have N:=E.2.1;have O:∀x∈(leftOf q seen).toList,x.born<s:=λx z=>M x (mem_left z).1;have W:∀(J:x4)(o':Obj),J.heap=w.heap->(setObj a o').run P J= .ok () {J with heap:=J.heap.setIfInBounds a o'}:=λJ o' he=>by
  simp only[setObj,Sem.run];rw[he,hi]
 unfold rt;simp only[Instr.next,getObj,W8,Sem.run,hi,B,V0,next_test_false seen q s hb M V,Bool.false_eq_true,if_false];have X:Array.filter (λe=>!seen.contains e.born) q=leftOf q seen:=rfl;rw[X];have Y:((leftOf q seen).toList.map (·.born)).Nodup:=by
  unfold leftOf;rw[Array.toList_filter];exact(List.Sublist.map _ List.filter_sublist).nodup N
 have Z:∀C:MapEntry,leftOf q (seen.push C.born)=(leftOf q seen).filter λx=>!(x.born == C.born):=λC=>by
  unfold leftOf;rw[Array.filter_filter];congr 1;funext x;rw[contains_push];cases seen.contains x.born<;>cases x.born == C.born<;>rfl
 generalize aa:leftOf q seen=L at*;have ab:L.filter (λx=>decide (x.born<s))=L:=Array.filter_eq_self.2 (λx z=>by simpa using O x (by simpa using z));have ac:L.filter (λx=>decide (x.born≥s))= #[]:=by
  rw[Array.filter_eq_empty_iff];intro x z;have:=O x (by simpa using z);simp;omega
 simp only[ab,ac,Array.append_empty];by_cases Q:L.size=0
 .have ad:L= #[]:=Array.eq_empty_of_size_eq_zero Q;subst ad;refine⟨.tuple #[.bool false],w,?_,λ_=>cC.refl _ _,U rfl⟩;simp[choose,Sem.run,Question.forced]
 .have ae:L.isEmpty=false:=by simp[Array.isEmpty,Q]
  simp only[ae,Bool.false_eq_true,if_false,Array.empty_append,Array.size_map];have af:∃(j:Nat)(n:Nat),j<L.size/\w.drawn<=n/\(choose (Question.mapNext L.size)).run P w= .ok j {w with drawn:=n}:=by
   by_cases A:L.size<=1
   .exact⟨0,w.drawn,Ω,o6 _,by simp[choose,Sem.run,Question.forced,A]⟩
   .exact⟨_,w.drawn+1,Nat.mod_lt _ Ω,Nat.le_succ _,by
     simp only[choose,Sem.run,Question.forced,decide_eq_true_eq,A,if_false,Question.cut];rfl⟩
  obtain⟨j,n,F,R,ag⟩:=af;have S:L.toList[j]?=σ L[j]:=by simp[F]
  have ah:L[j]∈q.toList:=(mem_left (seen:=seen) (by rw[aa];exact Array.mem_toList_iff.2 (Array.getElem_mem F))).1;refine⟨.tuple #[.bool true,L[j].key,L[j].val],{w with drawn:=n,heap:=w.heap.setIfInBounds a (.mapIter (σ m) s (seen.push L[j].born) s)},?_,?_,?_⟩
  .have I:=W {w with drawn:=n} (.mapIter (σ m) s (seen.push L[j].born) s) rfl;simp only[ag,Array.getElem?_map,Array.getElem?_eq_getElem F,Z7,W8,I,V0,V6]
  .intro ai;have:=A ai;refine⟨rfl,⟨rfl,R⟩,rfl,Ξ,λr o f G=>?_,λr o aj f H=>?_⟩
   .show (w.heap.setIfInBounds a _)[r]?=σ o;by_cases y:r=a
    .subst y;rw[hi]at f;cases f;cases G
    .rw[(MapKept.heap_set hi).2 r y];exact f
   .show (w.heap.setIfInBounds a _)[r]?=σ o;rw[(MapKept.heap_set hi).2 r Ω];exact f
  .refine h1 j (gM L[j]) _ (by rw[v8,S];rfl) ⟨Ξ,λr o f H=>?_⟩ ⟨rfl,⟨rfl,R⟩,rfl,Ξ,λr o f G=>?_,λr o aj f H=>?_⟩ ⟨q,s,seen.push L[j].born,s,?_,E,rfl,?_,o6 _,?_,λp ak=>⟨rfl,L[j],?_,Ξ,Z0 ak⟩⟩
   .show (w.heap.setIfInBounds a _)[r]?=σ o;by_cases y:r=a
    .subst y;rw[hi]at f;cases f;cases H
    .rw[(MapKept.heap_set hi).2 r y];exact f
   .show (w.heap.setIfInBounds a _)[r]?=σ o;by_cases y:r=a
    .subst y;rw[hi]at f;cases f;cases G
    .rw[(MapKept.heap_set hi).2 r y];exact f
   .show (w.heap.setIfInBounds a _)[r]?=σ o;rw[(MapKept.heap_set hi).2 r Ω];exact f
   .show (w.heap.setIfInBounds a _)[m]?=_;rw[(MapKept.heap_set hi).2 m (λhe=>by subst he;rw[hi]at B;cases B)];exact B
   .exact (MapKept.heap_set hi).1
   .rw[Z,Array.toList_filter,Bh _ _ _ Y S,mP]
   .simp only[Array.back?_push,V5];exact find_born _ _ N ah
def Bj{m:Nat}{d left:List (x3×x3)}{p:x3×x3}{K:x3->x4->Prop}(h:hG w a m d left (σ p))(j:K (.tuple #[p.1,p.2]) w):aB P (Instr.entry (Γ a)) w K:=by
 obtain⟨s,x,seen,hb,q,y,rfl,hi,z,rfl,r⟩:=h;obtain⟨rfl,e,h1,f,rfl⟩:=r p rfl;refine .of (v:=.tuple #[e.key,e.val]) (w':=w) ?_ (cL.refl _) j;rw[f]at h1;simp only[Instr.entry,getObj,W8,Sem.run,hi,q,V0,f,bne_self_eq_false,Bool.false_eq_true,if_false,<-Array.find?_toList];simp only[V5]at h1;rw[h1];rfl
end
end Go.Vc
namespace Go.Proofs.YtikkpokkcdocoaaGreatDoor
open Go Go.Vc Go.RowKit Go.Proofs Go.Proofs.Tryz
set_option maxRecDepth 100000
def ek(ks:Λ):x3:=.agg (ints .i8 ks).toArray
def ld(ks:Λ):Prop:=ks.length=6/\∀x∈ks,0<=x/\x<32
def Kx{a b:Λ}(h:ek a=ek b):a=b:=by
 unfold ek at h;have h:ints .i8 a=ints .i8 b:=congrArg Array.toList (x3.agg.inj h);have e:∀l:Λ,(ints .i8 l).map valOf=l:=λl=>by
  unfold ints;rw[R6];exact List.map_id l
 rw[<-e a,<-e b,h]
def Bk(ks:Λ):(ek ks).cells.toList=ints .i8 ks:=by simp[ek,x3.cells]
def Ky:WideMaps.ArrKey x8 cF fT 6:=⟨cF.u,Ψ,Ψ,Ψ⟩
def keys:Keys x8 cF λv=>∃l,keyOf x8 cF v=σ l:=Keys.law Ky.law
def vN(h:ld ks):∃l,keyOf x8 cF (ek ks)=σ l:=by
 obtain⟨s,j⟩:=h
 match ks,s with
 |[a,b,c,d,e,f],_=>
  have w:=j a Ξ;have y:=j b Ξ;have z:=j c Ξ;have rd:=j d Ξ;have A:=j e Ξ;have ke:=j f Ξ;have wf:∀x:Int,0<=x/\x<32->(Lit.int .i8 x).wf=true:=λx p=>by
   simp only[Lit.wf,U3,decide_eq_true_eq];have H:n9.i8.min= -128:=Φ
   have I:n9.i8.max=127:=Φ
   omega
  have q:decide (0<x8.types.size)=true:=Ψ
  have q:=of_decide_eq_true q;obtain⟨n,B⟩:∃n,x8.types.size=n+1:=⟨x8.types.size-1,Ω⟩;have one:∀x:Int,0<=x/\x<32->x8.keyLits (n+1) fT [.int .i8 x]=σ [.int .i8 x]:=λx p=>by
   unfold V1.keyLits;rw[fT.u];simp[wf x p]
  unfold keyOf;rw[cF.u];simp only;have C:x8.keyType cF=true:=Ψ
  have E:x8.cellsOf fT=1:=Ψ
  have r:x8.cellsOf cF=6:=Ψ
  have F:(ek [a,b,c,d,e,f]).formed x8 cF=true:=by
   unfold ek x3.formed;rw[cF.u,r];rfl
  rw[C,F,Bk,B];simp only[Bool.and_self,if_true];unfold V1.keyLits;rw[cF.u];simp only[r,E,ints];have G:W5 6=[0,1,2,3,4,5]:=Φ
  simp[G,one a w,one b y,one c z,one d rd,one e A,one f ke]
def pad(t:Λ):Λ:=t++o5 (6-t.length) 0
def Kz(f:t.length<=6)(a:∀x∈t,0<=x/\x<32):ld (pad t):=
 ⟨by simp[pad];omega,λx e=>by
  rcases j0.1 e with h|h
  .exact a x h
  .have:=(List.mem_replicate.1 h).2;omega⟩
def KA{a b:Λ}(e:a.length=b.length)(h:pad a=pad b):a=b:=by
 unfold pad at h;exact(List.append_inj h e).1
def Bl:(pad t).take t.length=t:=by simp[pad]
def nW{b o:Nat}(a:ks.length=6)(h:w.rangeAt b o (ints .i8 ks)):V x8 (u5 cF (.pointer (σ ⟨b,o,ν⟩))) w K=K (ek ks):=
 zB cF.u rfl cF.i (by simp[a]) h
def KB{b o:Nat}(a:ks.length=6)(h:w.rangeAt b o (ints .i8 ks)):V x8 (do loadVar cF (<-asAddr (.pointer (σ ⟨b,o,ν⟩)))) w K=K (ek ks):=V.of λw' e=>by
 have:=run_loadVar_mid (P:=x8) w' b o cF (ints .i8 ks) (.array 6 fT) (nE e h) cF.u rfl (by rw[cF.i.size];simp[a]);simp only[asAddr,W8,V6,Result.andThen_ok,this];rfl
def qu{g:Nat}{K:Unit->x4->Prop}(a:ks.length=6)(e:cs.length=6)(f:ac w g cF cs)(h:∀w',ae (λr=>r=g) w w'->w'.heap.size=w.heap.size->ac w' g cF (ints .i8 ks)->K () w'):aB x8 (o9 cF (Γ g) (ek ks)) w K:=
 b1 (vs:=ints .i8 ks) cF.i (by simp[a]) e (λv j=>by obtain⟨x,_,rfl⟩:=l9.1 j;rfl) f h
def sL:List x3:=[.int .i8 0,.int .i8 0,.int .i8 0,.int .i8 0,.int .i8 0,.int .i8 0]
def KC{x:Int}:ai x8 rY [Δ x] w λv w'=>v= .bool (decide (¬ip x))/\Ext w w':=by
 refine az func213 ?_;simp only[ct,aR,bS,aj];refine⟨λh=>⟨?_,Ext.refl _⟩,λh=>⟨?_,Ext.refl _⟩⟩
 .rw[decide_eq_true];intro a;have:=a.1;omega
 .congr 1;have:(32<x)=(¬ip x):=propext ⟨λe a=>by have:=a.2;omega,λe=>by
   by_cases f:32<x
   .exact f
   .exact absurd ⟨Ω,Ω⟩ e⟩
  simp only[this]
def KD(h:aG .i64 w sv l):
  ai x8 uX [sv,.func (.func rY) #[] #[]] w λv w'=>Ext w w'/\∃n:Int,v=Δ n/\((0<=n)=¬∀x∈l,ip x):=by
 have z:=h.le;refine az func138 ?_;rw[aU an.u h];refine⟨λ_ t J=>Ext w J/\∃i:Nat,t=Δ i/\i<=l.length/\∀x∈l.take i,ip x,λ_ t _=>l.length-(b0 t).toNat,⟨Ext.refl _,0,rfl,X8 _,Ξ⟩,?_⟩;rintro _ _ J ⟨e,i,rfl,hi,f⟩;simp only[aR,aj];refine⟨λA=>?_,λB=>⟨e,-1,rfl,?_⟩⟩
 .obtain⟨x,j⟩:=aF (l:=l) (i:=i) Ω;rw[bb an.u ah.i Ψ (h.ext e) j];show ai x8 rY [Δ x] J _;refine KC.mono ?_;rintro _ U _ ⟨rfl,p⟩;simp only[aj,aL];refine⟨λq=>⟨e.trans p,i,rfl,?_⟩,λr=>?_⟩
  .exact propext ⟨λ_ s=>q (s x (x6 j)),λ_=>Ω⟩
  .rw[wrap_i64 Ω Ω];refine⟨⟨e.trans p,i+1,rfl,Ω,λy a=>?_⟩,?_⟩
   .rw[u9,j]at a;rcases j0.1 a with a|a
    .exact f y a
    .simp at a;subst a;exact X4.1 r
   .simp only[b0];omega
 .have:i=l.length:=Ω
  rw[this,o8]at f;exact propext ⟨λh=>Ω,λh=>absurd f h⟩
def Bm(h:aG .i64 w sv l):
  ai x8 u0 [sv,.func (.func rY) #[] #[]] w λv w'=>v= .bool (decide (¬∀x∈l,ip x))/\Ext w w':=by
 refine az func214 ?_;refine(KD h).mono ?_;rintro _ J _ ⟨a,n,rfl,e⟩;simp only[cS];exact⟨by congr 1;simp only[e],a⟩
abbrev Told:=List (Λ×Int)
def jR(p:Λ×Int):x3×x3:=(ek (pad p.1),Δ p.2)
def eL(w:x4)(g m:Nat)(ag:Λ)(k o:Int)(D:Told):Prop:=
 (∃sv gs,ac w g fF [sv,Δ k,Δ o,.map (σ m)]/\au .i64 ah w gs sv ag)/\c7 w m (D.map jR)/\ca ag/\cA o k/\∀p∈D,dj ag p.1/\cA p.2 k/\p.2≠o
def eL.ext{g m:Nat}{o:Int}{D:Told}(h:eL w g m ag k o D)(a:Ext w w'):eL w' g m ag k o D:=by
 obtain⟨⟨sv,gs,h1,e⟩,f,j⟩:=h;exact⟨⟨sv,gs,h1.ext a,e.ext a⟩,f.ext a,j⟩
def vO(I:ca ag)(h:dj ag t):t.length=ag.length/\∀x∈t,0<=x/\x<32:=by
 obtain⟨h1,f⟩:=nT.1 h;refine⟨h1.symm,λx j=>?_⟩;obtain⟨i,hi,rfl⟩:=List.getElem_of_mem j;obtain⟨a,e⟩:=aF (l:=ag) (i:=i) Ω;have p:=f i a _ e (x7 hi);have q:=(I.2 a (x6 e)).2;omega
def qv(I:ca ag)(h:dj ag t):ld (pad t):=by
 obtain⟨h1,a⟩:=vO I h;exact Kz (by rw[h1];exact I.1) a
def eL.pi{g m:Nat}{o:Int}{D:Told}(h:eL w g m ag k o D):∀p∈D.map jR,∃l,keyOf x8 cF p.1=σ l:=λp a=>by
 obtain⟨q,e,rfl⟩:=l9.1 a;exact vN (qv h.2.2.1 (h.2.2.2.2 q e).1)
def Bn{s:Λ}(I:dj ag s)(a:dj ag t)(h:ek (pad s)=ek (pad t)):s=t:=
 KA ((ss I).symm.trans (ss a)) (Kx h)
def eL.nodup{g m:Nat}{o:Int}{D:Told}(h:eL w g m ag k o D):(D.map (·.1)).Nodup:=by
 have e:=h.2.1.nodup;rw[R6]at e;refine List.Pairwise.of_map (S:=λa b=>a≠b) (λt=>ek (pad t)) (λa b h he=>h (by rw[he])) ?_;rw[R6];exact e
def KE(w:x4)(l:Λ)(k o:Int)(v:x3)(w':x4):Prop:=
 Ext w w'/\(¬ca l->v= .tuple #[.pointer ν,Δ 1])/\(ca l->¬cA o k->v= .tuple #[.pointer ν,Δ 3])/\
  (ca l->cA o k->∃g m,v= .tuple #[Γ g,Δ 0]/\w.heap.size<=g/\w.heap.size<=m/\eL w' g m l k o [])
def Bo{o:Int}(h:aG .i64 w sv l):ai x8 oL [sv,Δ k,Δ o] w (KE w l k o):=by
 refine az func171 ?_;refine aW (λv J=>Ext w J/\∃c,v= .bool c/\(c=true↔¬ca l)) ?_ ?_
 .rintro _ J ⟨e,c,rfl,f⟩;rw[cg];refine⟨λs=>⟨e,λ_=>rfl,λh=>absurd h (f.1 s),λh=>absurd h (f.1 s)⟩,λz=>?_⟩;have I:ca l:=Classical.byContradiction λh=>by have:=f.2 h;rw[z]at this;cases this
  have G:=I.1;refine jN.mono ?_;rintro _ U _ ⟨rfl,a⟩;by_cases hi:cA o k
  rotate_left
  .simp only[hi,decide_false,bJ,W3,bQ];exact⟨e.trans a,λh=>absurd I h,λ_ _=>rfl,λ_ h=>absurd h hi⟩
  simp only[hi,decide_true,bJ,X3,aY];refine(k6 ((h.ext e).ext a) Ω).mono ?_;rintro aO H _ ⟨x,A,K,hm⟩;have L:=hm.ls.cells;refine sJ λm M N j B=>?_;rw[dq (cs:=#[aO,Δ k,Δ o,.map (σ m)]) (by obtain⟨_,_,_,_,_,rfl,_⟩:=hm.ls;kernel_rfl)];refine bk λg O P q C=>?_;have s1:=e.size;have Q:=a.size;have R:=x.size;have S:=j.size;exact⟨((((e.trans a).trans x).trans j).trans q),λh=>absurd I h,λ_ h=>absurd hi h,λ_ _=>⟨g,m,rfl,Ω,Ω,⟨aO,A,C,(hm.ext j).ext q⟩,B.ext q,I,hi,λp E=>by cases E⟩⟩
 .intro ax y;rw[aU an.u h];simp only[bS,aj];refine⟨λV=>y _ _ ⟨Ext.refl _,true,rfl,λ_ I=>by have:=I.1;omega,λ_=>rfl⟩,λW=>?_⟩;refine(Bm h).mono ?_;rintro _ U _ ⟨rfl,a⟩;refine y _ _ ⟨a,_,rfl,?_⟩;rw[decide_eq_true_eq];exact⟨λr I=>r I.2,λr I=>r ⟨Ω,I⟩⟩
def iU(t:Λ)(i:Nat):Λ:=t.take i++o5 (6-i) 0
def KF{i:Nat}(hi:i<=t.length)(a:t.length<=6):(iU t i).length=6:=by simp[iU];omega
def KG{i:Nat}{x:Int}(a:t[i]?=σ x)(f:t.length<=6):(iU t i).set i x=iU t (i+1):=by
 have hi:=(x5.1 a).1;unfold iU;have e:(t.take i).length=i:=by rw[o7];omega
 rw[S1 _ _ Ω,e,T2,u9,a];have:6-i=(6-(i+1))+1:=Ω
 rw[this,List.replicate_succ];simp
def KH(t:Λ):iU t t.length=pad t:=by simp[iU,pad]
def Bp(w:x4)(ag t:Λ)(v:x3)(w':x4):Prop:=Ext w w'/\∃ks e,v= .tuple #[ek ks,Δ e]/\ks.length=6/\(dj ag t->ks=pad t/\e=0)/\(¬dj ag t->e=3)
def KI{g m:Nat}{o:Int}{D:Told}{aO:x3}(h:eL w g m ag k o D)(H:aG .i64 w aO t):ai x8 H7 [Γ g,aO] w (Bp w ag t):=by
 obtain⟨⟨sv,gs,K,hm⟩,_,I,_⟩:=h;have aI:=I.1;refine az func215 ?_;refine bw cF.i λB J aJ X C=>?_;refine bw cF.i λak U aK L M=>?_;have y:=X.trans L;have s1:=X.size;have aM:=L.size;have aN:=C.lt;have aQ:=M.lt;have aS:=K.lt;have C:=C.ext L;have al:=K.ext y;rw[dc eU.u];simp only[Z6,aY];have N:∀{f:x4}{ks:Λ}{e:Int},Ext w f->ac f ak cF (ints .i8 ks)->ac f B cF sL->ks.length=6->(dj ag t->ks=pad t/\e=0)->(¬dj ag t->e=3)->
   V x8 (u5 cF (Γ ak)) f λam=>aB x8 (o9 cF (Γ B) am) f λ(_:Unit)O=>V x8 (do loadVar cF (<-asAddr (Γ B))) O λao=>Bp w ag t (.tuple #[ao,Δ e]) O:=by
  intro f ks e q r z G E P;rw[nW G r.range];refine qu G rfl z λO aq aT au=>?_;rw[KB G au.range];exact⟨q.put aq Ω,ks,e,rfl,G,E,P⟩
 rw[aU an.u (H.ext y),aP fF.p 0 al rfl,aU an.u (hm.ls.ext y)];simp only[bN,aj];have Y:ints .i8 (iU t 0)=sL:=by simp[iU,sL,ints]
 refine⟨λav=>N y (ks:=iU t 0) (e:=3) (by rw[Y];exact M) C (by simp[iU]) (λE=>absurd (by rw[ss E]) av) (λ_=>rfl),λZ=>?_⟩;have Z:t.length=ag.length:=Ω
 rw[aU an.u (H.ext y)];refine b4.range t.length (λi _ f=>Ext w f/\ac f ak cF (ints .i8 (iU t i))/\ac f B cF sL/\∀(j:Nat)(a x:Int),j<i->ag[j]?=σ a->t[j]?=σ x->0<=x/\x<a) Ω
  ⟨y,by rw[Y];exact M,C,λj a x aw=>Ω⟩ ?_ ?_
 .rintro i _ f ay hi ⟨q,r,z,Q⟩ aA;simp only[aR,aj];refine⟨λ_=>?_,λh=>Ω⟩;obtain⟨x,s⟩:=aF (l:=t) hi;obtain⟨a,A⟩:=aF (l:=ag) (i:=i) Ω;have aV:=I.2 a (x6 A);rw[bb an.u ah.i Ψ (H.ext q) s];have ab:=KF (t:=t) (i:=i) Ω Ω;refine aW (λv aC=>f=aC/\v= .bool (decide (¬(0<=x/\x<a)))) ?_ ?_
  .rintro _ _ ⟨rfl,rfl⟩;simp only[aj];refine⟨λaD=>N q r z ab (λE=>absurd ((nT.1 E).2 i a x A s) aD) (λ_=>rfl),λR=>?_⟩;have R:=X4.1 R;rw[fp ah.u fT.u,IX Ω Ω,ve cF.u fT.i Ω];refine bp fT.i rfl rfl r (by simp[ab];omega) λaX ad aZ ae=>?_;simp only[aL];refine aA _ _ ⟨q.put ad Ω,?_,z.aa ad (by show¬(B=ak);omega),λj a' aE aw S W=>?_⟩
   .have e:(ints .i8 (iU t i)).set (0+i*1) (.int .i8 x)=ints .i8 (iU t (i+1)):=by
     rw[<-KG s Ω];simp[ints,U8]
    rw[e]at ae;exact ae
   .by_cases aH:j=i
    .subst aH;rw[A]at S;rw[s]at W;cases S;cases W;exact R
    .exact Q j a' aE Ω S W
  .intro ax af;simp only[aR,aj];refine⟨λa1=>af _ _ ⟨rfl,by rw[decide_eq_true];omega⟩,λa2=>?_⟩;rw[aP fF.p 0 (K.ext q) rfl,bb an.u ah.i Ψ (hm.ls.ext q) A,cS];refine af _ _ ⟨rfl,?_⟩;congr 1;exact decide_eq_decide.2 ⟨λh ap=>Ω,λh=>Ω⟩
 .rintro _ f ay ⟨q,r,z,Q⟩;simp only[aR,aj];refine⟨λh=>Ω,λ_=>?_⟩;rw[KH]at r;exact N q r z (by simp[pad];omega) (λ_=>⟨rfl,rfl⟩) (λP=>absurd (nT.2 ⟨Z.symm,λj a x A s=>Q j a x (x5.1 s).1 A s⟩) P)
def iw(D:Told)(o:Int)(t:Λ):Int:=match D.find? (λp=>decide (p.1=t))with
 |some p=>p.2
 |none=>o
def Bq{D:Told}(e:(D.map (·.1)).Nodup){p q:Λ×Int}(f:p∈D)(r:q∈D)(h:p.1=q.1):p=q:=by
 obtain⟨i,hi⟩:=X5.1 f;obtain⟨j,a⟩:=X5.1 r;have h1:(D.map (·.1))[i]?=σ p.1:=by rw[v8,hi];rfl
 have s:(D.map (·.1))[j]?=σ p.1:=by rw[v8,a,h];rfl
 have:=kw e h1 s;subst this;rw[hi]at a;exact Z0 a
def qw{D:Told}{o:Int}(e:(D.map (·.1)).Nodup)(h:(t,c)∈D):iw D o t=c:=by
 unfold iw;cases a:D.find? (λp=>decide (p.1=t))with
 |none=>
  have:=List.find?_eq_none.1 a _ h;simp at this
 |some p=>
  have h1:=List.find?_some a;have h1:p.1=t:=by simpa using h1
  have:=Bq e (List.mem_of_find?_eq_some a) h h1;rw[this]
def qx{D:Told}{o:Int}(h:∀p∈D,p.1≠t):iw D o t=o:=by
 unfold iw;cases a:D.find? (λp=>decide (p.1=t))with
 |none=>rfl
 |some p=>
  have h1:=List.find?_some a;have h1:p.1=t:=by simpa using h1
  exact absurd h1 (h p (List.mem_of_find?_eq_some a))
def lf(D:Told)(t:Λ)(c o:Int)(D':Told):Prop:=(∀p,p∈D'↔(c≠o/\p=(t,c))\/(p∈D/\p.1≠t))/\D'.length<=D.length+1
def lf.cost{D D':Told}{o:Int}(h:lf D t c o D')(r:(D.map (·.1)).Nodup)(f:(D'.map (·.1)).Nodup)(s:Λ):iw D' o s=if s=t then c else iw D o s:=by
 by_cases I:s=t
 .subst I;rw[if_pos rfl];by_cases j:c=o
  .subst j;exact qx λp a he=>by
    rcases(h.1 p).1 a with e|e
    .exact e.1 rfl
    .exact e.2 he
  .exact qw f ((h.1 _).2 (.inl ⟨j,rfl⟩))
 .rw[if_neg I];by_cases he:∃p∈D,p.1=s
  .obtain⟨p,a,rfl⟩:=he;rw[qw (c:=p.2) r a];exact qw f ((h.1 _).2 (.inr ⟨a,I⟩))
  .have q:∀p∈D,p.1≠s:=λp a h=>he ⟨p,a,h⟩;rw[qx q];exact qx λp a e=>by
    rcases(h.1 p).1 a with⟨_,rfl⟩|⟨w,_⟩
    .exact I e.symm
    .exact q p w e
def KJ{D:Told}{o v0:Int}(q:(D.map (·.1)).Nodup)(f:D[j]?=σ (t,v0))(r:c≠o):lf D t c o (D.set j (t,c)):=by
 have h:=(x5.1 f).1;refine⟨λp=>⟨λa=>?_,λa=>?_⟩,Ξ⟩
 .obtain⟨i,hi⟩:=X5.1 a;by_cases e:j=i
  .subst e;rw[b8 h]at hi;exact .inl ⟨r,(Z0 hi).symm⟩
  .rw[Y4 e]at hi;refine .inr ⟨x6 hi,λhe=>e ?_⟩;exact kw q (x:=t) (by rw[v8,f];rfl) (by rw[v8,hi,Z7,he])
 .rcases a with⟨_,rfl⟩|⟨a,s⟩
  .exact x6 (b8 h)
  .obtain⟨i,hi⟩:=X5.1 a;have e:j≠i:=λhe=>by subst he;rw[f]at hi;cases hi;exact s rfl
   exact x6 (by rw[Y4 e];exact hi)
def Br{D:Told}{o:Int}(a:∀p∈D,p.1≠t)(e:c≠o):lf D t c o (D++[(t,c)]):=by
 refine⟨λp=>?_,Ξ⟩;rw[j0,j6];exact⟨λh=>h.elim (λh=>.inr ⟨h,a p h⟩) (λh=>.inl ⟨e,h⟩),λh=>h.elim (λh=>.inr h.2) (λh=>.inl h.1)⟩
def KK{D:Told}{o v0:Int}(f:(D.map (·.1)).Nodup)(e:D[j]?=σ (t,v0)):lf D t o o (D.eraseIdx j):=by
 refine⟨λp=>⟨λa=>?_,λa=>?_⟩,by have:=List.length_eraseIdx_le D j;omega⟩
 .refine .inr ?_;obtain⟨i,q,hi⟩:=List.mem_eraseIdx_iff_getElem?.1 a;refine⟨x6 hi,λhe=>q ?_⟩;exact kw f (x:=t) (by rw[v8,hi,Z7,he]) (by rw[v8,e];rfl)
 .rcases a with⟨h,_⟩|⟨a,r⟩
  .exact absurd rfl h
  .obtain⟨i,hi⟩:=X5.1 a;exact List.mem_eraseIdx_iff_getElem?.2 ⟨i,λhe=>by subst he;rw[e]at hi;cases hi;exact r rfl,hi⟩
def KL{D:Told}{o:Int}(a:∀p∈D,p.1≠t):lf D t o o D:=
 ⟨λp=>⟨λh=>.inr ⟨h,a p h⟩,λh=>h.elim (λh=>absurd rfl h.1) (λh=>h.1)⟩,Ω⟩
def Bs{g m:Nat}{o:Int}{D:Told}(h:eL w g m ag k o D)(f:dj ag t)(a:(D.map jR)[j]?=σ (ek (pad t),v)):∃c,D[j]?=σ (t,c)/\v=Δ c:=by
 rw[v8]at a;obtain⟨p,e,he⟩:=X2.1 a;have h1:=Bn (h.2.2.2.2 p (x6 e)).1 f (congrArg Prod.fst he);exact⟨p.2,by rw[e,<-h1],(congrArg Prod.snd he).symm⟩
def Bt{g m:Nat}{o:Int}{D:Told}(h:eL w g m ag k o D)(a:∀p∈D.map jR,p.1≠ek (pad t)):∀p∈D,p.1≠t:=λp e he=>a (jR p) (l9.2 ⟨p,e,rfl⟩) (by rw[jR,he])
def KM(w:x4)(g m:Nat)(ag t:Λ)(k o c:Int)(D:Told)(v:x3)(w':x4):Prop:=
 (¬(dj ag t/\cA c k)->v=Δ 3/\Ext w w')/\(dj ag t/\cA c k->v=Δ 0/\ae (λr=>r=m) w w'/\∃D',lf D t c o D'/\eL w' g m ag k o D')
def Bu{g m:Nat}{o:Int}{D:Told}{aO:x3}(h:eL w g m ag k o D)(af:aG .i64 w aO t):ai x8 HF [Γ g,aO,Δ c] w (KM w g m ag t k o c D):=by
 refine az func172 ?_;refine(KI h af).mono ?_;rintro _ J _ ⟨X,ks,e,rfl,N,ah,al⟩;rw[bx,bz];refine bw cF.i λak U aF Y Z=>?_;refine qu N rfl Z λO am aH ab=>?_;have s1:=X.size;have aI:=Y.size;have aJ:=Z.lt;have H:Ext w O:=(X.trans Y).put am Ω;refine aW (λv P=>v=Δ 0/\(dj ag t/\cA c k)/\ae (λr=>r=m) w P/\∃D',lf D t c o D'/\eL P g m ag k o D') ?_ ?_
 .rintro _ P ⟨_,h1,E⟩;exact⟨λh=>absurd h1 h,λ_=>⟨rfl,E⟩⟩
 intro ax an;simp only[bN,aj];by_cases A:dj ag t
 rotate_left
 .have he:=al A;subst he;exact⟨λ_=>⟨λ_=>⟨rfl,H⟩,λh=>absurd h.1 A⟩,λh=>by simp at h⟩
 obtain⟨rfl,rfl⟩:=ah A;refine⟨λh=>absurd rfl h,λ_=>?_⟩;have x:=h.ext H;obtain⟨⟨sv,gs,y,hm⟩,K,I,ao,aq⟩:=id x;rw[aP fF.p 1 y rfl];refine jN.mono ?_;rintro _ au _ ⟨rfl,z⟩;have av:=H.trans z;by_cases hi:cA c k
 rotate_left
 .simp only[hi,decide_false,bJ,W3,bQ];exact⟨λ_=>⟨rfl,av⟩,λh=>absurd h.2 hi⟩
 simp only[hi,decide_true,bJ,X3,aY];rw[aP fF.p 2 (y.ext z) rfl];simp only[bf,aj,ef];have ac:=vN (qv I A);have aw:∀{D':Told},lf D t c o D'->∀p∈D',dj ag p.1/\cA p.2 k/\p.2≠o:=λhu p ay=>by
  rcases(hu.1 p).1 ay with⟨C,rfl⟩|⟨h1,_⟩
  .exact⟨A,hi,C⟩
  .exact aq p h1
 have L:∀{G B:x4}{D':Told},Ext au G->ae (λr=>r=m) G B->c7 B m (D'.map jR)->lf D t c o D'->ax (Δ 0) B:=by
  intro G B D' f q aA hu;have aB:g≠m:=λhe=>by
   obtain⟨aC,aD,ap,_⟩:=K;have y:O.heap[g]?=_:=y;rw[he,ap]at y;cases y
  have aE:∀r,leads sv r->r≠m:=λr ad he=>by
   subst he;obtain⟨aC,aD,ap,_⟩:=K;obtain⟨_,⟨rfl,_⟩|⟨cap,cs,rfl,M,_⟩⟩:=hm
   .obtain⟨a,n,c,h1,_⟩:=ad;cases h1
   .obtain⟨a,n,c,h1,E⟩:=ad;cases h1;have M:O.heap[gs]?=_:=M;have E:gs=r:=E;rw[E,ap]at M;cases M
  have Q:=z.trans f;exact an _ _ ⟨rfl,⟨A,hi⟩,((H.trans Q).aa _).trans q,D',hu,⟨sv,gs,(y.ext Q).aa q aB,br (hm.ext Q) q aE⟩,aA,I,ao,aw hu⟩
 refine⟨λC G f _ _=>?_,λC G f _ _=>?_⟩
 .rw[aP fF.p 3 ((y.ext z).ext f) rfl,nW N ((ab.ext z).ext f).range];subst C;refine Ku iL.u keys ((K.ext z).ext f) x.pi ac (λj v0 B R s q=>?_) (λB S s q=>?_)
  .obtain⟨hb,V,_⟩:=Bs x A R;rw[mP]at s;exact L f q s (KK x.nodup V)
  .exact L f q s (KL (Bt x S))
 .rw[aP fF.p 3 ((y.ext z).ext f) rfl,nW N ((ab.ext z).ext f).range];refine qt iL.u keys ((K.ext z).ext f) x.pi ac (λj v0 B R s q=>?_) (λB S s q=>?_)
  .obtain⟨hb,V,_⟩:=Bs x A R;have W:(D.map jR).set j (ek (pad t),Δ c)=(D.set j (t,c)).map jR:=by rw[U8];rfl
   rw[W]at s;exact L f q s (KJ x.nodup V C)
  .have W:D.map jR++[(ek (pad t),Δ c)]=(D++[(t,c)]).map jR:=by rw[Z4];rfl
   rw[W]at s;exact L f q s (Br (Bt x S) C)
def KN{g m:Nat}{o:Int}{D:Told}{b:Bool}(h:eL w g m ag k o D)(e:dj ag t)(h1:∀c,(t,c)∈D->K (if b then .tuple #[Δ c,.bool true]else Δ c))(s:(∀p∈D,p.1≠t)->K (if b then .tuple #[Δ 0,.bool false]else Δ 0)):
  V x8 (Instr.lookup iL (.map (σ m)) (ek (pad t)) b) w K:=by
 have f:=vN (qv h.2.2.1 e);by_cases he:∃p∈D,p.1=t
 .obtain⟨p,a,rfl⟩:=he;obtain⟨j,x⟩:=X5.1 a;rw[qs iL.u keys h.2.1 h.pi f (j:=j) (v:=Δ p.2) (by rw[v8,x];rfl)];exact h1 p.2 a
 .have r:∀p∈D,p.1≠t:=λp a h=>he ⟨p,a,h⟩;rw[sK iL.u keys ⟨_,_,am.i⟩ h.2.1 h.pi f (λq y hk=>by
   obtain⟨p,a,rfl⟩:=l9.1 y;exact r p a (Bn (h.2.2.2.2 p a).1 e hk))]
  exact s r
def KO{g m:Nat}{o:Int}{D:Told}(h:eL w g m ag k o D):ai x8 Ia [Γ g] w λv w'=>v=Δ D.length/\Ext w w':=by
 obtain⟨⟨sv,gs,a,hm⟩,e,_⟩:=h;refine az func220 ?_;rw[dc eU.u];simp only[Z6,aY];rw[aP fF.p 3 a rfl,Kv iL.u e];exact⟨Ξ,Ext.refl _⟩
def KP{g m:Nat}{o:Int}{D:Told}(h:eL w g m ag k o D):ai x8 II [Γ g] w λv w'=>v=Δ k/\Ext w w':=by
 obtain⟨⟨sv,gs,a,hm⟩,_⟩:=h;refine az func279 ?_;rw[dc eU.u];simp only[Z6,aY];rw[aP fF.p 1 a rfl];exact⟨rfl,Ext.refl _⟩
def vP{g m:Nat}{o:Int}{D:Told}(h:eL w g m ag k o D):ai x8 Ib [Γ g] w λv w'=>Ext w w'/\∃a,w.heap.size<=a/\au .i64 ah w' a v ag:=by
 obtain⟨⟨sv,gs,e,hm⟩,_,I,_⟩:=h;have f:=I.1;refine az func221 ?_;rw[dc eU.u];simp only[Z6,aY];rw[aP fF.p 0 e rfl];exact k6 hm.ls Ω
def KQ{g m:Nat}{o:Int}{D:Told}(h:eL w g m ag k o D):ai x8 IJ [Γ g] w λv w'=>v=Δ ag.length/\Ext w w':=by
 refine az func280 ?_;refine(vP h).mono ?_;rintro v J _ ⟨a,e,_,hm⟩;rw[aU an.u hm.ls];exact⟨rfl,a⟩
end Go.Proofs.YtikkpokkcdocoaaGreatDoor
namespace Go.Vc
open Go Go.RowKit
set_option maxRecDepth 100000
def leadsTo(v:x3)(r:Nat):Prop:=∃a n c,v= .slice (σ a) n c/\a.block=r
def fu(h:leadsTo (.slice ν 0 0) r):False:=by
 obtain⟨a,n,c,h,_⟩:=h;cases h
section
variable{α:Type}{f:α->List x3}{k:Nat}
theorem ix:∀{L:List α},(∀a∈L,(f a).length=k)->(L.flatMap f).length=L.length*k
 |[],_=>Ξ
 |a::L,h=>by
  rw[W6,o4,h a (.head _),ix λb e=>h b (.tail _ e),Z2,U5];omega
theorem qy:∀{L:List α}(i:Nat),(∀a∈L,(f a).length=k)->(L.flatMap f).take (i*k)=(L.take i).flatMap f
 |[],i,_=>Ξ
 |a::L,0,_=>Ξ
 |a::L,i+1,h=>by
  have e:=h a (.head _);rw[W6,List.take_succ_cons,W6,<-qy i λb j=>h b (.tail _ j),U5,Nat.one_mul,Nat.add_comm,List.take_append,e];congr 1
  .exact j4 Ω
  .congr 1;omega
theorem sM:∀{L:List α}(i:Nat),(∀a∈L,(f a).length=k)->(L.flatMap f).drop (i*k)=(L.drop i).flatMap f
 |[],i,_=>Ξ
 |a::L,0,_=>Ξ
 |a::L,i+1,h=>by
  have e:=h a (.head _);rw[W6,List.drop_succ_cons,<-sM i λb j=>h b (.tail _ j),U5,Nat.one_mul,Nat.add_comm,List.drop_append,e];rw[List.drop_of_length_le Ω,List.nil_append];congr 1;omega
def pj{L:List α}{i:Nat}{a:α}(h:∀a∈L,(f a).length=k)(hi:L[i]?=σ a)(e:(f a)[j]?=σ v):(L.flatMap f)[i*k+j]?=σ v:=by
 have q:=(x5.1 e).1;rw[<-S5,sM i h];have p:=x5.1 hi;rw[W0 p.1,p.2,W6,Y3 q];exact e
def vQ{L:List α}{i:Nat}{a:α}(h:∀a∈L,(f a).length=k)(e:(f a).length=k)(hi:i<L.length):over (L.flatMap f) (i*k) (f a)=(L.set i a).flatMap f:=by
 have p:=ix h;have j:(i+1)*k<=L.length*k:=X0 _ hi;rw[U5,Nat.one_mul]at j;rw[mE Ω,e,qy i h,show i*k+k=(i+1)*k by rw[U5,Nat.one_mul],sM (i+1) h,List.set_eq_take_append_cons_drop,if_pos hi,List.flatMap_append,W6,Y6]
def sN{vs:List x3}{o m:Nat}(h1:o+vs.length<=m)(a:m<=cs.length):(over cs o vs).take m=over (cs.take m) o vs:=by
 rw[mE Ω,mE (by rw[o7];omega),Y6,Y6,List.take_append,List.take_append,List.take_take,List.take_take,List.drop_take,o7];rw[show min m o=o by omega,show min o m=o by omega,show min o cs.length=o by omega,j4 (l:=vs) Ω];congr 3;omega
def bg(f:α->List x3)(k:Nat)(e:r9)(w:x4)(g:Nat)(v:x3)(L:List α):Prop:=bX w g e k v L.length (L.flatMap f)/\∀a∈L,(f a).length=k
variable{P:V1}{w:x4}{e:r9}{g:Nat}{v:x3}{L:List α}
def bg.nil(f:α->List x3)(k:Nat)(e:r9)(w:x4)(g:Nat):bg f k e w g (.slice ν 0 0) []:=⟨bX.nil w g e k,λa h=>by cases h⟩
def bg.leads(h:bg f k e w g v L)(j:leadsTo v r):r=g/\g<w.heap.size:=by
 obtain⟨_,⟨rfl,_⟩|⟨cap,cs,rfl,p,_⟩⟩:=h.1
 .exact (fu j).elim
 .obtain⟨a,n,c,h1,q⟩:=j;cases h1;exact⟨q.symm,p.lt⟩
def bg.aa(h:bg f k e w g v L)(a:ae S w w')(j:∀r,leadsTo v r->¬S r):bg f k e w' g v L:=
 ⟨⟨h.1.1,h.1.2.imp id λ⟨cap,cs,h1,p,q⟩=>⟨cap,cs,h1,p.aa a (j g ⟨_,_,_,h1,rfl⟩),q⟩⟩,h.2⟩
def bg.ext(h:bg f k e w g v L)(a:Ext w w'):bg f k e w' g v L:=h.aa (a.aa λ_=>False) λ_ _ h=>h
def bg.sl(h:bg f k e w g v L):cd w k v L.length (L.flatMap f):=h.1.sl
def bg.le(h:bg f k e w g v L):L.length<=9223372036854775807:=by
 have:=cd.le h.sl;simpa[maxLen]using this
def e4{t a:r9}(j:P.underlying t=σ (.slice e))(h:bg f k e w g v L):V P (W9 #[t] a #[v]) w K=K (Δ L.length):=by
 obtain⟨_,_,_,_,_,rfl,_⟩:=h.sl;exact hW j
def du{t:r9}{q:n9}{b:Nat}{i:Nat}(a:y=(i:Int))(j:P.underlying t=σ (.slice e))(hi:aQ P e k b z)(h:bg f k e w g v L)(p:i<L.length):
  V P (j9 t v (.int q y)) w K=K (.pointer (σ ⟨g,i*k,ν⟩)):=by
 subst a;obtain⟨_,⟨rfl,r⟩|⟨cap,cs,rfl,s,x⟩⟩:=h.1
 .omega
 .rw[eK j hi p (λ_=>rfl),X6]
def bg.range{i:Nat}{a:α}(h:bg f k e w g v L)(hi:L[i]?=σ a):w.rangeAt g (i*k) (f a):=λj u hu=>by
 have h1:=pj h.2 hi hu;have s:=(x5.1 hi).1;obtain⟨_,⟨rfl,x⟩|⟨cap,cs,rfl,q,_,_,y,r⟩⟩:=h.1
 .omega
 .have p:=(x5.1 h1).1;rw[ix h.2]at p;rw[<-r,Y0 p]at h1;exact q.cell h1
def KR{t:r9}{b:Nat}{i:Nat}{a:α}{K:Unit->x4->Prop}(hi:aQ P t k b z)(h:bg f k e w g v L)(j:(f a).length=k)(h1:∀u∈f a,u.oneCell'=true)(s:i<L.length)(A:∀w',ae (λr=>leadsTo v r) w w'->w'.heap.size=w.heap.size->bg f k e w' g v (L.set i a)->K () w'):aB P (o9 t (.pointer (σ ⟨g,i*k,ν⟩)) (.agg (f a).toArray)) w K:=by
 have M:=ix h.2;have B:(i+1)*k<=L.length*k:=X0 _ s;rw[U5,Nat.one_mul]at B;obtain⟨⟨N,⟨rfl,O⟩|⟨cap,cs,rfl,C,x,E,y,F⟩⟩,p⟩:=h
 .omega
 .have G:L.length*k<=cs.length:=by rw[y];exact X0 _ x
  refine zE hi j h1 C Ω λw' H I J=>A w' (H.mono λr _ he=>⟨_,_,_,rfl,he.symm⟩) I ⟨⟨?_,.inr ⟨cap,_,Ξ,J,by simpa using x,E,by rw[lZ,y],?_⟩⟩,λb q=>?_⟩
  .rw[ix (L:=L.set i a) λb q=>by
    rcases W7 q with h|rfl
    .exact p b h
    .exact j]
  .rw[Z9,<-vQ p j s,<-F,sN (by rw[j];omega) G]
  .rcases W7 q with h|rfl
   .exact p b h
   .exact j
def pk{t:r9}{b:Nat}{u:x3}{i:Nat}{a a':α}{K:Unit->x4->Prop}(hi:aQ P t 1 b z)(hu:u.cells= #[u])(h1:u.oneCell'=true)(h:bg f k e w g v L)(s:L[i]?=σ a)(A:f a'=(f a).set j u)(W:j<k)(M:∀w',ae (λr=>leadsTo v r) w w'->w'.heap.size=w.heap.size->bg f k e w' g v (L.set i a')->K () w'):aB P (o9 t (.pointer (σ ⟨g,i*k+j,ν⟩)) u) w K:=by
 have B:=(x5.1 s).1;have X:=ix h.2;have N:(i+1)*k<=L.length*k:=X0 _ B;rw[U5,Nat.one_mul]at N;have O:(f a).length=k:=h.2 a (x6 s);have q:(f a').length=k:=by rw[A,Z9];exact O
 have Q:(L.flatMap f).set (i*k+j) u=(L.set i a').flatMap f:=by
  rw[<-vQ h.2 q B];refine Y9 λp=>?_;rw[nH _ _ _ Ω,X1,q];by_cases C:i*k<=p/\p<i*k+k
  .rw[if_pos C,A,X1];by_cases E:i*k+j=p
   .rw[if_pos E,if_pos Ω,if_pos Ω,if_pos Ω]
   .rw[if_neg E,if_neg Ω];obtain⟨y,F⟩:∃y,(f a)[p-i*k]?=σ y:=⟨_,x7 Ω⟩;have:=pj h.2 s F;rw[show i*k+(p-i*k)=p by omega]at this;rw[this,F]
  .rw[if_neg C,if_neg Ω]
 obtain⟨⟨Y,⟨rfl,Z⟩|⟨cap,cs,rfl,R,G,S,H,T⟩⟩,J⟩:=h
 .omega
 .have aa:L.length*k<=cs.length:=by rw[H];exact X0 _ G
  refine bp hi hu h1 R Ω λw' U I V=>M w' (U.mono λr _ he=>⟨_,_,_,rfl,he.symm⟩) I ⟨⟨?_,.inr ⟨cap,_,Ξ,V,by simpa using G,S,by rw[Z9,H],?_⟩⟩,λb x=>?_⟩
  .rw[ix (L:=L.set i a') λb x=>by
    rcases W7 x with h|rfl
    .exact J b h
    .exact q]
  .rw[Z9,<-Q,<-T,List.take_set]
  .rcases W7 x with h|rfl
   .exact J b h
   .exact q
def iV{t M:r9}{b:Nat}{x:x3}{a:α}{K:x3->x4->Prop}(A:P.underlying t=σ (.slice e))(hi:aQ P e k b z)(H:z.cells.size=k)(h:bg f k e w g v L)(F:cd w k x 1 (f a))(h1:∀u∈f a,u.oneCell'=true)(B:(L.length+1)*b<=140737488355328)(I:L.length+1<=9223372036854775807)(J:∀j p w',bg f k e w' p j (L++[a])->(∀r,leadsTo j r->leadsTo v r\/w.heap.size<=r)->ae (λr=>leadsTo v r) w w'->K j w'):aB P (Z3 #[t,t] M #[v,x]) w K:=by
 have N:(f a).length=k:=by have:=F.1;omega
 have C:∀j p w',bX w' p e k j (L.length+1) (L.flatMap f++f a)->bg f k e w' p j (L++[a]):=λj p w' hm=>⟨by simpa using hm,λb B=>by
  rcases j0.1 B with h'|h'
  .exact h.2 b h'
  .rw[j6.1 h'];exact N⟩
 rcases h.1.2 with⟨q,O⟩|⟨cap,cs,q,Q,_⟩
 .have hm:bX w w.heap.size e k v L.length (L.flatMap f):=⟨h.1.1,.inl ⟨q,O⟩⟩;subst q;refine nJ A A hi H hm F h1 (by simpa using B) (by simpa[maxLen]using I) λj p w' E s G=>J j p w' (C _ _ _ s) (λr y=>.inr ?_) (G.mono λr y h=>Ω);have:=((C _ _ _ s).leads y).1;omega
 .refine nJ A A hi H h.1 F h1 (by simpa using B) (by simpa[maxLen]using I) λj p w' E s G=>J j p w' (C _ _ _ s) (λr y=>?_) (G.mono λr y h=>⟨_,_,_,q,h.symm⟩);have:=((C _ _ _ s).leads y).1;rcases E with E|E
  .exact .inl ⟨_,_,_,q,by show g=r;omega⟩
  .exact .inr Ω
def KT{t p:r9}{b:Nat}{x:x3}{a:α}{K:x3->x4->Prop}(q:P.underlying t=σ (.slice e))(hi:aQ P e k b z)(s:z.cells.size=k)(h:bg f k e w g v L)(y:cd w k x 1 (f a))(h1:∀a,∀u∈f a,u.oneCell'=true)(A:(L.length+1)*b<=140737488355328)(B:L.length+1<=9223372036854775807)(C:∀j E w',bg f k e w' E j (L++[a])->(∀r,leadsTo j r->leadsTo v r\/w.heap.size<=r)->ae (λr=>leadsTo v r) w w'->K j w'):aB P (Z3 #[t,t] p #[v,x]) w K:=iV q hi s h y (h1 a) A B C
def iy{t:r9}{b:Nat}{a:α}{x:x3}{K:x3->x4->Prop}(q:P.underlying t=σ (.slice e))(hi:aQ P e k b z)(B:k<=100000)(j:x.cells=(f a).toArray)(p:(f a).length=k)(r:∀v g w',g=w.heap.size->Ext w w'->bg f k e w' g v [a]->K v w'):aB P (Y8 t 1 #[(0,x)]) w K:=
 jK q hi Ω (cs:=x.cells) (zN Ξ (by rw[j];simpa using p)) λg w' s y h=>by
  have h:ac w' g e (f a):=by rw[j]at h;simpa using h
  exact r _ g w' s y ⟨by simpa using bX.full (k:=k) (n:=1) h Ω (by simp[maxLen]),λc A=>by rw[j6.1 A];exact p⟩
end
end Go.Vc
namespace Go.Proofs.YtikkpokkcdocoaaGreatDoor
open Go Go.Vc Go.RowKit Go.Proofs Go.Proofs.Tryz
set_option maxRecDepth 100000
theorem vR{α:Type}:∀{l:List α}{j:Nat}{x:α},l[j]?=σ x->(x::l.eraseIdx j).Perm l
 |[],j,x,h=>by simp at h
 |a::l,0,x,h=>by simp at h;subst h;exact List.Perm.refl _
 |a::l,j+1,x,h=>by
  simp at h;rw[List.eraseIdx_cons_succ];exact(List.Perm.swap a x _).trans ((vR h).cons a)
def Bv{α:Type}{l:List α}(h:j<l.length):(l.eraseIdx j).length+1=l.length:=by
 rw[List.length_eraseIdx,if_pos h];omega
def pm(w:x4)(a:Nat):Nat:=match w.heap[a]? with
 |some (.mapIter (σ m) _ seen _)=>(match w.heap[m]? with
  |some (.map e _)=>(leftOf e seen).size
  |_=>0)
 |_=>0
def sO{m:Nat}{d left:List (x3×x3)}{e:Option (x3×x3)}(h:hG w a m d left e):pm w a=left.length:=by
 obtain⟨j,p,seen,hb,h1,_,_,f,_,rfl,_⟩:=h;unfold pm;rw[f];simp only;rw[h1];simp
def KU{w0:x4}{m:Nat}{d d0 left:List (x3×x3)}{e:Option (x3×x3)}(h:hG w a m d left e)(hm:c7 w0 m d0)(h1:Ext w0 w)(j:Ext w0 w')(hi:e0 w w'):hG w' a m d left e:=by
 obtain⟨p,c,s,hb,q,r,x,y,z⟩:=h;obtain⟨A,B,f1,_⟩:=hm;have g1:=h1.aV m _ f1 rfl;have f:=j.aV m _ f1 rfl;rw[q]at g1;rw[<-g1]at f;exact⟨p,c,s,hb,f,r,x,hi a _ y rfl,z⟩
abbrev nX(w:x4)(g:Nat)(v:x3)(L:List (Λ)):Prop:=bg (ints .i8) 6 cF w g v L
def Bw{k:n9}:∀u∈ints k l,u.oneCell'=true:=λu hu=>by
 obtain⟨x,_,rfl⟩:=l9.1 hu;rfl
def keysIter{de m:Nat}{d:List (x3×x3)}{KS:List (Λ)}{w0:x4}(R:ac w0 de iL [.map (σ m)])(hm:c7 w0 m d)(S:d.map (·.1)=KS.map ek)(V:∀ks∈KS,ks.length=6):
  oF x8 true lS [Γ de] ([]:List (Λ)) (λh=>h.Perm KS) (λh vs h' _=>∃ks∈KS,h.length<KS.length/\vs=[ek ks]/\h'=h++[ks]) (λw=>Ext w0 w):=by
 refine⟨lS.enters,λl ax aF w f _ W q X=>?_⟩;refine p5 func277 ?_;rw[aD Ψ ((R.ext q).Qz rfl)];refine aB.cr (Bg iL.u (hm.ext q) λB J Y r aG Z aa=>?_);refine⟨λU=>∃h a left C,ax h U/\Ext w0 U/\w.heap.size<=U.heap.size/\hG U B m d left C/\left.map (·.1)=a.map ek/\(h++a).Perm KS,λU=>pm U B,
  ⟨[],KS,d,ν,f _ _ _ r aa.b X,q.trans r,r.size,Z,S,List.Perm.refl _⟩,?_⟩
 rintro U ⟨h,a,left,C,E,ab,aH,G,s,e⟩;have ad:left.length=a.length:=by have:=congrArg Q4 s;simpa using this
 refine Bi G (λh=>by cases h) (λae=>?_) (λj p af H I ag K=>?_)
 .rw[iN (v:=.bool false) rfl,aY];subst ae;have:a=[]:=c9 (by rw[<-ad];rfl);subst this;rw[V3]at e;exact .inl ⟨h,e,E⟩
 .rw[iN (v:=.bool true) rfl,bQ];refine Bj K ?_;obtain⟨ks,x,ah⟩:∃ks,a[j]?=σ ks/\p.1=ek ks:=by
   have h1:(left.map (·.1))[j]?=σ p.1:=by rw[v8,H];rfl
   rw[s,v8]at h1;obtain⟨ks,L,ai⟩:=X2.1 h1;exact⟨ks,L,ai.symm⟩
  have M:ks∈KS:=e.mem_iff.1 (j0.2 (.inr (x6 x)));have N:=V ks M;rw[iN (v:=p.1) rfl,ah];refine aB.cr (bw cF.i λaI aJ aK aj ak al=>?_);refine aB.cr (qu N rfl ak λy am aL an ao=>?_);rw[nW N an.range];have z:Ext af y:=aj.put am Ω;have O:=al.trans ao;have P:Ext w0 y:=(ab.trans I).trans z;have ap:=f _ _ _ I (by rw[<-Y];exact ag) E;have aq:=f _ _ _ z O.b ap;have au:=K.ext z O.kf;have av:h.length<KS.length:=by
   have h1:=e.length_eq;have L:=(x5.1 x).1;rw[o4]at h1;omega
  refine⟨rfl,(W h (h++[ks]) _ y P ⟨ks,M,av,rfl,rfl⟩ aq).mono ?_⟩;rintro _ aw (⟨rfl,Q,ay,az⟩|⟨rfl,aA⟩)
  .simp only[bJ,X3,aY];have A:=KU au hm P Q (az rfl).kf;have aC:w.heap.size<=aw.heap.size:=by
    obtain⟨_,_,_,_,_,_,_,aE,_⟩:=A;have:=(j5.1 aE).1;omega
   refine⟨⟨h++[ks],a.eraseIdx j,left.eraseIdx j,σ p,ay,Q,aC,A,?_,?_⟩,?_⟩
   .rw[<-mP,s,mP]
   .refine List.Perm.trans ?_ e;rw[Y6];exact List.Perm.append_left h (vR x)
   .rw[sO A,sO G];have:=Bv (x5.1 H).1;omega
  .simp only[bJ,W3,bQ];exact .inr ⟨h,aA⟩
def KV{m:Nat}:ai x8 Ip [.map (σ m)] w λr w'=>Ext w w'/\∃g,r= .func (.func lS) #[] #[Γ g]/\w.heap.size<=g/\ac w' g iL [.map (σ m)]:=by
 refine az func244 ?_;refine bk λg J f a e=>?_;rw[k0];exact⟨a,g,rfl,Ω,e⟩
def KW{de m:Nat}{d:List (x3×x3)}{KS:List (Λ)}(W:ac w de iL [.map (σ m)])(hm:c7 w m d)(X:d.map (·.1)=KS.map ek)(E:∀ks∈KS,ks.length=6)(aA:KS.length<=1000000):
  ai x8 IL [.slice ν 0 0,.func (.func lS) #[] #[Γ de]] w λv w'=>Ext w w'/\∃g L,(∀r,leadsTo v r->w.heap.size<=r)/\L.Perm KS/\nX w' g v L:=by
 refine ik func290 ?_;refine bk λgs J aC G q=>?_;have q:ac J gs jm [.slice ν 0 0]:=q;have aE:=q.lt;refine kj.old ⟨List (Λ),true,_,_,_,_,_,_,λh w'=>ae (λr=>w.heap.size<=r) w w'/\∃v g,ac w' gs jm [v]/\(∀r,leadsTo v r->w.heap.size<=r/\r≠gs)/\nX w' g v h,λ_ _ _=>False,rfl,keysIter W hm X E,?_,λ_ _ j h=>h.trans j,
  λ_ _ _ j h=>⟨h.1.trans (j.aa _),by obtain⟨v,g,h1,Y,Z⟩:=h.2;exact⟨v,g,h1.ext j,Y,Z.ext j⟩⟩,λ_ _ _ _ _ h=>h,G,⟨G.aa _,_,0,q,λr h=>(fu h).elim,bg.nil _ _ _ _ _⟩,?_,?_,λ_ _ h=>h.elim,λ_ _ _ h=>h.elim⟩
 .rintro h _ h' w' ⟨ks,_,_,rfl,_⟩;rfl
 .rintro a h h' U ab ⟨ks,ad,aF,af,rfl⟩ ⟨H,v,g,y,cw,z⟩;cases af;have A:=E ks ad;have aG:h.length<=1000000:=Ω
  refine aB.cr (bw cF.i λaH aI aJ ag I ah=>?_);refine aB.cr (qu A rfl I λaj ak aK al am=>?_);intro aL K _ an;have aM:=I.lt;have ao:Ext U aj:=ag.put ak Ω;have p:=ao.trans K;rw[aD Ψ ((y.ext p).Qz rfl),nW A (al.ext K).range];refine aB.cr (iy (f:=ints .i8) (a:=ks) jm.u cF.i Ω (by simp[ek,x3.cells]) (by simp[A]) λa ga aN aO s ap aq=>?_);have M:=ap.sl;rw[W6,List.flatMap_nil,V3]at M;refine aB.cr (KT jm.u cF.i rfl ((z.ext p).ext s) M (λa=>Bw) Ω Ω λN au O B av x aw=>?_);have aP:=H.size;have aQ:=p.size;have aR:=s.size;have aS:=y.lt;have P:∀r,leadsTo N r->w.heap.size<=r/\r≠gs:=λr e=>by
   rcases av r e with h|h
   .exact cw r h
   .omega
  have C:ac O gs jm [v]:=((y.ext p).ext s).aa x (λh=>(cw gs h).2 rfl);refine aB.cr (bp jm.i (by obtain⟨_,_,_,_,_,rfl,_⟩:=B.sl;rfl) (by obtain⟨_,_,_,_,_,rfl,_⟩:=B.sl;rfl) C Ξ λQ R aT ax ay=>?_);have S:ae (λr=>w.heap.size<=r) U Q:=(((p.trans s).aa _).trans (x.mono λr _ h=>(cw r h).1)).trans (R.mono λr _ h=>by show w.heap.size<=r;omega);refine⟨ab.then S (λr e h=>by have h:w.heap.size<=r:=h;omega),⟨H.trans S,N,au,ax,P,B.aa R λr e h=>(P r e).2 h⟩,λ_=>?_⟩;exact((((ah.kf.trans am.kf).trans an).trans aq.kf).trans aw.kf).trans ay.kf
 .rintro h O az ⟨x,v,g,C,cw,z⟩;rw[aD Ψ (C.Qz rfl)];intro Q V _;exact⟨(x.ext λr e h=>by have:w.heap.size<=r:=h;omega).trans V,g,h,λr e=>(cw r e).1,az,z.ext V⟩
def KX{de m:Nat}{d:List (x3×x3)}{KS:List (Λ)}(a:ac w de iL [.map (σ m)])(hm:c7 w m d)(e:d.map (·.1)=KS.map ek)(f:∀ks∈KS,ks.length=6)(j:KS.length<=1000000):
  ai x8 IF [.func (.func lS) #[] #[Γ de]] w λv w'=>Ext w w'/\∃g L,(∀r,leadsTo v r->w.heap.size<=r)/\L.Perm KS/\nX w' g v L:=by
 refine az func275 ?_;exact(KW a hm e f j).mono λ_ _ _ h=>h
def gA:Λ->Int
 |[]=>0
 |x::l=>x*32 ^ l.length+gA l
def vS(n:Nat):(0:Int)<32 ^ n:=Int.pow_pos Ω
theorem sP:∀(l:Λ),(∀x∈l,0<=x/\x<32)->0<=gA l/\gA l<32 ^ l.length
 |[],_=>by simp[gA]
 |x::l,h=>by
  have j:=sP l λy a=>h y (.tail _ a);have f:=h x (.head _);have p:=vS l.length;simp only[gA,Z2];have e:(32:Int) ^ (l.length+1)=32*32 ^ l.length:=by rw[Int.pow_succ,Int.mul_comm]
  have h1:x*32 ^ l.length<=31*32 ^ l.length:=Int.mul_le_mul_of_nonneg_right Ω Ω;have q:0<=x*32 ^ l.length:=Int.mul_nonneg f.1 Ω;rw[e];omega
def iz:Λ->Λ->Int
 |x::a,y::b=>if x<y then-1 else if y<x then 1 else iz a b
 |_,_=>0
theorem Bx:∀(a b:Λ),a.length=b.length->(∀x∈a,0<=x/\x<32)->(∀x∈b,0<=x/\x<32)->(iz a b<0↔gA a<gA b)/\(gA a=gA b->a=b)
 |[],[],_,_,_=>by simp[iz]
 |[],_::_,h,_,_=>by simp at h
 |_::_,[],h,_,_=>by simp at h
 |x::a,y::b,h,s,w=>by
  have j:a.length=b.length:=by simpa using h
  have p:∀x∈a,0<=x/\x<32:=λz e=>s z (.tail _ e);have q:∀x∈b,0<=x/\x<32:=λz e=>w z (.tail _ e);have r:=Bx a b j p q;have A:=sP a p;have C:=sP b q;have E:=vS b.length;simp only[iz,gA];rw[j]at A ⊢;have step:∀u v:Int,u<v->u*32 ^ b.length+32 ^ b.length<=v*32 ^ b.length:=λu v F=>by
   have:=Int.mul_le_mul_of_nonneg_right (show u+1<=v by omega) (show(0:Int)<=32 ^ b.length by omega);rw[Int.add_mul,Int.one_mul]at this;exact this
  by_cases h1:x<y
  .rw[if_pos h1];have:=step x y h1;exact⟨⟨λ_=>Ω,λ_=>Ω⟩,λh=>Ω⟩
  .rw[if_neg h1];by_cases f:y<x
   .rw[if_pos f];have:=step y x f;exact⟨⟨λh=>Ω,λh=>Ω⟩,λh=>Ω⟩
   .rw[if_neg f];have B:x=y:=Ω
    subst B;exact⟨r.1.trans ⟨λh=>Ω,λh=>Ω⟩,λh=>by rw[r.2 Ω]⟩
theorem vT:∀{a b:Λ}{i:Nat},(∀(j:Nat)(x y:Int),j<i->a[j]?=σ x->b[j]?=σ y->x=y)->i<=a.length->i<=b.length->iz a b=iz (a.drop i) (b.drop i)
 |_,_,0,_,_,_=>Ξ
 |[],_,i+1,_,h,_=>by simp at h
 |_::_,[],i+1,_,_,h=>by simp at h
 |x::a,y::b,i+1,he,h1,e=>by
  have f:=he 0 x y Ω rfl rfl;subst f;simp only[iz,Int.lt_irrefl,if_false,List.drop_succ_cons];exact vT (λj u v q hu p=>he (j+1) u v Ω hu p) (by simpa using h1) (by simpa using e)
def By{x:Int}:ai x8 IK [.int .i8 x] w λv w'=>v= .bool false/\Ext w w':=by
 refine az func289 ?_;simp only[bN];exact⟨Ξ,Ext.refl _⟩
def KY{x:Int}:ai x8 IE [.int .i8 x,.int .i8 y] w λv w'=>v=Δ (if x<y then-1 else if y<x then 1 else 0)/\Ext w w':=by
 refine az func274 ?_;refine By.mono ?_;rintro _ J _ ⟨rfl,a⟩;refine By.mono ?_;rintro _ U _ ⟨rfl,e⟩;simp only[aY,aR,bS,aj];exact⟨λh=>⟨by rw[if_pos h],a.trans e⟩,λh=>⟨λf=>⟨by rw[if_neg h,if_pos f],a.trans e⟩,λf=>⟨by rw[if_neg h,if_neg f],a.trans e⟩⟩⟩
def KZ{ba bv:x3}{a b:Λ}(q:aG .i8 w ba a)(s:aG .i8 w bv b)(S:a.length=b.length):ai x8 In [ba,bv] w λv w'=>v=Δ (iz a b)/\Ext w w':=by
 refine az func242 ?_;have V:=q.le;rw[aU kZ.u q];refine b4.range a.length (λi _ J=>Ext w J/\∀(j:Nat)(x y:Int),j<i->a[j]?=σ x->b[j]?=σ y->x=y) Ω ⟨Ext.refl _,λj x y I=>Ω⟩ ?_ ?_
 .rintro i _ J K hi ⟨e,r⟩ L;simp only[aR,aj];refine⟨λ_=>?_,λh=>Ω⟩;obtain⟨x,z⟩:=aF (l:=a) hi;obtain⟨y,A⟩:=aF (l:=b) (i:=i) Ω;rw[bb kZ.u fT.i Ψ (q.ext e) z,aU kZ.u (s.ext e)];simp only[cS,aj];refine⟨λh=>Ω,λ_=>?_⟩;rw[bb kZ.u fT.i Ψ (s.ext e) A];refine KY.mono ?_;rintro _ U _ ⟨rfl,E⟩;have f:iz a b=iz (a.drop i) (b.drop i):=vT r Ω Ω;have M:a.drop i=x::a.drop (i+1):=by rw[W0 hi,(x5.1 z).2]
  have N:b.drop i=y::b.drop (i+1):=by rw[W0 Ω,(x5.1 A).2]
  rw[M,N]at f;simp only[iz]at f;simp only[bN,aj,aL];refine⟨λG=>⟨?_,e.trans E⟩,λO=>L _ _ ⟨e.trans E,λj P Q I B C=>?_⟩⟩
  .rw[f];by_cases h1:x<y
   .rw[if_pos h1,if_pos h1]
   .by_cases p:y<x
    .rw[if_neg h1,if_pos p,if_neg h1,if_pos p]
    .rw[if_neg h1,if_neg p]at G;exact absurd rfl G
  .by_cases R:j=i
   .subst R;rw[z]at B;rw[A]at C;cases B;cases C;have H:=X4.1 O;by_cases h1:x<y
    .rw[if_pos h1]at H;omega
    .by_cases p:y<x
     .rw[if_neg h1,if_pos p]at H;omega
     .omega
   .exact r j P Q Ω B C
 .rintro _ J K ⟨e,r⟩;simp only[aR,show decide ((a.length:Int)<(a.length:Int))=false from decide_eq_false Ω,aY];rw[aU kZ.u (q.ext e),aU kZ.u (s.ext e)];simp only[aR,aj];refine⟨λh=>Ω,λ_=>⟨?_,e⟩⟩;have f:iz a b=iz (a.drop a.length) (b.drop a.length):=vT r Ω Ω;rw[f,List.drop_length];cases b.drop a.length<;>rfl
def K0{a b:Λ}(p:ld a)(q:ld b):ai x8 zt [ek a,ek b] w λv w'=>Ext w w'/\v=Δ (iz a b):=by
 have B:∀{c:Λ},ld c->(ints .i8 c).length=6:=λh=>by simp[h.1]
 refine az func241 ?_;refine bk λg1 J C y e=>?_;refine bk λE U G r f=>?_;rw[Bk]at e f;intro s j _ _;have e:=(e.ext r).ext j;have f:=f.ext j;rw[sa cF.u fT.i (l:=0) (h:=6) (m:=6) jI jJ fG Ω Ω Ω,sa cF.u fT.i (l:=0) (h:=6) (m:=6) jI jJ fG Ω Ω Ω];rw[if_neg Ω,if_neg Ω];have ls:∀{g:Nat}{c:Λ},ld c->ac s g cF (ints .i8 c)->aG .i8 s (.slice (σ ⟨g,0+0*1,ν⟩) (6-0) (6-0)) c:=λ{g c}x z=>by
  unfold aG;refine⟨Ξ,g,0,_,6,by rw[x.1],by rw[x.1];omega,by simp[maxLen],λ_=>rfl,z.range⟩
 refine(KZ (ls p e) (ls q f) (by rw[p.1,q.1])).mono ?_;rintro _ H _ ⟨rfl,A⟩;exact⟨((y.trans r).trans j).trans A,rfl⟩
end Go.Proofs.YtikkpokkcdocoaaGreatDoor
namespace Go.Vc
open Go Go.RowKit Go.Shelf Go.Proofs Go.Sort
def grown_of(f:Ext w w')(a:cL w w'):∃q os,w'=grow (w.drewN q) os:=by
 refine⟨w'.drawn-w.drawn,w'.heap.extract w.heap.size w'.heap.size,?_⟩;have hk:∀k,k<w.heap.size->w'.heap[k]?=w.heap[k]?:=λk hk=>by
  have e:w.heap[k]?=σ w.heap[k]:=Array.getElem?_eq_getElem hk;rw[e];cases I:fz w.heap[k]with
  |true=>exact f.aV k _ e I
  |false=>exact a.aV k _ e I
 have ap:w'.heap=w.heap++w'.heap.extract w.heap.size w'.heap.size:=by
  apply Array.ext_getElem?;intro k;rw[Array.getElem?_append];by_cases h:k<w.heap.size
  .rw[if_pos h,hk k h]
  .rw[if_neg h,Array.getElem?_extract];have:=f.size;by_cases j:k<w'.heap.size
   .rw[if_pos Ω];congr 1;omega
   .rw[if_neg Ω,Array.getElem?_eq_none Ω]
 have h1:=a.os;have j:=a.tape.1;have p:=a.output;have r:w.drawn+(w'.drawn-w.drawn)=w'.drawn:=by have:=a.tape.2;omega
 cases w';simp only[grow,x4.drewN]at*;subst h1 j p;rw[<-ap,r]
section
variable{α:Type}[Inhabited α]
def Bz(enc:α->List x3)(k:Nat)(hk:∀x,(enc x).length=k)(d:Array α):(flatK enc k d).toList=d.toList.flatMap enc:=by
 apply Y9;intro t;by_cases h:t<d.size*k
 .have j:0<k:=by
   rcases Q5 k with e|e
   .rw[e]at h;simp at h
   .exact e
  have p:t / k<d.size:=(Nat.div_lt_iff_lt_mul j).2 h;have q:=Nat.mod_lt t j;have r:(flatK enc k d).toList[t]?=σ ((enc d[t / k]!)[t % k]!):=by
   rw[R3,Array.getElem?_eq_getElem (by simpa using h)];have:=get_flatK enc k d t h;rw[getElem!_pos _ t (by simpa using h)]at this;rw[this]
  have s:d.toList[t / k]?=σ d[t / k]!:=by
   rw[R3,Array.getElem?_eq_getElem p,getElem!_pos d _ p]
  have w:(enc d[t / k]!)[t % k]?=σ ((enc d[t / k]!)[t % k]!):=by
   generalize d[t / k]! =z;rw[x7 (by rw[hk];exact q),getElem!_pos (enc z) _ (by rw[hk];exact q)]
  have:=pj (f:=enc) (k:=k) (λa _=>hk a) s w;rw[r,<-this];congr 1;rw[Nat.mul_comm];exact Nat.div_add_mod t k
 .rw[Y2 (by simpa using h),Y2];rw[ix (k:=k) λa _=>hk a];simpa using h
def BA(enc:α->List x3)(k:Nat)(hk:∀x,(enc x).length=k){g m:Nat}{e:r9}{d:Array α}{os:Array Obj}(h:ac w g e cs)(y:d.size*k<=cs.length):
  ac (sortWorldK enc k w g 0 m d os) g e (d.toList.flatMap enc++cs.drop (d.size*k))/\∀r,r<w.heap.size->r≠g->(sortWorldK enc k w g 0 m d os).heap[r]?=w.heap[r]?:=by
 have q:=h.lt;have p:∀r,r<w.heap.size->(sortWorldK enc k w g 0 m d os).heap[r]?=(w.heap.modify g (onCells (putCells id 0 (flatK enc k d))))[r]?:=λr j=>by
  show((w.heap.modify g (onCells (putCells id 0 (flatK enc k d))))++os)[r]?=_;rw[Array.getElem?_append_left (by simpa using j)]
 refine⟨?_,λr j s=>?_⟩
 .unfold ac at h ⊢;rw[p g q,Array.getElem?_modify,if_pos rfl,h];show σ (Obj.cells (putCells id 0 (flatK enc k d) cs.toArray) e (0,0))=_;refine congrArg σ (congrArg (λc=>Obj.cells c e (0,0)) ?_);apply Array.ext';apply Y9;intro t;show _=(d.toList.flatMap enc++cs.drop (d.size*k))[t]?;rw[List.getElem?_append,ix (k:=k) λa _=>hk a,R3];unfold putCells;rw[Array.getElem?_mapIdx,List.getElem?_toArray];have I:d.toList.length=d.size:=rfl;by_cases f:t<d.size*k
  .rw[if_pos (by rw[I];exact f),x7 Ω,<-Bz enc k hk,R3,Array.getElem?_eq_getElem (by simpa using f)];simp only[Z7,id];rw[if_pos (by simpa using f),Nat.sub_zero,getElem!_pos _ t (by simpa using f)]
  .rw[if_neg (by rw[I];exact f),S5,I,show d.size*k+(t-d.size*k)=t by omega];cases z:cs[t]? with
   |none=>rfl
   |some x=>
    simp only[Z7];rw[if_neg Θ]
 .rw[p r j,Array.getElem?_modify,if_neg (R2 s)]
end
def BB{P:V1}{E:Ren}(V:SlLaysF0.n6 P E){α:Type}{f:α->List x3}{k:Nat}{e:r9}{G:α->Prop}{num:α->Int}{cf:α->α->Int}{F:Q2}{cap:Array x3}(aA:∀w,(isAgg (E.t 24)).run P w= .ok true w)(aB:∀w,(Go.sizeOf (E.t 24)).run P w= .ok k w)(h1:∀a,G a->∀u∈f a,u.oneCell'=true)(hk:∀a,G a->(f a).length=k)(aC:∀a b,G a->G b->(cf a b<0↔num a<num b))(ag:Enters P F){w:x4}{g:Nat}{v:x3}{L:List α}(h:bg f k e w g v L)(J:∀a∈L,G a)(ah:L.length<65536)(aD:∀W a b,ae (λr=>r=g) w W->G a->G b->ai P F ([.agg (f a).toArray,.agg (f b).toArray]++cap.toList) W λu aE=>Ext W aE/\u=Δ (cf a b)):
  ai P (E.f 6) [v,.func (.func F) #[] cap] w λ_ w'=>ae (λr=>leadsTo v r) w w'/\∃M,M.Perm L/\(∀(p q:Nat)(x y:α),p<q->M[p]?=σ x->M[q]?=σ y->num x<=num y)/\bg f k e w' g v M:=by
 have aj:Enters P (E.f 6):=λargs w=>V.f6.enters rfl args w;obtain⟨⟨aX,aF⟩,aY⟩:=id h;have ak:∀p c,v= .slice p 0 c->L=[]->ai P (E.f 6) [v,.func (.func F) #[] cap] w λ_ w'=>ae (λr=>leadsTo v r) w w'/\∃M,M.Perm L/\(∀(p q:Nat)(x y:α),p<q->M[p]?=σ x->M[q]?=σ y->num x<=num y)/\bg f k e w' g v M:=λp c K ah=>by
  refine .code aj ?_;rw[K];refine(AnyF.slices_SortFunc_none V p c _ w).mono ?_;rintro aZ w' ⟨rfl,rfl⟩;refine⟨_,rfl,cL.refl _,ae.refl _ _,L,.refl _,λp q x y _ B=>by rw[ah]at B;simp at B,by rw[<-K];exact h⟩
 rcases aF with⟨rfl,aG⟩|⟨c,cs,rfl,C,al,hm,X,aH⟩
 .exact ak _ _ rfl (c9 aG)
 cases Y:L with
 |nil=>subst Y;exact ak _ _ rfl rfl
 |cons a0 a1=>
 rw[<-Y];let β:={a:α // G a};have:Inhabited β:=⟨⟨a0,J a0 (by rw[Y];exact .head _)⟩⟩;let enc:β->List x3:=λx=>f x.1;let d:Array β:=(L.attach.map λx=>(⟨x.1,J x.1 x.2⟩:β)).toArray;have am:d.toList.map Subtype.val=L:=by
  show(L.attach.map λx=>(⟨x.1,J x.1 x.2⟩:β)).map Subtype.val=L;rw[R6];exact List.attach_map_subtype_val L
 have Q:d.size=L.length:=by simp[d]
 have H:∀x:β,(enc x).length=k:=λx=>hk x.1 x.2;have aI:d.toList.flatMap enc=L.flatMap f:=by
  have N:=congrArg (λl=>l.flatMap f) am;rw[<-N];exact(List.flatMap_map Subtype.val f d.toList).symm
 have R:d.size*k<=cs.length:=by rw[Q,X];exact X0 k al
 have aJ:HoldsK enc k w g 0 d:=by
  intro j S;rw[size_flatK]at S;have an:j<cs.length:=Ω
  have Z:(flatK enc k d)[j]! =cs[j]:=by
   have N:(flatK enc k d).toList[j]?=σ cs[j]:=by
    rw[Bz enc k H,aI,<-aH,Y0 (by rw[<-Q];exact S),x7 an]
   rw[R3]at N;rw[getElem!_pos _ j (by simpa using S)];rw[Array.getElem?_eq_getElem (by simpa using S)]at N;exact Z0 N
  refine⟨?_,?_⟩
  .show w.cell? ⟨g,0+j,ν⟩=σ ((flatK enc k d)[j]!);rw[Z];exact C.cell (o:=0+j) (by rw[X6];exact x7 an)
  .unfold x4.frozen?;unfold ac at C;rw[C];simp
 have T:∀x y:β,ltOf (λx y:β=>cf x.1 y.1) x y=decide (num x.1<num y.1):=λx y=>by
  unfold ltOf;exact decide_eq_decide.2 (aC x.1 y.1 x.2 y.2)
 have aK:SWO (ltOf λx y:β=>cf x.1 y.1):=
  ⟨λx=>by rw[T];simp,λx y z p q=>by rw[T]at*;simp at*;omega,λx y z p q=>by rw[T]at*;simp at*;omega⟩
 have ao:∀m (d2:Array β) os,d2.size=d.size->ae (λr=>r=g) w (sortWorldK enc k w g 0 m d2 os)/\cL w (sortWorldK enc k w g 0 m d2 os):=λm d2 os I=>by
  obtain⟨a2,ap⟩:=BA enc k H (m:=m) (os:=os) C (d:=d2) (by rw[I];exact R);have aq:w.heap.size<=(sortWorldK enc k w g 0 m d2 os).heap.size:=by
   show w.heap.size<=((w.heap.modify g _)++os).size;simp
  refine⟨⟨aq,λr o A _ aa=>?_⟩,rfl,⟨rfl,Nat.le_add_right _ _⟩,rfl,aq,λr o A I=>?_⟩
  .rw[ap r (j5.1 A).1 aa];exact A
  .have aa:r≠g:=λhe=>by subst he;unfold ac at C;rw[C]at A;cases A;cases I
   rw[ap r (j5.1 A).1 aa];exact A
 have aL:CmpLays P F cap enc k (λx y:β=>cf x.1 y.1) g 0 d.size w:=λm os aM I x y=>by
  have B:=(aD _ x.1 y.1 (ao m aM os I).1 x.2 y.2).calls ag;have O:([x3.agg (f x.1).toArray,.agg (f y.1).toArray]++cap.toList).toArray= #[.agg (enc x).toArray,.agg (enc y).toArray]++cap:=by
   apply Array.ext';simp[enc]
  rw[O]at B;refine B.mono ?_;rintro _ w' ⟨_,rfl,aN,aO,rfl⟩;exact⟨rfl,grown_of aO aN⟩
 have au:=AnyQ.slices_SortFunc V k aA aB enc H (λx=>h1 x.1 x.2) (λx y:β=>cf x.1 y.1) aK F cap g 0 c d w (λargs w=>ag args w) aL aJ C.lt (by rw[Q];omega);rw[Q]at au;refine .code aj (au.mono ?_);rintro _ w' ⟨rfl,s,n,os,⟨aP,_,K⟩,aQ,rfl⟩;have ab:s.size=d.size:=aP;obtain⟨aR,aS⟩:=ao n s os ab;obtain⟨aT,_⟩:=BA enc k H (m:=n) (os:=os) C (d:=s) (by rw[ab];exact R);have U:(s.toList.map Subtype.val).Perm L:=by
  have Z:(s.extract 0 L.length).toList=s.toList:=by rw[show L.length=s.size by omega,Array.extract_size]
  have aU:(d.extract 0 L.length).toList=d.toList:=by rw[show L.length=d.size by omega,Array.extract_size]
  rw[Z,aU]at K;rw[<-am];exact K.map _
 have av:=U.length_eq;refine⟨_,rfl,aS,aR.mono λr _ A=>⟨_,_,_,rfl,A.symm⟩,s.toList.map Subtype.val,U,λp q x y aV B aw=>?_,⟨?_,.inr ⟨c,_,by rw[av],aT,by rw[av];exact al,hm,?_,?_⟩⟩,λa O=>hk a (J a (U.mem_iff.1 O))⟩
 .rw[v8,X2]at B aw;obtain⟨a6,ax,rfl⟩:=B;obtain⟨a7,ay,rfl⟩:=aw;rw[R3]at ax ay;have az:=(j5.1 ax);have ad:=(j5.1 ay);have:=aQ p q (X8 _) aV (by have:=ad.1;omega);rw[getElem!_pos s p az.1,getElem!_pos s q ad.1,az.2,ad.2,T]at this;simpa using this
 .rw[ix (k:=k) λa O=>hk a (J a (U.mem_iff.1 O))]
 .have af:(s.toList.flatMap enc).length=s.size*k:=by rw[ix (k:=k) λa _=>H a];rfl
  rw[o4,af,List.length_drop,ab,X];rw[X]at R;exact Nat.add_sub_cancel' R
 .have af:(s.toList.flatMap enc).length=s.size*k:=by rw[ix (k:=k) λa _=>H a];rfl
  have aW:(List.map Subtype.val s.toList).length*k=(s.toList.flatMap enc).length:=by rw[af,u7];rfl
  rw[aW,List.take_left,List.flatMap_map]
end Go.Vc
namespace Go.Proofs
open Go.Shelf
def Tryz.vU:Go.Shelf.Ren:=⟨λ|6=>276|15=>234|14=>291|28=>269|29=>270|20=>306|21=>307|22=>308|23=>309|24=>310|25=>311|26=>312|27=>313|46=>321|47=>283|48=>284|49=>322|50=>323|57=>326|n=>n,λ|22=>337|24=>312|25=>336|3=>3|39=>228|0=>0|53=>357|55=>58|4=>4|46=>351|45=>350|50=>297|5=>5|9=>9|66=>366|70=>370|76=>390|77=>391|n=>n,λ|n=>n⟩
def Tryz.K1:Go.Proofs.SlLaysF0.n6 Tryz.prog Tryz.vU:={
 mixed:=Ψ,
 f6:=⟨Tryz.f276.name,Φ,Tryz.func276.trans (congrArg σ Ψ)⟩,
 f14:=⟨Tryz.f291.name,Φ,Tryz.func291.trans (congrArg σ Ψ)⟩,
 f15:=Tryz.func234.trans (congrArg σ Ψ),
 f20:=⟨Tryz.f306.name,Φ,Tryz.func306.trans (congrArg σ Ψ)⟩,
 f21:=⟨Tryz.f307.name,Φ,Tryz.func307.trans (congrArg σ Ψ)⟩,
 f22:=⟨Tryz.f308.name,Φ,Tryz.func308.trans (congrArg σ Ψ)⟩,
 f23:=⟨Tryz.f309.name,Φ,Tryz.func309.trans (congrArg σ Ψ)⟩,
 f24:=⟨Tryz.f310.name,Φ,Tryz.func310.trans (congrArg σ Ψ)⟩,
 f25:=⟨Tryz.f311.name,Φ,Tryz.func311.trans (congrArg σ Ψ)⟩,
 f26:=⟨Tryz.f312.name,Φ,Tryz.func312.trans (congrArg σ Ψ)⟩,
 f27:=⟨Tryz.f313.name,Φ,Tryz.func313.trans (congrArg σ Ψ)⟩,
 f28:=Tryz.func269.trans (congrArg σ Ψ),
 f29:=Tryz.func270.trans (congrArg σ Ψ),
 f46:=⟨Tryz.f321.name,Φ,Tryz.func321.trans (congrArg σ Ψ)⟩,
 f47:=Tryz.func283.trans (congrArg σ Ψ),
 f48:=Tryz.func284.trans (congrArg σ Ψ),
 f49:=⟨Tryz.f322.name,Φ,Tryz.func322.trans (congrArg σ Ψ)⟩,
 f50:=⟨Tryz.f323.name,Φ,Tryz.func323.trans (congrArg σ Ψ)⟩,
 f57:=⟨Tryz.f326.name,Φ,Tryz.func326.trans (congrArg σ Ψ)⟩,
 t0:=Tryz.underlying0,
 a0:=Tryz.isAgg0,
 z0:=Tryz.sizeOf0,
 v0:=Tryz.zeroValue0,
 t3:=Tryz.underlying3,
 a3:=Tryz.isAgg3,
 z3:=Tryz.sizeOf3,
 v3:=Tryz.zeroValue3,
 t4:=Tryz.underlying4,
 a4:=Tryz.isAgg4,
 z4:=Tryz.sizeOf4,
 v4:=Tryz.zeroValue4,
 t5:=Tryz.underlying5,
 a5:=Tryz.isAgg5,
 z5:=Tryz.sizeOf5,
 v5:=Tryz.zeroValue5,
 t9:=Tryz.underlying9,
 a9:=Tryz.isAgg9,
 z9:=Tryz.sizeOf9,
 v9:=Tryz.zeroValue9,
 t22:=Tryz.underlying337,
 a22:=Tryz.isAgg337,
 z22:=Tryz.sizeOf337,
 v22:=Tryz.zeroValue337,
 t25:=Tryz.underlying336,
 a25:=Tryz.isAgg336,
 z25:=Tryz.sizeOf336,
 v25:=Tryz.zeroValue336,
 t39:=Tryz.underlying228,
 a39:=Tryz.isAgg228,
 z39:=Tryz.sizeOf228,
 v39:=Tryz.zeroValue228,
 t45:=Tryz.underlying350,
 a45:=Tryz.isAgg350,
 z45:=Tryz.sizeOf350,
 v45:=Tryz.zeroValue350,
 t46:=Tryz.underlying351,
 a46:=Tryz.isAgg351,
 z46:=Tryz.sizeOf351,
 v46:=Tryz.zeroValue351,
 t50:=Tryz.underlying297,
 a50:=Tryz.isAgg297,
 z50:=Tryz.sizeOf297,
 v50:=Tryz.zeroValue297,
 t53:=Tryz.underlying357,
 a53:=Tryz.isAgg357,
 z53:=Tryz.sizeOf357,
 v53:=Tryz.zeroValue357,
 t55:=Tryz.underlying58,
 a55:=Tryz.isAgg58,
 z55:=Tryz.sizeOf58,
 v55:=Tryz.zeroValue58,
 t66:=Tryz.underlying366,
 a66:=Tryz.isAgg366,
 z66:=Tryz.sizeOf366,
 v66:=Tryz.zeroValue366,
 t70:=Tryz.underlying370,
 a70:=Tryz.isAgg370,
 z70:=Tryz.sizeOf370,
 v70:=Tryz.zeroValue370,
 t76:=Tryz.underlying390,
 a76:=Tryz.isAgg390,
 z76:=Tryz.sizeOf390,
 v76:=Tryz.zeroValue390,
 t77:=Tryz.underlying391,
 a77:=Tryz.isAgg391,
 z77:=Tryz.sizeOf391,
 v77:=Tryz.zeroValue391}
def Tryz.vV:Go.Shelf.Ren:=⟨λ|6=>185|15=>234|14=>233|28=>269|29=>270|20=>261|21=>262|22=>263|23=>264|24=>265|25=>266|26=>267|27=>268|46=>282|47=>283|48=>284|49=>285|50=>286|57=>305|n=>n,λ|22=>265|24=>270|25=>280|3=>3|39=>228|0=>0|53=>357|55=>58|4=>4|46=>351|45=>350|50=>297|5=>5|9=>9|66=>366|70=>370|76=>390|77=>391|n=>n,λ|n=>n⟩
def Tryz.K2:Go.Proofs.SlLaysF0.n6 Tryz.prog Tryz.vV:={
 mixed:=Ψ,
 f6:=⟨Tryz.f185.name,Φ,Tryz.func185.trans (congrArg σ Ψ)⟩,
 f14:=⟨Tryz.f233.name,Φ,Tryz.func233.trans (congrArg σ Ψ)⟩,
 f15:=Tryz.func234.trans (congrArg σ Ψ),
 f20:=⟨Tryz.f261.name,Φ,Tryz.func261.trans (congrArg σ Ψ)⟩,
 f21:=⟨Tryz.f262.name,Φ,Tryz.func262.trans (congrArg σ Ψ)⟩,
 f22:=⟨Tryz.f263.name,Φ,Tryz.func263.trans (congrArg σ Ψ)⟩,
 f23:=⟨Tryz.f264.name,Φ,Tryz.func264.trans (congrArg σ Ψ)⟩,
 f24:=⟨Tryz.f265.name,Φ,Tryz.func265.trans (congrArg σ Ψ)⟩,
 f25:=⟨Tryz.f266.name,Φ,Tryz.func266.trans (congrArg σ Ψ)⟩,
 f26:=⟨Tryz.f267.name,Φ,Tryz.func267.trans (congrArg σ Ψ)⟩,
 f27:=⟨Tryz.f268.name,Φ,Tryz.func268.trans (congrArg σ Ψ)⟩,
 f28:=Tryz.func269.trans (congrArg σ Ψ),
 f29:=Tryz.func270.trans (congrArg σ Ψ),
 f46:=⟨Tryz.f282.name,Φ,Tryz.func282.trans (congrArg σ Ψ)⟩,
 f47:=Tryz.func283.trans (congrArg σ Ψ),
 f48:=Tryz.func284.trans (congrArg σ Ψ),
 f49:=⟨Tryz.f285.name,Φ,Tryz.func285.trans (congrArg σ Ψ)⟩,
 f50:=⟨Tryz.f286.name,Φ,Tryz.func286.trans (congrArg σ Ψ)⟩,
 f57:=⟨Tryz.f305.name,Φ,Tryz.func305.trans (congrArg σ Ψ)⟩,
 t0:=Tryz.underlying0,
 a0:=Tryz.isAgg0,
 z0:=Tryz.sizeOf0,
 v0:=Tryz.zeroValue0,
 t3:=Tryz.underlying3,
 a3:=Tryz.isAgg3,
 z3:=Tryz.sizeOf3,
 v3:=Tryz.zeroValue3,
 t4:=Tryz.underlying4,
 a4:=Tryz.isAgg4,
 z4:=Tryz.sizeOf4,
 v4:=Tryz.zeroValue4,
 t5:=Tryz.underlying5,
 a5:=Tryz.isAgg5,
 z5:=Tryz.sizeOf5,
 v5:=Tryz.zeroValue5,
 t9:=Tryz.underlying9,
 a9:=Tryz.isAgg9,
 z9:=Tryz.sizeOf9,
 v9:=Tryz.zeroValue9,
 t22:=Tryz.underlying265,
 a22:=Tryz.isAgg265,
 z22:=Tryz.sizeOf265,
 v22:=Tryz.zeroValue265,
 t25:=Tryz.underlying280,
 a25:=Tryz.isAgg280,
 z25:=Tryz.sizeOf280,
 v25:=Tryz.zeroValue280,
 t39:=Tryz.underlying228,
 a39:=Tryz.isAgg228,
 z39:=Tryz.sizeOf228,
 v39:=Tryz.zeroValue228,
 t45:=Tryz.underlying350,
 a45:=Tryz.isAgg350,
 z45:=Tryz.sizeOf350,
 v45:=Tryz.zeroValue350,
 t46:=Tryz.underlying351,
 a46:=Tryz.isAgg351,
 z46:=Tryz.sizeOf351,
 v46:=Tryz.zeroValue351,
 t50:=Tryz.underlying297,
 a50:=Tryz.isAgg297,
 z50:=Tryz.sizeOf297,
 v50:=Tryz.zeroValue297,
 t53:=Tryz.underlying357,
 a53:=Tryz.isAgg357,
 z53:=Tryz.sizeOf357,
 v53:=Tryz.zeroValue357,
 t55:=Tryz.underlying58,
 a55:=Tryz.isAgg58,
 z55:=Tryz.sizeOf58,
 v55:=Tryz.zeroValue58,
 t66:=Tryz.underlying366,
 a66:=Tryz.isAgg366,
 z66:=Tryz.sizeOf366,
 v66:=Tryz.zeroValue366,
 t70:=Tryz.underlying370,
 a70:=Tryz.isAgg370,
 z70:=Tryz.sizeOf370,
 v70:=Tryz.zeroValue370,
 t76:=Tryz.underlying390,
 a76:=Tryz.isAgg390,
 z76:=Tryz.sizeOf390,
 v76:=Tryz.zeroValue390,
 t77:=Tryz.underlying391,
 a77:=Tryz.isAgg391,
 z77:=Tryz.sizeOf391,
 v77:=Tryz.zeroValue391}
def Tryz.K3(w:x4):(isAgg (Tryz.vU.t 24)).run Tryz.prog w= .ok true w:=Tryz.isAgg312 w
def Tryz.K4(w:x4):(Go.sizeOf (Tryz.vU.t 24)).run Tryz.prog w= .ok 6 w:=Tryz.sizeOf312 w
def Tryz.K5:Tryz.prog.funcs[241]?=σ Tryz.f241:=Tryz.func241
def Tryz.K6(w:x4):(isAgg (Tryz.vV.t 24)).run Tryz.prog w= .ok true w:=Tryz.isAgg270 w
def Tryz.K7(w:x4):(Go.sizeOf (Tryz.vV.t 24)).run Tryz.prog w= .ok 2 w:=Tryz.sizeOf270 w
def Tryz.K8:Tryz.prog.funcs[186]?=σ Tryz.f186:=Tryz.func186
end Go.Proofs
namespace Go.Proofs.YtikkpokkcdocoaaGreatDoor
open Go Go.Vc Go.RowKit Go.Proofs Go.Proofs.Tryz
set_option maxRecDepth 100000
def sQ{α:Type}(f:α->Int)(L:List α)(a i:Nat):Prop:=∀(p q:Nat)(x y:α),a<=p->p<q->q<i->L[p]?=σ x->L[q]?=σ y->f x<=f y
def pn(L:List (Λ)):Prop:=∀ks∈L,ld ks
def pn.perm{L M:List (Λ)}(h:pn L)(a:M.Perm L):pn M:=λks hk=>h ks (a.mem_iff.1 hk)
def K9{g:Nat}{L:List (Λ)}{i:Nat}(a:y=(i:Int))(h:nX w g v L)(hi:L[i]?=σ ks):
  V x8 (j9 jm v (Δ y)) w (λp=>V x8 (u5 cF p) w K)=K (ek ks):=by
 have e:ks.length=6:=by have:=h.2 ks (x6 hi);simpa using this
 rw[du a jm.u cF.i h (x5.1 hi).1,nW e (h.range hi)]
abbrev BC:x3:=.func (.func zt) #[] #[]
def sR{P:V1}{t:r9}{k:n9}{s:ByteArray}{i:Nat}(a:P.underlying t=σ .string)(hi:i<s.size):
  V P (Instr.index t (.string s) (.int k (i:Int))) w K=K (.int .u8 (s[i].toNat:Int)):=V.of λw' _=>by
 simp[Instr.index,asIntOf,run_underlying a,hi]
def ep(n:Nat):Nat:=if n=0 then 0 else Nat.log2 n+1
def BD(h:n<256):ep n<=8:=by
 unfold ep;by_cases a:n=0
 .rw[if_pos a];omega
 .rw[if_neg a];have e:Nat.log2 n<8:=(Nat.log2_lt a).2 Ω;omega
def La{g:Nat}{L:List (Λ)}(h:nX w g v L)(j:pn L)(s:L.length<65536):
  ai x8 IG [v,BC] w λ_ w'=>ae (λr=>leadsTo v r) w w'/\∃M,M.Perm L/\sQ gA M 0 M.length/\nX w' g v M:=by
 refine(BB K1 (G:=ld) (num:=gA) (cf:=iz) (cap:=#[]) K3 K4 (λa _=>Bw) (λa e=>by simp[e.1]) (λa b e f=>(Bx a b (by rw[e.1,f.1]) e.2 f.2).1) (Enters.of x8 K5 rfl Ψ) h j s λH a b _ e f=>K0 e f).mono ?_;rintro _ w' _ ⟨z,M,A,hu,hm⟩;exact⟨z,M,A,λp q x y _ B _ C E=>hu p q x y B C E,hm⟩
end Go.Proofs.YtikkpokkcdocoaaGreatDoor
namespace Go.Vc
open Go Go.RowKit
set_option maxRecDepth 100000
def Keys.str{P:V1}{k:r9}(hk:P.underlying k=σ .string):Keys P k λv=>∃s,v= .string s:=by
 have key:∀s,MapKept.IsKey .string (.string s):=λs=>trivial;refine⟨λw f v ⟨n,h⟩=>?_,λw x ⟨n,h⟩ p q=>?_,λw v ⟨n,h⟩=>?_⟩
 .subst h;exact MapKept.run_checkKey hk (key n) f 9999
 .subst h;rcases MapKept.findNow_spec (key n) p 0 (λe he=>by obtain⟨m,h⟩:=q e he;rw[h];exact key m)with⟨h1,a⟩|⟨j,e,h1,a,r⟩
  .exact .inl ⟨MapKept.run_findKey hk h1,a⟩
  .exact .inr ⟨j,e,by have:=MapKept.run_findKey (P:=P) (w:=w) hk h1;simpa using this,a,r⟩
 .subst h;exact MapKept.run_keyThatStays (d:=.string) (key n)
section
variable{P:V1}{w:x4}
def js{s:Sem x3}(h:∀K:x3->Prop,V P s w K=K v):bZ P s v w:=by
 have h1:V P s w (λu=>u=v):=(h λu=>u=v).mpr rfl;obtain⟨u,hu,rfl⟩:=h1;exact hu
variable{k e:r9}{G:x3->Prop}
end
end Go.Vc
namespace Go.Proofs.YtikkpokkcdocoaaGreatDoor
open Go Go.Vc Go.RowKit Go.Proofs Go.Proofs.Tryz
set_option maxRecDepth 100000
def gN:Nat->Nat->Λ
 |0,_=>[]
 |n+1,u=>gN n (u / 10)++[48+((u % 10:Nat):Int)]
theorem qz:∀(n u:Nat),(gN n u).length=n
 |0,_=>rfl
 |n+1,u=>by rw[gN,o4,qz n];rfl
def Lb(n u:Nat):gN (n+2) u=gN n (u / 100)++[48+((u / 10 % 10:Nat):Int),48+((u % 10:Nat):Int)]:=by
 rw[gN,gN,Y6];rw[show u / 10 / 10=u / 100 by omega];rfl
theorem BE:∀(n u:Nat),10 ^ n<=u->u<10 ^ (n+1)->gN (n+1) u=fs u
 |0,u,h1,a=>by
  rw[nQ,if_pos (by simpa using a)];simp[gN]
 |n+1,u,h1,a=>by
  have e:(10:Nat) ^ (n+1)=10*10 ^ n:=by rw[Nat.pow_succ,Nat.mul_comm]
  have f:(10:Nat) ^ (n+1+1)=10*10 ^ (n+1):=by rw[Nat.pow_succ,Nat.mul_comm]
  have h:1<=10 ^ n:=Nat.one_le_iff_ne_zero.2 Ξ;rw[nQ,if_neg Ω,gN,BE n (u / 10) Ω Ω]
def gB(a C:Λ)(nd u:Nat):Prop:=nd<=a.length/\C.length=a.length/\∃t,C.drop nd=t/\a=gN nd u++t
def gB.two{a:Λ}{nd u:Nat}(h:gB a C (nd+2) u):gB a ((C.set (nd+1) (48+((u % 10:Nat):Int))).set nd (48+((u / 10 % 10:Nat):Int))) nd (u / 100):=by
 obtain⟨h1,e,t,f,j⟩:=h;refine⟨Ω,by simp[e],_,rfl,?_⟩;rw[j,Lb,Y6];congr 1;rw[List.drop_set,if_neg Ω,List.drop_set,if_neg Ω,<-f];have p:nd<C.length:=Ω
 have q:nd+1<C.length:=Ω
 rw[W0 p,W0 q,T2,Q1];rfl
def gB.one{a:Λ}{u:Nat}(h:gB a C 1 u):C.set 0 (48+((u % 10:Nat):Int))=a:=by
 obtain⟨h1,e,t,f,j⟩:=h;rw[j,gN,gN,List.nil_append,<-f];cases C with
 |nil=>simp at e;omega
 |cons c C=>simp
def gB.zero{a:Λ}{u:Nat}(h:gB a C 0 u):C=a:=by
 obtain⟨h1,j,t,e,f⟩:=h;rw[f,gN,List.nil_append,<-e,List.drop_zero]
def jS:ByteArray:=⟨#[48,48,48,49,48,50,48,51,48,52,48,53,48,54,48,55,48,56,48,57,49,48,49,49,49,50,49,51,49,52,49,53,49,54,49,55,49,56,49,57,50,48,50,49,50,50,50,51,50,52,50,53,50,54,50,55,50,56,50,57,51,48,51,49,51,50,51,51,51,52,51,53,51,54,51,55,51,56,51,57,52,48,52,49,52,50,52,51,52,52,52,53,52,54,52,55,52,56,52,57,53,48,53,49,53,50,53,51,53,52,53,53,53,54,53,55,53,56,53,57,54,48,54,49,54,50,54,51,54,52,54,53,54,54,54,55,54,56,54,57,55,48,55,49,55,50,55,51,55,52,55,53,55,54,55,55,55,56,55,57,56,48,56,49,56,50,56,51,56,52,56,53,56,54,56,55,56,56,56,57,57,48,57,49,57,50,57,51,57,52,57,53,57,54,57,55,57,56,57,57]⟩
def BF:jS.size=200:=by decide+kernel
def Lc:∀q:Fin 100,jS.data.toList[2*q.val]?=σ (UInt8.ofNat (48+q.val / 10))/\jS.data.toList[2*q.val+1]?=σ (UInt8.ofNat (48+q.val % 10)):=by decide+kernel
def vW{q:Nat}(e:q<100):(∀h,(jS[2*q]'h).toNat=48+q / 10)/\∀h,(jS[2*q+1]'h).toNat=48+q % 10:=by
 obtain⟨h1,f⟩:=Lc ⟨q,e⟩;refine⟨λh=>?_,λh=>?_⟩
 .have a:=(x5.1 h1).2;have:jS[2*q]=UInt8.ofNat (48+q / 10):=a;rw[this,UInt8.toNat_ofNat'];omega
 .have a:=(x5.1 f).2;have:jS[2*q+1]=UInt8.ofNat (48+q % 10):=a;rw[this,UInt8.toNat_ofNat'];omega
def wrap_u32{x:Int}(h1:0<=x)(a:x<4294967296):n9.u32.wrap x=x:=by
 simp[n9.wrap,n9.bits,n9.signed];omega
def jT(w:x4)(g o:Nat)(a C e:Λ):Prop:=ac w g mD (ints .u8 (a++C++e))/\a.length=o
def vX{g o c i:Nat}{a:n9}(e:y=(i:Int))(hi:i<n):
  V x8 (j9 cM (.slice (σ ⟨g,o,ν⟩) n c) (.int a y)) w K=K (.pointer (σ ⟨g,o+i,ν⟩)):=by
 subst e;rw[eK cM.u cI.i hi (λ_=>rfl),U4]
def vY{g o i:Nat}{x:Int}{a f:Λ}{K:Unit->x4->Prop}(h:jT w g o a C f)(hi:i<C.length)(p:∀w',ae (λr=>r=g) w w'->jT w' g o a (C.set i x) f->K () w'):aB x8 (o9 cI (.pointer (σ ⟨g,o+i,ν⟩)) (.int .u8 x)) w K:=by
 obtain⟨h,rfl⟩:=h;refine bp (g:=g) (o:=a.length+i) cI.i rfl rfl h Θ λw' q I j=>p w' q ⟨?_,rfl⟩;have e:(ints .u8 (a++C++f)).set (a.length+i) (.int .u8 x)=ints .u8 (a++C.set i x++f):=by
  unfold ints;rw[<-U8,Y6,S1 _ _ Ω,Q1,List.set_append_left _ _ hi,Y6]
 rw[e]at j;exact j
def nY{g o c nd q i:Nat}{s t:Int}{f h:Λ}{K:x4->Prop}(x:jT w g o f C h)(X:C.length=n)(Y:n<=1000)(Z:nd<=n)(h1:(nd:Int)-s=((i+1:Nat):Int))(B:(nd:Int)-e=(i:Int))(E:i+1<n)(F:t=((2*q:Nat):Int))(j:q<100)(G:∀w',ae (λr=>r=g) w w'->jT w' g o f ((C.set (i+1) (48+((q % 10:Nat):Int))).set i (48+((q / 10:Nat):Int))) h->K w'):
  ef w λU=>
  V x8 (aJ .sub ah false true (Δ (nd:Int)) (Δ s)) U λH=>
  V x8 (aJ .sub ah false true (Δ (nd:Int)) (Δ e)) U λy=>
  V x8 (aJ .add oQ false true (.int .u32 t) (.int .u32 1)) U λJ=>
  V x8 (Instr.index c5 (.string jS) J) U λt50=>
  V x8 (Instr.index c5 (.string jS) (.int .u32 t)) U λz=>
  V x8 (j9 cM (.slice (σ ⟨g,o,ν⟩) n c) H) U λt53=>
  aB x8 (o9 cI t53 t50) U λ(_:Unit)a=>
   (Ext U a\/bZ x8 (Instr.index c5 (.string jS) (.int .u32 t)) z a/\bZ x8 (aJ .sub ah false true (Δ (nd:Int)) (Δ e)) y a/\True)/\
  V x8 (j9 cM (.slice (σ ⟨g,o,ν⟩) n c) y) a λL=>
   aB x8 (o9 cI L z) a λ(_:Unit)p=>K p:=by
 subst F;intro U A _ _;have M:ae (λr=>r=g) w U:=A.aa _;have N:jT U g o f C h:=⟨x.1.ext A,x.2⟩;rw[ed,wrap_i64 Ω Ω,ed,wrap_i64 Ω Ω,aL,wrap_u32 Ω Ω];rw[show((2*q:Nat):Int)+1=((2*q+1:Nat):Int) by omega];have I:=BF;rw[sR c5.u (by rw[I];omega),sR c5.u (by rw[I];omega)];rw[(vW j).1,(vW j).2,vX h1 E];refine vY N Ω λa O P=>⟨.inr ⟨js λK=>?_,js λK=>?_,trivial⟩,?_⟩
 .rw[sR c5.u (by rw[I];omega),(vW j).1]
 .rw[ed,wrap_i64 Ω Ω]
 .rw[vX B Ω];refine vY P Θ λp Q R=>G p ((M.trans O).trans Q) ?_;have S:48+((q % 10:Nat):Int)=((48+q % 10:Nat):Int):=Ω
  have W:48+((q / 10:Nat):Int)=((48+q / 10:Nat):Int):=Ω
  rw[S,W];exact R
def gB.pair{a:Λ}{nd u q:Nat}(h:gB a C (nd+2) u)(e:q=u % 100):gB a ((C.set (nd+1) (48+((q % 10:Nat):Int))).set nd (48+((q / 10:Nat):Int))) nd (u / 100):=by
 have:=h.two;rw[show u % 10=q % 10 by omega,show u / 10 % 10=q / 10 by omega]at this;exact this
def nZ{t:r9}{k:n9}{b:Nat}(e:b≠0):V x8 (aJ .rem t cx cy (.int k (a:Int)) (.int k (b:Int))) w K=K (.int k ((a % b:Nat):Int)):=by
 rw[p7 Ω,Int.tmod_eq_emod_of_nonneg Ω,Int.natCast_emod]
def u32_quo{t:r9}{b:Nat}(e:b≠0)(f:a<4294967296):V x8 (aJ .quo t cx cy (.int .u32 (a:Int)) (.int .u32 (b:Int))) w K=K (.int .u32 ((a / b:Nat):Int)):=by
 have:=Nat.div_le_self a b;rw[p6 Ω,Int.tdiv_eq_ediv_of_nonneg Ω,<-Int.natCast_ediv];generalize a / b=m at this ⊢;rw[wrap_u32 Ω Ω]
def u64_quo{t:r9}{b:Nat}(e:b≠0)(f:a<18446744073709551616):V x8 (aJ .quo t cx cy (.int .u64 (a:Int)) (.int .u64 (b:Int))) w K=K (.int .u64 ((a / b:Nat):Int)):=by
 have:=Nat.div_le_self a b;rw[p6 Ω,Int.tdiv_eq_ediv_of_nonneg Ω,<-Int.natCast_ediv];generalize a / b=m at this ⊢;rw[wrap_u64 Ω Ω]
def n0{t:r9}{b:Nat}(f:a*b<4294967296):V x8 (aJ .mul t cx cy (.int .u32 (a:Int)) (.int .u32 (b:Int))) w K=K (.int .u32 ((a*b:Nat):Int)):=by
 have e:(a:Int)*(b:Int)=((a*b:Nat):Int):=Ξ
 rw[gp,e];generalize a*b=m at f ⊢;rw[wrap_u32 Ω Ω]
def gB.start{u:Nat}(h:C.length=N):gB (gN N u) C N u:=⟨by rw[qz];omega,by rw[qz,h],[],by rw[List.drop_eq_nil_iff];omega,Ξ⟩
def Ld{g o c u:Nat}{B E:Λ}(ag:jT w g o B C E)(ah:C.length=N)(av:N<=19)(hu:u<10 ^ N):
  ai x8 IP [.slice (σ ⟨g,o,ν⟩) N c,.int .u64 (u:Int)] w λv w'=>v= .tuple #[]/\ae (λr=>r=g) w w'/\jT w' g o B (gN N u) E:=by
 have p:=qz N u;refine az func294 ?_;rw[hW cM.u];refine⟨λak Q J=>∃eM nd:Nat,ak= .int .u64 (eM:Int)/\Q=Δ (nd:Int)/\eM<10 ^ nd/\nd<=N/\ae (λr=>r=g) w J/\∃G,jT J g o B G E/\gB (gN N u) G nd eM,
  λ_ Q _=>(b0 Q).toNat,⟨u,N,rfl,rfl,hu,o6 _,ae.refl _ _,C,ag,gB.start ah⟩,?_⟩
 rintro _ _ J ⟨eM,nd,rfl,rfl,H,s,R,G,S,M⟩;have ab:G.length=N:=by rw[M.2.1,p]
 have aw:(10:Nat) ^ nd<=10 ^ 19:=T9 Ω Ω;have al:eM<18446744073709551616:=Ω
 have ay:(8:Int)=((8:Nat):Int):=rfl;rw[cS,aj];refine⟨λam=>?_,λam=>?_⟩
 .obtain⟨m,rfl⟩:∃m,nd=m+8:=⟨nd-8,Ω⟩;have aA:eM % 100000000<100000000:=Nat.mod_lt _ Ω;rw[show V8 .u64 100000000=V8 .u64 ((100000000:Nat):Int)from rfl,nZ Ω,fp fC.u oQ.u,wrap_u32 Ω Ω,u64_quo Ω al];rw[show V8 .u32 10000=V8 .u32 ((10000:Nat):Int)from rfl,show V8 .u32 100=V8 .u32 ((100:Nat):Int)from rfl,show V8 .u32 2=V8 .u32 ((2:Nat):Int)from rfl];rw[u32_quo Ω Ω,nZ Ω,u32_quo Ω Ω,n0 Ω,nZ Ω,n0 Ω,u32_quo Ω Ω,n0 Ω,nZ Ω,n0 Ω];refine nY (i:=m+6) (q:=eM % 100000000 % 10000 % 100) S ab Ω s Ω Ω Ω Ω Ω λU x z=>?_;have f:=M.pair (q:=eM % 100000000 % 10000 % 100) Ω;have I:=f.2.1.trans p;refine nY (i:=m+4) (q:=eM % 100000000 % 10000 / 100) z I Ω s Ω Ω Ω Ω Ω λA j h=>?_;have e:=gB.pair (nd:=m+4) (q:=eM % 100000000 % 10000 / 100) f Ω;have ac:=e.2.1.trans p;refine nY (i:=m+2) (q:=eM % 100000000 / 10000 % 100) h ac Ω s Ω Ω Ω Ω Ω λan V O=>?_;have ad:=gB.pair (nd:=m+2) (q:=eM % 100000000 / 10000 % 100) e Ω;have ao:=ad.2.1.trans p;refine nY (i:=m) (q:=eM % 100000000 / 10000 / 100) O ao Ω s Ω Ω Ω Ω Ω λaB ap aq=>?_;have af:=gB.pair (nd:=m) (q:=eM % 100000000 / 10000 / 100) ad Ω;rw[ed,wrap_i64 Ω Ω];refine⟨⟨eM / 100000000,m,rfl,by congr 1;omega,?_,Ω,(((R.trans x).trans j).trans V).trans ap,_,aq,?_⟩,by simp only[b0];omega⟩
  .rw[Nat.pow_add]at H;exact Nat.div_lt_of_lt_mul (by rw[Nat.mul_comm];exact H)
  .rw[show eM / 100 / 100 / 100 / 100=eM / 100000000 by omega]at af;exact af
 .have aC:nd<8:=Ω
  have aD:(10:Nat) ^ nd<=10 ^ 7:=T9 Ω Ω;rw[fp fC.u oQ.u,wrap_u32 Ω Ω];refine ii (λa b U=>∃eN m:Nat,a=Δ (m:Int)/\b= .int .u32 (eN:Int)/\eN<10 ^ m/\m<4/\m<=N/\ae (λr=>r=g) w U/\∃P,jT U g o B P E/\gB (gN N u) P m eN) ?_ ?_
  rotate_left
  .intro ax K;rw[cS,aj];refine⟨λW=>?_,λW=>K _ _ _ ⟨eM,nd,rfl,rfl,H,Ω,s,R,G,S,M⟩⟩;obtain⟨m,rfl⟩:∃m,nd=m+4:=⟨nd-4,Ω⟩;rw[show V8 .u32 10000=V8 .u32 ((10000:Nat):Int)from rfl,show V8 .u32 100=V8 .u32 ((100:Nat):Int)from rfl,show V8 .u32 2=V8 .u32 ((2:Nat):Int)from rfl];rw[nZ Ω,u32_quo Ω Ω,u32_quo Ω Ω,n0 Ω,nZ Ω,n0 Ω];refine nY (i:=m+2) (q:=eM % 10000 % 100) S ab Ω s Ω Ω Ω Ω Ω λU x z=>?_;have f:=M.pair (q:=eM % 10000 % 100) Ω;have I:=f.2.1.trans p;refine nY (i:=m) (q:=eM % 10000 / 100) z I Ω s Ω Ω Ω Ω Ω λA j h=>?_;have e:=gB.pair (nd:=m) (q:=eM % 10000 / 100) f Ω;rw[ed,wrap_i64 Ω Ω];refine K _ _ _ ⟨eM / 10000,m,by congr 1;omega,rfl,?_,Ω,Ω,(R.trans x).trans j,_,h,?_⟩
   .rw[Nat.pow_add]at H;exact Nat.div_lt_of_lt_mul (by rw[Nat.mul_comm];exact H)
   .rw[show eM / 100 / 100=eM / 10000 by omega]at e;exact e
  rintro _ _ U ⟨eN,m,rfl,rfl,X,aE,Y,x,P,z,f⟩;have I:=f.2.1.trans p;have aF:(10:Nat) ^ m<=10 ^ 3:=T9 Ω Ω;refine ii (λa b A=>∃L m:Nat,a=Δ (m:Int)/\b= .int .u32 (L:Int)/\L<10 ^ m/\m<2/\m<=N/\ae (λr=>r=g) w A/\∃Z,jT A g o B Z E/\gB (gN N u) Z m L) ?_ ?_
  rotate_left
  .intro ax K;rw[cS,aj];refine⟨λW=>?_,λW=>K _ _ _ ⟨eN,m,rfl,rfl,X,Ω,Y,x,P,z,f⟩⟩;obtain⟨m,rfl⟩:∃bW,m=bW+2:=⟨m-2,Ω⟩;rw[show V8 .u32 100=V8 .u32 ((100:Nat):Int)from rfl,show V8 .u32 2=V8 .u32 ((2:Nat):Int)from rfl];rw[nZ Ω,n0 Ω,u32_quo Ω Ω];refine nY (i:=m) (q:=eN % 100) z I Ω Y Ω Ω Ω Ω Ω λA j h=>?_;have e:=f.pair (q:=eN % 100) rfl;rw[ed,wrap_i64 Ω Ω];refine K _ _ _ ⟨eN / 100,m,by congr 1;omega,rfl,?_,Ω,Ω,x.trans j,_,h,e⟩;rw[Nat.pow_add]at X;exact Nat.div_lt_of_lt_mul (by rw[Nat.mul_comm];exact X)
  rintro _ _ A ⟨L,m,rfl,rfl,aa,aG,Y,j,Z,h,e⟩;have ac:=e.2.1.trans p;rw[bS,aj];refine⟨λau=>?_,λau=>?_⟩
  .obtain rfl:m=1:=Ω
   have aa:L<10:=by simpa using aa
   rw[aL,wrap_u32 Ω Ω,fp oQ.u cI.u,wrap_u8 Ω Ω,vX (y:=0) (i:=0) rfl Ω];refine vY h Ω λan V O=>?_;have:=e.one;rw[Nat.mod_eq_of_lt aa]at this;rw[this]at O;exact⟨rfl,j.trans V,O⟩
  .obtain rfl:m=0:=Ω
   rw[e.zero]at h;exact⟨rfl,j,h⟩
def qA:Λ:=[1,10,100,1000,10000,100000,1000000,10000000,100000000,1000000000,10000000000,100000000000,1000000000000,10000000000000,100000000000000,1000000000000000,10000000000000000,100000000000000000,1000000000000000000,10000000000000000000]
def e5(w:x4):Prop:=w.rangeAt 1 0 (ints .u64 qA)
def e5.ext(h:e5 w)(a:Ext w w'):e5 w':=nE a h
def Le:∀k:Nat,k<20->qA[k]?=σ (((10 ^ k:Nat)):Int):=Φ
def BG{s:Nat}(h:2 ^ s<=n):ep n=s+ep (n / 2 ^ s):=by
 have I:=Nat.two_pow_pos s;have h1:n / 2 ^ s≠0:=by have:=Nat.div_pos h I;omega
 have f:n≠0:=Ω
 unfold ep;rw[if_neg f,if_neg h1];have e:Nat.log2 n=Nat.log2 (n / 2 ^ s)+s:=by
  refine(Nat.log2_eq_iff f).2 ⟨?_,?_⟩
  .rw[Nat.pow_add];have:=X0 (2 ^ s) (Nat.log2_self_le h1);have:=Nat.div_mul_le_self n (2 ^ s);omega
  .have j:=Nat.lt_log2_self (n:=n / 2 ^ s);rw[show Nat.log2 (n / 2 ^ s)+s+1=(Nat.log2 (n / 2 ^ s)+1)+s by omega,Nat.pow_add];have:=X0 (2 ^ s) (show n / 2 ^ s+1<=2 ^ (Nat.log2 (n / 2 ^ s)+1) by omega);have p:=Nat.lt_div_mul_add I (a:=n);rw[U5]at this;omega
 omega
def qB:ByteArray:=⟨#[0,1,2,2,3,3,3,3,4,4,4,4,4,4,4,4,5,5,5,5,5,5,5,5,5,5,5,5,5,5,5,5,6,6,6,6,6,6,6,6,6,6,6,6,6,6,6,6,6,6,6,6,6,6,6,6,6,6,6,6,6,6,6,6,7,7,7,7,7,7,7,7,7,7,7,7,7,7,7,7,7,7,7,7,7,7,7,7,7,7,7,7,7,7,7,7,7,7,7,7,7,7,7,7,7,7,7,7,7,7,7,7,7,7,7,7,7,7,7,7,7,7,7,7,7,7,7,7,8,8,8,8,8,8,8,8,8,8,8,8,8,8,8,8,8,8,8,8,8,8,8,8,8,8,8,8,8,8,8,8,8,8,8,8,8,8,8,8,8,8,8,8,8,8,8,8,8,8,8,8,8,8,8,8,8,8,8,8,8,8,8,8,8,8,8,8,8,8,8,8,8,8,8,8,8,8,8,8,8,8,8,8,8,8,8,8,8,8,8,8,8,8,8,8,8,8,8,8,8,8,8,8,8,8,8,8,8,8,8,8,8,8,8,8,8,8,8,8,8,8,8,8,8,8,8,8]⟩
def Lf:qB.size=256:=by decide+kernel
def Lg:∀q:Fin 256,qB.data.toList[q.val]?=σ (UInt8.ofNat (ep q.val)):=by decide+kernel
def Lh{q:Nat}(a:q<256):∀h,(qB[q]'h).toNat=ep q:=λh=>by
 have h1:=Lg ⟨q,a⟩;have e:=(x5.1 h1).2;have:qB[q]=UInt8.ofNat (ep q):=e;have f:=BD a;rw[this,UInt8.toNat_ofNat'];omega
def Li(E:n<18446744073709551616):ai x8 IB [.int .u64 (n:Int)] w λv w'=>v=Δ (ep n:Int)/\Ext w w':=by
 refine az func270 ?_;have step:∀{s x m:Nat}{ax:x3->x3->x4->Prop}{y c:Int},s<64->x<18446744073709551616->m+ep x=ep n->m<=64->y=(2 ^ s:Nat)->c=(s:Int)->2 ^ s<=18446744073709551615->(∀a bW:Nat,a<2 ^ s\/(a=x / 2 ^ s/\bW=m+s)->a<=x->bW+ep a=ep n->bW<=m+s->ax (.int .u64 (a:Int)) (Δ (bW:Int)) w)->
   V x8 (aJ .geq fC false true (.int .u64 (x:Int)) (.int .u64 y)) w λt4=>
    Split t4 (V x8 (aJ .shr fC false true (.int .u64 (x:Int)) (.int .u64 c)) w λr=>V x8 (aJ .add ah false true (Δ (m:Int)) (Δ c)) w λz=>ax r z w) (ax (.int .u64 (x:Int)) (Δ (m:Int)) w):=by
  intro s x m ax y c I f hm G A B p e;subst A B;rw[cS,aj];refine⟨λh=>?_,λh=>e x m (.inl Ω) (o6 _) hm Ω⟩;rw[k8 I,aL,wrap_i64 Ω Ω];have:=BG (n:=x) (s:=s) Ω;have:=e (x / 2 ^ s) (m+s) (.inr ⟨rfl,rfl⟩) (Nat.div_le_self _ _) Ω Ω;exact this
 refine ii (λx m J=>w=J/\∃a bW:Nat,x= .int .u64 (a:Int)/\m=Δ (bW:Int)/\a<4294967296/\bW+ep a=ep n/\bW<=32) ?_ ?_
 rotate_left
 .intro ax e;rw[cS,aj];refine⟨λh=>?_,λh=>e _ _ _ ⟨rfl,n,0,rfl,rfl,Ω,Ω,Ω⟩⟩;rw[show V8 .u64 32=V8 .u64 ((32:Nat):Int)from rfl,k8 Ω];have:=BG (n:=n) (s:=32) Ω;exact e _ _ _ ⟨rfl,n / 2 ^ 32,32,rfl,rfl,Ω,Ω,Ω⟩
 rintro _ _ _ ⟨rfl,x,m,rfl,rfl,f,hm,q⟩;refine ii (λx m J=>w=J/\∃a bW:Nat,x= .int .u64 (a:Int)/\m=Δ (bW:Int)/\a<65536/\bW+ep a=ep n/\bW<=48) ?_ ?_
 rotate_left
 .intro ax e;refine step (s:=16) Ω Ω hm Ω Ω Ω Ω λa bW h1 p j C=>e _ _ _ ⟨rfl,a,bW,rfl,rfl,?_,j,Ω⟩;rcases h1 with h1|⟨h1,_⟩<;>omega
 rintro _ _ _ ⟨rfl,x,m,rfl,rfl,f,hm,q⟩;refine ii (λx m J=>w=J/\∃a bW:Nat,x= .int .u64 (a:Int)/\m=Δ (bW:Int)/\a<256/\bW+ep a=ep n/\bW<=56) ?_ ?_
 rotate_left
 .intro ax e;refine step (s:=8) Ω Ω hm Ω Ω Ω Ω λa bW h1 p j C=>e _ _ _ ⟨rfl,a,bW,rfl,rfl,?_,j,Ω⟩;rcases h1 with h1|⟨h1,_⟩<;>omega
 rintro _ _ _ ⟨rfl,x,m,rfl,rfl,f,hm,q⟩;have I:=Lf;have H:=BD f;rw[fp fC.u cI.u,wrap_u8 Ω Ω];refine(sR (s:=qB) c5.u (by rw[I];omega)).mpr ?_;rw[Lh f,fp cI.u ah.u,wrap_i64 Ω Ω,aL,wrap_i64 Ω Ω];exact⟨by congr 1;omega,Ext.refl _⟩
def BH{t:r9}{k:n9}(f:n<64):V x8 (aJ .shr t cx cy (Δ (a:Int)) (.int k (n:Int))) w K=K (Δ ((a / 2 ^ n:Nat):Int)):=V.of λw' _=>by
 have e:(a:Int).fdiv (2 ^ min n X9.bits)=((a / 2 ^ n:Nat):Int):=by
  have:min n X9.bits=n:=Nat.min_eq_left (by show n<=64;omega);rw[this,Int.fdiv_eq_ediv_of_nonneg _ (by exact Int.le_of_lt (Int.pow_pos Ω))];simp
 simp only[aJ,eqGuard,binOp,Op.shift,r8,e];rfl
def Lj:∀L:Fin 64,7<=L.val->2 ^ L.val<=10 ^ (L.val*78913 / 262144+1)/\10 ^ (L.val*78913 / 262144)<=10*2 ^ (L.val-1)/\1<=L.val*78913 / 262144/\L.val*78913 / 262144<19:=by decide+kernel
def Lk{d:Nat}(y:e5 w)(h1:100<=d)(E:d<9223372036854775808):ai x8 IN [.int .u64 (d:Int)] w λv w'=>Ext w w'/\∃n:Nat,v=Δ ((n+1:Nat):Int)/\n<19/\10 ^ n<=d/\d<10 ^ (n+1):=by
 have j:d≠0:=Ω
 have p:ep d=Nat.log2 d+1:=by unfold ep;rw[if_neg j]
 have G:2 ^ (ep d-1)<=d:=by rw[p];exact Nat.log2_self_le j
 have H:d<2 ^ ep d:=by rw[p];exact Nat.lt_log2_self
 have z:7<=ep d:=by
  by_cases h:7<=ep d
  .exact h
  .have:2 ^ ep d<=2 ^ 6:=T9 Ω Ω;omega
 have A:ep d<64:=by
  by_cases h:ep d<64
  .exact h
  .have:2 ^ 63<=2 ^ (ep d-1):=T9 Ω Ω;omega
 obtain⟨B,q,t3,t4⟩:=Lj ⟨ep d,A⟩ z;simp only at B q t3 t4;refine az func293 ?_;refine(Li Ω).mono ?_;rintro _ J _ ⟨rfl,a⟩;generalize ep d=L at*;refine ai.mono (K:=λv U=>v=Δ ((L*78913 / 262144:Nat):Int)/\Ext J U) ?_ ?_
 .refine az func314 ?_;rw[gp,wrap_i64 Ω Ω,show V8 .u64 18=V8 .u64 ((18:Nat):Int)from rfl,show(L:Int)*78913=((L*78913:Nat):Int) by omega,BH Ω];exact⟨rfl,Ext.refl _⟩
 rintro _ U _ ⟨rfl,e⟩;generalize L*78913 / 262144=t at*;have C:=Le t Ω;rw[ve (t:=r5) r5.u fC.i Ω,aD Ψ (by rw[U4];exact((y.ext a).ext e) _ _ (k1 C)),cS];refine ai.mono (K:=λv r=>v=Δ ((if 10 ^ t<=d then 1 else 0:Nat):Int)/\Ext U r) ?_ ?_
 .refine az func315 ?_;rw[aj];refine⟨λh=>⟨by rw[if_pos Ω];rfl,Ext.refl _⟩,λh=>⟨by rw[if_neg Ω];rfl,Ext.refl _⟩⟩
 rintro _ r _ ⟨rfl,x⟩;rw[aL];by_cases f:10 ^ t<=d
 .rw[if_pos f,wrap_i64 Ω Ω];exact⟨(a.trans e).trans x,t,by congr 1,t4,f,Ω⟩
 .rw[if_neg f,wrap_i64 Ω Ω];obtain⟨s,rfl⟩:∃s,t=s+1:=⟨t-1,Ω⟩;rw[Nat.pow_succ]at q;exact⟨(a.trans e).trans x,s,by congr 1,Ω,Ω,Ω⟩
def BI{t:r9}{k a:n9}{x:Int}{i:Nat}{s:ByteArray}(e:x=(i:Int))(f:y=(j:Int))(p:x8.underlying t=σ .string)(q:i<=j)(r:j<=s.size):
  V x8 (U1 t (.string s) (σ (.int k x)) (σ (.int a y)) ν) w K=K (.string (s.extract i j)):=V.of λw' _=>by
 subst e f;have z:=r7 (P:=x8) w' (sl:=false) (n:=s.size) (c:=s.size) (low:=σ (.int k (i:Int))) (high:=σ (.int a (j:Int))) (mx:=ν) (l:=i) (h:=j) (m:=s.size) ⟨k,rfl⟩ ⟨a,rfl⟩ fG q r (o6 _);simp[U1,Instr.slice,run_underlying p,z]
def Ll:∀q:Fin 100,jS.extract (2*q.val) (2*q.val+2)=strOfNums [48+((q.val / 10:Nat):Int),48+((q.val % 10:Nat):Int)]:=by decide+kernel
def BJ:ByteArray:=⟨#[48,49,50,51,52,53,54,55,56,57,97,98,99,100,101,102,103,104,105,106,107,108,109,110,111,112,113,114,115,116,117,118,119,120,121,122]⟩
def Lm:∀q:Fin 10,BJ.extract q.val (q.val+1)=strOfNums [48+(q.val:Int)]:=by decide+kernel
def BK(h:n<10):fs n=[48+(n:Int)]:=by rw[nQ,if_pos h,Nat.mod_eq_of_lt h];rfl
def Ln(h1:10<=n)(a:n<100):fs n=[48+((n / 10:Nat):Int),48+((n % 10:Nat):Int)]:=by
 rw[nQ,if_neg Ω,BK Ω];rfl
def Lo(a:n<100):ai x8 IM [Δ (n:Int)] w λv w'=>v=bT (fs n)/\Ext w w':=by
 refine az func292 ?_;rw[aR,aj];refine⟨λh=>?_,λh=>?_⟩
 .rw[aL,wrap_i64 Ω Ω];refine(BI (s:=BJ) (i:=n) (j:=n+1) rfl Ω c5.u Ω (by show n+1<=36;omega)).mpr ?_;rw[Lm ⟨n,Ω⟩,BK Ω];exact⟨rfl,Ext.refl _⟩
 .rw[gp,wrap_i64 Ω Ω,gp,wrap_i64 Ω Ω,aL,wrap_i64 Ω Ω];refine(BI (s:=jS) (i:=2*n) (j:=2*n+2) Ω Ω c5.u Ω (by rw[BF];omega)).mpr ?_;rw[Ll ⟨n,a⟩,Ln Ω a];exact⟨rfl,Ext.refl _⟩
def Lp{g:Nat}{f h:Λ}(a:jT w g 1 f C h)(p:C.length<=23):aG .u8 w (.slice (σ ⟨g,1,ν⟩) C.length 23) C:=by
 obtain⟨a,q⟩:=a;refine⟨Ξ,g,1,_,23,rfl,p,by simp[maxLen],λ_=>rfl,λj v e=>?_⟩;have r:j<C.length:=by have:=(x5.1 e).1;simpa using this
 refine a.cell ?_;rw[ints,Z4,Z4,Y3 Θ,Y5 Θ,u7,q,Q1];exact e
def BL{g m:Nat}(a:y=((m+2:Nat):Int))(hm:m<=22):
  V x8 (U1 mD (Γ g) (σ (Δ 1)) (σ (Δ y)) ν) w K=K (.slice (σ ⟨g,1,ν⟩) (m+1) 23):=by
 subst a;have:=sa (w:=w) (b:=g) (o:=0) (low:=σ (Δ 1)) (high:=σ (Δ ((m+2:Nat):Int))) (mx:=ν) (l:=1) (h:=m+2) (m:=24) (K:=K) mD.u cI.i ⟨_,rfl⟩ ⟨_,rfl⟩ fG Ω Ω Ω;rw[this,if_neg Ω];rfl
def Lq(q:e5 w)(s:n<9223372036854775808):ai x8 IH [Δ (n:Int),Δ 10] w λv w'=>v=bT (fs n)/\Ext w w':=by
 refine az func278 ?_;rw[bf];refine(aj).mpr ⟨λ_=>?_,λh=>absurd rfl h⟩;refine aW (λv J=>w=J/\v= .bool (decide (n<100))) ?_ ?_
 rotate_left
 .intro ax a;rw[lU,aj];refine⟨λ_=>?_,λh=>Ω⟩;rw[aR];exact a _ _ ⟨rfl,by congr 1;rw[V7,decide_eq_true_eq,decide_eq_true_eq];omega⟩
 rintro _ _ ⟨rfl,rfl⟩;rw[aj];refine⟨λh=>?_,λh=>?_⟩
 .exact (Lo h).mono λ_ _ _ h=>h
 refine bw mD.i λg J E f x=>?_;rw[fp am.u fC.u,wrap_u64 Ω Ω];refine aW (λv U=>J=U/\v= .int .u64 (n:Int)) ?_ ?_
 rotate_left
 .intro ax a;rw[aR,aj];exact⟨λh=>Ω,λ_=>a _ _ ⟨rfl,rfl⟩⟩
 rintro _ _ ⟨rfl,rfl⟩;refine(Lk (q.ext f) Ω s).mono ?_;rintro _ U _ ⟨j,m,rfl,hm,y,p⟩;rw[aL,wrap_i64 Ω Ω];rw[BL (m:=m) Ω Ω];have z:jT U g 1 [0] (o5 (m+1) 0) (o5 (22-m) 0):=by
  refine⟨?_,rfl⟩;have e:[0]++o5 (m+1) (0:Int)++o5 (22-m) 0=o5 24 0:=by
   rw[show[(0:Int)]=o5 1 0 from rfl,List.replicate_append_replicate,List.replicate_append_replicate];congr 1;omega
  rw[e];exact x.ext j
 refine(Ld (N:=m+1) z Ξ Ω p).mono ?_;rintro _ G _ ⟨rfl,A,B⟩;refine b2 Ω ?_;rw[aL,wrap_i64 Ω Ω];rw[BL (m:=m) Ω Ω];have C:=qz (m+1) n;have I:=Lp B Ω;rw[C]at I;rw[vr cM.u cI.u c5.u I,BE m n y p];refine⟨rfl,(f.trans j).then A λr H he=>?_⟩;have he:r=g:=he;omega
def Lr(a:e5 w)(e:n<9223372036854775808):ai x8 uZ [Δ (n:Int)] w λv w'=>v=bT (fs n)/\Ext w w':=by
 refine az func212 ?_;refine ai.mono (K:=λv w'=>v=bT (fs n)/\Ext w w') ?_ (λ_ _ _ h=>h);refine az func252 ?_;exact(Lq a e).mono λ_ _ _ h=>h
def e5.aa(h:e5 w)(a:ae S w w')(e:¬S 1):e5 w':=hA a e h
def dk(w:x4)(g gs:Nat)(A:af)(B:af)(clean:Bool)(s:Option aE):Prop:=match s with
 |some s=>di w g gs A B s clean
 |none=>eE w g gs A B
def fX.of{g:Nat}{A:af}{B:af}{s:Option aE}(h:fX w g gs A B clean s w'):ae (bG g gs A) w w'/\dk w' g gs A B clean s:=h
def fX.mk{g:Nat}{A:af}{B:af}{s:Option aE}(h:ae (bG g gs A) w w')(a:dk w' g gs A B clean s):fX w g gs A B clean s w':=⟨h,a⟩
def dk.aa{g:Nat}{A:af}{B:af}{s:Option aE}(h:dk w g gs A B clean s)(a:ae S w w')(e:∀r,bG g gs A r->¬S r)(f:∀r,cG g gs A B r->¬S r):dk w' g gs A B clean s:=by
 cases s with
 |none=>exact eE.aa (g:=g) (gs:=gs) (A:=A) (B:=B) h a e f
 |some s=>exact di.aa (g:=g) (gs:=gs) (A:=A) (B:=B) (s:=s) (clean:=clean) h a e f
def dk.ext{g:Nat}{A:af}{B:af}{s:Option aE}(h:dk w g gs A B clean s)(a:Ext w w'):dk w' g gs A B clean s:=h.aa (a.aa λ_=>False) (λ_ _ h=>h) λ_ _ h=>h
def dk.side{g:Nat}{A:af}{B:af}{s:Option aE}(h:dk w g gs A B clean s):lb w g gs A B:=by
 cases s with
 |none=>exact h.1
 |some s=>exact h.1
def a7(lo hi:Int)(s:Option aE):Option (Int×aE):=s.bind (bd lo hi)
def mc{g:Nat}{A:af}{B:af}{s:Option aE}(h:dk w g gs A B clean s):ai x8 ny [Γ g,Δ lo,Δ hi] w λv w'=>fX w g gs A B clean ((a7 lo hi s).map (·.2)) w'/\∃n at_:Int,v= .tuple #[Δ n,Δ at_]/\(∀q,a7 lo hi s=σ q->n=q.1)/\(a7 lo hi s=ν->n=0):=by
 cases s with
 |none=>
  refine(Ko h).mono ?_;rintro _ J _ ⟨a,rfl⟩;exact⟨⟨a.aa _,eE.ext (g:=g) (gs:=gs) (A:=A) (B:=B) h a⟩,0,0,rfl,λq h=>(by cases h),λ_=>rfl⟩
 |some s=>exact vM (s:=s) h
def po{g:Nat}{A:af}{B:af}{s:Option aE}(h:dk w g gs A B clean s):ai x8 kW [Γ g] w λv w'=>v= .bool s.isSome/\Ext w w':=by
 cases s with
 |none=>exact nV h
 |some s=>exact pf h
def Ls{g:Nat}{A:af}{B:af}{s:Option aE}(h:dk w g gs A B clean s)(he:e≠0):ai x8 nz [Γ g,Δ e,Δ at_] w λ_ w'=>fX w g gs A B clean ν w':=by
 cases s with
 |none=>
  refine(Km h).mono ?_;rintro _ J _ a;exact⟨a.aa _,eE.ext (g:=g) (gs:=gs) (A:=A) (B:=B) h a⟩
 |some s=>
  refine(sC (s:=s) h he).mono ?_;rintro _ J _ ⟨f,j⟩;exact⟨f.mono λr _ h=>.inl h,j⟩
def qC{g:Nat}{A:af}{B:af}{s:Option aE}{b:Bool}(h:dk w g gs A B clean s):ai x8 p0 [Γ g,.bool b,Δ at_] w λ_ w'=>fX w g gs A B clean (s.map (a8 b)) w':=by
 cases s with
 |none=>
  refine(A7 h).mono ?_;rintro _ J _ a;exact⟨a.aa _,eE.ext (g:=g) (gs:=gs) (A:=A) (B:=B) h a⟩
 |some s=>
  refine(sD (s:=s) h).mono ?_;rintro _ J _ ⟨e,f⟩;exact⟨e.mono λr _ h=>.inl h,f⟩
def mQ{n:Int}{s:Option aE}{s':aE}(h:a7 lo hi s=σ (n,s')):lo<=n/\n<=hi:=by
 cases s with
 |none=>cases h
 |some s=>exact(h4 h).1
def e6(ks acc:Λ)(s:Option aE):Option (Λ×aE):=s.bind (iP ks acc)
def BM{acc:Λ}{s:Option aE}:e6 (k::ks) acc s=match a7 0 (k-1) s with
  |none=>ν
  |some (v,s)=>iP ks (acc++[v]) s:=by
 cases s with
 |none=>rfl
 |some s=>
  show iP (k::ks) acc s=_;rw[iP];show _=match bd 0 (k-1) s with|none=>ν|some (v,s)=>iP ks (acc++[v]) s
  cases bd 0 (k-1) s<;>rfl
theorem BN:∀(t:Λ),(∀x∈t,0<=x/\x<=av)->(ej t).length<=20*t.length
 |[],_=>by simp[ej]
 |x::t,h=>by
  have j:=BN t λy a=>h y (.tail _ a);have f:=h x (.head _);have p:=vv 19 x.toNat (by unfold av at f;omega) Ω;have e:ej (x::t)=fs x.toNat++[32]++ej t:=by simp[ej]
  rw[e];simp only[o4,Z2,List.length_nil];omega
def Lt{g ak:Nat}{A B:af}{s:Option aE}{ag:x3->x4->Prop}(h:dk w g gs A B clean s)(aj:aG .i64 w sv sizes)(aP:∀r,leads sv r->¬bG g gs A r/\r≠ak)(aQ:∀z∈sizes,1<=z/\z<=av)(bO:sizes.length<=100001)(aR:e5 w)(h1:cG g gs A B 1)(al:ac w ak eh [.slice ν 0 0,Δ 0])(an:¬bG g gs A ak)(ao:¬B ak)(ap:∀t w' aO gt,t.length=sizes.length->(∀x∈t,0<=x/\x<=av)->ae (λr=>bG g gs A r\/r=ak) w w'->ac w' ak eh [aO,Δ 0]->au .i64 am w' gt aO t->w.heap.size<=gt->
   dk w' g gs A B clean ((e6 sizes [] s).map (·.2))->(∀q,e6 sizes [] s=σ q->t=q.1)->ag (bT (ej t)) w'):
  b4 (.string ⟨#[]⟩) (Δ 0) w λkey S C aT=>
   V x8 (aJ .lss ah false false S (Δ (sizes.length:Int))) C λaU=>
   Split aU (V x8 (j9 aq sv S) C λaV=>
   V x8 (u5 am aV) C λaW=>
   V x8 (aJ .sub am false true aW (Δ 1)) C λaX=>
   ai x8 ny [Γ g,(Δ 0),aX] C λaw G=>
   V x8 (Y1 aw 0) G λax=>
   V x8 (Y1 aw 1) G λbP=>
   V x8 (u6 eh (Γ ak) 0) G λaY=>
   V x8 (u5 aq aY) G λaZ=>
   aB x8 (Y8 aq 1 #[(0,ax)]) G λa1 a2=>
   aB x8 (Z3 #[aq,aq] aq #[aZ,a1]) a2 λa6 ay=>
   V x8 (u6 eh (Γ ak) 0) ay λa8=>
   aB x8 (o9 aq a8 a6) ay λ(_:Unit)ba=>
   ai x8 uZ [ax] ba λbc K=>
   V x8 (aJ .add c5 false true bc (.string ⟨#[32]⟩)) K λbd=>
   V x8 (aJ .add c5 false false key bd) K λbe=>
   V x8 (aJ .add ah false true S (Δ 1)) K λbf=>
   aT be bf K) (ag key C):=by
 have bQ:=al.lt;have bg:=h.side;obtain⟨bR,bS,bU,bh,bi⟩:=bg;refine b4.range sizes.length (λj key J=>∃t aO gt s1,key=bT (ej t)/\t.length=j/\(∀x∈t,0<=x/\x<=av)/\ae (λr=>bG g gs A r\/r=ak) w J/\ac J ak eh [aO,Δ 0]/\au .i64 am J gt aO t/\w.heap.size<=gt/\
  dk J g gs A B clean s1/\e6 sizes [] s=e6 (sizes.drop j) t s1) aj.le ⟨[],_,w.heap.size,s,rfl,rfl,λx y=>(by cases y),ae.refl _ _,al,au.nil _ _ _ _,o6 _,h,rfl⟩ ?_ ?_
 rotate_left
 .rintro _ J bj ⟨t,aO,gt,s1,rfl,L,H,E,M,N,W,O,he⟩;refine b2 Ω ?_;rw[List.drop_length]at he;cases s1 with
  |none=>
   have he:e6 sizes [] s=ν:=he;exact ap t J aO gt L H E M N W (by rw[he];exact O) (λq e=>by rw[he]at e;cases e)
  |some s1=>
   have he:e6 sizes [] s=σ (t,s1):=he;exact ap t J aO gt L H E M N W (by rw[he];exact O) (λq e=>by rw[he]at e;cases e;rfl)
 rintro j _ J bj az ⟨t,aO,gt,s1,rfl,L,H,E,M,N,W,O,he⟩ bk;obtain⟨z,X⟩:=aF (l:=sizes) az;have bl:=aQ z (x6 X);have bV:z<=4611686018427387904:=bl.2;have bm:aG .i64 J sv sizes:=h3 aj E λr f a n c bn bo=>by
  have:=aP r ⟨a,n,c,bn,bo⟩;exact f.elim this.1 this.2
 have ad:∀r,bG g gs A r->r<w.heap.size:=bh;refine bA Ω ?_;rw[bb aq.u am.i Ψ bm X,ed,wrap_i64 Ω Ω];refine(mc O).mono ?_;rintro _ U _ ⟨bq,n,at_,rfl,aA,br⟩;obtain⟨P,bt⟩:=bq.of;have aC:0<=n/\n<=av:=by
  cases e:a7 0 (z-1) s1 with
  |none=>rw[br e];exact⟨Ω,by unfold av;omega⟩
  |some q=>
   rw[aA q e];have:=mQ (s':=q.2) (n:=q.1) e;exact⟨this.1,by unfold av;omega⟩
 rw[bx,bz];have aD:=M.aa P an;have bu:=N.aa P λ_ bw=>by have:=ad _ bw;omega
 rw[aH eh.p 0 aD rfl];refine et aq.u am.i rfl λa ga bB bW I bC=>?_;refine jo aq.u am.i rfl (bu.ext I) bC.ls Θ Θ λaI aK bD bX Y Q=>?_;have bY:=E.size;have bZ:=P.size;have z3:=I.size;have z4:=Q.size;rw[aS eh.p rfl];have bE:=(aD.ext I).aa Q (λhe=>by have he:ak=gt:=he;omega);refine bp (g:=ak) (o:=0) aq.i Y.ls.cells.1 Y.ls.cells.2 bE Ξ λaM Z b0 ab=>?_;have ab:ac aM ak eh [aI,Δ 0]:=ab;have bF:ae (λr=>bG g gs A r\/r=ak) w bB:=(E.trans (P.mono λr _ h=>.inl h)).trans (I.aa _);have bH:ae (λr=>bG g gs A r\/r=ak) w bD:=hD bF Q λr f he=>by have he:r=gt:=he;omega
 have aN:ae (λr=>bG g gs A r\/r=ak) w aM:=bH.trans (Z.mono λr _ h=>.inr h);have bI:¬(λr=>bG g gs A r\/r=ak) 1:=λh=>h.elim h1.1 λh=>ao (h▸h1.2);obtain⟨m,rfl⟩:∃m:Nat,n=(m:Int):=⟨n.toNat,Ω⟩;unfold av at aC;refine(Lr (aR.aa aN bI) Ω).mono ?_;rintro _ b1 _ ⟨rfl,R⟩;have b3:=vv 19 m Ω Ω;have b5:=BN t H;rw[show(ByteArray.mk #[32])=strOfNums [32]from rfl,vq Θ,vq Θ,aL];refine bk _ _ ⟨t++[(m:Int)],aI,aK,(a7 0 (z-1) s1).map (·.2),?_,by simp[L],λx y=>?_,aN.trans (R.aa _),ab.ext R,(Y.aa Z (λ_ he=>by have he:aK=ak:=he;omega)).ext R,Ω,?_,?_⟩
 .rw[JH,r8]
 .rcases j0.1 y with y|y
  .exact H x y
  .rw[j6.1 y];exact aC
 .refine dk.ext ?_ R;have bJ:=bt.ext I;have bK:∀r,bG g gs A r->¬(λr=>r=gt) r:=λr f he=>by have:=ad r f;have he:r=gt:=he;omega
  have bL:∀r,cG g gs A B r->¬(λr=>r=gt) r:=λr f he=>by have:=bi r f.2;have he:r=gt:=he;omega
  have bM:∀r,bG g gs A r->¬(λr=>r=ak) r:=λr f he=>by have he:r=ak:=he;exact an (he▸f)
  have bN:∀r,cG g gs A B r->¬(λr=>r=ak) r:=λr f he=>by have he:r=ak:=he;exact ao (he▸f.2)
  exact(bJ.aa Q bK bL).aa Z bM bN
 .rw[he,W0 az,show sizes[j]=z from(x5.1 X).2,BM];cases e:a7 0 (z-1) s1 with
  |none=>rfl
  |some q=>
   rw[aA q e];rfl
def dX(s:aE):Prop:=s.big=false->s.told<=16384
def jU(n:Int)(s:aE):aE:=a8 (decide (16384<min (s.told+n) av)) {s with told:=min (s.told+n) av}
def Lu(n:Int)(s:aE):dX (jU n s):=λh=>by
 have h:(s.big||decide (16384<min (s.told+n) av))=false:=h;have:=of_decide_eq_false (U7.1 h).2;show min (s.told+n) av<=16384;omega
def Lv{g:Nat}{A B:af}{s:Option aE}{n:Int}{K:x4->Prop}(h:dk w g gs A B clean s)(O:∀t,s=σ t->0<=n/\n<=av/\dX t)(H:∀w',ae (bG g gs A) w w'->dk w' g gs A B clean (s.map (jU n))->K w'):
  V x8 (bP (Γ g)) w λP=>
  V x8 (u6 ci P 2) w λQ=>
  V x8 (u5 am Q) w λR=>
  V x8 (aJ .add am false false R (Δ n)) w λS=>
  V x8 (Z5.min_ #[am,am] am #[S,(Δ 4611686018427387904)]) w λW=>
  V x8 (bP (Γ g)) w λX=>
  V x8 (u6 ci X 2) w λY=>
  aB x8 (o9 am Y W) w λ(_:Unit)q=>
  V x8 (bP (Γ g)) q λt77=>
  V x8 (u6 ci t77 2) q λZ=>
  V x8 (u5 am Z) q λab=>
  V x8 (aJ .gtr am false true ab (Δ 16384)) q λad=>
  ai x8 p0 [Γ g,ad,Δ at_] q λ_ ag=>K ag:=by
 cases s with
 |none=>
  obtain⟨I,e,big,y,z,told,sv,l,x,C,E⟩:=id h;rw[aP ci.p 2 x rfl,aL,lW,bY,aS ci.p rfl];refine bp (g:=g) (o:=5) am.i rfl rfl x (by simp[fJ]) λJ a ah f=>?_;rw[aP ci.p 2 f rfl,bS];have L:eE J g gs A B:=⟨I.aa a,e,big,y,z,_,sv,l,f,C,al.aa E a λr _ h G=>sA h I.2.1 G⟩;refine(A7 L).mono ?_;rintro _ U _ M;exact H _ ((a.mono λr _ h=>.inl h).trans (M.aa _)) (L.ext M)
 |some s=>
  obtain⟨au,aj,hi⟩:=O s rfl;obtain⟨I,ak,an,big,y,z,told,sv,x,C,E⟩:=id h;rw[aP ci.p 2 x rfl,aL,lW,bY,aS ci.p rfl];refine bp (g:=g) (o:=5) am.i rfl rfl x (by simp[fJ]) λJ a ah f=>?_;have f:ac J g ci (fJ gs 0 big y z (min (X9.wrap (told+n)) 4611686018427387904) sv):=f;rw[aP ci.p 2 f rfl,bS];have key:s.big=false->min (X9.wrap (told+n)) 4611686018427387904=min (s.told+n) av:=λj=>by
   rw[C.2 j];have:=hi j;unfold av at aj ⊢;rw[wrap_i64 Ω Ω]
  have ao:di J g gs A B {s with told:=min (s.told+n) av} clean:=⟨I.aa a,ak.aa a (λhe=>I.1 he.symm) (λr ap he=>ap.1 (.inl he)),⟨by show 0<=min _ _;unfold av;omega,by show min _ _<=_;omega,an.2.2⟩,big,y,z,_,sv,f,⟨C.1,key⟩,al.aa E a λr _ h G=>sA h I.2.1 G⟩;refine(sD ao).mono ?_;rintro _ U _ ⟨aq,N⟩;refine H _ ((a.trans aq).mono λr _ h=>.inl h) ?_;have e:a8 (decide (16384<min (X9.wrap (told+n)) 4611686018427387904)) {s with told:=min (s.told+n) av}=jU n s:=by
   cases j:s.big with
   |false=>rw[key j,<-j];rfl
   |true=>simp[jU,a8,j]
  rw[e]at N;exact N
def iW(sizes:Λ)(s:Option aE):Option (List (Λ×Int)×aE):=s.bind (dW sizes)
def lg(w:x4)(m:Nat)(acc:List (Λ×Int)):Prop:=c7 w m (acc.map λp=>(bT (ej p.1),Δ 1))
def kx(w:x4)(m:Nat):Prop:=∃d,c7 w m d/\∀p∈d,∃(k:ByteArray)(c:Int),p=(.string k,Δ c)
def lg.any{m:Nat}{acc:List (Λ×Int)}(h:lg w m acc):kx w m:=⟨_,h,λp a=>by
 obtain⟨q,_,rfl⟩:=l9.1 a;exact⟨_,_,rfl⟩⟩
def Lw{m:Nat}{k:ByteArray}(h:kx w m)(f:∀c:Int,K (Δ c)):V x8 (Instr.lookup gX (.map (σ m)) (.string k) false) w K:=by
 obtain⟨d,hm,q⟩:=h;have hk:=Keys.str c5.u;have r:∀p∈d,∃s,p.1=x3.string s:=λp a=>by obtain⟨s,c,rfl⟩:=q p a;exact⟨s,rfl⟩
 by_cases he:∃p∈d,p.1=x3.string k
 .obtain⟨p,a,e⟩:=he;obtain⟨j,x⟩:=X5.1 a;obtain⟨s,c,rfl⟩:=q p a;have e:x3.string s=x3.string k:=e;rw[e]at x;rw[qs gX.u hk hm r ⟨k,rfl⟩ x];exact f c
 .have y:∀p∈d,p.1≠x3.string k:=λp a h=>he ⟨p,a,h⟩;rw[sK gX.u hk ⟨_,_,ah.i⟩ hm r ⟨k,rfl⟩ y];exact f 0
def Lx{m:Nat}{k:ByteArray}{K:Unit->x4->Prop}(h:kx w m)(x:∀w',ae (λr=>r=m) w w'->kx w' m->K () w'):aB x8 (Instr.mapUpdate gX (.map (σ m)) (.string k) (Δ c)) w K:=by
 obtain⟨d,hm,e⟩:=h;have y:∀p∈d,∃s,p.1=x3.string s:=λp a=>by obtain⟨s,c,rfl⟩:=e p a;exact⟨s,rfl⟩
 refine qt gX.u (Keys.str c5.u) hm y ⟨k,rfl⟩ (λj v0 w' z f q=>x w' q ⟨_,f,λp a=>?_⟩) (λw' A f q=>x w' q ⟨_,f,λp a=>?_⟩)
 .rcases W7 a with a|rfl
  .exact e p a
  .exact⟨_,_,rfl⟩
 .rcases j0.1 a with a|a
  .exact e p a
  .rw[j6.1 a];exact⟨_,_,rfl⟩
def BO{a b:Λ}(e:∀x∈a,0<=x)(f:∀x∈b,0<=x)(h:bT (ej a)=bT (ej b)):a=b:=by
 have h:strOfNums (ej a)=strOfNums (ej b):=x3.string.inj h;exact Ap e f (str_inj (Aq a) (Aq b) h)
def vZ{acc:List (Λ×Int)}:∀p∈acc.map λp=>(bT (ej p.1),V8 .i64 1),∃s,p.1=x3.string s:=λp a=>by
 obtain⟨q,_,rfl⟩:=l9.1 a;exact⟨_,rfl⟩
def BP{m:Nat}{acc:List (Λ×Int)}(h:lg w m acc)(f:∀p∈acc,∀x∈p.1,0<=x)(r:∀x∈t,0<=x):
  V x8 (Instr.lookup gX (.map (σ m)) (bT (ej t)) false) w K=K (Δ (if t∈acc.map (·.1)then 1 else 0)):=by
 have hk:=Keys.str c5.u;by_cases he:t∈acc.map (·.1)
 .rw[if_pos he];obtain⟨p,a,rfl⟩:=l9.1 he;obtain⟨j,s⟩:=X5.1 a;rw[qs gX.u hk h vZ ⟨_,rfl⟩ (j:=j) (v:=Δ 1) (by rw[v8,s];rfl)];simp
 .rw[if_neg he];rw[sK gX.u hk ⟨_,_,ah.i⟩ h vZ ⟨_,rfl⟩ (λp a y=>?_)]
  .simp
  .obtain⟨q,e,rfl⟩:=l9.1 a;have:=BO (f q e) r y;exact he (l9.2 ⟨q,e,this⟩)
def Ly{m:Nat}{acc:List (Λ×Int)}{K:Unit->x4->Prop}(h:lg w m acc)(z:∀p∈acc,∀x∈p.1,0<=x)(A:∀x∈t,0<=x)(B:t∉acc.map (·.1))(C:∀w',ae (λr=>r=m) w w'->lg w' m (acc++[(t,c)])->K () w'):aB x8 (Instr.mapUpdate gX (.map (σ m)) (bT (ej t)) (Δ 1)) w K:=by
 refine qt gX.u (Keys.str c5.u) h vZ ⟨_,rfl⟩ (λj v0 w' e f s=>?_) (λw' _ f s=>C w' s ?_)
 .rw[v8]at e;obtain⟨q,y,a⟩:=X2.1 e;have a:bT (ej q.1)=bT (ej t):=congrArg Prod.fst a;have:=BO (z q (x6 y)) A a;exact absurd (l9.2 ⟨q,x6 y,this⟩) B
 .unfold lg;rw[Z4];exact f
def Lz{m:Nat}{acc:List (Λ×Int)}{ok:Prop}{K:Unit->x4->Prop}(e:kx w m)(z:ok->lg w m acc/\(∀p∈acc,∀x∈p.1,0<=x)/\(∀x∈t,0<=x)/\t∉acc.map (·.1))(f:∀w',ae (λr=>r=m) w w'->kx w' m->(ok->lg w' m (acc++[(t,c)]))->K () w'):
  V x8 (Instr.lookup gX (.map (σ m)) (bT (ej t)) false) w λA=>
  V x8 (aJ .add ah false true A (Δ 1)) w λB=>
  aB x8 (Instr.mapUpdate gX (.map (σ m)) (bT (ej t)) B) w K:=by
 by_cases j:ok
 .obtain⟨h1,q,s,y⟩:=z j;rw[BP h1 q s,if_neg y,aL,wrap_i64 Ω Ω];exact Ly (c:=c) h1 q s y λw' a I=>f w' a I.any λ_=>I
 .refine Lw e λhb=>?_;rw[aL];exact Lx e λw' a I=>f w' a I λh=>absurd h j
def fv{α:Type}(f:List α->aE->Option (α×aE))(n:Nat)(acc:List α)(o:Option aE):Option (List α×aE):=o.bind (cO f n acc)
def kx.aa{m:Nat}(h:kx w m)(a:ae S w w')(e:¬S m):kx w' m:=by
 obtain⟨d,h1,f⟩:=h;exact⟨d,h1.aa a e,f⟩
def dk.words{g:Nat}{A:af}{B:af}{s:aE}(h:dk w g gs A B clean (σ s)):s.toks.length<=100000:=by
 have h:di w g gs A B s clean:=h;exact h.2.1.words.1
def BQ{acc:List (Λ×Int)}{st:aE}(j:∀q,e6 sizes [] (σ st)=σ q->t=q.1)(a:∀q,a7 0 av ((e6 sizes [] (σ st)).map (·.2))=σ q->c=q.1):
  (a7 0 av ((e6 sizes [] (σ st)).map (·.2))=ν->dV sizes acc st=ν)/\∀q,a7 0 av ((e6 sizes [] (σ st)).map (·.2))=σ q->dV sizes acc st=if t∈acc.map (·.1)then ν else σ ((t,c),q.2):=by
 have e:e6 sizes [] (σ st)=iP sizes [] st:=rfl;rw[e]at j a ⊢;unfold dV;cases h1:iP sizes [] st with
 |none=>exact⟨λ_=>rfl,λq f=>(by cases f)⟩
 |some q=>
  obtain⟨bn,s1⟩:=q;rw[h1]at j a;have:=j _ rfl;subst this;have p:a7 0 av ((σ (t,s1)).map (·.2))=bd 0 av s1:=rfl;rw[p]at a ⊢;simp only;cases r:bd 0 av s1 with
  |none=>exact⟨λ_=>rfl,λq f=>(by cases f)⟩
  |some q=>
   obtain⟨s,w⟩:=q;rw[r]at a;have:=a _ rfl;subst this;exact⟨λh=>(by cases h),λq f=>(by cases f;rfl)⟩
def LA{g:Nat}{A B:af}{s:Option aE}{Q:x3->x4->Prop}(h:dk w g gs A B clean s)(bW:aG .i64 w sv sizes)(aT:∀r,leads sv r->¬bG g gs A r/\r<w.heap.size)(bX:∀z∈sizes,1<=z/\z<=av)(bY:sizes.length<=100001)(bZ:e5 w)(h1:cG g gs A B 1)(b1:(N:Int)<=av)(bo:∀v w' l,fX w g gs A B clean ((fv (dV sizes) N [] s).map (·.2)) w'->bl (eo w.heap.size) bu w' [v] (show List (Λ×Int)from l)->(∀q,fv (dV sizes) N [] s=σ q->l=q.1)->Q v w'):
  aB x8 (Instr.makeMap gX ν) w λaV y=>
 b4 (.slice ν 0 0) (Δ 0) y λout i H k=>
  ct (α:=x3->x4->Prop) (λ(b2:x3)(S:x4)=>
   Split b2 (aB x8 (Instr.alloc eh true (.tuple #[])) S λx j=>
  V x8 (W9 #[aq] ah #[sv]) j λb3=>
  b4 (.string ⟨#[]⟩) (Δ 0) j λkey aX U b5=>
   V x8 (aJ .lss ah false false aX b3) U λb6=>
   Split b6 (V x8 (j9 aq sv aX) U λb7=>
   V x8 (u5 am b7) U λb8=>
   V x8 (aJ .sub am false true b8 (Δ 1)) U λb9=>
   ai x8 ny [Γ g,(Δ 0),b9] U λbq Z=>
   V x8 (Y1 bq 0) Z λbr=>
   V x8 (Y1 bq 1) Z λdt=>
   V x8 (u6 eh x 0) Z λca=>
   V x8 (u5 aq ca) Z λcb=>
   aB x8 (Y8 aq 1 #[(0,br)]) Z λcc I=>
   aB x8 (Z3 #[aq,aq] aq #[cb,cc]) I λcd bt=>
   V x8 (u6 eh x 0) bt λce=>
   aB x8 (o9 aq ce cd) bt λ(_:Unit)cg=>
   ai x8 uZ [br] cg λch aC=>
   V x8 (aJ .add c5 false true ch (.string ⟨#[32]⟩)) aC λci=>
   V x8 (aJ .add c5 false false key ci) aC λcj=>
   V x8 (aJ .add ah false true aX (Δ 1)) aC λck=>
   b5 cj ck aC)
    (ai x8 ny [Γ g,(Δ 0),(Δ 4611686018427387904)] U λbA aD=>
  V x8 (Y1 bA 0) aD λcl=>
  V x8 (Y1 bA 1) aD λcm=>
  V x8 (u6 eh x 1) aD λcn=>
  aB x8 (o9 am cn cl) aD λ(_:Unit)cp=>
  ct (α:=x4->Prop) (λ(W:x4)=>
   V x8 (Instr.lookup gX aV key false) W λcq=>
   V x8 (aJ .add ah false true cq (Δ 1)) W λcr=>
   aB x8 (Instr.mapUpdate gX aV key cr) W λ(_:Unit)ab=>
   V x8 (u5 eh x) ab λcu=>
   aB x8 (Y8 iK 1 #[(0,cu)]) ab λcw aw=>
   aB x8 (Z3 #[iK,iK] iK #[out,cw]) aw λcz aF=>
   V x8 (aJ .add am false true i (Δ 1)) aF λcA=>
  k cz cA aF) λbB=>
  ct (α:=x3->x4->Prop) (λ(cB:x3)(M:x4)=>
   Split cB (ai x8 nz [Γ g,(Δ 4),cm] M λdu bC=>
    bB bC)
    (bB M)) λbD=>
  ai x8 kW [Γ g] cp λcC ag=>
  Split cC (V x8 (Instr.lookup gX aV key false) ag λcD=>
  V x8 (aJ .gtr ah false true cD (Δ 0)) ag λcE=>
  bD cE ag)
   (bD (.bool false) ag)))
    (Q out S)) λbF=>
  V x8 (aJ .lss am false false i (Δ (N:Int))) H λcF=>
  Split cF (ai x8 kW [Γ g] H λcH cI=>
  bF cH cI)
   (bF (.bool false) H):=by
 obtain⟨dv,dw,dx,cJ,aH⟩:=h.side;have ad:∀r,bG g gs A r->r<w.heap.size:=cJ;unfold av at b1;refine sJ λC y dy aZ a1=>?_;have dz:=aZ.size;have dA:=a1.lt;generalize E:fv (dV sizes) N [] s=bH at bo;refine⟨λout a2 H=>∃(i:Nat)(acc:List (Λ×Int))(so:Option aE),a2=Δ (i:Int)/\i<=N/\ae (bG g gs A) w H/\y.heap.size<=H.heap.size/\bl (eo y.heap.size) bu H [out] acc/\dk H g gs A B clean so/\
   bH=fv (dV sizes) (N-i) acc so/\kx H C/\acc.length<=100001/\∀st,so=σ st->lg H C acc/\(∀p∈acc,∀x∈p.1,0<=x)/\acc.length+st.toks.length<=100000,
  λ_ a2 _=>N-(b0 a2).toNat,⟨0,[],s,rfl,X8 _,aZ.aa _,o6 _,fU,h.ext aZ,E.symm,⟨[],a1,λp L=>(by cases L)⟩,Ξ,λst cK=>⟨a1,λp L=>(by cases L),?_⟩⟩,?_⟩
 .subst cK;have:=h.words;simpa using this
 rintro out _ H ⟨i,acc,so,rfl,dC,bI,z9,bJ,a6,aI,cL,dD,a8⟩;refine aW (λv S=>Ext H S/\((v= .bool true/\i<N/\∃st,so=σ st)\/(v= .bool false/\(so=ν\/i=N)))) ?_ ?_
 rotate_left
 .intro ax ba;rw[aR,aj];refine⟨λcM=>?_,λdE=>ba _ _ ⟨Ext.refl _,.inr ⟨rfl,.inr Ω⟩⟩⟩;refine(po a6).mono ?_;rintro _ S _ ⟨rfl,O⟩;cases so with
  |none=>exact ba _ _ ⟨O,.inr ⟨rfl,.inl rfl⟩⟩
  |some st=>exact ba _ _ ⟨O,.inl ⟨rfl,Ω,st,rfl⟩⟩
 rintro _ S ⟨O,cN⟩;rcases cN with⟨rfl,cM,st,rfl⟩|⟨rfl,cO⟩
 rotate_left
 .rw[aY];have bK:bH=so.map λst=>(acc,st):=by
   rcases cO with rfl|rfl
   .exact aI
   .rw[T2]at aI;rw[aI];cases so<;>rfl
  refine bo out S acc (fX.mk (bI.trans (O.aa _)) ?_) (bm (al.mono bJ (λr _ h=>by have h:y.heap.size<=r:=h;show w.heap.size<=r;omega) λ_ _ h=>h) O) (λq J=>?_)
  .rw[bK,Option.map_map];have e:U2 ((λx=>x.2)∘λst=>(acc,st)) so=so:=by cases so<;>rfl
   rw[e];exact a6.ext O
  .rw[bK]at J;cases so with
   |none=>cases J
   |some st=>cases J;rfl
 rw[bQ];obtain⟨a8,bb,dF⟩:=a8 st rfl;have dG:=O.size;refine bw eh.i λak j dH bL bM=>?_;have ay:=O.trans bL;have bc:ae (bG g gs A) w j:=bI.trans (ay.aa _);have bN:aG .i64 j sv sizes:=h3 bW bc λr f a n c cP cQ=>(aT r ⟨a,n,c,cP,cQ⟩).1 f;rw[aU aq.u bN];have aK:¬bG g gs A ak:=λE=>by have:=ad _ E;omega
 refine Lt (s:=σ st) (a6.ext ay) bN (λr f=>⟨(aT r f).1,by have:=(aT r f).2;omega⟩) bX bY (bZ.aa bc h1.1) h1 bM aK (λcR=>by have:=aH _ cR;omega) λt U aO gt dI cS bO cT cU cV cW cX=>?_;have dJ:=bL.size;have z12:=bO.size;have dK:=bM.lt;have bd:∀x∈t,0<=x:=λx cY=>(cS x cY).1;refine(mc cW).mono ?_;rintro _ Z _ ⟨be,c,dL,rfl,cZ,dM⟩;obtain⟨aM,c0⟩:=be.of;have dN:=aM.size;rw[bx,bz,aS eh.p rfl];refine bp (g:=ak) (o:=1) am.i rfl rfl (cT.aa aM aK) Ξ λI aN dO bf=>?_;have bf:ac I ak eh [aO,Δ c]:=bf;have c1:au .i64 am I gt aO t:=(cU.aa aM (λ_ E=>by have:=ad _ E;omega)).aa aN (λ_ he=>by have he:gt=ak:=he;omega);have bg:ae (λr=>bG g gs A r\/r=ak) j I:=(bO.trans (aM.mono λr _ h=>.inl h)).trans (aN.mono λr _ h=>.inr h);have X:dk I g gs A B clean ((a7 0 av ((e6 sizes [] (σ st)).map (·.2))).map (·.2)):=c0.aa aN (λr f he=>by have he:r=ak:=he;exact aK (he▸f)) (λr f he=>by have:=aH r f.2;have he:r=ak:=he;omega);have bP:¬(λr=>bG g gs A r\/r=ak) C:=λh=>h.elim (λh=>by have:=ad _ h;omega) (λh=>Ω);have c2:kx I C:=(cL.aa (ay.aa (λ_=>False)) (λh=>h)).aa bg bP;have bR:lg I C acc:=(c7.ext a8 ay).aa bg bP;obtain⟨bh,bi⟩:=BQ (acc:=acc) cX cZ;refine dh (λW=>ae (bG g gs A) I W/\dk W g gs A B clean ((dV sizes acc st).map (·.2))) ?_ ?_
 .rintro W ⟨an,c3⟩;have bj:¬bG g gs A C:=λh=>by have:=ad _ h;omega
  have dP:=aN.size;have dQ:=an.size;refine Lz (acc:=acc) (t:=t) (c:=c) (ok:=∃q,dV sizes acc st=σ q) (c2.aa an bj) (λ⟨q,J⟩=>⟨c7.aa bR an bj,bb,bd,λP=>?_⟩) λab az c4 c6=>?_
  .cases K:a7 0 av ((e6 sizes [] (σ st)).map (·.2))with
   |none=>rw[bh K]at J;cases J
   |some ao=>rw[bi ao K,if_pos P]at J;cases J
  have dR:=az.size;have c8:ac ab ak eh [aO,Δ c]:=(bf.aa an aK).aa az (λhe=>by have he:ak=C:=he;omega);have c9:au .i64 am ab gt aO t:=(c1.aa an (λ_ E=>by have:=ad _ E;omega)).aa az (λ_ he=>by have he:gt=C:=he;omega);rw[bE eh.p eh.i rfl c8.range];have bT:bl (eo j.heap.size) bu ab [aO,Δ c] (t,c):=⟨[aO],[Δ c],eo j.heap.size,bu,rfl,λ_ h=>h,λ_ h=>h.elim,λ_ _ _ h=>h,al.mono (k2 c9) (λr _ h=>by subst h;exact cV) (λ_ _ h=>h),rfl⟩;refine im (α:=Λ×Int) (a:=(t,c)) (cs:=[aO,Δ c]) (A:=eo j.heap.size) (R:=bu) iK.u eh.i Φ rfl bT λu aw ap _ da=>?_;have z22:=ap.size;have db:bl (λr=>eo y.heap.size r/\r<j.heap.size/\r≠ak) bu j [out] acc:=bm (al.mono (l0 bJ) (λr _ h=>⟨h.1,by have:=h.2;omega,by have:=h.2;omega⟩) λ_ _ h=>h) ay;have bU:ae (λr=>bG g gs A r\/r=ak\/r=C) j aw:=(((bg.mono λr _ h=>h.elim .inl λh=>.inr (.inl h)).trans (an.mono λr _ h=>.inl h)).trans (az.mono λr _ h=>.inr (.inr h))).trans (ap.aa _);have dc:=al.aa db bU λr f h E=>by
   rcases h with h|h
   .have aP:y.heap.size<=r:=h.1;rcases E with E|E|E
    .have:=ad _ E;omega
    .exact h.2.2 E
    .omega
   .exact h
  refine mH (α:=Λ×Int) (a:=(t,c)) (A:=eo j.heap.size) iK.u eh.i rfl dc da (bm bT ap) (λr _ h h'=>?_) Ω Ω λdS aF dd aA=>?_
  .rcases h' with h'|h'
   .have:=h.2;have:j.heap.size<=r:=h';omega
   .exact h'
  have dT:=aA.size;rw[aL,wrap_i64 Ω Ω];have de:ae (bG g gs A) w aw:=hD bc bU λr f h=>by
   rcases h with h|h|h
   .exact h
   .omega
   .omega
  have df:ae (bG g gs A) w aF:=hD de aA λr f h=>by have aP:y.heap.size<=r:=h.1;omega
  have dg:dk aw g gs A B clean ((dV sizes acc st).map (·.2)):=(c3.aa az (λr f he=>by have he:r=C:=he;exact bj (he▸f)) (λr f he=>by have:=aH r f.2;have he:r=C:=he;omega)).ext ap;have di:∀r,bG g gs A r->¬(eo y.heap.size r/\r<j.heap.size/\r≠ak):=λr f he=>by have:=ad _ f;have aP:y.heap.size<=r:=he.1;omega
  have dj:∀r,cG g gs A B r->¬(eo y.heap.size r/\r<j.heap.size/\r≠ak):=λr f he=>by have:=aH r f.2;have aP:y.heap.size<=r:=he.1;omega
  have bV:¬(eo y.heap.size C/\C<j.heap.size/\C≠ak):=λhe=>by have aP:y.heap.size<=C:=he.1;omega
  refine⟨⟨i+1,acc++[(t,c)],(dV sizes acc st).map (·.2),rfl,Ω,df,Ω,?_,dg.aa aA di dj,?_,(c4.aa (ap.aa (λ_=>False)) (λh=>h)).aa aA bV,Θ,λdl dm=>?_⟩,by simp only[b0];omega⟩
  .refine al.mono dd (λr _ h=>?_) λ_ _ h=>h;show y.heap.size<=r;rcases h with h|h|h
   .exact h.1
   .have h:j.heap.size<=r:=h;omega
   .omega
  .rw[aI,show N-i=(N-(i+1))+1 by omega];cases G:dV sizes acc st with
   |none=>exact pg G
   |some q=>
    obtain⟨a,dl⟩:=q;have dn:a=(t,c):=by
     cases K:a7 0 av ((e6 sizes [] (σ st)).map (·.2))with
     |none=>rw[bh K]at G;cases G
     |some ao=>
      rw[bi ao K]at G;split at G
      .cases G
      .cases G;rfl
    subst dn;exact sF G
  .obtain⟨q,J,rfl⟩:=X2.1 dm;have dU:=(pd J).2.2.2.1;refine⟨c7.aa ((c7.ext (c6 ⟨q,J⟩) ap)) aA bV,λp L=>?_,by simp only[o4,T1];omega⟩;rcases j0.1 L with L|L
   .exact bb p L
   .rw[j6.1 L];exact bd
 .intro dW bk;cases K:a7 0 av ((e6 sizes [] (σ st)).map (·.2))with
  |none=>
   rw[K]at X;have G:=bh K;refine aW (λv M=>Ext I M/\v= .bool false) ?_ ?_
   .rintro _ M ⟨Y,rfl⟩;rw[aY];exact bk _ ⟨Y.aa _,by rw[G];exact X.ext Y⟩
   .intro dp bn;refine(po X).mono ?_;rintro _ ag _ ⟨rfl,aQ⟩;rw[show((ν:Option (Int×aE)).map (·.2)).isSome=false from rfl,aY];exact bn _ _ ⟨aQ,rfl⟩
  |some ao=>
   rw[K]at X;have G:=bi ao K;refine aW (λv M=>Ext I M/\v= .bool (decide (t∈acc.map (·.1)))) ?_ ?_
   .rintro _ M ⟨Y,rfl⟩;rw[aj];refine⟨λP=>?_,λdq=>?_⟩
    .refine (Ls (X.ext Y) Ω).mono ?_;rintro _ bC _ be;obtain⟨dr,ds⟩:=be.of;exact bk _ ⟨(Y.aa _).trans dr,by rw[G,if_pos P];exact ds⟩
    .exact bk _ ⟨Y.aa _,by rw[G,if_neg dq];exact X.ext Y⟩
   .intro dp bn;refine(po X).mono ?_;rintro _ ag _ ⟨rfl,aQ⟩;rw[show((σ ao:Option (Int×aE)).map (·.2)).isSome=true from rfl,bQ,BP (c7.ext bR aQ) bb bd,bS];refine bn _ _ ⟨aQ,?_⟩;congr 1;by_cases P:t∈acc.map (·.1)
    .rw[if_pos P,decide_eq_true P];rfl
    .rw[if_neg P,decide_eq_false P];rfl
def BR(sizes:Λ)(s:Option aE):iW sizes s=match a7 (-av) av s with
 |none=>ν
 |some (n,s)=>
  if n<0 then match s.shared[(-n-1).toNat]? with
   |none=>ν
   |some (z,l)=>if z=sizes then σ (l,s)else ν
  else cO (dV sizes) n.toNat [] (jU n s):=by
 cases s with
 |none=>rfl
 |some s=>
  show dW sizes s=_;unfold dW;show _=match bd (-av) av s with
   |none=>ν
   |some (n,s)=>
    if n<0 then match s.shared[(-n-1).toNat]? with
     |none=>ν
     |some (z,l)=>if z=sizes then σ (l,s)else ν
    else cO (dV sizes) n.toNat [] (jU n s)
  cases bd (-av) av s<;>rfl
def BS{m:Bool}{S R:af}{a:iT}(h:al.rep (α:=iT) m S R w cs a):∃u v,cs=[u,v]/\al.rep (α:=Λ) false bu R w [u] a.1/\al.rep (α:=List (Λ×Int)) false bu R w [v] a.2:=by
 obtain⟨c,d,f,j,rfl,_,_,_,h1,e⟩:=h;have h1:al.rep (α:=Λ) false bu R w c a.1:=h1;have e:al.rep (α:=List (Λ×Int)) false bu R w d a.2:=e;obtain⟨u,rfl⟩:=V2.1 (show c.length=1 from al.len h1);obtain⟨v,rfl⟩:=V2.1 (show d.length=1 from al.len e);exact⟨u,v,rfl,h1,e⟩
def LB{g:Nat}{A B:af}{s:Option aE}(h:dk w g gs A B clean s)(hi:∀t,s=σ t->dX t)(aw:aG .i64 w sv sizes)(K:∀r,leads sv r->¬bG g gs A r/\r<w.heap.size)(ay:∀z∈sizes,1<=z/\z<=av)(aA:sizes.length<=100001)(aB:e5 w)(h1:cG g gs A B 1):
  ai x8 HB [Γ g,sv] w λv w'=>fX w g gs A B clean ((iW sizes s).map (·.2)) w'/\∃l,Seen (λr=>cG g gs A B r\/w.heap.size<=r) w' [v] (show List (Λ×Int)from l)/\∀q,iW sizes s=σ q->l=q.1:=by
 have aC:=h.side;obtain⟨bd,be,bf,aF,bg⟩:=id aC;have ad:∀r,bG g gs A r->r<w.heap.size:=aF;refine az func167 ?_;refine(mc (lo:=-av) (hi:=av) h).mono ?_;rintro _ J _ ⟨aH,n,at_,rfl,V,aI⟩;obtain⟨L,ak⟩:=aH.of;have bh:=L.size;have j:=BR sizes s;rw[bx,bz];have al:aG .i64 J sv sizes:=h3 aw L λr C a n c M W=>(K r ⟨a,n,c,M,W⟩).1 C;have bi:∀r,leads sv r->¬bG g gs A r/\r<J.heap.size:=λr C=>⟨(K r C).1,by have:=(K r C).2;omega⟩;have rest:∀U,Ext J U->(∀q,a7 (-av) av s=σ q->¬n<0)->∀N:Nat,n=(N:Int)->(N:Int)<=av->∀y,ae (bG g gs A) U y->dk y g gs A B clean (((a7 (-av) av s).map (·.2)).map (jU n))->
   ∀v w' l,fX y g gs A B clean ((fv (dV sizes) N [] (((a7 (-av) av s).map (·.2)).map (jU n))).map (·.2)) w'->bl (eo y.heap.size) bu w' [v] (show List (Λ×Int)from l)->(∀q,fv (dV sizes) N [] (((a7 (-av) av s).map (·.2)).map (jU n))=σ q->l=q.1)->
   fX w g gs A B clean ((iW sizes s).map (·.2)) w'/\∃l,Seen (λr=>cG g gs A B r\/w.heap.size<=r) w' [v] (show List (Λ×Int)from l)/\∀q,iW sizes s=σ q->l=q.1:=by
  intro U x O N X Y y G Z v w' l aJ aK aL;obtain⟨aM,aN⟩:=aJ.of;have aO:=x.size;have z3:=G.size;have e:iW sizes s=fv (dV sizes) N [] (((a7 (-av) av s).map (·.2)).map (jU n)):=by
   rw[j];cases f:a7 (-av) av s with
   |none=>rfl
   |some q=>
    obtain⟨aQ,s1⟩:=q;have:=V _ f;subst this;simp only;rw[if_neg (O _ f),X,r8];rfl
  rw[e];refine⟨fX.mk (((L.trans (x.aa _)).trans G).trans aM) aN,l,nK aK λr _ h=>?_,aL⟩;rcases h with h|h
  .have h:y.heap.size<=r:=h;exact .inr Ω
  .exact h.elim
 refine aW (λv U=>Ext J U/\v= .bool (decide (n<0/\(a7 (-av) av s).isSome=true))) ?_ ?_
 rotate_left
 .intro ax Q;refine(po ak).mono ?_;rintro _ U _ ⟨rfl,x⟩;cases f:a7 (-av) av s with
  |none=>
   rw[show((ν:Option (Int×aE)).map (·.2)).isSome=false from rfl,aY];exact Q _ _ ⟨x,by rw[decide_eq_false];rintro⟨_,h⟩;rw[f]at h;cases h⟩
  |some q=>
   rw[show((σ q:Option (Int×aE)).map (·.2)).isSome=true from rfl,bQ,aR];exact Q _ _ ⟨x,by congr 1;rw[V7,decide_eq_true_eq,decide_eq_true_eq,f];exact⟨λh=>⟨h,rfl⟩,λh=>h.1⟩⟩
 rintro _ U ⟨x,rfl⟩;have H:=ak.ext x;have aO:=x.size;rw[aj];refine⟨λO=>?_,λaT=>?_⟩
 rotate_left
 .have O:∀q,a7 (-av) av s=σ q->¬n<0:=λq f h=>aT ⟨h,by rw[f];rfl⟩;obtain⟨N,X,Y⟩:∃N:Nat,n=(N:Int)/\(N:Int)<=av:=by
   cases f:a7 (-av) av s with
   |none=>rw[aI f];exact⟨0,rfl,by unfold av;omega⟩
   |some q=>
    have h1:=O q f;have aU:=mQ (n:=q.1) (s':=q.2) f;have aV:=V q f;exact⟨n.toNat,Ω,Ω⟩
  refine Lv (at_:=at_) H (λt aX=>?_) λy G Z=>?_
  .obtain⟨q,f,rfl⟩:=X2.1 aX;have aU:=mQ (n:=q.1) (s':=q.2) f;have aV:=V q f;refine⟨Ω,Ω,?_⟩;cases s with
   |none=>cases f
   |some s0=>
    have am:=(dK (n:=q.1) (s':=q.2) f).eqs;have an:=hi s0 rfl;intro ao;rw[am.1];rw[am.2.1]at ao;exact an ao
  .have z3:=G.size;have aZ:ae (bG g gs A) w y:=(L.trans (x.aa _)).trans G;subst X;refine LA (N:=N) Z ((h3 (al.ext x) G λr C a n c M W=>(K r ⟨a,n,c,M,W⟩).1 C)) (λr C=>⟨(K r C).1,by have:=(K r C).2;omega⟩) ay aA (aB.aa aZ h1.1) h1 Y λv w' l a b c=>?_;exact rest U x O N rfl Y y G Z v w' l a b c
 .obtain⟨a1,a2⟩:=O;obtain⟨⟨aQ,s1⟩,f⟩:=Option.isSome_iff_exists.1 a2;have:=V _ f;subst this;have bj:=mQ f;rw[f]at j H;simp only at j;rw[if_pos a1]at j;have H:di U g gs A B s1 clean:=H;obtain⟨_,an,bk,big,bn,bo,told,bp,ab,bq,ac⟩:=id H;have br:av=4611686018427387904:=rfl;refine aW (λv y=>Ext U y/\v= .bool (decide (iW sizes s=ν))) ?_ ?_
  .rintro _ y ⟨E,rfl⟩;rw[aj];refine⟨λa6=>?_,λap=>?_⟩
   .refine (sC (H.ext E) Ω).mono ?_;rintro _ bt _ ⟨a8,ba⟩;rw[a6];refine⟨fX.mk (((L.trans (x.aa _)).trans (E.aa _)).trans (a8.mono λr _ h=>.inl h)) ba,[],fU,λq f=>by cases f⟩
   .cases P:s1.shared[(-n-1).toNat]? with
    |none=>rw[P]at j;exact absurd j ap
    |some q=>
     obtain⟨z,l⟩:=q;rw[P]at j;simp only at j;have bb:z=sizes:=by
      by_cases I:z=sizes
      .exact I
      .rw[if_neg I]at j;exact absurd j ap
     rw[if_pos bb]at j;rw[aP ci.p 3 (ab.ext E) rfl,lV,wrap_i64 Ω Ω,ed,wrap_i64 Ω Ω];refine jM (α:=iT) (m:=true) (S:=A) (R:=cG g gs A B) (i:=(-n-1).toNat) (a:=(z,l)) Ω hy.u jG.i (bm ac E) P λb o cs ag ah=>?_;obtain⟨u,v,rfl,hu,M⟩:=BS ah;rw[aS jG.p rfl,aD Ψ (ag 1 v rfl)];rw[j];refine⟨fX.mk ((L.trans (x.aa _)).trans (E.aa _)) (H.ext E),l,nK M λr _ h=>?_,λq f=>by cases f;rfl⟩;rcases h with h|h
     .exact h.elim
     .exact .inl h
  .intro ax Q;rw[lV,wrap_i64 Ω Ω,aP ci.p 3 ab rfl,gq hy.u ac,bS,aj];refine⟨λaq=>Q _ _ ⟨Ext.refl _,?_⟩,λau=>?_⟩
   .have aq:(s1.shared.length:Int)<0-n:=aq;rw[Y2 Ω]at j;rw[decide_eq_true j]
   .have au:¬(s1.shared.length:Int)<0-n:=au;have bc:(-n-1).toNat<s1.shared.length:=Ω
    obtain⟨⟨z,l⟩,P⟩:∃q,s1.shared[(-n-1).toNat]?=σ q:=⟨_,x7 bc⟩;rw[aP ci.p 3 ab rfl,lV,wrap_i64 Ω Ω,ed,wrap_i64 Ω Ω];refine jM (α:=iT) (m:=true) (S:=A) (R:=cG g gs A B) (i:=(-n-1).toNat) (a:=(z,l)) Ω hy.u jG.i ac P λb o cs ag ah=>?_;obtain⟨u,v,rfl,hu,M⟩:=BS ah;rw[aS jG.p rfl,aD Ψ (ag 0 u rfl)];refine(vj (dJ hu) (al.ext x)).mono ?_;rintro _ y _ ⟨rfl,E⟩;rw[bJ];refine Q _ _ ⟨E,?_⟩;rw[P]at j;simp only at j;by_cases I:z=sizes
    .rw[if_pos I]at j;rw[decide_eq_true I,decide_eq_false (by rw[j];simp)];rfl
    .rw[if_neg I]at j;rw[decide_eq_false I,decide_eq_true j];rfl
abbrev pp(n:Nat):af:=λr=>r<n
def qD(n:Int)(k:Nat)(s:Option aE):Option (Λ×aE):=s.bind (e3 n k)
def LC{g k:Nat}{A B:af}{s:Option aE}{m:Int}(h:dk w g gs A B clean s)(hk:k<=4611686018427387904)(hm:0<=m/\m<=1000000):
  ai x8 zg [Γ g,Δ (k:Int),Δ m] w λv w'=>fX w g gs A B clean ((qD m k s).map (·.2)) w'/\
   ∃gr l,au .i64 am w' gr v l/\(∀r,leads v r->w.heap.size<=r)/\l.length<=100001/\∀q,qD m k s=σ q->l=q.1:=by
 cases s with
 |some s=>exact Kr (s:=s) h hk hm
 |none=>
  have h:eE w g gs A B:=h;refine az func165 ?_;refine⟨λout j J=>w=J/\out= .slice ν 0 0/\j=Δ 0,λ_ _ _=>0,⟨rfl,rfl,rfl⟩,?_⟩;rintro _ _ _ ⟨rfl,rfl,rfl⟩;refine aW (λv U=>Ext w U/\v= .bool false) ?_ ?_
  .rintro _ U ⟨e,rfl⟩;rw[aY];exact⟨fX.mk (e.aa _) (h.ext e),0,[],au.nil _ _ _ _,λr p=>absurd p (λh=>by obtain⟨a,n,c,h,_⟩:=h;cases h),Ξ,λq x=>by cases x⟩
  .intro ax f;rw[aR,aj];refine⟨λ_=>?_,λ_=>f _ _ ⟨Ext.refl _,rfl⟩⟩;refine(nV h).mono ?_;rintro _ U _ ⟨rfl,e⟩;exact f _ _ ⟨e,rfl⟩
def sS(z:Λ)(l:List (Λ×Int))(s:aE):aE:={s with shared:=s.shared++[(z,l)]}
def BT(w:x4)(g gs:Nat):Prop:=∃(e big a f told:Int)(sv:x3),ac w g ci (fJ gs e big a f told sv)/\e≠0
def hc(w:x4)(g gs:Nat)(A:af)(B:af)(clean:Bool)(s:Option aE):Prop:=match s with
 |some s=>di w g gs A B s clean
 |none=>BT w g gs
def dk.q{g:Nat}{A:af}{B:af}{s:Option aE}(h:dk w g gs A B clean s):hc w g gs A B clean s:=by
 cases s with
 |some s=>exact h
 |none=>
  obtain⟨_,e,big,a,f,told,sv,l,j,p,_⟩:=h;exact⟨e,big,a,f,told,sv,j,p.1⟩
def hc.aa{g:Nat}{A:af}{B:af}{s:Option aE}(h:hc w g gs A B clean s)(a:ae S w w')(j:¬S g)(p:∀r,bG g gs A r->r<w.heap.size->¬S r)(q:∀r,cG g gs A B r->¬S r):hc w' g gs A B clean s:=by
 cases s with
 |some s=>
  have h:di w g gs A B s clean:=h;exact di.aa h a (λr f=>p r f (h.1.2.2.2.1 r f)) q
 |none=>
  obtain⟨e,big,x,y,told,sv,z,C⟩:=h;exact⟨e,big,x,y,told,sv,z.aa a j,C⟩
def hc.ext{g:Nat}{A:af}{B:af}{s:Option aE}(h:hc w g gs A B clean s)(a:Ext w w'):hc w' g gs A B clean s:=h.aa (a.aa λ_=>False) (λh=>h) (λ_ _ _ h=>h) (λ_ _ h=>h)
def BU{g:Nat}{A:af}{B:af}{s:Option aE}(h:hc w g gs A B clean s):ai x8 kW [Γ g] w λv w'=>v= .bool s.isSome/\Ext w w':=by
 cases s with
 |none=>
  obtain⟨e,big,p,q,told,sv,a,f⟩:=h;refine(vL a).mono ?_;rintro _ J _ ⟨rfl,j⟩;exact⟨by rw[decide_eq_false f];rfl,j⟩
 |some s=>exact pf h
def hE.aV{g:Nat}{R':Nat->Prop}(h:hE w g R toks clean)(f:ae S w w')(q:¬S g)(s:∀r,R r->¬S r)(x:∀r,R r->R' r):hE w' g R' toks clean:=by
 obtain⟨y,p,a,⟨h1,z,A,B,bq,C⟩,j,E⟩:=h;exact⟨y,p,a,⟨h1,z,A,B.aa f q,bq,br C f λr e=>s r (j r e)⟩,λr e=>x r (j r e),E⟩
def md{α:Type}[al α]{m:Bool}{S R:af}{l:List α}(h:al.rep m S R w [v] l):∃a n c,v= .slice a n c:=by
 obtain⟨vs,e,F,f,he,I,hm⟩:=il h;obtain⟨j,b,o,base,cap,rfl,_⟩:=I;exact⟨_,_,_,rfl⟩
def lh(w:x4)(g gs:Nat)(A:af)(B:af)(R:af)(clean:Bool)(s:Option aE):Prop:=match s with
 |some s=>lb w g gs A B/\hE w gs R s.toks clean/\(0<=s.told/\s.told<=av/\s.shared.length+s.toks.length<=100000)/\
  ∃big a e told sv,ac w g ci (fJ gs 0 big a e told sv)/\((s.big=true↔big≠0)/\(s.big=false->told=s.told))/\bl A R w [sv] (show List iT from s.shared)
 |none=>BT w g gs
def lh.aa{g:Nat}{A R:af}{B:af}{s:Option aE}(h:lh w g gs A B R clean s)(a:ae S w w')(x:¬S g)(y:∀r,bG g gs A r->r<w.heap.size->¬S r)(z:∀r,R r->¬S r):lh w' g gs A B R clean s:=by
 cases s with
 |some s=>
  obtain⟨h1,C,E,big,f,j,told,sv,p,q,F⟩:=h;have G:=h1.2.2.2.1;exact⟨h1.aa a,C.aa a (y gs (.inr (.inl rfl)) (G _ (.inr (.inl rfl)))) z,E,big,f,j,told,sv,p.aa a x,q,al.aa F a λr H h=>h.elim (λh=>y r (.inr (.inr h)) H) (z r)⟩
 |none=>
  obtain⟨e,big,f,j,told,sv,p,q⟩:=h;exact⟨e,big,f,j,told,sv,p.aa a x,q⟩
def lh.out{g:Nat}{A R B e:af}{s:Option aE}(h:lh w g gs A B R clean s)(f:∀r,R r->cG g gs A e r)(j:∀r,e r->r<w.heap.size):hc w g gs A e clean s:=by
 cases s with
 |some s=>
  obtain⟨⟨q,x,y,z,O⟩,⟨C,p,a,E,F,G⟩,H,big,I,J,told,sv,K,L,M⟩:=h;exact⟨⟨q,x,y,z,j⟩,⟨C,p,a,E,λr N=>f r (F r N),G⟩,H,big,I,J,told,sv,K,L,al.mono M (λ_ _ h=>h) λr _ h=>f r h⟩
 |none=>exact h
def dk.qr{g:Nat}{A R:af}{B:af}{s:Option aE}(h:dk w g gs A B clean s)(y:∀r,cG g gs A B r->R r):lh w g gs A B R clean s:=by
 cases s with
 |some s=>
  obtain⟨h1,⟨z,p,a,C,E,F⟩,G,big,f,j,told,sv,q,x,H⟩:=h;exact⟨h1,⟨z,p,a,C,λr I=>y r (E r I),F⟩,G,big,f,j,told,sv,q,x,al.mono H (λ_ _ h=>h) λr _ h=>y r h⟩
 |none=>
  obtain⟨_,e,big,f,j,told,sv,l,q,x,_⟩:=h;exact⟨e,big,f,j,told,sv,q,x.1⟩
def LD{g O:Nat}{A B R:af}{s:Option aE}{aM ay u:x3}{z:Λ}{l:List (Λ×Int)}{K:x4->Prop}(h:dk w g gs A B clean s)(P:∀r,cG g gs A B r->R r)(ah:∀r,R r->cG g gs A (pp w.heap.size) r)(ai:∀t,s=σ t->t.shared.length+1+t.toks.length<=100000)(aj:ac w O b7 [aM,u,ay,v])(hu:al.rep (α:=Λ) false bu R w [u] z)(ak:al.rep (α:=List (Λ×Int)) false bu R w [v] l)(az:∀w' aI,ae (bG g gs A) w w'->(∀r,aI r->A r\/w.heap.size<=r)->lh w' g gs aI (pp w.heap.size) R clean (s.map (sS z l))->K w'):
  V x8 (bP (Γ g)) w λQ=>
  V x8 (u6 ci Q 3) w λS=>
  V x8 (u5 hy S) w λam=>
  V x8 (u6 b7 (Γ O) 1) w λt76=>
  V x8 (u5 aq t76) w λt77=>
  V x8 (u6 b7 (Γ O) 3) w λaA=>
  V x8 (u5 iK aA) w λaC=>
  V x8 (Instr.build jG #[(0,t77),(1,aC)]) w λaD=>
  aB x8 (Y8 hy 1 #[(0,aD)]) w λaF F=>
   (Ext w F\/bZ x8 (u5 hy S) am F/\bZ x8 (u6 ci Q 3) S F/\bZ x8 (bP (Γ g)) Q F/\True)/\
   aB x8 (Z3 #[hy,hy] hy #[am,aF]) F λaG W=>
    V x8 (bP (Γ g)) W λaJ=>
    V x8 (u6 ci aJ 3) W λaK=>
    aB x8 (o9 hy aK aG) W λ(_:Unit)aL=>K aL:=by
 obtain⟨aN,e,big,j,q,told,sv,H,y,L,a1,aO⟩:lb w g gs A B/\∃e big j q told sv,∃H:List iT,ac w g ci (fJ gs e big j q told sv)/\bl A R w [sv] H/\H.length<=100000/\
   ∀w' aI C,lb w' g gs aI (pp w.heap.size)->ae (λr=>A r\/r=g) w w'->ac w' g ci (fJ gs e big j q told C)->bl aI R w' [C] (H++[((z,l):iT)])->lh w' g gs aI (pp w.heap.size) R clean (s.map (sS z l)):=by
  cases s with
  |none=>
   obtain⟨h1,e,big,j,q,told,sv,l',X,M,Y⟩:=h;exact⟨h1,e,big,j,q,told,sv,l',X,al.mono Y (λ_ _ h=>h) λr _ h=>P r h,M.2,λw' aI C I _ y L=>⟨e,big,j,q,told,C,y,M.1⟩⟩
  |some s=>
   obtain⟨h1,aQ,an,big,j,q,told,sv,X,M,Y⟩:=h;have ai:=ai s rfl;refine⟨h1,0,big,j,q,told,sv,s.shared,X,al.mono Y (λ_ _ h=>h) λr _ h=>P r h,(show s.shared.length<=100000 by omega),λw' aI C I aR y L=>⟨I,?_,⟨an.1,an.2.1,?_⟩,big,j,q,told,C,y,M,L⟩⟩
   .exact hE.aV aQ aR (λhe=>he.elim h1.2.2.1 λh=>h1.1 h.symm) (λr f he=>he.elim (λh=>f.1 (.inr (.inr h))) λh=>f.1 (.inl h)) P
   .show (s.shared++[(z,l)]).length+s.toks.length<=100000;simp;omega
 obtain⟨aT,Z,aU,ao,a2⟩:=id aN;rw[aP ci.p 3 y rfl,aH b7.p 1 aj rfl,aH b7.p 3 aj rfl];rw[dq (cs:=#[u,v]) (by obtain⟨_,_,_,rfl⟩:=md hu;obtain⟨_,_,_,rfl⟩:=md ak;kernel_rfl)];have au:bl (λ_=>False) R w [u,v] ((z,l):iT):=⟨[u],[v],bu,bu,rfl,λ_ h=>h,λ_ h=>h,λ_ _ h _=>h,hu,ak⟩;refine im (α:=iT) (a:=(z,l)) (cs:=[u,v]) (A:=λ_=>False) (R:=R) hy.u jG.i Φ rfl au λx J E _ aW=>?_;have a6:=E.size;refine⟨.inl E,?_⟩;refine mH (α:=iT) (a:=(z,l)) (A:=λ_=>False) (R:=R) hy.u jG.i rfl (bm L E) aW (bm au E) (λr _ aX G=>?_) Ω Ω λav U ab ad=>?_
 .rcases G with G|G
  .exact G
  .exact (ah r G).1 (.inr (.inr aX))
 have a7:=ad.size;have aY:=(y.ext E).aa ad Z;rw[bY,aS ci.p rfl];refine bp (g:=g) (o:=6) hy.i (kp ab) (hY ab) aY (by simp[fJ]) λN aw a8 ag=>?_;have ag:ac N g ci (fJ gs e big j q told av):=ag;have ax:ae (λr=>A r\/r=g) w N:=((E.aa _).trans (ad.mono λr _ h=>.inl h)).trans (aw.mono λr _ h=>.inr h);let aI:af:=λr=>(A r\/w.heap.size<=r)/\r<U.heap.size;have ba:g<w.heap.size:=ao g (.inl rfl);have bb:gs<w.heap.size:=ao gs (.inr (.inl rfl));have aZ:=al.mono (S':=aI) (R':=R) ab (λr f h=>⟨h.elim .inl λh=>h.elim False.elim λh=>.inr Ω,f⟩) (λr f h=>h);refine az N aI (ax.mono λr _ h=>h.elim (λh=>.inr (.inr h)) .inl) (λr f=>f.1) (aO N aI av ⟨aT,λh=>h.1.elim Z λh=>Ω,λh=>h.1.elim aU λh=>Ω,λr f=>?_,?_⟩ ax ag (al.aa aZ aw λr f ap he=>?_))
 .rcases f with rfl|rfl|f
  .omega
  .omega
  .have:=f.2;omega
 .intro r f;have f:r<w.heap.size:=f;omega
 .have he:r=g:=he;subst he;rcases ap with ap|ap
  .exact ap.1.elim Z λh=>Ω
  .exact (ah _ ap).1 (.inl rfl)
def LF{e:Nat}{aM:x3}{scope:Λ}{M:x4->Prop}(N:ac w e b7 [aM,.slice ν 0 0,Δ 0,.slice ν 0 0])(O:aG .i64 w aM scope)(ab:∀r,leads aM r->r≠e)(ad:aG .i64 w z all)(af:∀r,leads z r->r≠e)(ag:∀v∈scope,0<=v/\v<all.length)(aK:scope.length<=100001)(ai:∀w' szv gz,ae (λr=>r=e) w w'->ac w' e b7 [aM,szv,Δ 0,.slice ν 0 0]->au .i64 am w' gz szv (scope.map λv=>all.getD v.toNat 0)->w.heap.size<=gz->M w'):
 bU (Δ 0) w λF s k=>
  V x8 (aJ .lss ah false false F (Δ (scope.length:Int))) s λak=>
  Split ak (V x8 (j9 aq aM F) s λal=>
  V x8 (u5 am al) s λan=>
  ef s λf=>
  V x8 (u6 b7 (Γ e) 1) f λt39=>
  V x8 (u5 aq t39) f λP=>
  V x8 (j9 aq z an) f λao=>
  V x8 (u5 am ao) f λap=>
  aB x8 (Y8 aq 1 #[(0,ap)]) f λt45 A=>
   (Ext f A\/bZ x8 (u5 aq t39) P A/\bZ x8 (u6 b7 (Γ e) 1) t39 A/\True)/\
  aB x8 (Z3 #[aq,aq] aq #[P,t45]) A λt46 Q=>
   V x8 (u6 b7 (Γ e) 1) Q λav=>
   aB x8 (o9 aq av t46) Q λ(_:Unit)R=>
    V x8 (aJ .add ah false true F (Δ 1)) R λaw=>
  k aw R) (M s):=by
 have aN:=N.lt;refine bU.range scope.length (λi J=>ae (λr=>r=e) w J/\∃szv gz,ac J e b7 [aM,szv,Δ 0,.slice ν 0 0]/\au .i64 am J gz szv ((scope.take i).map λv=>all.getD v.toNat 0)/\w.heap.size<=gz) O.le ⟨ae.refl _ _,_,w.heap.size,N,au.nil _ _ _ _,o6 _⟩ ?_ ?_
 rotate_left
 .rintro J ax ⟨j,szv,gz,B,C,S⟩;rw[o8]at C;rw[aR,aj];exact⟨λh=>Ω,λ_=>ai J szv gz j B C S⟩
 rintro i J ax hi ⟨j,szv,gz,B,C,S⟩ ay;obtain⟨v,G⟩:=aF (l:=scope) hi;have aO:=ag v (x6 G);have az:all[v.toNat]?=σ (all.getD v.toNat 0):=by
  rw[u4,x7 Ω];rfl
 have aA:aG .i64 J aM scope:=h3 O j λr E a n c H I=>ab r ⟨a,n,c,H,I⟩ E;have aC:aG .i64 J z all:=h3 ad j λr E a n c H I=>af r ⟨a,n,c,H,I⟩ E;refine bA Ω ?_;rw[bb aq.u am.i Ψ aA G];intro U q _ _;have aP:=j.size;have aQ:=q.size;rw[aH b7.p 1 (B.ext q) rfl];rw[fq (y:=v) (i:=v.toNat) Ω aq.u am.i Ψ (aC.ext q) az];refine et aq.u am.i rfl λa ga aT aU x aD=>?_;refine⟨.inl x,?_⟩;have z3:=x.size;refine jo aq.u am.i rfl ((C.ext q).ext x) aD.ls Θ Θ λW X aV aW K Y=>?_;rw[aS b7.p rfl];have aE:=((B.ext q).ext x).aa Y (λhe=>by have he:e=gz:=he;omega);refine bp (g:=e) (o:=1) aq.i K.ls.cells.1 K.ls.cells.2 aE Ξ λaI Z aX L=>?_;have L:ac aI e b7 [aM,W,Δ 0,.slice ν 0 0]:=L;rw[aL];refine ay _ ⟨(hD (j.trans ((q.trans x).aa _)) Y λr E he=>by have he:r=gz:=he;omega).trans Z,W,X,L,?_,Ω⟩;rw[u9,G,l7,Z4];exact K.aa Z (λ_ he=>by have he:X=e:=he;omega)
abbrev hI:Type:=Rd (Λ)×Rd (Λ)×Int×Rd (List (Λ×Int))
def hd(f:cv):hI:=(f.scope,f.sizes,f.other,f.lines)
def BV{R:af}{aM szv cc:x3}{o:Int}{sc a:Λ}{l:List (Λ×Int)}(h1:al.rep (α:=Λ) false bu R w [aM] sc)(e:al.rep (α:=Λ) false bu R w [szv] a)(f:al.rep (α:=List (Λ×Int)) false bu R w [cc] l):
  Seen R w [aM,szv,Δ o,cc] ((sc,a,o,l):hI):=
 ⟨[aM],[szv,Δ o,cc],bu,bu,rfl,λ_ h=>h,λ_ h=>h,λ_ _ h _=>h,h1,[szv],[Δ o,cc],bu,bu,rfl,λ_ h=>h,λ_ h=>h,λ_ _ h _=>h,e,[Δ o],[cc],bu,bu,rfl,λ_ h=>h,λ_ h=>h,λ_ _ h _=>h,rfl,f⟩
def qE{R:af}{g:Nat}{e:r9}(h:au .i64 e w g v l)(q:∀r,leads v r->R r):al.rep (α:=Λ) false bu R w [v] l:=by
 have h1:bl (λr=>r=g) bu w [v] l:=k2 h;obtain⟨vs,s,F,E,he,I,hm⟩:=il h1;refine⟨v,rfl,vs,s,λ_ _=>False,⟨λ_ _ h=>h,λh=>(by cases h),λh=>by cases h⟩,⟨he.1,λi c a x y=>?_⟩,?_,λh=>by cases h⟩
 .exact he.2 i c a x y
 .obtain⟨f,b,o,base,cap,rfl,z,A,j,G,B⟩:=I;refine⟨f,b,o,base,cap,rfl,z,A,j,λp=>.inr (q b ?_),B⟩;have C:0<l.length:=by
   rw[f]at p;rcases Q5 l.length with h|h
   .rw[h,Nat.zero_mul]at p;omega
   .exact h
  exact⟨⟨b,o,ν⟩,l.length,cap,by rw[j C],rfl⟩
def BW{α:Type}[al α]{R R':af}{a:α}(h:Seen R w cs a)(e:∀r,r<w.heap.size->R r->R' r):Seen R' w cs a:=al.mono h (λ_ _ h=>h) e
def BX{f:Nat}{K:x3->x4->Prop}(e:cs.length=4)(h1:∀v∈cs,v.oneCell'=true)(q:ac w f b7 cs){h:List x3}(s:h.length=4)(x:ac w a b7 h)(y:∀w',ae (λr=>r=a) w w'->K (.agg cs.toArray) w'):
  V x8 (u5 b7 (Γ f)) w λz=>
  aB x8 (o9 b7 (Γ a) z) w λ(_:Unit)j=>
  V x8 (do loadVar b7 (<-asAddr (Γ a))) j λA=>K A j:=by
 rw[bE b7.p b7.i e q.range];refine b1 b7.i e s h1 x λw' B _ C=>?_;rw[fb b7.p b7.i e C.range];exact y w' B
def BY{s s':aE}{l:List (Λ×Int)}(h:dW sizes s=σ (l,s')):s'.shared=s.shared/\s'.toks.length<=s.toks.length:=by
 unfold dW at h;cases e:bd (-av) av s with
 |none=>rw[e]at h;cases h
 |some q=>
  obtain⟨n,s1⟩:=q;rw[e]at h;simp only at h;have h1:=dK e;obtain⟨w,x,j⟩:=h1.eqs;split at h
  .cases I:s1.shared[(-n-1).toNat]? with
   |none=>rw[I]at h;cases h
   |some q=>
    obtain⟨z,l'⟩:=q;rw[I]at h;simp only at h;split at h
    .simp only[X7,S3]at h;obtain⟨rfl,rfl⟩:=h;exact⟨j,by have:=h1.1;omega⟩
    .cases h
  .have:=ku (f:=dV sizes) (λacc t=>t.shared=s.shared/\t.toks.length<=s.toks.length) (λacc t a bn ⟨r,y⟩ g=>by
    obtain⟨A,B,C,p⟩:=pd g;obtain⟨f1,f2,f3⟩:=p.eqs;exact⟨by rw[f3,r],by have:=p.1;omega⟩) n.toNat [] (a8 (decide (16384<min (s1.told+n) av)) {s1 with told:=min (s1.told+n) av}) l s' ⟨j,by have:=h1.1;show s1.toks.length<=_;omega⟩ h
   exact this.1
def LG{g:Nat}{A B:af}{s:aE}{aC:x3}(h:di w g gs A B s clean)(hi:dX s)(bN:aG .i64 w aC all)(bf:∀r,leads aC r->¬bG g gs A r/\r<w.heap.size)(cm:∀z∈all,1<=z/\z<=av)(dm:all.length<=100001)(cn:e5 w)(h1:cG g gs A B 1):
  ai x8 y8 [Γ g,aC] w λv w'=>∃aI V cs,∃bO:hI,v= .agg cs.toArray/\cs.length=4/\ae (bG g gs A) w w'/\(∀r,aI r->A r\/w.heap.size<=r)/\(∀r,V r->(B r\/w.heap.size<=r)/\r<w'.heap.size)/\(∀r,B r->V r)/\hc w' g gs aI V clean ((da all s).map (·.2))/\
   Seen (cG g gs aI V) w' cs bO/\∀q,da all s=σ q->bO=hd q.1:=by
 have cp:=h.1;obtain⟨dn,dp,bg,cq,W⟩:=id cp;have ad:∀r,bG g gs A r->r<w.heap.size:=cq;have dr:av=4611686018427387904:=rfl;have ds:s.shared.length+s.toks.length<=100000:=h.2.2.1.2.2;refine az func113 ?_;refine bw b7.i λC J du bh aP=>?_;have aP:ac J C b7 [.slice ν 0 0,.slice ν 0 0,Δ 0,.slice ν 0 0]:=aP;have dv:=bh.size;have dw:=aP.lt;have M:¬bG g gs A C:=λy=>by have:=ad _ y;omega
 refine(vM (lo:=-av) (hi:=av) (h.ext bh)).mono ?_;rintro _ U _ ⟨X,a,at_,rfl,bP,cr⟩;obtain⟨bi,bj⟩:=X.of;have dx:=bi.size;rw[bx,bz,aR,lV];have dy: -av<=a/\a<=av:=by
  cases E:bd (-av) av s with
  |none=>rw[cr E];unfold av;omega
  |some q=>rw[bP q E];exact(h4 (n:=q.1) (s':=q.2) E).1
 rw[wrap_i64 Ω Ω,vd,show max a (0-a)=((a.natAbs:Nat):Int) by omega];have bQ:ae (bG g gs A) w U:=(bh.aa _).trans bi;have ct:aG .i64 U aC all:=h3 bN bQ λr f a n c H bk=>(bf r ⟨a,n,c,H,bk⟩).1 f;rw[aU aq.u ct];refine(LC (k:=a.natAbs) (m:=(all.length:Int)) bj Ω Ω).mono ?_;rintro aM dz _ ⟨X,gr,scope,aD,cu,dA,cw⟩;obtain⟨bl,cz⟩:=X.of;have z3:=bl.size;rw[dq (cs:=#[aM,.slice ν 0 0,Δ 0,.slice ν 0 0]) (by obtain⟨_,_,_,_,_,rfl,_⟩:=aD.ls;kernel_rfl)];refine bw b7.i λj cA dC aF aQ=>?_;have aQ:ac cA j b7 [.slice ν 0 0,.slice ν 0 0,Δ 0,.slice ν 0 0]:=aQ;have z4:=aF.size;have dD:=aQ.lt;have bn:=aD.ls.cells;refine b1 (vs:=[aM,.slice ν 0 0,Δ 0,.slice ν 0 0]) b7.i rfl rfl (by intro v H;simp at H;rcases H with rfl|rfl|rfl|rfl<;>first|exact bn.2|rfl) aQ λaT aJ dE cB=>?_;have an:¬bG g gs A j:=λy=>by have:=ad _ y;omega
 have bT:dk aT g gs A B clean ((qD all.length a.natAbs ((bd (-av) av s).map (·.2))).map (·.2)):=(cz.ext aF).aa aJ (λr f he=>by have he:r=j:=he;exact an (he▸f)) (λr f he=>by have:=W r f.2;have he:r=j:=he;omega);have bU:ae (bG g gs A) w aT:=hD ((bQ.trans bl).trans (aF.aa _)) aJ λr f he=>by have he:r=j:=he;omega
 have cC:ac aT C b7 [.slice ν 0 0,.slice ν 0 0,Δ 0,.slice ν 0 0]:=(((aP.aa bi M).aa bl M).ext aF).aa aJ (λhe=>by have he:C=j:=he;omega);have cD:au .i64 am aT gr aM scope:=br (aD.ext aF) aJ λr f he=>by
  obtain⟨cE,bj⟩:=bR aD f;have he:r=j:=he;omega
 refine(po bT).mono ?_;rintro _ aV _ ⟨rfl,Y⟩;have ao:=bT.ext Y;have aK:=cD.ext Y;have bo:=cB.ext Y;have bV:=cC.ext Y;have dF:=Y.size;have z5:=aJ.size;have Q:∀r,leads aM r->U.heap.size<=r/\r≠j/\r≠C:=λr f=>by
  obtain⟨cE,bj⟩:=bR aD f;have:=cu r f;exact⟨this,Ω,Ω⟩
 have L:da all s=match qD all.length a.natAbs ((bd (-av) av s).map (·.2))with
   |none=>ν
   |some (sc,I)=>(iW (sc.map λv=>all.getD v.toNat 0) ((a7 0 av (σ (a8 (decide (6<a.natAbs)||dt (sc.map λv=>all.getD v.toNat 0)) I))).map (·.2))).map λq=>((⟨sc,sc.map λv=>all.getD v.toNat 0,((bd 0 av (a8 (decide (6<a.natAbs)||dt (sc.map λv=>all.getD v.toNat 0)) I)).map (·.1)).getD 0,q.1⟩:cv),if a<0 then sS (sc.map λv=>all.getD v.toNat 0) q.1 q.2 else q.2):=by
  unfold da;cases E:bd (-av) av s with
  |none=>rfl
  |some q=>
   obtain⟨a',s1⟩:=q;have:=bP _ E;subst this;simp only;show _=match e3 all.length a.natAbs s1 with
    |none=>ν
    |some (sc,I)=>_
   cases e3 all.length a.natAbs s1 with
   |none=>rfl
   |some q=>
    obtain⟨sc,I⟩:=q;simp only;show _=U2 _ (iW _ ((bd 0 av _).map (·.2)));cases bd 0 av (a8 (decide (6<a.natAbs)||dt (sc.map λv=>all.getD v.toNat 0)) I)with
    |none=>rfl
    |some q=>
     obtain⟨o,G⟩:=q;simp only;show _=U2 _ (dW _ G);cases dW (sc.map λv=>all.getD v.toNat 0) G with
     |none=>rfl
     |some q=>rfl
 rw[bJ,cg];cases Z:qD all.length a.natAbs ((bd (-av) av s).map (·.2))with
 |none=>
  rw[Z]at ao L;simp only at L;refine⟨λ_=>?_,λh=>by simp at h⟩;refine BX rfl (by intro v H;simp at H;rcases H with rfl|rfl|rfl|rfl<;>first|exact bn.2|rfl) bo rfl bV λab N=>?_;have cF:=N.size;refine⟨A,λr=>(B r\/w.heap.size<=r)/\r<ab.heap.size,_,(scope,[],0,[]),rfl,rfl,hD (bU.trans (Y.aa _)) N λr f he=>by have he:r=C:=he;omega,λr f=>.inl f,λr f=>f,λr f=>⟨.inl f,by have:=W r f;omega⟩,?_,?_,λq E=>by rw[L]at E;cases E⟩
  .rw[L];have cH:hc ab g gs A B clean (U2 (λx=>x.2) (ν:Option (Λ×aE))):=ao.q.aa N (λhe=>by have:=ad g (.inl rfl);have he:g=C:=he;omega) (λr f _ he=>by have he:r=C:=he;exact M (he▸f)) (λr f he=>by have:=W r f.2;have he:r=C:=he;omega);exact cH
  .refine BV (qE (br aK N λr f he=>(Q r f).2.2 he) λr f=>?_) fU fU;have O:=Q r f;have ap:=(bR aK f);exact⟨λy=>by have:=ad _ y;omega,.inr Ω,Ω⟩
 |some q=>
  obtain⟨sc,I⟩:=q;have:=cw _ Z;subst this;rw[Z]at ao L;simp only at L;refine⟨λh=>by simp at h,λ_=>?_⟩;have ao:di aV g gs A B I clean:=ao;obtain⟨s1,cI,cJ⟩:∃s1,(bd (-av) av s).map (·.2)=σ s1/\e3 all.length a.natAbs s1=σ (scope,I):=by
   cases E:(bd (-av) av s).map (·.2)with
   |none=>rw[E]at Z;cases Z
   |some s1=>rw[E]at Z;exact⟨s1,rfl,Z⟩
  obtain⟨bW,cK,rfl⟩:=X2.1 cI;have bX:=dK (n:=bW.1) (s':=bW.2) cK;obtain⟨bY,dG,dH,bZ⟩:=vJ cJ;have bq:=bX.eqs;have bt:=bY.eqs;have cL:dX I:=λS=>by rw[bt.1,bq.1];rw[bt.2.1,bq.2.1]at S;exact hi S
  have cM:I.shared.length+1+I.toks.length<=100000:=by rw[bt.2.2,bq.2.2];have:=bX.1;have:=bY.1;omega
  generalize bA:(scope.map λv=>all.getD v.toNat 0)=sizes at L;have b0:∀z∈sizes,1<=z/\z<=av:=λz aW=>by
   rw[<-bA]at aW;obtain⟨v,H,rfl⟩:=l9.1 aW;have:=bZ v H;refine cm _ ?_;rw[u4,x7 Ω];exact S4 _
  have dI:sizes.length=scope.length:=by rw[<-bA,u7]
  have b2:ae (bG g gs A) w aV:=bU.trans (Y.aa _);have cN:aG .i64 aV aC all:=h3 bN b2 λr f a n c H bk=>(bf r ⟨a,n,c,H,bk⟩).1 f;rw[aH b7.p 0 bo rfl,aU aq.u aK.ls];refine LF bo aK.ls (λr f=>(Q r f).2.1) cN (λr f=>by have:=(bf r f).2;omega) bZ Ω λab szv gz N b3 aX dJ=>?_;rw[bA]at aX;have cF:=N.size;have bB:∀r,cG g gs A B r->¬(λr=>r=j) r:=λr f he=>by have:=W r f.2;have he:r=j:=he;omega
  have bC:∀r,bG g gs A r->¬(λr=>r=j) r:=λr f he=>by have he:r=j:=he;exact an (he▸f)
  have b4:=ao.aa N bC bB;have cO:ae (bG g gs A) w ab:=hD b2 N λr f he=>by have he:r=j:=he;omega
  refine dh (λaY=>ae (bG g gs A) ab aY/\di aY g gs A B (a8 (decide (6<a.natAbs)||dt sizes) I) clean) ?_ ?_
  rotate_left
  .intro ax aL;rw[bS,aj];refine⟨λdL=>?_,λdM=>?_⟩
   .refine (sD b4).mono ?_;rintro _ cP _ ⟨cQ,cR⟩;refine aL _ ⟨cQ.mono λr _ h=>.inl h,?_⟩;rw[decide_eq_true Ω,Bool.true_or];exact cR
   .rw[aH b7.p 1 b3 rfl];refine(Bb aX.ls λz aW=>(b0 z aW).1).mono ?_;rintro _ cP _ ⟨rfl,b5⟩;refine(sD (b4.ext b5)).mono ?_;rintro _ dN _ ⟨cS,cT⟩;refine aL _ ⟨(b5.aa _).trans (cS.mono λr _ h=>.inl h),?_⟩;rw[decide_eq_false Ω,Bool.false_or];exact cT
  rintro aY ⟨aZ,a1⟩;have dO:=aZ.size;generalize bg:a8 (decide (6<a.natAbs)||dt sizes) I=G at L a1;have cU:dX G:=λS=>by
   subst bg;have S:(I.big||_)=false:=S;exact cL (U7.1 S).1
  have dP:G.shared.length+1+G.toks.length<=100000:=by subst bg;exact cM
  have a1:dk aY g gs A B clean (σ G):=a1;refine(mc (lo:=0) (hi:=av) a1).mono ?_;rintro _ b6 _ ⟨X,o,dQ,rfl,cV,dR⟩;obtain⟨a2,cW⟩:=X.of;have dS:=a2.size;rw[bx,bz,aS b7.p rfl];have cX:=(b3.aa aZ an).aa a2 an;refine bp (g:=j) (o:=2) am.i rfl rfl cX Ξ λa6 aw dT ba=>?_;have ba:ac a6 j b7 [aM,szv,Δ o,.slice ν 0 0]:=ba;rw[aH b7.p 1 ba rfl];have cY:=cW.aa aw bC bB;have bD:ae (bG g gs A) ab b6:=aZ.trans a2;have cZ:ae (bG g gs A) w b6:=cO.trans bD;have b8:ae (bG g gs A) w a6:=hD cZ aw λr f he=>by have he:r=j:=he;omega
  have ag:∀r,leads szv r->aV.heap.size<=r/\r<ab.heap.size:=λr f=>by have:=bR aX f;omega
  have b9:au .i64 am a6 gz szv sizes:=br (br aX bD λr f y=>by have:=ad _ y;have:=ag r f;omega) aw λr f he=>by have he:r=j:=he;have:=ag r f;omega
  have c0:au .i64 am a6 gr aM scope:=br (br (br aK N λr f he=>(Q r f).2.1 he) bD λr f y=>by have:=ad _ y;have:=Q r f;omega) aw λr f he=>(Q r f).2.1 he;have dU:=aw.size;refine(LB cY (λt bE=>?_) b9.ls (λr f=>⟨λy=>by have:=ad _ y;have:=ag r f;omega,by have:=ag r f;omega⟩) b0 Ω (cn.aa b8 h1.1) h1).mono ?_
  .obtain⟨q,E,rfl⟩:=X2.1 bE;have ca:=(dK (n:=q.1) (s':=q.2) E).eqs;intro S;rw[ca.1];rw[ca.2.1]at S;exact cU S
  rintro cc c1 _ ⟨X,l,bF,cb⟩;obtain⟨ay,c2⟩:=X.of;have dV:=ay.size;have bH:cc.cells= #[cc]/\cc.oneCell'=true:=⟨kp bF,hY bF⟩;rw[aS b7.p rfl];have c3:=ba.aa ay an;refine bp (g:=j) (o:=3) iK.i bH.1 bH.2 c3 Ξ λK ah dY bb=>?_;have bb:ac K j b7 [aM,szv,Δ o,cc]:=bb;have dZ:=ah.size;have cd:=c2.aa ah bC bB;have c4:ae (bG g gs A) w c1:=b8.trans ay;have c5:ae (bG g gs A) w K:=hD c4 ah λr f he=>by have he:r=j:=he;omega
  have ce:au .i64 am K gr aM scope:=br (br c0 ay λr f y=>by have:=ad _ y;have:=Q r f;omega) ah λr f he=>(Q r f).2.1 he;have bc:au .i64 am K gz szv sizes:=br (br b9 ay λr f y=>by have:=ad _ y;have:=ag r f;omega) ah λr f he=>by have he:r=j:=he;have:=ag r f;omega
  have c6:ac K C b7 [.slice ν 0 0,.slice ν 0 0,Δ 0,.slice ν 0 0]:=((((((bV.aa N (λhe=>by have he:C=j:=he;omega)).aa aZ M).aa a2 M).aa aw (λhe=>by have he:C=j:=he;omega)).aa ay M).aa ah (λhe=>by have he:C=j:=he;omega));let P:af:=λr=>(B r\/w.heap.size<=r)/\r<K.heap.size;have ch:al.rep (α:=List (Λ×Int)) false bu (λr=>cG g gs A P r/\r≠j/\r≠C) K [cc] l:=by
   refine BW (al.aa bF ah λr f h he=>?_) λr f h=>?_
   .have he:r=j:=he;rcases h with h|h
    .exact h
    .rcases h with h|h
     .have:=W r h.2;omega
     .omega
   .rcases h with h|h
    .have:=W r h.2;exact⟨⟨h.1,.inl h.2,f⟩,Ω,Ω⟩
    .exact⟨⟨λy=>by have:=ad _ y;omega,.inr Ω,f⟩,Ω,Ω⟩
  have c7:∀r,leads aM r->cG g gs A P r/\r≠j/\r≠C:=λr f=>by
   have O:=Q r f;have ap:=(bR ce f);exact⟨⟨λy=>by have:=ad _ y;omega,.inr Ω,Ω⟩,O.2⟩
  have ci:∀r,leads szv r->cG g gs A P r/\r≠j/\r≠C:=λr f=>by
   have O:=ag r f;have ap:=(bR bc f);exact⟨⟨λy=>by have:=ad _ y;omega,.inr Ω,Ω⟩,Ω,Ω⟩
  have c8:Seen (λr=>cG g gs A P r/\r≠j/\r≠C) K [aM,szv,Δ o,cc] ((scope,sizes,o,l):hI):=BV (qE ce c7) (qE bc ci) ch;have c9:∀q,da all s=σ q->((scope,sizes,o,l):hI)=hd q.1:=λq E=>by
   rw[L]at E;obtain⟨ea,bI,rfl⟩:=X2.1 E;have O:=cb _ bI;cases aA:bd 0 av G with
   |none=>have e:a7 0 av (σ G)=ν:=aA;rw[e]at bI;cases bI
   |some ak=>
    have ap:=cV ak aA;rw[O,ap];rfl
  have db:∀v∈[aM,szv,V8 .i64 o,cc],v.oneCell'=true:=by
   intro v H;simp at H;rcases H with rfl|rfl|rfl|rfl
   .exact bn.2
   .exact bc.ls.cells.2
   .rfl
   .exact bH.2
  have cj:∀r,cG g gs A B r->cG g gs A P r/\r≠j/\r≠C:=λr f=>by
   have:=W r f.2;exact⟨⟨f.1,.inl f.2,Ω⟩,Ω,Ω⟩
  refine dh (λbK=>∃aI,ae (bG g gs A) K bK/\(∀r,aI r->A r\/K.heap.size<=r)/\∃V,lh bK g gs aI V (λr=>cG g gs A P r/\r≠j/\r≠C) clean ((da all s).map (·.2))) ?_ ?_
  .rintro bK ⟨aI,aN,aO,V,dc⟩;have eb:=aN.size;refine BX rfl db (bb.aa aN an) rfl (c6.aa aN M) λbL be=>?_;have ec:=be.size;have ck:∀r,bG g gs aI r->¬(λr=>r=C) r:=λr f he=>by
    have he:r=C:=he;subst he;rcases f with f|f|f
    .exact M (.inl f)
    .exact M (.inr (.inl f))
    .rcases aO _ f with f|f
     .exact M (.inr (.inr f))
     .omega
   have cl:∀r,(cG g gs A P r/\r≠j/\r≠C)->cG g gs aI (λr=>(B r\/w.heap.size<=r)/\r<bL.heap.size/\(r<K.heap.size\/B r)) r:=λr h=>⟨λy=>h.1.1 (y.imp id (Or.imp id λy=>(aO r y).elim id λh'=>by have:=h.1.2.2;omega)),h.1.2.1,by have:=h.1.2.2;omega,.inl h.1.2.2⟩;have dd:lh bL g gs aI V (λr=>cG g gs A P r/\r≠j/\r≠C) clean ((da all s).map (·.2)):=dc.aa be (ck g (.inl rfl)) (λr f _=>ck r f) (λr f=>f.2.2);refine⟨aI,λr=>(B r\/w.heap.size<=r)/\r<bL.heap.size/\(r<K.heap.size\/B r),_,(scope,sizes,o,l),rfl,rfl,hD (c5.trans aN) be λr f he=>by have he:r=C:=he;omega,λr f=>(aO r f).imp id λh=>Ω,λr f=>⟨f.1,f.2.1⟩,λr f=>⟨.inl f,by have:=W r f;omega,.inr f⟩,dd.out cl λr f=>f.2.1,?_,c9⟩;refine BW (al.aa (al.aa c8 aN λr _ h y=>?_) be λr _ h he=>?_) λr _ h=>cl r h
   .rcases h with h|h
    .exact h
    .exact h.1.1 y
   .rcases h with h|h
    .exact h
    .exact h.2.2 he
  .intro ax aL;rw[aj];refine⟨λde=>?_,λdf=>?_⟩
   .intro bM aB _ _;have ed:=aB.size;have dg:∀r,(cG g gs A P r/\r≠j/\r≠C)->cG g gs A (pp bM.heap.size) r:=λr h=>⟨h.1.1,by have:=h.1.2.2;show r<bM.heap.size;omega⟩;refine LD (R:=λr=>cG g gs A P r/\r≠j/\r≠C) (z:=sizes) (l:=l) (cd.ext aB) cj dg (λt bE=>?_) (bb.ext aB) (qE (bc.ext aB) ci) (bm ch aB) λee aI dj aO dl=>?_
    .obtain⟨q,E,rfl⟩:=X2.1 bE;cases aA:bd 0 av G with
     |none=>have e:a7 0 av (σ G)=ν:=aA;rw[e]at E;cases E
     |some ak=>
      have e:a7 0 av (σ G)=σ ak:=aA;rw[e]at E;have h1:q.2.shared=ak.2.shared/\q.2.toks.length<=ak.2.toks.length:=BY (l:=q.1) (s':=q.2) E;have O:=dK (n:=ak.1) (s':=ak.2) aA;have ap:=O.eqs.2.2;have ef:=O.1;rw[h1.1,ap];have:=h1.2;omega
    .refine aL _ ⟨aI,(aB.aa _).trans dj,λr f=>(aO r f).imp id λh=>Ω,pp bM.heap.size,?_⟩;have e:(da all s).map (·.2)=((iW sizes ((a7 0 av (σ G)).map (·.2))).map (·.2)).map (sS sizes l):=by
      rw[L];cases E:iW sizes ((a7 0 av (σ G)).map (·.2))with
      |none=>rfl
      |some q=>
       have O:=cb _ E;simp only[Z7,if_pos de,O]
     rw[e];exact dl
   .refine aL _ ⟨A,ae.refl _ _,λr f=>.inl f,B,?_⟩;have e:(da all s).map (·.2)=(iW sizes ((a7 0 av (σ G)).map (·.2))).map (·.2):=by
     rw[L];cases E:iW sizes ((a7 0 av (σ G)).map (·.2))with
     |none=>rfl
     |some q=>simp only[Z7,if_neg df]
    rw[e];exact cd.qr cj
def ky(l:Λ):Prop:=∀v∈l,0<=v/\v<64
def qF(h:ky l){v:Int}:v∈bo l↔v∈l:=by
 unfold bo;rw[S7,decide_eq_true_eq];refine⟨λh=>h.2,λa=>⟨?_,a⟩⟩;obtain⟨h1,e⟩:=h v a;exact l9.2 ⟨v.toNat,List.mem_range.2 Ω,Ω⟩
def LH(l:Λ):ky (bo l):=λv a=>by
 obtain⟨n,e,rfl⟩:=l9.1 (S7.1 a).1;have:=List.mem_range.1 e;omega
def v7(l:Λ):(bo l).Pairwise (·< ·):=by
 unfold bo;refine List.Pairwise.filter _ ?_;rw[List.pairwise_map];exact List.pairwise_lt_range.imp λh=>Ω
def BZ(l:Λ):(bo l).Nodup:=(v7 l).imp λh=>Ω
where
 nodup_le' {a b:Λ} (h:a.Nodup) (I:∀x∈a,x∈b):a.length<=b.length:=by
  induction a generalizing b with
  |nil=>exact X8 _
  |cons x a ih=>
   have h':=List.nodup_cons.1 h;have hx:=I x (.head _);have:=ih (b:=b.erase x) h'.2 λy hy=>(List.mem_erase_of_ne (λ(he:y=x)=>h'.1 (by rw[<-he];exact hy))).2 (I y (.tail _ hy));rw[List.length_erase_of_mem hx]at this;have:=List.length_pos_of_mem hx;rw[Z2];omega
def B1(n:Nat):(0:Int)<64 ^ n:=Int.pow_pos Ω
theorem sT:∀(l:Λ),ky l->0<=jr l/\jr l<64 ^ l.length
 |[],_=>by simp[jr]
 |x::l,h=>by
  have j:=sT l λy a=>h y (.tail _ a);have f:=h x (.head _);have p:=B1 l.length;simp only[jr,Z2];have e:(64:Int) ^ (l.length+1)=64*64 ^ l.length:=by rw[Int.pow_succ,Int.mul_comm]
  have h1:x*64 ^ l.length<=63*64 ^ l.length:=Int.mul_le_mul_of_nonneg_right Ω Ω;have q:0<=x*64 ^ l.length:=Int.mul_nonneg f.1 Ω;rw[e];omega
def fY:Λ->Λ->Int
 |x::a,y::b=>if x<y then-1 else if y<x then 1 else fY a b
 |[],[]=>0
 |[],_::_=>-1
 |_::_,[]=>1
theorem B2:∀(a b:Λ),a.length=b.length->ky a->ky b->(fY a b<0↔jr a<jr b)/\(fY a b=0↔a=b)/\(jr a=jr b->a=b)
 |[],[],_,_,_=>by simp[fY]
 |[],_::_,h,_,_=>by simp at h
 |_::_,[],h,_,_=>by simp at h
 |x::a,y::b,h,s,w=>by
  have p:a.length=b.length:=by simpa using h
  have q:ky a:=λz e=>s z (.tail _ e);have r:ky b:=λz e=>w z (.tail _ e);have f:=B2 a b p q r;have A:=sT a q;have C:=sT b r;have E:=B1 b.length;simp only[fY,jr];rw[p]at A ⊢;have step:∀u v:Int,u<v->u*64 ^ b.length+64 ^ b.length<=v*64 ^ b.length:=λu v F=>by
   have:=Int.mul_le_mul_of_nonneg_right (show u+1<=v by omega) (show(0:Int)<=64 ^ b.length by omega);rw[Int.add_mul,Int.one_mul]at this;exact this
  by_cases h1:x<y
  .rw[if_pos h1];have:=step x y h1;exact⟨⟨λ_=>Ω,λ_=>Ω⟩,⟨λh=>Ω,λh=>by have:=(List.cons.inj h).1;omega⟩,λh=>Ω⟩
  .rw[if_neg h1];by_cases j:y<x
   .rw[if_pos j];have:=step y x j;exact⟨⟨λh=>Ω,λh=>Ω⟩,⟨λh=>Ω,λh=>by have:=(List.cons.inj h).1;omega⟩,λh=>Ω⟩
   .rw[if_neg j];have B:x=y:=Ω
    subst B;exact⟨f.1.trans ⟨λh=>Ω,λh=>Ω⟩,f.2.1.trans ⟨λh=>by rw[h],λh=>(List.cons.inj h).2⟩,λh=>by rw[f.2.2 Ω]⟩
def jt(l:Λ):Prop:=ky l/\l.length<=6
def B3(h:jt l):0<=jr l/\jr l<64 ^ 6:=by
 have:=sT l h.1;have e:(64:Int) ^ l.length<=64 ^ 6:=by
  have a:=h.2
  match l.length,a with
  |0,_=>decide
  |1,_=>decide
  |2,_=>decide
  |3,_=>decide
  |4,_=>decide
  |5,_=>decide
  |6,_=>decide
  |n+7,h=>omega
 omega
def wa{a b:Λ}(j:jt a)(p:jt b):(db a<db b↔a.length<b.length\/(a.length=b.length/\fY a b<0))/\(db a=db b->a=b):=by
 have h1:=B3 j;have q:=B3 p;have e:(64:Int) ^ 6=68719476736:=Φ
 rw[e]at h1 q;unfold db;rw[e];by_cases f:a.length=b.length
 .have:=B2 a b f j.1 p.1;rw[f];exact⟨⟨λh=>.inr ⟨rfl,this.1.2 Ω⟩,λh=>by
   rcases h with h|⟨_,h⟩
   .omega
   .have:=this.1.1 h;omega⟩,λh=>this.2.2 Ω⟩
 .exact⟨⟨λh=>.inl Ω,λh=>by
   rcases h with h|⟨h,_⟩
   .omega
   .exact absurd h f⟩,λh=>Ω⟩
theorem sU(g:cJ):∀l:List cJ,(hF g l).Perm (g::l)
 |[]=>List.Perm.refl _
 |h::l=>by
  unfold hF;split
  .exact ((sU g l).cons h).trans (List.Perm.swap g h l)
  .exact List.Perm.refl _
theorem B4{g:cJ}:∀{l:List cJ},l.Pairwise (λa b=>db a.1<db b.1)->(∀h∈l,db h.1≠db g.1)->(hF g l).Pairwise (λa b=>db a.1<db b.1)
 |[],_,_=>by simp[hF]
 |h::l,j,p=>by
  have f:=List.pairwise_cons.1 j;unfold hF;split
  .rename_i q;refine List.pairwise_cons.2 ⟨λx e=>?_,B4 f.2 λx e=>p x (.tail _ e)⟩;rcases V4.1 ((sU g l).mem_iff.1 e)with rfl|e
   .exact q
   .exact f.1 x e
  .rename_i r;have:=p h (.head _);refine List.pairwise_cons.2 ⟨λx e=>?_,j⟩;rcases V4.1 e with rfl|e
   .omega
   .have:=f.1 x e;omega
theorem B5:∀(l acc:List cJ),acc.Pairwise (λa b=>db a.1<db b.1)->l.Pairwise (λa b=>db a.1≠db b.1)->(∀a∈acc,∀b∈l,db a.1≠db b.1)->
  (l.foldl (λl g=>hF g l) acc).Pairwise (λa b=>db a.1<db b.1)/\(l.foldl (λl g=>hF g l) acc).Perm (acc++l)
 |[],acc,h,_,_=>⟨h,Ξ⟩
 |g::l,acc,h,q,f=>by
  have j:=List.pairwise_cons.1 q;have:=B5 l (hF g acc) (B4 h λa e=>f a e g (.head _)) j.2 λa e b p=>by
   rcases V4.1 ((sU g acc).mem_iff.1 e)with rfl|e
   .exact j.1 b p
   .exact f a e b (.tail _ p)
  refine⟨this.1,this.2.trans ?_⟩;exact((sU g acc).append_right l).trans (List.perm_middle (a:=g) (l₁:=acc) (l₂:=l)).symm
theorem wb{α:Type}{f:α->Int}:∀{L M:List α},L.Pairwise (λa b=>f a<f b)->M.Pairwise (λa b=>f a<f b)->(∀x,x∈L↔x∈M)->L=M
 |[],M,_,_,h=>by
  cases M with
  |nil=>rfl
  |cons y M=>exact absurd ((h y).2 (.head _)) Ξ
 |x::L,[],_,_,h=>absurd ((h x).1 (.head _)) Ξ
 |x::L,y::M,h1,q,h=>by
  have j:=List.pairwise_cons.1 h1;have p:=List.pairwise_cons.1 q;have r:x=y:=by
   rcases V4.1 ((h x).1 (.head _))with he|hm
   .exact he
   .rcases V4.1 ((h y).2 (.head _))with he|s
    .exact he.symm
    .have a:=p.1 x hm;have b:=j.1 y s;omega
  subst r;rw[wb j.2 p.2 λz=>⟨λe=>?_,λe=>?_⟩]
  .rcases V4.1 ((h z).1 (.tail _ e))with he|hm
   .subst he;have:=j.1 z e;omega
   .exact hm
  .rcases V4.1 ((h z).2 (.tail _ e))with he|hm
   .subst he;have:=p.1 z e;omega
   .exact hm
structure fw(sizes:Λ)(k:Int)(g:cJ):Prop where
 scope:jt g.1
 up:g.1.Pairwise (·< ·)
 vars:∀v∈g.1,v<sizes.length
 len:g.2.length=(aN (bI sizes g.1)).toNat
 small:aN (bI sizes g.1)<=4096
 h7:∀c∈g.2,0<=c/\c<=k
def me{sc:Λ}(e:∀z∈sizes,1<=z/\z<=32)(f:∀v∈sc,0<=v/\v<sizes.length):∀z∈bI sizes sc,1<=z/\z<=32:=λz h=>by
 obtain⟨v,j,rfl⟩:=l9.1 h;obtain⟨h1,p⟩:=f v j;have a:v.toNat<sizes.length:=Ω
 rw[u4,x7 a];exact e _ (S4 a)
def LI{a b:Λ}(h:a.Perm b):aN a=aN b:=by
 induction h with
 |nil=>rfl
 |cons x _ e=>simp only[aN,e]
 |swap x y l=>simp only[aN];rw[<-Int.mul_assoc,<-Int.mul_assoc,Int.mul_comm y x]
 |trans _ _ h1 f=>exact h1.trans f
def LJ{a b:Λ}(h:a.length=b.length):(ee k a b).length=b.length:=by simp[ee,h]
def LK{a b:Λ}(hk:0<=k)(f:∀c∈a,0<=c/\c<=k)(j:∀c∈b,0<=c/\c<=k):∀c∈ee k a b,0<=c/\c<=k:=by
 induction a generalizing b with
 |nil=>intro c e;simp[ee]at e
 |cons x a p=>
  cases b with
  |nil=>intro c e;simp[ee]at e
  |cons y b=>
   intro c e;have q:=f x (.head _);have r:=j y (.head _);rcases V4.1 (show c∈min (x+y) k::ee k a b from e)with rfl|e
   .omega
   .exact p (λc h=>f c (.tail _ h)) (λc h=>j c (.tail _ h)) c e
def iX(l:List cJ):Prop:=(l.map (·.1)).Nodup
def LL{acc:List cJ}{g:cJ}(hk:0<=k)(j:∀h∈acc,fw sizes k h)(p:iX acc)(a:fw sizes k g):(∀h∈iv k acc g,fw sizes k h)/\iX (iv k acc g)/\(iv k acc g).length<=acc.length+1:=by
 unfold iv;split
 .refine⟨λh ap=>?_,?_,Ξ⟩
  .obtain⟨f,hm,rfl⟩:=l9.1 ap;have h1:=j f hm;split
   .rename_i he;have r:f.2.length=g.2.length:=by rw[h1.len,a.len,he]
    exact⟨h1.scope,h1.up,h1.vars,by show(ee k f.2 g.2).length=_;rw[LJ r,a.len,he],h1.small,LK hk h1.h7 a.h7⟩
   .exact h1
  .unfold iX;rw[R6];have e:((λx:cJ=>x.1)∘λh:cJ=>if h.1=g.1 then(h.1,ee k h.2 g.2)else h)=λx:cJ=>x.1:=by
    funext h;simp only[Function.comp];split<;>rfl
   rw[e];exact p
 .rename_i s;refine⟨λh ap=>?_,?_,Ξ⟩
  .rcases j0.1 ap with ap|ap
   .exact j h ap
   .rw[j6.1 ap];exact a
  .unfold iX;rw[Z4];exact List.nodup_append.2 ⟨p,Ξ,λx w y q he=>by
    simp only[T0,List.map_nil,j6]at q;subst q;subst he;exact s w⟩
theorem wc{sizes:Λ}{k:Int}(hk:0<=k):∀{l acc:List cJ},(∀h∈acc,fw sizes k h)->iX acc->(∀g∈l,fw sizes k g)->(∀h∈l.foldl (iv k) acc,fw sizes k h)/\iX (l.foldl (iv k) acc)/\(l.foldl (iv k) acc).length<=acc.length+l.length
 |[],acc,a,e,_=>⟨a,e,Ξ⟩
 |g::l,acc,a,e,f=>by
  obtain⟨h1,j,s⟩:=LL hk a e (f g (.head _));obtain⟨p,q,w⟩:=wc hk h1 j λx r=>f x (.tail _ r);exact⟨p,q,by simp only[S0,Z2];omega⟩
theorem B6{α:Type}[DecidableEq α]:∀{a b:List α},a.Nodup->b.Nodup->(∀x,x∈a↔x∈b)->a.Perm b
 |[],b,_,_,h=>by
  cases b with
  |nil=>exact .refl _
  |cons y b=>exact absurd ((h y).2 (.head _)) Ξ
 |x::a,b,p,f,h=>by
  have q:=(h x).1 (.head _);have j:=List.nodup_cons.1 p;refine .trans ?_ (List.perm_cons_erase q).symm;refine .cons x (B6 j.2 (f.erase x) λy=>?_);rw[f.mem_erase_iff];refine⟨λe=>⟨λhe=>j.1 (he▸e),(h y).1 (.tail _ e)⟩,λ⟨r,e⟩=>?_⟩;rcases V4.1 ((h y).2 e)with he|hm
  .exact absurd he r
  .exact hm
def sV(h:ky l)(a:l.Nodup):(bo l).Perm l:=B6 (BZ l) a λ_=>qF h
theorem we:∀{l:Λ},(∀z∈l,1<=z/\z<=32)->l.map (λz=>min z 4097)=l
 |[],_=>rfl
 |z::l,h=>by
  have e:=h z (.head _);rw[T0,we λx a=>h x (.tail _ a)];congr 1;omega
def LM{x:cv}(hk:0<=k)(f:0<=x.other)(a:∀p∈x.lines,0<=p.2):0<=jQ x k t/\jQ x k t<=k:=by
 unfold jQ;cases e:x.lines.find? (λp=>decide (p.1=t))with
 |none=>simp only;omega
 |some p=>have:=a p (List.mem_of_find?_eq_some e);simp only;omega
def sW{x:cv}(h:sz all N x)(e:all.length<=64):ky x.scope:=λv a=>by
 have:=h.scope.2 v a;omega
def pq{f:cb}{x:cv}(a:fd N f)(s:x∈f.funs):fw f.sizes f.k (h5 f.sizes f.k x):=by
 obtain⟨h1,w,h⟩:=a.funs x s;have y:=a.sizes.2.1;have j:=sW h1 y;have e:=sV j h1.scope.1;have q:∀v∈bo x.scope,0<=v/\v<f.sizes.length:=λv hm=>h1.scope.2 v ((qF j).1 hm);have A:=me a.sizes.2.2 q;have B:aN (bI f.sizes (bo x.scope))=aN x.sizes:=by rw[h1.sizes];exact LI (e.map _)
 refine⟨⟨LH _,?_⟩,v7 _,λv hm=>(q v hm).2,?_,?_,λc C=>?_⟩
 .show (bo x.scope).length<=6;rw[e.length_eq];exact w
 .show ((bc _).map _).length=_;rw[u7,io A];rfl
 .show aN (bI f.sizes (bo x.scope))<=4096;have E:∀z∈x.sizes,1<=z/\z<=32:=λz r=>by
   rw[h1.sizes]at r;exact me a.sizes.2.2 (λv hm=>h1.scope.2 v hm) z r
  unfold dt at h;rw[we E,decide_eq_false_iff_not]at h;rw[B];omega
 .obtain⟨t,_,rfl⟩:=l9.1 C;exact LM (by have:=a.k.1;omega) h1.other λp e=>(h1.lines.2 p e).2
def lj{f:cb}(a:fd N f):(∀g∈ft f,fw f.sizes f.k g)/\iX (ft f)/\(ft f).length<=f.funs.length:=by
 have:=wc (sizes:=f.sizes) (k:=f.k) (by have:=a.k.1;omega) (l:=f.funs.map (h5 f.sizes f.k)) (acc:=[]) (λh ap=>by cases ap) List.nodup_nil λg j=>by
  obtain⟨x,p,rfl⟩:=l9.1 j;exact pq a p
 refine⟨this.1,this.2.1,?_⟩;have e:=this.2.2;rw[List.length_nil,u7,X6]at e;exact e
def B7{l:List cJ}(e:∀g∈l,fw sizes k g)(f:iX l):l.Pairwise λa b=>db a.1≠db b.1:=by
 have h1:l.Pairwise λa b=>a.1≠b.1:=by
  unfold iX List.Nodup at f;rwa [List.pairwise_map]at f
 exact h1.imp_of_mem λ{a b}h j p he=>p ((wa (e a h).scope (e b j).scope).2 he)
def qG{f:cb}(h:fd N f):(fI f).Pairwise (λa b=>db a.1<db b.1)/\(fI f).Perm ((ft f).filter fH):=by
 obtain⟨h1,j,_⟩:=lj h;have p:∀g∈(ft f).filter fH,fw f.sizes f.k g:=λg q=>h1 g (S7.1 q).1;have r:iX ((ft f).filter fH):=(List.Sublist.map _ List.filter_sublist).nodup j;have:=B5 ((ft f).filter fH) [] List.Pairwise.nil (B7 p r) λa s=>by cases s
 refine⟨this.1,?_⟩;have e:=this.2;rw[List.nil_append]at e;exact e
def sX{f:cb}(a:fd N f):∀g∈fI f,fw f.sizes f.k g:=λg e=>(lj a).1 g (S7.1 ((qG a).2.mem_iff.1 e)).1
def LN{f:cb}(e:fd N f){M:List cJ}(h:M.Perm ((ft f).filter fH))(I:M.Pairwise λa b=>db a.1<=db b.1):M=fI f:=by
 obtain⟨h1,j⟩:=qG e;have p:iX ((ft f).filter fH):=(List.Sublist.map _ List.filter_sublist).nodup (lj e).2.1;have q:iX M:=(h.map (λg:cJ=>g.1)).nodup_iff.2 p;have r:∀g∈M,fw f.sizes f.k g:=λg s=>(lj e).1 g (S7.1 (h.mem_iff.1 s)).1;have w:=B7 r q;refine wb (f:=λg:cJ=>db g.1) ?_ h1 λx=>by rw[h.mem_iff,j.mem_iff]
 exact I.imp₂ (λa b h1 j=>Int.lt_iff_le_and_ne.2 ⟨h1,j⟩) w
structure jV(n:aK):Prop where
 k:1<=n.k/\n.k<=2147483648
 sizes:1<=n.sizes.length/\n.sizes.length<=64/\∀z∈n.sizes,1<=z/\z<=32
 zero:0<=n.zero/\n.zero<=n.k
 kz:n.unary.length=n.sizes.length
 unary:∀(i:Nat)(z:Int)(u:Λ),n.sizes[i]?=σ z->n.unary[i]?=σ u->u.length=z.toNat/\∀c∈u,0<=c/\c<=n.k
 funs:∀g∈n.funs,fw n.sizes n.k g/\2<=g.1.length
def LO(z:Int):aN [z]=z:=by simp[aN]
theorem sY:∀{l:List cJ}{n:aK},jV n->(∀g∈l,fw n.sizes n.k g)->jV (l.foldl (λn g=>match g.1 with
 |[]=>{n with zero:=g.2.getD 0 0}
 |[v]=>{n with unary:=n.unary.set v.toNat g.2}
 |_=>{n with funs:=n.funs++[g]}) n)/\(l.foldl (λn g=>match g.1 with
 |[]=>{n with zero:=g.2.getD 0 0}
 |[v]=>{n with unary:=n.unary.set v.toNat g.2}
 |_=>{n with funs:=n.funs++[g]}) n).sizes=n.sizes
 |[],n,h,_=>⟨h,rfl⟩
 |g::l,n,h,p=>by
  have e:=p g (.head _);have j:∀x∈l,fw n.sizes n.k x:=λx f=>p x (.tail _ f);rw[S0];obtain⟨sc,cs⟩:=g
  match sc,e with
  |[],e=>
   have s:=e.len;refine sY (n:={n with zero:=cs.getD 0 0}) ⟨h.k,h.sizes,?_,h.kz,h.unary,h.funs⟩ j;have h1:cs.length=1:=by simpa[bI,aN]using s
   have w:cs[0]?=σ (cs.getD 0 0):=by rw[u4,x7 Ω];rfl
   exact e.h7 _ (x6 w)
  |[v],e=>
   have A:=e.scope.1 v (.head _);have B:=e.vars v (.head _);refine sY (n:={n with unary:=n.unary.set v.toNat cs}) ⟨h.k,h.sizes,h.zero,by show(n.unary.set _ _).length=_;rw[Z9];exact h.kz,λi z u q hu=>?_,h.funs⟩ j;by_cases hi:v.toNat=i
   .subst hi;have C:=h.kz;rw[b8 Ω]at hu;cases hu;have y:bI n.sizes [v]=[z]:=by
     simp only[bI,T0,List.map_nil];rw[u4,q];rfl
    refine⟨?_,e.h7⟩;have:=e.len;rw[y,LO]at this;exact this
   .rw[Y4 hi]at hu;exact h.unary i z u q hu
  |a::b::r,e=>
   refine sY (n:={n with funs:=n.funs++[(a::b::r,cs)]}) ⟨h.k,h.sizes,h.zero,h.kz,h.unary,λx f=>?_⟩ j;rcases j0.1 f with f|f
   .exact h.funs x f
   .rw[j6.1 f];exact⟨e,Ξ⟩
def B8{f:cb}(a:fd N f):jV (cH f)/\(cH f).sizes=f.sizes:=by
 unfold cH;have h:=a.sizes;refine sY (n:=⟨f.k,f.sizes,0,f.sizes.map λz=>o5 z.toNat 0,[]⟩) ⟨a.k,h,⟨by show(0:Int)<=0;omega,by show(0:Int)<=f.k;have:=a.k.1;omega⟩,Ξ,λi z u h1 e=>?_,λg j=>by cases j⟩ (sX a);have e:(f.sizes.map λz=>o5 z.toNat (0:Int))[i]?=σ u:=e;have h1:f.sizes[i]?=σ z:=h1;rw[v8,h1]at e;cases e;refine⟨Ξ,λc p=>?_⟩;rw[(List.mem_replicate.1 p).2];have:=a.k.1;exact⟨Int.le_refl _,by show(0:Int)<=f.k;omega⟩
end Go.Proofs.YtikkpokkcdocoaaGreatDoor
