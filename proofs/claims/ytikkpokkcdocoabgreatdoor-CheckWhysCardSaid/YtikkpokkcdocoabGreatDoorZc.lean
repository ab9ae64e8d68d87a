/- own texts, made small by a tool (wip/ holds them as they were written): no statement of the seat. -/
import Derived.Test.YtikkpokkcdocoabGreatDoorZb
set_option linter.defProp false
set_option linter.unusedVariables false
set_option linter.unusedSimpArgs false
set_option linter.unnecessarySimpa false
open Array renaming getElem?_eq_some_iff→j9,getElem?_toList→R6
open Bool renaming not_true→X2,not_false→V8,eq_iff_iff→U6,or_eq_false_iff→R5
open Decidable renaming not_not→Y3
open Go renaming Value→x1,World→x3,TypeId→p8,IntKind→n9,Builtin→Z6,Program→W9,FuncId→Q4
open Go.Addr renaming add_mid→T4
open Go.Builtin renaming append_→Z5,len_→U1
open Go.Instr renaming loadAt→u5,fieldAt→u6,storeAt→l9,indexAt→c9,extract→Y4,buildSlice→Y5,sliceAt→U5,alloc→Q6
open Go.IntKind renaming i64→W5
open Go.Proofs.Tryz renaming prog→x7
open Go.Value renaming int→U3
open Int renaming toNat_natCast→u7
open List renaming getElem?_eq_some_iff→x4,mem_of_getElem?→x5,getElem?_eq_getElem→x6,getElem?_map→x8,getD_eq_getElem?_getD→u4,take_add_one→u9,length_append→r8,length_map→r9,mem_append→p9,replicate→o8,take_length→o9,mem_singleton→j5,length_take→j6,mem_map→c7,eq_nil_of_length_eq_zero→b6,getElem?_set_self→b8,length_cons→b9,length_set→Z0,take_of_length_le→Z2,range→Z4,getElem?_eq_none→Z7,map_append→Z9,getElem?_take_of_lt→Y2,getElem?_set_ne→Y6,append_nil→Y8,ext_getElem?→Y9,getElem?_append_left→X0,getElem?_append_right→X1,getElem?_set→X4,drop_eq_getElem_cons→X5,append_assoc→X6,mem_iff_getElem?→W3,mem_range→W8,flatMap_cons→V0,pairwise_iff_getElem→V3,mem_or_eq_of_mem_set→V4,mem_cons→V5,length_eq_one_iff→V7,map_set→T0,mem_filter→T2,map_cons→T3,length_singleton→T7,set_append_right→S2,getElem_mem→S3,mem_of_mem_take→S4,map_map→S6,foldl_cons→S8,length→R2,foldl_append→R3,length_filter_le→Q2
open Nat renaming le_refl→o4,le_trans→X3,zero_le→X8,zero_add→W0,mul_le_mul_right→V1,mul_one→U7,add_mul→U8,sub_self→U9,add_assoc→Q1,add_sub_cancel_left→Q3,lt_of_lt_of_le→Q7,eq_zero_or_pos→Q8
open Option renaming toList_some→j4,some→c8,isNone_some→Y0,map_some→Y1,map_eq_some_iff→X7,getD_some→V2,map→U4
open Option.some renaming inj→Z3,injEq→Y7
open Prod.mk renaming injEq→T6
set_option maxHeartbeats 16000000
open Option renaming some→σ,none→ν
variable{a al l scope sizes t:Λ}{bl bv sv v:x1}{c k y:Int}{B N ag gT gs j n r z:Nat}{cs:List x1}{J w w0:x3}{e:p8}{S:Nat->Prop}{K:x1->x3->Prop}
namespace Go.Proofs.YtikkpokkcdocoabGreatDoor
open Go Go.Vc Go.RowKit Go.Proofs Go.Proofs.Tryz
set_option maxRecDepth 100000
def nw(l:Λ):Prop:=∀v∈l,0<=v/\v<64
def sd(h:nw l){v:Int}:v∈bx l↔v∈l:=by
 unfold bx;rw[T2,decide_eq_true_eq];refine⟨λh=>h.2,λae=>⟨?_,ae⟩⟩;obtain⟨h1,a⟩:=h v ae;exact c7.2 ⟨v.toNat,W8.2 Ω,Ω⟩
def NP(l:Λ):nw (bx l):=λv ae=>by
 obtain⟨n,a,rfl⟩:=c7.1 (T2.1 ae).1;have:=W8.1 a;omega
def xO(l:Λ):(bx l).Pairwise (·< ·):=by
 unfold bx;refine List.Pairwise.filter _ ?_;rw[List.pairwise_map];exact List.pairwise_lt_range.imp λh=>Ω
def DM(l:Λ):(bx l).Nodup:=(xO l).imp λh=>Ω
where
 nodup_le' {a b:Λ} (h:a.Nodup) (V:∀x∈a,x∈b):a.length<=b.length:=by
  induction a generalizing b with
  |nil=>exact X8 _
  |cons x a ih=>
   have a7:=List.nodup_cons.1 h;have U:=V x (.head _);have:=ih a7.2 λy hy=>(List.mem_erase_of_ne (λ(he:y=x)=>a7.1 (by rw[<-he];exact hy))).2 (V y (.tail _ hy));rw[List.length_erase_of_mem U]at this;have:=List.length_pos_of_mem U;rw[b9];omega
def DN(n:Nat):(0:Int)<64 ^ n:=Int.pow_pos Ω
theorem uO:∀(l:Λ),nw l->0<=kJ l/\kJ l<64 ^ l.length
 |[],_=>by simp[kJ]
 |x::l,h=>by
  have:=uO l λy a=>h y (.tail _ a);have U:=h x (.head _);have:=DN l.length;simp only[kJ,b9];have e:(64:Int) ^ (l.length+1)=64*64 ^ l.length:=by rw[Int.pow_succ,Int.mul_comm]
  have h1:x*64 ^ l.length<=63*64 ^ l.length:=Int.mul_le_mul_of_nonneg_right Ω Ω;have q:0<=x*64 ^ l.length:=Int.mul_nonneg U.1 Ω;rw[e];omega
def jJ:Λ->Λ->Int
 |x::a,y::b=>if x<y then-1 else if y<x then 1 else jJ a b
 |[],[]=>0
 |[],_::_=>-1
 |_::_,[]=>1
theorem DO:∀(a b:Λ),a.length=b.length->nw a->nw b->(jJ a b<0↔kJ a<kJ b)/\(jJ a b=0↔a=b)/\(kJ a=kJ b->a=b)
 |[],[],_,_,_=>by simp[jJ]
 |[],_::_,h,_,_=>by simp at h
 |_::_,[],h,_,_=>by simp at h
 |x::a,y::b,h,w,A=>by
  have q:a.length=b.length:=by simpa using h
  have r:=λz e=>w z (.tail _ e);have s:=λz e=>A z (.tail _ e);have f:=DO a b q r s;have B:=uO a r;have E:=uO b s;have F:=DN b.length;simp only[jJ,kJ];rw[q]at B ⊢;have step:∀u v:Int,u<v->u*64 ^ b.length+64 ^ b.length<=v*64 ^ b.length:=λu v G=>by
   have:=Int.mul_le_mul_of_nonneg_right (show u+1<=v by omega) (show(0:Int)<=64 ^ b.length by omega);rw[Int.add_mul,Int.one_mul]at this;exact this
  by_cases h1:x<y
  .rw[if_pos h1];have:=step x y h1;exact⟨⟨λ_=>Ω,λ_=>Ω⟩,⟨λh=>Ω,λh=>by have:=(List.cons.inj h).1;omega⟩,λh=>Ω⟩
  .rw[if_neg h1];by_cases p:y<x
   .rw[if_pos p];have:=step y x p;exact⟨⟨λh=>Ω,λh=>Ω⟩,⟨λh=>Ω,λh=>by have:=(List.cons.inj h).1;omega⟩,λh=>Ω⟩
   .rw[if_neg p];have C:x=y:=Ω
    subst C;exact⟨f.1.trans ⟨λh=>Ω,λh=>Ω⟩,f.2.1.trans ⟨λh=>by rw[h],λh=>(List.cons.inj h).2⟩,λh=>by rw[f.2.2 Ω]⟩
def lh(l:Λ):Prop:=nw l/\l.length<=6
def DP(h:lh l):0<=kJ l/\kJ l<64 ^ 6:=by
 have:=uO l h.1;have e:(64:Int) ^ l.length<=64 ^ 6:=by
  have a:=h.2
  match l.length,a with
  |0,_=>decide
  |1,_=>decide
  |2,_=>decide
  |3,_=>decide
  |4,_=>decide
  |5,_=>decide
  |6,_=>decide
  |n+7,h=>omega
 omega
def xP{b:Λ}(p:lh a)(q:lh b):(de a<de b↔a.length<b.length\/(a.length=b.length/\jJ a b<0))/\(de a=de b->a=b):=by
 have h1:=DP p;have r:=DP q;have e:(64:Int) ^ 6=68719476736:=Φ
 rw[e]at h1 r;unfold de;rw[e];by_cases f:a.length=b.length
 .have:=DO a b f p.1 q.1;rw[f];exact⟨⟨λh=>.inr ⟨F,this.1.2 Ω⟩,λh=>by
   rcases h with h|⟨_,h⟩
   .omega
   .have:=this.1.1 h;omega⟩,λh=>this.2.2 Ω⟩
 .exact⟨⟨λh=>.inl Ω,λh=>by
   rcases h with h|⟨h,_⟩
   .omega
   .exact absurd h f⟩,λh=>Ω⟩
theorem uP(g:cK):∀l:List cK,(iO g l).Perm (g::l)
 |[]=>List.Perm.refl _
 |h::l=>by
  unfold iO;split
  .exact ((uP g l).cons h).trans (List.Perm.swap g h l)
  .exact List.Perm.refl _
theorem DQ{g:cK}:∀{l:List cK},l.Pairwise (λa b=>de a.1<de b.1)->(∀h∈l,de h.1≠de g.1)->(iO g l).Pairwise (λa b=>de a.1<de b.1)
 |[],_,_=>by simp[iO]
 |h::l,f,p=>by
  have e:=List.pairwise_cons.1 f;unfold iO;split
  .rename_i q;refine List.pairwise_cons.2 ⟨λx U=>?_,DQ e.2 λx U=>p x (.tail _ U)⟩;rcases V5.1 ((uP g l).mem_iff.1 U)with rfl|U
   .exact q
   .exact e.1 x U
  .rename_i r;have:=p h (.head _);refine List.pairwise_cons.2 ⟨λx U=>?_,f⟩;rcases V5.1 U with rfl|U
   .omega
   .have:=e.1 x U;omega
theorem DR:∀(l acc:List cK),acc.Pairwise (λa b=>de a.1<de b.1)->l.Pairwise (λa b=>de a.1≠de b.1)->(∀a∈acc,∀b∈l,de a.1≠de b.1)->
  (l.foldl (λl g=>iO g l) acc).Pairwise (λa b=>de a.1<de b.1)/\(l.foldl (λl g=>iO g l) acc).Perm (acc++l)
 |[],acc,h,_,_=>⟨h,Ξ⟩
 |g::l,acc,h,r,f=>by
  have p:=List.pairwise_cons.1 r;have:=DR l (iO g acc) (DQ h λa e=>f a e g (.head _)) p.2 λa e b q=>by
   rcases V5.1 ((uP g acc).mem_iff.1 e)with rfl|e
   .exact p.1 b q
   .exact f a e b (.tail _ q)
  refine⟨this.1,this.2.trans ?_⟩;exact((uP g acc).append_right l).trans (List.perm_middle).symm
theorem xQ{α:Type}{f:α->Int}:∀{L M:List α},L.Pairwise (λa b=>f a<f b)->M.Pairwise (λa b=>f a<f b)->(∀x,x∈L↔x∈M)->L=M
 |[],M,_,_,h=>by
  cases M with
  |nil=>rfl
  |cons y M=>exact absurd ((h y).2 (.head _)) Ξ
 |x::L,[],_,_,h=>absurd ((h x).1 (.head _)) Ξ
 |x::L,y::M,h1,r,h=>by
  have p:=List.pairwise_cons.1 h1;have q:=List.pairwise_cons.1 r;have s:x=y:=by
   rcases V5.1 ((h x).1 (.head _))with he|hm
   .exact he
   .rcases V5.1 ((h y).2 (.head _))with he|w
    .exact he.symm
    .have a:=q.1 x hm;have b:=p.1 y w;omega
  subst s;rw[xQ p.2 q.2 λz=>⟨λe=>?_,λe=>?_⟩]
  .rcases V5.1 ((h z).1 (.tail _ e))with he|hm
   .subst he;have:=p.1 z e;omega
   .exact hm
  .rcases V5.1 ((h z).2 (.tail _ e))with he|hm
   .subst he;have:=q.1 z e;omega
   .exact hm
structure gV(sizes:Λ)(k:Int)(g:cK):Prop where
 scope:lh g.1
 up:g.1.Pairwise (·< ·)
 vars:∀v∈g.1,v<sizes.length
 len:g.2.length=(aR (b2 sizes g.1)).toNat
 small:aR (b2 sizes g.1)<=4096
 jp:∀c∈g.2,0<=c/\c<=k
def qG{sc:Λ}(e:∀z∈sizes,1<=z/\z<=32)(ae:∀v∈sc,0<=v/\v<sizes.length):∀z∈b2 sizes sc,1<=z/\z<=32:=λz h=>by
 obtain⟨v,f,rfl⟩:=c7.1 h;obtain⟨h1,p⟩:=ae v f;have a:v.toNat<sizes.length:=Ω
 rw[u4,x6 a];exact e _ (S3 a)
def NQ{b:Λ}(h:a.Perm b):aR a=aR b:=by
 induction h with
 |nil=>rfl
 |cons x _ e=>simp only[aR,e]
 |swap x y l=>simp only[aR];rw[<-Int.mul_assoc,<-Int.mul_assoc,Int.mul_comm y x]
 |trans _ _ h1 f=>exact h1.trans f
def NR{b:Λ}(h:a.length=b.length):(ej k a b).length=b.length:=by simp[ej,h]
def NS{b:Λ}(hk:0<=k)(f:∀c∈a,0<=c/\c<=k)(p:∀c∈b,0<=c/\c<=k):∀c∈ej k a b,0<=c/\c<=k:=by
 induction a generalizing b with
 |nil=>intro c e;simp[ej]at e
 |cons x a q=>
  cases b with
  |nil=>intro c e;simp[ej]at e
  |cons y b=>
   intro c e;have:=f x (.head _);have:=p y (.head _);rcases V5.1 (show c∈min (x+y) k::ej k a b from e)with rfl|e
   .omega
   .exact q (λc h=>f c (.tail _ h)) (λc h=>p c (.tail _ h)) c e
def kb(l:List cK):Prop:=(l.map (·.1)).Nodup
def NT{acc:List cK}{g:cK}(hk:0<=k)(p:∀h∈acc,gV sizes k h)(q:kb acc)(a:gV sizes k g):(∀h∈jG k acc g,gV sizes k h)/\kb (jG k acc g)/\(jG k acc g).length<=acc.length+1:=by
 unfold jG;split
 .refine⟨λh aC=>?_,?_,Ξ⟩
  .obtain⟨f,hm,rfl⟩:=c7.1 aC;have h1:=p f hm;split
   .rename_i he;have s:f.2.length=g.2.length:=by rw[h1.len,a.len,he]
    exact⟨h1.scope,h1.up,h1.vars,by show(ej k f.2 g.2).length=_;rw[NR s,a.len,he],h1.small,NS hk h1.jp a.jp⟩
   .exact h1
  .unfold kb;rw[S6];have e:((λx:cK=>x.1)∘λh:cK=>if h.1=g.1 then(h.1,ej k h.2 g.2)else h)=λx:cK=>x.1:=by
    funext h;simp only[Function.comp];split<;>rfl
   rw[e];exact q
 .rename_i w;refine⟨λh aC=>?_,?_,Ξ⟩
  .rcases p9.1 aC with aC|aC
   .exact p h aC
   .rw[j5.1 aC];exact a
  .unfold kb;rw[Z9];exact List.nodup_append.2 ⟨q,Ξ,λx U y r he=>by
    simp only[T3,List.map_nil,j5]at r;subst r;subst he;exact w U⟩
theorem xR{sizes:Λ}{k:Int}(hk:0<=k):∀{l acc:List cK},(∀h∈acc,gV sizes k h)->kb acc->(∀g∈l,gV sizes k g)->(∀h∈l.foldl (jG k) acc,gV sizes k h)/\kb (l.foldl (jG k) acc)/\(l.foldl (jG k) acc).length<=acc.length+l.length
 |[],acc,a,e,_=>⟨a,e,Ξ⟩
 |g::l,acc,a,e,f=>by
  obtain⟨h1,p,s⟩:=NT hk a e (f g (.head _));obtain⟨q,r,w⟩:=xR hk h1 p λx U=>f x (.tail _ U);exact⟨q,r,by simp only[S8,b9];omega⟩
theorem xS{α:Type}[DecidableEq α]:∀{a b:List α},a.Nodup->b.Nodup->(∀x,x∈a↔x∈b)->a.Perm b
 |[],b,_,_,h=>by
  cases b with
  |nil=>exact .refl _
  |cons y b=>exact absurd ((h y).2 (.head _)) Ξ
 |x::a,b,q,f,h=>by
  have U:=(h x).1 (.head _);have p:=List.nodup_cons.1 q;refine .trans ?_ (List.perm_cons_erase U).symm;refine .cons x (xS p.2 (f.erase x) λy=>?_);rw[f.mem_erase_iff];refine⟨λe=>⟨λhe=>p.1 (he▸e),(h y).1 (.tail _ e)⟩,λ⟨r,e⟩=>?_⟩;rcases V5.1 ((h y).2 e)with he|hm
  .exact absurd he r
  .exact hm
def uQ(h:nw l)(a:l.Nodup):(bx l).Perm l:=xS (DM l) a λ_=>sd h
theorem xT:∀{l:Λ},(∀z∈l,1<=z/\z<=32)->l.map (λz=>min z 4097)=l
 |[],_=>rfl
 |z::l,h=>by
  have:=h z (.head _);rw[T3,xT λx U=>h x (.tail _ U)];congr 1;omega
def NU{x:cj}(hk:0<=k)(e:0<=x.other)(a:∀p∈x.lines,0<=p.2):0<=la x k t/\la x k t<=k:=by
 unfold la;cases af:x.lines.find? (λp=>decide (p.1=t))with
 |none=>simp only;omega
 |some p=>have:=a p (List.mem_of_find?_eq_some af);simp only;omega
def uR{all:Λ}{x:cj}(h:uw all N x)(a:all.length<=64):nw x.scope:=λv ae=>by
 have:=h.scope.2 v ae;omega
def qH{f:b3}{x:cj}(af:e9 N f)(U:x∈f.funs):gV f.sizes f.k (jk f.sizes f.k x):=by
 obtain⟨h1,r,e⟩:=af.funs x U;have s:=af.sizes.2.1;have ae:=uR h1 s;have a:=uQ ae h1.scope.1;have h:∀v∈bx x.scope,0<=v/\v<f.sizes.length:=λv hm=>h1.scope.2 v ((sd ae).1 hm);have w:=qG af.sizes.2.2 h;have y:aR (b2 f.sizes (bx x.scope))=aR x.sizes:=by rw[h1.sizes];exact NQ (a.map _)
 refine⟨⟨NP _,?_⟩,xO _,λv hm=>(h v hm).2,?_,?_,λc A=>?_⟩
 .show (bx x.scope).length<=6;rw[a.length_eq];exact r
 .show ((bn _).map _).length=_;rw[r9,jC w];rfl
 .show aR (b2 f.sizes (bx x.scope))<=4096;have B:∀z∈x.sizes,1<=z/\z<=32:=λz q=>by
   rw[h1.sizes]at q;exact qG af.sizes.2.2 (λv hm=>h1.scope.2 v hm) z q
  unfold dn at e;rw[xT B,decide_eq_false_iff_not]at e;rw[y];omega
 .obtain⟨t,_,rfl⟩:=c7.1 A;exact NU (by have:=af.k.1;omega) h1.other λp a=>(h1.lines.2 p a).2
def lY{f:b3}(af:e9 N f):(∀g∈fq f,gV f.sizes f.k g)/\kb (fq f)/\(fq f).length<=f.funs.length:=by
 have:=xR (sizes:=f.sizes) (k:=f.k) (by have:=af.k.1;omega) (l:=f.funs.map (jk f.sizes f.k)) (acc:=[]) (λh aC=>by cases aC) List.nodup_nil λg e=>by
  obtain⟨x,U,rfl⟩:=c7.1 e;exact qH af U
 refine⟨this.1,this.2.1,?_⟩;have a:=this.2.2;rw[List.length_nil,r9,W0]at a;exact a
def DS{l:List cK}(e:∀g∈l,gV sizes k g)(f:kb l):l.Pairwise λa b=>de a.1≠de b.1:=by
 have h1:l.Pairwise λa b=>a.1≠b.1:=by
  unfold kb List.Nodup at f;rwa [List.pairwise_map]at f
 exact h1.imp_of_mem λ{a b}h p q he=>q ((xP (e a h).scope (e b p).scope).2 he)
def qI{f:b3}(af:e9 N f):(fs f).Pairwise (λa b=>de a.1<de b.1)/\(fs f).Perm ((fq f).filter fp):=by
 obtain⟨h1,h,_⟩:=lY af;have p:∀g∈(fq f).filter fp,gV f.sizes f.k g:=λg q=>h1 g (T2.1 q).1;have r:kb ((fq f).filter fp):=(List.Sublist.map _ List.filter_sublist).nodup h;have:=DR ((fq f).filter fp) [] List.Pairwise.nil (DS p r) λa s=>by cases s
 refine⟨this.1,?_⟩;have e:=this.2;rw[List.nil_append]at e;exact e
def uS{f:b3}(af:e9 N f):∀g∈fs f,gV f.sizes f.k g:=λg a=>(lY af).1 g (T2.1 ((qI af).2.mem_iff.1 a)).1
def NV{f:b3}(af:e9 N f){M:List cK}(e:M.Perm ((fq f).filter fp))(V:M.Pairwise λa b=>de a.1<=de b.1):M=fs f:=by
 obtain⟨h1,h⟩:=qI af;have p:kb ((fq f).filter fp):=(List.Sublist.map _ List.filter_sublist).nodup (lY af).2.1;have q:kb M:=(e.map (λg:cK=>g.1)).nodup_iff.2 p;have r:∀g∈M,gV f.sizes f.k g:=λg s=>(lY af).1 g (T2.1 (e.mem_iff.1 s)).1;have w:=DS r q;refine xQ (f:=λg:cK=>de g.1) ?_ h1 λx=>by rw[e.mem_iff,h.mem_iff]
 exact V.imp₂ (λa b h1 h=>Int.lt_iff_le_and_ne.2 ⟨h1,h⟩) w
structure lj(n:aH):Prop where
 k:1<=n.k/\n.k<=2147483648
 sizes:1<=n.sizes.length/\n.sizes.length<=64/\∀z∈n.sizes,1<=z/\z<=32
 zero:0<=n.zero/\n.zero<=n.k
 lZ:n.unary.length=n.sizes.length
 unary:∀(i:Nat)(z:Int)(u:Λ),n.sizes[i]?=σ z->n.unary[i]?=σ u->u.length=z.toNat/\∀c∈u,0<=c/\c<=n.k
 funs:∀g∈n.funs,gV n.sizes n.k g/\2<=g.1.length
def NW(z:Int):aR [z]=z:=by simp[aR]
theorem uT:∀{l:List cK}{n:aH},lj n->(∀g∈l,gV n.sizes n.k g)->lj (l.foldl (λn g=>match g.1 with
 |[]=>{n with zero:=g.2.getD 0 0}
 |[v]=>{n with unary:=n.unary.set v.toNat g.2}
 |_=>{n with funs:=n.funs++[g]}) n)/\(l.foldl (λn g=>match g.1 with
 |[]=>{n with zero:=g.2.getD 0 0}
 |[v]=>{n with unary:=n.unary.set v.toNat g.2}
 |_=>{n with funs:=n.funs++[g]}) n).sizes=n.sizes
 |[],n,h,_=>⟨h,F⟩
 |g::l,n,h,p=>by
  have e:=p g (.head _);have f:∀x∈l,gV n.sizes n.k x:=λx U=>p x (.tail _ U);rw[S8];obtain⟨sc,cs⟩:=g
  match sc,e with
  |[],e=>
   have s:=e.len;refine uT (n:={n with zero:=cs.getD 0 0}) ⟨h.k,h.sizes,?_,h.lZ,h.unary,h.funs⟩ f;have h1:cs.length=1:=by simpa[b2,aR]using s
   have w:cs[0]?=σ (cs.getD 0 0):=by rw[u4,x6 Ω];rfl
   exact e.jp _ (x5 w)
  |[v],e=>
   have ae:=e.scope.1 v (.head _);have A:=e.vars v (.head _);refine uT (n:={n with unary:=n.unary.set v.toNat cs}) ⟨h.k,h.sizes,h.zero,by show(n.unary.set _ _).length=_;rw[Z0];exact h.lZ,λi z u q hu=>?_,h.funs⟩ f;by_cases hi:v.toNat=i
   .subst hi;have B:=h.lZ;rw[b8 Ω]at hu;cases hu;have y:b2 n.sizes [v]=[z]:=by
     simp only[b2,T3,List.map_nil];rw[u4,q];rfl
    refine⟨?_,e.jp⟩;have:=e.len;rw[y,NW]at this;exact this
   .rw[Y6 hi]at hu;exact h.unary i z u q hu
  |a::b::r,e=>
   refine uT (n:={n with funs:=n.funs++[(a::b::r,cs)]}) ⟨h.k,h.sizes,h.zero,h.lZ,h.unary,λx U=>?_⟩ f;rcases p9.1 U with U|U
   .exact h.funs x U
   .rw[j5.1 U];exact⟨e,Ξ⟩
def DT{f:b3}(af:e9 N f):lj (c4 f)/\(c4 f).sizes=f.sizes:=by
 unfold c4;have e:=af.sizes;refine uT (n:=⟨f.k,f.sizes,0,f.sizes.map λz=>o8 z.toNat 0,[]⟩) ⟨af.k,e,⟨by show(0:Int)<=0;omega,by show(0:Int)<=f.k;have:=af.k.1;omega⟩,Ξ,λi z u h1 a=>?_,λg h=>by cases h⟩ (uS af);have a:(f.sizes.map λz=>o8 z.toNat (0:Int))[i]?=σ u:=a;have h1:f.sizes[i]?=σ z:=h1;rw[x8,h1]at a;cases a;refine⟨Ξ,λc p=>?_⟩;rw[(List.mem_replicate.1 p).2];have:=af.k.1;exact⟨Int.le_refl _,by show(0:Int)<=f.k;omega⟩
def mB(x:cj)(k:Int)(i:Nat)(t:Λ):Int:=match(x.lines.take i).find? (λp=>decide (p.1=t))with
 |some p=>min p.2 k
 |none=>min x.other k
def DU(x:cj)(k:Int)(t:Λ):mB x k 0 t=min x.other k:=by simp[mB]
def DV(x:cj)(k:Int)(t:Λ):mB x k x.lines.length t=la x k t:=by
 unfold mB la;rw[o9];cases x.lines.find? (λp=>decide (p.1=t))<;>rfl
def DW{x:cj}{i:Nat}{p:Λ×Int}(y:(x.lines.map (·.1)).Nodup)(hi:x.lines[i]?=σ p)(t:Λ):mB x k (i+1) t=if t=p.1 then min p.2 k else mB x k i t:=by
 unfold mB;rw[u9,hi,j4,List.find?_append];by_cases a:t=p.1
 .subst a;have z:(x.lines.take i).find? (λq=>decide (q.1=p.1))=ν:=by
   rw[List.find?_eq_none];intro q e he;have he:q.1=p.1:=by simpa using he
   obtain⟨j,f⟩:=W3.1 e;have h:j<i:=by have:=(x4.1 f).1;rw[j6]at this;omega
   rw[Y2 h]at f;have r:=x4.1 f;have s:=x4.1 hi;have w:=V3.1 y j i (by rw[r9];exact r.1) (by rw[r9];exact s.1) h;rw[List.getElem_map,List.getElem_map,r.2,s.2]at w;exact w he
  rw[z,if_pos F];simp
 .rw[if_neg a];have:[p].find? (λq=>decide (q.1=t))=ν:=by
   rw[List.find?_eq_none];intro q e he;rw[j5.1 e]at he;exact a (of_decide_eq_true he).symm
  rw[this,Option.or_none]
def qJ{v:Int}(h:v∈l):l[l.idxOf v]?=σ v:=by
 have:=List.idxOf_lt_length_iff.2 h;rw[x6 this,List.getElem_idxOf this]
def se{i:Nat}{v:Int}(p:l.Nodup)(h:l[i]?=σ v):l.idxOf v=i:=by
 have hm:=x5 h;have h1:=qJ hm;have a:=x4.1 h1;have e:=x4.1 h;rcases Nat.lt_trichotomy (l.idxOf v) i with f|he|f
 .exact absurd (a.2.trans e.2.symm) (V3.1 p _ _ a.1 e.1 f)
 .exact he
 .exact absurd (e.2.trans a.2.symm) (V3.1 p _ _ e.1 a.1 f)
def gj(scope a:Λ):Λ:=a.map λv=>((scope.idxOf v:Nat):Int)
def uU{q:Λ}(s:scope.Nodup)(a:q.Perm scope):Good (gj scope q) scope.length:=by
 have r:=a.nodup_iff.2 s;refine⟨by simp[gj,a.length_eq],λi p f=>?_⟩;unfold gj at f;rw[x8]at f;obtain⟨v,ae,rfl⟩:=X7.1 f;have hm:v∈scope:=a.mem_iff.1 (x5 ae);have:=List.idxOf_lt_length_iff.2 hm;refine⟨⟨Ω,Ω⟩,λj z h=>?_⟩;unfold gj at h;rw[x8]at h;obtain⟨u,hu,he⟩:=X7.1 h;have w:=a.mem_iff.1 (x5 hu);have e:scope.idxOf u=scope.idxOf v:=Ω
 have h1:=qJ w;rw[e,qJ hm]at h1;have x:v=u:=Z3 h1;subst x;have:=se r hu;have:=se r ae;omega
def DX{v:Int}(ae:a[j]?=σ v):(gj scope a)[j]?=σ ((scope.idxOf v:Nat):Int):=by
 unfold gj;rw[x8,ae];rfl
def NX(h:scope.Nodup)(e:a.Perm scope):eV (b2 sizes scope) (gj scope a)=b2 sizes a:=by
 refine Y9 λj=>?_;cases ae:a[j]? with
 |none=>
  have f:=List.getElem?_eq_none_iff.1 ae;rw[Z7 (by rw[ut];simp[gj];exact f),Z7 (by simp[b2];exact f)]
 |some v=>
  have hm:v∈scope:=e.mem_iff.1 (x5 ae);have p:=uU h e;rw[CI p (by simp[b2]) (DX ae),u7];unfold b2;rw[x8,x8,qJ hm,ae]
def DY{e:Λ}(h:scope.Nodup)(a:e.Perm scope)(q:t.length=scope.length):ob (gj scope e) t=qu scope e t:=by
 have r:=uU h a;refine(CH r q (by simp[qu]) λj p f=>?_).symm;unfold gj at f;rw[x8]at f;obtain⟨v,ae,rfl⟩:=X7.1 f;have hm:v∈scope:=a.mem_iff.1 (x5 ae);have s:=a.nodup_iff.2 h;have:=(x4.1 ae).1;have:=a.length_eq;unfold qu;rw[u7,x8,qJ hm,Y1,se s ae,u4,x6 (show j<t.length by omega)];rfl
def NY{f:b3}{x:cj}{cs:Λ}(af:e9 N f)(U:x∈f.funs)(E:cs.length=(aR x.sizes).toNat)(w:∀t,dv x.sizes t->bo x.sizes cs t=la x f.k t):
  eV x.sizes (gj x.scope (bx x.scope))=b2 f.sizes (bx x.scope)/\pm x.sizes cs (gj x.scope (bx x.scope))=(jk f.sizes f.k x).2:=by
 obtain⟨h1,F,G⟩:=af.funs x U;have ae:=uR h1 af.sizes.2.1;have a:=uQ ae h1.scope.1;have p:=h1.sizes;have h:eV x.sizes (gj x.scope (bx x.scope))=b2 f.sizes (bx x.scope):=by rw[p];exact NX h1.scope.1 a
 have y:=uU h1.scope.1 a;have z:∀v∈bx x.scope,0<=v/\v<f.sizes.length:=λv hm=>h1.scope.2 v ((sd ae).1 hm);have e:dL (b2 f.sizes (bx x.scope)):=qG af.sizes.2.2 z;refine⟨h,?_⟩;have A:x.sizes.length=x.scope.length:=by rw[p];simp[b2]
 unfold pm;rw[h];show _=(bn (b2 f.sizes (bx x.scope))).map λt=>la x f.k (qu x.scope (bx x.scope) t);refine Y9 λq=>?_;rw[x8,x8];have H:=nq e;by_cases r:q<(aR (b2 f.sizes (bx x.scope))).toNat
 .have B:=rM e (i:=q) Ω;rw[B,List.getElem?_range r];simp only[Y1];have C:=xo e r;have s:(dk (b2 f.sizes (bx x.scope)) q).length=x.scope.length:=by rw[kD];simp[b2,a.length_eq]
  rw[DY h1.scope.1 a s,w];have:=Mj y A (by rw[h];exact C);rw[DY h1.scope.1 a s]at this;exact this
 .rw[Z7 Θ,Z7 (by rw[jC e];omega)];rfl
def NZ{e:Λ}(V:dL al)(h1:a.length=(aR al).toNat)(f:e.length=(aR al).toNat):
  ej k a e=(Z4 (aR al).toNat).map λ(q:Nat)=>min (bo al a (dk al q)+bo al e (dk al q)) k:=by
 conv=>lhs;rw[ur V h1,ur V f]
 unfold ej;rw[List.zipWith_map,List.zipWith_self]
def N0{dl m:Nat}{d:List (x1×x1)}{a:List (Λ)}(p:ah w dl j0 [.map (σ m)])(hm:c5 w m d)(q:d.map (·.1)=a.map ee)(f:qD a)(C:a.length<65536):
  an x7 Kr [.func (.func nc) #[] #[Γ dl],Dp] w λv J=>Ext w J/\∃g M,M.Perm a/\uL gS M 0 M.length/\pr J g v M:=by
 refine aA func261 ?_;refine(M0 p hm q (λs h=>(f s h).1) Ω).mono ?_;rintro v aa _ ⟨x,g,L,cR,e,y⟩;refine(Ni y (f.perm e) (by rw[e.length_eq];omega)).mono ?_;rintro _ ab _ ⟨z,M,A,hu,B⟩;exact⟨x.then z (λr E h=>by have:=cR r h;omega),g,M,A.trans e,hu,B⟩
theorem DZ{α β:Type}{f:α->β}:∀{M:List β}{D:List α},M.Perm (D.map f)->∃L:List α,L.Perm D/\L.map f=M
 |[],D,h=>by
  have h1:=h.length_eq;simp at h1;have:D=[]:=b6 h1.symm;exact⟨[],by rw[this],F⟩
 |x::M,D,h=>by
  have U:x∈D.map f:=h.mem_iff.1 (.head _);obtain⟨p,a,rfl⟩:=c7.1 U;obtain⟨A,B,rfl⟩:=List.append_of_mem a;have e:(f p::M).Perm (f p::(A++B).map f):=h.trans (by
   rw[Z9,T3,Z9];exact List.perm_middle)
  obtain⟨L,q,r⟩:=DZ (List.Perm.cons_inv e);exact⟨p::L,(q.cons p).trans List.perm_middle.symm,by rw[T3,r]⟩
def D0{g:Nat}(q:a.length=6)(r:n<=6)(e:cs=ints .i8 a)(f:ah w g cF cs):aK .i8 w (.slice (σ (if 6=0 then⟨g,0,ν⟩else⟨g,0+0*1,ν⟩)) (n-0) (6-0)) (a.take n):=by
 subst e;rw[if_neg Ω];unfold aK;have h:(a.take n).length=n:=by rw[j6];omega
 rw[h];refine⟨Θ,g,0,_,6,F,Ω,by simp[maxLen],λ_=>rfl,λj v ae=>?_⟩;have p:=(x4.1 ae).1;refine f.range j v ?_;rw[ints,List.map_take,Y2 (by simp[ints]at p;omega)]at ae;exact ae
def N1(D L:Told):Prop:=L.Perm D/\uL (λp=>gS (pad p.1)) L 0 L.length
def N2{g m:Nat}{o:Int}{D:Told}(h:eM w g m al k o D)(bb:D.length<65536):an x7 JU [Γ g] w λv J=>Ext w J/\∃L:Told,N1 D L/\bG (fo w.heap.size) bU J [v] L:=by
 obtain⟨⟨sv,gs,X,hm⟩,bc,V,bR,aB⟩:=id h;have bd:qD (D.map λp=>pad p.1):=λbS hk=>by
  obtain⟨p,bf,rfl⟩:=c7.1 hk;exact r1 V (aB p bf).1
 refine aA func206 ?_;rw[dh eT.u];simp only[Y0,a8];rw[aT fL.p 3 X F];refine MY.mono ?_;rintro _ aa _ ⟨Y,dl,rfl,bT,bg⟩;refine(N0 bg (bc.ext Y) (by rw[S6,S6];rfl) bd (by simpa using bb)).mono ?_;rintro bW ab _ ⟨aC,bX,M,bh,bi,aD⟩;obtain⟨L,Z,I⟩:=DZ bh;have aE:M.length=L.length:=by rw[<-I];simp
 have bY:=Z.length_eq;have s1:=Y.size;have bZ:=aC.size;have aF:=Y.trans aC;rw[et k4.u aD];refine bV.range L.length (λi out e=>Ext ab e/\bG (fo ab.heap.size) bU e [out] (L.take i)) Ω ⟨Ext.refl _,by rw[List.take_zero];exact iH⟩ ?_ ?_
 rotate_left
 .rintro out e bj ⟨B,K⟩;rw[aE];simp only[aP,am];refine⟨λh=>Ω,λ_=>⟨aF.trans B,L,⟨Z,λp q x y h1 bk b0 U bl=>?_⟩,?_⟩⟩
  .exact bi p q (pad x.1) (pad y.1) h1 bk Ω (by rw[<-I,x8,U];rfl) (by rw[<-I,x8,bl];rfl)
  .rw[o9]at K;exact au.mono K (λr _ h=>by have h:=h;show w.heap.size<=r;omega) λ_ _ h=>h
 rintro i out e bj hi ⟨B,K⟩ bm;obtain⟨⟨t,c⟩,ad⟩:∃p,L[i]?=σ p:=⟨_,x6 hi⟩;have af:(t,c)∈D:=Z.mem_iff.1 (x5 ad);have ag:=(aB _ af).1;have aG:=xA V ag;have ak:t.length=al.length:=aG.1;have aH:=V.1;have bn:ns (pad t):=r1 V ag;have N:=bn.1;have bo:M[i]?=σ (pad t):=by rw[<-I,x8,ad];rfl
 rw[aE];simp only[aP,am];refine⟨λ_=>?_,λh=>Ω⟩;rw[Nh F (aD.ext B) bo];refine bu cF.i λap b1 b2 aJ aK=>?_;refine r0 N F aK λbq br b3 O=>?_;have b4:=aJ.size;have b5:=aK.lt;have bs:Ext e bq:=aJ.put br Ω;intro aO E _ _;have aq:=bs.trans E;have av:=(aF.trans B).trans aq;have aQ:=h.ext av;obtain⟨⟨b6,b8,b9,ca⟩,cb,_⟩:=id aQ;have cc:=aq.size;rw[aT fL.p 3 (X.ext av) F,pq N (O.ext E).range];refine MS aQ ag (λf bt=>?_) (λbw=>absurd F (bw _ af));have bx:f=c:=by
  have:=Dd h.nodup bt af F;exact congrArg Prod.snd this
 subst bx;simp only[Bool.false_eq_true,if_false];rw[cJ (cs:=#[.slice ν 0 0,Δ f]) Ψ];refine bu gB.i λP cd ce aw aR=>?_;refine⟨.inl aw,?_⟩;refine b7 (vs:=[.slice ν 0 0,Δ f]) gB.i F rfl (by intro v ae;simp at ae;rcases ae with rfl|rfl<;>rfl) aR λC bz cf aS=>?_;have cg:=aw.size;have ch:=aR.lt;have Q:Ext aO C:=aw.put bz Ω;have aU:=aq.trans Q;have aV:=av.trans Q;rw[aT fL.p 0 (X.ext aV) F,aX ao.u (hm.ls.ext aV)];rw[tU cF.u gd.i (l:=0) (h:=al.length) (m:=6) kx (o3 _ _ F) ff Ω Ω Ω];have aY:=D0 N aH F ((O.ext E).ext Q);rw[<-ak,C8]at aY;rw[<-ak,aX mo.u aY];have bA:=(O.ext E).ext Q;have ci:ap<aO.heap.size:=(O.ext E).lt;have cj:P<C.heap.size:=aS.lt;refine cq.range t.length (λj s=>ai (λr=>r=P\/C.heap.size<=r) C s/\∃aN gt,C.heap.size<=gt/\ah s P gB [aN,Δ f]/\ay .i64 aj s gt aN (t.take j)) Ω ⟨ai.refl _ _,_,C.heap.size,o4 _,aS,ay.nil _ _ _ _⟩ ?_ ?_
 .rintro j s bB bC ⟨z,aN,gt,bD,S,W⟩ bF;obtain⟨x,ax⟩:=aI (l:=t) bC;have ck:=aG.2 x (x5 ax);have cl:Ext e s:=aU.then z (λr aZ he=>by rcases he with rfl|he<;>omega);have a1:=D0 N aH F (bA.ac z (λhe=>by rcases he with he|he<;>omega));rw[<-ak,C8]at a1;simp only[aP,am];refine⟨λ_=>?_,λh=>Ω⟩;rw[be mo.u gd.i Ψ a1 ax,aL gB.p 0 S F,fm gd.u aj.u,wrap_i64 Ω Ω];refine eE ao.u aj.i F λa ga bH cm A bI=>?_;refine kA ao.u aj.i F (W.ext A) bI.ls Θ Θ λa2 bJ bK cn G H=>?_;have bL:=z.size;have bM:=A.size;have cp:=H.size;rw[aW gB.p F];refine bp (g:=P) (o:=0) ao.i G.ls.cells.1 G.ls.cells.2 ((S.ext A).ac H (λhe=>by have he:=he;omega)) Ξ λcr a6 ct bO=>?_;simp only[aM];refine bF _ ⟨((z.trans (A.ac _)).trans (H.mono λr _ he=>.inr (by have he:r=gt:=he;omega))).trans (a6.mono λr _ he=>.inl he),a2,bJ,Ω,bO,?_⟩;rw[u9,ax];exact G.ac a6 (λ_ he=>by have he:=he;omega)
 .rintro s bB ⟨z,aN,gt,bD,S,W⟩;simp only[aP,am];refine⟨λh=>Ω,λ_=>?_⟩;rw[o9]at W;rw[bN gB.p gB.i F S.range];have bL:=z.size;have bP:=aU.then z (λr aZ he=>by rcases he with rfl|he<;>omega);have ba:bG (fo e.heap.size) bU s [aN,Δ f] (t,f):=⟨[aN],[Δ f],fo e.heap.size,bU,F,λ_ h=>h,λ_ h=>h.elim,λ_ _ _ h=>h,au.mono (pc W) (λr _ h=>by subst h;show e.heap.size<=r;omega) (λ_ _ h=>h),F⟩;refine lO (α:=Λ×Int) (R:=bU) qe.u gB.i Φ F ba λu bH A _ bQ=>?_;have az:=bP.trans A;have bM:=az.size;refine pb qe.u gB.i F (bE (n0 K) az) bQ (bE ba A) (λr _ h a7=>?_) Θ Θ λa2 bK G H=>?_
  .rcases a7 with a7|a7
   .have:=h.2;have:e.heap.size<=r:=a7;omega
   .exact a7
  simp only[aM];have cu:=B.size;refine bm _ _ ⟨(B.trans az).then H (λr aZ h=>by have h:=h.1;have h:=h;omega),?_⟩;rw[u9,ad];refine au.mono G (λr _ h=>?_) λ_ _ h=>h;show ab.heap.size<=r;rcases h with h|h|h
  .exact h.1
  .have h:=h;omega
  .omega
def D1{s:Λ}(V:dL s):t∈bn s↔dv s t:=by
 refine⟨λh=>?_,λ⟨n,h⟩=>x5 (lS V h)⟩;obtain⟨i,hi⟩:=W3.1 h;exact⟨_,kI V hi⟩
theorem D2:∀{s:Λ},dL s->(bn s).Pairwise λa b=>gS a<gS b
 |[],_=>by simp[bn]
 |k::s,V=>by
  have z:=D2 V.tail;have f:∀t∈bn s,0<=gS t/\gS t<32 ^ s.length:=λt q=>by
   have ae:=(D1 V.tail).1 q;have h1:=pk.1 ae;have r:=uK t λx U=>by
    obtain⟨i,hi,rfl⟩:=List.getElem_of_mem U;obtain⟨a,e⟩:=aI (l:=s) (i:=i) Ω;have B:=h1.2 i a _ e (x6 hi);have C:=(V.tail a (x5 e)).2;omega
   rw[h1.1];exact r
  have p:∀t∈bn s,t.length=s.length:=λt q=>tZ q;show((Z4 k.toNat).flatMap λ(v:Nat)=>(bn s).map λt=>(v:Int)::t).Pairwise _;rw[List.pairwise_flatMap];refine⟨λv _=>?_,?_⟩
  .rw[List.pairwise_map];refine z.imp_of_mem λ{a b}e f h=>?_;simp only[gS,p a e,p b f];omega
  .refine List.pairwise_lt_range.imp λ{u v}E x U y A=>?_;obtain⟨a,e,rfl⟩:=c7.1 U;obtain⟨b,w,rfl⟩:=c7.1 A;simp only[gS,p a e,p b w];have h1:=f a e;have r:=f b w;have:=Int.mul_le_mul_of_nonneg_right (show(u:Int)+1<=v by omega) (show(0:Int)<=32 ^ s.length by have:=xE s.length;omega);rw[Int.add_mul,Int.one_mul]at this;omega
def N3{D L:Told}{o:Int}(f:(D.map (·.1)).Nodup)(a:L.Perm D)(t:Λ):jH L o t=jH D o t:=by
 have q:=(a.map (·.1)).nodup_iff.2 f;by_cases he:∃p∈D,p.1=t
 .obtain⟨p,h,rfl⟩:=he;rw[r2 f h,r2 q (a.mem_iff.2 h)]
 .rw[r3 λp h1 e=>he ⟨p,h1,e⟩,r3 λp h1 e=>he ⟨p,a.mem_iff.1 h1,e⟩]
def jK(al:Λ)(f:Λ->Int)(cs:Λ):Prop:=cs.length=(aR al).toNat/\∀t,dv al t->bo al cs t=f t
def jK.eq{f:Λ->Int}{cs:Λ}(V:dL al)(h1:jK al f cs)(e:jK al f a):cs=a:=L9 V h1.1 e.1 λt h=>by rw[h1.2 t h,e.2 t h]
def jK.congr{f a:Λ->Int}{cs:Λ}(h:jK al f cs)(he:∀t,dv al t->f t=a t):jK al a cs:=⟨h.1,λt e=>by rw[h.2 t e,he t e]⟩
def xU(V:dL al)(h:dv al t):∃n:Nat,cn al t 0=σ (n:Int)/\n<(aR al).toNat:=by
 obtain⟨n,a⟩:=h;have:=pd V a;simp only[Int.zero_mul,Int.zero_add,Int.one_mul]at this;exact⟨n.toNat,by rw[a];congr 1;omega,Ω⟩
def N4(V:dL al)(c:Int):jK al (λ_=>c) (o8 (aR al).toNat c):=⟨Ξ,λt a=>by
 obtain⟨n,e,f⟩:=xU V a;unfold bo;rw[e];simp only[u7,u4,List.getElem?_replicate,f,if_true,V2]⟩
def jK.put{f:Λ->Int}{cs:Λ}(V:dL al)(h:jK al f cs)(ae:dv al t)(r:ct c k):jK al (λs=>if s=t then c else f s) (ub al t k c cs):=by
 obtain⟨n,e,w⟩:=xU V ae;unfold ub;rw[e];simp only[r,if_true,u7];refine⟨by simp[h.1],λs q=>?_⟩;obtain⟨m,hm,x⟩:=xU V q;have a:=h.2 s q;unfold bo at a ⊢;rw[hm]at a ⊢;simp only[u7]at a ⊢;by_cases he:s=t
 .subst he;rw[e]at hm;have p:n=m:=by have:=Z3 hm;omega
  subst p;rw[if_pos F,u4,b8 (by rw[h.1];exact w)];rfl
 .rw[if_neg he,u4,Y6 (λp=>he ?_),<-u4,a];subst p;rw[<-CB V hm,<-CB V e]
def N5(w:x3)(al:Λ)(k o:Int)(D:Told)(v:x1)(J:x3):Prop:=Ext w J/\(4096<aR al->v= .tuple #[.pointer ν,Δ 5])/\
 (aR al<=4096->∃g a sv cs,v= .tuple #[Γ g,Δ 0]/\w.heap.size<=g/\(w.heap.size<=a/\∀r,leads sv r->w.heap.size<=r)/\di J g a sv al k cs/\jK al (jH D o) cs)
def D3{g m:Nat}{o:Int}{D:Told}(h:eM w g m al k o D)(W:D.length<65536):an x7 IY [Γ g] w (N5 w al k o D):=by
 obtain⟨⟨sv,gs,X,hm⟩,aW,V,Y,Z⟩:=id h;have O:=h.nodup;refine aA func121 ?_;rw[dh eT.u];simp only[Y0,a8];intro aa a _ _;have H:=X.ext a;rw[aT fL.p 0 H F,aT fL.p 1 H F,aT fL.p 2 H F];refine(w8 (hm.ls.ext a)).mono ?_;rintro _ ab _ ⟨x,_,ad,_,af⟩;by_cases y:aR al<=4096
 rotate_left
 .have:=ad V Ω;subst this;rw[bq,br];simp only[bA,am];exact⟨λ_=>⟨a.trans x,λ_=>rfl,λh=>absurd h y⟩,λh=>by simp at h⟩
 obtain⟨gt,f,aN,rfl,aX,aY,ag,P⟩:=af V y Y;rw[bq,br];simp only[bA,am];refine⟨λh=>absurd F h,λ_=>?_⟩;have s1:=a.size;have aZ:=x.size;refine(N2 ((h.ext a).ext x) W).mono ?_;rintro cR ah _ ⟨I,L,z,Q⟩;have a1:=I.size;have a2:f<ab.heap.size:=by
  obtain⟨⟨bb,a6,_,_,aj⟩,⟨_,_,a7⟩,ak,ao⟩:=id P;have ba:=nq ak.2;obtain⟨_,⟨_,ap⟩|⟨cap,cs,_,aq,_⟩⟩:=aj
  .rw[ao]at ap;omega
  .exact aq.lt
 have bc:=z.1.length_eq;rw[jh qe.u Q];refine cq.range L.length (λi C=>ai (λr=>r=f) ah C/\∃cs,di C gt f aN al k cs/\jK al (jH (L.take i) o) cs) Ω ⟨ai.refl _ _,_,P.ext I,by rw[List.take_zero];exact N4 V.2 o⟩ ?_ ?_
 .rintro i C av hi ⟨E,cs,J,G⟩ aw;simp only[aP,am];refine⟨λ_=>?_,λh=>Ω⟩;obtain⟨⟨t,c⟩,q⟩:∃p,L[i]?=σ p:=⟨_,x6 hi⟩;have ax:(t,c)∈D:=z.1.mem_iff.1 (x5 q);obtain⟨ay,az,aB⟩:=Z _ ax;have aC:=au.ac Q E λr R aD he=>by
   have he:r=f:=he;rcases aD with h|h
   .have h:=h;omega
   .exact h
  refine nl gB.p F qe.u gB.i aC q λus aE=>?_;obtain⟨bd,be,A,B,rfl,bf,bg,_,h1,aF⟩:=aE;have aG:=aF;subst aG;obtain⟨aH,rfl,_⟩:=id h1;have hu:=c3 h1;refine bu gB.i λbh bi bj aI S=>?_;refine b7 (vs:=[aH,Δ c]) gB.i F rfl (by intro v ae;simp at ae;rcases ae with rfl|rfl;exact hu.cells.2;rfl) S λbk aJ bl U=>?_;have bm:=S.lt;have K:=aI.put aJ Ω;rw[aL gB.p 0 U F,aL gB.p 1 U F];refine(Li (J.ext K) (hu.ext K)).mono ?_;rintro _ bn _ ⟨rfl,aK,aO⟩;simp only[aM];refine aw _ ⟨(E.trans (K.ac _)).trans aK,_,aO,(G.put V.2 ay az).congr λs bo=>?_⟩;rw[u9,q];have M:=(z.1.map (·.1)).nodup_iff.2 O;have aQ:∀p∈L.take i,p.1≠t:=λp y he=>by
   obtain⟨j,N⟩:=W3.1 y;have aS:j<i:=by have:=(x4.1 N).1;rw[j6]at this;omega
   rw[Y2 aS]at N;have:=lW M (by rw[x8,N,Y1,he]) (by rw[x8,q];rfl);omega
  have aU:((L.take i).map (·.1)).Nodup:=by rw[List.map_take];exact(List.take_sublist _ _).nodup M
  have aV:((L.take i++[(t,c)]).map (·.1)).Nodup:=by
   have e:L.take i++[(t,c)]=L.take (i+1):=by rw[u9,q];rfl
   rw[e,List.map_take];exact(List.take_sublist _ _).nodup M
  exact((De aQ aB).cost aU aV s).symm
 .rintro C av ⟨E,cs,J,G⟩;simp only[aP,am];refine⟨λh=>Ω,λ_=>?_⟩;rw[o9]at G;exact⟨((a.trans x).trans I).put E Ω,λh=>Ω,λ_=>⟨gt,f,aN,cs,F,Ω,⟨Ω,λr R=>by have:=ag r R;omega⟩,J,G.congr λs _=>N3 O z.1 s⟩⟩
def N6{s cs:Λ}(V:dL s)(a:cs.length=(aR s).toNat){i:Nat}(h:(bn s)[i]?=σ t):cs[i]?=σ (bo s cs t):=by
 have hi:=(x4.1 h).1;rw[jC V,<-a]at hi;unfold bo;rw[kI V h];simp only[u7,u4,x6 hi,V2]
def uV{k:n9}{g:Nat}(h:ay k e w g v l)(f:0<l.length):g<w.heap.size:=by
 obtain⟨_,⟨_,h1⟩|⟨_,_,_,a,_⟩⟩:=h
 .omega
 .exact a.lt
def gk(w:x3)(g m:Nat)(sv:x1)(gs:Nat)(al:Λ)(k o:Int)(D:Told):Prop:=
 ah w g fL [sv,Δ k,Δ o,.map (σ m)]/\ay .i64 aj w gs sv al/\c5 w m (D.map lb)/\cb al/\ct o k/\∀p∈D,dv al p.1/\ct p.2 k/\p.2≠o
def gk.is{g m:Nat}{o:Int}{D:Told}(h:gk w g m sv gs al k o D):eM w g m al k o D:=⟨⟨sv,gs,h.1,h.2.1⟩,h.2.2⟩
def eM.at{g m:Nat}{o:Int}{D:Told}(h:eM w g m al k o D):∃sv gs,gk w g m sv gs al k o D:=by
 obtain⟨⟨sv,gs,h1,a⟩,e⟩:=h;exact⟨sv,gs,h1,a,e⟩
def gk.ext{g m:Nat}{o:Int}{D:Told}(h:gk w g m sv gs al k o D)(U:Ext w J):gk J g m sv gs al k o D:=by
 obtain⟨h1,a,e,f⟩:=h;exact⟨h1.ext U,a.ext U,e.ext U,f⟩
def gk.ac{g m:Nat}{o:Int}{D:Told}(h:gk w g m sv gs al k o D)(U:ai S w J)(a:¬S g)(hm:¬S m)(V:∀r,leads sv r->¬S r):gk J g m sv gs al k o D:=by
 obtain⟨h1,e,f,p⟩:=h;exact⟨h1.ac U a,bw e U V,f.ac U hm,p⟩
def uW{g m:Nat}{d:List (x1×x1)}(h:ah w g e cs)(hm:c5 w m d):g≠m:=by
 rintro rfl;obtain⟨a,c,h1,_⟩:=hm;unfold ah at h;rw[h1]at h;cases h
def D4{g m:Nat}{k:n9}{d:List (x1×x1)}(h:ay k e w g v l)(hm:c5 w m d)(f:leads v r):r≠m:=by
 obtain⟨rfl,_⟩:=bR h f;obtain⟨_,⟨rfl,_⟩|⟨_,_,_,p,_⟩⟩:=h
 .obtain⟨a,n,c,h,_⟩:=f;cases h
 .exact uW p hm
def gk.put{g m:Nat}{o:Int}{D D':Told}(h:gk w g m sv gs al k o D)(a:ai (λr=>r=m) w J)(a7:eM J g m al k o D'):gk J g m sv gs al k o D':=
 ⟨h.1.ac a (λhe=>uW h.1 h.2.2.1 he),bw h.2.1 a (λr e he=>D4 h.2.1 h.2.2.1 e he),a7.2⟩
def gk.rW{g m:Nat}{o:Int}{D:Told}(h:gk w g m sv gs al k o D):g<w.heap.size/\m<w.heap.size/\∀r,leads sv r->r<w.heap.size:=
 ⟨h.1.lt,h.2.2.1.lt,λr a=>by obtain⟨rfl,e⟩:=bR h.2.1 a;exact e⟩
instance (s t:Λ):Decidable (dv s t):=decidable_of_iff ((cn s t 0).isSome=true) ⟨λh=>by
 cases a:cn s t 0 with
 |none=>rw[a]at h;cases h
 |some n=>exact⟨n,a⟩,λ⟨n,h⟩=>by rw[h];rfl⟩
def uX(h:aK .i64 w sv l)(H:l.length<=1000000):an x7 A4 [sv] w λv J=>Ext w J/\∃g,w.heap.size<=g/\ay .i64 aj J g v l:=by
 refine aA func112 ?_;rw[aX az.u h];refine k6 (k:=.i64) ao.u aj.i Ω Ω λg aa I p q=>?_;have z:ay .i64 aj aa g (.slice (σ ⟨g,0,ν⟩) l.length l.length) (o8 l.length 0):=by
  have:=b1.full (k:=1) (n:=l.length) q Ξ (by simp[maxLen];omega);exact ay.of this
 rw[aX az.u (h.ext p)];have K:=q.lt;refine cq.range l.length (λi ab=>ai (λr=>r=g) aa ab/\ay .i64 aj ab g (.slice (σ ⟨g,0,ν⟩) l.length l.length) (l.take i++o8 (l.length-i) 0)) h.le ⟨ai.refl _ _,by simpa using z⟩ ?_ ?_
 rotate_left
 .rintro ab A ⟨f,a⟩;rw[aP,am];rw[o9,U9,List.replicate_zero,Y8]at a;exact⟨λh=>Ω,λ_=>⟨p.put f Ω,g,Ω,a⟩⟩
 rintro i ab A hi ⟨f,a⟩ B;obtain⟨x,s⟩:=aI (l:=l) hi;have C:Ext w ab:=p.put f Ω;refine bB Ω ?_;rw[be az.u av.i Ψ (h.ext C) s];rw[iK F ao.u aj.i a Θ];refine iL aj.i a Θ λL E M y=>?_;rw[aM];refine B _ ⟨f.trans E,?_⟩;have e:(l.take i++o8 (l.length-i) 0).set i x=l.take (i+1)++o8 (l.length-(i+1)) 0:=by
  have G:(l.take i).length=i:=by rw[j6];omega
  rw[S2 _ _ Ω,G,U9,show l.length-i=(l.length-(i+1))+1 by omega,List.replicate_succ,List.set_cons_zero,u9,s,j4,X6];rfl
 rw[e]at y;exact y
def N7(w:x3)(l:Λ)(k o:Int)(v:x1)(J:x3):Prop:=
 Ext w J/\(¬cb l->v= .tuple #[.pointer ν,Δ 1])/\(cb l->¬ct o k->v= .tuple #[.pointer ν,Δ 3])/\
  (cb l->ct o k->∃g m sv gs,v= .tuple #[Γ g,Δ 0]/\w.heap.size<=g/\w.heap.size<=m/\(∀r,leads sv r->w.heap.size<=r)/\gk J g m sv gs l k o [])
def N8{o:Int}(h:aK .i64 w sv l):an x7 p7 [sv,Δ k,Δ o] w (N7 w l k o):=by
 refine aA func187 ?_;refine aV (λv aa=>Ext w aa/\∃c,v= .bool c/\(c=true↔¬cb l)) ?_ ?_
 .rintro _ aa ⟨e,c,rfl,f⟩;rw[cd];refine⟨λy=>⟨e,λ_=>rfl,λh=>absurd h (f.1 y),λh=>absurd h (f.1 y)⟩,λaf=>?_⟩;have V:cb l:=Classical.byContradiction λh=>by have:=f.2 h;rw[af]at this;cases this
  have I:=V.1;refine k7.mono ?_;rintro _ ab _ ⟨rfl,a⟩;by_cases hi:ct o k
  rotate_left
  .simp only[hi,decide_false,bM,V8,bX];exact⟨e.trans a,λh=>absurd V h,λ_ _=>rfl,λ_ h=>absurd h hi⟩
  simp only[hi,decide_true,bM,X2,a8];refine(lP ((h.ext e).ext a) Ω).mono ?_;rintro aN J _ ⟨z,B,K,hm⟩;have L:=hm.ls.cells;refine uE λm M N q C=>?_;rw[cJ (cs:=#[aN,Δ k,Δ o,.map (σ m)]) (by obtain⟨_,_,_,_,_,rfl,_⟩:=hm.ls;kernel_rfl)];refine bh λg O P s E=>?_;have s1:=e.size;have Q:=a.size;have R:=z.size;have S:=q.size;exact⟨((((e.trans a).trans z).trans q).trans s),λh=>absurd V h,λ_ h=>absurd hi h,λ_ _=>⟨g,m,aN,B,F,Ω,Ω,λr G=>by have:=(bR hm G).1;omega,E,(hm.ext q).ext s,C.ext s,V,hi,λp H=>by cases H⟩⟩
 .intro aB A;rw[aX ao.u h];simp only[bL,am];refine⟨λU=>A _ _ ⟨Ext.refl _,true,F,λ_ V=>by have:=V.1;omega,λ_=>rfl⟩,λW=>?_⟩;refine(C9 h).mono ?_;rintro _ ab _ ⟨rfl,a⟩;refine A _ _ ⟨a,_,F,?_⟩;rw[decide_eq_true_eq];exact⟨λx V=>x V.2,λx V=>x ⟨Ω,V⟩⟩
structure D5 where
 al:Λ
 k:Int
 o:Int
 D:Told
instance UJ:au D5 where
 n:=1
 rep _ _ R w cs a:=∃g m sv gs,cs=[Γ g]/\gk w g m sv gs a.al a.k a.o a.D/\R g/\R m/\∀r,leads sv r->R r
 len:=by rintro _ _ _ _ _ _ ⟨_,_,_,_,rfl,_⟩;rfl
 one:=by rintro _ _ _ _ _ _ ⟨_,_,_,_,rfl,_⟩ u hu;simp at hu;subst hu;rfl
 ac:=by
  rintro _ _ R T w J _ a ⟨g,m,sv,gs,rfl,h1,f,h,p⟩ U q;obtain⟨s,x,y⟩:=h1.rW;exact⟨g,m,sv,gs,rfl,h1.ac U (q g s (.inr f)) (q m x (.inr h)) λr e=>q r (y r e) (.inr (p r e)),f,h,p⟩
 mono:=by
  rintro _ _ _ R R' w _ a ⟨g,m,sv,gs,rfl,h1,f,h,p⟩ _ z;obtain⟨s,x,y⟩:=h1.rW;exact⟨g,m,sv,gs,rfl,h1,z g s f,z m x h,λr e=>z r (y r e) (p r e)⟩
 jb:=by
  rintro _ _ R w _ a ⟨g,m,sv,gs,rfl,h1,f,h,p⟩;exact⟨g,m,sv,gs,rfl,h1,.inr f,.inr h,λr e=>.inr (p r e)⟩
abbrev io:Type:=Rd (Λ)×D5
def sf(k:Int)(x:cj)(f:io):Prop:=f.1=x.scope/\f.2.al=x.sizes/\f.2.k=k/\f.2.o=min x.other k/\f.2.D.length<=x.lines.length/\∀t,jH f.2.D f.2.o t=la x k t
def N9{m:Bool}{S R:ak}{x:cj}(h:au.rep m S R w cs (iR x)):∃aQ szv ck,cs=[aQ,szv,Δ x.other,ck]/\au.rep (α:=Λ) false bU R w [aQ] x.scope/\au.rep (α:=Λ) false bU R w [szv] x.sizes/\au.rep (α:=List (Λ×Int)) false bU R w [ck] x.lines:=by
 obtain⟨p,d1,r,s,rfl,_,_,_,h1,q,d2,z,A,rfl,_,_,_,a,B,d3,C,E,rfl,_,_,_,f,e⟩:=h;have h1:=h1;have a:=a;have f:=f;have e:=e;obtain⟨u,rfl⟩:=V7.1 (show p.length=1 from au.len h1);obtain⟨v,rfl⟩:=V7.1 (show q.length=1 from au.len a);obtain⟨y,rfl⟩:=V7.1 (show d3.length=1 from au.len e);subst f;exact⟨u,v,y,F,h1,a,e⟩
def Oa{m:Bool}{S R:ak}{p:Λ×Int}(h:au.rep m S R w cs p):∃aN,cs=[aN,Δ p.2]/\aK .i64 w aN p.1:=by
 obtain⟨e,d1,f,q,rfl,_,_,_,h1,a⟩:=h;obtain⟨u,rfl⟩:=V7.1 (show e.length=1 from au.len h1);have a:=a;subst a;exact⟨u,F,c3 h1⟩
structure uY(k:Int)(x:cj):Prop where
 k:right k
 sizes:cb x.sizes
 other:0<=x.other
 lines:oc x.sizes x.lines
 len:x.lines.length<=60000
 scope:x.scope.length<=100001
def c6{k:n9}(h:aK k w v l):∃a n c,v= .slice a n c:=by
 obtain⟨_,b,o,base,cap,rfl,_⟩:=h;exact⟨_,_,_,F⟩
def Ob{jL aH aJ:x1}{K:Int}{R:ak}{x:cj}(aj:ah w ag cE [jL,Δ K,aH,aJ])(U:Seen R w cs (iR x))(aK:uY K x):
  an x7 wL [Γ ag,.agg cs.toArray] w λv J=>Ext w J/\∃b4,∃f:io,v= .agg b4.toArray/\b4.length=2/\Seen (fo w.heap.size) J b4 f/\sf K x f:=by
 obtain⟨aQ,szv,ck,rfl,h1,al,O⟩:=N9 U;obtain⟨E,P,bg,am,bi,bj⟩:=aK;have:=P.1;refine aA func113 ?_;refine bh λap aa bl ao q=>?_;have q:ah aa ap ch [aQ,szv,Δ x.other,ck]:=by
  obtain⟨_,_,_,rfl⟩:=nu h1;obtain⟨_,_,_,rfl⟩:=nu al;obtain⟨_,_,_,rfl⟩:=nu O;exact q
 refine bu cH.i λaq ab bm Q G=>?_;have G:=G;intro bn H _ _;have S:=(ao.trans Q).trans H;have V:=Q.trans H;have:=ao.size;have:=Q.size;have:=H.size;have:=G.lt;have au:=aj.ext S;rw[aL ch.p 1 (q.ext V) F,aT cE.p 1 au F,
  aL ch.p 2 (q.ext V) F,aT cE.p 1 au F,nh]
 refine(uX ((c3 al).ext S) Ω).mono ?_;rintro bt bx _ ⟨y,bz,bA,aO⟩;refine⟨.inl y,?_⟩;have:=y.size;have aP:ct (min x.other K) K:=⟨E,by have:=E.1;omega,Ω⟩;refine(N8 aO.ls).mono ?_;rintro _ aR _ ⟨I,_,_,aS⟩;obtain⟨gT,m,sv,gs,rfl,bC,bD,av,aU⟩:=aS P aP;rw[bq,br];have:=I.size;have W:=(S.trans y).trans I;have aw:=(V.trans y).trans I;rw[aL ch.p 3 (q.ext aw) F];have ax:=bE O W;rw[jh jZ.u ax];refine cq.range x.lines.length (λi L=>ai (λr=>r=m) aR L/\∃D,D.length<=i/\gk L gT m sv gs x.sizes K (min x.other K) D/\∀t,jH D (min x.other K) t=mB x K i t) (rC ax) ⟨ai.refl _ _,[],o4 _,aU,λt=>by rw[DU];rfl⟩ ?_ ?_
 .rintro i L aV hi ⟨a,D,ay,z,X⟩ aW;obtain⟨p,Y⟩:=aI (l:=x.lines) hi;have az:=am.2 p (x5 Y);have A:=W.put a Ω;have aX:=a.size;have aY:=bE O A;refine bB Ω ?_;refine nl ei.p F jZ.u ei.i aY Y λbF aZ=>?_;obtain⟨aN,rfl,aB⟩:=Oa aZ;refine bu ei.i λbG bH bI aC a1=>?_;have:=aC.size;refine b7 (vs:=[aN,Δ p.2]) ei.i F rfl (by intro v ae;simp at ae;rcases ae with rfl|rfl<;>first|exact aB.cells.2|rfl) a1 λbK a2 bL aD=>?_;have a6:=aC.put a2 Ω;intro bM Z _ _;have s:=a6.trans Z;have:=s.size;rw[aL ei.p 0 (aD.ext Z) F,aL ei.p 1 (aD.ext Z) F,aT cE.p 1 ((aj.ext A).ext s) F,nh];have:=xA P az.1;refine(uX (aB.ext s) Ω).mono ?_;rintro bO bP _ ⟨B,bQ,bS,a7⟩;refine⟨.inl B,?_⟩;have:=B.size;refine(Dh ((z.ext s).ext B).is a7.ls).mono ?_;rintro _ bV _ ⟨_,a8⟩;have ba:ct (min p.2 K) K:=⟨E,by have:=E.1;omega,Ω⟩;obtain⟨rfl,aE,D',aF,aG⟩:=a8 ⟨az.1,ba⟩;rw[aM];refine aW _ ⟨(a.trans ((s.trans B).ac _)).trans aE,D',by have:=aF.2;omega,gk.put ((z.ext s).ext B) aE aG,λt=>?_⟩;rw[DW am.1 Y,aF.cost z.is.nodup aG.nodup];by_cases M:t=p.1
  .rw[if_pos M,if_pos M]
  .rw[if_neg M,if_neg M,X]
 .rintro L aV ⟨a,D,ay,z,X⟩;have A:=W.put a Ω;have bb:=aw.put a Ω;have aX:=a.size;refine ca Ω ?_;rw[aL ch.p 0 (q.ext bb) F];refine(uX ((c3 h1).ext A) Ω).mono ?_;rintro ad bW _ ⟨N,bX,bY,C⟩;have:=N.size;rw[cJ (cs:=#[ad,Γ gT]) (by obtain⟨_,_,_,rfl⟩:=c6 C.ls;kernel_rfl)];have bc:=((H.trans y).trans I).put a Ω;refine b7 (vs:=[ad,Γ gT]) cH.i F rfl (by intro v ae;simp at ae;rcases ae with rfl|rfl<;>first|exact C.ls.cells.2|rfl) ((G.ext bc).ext N) λbZ af b0 bd=>?_;rw[fM cH.p cH.i F bd.range];have be:=(z.ext N).ac af (λhe=>by have he:=he;omega) (λhe=>by have he:=he;omega) (λr e he=>by have he:r=aq:=he;have:=av r e;omega);have bf:=bw C af λr e he=>by have he:r=aq:=he;have:=(bR C e).1;omega
  refine⟨(A.trans N).put af Ω,_,(x.scope,⟨x.sizes,K,min x.other K,D⟩),F,F,?_,F,F,F,F,ay,λt=>?_⟩
  .exact⟨[ad],[Γ gT],bU,bU,F,λ_ h=>h,λ_ h=>h,λ_ _ h _=>h,sb bf λr e=>by have:=(bR C e).1;show w.heap.size<=r;omega,
    ⟨gT,m,sv,gs,F,be,by show w.heap.size<=gT;omega,by show w.heap.size<=m;omega,λr e=>by have:=av r e;show w.heap.size<=r;omega⟩⟩
  .rw[X,DV]
def Oc{S R:ak}{f:io}(h:au.rep false S R w cs f):au.rep (α:=io) true bU R w cs f:=by
 obtain⟨c,d,A,B,rfl,h1,p,_,a,e⟩:=h;exact⟨c,d,bU,bU,F,λ_ h=>h,λ_ h=>h,λ_ _ h _=>h,a,e⟩
def uZ(k:Int)(a:List cj)(e:List io):Prop:=e.length=a.length/\∀(i:Nat)x f,a[i]?=σ x->e[i]?=σ f->sf k x f
def Od{e:Nat}{m:Bool}{S R:ak}{jL szv ag:x1}{K:Int}{q:List cj}{aD:x3->Prop}(aE:ah w e cE [jL,Δ K,szv,.slice ν 0 0])(aV:au.rep m S R w [ag] (show List jI from q.map iR))(aX:∀r,S r\/R r->r≠e)(aY:∀x∈q,uY K x)(bM:q.length<=256)(aZ:∀J z,∀s:List io,ai (λr=>r=e) w J->ah J e cE [jL,Δ K,szv,z]->Seen (λr=>w.heap.size<=r) J [z] s->uZ K q s->aD J):
  cq (Δ 0) w λal E a1=>
   ad x7 (aO .lss aj false false al (Δ (q.length:Int))) E λa2=>
   Split a2 (ad x7 (c9 kv ag al) E λa6=>
   ad x7 (u5 ch a6) E λa7=>
   aF x7 (Q6 ch true (.tuple #[])) E λx a8=>
   aF x7 (l9 ch x a7) a8 λ(_:Unit)ba=>
   ey ba λC=>
   ad x7 (bP (Γ e)) C λG=>
   ad x7 (u6 cE G 3) C λH=>
   ad x7 (u5 dH H) C λao=>
   ad x7 (u5 ch x) C λbb=>
   an x7 wL [(Γ e),bb] C λbc I=>
    (Ext C I\/cD x7 (u5 dH H) ao I/\cD x7 (u6 cE G 3) H I/\cD x7 (bP (Γ e)) G I/\True)/\
   aF x7 (Y5 dH 1 #[(0,bc)]) I λbd L=>
    (Ext C L\/cD x7 (u5 dH H) ao L/\cD x7 (u6 cE G 3) H L/\cD x7 (bP (Γ e)) G L/\True)/\
    aF x7 (Z5 #[dH,dH] dH #[ao,bd]) L λbe aq=>
     ad x7 (bP (Γ e)) aq λbf=>
     ad x7 (u6 cE bf 3) aq λbg=>
     aF x7 (l9 dH bg be) aq λ(_:Unit)aG=>
     ad x7 (aO .add aj false true al (Δ 1)) aG λbh=>
   a1 bh aG) (aD E):=by
 have:=aE.lt;have bQ:(q.map iR).length=q.length:=Ξ
 refine cq.range q.length (λi aa=>ai (λr=>r=e) w aa/\∃z,∃s:List io,∃A R':ak,ah aa e cE [jL,Δ K,szv,z]/\bG A R' aa [z] s/\(∀r,A r->w.heap.size<=r/\r<aa.heap.size)/\(∀r,R' r->w.heap.size<=r/\¬A r/\r<aa.heap.size)/\uZ K (q.take i) s) Ω
  ⟨ai.refl _ _,_,[],bU,bU,aE,iH,λ_ h=>h.elim,λ_ h=>h.elim,F,λi x f h=>by simp at h⟩ ?_ ?_
 rotate_left
 .rintro aa bi ⟨M,z,s,A,R',N,av,B,O,U⟩;rw[o9]at U;rw[aP,am];refine⟨λh=>Ω,λ_=>aZ aa z s M N (qh av λr _ h=>?_) U⟩;exact h.elim (λh=>(B r h).1) λh=>(O r h).1
 rintro i aa bi hi ⟨M,z,s,A,R',N,av,B,O,aH,U⟩ bj;obtain⟨x,aw⟩:=aI (l:=q) hi;have bk:=aY x (x5 aw);have:=M.size;rw[j6]at aH;have bl:au.rep m S R aa [ag] (show List jI from q.map iR):=au.ac aV M λr _ h he=>aX r h he;refine bB Ω ?_;refine nl (α:=jI) (a:=iR x) ch.p F kv.u ch.i bl (by show(q.map iR)[i]?=_;rw[x8,aw];rfl) λcs ax=>?_;have aJ:cs.length=4:=au.len ax;have bm:Seen (λr=>S r\/R r) aa cs (iR x):=qh ax λr _ h=>h;refine bu ch.i λap ab bS aK bn=>?_;have:=aK.size;refine b7 (vs:=cs) ch.i aJ F (au.one ax) bn λbo bq bV br=>?_;have bs:Ext aa bo:=aK.put bq Ω;intro V aL _ _;have P:=bs.trans aL;have:=P.size;rw[aT cE.p 3 (N.ext P) F,bN ch.p ch.i aJ (br.ext aL).range];refine(Ob (N.ext P) (bE bm P) bk).mono ?_;rintro _ W _ ⟨X,b4,f,rfl,bW,af,bt⟩;have:=X.size;refine⟨.inl X,?_⟩;have aN:=Oc af;have bw:=P.trans X;refine lO (α:=io) (a:=f) (cs:=b4) (A:=bU) (R:=fo V.heap.size) dH.u cH.i Φ (by
  obtain⟨c,d,bX,bY,he,_,_,_,Y,bx⟩:=af;have Y:au.rep (α:=Λ) false bU _ W c f.1:=Y;obtain⟨u,rfl⟩:=V7.1 (show c.length=1 from au.len Y);obtain⟨b0,cm,b1,b2,rfl,_⟩:=bx;obtain⟨_,_,_,rfl⟩:=nu Y;cases he;rfl) aN λu ay Z _ hu=>?_
 have:=Z.size;refine⟨.inl (X.trans Z),?_⟩;have az:=bw.trans Z;have bz:bG A (λr=>R' r\/(V.heap.size<=r/\r<W.heap.size)) ay [z] s:=bE (au.mono av (λ_ _ h=>h) λ_ _ h=>.inl h) az;have bA:bG bU (λr=>R' r\/(V.heap.size<=r/\r<W.heap.size)) ay b4 f:=bE (au.mono aN (λ_ _ h=>h) λr y h=>.inr ⟨h,y⟩) Z;refine pb (α:=io) (a:=f) (A:=bU) dH.u cH.i F bz hu bA (λr _ aQ h=>?_) Ω Ω λaR bC aA aB=>?_
 .rcases h with h|h|h
  .exact h
  .exact (O r h).2.1 aQ
  .have:=(B r aQ).2;omega
 have:=aB.size;rw[bZ,aW cE.p F];have bD:=(N.ext az).ac aB (λhe=>by have:=(B _ he).1;omega);refine bp (g:=e) (o:=3) dH.i (rB aA) (gQ aA) bD Ξ λbF aS b6 aC=>?_;have aC:ah bF e cE [jL,Δ K,szv,aR]:=aC;rw[aM];have bH:=n0 aA;refine bj _ ⟨(iM (M.trans (az.ac _)) aB λr y he=>by have:=(B _ he).1;omega).trans aS,aR,s++[f],λr=>((A r\/bU r\/ay.heap.size<=r)/\r<bC.heap.size),λr=>R' r\/(V.heap.size<=r/\r<W.heap.size),aC,au.ac bH aS λr _ h he=>?_,λr y=>?_,λr y=>?_,?_,λj bI bJ ae Q=>?_⟩
 .have he:r=e:=he;rcases h with h|h|h
  .rcases h.1 with h1|h1|h1
   .have:=(B _ h1).1;omega
   .exact h1
   .omega
  .have:=(O r h).1;omega
  .omega
 .have b8:=y.2;rcases y.1 with h1|h1|h1
  .have:=(B _ h1).1;omega
  .exact h1.elim
  .omega
 .rcases y with y|y
  .have aU:=O r y;refine⟨aU.1,λh=>?_,Ω⟩;rcases h.1 with h1|h1|h1
   .exact aU.2.1 h1
   .exact h1
   .omega
  .refine⟨Ω,λh=>?_,Ω⟩;rcases h.1 with h1|h1|h1
   .have:=(B _ h1).2;omega
   .exact h1
   .omega
 .rw[r8,j6,aH];simp;omega
 .have bK:=(x4.1 Q).1;rw[r8,T7]at bK;rw[Y2 Ω]at ae;by_cases bL:j<s.length
  .rw[X0 bL]at Q;exact U j bI bJ (by rw[Y2 Ω];exact ae) Q
  .rw[X1 Ω,show j-s.length=0 by omega]at Q;rw[show j=i by omega,aw]at ae;cases Q;cases ae;exact bt
def mC(w:x3)(h:Nat)(f:b3):Prop:=∃szv a gz,∃e:List io,ah w h cE [bW f.name,Δ f.k,szv,a]/\ay .i64 aj w gz szv f.sizes/\Seen eL w [a] e/\uZ f.k f.funs e
def mC.ext{a:Nat}{f:b3}(h:mC w a f)(U:Ext w J):mC J a f:=by
 obtain⟨szv,e,gz,p,h1,q,r,s⟩:=h;exact⟨szv,e,gz,p,h1.ext U,q.ext U,bE r U,s⟩
def D6(w:x3)(h:Option b3)(v:x1)(J:x3):Prop:=Ext w J/\match h with
 |none=>∃n e:Int,v= .tuple #[.pointer ν,Δ n,Δ e]/\e≠0
 |some f=>∃a,∃n:Int,v= .tuple #[Γ a,Δ n,Δ 0]/\mC J a f
structure Oe(clean:Bool)(so:Option aG)(name:Λ)(k:Int)(sizes:Λ)(acc:List jI)(res:Option b3):Prop where
 qy:∀s,so=σ s->s.toks=[]->clean=true->s.big=false->∃fs,acc=fs.map iR/\res=σ ⟨name,k,sizes,fs⟩/\(∀x∈fs,uY k x)/\fs.length<=256/\sizes.length<=1000000
 bad:res≠ν->∃s,so=σ s/\s.toks=[]/\clean=true/\s.big=false
def Of{g:Nat}{A B S R:ak}{m O:Bool}{so:Option aG}{name:Λ}{acc:List jI}{M:Option b3}{szv aH p:x1}{bp:Λ}{Q:x1->x3->Prop}(aI:iQ w g gs A B O so)(U:Oe O so name k sizes acc M)(bq:aK .i64 w szv sizes)(br:∀r,leads szv r->r≠g/\r≠gs)(bs:au.rep m S R w [aH] acc)(a7:∀r,S r\/R r->r≠g/\r≠gs/\r<w.heap.size)(c1:so=ν->True)(c2:g<w.heap.size)(c3:gs<w.heap.size)(bt:ai (λr=>w0.heap.size<=r) w0 w)(c4:w0.heap.size<=g)(c5:w0.heap.size<=gs)(bu:aK .u8 w0 p bp)(Z:∀v J,D6 w0 M v J->Q v J):
  cw (α:=x3->Prop) (λ(q:x3)=>
  ad x7 (bP (Γ g)) q λbw=>
  ad x7 (u6 cA bw 1) q λbx=>
  ad x7 (u6 e6 bx 0) q λbz=>
  ad x7 (u5 k2 bz) q λbB=>
  ad x7 (aO .neq k2 false true bB (Δ 0)) q λbC=>
  Split bC (ey q λH=>
   ad x7 (bP (Γ g)) H λbD=>
   ad x7 (u6 cA bD 1) H λbF=>
   ad x7 (u6 e6 bF 2) H λbG=>
   ad x7 (u5 aj bG) H λbH=>
   ad x7 (bP (Γ g)) H λbI=>
   ad x7 (u6 cA bI 1) H λbJ=>
   ad x7 (u6 e6 bJ 0) H λbK=>
   ad x7 (u5 k2 bK) H λbL=>
   Q (.tuple #[(.pointer ν),bH,bL]) H)
   (ad x7 (bP (Γ g)) q λbM=>
   ad x7 (u6 cA bM 1) q λbN=>
   ad x7 (u6 e6 bN 1) q λbO=>
   ad x7 (u5 k2 bO) q λbQ=>
   ad x7 (aO .neq k2 false true bQ (Δ 0)) q λbR=>
   Split bR (ey q λI=>
   ad x7 (bP (Γ g)) I λbS=>
   ad x7 (u6 cA bS 1) I λbT=>
   ad x7 (u6 e6 bT 3) I λbU=>
   ad x7 (u5 aj bU) I λbV=>
   ad x7 (bP (Γ g)) I λbY=>
   ad x7 (u6 cA bY 1) I λb0=>
   ad x7 (u6 e6 b0 1) I λb1=>
   ad x7 (u5 k2 b1) I λb2=>
   Q (.tuple #[(.pointer ν),bV,b2]) I)
   (an x7 A4 [szv] q λb4 ba=>
  ad x7 (Instr.build cE #[(0,bW name),(1,Δ k),(2,b4)]) ba λb5=>
  aF x7 (Instr.box cE b5) ba λV bb=>
  ad x7 (U1 #[kv] aj #[aH]) bb λb6=>
  cq (Δ 0) bb λaJ W b7=>
   ad x7 (aO .lss aj false false aJ b6) W λb8=>
   Split b8 (ad x7 (c9 kv aH aJ) W λb9=>
   ad x7 (u5 ch b9) W λca=>
   aF x7 (Q6 ch true (.tuple #[])) W λx cb=>
   aF x7 (l9 ch x ca) cb λ(_:Unit)cc=>
   ey cc λP=>
   ad x7 (bP V) P λaf=>
   ad x7 (u6 cE af 3) P λag=>
   ad x7 (u5 dH ag) P λaL=>
   ad x7 (u5 ch x) P λcd=>
   an x7 wL [V,cd] P λce al=>
    (Ext P al\/cD x7 (u5 dH ag) aL al/\cD x7 (u6 cE af 3) ag al/\cD x7 (bP V) af al/\True)/\
   aF x7 (Y5 dH 1 #[(0,ce)]) al λcf ao=>
    (Ext P ao\/cD x7 (u5 dH ag) aL ao/\cD x7 (u6 cE af 3) ag ao/\cD x7 (bP V) af ao/\True)/\
    aF x7 (Z5 #[dH,dH] dH #[aL,cf]) ao λcg aM=>
     ad x7 (bP V) aM λci=>
     ad x7 (u6 cE ci 3) aM λcj=>
     aF x7 (l9 dH cj cg) aM λ(_:Unit)bc=>
     ad x7 (aO .add aj false true aJ (Δ 1)) bc λck=>
   b7 ck bc)
    (ad x7 (U1 #[cM] aj #[p]) W λcl=>
  Q (.tuple #[V,cl,(Δ 0)]) W)))) λay=>
 an x7 mm [(Γ g)] w λcm ap=>
 Split cm (ad x7 (bP (Γ g)) ap λcn=>
  ad x7 (u6 cA cn 0) ap λcp=>
  ad x7 (u5 tO cp) ap λcr=>
  an x7 wK [cr] ap λaN N=>
  ad x7 (Y4 aN 0) N λc7=>
  ad x7 (Y4 aN 1) N λbd=>
  ad x7 (Y4 aN 2) N λaP=>
  ad x7 (aO .eql k2 false true aP (Δ 0)) N λct=>
  Split ct (an x7 oU [(Γ g),(Δ 4),bd] N λc8 cu=>
  ay cu)
  (ad x7 (aO .eql k2 false true aP (Δ 11)) N λcz=>
  Split cz (an x7 oU [(Γ g),aP,bd] N λdb cB=>
   ay cB)
   (ay N)))
  (ay ap):=by
 refine da (λq=>ai (λr=>r=g\/r=gs) w q/\∃(e big K L told:Int)(sv:x1),ah q g cA (jl gs e big K L told sv)/\((e≠0/\M=ν)\/(e=0/\∃s,so=σ s/\s.toks=[]/\O=true/\(s.big=true↔big≠0)))) ?_ ?_
 rotate_left
 .intro aB aQ;refine(DH aI).mono ?_;rintro _ aa _ ⟨rfl,aq⟩;cases so with
  |none=>
   rw[show(ν:Option aG).isSome=false from F,a8];obtain⟨e,big,K,L,told,sv,z,aR⟩:=aI.ext aq;refine aQ _ ⟨aq.ac _,e,big,K,L,told,sv,z,.inl ⟨aR,?_⟩⟩;cases E:M with
   |none=>rfl
   |some f=>obtain⟨s,h,_⟩:=U.bad (by rw[E];simp);cases h
  |some s=>
   rw[show(σ s:Option aG).isSome=true from F,bX];have cC:=aI.ext aq;obtain⟨az,cF,cG,big,K,L,told,sv,z,aR,cH⟩:=id cC;rw[aT cA.p 0 z F];refine(rT cF).mono ?_;rintro v ab _ ⟨X,ae⟩;have cI:(s.toks≠[]\/O=false)->M=ν:=λy=>by
    cases E:M with
    |none=>rfl
    |some f=>
     obtain⟨s',h,av,be,_⟩:=U.bad (by rw[E];simp);cases h;rcases y with y|y
     .exact absurd av y
     .rw[y]at be;cases be
   have aA:∀G,ai (λr=>r=g) ab G->fa G g gs A B->(s.toks≠[]\/O=false)->aB G:=λG aw aA y=>by
    obtain⟨_,e,big,K,L,told,sv,l,cK,cL,_⟩:=aA;exact aQ _ ⟨((aq.ac _).trans (X.mono λr _ h=>.inr h)).trans (aw.mono λr _ h=>.inl h),e,big,K,L,told,sv,cK,.inl ⟨cL.1,cI y⟩⟩
   have aS:=z.ac X az.1;have bg:=au.ac cH X λr _ h av=>by
    have av:r=gs:=av;subst av;rcases h with h|h
    .exact az.2.2.1 h
    .exact h.1 (.inr (.inl F))
   have bi:s.shared.length<=100000:=by have:=cG.2.2;omega
   cases Y:s.toks with
   |cons t l=>
    rw[Y]at ae;obtain⟨dc,n,rfl⟩:=ae;rw[fN,fO,fP,bf,am];refine⟨λ_=>?_,λh=>absurd F h⟩;refine(uy (az.ac X) aS bg Ω bi).mono ?_;rintro _ G _ ⟨aw,aU⟩;exact aA G aw aU (.inl (by rw[Y];simp))
   |nil=>
    rw[Y]at ae;obtain⟨n,rfl⟩:=ae;rw[fN,fO,fP,bf,am];refine⟨λh=>by cases O<;>simp at h,λ_=>?_⟩;rw[bf,am];cases aC:O with
    |true=>
     subst aC;refine⟨λh=>by simp at h,λ_=>aQ _ ⟨(aq.ac _).trans (X.mono λr _ h=>.inr h),0,big,K,L,told,sv,aS,.inr ⟨F,s,F,Y,F,aR.1⟩⟩⟩
    |false=>
     subst aC;refine⟨λ_=>?_,λh=>absurd F h⟩;refine(uy (az.ac X) aS bg Ξ bi).mono ?_;rintro _ G _ ⟨aw,aU⟩;exact aA G aw aU (.inr F)
 .rintro aa ⟨aD,e,big,K,L,told,sv,z,cN⟩;have dd:=aD.size;have aV:=(bt.ext λr E h=>Ω).then aD (λr E h=>by rcases h with h|h<;>omega);rw[bZ,aW cA.p F,aW e6.p F,ax Ψ (z.cell F),bA,am];rcases cN with⟨he,aY⟩|⟨rfl,s,rfl,Y,aC,bj⟩
  .refine⟨λ_=>?_,λh=>absurd he h⟩;intro ab C _ _;rw[bZ,aW cA.p F,aW e6.p F,ax Ψ ((z.ext C).cell F),bZ,aW cA.p F,aW e6.p F,ax Ψ ((z.ext C).cell F)];rw[aY]at Z;exact Z _ _ ⟨aV.trans C,K,e,F,he⟩
  .refine⟨λh=>absurd F h,λ_=>?_⟩;rw[bZ,aW cA.p F,aW e6.p F,ax Ψ (z.cell F),bA,am];refine⟨λy=>?_,λy=>?_⟩
   .have aY:M=ν:=by
     cases E:M with
     |none=>rfl
     |some f=>
      obtain⟨s',h,_,_,bk⟩:=U.bad (by rw[E];simp);cases h;rw[bj.2 y]at bk;cases bk
    intro ab C _ _;rw[bZ,aW cA.p F,aW e6.p F,ax Ψ ((z.ext C).cell F),bZ,aW cA.p F,aW e6.p F,ax Ψ ((z.ext C).cell F)];rw[aY]at Z;exact Z _ _ ⟨aV.trans C,L,big,F,y⟩
   .have cO:s.big=false:=by
     cases cP:s.big with
     |false=>rfl
     |true=>exact absurd (bj.1 cP) y
    obtain⟨bl,rfl,rfl,cQ,cR,cS⟩:=U.qy s F Y aC cO;have cT:=ji bq aD λr E a n c ae U=>by
     have:=br r ⟨a,n,c,ae,U⟩;exact E.elim this.1 this.2
    refine(uX cT cS).mono ?_;rintro aZ ab _ ⟨C,gz,de,a1⟩;have df:=C.size;rw[cJ (cs:=#[bW name,Δ k,aZ,.slice ν 0 0]) (by obtain⟨_,_,_,rfl⟩:=c6 a1.ls;kernel_rfl)];refine bh λa2 G dg a6 aE=>?_;have aE:ah G a2 cE [bW name,Δ k,aZ,.slice ν 0 0]:=by obtain⟨_,_,_,rfl⟩:=c6 a1.ls;exact aE
    have bm:=bE (bE (au.ac bs aD λr _ h he=>by have:=a7 r h;exact he.elim this.1 this.2.1) C) a6;have cU:(bl.map iR).length=bl.length:=Ξ
    rw[jh kv.u bm,cU];refine Od aE bm (λr h=>by have:=a7 r h;omega) cQ cR λdh cV cW cX cY cZ c0=>?_;have di:=aE.lt;have z3:=a6.size;have bn:=a6.then cX (λr E h=>by have h:r=a2:=h;omega);have bo:=(aV.trans C).trans bn;rw[aX cM.u (bu.ext bo)];exact Z _ _ ⟨bo,a2,_,F,aZ,cV,gz,cW,cY,a1.ext bn,kB cZ,c0⟩
def D7{α:Type}{f:List α->aG->Option (α×aG)}{acc:List α}{s:aG}:ft f (n+1) acc (σ s)=match f acc s with
  |none=>ν
  |some (a,s')=>ft f n (acc++[a]) (σ s'):=by
 show cP f (n+1) acc s=_;simp only[cP];cases f acc s<;>rfl
def Og{g:Nat}{A B:ak}{s:Option aG}{G:Bool}{most:Int}{Q:x1->x3->Prop}(h:dq w g gs A B G s)(ax:(N:Int)<=aw)(R:∀szv J l so gz,ai (bH g gs A) w J->dq J g gs A B G so->ay .i64 av J gz szv l->w.heap.size<=gz->l.length<=100001->(∀q,ft (fQ most) N [] s=σ q->so=σ q.2/\l=q.1)->(ft (fQ most) N [] s=ν->so=ν)->Q szv J):
 bV (.slice ν 0 0) (Δ 0) w λsizes i H k=>
  cw (α:=x1->x3->Prop) (λ(aA:x1)(S:x3)=>
   Split aA (an x7 oT [Γ g,(Δ 1),Δ most] S λU y=>
  ad x7 (Y4 U 0) y λV=>
  ad x7 (Y4 U 1) y λaC=>
  ad x7 (aO .gtr av false true V (Δ 32)) y λaD=>
  an x7 rr [Γ g,aD,aC] y λbo aE=>
  aF x7 (Y5 az 1 #[(0,V)]) aE λaH aI=>
  aF x7 (Z5 #[az,az] az #[sizes,aH]) aI λaJ W=>
  ad x7 (aO .add av false true i (Δ 1)) W λaK=>
  k aJ aK W) (Q sizes S)) λaB=>
  ad x7 (aO .lss av false false i (Δ (N:Int))) H λaL=>
  Split aL (an x7 mm [Γ g] H λaN aQ=>
  aB aN aQ)
   (aB (.bool false) H):=by
 obtain⟨bp,X,bs,aR,aS⟩:=h.side;have gT:∀r,bH g gs A r->r<w.heap.size:=aR;unfold aw at ax;generalize aT:ft (fQ most) N [] s=Y at R;refine⟨λout I aa=>∃(i:Nat)(l:Λ)(so:Option aG)(gz:Nat),I=Δ (i:Int)/\i<=N/\ai (bH g gs A) w aa/\ay .i64 av aa gz out l/\w.heap.size<=gz/\dq aa g gs A B G so/\Y=ft (fQ most) (N-i) l so/\l.length<=100001/\∀st,so=σ st->l.length+st.toks.length<=100000,
  λ_ I _=>N-(bT I).toNat,⟨0,[],s,w.heap.size,F,X8 _,ai.refl _ _,ay.nil _ _ _ _,o4 _,h,aT.symm,Ξ,λst aU=>?_⟩,?_⟩
 .subst aU;have:=h.words;simpa using this
 rintro out _ aa ⟨i,l,so,gz,rfl,bt,K,Z,aW,ae,C,aX,af⟩;refine aV (λv ag=>Ext aa ag/\((v= .bool true/\i<N/\∃st,so=σ st)\/(v= .bool false/\(so=ν\/i=N)))) ?_ ?_
 rotate_left
 .intro aB L;rw[aP,am];refine⟨λaY=>?_,λbu=>L _ _ ⟨Ext.refl _,.inr ⟨F,.inr Ω⟩⟩⟩;refine(qE ae).mono ?_;rintro _ ag _ ⟨rfl,ah⟩;cases so with
  |none=>exact L _ _ ⟨ah,.inr ⟨F,.inl F⟩⟩
  |some st=>exact L _ _ ⟨ah,.inl ⟨F,Ω,st,F⟩⟩
 rintro _ ab ⟨x,aZ⟩;have aj:=Z.ext x;have al:=ae.ext x;rcases aZ with⟨rfl,aY,st,rfl⟩|⟨rfl,a1⟩
 rotate_left
 .rw[a8];have ao:Y=so.map λst=>(l,st):=by
   rcases a1 with rfl|rfl
   .exact C
   .rw[U9]at C;rw[C];cases so<;>rfl
  refine R out ab l so gz (K.trans (x.ac _)) al aj aW aX (λq f=>?_) λap=>?_
  .rw[ao]at f;cases so with
   |none=>cases f
   |some st=>cases f;exact⟨F,F⟩
  .rw[ao]at ap;cases so with
   |none=>rfl
   |some st=>cases ap
 rw[bX];have af:=af st F;refine(nt (s:=σ st) al).mono ?_;rintro _ bx _ ⟨M,z,at_,rfl,a2,bz⟩;obtain⟨O,a6⟩:=M.of;rw[bq,br,bL];refine(r7 a6).mono ?_;rintro _ bA _ M;obtain⟨P,a7⟩:=M.of;refine eE az.u av.i F λa ga ba bB E bb=>?_;have bC:=K.size;have bD:=x.size;have z3:=O.size;have z4:=P.size;have z5:=E.size;have aq:∀r,leads out r->¬bH g gs A r:=λr p bc=>by have:=gT r bc;have:=(bR Z p).1;omega
 have bd:=bw (bw aj O aq) P aq;refine kA az.u av.i F (bd.ext E) bb.ls Θ Θ λbE be bf bF bh au=>?_;rw[aM,wrap_i64 Ω Ω];have bj:ai (bH g gs A) w ba:=((((K.trans (x.ac _)).trans O).trans P).trans (E.ac _));have bk:ai (bH g gs A) w bf:=iM bj au λr p he=>by have he:r=gz:=he;omega
 have bl:∀r,bH g gs A r->¬(λr=>r=gz) r:=λr p he=>by have:=gT r p;have he:r=gz:=he;omega
 have bm:∀r,cQ g gs A B r->¬(λr=>r=gz) r:=λr p he=>by have:=aS r p.2;have he:r=gz:=he;omega
 refine⟨⟨i+1,l++[z],_,be,F,Ω,bk,bh,Ω,(a7.ext E).ac au bl bm,?_,Θ,λbG bn=>?_⟩,by simp only[bT];omega⟩
 .rw[C,show N-i=(N-(i+1))+1 by omega,D7];unfold fQ;cases f:bi 1 most st with
  |none=>have e:bg 1 most (σ st)=ν:=f;rw[e];rfl
  |some q=>
   have e:bg 1 most (σ st)=σ q:=f;have:=a2 q e;subst this;rw[e];rfl
 .obtain⟨bI,X,rfl⟩:=X7.1 bn;obtain⟨q,f,rfl⟩:=X7.1 X;have h1:=(dj (n:=q.1) (s':=q.2) f).1;simp only[r8,T7];show l.length+1+q.2.toks.length<=100000;omega
def Oh{acc:List (Λ×Int)}{s s':aG}{a:Λ×Int}(h:ez sizes acc s=σ (a,s')):s'.told=s.told/\s'.big=s.big:=by
 obtain⟨_,_,_,e⟩:=pn h;exact⟨e.eqs.1,e.eqs.2.1⟩
def Oi{s s':aG}{l:List (Λ×Int)}(hi:dU s)(h:dz sizes s=σ (l,s')):dU s'/\(s.big=true->s'.big=true):=by
 have e:=DE sizes (σ s);rw[show ka sizes (σ s)=dz sizes s from F,h]at e;cases w:bg (-aw) aw (σ s)with
 |none=>rw[w]at e;cases e
 |some q=>
  obtain⟨n,s1⟩:=q;rw[w]at e;simp only at e;have h1:=(dj (n:=n) (s':=s1) w).eqs;have y:dU s1:=λp=>by rw[h1.1];rw[h1.2.1]at p;exact hi p
  split at e
  .cases V:s1.shared[(-n-1).toNat]? with
   |none=>rw[V]at e;cases e
   |some q=>
    obtain⟨z,fI⟩:=q;rw[V]at e;simp only at e;split at e
    .cases e;exact⟨y,λp=>by rw[h1.2.1];exact p⟩
    .cases e
  .have:=j7 (f:=ez sizes) (λacc t=>t.told=(lg n s1).told/\t.big=(lg n s1).big) (λacc t a bt ⟨x,r⟩ g=>by
    have:=Oh g;exact⟨by rw[this.1,x],by rw[this.2,r]⟩) n.toNat [] _ l s' ⟨F,F⟩ e.symm
   obtain⟨⟨x,r⟩,_⟩:=this;refine⟨λp=>by rw[x];rw[r]at p;exact ND n s1 p,λp=>?_⟩;rw[r];show(s1.big||_)=true;rw[h1.2.1,p];rfl
def Oj{all:Λ}{s s':aG}{x:cj}(hi:dU s)(h:dd all s=σ (x,s')):dU s'/\s'.toks.length<s.toks.length:=by
 unfold dd at h;cases r:bi (-aw) aw s with
 |none=>rw[r]at h;cases h
 |some q=>
 obtain⟨a,s1⟩:=q;rw[r]at h;simp only at h;have t0:=dj r;cases h1:eU all.length a.natAbs s1 with
 |none=>rw[h1]at h;cases h
 |some q=>
 obtain⟨sc,f⟩:=q;rw[h1]at h;simp only at h;obtain⟨w,_⟩:=uv h1;generalize sc.map (λv=>all.getD v.toNat 0)=sizes at h;cases y:bi 0 aw (bc (decide (6<a.natAbs)||dn sizes) f)with
 |none=>rw[y]at h;cases h
 |some q=>
 obtain⟨other,z⟩:=q;rw[y]at h;simp only at h;have A:=dj y;have F:dU z:=λe=>by
  rw[A.eqs.1];rw[A.eqs.2.1]at e;have e:(f.big||_)=false:=e;have C:=(R5.1 e).1;show f.told<=16384;rw[w.eqs.1,t0.eqs.1];rw[w.eqs.2.1,t0.eqs.2.1]at C;exact hi C
 cases p:dz sizes z with
 |none=>rw[p]at h;cases h
 |some q=>
 obtain⟨lines,B⟩:=q;rw[p]at h;simp only[Y7,T6]at h;obtain⟨_,rfl⟩:=h;have G:=Oi F p;have:=DL p;have:=t0.1;have:=w.1;have M:f.toks.length=z.toks.length+1:=A.1;have E:∀t:aG,t.told=B.told/\t.big=B.big/\t.toks=B.toks->dU t/\t.toks.length<s.toks.length:=λt ⟨H,I,a3⟩=>⟨λe=>by rw[H];rw[I]at e;exact G.1 e,by rw[a3];omega⟩;split
 .exact E _ ⟨rfl,rfl,rfl⟩
 .exact E _ ⟨rfl,rfl,rfl⟩
def Ol{S R:ak}{x:jI}(h:au.rep false S R w cs x):au.rep (α:=jI) true bU R w cs x/\(x1.agg cs.toArray).cells=cs.toArray:=by
 obtain⟨p,d1,s,z,rfl,_,_,_,h1,q,d2,A,B,rfl,_,_,_,a,r,d3,C,E,rfl,_,_,_,f,e⟩:=h;have h1:=h1;have a:=a;have f:=f;have e:=e;refine⟨⟨p,_,bU,bU,F,λ_ h=>h,λ_ h=>h,λ_ _ h _=>h,h1,q,_,bU,bU,F,λ_ h=>h,λ_ h=>h,λ_ _ h _=>h,a,r,d3,bU,bU,F,λ_ h=>h,λ_ h=>h,λ_ _ h _=>h,f,e⟩,?_⟩;obtain⟨u,rfl⟩:=V7.1 (show p.length=1 from au.len h1);obtain⟨v,rfl⟩:=V7.1 (show q.length=1 from au.len a);obtain⟨y,rfl⟩:=V7.1 (show d3.length=1 from au.len e);obtain⟨_,_,_,rfl⟩:=nu h1;obtain⟨_,_,_,rfl⟩:=nu a;obtain⟨_,_,_,rfl⟩:=nu e;subst f;rfl
def Om{g c:Nat}{A B:ak}{o:Option aG}{Q:Bool}{P:x1}{all:Λ}{aE:x1->x3->Prop}(aH:iQ w g gs A B Q o)(hi:∀s,o=σ s->dU s)(bs:(c:Int)<=aw)(bt:aK .i64 w P all)(aI:∀r,leads P r->r≠g/\r≠gs/\r<w.heap.size/\(o≠ν->¬A r))(bu:o≠ν->∀z∈all,1<=z/\z<=aw)(bw:all.length<=100001)(bx:fg w)(h1:1<w0.heap.size/\(o≠ν->cQ g gs A B 1))(aJ:ai (λr=>w0.heap.size<=r) w0 w)(bz:w0.heap.size<=g)(bA:w0.heap.size<=gs)(cm:g<w.heap.size/\gs<w.heap.size)(bB:o≠ν->∀r,A r->w0.heap.size<=r)(aL:∀L J acc so aU C aN aQ,ai (λr=>w0.heap.size<=r) w0 J->w.heap.size<=J.heap.size->iQ J g gs aU C Q so->au.rep (α:=List jI) true aN aQ J [L] acc->(∀r,aN r\/aQ r->r≠g/\r≠gs/\r<J.heap.size)->aK .i64 J P all->
   (∀q,ft (λ_ s=>dd all s) c [] o=σ q->so=σ q.2/\acc=q.1.map iR)->(ft (λ_ s=>dd all s) c [] o=ν->so=ν)->aE L J):
 bV (.slice ν 0 0) (Δ 0) w λfuns aR aj bC=>
  cw (α:=x1->x3->Prop) (λ(bD:x1)(aS:x3)=>
   Split bD (an x7 A3 [Γ g,P] aS λbF bI=>
  aF x7 (Y5 kv 1 #[(0,bF)]) bI λbJ bK=>
  aF x7 (Z5 #[kv,kv] kv #[funs,bJ]) bK λbL aT=>
  ad x7 (aO .add av false true aR (Δ 1)) aT λbM=>
  bC bL bM aT) (aE funs aS)) λaW=>
  ad x7 (aO .lss av false false aR (Δ (c:Int))) aj λbN=>
  Split bN (an x7 mm [Γ g] aj λbO bP=>
  aW bO bP)
   (aW (.bool false) aj):=by
 unfold aw at bs;generalize f:ft (λ_ s=>dd all s) c [] o=aX at aL;have aY:∀s,o=σ s->o≠ν:=λs h=>by rw[h];simp
 refine⟨λL al aa=>∃(i:Nat)(acc:List jI)(E:List cj)(so:Option aG)(x K G M:ak),al=Δ (i:Int)/\i<=c/\ai (λr=>w0.heap.size<=r) w0 aa/\w.heap.size<=aa.heap.size/\iQ aa g gs x K Q so/\au.rep true G M aa [L] acc/\
   aK .i64 aa P all/\fg aa/\aX=ft (λ_ s=>dd all s) (c-i) E so/\(∀r,G r->w.heap.size<=r/\r<aa.heap.size)/\(∀r,M r->r≠g/\r≠gs/\¬G r)/\
   ∀s,so=σ s->acc=E.map iR/\dU s/\E.length+s.toks.length<=100000/\o≠ν/\(∀r,x r->A r\/w.heap.size<=r)/\(∀r,x r->w0.heap.size<=r)/\(∀r,B r->K r)/\(∀r,G r->¬K r/\¬x r)/\(∀r,M r->cQ g gs x K r),
  λ_ al _=>c-(bT al).toNat,⟨0,[],[],o,A,B,bU,bU,F,X8 _,aJ,o4 _,aH,iH,bt,bx,f.symm,λ_ h=>h.elim,λ_ h=>h.elim,λs V=>⟨F,hi s V,?_,aY s V,λr e=>.inl e,bB (aY s V),λr e=>e,λ_ h=>h.elim,λ_ h=>h.elim⟩⟩,?_⟩
 .subst V;have ao:ed w g gs A B s Q:=aH;have:=ao.2.1.words.1;simpa using this
 rintro L _ aa ⟨i,acc,E,so,x,K,G,M,rfl,cn,bQ,cp,aZ,bR,ap,a1,Y,y,bS,a2⟩;refine aV (λv a6=>Ext aa a6/\((v= .bool true/\i<c/\∃st,so=σ st)\/(v= .bool false/\(so=ν\/i=c)))) ?_ ?_
 rotate_left
 .intro aB aq;rw[aP,am];refine⟨λba=>?_,λcq=>aq _ _ ⟨Ext.refl _,.inr ⟨F,.inr Ω⟩⟩⟩;refine(DH aZ).mono ?_;rintro _ a6 _ ⟨rfl,bb⟩;cases so with
  |none=>exact aq _ _ ⟨bb,.inr ⟨F,.inl F⟩⟩
  |some st=>exact aq _ _ ⟨bb,.inl ⟨F,Ω,st,F⟩⟩
 rintro _ ab ⟨I,bW⟩;have cr:=I.size;have S:=aZ.ext I;have bc:=bE bR I;have bd:ai (λr=>w0.heap.size<=r) w0 ab:=bQ.trans (I.ac _);rcases bW with⟨rfl,ba,st,rfl⟩|⟨rfl,bY⟩
 rotate_left
 .rw[a8];have be:aX=so.map λst=>(E,st):=by
   rcases bY with rfl|rfl
   .exact Y
   .rw[U9]at Y;rw[Y];cases so<;>rfl
  refine aL L ab acc so x K G (λr=>M r/\r<ab.heap.size) bd Ω S (au.mono bc (λ_ _ h=>h) λr e h=>⟨h,e⟩) (λr e=>?_) (ap.ext I) (λq H=>?_) λbf=>?_
  .rcases e with e|e
   .have:=y r e;exact⟨Ω,Ω,Ω⟩
   .have:=bS r e.1;exact⟨this.1,this.2.1,e.2⟩
  .rw[be]at H;cases so with
   |none=>cases H
   |some st=>cases H;exact⟨F,(a2 _ F).1⟩
  .rw[be]at bf;cases so with
   |none=>rfl
   |some st=>cases bf
 rw[bX];obtain⟨rfl,bg,ct,Z,bh,ax,bi,af,bj⟩:=a2 st F;have S:=S;obtain⟨cu,cz,cA,cB,cC⟩:=S.1;have bZ:=h1.2 Z;have bk:cQ g gs x K 1:=⟨λf=>by
  rcases f with f|f|f
  .omega
  .omega
  .have:=ax 1 f;omega,bi 1 bZ.2⟩
 have bl:∀r,leads P r->¬bH g gs x r/\r<ab.heap.size:=λr e=>by
  obtain⟨b0,b1,b2,b3⟩:=aI r e;refine⟨λf=>?_,Ω⟩;rcases f with f|f|f
  .exact b0 f
  .exact b1 f
  .rcases bh r f with h|h
   .exact b3 Z h
   .omega
 refine(NO S bg (ap.ext I) bl (bu Z) bw (a1.ext I) bk).mono ?_;rintro _ cD _ ⟨aU,C,cs,b4,rfl,cE,U,W,ay,bm,bn,b5,b6⟩;have z3:=U.size;obtain⟨bo,b7⟩:=Ol b5;refine lO (α:=jI) (R:=cQ g gs aU C) kv.u ch.i Φ b7 bo λu az N _ hu=>?_;have z4:=N.size;have b8:∀r,r<ab.heap.size->G r\/M r->¬bH g gs x r:=λr e h f=>by
  rcases h with h|h
  .have p:=y r h;rcases f with f|f|f
   .omega
   .omega
   .exact (af r h).2 f
  .exact (bj r h).1 f
 have b9:∀r,r<ab.heap.size->cQ g gs x K r->cQ g gs aU C r:=λr e h=>⟨λf=>h.1 (f.imp id (Or.imp id λf=>(W r f).elim id λa7=>Ω)),bm r h.2⟩;have ca:bG G (cQ g gs aU C) az [L] (E.map iR):=bE (au.ac (au.mono (R':=λr=>cQ g gs aU C r/\M r) bc (λ_ _ h=>h) λr e h=>⟨b9 r e (bj r h),h⟩) U λr e h=>b8 r e (h.imp id λh=>h.2) |> λh=>h) N |> λh=>au.mono h (λ_ _ h=>h) λ_ _ h=>h.1;have ag:∀r,G r->¬C r:=λr h ah=>by
  have p:=y r h;rcases(ay r ah).1 with O|O
  .exact (af r h).1 O
  .have aA:=(y r h).2;omega
 have cF:(E.map iR).length=E.length:=Ξ
 refine pb kv.u ch.i F ca hu (bE bo N) (λr _ cb h=>?_) Ω Ω λcG aC cc X=>?_
 .rcases h with h|h
  .exact h
  .exact ag r cb h.2
 have z5:=X.size;rw[aM,wrap_i64 Ω Ω];have cd:ai (λr=>w0.heap.size<=r) w0 az:=(bd.trans (U.mono λr _ f=>by
  rcases f with rfl|rfl|f
  .exact bz
  .exact bA
  .exact ax r f)).trans (N.ac _)
 have z0:=aJ.size;have ce:ai (λr=>w0.heap.size<=r) w0 aC:=cd.trans (X.mono λr _ h=>by have:=(y r h).1;omega);have cf:=(ji (ap.ext I) U λr e a n c ae aD=>(bl r ⟨a,n,c,ae,aD⟩).1 e).ext N;have cg:=ji cf X λr e a n c ae aD=>by
  have b2:=(aI r ⟨a,n,c,ae,aD⟩).2.2.1;have:=(y r e).1;omega
 have ci:=(((a1.ext I).ac U bk.1).ext N).ac X λh=>by have:=(y 1 h).1;omega
 have bp:iQ aC g gs aU C Q ((dd all st).map (·.2)):=by
  refine iQ.ac (bn.ext N) X (λh=>by have:=y _ h;omega) (λr e cH h=>?_) (λr e h=>ag r h e.2);have p:=y r h;rcases e with rfl|rfl|e
  .omega
  .omega
  .rcases W r e with O|O
   .exact (af r h).2 O
   .omega
 have ck:=n0 cc;refine⟨⟨i+1,(E.map iR)++[b4],E++((dd all st).map (·.1)).toList,(dd all st).map (·.2),aU,C,λr=>(G r\/bU r\/az.heap.size<=r)/\r<aC.heap.size,cQ g gs aU C,F,Ω,ce,Ω,bp,ck,cg,ci,?_,λr e=>⟨?_,e.2⟩,λr e=>⟨λh=>e.1 (.inl h),λh=>e.1 (.inr (.inl h)),λh=>?_⟩,λs' cl=>?_⟩,by simp only[bT];omega⟩
 .rw[Y,show c-i=(c-(i+1))+1 by omega,D7];cases H:dd all st with
  |none=>rfl
  |some q=>rfl
 .rcases e.1 with h|h|h
  .exact (y r h).1
  .exact h.elim
  .omega
 .rcases h.1 with p|p|p
  .exact ag r p e.2
  .exact p
  .have:=(ay r e.2).2;omega
 .obtain⟨q,H,rfl⟩:=X7.1 cl;have p:=Oj bg H;have O:=b6 q H;refine⟨?_,p.1,?_,Z,λr e=>?_,λr e=>?_,λr e=>bm r (bi r e),λr e=>⟨λah=>?_,λbq=>?_⟩,λr e=>e⟩
  .rw[H,O];simp
  .rw[H];simp only[Y1,j4,r8,T7];omega
  .rcases W r e with h|h
   .exact bh r h
   .exact .inr Ω
  .rcases W r e with h|h
   .exact ax r h
   .omega
  .rcases e.1 with p|p|p
   .exact ag r p ah
   .exact p
   .have:=(ay r ah).2;omega
  .have cI:=bp;have br:=bn;rw[H]at br;have ao:=br;have ba:=ao.1.2.2.2.1 r (.inr (.inr bq));rcases e.1 with p|p|p
   .rcases W r bq with aA|aA
    .exact (af r p).2 aA
    .have:=(y r p).2;omega
   .exact p
   .omega
def dU.num{lo hi n:Int}{s s':aG}(e:dU s)(h:bi lo hi s=σ (n,s')):dU s':=λa=>by
 have h1:=(dj h).eqs;rw[h1.1];rw[h1.2.1]at a;exact e a
def dU.big{b:Bool}{s:aG}(h:dU s):dU (bc b s):=λa=>by
 have a:(s.big||b)=false:=a;exact h (R5.1 a).1
def dU.word{w:Λ}{s s':aG}(h:dU s)(hw:dK s=σ (w,s')):dU s':=λa=>by
 have h1:=(rU hw).2;rw[h1]at a ⊢;exact h a
def On{most:Int}{s s':aG}(hi:dU s)(hm:most<=aw)(h:cP (fQ most) N [] s=σ (l,s')):dU s'/\(∀z∈l,1<=z/\z<=aw)/\l.length+s'.toks.length<=s.toks.length:=by
 have:=j7 (λacc t=>dU t/\(∀z∈acc,1<=z/\z<=aw)/\acc.length+t.toks.length<=s.toks.length) (λacc t a bt ⟨h1,f,w⟩ g=>by
  unfold fQ at g;cases e:bi 1 most t with
  |none=>rw[e]at g;cases g
  |some q=>
   obtain⟨z,p⟩:=q;rw[e]at g;simp only[Y7,T6]at g;obtain⟨rfl,rfl⟩:=g;have y:=(jj e).1;have A:=(dj e).1;refine⟨(h1.num e).big,λx U=>?_,?_⟩
   .rcases p9.1 U with U|U
    .exact f x U
    .rw[j5.1 U];omega
   .simp only[r8,T7];show acc.length+1+p.toks.length<=_;omega) N [] s l s' ⟨hi,λz r=>(by cases r),Ξ⟩ h
 exact this.1
def Oo{s0:aG}{name:Λ}{n most cnt:Int}{so6:Option aG}(h1:∀q,dK s0=σ q->name=q.1)(r:∀q,bg 1 aw (((dK s0).map (·.2)).map (bc (decide (64<(name.length:Int)))))=σ q->n=q.1)(p:∀q,bg 1 aw (((bg 1 aw (((dK s0).map (·.2)).map (bc (decide (64<(name.length:Int)))))).map (·.2)).map (bc (decide (64<n))))=σ q->most=q.1)(h:∀q,bg 0 aw ((bg 1 aw (((bg 1 aw (((dK s0).map (·.2)).map (bc (decide (64<(name.length:Int)))))).map (·.2)).map (bc (decide (64<n))))).map (·.2))=σ q->cnt=q.1)(f:∀q,bg 1 aw (((bg 0 aw ((bg 1 aw (((bg 1 aw (((dK s0).map (·.2)).map (bc (decide (64<(name.length:Int)))))).map (·.2)).map (bc (decide (64<n))))).map (·.2))).map (·.2)).map (bc (decide (256<cnt))))=σ q->k=q.1)(e:∀q,ft (fQ most) n.toNat [] (((bg 1 aw (((bg 0 aw ((bg 1 aw (((bg 1 aw (((dK s0).map (·.2)).map (bc (decide (64<(name.length:Int)))))).map (·.2)).map (bc (decide (64<n))))).map (·.2))).map (·.2)).map (bc (decide (256<cnt))))).map (·.2)).map (bc (decide (2147483648<k))))=σ q->so6=σ q.2/\sizes=q.1)(a:ft (fQ most) n.toNat [] (((bg 1 aw (((bg 0 aw ((bg 1 aw (((bg 1 aw (((dK s0).map (·.2)).map (bc (decide (64<(name.length:Int)))))).map (·.2)).map (bc (decide (64<n))))).map (·.2))).map (·.2)).map (bc (decide (256<cnt))))).map (·.2)).map (bc (decide (2147483648<k))))=ν->so6=ν):
  iI s0=(ft (λ_ s=>dd sizes s) cnt.toNat [] so6).map λq=>((⟨name,k,sizes,q.1⟩:b3),q.2):=by
 unfold iI;cases A:dK s0 with
 |none=>
  rw[A]at a;rw[a rfl];rfl
 |some L=>
 obtain⟨Z,s1⟩:=L;rw[A]at h1 r p h f e a;have:=h1 _ rfl;subst this;have M:decide (64<(name.length:Int))=decide (64<name.length):=by rw[U6,decide_eq_true_eq,decide_eq_true_eq];omega
 rw[M]at r p h f e a;simp only[Y1]at r p h f e a ⊢;generalize bc (decide (64<name.length)) s1=x at*;cases B:bi 1 aw x with
 |none=>
  rw[show bg 1 aw (σ x)=ν from B]at a;rw[a rfl];rfl
 |some N=>
 obtain⟨O,C⟩:=N;rw[show bg 1 aw (σ x)=σ (O,C)from B]at r p h f e a;have:=r _ rfl;subst this;simp only[Y1]at p h f e a ⊢;generalize bc (decide (64<n)) C=y at*;cases E:bi 1 aw y with
 |none=>
  rw[show bg 1 aw (σ y)=ν from E]at a;rw[a rfl];rfl
 |some P=>
 obtain⟨Q,w⟩:=P;rw[show bg 1 aw (σ y)=σ (Q,w)from E]at p h f e a;have:=p _ rfl;subst this;simp only[Y1]at h f e a ⊢;cases F:bi 0 aw w with
 |none=>
  rw[show bg 0 aw (σ w)=ν from F]at a;rw[a rfl];rfl
 |some R=>
 obtain⟨S,G⟩:=R;rw[show bg 0 aw (σ w)=σ (S,G)from F]at h f e a;have:=h _ rfl;subst this;simp only[Y1]at f e a ⊢;generalize bc (decide (256<cnt)) G=z at*;cases H:bi 1 aw z with
 |none=>
  rw[show bg 1 aw (σ z)=ν from H]at a;rw[a rfl];rfl
 |some T=>
 obtain⟨U,I⟩:=T;rw[show bg 1 aw (σ z)=σ (U,I)from H]at f e a;have:=f _ rfl;subst this;simp only[Y1]at e a ⊢;generalize bc (decide (2147483648<k)) I=W at*;cases J:cP (fQ most) n.toNat [] W with
 |none=>
  rw[a J];rfl
 |some X=>
 obtain⟨aa,K⟩:=X;obtain⟨V,Y⟩:=e _ J;subst Y;rw[V];simp only;show _=U4 _ (cP (λ_ s=>dd sizes s) cnt.toNat [] K);cases cP (λ_ s=>dd sizes s) cnt.toNat [] K<;>rfl
def Oq{f:b3}(af:e9 N f)(h:N<=60000):∀x∈f.funs,uY f.k x:=λx U=>by
 obtain⟨h1,e,p⟩:=af.funs x U;refine⟨af.k,⟨?_,λz a=>?_⟩,h1.other,h1.lines,by have:=h1.len;omega,Ω⟩
 .rw[h1.sizes,r9];exact e
 .rw[h1.sizes]at a;obtain⟨v,ae,rfl⟩:=c7.1 a;have:=h1.scope.2 v ae;refine af.sizes.2.2 _ ?_;rw[u4,x6 Ω];exact S3 _
def Ot{p:x1}{E:Λ}(R:aK .u8 w p E)(aN:Bytes E)(bO:E.length<=60000)(ag:fg w):an x7 Ih [p] w (D6 w (fR E)):=by
 have aO:1<w.heap.size:=by
  have:=ag 0 (.int .u64 1) F;obtain⟨c,e,f,aP,_⟩:=wY this;exact(j9.1 aP).1
 have bP:aw=4611686018427387904:=rfl;refine aA func55 ?_;rw[aX cM.u R,bL,am];refine⟨λh=>Ω,λ_=>?_⟩;refine(Cg R aN Ω).mono ?_;rintro _ aa _ ⟨ah,gs,rfl,bQ,aQ,S⟩;rw[cJ (cs:=#[Γ gs,Δ 0,Δ 0,Δ 0,Δ 0,Δ 0,.slice ν 0 0]) Ψ];refine bh λg ab bS U aj=>?_;have bT:=ah.size;have bV:=U.size;have aR:=aj.lt;have bW:gs<aa.heap.size:=S.2.2.2.1.lt;have bX:=ql _ E (o4 _);let s0:aG:=⟨(lex E).1,0,false,[]⟩;let B0:ak:=λr=>r<aa.heap.size;have aS:ed ab g gs bU B0 s0 (lex E).2:=by
  refine⟨⟨Ω,λh=>h,λh=>h,λr y=>?_,λr y=>by have y:r<aa.heap.size:=y;omega⟩,⟨aQ,E,0,S.ext U,λr y=>?_,by rw[List.drop_zero]⟩,⟨by show(0:Int)<=0;omega,by show(0:Int)<=aw;omega,by show(([]:List (Λ×List (Λ×Int))).length+(lex E).1.length<=100000);simp;omega⟩,0,0,0,0,.slice ν 0 0,aj,⟨by simp[s0],λ_=>rfl⟩,iH (α:=lU)⟩
  .rcases y with rfl|rfl|y
   .exact aR
   .omega
   .exact y.elim
  .obtain⟨_,_,_,M,bs,hm⟩:=S;have I:=bR hm y;have K:=cc hm M Φ y;exact⟨λG=>by
    rcases G with G|G|G
    .omega
    .exact K G
    .exact G,by show r<aa.heap.size;omega⟩
 have W:∀r,bH g gs bU r->w.heap.size<=r:=λr y=>by
  rcases y with rfl|rfl|y
  .omega
  .omega
  .exact y.elim
 refine(CX aS).mono ?_;rintro _ bY _ ⟨B,name,bZ,rfl,b0,b1,aT⟩;obtain⟨aV,aW⟩:=gh.of B;rw[bq,br,ph cT.u,bL];refine(r7 aW).mono ?_;rintro _ b2 _ B;obtain⟨aY,aZ⟩:=B.of;refine(nt (lo:=1) (hi:=aw) aZ).mono ?_;rintro _ b4 _ ⟨B,n,b5,rfl,al,a1⟩;obtain⟨a2,a6⟩:=B.of;rw[bq,br,bL];refine(r7 a6).mono ?_;rintro _ b6 _ B;obtain⟨a7,a8⟩:=B.of;refine(nt (lo:=1) (hi:=aw) a8).mono ?_;rintro _ b7 _ ⟨B,most,b8,rfl,ao,ba⟩;obtain⟨bb,bd⟩:=B.of;rw[bq,br];refine(nt (lo:=0) (hi:=aw) bd).mono ?_;rintro _ b9 _ ⟨B,cnt,ca,rfl,ap,be⟩;obtain⟨bf,bi⟩:=B.of;rw[bq,br,bL];refine(r7 bi).mono ?_;rintro _ cb _ B;obtain⟨bj,bk⟩:=B.of;refine(nt (lo:=1) (hi:=aw) bk).mono ?_;rintro _ cd _ ⟨B,k,ce,rfl,hk,cf⟩;obtain⟨bl,bm⟩:=B.of;rw[bq,br,bL];refine(r7 bm).mono ?_;rintro _ aq _ B;obtain⟨bn,X⟩:=B.of;have au:ai (bH g gs bU) ab aq:=(((((((aV.trans aY).trans a2).trans a7).trans bb).trans bf).trans bj).trans bl).trans bn;have Y:∀{lo:Int}{o:Option aG}{x:Int},0<=lo->lo<=1->(∀q,bg lo aw o=σ q->x=q.1)->(bg lo aw o=ν->x=0)->0<=x/\x<=aw:=λ{lo o x}cg h1 V bo=>by
  cases a:bg lo aw o with
  |none=>rw[bo a];omega
  |some q=>
   have I:=og (n:=q.1) (s':=q.2) a;rw[V q a];omega
 have ch:=Y Ω Ω al a1;have ci:=Y Ω Ω ap be;have cj:=Y Ω Ω ao ba;obtain⟨N,bp⟩:∃N:Nat,n=(N:Int):=⟨n.toNat,Ω⟩;obtain⟨C,bt⟩:∃C:Nat,cnt=(C:Int):=⟨cnt.toNat,Ω⟩;have bu:n.toNat=N:=Ω
 have bw:cnt.toNat=C:=Ω
 have bx:dU s0:=λ_=>by show(0:Int)<=16384;omega
 have O:∀{o:Option aG}{b:Bool},(∀s,o=σ s->dU s)->∀s,o.map (bc b)=σ s->dU s:=λh s V=>by
  obtain⟨t,Z,rfl⟩:=X7.1 V;exact(h t Z).big
 have P:∀{o:Option aG}{lo hi:Int},(∀s,o=σ s->dU s)->∀s,(bg lo hi o).map (·.2)=σ s->dU s:=λ{o lo hi}h s V=>by
  obtain⟨q,a,rfl⟩:=X7.1 V;cases o with
  |none=>cases a
  |some t=>exact(h t F).num (n:=q.1) (s':=q.2) a
 have bz:∀s,(dK s0).map (·.2)=σ s->dU s:=λs V=>by
  obtain⟨q,a,rfl⟩:=X7.1 V;exact bx.word (w:=q.1) (s':=q.2) a
 have av:=O (b:=decide (2147483648<k)) (P (lo:=1) (hi:=aw) (O (b:=decide (256<cnt)) (P (lo:=0) (hi:=aw) (P (lo:=1) (hi:=aw) (O (b:=decide (64<n)) (P (lo:=1) (hi:=aw) (O (b:=decide (64<(name.length:Int))) bz)))))));have A:=λ(sizes:Λ)(so6:Option aG)=>Oo (s0:=s0) (name:=name) (sizes:=sizes) (n:=n) (most:=most) (cnt:=cnt) (k:=k) (so6:=so6) aT al ao ap hk;rw[bu]at A;generalize ck:U4 (bc (decide (2147483648<k))) (U4 (λx=>x.2) (bg 1 aw (U4 (bc (decide (256<cnt))) (U4 (λx=>x.2) (bg 0 aw (U4 (λx=>x.2) (bg 1 aw (U4 (bc (decide (64<n))) (U4 (λx=>x.2) (bg 1 aw (U4 (bc (decide (64<(name.length:Int)))) (U4 (λx=>x.2) (dK s0)))))))))))))=ax at av X A;rw[bp];refine Og X Ω λszv ad sizes so6 gz bA ay az cl bB aB aC=>?_;have A:=A sizes so6 aB aC;rw[bw]at A;have ae:ai (bH g gs bU) ab ad:=au.trans bA;have z12:=ae.size;have aD:=ah.trans U;have bC:ai (λr=>w.heap.size<=r) w ad:=(aD.ac _).trans (ae.mono λr _ h=>W r h);have cm:=ay.side;have aE:∀L,so6=σ L->dU L/\(∀z∈sizes,1<=z/\z<=aw)/\sizes.length<=100000:=λL af=>by
  cases a:ft (fQ most) N [] ax with
  |none=>rw[aC a]at af;cases af
  |some q=>
   obtain⟨I,K⟩:=aB q a;cases af.symm.trans I;subst K;cases ax with
   |none=>cases a
   |some bD=>
    obtain⟨bE,bF,cn⟩:=On (av bD F) Ω a;exact⟨bE,bF,by have:=X.words;omega⟩
 rw[bt];have aF:∀r,leads szv r->aq.heap.size<=r/\r<ad.heap.size:=λr y=>by have:=bR az y;omega
 have cp:=au.size;refine Om ay.q (λs V=>(aE s V).1) Ω az.ls (λr y=>?_) (λQ=>?_) bB ((ag.ext aD).ac ae λG=>by have:=W 1 G;omega) ⟨aO,λ_=>⟨λG=>by have:=W 1 G;omega,by show 1<aa.heap.size;omega⟩⟩
  bC Ω Ω ⟨Ω,Ω⟩ (λ_ r h=>h.elim) λcq cr acc so aU ct cu cw aH cz bG bI bJ bK aI bM=>?_
 .have:=aF r y;exact⟨Ω,Ω,Ω,λ_ h=>h⟩
 .cases aJ:so6 with
  |none=>exact absurd aJ Q
  |some L=>exact(aE L aJ).2.1
 have cA:=aH.size;have H:fR E=match iI s0 with
   |none=>ν
   |some (f,s)=>if s.toks=[]/\(lex E).2=true/\s.big=false then σ f else ν:=by
  unfold fR;rw[if_neg Ω];have e:iI ⟨(lex E).1,0,false,[]⟩=iI s0:=rfl;rw[e];cases iI s0<;>rfl
 refine Of bG ⟨λs V Z bN M=>?_,λQ=>?_⟩ bK (λr y=>by have:=aF r y;exact⟨Ω,Ω⟩) bI bJ (λ_=>trivial) Ω Ω aH Ω Ω R λv J h=>h
 .cases a:ft (λ_ s=>dd sizes s) C [] so6 with
  |none=>rw[bM a]at V;cases V
  |some q=>
   obtain⟨I,K⟩:=aI q a;cases V.symm.trans I;rw[a]at A;have A:iI s0=σ ((⟨name,k,sizes,q.1⟩:b3),q.2):=A;have aL:=(CU F A M).1;rw[A]at H;simp only at H;rw[if_pos ⟨Z,bN,M⟩]at H;exact⟨q.1,K,H,Oq aL (by show(lex E).1.length<=60000;omega),aL.mv,Ω⟩
 .cases a:ft (λ_ s=>dd sizes s) C [] so6 with
  |none=>
   rw[a]at A;have A:=A;rw[A]at H;exact absurd H Q
  |some q=>
   obtain⟨I,K⟩:=aI q a;rw[a]at A;have A:iI s0=σ ((⟨name,k,sizes,q.1⟩:b3),q.2):=A;rw[A]at H;simp only at H;by_cases aM:q.2.toks=[]/\(lex E).2=true/\q.2.big=false
   .exact⟨q.2,I,aM⟩
   .rw[if_neg aM]at H;exact absurd H Q
def xV(s t cs:Λ):∃e,ua s t cs= .tuple #[Δ (bo s cs t),Δ e]:=by
 unfold ua bo;cases cn s t 0 with
 |none=>exact⟨3,F⟩
 |some n=>exact⟨0,F⟩
def Ou:an x7 Bk [sv] w λr J=>Ext w J/\∃g,r= .func (.func qa) #[] #[Γ g]/\w.heap.size<=g/\ah J g ao sv.cells.toList:=by
 refine aA func244 ?_;refine bh λg aa f a e=>?_;rw[jB];exact⟨a,g,F,Ω,e⟩
def Ov{f:Q4}{cap:Array x1}{A:Nat->List x1->x3->Prop}{e:x3->Prop}{L:Λ}(O:p1 x7 f cap.toList n A e)(B:∀k vs w,A k vs w->∃x,L[k]?=σ x/\vs=[Δ x])(he:∀a b,ai (λr=>w.heap.size<=r) a b->e a->e b)(P:e w)(Q:n=L.length)(aq:L.length<=1000000):
  an x7 IH [.slice ν 0 0,.func (.func f) #[] cap] w λv J=>Ext w J/\∃g,w.heap.size<=g/\ay .i64 aj J g v L:=by
 refine iG func89 ?_;refine bh λgs aa au C p=>?_;have p:=p;have:=p.lt;have E:∀{a b:x3},Ext a b->e a->e b:=λU=>he _ _ (U.ac _);refine k0.old ⟨Nat,false,f,cap,0,_,_,e,λk J=>ai (λr=>w.heap.size<=r) w J/\∃v g,gs<g/\ah J gs ao [v]/\ay .i64 aj J g v (L.take k),λ_ _ _=>False,F,O.s,?_,λ_ _ U h=>E U h,
  λ_ _ _ U h=>⟨h.1.trans (U.ac _),by obtain⟨v,g,h1,R,S⟩:=h.2;exact⟨v,g,h1,R.ext U,S.ext U⟩⟩,λ_ _ _ _ _ h=>h,E C P,⟨C.ac _,_,gs+1,Ω,p,ay.nil _ _ _ _⟩,?_,?_,λ_ _ h=>h.elim,λ_ _ _ h=>h.elim⟩
 .rintro k vs aw J ⟨_,_,h⟩;obtain⟨x,_,rfl⟩:=B k vs J h;rfl
 .rintro a k _ ab hV ⟨hk,rfl,W⟩ ⟨X,v,g,Y,G,ae⟩;obtain⟨x,U,Z⟩:=B k _ ab W;cases Z;intro az q _ _;have H:=G.ext q;rw[ax Ψ (H.cell F)];refine eE ao.u aj.i F λa ga aA aB y ad=>?_;have aC:(L.take k).length<=1000000:=Θ
  refine kA ao.u aj.i F ((ae.ext q).ext y) ad.ls (by simp only[b9,List.length_nil];omega) (by simp only[b9,List.length_nil];omega) λaf ag aD aE z I=>?_;have:=G.lt;have:=q.size;have:=y.size;refine bp ao.i z.ls.cells.1 z.ls.cells.2 (((H.ext y).ac I Ω)) Ξ λak K aI al=>?_;have M:ai (λr=>w.heap.size<=r) ab ak:=(((q.trans y).ac _).trans (I.mono λr _ h=>by show w.heap.size<=r;omega)).trans (K.mono λr _ h=>by show w.heap.size<=r;omega);refine⟨he _ _ M hV,⟨X.trans M,af,ag,Ω,al,?_⟩,λh=>by cases h⟩;rw[u9,U];exact z.ac K (λ_=>Ω)
 .rintro k aJ hk ⟨am,v,g,Y,ap,ae⟩;have hk:=hk;subst hk;rw[ax Ψ (ap.cell F)];intro aK N _;rw[Q,o9]at ae;exact⟨(am.ext λr aL h=>by have:w.heap.size<=r:=h;omega).trans N,g,Ω,ae.ext N⟩
def Ow{f:Q4}{cap:Array x1}{p:Nat->List x1->x3->Prop}{e:x3->Prop}{L:Λ}(q:p1 x7 f cap.toList n p e)(s:∀k vs w,p k vs w->∃x,L[k]?=σ x/\vs=[Δ x])(he:∀a b,ai (λr=>w.heap.size<=r) a b->e a->e b)(y:e w)(z:n=L.length)(A:L.length<=1000000):
  an x7 H9 [.func (.func f) #[] cap] w λv J=>Ext w J/\∃g,w.heap.size<=g/\ay .i64 aj J g v L:=by
 refine aA func44 ?_;exact(Ov q s he y z A).mono λ_ _ _ h=>h
def Ox{x:Int}:an x7 cmp_Less_int [Δ x,Δ y] w λv J=>v= .bool (decide (x<y))/\Ext w J:=by
 refine aA func318 ?_;refine aV (λv aa=>v= .bool (decide (x<y))/\Ext w aa) (λ_ _ h=>h) λaB a=>?_;have e:∀{z:Int}{w:x3},an x7 cmp_isNaN_int [Δ z] w λv J=>v= .bool false/\Ext w J:=λ{z w}=>by
  refine aA func82 ?_;simp only[bA];exact⟨Ξ,Ext.refl _⟩
 refine e.mono ?_;rintro _ ab _ ⟨rfl,f⟩;rw[a8];simp only[aP];exact a _ _ ⟨F,f⟩
def Oy{P:W9}{t:p8}{cx cy:Bool}{k:n9}{a b:Int}:cD P (aO .sub t cx cy (.int k a) (.int k b)) (.int k (k.wrap (a-b))) w:=λJ _=>by simp[aO,eqGuard,binOp,Op.intArith]
def Oz{g:Nat}(h:ay .i64 aj w g sv l)(al:l.length<=1000000):
  an x7 KR [sv,Δ 0,Δ l.length] w λ_ J=>ai (λr=>r=g) w J/\∃m,m.Perm l/\m.Pairwise (·<= ·)/\ay .i64 aj J g sv m:=by
 refine aA func312 ?_;simp only[aM];refine⟨λt aa=>∃(i:Nat)(m:Λ),t=Δ i/\1<=i/\(i<=l.length\/i=1)/\m.Perm l/\rS m i/\ai (λr=>r=g) w aa/\ay .i64 aj aa g sv m,λt _=>l.length+1-(bT t).toNat,
  ⟨1,l,by congr 1,Ω,.inr F,.refl _,λp q x y h1 S=>Ω,ai.refl _ _,h⟩,?_⟩
 rintro _ aa ⟨i,m,rfl,ap,aq,z,I,K,hm⟩;have U:=z.length_eq;simp only[aP,am];refine⟨λV=>?_,λau=>?_⟩
 .have V:i<l.length:=Ω
  refine⟨λt ab=>∃(j:Nat)(m:Λ),t=Δ j/\j<=i/\m.Perm l/\qs m i j/\ai (λr=>r=g) w ab/\ay .i64 aj ab g sv m,λt _=>(bT t).toNat,⟨i,m,F,o4 _,z,Mb I,K,hm⟩,?_⟩;rintro _ ab ⟨j,m,rfl,W,z,E,L,hm⟩;have U:=z.length_eq;refine aV (λv M=>Ext ab M/\∃c,v= .bool c/\(c=true->0<j/\∃a b,m[j-1]?=σ a/\m[j]?=σ b/\b<a)/\(c=false->j=0\/0<j/\∃a b,m[j-1]?=σ a/\m[j]?=σ b/\a<=b)) ?_ ?_
  .rintro _ M ⟨B,c,rfl,X,Y⟩;rw[cd];refine⟨λh=>?_,λh=>?_⟩
   .obtain⟨A,a,b,f,s,G⟩:=X h;intro av N _ _;have C:=(hm.ext B).ext N;have e:W5.wrap ((j:Int)-1)=((j-1:Nat):Int):=by rw[wrap_i64 Ω Ω];omega
    simp only[dI,e];rw[be ao.u aj.i Ψ C.ls f,be ao.u aj.i Ψ C.ls s,iK F ao.u aj.i C Ω];refine iL aj.i C Ω λZ ad aw O=>⟨.inr ⟨by have:=Oy (P:=x7) (w:=Z) (t:=aj) (cx:=false) (cy:=true) (k:=.i64) (a:=(j:Int)) (b:=1);rwa [e]at this,trivial⟩,?_⟩;rw[iK F ao.u aj.i O Θ];refine iL aj.i O Θ λax ae az af=>?_;refine⟨⟨j-1,_,F,Ω,(swap_perm Ω f s).trans z,Me E A W f s G,((L.trans ((B.trans N).ac _)).trans ad).trans ae,af⟩,?_⟩;simp only[bT];omega
   .simp only[aM];rw[wrap_i64 Ω Ω];refine⟨⟨i+1,m,F,Ω,.inl Ω,z,?_,L.trans (B.ac _),hm.ext B⟩,?_⟩
    .rcases Y h with rfl|⟨A,a,b,f,s,G⟩
     .exact Mc E
     .exact Md E A f s G
    .simp only[bT];omega
  .intro aB Q aC H _ _;have R:=hm.ext H;simp only[bL,am];refine⟨λA=>?_,λA=>Q _ _ ⟨H,false,F,(λh=>by cases h),λ_=>.inl Ω⟩⟩;have e:W5.wrap ((j:Int)-1)=((j-1:Nat):Int):=by rw[wrap_i64 Ω Ω];omega
   obtain⟨b,s⟩:=aI (l:=m) (i:=j) Ω;obtain⟨a,f⟩:=aI (l:=m) (i:=j-1) Ω;rw[be ao.u aj.i Ψ R.ls s];simp only[dI,e];rw[be ao.u aj.i Ψ R.ls f];refine Ox.mono ?_;rintro _ aD _ ⟨rfl,ag⟩;refine Q _ _ ⟨H.trans ag,_,F,λh=>⟨Ω,a,b,f,s,by simpa using h⟩,λh=>.inr ⟨Ω,a,b,f,s,by simpa using h⟩⟩
 .refine⟨K,m,z,Mf λp q x y h1 S ah ak=>I p q x y h1 Ω ah ak,hm⟩
def OA{P:W9}{t:p8}{k:n9}{s:ByteArray}{i:Nat}{K:x1->Prop}(a:P.underlying t=σ .string)(hi:i<s.size)(e:∀b:Nat,b<256->K (.int .u8 b)):
  ad P (Instr.index t (.string s) (.int k (i:Int))) w K:=by
 have f:s[i]?=σ s[i]:=by simp[hi]
 have:ad P (Instr.index t (.string s) (.int k (i:Int))) w K=K (.int .u8 s[i].toNat):=ad.of λJ _=>by
  simp[Instr.index,asIntOf,run_underlying a,hi]
 rw[this];exact e _ (UInt8.toNat_lt _)
def OB(a:n<256):an x7 IB [.int .u64 (n:Int)] w λv J=>(∃r,v=Δ r)/\Ext w J:=by
 refine aA func81 ?_;refine an.mono (K:=λv J=>(∃r,v=Δ r)/\Ext w J) ?_ (λ_ _ _ h=>h);refine aA func172 ?_;simp only[cw,cO,am];refine⟨λh=>Ω,λ_=>⟨λh=>Ω,λ_=>⟨λh=>Ω,λ_=>?_⟩⟩⟩;rw[fm fK.u cI.u,wrap_u8 Ω Ω];refine OA cT.u (by exact Q7 a Φ) λb e=>?_;rw[fm cI.u aj.u];simp only[aM];exact⟨⟨_,F⟩,Ext.refl _⟩
def OC{g:Nat}(h:ay .i64 aj w g sv l)(f:l.length<=12):
  an x7 KA [sv] w λ_ J=>ai (λr=>r=g) w J/\∃m,m.Perm l/\m.Pairwise (·<= ·)/\ay .i64 aj J g sv m:=by
 refine aA func276 ?_;rw[aX ao.u h.ls,fm aj.u qc.u,wrap_u64 Ω Ω];refine(OB Ω).mono ?_;rintro _ aa _ ⟨⟨r,rfl⟩,e⟩;refine an.mono (K:=λ_ J=>ai (λr=>r=g) aa J/\∃m,m.Perm l/\m.Pairwise (·<= ·)/\ay .i64 aj J g sv m) ?_ (λ_ _ _ h=>⟨(e.ac _).trans h.1,h.2⟩);refine aA func299 ?_;refine⟨λa b _ _ _ ab=>a=Δ 0/\b=Δ l.length/\aa=ab,λ_ _ _ _ _ _=>0,⟨F,F,F⟩,?_⟩;rintro _ _ _ _ _ _ ⟨rfl,rfl,rfl⟩;simp only[dI,nf,am];rw[wrap_i64 Ω Ω];refine⟨λ_=>?_,λh=>Ω⟩;refine(Oz (h.ext e) Ω).mono ?_;exact λ_ _ _ h=>h
def OD{f:Q4}{cap:Array x1}{p:Nat->List x1->x3->Prop}{e:x3->Prop}{L:Λ}(q:p1 x7 f cap.toList n p e)(s:∀k vs w,p k vs w->∃x,L[k]?=σ x/\vs=[Δ x])(he:∀a b,ai (λr=>w.heap.size<=r) a b->e a->e b)(y:e w)(z:n=L.length)(A:L.length<=12):
  an x7 Bj [.func (.func f) #[] cap] w λv J=>Ext w J/\∃g m,w.heap.size<=g/\m.Perm L/\m.Pairwise (·<= ·)/\ay .i64 aj J g v m:=by
 refine aA func243 ?_;refine(Ow q s he y z Ω).mono ?_;rintro v aa _ ⟨B,g,C,ae⟩;refine(OC ae A).mono ?_;rintro _ ab _ ⟨E,m,h1,G,H⟩;exact⟨B.then E (by rintro r I rfl;omega),g,m,C,h1,G,H⟩
def D8{x:Int}(h:aK .i64 w sv l):
  an x7 wI [sv,Δ x] w λv J=>Ext w J/\∃r:Int,v=Δ r/\∀i:Nat,l[i]?=σ x->(r=i↔ ∀j,j<i->l[j]? ≠σ x):=by
 refine aA func53 ?_;rw[aX ao.u h];refine bV.range l.length (λi _ aa=>Ext w aa/\∀j,j<i->l[j]? ≠σ x) h.le ⟨Ext.refl _,λj p=>Ω⟩ ?_ ?_
 .rintro i _ aa k hi ⟨a,e⟩ hk;simp only[aP,am];refine⟨λ_=>?_,λh=>Ω⟩;obtain⟨y,f⟩:=aI (l:=l) hi;rw[be ao.u aj.i Ψ (h.ext a) f];simp only[bf,am,aM];refine⟨λhe=>⟨a,i,F,λq s=>?_⟩,λhe=>hk _ _ ⟨a,λj p=>?_⟩⟩
  .subst he;refine⟨λB=>by
              have:i=q:=Ω
              subst this;exact e,λz=>?_⟩
   rcases Nat.lt_trichotomy i q with h1|h1|h1
   .exact absurd f (z i h1)
   .omega
   .exact absurd s (e q h1)
  .by_cases A:j=i
   .subst A;rw[f];intro h;exact he (Z3 h).symm
   .exact e j Ω
 .rintro _ aa k ⟨a,e⟩;simp only[aP,am];refine⟨λh=>Ω,λ_=>⟨a,-1,F,λi hi=>?_⟩⟩;exact absurd hi (e i (x4.1 hi).1)
def OE{g:Nat}(p:ah w0 g ao [sv])(a:aK .i64 w0 sv l):
  p1 x7 qa [Γ g] l.length (λk vs _=>∃x,l[k]?=σ x/\vs=[Δ x]) (λw=>Ext w0 w):=by
 refine⟨qa.enters,λy aB B w C _ q U r=>?_⟩;refine ry func277 ?_;rw[ax Ψ ((p.ext U).cell F),aX ao.u (a.ext U)];refine cq.range l.length (λi ab=>aB i ab/\Ext w0 ab) a.le ⟨r,U⟩ ?_ ?_
 .rintro i ab k hi ⟨e,f⟩ hk;simp only[aP,am];refine⟨λ_=>?_,λh=>Ω⟩;obtain⟨x,U⟩:=aI (l:=l) hi;rw[be ao.u aj.i Ψ (a.ext f) U];refine⟨F,(q i _ ab hi f ⟨x,U,F⟩ e).mono ?_⟩;rintro _ E (⟨rfl,s,z⟩|⟨rfl,A⟩)
  .simp only[bM,X2,a8,aM];exact hk _ ⟨z.1,s⟩
  .simp only[bM,V8,bX];exact .inr ⟨i,hi,A⟩
 .rintro ab k ⟨e,_⟩;simp only[aP,am];exact⟨λh=>Ω,λ_=>.inl e⟩
def xW(h:aK .i64 w sv l)(p:l.length<=12)(q:∀v J g m,Ext w J->w.heap.size<=g->m.Perm l->m.Pairwise (·<= ·)->ay .i64 aj J g v m->K v J):
  an x7 Bk [sv] w λt aa=>an x7 Bj [t] aa K:=by
 refine Ou.mono ?_;rintro _ aa _ ⟨f,g,rfl,B,e⟩;have e:ah aa g ao [sv]:=by rw[h.cells.1]at e;exact e
 refine(OD (OE e (h.ext f)) (λ_ _ _ h=>h) (λa b s U=>U.then s (λr C h=>Ω)) (Ext.refl _) F p).mono ?_;rintro v ab _ ⟨x,y,m,E,h1,z,A⟩;have:=f.size;exact q v ab y m (f.trans x) Ω h1 z A
def OF(w:x3)(al:Λ)(k:Int)(cs a:Λ)(v:x1)(J:x3):Prop:=
 Ext w J/\
  (¬Good a al.length->v= .tuple #[.pointer ν,Δ 1])/\
  (Good a al.length->∃e f h,v= .tuple #[Γ e,Δ 0]/\di J e f h (eV al a) k (pm al cs a))
def OG{g bG:Nat}{X:x1}{cs z:Λ}(h:di w g bG sv al k cs)(hk:right k)(O:aK .i64 w X z)(ck:z.length<=12)(cl:Good z al.length->aR (eV al z)<=4096):
  an x7 Kh [Γ g,X] w (OF w al k cs z):=by
 have aC:=h;have cm:=h.2.2.1;have cn:=O.cells;refine iG func245 ?_;refine bh λg1 aa c6 bH B=>?_;refine bh λbI ab c7 a2 A=>?_;have s1:=bH.size;have c9:=a2.size;have da:=B.lt;have db:=A.lt;have a6:=bH.trans a2;have B:=B.ext a2;have A:ah ab bI ao [X]:=by rw[cn.1]at A;exact A
 rw[ax Ψ (B.cell F),dh e7.u];simp only[Y0,a8];rw[ax Ψ (A.cell F)];have cp:=O.ext a6;have sub:∀{w:x3}{g:Nat}{sv:x1}{k:Int}{bb:x1},ah w g cX [sv,Δ k,bb]->w.rangeAt g (0+0) [sv]:=λH=>pe H (by
  intro j v ae
  match j,ae with
  |0,ae=>exact ae)
 refine xW cp ck λef cr dl m bJ dc a7 ct hm=>?_;have cu:=a7.length_eq;rw[aX ao.u hm.ls];have cw:=a6.trans bJ;refine mg.range m.length (λi _ _ ba=>Ext cr ba/\∀j,j<i->m[j]?=σ (j:Int)) Ω ⟨Ext.refl _,λj bc=>Ω⟩ ?_ ?_
 .rintro i _ _ ba Y hi ⟨Z,bd⟩ ad;simp only[aP,am];refine⟨λ_=>?_,λh=>Ω⟩;obtain⟨y,af⟩:=aI (l:=m) hi;rw[be ao.u aj.i Ψ (hm.ls.ext Z) af];simp only[bA,am,aM];refine⟨λag dd cz _=>⟨(cw.trans Z).trans cz,λ_=>rfl,λbf=>?_⟩,λhe=>ad _ _ _ ⟨Z,λj bc=>?_⟩⟩
  .have:=CD bf a7 ct i hi;rw[af]at this;exact absurd (Z3 this).symm ag
  .by_cases cA:j=i
   .subst cA;rw[af];congr 1;omega
   .exact bd j Ω
 .rintro _ _ ba Y ⟨Z,bd⟩;simp only[aP,am,ey];refine⟨λh=>Ω,λ_ de cB _ _=>?_⟩;have C:=Mg bd a7;have ak:=(bJ.trans Z).trans cB;have aD:=a6.trans ak;have B:=B.ext ak;have A:=A.ext ak;have cC:=O.ext aD;have cD:=aC.ext aD;have df:=ak.size;obtain⟨⟨bb,gs,H,aE,bK⟩,_⟩:=id cD;rw[ax Ψ (A.cell F),aX ao.u cC,ax Ψ (B.cell F),bZ,aW cX.p F,bN (cs:=[sv]) bD.p bD.i F (sub H)];refine(C2 aE.ls).mono ?_;rintro _ dg _ ⟨rfl,I⟩;refine⟨.inl I,?_⟩;simp only[bA,am];refine⟨λag dj cE _=>⟨(aD.trans I).trans cE,λ_=>rfl,λbf=>absurd (by rw[bf.1]) ag⟩,λdm=>?_⟩;have bg:z.length=al.length:=Ω
  have C:Good z al.length:=by rw[<-bg,<-cu];exact C
  have dn:=ak.trans I;have bi:=aD.trans I;have B:=B.ext I;have A:=A.ext I;have bL:=O.ext bi;rw[ax Ψ (A.cell F),aX ao.u bL];refine k6 ao.u aj.i Ω Ω λgz cF dp P bM=>?_;have cG:=ay.of (n:=z.length) (b1.full bM Ξ (by simp[maxLen];omega));generalize (x1.slice (σ ⟨gz,0,ν⟩) z.length z.length)=cH at*;have dq:=I.size;have dr:=P.size;have ds:=bM.lt;rw[ax Ψ ((A.ext P).cell F),aX ao.u (bL.ext P)];have bO:=bi.trans P;have aF:(eV al z).length=z.length:=ut _ _;refine cq.range z.length (λi aG=>ai (λr=>r=gz) cF aG/\ay .i64 aj aG gz cH (upto (eV al z) 0 i)) Ω ⟨ai.refl _ _,by rw[rO,aF];exact cG⟩ ?_ ?_
  .rintro i aG Y hi ⟨K,aH⟩ ad;simp only[aP,am];refine⟨λ_=>?_,λh=>Ω⟩;have ap:=bO.then K (by rintro r L rfl;omega);have aJ:=P.then K (by rintro r L rfl;omega);obtain⟨p,bj⟩:=aI (l:=z) hi;obtain⟨⟨bb,gs,H,aE,bK⟩,_⟩:=aC.ext ap;rw[be ao.u aj.i Ψ (O.ext ap) bj,ax Ψ ((B.ext aJ).cell F),bZ,aW cX.p F,bN (cs:=[sv]) bD.p bD.i F (sub H)];refine(rX aE.ls).mono ?_;rintro _ dt _ ⟨rfl,bP⟩;have bQ:=aH.ext bP;have cI:(upto (eV al z) 0 i).length=z.length:=by rw[rN,aF]
   rw[iK F ao.u aj.i bQ Ω];refine iL aj.i bQ Ω λdu cJ _ bR=>?_;simp only[aM];have h1:=(C.2 i p bj).1;have aq:(eV al z)[i]?=σ (jm al p):=by
    unfold eV jm;rw[x8,bj,if_pos h1.1];rfl
   rw[rQ aq]at bR;exact ad _ ⟨(K.trans (bP.ac _)).trans cJ,bR⟩
  .rintro aG Y ⟨K,aH⟩;simp only[aP,am];refine⟨λh=>Ω,λ_=>?_⟩;have ap:=bO.then K (by rintro r L rfl;omega);have aJ:=P.then K (by rintro r L rfl;omega);rw[<-aF,rP]at aH;obtain⟨⟨bb,gs,H,aE,bK⟩,_⟩:=aC.ext ap;rw[ax Ψ ((B.ext aJ).cell F),aT cX.p 1 H F];have aL:=cm.Mi C F;have bS:=cl C;have dv:=prod_bound aL;refine(w8 aH.ls).mono ?_;rintro _ bT _ ⟨bU,_,_,_,cK⟩;obtain⟨au,E,Q,rfl,dw,dx,dy,aO⟩:=cK aL bS ⟨hk,Ω,by have:=hk.1;omega⟩;obtain⟨N,aQ⟩:∃N:Nat,(aR (eV al z)).toNat=N:=⟨_,F⟩;rw[aQ]at aO;rw[bq,br];refine bu e7.i λbV dz dA bW aw=>?_;refine bp e7.i F rfl aw (by simp[x1.cells]) λdC cL dD aw=>?_;have dE:=K.size;have dF:=bU.size;have dG:=bW.size;have bk:=bW.then cL (by rintro r L rfl;omega);have bX:=bU.trans bk;have cM:=aO.ext bk;have dH:=aw.lt;obtain⟨⟨bl,bY,b0,b2,cN⟩,⟨b3,b4,_⟩,_,dI⟩:=id cM;have dJ:0<N:=Ω
   have dK:au<bT.heap.size:=by obtain⟨⟨_,_,q,_⟩,_⟩:=id aO;exact q.lt
   have dL:E<bT.heap.size:=by obtain⟨⟨_,_,_,_,q⟩,_⟩:=id aO;exact uV q Θ
   rw[ax Ψ (aw.cell F),bZ,aW cX.p F,bN (cs:=[Q]) bD.p bD.i F (sub b0)];refine xy.mono ?_;rintro _ M _ ⟨G,aS,rfl,dM,b5⟩;have dN:=bk.size;have dO:=G.size;let S:Nat->Prop:=λr=>r=E;let R:=pm al cs z;have bm:R.length=N:=by simp only[R];rw[CJ,aQ]
   let cO:x3->Prop:=λJ=>ah J g1 e7 [Γ g]/\ah J bI ao [X]/\ah J bV e7 [Γ au]/\ah J au cX [Q,Δ k,bl]/\
    di J g bG sv al k cs/\aK .i64 J X z/\ay .i64 aj J bY Q (eV al z)/\ah J aS bD [Q]/\M.heap.size<=J.heap.size
   have V:∀{a:x3},ai S M a->cO a:=by
    intro a U;have bn:=(aJ.trans bX).trans G;have bs:=bn.put U Ω;have b6:=bi.trans bs;refine⟨B.ext bs,A.ext bs,(aw.ext G).ac U (by show¬(bV=E);omega),(b0.ext G).ac U (by show¬(au=E);exact b3),aC.ext b6,O.ext b6,bw (b2.ext G) U (λr L he=>b4 ((show r=E from he)▸L)),
     b5.ac U (by show¬(aS=E);omega),U.size⟩
   have b7:=xx (g:=aS) (B0:=M.heap.size) (sv:=Q) aL;rw[aQ]at b7;refine p2.old ⟨Nat,false,m9,#[Γ aS],0,_,_,_,λq J=>ai S M J/\ay .i64 av J E bl (upto R 0 q),λ_ _ _=>False,F,b7.s,
    ?_,λ_ _ U h=>⟨h.1.ext U,h.2.1.ext U,X3 h.2.2 U.size⟩,λ_ _ _ U h=>⟨h.1.trans (U.ac S),h.2.ext U⟩,λ_ _ _ _ _ h=>h,⟨b5,(b2.ext G).ls,o4 _⟩,⟨ai.refl _ _,?_⟩,?_,?_,λ_ _ h=>h.elim,λ_ _ _ h=>h.elim⟩
   .rintro _ _ _ _ ⟨_,_,_,_,rfl,_⟩;rfl
   .rw[rO,bm];exact cN.ext G
   .rintro _ aN q _ dP ⟨_,_,dQ⟩ ⟨aq,rfl,dR,gt,cP,dS,cQ⟩ ⟨aU,cR⟩;cases cP;let x:=dk (eV al z) (q:Int);have b9:x.length=z.length:=by simp only[x];rw[kD,aF]
    intro cS W _ _;have ca:=cQ.ext W;rw[aX ao.u ca.ls];refine k6 ao.u aj.i (by rw[kD];omega) (by rw[kD];omega) λgo cT dT bt cb=>?_;have cU:=ay.of (n:=(dk (eV al z) (q:Int)).length) (b1.full cb Ξ (by rw[kD];simp[maxLen];omega));generalize (x1.slice (σ ⟨go,0,ν⟩) (dk (eV al z) (q:Int)).length (dk (eV al z) (q:Int)).length)=cV at*;have dU:=aU.size;have dV:=W.size;have dW:=bt.size;have lo:=cb.lt;have cW:ai S M cT:=aU.trans ((W.trans bt).ac S);have f:=V cW;rw[ax Ψ (f.2.1.cell F),aX ao.u f.2.2.2.2.2.1];refine cq.range z.length (λj aV=>Ext cS aV/\∃y:Λ,y.length=z.length/\ay .i64 aj aV go cV y/\∀(i:Nat)(p:Int),i<j->z[i]?=σ p->y[p.toNat]?=x[i]?) Ω
     ⟨bt,_,by simp[b9,x],cU,λi p hi=>Ω⟩ ?_ ?_
    .rintro j aV Y bc ⟨aA,y,bx,aY,bz⟩ ad;simp only[aP,am];refine⟨λ_=>?_,λh=>Ω⟩;have f:=V (aU.trans ((W.trans aA).ac S));obtain⟨p,aZ⟩:=aI (l:=z) bc;obtain⟨u,hu⟩:=aI (l:=x) (i:=j) Ω;have dX:=(C.2 j p aZ).1;rw[be ao.u aj.i Ψ f.2.2.2.2.2.1 aZ,be ao.u aj.i Ψ (ca.ext aA).ls hu,iK (i:=p.toNat) Ω ao.u aj.i aY Ω];refine iL aj.i aY Ω λdY cY dZ cZ=>?_;simp only[aM];refine ad _ ⟨aA.then cY (by rintro r L rfl;omega),_,by simpa using bx,cZ,λi a1 hi aB=>?_⟩;by_cases cc:i=j
     .subst cc;rw[aZ]at aB;cases aB;rw[b8 Ω,hu]
     .have ea:=(C.2 i a1 aB).1;have ag:p.toNat≠a1.toNat:=λhe=>by
       have:p=a1:=Ω
       subst this;exact cc (C.inj aB aZ)
      rw[Y6 ag];exact bz i a1 Ω aB
    .rintro aV Y ⟨aA,y,bx,aY,bz⟩;simp only[aP,am];refine⟨λh=>Ω,λ_ c0 cd _ _=>?_⟩;have af:=CH C (by rw[b9,bg]) (by rw[bx,bg]) λi p ce=>bz i p (x4.1 ce).1 ce;have cf:=aA.trans cd;have cg:ai S M c0:=aU.trans ((W.trans cf).ac S);obtain⟨f1,f2,f3,f4,f5,f6,f7,f8,f9⟩:=V cg;rw[ax Ψ (f3.cell F),aT cX.p 2 f4 F,ax Ψ (f1.cell F)];refine(w9 f5 (aY.ls.ext cd)).mono ?_;rintro _ eb _ ⟨rfl,bB⟩;refine⟨.inl bB,?_⟩;obtain⟨e,he⟩:=xV al y cs;rw[he,bq,br];have c1:=cg.trans (bB.ac S);have ch:=(cR.ext ((W.trans cf).trans bB));have cI:(upto R 0 q).length=N:=by rw[rN,bm]
     rw[iK F az.u av.i ch Ω];refine iL av.i ch Ω λc2 c3 ec ci=>?_;have cj:ai S M c2:=c1.trans (c3.mono λr _ h=>h);obtain⟨f1,f2,f3,f4,f5,f6,f7,f8,f9⟩:=V cj;have c4:R[q]?=σ (bo al cs y):=by
      simp only[R,pm];rw[x8,List.getElem?_range (by rw[aQ];exact aq),af];rfl
     rw[rQ c4]at ci;exact⟨⟨f8,f7.ls,f9⟩,⟨cj,ci⟩,λh=>by cases h⟩
   .rintro q ed aq ⟨bC,bE⟩;rw[show q=N from aq]at bE;have f:=V bC;rw[ax Ψ (f.2.2.1.cell F)];intro ee bF _;obtain⟨f1,f2,f3,f4,f5,f6,f7,f8,f9⟩:=V (bC.trans (bF.ac S));rw[<-bm,rP]at bE;have bn:=(ap.trans bX).trans G;refine⟨(bn.put bC Ω).trans bF,λc5=>absurd C c5,λ_=>⟨au,E,Q,F,⟨bl,bY,f4,f7,bE.ext bF⟩,⟨b3,b4,bS⟩,aL,CJ _ _ _⟩⟩
def ip(l:Λ):Prop:=∀(i j:Nat)(x y:Int),i<j->l[i]?=σ x->l[j]?=σ y->x<y
def ip.inj(h:ip l){i:Nat}{x:Int}(hi:l[i]?=σ x)(a:l[j]?=σ x):i=j:=by
 rcases Nat.lt_trichotomy i j with h1|h1|h1
 .have:=h i j x x h1 hi a;omega
 .exact h1
 .have:=h j i x x h1 a hi;omega
def dedup(l:Λ):Nat->Λ
 |0=>[]
 |j+1=>if 0<j/\l[j]?=l[j-1]? then dedup l j else dedup l j++[l.getD j 0]
theorem D9(l:Λ):∀j,(dedup l j).length<=j
 |0=>o4 _
 |j+1=>by
  have:=D9 l j;unfold dedup;split
  .omega
  .simp;omega
def xX(a:0<j)(h:l[j]?=l[j-1]?):dedup l (j+1)=dedup l j:=by
 rw[dedup,if_pos ⟨a,h⟩]
def xY{x:Int}(U:l[j]?=σ x)(h:0<j->l[j]? ≠l[j-1]?):dedup l (j+1)=dedup l j++[x]:=by
 rw[dedup,if_neg (λa=>h a.1 a.2),u4,U];rfl
theorem u0{l:Λ}:∀{j:Nat},j<=l.length->(∀i,i<j->0<i->l[i]? ≠l[i-1]?)->dedup l j=l.take j
 |0,_,_=>by simp[dedup]
 |j+1,e,h=>by
  have U:l[j]?=σ l[j]:=x6 Ω;rw[xY U (h j Ω),u0 Ω (λi hi a=>h i Ω a),u9,U];rfl
theorem Ea{l:Λ}(V:l.Pairwise (·<= ·)):∀{j:Nat},j<=l.length->(ip (dedup l j)/\∀x,x∈dedup l j↔x∈l.take j)
 |0,_=>⟨λi j x y _ h=>by simp[dedup]at h,λx=>by simp[dedup]⟩
 |j+1,H=>by
  obtain⟨h1,p⟩:=Ea V (j:=j) Ω;have U:l[j]?=σ l[j]:=x6 Ω;by_cases f:0<j/\l[j]?=l[j-1]?
  .rw[xX f.1 f.2];refine⟨h1,λx=>?_⟩;rw[p,u9,U];simp only[j4,p9,j5];refine⟨.inl,λh=>h.elim id λhe=>?_⟩;subst he;have r:(l.take j)[j-1]?=σ l[j]:=by rw[Y2 Ω,<-f.2,U]
   exact x5 r
  .have s:0<j->l[j]? ≠l[j-1]?:=λA he=>f ⟨A,he⟩;rw[xY U s];have B:∀x∈dedup l j,x<l[j]:=λx C=>by
    obtain⟨i,hi,he⟩:=List.getElem_of_mem ((p x).1 C);have:i<j:=by rw[j6]at hi;omega
    rw[List.getElem_take]at he;subst he;have r:l[i]<=l[j-1]:=by
     by_cases w:i=j-1
     .subst w;exact Int.le_refl _
     .exact V3.1 V i (j-1) Ω Ω Ω
    have w:=V3.1 V (j-1) j Ω Ω Ω;have z:=s Ω;rw[U,x6 (show j-1<l.length by omega)]at z;have:l[j]≠l[j-1]:=λh=>z (by rw[h]);omega
   refine⟨λa b x y E q e=>?_,λx=>?_⟩
   .have F:=(x4.1 e).1;simp only[r8,b9,List.length_nil]at F;rw[X0 Ω]at q;by_cases G:b=(dedup l j).length
    .subst G;rw[X1 (o4 _),U9]at e;simp at e;subst e;exact B x (x5 q)
    .rw[X0 Ω]at e;exact h1 a b x y E q e
   .rw[u9,U];simp only[j4,p9,j5,p]
def sg(l:Λ):Prop:=∀(j:Nat)(x:Int),l[j]?=σ x->0<=x/\(0<j->∀y,l[j-1]?=σ y->y<x)
def sg.up(h:sg l):ip l:=by
 intro i j x y q U;induction j generalizing y with
 |zero=>omega
 |succ j f=>
  intro e;have:=(x4.1 e).1;obtain⟨z,a⟩:∃z,l[j]?=σ z:=⟨_,x6 (show j<l.length by omega)⟩;have h1:=(h (j+1) y e).2 Ω z (by simpa using a);by_cases p:i=j
  .subst p;rw[U]at a;cases a;exact h1
  .have:=f z Ω a;omega
def OH(h:ip l)(a:∀x∈l,0<=x):sg l:=λj x U=>⟨a x (x5 U),λf y e=>h (j-1) j y x Ω e U⟩
def Eb{g E:Nat}{cR:x1}{cs:Λ}(h:di w g E sv al k cs)(a:aK .i64 w cR l):
  an x7 Ki [Γ g,cR] w λv J=>Ext w J/\∃c,v= .bool c/\(c=true↔l.length=al.length/\sg l):=by
 obtain⟨⟨bb,gs,G,hm,f⟩,_⟩:=h;have sub:w.rangeAt g (0+0) [sv]:=pe G (by
  intro j v ae
  match j,ae with
  |0,ae=>exact ae)
 refine aA func246 ?_;rw[aX ao.u a,bZ,aW cX.p F,bN (cs:=[sv]) bD.p bD.i F sub];refine(C2 hm.ls).mono ?_;rintro _ aa _ ⟨rfl,q⟩;simp only[bA,am];refine⟨λH=>⟨q,false,F,(λh=>by cases h),λh=>absurd (by rw[h.1]) H⟩,λB=>?_⟩;have B:l.length=al.length:=Ω
 rw[aX ao.u (a.ext q)];refine bV.range l.length (λi _ ab=>Ext w ab/\∀(j:Nat)(x:Int),j<i->l[j]?=σ x->0<=x/\(0<j->∀y,l[j-1]?=σ y->y<x)) a.le ⟨q,λj x I=>Ω⟩ ?_ ?_
 .rintro i _ ab K hi ⟨e,r⟩ L;simp only[aP,am];refine⟨λ_=>?_,λh=>Ω⟩;obtain⟨x,U⟩:=aI (l:=l) hi;have Q:=a.le;rw[be ao.u aj.i Ψ (a.ext e) U];refine aV (λv M=>ab=M/\∃c,v= .bool c/\(c=false↔0<=x/\(0<i->∀y,l[i-1]?=σ y->y<x))) ?_ ?_
  .rintro _ _ ⟨rfl,c,rfl,f⟩;rw[cd];simp only[aM];refine⟨λN=>⟨e,false,F,(λh=>by cases h),λh=>?_⟩,λaf=>L _ _ ⟨e,λj O I s=>?_⟩⟩
   .have:=f.2 (h.2 i x U);rw[N]at this;cases this
   .by_cases P:j=i
    .subst P;rw[U]at s;cases s;exact f.1 af
    .exact r j O Ω s
  .intro aB z;simp only[aP,bL,dI,am];refine⟨λR=>z _ _ ⟨F,true,F,(λh=>by cases h),λh=>Ω⟩,λS=>⟨λV=>?_,λW=>z _ _ ⟨F,false,F,λ_=>⟨Ω,λh=>Ω⟩,λ_=>rfl⟩⟩⟩;obtain⟨y,A⟩:∃y,l[i-1]?=σ y:=⟨_,x6 (show i-1<l.length by omega)⟩;rw[wrap_i64 Ω Ω,gf (i:=i-1) Ω ao.u aj.i Ψ (a.ext e) A];simp only[cO];refine z _ _ ⟨F,_,F,?_⟩;rw[decide_eq_false_iff_not];refine⟨λh=>⟨Ω,λ_ X C=>by rw[A]at C;cases C;omega⟩,λh=>by have:=h.2 Ω y A;omega⟩
 .rintro _ ab K ⟨e,r⟩;simp only[aP,am];exact⟨λh=>Ω,λ_=>⟨e,true,F,λ_=>⟨B,λj x U=>r j x (x4.1 U).1 U⟩,λ_=>rfl⟩⟩
def fu(l:Λ)(x:Int):Int:=if x∈l then(l.idxOf x:Int)else-1
def xZ{i:Nat}{x:Int}(h:ip l)(hi:l[i]?=σ x):fu l x=i:=by
 have hm:x∈l:=x5 hi;have a:=List.idxOf_lt_length_of_mem hm;have e:l.idxOf x=i:=h.inj (by rw[x6 a,List.getElem_idxOf a]) hi;unfold fu;rw[if_pos hm,e]
def OI{x:Int}(h:x∉l):fu l x= -1:=if_neg h
def u1{x:Int}(h:aK .i64 w sv l)(hu:ip l):
  an x7 wI [sv,Δ x] w λv J=>v=Δ (fu l x)/\Ext w J:=by
 refine aA func53 ?_;rw[aX ao.u h];refine bV.range l.length (λi _ aa=>Ext w aa/\∀j,j<i->l[j]? ≠σ x) h.le ⟨Ext.refl _,λj p=>Ω⟩ ?_ ?_
 .rintro i _ aa k hi ⟨a,e⟩ hk;simp only[aP,am];refine⟨λ_=>?_,λh=>Ω⟩;obtain⟨y,f⟩:=aI (l:=l) hi;rw[be ao.u aj.i Ψ (h.ext a) f];simp only[bf,am,aM];refine⟨λhe=>⟨?_,a⟩,λhe=>hk _ _ ⟨a,λj p=>?_⟩⟩
  .subst he;rw[xZ hu f]
  .by_cases q:j=i
   .subst q;rw[f];intro h;exact he (Z3 h).symm
   .exact e j Ω
 .rintro _ aa k ⟨a,e⟩;simp only[aP,am];refine⟨λh=>Ω,λ_=>⟨?_,a⟩⟩;rw[OI];intro hm;obtain⟨i,hi,he⟩:=List.getElem_of_mem hm;exact e i hi (by rw[x6 hi,he])
def gl(x vars scope:Λ):Λ:=scope.map λp=>x.getD (vars.idxOf p) 0
def OJ(x vars scope:Λ):(gl x vars scope).length=scope.length:=by simp[gl]
def Ec{dJ y:x1}{x vars:Λ}(U:aK .i64 w dJ x)(ae:aK .i64 w y vars)(V:aK .i64 w sv scope)(hu:ip vars)(E:∀p∈scope,p∈vars)(O:x.length=vars.length)(P:scope.length<=1000):
  an x7 Kn [dJ,y,sv] w λv J=>Ext w J/\∃g,w.heap.size<=g/\ay .i64 aj J g v (gl x vars scope):=by
 refine aA func251 ?_;rw[aX ao.u V];refine k6 ao.u aj.i Ω Ω λgz aa Q z G=>?_;have H:ay .i64 aj aa gz (.slice (σ ⟨gz,0,ν⟩) scope.length scope.length) (o8 scope.length 0):=ay.of (n:=scope.length) (b1.full G Ξ (by simp[maxLen];omega));generalize (x1.slice (σ ⟨gz,0,ν⟩) scope.length scope.length)=I at*;rw[aX ao.u (V.ext z)];have q:=OJ x vars scope;refine cq.range scope.length (λi ab=>Ext w ab/\ay .i64 aj ab gz I (upto (gl x vars scope) 0 i)) Ω ⟨z,by rw[rO,q];exact H⟩ ?_ ?_
 .rintro i ab K hi ⟨a,hm⟩ L;simp only[aP,am];refine⟨λ_=>?_,λh=>Ω⟩;obtain⟨p,s⟩:=aI (l:=scope) hi;have A:=E p (x5 s);have:=List.idxOf_lt_length_of_mem A;rw[be ao.u aj.i Ψ (V.ext a) s];refine(u1 (ae.ext a) hu).mono ?_;rintro _ S _ ⟨rfl,f⟩;have e:fu vars p=(vars.idxOf p:Int):=if_pos A;obtain⟨u,B⟩:∃u,x[vars.idxOf p]?=σ u:=⟨_,x6 Ω⟩;have W:(upto (gl x vars scope) 0 i).length=scope.length:=by rw[rN,q]
  rw[gf (i:=vars.idxOf p) e ao.u aj.i Ψ (U.ext (a.trans f)) B,iK F ao.u aj.i (hm.ext f) Ω];refine iL aj.i (hm.ext f) Ω λX M _ C=>?_;simp only[aM];have N:(gl x vars scope)[i]?=σ u:=by
   unfold gl;rw[x8,s,Y1,u4,B];rfl
  rw[rQ N]at C;exact L _ ⟨(a.trans f).then M (by rintro r Y rfl;omega),C⟩
 .rintro ab K ⟨a,hm⟩;simp only[aP,am];refine⟨λh=>Ω,λ_=>⟨a,gz,Ω,?_⟩⟩;rw[<-q,rP]at hm;exact hm
def Ed(h:t≠[])(hw:∀b∈t,bQ b=true):lex t=([t],true):=by
 cases t with
 |nil=>exact absurd F h
 |cons b q=>
  have a:q.dropWhile bQ=[]:=by
   have:∀(q:Λ),(∀x∈q,bQ x=true)->q.dropWhile bQ=[]/\q.takeWhile bQ=q:=λq a=>by
    induction q with
    |nil=>simp
    |cons x q e=>
     have:=e λy f=>a y (.tail _ f);simp[a x (.head _),this.1,this.2]
   exact(this q λx U=>hw x (.tail _ U)).1
  have p:q.takeWhile bQ=q:=by
   have:∀(q:Λ),(∀x∈q,bQ x=true)->q.takeWhile bQ=q:=λq a=>by
    induction q with
    |nil=>simp
    |cons x q e=>simp[a x (.head _),e λy f=>a y (.tail _ f)]
   exact this q λx U=>hw x (.tail _ U)
  rw[B8 (hw b (.head _)),a,p]
def Ee{p:x1}(h:aK .u8 w p l)(e:Bytes l)(f:l.length<=100000):an x7 A1 [p] w λv J=>Ext w J/\∃g R,v=Γ g/\w.heap.size<=g/\iN J g R (lex l).1 (lex l).2/\¬R g:=by
 refine(Cg h e f).mono ?_;rintro _ aa _ ⟨q,g,rfl,s,x,a⟩;obtain⟨h1,A,B,y,bs,hm⟩:=id a;exact⟨q,g,λr=>r≠g,F,s,⟨x,l,0,a,λr z=>cc hm y Φ z,by rw[List.drop_zero]⟩,λh=>h F⟩
def OK{p:x1}(h:aK .u8 w p t)(y:Bytes t)(z:t.length<=100000)(A:t≠[])(hw:∀b∈t,bQ b=true):an x7 Ky [p] w λv J=>Ext w J/\∃n:Int,v= .tuple #[Δ 1,Δ n,Δ 0]:=by
 have B:=Ed A hw;refine aA func273 ?_;refine(Ee h y z).mono ?_;rintro _ aa _ ⟨C,g,R,rfl,H,q,I⟩;rw[B]at q;refine⟨λ_ _ _ a ab=>ai (λr=>r=g) aa ab/\((a=Δ 0/\iN ab g R [t] true)\/(a=Δ 1/\iN ab g R [] true)),λ_ _ _ a _=>1-(bT a).toNat,⟨ai.refl _ _,.inl ⟨F,q⟩⟩,?_⟩;rintro _ _ _ _ ab ⟨s,⟨rfl,e⟩|⟨rfl,e⟩⟩
 .refine (rT e).mono ?_;rintro v E _ ⟨f,G,n,rfl⟩;rw[fN,fO,fP,bf,am];refine⟨λ_=>?_,λh=>absurd F h⟩;rw[aM,wrap_i64 Ω Ω];exact⟨⟨s.trans f,.inr ⟨F,G⟩⟩,by simp[bT]⟩
 .refine (rT e).mono ?_;rintro v E _ ⟨f,n,rfl⟩;rw[fN,fO,fP,bf,am];refine⟨λh=>by simp at h,λ_=>?_⟩;rw[bf,am];refine⟨λh=>by simp at h,λ_=>?_⟩;have x:=C.then (s.trans f) (λr K he=>by have he:r=g:=he;omega);rw[aX cM.u (h.ext x)];exact⟨x,_,F⟩
def OL(a:Bytes t)(e:t.length<=100000)(f:t≠[])(hw:∀b∈t,bQ b=true):an x7 Kd [bW t] w λv J=>v= .bool true/\Ext w J:=by
 have y:=Ed f hw;refine aA func238 ?_;refine xe cT.u cM.u cI.u a Ω λbv aa p z _=>?_;refine(OK z a e f hw).mono ?_;rintro _ ab _ ⟨q,n,rfl⟩;rw[fN,fO,fP];refine xe cT.u cM.u cI.u a Ω λK L s A _=>?_;refine(Ee A a e).mono ?_;rintro _ M _ ⟨B,g,R,rfl,N,x,O⟩;rw[y]at x;refine(rT x).mono ?_;rintro _ C _ ⟨E,_,m,rfl⟩;rw[fN,fO,fP];have G:=(((p.trans q).trans (s.trans B))).then E (λr P he=>by
  have he:r=g:=he;have:=p.size;have:=q.size;have:=s.size;omega)
 refine aV (λv H=>C=H/\v= .bool true) ?_ ?_
 .rintro _ _ ⟨rfl,rfl⟩;exact⟨F,G⟩
 .intro aB I;rw[bf,am];refine⟨λ_=>?_,λh=>absurd F h⟩;rw[bf,am];refine⟨λ_=>?_,λh=>absurd F h⟩;rw[xc a a];exact I _ _ ⟨F,by rw[decide_eq_true F]⟩
def OM{x:Int}:an x7 wR [Δ x] w λv J=>v= .bool (decide (¬jD x))/\Ext w J:=by
 refine aA func237 ?_;refine aV (λv aa=>w=aa/\v= .bool (decide (¬jD x))) ?_ ?_
 .rintro _ _ ⟨rfl,rfl⟩;exact⟨F,Ext.refl _⟩
 .intro aB e;rw[aP,am];refine⟨λh=>e _ _ ⟨F,by rw[decide_eq_true];intro a;have:=a.1;omega⟩,λh=>?_⟩;rw[bL];refine e _ _ ⟨F,?_⟩;congr 1;rw[U6,decide_eq_true_eq,decide_eq_true_eq];exact⟨λf a=>by have:=a.2;omega,λf=>by
   by_cases p:32<x
   .exact p
   .exact absurd ⟨Ω,Ω⟩ f⟩
def ON(h:aK .i64 w sv l)(e:∀x∈l,jD x):
  an x7 wQ [sv,.func (.func wR) #[] #[]] w λv J=>v= .bool false/\Ext w J:=by
 refine aA func235 ?_;refine an.mono (K:=λv J=>v=Δ (-1)/\Ext w J) ?_ ?_
 .refine aA func133 ?_;rw[aX ao.u h];refine bV.range l.length (λ_ _ aa=>Ext w aa) h.le (Ext.refl _) ?_ ?_
  .rintro i _ aa k hi U hk;refine bB Ω ?_;obtain⟨x,a⟩:=aI (l:=l) hi;rw[be ao.u aj.i Ψ (h.ext U) a];show an x7 wR [Δ x] aa _;refine OM.mono ?_;rintro _ ab _ ⟨rfl,f⟩;rw[am];refine⟨λp=>absurd (e x (x5 a)) p,λ_=>?_⟩;rw[aM];exact hk _ _ (U.trans f)
  .rintro _ aa k U;rw[aP,am];exact⟨λh=>Ω,λ_=>⟨F,U⟩⟩
 .rintro _ aa _ ⟨rfl,U⟩;rw[cO];exact⟨F,U⟩
def u2{m:Bool}{S R:ak}{d:io}(h:au.rep m S R w cs d):∃sv g a aN gs,cs=[sv,Γ g]/\aK .i64 w sv d.1/\gk w g a aN gs d.2.al d.2.k d.2.o d.2.D:=by
 obtain⟨c,e,A,B,rfl,_,_,_,h1,f⟩:=h;have h1:=h1;obtain⟨u,rfl⟩:=V7.1 (show c.length=1 from au.len h1);obtain⟨g,m,sv,gs,rfl,p,_⟩:=f;exact⟨u,g,m,sv,gs,F,c3 h1,p⟩
def OO{U:Nat}{f:b3}{d:io}{x:cj}{m:Bool}{S R:ak}(af:mC w U f)(ag:e9 N f)(ai:x∈f.funs)(aq:sf f.k x d)(av:au.rep m S R w cs d):
  an x7 Kz [Γ U,.agg cs.toArray] w λv J=>v= .bool true/\Ext w J:=by
 obtain⟨szv,aJ,gz,aK,V,W,_,_⟩:=af;obtain⟨sv,gT,aO,aN,gs,rfl,s,I⟩:=u2 av;obtain⟨aw,X,ay,aQ,aR,aS⟩:=aq;obtain⟨E,aU,aW⟩:=ag.funs x ai;rw[aw]at s;refine aA func275 ?_;refine bh λap aa aY A G=>?_;have G:ah aa ap cH [sv,Γ gT]:=by obtain⟨_,_,_,rfl⟩:=c6 s;exact G
 refine aV (λv ab=>Ext aa ab/\v= .bool false) ?_ ?_
 rotate_left
 .intro aB K;intro ab q _ _;have z:=G.ext q;rw[aL cH.p 1 z F,dh eT.u];simp only[Y0,a8];rw[aL cH.p 1 z F,aT cE.p 1 (V.ext (A.trans q)) F];refine(MU (I.ext (A.trans q)).is).mono ?_;rintro _ B _ ⟨rfl,a⟩;refine⟨.inl a,?_⟩;rw[bA,am];refine⟨λh=>absurd ay h,λ_=>?_⟩;have C:=z.ext a;have L:=q.trans a;rw[aL cH.p 1 C F,aL cH.p 0 C F,aX ao.u (s.ext (A.trans L))];refine(MV (I.ext (A.trans L)).is).mono ?_;rintro _ H _ ⟨rfl,e⟩;refine⟨.inl e,?_⟩;rw[bA];refine K _ _ ⟨L.trans e,?_⟩;rw[decide_eq_false];intro h;exact h (by rw[X,E.sizes,r9])
 rintro _ ab ⟨q,rfl⟩;rw[a8];have z:=G.ext q;have M:=A.trans q;rw[aL cH.p 0 z F,aX ao.u (s.ext M)];refine bV.range x.scope.length (λ_ _ B=>Ext ab B) Ω (Ext.refl _) ?_ ?_
 rotate_left
 .rintro _ B k a;rw[aP,am];exact⟨λh=>Ω,λ_=>⟨F,M.trans a⟩⟩
 rintro i _ B k hi a hk;obtain⟨v,ae⟩:=aI (l:=x.scope) hi;have:=E.scope.2 v (x5 ae);have O:=M.trans a;have C:=z.ext a;have Y:=V.ext O;have az:f.sizes[v.toNat]?=σ (f.sizes.getD v.toNat 0):=by
  rw[u4,x6 Ω];rfl
 refine bB Ω ?_;rw[be ao.u aj.i Ψ (s.ext O) ae];refine aV (λb H=>Ext B H/\b= .bool false) ?_ ?_
 .rintro _ H ⟨e,rfl⟩;rw[a8,aM];exact hk _ _ (a.trans e)
 .intro aB K;intro H e _ _;have P:=O.trans e;refine ca Ω ?_;rw[aT cE.p 2 (Y.ext e) F,aX ao.u (W.ls.ext P),cO,am];refine⟨λh=>Ω,λ_=>?_⟩;rw[aL cH.p 0 (C.ext e) F];refine(D8 (s.ext P)).mono ?_;rintro _ a1 _ ⟨Z,r,rfl,aC⟩;have aD:r=(i:Int):=(aC i ae).2 λj a2 aE=>by have:=lW E.scope.1 aE ae;omega
  subst aD;have ac:=P.trans Z;have Q:=e.trans Z;rw[bA,am];refine⟨λh=>absurd F h,λ_=>?_⟩;rw[aL cH.p 1 (C.ext Q) F,aT cE.p 2 (Y.ext Q) F];refine qm (y:=v) (i:=v.toNat) Ω ao.u aj.i (W.ls.ext ac) az λb o aF=>?_;rw[ax Ψ aF];refine(xB (I.ext ac).is).mono ?_;rintro a6 a7 _ ⟨ad,ba,bb,aG⟩;refine⟨.inl ad,?_⟩;have aH:d.2.al[i]?=σ (f.sizes.getD v.toNat 0):=by
   rw[X,E.sizes,x8,ae];rfl
  rw[be ao.u aj.i Ψ aG.ls aH,bA];exact K _ _ ⟨Q.trans ad,by rw[decide_eq_false (λh=>h F)]⟩
def OP{q:Nat}{f:b3}{d:io}{x:cj}{m:Bool}{S R:ak}(r:mC w q f)(s:e9 N f)(y:x∈f.funs)(z:sf f.k x d)(a:au.rep m S R w cs d):
  an x7 wS [Γ q,.agg cs.toArray] w λv J=>v= .bool false/\Ext w J:=by
 refine aA func240 ?_;refine bh λap aa E e h=>?_;have A:cs.length=2:=au.len a;have h:ah aa ap cH cs:=by
  obtain⟨sv,gT,G,aN,gs,rfl,B,H⟩:=u2 a;obtain⟨_,_,_,rfl⟩:=c6 B;exact h
 rw[bN cH.p cH.i A h.range];refine(OO (r.ext e) s y z (bE a e)).mono ?_;rintro _ ab _ ⟨rfl,C⟩;rw[bM];exact⟨F,e.trans C⟩
def OQ{e:Nat}{f:b3}{r:x1}{a:List io}{m:Bool}{S R:ak}(A:mC w e f)(B:e9 N f)(q:au.rep m S R w [r] a)(s:uZ f.k f.funs a):
  an x7 Ke [r,.func (.func wS) #[Γ e] #[]] w λv J=>v= .bool false/\Ext w J:=by
 refine aA func239 ?_;refine an.mono (K:=λv J=>v=Δ (-1)/\Ext w J) ?_ ?_
 .refine aA func274 ?_;rw[jh dH.u q];refine bV.range a.length (λ_ _ aa=>Ext w aa) (rC q) (Ext.refl _) ?_ ?_
  .rintro i _ aa k hi U hk;refine bB Ω ?_;obtain⟨d,y⟩:=aI (l:=a) hi;obtain⟨x,z⟩:∃x,f.funs[i]?=σ x:=⟨_,x6 (by have:=s.1;omega)⟩;refine nl (α:=io) cH.p F dH.u cH.i (bE q U) y λcs C=>?_;show an x7 wS [Γ e,.agg cs.toArray] aa _;refine(OP (A.ext U) B (x5 z) (s.2 i x d z y) C).mono ?_;rintro _ ab _ ⟨rfl,E⟩;rw[a8,aM];exact hk _ _ (U.trans E)
  .rintro _ aa k U;rw[aP,am];exact⟨λh=>Ω,λ_=>⟨F,U⟩⟩
 .rintro _ aa _ ⟨rfl,U⟩;rw[cO];exact⟨F,U⟩
def kc(a:List cj):Nat:=(a.map λx=>x.lines.length).sum
def OR{ad:Nat}{f:b3}(af:mC w ad f)(r:e9 N f)(bd:N<=60000)(S:f.name≠[]/\∀b∈f.name,bQ b=true):
  an x7 JL [Γ ad] w λv J=>Ext w J/\∃e:Int,v=Δ e/\(kc f.funs<=16384->e=0):=by
 obtain⟨szv,bg,gz,y,A,U,V,B⟩:=id af;have:=r.name;have aC:Bytes f.name:=λb aD=>by
  have:=of_decide_eq_true (S.2 b aD);omega
 refine aA func191 ?_;rw[dh wV.u];simp only[Y0,a8];refine aV (λv aa=>Ext w aa/\v= .bool false) ?_ ?_
 rotate_left
 .intro aB s;rw[aT cE.p 0 A F];refine(OL aC Ω S.1 S.2).mono ?_;rintro _ aa _ ⟨rfl,q⟩;rw[bM,X2,a8];rw[aT cE.p 2 (A.ext q) F,aX ao.u (U.ls.ext q),bf,am];refine⟨λh=>by have:=r.sizes.1;omega,λ_=>?_⟩;rw[aT cE.p 2 (A.ext q) F];refine(ON (U.ls.ext q) r.sizes.2.2).mono ?_;rintro _ ab _ ⟨rfl,C⟩;have ag:=q.trans C;rw[a8,aT cE.p 1 (A.ext ag) F];refine BK.mono ?_;rintro _ E _ ⟨rfl,G⟩;have M:=ag.trans G;rw[decide_eq_true (show right f.k from r.k),bM,X2,a8,aT cE.p 3 (A.ext M) F,jB];refine(OQ (af.ext M) r (bE V M) B).mono ?_;rintro _ ah _ ⟨rfl,aE⟩;exact s _ _ ⟨M.trans aE,F⟩
 rintro _ aa ⟨q,rfl⟩;rw[a8];have O:=A.ext q;refine aV (λv ab=>aa=ab/\v= .bool false) ?_ ?_
 rotate_left
 .intro aB s;rw[aT cE.p 0 O F,ph cT.u,bL,am];refine⟨λh=>Ω,λ_=>?_⟩;rw[aT cE.p 2 O F,aX ao.u (U.ls.ext q),bL,am];refine⟨λh=>by have:=r.sizes.2.1;omega,λ_=>?_⟩;rw[aT cE.p 3 O F,jh dH.u (bE V q),bL];exact s _ _ ⟨F,by rw[decide_eq_false];have:=r.mv;have:=B.1;omega⟩
 rintro _ _ ⟨rfl,rfl⟩;have ai:=bE V q;rw[aT cE.p 3 O F,jh dH.u ai];refine⟨λaF aG W ab=>∃i n:Nat,W=Δ (i:Int)/\i<=y.length/\aF=Δ (n:Int)/\aG= .bool false/\Ext aa ab/\n<=kc (f.funs.take i)/\n<=i*60000,λ_ _ W _=>y.length-(bT W).toNat,
  ⟨0,0,F,X8 _,F,F,Ext.refl _,X8 _,Ω⟩,?_⟩
 rintro _ _ _ ab ⟨i,n,rfl,hi,rfl,rfl,C,aH,bi⟩;have bj:y.length<=256:=by rw[B.1];exact r.mv
 rw[aP,am];refine⟨λak=>?_,λbk=>?_⟩
 .have ak:i<y.length:=Ω
  obtain⟨d,aq⟩:=aI (l:=y) ak;obtain⟨x,X⟩:∃x,f.funs[i]?=σ x:=⟨_,x6 (by have:=B.1;omega)⟩;have P:=B.2 i x d X aq;obtain⟨Q,aJ,aK⟩:=r.funs x (x5 X);have:=Q.len;refine iC (λa b E=>Ext ab E/\a=Δ ((n+d.2.D.length:Nat):Int)/\b= .bool false) ?_ ?_
  .rintro _ _ E ⟨G,rfl,rfl⟩;rw[aM,wrap_i64 Ω Ω];have aO:=P.2.2.2.2.1;refine⟨⟨i+1,n+d.2.D.length,F,Ω,F,F,C.trans G,?_,?_⟩,by simp only[bT];omega⟩
   .have e:kc (f.funs.take (i+1))=kc (f.funs.take i)+x.lines.length:=by
     unfold kc;rw[u9,X,j4,Z9,List.sum_append,T3,List.map_nil,List.sum_cons,List.sum_nil,Nat.add_zero]
    omega
   .have:(i+1)*60000=i*60000+60000:=Ω
    have bm:d.2.D.length<=60000:=Ω
    omega
  .intro aB s;refine nl (α:=io) cH.p F dH.u cH.i (bE ai C) aq λcs aQ=>?_;obtain⟨sv,gT,bn,aN,gs,rfl,aR,au⟩:=u2 aQ;refine bu cH.i λap E bo G aS=>?_;refine b7 (vs:=[sv,Γ gT]) cH.i F rfl (by intro v ae;simp at ae;rcases ae with rfl|rfl<;>first|exact aR.cells.2|rfl) aS λah aU bp aw=>?_;have Y:Ext ab ah:=G.put aU Ω;rw[aL cH.p 1 aw F];refine(MT (au.ext Y).is).mono ?_;rintro _ bq _ ⟨rfl,Z⟩;have aO:=P.2.2.2.2.1;rw[aM,wrap_i64 Ω Ω,aL cH.p 1 (aw.ext Z) F];refine(xB ((au.ext Y).ext Z).is).mono ?_;rintro br ac _ ⟨aW,bs,bt,ax⟩;rw[aX ao.u ax.ls];have bw:d.2.al.length<=6:=by rw[P.2.1,Q.sizes,r9];exact aJ
   refine bV.range d.2.al.length (λj out R=>Ext ac R/\∃gr,ac.heap.size<=gr/\ay .i64 av R gr out (d.2.al.take j)) Ω ⟨Ext.refl _,ac.heap.size,o4 _,ay.nil _ _ _ _⟩ ?_ ?_
   .rintro j out R k aY ⟨H,gr,aZ,I⟩ hk;obtain⟨z,K⟩:=aI (l:=d.2.al) aY;refine bB Ω ?_;rw[be ao.u aj.i Ψ (ax.ls.ext H) K];refine eE az.u av.i F λa ga a1 bx L a2=>?_;refine kA az.u av.i F (I.ext L) a2.ls Θ Θ λbz a6 bA bC a7 ba=>?_;have:=H.size;have:=L.size;rw[aM];refine hk _ _ ⟨(H.trans L).put ba Ω,a6,Ω,?_⟩;rw[u9,K];exact a7
   .rintro out R k ⟨H,gr,aZ,I⟩;rw[o9]at I;refine ca Ω ?_;rw[a8];have bb:d.2.al=x.sizes:=P.2.1;rw[bb]at I;refine(CZ I.ls λz K=>?_).mono ?_
    .rw[Q.sizes]at K;obtain⟨v,ae,rfl⟩:=c7.1 K;have:=Q.scope.2 v ae;refine(r.sizes.2.2 _ ?_).1;rw[u4,x6 Ω];exact S3 _
    .rintro _ a1 _ ⟨rfl,L⟩;refine s _ _ _ ⟨(((Y.trans Z).trans aW).trans H).trans L,by congr 1,by rw[aK]⟩
 .have bc:i=y.length:=Ω
  subst bc;rw[B.1,o9]at aH;refine aV (λv E=>ab=E/\v= .bool (decide (16384<(n:Int)))) ?_ ?_
  .rintro _ _ ⟨rfl,rfl⟩;rw[am];refine⟨λh=>⟨q.trans C,5,F,λbH=>Ω⟩,λh=>⟨q.trans C,0,F,λ_=>rfl⟩⟩
  .intro aB s;rw[a8,bL];exact s _ _ ⟨F,F⟩
theorem u3:∀{a b:Λ}{i:Nat},(∀(j:Nat)(x y:Int),j<i->a[j]?=σ x->b[j]?=σ y->x=y)->i<=a.length->i<=b.length->jJ a b=jJ (a.drop i) (b.drop i)
 |_,_,0,_,_,_=>Ξ
 |[],_,i+1,_,h,_=>by simp at h
 |_::_,[],i+1,_,_,h=>by simp at h
 |x::a,y::b,i+1,he,h1,e=>by
  have f:=he 0 x y Ω F rfl;subst f;simp only[jJ,Int.lt_irrefl,if_false,List.drop_succ_cons];exact u3 (λj u v p hu ae=>he (j+1) u v Ω hu ae) (by simpa using h1) (by simpa using e)
def Ef{x:Int}:an x7 cmp_isNaN_int [Δ x] w λv J=>v= .bool false/\Ext w J:=by
 refine aA func82 ?_;simp only[bA];exact⟨Ξ,Ext.refl _⟩
def qK{x:Int}:an x7 H0 [Δ x,Δ y] w λv J=>v=Δ (if x<y then-1 else if y<x then 1 else 0)/\Ext w J:=by
 refine aA func29 ?_;refine Ef.mono ?_;rintro _ aa _ ⟨rfl,a⟩;refine Ef.mono ?_;rintro _ ab _ ⟨rfl,e⟩;simp only[a8,aP,bL,am];exact⟨λh=>⟨by rw[if_pos h],a.trans e⟩,λh=>⟨λf=>⟨by rw[if_neg h,if_pos f],a.trans e⟩,λf=>⟨by rw[if_neg h,if_neg f],a.trans e⟩⟩⟩
def OS{b:Λ}(r:aK .i64 w bl a)(z:aK .i64 w bv b):an x7 JR [bl,bv] w λv J=>v=Δ (jJ a b)/\Ext w J:=by
 refine aA func203 ?_;have Y:=r.le;rw[aX ao.u r];refine⟨λ_ A aa=>∃i:Nat,A=Δ (i:Int)/\i<=a.length/\i<=b.length/\Ext w aa/\∀(j:Nat)(x y:Int),j<i->a[j]?=σ x->b[j]?=σ y->x=y,λ_ A _=>a.length-(bT A).toNat,⟨0,F,X8 _,X8 _,Ext.refl _,λj x y N=>Ω⟩,?_⟩;rintro _ _ aa ⟨i,rfl,O,P,f,H⟩;have p:=u3 H O P;simp only[aP,am];refine⟨λs=>?_,λZ=>?_⟩
 .have s:i<a.length:=Ω
  obtain⟨x,U⟩:=aI (l:=a) s;have I:a.drop i=x::a.drop (i+1):=by rw[X5 s,(x4.1 U).2]
  rw[be ao.u aj.i Ψ (r.ext f) U,aX ao.u (z.ext f)];simp only[cO,am];refine⟨λh=>?_,λh=>?_⟩
  .have:b.drop i=[]:=by rw[List.drop_eq_nil_iff];omega
   rw[this,I]at p;exact⟨by rw[p];rfl,f⟩
  have B:i<b.length:=Ω
  obtain⟨y,C⟩:=aI (l:=b) B;have Q:b.drop i=y::b.drop (i+1):=by rw[X5 B,(x4.1 C).2]
  rw[be ao.u aj.i Ψ (z.ext f) C];refine qK.mono ?_;rintro _ ab _ ⟨rfl,K⟩;rw[I,Q]at p;simp only[jJ]at p;simp only[bA,am,aM];refine⟨λL=>⟨?_,f.trans K⟩,λR=>?_⟩
  .rw[p];by_cases h1:x<y
   .rw[if_pos h1,if_pos h1]
   .by_cases q:y<x
    .rw[if_neg h1,if_pos q,if_neg h1,if_pos q]
    .rw[if_neg h1,if_neg q]at L;exact absurd F L
  .rw[wrap_i64 Ω Ω];refine⟨⟨i+1,F,s,B,f.trans K,λj S V N E G=>?_⟩,by simp only[bT];omega⟩;by_cases W:j=i
   .subst W;rw[U]at E;rw[C]at G;cases E;cases G;have M:=Y3.1 R;by_cases h1:x<y
    .rw[if_pos h1]at M;omega
    .by_cases q:y<x
     .rw[if_neg h1,if_pos q]at M;omega
     .omega
   .exact H j S V Ω E G
 .have X:i=a.length:=Ω
  subst X;rw[List.drop_length]at p;rw[aX ao.u (r.ext f),aX ao.u (z.ext f)];simp only[aP,am];refine⟨λh=>⟨?_,f⟩,λh=>⟨?_,f⟩⟩
  .obtain⟨y,l,e⟩:∃y l,b.drop a.length=y::l:=⟨_,_,X5 Ω⟩;rw[p,e];rfl
  .have:b.drop a.length=[]:=by rw[List.drop_eq_nil_iff];omega
   rw[p,this];rfl
def OT{x:Int}{f:x1}(h:aK .i64 w f [x,y]):an x7 AU [f] w λv J=>v=Δ (if x≠0 then x else y)/\Ext w J:=by
 refine aA func28 ?_;rw[aX ao.u h];refine bV.range 2 (λi _ aa=>Ext w aa/\(1<=i->x=0)/\(2<=i->y=0)) Ω ⟨Ext.refl _,Ω,Ω⟩ ?_ ?_
 .rintro i _ aa k hi ⟨a,h1,e⟩ hk;rw[aP,am];refine⟨λ_=>?_,λh=>by simp at h;omega⟩
  match i,hi,h1,e,hk with
  |0,_,h1,e,hk=>
   rw[be ao.u aj.i Ψ (h.ext a) F,bA,am];refine⟨λp=>⟨by rw[if_pos p],a⟩,λhe=>?_⟩;rw[aM];exact hk _ _ ⟨a,λ_=>Y3.1 he,λh=>Ω⟩
  |1,_,h1,e,hk=>
   rw[be ao.u aj.i Ψ (h.ext a) F,bA,am];have q:=h1 (o4 _);refine⟨λp=>⟨by rw[if_neg Ω],a⟩,λhe=>?_⟩;rw[aM];exact hk _ _ ⟨a,λ_=>q,λ_=>Y3.1 he⟩
 .rintro _ aa k ⟨a,h1,e⟩;have q:=h1 Ω;have r:=e Ω;rw[aP,am];exact⟨λh=>by simp at h,λ_=>⟨by rw[if_neg Ω,r],a⟩⟩
structure cu where
 sv:x1
 g:Nat
 sc:Λ
 cs:Λ
def eY(h:cu):List x1:=[h.sv,Γ h.g]
abbrev kd(h:cu):x1:=.agg (eY h).toArray
def sh(h:cu):Int:=de h.sc
def ke(w:x3)(a:Nat)(h:cu):Prop:=(∃e,ay .i64 aj w e h.sv h.sc)/\(∀r,leads h.sv r->r≠a)/\lh h.sc
def ke.ac{a:Nat}{h:cu}(aC:ke w a h)(U:ai S w J)(e:∀r,leads h.sv r->¬S r):ke J a h:=by
 obtain⟨⟨f,hm⟩,p⟩:=aC;exact⟨⟨f,bw hm U e⟩,p⟩
def ke.one{a:Nat}{h:cu}(aC:ke w a h):∀u∈eY h,u.oneCell'=true:=by
 obtain⟨⟨e,hm⟩,_⟩:=aC;intro u hu;simp[eY]at hu;rcases hu with rfl|rfl
 .exact hm.ls.cells.2
 .rfl
def fc(w:x3)(g:Nat)(v:x1)(L:List cu):Prop:=bm eY 2 cW w g v L/\∀h∈L,ke w g h
def fc.ext{g:Nat}{L:List cu}(h:fc w g v L)(U:Ext w J):fc J g v L:=⟨h.1.ext U,λx a=>(h.2 x a).ac (U.ac λ_=>False) λ_ _ h=>h⟩
def fc.at{g:Nat}{L:List cu}(h:fc w g v L){i:Nat}{x:cu}(hi:L[i]?=σ x):ke w g x:=h.2 x (x5 hi)
def va{g:Nat}{L:List cu}{i:Nat}{x:cu}{K:x1->Prop}(a:y=(i:Int))(h:fc w g v L)(hi:L[i]?=σ x):
  ad x7 (c9 gA v (Δ y)) w (λp=>ad x7 (u5 cW p) w K)=K (kd x):=by
 rw[dp a gA.u cW.i h.1 (x4.1 hi).1,bN cW.p cW.i F (h.1.range hi)]
def OU{g:Nat}{L:List cu}{i:Nat}{x:cu}{K:Unit->x3->Prop}(q:y=(i:Int))(h:fc w g v L)(hi:i<L.length)(hk:ke w g x)(s:∀J,ai (λr=>leadsTo v r) w J->fc J g v (L.set i x)->K () J):ad x7 (c9 gA v (Δ y)) w λp=>aF x7 (l9 cW p (kd x)) w K:=by
 rw[dp q gA.u cW.i h.1 hi];refine Di cW.i h.1 F hk.one hi λJ e _ a7=>s J e ⟨a7,λz a=>?_⟩;rcases V4 a with a|rfl
 .exact (h.2 z a).ac e λr f he=>(h.2 z a).2.1 r f (h.1.leads he).1
 .exact hk.ac e λr f he=>hk.2.1 r f (h.1.leads he).1
abbrev OV:x1:=.func (.func Bf) #[] #[]
def x0(a b:cu):Int:=let c:Int:=if(a.sc.length:Int)<b.sc.length then-1 else if(b.sc.length:Int)<a.sc.length then 1 else 0
 if c≠0 then c else jJ a.sc b.sc
def OW{a b:cu}(f:lh a.sc)(p:lh b.sc):x0 a b<0↔sh a<sh b:=by
 have q:=(xP f p).1;unfold sh x0;simp only;generalize r:(if(a.sc.length:Int)<b.sc.length then(-1:Int)else if(b.sc.length:Int)<a.sc.length then 1 else 0)=c;rw[q,<-r];by_cases h1:(a.sc.length:Int)<b.sc.length
 .rw[if_pos h1,if_pos Ω];exact⟨λ_=>.inl Ω,λ_=>Ω⟩
 .by_cases e:(b.sc.length:Int)<a.sc.length
  .rw[if_neg h1,if_pos e,if_pos Ω];exact⟨λh=>Ω,λh=>by rcases h with h|h<;>omega⟩
  .rw[if_neg h1,if_neg e,if_neg Ω];exact⟨λh=>.inr ⟨Ω,h⟩,λh=>by rcases h with h|h;omega;exact h.2⟩
def OX{a b:cu}(B:ke w z a)(C:ke w z b):an x7 Bf [kd a,kd b] w λv J=>Ext w J/\v=Δ (x0 a b):=by
 obtain⟨⟨ga,s⟩,_,M⟩:=B;obtain⟨⟨N,x⟩,_,O⟩:=C;refine aA func202 ?_;refine bh λg1 aa P E h=>?_;refine bh λG ab Q A q=>?_;have h:ah aa g1 cW [a.sv,Γ a.g]:=by
  obtain⟨_,_,_,e⟩:=c6 s.ls;simp only[kd,eY,e]at h ⊢;exact h
 have q:ah ab G cW [b.sv,Γ b.g]:=by
  obtain⟨_,_,_,e⟩:=c6 x.ls;simp only[kd,eY,e]at q ⊢;exact q
 intro R y _ _;have f:=(E.trans A).trans y;have f1:=(h.ext A).ext y;have f2:=q.ext y;rw[aL cW.p 0 f1 F,aX ao.u (s.ls.ext f),aL cW.p 0 f2 F,aX ao.u (x.ls.ext f),
  aL cW.p 0 f1 F,aL cW.p 0 f2 F]
 refine qK.mono ?_;rintro _ S _ ⟨rfl,r⟩;refine⟨.inl r,?_⟩;refine(OS ((s.ls.ext f).ext r) ((x.ls.ext f).ext r)).mono ?_;rintro _ U _ ⟨rfl,H⟩;refine pg (l:=[if(a.sc.length:Int)<b.sc.length then(-1:Int)else if(b.sc.length:Int)<a.sc.length then 1 else 0,jJ a.sc b.sc]) ao.u aj.i Ω F Ψ λV W X Y I K=>?_;refine(OT K.ls).mono ?_;rintro _ Z _ ⟨rfl,L⟩;exact⟨((((f.trans r).trans H).trans I).trans L),F⟩
def OY{g:Nat}{L:List cu}(h:fc w g v L)(E:L.length<65536):
  an x7 JQ [v,OV] w λ_ J=>ai (λr=>leadsTo v r) w J/\∃M,M.Perm L/\uL sh M 0 M.length/\fc J g v M:=by
 have s:∀{z:x3}{a:cu},ai (λr=>r=g) w z->ke w g a->ke z g a:=λf e=>e.ac f λr A he=>e.2.1 r A he;refine(xG M5 (G:=ke w g) (num:=sh) Na Nb (λa e=>e.one) (λa _=>rfl) (λa b e B=>OW e.2.2 B.2.2) (Enters.of x7 Nc F Ψ) h.1 h.2 E λz a b f e B=>OX (s f e) (s f B)).mono ?_;rintro _ J _ ⟨f,M,C,hu,hm⟩;have H:ai (λr=>r=g) w J:=f.mono λr _ A=>(h.1.leads A).1;exact⟨f,M,C,λp q x y _ I _ U K=>hu p q x y I U K,hm,λx U=>s H (h.2 x (C.mem_iff.1 U))⟩
def OZ{m:Λ}(ae:nw l)(p:l.Nodup)(e:m.Perm l)(V:m.Pairwise (·<= ·)):m=bx l:=by
 refine xQ ?_ (xO l) λx=>?_
 .have q:=e.nodup_iff.2 p;exact(List.Pairwise.and V q).imp λ{a b}h=>by
   obtain⟨h1,f⟩:=h;have f:=f;omega
 .rw[e.mem_iff,sd ae]
def O0(h:∀z∈l,1<=z/\z<=32)(a:dn l=false):aR l<=4096:=by
 have:=of_decide_eq_false a;rw[xT h]at this;omega
def O1{f:b3}{d:io}{x:cj}{m:Bool}{S R:ak}(h:e9 N f)(bj:N<=60000)(P:x∈f.funs)(ax:sf f.k x d)(az:au.rep m S R w cs d):
  an x7 JM [.agg cs.toArray] w λv J=>Ext w J/\∃sv gs E Q U,v= .tuple #[sv,Γ E]/\w.heap.size<=gs/\ay .i64 aj J gs sv (bx x.scope)/\di J E Q U (b2 f.sizes (bx x.scope)) f.k (jk f.sizes f.k x).2:=by
 obtain⟨sv,gT,bk,aN,bl,rfl,G,aB⟩:=u2 az;obtain⟨aC,aD,aE,bm,bn,aF⟩:=ax;obtain⟨a,aG,aH⟩:=h.funs x P;have ae:=uR a h.sizes.2.1;have:=a.len;rw[aC]at G;have aJ:∀z∈x.sizes,1<=z/\z<=32:=λz Z=>by
  rw[a.sizes]at Z;obtain⟨v,aK,rfl⟩:=c7.1 Z;have:=a.scope.2 v aK;refine h.sizes.2.2 _ ?_;rw[u4,x6 Ω];exact S3 _
 have aO:=O0 aJ aH;have W:=uQ ae a.scope.1;have bt:(bx x.scope).length<=6:=by rw[W.length_eq];exact aG
 refine aA func192 ?_;refine bh λap aa bu ad y=>?_;have y:ah aa ap cH [sv,Γ gT]:=by obtain⟨_,_,_,rfl⟩:=c6 G;exact y
 rw[aL cH.p 1 y F];refine(D3 (aB.ext ad).is Ω).mono ?_;rintro _ ab _ ⟨X,_,A⟩;rw[aD]at A;obtain⟨g,bw,bz,aP,rfl,bA,bC,A,af⟩:=A aO;rw[aE]at A;rw[bq,br,aL cH.p 0 (y.ext X) F];have B:=ad.trans X;refine xW (G.ext B) Ω λv bD gs bE H bF aQ V I=>?_;have aR:=OZ ae a.scope.1 aQ V;subst aR;have:=B.size;rw[aX ao.u I.ls];refine k6 ao.u aj.i Ω Ω λgo aS bH K ag=>?_;have aT:=ay.of (b1.full (n:=(bx x.scope).length) ag Ξ (by simp[maxLen];omega));rw[aX ao.u (I.ls.ext K)];have:=ag.lt;have L:(gj x.scope (bx x.scope)).length=(bx x.scope).length:=by simp[gj]
 have aU:=H.trans K;have:=B.trans aU;refine cq.range (bx x.scope).length (λi M=>ai (λr=>r=go) aS M/\ay .i64 aj M go (.slice (σ ⟨go,0,ν⟩) (bx x.scope).length (bx x.scope).length) ((gj x.scope (bx x.scope)).take i++o8 ((bx x.scope).length-i) 0)) Ω ⟨ai.refl _ _,by simpa using aT⟩ ?_ ?_
 .rintro i M k hi ⟨O,C⟩ hk;obtain⟨v,Y⟩:=aI (l:=(bx x.scope)) hi;have q:=K.put O Ω;have aV:=(B.trans H).trans q;have aW:v∈x.scope:=W.mem_iff.1 (x5 Y);refine bB Ω ?_;rw[be ao.u aj.i Ψ (I.ls.ext q) Y];have aY:=(X.trans H).trans q;rw[aL cH.p 0 (y.ext aY) F];refine(D8 (G.ext aV)).mono ?_;rintro _ aZ _ ⟨s,r,rfl,a1⟩;have al:=qJ aW;have a2:=(a1 _ al).2 λj bK a6=>by have:=lW a.scope.1 a6 al;omega
  rw[iK F ao.u aj.i (C.ext s) (by simp[L];omega)];refine iL aj.i (C.ext s) (by simp[L];omega) λbL a7 bM am=>?_;rw[aM];refine hk _ ⟨(O.trans (s.ac _)).trans a7,?_⟩;have a8:(gj x.scope (bx x.scope))[i]?=σ r:=by rw[a2];exact DX Y
  have e:((gj x.scope (bx x.scope)).take i++o8 ((bx x.scope).length-i) 0).set i r=(gj x.scope (bx x.scope)).take (i+1)++o8 ((bx x.scope).length-(i+1)) 0:=by
   have ba:((gj x.scope (bx x.scope)).take i).length=i:=by rw[j6,L];omega
   rw[S2 _ _ Ω,ba,U9,show(bx x.scope).length-i=((bx x.scope).length-(i+1))+1 by omega,List.replicate_succ,List.set_cons_zero,u9,a8,j4,X6];rfl
  rw[e]at am;exact am
 .rintro M k ⟨O,C⟩;have q:=K.put O Ω;have aq:=H.trans q;refine ca Ω ?_;rw[U9,List.replicate_zero,Y8,Z2 Ω]at C;have bb:∀t,dv x.sizes t->bo x.sizes aP t=la x f.k t:=λt bc=>by rw[af.2 t bc];exact aF t
  obtain⟨av,bd⟩:=NY h P af.1 bb;have bf:Good (gj x.scope (bx x.scope)) x.sizes.length:=by
   rw[a.sizes,r9];exact uU a.scope.1 W
  have bg:=(qH h P);refine(OG (A.ext aq) h.k C.ls (by rw[L];omega) λ_=>?_).mono ?_
  .rw[av];exact bg.small
  .rintro _ aZ _ ⟨s,_,bi⟩;obtain⟨E,Q,U,rfl,aw⟩:=bi bf;rw[bq,br];rw[av,bd]at aw;exact⟨(B.trans aq).trans s,v,gs,E,Q,U,F,Ω,(I.ext q).ext s,aw⟩
def Eg{P:W9}{t x f:p8}{k y g o cap:Nat}{z:x1}(h:P.underlying t=σ (.slice e))(hi:aS P e k y z)(A:z.cells.size=k)(h1:∀u∈dT z.cells (n*k),u.oneCell'=true)(a:ah w g f cs)(H:o+n*k<=cs.length)(p:∀J,ai (λr=>r=g) w J->ah J g f (over cs o (dT z.cells (n*k)))->K (.tuple #[]) J):aF P (Z6.clear_ #[t] x #[.slice (σ ⟨g,o,ν⟩) n cap]) w K:=by
 obtain⟨i,hi,I,rfl,B⟩:=hi;have C:∀w,(zeroValue e).run P w= .ok z w:=λw=>by simp[zeroValue,typeInfo,hi,B]
 have E:(Z6.zeroCells z.cells n).toList=dT z.cells (n*k):=by
  unfold Z6.zeroCells dT;rw[A]
 have q:=run_storeCells_cells (P:=P) g o (dT z.cells (n*k)) 0 w (λj F=>by
   rw[o6]at F;rw[Nat.add_zero,a.cell (x6 (show o+j<cs.length by omega))];rfl) (λj _=>a.frozen _ _) h1
 simp only[Nat.add_zero]at q;obtain⟨G,s⟩:=o5 (dT z.cells (n*k)) cs o w a;rcases Q8 n with rfl|L
 .refine .of (by simp[Z6.clear_,run_underlying h]) (cL.refl _) (p w (ai.refl _ _) ?_);rw[Nat.zero_mul,b6 (o6 z.cells 0)];exact a
 .obtain⟨m,rfl⟩:∃m,n=m+1:=⟨n-1,Ω⟩;refine .of (by simp[Z6.clear_,run_underlying h,C,E,q]) (s.cv a) (p _ s.ac G)
def dM{α:Type}{f:α->List x1}{k:Nat}{g:Nat}{L:List α}(h:bm f k e w g v L)(p:leadsTo v r):r=g/\∃cs,ah w g e cs:=by
 obtain⟨_,⟨rfl,_⟩|⟨cap,cs,rfl,q,_⟩⟩:=h.1
 .exact (eW p).elim
 .obtain⟨a,n,c,h1,s⟩:=p;cases h1;exact⟨s.symm,cs,q⟩
def O2{α:Type}{f:α->List x1}{k:Nat}{g:Nat}{L:List α}(h:bm f k e w g v L)(a:L≠[]):∃cs n c,v= .slice (σ ⟨g,0,ν⟩) n c/\ah w g e cs:=by
 obtain⟨_,⟨rfl,p⟩|⟨cap,cs,rfl,q,_⟩⟩:=h.1
 .exact absurd (b6 p) a
 .exact⟨cs,_,_,F,q⟩
def fc.mk{g:Nat}{L:List cu}(h:bm eY 2 cW w g v L)(a:∀x∈L,(∃e,ay .i64 aj w e x.sv x.sc)/\lh x.sc):fc w g v L:=by
 refine⟨h,λx U=>⟨(a x U).1,λr f=>?_,(a x U).2⟩⟩;obtain⟨cs,n,c,_,p⟩:=O2 h (λq=>by rw[q]at U;cases U);obtain⟨⟨e,hm⟩,_⟩:=a x U;exact cc hm p Φ f
def Sem(w:x3)(k:Int)(sizes:Λ)(L:List cu):Prop:=∀x∈L,∃a e,di w x.g a e (b2 sizes x.sc) k x.cs
def x2{g q:Nat}{s:x1}{cs:Λ}(h:di w g q s al k cs)(e:ai S w J)(f:∀r,S r->∃c,ah w r cW c):di J g q s al k cs:=by
 obtain⟨⟨bb,gs,h1,x,y⟩,z⟩:=h;refine⟨⟨bb,gs,h1.ac e λV=>?_,bw x e λr p V=>?_,bw y e λr p V=>?_⟩,z⟩
 .obtain⟨c,a⟩:=f g V;unfold ah at h1 a;rw[h1]at a;have:=(Obj.cells.inj (Z3 a)).2.1;exact absurd this Φ
 .obtain⟨c,a⟩:=f r V;exact cc x a Φ p F
 .obtain⟨c,a⟩:=f r V;exact cc y a Φ p F
def Sem.ext{L:List cu}(h:Sem w k sizes L)(U:Ext w J):Sem J k sizes L:=λx a=>by
 obtain⟨e,f,p⟩:=h x a;exact⟨e,f,p.ext U⟩
def Sem.row{L M:List cu}{g:Nat}(h:Sem w k sizes L)(a:fc w g v M)(e:ai (λr=>leadsTo v r) w J):Sem J k sizes L:=λx f=>by
 obtain⟨p,q,s⟩:=h x f;exact⟨p,q,x2 s e λr y=>by obtain⟨rfl,c,z⟩:=dM a.1 y;exact⟨c,z⟩⟩
def dX(h:cu):cK:=(h.sc,h.cs)
def O3:an x7 wN [Δ c] w λv J=>v= .bool (decide (0<c))/\Ext w J:=by
 refine aA func199 ?_;rw[bL];exact⟨F,Ext.refl _⟩
def O4(h:aK .i64 w sv l):
  an x7 JO [sv,.func (.func wN) #[] #[]] w λv J=>v= .bool (l.any λc=>decide (0<c))/\Ext w J:=by
 refine aA func198 ?_;refine an.mono (K:=λv J=>Ext w J/\∃r:Int,v=Δ r/\(0<=r↔ ∃c∈l,0<c)) ?_ ?_
 .refine aA func252 ?_;rw[aX az.u h];refine bV.range l.length (λi _ aa=>Ext w aa/\∀c∈l.take i,¬0<c) h.le ⟨Ext.refl _,λc a=>by simp at a⟩ ?_ ?_
  .rintro i _ aa k hi ⟨U,f⟩ hk;refine bB Ω ?_;obtain⟨x,p⟩:=aI (l:=l) hi;rw[be az.u av.i Ψ (h.ext U) p];show an x7 wN [Δ x] aa _;refine O3.mono ?_;rintro _ ab _ ⟨rfl,q⟩;rw[am];refine⟨λe=>⟨U.trans q,i,F,⟨λ_=>⟨x,x5 p,e⟩,λ_=>Ω⟩⟩,λs=>?_⟩;rw[aM];refine hk _ _ ⟨U.trans q,λc a=>?_⟩;rw[u9,p]at a;rcases p9.1 a with a|a
   .exact f c a
   .simp at a;subst a;exact s
  .rintro _ aa k ⟨U,f⟩;rw[o9]at f;rw[aP,am];exact⟨λh=>Ω,λ_=>⟨U,-1,F,⟨λh=>Ω,λ⟨c,a,e⟩=>absurd e (f c a)⟩⟩⟩
 .rintro _ aa _ ⟨U,r,rfl,y⟩;rw[cO];refine⟨?_,U⟩;congr 1;rw[U6,decide_eq_true_eq,List.any_eq_true,y];exact⟨λ⟨c,a,e⟩=>⟨c,a,decide_eq_true e⟩,λ⟨c,a,e⟩=>⟨c,a,of_decide_eq_true e⟩⟩
def Eh{h q:Nat}{x:cu}{r:x1}(U:ke w h x)(s:di w x.g q r al k x.cs):an x7 rt [kd x] w λv J=>v= .bool (!fp (dX x))/\Ext w J:=by
 obtain⟨⟨B,hm⟩,_⟩:=U;refine aA func197 ?_;refine bh λap aa C f a=>?_;have a:ah aa ap cW [x.sv,Γ x.g]:=by
  obtain⟨_,_,_,e⟩:=c6 hm.ls;simp only[kd,eY,e]at a ⊢;exact a
 rw[aL cW.p 1 a F];refine(od (s.ext f)).mono ?_;rintro E ab _ ⟨y,G,H,z⟩;refine(O4 z.ls).mono ?_;rintro _ I _ ⟨rfl,A⟩;rw[bM];exact⟨F,(f.trans y).trans A⟩
def O5{g:Nat}{L:List cu}(h:fc w g v L)(V:Sem w k sizes L):
  an x7 Bc [v,.func (.func rt) #[] #[]] w λr J=>Ext w J/\((r=Δ (-1)/\∀x∈L,fp (dX x)=true)\/∃i:Nat,r=Δ (i:Int)/\i<L.length/\(∀x∈L.take i,fp (dX x)=true)/\∀x,L[i]?=σ x->fp (dX x)=false):=by
 refine aA func193 ?_;rw[et gA.u h.1];refine bV.range L.length (λi _ aa=>Ext w aa/\∀x∈L.take i,fp (dX x)=true) h.1.le ⟨Ext.refl _,λc a=>by simp at a⟩ ?_ ?_
 .rintro i _ aa k hi ⟨U,e⟩ hk;refine bB Ω ?_;obtain⟨x,f⟩:=aI (l:=L) hi;rw[va F (h.ext U) f];show an x7 rt [kd x] aa _;obtain⟨B,C,s⟩:=V x (x5 f);refine(Eh ((h.ext U).at f) (s.ext U)).mono ?_;rintro _ ab _ ⟨rfl,p⟩;rw[cd];refine⟨λz=>⟨U.trans p,.inr ⟨i,F,hi,e,λy q=>by rw[f]at q;cases q;simpa using z⟩⟩,λA=>?_⟩;rw[aM];refine hk _ _ ⟨U.trans p,λc a=>?_⟩;rw[u9,f]at a;rcases p9.1 a with a|a
  .exact e c a
  .simp at a;subst a;simpa using A
 .rintro _ aa k ⟨U,e⟩;rw[o9]at e;rw[aP,am];exact⟨λh=>Ω,λ_=>⟨U,.inl ⟨F,e⟩⟩⟩
def gm(x:cu):Bool:=fp (dX x)
def x9{L:List cu}{x:cu}(U:L[j]?=σ x):(L.take (j+1)).filter gm=if gm x=true then(L.take j).filter gm++[x]else(L.take j).filter gm:=by
 rw[u9,U,j4,List.filter_append];by_cases h:gm x=true
 .rw[if_pos h];simp[h]
 .rw[if_neg h];simp[h]
def ya{z:Array x1}(a:0<z.size)(h:∀u∈z.toList,u.oneCell'=true):∀u∈dT z n,u.oneCell'=true:=λu hu=>by
 unfold dT at hu;rw[Array.toList_map,c7]at hu;obtain⟨i,_,rfl⟩:=hu;have e:i % z.size<z.size:=Nat.mod_lt _ a;rw[getElem!_pos z (i % z.size) e];exact h _ Ξ
def O6{g:Nat}{L:List cu}(h:fc w g v L)(V:Sem w k sizes L)(bb:L.length<=100000):
  an x7 JP [v,.func (.func rt) #[] #[]] w λf J=>ai (λr=>leadsTo v r) w J/\fc J g f (L.filter gm)/\∀r,leadsTo f r->leadsTo v r:=by
 refine aA func200 ?_;refine(O5 h V).mono ?_;rintro r aa _ ⟨E,q⟩;rcases q with⟨rfl,N⟩|⟨O,rfl,ax,N,ay⟩
 .rw[bf,am];refine⟨λ_=>⟨E.ac _,?_,λr q=>q⟩,λh=>absurd F h⟩;rw[List.filter_eq_self.2 (show∀x∈L,gm x=true from N)];exact h.ext E
 rw[bf,am];refine⟨λh=>Ω,λ_=>?_⟩;rw[aM,wrap_i64 Ω Ω];obtain⟨P,Z⟩:=aI (l:=L) ax;refine⟨λQ R ab=>∃(i j:Nat)(M:List cu),Q=Δ (i:Int)/\R=Δ (j:Int)/\i<j/\j<=L.length/\M.length=L.length/\M.take i=(L.take j).filter gm/\M.drop j=L.drop j/\(∀x∈M,x∈L)/\fc ab g v M/\ai (λr=>leadsTo v r) w ab,
  λ_ R _=>L.length-(bT R).toNat,⟨O,O+1,L,F,by congr 1,Ω,Ω,F,?_,F,λx U=>U,h.ext E,E.ac _⟩,?_⟩
 .have az:¬gm P=true:=by rw[show gm P=false from ay P Z];simp
  rw[x9 Z,if_neg az,List.filter_eq_self.2 (show∀x∈L.take O,gm x=true from N)]
 rintro _ _ ab ⟨i,j,M,rfl,rfl,bc,bd,af,z,ag,ah,e,G⟩;have aC:Sem ab k sizes L:=V.row h G;rw[et gA.u e.1,aP,am];refine⟨λS=>?_,λbe=>?_⟩
 .have S:j<L.length:=Ω
  obtain⟨x,U⟩:=aI (l:=L) S;have H:M[j]?=σ x:=by
   have h1:(M.drop j)[0]?=(L.drop j)[0]?:=by rw[ag]
   rw[List.getElem?_drop,List.getElem?_drop,Nat.add_zero]at h1;rw[h1,U]
  have aj:M.drop (j+1)=L.drop (j+1):=by
   have h1:(M.drop j).drop 1=(L.drop j).drop 1:=by rw[ag]
   rw[List.drop_drop,List.drop_drop]at h1;exact h1
  refine aV (λQ I=>∃(B:Nat)(s:List cu),Q=Δ (B:Int)/\B<j+1/\s.length=L.length/\s.take B=(L.take (j+1)).filter gm/\s.drop (j+1)=L.drop (j+1)/\(∀x∈s,x∈L)/\fc I g v s/\ai (λr=>leadsTo v r) w I) ?_ ?_
  .rintro _ I ⟨B,s,rfl,h1,W,aD,aE,aG,aH,aJ⟩;rw[aM,wrap_i64 Ω Ω];exact⟨⟨B,j+1,s,F,F,h1,S,W,aD,aE,aG,aH,aJ⟩,by simp only[bT];omega⟩
  .intro aB ak;rw[va F e H];refine bu cW.i λap I bg aK aL=>?_;refine b7 (vs:=eY x) cW.i F rfl (e.at H).one aL λaN aO bh al=>?_;have X:=aK.put aO Ω;rw[bN cW.p cW.i F al.range];show an x7 rt [kd x] aN _;obtain⟨bi,bj,aQ⟩:=aC x (x5 U);refine(Eh ((e.ext X).at H) (aQ.ext X)).mono ?_;rintro _ bk _ ⟨rfl,ao⟩;have C:=X.trans ao;rw[bM,Bool.not_not,cd];refine⟨λhk=>?_,λaR=>?_⟩
   .rw[bN cW.p cW.i F (al.ext ao).range];refine OU F (e.ext C) Ω ((e.ext C).at H) λbl aS aT=>?_;rw[aM,wrap_i64 Ω Ω];refine ak _ _ ⟨i+1,M.set i x,F,Ω,by simp[af],?_,?_,λy A=>?_,aT,(G.trans (C.ac _)).trans aS⟩
    .have Y:gm x=true:=hk;rw[x9 U,if_pos Y,u9,b8 Ω,j4,List.take_set_of_le (o4 _),z]
    .rw[List.drop_set_of_lt Ω,aj]
    .rcases V4 A with A|rfl
     .exact ah y A
     .exact x5 U
   .have Y:¬gm x=true:=by rw[show gm x=false from aR];simp
    exact ak _ _ ⟨i,M,F,Ω,af,by rw[x9 U,if_neg Y,z],aj,ah,e.ext C,G.trans (C.ac _)⟩
 .have aU:j=L.length:=Ω
  subst aU;rw[o9]at z;obtain⟨⟨bm,aW⟩,aq⟩:=e.1;rcases aW with⟨_,bn⟩|⟨cap,cs,ae,aX,bo,aY,aZ,a1⟩
  .omega
  subst ae;have a2:(ad x7 (U5 gA (.slice (σ ⟨g,0,ν⟩) M.length cap) (σ (Δ (i:Int))) ν ν) ab λa6=>
    aF x7 (Z6.clear_ #[gA] KS #[a6]) ab λu K=>
    ad x7 (U5 gA (.slice (σ ⟨g,0,ν⟩) M.length cap) ν (σ (Δ (i:Int))) ν) K λa7=>
    (λf J=>ai (λr=>leadsTo (.slice (σ ⟨g,0,ν⟩) M.length cap) r) w J/\fc J g f (L.filter gm)/\∀r,leadsTo f r->leadsTo (.slice (σ ⟨g,0,ν⟩) M.length cap) r) a7 K):=by
   rw[ij gA.u cW.i (o2 i _ F) ky ff Ω Ω (o4 _),if_neg Ω];simp only[Y1,T4];refine Eg gA.u cW.i F ?_ aX Ω λK au a8=>?_
   .exact ya Φ Φ
   rw[ij gA.u cW.i kx (o3 i _ F) ff Ω Ω (o4 _),if_neg Ω];simp only[Y1,T4,Nat.zero_mul,W0,Nat.sub_zero];have ba:(dT (x1.agg #[.slice ν 0 0,.pointer ν]).cells ((M.length-i)*2)).length=(M.length-i)*2:=o6 _ _;have bp:(M.flatMap eY).length=M.length*2:=jn aq;have av:(L.filter gm).length=i:=by rw[<-z,j6];omega
   have key:(λf J=>ai (λr=>leadsTo (.slice (σ ⟨g,0,ν⟩) M.length cap) r) w J/\fc J g f (L.filter gm)/\∀r,leadsTo f r->leadsTo (.slice (σ ⟨g,0,ν⟩) M.length cap) r) (.slice (σ ⟨g,0,ν⟩) (L.filter gm).length cap) K:=by
    refine⟨G.trans (au.mono λr _ he=>⟨_,_,_,F,he.symm⟩),⟨⟨⟨jn (λy _=>rfl),.inr ⟨cap,_,F,a8,Ω,aY,by rw[mp,aZ],?_⟩⟩,λy _=>rfl⟩,λy A=>?_⟩,λr q=>?_⟩
    .rw[av,<-z,<-qz i aq,<-a1,List.take_take,nZ (by rw[ba];omega),X6,List.take_append_of_le_length (by rw[j6];omega),List.take_take];congr 1;omega
    .have aw:y∈M:=by rw[<-z]at A;exact S4 A
     exact(e.2 y aw).ac au λr q he=>(e.2 y aw).2.1 r q he
    .obtain⟨a,n,c,h1,W⟩:=q;cases h1;exact⟨_,_,_,F,W⟩
   rw[av]at key;exact key
  exact a2
def si{k:n9}{g cap:Nat}{b:Option Addr}(h:ay k e w g (.slice b n cap) l)(s:0<l.length):
  b=σ ⟨g,0,ν⟩/\n=l.length/\∃cs,ah w g e cs/\n<=cap/\cap<=maxLen/\cs.length=cap/\cs.take n=ints k l:=by
 obtain⟨_,⟨_,h1⟩|⟨x,cs,h1,a,f,p,q,r⟩⟩:=h
 .omega
 .cases h1;exact⟨F,F,cs,a,f,p,by simpa using q,by simpa using r⟩
def O7{g cap:Nat}(h:ay .i64 aj w g (.slice (σ ⟨g,0,ν⟩) n cap) l)(p:j<l.length):aK .i64 w (.slice (σ ⟨g,j,ν⟩) (n-j) (cap-j)) (l.drop j):=by
 obtain⟨_,q,cs,a,h1,r,s,f⟩:=si h Ω;have:=Ls (o:=j) (k:=n-j) (c:=cap-j) a Ω Ω Ω;refine aK.of (n:=n-j) ?_;have e:(cs.drop j).take (n-j)=ints .i64 (l.drop j):=by
  rw[<-List.drop_take,f,ints,ints,List.map_drop]
 rw[e]at this;exact this
def O8{g:Nat}(h:ay .i64 aj w g sv l)(aU:l.length<=1000):
  an x7 Kj [sv] w λv J=>ai (λr=>r=g) w J/\ay .i64 aj J g v (dedup l l.length):=by
 refine aA func247 ?_;rw[aX ao.u h.ls];simp only[aP,am];refine⟨λaW=>⟨ai.refl _ _,?_⟩,λaY=>?_⟩
 .rw[u0 (o4 _) (λi hi V=>Ω),o9];exact h
 obtain⟨n,s⟩:∃n,l.length=n:=⟨_,F⟩;obtain⟨cap,rfl⟩:∃cap,sv= .slice (σ ⟨g,0,ν⟩) n cap:=by
  obtain⟨_,⟨_,h1⟩|⟨aq,cs,h1,_⟩⟩:=id h
  .omega
  .exact⟨aq,by rw[h1,s]⟩
 obtain⟨_,_,_,_,aZ,au,_⟩:=si h Ω;refine⟨λ_ t aa=>∃j:Nat,t=Δ (j:Int)/\1<=j/\j<=n/\Ext w aa/\∀i,i<j->0<i->l[i]? ≠l[i-1]?,λ_ t _=>n-(bT t).toNat,⟨1,F,Ω,Ω,Ext.refl _,λi h1 W=>Ω⟩,?_⟩;rintro a1 _ aa ⟨j,rfl,a2,X,A,I⟩;rw[aX ao.u (h.ls.ext A)];simp only[aP,am,ey];refine⟨λav ab aw _ _=>?_,λa6=>⟨A.ac _,?_⟩⟩
 .have av:j<n:=Ω
  have B:=A.trans aw;have Y:=h.ls.ext B;obtain⟨a,K⟩:=aI (l:=l) (i:=j) Ω;obtain⟨b,L⟩:=aI (l:=l) (i:=j-1) Ω;rw[be ao.u aj.i Ψ Y K];simp only[dI];rw[wrap_i64 Ω Ω,gf (i:=j-1) Ω ao.u aj.i Ψ Y L];simp only[bf,am,aM];refine⟨λM=>?_,λM=>?_⟩
  .subst M;rw[ij ao.u aj.i qf ky ff Ω Ω Ω,if_neg Ω];have ax:U4 (λx:Addr=>x.add (j*1)) (σ ⟨g,0,ν⟩)=σ ⟨g,j,ν⟩:=by simp[T4]
   rw[ax];have Z:dedup l (j+1)=l.take j:=by rw[xX Ω (by rw[K,L]),u0 Ω I]
   refine⟨λN t O=>∃(q e:Nat)(f:Λ),N=Δ (q:Int)/\t=Δ (e:Int)/\1<=e/\j+e<=n/\ai (λr=>r=g) w O/\ay .i64 aj O g (.slice (σ ⟨g,0,ν⟩) n cap) f/\f.length=n/\
     q=(dedup l (j+e)).length/\f.take q=dedup l (j+e)/\q<=j+e-1/\∀i,j+e-1<=i->f[i]?=l[i]?,λ_ t _=>n-(bT t).toNat,
    ⟨j,1,l,F,F,Ω,Ω,B.ac _,h.ext B,s,by rw[Z,j6];omega,by rw[Z],Ω,λi _=>rfl⟩,?_⟩
   rintro _ _ O ⟨q,e,f,rfl,rfl,a7,a8,P,ad,ae,af,C,az,E⟩;rw[ii ao.u];simp only[aP,am,ey];refine⟨λag=>?_,λag=>?_⟩
   .have ag:j+e<n:=Ω
    refine aV (λN Q=>∃(q:Nat)(f:Λ),N=Δ (q:Int)/\ai (λr=>r=g) w Q/\ay .i64 aj Q g (.slice (σ ⟨g,0,ν⟩) n cap) f/\f.length=n/\
     q=(dedup l (j+(e+1))).length/\f.take q=dedup l (j+(e+1))/\q<=j+(e+1)-1/\∀i,j+(e+1)-1<=i->f[i]?=l[i]?) ?_ ?_
    .rintro _ Q ⟨q,f,rfl,h1,W,aC,aD,aE,aF,aG⟩;simp only[aM];rw[wrap_i64 Ω Ω];exact⟨⟨q,e+1,f,F,F,Ω,Ω,h1,W,aC,aD,aE,aF,aG⟩,by simp only[bT];omega⟩
    .intro aB ah ba R _ _;have G:=ad.ext R;have S:=O7 (j:=j) G Ω;obtain⟨y,H⟩:=aI (l:=l) (i:=j+e) Ω;obtain⟨z,U⟩:=aI (l:=l) (i:=j+e-1) Ω;have ak:(f.drop j)[e]?=σ y:=by rw[List.getElem?_drop,E _ Ω,H]
     have aH:(f.drop j)[e-1]?=σ z:=by rw[List.getElem?_drop,E _ Ω,<-U];congr 1;omega
     rw[be ao.u aj.i Ψ S ak];simp only[dI];rw[wrap_i64 Ω Ω,gf (i:=e-1) Ω ao.u aj.i Ψ S aH];simp only[bA,am,aM];refine⟨λp=>?_,λp=>?_⟩
     .rw[be ao.u aj.i Ψ S ak,iK F ao.u aj.i G Ω];refine iL aj.i G Ω λbb aJ bc aK=>?_;rw[wrap_i64 Ω Ω];have al:=xY H (λ_=>by rw[H,U];simpa using p);refine ah _ _ ⟨q+1,_,F,(P.trans (R.ac _)).trans aJ,aK,by simpa using ae,?_,?_,Ω,λi hi=>?_⟩
      .rw[<-Q1,al];simp;omega
      .rw[<-Q1,al,u9,b8 Ω,List.take_set_of_le (o4 _),C];rfl
      .rw[Y6 Ω];exact E i Ω
     .have p:=Y3.1 p;have ap:dedup l (j+e+1)=dedup l (j+e):=xX Ω (by rw[H,U,p]);exact ah _ _ ⟨q,f,F,P.trans (R.ac _),G,ae,by rw[<-Q1,ap];exact af,by rw[<-Q1,ap];exact C,Ω,λi hi=>E i Ω⟩
   .have hk:j+e=n:=Ω
    rw[hk]at af C az;obtain⟨_,_,cs,aL,_,_,bd,aN⟩:=si ad Ω;simp only[maxLen]at au;rw[ij ao.u aj.i qf ky ff Ω Ω Ω,if_neg Ω];have aO:U4 (λx:Addr=>x.add (q*1)) (σ ⟨g,0,ν⟩)=σ ⟨g,q,ν⟩:=by simp[T4]
    rw[aO];refine BZ ao.u aj.i F rfl aL Ω Ω λbg aQ bh aR=>?_;rw[ij ao.u aj.i kx qg ff Ω Ω Ω,if_neg Ω];have aS:U4 (λx:Addr=>x.add (0*1)) (σ ⟨g,0,ν⟩)=σ ⟨g,0,ν⟩:=by simp[T4]
    rw[aS,s];refine⟨P.trans aQ,?_⟩;rw[<-C];refine ay.of (n:=q) ⟨Θ,.inr ⟨cap,_,Ξ,aR,Ω,by simp only[maxLen];omega,by rw[mp];omega,?_⟩⟩;rw[U7];apply Y9;intro i;by_cases hi:i<q
    .rw[Y2 hi,nY _ _ _ Θ,if_neg Ω,ints,x8,Y2 hi];have:(cs.take n)[i]?=(ints .i64 f)[i]?:=by rw[aN]
     rw[Y2 Ω,ints,x8]at this;exact this
    .rw[Z7 Θ,Z7 Θ]
  .rw[wrap_i64 Ω Ω];refine⟨⟨j+1,F,Ω,Ω,B,λi hi V=>?_⟩,by simp only[bT];omega⟩;by_cases aT:i=j
   .subst aT;rw[K,L];intro he;exact M (Z3 he)
   .exact I i Ω V
 .have X:j=n:=Ω
  rw[u0 (o4 _) (by rw[s,<-X];exact I),o9];exact h.ext A
def O9(y:n<=1000000):an x7 KD [.slice ν 0 0,Δ (n:Int)] w λv J=>Ext w J/\∃g,w.heap.size<=g/\ay .i64 aj J g v []:=by
 refine aA func280 ?_;refine da (λaa=>w=aa) ?_ ?_
 .rintro _ rfl;refine aV (λv J=>Ext w J/\∃g,w.heap.size<=g/\ay .i64 aj J g v []) (λ_ _ h=>h) λaB a=>?_;rw[BY ao.u,ii ao.u];simp only[dI];have e:W5.wrap (((0:Nat):Int)-((0:Nat):Int))=0:=Φ
  have f:W5.wrap ((n:Int)-0)=n:=by rw[wrap_i64 Ω Ω];omega
  rw[e,f];simp only[bL,am];refine⟨λh=>?_,λh=>a _ _ ⟨Ext.refl _,w.heap.size,o4 _,ay.nil _ _ _ _⟩⟩;rw[BY ao.u,ij ao.u aj.i kx qg ff Ω Ω Ω,if_pos F];refine Lr (xs:=[]) F ao.u aj.u aj.i F ⟨F,0,0,ν,0,F,o4 _,X8 _,λh=>absurd h (Nat.lt_irrefl _),λj v h=>by simp at h⟩ Ω Ω Ω Ω λv g J z U hm=>?_;obtain⟨_,⟨_,A⟩|⟨cap,cs,rfl,p,h1,q,r,B⟩⟩:=hm
  .omega
  rw[ii ao.u,ij ao.u aj.i kx qg ff Ω Ω Ω,if_neg Ω];have s:U4 (λx:Addr=>x.add (0*1)) (σ ⟨g,0,ν⟩)=σ ⟨g,0,ν⟩:=by simp[T4]
  rw[s];refine a _ _ ⟨U,g,Ω,ay.of (n:=0) ⟨Ξ,.inr ⟨cap,cs,Ξ,p,Ω,q,r,Ξ⟩⟩⟩
 .intro aB a;simp only[aP,am];exact⟨λh=>Ω,λ_=>a _ F⟩
def Pa{b:Λ}(E:aK .i64 w bl a)(G:aK .i64 w bv b)(S:a.length<=1000)(U:b.length<=1000)(V:∀v J g,Ext w J->w.heap.size<=g->ay .i64 aj J g v (a++b)->K v J):
  aF x7 (Y5 db 2 #[(0,bl),(1,bv)]) w λt aa=>an x7 Kk [t] aa K:=by
 obtain⟨⟨H,I,L,W⟩,⟨M,N,O,X⟩⟩:(∃x n c,bl= .slice x n c)/\(∃x n c,bv= .slice x n c):=by
  obtain⟨_,_,_,x,c,h1,_⟩:=id E;obtain⟨_,_,_,y,d,Y,_⟩:=id G;exact⟨⟨x,_,c,h1⟩,⟨y,_,d,Y⟩⟩
 subst W;subst X;refine lK db.u ao.i Ω (cs:=#[.slice H I L,.slice M N O]) Ψ λg aa az s z=>?_;have z:=z;have key:∀i:Nat,i<2->∃v l,[x1.slice H I L,.slice M N O][i]?=σ v/\[a,b][i]?=σ l/\aK .i64 w v l/\l.length<=1000:=λi hi=>by
  match i,hi with
  |0,_=>exact⟨_,_,F,F,E,S⟩
  |1,_=>exact⟨_,_,F,F,G,U⟩
 refine aA func248 ?_;rw[ii db.u];refine bV.range 2 (λi size ab=>Ext aa ab/\∃n:Nat,n<=1000*i/\size=Δ (n:Int)) Ω ⟨Ext.refl _,0,Ω,F⟩ ?_ ?_
 .rintro i _ ab Z hi ⟨f,n,ac,rfl⟩ ad;simp only[aP,am];refine⟨λ_=>?_,λh=>Ω⟩;obtain⟨v,l,ae,P,C,af⟩:=key i hi;refine aV (λv Q=>ab=Q/\v=Δ ((n+l.length:Nat):Int)) ?_ ?_
  .rintro _ _ ⟨rfl,rfl⟩;simp only[aM];exact ad _ _ ⟨f,_,Ω,F⟩
  .intro aB ag;rw[fe db.u ao.i hi (λ_=>rfl),ax Ψ ((z.ext f).cell (by rw[<-ae];congr 1;omega)),aX ao.u (C.ext (s.trans f))];simp only[aM,aP,am];rw[wrap_i64 Ω Ω];exact⟨λh=>Ω,λ_=>ag _ _ ⟨F,by congr 1⟩⟩
 .rintro _ ab Z ⟨f,n,ac,rfl⟩;simp only[aP,am];refine⟨λh=>Ω,λ_=>?_⟩;refine(O9 Ω).mono ?_;rintro v0 Q _ ⟨R,ah,aC,ai⟩;have:=s.size;have:=f.size;have:=R.size;have ak:=f.trans R;rw[ii db.u];refine bV.range 2 (λi v A=>Ext aa A/\∃q,aa.heap.size<=q/\ay .i64 aj A q v (([a,b].take i).flatten)/\(([a,b].take i).flatten).length<=1000*i) Ω ⟨ak,ah,Ω,ai,Ξ⟩ ?_ ?_
  .rintro i v4 A al hi ⟨p,q,ap,B,aG⟩ aq;simp only[aP,am];refine⟨λ_=>?_,λh=>Ω⟩;obtain⟨v,l,ae,P,C,af⟩:=key i hi;rw[fe db.u ao.i hi (λ_=>rfl),ax Ψ ((z.ext p).cell (by rw[<-ae];congr 1;omega))];refine kA ao.u aj.i F B (C.ext (s.trans p)) Ω Ω λaH au aI aJ av aw=>?_;simp only[aM];have:=p.size;have e:([a,b].take (i+1)).flatten=([a,b].take i).flatten++l:=by rw[u9,P];simp
   refine aq _ _ ⟨p.then aw (by rintro r aN rfl;omega),au,Ω,by rw[e];exact av,by rw[e,r8];omega⟩
  .rintro v4 A al ⟨p,q,ap,B,_⟩;simp only[aP,am];refine⟨λh=>Ω,λ_=>V _ _ q (s.trans p) Ω ?_⟩;have e:([a,b].take 2).flatten=a++b:=Ξ
   rw[e]at B;exact B
def qL(s1 a f e vars:Λ):Prop:=∀p∈vars,p∈a->p∈e->jm s1 (fu a p)=jm f (fu e p)
def dC(s1 a e f vars:Λ):Λ:=vars.map λp=>max (jm s1 (fu a p)) (jm e (fu f p))
def Ei(s1 a e f vars:Λ):(dC s1 a e f vars).length=vars.length:=by simp[dC]
def vb{x:Int}:0<=fu l x↔x∈l:=by
 unfold fu;by_cases h:x∈l
 .rw[if_pos h];exact⟨λ_=>h,λ_=>Ω⟩
 .rw[if_neg h];exact⟨λh=>Ω,λa=>absurd a h⟩
def Pb{g az W aC:Nat}{E X:x1}{s1 f vars e:Λ}{aD:Int}{aE aF:Λ}(h1:di w g az sv s1 k aE)(Y:di w W aC E f aD aF)(ae:aK .i64 w X vars)(aG:aK .i64 w bl a)(G:aK .i64 w bv e)(aH:ip a)(aJ:ip e)(bd:vars.length<=1000):
  an x7 Kl [X,Γ g,bl,Γ W,bv] w λv J=>Ext w J/\
   (¬qL s1 a f e vars->v= .tuple #[.slice ν 0 0,.bool false])/\
   (qL s1 a f e vars->∃x ap,v= .tuple #[x,.bool true]/\w.heap.size<=ap/\ay .i64 aj J ap x (dC s1 a f e vars)):=by
 have sub:∀{w:x3}{g:Nat}{sv:x1}{k:Int}{bb:x1},ah w g cX [sv,Δ k,bb]->w.rangeAt g (0+0) [sv]:=λG=>pe G (by
  intro j v ae
  match j,ae with
  |0,ae=>exact ae)
 refine aA func249 ?_;rw[aX ao.u ae];refine k6 ao.u aj.i Ω Ω λgz aa bf Z aL=>?_;have aN:=ay.of (n:=vars.length) (b1.full aL Ξ (by simp[maxLen];omega));generalize (x1.slice (σ ⟨gz,0,ν⟩) vars.length vars.length)=aO at*;rw[aX ao.u (ae.ext Z)];have H:=Ei s1 a f e vars;refine mg.range vars.length (λi _ _ ab=>Ext w ab/\ay .i64 aj ab gz aO (upto (dC s1 a f e vars) 0 i)/\∀(j:Nat)(p:Int),j<i->vars[j]?=σ p->p∈a->p∈e->jm s1 (fu a p)=jm f (fu e p)) Ω
  ⟨Z,by rw[rO,H];exact aN,λj p A=>Ω⟩ ?_ ?_
 .rintro i _ _ ab aQ hi ⟨q,hm,I⟩ aR;simp only[aP,am];refine⟨λ_=>?_,λh=>Ω⟩;obtain⟨p,s⟩:=aI (l:=vars) hi;rw[be ao.u aj.i Ψ (ae.ext q) s];refine(u1 (aG.ext q) aH).mono ?_;rintro _ bg _ ⟨rfl,K⟩;refine(u1 (G.ext (q.trans K)) aJ).mono ?_;rintro _ aS _ ⟨rfl,ac⟩;have ad:=(q.trans K).trans ac;refine aV (λv ag=>Ext aS ag/\∃c,v= .bool c/\(c=true↔p∈a/\p∈e/\jm s1 (fu a p)≠jm f (fu e p))) ?_ ?_
  .rintro _ ag ⟨ai,c,rfl,ak⟩;have al:=ad.trans ai;rw[cd];refine⟨λaT=>⟨al,λ_=>by first|rfl|trivial,λA=>?_⟩,λaf=>?_⟩
   .obtain⟨y,z,aU⟩:=ak.1 aT;exact absurd (A p (x5 s) y z) aU
   .simp only[ey];intro bh aq _ _;have L:=al.trans aq;obtain⟨⟨bb,gs,M,N,_⟩,_⟩:=h1.ext L;obtain⟨⟨aY,aZ,O,P,_⟩,_⟩:=Y.ext L;rw[bZ,aW cX.p F,bN (cs:=[sv]) bD.p bD.i F (sub M),bZ,aW cX.p F,bN (cs:=[E]) bD.p bD.i F (sub O)];refine(rX N.ls).mono ?_;rintro _ bi _ ⟨rfl,B⟩;refine⟨.inl B,?_⟩;refine(rX (P.ls.ext B)).mono ?_;rintro _ bj _ ⟨rfl,au⟩;have a1:=(L.trans B).trans au;have av:=hm.ext ((((K.trans ac).trans ai).trans aq).trans (B.trans au));have bk:(upto (dC s1 a f e vars) 0 i).length=vars.length:=by rw[rN,H]
    rw[wZ,iK F ao.u aj.i av Ω];refine iL aj.i av Ω λbm a2 _ aw=>?_;simp only[aM];have a6:(dC s1 a f e vars)[i]?=σ (max (jm s1 (fu a p)) (jm f (fu e p))):=by
     unfold dC;rw[x8,s];rfl
    rw[rQ a6]at aw;refine aR _ _ _ ⟨a1.then a2 (by rintro r bn rfl;omega),aw,λj a7 A Q y z=>?_⟩;by_cases a8:j=i
    .subst a8;rw[s]at Q;cases Q;refine Decidable.byContradiction λba=>?_;have:=ak.2 ⟨y,z,ba⟩;rw[af]at this;cases this
    .exact I j a7 Ω Q y z
  .intro aB R;simp only[ey,cO,am];intro bo C _ _;refine⟨λS=>⟨λU=>?_,λU=>⟨.inl (Ext.refl _),R _ _ ⟨C,false,F,⟨(λh=>by cases h),λh=>absurd (vb.2 h.2.1) U⟩⟩⟩⟩,λS=>⟨.inl (Ext.refl _),R _ _ ⟨C,false,F,⟨(λh=>by cases h),λh=>absurd (vb.2 h.1) S⟩⟩⟩⟩;have ax:=ad.trans C;obtain⟨⟨bb,gs,M,N,_⟩,_⟩:=h1.ext ax;obtain⟨⟨aY,aZ,O,P,_⟩,_⟩:=Y.ext ax;rw[bZ,aW cX.p F,bN (cs:=[sv]) bD.p bD.i F (sub M),bZ,aW cX.p F,bN (cs:=[E]) bD.p bD.i F (sub O)];refine(rX N.ls).mono ?_;rintro _ bp _ ⟨rfl,V⟩;refine⟨.inl V,?_⟩;refine(rX (P.ls.ext V)).mono ?_;rintro _ bq _ ⟨rfl,bc⟩;simp only[bA];refine R _ _ ⟨(C.trans V).trans bc,_,F,?_⟩;rw[decide_eq_true_iff];exact⟨λh=>⟨vb.1 S,vb.1 U,h⟩,λh=>h.2.2⟩
 .rintro _ _ ab aQ ⟨q,hm,I⟩;simp only[aP,am];refine⟨λh=>Ω,λ_=>?_⟩;have A:qL s1 a f e vars:=λp s y z=>by
   obtain⟨i,hi,he⟩:=List.getElem_of_mem s;exact I i p hi (by rw[x6 hi,he]) y z
  rw[<-H,rP]at hm;exact⟨q,λh=>absurd A h,λ_=>⟨_,gz,F,Ω,hm⟩⟩
def yb(a e vars:Λ):Prop:=ip vars/\∀x,x∈vars↔x∈a\/x∈e
def pv(s1 h a e p f vars:Λ)(k:Int):Λ:=
 (Z4 (aR (dC s1 a e f vars)).toNat).map λ(q:Nat)=>min (bo s1 h (gl (dk (dC s1 a e f vars) q) vars a)+bo e p (gl (dk (dC s1 a e f vars) q) vars f)) k
def Ej(s1 h a e p f vars:Λ)(k:Int):(pv s1 h a e p f vars k).length=(aR (dC s1 a e f vars)).toNat:=by simp[pv]
def vc{s cs:Λ}(hk:right k)(h:∀x∈cs,ct x k):ct (bo s cs t) k:=by
 have a:ct 0 k:=⟨hk,Int.le_refl _,by have:=hk.1;omega⟩;unfold bo;split
 .rename_i n _;rw[u4];cases e:cs[n.toNat]? with
  |none=>exact a
  |some x=>exact h x (x5 e)
 .exact a
def Fits(s l:Λ):Prop:=l.length=s.length/\sg l
def sj(e:Int):x1:=.tuple #[.pointer ν,.slice ν 0 0,Δ e]
def Ek(w:x3)(s1 r a f s e:Λ)(k h:Int)(v:x1)(J:x3):Prop:=
 Ext w J/\(¬(Fits s1 a/\Fits f e)->v=sj 1)/\
  (Fits s1 a/\Fits f e->∃vars,yb a e vars/\(¬qL s1 a f e vars->v=sj 1)/\(qL s1 a f e vars->(k≠h->v=sj 3)/\
   (k=h->¬cb (dC s1 a f e vars)->v=sj 1)/\(k=h->cb (dC s1 a f e vars)->4096<aR (dC s1 a f e vars)->v=sj 5)/\
   (k=h->cb (dC s1 a f e vars)->aR (dC s1 a f e vars)<=4096->∃p x y q,v= .tuple #[Γ p,q,Δ 0]/\
    di J p x y (dC s1 a f e vars) k (pv s1 r a f s e vars k)/\aK .i64 J q vars)))
def Pc{g bK ga bL:Nat}{bO:x1}{s1 z f y:Λ}{bg:Int}{G H:Λ}(h1:di w g bK sv s1 k G)(aw:di w ga bL bO z bg H)(aA:aK .i64 w bl f)(P:aK .i64 w bv y)(hk:right k)(cr:∀x∈G,ct x k)(cu:∀x∈H,ct x bg):
  an x7 JN [Γ g,bl,Γ ga,bv] w (Ek w s1 G f z H y k bg):=by
 have cw:=aA.cells;have cz:=P.cells;have cA:=h1.2.2.1;have cB:=aw.2.2.1;have sub:∀{w:x3}{g:Nat}{sv:x1}{k:Int}{bb:x1},ah w g cX [sv,Δ k,bb]->w.rangeAt g (0+0) [sv]:=λP=>pe P (by
  intro j v ae
  match j,ae with
  |0,ae=>exact ae)
 refine iG func196 ?_;refine bh λg1 aa dG bP E=>?_;refine bh λbQ ab dH bi I=>?_;refine bh λbR dI dJ aQ K=>?_;refine bh λbS X dK aD L=>?_;have dL:=E.lt;have dM:=I.lt;have dN:=K.lt;have dO:=L.lt;have dP:=bP.size;have dQ:=bi.size;have dR:=aQ.size;have dS:=aD.size;have Y:=((bP.trans bi).trans aQ).trans aD;have E:ah X g1 e7 [Γ g]:=((E.ext bi).ext aQ).ext aD;have I:ah X bQ ao [bl]:=by rw[cw.1]at I;exact(I.ext aQ).ext aD
 have K:ah X bR e7 [Γ ga]:=K.ext aD;have L:ah X bS ao [bv]:=by rw[cz.1]at L;exact L
 refine aV (λv bT=>v= .bool false/\X=bT) ?_ ?_
 rotate_left
 .intro aB aS;rw[ax Ψ (E.Qz F),dh e7.u];simp only[Y0,a8];rw[ax Ψ (K.cell F),dh e7.u];exact aS _ _ ⟨F,F⟩
 rintro _ _ ⟨rfl,rfl⟩;simp only[a8];refine aV (λv bU=>Ext X bU/\∃c,v= .bool c/\(c=true↔¬(Fits s1 f/\Fits z y))) ?_ ?_
 rotate_left
 .intro aB aS;rw[ax Ψ (E.cell F),ax Ψ (I.cell F)];refine(Eb (h1.ext Y) (aA.ext Y)).mono ?_;rintro _ bT _ ⟨Z,c,rfl,aE⟩;simp only[bM,cd];refine⟨λaU=>aS _ _ ⟨Z,true,F,λ_ h=>?_,λ_=>rfl⟩,λaf=>?_⟩
  .have:=aE.2 h.1;rw[this]at aU;cases aU
  .have cC:c=true:=by cases c<;>simp_all
   rw[ax Ψ ((K.ext Z).cell F),ax Ψ ((L.ext Z).cell F)];refine(Eb ((aw.ext Y).ext Z) ((P.ext Y).ext Z)).mono ?_;rintro _ dT _ ⟨cD,d,rfl,bV⟩;simp only[bM];refine aS _ _ ⟨Z.trans cD,_,F,λh aC=>?_,λh=>?_⟩
   .have:=bV.2 aC.2;rw[this]at h;cases h
   .cases d with
    |false=>rfl
    |true=>exact absurd ⟨aE.1 cC,bV.1 F⟩ h
 rintro _ bU ⟨aF,c,rfl,aE⟩;have bj:=Y.trans aF;rw[cd];refine⟨λaU dU cE _=>⟨bj.trans cE,λ_=>rfl,λh=>absurd h (aE.1 aU)⟩,λaf=>?_⟩;have aG:=Classical.byContradiction λh=>by
  have:=aE.2 h;rw[af]at this;cases this
 obtain⟨⟨dV,cF⟩,dW,cG⟩:=id aG;have dX:=cA.1;have dY:=cB.1;rw[ax Ψ ((I.ext aF).cell F),ax Ψ ((L.ext aF).cell F)];refine Pa (aA.ext bj) (P.ext bj) Ω Ω λdZ ea eb bW ec cH=>?_;refine xW cH.ls (by rw[r8];omega) λed ee ef m bY eg b0 cI cJ=>?_;have cK:=b0.length_eq;rw[r8]at cK;refine(O8 cJ Ω).mono ?_;rintro bk eh _ ⟨cL,bm⟩;have ei:=aF.size;have ej:=bW.size;have ek:=bY.size;have b1:=(bW.trans bY).then cL (by rintro r aX rfl;omega);obtain⟨cM,cN⟩:=Ea cI (o4 _);have em:=D9 m m.length;have M:yb f y (dedup m m.length):=⟨cM,λx=>by rw[cN,o9,b0.mem_iff,p9]⟩;generalize dedup m m.length=vars at*;refine bu ao.i λba en eo b2 cO=>?_;refine bp ao.i bm.ls.cells.1 bm.ls.cells.2 cO (by simp[x1.cells]) λep cP er aH=>?_;have es:=b1.size;have et:=b2.size;have bn:=b2.then cP (by rintro r aX rfl;omega);have ad:=(aF.trans b1).trans bn;have aI:=Y.trans ad;have cR:=aH.lt;have b3:=bm.ls.ext bn;have aH:=aH;rw[ax Ψ (aH.cell F),ax Ψ ((E.ext ad).cell F),ax Ψ ((I.ext ad).cell F),ax Ψ ((K.ext ad).cell F),ax Ψ ((L.ext ad).cell F)];refine(Pb (h1.ext aI) (aw.ext aI) b3 (aA.ext aI) (P.ext aI) cF.up cG.up Ω).mono ?_;rintro eu ev _ ⟨aJ,cQ,cS⟩;have b4:=aI.trans aJ;by_cases ag:qL s1 f z y vars
 rotate_left
 .rw[cQ ag,bq,br];simp only[bM,V8,bX];intro ew cT _;exact⟨b4.trans cT,λh=>absurd aG h,λ_=>⟨vars,M,λ_=>rfl,λh=>absurd h ag⟩⟩
 obtain⟨xs,ap,rfl,ey,cU⟩:=cS ag;rw[bq,br];simp only[bM,X2,a8];intro ak al _ _;have aY:=(ad.trans aJ).trans al;have aq:=b4.trans al;have E:=E.ext aY;have I:=I.ext aY;have K:=K.ext aY;have L:=L.ext aY;have cV:=(aH.ext aJ).ext al;obtain⟨⟨bb,gs,b5,ez,_⟩,_⟩:=h1.ext aq;obtain⟨⟨eA,eB,cW,eC,_⟩,_⟩:=aw.ext aq;rw[ax Ψ (E.cell F),aT cX.p 1 b5 F,ax Ψ (K.cell F),aT cX.p 1 cW F];simp only[bA,am];refine⟨λQ eD cY _=>⟨aq.trans cY,λh=>absurd aG h,λ_=>⟨vars,M,λh=>absurd ag h,λ_=>⟨λ_=>rfl,λh=>absurd h Q,λh=>absurd h Q,λh=>absurd h Q⟩⟩⟩,λQ=>?_⟩;have Q:=Y3.1 Q;subst Q;rw[ax Ψ (E.cell F),aT cX.p 1 b5 F];have cZ:=cU.ext al;refine(w8 cZ.ls).mono ?_;rintro aN aZ _ ⟨b6,c0,c1,_,c2⟩;have eE:=bn.size;have eF:=aJ.size;have eH:=al.size;have eI:=b6.size;obtain⟨aL,e,rfl,eJ,a1⟩:∃(aL:Option Addr)(e:Int),aN= .tuple #[.pointer aL,Δ e]/\(e=0->aL≠ν)/\((e=1/\¬cb (dC s1 f z y vars))\/(e=5/\cb (dC s1 f z y vars)/\4096<aR (dC s1 f z y vars))\/(e=0/\cb (dC s1 f z y vars)/\aR (dC s1 f z y vars)<=4096/\
   ∃B A C,aL=σ ⟨B,0,ν⟩/\ak.heap.size<=B/\ak.heap.size<=A/\(∀r,leads C r->ak.heap.size<=r)/\di aZ B A C (dC s1 f z y vars) k (o8 (aR (dC s1 f z y vars)).toNat 0))):=by
  by_cases V:cb (dC s1 f z y vars)
  .by_cases O:aR (dC s1 f z y vars)<=4096
   .obtain⟨B,A,C,c3,c4,c5,c6,c7⟩:=c2 V O ⟨hk,Ω,by have:=hk.1;omega⟩;exact⟨_,_,c3,(λ_ h=>by cases h),.inr (.inr ⟨F,V,O,B,A,C,F,c4,c5,c6,c7⟩)⟩
   .exact⟨_,_,c1 V Ω,(λh=>Ω),.inr (.inl ⟨F,V,Ω⟩)⟩
  .exact⟨_,_,c0 V,(λh=>Ω),.inl ⟨F,V⟩⟩
 rw[bq,br];refine bu e7.i λb7 eK eL b8 aM=>?_;refine bp e7.i F rfl aM (by simp[x1.cells]) λeM c8 eN aM=>?_;have eO:=b8.size;have bs:=b8.then c8 (by rintro r aX rfl;omega);have b9:=b6.trans bs;have c9:=aq.trans b9;have eP:=aM.lt;simp only[bA,am];refine⟨λda eQ db _=>⟨c9.trans db,λh=>absurd aG h,λ_=>⟨vars,M,λh=>absurd ag h,λ_=>⟨λh=>absurd F h,λ_ V=>?_,λ_ V O=>?_,λ_ V O=>?_⟩⟩⟩,λeR=>?_⟩
 .rcases a1 with⟨rfl,_⟩|⟨_,h,_⟩|⟨_,h,_⟩
  .rfl
  .exact absurd h V
  .exact absurd h V
 .rcases a1 with⟨_,h⟩|⟨rfl,_⟩|⟨_,_,h,_⟩
  .exact absurd V h
  .rfl
  .omega
 .rcases a1 with⟨_,h⟩|⟨_,_,h⟩|⟨h,_⟩
  .exact absurd V h
  .omega
  .exact absurd h da
 obtain⟨a2,dc,B,A,C,rfl,eS,eU,eV,a6⟩:cb (dC s1 f z y vars)/\aR (dC s1 f z y vars)<=4096/\
   ∃B A C,aL=σ ⟨B,0,ν⟩/\ak.heap.size<=B/\ak.heap.size<=A/\(∀r,leads C r->ak.heap.size<=r)/\di aZ B A C (dC s1 f z y vars) k (o8 (aR (dC s1 f z y vars)).toNat 0):=by
  rcases a1 with⟨h,_⟩|⟨h,_⟩|⟨_,h⟩
  .omega
  .omega
  .exact h
 obtain rfl:e=0:=Ω
 have dd:(dC s1 f z y vars).length=vars.length:=Ei _ _ _ _ _;have eW:=prod_bound a2;obtain⟨N,a7⟩:∃N:Nat,(aR (dC s1 f z y vars)).toNat=N:=⟨_,F⟩;rw[a7]at a6;have eX:0<N:=Ω
 have de:=a6.ext bs;obtain⟨⟨bt,ca,cc,ce,df⟩,⟨cf,cg,_⟩,_,eY⟩:=id de;have eZ:B<aZ.heap.size:=by obtain⟨⟨_,_,q,_⟩,_⟩:=id a6;exact q.lt
 have e0:A<aZ.heap.size:=by obtain⟨⟨_,_,_,_,q⟩,_⟩:=id a6;exact uV q Θ
 rw[ax Ψ (aM.cell F),bZ,aW cX.p F,bN (cs:=[C]) bD.p bD.i F (sub cc)];refine xy.mono ?_;rintro _ bc _ ⟨R,bd,rfl,e1,ch⟩;have e2:=bs.size;have e3:=R.size;let S:Nat->Prop:=λr=>r=A;let au:=pv s1 G f z H y vars k;have bx:au.length=N:=by simp only[au];rw[Ej,a7]
 have dg:=(b3.ext aJ).ext al;let dj:x3->Prop:=λJ=>ah J g1 e7 [Γ g]/\ah J bQ ao [bl]/\ah J bR e7 [Γ ga]/\ah J bS ao [bv]/\ah J ba ao [bk]/\aK .i64 J bk vars/\
  ah J b7 e7 [Γ B]/\ah J B cX [C,Δ k,bt]/\di J g bK sv s1 k G/\di J ga bL bO z k H/\aK .i64 J bl f/\aK .i64 J bv y/\ay .i64 aj J ca C (dC s1 f z y vars)/\ah J bd bD [C]/\bc.heap.size<=J.heap.size
 have ci:=b9.trans R;have aO:∀{a:x3},ai S bc a->dj a:=by
  intro a U;have W:=ci.put U Ω;have be:=aq.trans W;exact⟨E.ext W,I.ext W,K.ext W,L.ext W,cV.ext W,dg.ext W,(aM.ext R).ac U (by show¬(b7=A);omega),(cc.ext R).ac U (by show¬(B=A);exact cf),h1.ext be,aw.ext be,aA.ext be,P.ext be,
   bw (ce.ext R) U (λr aX he=>cg ((show r=A from he)▸aX)),ch.ac U (by show¬(bd=A);omega),U.size⟩
 have cj:=xx (g:=bd) (B0:=bc.heap.size) (sv:=C) a2;rw[a7]at cj;refine p2.old ⟨Nat,false,m9,#[Γ bd],0,_,_,_,λq J=>ai S bc J/\ay .i64 av J A bt (upto au 0 q),λ_ _ _=>False,F,cj.s,
  ?_,λ_ _ U h=>⟨h.1.ext U,h.2.1.ext U,X3 h.2.2 U.size⟩,λ_ _ _ U h=>⟨h.1.trans (U.ac S),h.2.ext U⟩,λ_ _ _ _ _ h=>h,⟨ch,(ce.ext R).ls,o4 _⟩,⟨ai.refl _ _,?_⟩,?_,?_,λ_ _ h=>h.elim,λ_ _ _ h=>h.elim⟩
 .rintro _ _ _ _ ⟨_,_,_,_,rfl,_⟩;rfl
 .rw[rO,bx];exact df.ext R
 .rintro _ aN q _ e4 ⟨_,_,e5⟩ ⟨bz,rfl,e6,gt,dl,e8,ck⟩ ⟨bf,dm⟩;cases dl;let x:=dk (dC s1 f z y vars) (q:Int);have cl:x.length=vars.length:=by simp only[x];rw[kD,dd]
  intro e9 dn _ _;intro fa dp _ _;have bB:=dn.trans dp;obtain⟨f1,f2,f3,f4,f5,f6,f7,f8,f9,f10,f11,f12,f13,f14,f15⟩:=aO (bf.trans (bB.ac S));rw[ax Ψ (f1.cell F),ax Ψ (f5.cell F),ax Ψ (f2.cell F)];refine(Ec (ck.ls.ext bB) f6 f11 M.1 (λp O=>(M.2 p).2 (.inl O)) cl Ω).mono ?_;rintro fb fc _ ⟨bC,fd,fe,dq⟩;refine⟨.inl bC,?_⟩;refine(w9 (f9.ext bC) dq.ls).mono ?_;rintro _ ff _ ⟨rfl,dr⟩;obtain⟨fg,ds⟩:=xV s1 (gl x vars f) G;have dt:=ds;rw[dt,bq,br];intro fh du _ _;have bE:=((bB.trans bC).trans dr).trans du;obtain⟨f1,f2,f3,f4,f5,f6,f7,f8,f9,f10,f11,f12,f13,f14,f15⟩:=aO (bf.trans (bE.ac S));rw[ax Ψ (f3.cell F),ax Ψ (f5.cell F),ax Ψ (f4.cell F)];refine(Ec (ck.ls.ext bE) f6 f12 M.1 (λp O=>(M.2 p).2 (.inr O)) cl Ω).mono ?_;rintro fi fj _ ⟨bF,fk,fm,dv⟩;refine⟨.inl bF,?_⟩;refine(w9 (f10.ext bF) dv.ls).mono ?_;rintro _ fo _ ⟨rfl,dw⟩;obtain⟨fp,dx⟩:=xV z (gl x vars y) H;have dy:=dx;rw[dy,bq,br];intro fq dz _ _;have bG:=((bE.trans bF).trans dw).trans dz;obtain⟨f1,f2,f3,f4,f5,f6,f7,f8,f9,f10,f11,f12,f13,f14,f15⟩:=aO (bf.trans (bG.ac S));rw[ax Ψ (f7.cell F),aT cX.p 2 f8 F,ax Ψ (f7.cell F),aT cX.p 1 f8 F];refine xw.mono ?_;rintro _ fs _ ⟨rfl,bH⟩;refine⟨.inl bH,?_⟩;have dA:pp (bo s1 G (gl x vars f)) (bo z H (gl x vars y)) k= .tuple #[Δ (min (bo s1 G (gl x vars f)+bo z H (gl x vars y)) k),Δ 0]:=if_pos ⟨vc hk cr,vc hk cu⟩;rw[dA,j2 (v:=Δ (min (bo s1 G (gl x vars f)+bo z H (gl x vars y)) k)) F,j2 (v:=Δ 0) F];have cm:=dm.ext (bG.trans bH);have ft:(upto au 0 q).length=N:=by rw[rN,bx]
  rw[iK F az.u av.i cm Ω];refine iL av.i cm Ω λfu dD fv cn=>?_;have cp:=(bf.trans ((bG.trans bH).ac S)).trans (dD.mono λr _ h=>h);obtain⟨f1,f2,f3,f4,f5,f6,f7,f8,f9,f10,f11,f12,f13,f14,f15⟩:=aO cp;have dE:au[q]?=σ (min (bo s1 G (gl x vars f)+bo z H (gl x vars y)) k):=by
   simp only[au,pv];rw[x8,List.getElem?_range (by rw[a7];exact bz)];rfl
  rw[rQ dE]at cn;exact⟨⟨f14,f13.ls,f15⟩,⟨cp,cn⟩,λh=>by cases h⟩
 .rintro q fw bz ⟨cq,bI⟩;rw[show q=N from bz]at bI;intro fx bJ _ _;obtain⟨f1,f2,f3,f4,f5,f6,f7,f8,f9,f10,f11,f12,f13,f14,f15⟩:=aO (cq.trans (bJ.ac S));rw[ax Ψ (f7.cell F),ax Ψ (f5.cell F)];intro fy aP _;rw[<-bx,rP]at bI;have dF:=aq.trans ci;refine⟨((dF.put cq Ω).trans bJ).trans aP,λh=>absurd aG h,λ_=>⟨vars,M,λh=>absurd ag h,λ_=>⟨λh=>absurd F h,λ_ h=>absurd a2 h,λ_ _ h=>Ω,λ_ _ _=>⟨B,A,C,bk,F,⟨⟨bt,ca,f8.ext aP,f13.ext aP,(bI.ext bJ).ext aP⟩,⟨cf,cg,dc⟩,a2,Ej _ _ _ _ _ _ _ _⟩,f6.ext aP⟩⟩⟩⟩
def ip.pair(h:ip l):l.Pairwise (·< ·):=V3.2 λi j hi a e=>h i j _ _ e (x6 hi) (x6 a)
def Pd{m:Λ}(e:ip l)(hm:ip m)(h:∀x,x∈l↔x∈m):l=m:=by
 have f:l.Nodup:=e.pair.imp λh=>Ω
 have p:m.Nodup:=hm.pair.imp λh=>Ω
 exact List.Perm.eq_of_pairwise (le:=(·<= ·)) (λa b _ _ h1 q=>Int.le_antisymm h1 q) (e.pair.imp λh=>Int.le_of_lt h) (hm.pair.imp λh=>Int.le_of_lt h) ((List.perm_ext_iff_of_nodup f p).2 h)
def Pe{vars:Λ}(h:yb l l vars)(hu:ip l):vars=l:=Pd h.1 hu λx=>by rw[h.2];simp
def yc(h:l.Pairwise (·< ·)):ip l:=λi j x y e U f=>by
 have h1:=x4.1 U;have a:=x4.1 f;have:=V3.1 h i j h1.1 a.1 e;rw[h1.2,a.2]at this;exact this
def Pf{x:Λ}(hu:l.Nodup)(h:x.length=l.length):gl x l l=x:=by
 refine Y9 λi=>?_;unfold gl;cases a:l[i]? with
 |none=>rw[x8,a,Z7 (by have:=List.getElem?_eq_none_iff.1 a;omega)];rfl
 |some v=>
  have:=(x4.1 a).1;rw[x8,a,Y1,se hu a,u4,x6 (show i<x.length by omega)];rfl
def El{s:Λ}(hu:ip l)(h:s.length=l.length):dC s l s l l=s:=by
 refine Y9 λi=>?_;unfold dC;cases a:l[i]? with
 |none=>rw[x8,a,Z7 (by have:=List.getElem?_eq_none_iff.1 a;omega)];rfl
 |some v=>
  have:=(x4.1 a).1;rw[x8,a,Y1,xZ hu a,Int.max_self,x6 (show i<s.length by omega)];unfold jm;rw[if_pos Ω,u4,u7,x6 (show i<s.length by omega)];rfl
def Pg{s b:Λ}(hu:l.Pairwise (·< ·))(h:s.length=l.length)(V:dL s)(e:a.length=(aR s).toNat)(f:b.length=(aR s).toNat):pv s a l s b l l k=ej k a b:=by
 have p:l.Nodup:=hu.imp λh=>Ω
 unfold pv;rw[El (yc hu) h,NZ V e f];apply List.map_congr_left;intro q _;rw[Pf p (by rw[kD,h])]
def Ph{s b:Λ}(hu:l.Pairwise (·< ·))(C:∀x∈l,0<=x)(h:s.length=l.length)(V:cb s)(E:aR s<=4096)(F:a.length=(aR s).toNat)(G:b.length=(aR s).toNat)(f:Ek w s a l s b l k k v J):
  Ext w J/\∃e q r y,v= .tuple #[Γ e,y,Δ 0]/\di J e q r s k (ej k a b):=by
 obtain⟨U,_,f⟩:=f;have z:=yc hu;have A:Fits s l:=⟨h.symm,OH z C⟩;obtain⟨vars,ae,_,H⟩:=f ⟨A,A⟩;have I:=Pe ae z;subst I;obtain⟨_,_,_,B⟩:=H λp L M N=>rfl;rw[El z h,Pg hu h V.2 F G]at B;obtain⟨e,q,r,y,rfl,K,_⟩:=B rfl V E;exact⟨U,e,q,r,y,rfl,K⟩
def Pj{s:Λ}(V:dL s):(bn s).Nodup:=(D2 V).imp λ{a b}h he=>by subst he;omega
def Pk{s:Λ}{i:Nat}(V:dL s)(hi:(bn s)[i]?=σ t)(a:(bn s)[j]?=σ t):i=j:=lW (Pj V) hi a
def Pl{s:Λ}(V:dL s)(h:dv s t):∃j:Nat,(bn s)[j]?=σ t:=W3.1 ((D1 V).2 h)
def vd{g m:Nat}{d:List (x1×x1)}(h:ah w g e cs)(hm:c5 w m d)(a:ai (λr=>r=m) w J):ah J g e cs:=h.ac a (λhe=>uW h hm he)
def Em{g m:Nat}{k:n9}{d:List (x1×x1)}(h:ay k e w g v l)(hm:c5 w m d)(a:ai (λr=>r=m) w J):ay k e J g v l:=bw h a (λ_ f he=>D4 h hm f he)
def ve(cs:Λ)(o:Int):Prop:=o∈cs/\∀d∈cs,cs.count d<cs.count o\/(cs.count d=cs.count o/\o<=d)
def Pm{i:Nat}{x:Int}(h:l[i]?=σ x)(y:Int):(l.take (i+1)).count y=(l.take i).count y+if y=x then 1 else 0:=by
 rw[u9,h,List.count_append];congr 1;simp only[j4,List.count_singleton];by_cases a:y=x
 .subst a;simp
 .rw[if_neg a,if_neg (by simpa using λh=>a h.symm)]
def gW(p:Int×Int):x1×x1:=(Δ p.1,Δ p.2)
def sk:Keys x7 av λv=>∃n,v=Δ n:=Keys.int av.u
def sm(E:List (Int×Int)):∀p∈E.map gW,∃n,p.1=Δ n:=λp a=>by
 obtain⟨q,_,rfl⟩:=c7.1 a;exact⟨_,F⟩
def yd(cs:Λ)(E:List (Int×Int)):Prop:=(∀x,x∈E.map (·.1)↔x∈cs)/\∀p∈E,p.2=(cs.count p.1:Nat)
def En{cs:Λ}{E:List (Int×Int)}(h:yd cs E){x:Int}(U:x∈cs):∃j:Nat,E[j]?=σ (x,((cs.count x:Nat):Int)):=by
 obtain⟨p,a,rfl⟩:=c7.1 ((h.1 x).2 U);obtain⟨j,e⟩:=W3.1 a;exact⟨j,by rw[e,<-h.2 p a]⟩
def Eo{cR:x1}{cs:Λ}(h:aK .i64 w cR cs)(au:cs≠[])(bh:cs.length<=1000000):an x7 tL [cR] w λv J=>Ext w J/\∃o,v=Δ o/\ve cs o:=by
 refine aA func256 ?_;refine aF.cv (uE λm aa hm V aN bi=>?_);rw[aX az.u (h.ext V)];refine cq.range cs.length (λi ab=>ai (λr=>r=m) aa ab/\∃E,c5 ab m (E.map gW)/\yd (cs.take i) E) Ω ⟨ai.refl _ _,[],aN,by simp[yd]⟩ ?_ ?_
 .rintro i ab aO hi ⟨G,E,A,f⟩ aw;obtain⟨x,W⟩:=aI (l:=cs) hi;have H:Ext w ab:=V.put G Ω;have aQ:∀y,(cs.take i).count y<=1000000:=λy=>by
   have:=List.count_le_length (a:=y) (l:=cs.take i);rw[j6]at this;omega
  refine bB Ω ?_;rw[be az.u av.i Ψ (h.ext H) W];have O:=Pm W;have ax:∀y,y∈cs.take (i+1)↔y∈cs.take i\/y=x:=λy=>by
   rw[u9,W];simp
  by_cases I:x∈cs.take i
  .obtain⟨j,X⟩:=En f I;have P:(E.map gW)[j]?=σ (Δ x,Δ (((cs.take i).count x:Nat):Int)):=by rw[x8,X];rfl
   rw[rY ne.u sk A (sm E) ⟨_,F⟩ P];simp only[Bool.false_eq_true,if_false];have:=aQ x;rw[aM,wrap_i64 Ω Ω];refine aF.cv (rZ ne.u sk A (sm E) ⟨_,F⟩ (λQ v0 Y Z L ac aR=>?_) (λY R=>absurd F (R _ (x5 P))));have aS:=A.uniq Z P F;subst aS;rw[aM];have ae:(E.map gW).set Q (Δ x,Δ ((((cs.take i).count x:Nat):Int)+1))=(E.set Q (x,(((cs.take i).count x:Nat):Int)+1)).map gW:=by rw[T0];rfl
   rw[ae]at L;have aT:=(x4.1 X).1;refine aw _ ⟨G.trans ac,_,L,λy=>?_,λp e=>?_⟩
   .rw[T0,rR (by rw[x8,X];rfl),f.1,ax];exact⟨.inl,λh=>h.elim id (λh=>h▸I)⟩
   .obtain⟨q,s⟩:=W3.1 e;by_cases af:Q=q
    .subst af;rw[b8 aT]at s;cases s;show _=(((cs.take (i+1)).count x:Nat):Int);rw[O,if_pos F];omega
    .rw[Y6 af]at s;have ag:p.1≠x:=λhe=>af (A.uniq P (show(E.map gW)[q]?=σ (gW p) by rw[x8,s];rfl) (by rw[gW,he]));rw[f.2 p (x5 s),O,if_neg ag,Nat.add_zero]
  .have R:∀p∈E.map gW,p.1≠U3 .i64 x:=λp e he=>by
    obtain⟨q,s,rfl⟩:=c7.1 e;have:q.1=x:=by simpa[gW]using he
    exact I ((f.1 x).1 (c7.2 ⟨q,s,this⟩))
   rw[uF ne.u sk ⟨_,_,aj.i⟩ A (sm E) ⟨_,F⟩ R];simp only[Bool.false_eq_true,if_false];rw[aM,wrap_i64 Ω Ω];refine aF.cv (rZ ne.u sk A (sm E) ⟨_,F⟩ (λQ v0 Y Z=>absurd F (R _ (x5 Z))) (λY _ L ac aR=>?_));rw[aM];have ae:E.map gW++[(U3 .i64 x,U3 .i64 (0+1))]=(E++[(x,1)]).map gW:=by rw[Z9];rfl
   rw[ae]at L;have aU:(cs.take i).count x=0:=List.count_eq_zero.2 I;refine aw _ ⟨G.trans ac,_,L,λy=>?_,λp e=>?_⟩
   .rw[Z9,p9,f.1,ax];simp
   .rcases p9.1 e with e|e
    .have ag:=λhe=>I ((f.1 x).1 (c7.2 ⟨p,e,he⟩));rw[f.2 p e,O,if_neg ag,Nat.add_zero]
    .rw[j5.1 e];show(1:Int)=(((cs.take (i+1)).count x:Nat):Int);rw[O,if_pos F,aU];rfl
 rintro ab aO ⟨G,E,A,f⟩;rw[o9]at f;have H:=V.put G Ω;refine ca Ω ?_;refine(Mx (h.ext H) au).mono ?_;rintro _ aW bj ⟨rfl,ah⟩;have bk:=H.size;have bl:=ah.size;refine aF.cv (C3 ne.u (A.ext ah) λM bm bn aY bo aZ bp=>?_);refine⟨λvf C=>∃b B z left ay,vf=Δ b/\b∈cs/\Ext aW C/\iP C M m (E.map gW) left ay/\left=z.map gW/\(B++z).Perm E/\∀p∈B,cs.count p.1<cs.count b\/(cs.count p.1=cs.count b/\b<=p.1),λ_ C=>qC C M,
  ⟨xn cs,[],E,E.map gW,ν,F,(Ma au).1,aY,aZ,F,List.Perm.refl _,λp e=>by cases e⟩,?_⟩
 rintro _ C ⟨b,B,z,left,ay,rfl,ak,al,aC,rfl,S,ao⟩;refine C5 aC (λ_=>by show w.heap.size<=M;omega) (λa1=>?_) (λj p ap e aD bq N=>?_)
 .rw[j2 (v:=.bool false) F,a8];have:z=[]:=List.map_eq_nil_iff.1 a1;subst this;rw[Y8]at S;refine⟨(H.trans ah).trans al,b,F,ak,λd a2=>?_⟩;obtain⟨q,s,rfl⟩:=c7.1 ((f.1 d).2 a2);exact ao q (S.mem_iff.2 s)
 .rw[j2 (v:=.bool true) F,bX];refine C6 N ?_;obtain⟨q,s,rfl⟩:∃q,z[j]?=σ q/\gW q=p:=by
   rw[x8]at e;exact X7.1 e
  have aE:=S.mem_iff.1 (p9.2 (.inr (x5 s)));have br:=f.2 q aE;have a6:=(f.1 q.1).1 (c7.2 ⟨q,aE,F⟩);obtain⟨a7,ba⟩:=En f ak;have bb:(E.map gW)[a7]?=σ (Δ b,Δ ((cs.count b:Nat):Int)):=by rw[x8,ba];rfl
  rw[j2 (v:=Δ q.1) F,j2 (v:=Δ q.2) F];have aG:(B++[q]++z.eraseIdx j).Perm E:=by
   refine List.Perm.trans ?_ S;rw[X6];exact List.Perm.append_left B (xD s)
  have aH:qC ap M<qC C M:=by
   rw[uJ N,uJ aC];have:=Dj (x4.1 e).1;omega
  refine aV (λv bc=>ap=bc/\∃r:Bool,v= .bool r/\(r=true↔(cs.count b<cs.count q.1\/(cs.count q.1=cs.count b/\q.1<b)))) ?_ ?_
  .rintro _ _ ⟨rfl,r,rfl,U⟩;rw[cd];refine⟨λbd=>?_,λaJ=>?_⟩
   .have U:=U.1 bd;refine⟨⟨q.1,B++[q],z.eraseIdx j,_,_,F,a6,al.trans aD,N,(oe gW z j),aG,λp e=>?_⟩,aH⟩;rcases p9.1 e with e|e
    .have:=ao p e;omega
    .rw[j5.1 e];exact .inr ⟨F,Int.le_refl _⟩
   .have U:¬(cs.count b<cs.count q.1\/(cs.count q.1=cs.count b/\q.1<b)):=λh=>by rw[U.2 h]at aJ;cases aJ
    refine⟨⟨b,B++[q],z.eraseIdx j,_,_,F,ak,al.trans aD,N,(oe gW z j),aG,λp e=>?_⟩,aH⟩;rcases p9.1 e with e|e
    .exact ao p e
    .rw[j5.1 e];omega
  .intro aB aq;have aL:∀K:x1->Prop,ad x7 (Instr.lookup ne (.map (σ m)) (Δ b) false) ap K=K (Δ ((cs.count b:Nat):Int)):=λK=>by
    rw[rY ne.u sk N.map (sm E) ⟨_,F⟩ bb];simp
   rw[aL,bL,am];refine⟨λh1=>aq _ _ ⟨F,true,F,⟨λ_=>.inl Ω,λ_=>rfl⟩⟩,λh1=>?_⟩;rw[aL,bf,am];refine⟨λbg=>?_,λbg=>aq _ _ ⟨F,false,F,⟨λh=>(by cases h),λh=>Ω⟩⟩⟩;rw[aP];refine aq _ _ ⟨F,_,F,?_⟩;rw[decide_eq_true_eq];omega
def Pn{g p:Nat}{k:n9}{q:p8}(h:ay k e w g v l)(s:ah w p q cs)(y:e≠q)(x:leads v r):r≠p:=by
 obtain⟨rfl,_⟩:=bR h x;obtain⟨_,⟨rfl,_⟩|⟨_,_,_,f,_⟩⟩:=h
 .obtain⟨a,n,c,h,_⟩:=x;cases h
 .rintro rfl;unfold ah at s f;rw[s]at f;injection f with h1;injection h1 with A z;exact y z.symm
def Po(w:x3)(al:Λ)(k:Int)(cs:Λ)(v:x1)(J:x3):Prop:=Ext w J/\∃g m o D,v=Γ g/\eM J g m al k o D/\D.length<=(aR al).toNat/\jK al (jH D o) cs/\ve cs o
def Pp{g bN:Nat}{cs:Λ}(h:di w g bN sv al k cs)(aE:∀c∈cs,ct c k):an x7 JS [Γ g] w (Po w al k cs):=by
 obtain⟨⟨bb,gs,a7,hm,cj⟩,⟨_,_,ba⟩,V,ak⟩:=id h;have ck:=prod_bound V;have cl:=V.1;have bc:cs≠[]:=λhe=>by rw[he]at ak;simp at ak;omega
 refine iG func204 ?_;rw[dh e7.u];simp only[Y0,a8];refine(od h).mono ?_;rintro cR ab _ ⟨N,cm,cn,aG⟩;refine bu az.i λam cp cq bd bf=>?_;have cr:=bf.lt;refine bp az.i aG.ls.cells.1 aG.ls.cells.2 bf (by simp[x1.cells]) λao bO cu ap=>?_;have ap:ah ao am az [cR]:=ap;have cw:=N.size;have cz:=bd.size;have bg:Ext ab ao:=bd.put bO Ω;have bh:=aG.ext bg;have X:=N.trans bg;refine aV (λu aq=>∃a E m o I K,u=Γ a/\Ext ao aq/\ah aq a eT [Γ E]/\ao.heap.size<=m/\gk aq E m I K al k o []/\ve cs o) ?_ ?_
 .rintro _ aq ⟨a,E,m,o,I,K,rfl,Y,e,cA,A,C⟩;have bP:=h.ext (X.trans Y);have bQ:=ap.ext Y;have bR:=bh.ext Y;refine(qx bP).mono ?_;rintro _ cB _ ⟨rfl,bS⟩;refine xy.mono ?_;rintro _ aH _ ⟨bT,bi,rfl,cC,bj⟩;have O:=bS.trans bT;have bk:=A.ext O;have bU:=bQ.ext O;have bl:=e.ext O;have bV:=bR.ext O;have bm:=hm.ext ((X.trans Y).trans O);have P:=bk.2.2.1;have bW:=(X.trans Y).trans O;have cE:=X.size;have bX:=xx (g:=bi) (B0:=aH.heap.size) (sv:=sv) V;refine p2.old ⟨Nat,false,m9,#[Γ bi],_,_,_,_,λi J=>ai (λr=>r=m) aH J/\∃D,D.length<=i/\gk J E m I K al k o D/\∀(j:Nat)t,(bn al)[j]?=σ t->jH D o t=if j<i then bo al cs t else o,λ_ _ _=>False,F,bX.s,
   ?_,λ_ _ U h=>⟨h.1.ext U,h.2.1.ext U,X3 h.2.2 U.size⟩,λ_ _ _ U ⟨h1,D,bY,bZ,ba⟩=>⟨h1.trans (U.ac _),D,bY,bZ.ext U,ba⟩,λ_ _ _ _ _ h=>h,⟨bj,bm.ls,o4 _⟩,⟨ai.refl _ _,[],o4 _,bk,λj t _=>by rw[if_neg Ω];rfl⟩,?_,?_,λ_ _ h=>h.elim,λ_ _ _ h=>h.elim⟩
  .rintro _ _ _ _ ⟨_,_,_,_,rfl,_⟩;rfl
  .rintro _ aN i _ b0 ⟨cF,cG,b1⟩ ⟨hi,rfl,cH,gt,b2,cI,y⟩ ⟨au,D,bs,aI,aJ⟩;cases b2;have aL:(bn al)[i]?=σ (dk al (i:Int)):=rM V.2 Ω;have b3:=xo V.2 hi;generalize dk al (i:Int)=t at*;have bt:=N6 V.2 ak aL;intro b4 aw _ _;intro b5 b6 _ _;have ay:=aw.trans b6;have aA:ai (λr=>r=m) aH b5:=au.trans (ay.ac _);rw[ax Ψ ((vd bl P aA).cell F),ax Ψ ((vd bU P aA).cell F),be az.u av.i Ψ (Em bV P aA).ls bt];have aM:=aI.ext ay;refine(Dh aM.is (y.ext ay).ls).mono ?_;rintro _ cJ _ ⟨_,b7⟩;obtain⟨rfl,aO,D',bw,bx⟩:=b7 ⟨b3,aE _ (x5 bt)⟩;have aP:=aA.trans aO;have cK:=bw.2;refine⟨⟨vd bj P aP,(Em bm P aP).ls,X3 b1 (X3 ay.size aO.size)⟩,⟨aP,D',Ω,aM.put aO bx,λj s L=>?_⟩,λh=>by cases h⟩;rw[bw.cost aM.is.nodup bx.nodup];by_cases bz:j=i
   .subst bz;rw[aL]at L;cases L;rw[if_pos F,if_pos Ω]
   .rw[if_neg (λ(he:s=t)=>bz (Pk V.2 (by rw[<-he];exact L) aL)),aJ j s L];by_cases h1:j<i
    .rw[if_pos h1,if_pos Ω]
    .rw[if_neg h1,if_neg Ω]
  .rintro i b0 rfl ⟨au,D,bs,aI,aJ⟩;rw[ax Ψ ((vd bl P au).cell F)];intro b4 aw _;refine⟨(bW.put au Ω).trans aw,E,m,o,D,F,aI.is.ext aw,bs,⟨ak,λt b8=>?_⟩,C⟩;obtain⟨j,L⟩:=Pl V.2 b8;have:=(x4.1 L).1;rw[jC V.2]at this;rw[aJ j t L,if_pos this]
 intro aB bA;intro z Z _ _;have aQ:=X.trans Z;have bB:=Z;have aC:=h.ext aQ;have bC:=bh.ext Z;have cL:=Z.size;rw[ax Ψ ((ap.ext Z).cell F)];have bD:∀{a:Nat}{J:x3}{aN:x1}{o:Int},Ext z J->z.heap.size<=a->(∃f,ah J a eT [f])->aK .i64 J aN al->ve cs o->
   an x7 p7 [aN,Δ k,Δ o] J λB q=>ad x7 (Y4 B 0) q λM=>ad x7 (Y4 B 1) q λ_=>aF x7 (l9 eT (Γ a) M) q λ(_:Unit)G=>aB (Γ a) G:=by
  rintro a J aN o x p ⟨f,e⟩ y C;refine(Db y).mono ?_;rintro _ q _ ⟨aR,_,_,aS⟩;obtain⟨E,m,rfl,b9,ca,A⟩:=aS V (aE _ C.1);obtain⟨I,K,A⟩:=A.at;rw[bq,br];have cb:=e.lt;have s':=x.size;refine bp eT.i F rfl (e.ext aR) Ξ λG bE cM cc=>?_;refine bA _ _ ⟨a,E,m,o,I,K,F,((bB.trans x).trans aR).put bE Ω,cc,Ω,A.ac bE (λhe=>by have he:=he;omega) (λhe=>by have he:=he;omega) (λr aT he=>?_),C⟩;exact Pn A.2.1 (e.ext aR) Φ aT he
 have bF:∀{a:Nat}{J:x3}{aN:x1},Ext z J->z.heap.size<=a->(∃f,ah J a eT [f])->aK .i64 J aN al->
   an x7 tL [cR] J λae ab=>an x7 p7 [aN,Δ k,ae] ab λB q=>ad x7 (Y4 B 0) q λM=>ad x7 (Y4 B 1) q λ_=>aF x7 (l9 eT (Γ a) M) q λ(_:Unit)G=>aB (Γ a) G:=by
  rintro a J aN x p ⟨f,e⟩ y;refine(Eo (bC.ext x).ls bc Ω).mono ?_;rintro _ ab _ ⟨N,o,rfl,C⟩;exact bD (x.trans N) p ⟨f,e.ext N⟩ (y.ext N) C
 have bG:∀{a:Nat}{J:x3}{aN:x1},Ext z J->z.heap.size<=a->(∃f,ah J a eT [f])->aK .i64 J aN al->
   an x7 wT [Γ g] J λaU aa=>(Ext z aa\/cD x7 (u5 az (Γ am)) cR aa/\True)/\
    an x7 tL [cR] aa λae ab=>an x7 p7 [aN,aU,ae] ab λB q=>ad x7 (Y4 B 0) q λM=>ad x7 (Y4 B 1) q λ_=>aF x7 (l9 eT (Γ a) M) q λ(_:Unit)G=>aB (Γ a) G:=by
  rintro a J aN x p ⟨f,e⟩ y;refine(C0 (aC.ext x)).mono ?_;rintro _ aa _ ⟨rfl,H⟩;exact⟨.inl (x.trans H),bF (x.trans H) p ⟨f,e.ext H⟩ (y.ext H)⟩
 have bH:al.length<=1000:=Ω
 have bI:∀{a:Nat}{J:x3},Ext z J->z.heap.size<=a->(∃f,ah J a eT [f])->
   an x7 Bl [.agg #[sv]] J λcd w0=>(Ext z w0\/cD x7 (u5 az (Γ am)) cR w0/\True)/\
    an x7 wT [Γ g] w0 λaU aa=>(Ext z aa\/cD x7 (u5 az (Γ am)) cR aa/\True)/\
    an x7 tL [cR] aa λae ab=>an x7 p7 [cd,aU,ae] ab λB q=>ad x7 (Y4 B 0) q λM=>ad x7 (Y4 B 1) q λ_=>aF x7 (l9 eT (Γ a) M) q λ(_:Unit)G=>aB (Γ a) G:=by
  rintro a J x p ⟨f,e⟩;refine(C1 (hm.ext (aQ.trans x)).ls bH).mono ?_;rintro aN aa _ ⟨H,_,_,y⟩;exact⟨.inl (x.trans H),bG (x.trans H) p ⟨f,e.ext H⟩ y.ls⟩
 have af:∀{J:x3}{R:x1->x3->Prop},Ext z J->(∀a ag,z.heap.size<=a->Ext J ag->(∃f,ah ag a eT [f])->R (Γ a) ag)->aF x7 (Q6 eT true (.tuple #[])) J R:=λ{J}{R}x ce=>by
  have:=x.size;exact bu eT.i λa ag p cf a7=>ce a ag Ω cf ⟨_,a7⟩
 refine⟨?_,af (Ext.refl _) λa cN p aD e=>⟨.inl aD,?_⟩⟩
 rotate_left
 .refine (qx (aC.ext aD)).mono ?_;rintro _ cO _ ⟨rfl,aW⟩;obtain⟨f,e⟩:=e;exact⟨.inl (aD.trans aW),bI (aD.trans aW) p ⟨f,e.ext aW⟩⟩
 refine(qx aC).mono ?_;rintro _ cP _ ⟨rfl,Q⟩;refine⟨.inl Q,?_,af Q λa cQ p bJ e=>⟨.inl (Q.trans bJ),bI (Q.trans bJ) p e⟩⟩;refine(C1 (hm.ext (aQ.trans Q)).ls bH).mono ?_;rintro aN cS _ ⟨cg,_,_,y⟩;have S:=Q.trans cg;refine⟨.inl S,?_,af S λa cT p aX e=>⟨.inl (S.trans aX),bG (S.trans aX) p e (y.ext aX).ls⟩⟩;refine(C0 (aC.ext S)).mono ?_;rintro _ cU _ ⟨rfl,aY⟩;have W:=S.trans aY;refine⟨.inl W,?_,af W λa cV p aZ e=>⟨.inl (W.trans aZ),bF (W.trans aZ) p e ((y.ext aY).ext aZ).ls⟩⟩;refine(Eo (bC.ext W).ls bc Ω).mono ?_;rintro _ cW _ ⟨bK,o,rfl,C⟩;have aj:=W.trans bK;have bL:=(y.ext aY).ext bK;refine⟨?_,af aj λa cX p a1 e=>⟨.inl (aj.trans a1),bD (aj.trans a1) p e (bL.ext a1).ls C⟩⟩;refine(Db bL.ls).mono ?_;rintro _ cY _ ⟨ch,_,_,aS⟩;obtain⟨E,m,rfl,b9,ca,A⟩:=aS V (aE _ C.1);obtain⟨I,K,A⟩:=A.at;rw[bq,br];have a2:=aj.trans ch;refine bu eT.i λa cZ p a6 e=>?_;refine⟨.inl (a2.trans a6),?_⟩;have cb:=e.lt;obtain⟨c0,c1,t3⟩:=A.rW;have c2:=aj.size;have c3:=a2.size;refine bp eT.i F rfl e (by simp[x1.cells]) λc4 bM c5 ci=>?_;exact bA _ _ ⟨a,E,m,o,I,K,F,((bB.trans a2).trans a6).put bM Ω,ci,Ω,(A.ext a6).ac bM (λhe=>by have he:=he;omega) (λhe=>by have he:=he;omega) (λr aT he=>by have he:r=a:=he;have:=t3 r aT;omega),C⟩
def Ep{acc:List cK}{g:cK}(h:∀x∈acc,x.1≠g.1):jG k acc g=acc++[g]:=by
 unfold jG;rw[if_neg];intro hm;obtain⟨x,U,he⟩:=c7.1 hm;exact h x U he
def Pq{acc:List cK}{g h:cK}{i:Nat}(e:kb acc)(hi:acc[i]?=σ h)(he:h.1=g.1):jG k acc g=acc.set i (h.1,ej k h.2 g.2):=by
 have f:=(x4.1 hi).1;unfold jG;rw[if_pos (c7.2 ⟨h,x5 hi,he⟩)];refine Y9 λj=>?_;rw[x8,X4];by_cases a:i=j
 .subst a;rw[hi,Y1,if_pos he,if_pos F,if_pos f]
 .rw[if_neg a];cases p:acc[j]? with
  |none=>rfl
  |some y=>
   have:y.1≠g.1:=λq=>a (by
    have h1:(acc.map (·.1))[i]?=σ g.1:=by rw[x8,hi,Y1,he]
    have r:(acc.map (·.1))[j]?=σ g.1:=by rw[x8,p,Y1,q]
    exact lW e h1 r)
   rw[Y1,if_neg this]
def Pr{α β:Type}{f:β->α->β}{b:β}{l:List α}{i:Nat}{x:α}(h:l[i]?=σ x):(l.take (i+1)).foldl f b=f ((l.take i).foldl f b) x:=by
 rw[u9,h,j4,R3];rfl
def oh(w:x3)(k:Int)(sizes:Λ)(x:cu):Prop:=(∃a,ay .i64 aj w a x.sv x.sc)/\∃m o D,eM w x.g m (b2 sizes x.sc) k o D/\D.length<=4096/\jK (b2 sizes x.sc) (jH D o) x.cs
def oh.ext{x:cu}(h:oh w k sizes x)(U:Ext w J):oh J k sizes x:=by
 obtain⟨⟨a,h1⟩,m,o,D,e,f⟩:=h;exact⟨⟨a,h1.ext U⟩,m,o,D,e.ext U,f⟩
def oh.ac{x:cu}(h:oh w k sizes x)(U:ai S w J)(p:∀r,S r->∃e c,ah w r e c/\e≠fL/\e≠aj):oh J k sizes x:=by
 obtain⟨⟨z,h1⟩,m,o,D,A,B⟩:=h;obtain⟨sv,gs,f⟩:=A.at;have s:∀{g:Nat}{v:x1}{l:Λ},ay .i64 aj w g v l->∀r,leads v r->¬S r:=λhm r C V=>by
  obtain⟨e,c,a,_,q⟩:=p r V;exact cc hm a (λhe=>q he.symm) C F
 refine⟨⟨z,bw h1 U (s h1)⟩,m,o,D,(f.ac U (λV=>?_) (λV=>?_) (s f.2.1)).is,B⟩
 .obtain⟨e,c,a,q,_⟩:=p _ V;have y:=f.1;unfold ah at y a;rw[y]at a;exact q (Obj.cells.inj (Z3 a)).2.1.symm
 .obtain⟨e,c,a,_,_⟩:=p _ V;exact uW a f.2.2.1 F
def sn(w:x3)(g:Nat)(v:x1)(k:Int)(sizes:Λ)(L:List cu):Prop:=bm eY 2 cH w g v L/\∀x∈L,oh w k sizes x
def sn.ext{g:Nat}{L:List cu}(h:sn w g v k sizes L)(U:Ext w J):sn J g v k sizes L:=⟨h.1.ext U,λx a=>(h.2 x a).ext U⟩
def Ps(w:x3)(B a:Nat)(f:b3):Prop:=∃szv e gz g L,ah w a cE [bW f.name,Δ f.k,szv,e]/\ay .i64 aj w gz szv f.sizes/\sn w g e f.k f.sizes L/\L.map dX=fs f/\B<=a/\(∀r,leads szv r->B<=r)/\∀x∈L,∀r,leads x.sv r->B<=r
def Pt{g bs:Nat}{L:List cu}{q:Λ}(h:fc w g v L)(B:ah w bs ao [sv])(V:aK .i64 w sv q):
  an x7 Bc [v,.func (.func Bd) #[] #[Γ bs]] w λr J=>Ext w J/\((r=Δ (-1)/\∀x∈L,x.sc≠q)\/∃i:Nat,r=Δ (i:Int)/\∃x,L[i]?=σ x/\x.sc=q):=by
 refine aA func193 ?_;rw[et gA.u h.1];refine bV.range L.length (λi _ aa=>Ext w aa/\∀x∈L.take i,x.sc≠q) h.1.le ⟨Ext.refl _,λc a=>by simp at a⟩ ?_ ?_
 .rintro i _ aa k hi ⟨U,s⟩ hk;refine bB Ω ?_;obtain⟨x,y⟩:=aI (l:=L) hi;rw[va F (h.ext U) y];show an x7 Bd [kd x,Γ bs] aa _;obtain⟨⟨E,hm⟩,_⟩:=(h.ext U).at y;refine aA func194 ?_;refine bh λap ab G f z=>?_;have z:ah ab ap cW [x.sv,Γ x.g]:=by
   obtain⟨_,_,_,e⟩:=c6 hm.ls;simp only[kd,eY,e]at z ⊢;exact z
  rw[aL cW.p 0 z F,ax Ψ ((B.ext (U.trans f)).Qz F)];refine(K9 (hm.ls.ext f) (V.ext (U.trans f))).mono ?_;rintro _ H _ ⟨rfl,A⟩;rw[am];refine⟨λhe=>⟨(U.trans f).trans A,.inr ⟨i,F,x,y,he⟩⟩,λC=>?_⟩;rw[aM];refine hk _ _ ⟨(U.trans f).trans A,λc a=>?_⟩;rw[u9,y]at a;rcases p9.1 a with a|a
  .exact s c a
  .simp at a;subst a;exact C
 .rintro _ aa k ⟨U,s⟩;rw[o9]at s;rw[aP,am];exact⟨λh=>Ω,λ_=>⟨U,.inl ⟨F,s⟩⟩⟩
def eN(f:b3)(i:Nat):List cK:=((f.funs.take i).map (jk f.sizes f.k)).foldl (jG f.k) []
def Er{f:b3}(af:e9 N f)(i:Nat):(∀g∈eN f i,gV f.sizes f.k g)/\kb (eN f i)/\(eN f i).length<=i:=by
 have:=xR (sizes:=f.sizes) (k:=f.k) (by have:=af.k.1;omega) (l:=(f.funs.take i).map (jk f.sizes f.k)) (acc:=[]) (λh aC=>by cases aC) List.nodup_nil λg e=>by
  obtain⟨x,U,rfl⟩:=c7.1 e;exact qH af (S4 U)
 refine⟨this.1,this.2.1,?_⟩;have a:=this.2.2;rw[List.length_nil,r9,W0,j6]at a;exact X3 a (Nat.min_le_left _ _)
def ye{f:b3}{i:Nat}{x:cj}(h:f.funs[i]?=σ x):eN f (i+1)=jG f.k (eN f i) (jk f.sizes f.k x):=by
 unfold eN;rw[u9,h,j4,Z9,R3];rfl
def Es(f:b3):eN f f.funs.length=fq f:=by unfold eN fq;rw[o9]
def yf{L:List cu}{i:Nat}{x:cu}{D:List cK}(h:L.map dX=D)(U:L[i]?=σ x):dX x∈D:=by rw[<-h];exact c7.2 ⟨x,x5 U,F⟩
def Pu(w:x3)(f:b3)(v:x1)(J:x3):Prop:=Ext w J/\((¬kc f.funs<=16384/\∃e:Int,e≠0/\v= .tuple #[.pointer ν,Δ e])\/∃a,v= .tuple #[Γ a,Δ 0]/\Ps J w.heap.size a f)
def vg{g a:Nat}{sc cs:Λ}(hm:ay .i64 aj w g sv sc):∀u∈eY ⟨sv,a,sc,cs⟩,u.oneCell'=true:=λu hu=>by
 simp[eY]at hu;rcases hu with rfl|rfl
 .exact hm.ls.cells.2
 .rfl
def Pv{bL:Nat}{f:b3}(bM:mC w bL f)(E:e9 N f)(bO:N<=60000)(cZ:f.name≠[]/\∀b∈f.name,bQ b=true):
  an x7 IX [Γ bL] w (Pu w f):=by
 have hk:=E.k;refine aA func120 ?_;refine(OR bM E bO cZ).mono ?_;rintro _ aa _ ⟨aH,e,rfl,he⟩;rw[bA,am];refine⟨λbP=>⟨aH,.inl ⟨λh=>bP (he h),e,bP,F⟩⟩,λeo=>?_⟩;have bS:=bM.ext aH;obtain⟨szv,aJ,gz,bb,bT,c0,bc,aK⟩:=id bS;have ep:bb.length<=256:=by rw[aK.1];exact E.mv
 rw[aT cE.p 3 bT F,jh dH.u bc];refine bV.range bb.length (λi l ab=>∃g L,Ext aa ab/\fc ab g l L/\Sem ab f.k f.sizes L/\L.map dX=eN f i/\(∀r,leadsTo l r->aa.heap.size<=r)/\∀x∈L,∀r,leads x.sv r->aa.heap.size<=r) (rC bc)
  ⟨0,[],Ext.refl _,⟨bm.nil _ _ _ _ _,λx U=>(by cases U)⟩,λx U=>(by cases U),F,λr A=>(eW A).elim,λx U=>(by cases U)⟩ ?_ ?_
 .rintro i l ab c1 hi ⟨g,L,V,aw,aN,G,K,az⟩ c2;obtain⟨d,bU⟩:=aI (l:=bb) hi;obtain⟨x,aO⟩:∃x,f.funs[i]?=σ x:=⟨_,x6 (by have:=aK.1;omega)⟩;have bX:=x5 aO;have c3:=aK.2 i x d aO bU;have W:=qH E bX;obtain⟨c4,c5,er⟩:=Er E i;have c9:L.length<=i:=by have bY:=congrArg R2 G;rw[r9]at bY;omega
  refine bB Ω ?_;refine aV (λfI aP=>∃O X,Ext aa aP/\fc aP O fI X/\Sem aP f.k f.sizes X/\X.map dX=eN f (i+1)/\(∀r,leadsTo fI r->aa.heap.size<=r)/\∀x∈X,∀r,leads x.sv r->aa.heap.size<=r) ?_ ?_
  .rintro fI aP ⟨O,X,h1,da,db,dc,dd⟩;rw[aM];exact c2 _ _ ⟨O,X,h1,da,db,dc,dd⟩
  intro aB b0;refine nl (α:=io) cH.p F dH.u cH.i (bE bc V) bU λcs bd=>?_;have b1:cs.length=2:=au.len bd;refine bu cH.i λap es eu de df=>?_;refine b7 (vs:=cs) cH.i b1 F (au.one bd) df λdg dh ev dj=>?_;have I:Ext ab dg:=de.put dh Ω;rw[bN cH.p cH.i b1 dj.range];refine(O1 E bO bX c3 (bE bd I)).mono ?_;rintro _ dk _ ⟨dl,sv,gs,b4,dm,dn,rfl,ew,Y,b5⟩;rw[bq,br];refine bu ao.i λbs ey ez dq dr=>?_;refine bp ao.i Y.ls.cells.1 Y.ls.cells.2 dr (by simp[x1.cells]) λb6 ds eA aQ=>?_;have be:Ext dk b6:=dq.put ds Ω;have aQ:ah b6 bs ao [sv]:=aQ;rw[jB];have bf:=(I.trans dl).trans be;have eB:=bf.size;have eC:=V.size;refine(Pt (aw.ext bf) aQ (Y.ls.ext be)).mono ?_;rintro _ eD _ ⟨aS,A⟩;have aU:=bf.trans aS;have b8:=be.trans aS;have bg:=Y.ext b8;have b9:=b5.ext b8;have cd:=aQ.ext aS;have ce:=aw.ext aU;have bi:=aN.ext aU;rcases A with⟨rfl,dt⟩|⟨cf,rfl,y,B,aX⟩
  .refine bB Ω ?_;rw[ax Ψ (cd.Qz F),cJ (cs:=#[sv,Γ b4]) (by obtain⟨_,_,_,rfl⟩:=c6 Y.ls;kernel_rfl)];let a:cu:=⟨sv,b4,bx x.scope,(jk f.sizes f.k x).2⟩;have bj:∀u∈eY a,u.oneCell'=true:=vg bg;refine im (f:=eY) (a:=a) gA.u cW.i Ω F rfl λeE eF du eH Z dv=>?_;have ad:=ce.ext Z;refine jo (f:=eY) (a:=a) gA.u cW.i F ad.1 (by simpa using dv.sl) bj Ω Ω λaC O eI aD bk aE=>?_;have cg:=bg.ext Z;have aY:∀{r:Nat},leadsTo l r->∃c,ah du r cW c:=λA=>by
    obtain⟨rfl,c,C⟩:=dM ad.1 A;exact⟨c,C⟩
   refine b0 _ _ ⟨O,L++[a],((V.trans aU).trans Z).then aE (λr A he=>by have:=K r he;omega),fc.mk aD λz s=>?_,λz s=>?_,?_,λr A=>?_,λz s r A=>?_⟩
   .rcases p9.1 s with s|s
    .have:=(ad.2 z s).ac aE λr A he=>(ad.2 z s).2.1 r A (ad.1.leads he).1;exact⟨this.1,this.2.2⟩
    .rw[j5.1 s];exact⟨⟨gs,bw cg aE λr A he=>by obtain⟨c,C⟩:=aY he;exact cc cg C Φ A F⟩,W.scope⟩
   .rcases p9.1 s with s|s
    .exact (bi.ext Z).row ad aE z s
    .rw[j5.1 s];exact⟨dm,dn,x2 (b9.ext Z) aE λr A=>aY A⟩
   .rw[Z9,G,ye aO,Ep]
    .rfl
    .intro c H dw;rw[<-G]at H;obtain⟨z,s,rfl⟩:=c7.1 H;exact dt z s dw
   .rcases bk r A with h|h
    .exact K r h
    .have:=Z.size;have:=aS.size;omega
   .rcases p9.1 s with s|s
    .exact az z s r A
    .rw[j5.1 s]at A;have bY:=(bR Y A).1;have:=I.size;omega
  .refine ca Ω ?_;intro eJ P _ _;have bl:=ce.ext P;have ch:=(x4.1 B).1;obtain⟨dx,dy,aZ⟩:=(bi.ext P) y (x5 B);have ci:=cd.ext P;have cj:=bg.ext P;have dz:=b9.ext P;rw[dp F gA.u cW.i bl.1 ch,aW cW.p F,ax Ψ (bl.1.range B 1 _ F),ax Ψ (ci.Qz F),ax Ψ (ci.Qz F)];have af:gV f.sizes f.k (dX y):=c4 _ (yf G B);rw[aX]at aZ;have ck:∀{c:Int},0<=c/\c<=f.k->ct c f.k:=λh=>⟨hk,h.1,h.2⟩;refine(Pc aZ dz cj.ls cj.ls hk (λc H=>ck (af.jp c H)) (λc H=>ck (W.jp c H))).mono ?_;intro eK cl _ dA;have dC:y.cs.length=(aR (b2 f.sizes (bx x.scope))).toNat:=by have:=af.len;rw[show(dX y).1=y.sc from F,aX]at this;exact this
   have dD:cb (b2 f.sizes (bx x.scope)):=b5.2.2.1;obtain⟨bn,cm,cn,cp,eL,rfl,dE⟩:=Ph W.up (λv ae=>(W.scope.1 v ae).1) (by simp[b2];rfl) dD W.small dC W.len dA;rw[fN,fO,fP];have Q:=bl.ext bn;rw[dp F gA.u cW.i Q.1 ch,aW cW.p F];let a:cu:=⟨y.sv,cm,y.sc,ej f.k y.cs (jk f.sizes f.k x).2⟩;refine qB (f:=eY) (j:=1) (a:=y) (a':=a) e7.i F rfl Q.1 B F Ω λdF a1 eM dG=>?_;have aY:∀{r:Nat},leadsTo l r->∃c,ah cl r cW c:=λA=>by
    obtain⟨rfl,c,C⟩:=dM Q.1 A;exact⟨c,C⟩
   refine b0 _ _ ⟨g,L.set cf a,((V.trans aU).trans (P.trans bn)).then a1 (λr A he=>by have:=K r he;omega),fc.mk dG λz s=>?_,λz s=>?_,?_,K,λz s=>?_⟩
   .have cr:∀z∈L,(∃bo,ay .i64 aj dF bo z.sv z.sc)/\lh z.sc:=λz s=>by
     have:=(Q.2 z s).ac a1 λr A he=>(Q.2 z s).2.1 r A (Q.1.leads he).1;exact⟨this.1,this.2.2⟩
    rcases V4 s with s|rfl
    .exact cr z s
    .exact cr y (x5 B)
   .rcases V4 s with s|rfl
    .exact ((bi.ext P).ext bn).row Q a1 z s
    .refine⟨cn,cp,x2 ?_ a1 λr A=>aY A⟩;show di cl cm cn cp (b2 f.sizes y.sc) f.k _;rw[aX];exact dE
   .rw[T0,G,ye aO,Pq (g:=jk f.sizes f.k x) c5 (i:=cf) (h:=dX y) (by rw[<-G,x8,B];rfl) aX];rfl
   .rcases V4 s with s|rfl
    .exact az z s
    .exact az y (x5 B)
 .rintro l ab c1 ⟨g,L,V,aw,aN,G,K,az⟩;refine ca Ω ?_;rw[aK.1,Es]at G;have c9:L.length<=256:=by
   have:=(lY E).2.2;rw[<-G,r9]at this;have:=E.mv;omega
  refine(O6 aw aN Ω).mono ?_;rintro eO cw _ ⟨cz,cA,dI⟩;have dJ:Ext aa cw:=V.then cz λr A he=>by have:=K r he;omega
  have dK:Sem cw f.k f.sizes (L.filter gm):=λz s=>(aN.row aw cz) z (T2.1 s).1;have eP:(L.filter gm).length<=L.length:=Q2 _ _;refine(OY cA Ω).mono ?_;rintro _ cB _ ⟨cC,M,a2,dL,cD⟩;have dN:Ext aa cB:=dJ.then cC λr A he=>by have:=K r (dI r he);omega
  have cF:Sem cB f.k f.sizes M:=λz s=>(dK.row cA cC) z (a2.mem_iff.1 s);have eQ:M.length<=256:=by rw[a2.length_eq];omega
  have dO:∀x∈M,∀r,leads x.sv r->aa.heap.size<=r:=λx U=>az x (T2.1 (a2.mem_iff.1 U)).1;have cG:M.map dX=fs f:=by
   refine NV E ?_ ?_
   .refine (a2.map dX).trans ?_;rw[<-G,List.filter_map];exact .refl _
   .rw[List.pairwise_map];refine V3.2 λp q dP cI dQ=>?_;exact dL p q _ _ (X8 _) dQ cI (x6 dP) (x6 cI)
  intro eR a6 _ _;have ag:=dN.trans a6;have eS:=bS.ext ag;have bt:=bT.ext ag;rw[aT cE.p 0 bt F,aT cE.p 1 bt F,aT cE.p 2 bt F];refine(lP (c0.ls.ext ag) (by have:=E.sizes.2.1;omega)).mono ?_;rintro aF cK _ ⟨R,dR,eU,bz⟩;refine⟨.inl R,?_⟩;rw[cJ (cs:=#[bW f.name,Δ f.k,aF,.slice ν 0 0]) (by obtain⟨_,_,_,rfl⟩:=c6 bz.ls;kernel_rfl)];refine bh λS dS eV a7 bC=>?_;have bC:ah dS S cE [bW f.name,Δ f.k,aF,.slice ν 0 0]:=bC;have eX:=(ag.trans R).trans a7;have dT:=((cD.ext a6).ext R).ext a7;have eZ:=((cF.ext a6).ext R).ext a7;rw[et gA.u dT.1];refine cq.range M.length (λi ak=>∃aJ gr J,Ext cK ak/\ah ak S cE [bW f.name,Δ f.k,aF,aJ]/\sn ak gr aJ f.k f.sizes J/\J.map dX=(M.take i).map dX/\J.length=i/\(∀r,leadsTo aJ r->cK.heap.size<=r)/\∀x∈J,∀r,leads x.sv r->aa.heap.size<=r) Ω
   ⟨_,0,[],a7,bC,⟨bm.nil _ _ _ _ _,λx U=>(by cases U)⟩,F,F,λr A=>(eW A).elim,λx U=>(by cases U)⟩ ?_ ?_
  rotate_left
  .rintro ak dU ⟨aG,gr,J,al,aq,bD,a8,_,_,bF⟩;rw[o9,cG]at a8;refine ca Ω ?_;have e0:=aH.size;have e1:=ag.size;have e2:=R.size;exact⟨(aH.trans (ag.trans R)).trans al,.inr ⟨S,F,aF,aG,dR,gr,J,aq,bz.ext al,bD,a8,Ω,λr A=>by have:=(bR bz A).1;omega,λx U r A=>by have:=bF x U r A;omega⟩⟩
  rintro i ak dU hi ⟨aG,gr,J,al,aq,bD,a8,dV,cL,bF⟩ dW;obtain⟨y,B⟩:=aI (l:=M) hi;have cM:=(a6.trans R).trans al;have cN:=cD.ext cM;have cO:=cN.at B;obtain⟨dx,dy,aZ⟩:=(cF.ext cM) y (x5 B);have af:gV f.sizes f.k (dX y):=uS E _ (yf cG B);refine bB Ω ?_;rw[va F cN B];refine bu cW.i λgy e3 e4 dY dZ=>?_;refine b7 (vs:=eY y) cW.i F rfl cO.one dZ λea eb e5 ec=>?_;have ed:Ext ak ea:=dY.put eb Ω;intro e6 cP _ _;have bG:=ed.trans cP;have cQ:=ec.ext cP;have ee:=aq.ext bG;rw[aT cE.p 3 ee F,aL cW.p 0 cQ F,aL cW.p 1 cQ F];refine(Pp (aZ.ext bG) λc H=>⟨hk,(af.jp c H).1,(af.jp c H).2⟩).mono ?_;rintro _ e8 _ ⟨bH,gT,m,o,D,rfl,ef,eg,eh,_⟩;refine⟨.inl bH,?_⟩;have cR:=bG.trans bH;obtain⟨⟨bo,cS⟩,_,fa⟩:=cO;have cT:=cS.ext cR;rw[cJ (cs:=#[y.sv,Γ gT]) (by obtain⟨_,_,_,e⟩:=c6 cS.ls;rw[e];kernel_rfl)];let a:cu:=⟨y.sv,gT,y.sc,y.cs⟩;have bj:∀u∈eY a,u.oneCell'=true:=vg cT;refine im (f:=eY) (a:=a) dH.u cH.i Ω F rfl λv25 fb bI fd I ei=>?_;refine⟨.inl (bH.trans I),?_⟩;have av:=cR.trans I;have ba:=bD.ext av;refine jo (f:=eY) (a:=a) dH.u cH.i F ba.1 (by simpa using ei.sl) bj Ω Ω λaC O ek aD bk cU=>?_;have fe:=al.size;have ff:=av.size;have bJ:ah ek S cE [bW f.name,Δ f.k,aF,aG]:=(aq.ext av).ac cU λhe=>by
   obtain⟨rfl,c,C⟩:=dM ba.1 he;have h1:=aq.ext av;unfold ah at C h1;rw[h1]at C;exact absurd (Obj.cells.inj (Z3 C)).2.1 Φ
  rw[bZ,aW cE.p F];have cV:aC.cells= #[aC]/\aC.oneCell'=true:=by
   obtain⟨_,_,_,_,_,rfl,_⟩:=aD.sl;exact⟨F,F⟩
  refine bp dH.i cV.1 cV.2 bJ Ξ λem cX fg en=>?_;rw[aM];have bK:ai (λr=>r=S\/leadsTo aG r) bI em:=(cU.mono λr _ h=>.inr h).trans (cX.mono λr _ h=>.inl h);have cY:∀r,(r=S\/leadsTo aG r)->∃e c,ah bI r e c/\e≠fL/\e≠aj:=λr A=>by
   rcases A with rfl|A
   .exact⟨_,_,aq.ext av,Φ,Φ⟩
   .obtain⟨rfl,c,C⟩:=dM ba.1 A;exact⟨_,c,C,Φ,Φ⟩
  refine dW _ ⟨aC,O,J++[a],?_,en,⟨aD.ac cX λr A he=>?_,λz s=>?_⟩,?_,by rw[r8,dV];rfl,λr A=>?_,λz s=>?_⟩
  .exact (al.trans av).then bK λr A he=>by
    rcases he with rfl|he
    .omega
    .have:=cL r he;omega
  .have he:r=S:=he;subst he;obtain⟨rfl,c,C⟩:=dM aD A;unfold ah at C bJ;rw[bJ]at C;exact absurd (Obj.cells.inj (Z3 C)).2.1 Φ
  .rcases p9.1 s with s|s
   .exact (ba.2 z s).ac bK cY
   .rw[j5.1 s];refine oh.ac (w:=bI) ⟨⟨bo,cT.ext I⟩,m,o,D,ef.ext I,?_,eh⟩ bK cY;have:=af.small;exact X3 eg (by show(aR (b2 f.sizes (dX y).1)).toNat<=4096;omega)
  .rw[Z9,a8,u9,B,Z9];rfl
  .rcases bk r A with h|h
   .exact cL r h
   .omega
  .rcases p9.1 s with s|s
   .exact bF z s
   .rw[j5.1 s];exact dO y (x5 B)
def eG{a:p8}{c f:List x1}(h:ah w r e c)(a7:ah w r a f):e=a:=by
 unfold ah at h a7;rw[h]at a7;exact(Obj.cells.inj (Z3 a7)).2.1
def cS{α:Type}{f:α->List x1}{k:Nat}{a:p8}{g p:Nat}{L:List α}(h:bm f k e w g v L)(q:ah w p a cs)(r:e≠a):¬leadsTo v p:=λs=>by
 obtain⟨rfl,c,x⟩:=dM h s;exact r (eG x q)
structure mD where
 v:x1
 l:Λ
def sq(h:mD):List x1:=[h.v]
def iS(w:x3)(g:Nat)(v:x1)(aZ:List mD):Prop:=bm sq 1 az w g v aZ/\∀h∈aZ,∃a,ay .i64 av w a h.v h.l
def iS.ext{g:Nat}{aZ:List mD}(h:iS w g v aZ)(U:Ext w J):iS J g v aZ:=⟨h.1.ext U,λx a=>by
 obtain⟨e,hm⟩:=h.2 x a;exact⟨e,hm.ext U⟩⟩
def iS.sr{g:Nat}{aZ:List mD}(h:iS w g v aZ)(f:ai S w J)(p:∀r,S r->∃e c,ah w r e c/\e≠av):∀h∈aZ,∃a,ay .i64 av J a h.v h.l:=λx q=>by
 obtain⟨a,hm⟩:=h.2 x q;exact⟨a,bw hm f λr s V=>by
  obtain⟨e,c,y,z⟩:=p r V;exact cc hm y (λhe=>z he.symm) s F⟩
def iS.ac{g:Nat}{aZ:List mD}(h:iS w g v aZ)(q:ai S w J)(s:∀r,S r->∃e c,ah w r e c/\e≠av/\e≠az):iS J g v aZ:=
 ⟨h.1.ac q λr a V=>by
  obtain⟨e,c,f,_,p⟩:=s r V;exact cS h.1 f (λhe=>p he.symm) a,h.sr q λr a=>by
  obtain⟨e,c,f,p,_⟩:=s r a;exact⟨e,c,f,p⟩⟩
def pw(w:x3)(k:Int)(sizes:Λ)(x:cu):Prop:=(∃a,ay .i64 aj w a x.sv x.sc)/\∃e f,di w x.g e f (b2 sizes x.sc) k x.cs
def pw.ext{x:cu}(h:pw w k sizes x)(U:Ext w J):pw J k sizes x:=by
 obtain⟨⟨a,h1⟩,e,f,p⟩:=h;exact⟨⟨a,h1.ext U⟩,e,f,p.ext U⟩
def Et{g x:Nat}{y:x1}{cs:Λ}(h:di w g x y al k cs)(p:ai S w J)(q:∀r,S r->∃e c,ah w r e c/\e≠cX/\e≠aj/\e≠av):di J g x y al k cs:=by
 obtain⟨⟨bb,gs,h1,z,A⟩,B⟩:=h;refine⟨⟨bb,gs,h1.ac p λV=>?_,bw z p λr s V=>?_,bw A p λr s V=>?_⟩,B⟩
 .obtain⟨e,c,a,f,_⟩:=q g V;exact f (eG a h1)
 .obtain⟨e,c,a,_,f,_⟩:=q r V;exact cc z a (λhe=>f he.symm) s F
 .obtain⟨e,c,a,_,_,f⟩:=q r V;exact cc A a (λhe=>f he.symm) s F
def pw.ac{x:cu}(h:pw w k sizes x)(a:ai S w J)(f:∀r,S r->∃e c,ah w r e c/\e≠cX/\e≠aj/\e≠av):pw J k sizes x:=by
 obtain⟨⟨p,h1⟩,q,s,y⟩:=h;refine⟨⟨p,bw h1 a λr z V=>?_⟩,q,s,Et y a f⟩;obtain⟨e,c,A,_,B,_⟩:=f r V;exact cc h1 A (λhe=>B he.symm) z F
def px(w:x3)(g:Nat)(v:x1)(k:Int)(sizes:Λ)(L:List cu):Prop:=bm eY 2 iF w g v L/\∀x∈L,pw w k sizes x
def px.ext{g:Nat}{L:List cu}(h:px w g v k sizes L)(U:Ext w J):px J g v k sizes L:=⟨h.1.ext U,λx a=>(h.2 x a).ext U⟩
def px.ac{g:Nat}{L:List cu}(h:px w g v k sizes L)(q:ai S w J)(s:∀r,S r->∃e c,ah w r e c/\e≠iF/\e≠cX/\e≠aj/\e≠av):px J g v k sizes L:=
 ⟨h.1.ac q λr a V=>by
  obtain⟨e,c,f,p,_⟩:=s r V;exact cS h.1 f (λhe=>p he.symm) a,λx U=>(h.2 x U).ac q λr a=>by
  obtain⟨e,c,f,_,p⟩:=s r a;exact⟨e,c,f,p⟩⟩
def gn(w:x3)(h:Nat)(n:aH):Prop:=∃a e f p gr aZ L nm szv gz fv2,ah w h gb [Γ a,Δ n.zero,e,f]/\ah w a cE [nm,Δ n.k,szv,fv2]/\ay .i64 aj w gz szv n.sizes/\
 iS w p e aZ/\aZ.map (·.l)=n.unary/\px w gr f n.k n.sizes L/\L.map dX=n.funs
def gn.ext{a:Nat}{n:aH}(h:gn w a n)(U:Ext w J):gn J a n:=by
 obtain⟨e,f,p,q,gr,aZ,L,nm,szv,gz,fv2,h1,r,s,x,y,z,A⟩:=h;exact⟨e,f,p,q,gr,aZ,L,nm,szv,gz,fv2,h1.ext U,r.ext U,s.ext U,x.ext U,y,z.ext U,A⟩
def ss(w:x3)(B:Nat)(k:Int)(sizes:Λ)(x:cu):Prop:=(∃f,ay .i64 aj w f x.sv x.sc)/\(∃a e,di w x.g a e (b2 sizes x.sc) k x.cs/\B<=a/\∀r,leads e r->B<=r)/\B<=x.g/\∀r,leads x.sv r->B<=r
def ss.ac{x:cu}(h:ss w B k sizes x)(a:ai S w J)(f:∀r,S r->∃e c,ah w r e c/\e≠cX/\e≠aj/\e≠av):ss J B k sizes x:=by
 obtain⟨⟨p,h1⟩,⟨q,s,y,z⟩,A⟩:=h;refine⟨⟨p,bw h1 a λr C V=>?_⟩,⟨q,s,Et y a f,z⟩,A⟩;obtain⟨e,c,E,_,F,_⟩:=f r V;exact cc h1 E (λhe=>F he.symm) C rfl
def nx(w:x3)(B g:Nat)(v:x1)(k:Int)(sizes:Λ)(L:List cu):Prop:=bm eY 2 iF w g v L/\∀x∈L,ss w B k sizes x
def nx.ext{g:Nat}{L:List cu}(h:nx w B g v k sizes L)(U:Ext w J):nx J B g v k sizes L:=⟨h.1.ext U,λx a=>(h.2 x a).ac (U.ac λ_=>False) λ_ h=>h.elim⟩
def nx.ac{g:Nat}{L:List cu}(h:nx w B g v k sizes L)(q:ai S w J)(s:∀r,S r->∃e c,ah w r e c/\e≠iF/\e≠cX/\e≠aj/\e≠av):nx J B g v k sizes L:=
 ⟨h.1.ac q λr a V=>by
  obtain⟨e,c,f,p,_⟩:=s r V;exact cS h.1 f (λhe=>p he.symm) a,λx U=>(h.2 x U).ac q λr a=>by
  obtain⟨e,c,f,_,p⟩:=s r a;exact⟨e,c,f,p⟩⟩
def Eu:∃o:Obj,fF o=false:=⟨.deferred ν,F⟩
def ghost(w:x3)(B:Nat):∃w0,Ext w0 w/\ai (λr=>r<B) w w0/\∀r o,w0.heap[r]?=σ o->fF o=true->B<=r:=by
 obtain⟨cv,f⟩:=Eu;have e:∀r,(w.heap.mapIdx λr o=>if r<B then cv else o)[r]?=(w.heap[r]?).map λo=>if r<B then cv else o:=λr=>Ξ
 refine⟨{w with heap:=w.heap.mapIdx λr o=>if r<B then cv else o},⟨Ξ,λr o a V=>?_⟩,⟨Ξ,λr o a V p=>?_⟩,λr o a V=>?_⟩
 .have a:(w.heap.mapIdx λr o=>if r<B then cv else o)[r]?=σ o:=a;rw[e]at a;cases h:w.heap[r]? with
  |none=>rw[h]at a;cases a
  |some o'=>
   rw[h]at a;simp only[Y1,Y7]at a;split at a
   .subst a;rw[f]at V;cases V
   .rw[a]
 .show (w.heap.mapIdx λr o=>if r<B then cv else o)[r]?=σ o;rw[e,a,Y1,if_neg p]
 .have a:(w.heap.mapIdx λr o=>if r<B then cv else o)[r]?=σ o:=a;rw[e]at a;cases h:w.heap[r]? with
  |none=>rw[h]at a;cases a
  |some o'=>
   rw[h]at a;simp only[Y1,Y7]at a;split at a
   .subst a;rw[f]at V;cases V
   .omega
def Ev(B:Nat)(w:x3)(a:Nat)(n:aH):Prop:=∃w0,gn w0 a n/\Ext w0 w/\∀r o,w0.heap[r]?=σ o->fF o=true->B<=r
def Pw{p C gr gz:Nat}{n:aH}{q s nm szv fv2:x1}{aZ:List mD}{L:List cu}(h1:ah w z gb [Γ p,Δ n.zero,q,s])(E:ah w p cE [nm,Δ n.k,szv,fv2])(I:ay .i64 aj w gz szv n.sizes)(F:iS w C q aZ)(J:aZ.map (·.l)=n.unary)(G:nx w B gr s n.k n.sizes L)(K:L.map dX=n.funs)(M:B<=z)(N:B<=p)(O:∀r,leads szv r->B<=r)(H:∀r,leadsTo q r\/leadsTo s r->B<=r)(P:∀h∈aZ,∀r,leads h.v r->B<=r):Ev B w z n:=by
 obtain⟨w0,U,a,Q⟩:=ghost w B;have no:∀{r:Nat},B<=r->¬r<B:=λh E=>Ω
 have y:∀{e:p8}{g:Nat}{v:x1}{l:Λ},ay .i64 e w g v l->(∀r,leads v r->B<=r)->ay .i64 e w0 g v l:=λh R=>bw h a λr f=>no (R r f);refine⟨w0,⟨p,q,s,C,gr,aZ,L,nm,szv,gz,fv2,h1.ac a (no M),E.ac a (no N),y I O,⟨F.1.ac a λr f=>no (H r (.inl f)),λh aC=>?_⟩,J,⟨G.1.ac a λr f=>no (H r (.inr f)),λx U=>?_⟩,K⟩,U,Q⟩
 .obtain⟨A,hm⟩:=F.2 h aC;exact⟨A,y hm (P h aC)⟩
 .obtain⟨⟨A,S⟩,⟨V,W,⟨⟨bb,gs,X,Y,t3⟩,t4⟩,ad,Z⟩,aa,ab⟩:=G.2 x U;exact⟨⟨A,y S ab⟩,V,W,⟨bb,gs,X.ac a (no aa),y Y Z,bw t3 a λr f=>no (by have:=(bR t3 f).1;omega)⟩,t4⟩
def kf(n:aH)(g:cK):aH:=match g.1 with
 |[]=>{n with zero:=g.2.getD 0 0}
 |[v]=>{n with unary:=n.unary.set v.toNat g.2}
 |_=>{n with funs:=n.funs++[g]}
def Ew(f:b3):aH:=⟨f.k,f.sizes,0,f.sizes.map λz=>o8 z.toNat 0,[]⟩
def Px(f:b3):c4 f=(fs f).foldl kf (Ew f):=rfl
def dD(f:b3)(i:Nat):aH:=((fs f).take i).foldl kf (Ew f)
def yg{f:b3}{i:Nat}{g:cK}(h:(fs f)[i]?=σ g):dD f (i+1)=kf (dD f i) g:=Pr h
def su(f:b3):dD f (fs f).length=c4 f:=by unfold dD;rw[o9,Px]
def Py(n:aH)(g:cK):(kf n g).k=n.k/\(kf n g).sizes=n.sizes/\(kf n g).unary.length=n.unary.length/\(kf n g).funs.length<=n.funs.length+1:=by
 unfold kf;split
 .exact⟨F,F,F,Nat.le_succ _⟩
 .exact⟨F,F,Ξ,Nat.le_succ _⟩
 .exact⟨F,F,F,Ξ⟩
theorem py(f:b3):∀i,(dD f i).k=f.k/\(dD f i).sizes=f.sizes/\(dD f i).unary.length=f.sizes.length/\(dD f i).funs.length<=i
 |0=>⟨F,F,by show(f.sizes.map _).length=_;simp,X8 _⟩
 |i+1=>by
  have a:=py f i;cases h:(fs f)[i]? with
  |none=>
   have p:=List.getElem?_eq_none_iff.1 h;have e:dD f (i+1)=dD f i:=by unfold dD;rw[Z2 Ω,Z2 p]
   rw[e];exact⟨a.1,a.2.1,a.2.2.1,Ω⟩
  |some g=>
   rw[yg h];obtain⟨h1,q,r,s⟩:=Py (dD f i) g;exact⟨h1.trans a.1,q.trans a.2.1,r.trans a.2.2.1,Ω⟩
def Pz(w:x3)(f:b3)(v:x1)(J:x3):Prop:=Ext w J/\((¬kc f.funs<=16384/\∃e:Int,e≠0/\v= .tuple #[.pointer ν,Δ e])\/∃a,v= .tuple #[Γ a,Δ 0]/\Ev w.heap.size J a (c4 f))
def eO{k:Nat}(h:cf w k v n cs):v.cells= #[v]/\v.oneCell'=true:=by
 obtain⟨_,_,_,_,_,rfl,_⟩:=h;exact⟨F,F⟩
def PA{bU:Nat}{f:b3}(cr:mC w bU f)(Q:e9 N f)(ct:N<=60000)(cw:f.name≠[]/\∀b∈f.name,bQ b=true):
  an x7 Ij [Γ bU] w (Pz w f):=by
 have hk:=Q.k;refine aA func57 ?_;refine(Pv cr Q ct cw).mono ?_;rintro _ aa _ ⟨au,⟨cz,e,he,rfl⟩|⟨aO,rfl,cA⟩⟩
 .rw[bq,br,bA,am];exact⟨λ_=>⟨au,.inl ⟨cz,e,he,F⟩⟩,λh=>absurd he h⟩
 rw[bq,br,bA,am];refine⟨λh=>absurd F h,λ_=>?_⟩;obtain⟨szv,cB,gz,du,M,bb,bc,bV,aP,cC,cD,cF⟩:=id cA;have dv:M.length<=256:=by
  have h1:=(qI Q).2.length_eq;have ag:=(lY Q).2.2;have ak:=Q2 fp (fq f);have aQ:=Q.mv;have dw:M.length=(fs f).length:=by rw[<-aP,r9]
  omega
 have dx:=Q.sizes.2.1;rw[cJ (cs:=#[Γ aO,Δ 0,.slice ν 0 0,.slice ν 0 0]) Ψ];refine bh λH ab dy bd bg=>?_;have bg:=bg;rw[aT cE.p 2 (bb.ext bd) F,aX ao.u (bc.ls.ext bd)];refine cq.range f.sizes.length (λi aw=>∃s G aZ,Ext aa aw/\ah aw H gb [Γ aO,Δ 0,s,.slice ν 0 0]/\iS aw G s aZ/\aZ.map (·.l)=(f.sizes.take i).map (λz=>o8 z.toNat 0)/\(∀r,leadsTo s r->aa.heap.size<=r)/\∀h∈aZ,∀r,leads h.v r->aa.heap.size<=r) Ω
  ⟨_,0,[],bd,bg,⟨bm.nil _ _ _ _ _,λx U=>(by cases U)⟩,F,λr q=>(eW q).elim,λx U=>(by cases U)⟩ ?_ ?_
 .rintro i aw cG hi ⟨s,G,aZ,Z,aS,bi,aD,aU,J⟩ cI;obtain⟨z,B⟩:=aI (l:=f.sizes) hi;have dz:=Q.sizes.2.2 z (x5 B);have dA:aZ.length=i:=by have:=congrArg R2 aD;simp only[r9,j6]at this;omega
  refine bB Ω ?_;rw[be ao.u aj.i Ψ (bc.ls.ext Z) B];intro dC bj _ _;have cK:=aS.ext bj;rw[aT gb.p 2 cK F];obtain⟨aV,rfl⟩:∃n:Nat,z=n:=⟨z.toNat,Ω⟩;refine k6 az.u av.i Ω Ω λbX dE dF bk cL=>?_;refine⟨.inl bk,?_⟩;have bY:=ay.of (b1.full (n:=aV) cL Ξ (by simp[maxLen];omega));let a:mD:=⟨.slice (σ ⟨bX,0,ν⟩) aV aV,o8 aV 0⟩;refine im (f:=sq) (a:=a) dW.u az.i Ω F rfl λdG dI bl dJ bn cM=>?_;refine⟨.inl (bk.trans bn),?_⟩;have aY:=(bj.trans bk).trans bn;have a1:=bi.ext aY;refine jo (f:=sq) (a:=a) dW.u az.i F a1.1 (by simpa using cM.sl) (λu hu=>by rw[j5.1 (show u∈[a.v]from hu)];rfl) Ω Ω λbo bs dK K bt b0=>?_;have aE:∀{r:Nat},leadsTo s r->∃c,ah bl r az c:=λq=>by
   obtain⟨rfl,c,A⟩:=dM a1.1 q;exact⟨c,A⟩
  have bx:=aS.ext aY;have b4:=bx.ac b0 λhe=>cS a1.1 bx Φ he;rw[bZ,aW gb.p F];refine bp dW.i (eO K.sl).1 (eO K.sl).2 b4 Ξ λcN b5 dN cO=>?_;rw[aM];have bz:ai (λr=>leadsTo s r\/r=H) bl cN:=(b0.mono λr _ h=>.inl h).trans (b5.mono λr _ h=>.inr h);have R:∀r,(leadsTo s r\/r=H)->∃e c,ah bl r e c/\e≠av:=λr q=>by
   rcases q with q|rfl
   .obtain⟨c,A⟩:=aE q;exact⟨_,c,A,Φ⟩
   .exact⟨_,_,bx,Φ⟩
  have b8:=au.size;have z3:=Z.size;have dO:=aY.size;refine cI _ ⟨bo,bs,aZ++[a],(Z.trans aY).then bz (λr q he=>?_),cO,⟨K.ac b5 λr q he=>?_,λy C=>?_⟩,?_,λr q=>?_,λy C r q=>?_⟩
  .rcases he with he|rfl
   .have:=aU r he;omega
   .omega
  .have he:r=H:=he;subst he;exact cS K b4 Φ q
  .rcases p9.1 C with C|C
   .exact a1.sr bz R y C
   .rw[j5.1 C];have b9:=bY.ext bn;exact⟨bX,bw b9 bz λr q V=>by
     obtain⟨e,c,A,cP⟩:=R r V;exact cc b9 A (λhe=>cP he.symm) q F⟩
  .rw[Z9,aD,u9,B,j4,Z9];rfl
  .rcases bt r q with h|h
   .exact aU r h
   .omega
  .rcases p9.1 C with C|C
   .exact J y C r q
   .rw[j5.1 C]at q;have cQ:=(bR bY q).1;have:=bj.size;omega
 .rintro aw cG ⟨s,G,aZ,Z,aS,bi,aD,aU,J⟩;refine ca Ω ?_;rw[o9]at aD;have cR:=bb.ext Z;have cT:=bV.ext Z;rw[aT cE.p 3 cR F,et dH.u cT.1];refine cq.range M.length (λi al=>∃s E G gr aZ L,Ext aa al/\ah al H gb [Γ aO,Δ (dD f i).zero,s,E]/\iS al G s aZ/\aZ.map (·.l)=(dD f i).unary/\nx al w.heap.size gr E f.k f.sizes L/\L.map dX=(dD f i).funs/\(∀r,leadsTo s r\/leadsTo E r->aa.heap.size<=r)/\∀h∈aZ,∀r,leads h.v r->aa.heap.size<=r) Ω
   ⟨s,_,G,0,aZ,[],Z,aS,bi,aD,⟨bm.nil _ _ _ _ _,λx U=>(by cases U)⟩,F,λr q=>q.elim (aU r) λh=>(eW h).elim,J⟩ ?_ ?_
  rotate_left
  .rintro al cU ⟨s,E,G,gr,aZ,L,O,a2,bC,ad,bD,ae,S,J⟩;refine ca Ω ?_;have cV:M.length=(fs f).length:=by rw[<-aP,r9]
   have aF:=py f M.length;rw[cV,su]at a2 ad ae aF;have b8:=au.size;refine⟨au.trans O,.inr ⟨H,F,Pw (gr:=gr) (nm:=bW f.name) (szv:=szv) (gz:=gz) (fv2:=cB) a2 ?_ ?_ bC ad ?_ ae Ω cC cD (λr q=>by have:=S r q;omega) λh aC r q=>by have:=J h aC r q;omega⟩⟩
   .rw[aF.1];exact bb.ext O
   .rw[aF.2.1];exact bc.ext O
   .rw[aF.1,aF.2.1];exact bD
  rintro i al cU hi ⟨s,E,G,gr,aZ,L,O,a2,bC,ad,bD,ae,S,J⟩ cW;obtain⟨y,C⟩:=aI (l:=M) hi;have cY:(fs f)[i]?=σ (dX y):=by rw[<-aP,x8,C];rfl
  have a6:=uS Q _ (yf aP C);have bE:=bV.ext O;obtain⟨dP,dQ,dR,dS⟩:=py f i;refine bB Ω ?_;refine da (λaG=>∃s E G gr aZ L,Ext aa aG/\ah aG H gb [Γ aO,Δ (dD f (i+1)).zero,s,E]/\iS aG G s aZ/\aZ.map (·.l)=(dD f (i+1)).unary/\nx aG w.heap.size gr E f.k f.sizes L/\L.map dX=(dD f (i+1)).funs/\(∀r,leadsTo s r\/leadsTo E r->aa.heap.size<=r)/\∀h∈aZ,∀r,leads h.v r->aa.heap.size<=r) ?_ ?_
  .rintro aG h;rw[aM];exact cW _ h
  intro aB bF;have cZ:=bE.2 y (x5 C);obtain⟨⟨c0,bG⟩,m,o,D,c1,dT,c2⟩:=cZ;rw[dp F dH.u cH.i bE.1 hi,bN cH.p cH.i F (bE.1.range C)];refine bu cH.i λap dU dV c3 c4=>?_;refine b7 (vs:=eY y) cH.i F rfl (vg bG) c4 λdY c5 dZ cb=>?_;have bH:=c3.put c5 Ω;rw[aL cH.p 1 cb F];refine(D3 (c1.ext bH) Ω).mono ?_;rintro _ ea _ ⟨cd,_,aq⟩;obtain⟨g,c7,c8,eb,rfl,ec,c9,aq,db⟩:=aq a6.small;have dc:dL (b2 f.sizes y.sc):=aq.2.2.1.2;have dd:=jK.eq dc db c2;subst dd;have W:=bH.trans cd;have bI:=cb.ext cd;have bJ:=bG.ext W;rw[bq,br,aL cH.p 0 bI F,aX ao.u bJ.ls];have b8:=au.size;have z9:=O.size;have ed:=W.size;have bK:=a2.ext W;have bL:=bC.ext W;have bM:=bD.ext W;have bO:=yg cY;rw[bf,am];refine⟨λee=>?_,λef=>?_⟩
  .
   have af:y.sc=[]:=b6 Ω;have I:dD f (i+1)={dD f i with zero:=y.cs.getD 0 0}:=by rw[bO];unfold kf;simp only[dX,af]
   refine(od aq).mono ?_;rintro ce de _ ⟨a7,eg,eh,df⟩;have ei:y.cs.length=1:=by have:=a6.len;simpa[dX,af,b2,aR]using this
   have dg:y.cs[0]?=σ (y.cs.getD 0 0):=by rw[u4,x6 Ω];rfl
   rw[gf (y:=0) (i:=0) F az.u av.i Ψ df.ls dg,bZ,aW gb.p F];have cf:=bK.ext a7;refine bp av.i F rfl cf Ξ λej bP ek dh=>?_;have R:∀r,r=H->∃e c,ah de r e c/\e≠iF/\e≠cX/\e≠aj/\e≠av/\e≠az:=λr q=>by
    subst q;exact⟨_,_,cf,Φ,Φ,Φ,Φ,Φ⟩
   refine bF _ ⟨s,E,G,gr,aZ,L,((O.trans W).trans a7).put bP Ω,?_,(bL.ext a7).ac bP (λr q=>?_),by rw[I];exact ad,(bM.ext a7).ac bP (λr q=>?_),by rw[I];exact ae,S,J⟩
   .rw[I];exact dh
   .obtain⟨e,c,A,_,_,_,h1,ag⟩:=R r q;exact⟨e,c,A,h1,ag⟩
   .obtain⟨e,c,A,h1,ag,ak,aQ,_⟩:=R r q;exact⟨e,c,A,h1,ag,ak,aQ⟩
  rw[bf,am];refine⟨λh1=>?_,λem=>?_⟩
  .
   obtain⟨v,af⟩:∃v,y.sc=[v]:=V7.1 Ω;have en:=a6.scope.1 v (by show v∈y.sc;rw[af];exact .head _);have eo:=a6.vars v (by show v∈y.sc;rw[af];exact .head _);have I:dD f (i+1)={dD f i with unary:=(dD f i).unary.set v.toNat y.cs}:=by rw[bO];unfold kf;simp only[dX,af]
   intro ep X _ _;have cg:=bK.ext X;have di:=bI.ext X;rw[aT gb.p 2 cg F,aL cH.p 0 di F];refine qm F ao.u aj.i (bJ.ls.ext X) (show y.sc[0]?=σ v by rw[af];rfl) λb o dj=>?_;rw[ax Ψ dj];refine(od (aq.ext X)).mono ?_;rintro ce dk _ ⟨aH,dl,er,aJ⟩;refine⟨.inl aH,?_⟩;have aK:=(bL.ext X).ext aH;have es:aZ.length=f.sizes.length:=by have:=congrArg R2 ad;rw[r9]at this;omega
   obtain⟨u,hu⟩:=aI (l:=aZ) (i:=v.toNat) Ω;rw[dp (i:=v.toNat) Ω dW.u az.i aK.1 Ω];let a:mD:=⟨ce,y.cs⟩;refine qB (j:=0) (a:=u) (a':=a) az.i aJ.ls.cells.1 aJ.ls.cells.2 aK.1 hu F Ω λeu aN ev dm=>?_;have ch:=cg.ext aH;have aE:∀{r:Nat},leadsTo s r->∃c,ah dk r az c:=λq=>by
    obtain⟨rfl,c,A⟩:=dM aK.1 q;exact⟨c,A⟩
   refine bF _ ⟨s,E,G,gr,aZ.set v.toNat a,L,(((O.trans W).trans X).trans aH).then aN (λr q he=>by have:=S r (.inl he);omega),?_,⟨dm,λz B=>?_⟩,?_,((bM.ext X).ext aH).ac aN (λr q=>?_),by rw[I];exact ae,S,λz B r q=>?_⟩
   .rw[I];exact ch.ac aN λhe=>cS aK.1 ch Φ he
   .rcases V4 B with B|rfl
    .exact aK.sr aN (λr q=>by obtain⟨c,A⟩:=aE q;exact⟨_,c,A,Φ⟩) z B
    .exact⟨dl,bw aJ aN λr q V=>by
      obtain⟨c,A⟩:=aE V;exact cc aJ A Φ q F⟩
   .rw[I,T0,ad]
   .obtain⟨c,A⟩:=aE q;exact⟨_,c,A,Φ,Φ,Φ,Φ⟩
   .rcases V4 B with B|rfl
    .exact J z B r q
    .have cQ:=(bR aJ q).1;have:=X.size;omega
  .
   have I:dD f (i+1)={dD f i with funs:=(dD f i).funs++[dX y]}:=by
    rw[bO];unfold kf;have ci:2<=(dX y).1.length:=by show 2<=y.sc.length;omega
    generalize dX y=g at ci ⊢;obtain⟨sc,cs⟩:=g
    match sc,ci with
    |_::_::_,_=>rfl
   intro ew Y _ _;have cj:=bK.ext Y;have dn:=bI.ext Y;have ck:=bJ.ext Y;rw[aT gb.p 3 cj F,aL cH.p 0 dn F,cJ (cs:=#[y.sv,Γ g]) (by obtain⟨_,_,_,e⟩:=c6 bG.ls;rw[e];kernel_rfl)];let a:cu:=⟨y.sv,g,y.sc,y.cs⟩;refine im (f:=eY) (a:=a) mn.u iF.i Ω F rfl λey ez bS eA P dq=>?_;refine⟨.inl P,?_⟩;have a8:=(bM.ext Y).ext P;have dr:=(bL.ext Y).ext P;have bT:=cj.ext P;have eB:L.length<=256:=by have:=congrArg R2 ae;rw[r9]at this;omega
   refine jo mn.u iF.i F a8.1 (by simpa using dq.sl) (vg (ck.ext P)) Ω Ω λbo bs eC K bt cl=>?_;have cm:=bT.ac cl λhe=>cS a8.1 bT Φ he;rw[bZ,aW gb.p F];refine bp mn.i (eO K.sl).1 (eO K.sl).2 cm Ξ λds cn eD dt=>?_;have ba:ai (λr=>leadsTo E r\/r=H) bS ds:=(cl.mono λr _ h=>.inl h).trans (cn.mono λr _ h=>.inr h);have R:∀r,(leadsTo E r\/r=H)->∃e c,ah bS r e c/\e≠cX/\e≠aj/\e≠av/\e≠az:=λr q=>by
    rcases q with q|rfl
    .obtain⟨rfl,c,A⟩:=dM a8.1 q;exact⟨_,c,A,Φ,Φ,Φ,Φ⟩
    .exact⟨_,_,bT,Φ,Φ,Φ,Φ⟩
   have eE:=(Y.trans P).size;refine bF _ ⟨s,bo,G,bs,aZ,L++[a],(((O.trans W).trans Y).trans P).then ba (λr q he=>?_),?_,dr.ac ba (λr q=>?_),by rw[I];exact ad,⟨K.ac cn λr q he=>?_,λz B=>?_⟩,?_,λr q=>?_,J⟩
   .rcases he with he|rfl
    .have:=S r (.inr he);omega
    .omega
   .rw[I];exact dt
   .obtain⟨e,c,A,_,_,ak,aQ⟩:=R r q;exact⟨e,c,A,ak,aQ⟩
   .have he:r=H:=he;subst he;exact cS K cm Φ q
   .have cp:∀r,(leadsTo E r\/r=H)->∃e c,ah bS r e c/\e≠cX/\e≠aj/\e≠av:=λr q=>by
     obtain⟨e,c,A,h1,ag,ak,_⟩:=R r q;exact⟨e,c,A,h1,ag,ak⟩
    rcases p9.1 B with B|B
    .exact (a8.2 z B).ac ba cp
    .rw[j5.1 B];have eF:=bH.size;refine ss.ac ⟨⟨c0,ck.ext P⟩,⟨c7,c8,?_,Ω,λr q=>by have:=c9.2 r q;omega⟩,by show w.heap.size<=g;omega,cF y (x5 C)⟩ ba cp;exact(aq.ext Y).ext P
   .rw[I,Z9,ae];rfl
   .rcases q with q|q
    .exact S r (.inl q)
    .rcases bt r q with h|h
     .exact S r (.inr h)
     .omega
def yh{z:Array x1}{k:Nat}(a:z.size=k):(Z6.zeroCells z n).toList=dT z (n*k):=by
 unfold Z6.zeroCells dT;rw[a]
def PB{P:W9}{t p A:p8}{B kn:n9}{b g k m:Nat}{z:x1}{xs:List x1}(Y:y=(m:Int))(N:P.underlying t=σ (.slice e))(O:P.underlying p=σ (.int kn))(hi:aS P e k b z)(C:z.cells.size=k)(aw:0<k)(h1:∀u∈dT z.cells (m*k),u.oneCell'=true)(h:b1 w g e k v n xs)(Z:0<m)(aa:(n+m)*b<=140737488355328)(ab:n+m<=9223372036854775807)(Q:∀E ad J,b1 J ad e k E (n+m) (xs++dT z.cells (m*k))->(∀r,leadsTo E r->leadsTo v r\/w.heap.size<=r)->ai (λr=>leadsTo v r) w J->K E J):aF P (Z5 #[t,p] A #[v,.int B y]) w K:=by
 subst Y;obtain⟨i,hi,F,rfl,R⟩:=hi;obtain⟨S,hm⟩:=h;have af:=o6 z.cells (m*k);have ag:m*i.bytes<=281474976710656:=by
  have:m*i.bytes<=(n+m)*i.bytes:=V1 _ Ω;omega
 have grow:∀(base:Option Addr)(cap:Nat),v= .slice base n cap->(Z6.firstCells i.size n (.slice base n cap)).run P w.drew= .ok xs.toArray w.drew->cap<n+m->aF P (Z5 #[t,p] A #[v,.int B (m:Int)]) w K:=λbase cap ae aj f=>by
  subst ae;have G:=Lib.run_append_grow_zeros (P:=P) w t p A e i z B kn N O hi R base n cap xs aj m Z Ω f Ω ag (growslice_fits f aa);have T:n+m<=grownCap w (n+m) cap e:=grownCap_ge w _ _ _;have ak:grownCap w (n+m) cap e<=maxLen:=grownCap_le_maxLen w (n+m) cap e (by simpa[maxLen]using ab);have ax:=o6 z.cells ((grownCap w (n+m) cap e-(n+m))*k);have ay:(n+m)*k<=grownCap w (n+m) cap e*k:=V1 _ T;have al:(n+m)*k=n*k+m*k:=U8 _ _ _;have az:(grownCap w (n+m) cap e-(n+m))*k=grownCap w (n+m) cap e*k-(n+m)*k:=Nat.sub_mul _ _ _;refine .of G ((q9 w _ (Nat.le_succ _)).trans (rb _ _)) (Q _ w.heap.size _ ⟨by rw[r8];omega,.inr ⟨_,xs++dT z.cells (m*k)++dT z.cells ((grownCap w (n+m) cap e-(n+m))*k),rfl,?_,T,ak,?_,?_⟩⟩ (λr H=>?_) (((tb w _).trans (ra _ _)).ac _))
  .have:=heap_alloc_new w.drew (.cells (xs.toArray++Z6.zeroCells z.cells m++Z6.zeroCells z.cells (grownCap w (n+m) cap e-(n+m))) e);unfold ah;rw[show w.drew.heap.size=w.heap.size from rfl]at this;rw[this];congr 2;apply Array.toList_inj.1;rw[Array.toList_append,Array.toList_append,yh C,yh C]
  .rw[r8,r8];omega
  .rw[List.take_append_of_le_length (by rw[r8];omega),Z2 (by rw[r8];omega)]
  .obtain⟨a,am,c,q,s⟩:=H;cases q;exact .inr (by simp at s;omega)
 rcases hm with⟨rfl,an⟩|⟨cap,cs,rfl,x,q,s,I,U⟩
 .subst an;have:xs=[]:=b6 (by simpa using S);subst this;exact grow ν 0 rfl (run_firstCells_none w.drew i.size 0 0 0) Ω
 .by_cases f:n+m<=cap
  .have V:(n+m)*k<=cs.length:=by rw[I];exact V1 _ f
   have al:(n+m)*k=n*k+m*k:=U8 _ _ _;have L:=run_storeCells_cells (P:=P) g (0+n*k) (dT z.cells (m*k)) 0 w (λj W=>by
    rw[af]at W;rw[Nat.add_zero,W0,x.cell (x6 (show n*k+j<cs.length by omega))];rfl) (λj _=>x.frozen _ _) h1
   simp only[Nat.add_zero]at L;have hw:W5.wrap (m:Int)=m:=by rw[n9.wrap_i64];omega
   have ao:¬((m:Int)<0):=Ω
   have ap:¬(281474976710656<(m:Int)*(i.bytes:Int)):=by rw[<-Int.natCast_mul];omega
   have M:¬(m*i.size=0):=Nat.mul_ne_zero Ω Ω;have aq:(Z6.zeroCells z.cells m).toList=dT z.cells (m*k):=yh C;have G:(Z5 #[t,p] A #[.slice (σ ⟨g,0,ν⟩) n cap,.int B (m:Int)]).run P w= .ok (.slice (σ ⟨g,0,ν⟩) (n+m) cap) (w.setCells g (0+n*k) (dT z.cells (m*k))):=by
    simp[Z5,run_underlying N,run_underlying O,sizeOf,typeInfo,zeroValue,hi,R,asInt,asIntOf,hw,f,ao,M,ap,aq,Addr.add_lit,F];simp only[W0]at L;rw[L];simp;intro au;exact absurd au (by rw[F]at M;exact M)
   obtain⟨av,X⟩:=o5 (dT z.cells (m*k)) cs (0+n*k) w x;refine .of G (X.cv x) (Q _ g _ ⟨by rw[r8];omega,.inr ⟨cap,_,rfl,av,f,s,by rw[mp,I],?_⟩⟩ (λr H=>.inl ?_) (X.ac.mono λr _ he=>⟨_,_,_,rfl,he.symm⟩))
   .rw[uI Ω V,nZ (by rw[j6];omega),W0,List.take_take,List.drop_eq_nil_of_le (by rw[j6];omega),Y8,Nat.min_eq_left Ω,U]
   .obtain⟨a,am,c,q,s⟩:=H;cases q;exact⟨_,_,_,rfl,s⟩
  .refine grow _ cap rfl ?_ Ω;have V:n*k<=cs.length:=by rw[I];exact V1 _ q
   refine run_firstCells_some w.drew i.size n _ n cap xs (by rw[F];exact S) λj u hu=>?_;rw[T4,W0];have W:=(x4.1 hu).1;rw[<-U,Y2 Ω]at hu;exact x.cell hu
def kL(c:Cell):List x1:=[Δ c.v,.int .u64 (c.st:Int)]
def sw(o:mr):List x1:=[Δ (o.i:Int),Δ o.c.v,.int .u64 (o.c.st:Int)]
def qM(m:uf):List x1:=[Δ (m.olds:Int),Δ (m.cells:Int),.int .u64 (m.st:Int)]
def dx(w:x3)(gT:Nat)(A:ak)(t:aD):Prop:=A gT/\∃e go dl bb a ef,ah w gT gx [bb,a,ef,.int .u64 (t.kF:Int)]/\bm kL 2 eS w e bb t.cells/\bm sw 3 nd w go a t.olds/\bm qM 3 gO w dl ef t.marks/\
 ∀r,leadsTo bb r\/leadsTo a r\/leadsTo ef r->A r
def dx.ac{S A:ak}{t:aD}(h:dx w gT A t)(e:ai S w J)(f:∀r,A r->¬S r):dx J gT A t:=by
 obtain⟨q,s,go,dl,bb,x,ef,h1,y,z,B,p⟩:=h;exact⟨q,s,go,dl,bb,x,ef,h1.ac e (f _ q),y.ac e λr a=>f r (p r (.inl a)),z.ac e λr a=>f r (p r (.inr (.inl a))),B.ac e λr a=>f r (p r (.inr (.inr a))),p⟩
def dx.ext{A:ak}{t:aD}(h:dx w gT A t)(U:Ext w J):dx J gT A t:=h.ac (U.ac λ_=>False) λ_ _ h=>h
def dx.mono{A B:ak}{t:aD}(h:dx w gT A t)(a:∀r,A r->B r):dx w gT B t:=by
 obtain⟨e,f,go,dl,bb,p,ef,h1,q,s,x,y⟩:=h;exact⟨a _ e,f,go,dl,bb,p,ef,h1,q,s,x,λr z=>a r (y r z)⟩
def Grow(A:ak)(w:x3)(aU:ak)(J:x3):Prop:=ai A w J/\(∀r,aU r->A r\/w.heap.size<=r)/\∀r,A r->aU r
def Grow.refl(A:ak)(w:x3):Grow A w A w:=⟨ai.refl _ _,λ_ h=>.inl h,λ_ h=>h⟩
def Grow.ext{A:ak}(h:Ext w J):Grow A w A J:=⟨h.ac _,λ_ h=>.inl h,λ_ h=>h⟩
def Grow.trans{A aU e:ak}{f:x3}(h:Grow A w aU J)(k:Grow aU J e f):Grow A w e f:=
 ⟨⟨X3 h.1.size k.1.size,λr o a V p=>k.1.a6 r o (h.1.a6 r o a V p) V λq=>(h.2.1 r q).elim p λs=>by
  have:=(j9.1 a).1;omega⟩,λr a=>by
  rcases k.2.1 r a with h1|h1
  .exact h.2.1 r h1
  .have:=h.1.size;exact .inr Ω,λr a=>k.2.2 r (h.2.2 r a)⟩
def Ex{A:ak}{t:aD}(h:dx w gT A t):an x7 Jx [Γ gT] w λv J=>v=Δ (t.cells.length:Int)/\Ext w J:=by
 obtain⟨e,f,go,dl,bb,q,ef,h1,a,r,s,x⟩:=h;refine aA func174 ?_;rw[dh ru.u];simp only[Y0,a8];rw[aT gx.p 0 h1 F,et jA.u a];exact⟨F,Ext.refl _⟩
def Ey{A:ak}{t:aD}{i:Int}(h:dx w gT A t):an x7 IG [Γ gT,Δ i] w λv J=>v= .bool (decide (0<=i/\i<t.cells.length))/\Ext w J:=by
 refine aA func88 ?_;refine aV (λv aa=>v= .bool (decide (0<=i/\i<t.cells.length))/\Ext w aa) (λ_ _ h=>h) ?_;intro aB a;rw[cO,am];refine⟨λe=>?_,λe=>a _ _ ⟨by rw[decide_eq_false];omega,Ext.refl _⟩⟩;refine(Ex h).mono ?_;rintro _ aa _ ⟨rfl,U⟩;rw[aP];refine a _ _ ⟨?_,U⟩;congr 1;rw[U6,decide_eq_true_eq,decide_eq_true_eq];exact⟨λh=>⟨Ω,h⟩,λh=>h.2⟩
def PC{A:ak}{t:aD}{i:Nat}{c:Cell}(h:dx w gT A t)(f:y=(i:Int))(a:t.cells[i]?=σ c):an x7 AV [Γ gT,Δ y] w λv J=>v=Δ c.v/\Ext w J:=by
 have q:=(x4.1 a).1;refine aA func43 ?_;refine(Ey h).mono ?_;rintro _ aa _ ⟨rfl,U⟩;rw[decide_eq_true Ω,bM,X2,a8];obtain⟨r,s,go,dl,bb,x,ef,h1,e,z,B,C⟩:=h.ext U;rw[aT gx.p 0 h1 F,dp f jA.u eS.i e q,aW eS.p F,ax Ψ (e.range a 0 _ F)];exact⟨F,U⟩
def pz{A:ak}{t:aD}{i:Nat}{x:Int}(h:dx w gT A t)(e:y=(i:Int))(a:t.bY[i]?=σ x):an x7 AV [Γ gT,Δ y] w λv J=>v=Δ x/\Ext w J:=by
 unfold aD.bY at a;rw[x8]at a;obtain⟨c,f,rfl⟩:=X7.1 a;exact PC h e f
def oi(t:aD):Prop:=t.cells.length<=100000000/\t.olds.length<=100000000/\t.marks.length<=100000000
def vh{s go dl:Nat}{bb a ef:x1}{t:aD}{x:x1}(h1:ah w gT gx [bb,a,ef,x])(f:bm kL 2 eS w s bb t.cells)(h:bm sw 3 nd w go a t.olds)(p:bm qM 3 gO w dl ef t.marks):
  (¬leadsTo bb gT/\¬leadsTo a gT/\¬leadsTo ef gT)/\(∀r,leadsTo bb r->¬leadsTo a r/\¬leadsTo ef r)/\∀r,leadsTo a r->¬leadsTo bb r/\¬leadsTo ef r:=by
 refine⟨⟨cS f h1 Φ,cS h h1 Φ,cS p h1 Φ⟩,λr q=>?_,λr q=>?_⟩
 .obtain⟨rfl,c,e⟩:=dM f q;exact⟨cS h e Φ,cS p e Φ⟩
 .obtain⟨rfl,c,e⟩:=dM h q;exact⟨cS f e Φ,cS p e Φ⟩
def vi{A:ak}{t:aD}{i:Nat}{x:Int}(h:dx w gT A t)(bj:y=(i:Int))(M:i<t.cells.length)(aq:oi t):an x7 A6 [Γ gT,Δ y,Δ x] w λv J=>v=Δ 0/\∃aU,Grow A w aU J/\dx J gT aU (t.set i x):=by
 subst bj;obtain⟨c,C⟩:=aI (l:=t.cells) M;refine aA func124 ?_;rw[dh ru.u];simp only[Y0,a8];refine(Ey h).mono ?_;rintro _ aa _ ⟨rfl,U⟩;rw[decide_eq_true Ω,bM,X2,a8];obtain⟨aR,N,go,dl,bb,O,ef,h1,aS,au,W,X⟩:=id (h.ext U);have bk:∀{ab:x3}{aU:ak}{bt:aD}{st:Nat}{K:x3->Prop},dx ab gT aU bt->bt.cells[i]?=σ ⟨c.v,st⟩->
   (∀q,ai aU ab q->dx q gT aU {bt with cells:=bt.cells.set i ⟨x,st⟩}->K q)->
   (ad x7 (bP (Γ gT)) ab λt77=>
   ad x7 (u6 gx t77 0) ab λbl=>
   ad x7 (u5 jA bl) ab λbm=>
   ad x7 (c9 jA bm (Δ (i:Int))) ab λbn=>
   ad x7 (u6 eS bn 0) ab λbo=>
   aF x7 (l9 av bo (Δ x)) ab λ(_:Unit)q=>
   K q):=by
  intro ab aU bt st K aw Y bq;obtain⟨ay,N,go,dl,bb,O,ef,E,G,P,Q,R⟩:=aw;have br:=(x4.1 Y).1;rw[aT gx.p 0 E F,dp F jA.u eS.i G br,aW eS.p F];obtain⟨⟨S,az,aC⟩,H,_⟩:=vh E G P Q;refine qB (f:=kL) (j:=0) (a:=⟨c.v,st⟩) (a':=⟨x,st⟩) av.i F rfl G Y F Ω λq B bs bw=>?_;exact bq q (B.mono λr _ e=>R r (.inl e)) ⟨ay,N,go,dl,bb,O,ef,E.ac B S,bw,P.ac B λr e he=>(H r he).1 e,Q.ac B λr e he=>(H r he).2 e,R⟩
 refine da (λab=>∃aU bt st,Grow A aa aU ab/\dx ab gT aU bt/\bt.cells[i]?=σ ⟨c.v,st⟩/\t.set i x={bt with cells:=bt.cells.set i ⟨x,st⟩}) ?_ ?_
 .rintro ab ⟨aU,bt,st,bx,aw,Y,aE⟩;refine bk aw Y λq B au=>⟨by trivial,aU,?_,by rw[aE];exact au⟩;exact(Grow.ext U).trans (bx.trans ⟨B,λ_ h=>.inl h,λ_ h=>h⟩)
 intro aB aG;rw[aT gx.p 2 h1 F,et tN.u W,bL,am];have aX:∀(hm:t.marks.getLast? =ν\/∃m,t.marks.getLast? =σ m/\¬(c.st<m.st/\i<m.cells)),t.set i x={t with cells:=t.cells.set i ⟨x,c.st⟩}:=λhm=>by
  unfold aD.set;rw[C];rcases hm with hm|⟨m,hm,bz⟩
  .simp only[hm]
  .simp only[hm];rw[if_neg bz]
 refine⟨λbX=>?_,λbY=>aG _ ⟨A,t,c.st,Grow.refl _ _,h.ext U,C,aX (.inl ?_)⟩⟩
 rotate_left
 .rw[List.getLast?_eq_none_iff];exact b6 Ω
 obtain⟨m,hm⟩:=aI (l:=t.marks) (i:=t.marks.length-1) Ω;have aY:t.marks.getLast? =σ m:=by rw[List.getLast?_eq_getElem?];exact hm
 have:=aq.2.2;rw[aT gx.p 2 h1 F,dI,wrap_i64 Ω Ω,dp (i:=t.marks.length-1) Ω tN.u gO.i W Ω,bN gO.p gO.i F (W.range hm)];refine bu gO.i λap ab b1 aZ bA=>?_;refine b7 (vs:=qM m) gO.i F rfl (by intro v ae;simp[qM]at ae;rcases ae with rfl|rfl|rfl<;>rfl) bA λq B bs bB=>?_;have a1:=aZ.put B Ω;have Z:∀{J:x3},Ext q J->ah J ap gO (qM m):=λU=>bB.ext U;refine aV (λv aH=>v= .bool (decide (c.st<m.st/\i<m.cells))/\Ext q aH) ?_ ?_
 rotate_left
 .intro b2 a2;intro aH s _ _;have I:=a1.trans s;have a6:=Z s;have L:=aS.ext I;rw[aT gx.p 0 (h1.ext I) F,dp F jA.u eS.i L M,aW eS.p F,ax Ψ (L.range C 1 _ F),aL gO.p 2 a6 F,aP,am];refine⟨λa7=>?_,λba=>a2 _ _ ⟨by rw[decide_eq_false];omega,s⟩⟩;rw[aL gO.p 1 a6 F,aP];refine a2 _ _ ⟨?_,s⟩;congr 1;rw[U6,decide_eq_true_eq,decide_eq_true_eq];exact⟨λh=>⟨Ω,Ω⟩,λh=>Ω⟩
 rintro _ aH ⟨rfl,s⟩;have I:=a1.trans s;rw[am];refine⟨λa7=>?_,λba=>aG _ ⟨A,t,c.st,Grow.ext I,(h.ext U).ext I,C,aX (.inr ⟨m,aY,ba⟩)⟩⟩;intro b3 af _ _;have V:=I.trans af;have aJ:=h1.ext V;have L:=aS.ext V;have bC:=au.ext V;have bD:=W.ext V;rw[bZ,aW gx.p F,ax Ψ (aJ.cell F),bZ,aW gx.p F,ax Ψ (aJ.cell F),dp F jA.u eS.i L M,bN eS.p eS.i F (L.range C)];rw[cJ (cs:=#[Δ (i:Int),Δ c.v,.int .u64 (c.st:Int)]) Ψ];let a:mr:=⟨i,c⟩;have bE:∀u∈sw a,u.oneCell'=true:=by intro v ae;simp[sw]at ae;rcases ae with rfl|rfl|rfl<;>rfl
 refine im (f:=sw) (a:=a) o0.u nd.i Ω F rfl λb4 b5 bc b9 z bF=>?_;refine⟨.inl z,?_⟩;have bd:=V.trans z;have aK:=aJ.ext z;have be:=L.ext z;have aM:=bC.ext z;have bf:=bD.ext z;obtain⟨⟨S,az,aC⟩,H,bG⟩:=vh aK be aM bf;refine jo o0.u nd.i F aM (by simpa using bF.sl) bE (by have:=aq.2.1;omega) (by have:=aq.2.1;omega) λbH bI ca ag bJ bg=>?_;rw[bZ,aW gx.p F];have bh:=aK.ac bg az;refine bp o0.i (eO ag.sl).1 (eO ag.sl).2 bh Ξ λaj bi cb aN=>?_;have aN:=aN;have al:ai (λr=>leadsTo O r\/r=gT) bc aj:=(bg.mono λr _ h=>.inl h).trans (bi.mono λr _ h=>.inr h);have bK:=be.ac al λr e he=>he.elim (λhe=>(H r e).1 he) λhe=>S (he▸e);have bO:=bf.ac al λr e he=>he.elim (λhe=>(bG r he).2 e) λhe=>aC (he▸e);have bQ:=ag.ac bi λr e he=>by
  have he:r=gT:=he;subst he;exact cS ag bh Φ e
 have:=bd.size;have:=aZ.size;let aO:ak:=λr=>A r\/bc.heap.size<=r;have bR:Grow A aa aO aj:=⟨(bd.ac A).trans (al.mono λr _ he=>he.elim (λhe=>X r (.inr (.inl he))) λhe=>he▸aR),λr e=>e.imp id λe=>Ω,λr e=>.inl e⟩;have bS:dx aj gT aO {t with olds:=t.olds++[a]}:=⟨.inl aR,N,bI,dl,bb,bH,ef,aN,bK,bQ,bO,λr e=>by
  rcases e with e|e|e
  .exact .inl (X r (.inl e))
  .rcases bJ r e with h|h
   .exact .inl (X r (.inr (.inl h)))
   .exact .inr h
  .exact .inl (X r (.inr (.inr e)))⟩
 have bT:ah aj ap gO (qM m):=(Z ((s.trans af).trans z)).ac al λhe=>by
  rcases he with he|he
  .obtain⟨rfl,ce,bU⟩:=dM aM he;exact absurd (eG bU (Z ((s.trans af).trans z))) Φ
  .subst he;exact absurd (eG aK (Z ((s.trans af).trans z))) Φ
 intro cf aQ _ _;have bV:=bS.ext aQ;obtain⟨ay,N,go,dl,bb,O,ef,E,G,P,Q,R⟩:=bV;rw[aT gx.p 0 E F,aL gO.p 2 (bT.ext aQ) F,dp F jA.u eS.i G M,aW eS.p F];obtain⟨⟨S,az,aC⟩,H,_⟩:=vh E G P Q;refine qB (a':=⟨c.v,m.st⟩) fK.i F rfl G C F Ω λcg ao ch bW=>?_;have aE:t.set i x={t with olds:=t.olds++[a],cells:=t.cells.set i ⟨x,m.st⟩}:=by
  unfold aD.set;rw[C];simp only[aY];rw[if_pos a7]
 refine aG _ ⟨aO,{t with olds:=t.olds++[a],cells:=t.cells.set i ⟨c.v,m.st⟩},m.st,bR.trans ((Grow.ext aQ).trans ⟨ao.mono λr _ e=>R r (.inl e),λ_ h=>.inl h,λ_ h=>h⟩),⟨ay,N,go,dl,bb,O,ef,E.ac ao S,bW,P.ac ao λr e he=>(H r he).1 e,Q.ac ao λr e he=>(H r he).2 e,R⟩,?_,?_⟩
 .show (t.cells.set i _)[i]?=_;rw[b8 M]
 .rw[aE];simp only[List.set_set]
def Ez(n:Nat):dT (#[Δ 0,.int .u64 0]:Array x1) (n*2)=(o8 n (⟨0,0⟩:Cell)).flatMap kL:=by
 have:∀n,dT (#[Δ 0,.int .u64 0]:Array x1) (n*2)=(o8 n (⟨0,0⟩:Cell)).flatMap kL:=by
  intro n;apply Y9;intro j;have q:((o8 n (⟨0,0⟩:Cell)).flatMap kL).length=n*2:=by simp[kL]
  by_cases e:j<n*2
  .have p:(dT (#[Δ 0,.int .u64 0]:Array x1) (n*2))[j]?=σ (if j % 2=0 then Δ 0 else .int .u64 0):=by
    unfold dT;rw[R6,Array.getElem?_map,Array.getElem?_range,if_pos e];rcases Nat.mod_two_eq_zero_or_one j with h|h<;>simp[h]
   have af:=qA (f:=kL) (k:=2) (L:=o8 n (⟨0,0⟩:Cell)) (i:=j / 2) (j:=j % 2) (a:=⟨0,0⟩) (v:=if j % 2=0 then Δ 0 else .int .u64 0) (λa _=>rfl) (by rw[List.getElem?_replicate,if_pos Ω]) (by rcases Nat.mod_two_eq_zero_or_one j with h|h<;>simp[h,kL]);rw[show j / 2*2+j % 2=j by omega]at af;rw[p,af]
  .rw[Z7 (by rw[o6];omega),Z7 Ω]
 exact this n
def PD{A:ak}{t:aD}(h:dx w gT A t)(Q:oi t)(ad:n<=100000000):an x7 JW [Γ gT,Δ (n:Int)] w λv J=>v=Δ (t.cells.length:Int)/\∃aU,Grow A w aU J/\dx J gT aU (t.grow n):=by
 refine aA func209 ?_;refine(Ex h).mono ?_;rintro _ aa _ ⟨rfl,U⟩;refine da (λab=>∃aU,Grow A w aU ab/\dx ab gT aU (t.grow n)) (λab h=>⟨F,h⟩) ?_;intro aB y;refine aV (λv ab=>v= .bool (decide (0<n))/\aa=ab) ?_ ?_
 rotate_left
 .intro ae R;rw[Bv ru.u];simp only[Y0,V8,bX];rw[bL];refine R _ _ ⟨?_,F⟩;congr 1;rw[U6,decide_eq_true_eq,decide_eq_true_eq];omega
 rintro _ _ ⟨rfl,rfl⟩;rw[am];refine⟨λB=>?_,λB=>y _ ⟨A,Grow.ext U,?_⟩⟩
 rotate_left
 .have:n=0:=Ω
  subst this;have e:t.grow 0=t:=by unfold aD.grow;simp
  rw[e];exact h.ext U
 obtain⟨C,af,go,dl,bb,S,ef,h1,E,G,H,f⟩:=id (h.ext U);rw[aT gx.p 0 h1 F];obtain⟨⟨V,W,X⟩,I,ag⟩:=vh h1 E G H;have ah:=Q.1;refine PB (k:=2) F jA.u aj.u eS.i F Ω (λu hu=>?_) E.1 B Ω Ω λK L ab M Y N=>?_
 .exact ya Φ Φ u hu
 rw[bZ,aW gx.p F];have q:bm kL 2 eS ab L K (t.cells++o8 n ⟨0,0⟩):=by
  refine⟨?_,λ_ _=>rfl⟩;have e:(x1.agg #[Δ 0,.int .u64 0]).cells= #[Δ 0,.int .u64 0]:=rfl;rw[e,Ez]at M;rw[r8,List.length_replicate,List.flatMap_append];exact M
 have O:=h1.ac N V;refine bp jA.i (eO q.sl).1 (eO q.sl).2 O Ξ λZ P al s=>?_;have s:=s;have x:ai (λr=>leadsTo bb r\/r=gT) aa Z:=(N.mono λr _ h=>.inl h).trans (P.mono λr _ h=>.inr h);have z:=U.size;refine y _ ⟨λr=>A r\/aa.heap.size<=r,(Grow.ext U).trans ⟨x.mono λr _ he=>he.elim (λhe=>f r (.inl he)) λhe=>he▸C,λr a=>a,λr a=>.inl a⟩,.inl C,L,go,dl,K,S,ef,s,q.ac P λr a he=>?_,G.ac x λr a he=>he.elim (λhe=>(I r he).1 a) λhe=>W (he▸a),H.ac x λr a he=>he.elim (λhe=>(I r he).2 a) λhe=>X (he▸a),λr a=>?_⟩
 .have he:r=gT:=he;subst he;exact cS q O Φ a
 .rcases a with a|a|a
  .exact (Y r a).imp (λh=>f r (.inl h)) id
  .exact .inl (f r (.inr (.inl a)))
  .exact .inl (f r (.inr (.inr a)))
def PE(x:n<=1000):an x7 I0 [Δ (n:Int)] w λv J=>Ext w J/\∃gT,v=Γ gT/\dx J gT (fo w.heap.size) ⟨o8 n ⟨0,0⟩,[],[],0⟩:=by
 refine aA func123 ?_;rw[wZ,Int.max_eq_left Ω];refine BC jA.u eS.i Ω Ω λg aa y h f=>?_;rw[cJ (cs:=#[.slice (σ ⟨g,0,ν⟩) n n,.slice ν 0 0,.slice ν 0 0,.int .u64 0]) Ψ];refine bh λgT ab z p s=>?_;have:=h.size;have e:(x1.agg #[Δ 0,.int .u64 0]).cells= #[Δ 0,.int .u64 0]:=rfl;have f:ah aa g eS ((o8 n (⟨0,0⟩:Cell)).flatMap kL):=by rw[<-Ez,<-e];exact f
 have q:bm kL 2 eS aa g (.slice (σ ⟨g,0,ν⟩) n n) (o8 n ⟨0,0⟩):=by
  refine⟨?_,λ_ _=>rfl⟩;rw[List.length_replicate];exact b1.full f (by simp[kL]) (by simp[maxLen];omega)
 refine⟨h.trans p,gT,F,by show w.heap.size<=gT;omega,g,0,0,_,_,_,s,q.ext p,bm.nil _ _ _ _ _,bm.nil _ _ _ _ _,λr a=>?_⟩;rcases a with a|a|a
 .have:=(q.leads a).1;show w.heap.size<=r;omega
 .exact (eW a).elim
 .exact (eW a).elim
theorem pa{α β:Type}{f:α->List β}:∀{L:List α}{i j:Nat}{a:α},L[i]?=σ a->j<(f a).length->(L.flatMap f)[((L.take i).flatMap f).length+j]?=(f a)[j]?
 |x::L,0,j,a,h,e=>by
  cases h;rw[List.take_zero,List.flatMap_nil,List.length_nil,W0,V0,X0 e]
 |x::L,i+1,j,a,h,e=>by
  have h:L[i]?=σ a:=by simpa using h
  rw[List.take_succ_cons,V0,V0,r8,Q1,X1 Ω,Q3,pa h e]
theorem yi{α β:Type}{f:α->List β}:∀{L:List α}{i j:Nat}{a b:α}{x:β},L[i]?=σ a->j<(f a).length->f b=(f a).set j x->(L.flatMap f).set (((L.take i).flatMap f).length+j) x=(L.set i b).flatMap f
 |y::L,0,j,a,b,x,h,e,p=>by
  cases h;rw[List.take_zero,List.flatMap_nil,List.length_nil,W0,V0,List.set_cons_zero,V0,p,List.set_append_left _ _ e]
 |y::L,i+1,j,a,b,x,h,e,p=>by
  have h:L[i]?=σ a:=by simpa using h
  rw[List.take_succ_cons,V0,V0,r8,Q1,S2 _ _ Ω,Q3,yi h e p,List.set_cons_succ,V0]
def EA{α β:Type}{f:α->List β}{L:List α}{i:Nat}{a:α}(h:L[i]?=σ a)(e:j<(f a).length):((L.take i).flatMap f).length+j<(L.flatMap f).length:=by
 have h1:=pa (f:=f) h e;rw[x6 e]at h1;exact(x4.1 h1).1
structure bC where
 gone:Int
 mask:Int
 un:Λ
structure bS where
 sc:Λ
 al:Λ
 live:Int
 cs:Λ
structure yj where
 v:Int
 sc:Λ
 vf:Λ
structure aq where
 zero:Int
 vars:List bC
 funs:List bS
 iq:List yj
def iT(x:bC):Λ:=x.gone::x.mask::x.un
def fv(x:bS):Λ:=x.live::x.cs
def kg(s:aq):Λ:=[s.zero,(s.funs.length:Int),(s.iq.length:Int)]
def aq.cells(s:aq):Λ:=kg s++(s.vars.flatMap iT++s.funs.flatMap fv)
def gX(s:aq)(i:Nat):Nat:=3+((s.vars.take i).flatMap iT).length
def eZ(s:aq)(j:Nat):Nat:=3+((s.vars.flatMap iT).length+((s.funs.take j).flatMap fv).length)
def PF(s:aq):s.cells[0]?=σ s.zero:=rfl
def sx{s:aq}{i:Nat}{x:bC}(h:s.vars[i]?=σ x)(e:j<x.un.length+2):s.cells[gX s i+j]?=(iT x)[j]?:=by
 have a:j<(iT x).length:=e;unfold aq.cells gX;rw[Q1,X1 (by simp[kg]),show(kg s).length=3 from F,Q3,X0 (EA h a),pa h a]
def yk{s:aq}{i:Nat}{x:bS}(h:s.funs[i]?=σ x)(a:j<x.cs.length+1):s.cells[eZ s i+j]?=(fv x)[j]?:=by
 have e:j<(fv x).length:=a;unfold aq.cells eZ;rw[Q1,Q1,X1 (by simp[kg]),show(kg s).length=3 from F,Q3,X1 Ω,Q3,pa h e]
def PG(s:aq)(c:Int):s.cells.set 0 c=({s with zero:=c}:aq).cells:=rfl
def EB{s:aq}{i:Nat}{x y:bC}(h:s.vars[i]?=σ x)(e:j<x.un.length+2)(f:iT y=(iT x).set j c):s.cells.set (gX s i+j) c=({s with vars:=s.vars.set i y}:aq).cells:=by
 have a:j<(iT x).length:=e;unfold aq.cells gX;rw[Q1,S2 _ _ (by simp[kg]),show(kg s).length=3 from F,Q3,List.set_append_left _ _ (EA h a),yi h a f];rfl
def PH{s:aq}{i:Nat}{x y:bS}(h:s.funs[i]?=σ x)(a:j<x.cs.length+1)(e:fv y=(fv x).set j c):s.cells.set (eZ s i+j) c=({s with funs:=s.funs.set i y}:aq).cells:=by
 have f:j<(fv x).length:=a;unfold aq.cells eZ;rw[Q1,Q1,S2 _ _ (by simp[kg]),show(kg s).length=3 from F,Q3,S2 _ _ Ω,Q3,yi h f e];show _=kg {s with funs:=s.funs.set i y}++_;unfold kg;rw[Z0]
def PI{s:aq}(x:bS):(s.cells++fv x).set 1 ((s.funs.length+1:Nat):Int)=({s with funs:=s.funs++[x]}:aq).cells:=by
 unfold aq.cells;simp only[List.flatMap_append,List.flatMap_singleton,kg,r8,T7,X6];rfl
def sy(s:aq):s.cells.length=3+((s.vars.flatMap iT).length+(s.funs.flatMap fv).length):=by
 unfold aq.cells;rw[r8,r8];rfl
def sz(a sc:Λ):Λ:=sc.map λv=>a.getD v.toNat 0
def sA(k:Int)(a:Int)(p:bC×Int):Int:=if p.1.gone≠0 then a else min (a+p.1.un.getD p.2.toNat 0) k
def sB(k:Int)(a:Λ)(e:Int)(f:bS):Int:=if f.live≠0 then min (e+bo f.al f.cs (sz a f.sc)) k else e
def dropped(mask:Int)(v:Int):Bool:=mask.toNat.testBit v.toNat
def jM(p:bC×Int):Bool:=decide (p.1.gone≠0)|| !dropped p.1.mask p.2
def ir(k:Int)(s:aq)(a:Λ):Int:=if(s.vars.zip a).all jM then s.funs.foldl (sB k a) ((s.vars.zip a).foldl (sA k) s.zero)else k
def mE(s:aq)(a:Λ):Prop:=a.length=s.vars.length/\∀(i:Nat)x v,s.vars[i]?=σ x->a[i]?=σ v->x.gone≠0\/(0<=v/\v<x.un.length)
structure bk(k:Int)(sizes:Λ)(s:aq):Prop where
 en:1<=k/\k<=2147483648
 fT:1<=sizes.length/\sizes.length<=64/\∀z∈sizes,1<=z/\z<=32
 zero:0<=s.zero/\s.zero<=k
 vars:s.vars.length=sizes.length
 var:∀(i:Nat)x z,s.vars[i]?=σ x->sizes[i]?=σ z->x.un.length=z.toNat/\(∀c∈x.un,0<=c/\c<=k)/\0<=x.mask/\x.mask<4294967296
 funs:∀f∈s.funs,gV sizes k (f.sc,f.cs)/\f.al=b2 sizes f.sc/\2<=f.sc.length
def newVar(u:Λ):bC:=⟨0,0,u⟩
def l0(sizes:Λ)(g:cK):bS:=⟨g.1,b2 sizes g.1,1,g.2⟩
def df(n:aH):aq:=⟨n.zero,n.unary.map newVar,n.funs.map (l0 n.sizes),[]⟩
def PJ{n:aH}(h:lj n):bk n.k n.sizes (df n):=by
 refine⟨h.k,h.sizes,h.zero,by simp[df,h.lZ],λi x z U e=>?_,λf af=>?_⟩
 .have U:(n.unary.map newVar)[i]?=σ x:=U;rw[x8]at U;obtain⟨u,hu,rfl⟩:=X7.1 U;obtain⟨h1,a⟩:=h.unary i z u e hu;exact⟨h1,a,Int.le_refl _,by show(0:Int)<_;omega⟩
 .obtain⟨g,p,rfl⟩:=c7.1 af;obtain⟨h1,a⟩:=h.funs g p;exact⟨h1,F,a⟩
def yl{a:Nat}{n:aH}(h:gn w a n):an x7 IF [Γ a] w λv J=>v=Δ (n.sizes.length:Int)/\Ext w J:=by
 obtain⟨q,r,s,x,gr,aZ,L,nm,szv,gz,fv2,h1,e,f,y,z,A,B⟩:=h;refine aA func87 ?_;rw[dh nU.u];simp only[Y0,a8];rw[aT gb.p 0 h1 F,aT cE.p 2 e F,aX ao.u f.ls];exact⟨F,Ext.refl _⟩
def PK{a:Nat}{n:aH}(h:gn w a n):an x7 Jo [Γ a] w λv J=>v=Δ n.k/\Ext w J:=by
 obtain⟨f,q,r,s,gr,aZ,L,nm,szv,gz,fv2,h1,e,x,y,z,A,B⟩:=h;refine aA func153 ?_;rw[dh nU.u];simp only[Y0,a8];rw[aT gb.p 0 h1 F,aT cE.p 1 e F];exact⟨F,Ext.refl _⟩
def PL{a:Nat}{n:aH}(h:gn w a n):an x7 I1 [Γ a] w λv J=>v=Δ n.zero/\Ext w J:=by
 obtain⟨e,f,q,r,gr,aZ,L,nm,szv,gz,fv2,h1,s,x,y,z,A,B⟩:=h;refine aA func125 ?_;rw[dh nU.u];simp only[Y0,a8];rw[aT gb.p 1 h1 F];exact⟨F,Ext.refl _⟩
def EC{a:Nat}{n:aH}(h:gn w a n):an x7 A8 [Γ a] w λv J=>v=Δ (n.funs.length:Int)/\Ext w J:=by
 obtain⟨q,r,s,x,gr,aZ,L,nm,szv,gz,fv2,h1,y,z,A,B,e,f⟩:=h;refine aA func128 ?_;rw[dh nU.u];simp only[Y0,a8];rw[aT gb.p 3 h1 F,et mn.u e.1];exact⟨by rw[<-f,r9],Ext.refl _⟩
def ED{x:Nat}{n:aH}{i:Int}(h:gn w x n)(f:lj n):an x7 I2 [Γ x,Δ i] w λv J=>Ext w J/\(¬(0<=i/\i<n.sizes.length)->v= .slice ν 0 0)/\
  ∀u,0<=i->n.unary[i.toNat]?=σ u->∃g,w.heap.size<=g/\ay .i64 av J g v u:=by
 refine aA func126 ?_;have:=f.lZ;refine aV (λv aa=>v= .bool (decide (¬(0<=i/\i<n.sizes.length)))/\Ext w aa) ?_ ?_
 .rintro _ aa ⟨rfl,e⟩;rw[am];refine⟨λE=>⟨e,λ_=>rfl,λu G hu=>?_⟩,λq=>?_⟩
  .have:=(x4.1 hu).1;exact absurd ⟨G,Ω⟩ E
  have q:=Y3.1 q;obtain⟨N,O,P,Q,gr,aZ,L,nm,szv,gz,fv2,h1,R,S,r,y,U,V⟩:=h.ext e;have W:aZ.length=n.unary.length:=by rw[<-y,r9]
  obtain⟨a,s⟩:=aI (l:=aZ) (i:=i.toNat) Ω;obtain⟨X,hm⟩:=r.2 a (x5 s);rw[aT gb.p 2 h1 F,dp (i:=i.toNat) Ω dW.u az.i r.1 Ω,ax (o:=i.toNat*1) Ψ (r.1.range s 0 _ F)];have A:n.unary[i.toNat]?=σ a.l:=by rw[<-y,x8,s];rfl
  have Y:a.l.length<=32:=by
   obtain⟨z,B⟩:=aI (l:=n.sizes) (i:=i.toNat) Ω;have:=(f.unary i.toNat z a.l B A).1;have:=f.sizes.2.2 z (x5 B);omega
  refine(w6 hm.ls Ω).mono ?_;rintro v ab _ ⟨H,g,ad,I⟩;refine⟨e.trans H,λK=>absurd q K,λu _ hu=>⟨g,by have:=e.size;omega,?_⟩⟩;rw[A]at hu;cases hu;exact I
 .intro aB C;rw[aP,am];refine⟨λae=>C _ _ ⟨by rw[decide_eq_true];omega,Ext.refl _⟩,λaf=>?_⟩;refine(yl h).mono ?_;rintro _ aa _ ⟨rfl,e⟩;rw[cO];refine C _ _ ⟨?_,e⟩;congr 1;rw[U6,decide_eq_true_eq,decide_eq_true_eq];omega
def EE{p:Nat}{n:aH}{i:Int}(h:gn w p n)(a:lj n):an x7 IK [Γ p,Δ i] w λv J=>Ext w J/\v=Δ (if 0<=i then n.sizes.getD i.toNat 0 else 0):=by
 refine aA func92 ?_;refine(ED h a).mono ?_;rintro v aa _ ⟨q,s,x⟩;by_cases e:0<=i/\i<n.sizes.length
 .have y:=a.lZ;obtain⟨u,hu⟩:=aI (l:=n.unary) (i:=i.toNat) Ω;obtain⟨z,f⟩:=aI (l:=n.sizes) (i:=i.toNat) Ω;obtain⟨g,_,hm⟩:=x u e.1 hu;rw[aX az.u hm.ls];refine⟨q,?_⟩;have:=(a.unary i.toNat z u f hu).1;have:=a.sizes.2.2 z (x5 f);rw[if_pos e.1,u4,f];congr 1;simp only[V2];omega
 .rw[s e,ii az.u];refine⟨q,?_⟩;by_cases r:0<=i
  .rw[if_pos r,u4,Z7 Ω];rfl
  .rw[if_neg r];rfl
def EF{a:Nat}{n:aH}{j:Int}(h:gn w a n)(f:∀J,Ext w J->K (.bool (decide (¬(0<=j/\j<n.funs.length)))) J):
  ad x7 (aO .lss aj false true (Δ j) (Δ 0)) w λq=>Split q (K (.bool true) w) (an x7 A8 [Γ a] w λr p=>ad x7 (aO .geq aj false false (Δ j) r) p λs=>K s p):=by
 rw[aP,am];refine⟨λy=>?_,λz=>?_⟩
 .have:=f w (Ext.refl _);rw[decide_eq_true (show¬(0<=j/\j<n.funs.length) by omega)]at this;exact this
 .refine (EC h).mono ?_;rintro _ aa _ ⟨rfl,x⟩;rw[cO];have:=f aa x;have e:decide ((n.funs.length:Int)<=j)=decide (¬(0<=j/\j<n.funs.length)):=by
   rw[U6,decide_eq_true_eq,decide_eq_true_eq];omega
  rw[<-e]at this;exact this
def PM{s:Nat}{n:aH}{g:cK}(h:gn w s n)(z:lj n)(e:n.funs[j]?=σ g):an x7 I4 [Γ s,Δ (j:Int)] w λv J=>Ext w J/\∃gs,w.heap.size<=gs/\ay .i64 aj J gs v g.1:=by
 refine aA func130 ?_;have E:=(x4.1 e).1;refine aV (λv aa=>v= .bool (decide (¬(0<=(j:Int)/\(j:Int)<n.funs.length)))/\Ext w aa) ?_ λaB A=>EF h λJ U=>A _ _ ⟨F,U⟩;rintro _ aa ⟨rfl,f⟩;rw[decide_eq_false Ω,a8];obtain⟨G,H,I,K,gr,aZ,L,nm,szv,gz,fv2,h1,M,N,O,P,q,x⟩:=h.ext f;have Q:L.length=n.funs.length:=by rw[<-x,r9]
 obtain⟨a,r⟩:=aI (l:=L) (i:=j) Ω;have y:dX a=g:=by rw[<-x,x8,r]at e;exact Z3 e
 obtain⟨⟨R,hm⟩,_⟩:=q.2 a (x5 r);rw[aT gb.p 3 h1 F,dp F mn.u iF.i q.1 Ω,aW iF.p F,ax Ψ (q.1.range r 0 _ F)];have S:a.sc.length<=6:=by
  have:=(z.funs g (x5 e)).1.scope.2;rw[<-y]at this;exact this
 refine(lP hm.ls Ω).mono ?_;rintro v ab _ ⟨B,gs,V,C⟩;refine⟨f.trans B,gs,by have:=f.size;omega,?_⟩;rw[<-y];exact C
def PN{g:Nat}{cs:Λ}(h:di w g B sv al k cs):an x7 JY [Γ g] w λv J=>Ext w J/\∃a e,v=Γ a/\w.heap.size<=a/\w.heap.size<=e/\di J a e sv al k cs:=by
 obtain⟨⟨bb,gs,C,hm,E⟩,⟨h1,K,G⟩,V,x⟩:=h;refine aA func211 ?_;rw[dh e7.u];simp only[Y0,a8];intro aa f _ _;have r:=C.ext f;have:=prod_bound V;rw[bZ,aW cX.p F,bN (cs:=[sv]) bD.p bD.i F (pe r (by
  intro j v ae
  match j,ae with
  |0,ae=>exact ae)),aT cX.p 1 r F,aT cX.p 2 r F]
 refine(w6 (E.ls.ext f) Ω).mono ?_;rintro y ab _ ⟨s,e,M,q⟩;refine⟨.inl s,?_⟩;rw[cJ (cs:=#[sv,Δ k,y]) (by obtain⟨_,_,_,rfl⟩:=c6 hm.ls;obtain⟨_,_,_,rfl⟩:=c6 q.ls;kernel_rfl)];refine bh λa N O z H=>?_;have:=f.size;have:=s.size;have:=q;have A:=(f.trans s).trans z;refine⟨A,a,e,F,Ω,Ω,⟨y,gs,H,hm.ext A,q.ext z⟩,⟨?_,?_,G⟩,V,x⟩
 .have:=uV q (by rw[x];omega);omega
 .intro I;obtain⟨S,U⟩:=bR hm I;omega
def PO{n:aH}{g:cK}(A:gn w0 z n)(B:Ext w0 w)(f:n.funs[j]?=σ g):an x7 I5 [Γ z,Δ (j:Int)] w λv J=>Ext w J/\∃gt q sv,v=Γ gt/\w.heap.size<=gt/\w.heap.size<=q/\di J gt q sv (b2 n.sizes g.1) n.k g.2/\∀r,leads sv r->∃c,ah w0 r aj c:=by
 have h:=A.ext B;refine aA func131 ?_;have:=(x4.1 f).1;refine aV (λv aa=>v= .bool (decide (¬(0<=(j:Int)/\(j:Int)<n.funs.length)))/\Ext w aa) ?_ λaB I=>EF h λJ U=>I _ _ ⟨F,U⟩;rintro _ aa ⟨rfl,s⟩;rw[decide_eq_false Ω,a8];have e:=B.trans s;obtain⟨V,W,X,Y,gr,aZ,L,nm,szv,gz,fv2,h1,Z,ac,ad,af,x,C⟩:=A;have ag:L.length=n.funs.length:=by rw[<-C,r9]
 obtain⟨a,y⟩:=aI (l:=L) (i:=j) Ω;have K:dX a=g:=by rw[<-C,x8,y]at f;exact Z3 f
 obtain⟨_,q,M,E⟩:=x.2 a (x5 y);rw[aT gb.p 3 (h1.ext e) F,dp F mn.u iF.i (x.1.ext e) Ω,aW iF.p F,ax Ψ ((x.1.ext e).range y 1 _ F)];refine(PN (E.ext e)).mono ?_;rintro v ab _ ⟨N,gt,O,rfl,ai,ak,P⟩;have:=s.size;refine⟨s.trans N,gt,O,M,F,Ω,Ω,?_,λr G=>?_⟩
 .rw[<-K];exact P
 .obtain⟨⟨_,_,_,hm,_⟩,_⟩:=E;obtain⟨Q,_⟩:=bR hm G;rcases hm.2 with⟨ae,_⟩|⟨_,cs,_,R,_⟩
  .obtain⟨_,_,_,H,am⟩:=G;rw[ae]at H;cases H
  .exact⟨cs,Q▸R⟩
structure qN where
 aQ:x1
 szv:x1
 at_:Nat
def qO(x:qN):List x1:=[x.aQ,x.szv,Δ (x.at_:Int)]
structure sC where
 v:Int
 aQ:x1
 bv:x1
def PP(x:sC):List x1:=[Δ x.v,x.aQ,x.bv]
def jN(s:aq):Λ:=(Z4 s.vars.length).map λi=>(gX s i:Int)
def kh(R:ak)(w:x3)(v:x1)(l:Λ):Prop:=(∃g,ay .i64 aj w g v l)/\∀r,leads v r->R r
def kh.ls{R:ak}(h:kh R w v l):aK .i64 w v l:=by
 obtain⟨⟨g,h⟩,_⟩:=h;exact h.ls
def kh.ac{R S:ak}(h:kh R w v l)(f:ai S w J)(p:∀r,r<w.heap.size->R r->¬S r):kh R J v l:=by
 obtain⟨⟨g,h1⟩,a⟩:=h;exact⟨⟨g,bw h1 f λr e=>p r (by obtain⟨q,s⟩:=bR h1 e;omega) (a r e)⟩,a⟩
def kh.mono{R R':ak}(h:kh R w v l)(a:∀r,R r->R' r):kh R' w v l:=⟨h.1,λr e=>a r (h.2 r e)⟩
def mF(R:ak)(w:x3)(L:List qN)(s:aq):Prop:=L.length=s.funs.length/\∀(j:Nat)x f,L[j]?=σ x->s.funs[j]?=σ f->kh R w x.aQ f.sc/\kh R w x.szv f.al/\x.at_=eZ s j
def ny(R:ak)(w:x3)(E:List sC)(s:aq):Prop:=E.length=s.iq.length/\∀(j:Nat)x e,E[j]?=σ x->s.iq[j]?=σ e->x.v=e.v/\kh R w x.aQ e.sc/\kh R w x.bv e.vf
def mF.ac{R S:ak}{L:List qN}{s:aq}(h:mF R w L s)(a:ai S w J)(e:∀r,r<w.heap.size->R r->¬S r):mF R J L s:=⟨h.1,λj x f U af=>by
 obtain⟨h1,p,q⟩:=h.2 j x f U af;exact⟨h1.ac a e,p.ac a e,q⟩⟩
def ny.ac{R S:ak}{E:List sC}{s:aq}(h:ny R w E s)(a:ai S w J)(e:∀r,r<w.heap.size->R r->¬S r):ny R J E s:=⟨h.1,λj x f U af=>by
 obtain⟨h1,p,q⟩:=h.2 j x f U af;exact⟨h1,p.ac a e,q.ac a e⟩⟩
def mF.mono{R R':ak}{L:List qN}{s:aq}(h:mF R w L s)(a:∀r,R r->R' r):mF R' w L s:=⟨h.1,λj x f U af=>by
 obtain⟨h1,e,p⟩:=h.2 j x f U af;exact⟨h1.mono a,e.mono a,p⟩⟩
def ny.mono{R R':ak}{E:List sC}{s:aq}(h:ny R w E s)(a:∀r,R r->R' r):ny R' w E s:=⟨h.1,λj x f U af=>by
 obtain⟨h1,e,p⟩:=h.2 j x f U af;exact⟨h1,e.mono a,p.mono a⟩⟩
def vj{a b c:x3}(h:Ext a b)(k:ai S b c)(f:∀r o,a.heap[r]?=σ o->fF o=true->¬S r):Ext a c:=
 ⟨X3 h.size k.size,λr o e V=>k.a6 r o (h.a6 r o e V) V (f r o e V)⟩
def dx.cut{A:ak}{t:aD}(h:dx w gT A t):dx w gT (λr=>A r/\r<w.heap.size) t:=by
 obtain⟨x,y,go,dl,bb,z,ef,h1,e,f,p,B⟩:=h;refine⟨⟨x,h1.lt⟩,y,go,dl,bb,z,ef,h1,e,f,p,λr a=>⟨B r a,?_⟩⟩;rcases a with a|a|a
 .obtain⟨q,s⟩:=e.leads a;omega
 .obtain⟨q,s⟩:=f.leads a;omega
 .obtain⟨q,s⟩:=p.leads a;omega
def eP(w:x3)(ag gT p:Nat)(e f h:x1)(A R:ak)(n:aH)(s:aq)(t:aD):Prop:=
 (A ag/\(∀r,A r->¬R r)/\(∀r,R r->r<w.heap.size)/\∀r,A r->r<w.heap.size)/\∃ba q ge,∃(L:List qN)(E:List sC)(a:ak)(w0:x3),
  ah w ag cN [Γ p,Γ gT,e,f,h]/\(gn w0 p n/\Ext w0 w/\∀r o,w0.heap[r]?=σ o->fF o=true->R r)/\
  (dx w gT a t/\(∀r,a r->A r)/\¬a ag/\∀r,leads e r\/leadsTo f r\/leadsTo h r->A r/\¬a r)/\ay .i64 aj w ba e (jN s)/\
  (bm qO 3 fk w q f L/\mF R w L s)/\bm PP 3 wU w ge h E/\ny R w E s
def eP.ac{S:ak}{C F G:x1}{A R:ak}{n:aH}{s:aq}{t:aD}(h:eP w ag gT B C F G A R n s t)(e:ai S w J)(f:∀r,r<w.heap.size->A r\/R r->¬S r):eP J ag gT B C F G A R n s t:=by
 obtain⟨⟨h1,p,X,Y⟩,ba,Z,ge,L,E,aa,w0,H,⟨ab,I,K⟩,⟨ad,q,ae,x⟩,M,⟨N,af⟩,O,ah⟩:=h;have:=e.size;refine⟨⟨h1,p,λr a=>by have:=X r a;omega,λr a=>by have:=Y r a;omega⟩,ba,Z,ge,L,E,aa,w0,H.ac e (f _ H.lt (.inl h1)),⟨ab,vj I e λr o a aj V=>f r (by have:=I.size;have:=(j9.1 a).1;omega) (.inr (K r o a aj)) V,K⟩,
  ⟨?_,q,ae,x⟩,bw M e λr a V=>f r ?_ (.inl (x r (.inl a)).1) V,⟨N.ac e λr a V=>f r ?_ (.inl (x r (.inr (.inl a))).1) V,af.ac e λr a h=>f r a (.inr h)⟩,O.ac e λr a V=>f r ?_ (.inl (x r (.inr (.inr a))).1) V,ah.ac e λr a h=>f r a (.inr h)⟩
 .obtain⟨P,al,go,dl,bb,am,ef,Q,T,U,W,y⟩:=ad;refine⟨P,al,go,dl,bb,am,ef,Q.ac e (f _ Q.lt (.inl (q _ P))),T.ac e λr a V=>?_,U.ac e λr a V=>?_,W.ac e λr a V=>?_,y⟩
  .exact f r (by obtain⟨h1,p⟩:=T.leads a;omega) (.inl (q _ (y r (.inl a)))) V
  .exact f r (by obtain⟨h1,p⟩:=U.leads a;omega) (.inl (q _ (y r (.inr (.inl a))))) V
  .exact f r (by obtain⟨h1,p⟩:=W.leads a;omega) (.inl (q _ (y r (.inr (.inr a))))) V
 .obtain⟨h1,p⟩:=bR M a;omega
 .obtain⟨h1,p⟩:=N.leads a;omega
 .obtain⟨h1,p⟩:=O.leads a;omega
def eP.ext{a:Nat}{e f p:x1}{A R:ak}{n:aH}{s:aq}{t:aD}(h:eP w ag gT a e f p A R n s t)(U:Ext w J):eP J ag gT a e f p A R n s t:=h.ac (U.ac λ_=>False) λ_ _ _ h=>h
def eP.sD{F:Nat}{G H I:x1}{A R:ak}{n:aH}{s:aq}{t:aD}(h:eP w ag gT F G H I A R n s t):∃x,dx w gT x t/\∀q J bt,Grow x w q J->dx J gT q bt->∃aU,Grow A w aU J/\eP J ag gT F G H I aU R n s bt:=by
 obtain⟨⟨h1,f,K,M⟩,ba,Y,ge,L,E,x,w0,N,⟨Z,aa,O⟩,⟨ab,p,P,y⟩,Q,⟨S,ad⟩,T,ae⟩:=h;refine⟨x,ab,λU J bt z af=>?_⟩;have W:=af.cut;have e:Grow x w (λr=>U r/\r<J.heap.size) J:=⟨z.1,λr a=>z.2.1 r a.1,λr a=>⟨z.2.2 r a,by have:=M r (p r a);have:=z.1.size;omega⟩⟩;obtain⟨q,X⟩:∃B:ak,B=λr=>U r/\r<J.heap.size:=⟨_,rfl⟩;rw[<-X]at W e;have ah:∀r,q r->r<J.heap.size:=λr h=>by rw[X]at h;exact h.2
 refine⟨λr=>A r\/q r,⟨e.1.mono λr _ a=>p r a,λr a=>?_,λr a=>.inl a⟩,⟨.inl h1,λr a C=>?_,λr a=>?_,λr a=>?_⟩,ba,Y,ge,L,E,q,w0,N.ac e.1 P,⟨Z,vj aa e.1 λr o a ai V=>f r (p r V) (O r o a ai),O⟩,
  ⟨W,λr a=>.inr a,λa=>?_,λr a=>⟨.inl (y r a).1,λaj=>?_⟩⟩,bw Q e.1 λr a V=>(y r (.inl a)).2 V,⟨S.ac e.1 λr a V=>(y r (.inr (.inl a))).2 V,ad.ac e.1 λr _ a V=>f r (p r V) a⟩,T.ac e.1 λr a V=>(y r (.inr (.inr a))).2 V,ae.ac e.1 λr _ a V=>f r (p r V) a⟩
 .rcases a with a|a
  .exact .inl a
  .exact (e.2.1 r a).imp (p r) id
 .have:=K r C;rcases a with a|a
  .exact f r a C
  .rcases e.2.1 r a with h|h
   .exact f r (p r h) C
   .omega
 .have:=K r a;have:=e.1.size;omega
 .rcases a with a|a
  .have:=M r a;have:=e.1.size;omega
  .exact ah r a
 .rcases e.2.1 _ a with h|h
  .exact P h
  .have:=N.lt;omega
 .rcases e.2.1 r aj with h|h
  .exact (y r a).2 h
  .rcases a with a|a|a
   .obtain⟨h1,f⟩:=bR Q a;omega
   .obtain⟨h1,f⟩:=S.leads a;omega
   .obtain⟨h1,f⟩:=T.leads a;omega
def StateM(w:x3)(ag gT:Nat)(A R:ak)(n:aH)(s:aq)(t:aD):Prop:=∃a e f h,eP w ag gT a e f h A R n s t
def StateM.ac{S:ak}{A R:ak}{n:aH}{s:aq}{t:aD}(h:StateM w ag gT A R n s t)(a:ai S w J)(e:∀r,r<w.heap.size->A r\/R r->¬S r):StateM J ag gT A R n s t:=by
 obtain⟨f,p,q,x,h⟩:=h;exact⟨f,p,q,x,h.ac a e⟩
def StateM.ext{A R:ak}{n:aH}{s:aq}{t:aD}(h:StateM w ag gT A R n s t)(U:Ext w J):StateM J ag gT A R n s t:=h.ac (U.ac λ_=>False) λ_ _ _ h=>h
def StateM.sD{A R:ak}{n:aH}{s:aq}{t:aD}(h:StateM w ag gT A R n s t):∃a,dx w gT a t/\∀e J bt,Grow a w e J->dx J gT e bt->∃aU,Grow A w aU J/\StateM J ag gT aU R n s bt:=by
 obtain⟨f,p,q,r,h⟩:=h;obtain⟨a,h1,x⟩:=h.sD;exact⟨a,h1,λe J bt y z=>by
  obtain⟨aU,B,C⟩:=x e J bt y z;exact⟨aU,B,f,p,q,r,C⟩⟩
def pA(s s':aq):Prop:=jN s'=jN s/\s'.funs.length=s.funs.length/\(∀(j:Nat)a,s'.funs[j]?=σ a->∃f,s.funs[j]?=σ f/\a.sc=f.sc/\a.al=f.al/\eZ s' j=eZ s j)/\s'.iq=s.iq
def eP.same{a:Nat}{e p q:x1}{A R:ak}{n:aH}{s s':aq}{t:aD}(h:eP w ag gT a e p q A R n s t)(V:pA s s'):eP w ag gT a e p q A R n s' t:=by
 obtain⟨aC,ba,y,ge,L,E,z,w0,B,C,F,G,⟨H,r⟩,I,J⟩:=h;obtain⟨K,M,N,O⟩:=V;refine⟨aC,ba,y,ge,L,E,z,w0,B,C,F,by rw[K];exact G,⟨H,r.1.trans M.symm,λj x P U Q=>?_⟩,I,?_⟩
 .obtain⟨f,af,S,T,W⟩:=N j P Q;rw[S,T,W];exact r.2 j x f U af
 .unfold ny;rw[O];exact J
def StateM.same{A R:ak}{n:aH}{s s':aq}{t:aD}(h:StateM w ag gT A R n s t)(V:pA s s'):StateM w ag gT A R n s' t:=by
 obtain⟨a,e,f,p,h⟩:=h;exact⟨a,e,f,p,h.same V⟩
theorem vk{α β:Type}{f:α->List β}:∀{L:List α}{i j:Nat}{a b:α},L[i]?=σ a->(f b).length=(f a).length->(((L.set i b).take j).flatMap f).length=((L.take j).flatMap f).length
 |[],_,_,_,_,h,_=>by simp at h
 |x::L,0,j,a,b,h,e=>by
  cases h;cases j with
  |zero=>rfl
  |succ j=>simp[e]
 |x::L,i+1,j,a,b,h,e=>by
  have h:L[i]?=σ a:=by simpa using h
  cases j with
  |zero=>rfl
  |succ j=>
   rw[List.set_cons_succ,List.take_succ_cons,List.take_succ_cons,V0,V0,r8,r8,vk h e]
def EG(s:aq)(c:Int):pA s {s with zero:=c}:=⟨F,F,λj f h=>⟨f,h,F,F,F⟩,F⟩
def EH{s:aq}{i:Nat}{x y:bC}(U:s.vars[i]?=σ x)(a:y.un.length=x.un.length):pA s {s with vars:=s.vars.set i y}:=by
 have af:(iT y).length=(iT x).length:=by simp[iT,a]
 refine⟨?_,F,λj f h=>⟨f,h,F,F,?_⟩,F⟩
 .unfold jN;rw[show({s with vars:=s.vars.set i y}:aq).vars.length=s.vars.length from Z0];apply List.map_congr_left;intro j _;unfold gX;rw[vk U af]
 .unfold eZ;have:=vk (j:=s.vars.length) U af;rw[Z2 Ξ,Z2 (o4 _)]at this;show 3+(((s.vars.set i y).flatMap iT).length+_)=_;rw[this]
def PQ{s:aq}{i:Nat}{x y:bS}(U:s.funs[i]?=σ x)(p:y.cs.length=x.cs.length)(h1:y.sc=x.sc)(q:y.al=x.al):pA s {s with funs:=s.funs.set i y}:=by
 have af:(fv y).length=(fv x).length:=by simp[fv,p]
 refine⟨F,Z0,λj f h=>?_,F⟩;have h:(s.funs.set i y)[j]?=σ f:=h;have e:eZ {s with funs:=s.funs.set i y} j=eZ s j:=by
  unfold eZ;show 3+(_+(((s.funs.set i y).take j).flatMap fv).length)=_;rw[vk U af]
 by_cases a:i=j
 .subst a;rw[b8 (x4.1 U).1]at h;cases h;exact⟨x,U,h1,q,e⟩
 .rw[Y6 a]at h;exact⟨f,h,F,F,e⟩
def aD.ym(t:aD)(i:Nat)(x:Int):(t.set i x).marks=t.marks:=by
 unfold aD.set;cases t.cells[i]? with
 |none=>rfl
 |some c=>
  simp only;cases t.marks.getLast? with
  |none=>rfl
  |some m=>simp only;split<;>rfl
def aD.EI(t:aD)(i:Nat)(x:Int):(t.set i x).kF=t.kF:=by
 unfold aD.set;cases t.cells[i]? with
 |none=>rfl
 |some c=>
  simp only;cases t.marks.getLast? with
  |none=>rfl
  |some m=>simp only;split<;>rfl
def aD.EJ(t:aD)(i:Nat)(x:Int):(t.set i x).cells.length=t.cells.length:=by
 have h:=congrArg R2 (aD.rF (t:=t) (i:=i) (x:=x));rw[Z0]at h;unfold aD.bY at h;rwa [r9,r9]at h
def aD.EK(t:aD)(i:Nat)(x:Int):(t.set i x).olds.length<=t.olds.length+1:=by
 unfold aD.set;cases t.cells[i]? with
 |none=>exact Nat.le_succ _
 |some c=>
  simp only;cases t.marks.getLast? with
  |none=>exact Nat.le_succ _
  |some m=>simp only;split<;>simp
def aD.yn{t:aD}(h:t.marks=[])(i:Nat)(x:Int):(t.set i x).olds=t.olds:=by
 unfold aD.set;cases t.cells[i]? with
 |none=>rfl
 |some c=>simp only[h,List.getLast?_nil]
def fU(t:aD)(l:Λ):Nat->aD
 |0=>t.grow l.length
 |i+1=>(fU t l i).set (t.cells.length+i) (l.getD i 0)
def oj(t:aD)(l:Λ):aD:=fU t l l.length
theorem sE(t:aD)(l:Λ):∀i,(fU t l i).marks=t.marks
 |0=>rfl
 |i+1=>(aD.ym _ _ _).trans (sE t l i)
theorem EL(t:aD)(l:Λ):∀i,(fU t l i).kF=t.kF
 |0=>rfl
 |i+1=>(aD.EI _ _ _).trans (EL t l i)
theorem yo(t:aD)(l:Λ):∀i,(fU t l i).cells.length=t.cells.length+l.length
 |0=>by simp[fU,aD.grow]
 |i+1=>(aD.EJ _ _ _).trans (yo t l i)
theorem yp(t:aD)(l:Λ):∀i,(fU t l i).olds.length<=t.olds.length+i
 |0=>o4 _
 |i+1=>by have:=aD.EK (fU t l i) (t.cells.length+i) (l.getD i 0);have:=yp t l i;show(aD.set _ _ _).olds.length<=_;omega
theorem EM{t:aD}(h:t.marks=[])(l:Λ):∀i,(fU t l i).olds=t.olds
 |0=>rfl
 |i+1=>(aD.yn ((sE t l i).trans h) _ _).trans (EM h l i)
theorem EN(t:aD)(l:Λ):∀i,i<=l.length->(fU t l i).bY=t.bY++(l.take i++o8 (l.length-i) 0)
 |0,_=>by rw[List.take_zero,List.nil_append];exact aD.Lo
 |i+1,h=>by
  have a:=EN t l i Ω;show(aD.set _ _ _).bY=_;have e:t.bY.length=t.cells.length:=by simp[aD.bY]
  rw[aD.rF,a,S2 _ _ Ω,e,Q3,S2 _ _ (by rw[j6];omega),j6,Nat.min_eq_left Ω,U9,show l.length-i=(l.length-(i+1))+1 by omega,List.replicate_succ,List.set_cons_zero,u9,u4,x6 (show i<l.length by omega)];simp only[j4,V2,X6,List.singleton_append]
def EO(t:aD)(l:Λ):(oj t l).bY=t.bY++l:=by
 unfold oj;rw[EN t l _ (o4 _),o9,U9,List.replicate_zero,Y8]
theorem iJ.fU{h:List aD}{t:aD}(hk:iJ t h)(l:Λ):∀i,iJ (fU t l i) h
 |0=>hk.grow
 |i+1=>(iJ.fU hk l i).set
def mz{s:Go.Sem x1}{x:x1}(h:ad x7 s w (λv=>v=x)):cD x7 s x w:=by
 obtain⟨v,h,rfl⟩:=h;exact h
def vl{a:Nat}{f:p8}{x:x1}(h:ah w ag e cs)(p:∀(K:x1->Prop),ad x7 (u6 cN (Γ ag) z) w K=K (.pointer (σ ⟨ag,0+a,ν⟩)))(q:k5 x7 f=true)(r:cs[0+a]?=σ x):
  cD x7 (u5 f (.pointer (σ ⟨ag,0+a,ν⟩))) x w/\cD x7 (u6 cN (Γ ag) z) (.pointer (σ ⟨ag,0+a,ν⟩)) w/\cD x7 (bP (Γ ag)) (Γ ag) w/\True:=
 ⟨uh q (h.cell r),mz (by rw[p]),mz (by rw[bZ]),trivial⟩
def EP(w:x3)(r:Nat):Prop:=∃e c,ah w r e c/\(e=gx\/e=eS\/e=nd\/e=gO\/e=cN\/e=fk\/e=wU)
def eA(w:x3)(r:Nat):Prop:=EP w r\/∀o,w.heap[r]?=σ o->fF o≠true
def ol{aa:x3}(hk:∀o,w.heap[r]?=σ o->fF o=true->¬eA w r->aa.heap[r]?=σ o)(h:eA aa r):eA w r:=by
 by_cases a:eA w r
 .exact a
 .refine absurd (.inr λo p V=>?_) a;have h1:=hk o p V a;rcases h with⟨e,c,f,he⟩|q
  .refine a (.inl ⟨e,c,?_,he⟩);unfold ah at f ⊢;rw[h1]at f;rw[p];exact f
  .exact q o h1 V
def lk{aa ab:x3}(U:Ext w aa)(a:ai (eA aa) aa ab):ai (eA w) w ab:=(U.ac _).trans (a.mono λr _ h=>ol (λo e V _=>U.a6 r o e V) h)
def yq{aa ab:x3}(h:ai (eA w) w aa)(a:ai (eA aa) aa ab):ai (eA w) w ab:=h.trans (a.mono λr _ e=>ol (λo f V p=>h.a6 r o f V p) e)
def dx.min{A:ak}{t:aD}(h:dx w gT A t):dx w gT (λr=>A r/\EP w r) t:=by
 obtain⟨s,x,go,dl,bb,y,ef,h1,f,p,q,z⟩:=h;refine⟨⟨s,_,_,h1,.inl F⟩,x,go,dl,bb,y,ef,h1,f,p,q,λr a=>⟨z r a,?_⟩⟩;rcases a with a|a|a
 .obtain⟨rfl,c,e⟩:=dM f a;exact⟨_,c,e,.inr (.inl F)⟩
 .obtain⟨rfl,c,e⟩:=dM p a;exact⟨_,c,e,.inr (.inr (.inl F))⟩
 .obtain⟨rfl,c,e⟩:=dM q a;exact⟨_,c,e,.inr (.inr (.inr (.inl F)))⟩
def eP.yr{p:Nat}{q x y:x1}{A R:ak}{n:aH}{s:aq}{t:aD}(h:eP w ag gT p q x y A R n s t):∃a,dx w gT a t/\∀z J bt,Grow a w z J->dx J gT z bt->ai (eA w) w J/\∃aU,Grow A w aU J/\eP J ag gT p q x y aU R n s bt:=by
 obtain⟨a,B,C⟩:=h.sD;refine⟨_,B.min,λE aa bt e F=>⟨e.1.mono λr _ h=>.inl h.2,?_⟩⟩;exact C (λr=>a r\/E r) aa _ ⟨e.1.mono λr _ h=>h.1,λr f=>f.elim .inl λh=>(e.2.1 r h).imp (λh=>h.1) id,λr f=>.inl f⟩ (F.mono λr h=>.inr h)
def EQ{B C G:x1}{A R:ak}{n:aH}{s:aq}{t:aD}{cR:x1}(h:eP w ag gT z B C G A R n s t)(H:aK .i64 w cR l)(Q:∀r,leads cR r->¬A r)(aG:t.cells.length+l.length<=100000000)(aJ:t.olds.length+l.length<=100000000)(hm:t.marks.length<=100000000):
  an x7 A7 [Γ ag,cR] w λv J=>v=Δ (t.cells.length:Int)/\ai (eA w) w J/\∃aU,Grow A w aU J/\eP J ag gT z B C G aU R n s (oj t l):=by
 refine aA func127 ?_;obtain⟨_,ba,S,ge,L,E,_,w0,I,_⟩:=id h;obtain⟨V,K,M⟩:=h.yr;rw[aT cN.p 1 I F,aX az.u H];refine(PD K ⟨Ω,Ω,hm⟩ Ω).mono ?_;rintro _ aa _ ⟨rfl,W,X,Y⟩;obtain⟨Z,ac,O,ad⟩:=M W aa _ X Y;have P:∀{aU:ak}{J:x3},Grow A w aU J->aK .i64 J cR l:=λaf=>ji H af.1 λr ah a aj c ae al=>Q r ⟨a,aj,c,ae,al⟩ ah;rw[aX az.u (P O)];have ao:=H.le;refine cq.range l.length (λi ab=>ai (eA w) w ab/\∃f,Grow A w f ab/\eP ab ag gT z B C G f R n s (fU t l i)) ao ⟨Z,ac,O,ad⟩ ?_ ?_
 .rintro i ab k hi ⟨N,f,q,y⟩ hk;refine bB Ω ?_;obtain⟨x,U⟩:=aI (l:=l) hi;rw[be az.u av.i Ψ (P q) U];obtain⟨_,ba,S,ge,L,E,_,w0,I,_⟩:=id y;obtain⟨V,K,M⟩:=y.yr;have:=yo t l i;have:=yp t l i;have ap:=sE t l i;rw[aT cN.p 1 I F,aM,wrap_i64 Ω Ω];refine(vi (i:=t.cells.length+i) K Ω Ω ⟨Ω,Ω,by rw[ap];exact hm⟩).mono ?_;rintro _ au _ ⟨rfl,aw,ax,ay⟩;obtain⟨aB,aC,aE,aF⟩:=M aw au _ ax ay;rw[aM];refine hk _ ⟨yq N aB,aC,q.trans aE,?_⟩;have e:fU t l (i+1)=(fU t l i).set (t.cells.length+i) x:=by
   show(fU t l i).set _ (l.getD i 0)=_;rw[u4,U];rfl
  rw[e];exact aF
 .rintro ab k ⟨N,f,q,y⟩;rw[aP,am];exact⟨λh=>Ω,λ_=>⟨F,N,f,q,y⟩⟩
end Go.Proofs.YtikkpokkcdocoabGreatDoor
