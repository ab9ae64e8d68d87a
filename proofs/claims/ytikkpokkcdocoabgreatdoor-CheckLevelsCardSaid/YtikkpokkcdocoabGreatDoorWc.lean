/- own texts, made small by a tool (wip/ holds them as they were written): no statement of the seat. -/
import Derived.Test.YtikkpokkcdocoabGreatDoorWb
set_option linter.defProp false
set_option linter.unusedVariables false
set_option linter.unusedSimpArgs false
set_option linter.unnecessarySimpa false
open Array renaming getElem?_eq_some_iff→j4,getElem?_toList→S9
open Bool renaming not_true→Y7,not_false→W3,eq_iff_iff→U1,or_eq_false_iff→S8
open Decidable renaming not_not→Z9
open Go renaming Value→x1,World→x3,TypeId→p9,IntKind→o7,Builtin→Z3,Program→W8,FuncId→R7
open Go.Addr renaming add_mid→U9
open Go.Builtin renaming append_→Z0,len_→V0
open Go.Instr renaming loadAt→u5,fieldAt→u6,storeAt→o8,indexAt→j9,extract→Y0,buildSlice→Y5,sliceAt→V9,alloc→Q1
open Go.IntKind renaming i64→X6
open Go.Proofs.Tryz renaming prog→x7
open Go.Value renaming int→V6
open Int renaming toNat_natCast→u7
open List renaming getElem?_eq_some_iff→x4,mem_of_getElem?→x5,getElem?_eq_getElem→x6,getElem?_map→x8,getD_eq_getElem?_getD→u4,take_add_one→u9,length_map→r8,length_append→r9,replicate→p8,mem_append→o5,take_length→o6,mem_singleton→o9,length_take→l9,mem_map→j5,eq_nil_of_length_eq_zero→j6,getElem?_set_self→c8,length_set→c9,length_cons→b6,take_of_length_le→b8,getElem?_eq_none→Z2,map_append→Z4,getElem?_take_of_lt→Z7,range→Y1,getElem?_set_ne→Y2,ext_getElem?→Y4,getElem?_append_left→Y6,getElem?_append_right→Y8,getElem?_set→X0,mem_iff_getElem?→X3,drop_eq_getElem_cons→X4,flatMap_cons→X8,mem_or_eq_of_mem_set→W0,append_nil→W6,length_eq_one_iff→W9,append_assoc→V1,mem_cons→V2,pairwise_iff_getElem→V8,map_set→U5,map_cons→U7,length_singleton→T2,mem_filter→T4,foldl_cons→T5,set_append_right→T7,mem_range→T8,mem_of_mem_take→T9,map_map→S1,getElem_mem→S3,length→S5,foldl_append→S6,length_filter_le→R5
open Nat renaming le_refl→o4,le_trans→Y9,zero_add→X2,zero_le→X5,mul_le_mul_right→X9,mul_one→U2,add_mul→U3,sub_self→U4,add_assoc→R4,add_sub_cancel_left→R6,lt_of_lt_of_le→Q2,eq_zero_or_pos→Q3
open Option renaming toList_some→n9,some→c7,isNone_some→Z5,map_some→Z6,map_eq_some_iff→X1,getD_some→V4,map→V7
open Option.some renaming inj→b9,injEq→Y3
open Prod.mk renaming injEq→T1
set_option maxHeartbeats 16000000
open Option renaming some→σ,none→ν
variable{a aj l scope sizes t:Λ}{bj bv sv v:x1}{c k y:Int}{B N af gT gs j n r:Nat}{cs:List x1}{w w' w0:x3}{e:p9}{S:Nat->Prop}{K:x1->x3->Prop}
namespace Go.Proofs.YtikkpokkcdocoabGreatDoor
open Go Go.Vc Go.RowKit Go.Proofs Go.Proofs.Tryz
set_option maxRecDepth 100000
def kP(l:Λ):Prop:=∀v∈l,0<=v/\v<64
def rj(h:kP l){v:Int}:v∈br l↔v∈l:=by
 unfold br;rw[T4,decide_eq_true_eq];refine⟨λh=>h.2,λad=>⟨?_,ad⟩⟩;have⟨h1,a⟩:=h v ad;exact j5.2 ⟨v.toNat,T8.2 Ω,Ω⟩
def MW(l:Λ):kP (br l):=λv ad=>by
 obtain⟨n,a,rfl⟩:=j5.1 (T4.1 ad).1;have:=T8.1 a;omega
def wR(l:Λ):(br l).Pairwise (·< ·):=by
 unfold br;apply List.Pairwise.filter _;rw[List.pairwise_map];exact List.pairwise_lt_range.imp λh=>Ω
def CL(l:Λ):(br l).Nodup:=(wR l).imp λh=>Ω
where
 nodup_le' {a b:Λ} (h:a.Nodup) (U:∀x∈a,x∈b):a.length<=b.length:=by
  induction a generalizing b with
  |nil=>exact X5 _
  |cons x a ih=>
   have h':=List.nodup_cons.1 h;have J:=U x (.head _);have:=ih (b:=b.erase x) h'.2 λy hy=>(List.mem_erase_of_ne (λ(he:y=x)=>h'.1 (by rw[<-he];exact hy))).2 (U y (.tail _ hy));rw[List.length_erase_of_mem J]at this;have:=List.length_pos_of_mem J;rw[b6];omega
def CM(n:Nat):(0:Int)<64 ^ n:=Int.pow_pos Ω
theorem tF:∀(l:Λ),kP l->0<=jH l/\jH l<64 ^ l.length
 |[],_=>by simp[jH]
 |x::l,h=>by
  have f:=tF l λy a=>h y (.tail _ a);have J:=h x (.head _);have p:=CM l.length;simp only[jH,b6];have e:(64:Int) ^ (l.length+1)=64*64 ^ l.length:=by rw[Int.pow_succ,Int.mul_comm]
  have h1:x*64 ^ l.length<=63*64 ^ l.length:=Int.mul_le_mul_of_nonneg_right Ω Ω;have q:0<=x*64 ^ l.length:=Int.mul_nonneg J.1 Ω;rw[e];omega
def gl:Λ->Λ->Int
 |x::a,y::b=>if x<y then-1 else if y<x then 1 else gl a b
 |[],[]=>0
 |[],_::_=>-1
 |_::_,[]=>1
theorem CN:∀(a b:Λ),a.length=b.length->kP a->kP b->(gl a b<0↔jH a<jH b)/\(gl a b=0↔a=b)/\(jH a=jH b->a=b)
 |[],[],_,_,_=>by simp[gl]
 |[],_::_,h,_,_=>by simp at h
 |_::_,[],h,_,_=>by simp at h
 |x::a,y::b,h,w,A=>by
  have q:a.length=b.length:=by simpa using h
  have r:kP a:=λz e=>w z (.tail _ e);have s:kP b:=λz e=>A z (.tail _ e);have f:=CN a b q r s;have B:=tF a r;have E:=tF b s;have F:=CM b.length;simp only[gl,jH];rw[q]at B ⊢;have step:∀u v:Int,u<v->u*64 ^ b.length+64 ^ b.length<=v*64 ^ b.length:=λu v G=>by
   have:=Int.mul_le_mul_of_nonneg_right (show u+1<=v by omega) (show(0:Int)<=64 ^ b.length by omega);rw[Int.add_mul,Int.one_mul]at this;exact this
  by_cases h1:x<y
  .rw[if_pos h1];have:=step x y h1;exact⟨⟨λ_=>Ω,λ_=>Ω⟩,⟨λh=>Ω,λh=>by have:=(List.cons.inj h).1;omega⟩,λh=>Ω⟩
  .rw[if_neg h1];by_cases p:y<x
   .rw[if_pos p];have:=step y x p;exact⟨⟨λh=>Ω,λh=>Ω⟩,⟨λh=>Ω,λh=>by have:=(List.cons.inj h).1;omega⟩,λh=>Ω⟩
   .rw[if_neg p];have C:x=y:=Ω
    subst C;exact⟨f.1.trans ⟨λh=>Ω,λh=>Ω⟩,f.2.1.trans ⟨λh=>by rw[h],λh=>(List.cons.inj h).2⟩,λh=>by rw[f.2.2 Ω]⟩
def jI(l:Λ):Prop:=kP l/\l.length<=6
def CO(h:jI l):0<=jH l/\jH l<64 ^ 6:=by
 have:=tF l h.1;have e:(64:Int) ^ l.length<=64 ^ 6:=by
  have a:=h.2
  match l.length,a with
  |0,_=>decide
  |1,_=>decide
  |2,_=>decide
  |3,_=>decide
  |4,_=>decide
  |5,_=>decide
  |6,_=>decide
  |n+7,h=>omega
 omega
def wS{b:Λ}(p:jI a)(q:jI b):(dg a<dg b↔a.length<b.length\/(a.length=b.length/\gl a b<0))/\(dg a=dg b->a=b):=by
 have h1:=CO p;have r:=CO q;have e:(64:Int) ^ 6=68719476736:=Φ
 rw[e]at h1 r;unfold dg;rw[e];by_cases f:a.length=b.length
 .have:=CN a b f p.1 q.1;rw[f];exact⟨⟨λh=>.inr ⟨T,this.1.2 Ω⟩,λh=>by
   rcases h with h|⟨_,h⟩
   .omega
   .have:=this.1.1 h;omega⟩,λh=>this.2.2 Ω⟩
 .exact⟨⟨λh=>.inl Ω,λh=>by
   rcases h with h|⟨h,_⟩
   .omega
   .exact absurd h f⟩,λh=>Ω⟩
theorem tG(g:cL):∀l:List cL,(hS g l).Perm (g::l)
 |[]=>List.Perm.refl _
 |h::l=>by
  unfold hS;split
  .exact ((tG g l).cons h).trans (List.Perm.swap g h l)
  .exact List.Perm.refl _
theorem CP{g:cL}:∀{l:List cL},l.Pairwise (λa b=>dg a.1<dg b.1)->(∀h∈l,dg h.1≠dg g.1)->(hS g l).Pairwise (λa b=>dg a.1<dg b.1)
 |[],_,_=>by simp[hS]
 |h::l,f,p=>by
  have e:=List.pairwise_cons.1 f;unfold hS;split
  .rename_i q;refine List.pairwise_cons.2 ⟨λx J=>?_,CP e.2 λx J=>p x (.tail _ J)⟩;rcases V2.1 ((tG g l).mem_iff.1 J)with rfl|J
   .exact q
   .exact e.1 x J
  .rename_i r;have:=p h (.head _);refine List.pairwise_cons.2 ⟨λx J=>?_,f⟩;rcases V2.1 J with rfl|J
   .omega
   .have:=e.1 x J;omega
theorem CQ:∀(l acc:List cL),acc.Pairwise (λa b=>dg a.1<dg b.1)->l.Pairwise (λa b=>dg a.1≠dg b.1)->(∀a∈acc,∀b∈l,dg a.1≠dg b.1)->
  (l.foldl (λl g=>hS g l) acc).Pairwise (λa b=>dg a.1<dg b.1)/\(l.foldl (λl g=>hS g l) acc).Perm (acc++l)
 |[],acc,h,_,_=>⟨h,Ξ⟩
 |g::l,acc,h,r,f=>by
  have p:=List.pairwise_cons.1 r;have:=CQ l (hS g acc) (CP h λa e=>f a e g (.head _)) p.2 λa e b q=>by
   rcases V2.1 ((tG g acc).mem_iff.1 e)with rfl|e
   .exact p.1 b q
   .exact f a e b (.tail _ q)
  refine⟨this.1,this.2.trans ?_⟩;exact((tG g acc).append_right l).trans (List.perm_middle (a:=g) (l₁:=acc) (l₂:=l)).symm
theorem wT{α:Type}{f:α->Int}:∀{L M:List α},L.Pairwise (λa b=>f a<f b)->M.Pairwise (λa b=>f a<f b)->(∀x,x∈L↔x∈M)->L=M
 |[],M,_,_,h=>by
  cases M with
  |nil=>rfl
  |cons y M=>exact absurd ((h y).2 (.head _)) Ξ
 |x::L,[],_,_,h=>absurd ((h x).1 (.head _)) Ξ
 |x::L,y::M,h1,r,h=>by
  have p:=List.pairwise_cons.1 h1;have q:=List.pairwise_cons.1 r;have s:x=y:=by
   rcases V2.1 ((h x).1 (.head _))with he|hm
   .exact he
   .rcases V2.1 ((h y).2 (.head _))with he|w
    .exact he.symm
    .have a:=q.1 x hm;have b:=p.1 y w;omega
  subst s;rw[wT p.2 q.2 λz=>⟨λe=>?_,λe=>?_⟩]
  .rcases V2.1 ((h z).1 (.tail _ e))with he|hm
   .subst he;have:=p.1 z e;omega
   .exact hm
  .rcases V2.1 ((h z).2 (.tail _ e))with he|hm
   .subst he;have:=q.1 z e;omega
   .exact hm
structure fW(sizes:Λ)(k:Int)(g:cL):Prop where
 scope:jI g.1
 up:g.1.Pairwise (·< ·)
 vars:∀v∈g.1,v<sizes.length
 len:g.2.length=(aQ (bX sizes g.1)).toNat
 small:aQ (bX sizes g.1)<=4096
 ih:∀c∈g.2,0<=c/\c<=k
def pR{sc:Λ}(e:∀z∈sizes,1<=z/\z<=32)(ad:∀v∈sc,0<=v/\v<sizes.length):∀z∈bX sizes sc,1<=z/\z<=32:=λz h=>by
 obtain⟨v,f,rfl⟩:=j5.1 h;have⟨h1,p⟩:=ad v f;have a:v.toNat<sizes.length:=Ω
 rw[u4,x6 a];exact e _ (S3 a)
def MX{b:Λ}(h:a.Perm b):aQ a=aQ b:=by
 induction h with
 |nil=>rfl
 |cons x _ e=>simp only[aQ,e]
 |swap x y l=>simp only[aQ];rw[<-Int.mul_assoc,<-Int.mul_assoc,Int.mul_comm y x]
 |trans _ _ h1 f=>exact h1.trans f
def MY{b:Λ}(h:a.length=b.length):(ea k a b).length=b.length:=by simp[ea,h]
def MZ{b:Λ}(hk:0<=k)(f:∀c∈a,0<=c/\c<=k)(p:∀c∈b,0<=c/\c<=k):∀c∈ea k a b,0<=c/\c<=k:=by
 induction a generalizing b with
 |nil=>intro c e;simp[ea]at e
 |cons x a q=>
  cases b with
  |nil=>intro c e;simp[ea]at e
  |cons y b=>
   intro c e;have J:=f x (.head _);have r:=p y (.head _);rcases V2.1 (show c∈min (x+y) k::ea k a b from e)with rfl|e
   .omega
   .exact q (λc h=>f c (.tail _ h)) (λc h=>p c (.tail _ h)) c e
def jc(l:List cL):Prop:=(l.map (·.1)).Nodup
def M0{acc:List cL}{g:cL}(hk:0<=k)(p:∀h∈acc,fW sizes k h)(q:jc acc)(a:fW sizes k g):(∀h∈iE k acc g,fW sizes k h)/\jc (iE k acc g)/\(iE k acc g).length<=acc.length+1:=by
 unfold iE;split
 .refine⟨λh aB=>?_,?_,Ξ⟩
  .obtain⟨f,hm,rfl⟩:=j5.1 aB;have h1:=p f hm;split
   .rename_i he;have s:f.2.length=g.2.length:=by rw[h1.len,a.len,he]
    exact⟨h1.scope,h1.up,h1.vars,by show(ea k f.2 g.2).length=_;rw[MY s,a.len,he],h1.small,MZ hk h1.ih a.ih⟩
   .exact h1
  .unfold jc;rw[S1];have e:((λx:cL=>x.1)∘λh:cL=>if h.1=g.1 then(h.1,ea k h.2 g.2)else h)=λx:cL=>x.1:=by
    funext h;simp only[Function.comp];split<;>rfl
   rw[e];exact q
 .rename_i w;refine⟨λh aB=>?_,?_,Ξ⟩
  .rcases o5.1 aB with aB|aB
   .exact p h aB
   .rw[o9.1 aB];exact a
  .unfold jc;rw[Z4];exact List.nodup_append.2 ⟨q,Ξ,λx J y r he=>by
    simp only[U7,List.map_nil,o9]at r;subst r;subst he;exact w J⟩
theorem wU{sizes:Λ}{k:Int}(hk:0<=k):∀{l acc:List cL},(∀h∈acc,fW sizes k h)->jc acc->(∀g∈l,fW sizes k g)->(∀h∈l.foldl (iE k) acc,fW sizes k h)/\jc (l.foldl (iE k) acc)/\(l.foldl (iE k) acc).length<=acc.length+l.length
 |[],acc,a,e,_=>⟨a,e,Ξ⟩
 |g::l,acc,a,e,f=>by
  have⟨h1,p,s⟩:=M0 hk a e (f g (.head _));have⟨q,r,w⟩:=wU hk h1 p λx J=>f x (.tail _ J);exact⟨q,r,by simp only[T5,b6];omega⟩
theorem CR{α:Type}[DecidableEq α]:∀{a b:List α},a.Nodup->b.Nodup->(∀x,x∈a↔x∈b)->a.Perm b
 |[],b,_,_,h=>by
  cases b with
  |nil=>exact .refl _
  |cons y b=>exact absurd ((h y).2 (.head _)) Ξ
 |x::a,b,q,f,h=>by
  have J:=(h x).1 (.head _);have p:=List.nodup_cons.1 q;refine .trans ?_ (List.perm_cons_erase J).symm;refine .cons x (CR p.2 (f.erase x) λy=>?_);rw[f.mem_erase_iff];refine⟨λe=>⟨λhe=>p.1 (he▸e),(h y).1 (.tail _ e)⟩,λ⟨r,e⟩=>?_⟩;rcases V2.1 ((h y).2 e)with he|hm
  .exact absurd he r
  .exact hm
def tH(h:kP l)(a:l.Nodup):(br l).Perm l:=CR (CL l) a λ_=>rj h
theorem wV:∀{l:Λ},(∀z∈l,1<=z/\z<=32)->l.map (λz=>min z 4097)=l
 |[],_=>rfl
 |z::l,h=>by
  have a:=h z (.head _);rw[U7,wV λx J=>h x (.tail _ J)];congr 1;omega
def M1{x:cn}(hk:0<=k)(e:0<=x.other)(a:∀p∈x.lines,0<=p.2):0<=j7 x k t/\j7 x k t<=k:=by
 unfold j7;cases ae:x.lines.find? (λp=>decide (p.1=t))with
 |none=>simp only;omega
 |some p=>have:=a p (List.mem_of_find?_eq_some ae);simp only;omega
def tI{all:Λ}{x:cn}(h:tk all N x)(a:all.length<=64):kP x.scope:=λv ad=>by
 have:=h.scope.2 v ad;omega
def pS{f:b3}{x:cn}(ae:e8 N f)(J:x∈f.funs):fW f.sizes f.k (ic f.sizes f.k x):=by
 have⟨h1,r,e⟩:=ae.funs x J;have s:=ae.sizes.2.1;have ad:=tI h1 s;have a:=tH ad h1.scope.1;have h:∀v∈br x.scope,0<=v/\v<f.sizes.length:=λv hm=>h1.scope.2 v ((rj ad).1 hm);have w:=pR ae.sizes.2.2 h;have y:aQ (bX f.sizes (br x.scope))=aQ x.sizes:=by rw[h1.sizes];exact MX (a.map _)
 refine⟨⟨MW _,?_⟩,wR _,λv hm=>(h v hm).2,?_,?_,λc A=>?_⟩
 .show (br x.scope).length<=6;rw[a.length_eq];exact r
 .show ((bm _).map _).length=_;rw[r8,iz w];rfl
 .show aQ (bX f.sizes (br x.scope))<=4096;have B:∀z∈x.sizes,1<=z/\z<=32:=λz q=>by
   rw[h1.sizes]at q;exact pR ae.sizes.2.2 (λv hm=>h1.scope.2 v hm) z q
  unfold dq at e;rw[wV B,decide_eq_false_iff_not]at e;rw[y];omega
 .obtain⟨t,_,rfl⟩:=j5.1 A;exact M1 (by have:=ae.k.1;omega) h1.other λp a=>(h1.lines.2 p a).2
def kQ{f:b3}(ae:e8 N f):(∀g∈fj f,fW f.sizes f.k g)/\jc (fj f)/\(fj f).length<=f.funs.length:=by
 have:=wU (sizes:=f.sizes) (k:=f.k) (by have:=ae.k.1;omega) (l:=f.funs.map (ic f.sizes f.k)) (acc:=[]) (λh aB=>by cases aB) List.nodup_nil λg e=>by
  obtain⟨x,J,rfl⟩:=j5.1 e;exact pS ae J
 refine⟨this.1,this.2.1,?_⟩;have a:=this.2.2;rw[List.length_nil,r8,X2]at a;exact a
def CS{l:List cL}(e:∀g∈l,fW sizes k g)(f:jc l):l.Pairwise λa b=>dg a.1≠dg b.1:=by
 have h1:l.Pairwise λa b=>a.1≠b.1:=by
  unfold jc List.Nodup at f;rwa [List.pairwise_map]at f
 exact h1.imp_of_mem λ{a b}h p q he=>q ((wS (e a h).scope (e b p).scope).2 he)
def pT{f:b3}(ae:e8 N f):(fv f).Pairwise (λa b=>dg a.1<dg b.1)/\(fv f).Perm ((fj f).filter fu):=by
 have⟨h1,h,_⟩:=kQ ae;have p:∀g∈(fj f).filter fu,fW f.sizes f.k g:=λg q=>h1 g (T4.1 q).1;have r:jc ((fj f).filter fu):=(List.Sublist.map _ List.filter_sublist).nodup h;have:=CQ ((fj f).filter fu) [] List.Pairwise.nil (CS p r) λa s=>by cases s
 refine⟨this.1,?_⟩;have e:=this.2;rw[List.nil_append]at e;exact e
def tJ{f:b3}(ae:e8 N f):∀g∈fv f,fW f.sizes f.k g:=λg a=>(kQ ae).1 g (T4.1 ((pT ae).2.mem_iff.1 a)).1
def M2{f:b3}(ae:e8 N f){M:List cL}(e:M.Perm ((fj f).filter fu))(U:M.Pairwise λa b=>dg a.1<=dg b.1):M=fv f:=by
 have⟨h1,h⟩:=pT ae;have p:jc ((fj f).filter fu):=(List.Sublist.map _ List.filter_sublist).nodup (kQ ae).2.1;have q:jc M:=(e.map (λg:cL=>g.1)).nodup_iff.2 p;have r:∀g∈M,fW f.sizes f.k g:=λg s=>(kQ ae).1 g (T4.1 (e.mem_iff.1 s)).1;have w:=CS r q;refine wT (f:=λg:cL=>dg g.1) ?_ h1 λx=>by rw[e.mem_iff,h.mem_iff]
 exact U.imp₂ (λa b h1 h=>Int.lt_iff_le_and_ne.2 ⟨h1,h⟩) w
structure kd(n:aG):Prop where
 k:1<=n.k/\n.k<=2147483648
 sizes:1<=n.sizes.length/\n.sizes.length<=64/\∀z∈n.sizes,1<=z/\z<=32
 zero:0<=n.zero/\n.zero<=n.k
 kR:n.unary.length=n.sizes.length
 unary:∀(i:Nat)(z:Int)(u:Λ),n.sizes[i]?=σ z->n.unary[i]?=σ u->u.length=z.toNat/\∀c∈u,0<=c/\c<=n.k
 funs:∀g∈n.funs,fW n.sizes n.k g/\2<=g.1.length
def M3(z:Int):aQ [z]=z:=by simp[aQ]
theorem tK:∀{l:List cL}{n:aG},kd n->(∀g∈l,fW n.sizes n.k g)->kd (l.foldl (λn g=>match g.1 with
 |[]=>{n with zero:=g.2.getD 0 0}
 |[v]=>{n with unary:=n.unary.set v.toNat g.2}
 |_=>{n with funs:=n.funs++[g]}) n)/\(l.foldl (λn g=>match g.1 with
 |[]=>{n with zero:=g.2.getD 0 0}
 |[v]=>{n with unary:=n.unary.set v.toNat g.2}
 |_=>{n with funs:=n.funs++[g]}) n).sizes=n.sizes
 |[],n,h,_=>⟨h,T⟩
 |g::l,n,h,p=>by
  have e:=p g (.head _);have f:∀x∈l,fW n.sizes n.k x:=λx J=>p x (.tail _ J);rw[T5];have⟨sc,cs⟩:=g
  match sc,e with
  |[],e=>
   have s:=e.len;refine tK (n:={n with zero:=cs.getD 0 0}) ⟨h.k,h.sizes,?_,h.kR,h.unary,h.funs⟩ f;have h1:cs.length=1:=by simpa[bX,aQ]using s
   have w:cs[0]?=σ (cs.getD 0 0):=by rw[u4,x6 Ω];rfl
   exact e.ih _ (x5 w)
  |[v],e=>
   have ad:=e.scope.1 v (.head _);have A:=e.vars v (.head _);refine tK (n:={n with unary:=n.unary.set v.toNat cs}) ⟨h.k,h.sizes,h.zero,by show(n.unary.set _ _).length=_;rw[c9];exact h.kR,λi z u q hu=>?_,h.funs⟩ f;by_cases hi:v.toNat=i
   .subst hi;have B:=h.kR;rw[c8 Ω]at hu;cases hu;have y:bX n.sizes [v]=[z]:=by
     simp only[bX,U7,List.map_nil];rw[u4,q];rfl
    refine⟨?_,e.ih⟩;have:=e.len;rw[y,M3]at this;exact this
   .rw[Y2 hi]at hu;exact h.unary i z u q hu
  |a::b::r,e=>
   refine tK (n:={n with funs:=n.funs++[(a::b::r,cs)]}) ⟨h.k,h.sizes,h.zero,h.kR,h.unary,λx J=>?_⟩ f;rcases o5.1 J with J|J
   .exact h.funs x J
   .rw[o9.1 J];exact⟨e,Ξ⟩
def CT{f:b3}(ae:e8 N f):kd (cS f)/\(cS f).sizes=f.sizes:=by
 unfold cS;have e:=ae.sizes;refine tK (n:=⟨f.k,f.sizes,0,f.sizes.map λz=>p8 z.toNat 0,[]⟩) ⟨ae.k,e,⟨by show(0:Int)<=0;omega,by show(0:Int)<=f.k;have:=ae.k.1;omega⟩,Ξ,λi z u h1 a=>?_,λg h=>by cases h⟩ (tJ ae);have a:(f.sizes.map λz=>p8 z.toNat (0:Int))[i]?=σ u:=a;have h1:f.sizes[i]?=σ z:=h1;rw[x8,h1]at a;cases a;refine⟨Ξ,λc p=>?_⟩;rw[(List.mem_replicate.1 p).2];have:=ae.k.1;exact⟨Int.le_refl _,by show(0:Int)<=f.k;omega⟩
def lB(x:cn)(k:Int)(i:Nat)(t:Λ):Int:=match(x.lines.take i).find? (λp=>decide (p.1=t))with
 |some p=>min p.2 k
 |none=>min x.other k
def CU(x:cn)(k:Int)(t:Λ):lB x k 0 t=min x.other k:=by simp[lB]
def CV(x:cn)(k:Int)(t:Λ):lB x k x.lines.length t=j7 x k t:=by
 unfold lB j7;rw[o6];cases x.lines.find? (λp=>decide (p.1=t))<;>rfl
def CW{x:cn}{i:Nat}{p:Λ×Int}(y:(x.lines.map (·.1)).Nodup)(hi:x.lines[i]?=σ p)(t:Λ):lB x k (i+1) t=if t=p.1 then min p.2 k else lB x k i t:=by
 unfold lB;rw[u9,hi,n9,List.find?_append];by_cases a:t=p.1
 .subst a;have z:(x.lines.take i).find? (λq=>decide (q.1=p.1))=ν:=by
   rw[List.find?_eq_none];intro q e he;have he:q.1=p.1:=by simpa using he
   have⟨j,f⟩:=X3.1 e;have h:j<i:=by have:=(x4.1 f).1;rw[l9]at this;omega
   rw[Z7 h]at f;have r:=x4.1 f;have s:=x4.1 hi;have w:=V8.1 y j i (by rw[r8];exact r.1) (by rw[r8];exact s.1) h;rw[List.getElem_map,List.getElem_map,r.2,s.2]at w;exact w he
  rw[z,if_pos T];simp
 .rw[if_neg a];have:[p].find? (λq=>decide (q.1=t))=ν:=by
   rw[List.find?_eq_none];intro q e he;rw[o9.1 e]at he;exact a (of_decide_eq_true he).symm
  rw[this,Option.or_none]
def pU{v:Int}(h:v∈l):l[l.idxOf v]?=σ v:=by
 have:=List.idxOf_lt_length_iff.2 h;rw[x6 this,List.getElem_idxOf this]
def rk{i:Nat}{v:Int}(p:l.Nodup)(h:l[i]?=σ v):l.idxOf v=i:=by
 have hm:=x5 h;have h1:=pU hm;have a:=x4.1 h1;have e:=x4.1 h;rcases Nat.lt_trichotomy (l.idxOf v) i with f|he|f
 .exact absurd (a.2.trans e.2.symm) (V8.1 p _ _ a.1 e.1 f)
 .exact he
 .exact absurd (e.2.trans a.2.symm) (V8.1 p _ _ e.1 a.1 f)
def gm(scope a:Λ):Λ:=a.map λv=>((scope.idxOf v:Nat):Int)
def tL{f:Λ}(s:scope.Nodup)(a:f.Perm scope):Good (gm scope f) scope.length:=by
 have r:f.Nodup:=a.nodup_iff.2 s;refine⟨by simp[gm,a.length_eq],λi p h=>?_⟩;unfold gm at h;rw[x8]at h;obtain⟨v,ad,rfl⟩:=X1.1 h;have hm:v∈scope:=a.mem_iff.1 (x5 ad);have y:=List.idxOf_lt_length_iff.2 hm;refine⟨⟨Ω,Ω⟩,λj z q=>?_⟩;unfold gm at q;rw[x8]at q;have⟨u,hu,he⟩:=X1.1 q;have w:u∈scope:=a.mem_iff.1 (x5 hu);have e:scope.idxOf u=scope.idxOf v:=Ω
 have h1:=pU w;rw[e,pU hm]at h1;have x:v=u:=b9 h1;subst x;have A:=rk r hu;have B:=rk r ad;omega
def CX{v:Int}(ad:a[j]?=σ v):(gm scope a)[j]?=σ ((scope.idxOf v:Nat):Int):=by
 unfold gm;rw[x8,ad];rfl
def M4(h:scope.Nodup)(e:a.Perm scope):en (bX sizes scope) (gm scope a)=bX sizes a:=by
 refine Y4 λj=>?_;cases ad:a[j]? with
 |none=>
  have f:=List.getElem?_eq_none_iff.1 ad;rw[Z2 (by rw[th];simp[gm];exact f),Z2 (by simp[bX];exact f)]
 |some v=>
  have hm:v∈scope:=e.mem_iff.1 (x5 ad);have p:=tL h e;rw[BG p (by simp[bX]) (CX ad),u7];unfold bX;rw[x8,x8,pU hm,ad]
def CY(h:scope.Nodup)(e:a.Perm scope)(q:t.length=scope.length):mo (gm scope a) t=pF scope a t:=by
 have r:=tL h e;refine(BF r q (by simp[pF]) λj p f=>?_).symm;unfold gm at f;rw[x8]at f;obtain⟨v,ad,rfl⟩:=X1.1 f;have hm:v∈scope:=e.mem_iff.1 (x5 ad);have s:a.Nodup:=e.nodup_iff.2 h;have w:=(x4.1 ad).1;have x:=e.length_eq;unfold pF;rw[u7,x8,pU hm,Z6,rk s ad,u4,x6 (show j<t.length by omega)];rfl
def M5{f:b3}{x:cn}{cs:Λ}(ae:e8 N f)(J:x∈f.funs)(F:cs.length=(aQ x.sizes).toNat)(y:∀t,dr x.sizes t->bl x.sizes cs t=j7 x f.k t):
  en x.sizes (gm x.scope (br x.scope))=bX f.sizes (br x.scope)/\oi x.sizes cs (gm x.scope (br x.scope))=(ic f.sizes f.k x).2:=by
 have⟨h1,G,H⟩:=ae.funs x J;have ad:=tI h1 ae.sizes.2.1;have a:=tH ad h1.scope.1;have p:x.sizes=bX f.sizes x.scope:=h1.sizes;have h:en x.sizes (gm x.scope (br x.scope))=bX f.sizes (br x.scope):=by rw[p];exact M4 h1.scope.1 a
 have z:=tL h1.scope.1 a;have A:∀v∈br x.scope,0<=v/\v<f.sizes.length:=λv hm=>h1.scope.2 v ((rj ad).1 hm);have e:dP (bX f.sizes (br x.scope)):=pR ae.sizes.2.2 A;refine⟨h,?_⟩;have B:x.sizes.length=x.scope.length:=by rw[p];simp[bX]
 unfold oi;rw[h];show _=(bm (bX f.sizes (br x.scope))).map λt=>j7 x f.k (pF x.scope (br x.scope) t);refine Y4 λq=>?_;rw[x8,x8];have I:=mn e;by_cases r:q<(aQ (bX f.sizes (br x.scope))).toNat
 .have C:=qT e (i:=q) Ω;rw[C,List.getElem?_range r];simp only[Z6];have E:=wq e r;have w:(cR (bX f.sizes (br x.scope)) q).length=x.scope.length:=by rw[jD];simp[bX,a.length_eq]
  rw[CY h1.scope.1 a w,y];have:=Lq (s:=x.sizes) z B (by rw[h];exact E);rw[CY h1.scope.1 a w]at this;exact this
 .rw[Z2 Θ,Z2 (by rw[iz e];omega)];rfl
def M6{e:Λ}(U:dP aj)(h1:a.length=(aQ aj).toNat)(f:e.length=(aQ aj).toNat):
  ea k a e=(Y1 (aQ aj).toNat).map λ(q:Nat)=>min (bl aj a (cR aj q)+bl aj e (cR aj q)) k:=by
 conv=>lhs;rw[tg U h1,tg U f]
 unfold ea;rw[List.zipWith_map,List.zipWith_self]
def M7{dm m:Nat}{d:List (x1×x1)}{KS:List (Λ)}(f:ag w dm iV [.map (σ m)])(hm:c6 w m d)(p:d.map (·.1)=KS.map ef)(e:pO KS)(A:KS.length<65536):
  am x7 JA [.func (.func md) #[] #[Γ dm],Co] w λv w'=>Ext w w'/\∃g M,M.Perm KS/\tC gH M 0 M.length/\oq w' g v M:=by
 apply az func261;apply(L9 f hm p (λks h=>(e ks h).1) Ω).mono;rintro v V _ ⟨q,g,L,dn,a,s⟩;refine(Mq s (e.perm a) (by rw[a.length_eq];omega)).mono ?_;rintro _ aa _ ⟨x,M,y,hu,z⟩;exact⟨q.then x (λr B h=>by have:=dn r h;omega),g,M,y.trans a,hu,z⟩
theorem CZ{α β:Type}{f:α->β}:∀{M:List β}{D:List α},M.Perm (D.map f)->∃L:List α,L.Perm D/\L.map f=M
 |[],D,h=>by
  have h1:=h.length_eq;simp at h1;have:D=[]:=j6 h1.symm;exact⟨[],by rw[this],T⟩
 |x::M,D,h=>by
  have J:x∈D.map f:=h.mem_iff.1 (.head _);obtain⟨p,a,rfl⟩:=j5.1 J;obtain⟨A,B,rfl⟩:=List.append_of_mem a;have e:(f p::M).Perm (f p::(A++B).map f):=h.trans (by
   rw[Z4,U7,Z4];exact List.perm_middle)
  have⟨L,q,r⟩:=CZ (List.Perm.cons_inv e);exact⟨p::L,(q.cons p).trans List.perm_middle.symm,by rw[U7,r]⟩
def C0{g:Nat}{ks:Λ}(p:ks.length=6)(q:n<=6)(a:cs=ints .i8 ks)(e:ag w g cG cs):aI .i8 w (.slice (σ (if 6=0 then⟨g,0,ν⟩else⟨g,0+0*1,ν⟩)) (n-0) (6-0)) (ks.take n):=by
 subst a;rw[if_neg Ω];unfold aI;have f:(ks.take n).length=n:=by rw[l9];omega
 rw[f];refine⟨Θ,g,0,_,6,T,Ω,by simp[maxLen],λ_=>rfl,λj v ad=>?_⟩;have h:=(x4.1 ad).1;apply e.range j v;rw[ints,List.map_take,Z7 (by simp[ints]at h;omega)]at ad;exact ad
def M8(D L:Told):Prop:=L.Perm D/\tC (λp=>gH (pad p.1)) L 0 L.length
def M9{g m:Nat}{o:Int}{D:Told}(h:eO w g m aj k o D)(bb:D.length<65536):am x7 I3 [Γ g] w λv w'=>Ext w w'/\∃L:Told,M8 D L/\bI (eN w.heap.size) bE w' [v] L:=by
 have⟨⟨sv,gs,Y,hm⟩,bd,U,bS,aB⟩:=id h;have be:pO (D.map λp=>pad p.1):=λks hk=>by
  obtain⟨p,bf,rfl⟩:=j5.1 hk;exact q8 U (aB p bf).1
 apply az func206;rw[di eU.u];simp only[Z5,a8];rw[aT fO.p 3 Y T];apply L7.mono;rintro _ V _ ⟨Z,dm,rfl,bU,bg⟩;refine(M7 (KS:=D.map λp=>pad p.1) bg (bd.ext Z) (by rw[S1,S1];rfl) be (by simpa using bb)).mono ?_;rintro bV aa _ ⟨aC,bW,M,bh,bi,aD⟩;have⟨L,ac,N⟩:=CZ bh;have aE:M.length=L.length:=by rw[<-N];simp
 have bX:=ac.length_eq;have s1:=Z.size;have bY:=aC.size;have aF:=Z.trans aC;rw[eF jv.u aD];refine bT.range L.length (λi out e=>Ext aa e/\bI (eN aa.heap.size) bE e [out] (L.take i)) Ω ⟨Ext.refl _,by rw[List.take_zero];exact hK⟩ ?_ ?_
 rotate_left
 .rintro out e bj ⟨C,O⟩;rw[aE];simp only[aP,al];refine⟨λh=>Ω,λ_=>⟨aF.trans C,L,⟨ac,λp q x y h1 bk bZ J bl=>?_⟩,?_⟩⟩
  .exact bi p q (pad x.1) (pad y.1) h1 bk Ω (by rw[<-N,x8,J];rfl) (by rw[<-N,x8,bl];rfl)
  .rw[o6]at O;exact au.mono O (λr _ h=>by have h:aa.heap.size<=r:=h;show w.heap.size<=r;omega) λ_ _ h=>h
 rintro i out e bj hi ⟨C,O⟩ bm;obtain⟨⟨t,c⟩,ae⟩:∃p,L[i]?=σ p:=⟨_,x6 hi⟩;have af:(t,c)∈D:=ac.mem_iff.1 (x5 ae);have ak:=(aB _ af).1;have aG:=wD U ak;have ap:t.length=aj.length:=aG.1;have aI:=U.1;have bn:lv (pad t):=q8 U ak;have P:=bn.1;have bo:M[i]?=σ (pad t):=by rw[<-N,x8,ae];rfl
 rw[aE];simp only[aP,al];refine⟨λ_=>?_,λh=>Ω⟩;rw[Mp T (aD.ext C) bo];refine bu cG.i λao b0 b1 aJ aK=>?_;refine q7 P T aK λbp br b2 Q=>?_;have b3:=aJ.size;have b4:=aK.lt;have bt:Ext e bp:=aJ.put br Ω;intro aO H _ _;have aq:=bt.trans H;have aw:=(aF.trans C).trans aq;have aQ:=h.ext aw;have⟨⟨b5,b6,b7,b8⟩,b9,_⟩:=id aQ;have ca:=aq.size;rw[aT fO.p 3 (Y.ext aw) T,oo P (Q.ext H).range];refine L1 aQ ak (λf bw=>?_) (λbx=>absurd T (bx _ af));have bz:f=c:=by
  have:=Cc h.nodup bw af T;exact congrArg Prod.snd this
 subst bz;simp only[Bool.false_eq_true,if_false];rw[cY (cs:=#[.slice ν 0 0,Δ f]) Ψ];refine bu gC.i λE cb cc ax aR=>?_;refine⟨.inl ax,?_⟩;refine cd (vs:=[.slice ν 0 0,Δ f]) gC.i T rfl (by intro v ad;simp at ad;rcases ad with rfl|rfl<;>rfl) aR λG bB ce aS=>?_;have cg:=ax.size;have ch:=aR.lt;have S:Ext aO G:=ax.put bB Ω;have aV:=aq.trans S;have aX:=aw.trans S;rw[aT fO.p 0 (Y.ext aX) T,aW an.u (hm.ls.ext aX)];rw[sV cG.u gi.i (l:=0) (h:=aj.length) (m:=6) jx (n0 _ _ T) fh Ω Ω Ω];have aY:=C0 P aI T ((Q.ext H).ext S);rw[<-ap,B7]at aY;rw[<-ap,aW lh.u aY];have bC:=(Q.ext H).ext S;have ci:ao<aO.heap.size:=(Q.ext H).lt;have cj:E<G.heap.size:=aS.lt;refine cp.range t.length (λj s=>ai (λr=>r=E\/G.heap.size<=r) G s/\∃aM gt,G.heap.size<=gt/\ag s E gC [aM,Δ f]/\av .i64 ah s gt aM (t.take j)) Ω ⟨ai.refl _ _,_,G.heap.size,o4 _,aS,av.nil _ _ _ _⟩ ?_ ?_
 .rintro j s bD bF ⟨z,aM,gt,bG,W,X⟩ bH;have⟨x,ay⟩:=aH (l:=t) bF;have ck:=aG.2 x (x5 ay);have cl:Ext e s:=aV.then z (λr aZ he=>by rcases he with rfl|he<;>omega);have a1:=C0 P aI T (bC.ab z (λhe=>by rcases he with he|he<;>omega));rw[<-ap,B7]at a1;simp only[aP,al];refine⟨λ_=>?_,λh=>Ω⟩;rw[bc lh.u gi.i Ψ a1 ay,aL gC.p 0 W T,fq gi.u ah.u,wrap_i64 Ω Ω];refine eD an.u ah.i T λa ga bJ cm B bK=>?_;refine jA an.u ah.i T (X.ext B) bK.ls Θ Θ λa2 a6 bL cn I K=>?_;have bM:=z.size;have bN:=B.size;have cq:=K.size;rw[aU gC.p T];refine bq (g:=E) (o:=0) an.i I.ls.cells.1 I.ls.cells.2 ((W.ext B).ab K (λhe=>by have he:E=gt:=he;omega)) Ξ λcr a7 ct bO=>?_;simp only[aN];refine bH _ ⟨((z.trans (B.ab _)).trans (K.mono λr _ he=>.inr (by have he:r=gt:=he;omega))).trans (a7.mono λr _ he=>.inl he),a2,a6,Ω,bO,?_⟩;rw[u9,ay];exact I.ab a7 (λ_ he=>by have he:a6=E:=he;omega)
 .rintro s bD ⟨z,aM,gt,bG,W,X⟩;simp only[aP,al];refine⟨λh=>Ω,λ_=>?_⟩;rw[o6]at X;rw[bR gC.p gC.i T W.range];have bM:=z.size;have bP:Ext e s:=aV.then z (λr aZ he=>by rcases he with rfl|he<;>omega);have ba:bI (eN e.heap.size) bE s [aM,Δ f] (t,f):=⟨[aM],[Δ f],eN e.heap.size,bE,T,λ_ h=>h,λ_ h=>h.elim,λ_ _ _ h=>h,au.mono (n7 X) (λr _ h=>by subst h;show e.heap.size<=r;omega) (λ_ _ h=>h),T⟩;refine kG (α:=Λ×Int) (a:=(t,f)) (cs:=[aM,Δ f]) (A:=eN e.heap.size) (R:=bE) pp.u gC.i Φ T ba λu bJ B _ bQ=>?_;have aA:=bP.trans B;have bN:=aA.size;refine n5 (α:=Λ×Int) (a:=(t,f)) (A:=eN e.heap.size) pp.u gC.i T (bA (mZ O) aA) bQ (bA ba B) (λr _ h h'=>?_) Θ Θ λa2 bL I K=>?_
  .rcases h' with h'|h'
   .have:=h.2;have:e.heap.size<=r:=h';omega
   .exact h'
  simp only[aN];have cu:=C.size;refine bm _ _ ⟨(C.trans aA).then K (λr aZ h=>by have h:=h.1;have h:aa.heap.size<=r:=h;omega),?_⟩;rw[u9,ae];refine au.mono I (λr _ h=>?_) λ_ _ h=>h;show aa.heap.size<=r;rcases h with h|h|h
  .exact h.1
  .have h:e.heap.size<=r:=h;omega
  .omega
def C1{s:Λ}(U:dP s):t∈bm s↔dr s t:=by
 refine⟨λh=>?_,λ⟨n,h⟩=>x5 (kK U h)⟩;have⟨i,hi⟩:=X3.1 h;exact⟨_,jG U hi⟩
theorem C2:∀{s:Λ},dP s->(bm s).Pairwise λa b=>gH a<gH b
 |[],_=>by simp[bm]
 |k::s,U=>by
  have z:=C2 U.tail;have f:∀t∈bm s,0<=gH t/\gH t<32 ^ s.length:=λt q=>by
   have ad:=(C1 U.tail).1 q;have h1:=oh.1 ad;have r:=tB t λx J=>by
    obtain⟨i,hi,rfl⟩:=List.getElem_of_mem J;have⟨a,e⟩:=aH (l:=s) (i:=i) Ω;have B:=h1.2 i a _ e (x6 hi);have C:=(U.tail a (x5 e)).2;omega
   rw[h1.1];exact r
  have p:∀t∈bm s,t.length=s.length:=λt q=>sY q;show((Y1 k.toNat).flatMap λ(v:Nat)=>(bm s).map λt=>(v:Int)::t).Pairwise _;rw[List.pairwise_flatMap];refine⟨λv _=>?_,?_⟩
  .rw[List.pairwise_map];refine z.imp_of_mem λ{a b}e f h=>?_;simp only[gH,p a e,p b f];omega
  .refine List.pairwise_lt_range.imp λ{u v}E x J y A=>?_;obtain⟨a,e,rfl⟩:=j5.1 J;obtain⟨b,w,rfl⟩:=j5.1 A;simp only[gH,p a e,p b w];have h1:=f a e;have r:=f b w;have:=Int.mul_le_mul_of_nonneg_right (show(u:Int)+1<=v by omega) (show(0:Int)<=32 ^ s.length by have:=wH s.length;omega);rw[Int.add_mul,Int.one_mul]at this;omega
def Na{D L:Told}{o:Int}(f:(D.map (·.1)).Nodup)(a:L.Perm D)(t:Λ):iF L o t=iF D o t:=by
 have q:(L.map (·.1)).Nodup:=(a.map (·.1)).nodup_iff.2 f;by_cases he:∃p∈D,p.1=t
 .obtain⟨p,h,rfl⟩:=he;rw[q9 f (c:=p.2) h,q9 q (c:=p.2) (a.mem_iff.2 h)]
 .rw[ra λp h1 e=>he ⟨p,h1,e⟩,ra λp h1 e=>he ⟨p,a.mem_iff.1 h1,e⟩]
def iI(aj:Λ)(f:Λ->Int)(cs:Λ):Prop:=cs.length=(aQ aj).toNat/\∀t,dr aj t->bl aj cs t=f t
def iI.eq{f:Λ->Int}{cs:Λ}(U:dP aj)(h1:iI aj f cs)(e:iI aj f a):cs=a:=Lg U h1.1 e.1 λt h=>by rw[h1.2 t h,e.2 t h]
def iI.congr{f a:Λ->Int}{cs:Λ}(h:iI aj f cs)(he:∀t,dr aj t->f t=a t):iI aj a cs:=⟨h.1,λt e=>by rw[h.2 t e,he t e]⟩
def wW(U:dP aj)(h:dr aj t):∃n:Nat,cq aj t 0=σ (n:Int)/\n<(aQ aj).toNat:=by
 have⟨n,a⟩:=h;have:=n8 U a;simp only[Int.zero_mul,Int.zero_add,Int.one_mul]at this;exact⟨n.toNat,by rw[a];congr 1;omega,Ω⟩
def Nb(U:dP aj)(c:Int):iI aj (λ_=>c) (p8 (aQ aj).toNat c):=⟨Ξ,λt a=>by
 have⟨n,e,f⟩:=wW U a;unfold bl;rw[e];simp only[u7,u4,List.getElem?_replicate,f,if_true,V4]⟩
def iI.put{f:Λ->Int}{cs:Λ}(U:dP aj)(h:iI aj f cs)(ad:dr aj t)(r:cu c k):iI aj (λs=>if s=t then c else f s) (sZ aj t k c cs):=by
 have⟨n,e,w⟩:=wW U ad;unfold sZ;rw[e];simp only[r,if_true,u7];refine⟨by simp[h.1],λs q=>?_⟩;have⟨m,hm,x⟩:=wW U q;have a:=h.2 s q;unfold bl at a ⊢;rw[hm]at a ⊢;simp only[u7]at a ⊢;by_cases he:s=t
 .subst he;rw[e]at hm;have p:n=m:=by have:=b9 hm;omega
  subst p;rw[if_pos T,u4,c8 (by rw[h.1];exact w)];rfl
 .rw[if_neg he,u4,Y2 (λp=>he ?_),<-u4,a];subst p;rw[<-Bz U hm,<-Bz U e]
def Nc(w:x3)(aj:Λ)(k o:Int)(D:Told)(v:x1)(w':x3):Prop:=Ext w w'/\(4096<aQ aj->v= .tuple #[.pointer ν,Δ 5])/\
 (aQ aj<=4096->∃g a sv cs,v= .tuple #[Γ g,Δ 0]/\w.heap.size<=g/\(w.heap.size<=a/\∀r,leads sv r->w.heap.size<=r)/\dk w' g a sv aj k cs/\iI aj (iF D o) cs)
def C3{g m:Nat}{o:Int}{D:Told}(h:eO w g m aj k o D)(Y:D.length<65536):am x7 H5 [Γ g] w (Nc w aj k o D):=by
 have⟨⟨sv,gs,Z,hm⟩,aZ,U,ac,ae⟩:=id h;have P:=h.nodup;apply az func121;rw[di eU.u];simp only[Z5,a8];intro V a _ _;have I:=Z.ext a;rw[aT fO.p 0 I T,aT fO.p 1 I T,aT fO.p 2 I T];apply(vZ (hm.ls.ext a)).mono;rintro _ aa _ ⟨z,_,af,_,ag⟩;by_cases C:aQ aj<=4096
 rotate_left
 .have:=af U Ω;subst this;rw[bo,bp];simp only[bB,al];exact⟨λ_=>⟨a.trans z,λ_=>rfl,λh=>absurd h C⟩,λh=>by simp at h⟩
 obtain⟨gt,f,aM,rfl,a1,a2,ah,Q⟩:=ag U C ac;rw[bo,bp];simp only[bB,al];refine⟨λh=>absurd T h,λ_=>?_⟩;have s1:=a.size;have a6:=z.size;apply(M9 ((h.ext a).ext z) Y).mono;rintro dn ak _ ⟨J,L,E,R⟩;have ba:=J.size;have bb:f<aa.heap.size:=by
  have⟨⟨a7,bc,_,_,an⟩,⟨_,_,bd⟩,ao,ap⟩:=id Q;have be:=mn ao.2;obtain⟨_,⟨_,aq⟩|⟨cap,cs,_,av,_⟩⟩:=an
  .rw[ap]at aq;omega
  .exact av.lt
 have bf:=E.1.length_eq;rw[hL pp.u R];refine cp.range L.length (λi q=>ai (λr=>r=f) ak q/\∃cs,dk q gt f aM aj k cs/\iI aj (iF (L.take i) o) cs) Ω ⟨ai.refl _ _,_,Q.ext J,by rw[List.take_zero];exact Nb U.2 o⟩ ?_ ?_
 .rintro i q aw hi ⟨G,cs,K,H⟩ ax;simp only[aP,al];refine⟨λ_=>?_,λh=>Ω⟩;obtain⟨⟨t,c⟩,y⟩:∃p,L[i]?=σ p:=⟨_,x6 hi⟩;have ay:(t,c)∈D:=E.1.mem_iff.1 (x5 y);have⟨aA,aB,aC⟩:=ae _ ay;have aD:=au.ab R G λr S aE he=>by
   have he:r=f:=he;rcases aE with h|h
   .have h:aa.heap.size<=r:=h;omega
   .exact h
  refine ll (α:=Λ×Int) gC.p T pp.u gC.i aD y λus aF=>?_;obtain⟨bg,aG,A,B,rfl,bh,bi,_,h1,aH⟩:=aF;have aI:aG=[Δ c]:=aH;subst aI;obtain⟨aJ,rfl,_⟩:=id h1;have hu:=de h1;refine bu gC.i λbj bk bl aK W=>?_;refine cd (vs:=[aJ,Δ c]) gC.i T rfl (by intro v ad;simp at ad;rcases ad with rfl|rfl;exact hu.cells.2;rfl) W λaO aR bm X=>?_;have bn:=W.lt;have M:Ext q aO:=aK.put aR Ω;rw[aL gC.p 0 X T,aL gC.p 1 X T];apply(Kq (K.ext M) (hu.ext M)).mono;rintro _ bq _ ⟨rfl,aS,aU⟩;simp only[aN];refine ax _ ⟨(G.trans (M.ab _)).trans aS,_,aU,(H.put U.2 aA aB).congr λs br=>?_⟩;rw[u9,y];have N:(L.map (·.1)).Nodup:=(E.1.map (·.1)).nodup_iff.2 P;have aV:∀p∈L.take i,p.1≠t:=λp C he=>by
   have⟨j,O⟩:=X3.1 C;have aW:j<i:=by have:=(x4.1 O).1;rw[l9]at this;omega
   rw[Z7 aW]at O;have:=kN N (i:=j) (j:=i) (x:=t) (by rw[x8,O,Z6,he]) (by rw[x8,y];rfl);omega
  have aX:((L.take i).map (·.1)).Nodup:=by rw[List.map_take];exact(List.take_sublist _ _).nodup N
  have aY:((L.take i++[(t,c)]).map (·.1)).Nodup:=by
   have e:L.take i++[(t,c)]=L.take (i+1):=by rw[u9,y];rfl
   rw[e,List.map_take];exact(List.take_sublist _ _).nodup N
  exact((Cd aV aC).cost aX aY s).symm
 .rintro q aw ⟨G,cs,K,H⟩;simp only[aP,al];refine⟨λh=>Ω,λ_=>?_⟩;rw[o6]at H;exact⟨((a.trans z).trans J).put G Ω,λh=>Ω,λ_=>⟨gt,f,aM,cs,T,Ω,⟨Ω,λr S=>by have:=ah r S;omega⟩,K,H.congr λs _=>Na P E.1 s⟩⟩
def Nd{s cs:Λ}(U:dP s)(a:cs.length=(aQ s).toNat){i:Nat}(h:(bm s)[i]?=σ t):cs[i]?=σ (bl s cs t):=by
 have hi:=(x4.1 h).1;rw[iz U,<-a]at hi;unfold bl;rw[jG U h];simp only[u7,u4,x6 hi,V4]
def tM{k:o7}{g:Nat}(h:av k e w g v l)(f:0<l.length):g<w.heap.size:=by
 obtain⟨_,⟨_,h1⟩|⟨_,_,_,a,_⟩⟩:=h
 .omega
 .exact a.lt
def fX(w:x3)(g m:Nat)(sv:x1)(gs:Nat)(aj:Λ)(k o:Int)(D:Told):Prop:=
 ag w g fO [sv,Δ k,Δ o,.map (σ m)]/\av .i64 ah w gs sv aj/\c6 w m (D.map j8)/\cb aj/\cu o k/\∀p∈D,dr aj p.1/\cu p.2 k/\p.2≠o
def fX.is{g m:Nat}{o:Int}{D:Told}(h:fX w g m sv gs aj k o D):eO w g m aj k o D:=⟨⟨sv,gs,h.1,h.2.1⟩,h.2.2⟩
def eO.at{g m:Nat}{o:Int}{D:Told}(h:eO w g m aj k o D):∃sv gs,fX w g m sv gs aj k o D:=by
 have⟨⟨sv,gs,h1,a⟩,e⟩:=h;exact⟨sv,gs,h1,a,e⟩
def fX.ext{g m:Nat}{o:Int}{D:Told}(h:fX w g m sv gs aj k o D)(J:Ext w w'):fX w' g m sv gs aj k o D:=by
 have⟨h1,a,e,f⟩:=h;exact⟨h1.ext J,a.ext J,e.ext J,f⟩
def fX.ab{g m:Nat}{o:Int}{D:Told}(h:fX w g m sv gs aj k o D)(J:ai S w w')(a:¬S g)(hm:¬S m)(U:∀r,leads sv r->¬S r):fX w' g m sv gs aj k o D:=by
 have⟨h1,e,f,p⟩:=h;exact⟨h1.ab J a,bw e J U,f.ab J hm,p⟩
def tN{g m:Nat}{d:List (x1×x1)}(h:ag w g e cs)(hm:c6 w m d):g≠m:=by
 rintro rfl;have⟨a,c,h1,_⟩:=hm;unfold ag at h;rw[h1]at h;cases h
def C4{g m:Nat}{k:o7}{d:List (x1×x1)}(h:av k e w g v l)(hm:c6 w m d)(f:leads v r):r≠m:=by
 obtain⟨rfl,_⟩:=bS h f;obtain⟨_,⟨rfl,_⟩|⟨_,_,_,p,_⟩⟩:=h
 .obtain⟨a,n,c,h,_⟩:=f;cases h
 .exact tN p hm
def fX.put{g m:Nat}{o:Int}{D D':Told}(h:fX w g m sv gs aj k o D)(a:ai (λr=>r=m) w w')(h':eO w' g m aj k o D'):fX w' g m sv gs aj k o D':=
 ⟨h.1.ab a (λhe=>tN h.1 h.2.2.1 he),bw h.2.1 a (λr e he=>C4 h.2.1 h.2.2.1 e he),h'.2⟩
def fX.q3{g m:Nat}{o:Int}{D:Told}(h:fX w g m sv gs aj k o D):g<w.heap.size/\m<w.heap.size/\∀r,leads sv r->r<w.heap.size:=
 ⟨h.1.lt,h.2.2.1.lt,λr a=>by obtain⟨rfl,e⟩:=bS h.2.1 a;exact e⟩
instance (s t:Λ):Decidable (dr s t):=decidable_of_iff ((cq s t 0).isSome=true) ⟨λh=>by
 cases a:cq s t 0 with
 |none=>rw[a]at h;cases h
 |some n=>exact⟨n,a⟩,λ⟨n,h⟩=>by rw[h];rfl⟩
def tO(h:aI .i64 w sv l)(H:l.length<=1000000):am x7 zW [sv] w λv w'=>Ext w w'/\∃g,w.heap.size<=g/\av .i64 ah w' g v l:=by
 apply az func112;rw[aW ay.u h];refine j0 (k:=.i64) an.u ah.i Ω Ω λg V I p q=>?_;have z:av .i64 ah V g (.slice (σ ⟨g,0,ν⟩) l.length l.length) (p8 l.length 0):=by
  have:=b1.full (k:=1) (n:=l.length) q Ξ (by simp[maxLen];omega);exact av.of this
 rw[aW ay.u (h.ext p)];have J:=q.lt;refine cp.range l.length (λi aa=>ai (λr=>r=g) V aa/\av .i64 ah aa g (.slice (σ ⟨g,0,ν⟩) l.length l.length) (l.take i++p8 (l.length-i) 0)) h.le ⟨ai.refl _ _,by simpa using z⟩ ?_ ?_
 rotate_left
 .rintro aa A ⟨f,a⟩;rw[aP,al];rw[o6,U4,List.replicate_zero,W6]at a;exact⟨λh=>Ω,λ_=>⟨p.put f Ω,g,Ω,a⟩⟩
 rintro i aa A hi ⟨f,a⟩ B;have⟨x,s⟩:=aH (l:=l) hi;have C:Ext w aa:=p.put f Ω;apply bz Ω;rw[bc ay.u aq.i Ψ (h.ext C) s];rw[hN T an.u ah.i a Θ];refine hP ah.i a Θ λK E L y=>?_;rw[aN];refine B _ ⟨f.trans E,?_⟩;have e:(l.take i++p8 (l.length-i) 0).set i x=l.take (i+1)++p8 (l.length-(i+1)) 0:=by
  have G:(l.take i).length=i:=by rw[l9];omega
  rw[T7 _ _ Ω,G,U4,show l.length-i=(l.length-(i+1))+1 by omega,List.replicate_succ,List.set_cons_zero,u9,s,n9,V1];rfl
 rw[e]at y;exact y
def Nf(w:x3)(l:Λ)(k o:Int)(v:x1)(w':x3):Prop:=
 Ext w w'/\(¬cb l->v= .tuple #[.pointer ν,Δ 1])/\(cb l->¬cu o k->v= .tuple #[.pointer ν,Δ 3])/\
  (cb l->cu o k->∃g m sv gs,v= .tuple #[Γ g,Δ 0]/\w.heap.size<=g/\w.heap.size<=m/\(∀r,leads sv r->w.heap.size<=r)/\fX w' g m sv gs l k o [])
def Ng{o:Int}(h:aI .i64 w sv l):am x7 pi [sv,Δ k,Δ o] w (Nf w l k o):=by
 apply az func187;refine aV (λv V=>Ext w V/\∃c,v= .bool c/\(c=true↔¬cb l)) ?_ ?_
 .rintro _ V ⟨e,c,rfl,f⟩;rw[ca];refine⟨λy=>⟨e,λ_=>rfl,λh=>absurd h (f.1 y),λh=>absurd h (f.1 y)⟩,λae=>?_⟩;have U:cb l:=Classical.byContradiction λh=>by have:=f.2 h;rw[ae]at this;cases this
  have I:=U.1;apply j1.mono;rintro _ aa _ ⟨rfl,a⟩;by_cases hi:cu o k
  rotate_left
  .simp only[hi,decide_false,bK,W3,bV];exact⟨e.trans a,λh=>absurd U h,λ_ _=>rfl,λ_ h=>absurd h hi⟩
  simp only[hi,decide_true,bK,Y7,a8];apply(kH ((h.ext e).ext a) Ω).mono;rintro aM J _ ⟨z,B,K,hm⟩;have L:=hm.ls.cells;refine tu λm M N q C=>?_;rw[cY (cs:=#[aM,Δ k,Δ o,.map (σ m)]) (by obtain⟨_,_,_,_,_,rfl,_⟩:=hm.ls;kernel_rfl)];refine bd λg O P s E=>?_;have s1:=e.size;have Q:=a.size;have R:=z.size;have S:=q.size;exact⟨((((e.trans a).trans z).trans q).trans s),λh=>absurd U h,λ_ h=>absurd hi h,λ_ _=>⟨g,m,aM,B,T,Ω,Ω,λr G=>by have:=(bS hm G).1;omega,E,(hm.ext q).ext s,C.ext s,U,hi,λp H=>by cases H⟩⟩
 .intro aA A;rw[aW an.u h];simp only[bJ,al];refine⟨λW=>A _ _ ⟨Ext.refl _,true,T,λ_ U=>by have:=U.1;omega,λ_=>rfl⟩,λX=>?_⟩;apply(B8 h).mono;rintro _ aa _ ⟨rfl,a⟩;refine A _ _ ⟨a,_,T,?_⟩;rw[decide_eq_true_eq];exact⟨λx U=>x U.2,λx U=>x ⟨Ω,U⟩⟩
structure C5 where
 aj:Λ
 k:Int
 o:Int
 D:Told
instance TG:au C5 where
 n:=1
 rep _ _ R w cs a:=∃g m sv gs,cs=[Γ g]/\fX w g m sv gs a.aj a.k a.o a.D/\R g/\R m/\∀r,leads sv r->R r
 len:=by rintro _ _ _ _ _ _ ⟨_,_,_,_,rfl,_⟩;rfl
 one:=by rintro _ _ _ _ _ _ ⟨_,_,_,_,rfl,_⟩ u hu;simp at hu;subst hu;rfl
 ab:=by
  rintro _ _ R T w w' _ a ⟨g,m,sv,gs,rfl,h1,f,h,p⟩ J q;obtain⟨s,x,y⟩:=h1.q3;exact⟨g,m,sv,gs,rfl,h1.ab J (q g s (.inr f)) (q m x (.inr h)) λr e=>q r (y r e) (.inr (p r e)),f,h,p⟩
 mono:=by
  rintro _ _ _ R R' w _ a ⟨g,m,sv,gs,rfl,h1,f,h,p⟩ _ z;obtain⟨s,x,y⟩:=h1.q3;exact⟨g,m,sv,gs,rfl,h1,z g s f,z m x h,λr e=>z r (y r e) (p r e)⟩
 h6:=by
  rintro _ _ R w _ a ⟨g,m,sv,gs,rfl,h1,f,h,p⟩;exact⟨g,m,sv,gs,rfl,h1,.inr f,.inr h,λr e=>.inr (p r e)⟩
abbrev hq:Type:=Rd (Λ)×C5
def rl(k:Int)(x:cn)(f:hq):Prop:=f.1=x.scope/\f.2.aj=x.sizes/\f.2.k=k/\f.2.o=min x.other k/\f.2.D.length<=x.lines.length/\∀t,iF f.2.D f.2.o t=j7 x k t
def Nh{m:Bool}{S R:ak}{x:cn}(h:au.rep m S R w cs (hp x)):∃aK szv cc,cs=[aK,szv,Δ x.other,cc]/\au.rep (α:=Λ) false bE R w [aK] x.scope/\au.rep (α:=Λ) false bE R w [szv] x.sizes/\au.rep (α:=List (Λ×Int)) false bE R w [cc] x.lines:=by
 obtain⟨p,d1,s,z,rfl,_,_,_,h1,q,d2,A,B,rfl,_,_,_,a,r,d3,C,E,rfl,_,_,_,f,e⟩:=h;have h1:au.rep (α:=Λ) false bE R w p x.scope:=h1;have a:au.rep (α:=Λ) false bE R w q x.sizes:=a;have f:r=[Δ x.other]:=f;have e:au.rep (α:=List (Λ×Int)) false bE R w d3 x.lines:=e;obtain⟨u,rfl⟩:=W9.1 (show p.length=1 from au.len h1);obtain⟨v,rfl⟩:=W9.1 (show q.length=1 from au.len a);obtain⟨y,rfl⟩:=W9.1 (show d3.length=1 from au.len e);subst f;exact⟨u,v,y,T,h1,a,e⟩
def Ni{m:Bool}{S R:ak}{p:Λ×Int}(h:au.rep m S R w cs p):∃aM,cs=[aM,Δ p.2]/\aI .i64 w aM p.1:=by
 obtain⟨e,d1,f,q,rfl,_,_,_,h1,a⟩:=h;obtain⟨u,rfl⟩:=W9.1 (show e.length=1 from au.len h1);have a:d1=[Δ p.2]:=a;subst a;exact⟨u,T,de h1⟩
structure tP(k:Int)(x:cn):Prop where
 k:right k
 sizes:cb x.sizes
 other:0<=x.other
 lines:nf x.sizes x.lines
 len:x.lines.length<=60000
 scope:x.scope.length<=100001
def da{k:o7}(h:aI k w v l):∃a n c,v= .slice a n c:=by
 obtain⟨_,b,o,base,cap,rfl,_⟩:=h;exact⟨_,_,_,T⟩
def Nj{aj:Nat}{iJ aP aQ:x1}{K:Int}{R:ak}{x:cn}(al:ag w aj cE [iJ,Δ K,aP,aQ])(J:Seen R w cs (hp x))(aR:tP K x):
  am x7 vF [Γ aj,.agg cs.toArray] w λv w'=>Ext w w'/\∃ce,∃f:hq,v= .agg ce.toArray/\ce.length=2/\Seen (eN w.heap.size) w' ce f/\rl K x f:=by
 obtain⟨aK,szv,cc,rfl,h1,an,Q⟩:=Nh J;have⟨H,S,bm,ap,bn,bq⟩:=aR;have br:x.sizes.length<=6:=S.1;apply az func113;refine bd λao V bt aq s=>?_;have s:ag V ao b7 [aK,szv,Δ x.other,cc]:=by
  obtain⟨_,_,_,rfl⟩:=mr h1;obtain⟨_,_,_,rfl⟩:=mr an;obtain⟨_,_,_,rfl⟩:=mr Q;exact s
 refine bu cF.i λz aa bx U I=>?_;have I:ag aa z cF [.slice ν 0 0,.pointer ν]:=I;intro bB L _ _;have W:=(aq.trans U).trans L;have X:=U.trans L;have bC:=aq.size;have bD:=U.size;have z3:=L.size;have bF:=I.lt;have aw:=al.ext W;rw[aL b7.p 1 (s.ext X) T,aT cE.p 1 aw T,
  aL b7.p 2 (s.ext X) T,aT cE.p 1 aw T,mg]
 apply(tO ((de an).ext W) Ω).mono;rintro bG bH _ ⟨A,bI,bJ,aS⟩;refine⟨.inl A,?_⟩;have z4:=A.size;have aU:cu (min x.other K) K:=⟨H,by have:=H.1;omega,Ω⟩;apply(Ng aS.ls).mono;rintro _ aV _ ⟨M,_,_,aW⟩;obtain⟨gT,m,sv,gs,rfl,bK,bL,ax,aX⟩:=aW S aU;rw[bo,bp];have z5:=M.size;have Y:=(W.trans A).trans M;have ay:=(X.trans A).trans M;rw[aL b7.p 3 (s.ext ay) T];have aA:=bA Q Y;rw[hL iU.u aA];refine cp.range x.lines.length (λi a=>ai (λr=>r=m) aV a/\∃D,D.length<=i/\fX a gT m sv gs x.sizes K (min x.other K) D/\∀t,iF D (min x.other K) t=lB x K i t) (qK aA) ⟨ai.refl _ _,[],o4 _,aX,λt=>by rw[CU];rfl⟩ ?_ ?_
 .rintro i a aY hi ⟨e,D,aB,B,Z⟩ aZ;have⟨p,ac⟩:=aH (l:=x.lines) hi;have aC:=ap.2 p (x5 ac);have C:Ext w a:=Y.put e Ω;have a1:=e.size;have a2:au.rep (α:=List (Λ×Int)) false bE R a [cc] x.lines:=bA Q C;apply bz Ω;refine ll ed.p T iU.u ed.i a2 ac λbM a6=>?_;obtain⟨aM,rfl,aD⟩:=Ni a6;refine bu ed.i λbN bO bP aE a7=>?_;have bQ:=aE.size;refine cd (vs:=[aM,Δ p.2]) ed.i T rfl (by intro v ad;simp at ad;rcases ad with rfl|rfl<;>first|exact aD.cells.2|rfl) a7 λa8 ba bR aF=>?_;have bb:Ext a a8:=aE.put ba Ω;intro bT ae _ _;have y:=bb.trans ae;have z9:=y.size;rw[aL ed.p 0 (aF.ext ae) T,aL ed.p 1 (aF.ext ae) T,aT cE.p 1 ((al.ext C).ext y) T,mg];have bU:=wD S aC.1;apply(tO (aD.ext y) Ω).mono;rintro bV bW _ ⟨E,bX,bY,bc⟩;refine⟨.inl E,?_⟩;have bZ:=E.size;apply(Cg (c:=min p.2 K) ((B.ext y).ext E).is bc.ls).mono;rintro _ b0 _ ⟨_,be⟩;have bf:cu (min p.2 K) K:=⟨H,by have:=H.1;omega,Ω⟩;obtain⟨rfl,aG,D',aI,aJ⟩:=be ⟨aC.1,bf⟩;rw[aN];refine aZ _ ⟨(e.trans ((y.trans E).ab _)).trans aG,D',by have:=aI.2;omega,fX.put ((B.ext y).ext E) aG aJ,λt=>?_⟩;rw[CW ap.1 ac,aI.cost B.is.nodup aJ.nodup];by_cases N:t=p.1
  .rw[if_pos N,if_pos N]
  .rw[if_neg N,if_neg N,Z]
 .rintro a aY ⟨e,D,aB,B,Z⟩;have C:Ext w a:=Y.put e Ω;have bg:Ext V a:=ay.put e Ω;have a1:=e.size;apply b4 Ω;rw[aL b7.p 0 (s.ext bg) T];apply(tO ((de h1).ext C) Ω).mono;rintro O b1 _ ⟨P,bh,b2,G⟩;have z12:=P.size;rw[cY (cs:=#[O,Γ gT]) (by obtain⟨_,_,_,rfl⟩:=da G.ls;kernel_rfl)];have bi:Ext aa a:=((L.trans A).trans M).put e Ω;refine cd (vs:=[O,Γ gT]) cF.i T rfl (by intro v ad;simp at ad;rcases ad with rfl|rfl<;>first|exact G.ls.cells.2|rfl) ((I.ext bi).ext P) λaO af b3 bj=>?_;rw[fQ cF.p cF.i T bj.range];have bk:fX aO gT m sv gs x.sizes K (min x.other K) D:=(B.ext P).ab af (λhe=>by have he:gT=z:=he;omega) (λhe=>by have he:m=z:=he;omega) (λr q he=>by have he:r=z:=he;have:=ax r q;omega);have bl:av .i64 ah aO bh O x.scope:=bw G af λr q he=>by have he:r=z:=he;have:=(bS G q).1;omega
  refine⟨(C.trans P).put af Ω,_,(x.scope,⟨x.sizes,K,min x.other K,D⟩),T,T,?_,T,T,T,T,aB,λt=>?_⟩
  .exact⟨[O],[Γ gT],bE,bE,T,λ_ h=>h,λ_ h=>h,λ_ _ h _=>h,ri bl λr q=>by have:=(bS G q).1;show w.heap.size<=r;omega,
    ⟨gT,m,sv,gs,T,bk,by show w.heap.size<=gT;omega,by show w.heap.size<=m;omega,λr q=>by have:=ax r q;show w.heap.size<=r;omega⟩⟩
  .rw[Z,CV]
def Nk{S R:ak}{f:hq}(h:au.rep false S R w cs f):au.rep (α:=hq) true bE R w cs f:=by
 obtain⟨c,d,A,B,rfl,h1,p,_,a,e⟩:=h;exact⟨c,d,bE,bE,T,λ_ h=>h,λ_ h=>h,λ_ _ h _=>h,a,e⟩
def tQ(k:Int)(a:List cn)(e:List hq):Prop:=e.length=a.length/\∀(i:Nat)x f,a[i]?=σ x->e[i]?=σ f->rl k x f
def Nl{e:Nat}{m:Bool}{S R:ak}{iJ szv af:x1}{K:Int}{q:List cn}{aC:x3->Prop}(aD:ag w e cE [iJ,Δ K,szv,.slice ν 0 0])(aV:au.rep m S R w [af] (show List hV from q.map hp))(aW:∀r,S r\/R r->r≠e)(aX:∀x∈q,tP K x)(bN:q.length<=256)(aY:∀w' z,∀s:List hq,ai (λr=>r=e) w w'->ag w' e cE [iJ,Δ K,szv,z]->Seen (λr=>w.heap.size<=r) w' [z] s->tQ K q s->aC w'):
  cp (Δ 0) w λaj E aZ=>
   ac x7 (aO .lss ah false false aj (Δ (q.length:Int))) E λa1=>
   Split a1 (ac x7 (j9 ju af aj) E λa2=>
   ac x7 (u5 b7 a2) E λa6=>
   aE x7 (Q1 b7 true (.tuple #[])) E λx a7=>
   aE x7 (o8 b7 x a6) a7 λ(_:Unit)a8=>
   ev a8 λC=>
   ac x7 (bQ (Γ e)) C λG=>
   ac x7 (u6 cE G 3) C λH=>
   ac x7 (u5 dM H) C λan=>
   ac x7 (u5 b7 x) C λba=>
   am x7 vF [(Γ e),ba] C λbb I=>
    (Ext C I\/cD x7 (u5 dM H) an I/\cD x7 (u6 cE G 3) H I/\cD x7 (bQ (Γ e)) G I/\True)/\
   aE x7 (Y5 dM 1 #[(0,bb)]) I λbc J=>
    (Ext C J\/cD x7 (u5 dM H) an J/\cD x7 (u6 cE G 3) H J/\cD x7 (bQ (Γ e)) G J/\True)/\
    aE x7 (Z0 #[dM,dM] dM #[an,bc]) J λbd ap=>
     ac x7 (bQ (Γ e)) ap λbe=>
     ac x7 (u6 cE be 3) ap λbf=>
     aE x7 (o8 dM bf bd) ap λ(_:Unit)aF=>
     ac x7 (aO .add ah false true aj (Δ 1)) aF λbg=>
   aZ bg aF) (aC E):=by
 have bO:=aD.lt;have bP:(q.map hp).length=q.length:=Ξ
 refine cp.range q.length (λi V=>ai (λr=>r=e) w V/\∃z,∃s:List hq,∃A R':ak,ag V e cE [iJ,Δ K,szv,z]/\bI A R' V [z] s/\(∀r,A r->w.heap.size<=r/\r<V.heap.size)/\(∀r,R' r->w.heap.size<=r/\¬A r/\r<V.heap.size)/\tQ K (q.take i) s) Ω
  ⟨ai.refl _ _,_,[],bE,bE,aD,hK,λ_ h=>h.elim,λ_ h=>h.elim,T,λi x f h=>by simp at h⟩ ?_ ?_
 rotate_left
 .rintro V bh ⟨L,z,s,A,R',M,aq,B,N,Q⟩;rw[o6]at Q;rw[aP,al];refine⟨λh=>Ω,λ_=>aY V z s L M (qH aq λr _ h=>?_) Q⟩;exact h.elim (λh=>(B r h).1) λh=>(N r h).1
 rintro i V bh hi ⟨L,z,s,A,R',M,aq,B,N,aG,Q⟩ bi;have⟨x,av⟩:=aH (l:=q) hi;have bj:=aX x (x5 av);have bS:=L.size;rw[l9]at aG;have bk:au.rep m S R V [af] (show List hV from q.map hp):=au.ab aV L λr _ h he=>aW r h he;apply bz Ω;refine ll (α:=hV) (a:=hp x) b7.p T ju.u b7.i bk (by show(q.map hp)[i]?=_;rw[x8,av];rfl) λcs aw=>?_;have aI:cs.length=4:=au.len aw;have bl:Seen (λr=>S r\/R r) V cs (hp x):=qH aw λr _ h=>h;refine bu b7.i λao aa bT aJ bm=>?_;have bU:=aJ.size;refine cd (vs:=cs) b7.i aI T (au.one aw) bm λbn bo bV bp=>?_;have br:Ext V bn:=aJ.put bo Ω;intro U aK _ _;have O:=br.trans aK;have z4:=O.size;rw[aT cE.p 3 (M.ext O) T,bR b7.p b7.i aI (bp.ext aK).range];apply(Nj (M.ext O) (bA bl O) bj).mono;rintro _ W _ ⟨X,ce,f,rfl,bW,ae,bt⟩;have z5:=X.size;refine⟨.inl X,?_⟩;have aL:=Nk ae;have bw:=O.trans X;refine kG (α:=hq) (a:=f) (cs:=ce) (A:=bE) (R:=eN U.heap.size) dM.u cF.i Φ (by
  have⟨c,d,bX,bY,he,_,_,_,Y,bx⟩:=ae;have Y:au.rep (α:=Λ) false bE _ W c f.1:=Y;obtain⟨u,rfl⟩:=W9.1 (show c.length=1 from au.len Y);obtain⟨b0,b2,b1,b3,rfl,_⟩:=bx;obtain⟨_,_,_,rfl⟩:=mr Y;cases he;rfl) aL λu ax Z _ hu=>?_
 have b4:=Z.size;refine⟨.inl (X.trans Z),?_⟩;have ay:=bw.trans Z;have bB:bI A (λr=>R' r\/(U.heap.size<=r/\r<W.heap.size)) ax [z] s:=bA (au.mono aq (λ_ _ h=>h) λ_ _ h=>.inl h) ay;have bC:bI bE (λr=>R' r\/(U.heap.size<=r/\r<W.heap.size)) ax ce f:=bA (au.mono aL (λ_ _ h=>h) λr y h=>.inr ⟨h,y⟩) Z;refine n5 (α:=hq) (a:=f) (A:=bE) dM.u cF.i T bB hu bC (λr _ aM h=>?_) Ω Ω λaQ bD az aA=>?_
 .rcases h with h|h|h
  .exact h
  .exact (N r h).2.1 aM
  .have:=(B r aM).2;omega
 have b5:=aA.size;rw[bZ,aU cE.p T];have bF:=(M.ext ay).ab aA (λhe=>by have:=(B _ he).1;omega);refine bq (g:=e) (o:=3) dM.i (qJ az) (gS az) bF Ξ λbG aR b6 aB=>?_;have aB:ag bG e cE [iJ,Δ K,szv,aQ]:=aB;rw[aN];have bH:=mZ az;refine bi _ ⟨(hQ (L.trans (ay.ab _)) aA λr y he=>by have:=(B _ he).1;omega).trans aR,aQ,s++[f],λr=>((A r\/bE r\/ax.heap.size<=r)/\r<bD.heap.size),λr=>R' r\/(U.heap.size<=r/\r<W.heap.size),aB,au.ab bH aR λr _ h he=>?_,λr y=>?_,λr y=>?_,?_,λj bJ bK ad P=>?_⟩
 .have he:r=e:=he;rcases h with h|h|h
  .rcases h.1 with h1|h1|h1
   .have:=(B _ h1).1;omega
   .exact h1
   .omega
  .have:=(N r h).1;omega
  .omega
 .have b8:=y.2;rcases y.1 with h1|h1|h1
  .have:=(B _ h1).1;omega
  .exact h1.elim
  .omega
 .rcases y with y|y
  .have aS:=N r y;refine⟨aS.1,λh=>?_,Ω⟩;rcases h.1 with h1|h1|h1
   .exact aS.2.1 h1
   .exact h1
   .omega
  .refine⟨Ω,λh=>?_,Ω⟩;rcases h.1 with h1|h1|h1
   .have:=(B _ h1).2;omega
   .exact h1
   .omega
 .rw[r9,l9,aG];simp;omega
 .have bL:=(x4.1 P).1;rw[r9,T2]at bL;rw[Z7 Ω]at ad;by_cases bM:j<s.length
  .rw[Y6 bM]at P;exact Q j bJ bK (by rw[Z7 Ω];exact ad) P
  .rw[Y8 Ω,show j-s.length=0 by omega]at P;rw[show j=i by omega,av]at ad;cases P;cases ad;exact bt
def lC(w:x3)(h:Nat)(f:b3):Prop:=∃szv a gz,∃e:List hq,ag w h cE [bL f.name,Δ f.k,szv,a]/\av .i64 ah w gz szv f.sizes/\Seen eM w [a] e/\tQ f.k f.funs e
def lC.ext{a:Nat}{f:b3}(h:lC w a f)(J:Ext w w'):lC w' a f:=by
 have⟨szv,e,gz,p,h1,q,r,s⟩:=h;exact⟨szv,e,gz,p,h1.ext J,q.ext J,bA r J,s⟩
def C6(w:x3)(res:Option b3)(v:x1)(w':x3):Prop:=Ext w w'/\match res with
 |none=>∃n e:Int,v= .tuple #[.pointer ν,Δ n,Δ e]/\e≠0
 |some f=>∃a,∃n:Int,v= .tuple #[Γ a,Δ n,Δ 0]/\lC w' a f
structure Nn(clean:Bool)(so:Option aF)(name:Λ)(k:Int)(sizes:Λ)(acc:List hV)(res:Option b3):Prop where
 pJ:∀s,so=σ s->s.toks=[]->clean=true->s.big=false->∃fs,acc=fs.map hp/\res=σ ⟨name,k,sizes,fs⟩/\(∀x∈fs,tP k x)/\fs.length<=256/\sizes.length<=1000000
 bad:res≠ν->∃s,so=σ s/\s.toks=[]/\clean=true/\s.big=false
def No{g:Nat}{A B S R:ak}{m clean:Bool}{so:Option aF}{name:Λ}{acc:List hV}{res:Option b3}{szv aq p:x1}{pl:Λ}{Q:x1->x3->Prop}(aD:ho w g gs A B clean so)(N:Nn clean so name k sizes acc res)(bn:aI .i64 w szv sizes)(bo:∀r,leads szv r->r≠g/\r≠gs)(bp:au.rep m S R w [aq] acc)(a2:∀r,S r\/R r->r≠g/\r≠gs/\r<w.heap.size)(c0:so=ν->True)(c1:g<w.heap.size)(c2:gs<w.heap.size)(bq:ai (λr=>w0.heap.size<=r) w0 w)(c3:w0.heap.size<=g)(c4:w0.heap.size<=gs)(br:aI .u8 w0 p pl)(X:∀v w',C6 w0 res v w'->Q v w'):
  cz (α:=x3->Prop) (λ(q:x3)=>
  ac x7 (bQ (Γ g)) q λbt=>
  ac x7 (u6 cj bt 1) q λbu=>
  ac x7 (u6 e6 bu 0) q λbw=>
  ac x7 (u5 jX bw) q λbx=>
  ac x7 (aO .neq jX false true bx (Δ 0)) q λbz=>
  Split bz (ev q λH=>
   ac x7 (bQ (Γ g)) H λbC=>
   ac x7 (u6 cj bC 1) H λbD=>
   ac x7 (u6 e6 bD 2) H λbE=>
   ac x7 (u5 ah bE) H λbF=>
   ac x7 (bQ (Γ g)) H λbG=>
   ac x7 (u6 cj bG 1) H λbH=>
   ac x7 (u6 e6 bH 0) H λbI=>
   ac x7 (u5 jX bI) H λbJ=>
   Q (.tuple #[(.pointer ν),bF,bJ]) H)
   (ac x7 (bQ (Γ g)) q λbK=>
   ac x7 (u6 cj bK 1) q λbM=>
   ac x7 (u6 e6 bM 1) q λbN=>
   ac x7 (u5 jX bN) q λbO=>
   ac x7 (aO .neq jX false true bO (Δ 0)) q λbP=>
   Split bP (ev q λI=>
   ac x7 (bQ (Γ g)) I λbR=>
   ac x7 (u6 cj bR 1) I λbS=>
   ac x7 (u6 e6 bS 3) I λbT=>
   ac x7 (u5 ah bT) I λbU=>
   ac x7 (bQ (Γ g)) I λbW=>
   ac x7 (u6 cj bW 1) I λbX=>
   ac x7 (u6 e6 bX 1) I λbY=>
   ac x7 (u5 jX bY) I λb0=>
   Q (.tuple #[(.pointer ν),bU,b0]) I)
   (am x7 zW [szv] q λb1 a6=>
  ac x7 (Instr.build cE #[(0,bL name),(1,Δ k),(2,b1)]) a6 λb2=>
  aE x7 (Instr.box cE b2) a6 λO a7=>
  ac x7 (V0 #[ju] ah #[aq]) a7 λb4=>
  cp (Δ 0) a7 λaG P b5=>
   ac x7 (aO .lss ah false false aG b4) P λb6=>
   Split b6 (ac x7 (j9 ju aq aG) P λb8=>
   ac x7 (u5 b7 b8) P λb9=>
   aE x7 (Q1 b7 true (.tuple #[])) P λx ca=>
   aE x7 (o8 b7 x b9) ca λ(_:Unit)cb=>
   ev cb λM=>
   ac x7 (bQ O) M λY=>
   ac x7 (u6 cE Y 3) M λZ=>
   ac x7 (u5 dM Z) M λaH=>
   ac x7 (u5 b7 x) M λcc=>
   am x7 vF [O,cc] M λcd ae=>
    (Ext M ae\/cD x7 (u5 dM Z) aH ae/\cD x7 (u6 cE Y 3) Z ae/\cD x7 (bQ O) Y ae/\True)/\
   aE x7 (Y5 dM 1 #[(0,cd)]) ae λce af=>
    (Ext M af\/cD x7 (u5 dM Z) aH af/\cD x7 (u6 cE Y 3) Z af/\cD x7 (bQ O) Y af/\True)/\
    aE x7 (Z0 #[dM,dM] dM #[aH,ce]) af λcg aJ=>
     ac x7 (bQ O) aJ λch=>
     ac x7 (u6 cE ch 3) aJ λci=>
     aE x7 (o8 dM ci cg) aJ λ(_:Unit)ba=>
     ac x7 (aO .add ah false true aG (Δ 1)) ba λck=>
   b5 ck ba)
    (ac x7 (V0 #[cN] ah #[p]) P λcl=>
  Q (.tuple #[O,cl,(Δ 0)]) P)))) λav=>
 am x7 ld [(Γ g)] w λcm aj=>
 Split cm (ac x7 (bQ (Γ g)) aj λcn=>
  ac x7 (u6 cj cn 0) aj λcq=>
  ac x7 (u5 sO cq) aj λcr=>
  am x7 vE [cr] aj λaK L=>
  ac x7 (Y0 aK 0) L λc5=>
  ac x7 (Y0 aK 1) L λbb=>
  ac x7 (Y0 aK 2) L λaL=>
  ac x7 (aO .eql jX false true aL (Δ 0)) L λct=>
  Split ct (am x7 nS [(Γ g),(Δ 4),bb] L λc6 cu=>
  av cu)
  (ac x7 (aO .eql jX false true aL (Δ 11)) L λcw=>
  Split cw (am x7 nS [(Γ g),aL,bb] L λc7 cA=>
   av cA)
   (av L)))
  (av aj):=by
 refine dc (λq=>ai (λr=>r=g\/r=gs) w q/\∃(e big J K told:Int)(sv:x1),ag q g cj (fV gs e big J K told sv)/\((e≠0/\res=ν)\/(e=0/\∃s,so=σ s/\s.toks=[]/\clean=true/\(s.big=true↔big≠0)))) ?_ ?_
 rotate_left
 .intro aA aM;apply(CG aD).mono;rintro _ V _ ⟨rfl,an⟩;cases so with
  |none=>
   rw[show(ν:Option aF).isSome=false from T,a8];have⟨e,big,J,K,told,sv,z,aN⟩:=aD.ext an;refine aM _ ⟨an.ab _,e,big,J,K,told,sv,z,.inl ⟨aN,?_⟩⟩;cases G:res with
   |none=>rfl
   |some f=>have⟨s,h,_⟩:=N.bad (by rw[G];simp);cases h
  |some s=>
   rw[show(σ s:Option aF).isSome=true from T,bV];have cB:dp V g gs A B s clean:=aD.ext an;have⟨aw,cC,cF,big,J,K,told,sv,z,aN,cG⟩:=id cB;rw[aT cj.p 0 z T];apply(q0 cC).mono;rintro v aa _ ⟨U,ad⟩;have cH:(s.toks≠[]\/clean=false)->res=ν:=λy=>by
    cases G:res with
    |none=>rfl
    |some f=>
     have⟨s',h,ao,bc,_⟩:=N.bad (by rw[G];simp);cases h;rcases y with y|y
     .exact absurd ao y
     .rw[y]at bc;cases bc
   have ay:∀C,ai (λr=>r=g) aa C->eE C g gs A B->(s.toks≠[]\/clean=false)->aA C:=λC ap ay y=>by
    have⟨_,e,big,J,K,told,sv,l,cI,cJ,_⟩:=ay;exact aM _ ⟨((an.ab _).trans (U.mono λr _ h=>.inr h)).trans (ap.mono λr _ h=>.inl h),e,big,J,K,told,sv,cI,.inl ⟨cJ.1,cH y⟩⟩
   have aP:=z.ab U aw.1;have bf:=au.ab cG U λr _ h ao=>by
    have ao:r=gs:=ao;subst ao;rcases h with h|h
    .exact aw.2.2.1 h
    .exact h.1 (.inr (.inl T))
   have bg:s.shared.length<=100000:=by have:=cF.2.2;omega
   cases W:s.toks with
   |cons t l=>
    rw[W]at ad;obtain⟨c8,n,rfl⟩:=ad;rw[fR,fS,fT,be,al];refine⟨λ_=>?_,λh=>absurd T h⟩;apply(tn (aw.ab U) aP bf Ω bg).mono;rintro _ C _ ⟨ap,aQ⟩;exact ay C ap aQ (.inl (by rw[W];simp))
   |nil=>
    rw[W]at ad;obtain⟨n,rfl⟩:=ad;rw[fR,fS,fT,be,al];refine⟨λh=>by cases clean<;>simp at h,λ_=>?_⟩;rw[be,al];cases az:clean with
    |true=>
     subst az;refine⟨λh=>by simp at h,λ_=>aM _ ⟨(an.ab _).trans (U.mono λr _ h=>.inr h),0,big,J,K,told,sv,aP,.inr ⟨T,s,T,W,T,aN.1⟩⟩⟩
    |false=>
     subst az;refine⟨λ_=>?_,λh=>absurd T h⟩;apply(tn (aw.ab U) aP bf Ξ bg).mono;rintro _ C _ ⟨ap,aQ⟩;exact ay C ap aQ (.inr T)
 .rintro V ⟨aB,e,big,J,K,told,sv,z,cK⟩;have c9:=aB.size;have aR:Ext w0 V:=(bq.ext λr G h=>Ω).then aB (λr G h=>by rcases h with h|h<;>omega);rw[bZ,aU cj.p T,aU e6.p T,ax Ψ (z.cell (o:=0+1+0) T),bB,al];rcases cK with⟨he,aS⟩|⟨rfl,s,rfl,W,az,bh⟩
  .refine⟨λ_=>?_,λh=>absurd he h⟩;intro aa E _ _;rw[bZ,aU cj.p T,aU e6.p T,ax Ψ ((z.ext E).cell (o:=0+1+2) T),bZ,aU cj.p T,aU e6.p T,ax Ψ ((z.ext E).cell (o:=0+1+0) T)];rw[aS]at X;exact X _ _ ⟨aR.trans E,J,e,T,he⟩
  .refine⟨λh=>absurd T h,λ_=>?_⟩;rw[bZ,aU cj.p T,aU e6.p T,ax Ψ (z.cell (o:=0+1+1) T),bB,al];refine⟨λy=>?_,λy=>?_⟩
   .have aS:res=ν:=by
     cases G:res with
     |none=>rfl
     |some f=>
      have⟨s',h,_,_,bi⟩:=N.bad (by rw[G];simp);cases h;rw[bh.2 y]at bi;cases bi
    intro aa E _ _;rw[bZ,aU cj.p T,aU e6.p T,ax Ψ ((z.ext E).cell (o:=0+1+3) T),bZ,aU cj.p T,aU e6.p T,ax Ψ ((z.ext E).cell (o:=0+1+1) T)];rw[aS]at X;exact X _ _ ⟨aR.trans E,K,big,T,y⟩
   .have cL:s.big=false:=by
     cases cM:s.big with
     |false=>rfl
     |true=>exact absurd (bh.1 cM) y
    obtain⟨aV,rfl,rfl,cO,cP,cQ⟩:=N.pJ s T W az cL;have cR:aI .i64 V szv sizes:=ia bn aB λr G a n c ad N=>by
     have:=bo r ⟨a,n,c,ad,N⟩;exact G.elim this.1 this.2
    apply(tO cR cQ).mono;rintro aX aa _ ⟨E,gz,db,aY⟩;have dd:=E.size;rw[cY (cs:=#[bL name,Δ k,aX,.slice ν 0 0]) (by obtain⟨_,_,_,rfl⟩:=da aY.ls;kernel_rfl)];refine bd λaZ C de a1 aC=>?_;have aC:ag C aZ cE [bL name,Δ k,aX,.slice ν 0 0]:=by obtain⟨_,_,_,rfl⟩:=da aY.ls;exact aC
    have bj:au.rep m S R C [aq] (show List hV from aV.map hp):=bA (bA (au.ab bp aB λr _ h he=>by have:=a2 r h;exact he.elim this.1 this.2.1) E) a1;have cS:(aV.map hp).length=aV.length:=Ξ
    rw[hL ju.u bj,cS];refine Nl aC bj (λr h=>by have:=a2 r h;omega) cO cP λbk cT cU cV cW cX cZ=>?_;have df:=aC.lt;have z3:=a1.size;have bl:Ext aa bk:=a1.then cV (λr G h=>by have h:r=aZ:=h;omega);have bm:Ext w0 bk:=(aR.trans E).trans bl;rw[aW cN.u (br.ext bm)];exact X _ _ ⟨bm,aZ,_,T,aX,cT,gz,cU,cW,aY.ext bl,jB cX,cZ⟩
def C7{α:Type}{f:List α->aF->Option (α×aF)}{acc:List α}{s:aF}:fw f (n+1) acc (σ s)=match f acc s with
  |none=>ν
  |some (a,s')=>fw f n (acc++[a]) (σ s'):=by
 show cK f (n+1) acc s=_;simp only[cK];cases f acc s<;>rfl
def Np{g:Nat}{A B:ak}{s:Option aF}{clean:Bool}{most:Int}{O:x1->x3->Prop}(h:ds w g gs A B clean s)(au:(N:Int)<=aw)(P:∀szv w' l so gz,ai (bG g gs A) w w'->ds w' g gs A B clean so->av .i64 aq w' gz szv l->w.heap.size<=gz->l.length<=100001->(∀q,fw (fi most) N [] s=σ q->so=σ q.2/\l=q.1)->(fw (fi most) N [] s=ν->so=ν)->O szv w'):
 bT (.slice ν 0 0) (Δ 0) w λsizes i G k=>
  cz (α:=x1->x3->Prop) (λ(ax:x1)(Q:x3)=>
   Split ax (am x7 nR [Γ g,(Δ 1),Δ most] Q λR y=>
  ac x7 (Y0 R 0) y λS=>
  ac x7 (Y0 R 1) y λaz=>
  ac x7 (aO .gtr aq false true S (Δ 32)) y λaB=>
  am x7 qB [Γ g,aB,az] y λbm aC=>
  aE x7 (Y5 ay 1 #[(0,S)]) aC λaD aG=>
  aE x7 (Z0 #[ay,ay] ay #[sizes,aD]) aG λaH U=>
  ac x7 (aO .add aq false true i (Δ 1)) U λaI=>
  k aH aI U) (O sizes Q)) λaA=>
  ac x7 (aO .lss aq false false i (Δ (N:Int))) G λaJ=>
  Split aJ (am x7 ld [Γ g] G λaK aL=>
  aA aK aL)
   (aA (.bool false) G):=by
 have⟨bn,W,bq,aM,aQ⟩:=h.side;have gT:∀r,bG g gs A r->r<w.heap.size:=aM;unfold aw at au;generalize aR:fw (fi most) N [] s=X at P;refine⟨λout H V=>∃(i:Nat)(l:Λ)(so:Option aF)(gz:Nat),H=Δ (i:Int)/\i<=N/\ai (bG g gs A) w V/\av .i64 aq V gz out l/\w.heap.size<=gz/\ds V g gs A B clean so/\X=fw (fi most) (N-i) l so/\l.length<=100001/\∀st,so=σ st->l.length+st.toks.length<=100000,
  λ_ H _=>N-(bW H).toNat,⟨0,[],s,w.heap.size,T,X5 _,ai.refl _ _,av.nil _ _ _ _,o4 _,h,aR.symm,Ξ,λst aS=>?_⟩,?_⟩
 .subst aS;have:=h.words;simpa using this
 rintro out _ V ⟨i,l,so,gz,rfl,br,I,Y,aT,Z,C,aU,ad⟩;refine aV (λv ae=>Ext V ae/\((v= .bool true/\i<N/\∃st,so=σ st)\/(v= .bool false/\(so=ν\/i=N)))) ?_ ?_
 rotate_left
 .intro aA J;rw[aP,al];refine⟨λaW=>?_,λbt=>J _ _ ⟨Ext.refl _,.inr ⟨T,.inr Ω⟩⟩⟩;apply(pP Z).mono;rintro _ ae _ ⟨rfl,af⟩;cases so with
  |none=>exact J _ _ ⟨af,.inr ⟨T,.inl T⟩⟩
  |some st=>exact J _ _ ⟨af,.inl ⟨T,Ω,st,T⟩⟩
 rintro _ aa ⟨x,aX⟩;have ag:=Y.ext x;have ah:=Z.ext x;rcases aX with⟨rfl,aW,st,rfl⟩|⟨rfl,aY⟩
 rotate_left
 .rw[a8];have aj:X=so.map λst=>(l,st):=by
   rcases aY with rfl|rfl
   .exact C
   .rw[U4]at C;rw[C];cases so<;>rfl
  refine P out aa l so gz (I.trans (x.ab _)) ah ag aT aU (λq f=>?_) λan=>?_
  .rw[aj]at f;cases so with
   |none=>cases f
   |some st=>cases f;exact⟨T,T⟩
  .rw[aj]at an;cases so with
   |none=>rfl
   |some st=>cases an
 rw[bV];have ad:=ad st T;apply(mq (s:=σ st) ah).mono;rintro _ bu _ ⟨K,z,at_,rfl,aZ,bx⟩;have⟨L,a1⟩:=K.of;rw[bo,bp,bJ];apply(rg a1).mono;rintro _ bz _ K;have⟨M,a2⟩:=K.of;refine eD ay.u aq.i T λa ga a6 bA E a7=>?_;have bB:=I.size;have bC:=x.size;have z3:=L.size;have z4:=M.size;have z5:=E.size;have ao:∀r,leads out r->¬bG g gs A r:=λr p ba=>by have:=gT r ba;have:=(bS Y p).1;omega
 have bb:=bw (bw ag L ao) M ao;refine jA ay.u aq.i T (bb.ext E) a7.ls Θ Θ λbD bc bd bE be ap=>?_;rw[aN,wrap_i64 Ω Ω];have bg:ai (bG g gs A) w a6:=((((I.trans (x.ab _)).trans L).trans M).trans (E.ab _));have bi:ai (bG g gs A) w bd:=hQ bg ap λr p he=>by have he:r=gz:=he;omega
 have bj:∀r,bG g gs A r->¬(λr=>r=gz) r:=λr p he=>by have:=gT r p;have he:r=gz:=he;omega
 have bk:∀r,cH g gs A B r->¬(λr=>r=gz) r:=λr p he=>by have:=aQ r p.2;have he:r=gz:=he;omega
 refine⟨⟨i+1,l++[z],_,bc,T,Ω,bi,be,Ω,(a2.ext E).ab ap bj bk,?_,Θ,λbF bl=>?_⟩,by simp only[bW];omega⟩
 .rw[C,show N-i=(N-(i+1))+1 by omega,C7];unfold fi;cases f:bh 1 most st with
  |none=>have e:bf 1 most (σ st)=ν:=f;rw[e];rfl
  |some q=>
   have e:bf 1 most (σ st)=σ q:=f;have:=aZ q e;subst this;rw[e];rfl
 .obtain⟨bH,W,rfl⟩:=X1.1 bl;obtain⟨q,f,rfl⟩:=X1.1 W;have h1:=(dl (n:=q.1) (s':=q.2) f).1;simp only[r9,T2];show l.length+1+q.2.toks.length<=100000;omega
def Nq{acc:List (Λ×Int)}{s s':aF}{a:Λ×Int}(h:dU sizes acc s=σ (a,s')):s'.told=s.told/\s'.big=s.big:=by
 have⟨_,_,_,e⟩:=oj h;exact⟨e.eqs.1,e.eqs.2.1⟩
def Nr{s s':aF}{l:List (Λ×Int)}(hi:dV s)(h:dF sizes s=σ (l,s')):dV s'/\(s.big=true->s'.big=true):=by
 have e:=CD sizes (σ s);rw[show jb sizes (σ s)=dF sizes s from T,h]at e;cases w:bf (-aw) aw (σ s)with
 |none=>rw[w]at e;cases e
 |some q=>
  have⟨n,s1⟩:=q;rw[w]at e;simp only at e;have h1:=(dl (n:=n) (s':=s1) w).eqs;have y:dV s1:=λp=>by rw[h1.1];rw[h1.2.1]at p;exact hi p
  split at e
  .cases U:s1.shared[(-n-1).toNat]? with
   |none=>rw[U]at e;cases e
   |some q=>
    have⟨z,l'⟩:=q;rw[U]at e;simp only at e;split at e
    .cases e;exact⟨y,λp=>by rw[h1.2.1];exact p⟩
    .cases e
  .have:=i7 (f:=dU sizes) (λacc t=>t.told=(kc n s1).told/\t.big=(kc n s1).big) (λacc t a bt ⟨x,r⟩ g=>by
    have:=Nq g;exact⟨by rw[this.1,x],by rw[this.2,r]⟩) n.toNat [] _ l s' ⟨T,T⟩ e.symm
   have⟨⟨x,r⟩,_⟩:=this;refine⟨λp=>by rw[x];rw[r]at p;exact MK n s1 p,λp=>?_⟩;rw[r];show(s1.big||_)=true;rw[h1.2.1,p];rfl
def Ns{all:Λ}{s s':aF}{x:cn}(hi:dV s)(h:cZ all s=σ (x,s')):dV s'/\s'.toks.length<s.toks.length:=by
 unfold cZ at h;cases r:bh (-aw) aw s with
 |none=>rw[r]at h;cases h
 |some q=>
 have⟨a,s1⟩:=q;rw[r]at h;simp only at h;have t0:=dl r;cases h1:eW all.length a.natAbs s1 with
 |none=>rw[h1]at h;cases h
 |some q=>
 have⟨sc,f⟩:=q;rw[h1]at h;simp only at h;have⟨w,_⟩:=tj h1;generalize sc.map (λv=>all.getD v.toNat 0)=sizes at h;cases y:bh 0 aw (bb (decide (6<a.natAbs)||dq sizes) f)with
 |none=>rw[y]at h;cases h
 |some q=>
 have⟨other,z⟩:=q;rw[y]at h;simp only at h;have A:=dl y;have F:dV z:=λe=>by
  rw[A.eqs.1];rw[A.eqs.2.1]at e;have e:(f.big||_)=false:=e;have C:=(S8.1 e).1;show f.told<=16384;rw[w.eqs.1,t0.eqs.1];rw[w.eqs.2.1,t0.eqs.2.1]at C;exact hi C
 cases p:dF sizes z with
 |none=>rw[p]at h;cases h
 |some q=>
 have⟨lines,B⟩:=q;rw[p]at h;simp only[Y3,T1]at h;obtain⟨_,rfl⟩:=h;have G:=Nr F p;have J:=CK p;have K:=t0.1;have L:=w.1;have M:f.toks.length=z.toks.length+1:=A.1;have E:∀t:aF,t.told=B.told/\t.big=B.big/\t.toks=B.toks->dV t/\t.toks.length<s.toks.length:=λt ⟨H,I,a3⟩=>⟨λe=>by rw[H];rw[I]at e;exact G.1 e,by rw[a3];omega⟩;split
 .exact E _ ⟨T,T,T⟩
 .exact E _ ⟨T,T,T⟩
def Nt{S R:ak}{x:hV}(h:au.rep false S R w cs x):au.rep (α:=hV) true bE R w cs x/\(x1.agg cs.toArray).cells=cs.toArray:=by
 obtain⟨p,d1,s,z,rfl,_,_,_,h1,q,d2,A,B,rfl,_,_,_,a,r,d3,C,E,rfl,_,_,_,f,e⟩:=h;have h1:au.rep (α:=Λ) false bE R w p x.1:=h1;have a:au.rep (α:=Λ) false bE R w q x.2.1:=a;have f:r=[Δ x.2.2.1]:=f;have e:au.rep (α:=List (Λ×Int)) false bE R w d3 x.2.2.2:=e;refine⟨⟨p,_,bE,bE,T,λ_ h=>h,λ_ h=>h,λ_ _ h _=>h,h1,q,_,bE,bE,T,λ_ h=>h,λ_ h=>h,λ_ _ h _=>h,a,r,d3,bE,bE,T,λ_ h=>h,λ_ h=>h,λ_ _ h _=>h,f,e⟩,?_⟩;obtain⟨u,rfl⟩:=W9.1 (show p.length=1 from au.len h1);obtain⟨v,rfl⟩:=W9.1 (show q.length=1 from au.len a);obtain⟨y,rfl⟩:=W9.1 (show d3.length=1 from au.len e);obtain⟨_,_,_,rfl⟩:=mr h1;obtain⟨_,_,_,rfl⟩:=mr a;obtain⟨_,_,_,rfl⟩:=mr e;subst f;rfl
def Nu{g c:Nat}{A B:ak}{o:Option aF}{clean:Bool}{L:x1}{all:Λ}{aG:x1->x3->Prop}(aH:ho w g gs A B clean o)(hi:∀s,o=σ s->dV s)(br:(c:Int)<=aw)(bt:aI .i64 w L all)(aJ:∀r,leads L r->r≠g/\r≠gs/\r<w.heap.size/\(o≠ν->¬A r))(bu:o≠ν->∀z∈all,1<=z/\z<=aw)(bw:all.length<=100001)(bx:fa w)(h1:1<w0.heap.size/\(o≠ν->cH g gs A B 1))(aK:ai (λr=>w0.heap.size<=r) w0 w)(bz:w0.heap.size<=g)(bB:w0.heap.size<=gs)(cm:g<w.heap.size/\gs<w.heap.size)(bC:o≠ν->∀r,A r->w0.heap.size<=r)(aL:∀M w' acc so aR y aM aQ,ai (λr=>w0.heap.size<=r) w0 w'->w.heap.size<=w'.heap.size->ho w' g gs aR y clean so->au.rep (α:=List hV) true aM aQ w' [M] acc->(∀r,aM r\/aQ r->r≠g/\r≠gs/\r<w'.heap.size)->aI .i64 w' L all->
   (∀q,fw (λ_ s=>cZ all s) c [] o=σ q->so=σ q.2/\acc=q.1.map hp)->(fw (λ_ s=>cZ all s) c [] o=ν->so=ν)->aG M w'):
 bT (.slice ν 0 0) (Δ 0) w λfuns aS an bD=>
  cz (α:=x1->x3->Prop) (λ(bF:x1)(aT:x3)=>
   Split bF (am x7 zV [Γ g,L] aT λbH bJ=>
  aE x7 (Y5 ju 1 #[(0,bH)]) bJ λbK bL=>
  aE x7 (Z0 #[ju,ju] ju #[funs,bK]) bL λbM aU=>
  ac x7 (aO .add aq false true aS (Δ 1)) aU λbN=>
  bD bM bN aU) (aG funs aT)) λaW=>
  ac x7 (aO .lss aq false false aS (Δ (c:Int))) an λbO=>
  Split bO (am x7 ld [Γ g] an λbP bQ=>
  aW bP bQ)
   (aW (.bool false) an):=by
 unfold aw at br;generalize f:fw (λ_ s=>cZ all s) c [] o=aX at aL;have aY:∀s,o=σ s->o≠ν:=λs h=>by rw[h];simp
 refine⟨λM ao V=>∃(i:Nat)(acc:List hV)(H:List cn)(so:Option aF)(C J E N:ak),ao=Δ (i:Int)/\i<=c/\ai (λr=>w0.heap.size<=r) w0 V/\w.heap.size<=V.heap.size/\ho V g gs C J clean so/\au.rep true E N V [M] acc/\
   aI .i64 V L all/\fa V/\aX=fw (λ_ s=>cZ all s) (c-i) H so/\(∀r,E r->w.heap.size<=r/\r<V.heap.size)/\(∀r,N r->r≠g/\r≠gs/\¬E r)/\
   ∀s,so=σ s->acc=H.map hp/\dV s/\H.length+s.toks.length<=100000/\o≠ν/\(∀r,C r->A r\/w.heap.size<=r)/\(∀r,C r->w0.heap.size<=r)/\(∀r,B r->J r)/\(∀r,E r->¬J r/\¬C r)/\(∀r,N r->cH g gs C J r),
  λ_ ao _=>c-(bW ao).toNat,⟨0,[],[],o,A,B,bE,bE,T,X5 _,aK,o4 _,aH,hK,bt,bx,f.symm,λ_ h=>h.elim,λ_ h=>h.elim,λs U=>⟨T,hi s U,?_,aY s U,λr e=>.inl e,bC (aY s U),λr e=>e,λ_ h=>h.elim,λ_ h=>h.elim⟩⟩,?_⟩
 .subst U;have ap:dp w g gs A B s clean:=aH;have:=ap.2.1.words.1;simpa using this
 rintro M _ V ⟨i,acc,H,so,C,J,E,N,rfl,cp,bR,cq,aZ,bS,av,a1,Z,G,bU,a2⟩;refine aV (λv a6=>Ext V a6/\((v= .bool true/\i<c/\∃st,so=σ st)\/(v= .bool false/\(so=ν\/i=c)))) ?_ ?_
 rotate_left
 .intro aA ax;rw[aP,al];refine⟨λa7=>?_,λcr=>ax _ _ ⟨Ext.refl _,.inr ⟨T,.inr Ω⟩⟩⟩;apply(CG aZ).mono;rintro _ a6 _ ⟨rfl,ba⟩;cases so with
  |none=>exact ax _ _ ⟨ba,.inr ⟨T,.inl T⟩⟩
  |some st=>exact ax _ _ ⟨ba,.inl ⟨T,Ω,st,T⟩⟩
 rintro _ aa ⟨K,bX⟩;have ct:=K.size;have S:=aZ.ext K;have bb:=bA bS K;have bc:ai (λr=>w0.heap.size<=r) w0 aa:=bR.trans (K.ab _);rcases bX with⟨rfl,a7,st,rfl⟩|⟨rfl,bY⟩
 rotate_left
 .rw[a8];have bd:aX=so.map λst=>(H,st):=by
   rcases bY with rfl|rfl
   .exact Z
   .rw[U4]at Z;rw[Z];cases so<;>rfl
  refine aL M aa acc so C J E (λr=>N r/\r<aa.heap.size) bc Ω S (au.mono bb (λ_ _ h=>h) λr e h=>⟨h,e⟩) (λr e=>?_) (av.ext K) (λq I=>?_) λbe=>?_
  .rcases e with e|e
   .have:=G r e;exact⟨Ω,Ω,Ω⟩
   .have:=bU r e.1;exact⟨this.1,this.2.1,e.2⟩
  .rw[bd]at I;cases so with
   |none=>cases I
   |some st=>cases I;exact⟨T,(a2 _ T).1⟩
  .rw[bd]at be;cases so with
   |none=>rfl
   |some st=>cases be
 rw[bV];obtain⟨rfl,bf,cu,ae,bg,ay,bh,af,bi⟩:=a2 st T;have S:dp aa g gs C J st clean:=S;have⟨cw,cA,cB,cC,cD⟩:=S.1;have bZ:=h1.2 ae;have bj:cH g gs C J 1:=⟨λf=>by
  rcases f with f|f|f
  .omega
  .omega
  .have:=ay 1 f;omega,bh 1 bZ.2⟩
 have bk:∀r,leads L r->¬bG g gs C r/\r<aa.heap.size:=λr e=>by
  have⟨b0,b1,b2,b3⟩:=aJ r e;refine⟨λf=>?_,Ω⟩;rcases f with f|f|f
  .exact b0 f
  .exact b1 f
  .rcases bg r f with h|h
   .exact b3 ae h
   .omega
 apply(MV S bf (av.ext K) bk (bu ae) bw (a1.ext K) bj).mono;rintro _ b4 _ ⟨aR,y,cs,az,rfl,cE,W,X,aB,bl,bm,b5,b6⟩;have z3:=W.size;have⟨bn,b8⟩:=Nt b5;refine kG (α:=hV) (a:=az) (cs:=cs) (A:=bE) (R:=cH g gs aR y) ju.u b7.i Φ b8 bn λu ag O _ hu=>?_;have z4:=O.size;have b9:∀r,r<aa.heap.size->E r\/N r->¬bG g gs C r:=λr e h f=>by
  rcases h with h|h
  .have p:=G r h;rcases f with f|f|f
   .omega
   .omega
   .exact (af r h).2 f
  .exact (bi r h).1 f
 have ca:∀r,r<aa.heap.size->cH g gs C J r->cH g gs aR y r:=λr e h=>⟨λf=>h.1 (f.imp id (Or.imp id λf=>(X r f).elim id λh'=>Ω)),bl r h.2⟩;have cb:bI E (cH g gs aR y) ag [M] (H.map hp):=bA (au.ab (au.mono (S':=E) (R':=λr=>cH g gs aR y r/\N r) bb (λ_ _ h=>h) λr e h=>⟨ca r e (bi r h),h⟩) W λr e h=>b9 r e (h.imp id λh=>h.2) |> λh=>h) O |> λh=>au.mono h (λ_ _ h=>h) λ_ _ h=>h.1;have ah:∀r,E r->¬y r:=λr h aj=>by
  have p:=G r h;rcases(aB r aj).1 with P|P
  .exact (af r h).1 P
  .have aC:=(G r h).2;omega
 have cF:(H.map hp).length=H.length:=Ξ
 refine n5 (α:=hV) (a:=az) (A:=bE) ju.u b7.i T cb hu (bA bn O) (λr _ cc h=>?_) Ω Ω λcG Q cd Y=>?_
 .rcases h with h|h
  .exact h
  .exact ah r cc h.2
 have z5:=Y.size;rw[aN,wrap_i64 Ω Ω];have ce:ai (λr=>w0.heap.size<=r) w0 ag:=(bc.trans (W.mono λr _ f=>by
  rcases f with rfl|rfl|f
  .exact bz
  .exact bB
  .exact ay r f)).trans (O.ab _)
 have z0:=aK.size;have cg:ai (λr=>w0.heap.size<=r) w0 Q:=ce.trans (Y.mono λr _ h=>by have:=(G r h).1;omega);have ch:aI .i64 ag L all:=(ia (av.ext K) W λr e a n c ad aD=>(bk r ⟨a,n,c,ad,aD⟩).1 e).ext O;have ci:aI .i64 Q L all:=ia ch Y λr e a n c ad aD=>by
  have b2:=(aJ r ⟨a,n,c,ad,aD⟩).2.2.1;have:=(G r e).1;omega
 have cj:fa Q:=(((a1.ext K).ab W bj.1).ext O).ab Y λh=>by have:=(G 1 h).1;omega
 have bo:ho Q g gs aR y clean ((cZ all st).map (·.2)):=by
  refine ho.ab (bm.ext O) Y (λh=>by have:=G _ h;omega) (λr e cI h=>?_) (λr e h=>ah r h e.2);have p:=G r h;rcases e with rfl|rfl|e
  .omega
  .omega
  .rcases X r e with P|P
   .exact (af r h).2 P
   .omega
 have ck:=mZ cd;refine⟨⟨i+1,(H.map hp)++[az],H++((cZ all st).map (·.1)).toList,(cZ all st).map (·.2),aR,y,λr=>(E r\/bE r\/ag.heap.size<=r)/\r<Q.heap.size,cH g gs aR y,T,Ω,cg,Ω,bo,ck,ci,cj,?_,λr e=>⟨?_,e.2⟩,λr e=>⟨λh=>e.1 (.inl h),λh=>e.1 (.inr (.inl h)),λh=>?_⟩,λs' cl=>?_⟩,by simp only[bW];omega⟩
 .rw[Z,show c-i=(c-(i+1))+1 by omega,C7];cases I:cZ all st with
  |none=>rfl
  |some q=>rfl
 .rcases e.1 with h|h|h
  .exact (G r h).1
  .exact h.elim
  .omega
 .rcases h.1 with p|p|p
  .exact ah r p e.2
  .exact p
  .have:=(aB r e.2).2;omega
 .obtain⟨q,I,rfl⟩:=X1.1 cl;have p:=Ns (s':=q.2) (x:=q.1) bf I;have P:=b6 q I;refine⟨?_,p.1,?_,ae,λr e=>?_,λr e=>?_,λr e=>bl r (bh r e),λr e=>⟨λaj=>?_,λbp=>?_⟩,λr e=>e⟩
  .rw[I,P];simp
  .rw[I];simp only[Z6,n9,r9,T2];omega
  .rcases X r e with h|h
   .exact bg r h
   .exact .inr Ω
  .rcases X r e with h|h
   .exact ay r h
   .omega
  .rcases e.1 with p|p|p
   .exact ah r p aj
   .exact p
   .have:=(aB r aj).2;omega
  .have cJ:ho Q g gs aR y clean ((cZ all st).map (·.2)):=bo;have bq:=bm;rw[I]at bq;have ap:dp b4 g gs aR y q.2 clean:=bq;have a7:=ap.1.2.2.2.1 r (.inr (.inr bp));rcases e.1 with p|p|p
   .rcases X r bp with aC|aC
    .exact (af r p).2 aC
    .have:=(G r p).2;omega
   .exact p
   .omega
def dV.num{lo hi n:Int}{s s':aF}(e:dV s)(h:bh lo hi s=σ (n,s')):dV s':=λa=>by
 have h1:=(dl h).eqs;rw[h1.1];rw[h1.2.1]at a;exact e a
def dV.big{b:Bool}{s:aF}(h:dV s):dV (bb b s):=λa=>by
 have a:(s.big||b)=false:=a;exact h (S8.1 a).1
def dV.word{w:Λ}{s s':aF}(h:dV s)(hw:dO s=σ (w,s')):dV s':=λa=>by
 have h1:=(q1 hw).2;rw[h1]at a ⊢;exact h a
def Nv{most:Int}{s s':aF}(hi:dV s)(hm:most<=aw)(h:cK (fi most) N [] s=σ (l,s')):dV s'/\(∀z∈l,1<=z/\z<=aw)/\l.length+s'.toks.length<=s.toks.length:=by
 have:=i7 (f:=fi most) (λacc t=>dV t/\(∀z∈acc,1<=z/\z<=aw)/\acc.length+t.toks.length<=s.toks.length) (λacc t a bt ⟨h1,p,y⟩ g=>by
  unfold fi at g;cases e:bh 1 most t with
  |none=>rw[e]at g;cases g
  |some q=>
   have⟨z,r⟩:=q;rw[e]at g;simp only[Y3,T1]at g;obtain⟨rfl,rfl⟩:=g;have A:=(ib e).1;have B:=(dl e).1;refine⟨(h1.num e).big,λx J=>?_,?_⟩
   .rcases o5.1 J with J|J
    .exact p x J
    .rw[o9.1 J];omega
   .simp only[r9,T2];show acc.length+1+r.toks.length<=_;omega) N [] s l s' ⟨hi,λz w=>(by cases w),Ξ⟩ h
 exact this.1
def Nw{s0:aF}{name:Λ}{n most cnt:Int}{so6:Option aF}(h1:∀q,dO s0=σ q->name=q.1)(r:∀q,bf 1 aw (((dO s0).map (·.2)).map (bb (decide (64<(name.length:Int)))))=σ q->n=q.1)(p:∀q,bf 1 aw (((bf 1 aw (((dO s0).map (·.2)).map (bb (decide (64<(name.length:Int)))))).map (·.2)).map (bb (decide (64<n))))=σ q->most=q.1)(h:∀q,bf 0 aw ((bf 1 aw (((bf 1 aw (((dO s0).map (·.2)).map (bb (decide (64<(name.length:Int)))))).map (·.2)).map (bb (decide (64<n))))).map (·.2))=σ q->cnt=q.1)(f:∀q,bf 1 aw (((bf 0 aw ((bf 1 aw (((bf 1 aw (((dO s0).map (·.2)).map (bb (decide (64<(name.length:Int)))))).map (·.2)).map (bb (decide (64<n))))).map (·.2))).map (·.2)).map (bb (decide (256<cnt))))=σ q->k=q.1)(e:∀q,fw (fi most) n.toNat [] (((bf 1 aw (((bf 0 aw ((bf 1 aw (((bf 1 aw (((dO s0).map (·.2)).map (bb (decide (64<(name.length:Int)))))).map (·.2)).map (bb (decide (64<n))))).map (·.2))).map (·.2)).map (bb (decide (256<cnt))))).map (·.2)).map (bb (decide (2147483648<k))))=σ q->so6=σ q.2/\sizes=q.1)(a:fw (fi most) n.toNat [] (((bf 1 aw (((bf 0 aw ((bf 1 aw (((bf 1 aw (((dO s0).map (·.2)).map (bb (decide (64<(name.length:Int)))))).map (·.2)).map (bb (decide (64<n))))).map (·.2))).map (·.2)).map (bb (decide (256<cnt))))).map (·.2)).map (bb (decide (2147483648<k))))=ν->so6=ν):
  hn s0=(fw (λ_ s=>cZ sizes s) cnt.toNat [] so6).map λq=>((⟨name,k,sizes,q.1⟩:b3),q.2):=by
 unfold hn;cases A:dO s0 with
 |none=>
  rw[A]at a;rw[a rfl];rfl
 |some L=>
 have⟨Z,s1⟩:=L;rw[A]at h1 r p h f e a;have:=h1 _ rfl;subst this;have M:decide (64<(name.length:Int))=decide (64<name.length):=by rw[U1,decide_eq_true_eq,decide_eq_true_eq];omega
 rw[M]at r p h f e a;simp only[Z6]at r p h f e a ⊢;generalize bb (decide (64<name.length)) s1=x at*;cases B:bh 1 aw x with
 |none=>
  rw[show bf 1 aw (σ x)=ν from B]at a;rw[a rfl];rfl
 |some N=>
 have⟨O,C⟩:=N;rw[show bf 1 aw (σ x)=σ (O,C)from B]at r p h f e a;have:=r _ rfl;subst this;simp only[Z6]at p h f e a ⊢;generalize bb (decide (64<n)) C=y at*;cases E:bh 1 aw y with
 |none=>
  rw[show bf 1 aw (σ y)=ν from E]at a;rw[a rfl];rfl
 |some P=>
 have⟨Q,w⟩:=P;rw[show bf 1 aw (σ y)=σ (Q,w)from E]at p h f e a;have:=p _ rfl;subst this;simp only[Z6]at h f e a ⊢;cases F:bh 0 aw w with
 |none=>
  rw[show bf 0 aw (σ w)=ν from F]at a;rw[a rfl];rfl
 |some R=>
 have⟨S,G⟩:=R;rw[show bf 0 aw (σ w)=σ (S,G)from F]at h f e a;have:=h _ rfl;subst this;simp only[Z6]at f e a ⊢;generalize bb (decide (256<cnt)) G=z at*;cases H:bh 1 aw z with
 |none=>
  rw[show bf 1 aw (σ z)=ν from H]at a;rw[a rfl];rfl
 |some T=>
 have⟨V,I⟩:=T;rw[show bf 1 aw (σ z)=σ (V,I)from H]at f e a;have:=f _ rfl;subst this;simp only[Z6]at e a ⊢;generalize bb (decide (2147483648<k)) I=W at*;cases J:cK (fi most) n.toNat [] W with
 |none=>
  rw[a J];rfl
 |some X=>
 have⟨aa,K⟩:=X;have⟨U,Y⟩:=e _ J;subst Y;rw[U];simp only;show _=V7 _ (cK (λ_ s=>cZ sizes s) cnt.toNat [] K);cases cK (λ_ s=>cZ sizes s) cnt.toNat [] K<;>rfl
def Nx{f:b3}(ae:e8 N f)(h:N<=60000):∀x∈f.funs,tP f.k x:=λx J=>by
 have⟨h1,e,p⟩:=ae.funs x J;refine⟨ae.k,⟨?_,λz a=>?_⟩,h1.other,h1.lines,by have:=h1.len;omega,Ω⟩
 .rw[h1.sizes,r8];exact e
 .rw[h1.sizes]at a;obtain⟨v,ad,rfl⟩:=j5.1 a;have:=h1.scope.2 v ad;apply ae.sizes.2.2 _;rw[u4,x6 Ω];exact S3 _
def Ny{p:x1}{pl:Λ}(P:aI .u8 w p pl)(aL:Bytes pl)(bO:pl.length<=60000)(ae:fa w):am x7 Hp [p] w (C6 w (fs pl)):=by
 have aM:1<w.heap.size:=by
  have:=ae 0 (.int .u64 1) T;have⟨c,e,f,aN,_⟩:=vQ this;exact(j4.1 aN).1
 have bP:aw=4611686018427387904:=rfl;apply az func55;rw[aW cN.u P,bJ,al];refine⟨λh=>Ω,λ_=>?_⟩;apply(Be P aL Ω).mono;rintro _ V _ ⟨af,gs,rfl,bQ,aO,Q⟩;rw[cY (cs:=#[Γ gs,Δ 0,Δ 0,Δ 0,Δ 0,Δ 0,.slice ν 0 0]) Ψ];refine bd λg aa bR R ag=>?_;have bT:=af.size;have bU:=R.size;have aP:=ag.lt;have bV:gs<V.heap.size:=Q.2.2.2.1.lt;have bW:=pw _ pl (o4 _);let s0:aF:=⟨(lex pl).1,0,false,[]⟩;let B0:ak:=λr=>r<V.heap.size;have aQ:dp aa g gs bE B0 s0 (lex pl).2:=by
  refine⟨⟨Ω,λh=>h,λh=>h,λr y=>?_,λr y=>by have y:r<V.heap.size:=y;omega⟩,⟨aO,pl,0,Q.ext R,λr y=>?_,by rw[List.drop_zero]⟩,⟨by show(0:Int)<=0;omega,by show(0:Int)<=aw;omega,by show(([]:List (Λ×List (Λ×Int))).length+(lex pl).1.length<=100000);simp;omega⟩,0,0,0,0,.slice ν 0 0,ag,⟨by simp[s0],λ_=>rfl⟩,hK (α:=i9)⟩
  .rcases y with rfl|rfl|y
   .exact aP
   .omega
   .exact y.elim
  .obtain⟨_,_,_,K,bn,hm⟩:=Q;have H:=bS hm y;have I:=ch hm K Φ y;exact⟨λE=>by
    rcases E with E|E|E
    .omega
    .exact I E
    .exact E,by show r<V.heap.size;omega⟩
 have S:∀r,bG g gs bE r->w.heap.size<=r:=λr y=>by
  rcases y with rfl|rfl|y
  .omega
  .omega
  .exact y.elim
 apply(BV aQ).mono;rintro _ bX _ ⟨B,name,bY,rfl,bZ,b0,aS⟩;have⟨aT,aU⟩:=gk.of B;rw[bo,bp,od cQ.u,bJ];apply(rg aU).mono;rintro _ b1 _ B;have⟨aV,aX⟩:=B.of;apply(mq (lo:=1) (hi:=aw) aX).mono;rintro _ b2 _ ⟨B,n,b4,rfl,ah,aY⟩;have⟨aZ,a1⟩:=B.of;rw[bo,bp,bJ];apply(rg a1).mono;rintro _ b5 _ B;have⟨a2,a6⟩:=B.of;apply(mq (lo:=1) (hi:=aw) a6).mono;rintro _ b6 _ ⟨B,most,b7,rfl,aj,a7⟩;have⟨a8,ba⟩:=B.of;rw[bo,bp];apply(mq (lo:=0) (hi:=aw) ba).mono;rintro _ b8 _ ⟨B,cnt,b9,rfl,an,bc⟩;have⟨be,bg⟩:=B.of;rw[bo,bp,bJ];apply(rg bg).mono;rintro _ ca _ B;have⟨bh,bi⟩:=B.of;apply(mq (lo:=1) (hi:=aw) bi).mono;rintro _ cb _ ⟨B,k,cc,rfl,hk,cd⟩;have⟨bj,bk⟩:=B.of;rw[bo,bp,bJ];apply(rg bk).mono;rintro _ ao _ B;have⟨bl,W⟩:=B.of;have ap:ai (bG g gs bE) aa ao:=(((((((aT.trans aV).trans aZ).trans a2).trans a8).trans be).trans bh).trans bj).trans bl;have X:∀{lo:Int}{o:Option aF}{x:Int},0<=lo->lo<=1->(∀q,bf lo aw o=σ q->x=q.1)->(bf lo aw o=ν->x=0)->0<=x/\x<=aw:=λ{lo o x}ce h1 U bm=>by
  cases a:bf lo aw o with
  |none=>rw[bm a];omega
  |some q=>
   have H:=ni (n:=q.1) (s':=q.2) a;rw[U q a];omega
 have cg:=X Ω Ω ah aY;have ci:=X Ω Ω an bc;have cj:=X Ω Ω aj a7;obtain⟨N,bq⟩:∃N:Nat,n=(N:Int):=⟨n.toNat,Ω⟩;obtain⟨C,br⟩:∃C:Nat,cnt=(C:Int):=⟨cnt.toNat,Ω⟩;have bt:n.toNat=N:=Ω
 have bu:cnt.toNat=C:=Ω
 have bw:dV s0:=λ_=>by show(0:Int)<=16384;omega
 have L:∀{o:Option aF}{b:Bool},(∀s,o=σ s->dV s)->∀s,o.map (bb b)=σ s->dV s:=λh s U=>by
  obtain⟨t,Y,rfl⟩:=X1.1 U;exact(h t Y).big
 have M:∀{o:Option aF}{lo hi:Int},(∀s,o=σ s->dV s)->∀s,(bf lo hi o).map (·.2)=σ s->dV s:=λ{o lo hi}h s U=>by
  obtain⟨q,a,rfl⟩:=X1.1 U;cases o with
  |none=>cases a
  |some t=>exact(h t T).num (n:=q.1) (s':=q.2) a
 have bx:∀s,(dO s0).map (·.2)=σ s->dV s:=λs U=>by
  obtain⟨q,a,rfl⟩:=X1.1 U;exact bw.word (w:=q.1) (s':=q.2) a
 have aq:=L (b:=decide (2147483648<k)) (M (lo:=1) (hi:=aw) (L (b:=decide (256<cnt)) (M (lo:=0) (hi:=aw) (M (lo:=1) (hi:=aw) (L (b:=decide (64<n)) (M (lo:=1) (hi:=aw) (L (b:=decide (64<(name.length:Int))) bx)))))));have A:=λ(sizes:Λ)(so6:Option aF)=>Nw (s0:=s0) (name:=name) (sizes:=sizes) (n:=n) (most:=most) (cnt:=cnt) (k:=k) (so6:=so6) aS ah aj an hk;rw[bt]at A;generalize ck:V7 (bb (decide (2147483648<k))) (V7 (λx=>x.2) (bf 1 aw (V7 (bb (decide (256<cnt))) (V7 (λx=>x.2) (bf 0 aw (V7 (λx=>x.2) (bf 1 aw (V7 (bb (decide (64<n))) (V7 (λx=>x.2) (bf 1 aw (V7 (bb (decide (64<(name.length:Int)))) (V7 (λx=>x.2) (dO s0)))))))))))))=au at aq W A;rw[bq];refine Np (N:=N) (most:=most) W Ω λszv Z sizes so6 gz bz av ax cl bA ay aA=>?_;have A:=A sizes so6 ay aA;rw[bu]at A;have ac:ai (bG g gs bE) aa Z:=ap.trans bz;have z12:=ac.size;have aB:Ext w aa:=af.trans R;have bB:ai (λr=>w.heap.size<=r) w Z:=(aB.ab _).trans (ac.mono λr _ h=>S r h);have cm:=av.side;have aC:∀J,so6=σ J->dV J/\(∀z∈sizes,1<=z/\z<=aw)/\sizes.length<=100000:=λJ ad=>by
  cases a:fw (fi most) N [] au with
  |none=>rw[aA a]at ad;cases ad
  |some q=>
   have⟨H,I⟩:=ay q a;cases ad.symm.trans H;subst I;cases au with
   |none=>cases a
   |some bC=>
    have⟨bD,bF,cn⟩:=Nv (l:=q.1) (s':=q.2) (aq bC T) Ω a;exact⟨bD,bF,by have:=W.words;omega⟩
 rw[br];have aD:∀r,leads szv r->ao.heap.size<=r/\r<Z.heap.size:=λr y=>by have:=bS ax y;omega
 have cp:=ap.size;refine Nu (w0:=w) (c:=C) (all:=sizes) av.q (λs U=>(aC s U).1) Ω ax.ls (λr y=>?_) (λO=>?_) bA ((ae.ext aB).ab ac λE=>by have:=S 1 E;omega) ⟨aM,λ_=>⟨λE=>by have:=S 1 E;omega,by show 1<V.heap.size;omega⟩⟩
  bB Ω Ω ⟨Ω,Ω⟩ (λ_ r h=>h.elim) λcq cr acc so aR ct cu cw aE cz bH bI bK bL aG bM=>?_
 .have:=aD r y;exact⟨Ω,Ω,Ω,λ_ h=>h⟩
 .cases aH:so6 with
  |none=>exact absurd aH O
  |some J=>exact(aC J aH).2.1
 have cA:=aE.size;have G:fs pl=match hn s0 with
   |none=>ν
   |some (f,s)=>if s.toks=[]/\(lex pl).2=true/\s.big=false then σ f else ν:=by
  unfold fs;rw[if_neg Ω];have e:hn ⟨(lex pl).1,0,false,[]⟩=hn s0:=rfl;rw[e];cases hn s0<;>rfl
 refine No (w0:=w) (sizes:=sizes) (res:=fs pl) bH ⟨λs U Y bN K=>?_,λO=>?_⟩ bL (λr y=>by have:=aD r y;exact⟨Ω,Ω⟩) bI bK (λ_=>trivial) Ω Ω aE Ω Ω P λv w' h=>h
 .cases a:fw (λ_ s=>cZ sizes s) C [] so6 with
  |none=>rw[bM a]at U;cases U
  |some q=>
   have⟨H,I⟩:=aG q a;cases U.symm.trans H;rw[a]at A;have A:hn s0=σ ((⟨name,k,sizes,q.1⟩:b3),q.2):=A;have aJ:=(BS T A K).1;rw[A]at G;simp only at G;rw[if_pos ⟨Y,bN,K⟩]at G;exact⟨q.1,I,G,Nx aJ (by show(lex pl).1.length<=60000;omega),aJ.lr,Ω⟩
 .cases a:fw (λ_ s=>cZ sizes s) C [] so6 with
  |none=>
   rw[a]at A;have A:hn s0=ν:=A;rw[A]at G;exact absurd G O
  |some q=>
   have⟨H,I⟩:=aG q a;rw[a]at A;have A:hn s0=σ ((⟨name,k,sizes,q.1⟩:b3),q.2):=A;rw[A]at G;simp only at G;by_cases aK:q.2.toks=[]/\(lex pl).2=true/\q.2.big=false
   .exact⟨q.2,H,aK⟩
   .rw[if_neg aK]at G;exact absurd G O
def wX(s t cs:Λ):∃e,pu s t cs= .tuple #[Δ (bl s cs t),Δ e]:=by
 unfold pu bl;cases cq s t 0 with
 |none=>exact⟨3,T⟩
 |some n=>exact⟨0,T⟩
def Nz:am x7 Ah [sv] w λr w'=>Ext w w'/\∃g,r= .func (.func pj) #[] #[Γ g]/\w.heap.size<=g/\ag w' g an sv.cells.toList:=by
 apply az func244;refine bd λg V f a e=>?_;rw[iy];exact⟨a,g,T,Ω,e⟩
def NA{f:R7}{cap:Array x1}{A:Nat->List x1->x3->Prop}{e:x3->Prop}{L:Λ}(O:pc x7 f cap.toList n A e)(B:∀k vs w,A k vs w->∃x,L[k]?=σ x/\vs=[Δ x])(he:∀a b,ai (λr=>w.heap.size<=r) a b->e a->e b)(P:e w)(Q:n=L.length)(ap:L.length<=1000000):
  am x7 HP [.slice ν 0 0,.func (.func f) #[] cap] w λv w'=>Ext w w'/\∃g,w.heap.size<=g/\av .i64 ah w' g v L:=by
 apply hG func89;refine bd λgs V aq C p=>?_;have p:ag V gs an [.slice ν 0 0]:=p;have au:=p.lt;have E:∀{a b:x3},Ext a b->e a->e b:=λJ=>he _ _ (J.ab _);refine jW.old ⟨Nat,false,f,cap,0,_,_,e,λk w'=>ai (λr=>w.heap.size<=r) w w'/\∃v g,gs<g/\ag w' gs an [v]/\av .i64 ah w' g v (L.take k),λ_ _ _=>False,T,O.s,?_,λ_ _ J h=>E J h,
  λ_ _ _ J h=>⟨h.1.trans (J.ab _),by have⟨v,g,h1,R,S⟩:=h.2;exact⟨v,g,h1,R.ext J,S.ext J⟩⟩,λ_ _ _ _ _ h=>h,E C P,⟨C.ab _,_,gs+1,Ω,p,av.nil _ _ _ _⟩,?_,?_,λ_ _ h=>h.elim,λ_ _ _ h=>h.elim⟩
 .rintro k vs aw w' ⟨_,_,h⟩;obtain⟨x,_,rfl⟩:=B k vs w' h;rfl
 .rintro a k _ aa hU ⟨hk,rfl,W⟩ ⟨X,v,g,Y,G,ad⟩;have⟨x,J,Z⟩:=B k _ aa W;cases Z;intro ay q _ _;have H:=G.ext q;rw[ax Ψ (H.Qz T)];refine eD an.u ah.i T λa ga az aA y ac=>?_;have aB:(L.take k).length<=1000000:=Θ
  refine jA an.u ah.i T ((ad.ext q).ext y) ac.ls (by simp only[b6,List.length_nil];omega) (by simp only[b6,List.length_nil];omega) λae af aC aD z I=>?_;have aE:=G.lt;have aF:=q.size;have aG:=y.size;refine bq an.i z.ls.cells.1 z.ls.cells.2 (((H.ext y).ab I Ω)) Ξ λaj K aH ak=>?_;have M:ai (λr=>w.heap.size<=r) aa aj:=(((q.trans y).ab _).trans (I.mono λr _ h=>by show w.heap.size<=r;omega)).trans (K.mono λr _ h=>by show w.heap.size<=r;omega);refine⟨he _ _ M hU,⟨X.trans M,ae,af,Ω,ak,?_⟩,λh=>by cases h⟩;rw[u9,J];exact z.ab K (λ_=>Ω)
 .rintro k aI hk ⟨al,v,g,Y,ao,ad⟩;have hk:k=n:=hk;subst hk;rw[ax Ψ (ao.Qz T)];intro aJ N _;rw[Q,o6]at ad;exact⟨(al.ext λr aK h=>by have:w.heap.size<=r:=h;omega).trans N,g,Ω,ad.ext N⟩
def NB{f:R7}{cap:Array x1}{p:Nat->List x1->x3->Prop}{e:x3->Prop}{L:Λ}(q:pc x7 f cap.toList n p e)(s:∀k vs w,p k vs w->∃x,L[k]?=σ x/\vs=[Δ x])(he:∀a b,ai (λr=>w.heap.size<=r) a b->e a->e b)(y:e w)(z:n=L.length)(A:L.length<=1000000):
  am x7 Hi [.func (.func f) #[] cap] w λv w'=>Ext w w'/\∃g,w.heap.size<=g/\av .i64 ah w' g v L:=by
 apply az func44;exact(NA q s he y z A).mono λ_ _ _ h=>h
def NC{x:Int}:am x7 cmp_Less_int [Δ x,Δ y] w λv w'=>v= .bool (decide (x<y))/\Ext w w':=by
 apply az func318;refine aV (λv V=>v= .bool (decide (x<y))/\Ext w V) (λ_ _ h=>h) λaA a=>?_;have e:∀{z:Int}{w:x3},am x7 cmp_isNaN_int [Δ z] w λv w'=>v= .bool false/\Ext w w':=λ{z w}=>by
  apply az func82;simp only[bB];exact⟨Ξ,Ext.refl _⟩
 apply e.mono;rintro _ aa _ ⟨rfl,f⟩;rw[a8];simp only[aP];exact a _ _ ⟨T,f⟩
def ND{P:W8}{t:p9}{cx cy:Bool}{k:o7}{a b:Int}:cD P (aO .sub t cx cy (.int k a) (.int k b)) (.int k (k.wrap (a-b))) w:=λw' _=>by simp[aO,eqGuard,binOp,Op.intArith]
def NE{g:Nat}(h:av .i64 ah w g sv l)(ak:l.length<=1000000):
  am x7 J0 [sv,Δ 0,Δ l.length] w λ_ w'=>ai (λr=>r=g) w w'/\∃m,m.Perm l/\m.Pairwise (·<= ·)/\av .i64 ah w' g sv m:=by
 apply az func312;simp only[aN];refine⟨λt V=>∃(i:Nat)(m:Λ),t=Δ i/\1<=i/\(i<=l.length\/i=1)/\m.Perm l/\qZ m i/\ai (λr=>r=g) w V/\av .i64 ah V g sv m,λt _=>l.length+1-(bW t).toNat,
  ⟨1,l,by congr 1,Ω,.inr T,.refl _,λp q x y h1 R=>Ω,ai.refl _ _,h⟩,?_⟩
 rintro _ V ⟨i,m,rfl,ao,ap,z,I,J,hm⟩;have S:=z.length_eq;simp only[aP,al];refine⟨λU=>?_,λaq=>?_⟩
 .have U:i<l.length:=Ω
  refine⟨λt aa=>∃(j:Nat)(m:Λ),t=Δ j/\j<=i/\m.Perm l/\pD m i j/\ai (λr=>r=g) w aa/\av .i64 ah aa g sv m,λt _=>(bW t).toNat,⟨i,m,T,o4 _,z,Li I,J,hm⟩,?_⟩;rintro _ aa ⟨j,m,rfl,W,z,E,K,hm⟩;have S:=z.length_eq;refine aV (λv L=>Ext aa L/\∃c,v= .bool c/\(c=true->0<j/\∃a b,m[j-1]?=σ a/\m[j]?=σ b/\b<a)/\(c=false->j=0\/0<j/\∃a b,m[j-1]?=σ a/\m[j]?=σ b/\a<=b)) ?_ ?_
  .rintro _ L ⟨B,c,rfl,X,Y⟩;rw[ca];refine⟨λh=>?_,λh=>?_⟩
   .obtain⟨A,a,b,f,s,G⟩:=X h;intro au M _ _;have C:=(hm.ext B).ext M;have e:X6.wrap ((j:Int)-1)=((j-1:Nat):Int):=by rw[wrap_i64 Ω Ω];omega
    simp only[dN,e];rw[bc an.u ah.i Ψ C.ls f,bc an.u ah.i Ψ C.ls s,hN T an.u ah.i C Ω];refine hP ah.i C Ω λZ ac aw N=>⟨.inr ⟨by have:=ND (P:=x7) (w:=Z) (t:=ah) (cx:=false) (cy:=true) (k:=.i64) (a:=(j:Int)) (b:=1);rwa [e]at this,trivial⟩,?_⟩;rw[hN T an.u ah.i N Θ];refine hP ah.i N Θ λax ad ay ae=>?_;refine⟨⟨j-1,_,T,Ω,(swap_perm Ω f s).trans z,Ll E A W f s G,((K.trans ((B.trans M).ab _)).trans ac).trans ad,ae⟩,?_⟩;simp only[bW];omega
   .simp only[aN];rw[wrap_i64 Ω Ω];refine⟨⟨i+1,m,T,Ω,.inl Ω,z,?_,K.trans (B.ab _),hm.ext B⟩,?_⟩
    .rcases Y h with rfl|⟨A,a,b,f,s,G⟩
     .exact Lj E
     .exact Lk E A f s G
    .simp only[bW];omega
  .intro aA O aB H _ _;have Q:=hm.ext H;simp only[bJ,al];refine⟨λA=>?_,λA=>O _ _ ⟨H,false,T,(λh=>by cases h),λ_=>.inl Ω⟩⟩;have e:X6.wrap ((j:Int)-1)=((j-1:Nat):Int):=by rw[wrap_i64 Ω Ω];omega
   have⟨b,s⟩:=aH (l:=m) (i:=j) Ω;have⟨a,f⟩:=aH (l:=m) (i:=j-1) Ω;rw[bc an.u ah.i Ψ Q.ls s];simp only[dN,e];rw[bc an.u ah.i Ψ Q.ls f];apply NC.mono;rintro _ aC _ ⟨rfl,af⟩;refine O _ _ ⟨H.trans af,_,T,λh=>⟨Ω,a,b,f,s,by simpa using h⟩,λh=>.inr ⟨Ω,a,b,f,s,by simpa using h⟩⟩
 .refine⟨J,m,z,Lm λp q x y h1 R ag aj=>I p q x y h1 Ω ag aj,hm⟩
def NF{P:W8}{t:p9}{k:o7}{s:ByteArray}{i:Nat}{K:x1->Prop}(a:P.underlying t=σ .string)(hi:i<s.size)(e:∀b:Nat,b<256->K (.int .u8 b)):
  ac P (Instr.index t (.string s) (.int k (i:Int))) w K:=by
 have f:s[i]?=σ s[i]:=by simp[hi]
 have:ac P (Instr.index t (.string s) (.int k (i:Int))) w K=K (.int .u8 s[i].toNat):=ac.of λw' _=>by
  simp[Instr.index,asIntOf,run_underlying a,hi]
 rw[this];exact e _ (UInt8.toNat_lt _)
def NG(a:n<256):am x7 HJ [.int .u64 (n:Int)] w λv w'=>(∃r,v=Δ r)/\Ext w w':=by
 apply az func81;refine am.mono (K:=λv w'=>(∃r,v=Δ r)/\Ext w w') ?_ (λ_ _ _ h=>h);apply az func172;simp only[cz,cO,al];refine⟨λh=>Ω,λ_=>⟨λh=>Ω,λ_=>⟨λh=>Ω,λ_=>?_⟩⟩⟩;rw[fq fL.u cJ.u,wrap_u8 Ω Ω];refine NF cQ.u (by exact Q2 a Φ) λb e=>?_;rw[fq cJ.u ah.u];simp only[aN];exact⟨⟨_,T⟩,Ext.refl _⟩
def NH{g:Nat}(h:av .i64 ah w g sv l)(f:l.length<=12):
  am x7 JJ [sv] w λ_ w'=>ai (λr=>r=g) w w'/\∃m,m.Perm l/\m.Pairwise (·<= ·)/\av .i64 ah w' g sv m:=by
 apply az func276;rw[aW an.u h.ls,fq ah.u pn.u,wrap_u64 Ω Ω];apply(NG (n:=l.length) Ω).mono;rintro _ V _ ⟨⟨r,rfl⟩,e⟩;refine am.mono (K:=λ_ w'=>ai (λr=>r=g) V w'/\∃m,m.Perm l/\m.Pairwise (·<= ·)/\av .i64 ah w' g sv m) ?_ (λ_ _ _ h=>⟨(e.ab _).trans h.1,h.2⟩);apply az func299;refine⟨λa b _ _ _ aa=>a=Δ 0/\b=Δ l.length/\V=aa,λ_ _ _ _ _ _=>0,⟨T,T,T⟩,?_⟩;rintro _ _ _ _ _ _ ⟨rfl,rfl,rfl⟩;simp only[dN,mV,al];rw[wrap_i64 Ω Ω];refine⟨λ_=>?_,λh=>Ω⟩;apply(NE (h.ext e) Ω).mono;exact λ_ _ _ h=>h
def NI{f:R7}{cap:Array x1}{p:Nat->List x1->x3->Prop}{e:x3->Prop}{L:Λ}(q:pc x7 f cap.toList n p e)(s:∀k vs w,p k vs w->∃x,L[k]?=σ x/\vs=[Δ x])(he:∀a b,ai (λr=>w.heap.size<=r) a b->e a->e b)(y:e w)(z:n=L.length)(A:L.length<=12):
  am x7 Ag [.func (.func f) #[] cap] w λv w'=>Ext w w'/\∃g m,w.heap.size<=g/\m.Perm L/\m.Pairwise (·<= ·)/\av .i64 ah w' g v m:=by
 apply az func243;apply(NB q s he y z Ω).mono;rintro v V _ ⟨B,g,C,ad⟩;apply(NH ad A).mono;rintro _ aa _ ⟨E,m,h1,G,H⟩;exact⟨B.then E (by rintro r I rfl;omega),g,m,C,h1,G,H⟩
def C8{x:Int}(h:aI .i64 w sv l):
  am x7 vC [sv,Δ x] w λv w'=>Ext w w'/\∃r:Int,v=Δ r/\∀i:Nat,l[i]?=σ x->(r=i↔ ∀j,j<i->l[j]? ≠σ x):=by
 apply az func53;rw[aW an.u h];refine bT.range l.length (λi _ V=>Ext w V/\∀j,j<i->l[j]? ≠σ x) h.le ⟨Ext.refl _,λj p=>Ω⟩ ?_ ?_
 .rintro i _ V k hi ⟨a,e⟩ hk;simp only[aP,al];refine⟨λ_=>?_,λh=>Ω⟩;have⟨y,f⟩:=aH (l:=l) hi;rw[bc an.u ah.i Ψ (h.ext a) f];simp only[be,al,aN];refine⟨λhe=>⟨a,i,T,λq s=>?_⟩,λhe=>hk _ _ ⟨a,λj p=>?_⟩⟩
  .subst he;refine⟨λB=>by
              have:i=q:=Ω
              subst this;exact e,λz=>?_⟩
   rcases Nat.lt_trichotomy i q with h1|h1|h1
   .exact absurd f (z i h1)
   .omega
   .exact absurd s (e q h1)
  .by_cases A:j=i
   .subst A;rw[f];intro h;exact he (b9 h).symm
   .exact e j Ω
 .rintro _ V k ⟨a,e⟩;simp only[aP,al];refine⟨λh=>Ω,λ_=>⟨a,-1,T,λi hi=>?_⟩⟩;exact absurd hi (e i (x4.1 hi).1)
def NJ{g:Nat}(p:ag w0 g an [sv])(a:aI .i64 w0 sv l):
  pc x7 pj [Γ g] l.length (λk vs _=>∃x,l[k]?=σ x/\vs=[Δ x]) (λw=>Ext w0 w):=by
 refine⟨pj.enters,λy aA B w C _ q J r=>?_⟩;apply qF func277;rw[ax Ψ ((p.ext J).Qz T),aW an.u (a.ext J)];refine cp.range l.length (λi aa=>aA i aa/\Ext w0 aa) a.le ⟨r,J⟩ ?_ ?_
 .rintro i aa k hi ⟨e,f⟩ hk;simp only[aP,al];refine⟨λ_=>?_,λh=>Ω⟩;have⟨x,J⟩:=aH (l:=l) hi;rw[bc an.u ah.i Ψ (a.ext f) J];refine⟨T,(q i _ aa hi f ⟨x,J,T⟩ e).mono ?_⟩;rintro _ E (⟨rfl,s,z⟩|⟨rfl,A⟩)
  .simp only[bK,Y7,a8,aN];exact hk _ ⟨z.1,s⟩
  .simp only[bK,W3,bV];exact .inr ⟨i,hi,A⟩
 .rintro aa k ⟨e,_⟩;simp only[aP,al];exact⟨λh=>Ω,λ_=>.inl e⟩
def wY(h:aI .i64 w sv l)(p:l.length<=12)(q:∀v w' g m,Ext w w'->w.heap.size<=g->m.Perm l->m.Pairwise (·<= ·)->av .i64 ah w' g v m->K v w'):
  am x7 Ah [sv] w λt V=>am x7 Ag [t] V K:=by
 apply Nz.mono;rintro _ V _ ⟨f,g,rfl,B,e⟩;have e:ag V g an [sv]:=by rw[h.cells.1]at e;exact e
 apply(NI (NJ e (h.ext f)) (λ_ _ _ h=>h) (λa b s J=>J.then s (λr C h=>Ω)) (Ext.refl _) T p).mono;rintro v aa _ ⟨x,y,m,E,h1,z,A⟩;have:=f.size;exact q v aa y m (f.trans x) Ω h1 z A
def NK(w:x3)(aj:Λ)(k:Int)(cs a:Λ)(v:x1)(w':x3):Prop:=
 Ext w w'/\
  (¬Good a aj.length->v= .tuple #[.pointer ν,Δ 1])/\
  (Good a aj.length->∃e f h,v= .tuple #[Γ e,Δ 0]/\dk w' e f h (en aj a) k (oi aj cs a))
def NL{g bI:Nat}{Y:x1}{cs z:Λ}(h:dk w g bI sv aj k cs)(hk:right k)(P:aI .i64 w Y z)(cr:z.length<=12)(ct:Good z aj.length->aQ (en aj z)<=4096):
  am x7 Jq [Γ g,Y] w (NK w aj k cs z):=by
 have aC:=h;have cu:=h.2.2.1;have cw:=P.cells;apply hG func245;refine bd λg1 V dd bJ B=>?_;refine bd λbK aa de a2 A=>?_;have s1:=bJ.size;have df:=a2.size;have dg:=B.lt;have dh:=A.lt;have a6:=bJ.trans a2;have B:ag aa g1 eV [Γ g]:=B.ext a2;have A:ag aa bK an [Y]:=by rw[cw.1]at A;exact A
 rw[ax Ψ (B.Qz T),di eV.u];simp only[Z5,a8];rw[ax Ψ (A.Qz T)];have cz:=P.ext a6;have sub:∀{w:x3}{g:Nat}{sv:x1}{k:Int}{a7:x1},ag w g cX [sv,Δ k,a7]->w.rangeAt g (0+0) [sv]:=λK=>oa K (by
  intro j v ad
  match j,ad with
  |0,ad=>exact ad)
 refine wY cz cr λdG cA dm m bL dj ba cB hm=>?_;have cC:=ba.length_eq;rw[aW an.u hm.ls];have cD:=a6.trans bL;refine kz.range m.length (λi _ _ bb=>Ext cA bb/\∀j,j<i->m[j]?=σ (j:Int)) Ω ⟨Ext.refl _,λj be=>Ω⟩ ?_ ?_
 .rintro i _ _ bb Z hi ⟨ac,bf⟩ ae;simp only[aP,al];refine⟨λ_=>?_,λh=>Ω⟩;have⟨y,af⟩:=aH (l:=m) hi;rw[bc an.u ah.i Ψ (hm.ls.ext ac) af];simp only[bB,al,aN];refine⟨λak dl cE _=>⟨(cD.trans ac).trans cE,λ_=>rfl,λbg=>?_⟩,λhe=>ae _ _ _ ⟨ac,λj be=>?_⟩⟩
  .have:=BB bg ba cB i hi;rw[af]at this;exact absurd (b9 this).symm ak
  .by_cases cF:j=i
   .subst cF;rw[af];congr 1;omega
   .exact bf j Ω
 .rintro _ _ bb Z ⟨ac,bf⟩;simp only[aP,al,ev];refine⟨λh=>Ω,λ_ dn cG _ _=>?_⟩;have C:Good z m.length:=Ln bf ba;have ao:=(bL.trans ac).trans cG;have aD:=a6.trans ao;have B:=B.ext ao;have A:=A.ext ao;have cH:=P.ext aD;have cI:=aC.ext aD;have dp:=ao.size;have⟨⟨a7,gs,K,aE,bM⟩,_⟩:=id cI;rw[ax Ψ (A.Qz T),aW an.u cH,ax Ψ (B.Qz T),bZ,aU cX.p T,bR (cs:=[sv]) bF.p bF.i T (sub K)];apply(B1 aE.ls).mono;rintro _ aF _ ⟨rfl,L⟩;refine⟨.inl L,?_⟩;simp only[bB,al];refine⟨λak dq cJ _=>⟨(aD.trans L).trans cJ,λ_=>rfl,λbg=>absurd (by rw[bg.1]) ak⟩,λdr=>?_⟩;have bh:z.length=aj.length:=Ω
  have C:Good z aj.length:=by rw[<-bh,<-cC];exact C
  have ds:=ao.trans L;have bi:=aD.trans L;have B:=B.ext L;have A:=A.ext L;have bN:=P.ext bi;rw[ax Ψ (A.Qz T),aW an.u bN];refine j0 an.u ah.i Ω Ω λgz bO dt Q bP=>?_;have cK:av .i64 ah bO gz (.slice (σ ⟨gz,0,ν⟩) z.length z.length) (p8 z.length 0):=av.of (n:=z.length) (b1.full bP Ξ (by simp[maxLen];omega));generalize (x1.slice (σ ⟨gz,0,ν⟩) z.length z.length)=cL at*;have du:=L.size;have dv:=Q.size;have dw:=bP.lt;rw[ax Ψ ((A.ext Q).Qz T),aW an.u (bN.ext Q)];have bQ:=bi.trans Q;have aG:(en aj z).length=z.length:=th _ _;refine cp.range z.length (λi G=>ai (λr=>r=gz) bO G/\av .i64 ah G gz cL (upto (en aj z) 0 i)) Ω ⟨ai.refl _ _,by rw[qV,aG];exact cK⟩ ?_ ?_
  .rintro i G Z hi ⟨M,aJ⟩ ae;simp only[aP,al];refine⟨λ_=>?_,λh=>Ω⟩;have ap:Ext w G:=bQ.then M (by rintro r O rfl;omega);have aK:Ext aF G:=Q.then M (by rintro r O rfl;omega);have⟨p,bj⟩:=aH (l:=z) hi;have⟨⟨a7,gs,K,aE,bM⟩,_⟩:=aC.ext ap;rw[bc an.u ah.i Ψ (P.ext ap) bj,ax Ψ ((B.ext aK).Qz T),bZ,aU cX.p T,bR (cs:=[sv]) bF.p bF.i T (sub K)];apply(q4 aE.ls).mono;rintro _ dx _ ⟨rfl,bS⟩;have bT:=aJ.ext bS;have cM:(upto (en aj z) 0 i).length=z.length:=by rw[qU,aG]
   rw[hN T an.u ah.i bT Ω];refine hP ah.i bT Ω λdy cN _ bU=>?_;simp only[aN];have h1:=(C.2 i p bj).1;have au:(en aj z)[i]?=σ (ie aj p):=by
    unfold en ie;rw[x8,bj,if_pos h1.1];rfl
   rw[qX au]at bU;exact ae _ ⟨(M.trans (bS.ab _)).trans cN,bU⟩
  .rintro G Z ⟨M,aJ⟩;simp only[aP,al];refine⟨λh=>Ω,λ_=>?_⟩;have ap:Ext w G:=bQ.then M (by rintro r O rfl;omega);have aK:Ext aF G:=Q.then M (by rintro r O rfl;omega);rw[<-aG,qW]at aJ;have⟨⟨a7,gs,K,aE,bM⟩,_⟩:=aC.ext ap;rw[ax Ψ ((B.ext aK).Qz T),aT cX.p 1 K T];have aL:cb (en aj z):=cu.Lp C T;have bV:=ct C;have dz:=prod_bound aL;apply(vZ aJ.ls).mono;rintro _ bk _ ⟨bW,_,_,_,cO⟩;obtain⟨aw,H,R,rfl,dA,dC,dD,aO⟩:=cO aL bV ⟨hk,Ω,by have:=hk.1;omega⟩;obtain⟨N,aR⟩:∃N:Nat,(aQ (en aj z)).toNat=N:=⟨_,T⟩;rw[aR]at aO;rw[bo,bp];refine bu eV.i λbX dE dF bY az=>?_;refine bq eV.i T rfl az (by simp[x1.cells]) λcP cQ dH az=>?_;have dI:=M.size;have dJ:=bW.size;have dK:=bY.size;have bm:Ext bk cP:=bY.then cQ (by rintro r O rfl;omega);have b0:=bW.trans bm;have cS:=aO.ext bm;have dL:=az.lt;have⟨⟨bn,b2,b3,b4,cT⟩,⟨b5,b6,_⟩,_,dM⟩:=id cS;have dN:0<N:=Ω
   have dO:aw<bk.heap.size:=by have⟨⟨_,_,q,_⟩,_⟩:=id aO;exact q.lt
   have dP:H<bk.heap.size:=by have⟨⟨_,_,_,_,q⟩,_⟩:=id aO;exact tM q Θ
   rw[ax Ψ (az.Qz T),bZ,aU cX.p T,bR (cs:=[R]) bF.p bF.i T (sub b3)];apply wB.mono;rintro _ E _ ⟨I,aS,rfl,dQ,b7⟩;have dR:=bm.size;have dS:=I.size;let S:Nat->Prop:=λr=>r=H;let U:=oi aj cs z;have br:U.length=N:=by simp only[U];rw[BH,aR]
   let cU:x3->Prop:=λw'=>ag w' g1 eV [Γ g]/\ag w' bK an [Y]/\ag w' bX eV [Γ aw]/\ag w' aw cX [R,Δ k,bn]/\
    dk w' g bI sv aj k cs/\aI .i64 w' Y z/\av .i64 ah w' b2 R (en aj z)/\ag w' aS bF [R]/\E.heap.size<=w'.heap.size
   have W:∀{a:x3},ai S E a->cU a:=by
    intro a J;have bt:Ext aF E:=(aK.trans b0).trans I;have bx:Ext aF a:=bt.put J Ω;have b8:Ext w a:=bi.trans bx;refine⟨B.ext bx,A.ext bx,(az.ext I).ab J (by show¬(bX=H);omega),(b3.ext I).ab J (by show¬(aw=H);exact b5),aC.ext b8,P.ext b8,bw (b4.ext I) J (λr O he=>b6 ((show r=H from he)▸O)),
     b7.ab J (by show¬(aS=H);omega),J.size⟩
   have ca:=wA (g:=aS) (B0:=E.heap.size) (sv:=R) aL;rw[aR]at ca;refine pd.old ⟨Nat,false,l8,#[Γ aS],0,_,_,_,λq w'=>ai S E w'/\av .i64 aq w' H bn (upto U 0 q),λ_ _ _=>False,T,ca.s,
    ?_,λ_ _ J h=>⟨h.1.ext J,h.2.1.ext J,Y9 h.2.2 J.size⟩,λ_ _ _ J h=>⟨h.1.trans (J.ab S),h.2.ext J⟩,λ_ _ _ _ _ h=>h,⟨b7,(b4.ext I).ls,o4 _⟩,⟨ai.refl _ _,?_⟩,?_,?_,λ_ _ h=>h.elim,λ_ _ _ h=>h.elim⟩
   .rintro _ _ _ _ ⟨_,_,_,_,rfl,_⟩;rfl
   .rw[qV,br];exact cT.ext I
   .rintro _ aM q _ dT ⟨_,_,dU⟩ ⟨au,rfl,dV,gt,cV,dW,cW⟩ ⟨aV,cY⟩;cases cV;let x:=cR (en aj z) (q:Int);have cc:x.length=z.length:=by simp only[x];rw[jD,aG]
    intro cZ X _ _;have cd:=cW.ext X;rw[aW an.u cd.ls];refine j0 an.u ah.i (by rw[jD];omega) (by rw[jD];omega) λgo ce dX bz cg=>?_;have c0:av .i64 ah ce go (.slice (σ ⟨go,0,ν⟩) (cR (en aj z) (q:Int)).length (cR (en aj z) (q:Int)).length) (p8 (cR (en aj z) (q:Int)).length 0):=av.of (n:=(cR (en aj z) (q:Int)).length) (b1.full cg Ξ (by rw[jD];simp[maxLen];omega));generalize (x1.slice (σ ⟨go,0,ν⟩) (cR (en aj z) (q:Int)).length (cR (en aj z) (q:Int)).length)=c1 at*;have dY:=aV.size;have dZ:=X.size;have ea:=bz.size;have lo:=cg.lt;have c2:ai S E ce:=aV.trans ((X.trans bz).ab S);have f:=W c2;rw[ax Ψ (f.2.1.Qz T),aW an.u f.2.2.2.2.2.1];refine cp.range z.length (λj aX=>Ext cZ aX/\∃y:Λ,y.length=z.length/\av .i64 ah aX go c1 y/\∀(i:Nat)(p:Int),i<j->z[i]?=σ p->y[p.toNat]?=x[i]?) Ω
     ⟨bz,_,by simp[cc,x],c0,λi p hi=>Ω⟩ ?_ ?_
    .rintro j aX Z be ⟨aA,y,bA,aY,bC⟩ ae;simp only[aP,al];refine⟨λ_=>?_,λh=>Ω⟩;have f:=W (aV.trans ((X.trans aA).ab S));have⟨p,aZ⟩:=aH (l:=z) be;have⟨u,hu⟩:=aH (l:=x) (i:=j) Ω;have eb:=(C.2 j p aZ).1;rw[bc an.u ah.i Ψ f.2.2.2.2.2.1 aZ,bc an.u ah.i Ψ (cd.ext aA).ls hu,hN (i:=p.toNat) Ω an.u ah.i aY Ω];refine hP ah.i aY Ω λec c3 ed c4=>?_;simp only[aN];refine ae _ ⟨aA.then c3 (by rintro r O rfl;omega),_,by simpa using bA,c4,λi a1 hi aB=>?_⟩;by_cases ch:i=j
     .subst ch;rw[aZ]at aB;cases aB;rw[c8 Ω,hu]
     .have ee:=(C.2 i a1 aB).1;have ak:p.toNat≠a1.toNat:=λhe=>by
       have:p=a1:=Ω
       subst this;exact ch (C.inj aB aZ)
      rw[Y2 ak];exact bC i a1 Ω aB
    .rintro aX Z ⟨aA,y,bA,aY,bC⟩;simp only[aP,al];refine⟨λh=>Ω,λ_ c5 ci _ _=>?_⟩;have af:y=mo z x:=BF C (by rw[cc,bh]) (by rw[bA,bh]) λi p cj=>bC i p (x4.1 cj).1 cj;have ck:=aA.trans ci;have cl:ai S E c5:=aV.trans ((X.trans ck).ab S);have⟨f1,f2,f3,f4,f5,f6,f7,f8,f9⟩:=W cl;rw[ax Ψ (f3.Qz T),aT cX.p 2 f4 T,ax Ψ (f1.Qz T)];apply(v7 f5 (aY.ls.ext ci)).mono;rintro _ ef _ ⟨rfl,bD⟩;refine⟨.inl bD,?_⟩;have⟨e,he⟩:=wX aj y cs;rw[he,bo,bp];have c6:=cl.trans (bD.ab S);have cm:=(cY.ext ((X.trans ck).trans bD));have cM:(upto U 0 q).length=N:=by rw[qU,br]
     rw[hN T ay.u aq.i cm Ω];refine hP aq.i cm Ω λc9 da eg cn=>?_;have cq:ai S E c9:=c6.trans (da.mono λr _ h=>h);have⟨f1,f2,f3,f4,f5,f6,f7,f8,f9⟩:=W cq;have db:U[q]?=σ (bl aj cs y):=by
      simp only[U,oi];rw[x8,List.getElem?_range (by rw[aR];exact au),af];rfl
     rw[qX db]at cn;exact⟨⟨f8,f7.ls,f9⟩,⟨cq,cn⟩,λh=>by cases h⟩
   .rintro q eh au ⟨bE,bG⟩;rw[show q=N from au]at bG;have f:=W bE;rw[ax Ψ (f.2.2.1.Qz T)];intro ei bH _;have⟨f1,f2,f3,f4,f5,f6,f7,f8,f9⟩:=W (bE.trans (bH.ab S));rw[<-br,qW]at bG;have bt:Ext w E:=(ap.trans b0).trans I;refine⟨(bt.put bE Ω).trans bH,λdc=>absurd C dc,λ_=>⟨aw,H,R,T,⟨bn,b2,f4,f7,bG.ext bH⟩,⟨b5,b6,bV⟩,aL,BH _ _ _⟩⟩
def gW(l:Λ):Prop:=∀(i j:Nat)(x y:Int),i<j->l[i]?=σ x->l[j]?=σ y->x<y
def gW.inj(h:gW l){i:Nat}{x:Int}(hi:l[i]?=σ x)(a:l[j]?=σ x):i=j:=by
 rcases Nat.lt_trichotomy i j with h1|h1|h1
 .have:=h i j x x h1 hi a;omega
 .exact h1
 .have:=h j i x x h1 a hi;omega
def dedup(l:Λ):Nat->Λ
 |0=>[]
 |j+1=>if 0<j/\l[j]?=l[j-1]? then dedup l j else dedup l j++[l.getD j 0]
theorem C9(l:Λ):∀j,(dedup l j).length<=j
 |0=>o4 _
 |j+1=>by
  have:=C9 l j;unfold dedup;split
  .omega
  .simp;omega
def wZ(a:0<j)(h:l[j]?=l[j-1]?):dedup l (j+1)=dedup l j:=by
 rw[dedup,if_pos ⟨a,h⟩]
def w1{x:Int}(J:l[j]?=σ x)(h:0<j->l[j]? ≠l[j-1]?):dedup l (j+1)=dedup l j++[x]:=by
 rw[dedup,if_neg (λa=>h a.1 a.2),u4,J];rfl
theorem tR{l:Λ}:∀{j:Nat},j<=l.length->(∀i,i<j->0<i->l[i]? ≠l[i-1]?)->dedup l j=l.take j
 |0,_,_=>by simp[dedup]
 |j+1,e,h=>by
  have J:l[j]?=σ l[j]:=x6 Ω;rw[w1 J (h j Ω),tR Ω (λi hi a=>h i Ω a),u9,J];rfl
theorem Da{l:Λ}(U:l.Pairwise (·<= ·)):∀{j:Nat},j<=l.length->(gW (dedup l j)/\∀x,x∈dedup l j↔x∈l.take j)
 |0,_=>⟨λi j x y _ h=>by simp[dedup]at h,λx=>by simp[dedup]⟩
 |j+1,H=>by
  have⟨h1,p⟩:=Da U (j:=j) Ω;have J:l[j]?=σ l[j]:=x6 Ω;by_cases f:0<j/\l[j]?=l[j-1]?
  .rw[wZ f.1 f.2];refine⟨h1,λx=>?_⟩;rw[p,u9,J];simp only[n9,o5,o9];refine⟨.inl,λh=>h.elim id λhe=>?_⟩;subst he;have r:(l.take j)[j-1]?=σ l[j]:=by rw[Z7 Ω,<-f.2,J]
   exact x5 r
  .have s:0<j->l[j]? ≠l[j-1]?:=λA he=>f ⟨A,he⟩;rw[w1 J s];have B:∀x∈dedup l j,x<l[j]:=λx C=>by
    have⟨i,hi,he⟩:=List.getElem_of_mem ((p x).1 C);have I:i<j:=by rw[l9]at hi;omega
    rw[List.getElem_take]at he;subst he;have r:l[i]<=l[j-1]:=by
     by_cases w:i=j-1
     .subst w;exact Int.le_refl _
     .exact V8.1 U i (j-1) Ω Ω Ω
    have w:=V8.1 U (j-1) j Ω Ω Ω;have z:=s Ω;rw[J,x6 (show j-1<l.length by omega)]at z;have K:l[j]≠l[j-1]:=λh=>z (by rw[h]);omega
   refine⟨λa b x y E q e=>?_,λx=>?_⟩
   .have F:=(x4.1 e).1;simp only[r9,b6,List.length_nil]at F;rw[Y6 Ω]at q;by_cases G:b=(dedup l j).length
    .subst G;rw[Y8 (o4 _),U4]at e;simp at e;subst e;exact B x (x5 q)
    .rw[Y6 Ω]at e;exact h1 a b x y E q e
   .rw[u9,J];simp only[n9,o5,o9,p]
def rm(l:Λ):Prop:=∀(j:Nat)(x:Int),l[j]?=σ x->0<=x/\(0<j->∀y,l[j-1]?=σ y->y<x)
def rm.up(h:rm l):gW l:=by
 intro i j x y q J;induction j generalizing y with
 |zero=>omega
 |succ j f=>
  intro e;have r:=(x4.1 e).1;obtain⟨z,a⟩:∃z,l[j]?=σ z:=⟨_,x6 (show j<l.length by omega)⟩;have h1:=(h (j+1) y e).2 Ω z (by simpa using a);by_cases p:i=j
  .subst p;rw[J]at a;cases a;exact h1
  .have:=f z Ω a;omega
def NM(h:gW l)(a:∀x∈l,0<=x):rm l:=λj x J=>⟨a x (x5 J),λf y e=>h (j-1) j y x Ω e J⟩
def Db{g E:Nat}{dn:x1}{cs:Λ}(h:dk w g E sv aj k cs)(a:aI .i64 w dn l):
  am x7 Jr [Γ g,dn] w λv w'=>Ext w w'/\∃c,v= .bool c/\(c=true↔l.length=aj.length/\rm l):=by
 have⟨⟨a7,gs,G,hm,f⟩,_⟩:=h;have sub:w.rangeAt g (0+0) [sv]:=oa G (by
  intro j v ad
  match j,ad with
  |0,ad=>exact ad)
 apply az func246;rw[aW an.u a,bZ,aU cX.p T,bR (cs:=[sv]) bF.p bF.i T sub];apply(B1 hm.ls).mono;rintro _ V _ ⟨rfl,q⟩;simp only[bB,al];refine⟨λH=>⟨q,false,T,(λh=>by cases h),λh=>absurd (by rw[h.1]) H⟩,λB=>?_⟩;have B:l.length=aj.length:=Ω
 rw[aW an.u (a.ext q)];refine bT.range l.length (λi _ aa=>Ext w aa/\∀(j:Nat)(x:Int),j<i->l[j]?=σ x->0<=x/\(0<j->∀y,l[j-1]?=σ y->y<x)) a.le ⟨q,λj x I=>Ω⟩ ?_ ?_
 .rintro i _ aa K hi ⟨e,r⟩ L;simp only[aP,al];refine⟨λ_=>?_,λh=>Ω⟩;have⟨x,J⟩:=aH (l:=l) hi;have Q:=a.le;rw[bc an.u ah.i Ψ (a.ext e) J];refine aV (λv M=>aa=M/\∃c,v= .bool c/\(c=false↔0<=x/\(0<i->∀y,l[i-1]?=σ y->y<x))) ?_ ?_
  .rintro _ _ ⟨rfl,c,rfl,f⟩;rw[ca];simp only[aN];refine⟨λN=>⟨e,false,T,(λh=>by cases h),λh=>?_⟩,λae=>L _ _ ⟨e,λj O I s=>?_⟩⟩
   .have:=f.2 (h.2 i x J);rw[N]at this;cases this
   .by_cases P:j=i
    .subst P;rw[J]at s;cases s;exact f.1 ae
    .exact r j O Ω s
  .intro aA z;simp only[aP,bJ,dN,al];refine⟨λR=>z _ _ ⟨T,true,T,(λh=>by cases h),λh=>Ω⟩,λS=>⟨λU=>?_,λW=>z _ _ ⟨T,false,T,λ_=>⟨Ω,λh=>Ω⟩,λ_=>rfl⟩⟩⟩;obtain⟨y,A⟩:∃y,l[i-1]?=σ y:=⟨_,x6 (show i-1<l.length by omega)⟩;rw[wrap_i64 Ω Ω,fP (i:=i-1) Ω an.u ah.i Ψ (a.ext e) A];simp only[cO];refine z _ _ ⟨T,_,T,?_⟩;rw[decide_eq_false_iff_not];refine⟨λh=>⟨Ω,λ_ X C=>by rw[A]at C;cases C;omega⟩,λh=>by have:=h.2 Ω y A;omega⟩
 .rintro _ aa K ⟨e,r⟩;simp only[aP,al];exact⟨λh=>Ω,λ_=>⟨e,true,T,λ_=>⟨B,λj x J=>r j x (x4.1 J).1 J⟩,λ_=>rfl⟩⟩
def fx(l:Λ)(x:Int):Int:=if x∈l then(l.idxOf x:Int)else-1
def w2{i:Nat}{x:Int}(h:gW l)(hi:l[i]?=σ x):fx l x=i:=by
 have hm:x∈l:=x5 hi;have a:=List.idxOf_lt_length_of_mem hm;have e:l.idxOf x=i:=h.inj (by rw[x6 a,List.getElem_idxOf a]) hi;unfold fx;rw[if_pos hm,e]
def NN{x:Int}(h:x∉l):fx l x= -1:=if_neg h
def tS{x:Int}(h:aI .i64 w sv l)(hu:gW l):
  am x7 vC [sv,Δ x] w λv w'=>v=Δ (fx l x)/\Ext w w':=by
 apply az func53;rw[aW an.u h];refine bT.range l.length (λi _ V=>Ext w V/\∀j,j<i->l[j]? ≠σ x) h.le ⟨Ext.refl _,λj p=>Ω⟩ ?_ ?_
 .rintro i _ V k hi ⟨a,e⟩ hk;simp only[aP,al];refine⟨λ_=>?_,λh=>Ω⟩;have⟨y,f⟩:=aH (l:=l) hi;rw[bc an.u ah.i Ψ (h.ext a) f];simp only[be,al,aN];refine⟨λhe=>⟨?_,a⟩,λhe=>hk _ _ ⟨a,λj p=>?_⟩⟩
  .subst he;rw[w2 hu f]
  .by_cases q:j=i
   .subst q;rw[f];intro h;exact he (b9 h).symm
   .exact e j Ω
 .rintro _ V k ⟨a,e⟩;simp only[aP,al];refine⟨λh=>Ω,λ_=>⟨?_,a⟩⟩;rw[NN];intro hm;have⟨i,hi,he⟩:=List.getElem_of_mem hm;exact e i hi (by rw[x6 hi,he])
def fc(x vars scope:Λ):Λ:=scope.map λp=>x.getD (vars.idxOf p) 0
def NO(x vars scope:Λ):(fc x vars scope).length=scope.length:=by simp[fc]
def Dc{dj y:x1}{x vars:Λ}(J:aI .i64 w dj x)(ad:aI .i64 w y vars)(U:aI .i64 w sv scope)(hu:gW vars)(E:∀p∈scope,p∈vars)(O:x.length=vars.length)(P:scope.length<=1000):
  am x7 Jw [dj,y,sv] w λv w'=>Ext w w'/\∃g,w.heap.size<=g/\av .i64 ah w' g v (fc x vars scope):=by
 apply az func251;rw[aW an.u U];refine j0 an.u ah.i Ω Ω λgz V Q z G=>?_;have H:av .i64 ah V gz (.slice (σ ⟨gz,0,ν⟩) scope.length scope.length) (p8 scope.length 0):=av.of (n:=scope.length) (b1.full G Ξ (by simp[maxLen];omega));generalize (x1.slice (σ ⟨gz,0,ν⟩) scope.length scope.length)=I at*;rw[aW an.u (U.ext z)];have q:=NO x vars scope;refine cp.range scope.length (λi aa=>Ext w aa/\av .i64 ah aa gz I (upto (fc x vars scope) 0 i)) Ω ⟨z,by rw[qV,q];exact H⟩ ?_ ?_
 .rintro i aa K hi ⟨a,hm⟩ L;simp only[aP,al];refine⟨λ_=>?_,λh=>Ω⟩;have⟨p,s⟩:=aH (l:=scope) hi;have A:=E p (x5 s);have R:=List.idxOf_lt_length_of_mem A;rw[bc an.u ah.i Ψ (U.ext a) s];apply(tS (ad.ext a) hu).mono;rintro _ S _ ⟨rfl,f⟩;have e:fx vars p=(vars.idxOf p:Int):=if_pos A;obtain⟨u,B⟩:∃u,x[vars.idxOf p]?=σ u:=⟨_,x6 Ω⟩;have W:(upto (fc x vars scope) 0 i).length=scope.length:=by rw[qU,q]
  rw[fP (i:=vars.idxOf p) e an.u ah.i Ψ (J.ext (a.trans f)) B,hN T an.u ah.i (hm.ext f) Ω];refine hP ah.i (hm.ext f) Ω λX M _ C=>?_;simp only[aN];have N:(fc x vars scope)[i]?=σ u:=by
   unfold fc;rw[x8,s,Z6,u4,B];rfl
  rw[qX N]at C;exact L _ ⟨(a.trans f).then M (by rintro r Y rfl;omega),C⟩
 .rintro aa K ⟨a,hm⟩;simp only[aP,al];refine⟨λh=>Ω,λ_=>⟨a,gz,Ω,?_⟩⟩;rw[<-q,qW]at hm;exact hm
def Dd(h:t≠[])(hw:∀b∈t,bO b=true):lex t=([t],true):=by
 cases t with
 |nil=>exact absurd T h
 |cons b q=>
  have a:q.dropWhile bO=[]:=by
   have:∀(q:Λ),(∀x∈q,bO x=true)->q.dropWhile bO=[]/\q.takeWhile bO=q:=λq a=>by
    induction q with
    |nil=>simp
    |cons x q e=>
     have:=e λy f=>a y (.tail _ f);simp[a x (.head _),this.1,this.2]
   exact(this q λx J=>hw x (.tail _ J)).1
  have p:q.takeWhile bO=q:=by
   have:∀(q:Λ),(∀x∈q,bO x=true)->q.takeWhile bO=q:=λq a=>by
    induction q with
    |nil=>simp
    |cons x q e=>simp[a x (.head _),e λy f=>a y (.tail _ f)]
   exact this q λx J=>hw x (.tail _ J)
  rw[A5 (hw b (.head _)),a,p]
def De{p:x1}(h:aI .u8 w p l)(e:Bytes l)(f:l.length<=100000):am x7 zT [p] w λv w'=>Ext w w'/\∃g R,v=Γ g/\w.heap.size<=g/\hR w' g R (lex l).1 (lex l).2/\¬R g:=by
 apply(Be h e f).mono;rintro _ V _ ⟨q,g,rfl,s,x,a⟩;have⟨h1,A,B,y,bn,hm⟩:=id a;exact⟨q,g,λr=>r≠g,T,s,⟨x,l,0,a,λr z=>ch hm y Φ z,by rw[List.drop_zero]⟩,λh=>h T⟩
def NP{p:x1}(h:aI .u8 w p t)(z:Bytes t)(A:t.length<=100000)(B:t≠[])(hw:∀b∈t,bO b=true):am x7 JH [p] w λv w'=>Ext w w'/\∃n:Int,v= .tuple #[Δ 1,Δ n,Δ 0]:=by
 have C:=Dd B hw;apply az func273;apply(De h z A).mono;rintro _ V _ ⟨E,g,R,rfl,H,q,I⟩;rw[C]at q;refine⟨λ_ _ _ a aa=>ai (λr=>r=g) V aa/\((a=Δ 0/\hR aa g R [t] true)\/(a=Δ 1/\hR aa g R [] true)),λ_ _ _ a _=>1-(bW a).toNat,⟨ai.refl _ _,.inl ⟨T,q⟩⟩,?_⟩;rintro _ _ _ _ aa ⟨s,⟨rfl,e⟩|⟨rfl,e⟩⟩
 .refine (q0 e).mono ?_;rintro v x _ ⟨f,G,n,rfl⟩;rw[fR,fS,fT,be,al];refine⟨λ_=>?_,λh=>absurd T h⟩;rw[aN,wrap_i64 Ω Ω];exact⟨⟨s.trans f,.inr ⟨T,G⟩⟩,by simp[bW]⟩
 .refine (q0 e).mono ?_;rintro v x _ ⟨f,n,rfl⟩;rw[fR,fS,fT,be,al];refine⟨λh=>by simp at h,λ_=>?_⟩;rw[be,al];refine⟨λh=>by simp at h,λ_=>?_⟩;have y:Ext w x:=E.then (s.trans f) (λr J he=>by have he:r=g:=he;omega);rw[aW cN.u (h.ext y)];exact⟨y,_,T⟩
def NQ(a:Bytes t)(e:t.length<=100000)(f:t≠[])(hw:∀b∈t,bO b=true):am x7 Jm [bL t] w λv w'=>v= .bool true/\Ext w w':=by
 have z:=Dd f hw;apply az func238;refine we cQ.u cN.u cJ.u a Ω λbv V p A _=>?_;apply(NP A a e f hw).mono;rintro _ aa _ ⟨q,n,rfl⟩;rw[fR,fS,fT];refine we cQ.u cN.u cJ.u a Ω λJ K s B _=>?_;apply(De B a e).mono;rintro _ L _ ⟨C,g,R,rfl,M,x,N⟩;rw[z]at x;apply(q0 x).mono;rintro _ y _ ⟨E,_,m,rfl⟩;rw[fR,fS,fT];have G:Ext w y:=(((p.trans q).trans (s.trans C))).then E (λr O he=>by
  have he:r=g:=he;have:=p.size;have:=q.size;have:=s.size;omega)
 refine aV (λv H=>y=H/\v= .bool true) ?_ ?_
 .rintro _ _ ⟨rfl,rfl⟩;exact⟨T,G⟩
 .intro aA I;rw[be,al];refine⟨λ_=>?_,λh=>absurd T h⟩;rw[be,al];refine⟨λ_=>?_,λh=>absurd T h⟩;rw[wb a a];exact I _ _ ⟨T,by rw[decide_eq_true T]⟩
def NR{x:Int}:am x7 vK [Δ x] w λv w'=>v= .bool (decide (¬iA x))/\Ext w w':=by
 apply az func237;refine aV (λv V=>w=V/\v= .bool (decide (¬iA x))) ?_ ?_
 .rintro _ _ ⟨rfl,rfl⟩;exact⟨T,Ext.refl _⟩
 .intro aA e;rw[aP,al];refine⟨λh=>e _ _ ⟨T,by rw[decide_eq_true];intro a;have:=a.1;omega⟩,λh=>?_⟩;rw[bJ];refine e _ _ ⟨T,?_⟩;congr 1;rw[U1,decide_eq_true_eq,decide_eq_true_eq];exact⟨λf a=>by have:=a.2;omega,λf=>by
   by_cases p:32<x
   .exact p
   .exact absurd ⟨Ω,Ω⟩ f⟩
def NS(h:aI .i64 w sv l)(e:∀x∈l,iA x):
  am x7 vJ [sv,.func (.func vK) #[] #[]] w λv w'=>v= .bool false/\Ext w w':=by
 apply az func235;refine am.mono (K:=λv w'=>v=Δ (-1)/\Ext w w') ?_ ?_
 .refine az func133 ?_;rw[aW an.u h];refine bT.range l.length (λ_ _ V=>Ext w V) h.le (Ext.refl _) ?_ ?_
  .rintro i _ V k hi J hk;apply bz Ω;have⟨x,a⟩:=aH (l:=l) hi;rw[bc an.u ah.i Ψ (h.ext J) a];show am x7 vK [Δ x] V _;apply NR.mono;rintro _ aa _ ⟨rfl,f⟩;rw[al];refine⟨λp=>absurd (e x (x5 a)) p,λ_=>?_⟩;rw[aN];exact hk _ _ (J.trans f)
  .rintro _ V k J;rw[aP,al];exact⟨λh=>Ω,λ_=>⟨T,J⟩⟩
 .rintro _ V _ ⟨rfl,J⟩;rw[cO];exact⟨T,J⟩
def tT{m:Bool}{S R:ak}{d:hq}(h:au.rep m S R w cs d):∃sv g a aM gs,cs=[sv,Γ g]/\aI .i64 w sv d.1/\fX w g a aM gs d.2.aj d.2.k d.2.o d.2.D:=by
 obtain⟨c,e,A,B,rfl,_,_,_,h1,f⟩:=h;have h1:au.rep (α:=Λ) false bE R w c d.1:=h1;obtain⟨u,rfl⟩:=W9.1 (show c.length=1 from au.len h1);obtain⟨g,m,sv,gs,rfl,p,_⟩:=f;exact⟨u,g,m,sv,gs,T,de h1,p⟩
def NT{Q:Nat}{f:b3}{d:hq}{x:cn}{m:Bool}{S R:ak}(ae:lC w Q f)(af:e8 N f)(ai:x∈f.funs)(ap:rl f.k x d)(aq:au.rep m S R w cs d):
  am x7 JI [Γ Q,.agg cs.toArray] w λv w'=>v= .bool true/\Ext w w':=by
 have⟨szv,aI,gz,aJ,U,W,_,_⟩:=ae;obtain⟨sv,gT,aK,aM,gs,rfl,s,I⟩:=tT aq;have⟨av,X,aw,aO,aQ,aR⟩:=ap;have⟨E,aS,aU⟩:=af.funs x ai;rw[av]at s;apply az func275;refine bd λao V aX A G=>?_;have G:ag V ao cF [sv,Γ gT]:=by obtain⟨_,_,_,rfl⟩:=da s;exact G
 refine aV (λv aa=>Ext V aa/\v= .bool false) ?_ ?_
 rotate_left
 .intro aA J;intro aa q _ _;have z:=G.ext q;rw[aL cF.p 1 z T,di eU.u];simp only[Z5,a8];rw[aL cF.p 1 z T,aT cE.p 1 (U.ext (A.trans q)) T];apply(L3 (I.ext (A.trans q)).is).mono;rintro _ B _ ⟨rfl,a⟩;refine⟨.inl a,?_⟩;rw[bB,al];refine⟨λh=>absurd aw h,λ_=>?_⟩;have C:=z.ext a;have K:=q.trans a;rw[aL cF.p 1 C T,aL cF.p 0 C T,aW an.u (s.ext (A.trans K))];apply(L4 (I.ext (A.trans K)).is).mono;rintro _ H _ ⟨rfl,e⟩;refine⟨.inl e,?_⟩;rw[bB];refine J _ _ ⟨K.trans e,?_⟩;rw[decide_eq_false];intro h;exact h (by rw[X,E.sizes,r8])
 rintro _ aa ⟨q,rfl⟩;rw[a8];have z:=G.ext q;have L:=A.trans q;rw[aL cF.p 0 z T,aW an.u (s.ext L)];refine bT.range x.scope.length (λ_ _ B=>Ext aa B) Ω (Ext.refl _) ?_ ?_
 rotate_left
 .rintro _ B k a;rw[aP,al];exact⟨λh=>Ω,λ_=>⟨T,L.trans a⟩⟩
 rintro i _ B k hi a hk;have⟨v,ad⟩:=aH (l:=x.scope) hi;have aY:=E.scope.2 v (x5 ad);have M:=L.trans a;have C:=z.ext a;have Y:=U.ext M;have ay:f.sizes[v.toNat]?=σ (f.sizes.getD v.toNat 0):=by
  rw[u4,x6 Ω];rfl
 apply bz Ω;rw[bc an.u ah.i Ψ (s.ext M) ad];refine aV (λb H=>Ext B H/\b= .bool false) ?_ ?_
 .rintro _ H ⟨e,rfl⟩;rw[a8,aN];exact hk _ _ (a.trans e)
 .intro aA J;intro H e _ _;have O:=M.trans e;apply b4 Ω;rw[aT cE.p 2 (Y.ext e) T,aW an.u (W.ls.ext O),cO,al];refine⟨λh=>Ω,λ_=>?_⟩;rw[aL cF.p 0 (C.ext e) T];apply(C8 (s.ext O)).mono;rintro _ aZ _ ⟨Z,r,rfl,aB⟩;have aC:r=(i:Int):=(aB i ad).2 λj a1 aD=>by have:=kN E.scope.1 aD ad;omega
  subst aC;have ab:=O.trans Z;have P:=e.trans Z;rw[bB,al];refine⟨λh=>absurd T h,λ_=>?_⟩;rw[aL cF.p 1 (C.ext P) T,aT cE.p 2 (Y.ext P) T];refine px (y:=v) (i:=v.toNat) Ω an.u ah.i (W.ls.ext ab) ay λb o aE=>?_;rw[ax Ψ aE];apply(wE (I.ext ab).is).mono;rintro a2 a6 _ ⟨ac,a7,ba,aF⟩;refine⟨.inl ac,?_⟩;have aG:d.2.aj[i]?=σ (f.sizes.getD v.toNat 0):=by
   rw[X,E.sizes,x8,ad];rfl
  rw[bc an.u ah.i Ψ aF.ls aG,bB];exact J _ _ ⟨P.trans ac,by rw[decide_eq_false (λh=>h T)]⟩
def NU{q:Nat}{f:b3}{d:hq}{x:cn}{m:Bool}{S R:ak}(r:lC w q f)(s:e8 N f)(y:x∈f.funs)(z:rl f.k x d)(a:au.rep m S R w cs d):
  am x7 vL [Γ q,.agg cs.toArray] w λv w'=>v= .bool false/\Ext w w':=by
 apply az func240;refine bd λao V E e h=>?_;have A:cs.length=2:=au.len a;have h:ag V ao cF cs:=by
  obtain⟨sv,gT,G,aM,gs,rfl,B,H⟩:=tT a;obtain⟨_,_,_,rfl⟩:=da B;exact h
 rw[bR cF.p cF.i A h.range];apply(NT (r.ext e) s y z (bA a e)).mono;rintro _ aa _ ⟨rfl,C⟩;rw[bK];exact⟨T,e.trans C⟩
def NV{e:Nat}{f:b3}{r:x1}{a:List hq}{m:Bool}{S R:ak}(A:lC w e f)(B:e8 N f)(q:au.rep m S R w [r] a)(s:tQ f.k f.funs a):
  am x7 Jn [r,.func (.func vL) #[Γ e] #[]] w λv w'=>v= .bool false/\Ext w w':=by
 apply az func239;refine am.mono (K:=λv w'=>v=Δ (-1)/\Ext w w') ?_ ?_
 .refine az func274 ?_;rw[hL dM.u q];refine bT.range a.length (λ_ _ V=>Ext w V) (qK q) (Ext.refl _) ?_ ?_
  .rintro i _ V k hi J hk;apply bz Ω;have⟨d,y⟩:=aH (l:=a) hi;obtain⟨x,z⟩:∃x,f.funs[i]?=σ x:=⟨_,x6 (by have:=s.1;omega)⟩;refine ll (α:=hq) cF.p T dM.u cF.i (bA q J) y λcs C=>?_;show am x7 vL [Γ e,.agg cs.toArray] V _;apply(NU (A.ext J) B (x5 z) (s.2 i x d z y) C).mono;rintro _ aa _ ⟨rfl,E⟩;rw[a8,aN];exact hk _ _ (J.trans E)
  .rintro _ V k J;rw[aP,al];exact⟨λh=>Ω,λ_=>⟨T,J⟩⟩
 .rintro _ V _ ⟨rfl,J⟩;rw[cO];exact⟨T,J⟩
def jd(a:List cn):Nat:=(a.map λx=>x.lines.length).sum
def NW{ac:Nat}{f:b3}(ae:lC w ac f)(r:e8 N f)(bd:N<=60000)(R:f.name≠[]/\∀b∈f.name,bO b=true):
  am x7 IU [Γ ac] w λv w'=>Ext w w'/\∃e:Int,v=Δ e/\(jd f.funs<=16384->e=0):=by
 have⟨szv,bf,gz,y,A,S,U,B⟩:=id ae;have bg:=r.name;have aB:Bytes f.name:=λb aC=>by
  have:=of_decide_eq_true (R.2 b aC);omega
 apply az func191;rw[di vO.u];simp only[Z5,a8];refine aV (λv V=>Ext w V/\v= .bool false) ?_ ?_
 rotate_left
 .intro aA s;rw[aT cE.p 0 A T];apply(NQ aB Ω R.1 R.2).mono;rintro _ V _ ⟨rfl,q⟩;rw[bK,Y7,a8];rw[aT cE.p 2 (A.ext q) T,aW an.u (S.ls.ext q),be,al];refine⟨λh=>by have:=r.sizes.1;omega,λ_=>?_⟩;rw[aT cE.p 2 (A.ext q) T];apply(NS (S.ls.ext q) r.sizes.2.2).mono;rintro _ aa _ ⟨rfl,C⟩;have af:=q.trans C;rw[a8,aT cE.p 1 (A.ext af) T];apply AI.mono;rintro _ E _ ⟨rfl,G⟩;have L:=af.trans G;rw[decide_eq_true (show right f.k from r.k),bK,Y7,a8,aT cE.p 3 (A.ext L) T,iy];apply(NV (ae.ext L) r (bA U L) B).mono;rintro _ ag _ ⟨rfl,aD⟩;exact s _ _ ⟨L.trans aD,T⟩
 rintro _ V ⟨q,rfl⟩;rw[a8];have M:=A.ext q;refine aV (λv aa=>V=aa/\v= .bool false) ?_ ?_
 rotate_left
 .intro aA s;rw[aT cE.p 0 M T,od cQ.u,bJ,al];refine⟨λh=>Ω,λ_=>?_⟩;rw[aT cE.p 2 M T,aW an.u (S.ls.ext q),bJ,al];refine⟨λh=>by have:=r.sizes.2.1;omega,λ_=>?_⟩;rw[aT cE.p 3 M T,hL dM.u (bA U q),bJ];exact s _ _ ⟨T,by rw[decide_eq_false];have:=r.lr;have:=B.1;omega⟩
 rintro _ _ ⟨rfl,rfl⟩;have ai:=bA U q;rw[aT cE.p 3 M T,hL dM.u ai];refine⟨λaE aF W aa=>∃i n:Nat,W=Δ (i:Int)/\i<=y.length/\aE=Δ (n:Int)/\aF= .bool false/\Ext V aa/\n<=jd (f.funs.take i)/\n<=i*60000,λ_ _ W _=>y.length-(bW W).toNat,
  ⟨0,0,T,X5 _,T,T,Ext.refl _,X5 _,Ω⟩,?_⟩
 rintro _ _ _ aa ⟨i,n,rfl,hi,rfl,rfl,C,aG,bh⟩;have bi:y.length<=256:=by rw[B.1];exact r.lr
 rw[aP,al];refine⟨λak=>?_,λbj=>?_⟩
 .have ak:i<y.length:=Ω
  have⟨d,ap⟩:=aH (l:=y) ak;obtain⟨x,X⟩:∃x,f.funs[i]?=σ x:=⟨_,x6 (by have:=B.1;omega)⟩;have O:=B.2 i x d X ap;have⟨P,aI,aJ⟩:=r.funs x (x5 X);have bk:=P.len;refine gQ (λa b E=>Ext aa E/\a=Δ ((n+d.2.D.length:Nat):Int)/\b= .bool false) ?_ ?_
  .rintro _ _ E ⟨G,rfl,rfl⟩;rw[aN,wrap_i64 Ω Ω];have aK:=O.2.2.2.2.1;refine⟨⟨i+1,n+d.2.D.length,T,Ω,T,T,C.trans G,?_,?_⟩,by simp only[bW];omega⟩
   .have e:jd (f.funs.take (i+1))=jd (f.funs.take i)+x.lines.length:=by
     unfold jd;rw[u9,X,n9,Z4,List.sum_append,U7,List.map_nil,List.sum_cons,List.sum_nil,Nat.add_zero]
    omega
   .have:(i+1)*60000=i*60000+60000:=Ω
    have bl:d.2.D.length<=60000:=Ω
    omega
  .intro aA s;refine ll (α:=hq) cF.p T dM.u cF.i (bA ai C) ap λcs aO=>?_;obtain⟨sv,gT,bm,aM,gs,rfl,aQ,au⟩:=tT aO;refine bu cF.i λao E bn G aR=>?_;refine cd (vs:=[sv,Γ gT]) cF.i T rfl (by intro v ad;simp at ad;rcases ad with rfl|rfl<;>first|exact aQ.cells.2|rfl) aR λag aS bo aw=>?_;have Y:Ext aa ag:=G.put aS Ω;rw[aL cF.p 1 aw T];apply(L2 (au.ext Y).is).mono;rintro _ bp _ ⟨rfl,Z⟩;have aK:=O.2.2.2.2.1;rw[aN,wrap_i64 Ω Ω,aL cF.p 1 (aw.ext Z) T];apply(wE ((au.ext Y).ext Z).is).mono;rintro bq ab _ ⟨aU,br,bt,ax⟩;rw[aW an.u ax.ls];have bw:d.2.aj.length<=6:=by rw[O.2.1,P.sizes,r8];exact aI
   refine bT.range d.2.aj.length (λj out Q=>Ext ab Q/\∃gr,ab.heap.size<=gr/\av .i64 aq Q gr out (d.2.aj.take j)) Ω ⟨Ext.refl _,ab.heap.size,o4 _,av.nil _ _ _ _⟩ ?_ ?_
   .rintro j out Q k aX ⟨H,gr,aY,I⟩ hk;have⟨z,J⟩:=aH (l:=d.2.aj) aX;apply bz Ω;rw[bc an.u ah.i Ψ (ax.ls.ext H) J];refine eD ay.u aq.i T λa ga aZ bx K a1=>?_;refine jA ay.u aq.i T (I.ext K) a1.ls Θ Θ λbB a2 bC bD a6 a7=>?_;have bE:=H.size;have bF:=K.size;rw[aN];refine hk _ _ ⟨(H.trans K).put a7 Ω,a2,Ω,?_⟩;rw[u9,J];exact a6
   .rintro out Q k ⟨H,gr,aY,I⟩;rw[o6]at I;apply b4 Ω;rw[a8];have ba:d.2.aj=x.sizes:=O.2.1;rw[ba]at I;refine(BX I.ls λz J=>?_).mono ?_
    .rw[P.sizes]at J;obtain⟨v,ad,rfl⟩:=j5.1 J;have bG:=P.scope.2 v ad;refine(r.sizes.2.2 _ ?_).1;rw[u4,x6 Ω];exact S3 _
    .rintro _ aZ _ ⟨rfl,K⟩;refine s _ _ _ ⟨(((Y.trans Z).trans aU).trans H).trans K,by congr 1,by rw[aJ]⟩
 .have bb:i=y.length:=Ω
  subst bb;rw[B.1,o6]at aG;refine aV (λv E=>aa=E/\v= .bool (decide (16384<(n:Int)))) ?_ ?_
  .rintro _ _ ⟨rfl,rfl⟩;rw[al];refine⟨λh=>⟨q.trans C,5,T,λbH=>Ω⟩,λh=>⟨q.trans C,0,T,λ_=>rfl⟩⟩
  .intro aA s;rw[a8,bJ];exact s _ _ ⟨T,T⟩
theorem tU:∀{a b:Λ}{i:Nat},(∀(j:Nat)(x y:Int),j<i->a[j]?=σ x->b[j]?=σ y->x=y)->i<=a.length->i<=b.length->gl a b=gl (a.drop i) (b.drop i)
 |_,_,0,_,_,_=>Ξ
 |[],_,i+1,_,h,_=>by simp at h
 |_::_,[],i+1,_,_,h=>by simp at h
 |x::a,y::b,i+1,he,h1,e=>by
  have f:=he 0 x y Ω T rfl;subst f;simp only[gl,Int.lt_irrefl,if_false,List.drop_succ_cons];exact tU (λj u v p hu ad=>he (j+1) u v Ω hu ad) (by simpa using h1) (by simpa using e)
def Df{x:Int}:am x7 cmp_isNaN_int [Δ x] w λv w'=>v= .bool false/\Ext w w':=by
 apply az func82;simp only[bB];exact⟨Ξ,Ext.refl _⟩
def pV{x:Int}:am x7 G6 [Δ x,Δ y] w λv w'=>v=Δ (if x<y then-1 else if y<x then 1 else 0)/\Ext w w':=by
 apply az func29;apply Df.mono;rintro _ V _ ⟨rfl,a⟩;apply Df.mono;rintro _ aa _ ⟨rfl,e⟩;simp only[a8,aP,bJ,al];exact⟨λh=>⟨by rw[if_pos h],a.trans e⟩,λh=>⟨λf=>⟨by rw[if_neg h,if_pos f],a.trans e⟩,λf=>⟨by rw[if_neg h,if_neg f],a.trans e⟩⟩⟩
def NX{b:Λ}(r:aI .i64 w bj a)(z:aI .i64 w bv b):am x7 I0 [bj,bv] w λv w'=>v=Δ (gl a b)/\Ext w w':=by
 apply az func203;have Y:=r.le;rw[aW an.u r];refine⟨λ_ A V=>∃i:Nat,A=Δ (i:Int)/\i<=a.length/\i<=b.length/\Ext w V/\∀(j:Nat)(x y:Int),j<i->a[j]?=σ x->b[j]?=σ y->x=y,λ_ A _=>a.length-(bW A).toNat,⟨0,T,X5 _,X5 _,Ext.refl _,λj x y N=>Ω⟩,?_⟩;rintro _ _ V ⟨i,rfl,O,P,f,H⟩;have p:gl a b=gl (a.drop i) (b.drop i):=tU H O P;simp only[aP,al];refine⟨λs=>?_,λZ=>?_⟩
 .have s:i<a.length:=Ω
  have⟨x,J⟩:=aH (l:=a) s;have I:a.drop i=x::a.drop (i+1):=by rw[X4 s,(x4.1 J).2]
  rw[bc an.u ah.i Ψ (r.ext f) J,aW an.u (z.ext f)];simp only[cO,al];refine⟨λh=>?_,λh=>?_⟩
  .have:b.drop i=[]:=by rw[List.drop_eq_nil_iff];omega
   rw[this,I]at p;exact⟨by rw[p];rfl,f⟩
  have B:i<b.length:=Ω
  have⟨y,C⟩:=aH (l:=b) B;have Q:b.drop i=y::b.drop (i+1):=by rw[X4 B,(x4.1 C).2]
  rw[bc an.u ah.i Ψ (z.ext f) C];apply pV.mono;rintro _ aa _ ⟨rfl,K⟩;rw[I,Q]at p;simp only[gl]at p;simp only[bB,al,aN];refine⟨λL=>⟨?_,f.trans K⟩,λR=>?_⟩
  .rw[p];by_cases h1:x<y
   .rw[if_pos h1,if_pos h1]
   .by_cases q:y<x
    .rw[if_neg h1,if_pos q,if_neg h1,if_pos q]
    .rw[if_neg h1,if_neg q]at L;exact absurd T L
  .rw[wrap_i64 Ω Ω];refine⟨⟨i+1,T,s,B,f.trans K,λj S U N E G=>?_⟩,by simp only[bW];omega⟩;by_cases W:j=i
   .subst W;rw[J]at E;rw[C]at G;cases E;cases G;have M:=Z9.1 R;by_cases h1:x<y
    .rw[if_pos h1]at M;omega
    .by_cases q:y<x
     .rw[if_neg h1,if_pos q]at M;omega
     .omega
   .exact H j S U Ω E G
 .have X:i=a.length:=Ω
  subst X;rw[List.drop_length]at p;rw[aW an.u (r.ext f),aW an.u (z.ext f)];simp only[aP,al];refine⟨λh=>⟨?_,f⟩,λh=>⟨?_,f⟩⟩
  .obtain⟨y,l,e⟩:∃y l,b.drop a.length=y::l:=⟨_,_,X4 Ω⟩;rw[p,e];rfl
  .have:b.drop a.length=[]:=by rw[List.drop_eq_nil_iff];omega
   rw[p,this];rfl
def NY{x:Int}{f:x1}(h:aI .i64 w f [x,y]):am x7 zM [f] w λv w'=>v=Δ (if x≠0 then x else y)/\Ext w w':=by
 apply az func28;rw[aW an.u h];refine bT.range 2 (λi _ V=>Ext w V/\(1<=i->x=0)/\(2<=i->y=0)) Ω ⟨Ext.refl _,Ω,Ω⟩ ?_ ?_
 .rintro i _ V k hi ⟨a,h1,e⟩ hk;rw[aP,al];refine⟨λ_=>?_,λh=>by simp at h;omega⟩
  match i,hi,h1,e,hk with
  |0,_,h1,e,hk=>
   rw[bc (i:=0) an.u ah.i Ψ (h.ext a) T,bB,al];refine⟨λp=>⟨by rw[if_pos p],a⟩,λhe=>?_⟩;rw[aN];exact hk _ _ ⟨a,λ_=>Z9.1 he,λh=>Ω⟩
  |1,_,h1,e,hk=>
   rw[bc (i:=1) an.u ah.i Ψ (h.ext a) T,bB,al];have q:=h1 (o4 _);refine⟨λp=>⟨by rw[if_neg Ω],a⟩,λhe=>?_⟩;rw[aN];exact hk _ _ ⟨a,λ_=>q,λ_=>Z9.1 he⟩
 .rintro _ V k ⟨a,h1,e⟩;have q:=h1 Ω;have r:=e Ω;rw[aP,al];exact⟨λh=>by simp at h,λ_=>⟨by rw[if_neg Ω,r],a⟩⟩
structure cv where
 sv:x1
 g:Nat
 sc:Λ
 cs:Λ
def eG(h:cv):List x1:=[h.sv,Γ h.g]
abbrev ke(h:cv):x1:=.agg (eG h).toArray
def rn(h:cv):Int:=dg h.sc
def je(w:x3)(a:Nat)(h:cv):Prop:=(∃e,av .i64 ah w e h.sv h.sc)/\(∀r,leads h.sv r->r≠a)/\jI h.sc
def je.ab{a:Nat}{h:cv}(aB:je w a h)(J:ai S w w')(e:∀r,leads h.sv r->¬S r):je w' a h:=by
 have⟨⟨f,hm⟩,p⟩:=aB;exact⟨⟨f,bw hm J e⟩,p⟩
def je.one{a:Nat}{h:cv}(aB:je w a h):∀u∈eG h,u.oneCell'=true:=by
 have⟨⟨e,hm⟩,_⟩:=aB;intro u hu;simp[eG]at hu;rcases hu with rfl|rfl
 .exact hm.ls.cells.2
 .rfl
def fd(w:x3)(g:Nat)(v:x1)(L:List cv):Prop:=bk eG 2 cW w g v L/\∀h∈L,je w g h
def fd.ext{g:Nat}{L:List cv}(h:fd w g v L)(J:Ext w w'):fd w' g v L:=⟨h.1.ext J,λx a=>(h.2 x a).ab (J.ab λ_=>False) λ_ _ h=>h⟩
def fd.at{g:Nat}{L:List cv}(h:fd w g v L){i:Nat}{x:cv}(hi:L[i]?=σ x):je w g x:=h.2 x (x5 hi)
def tV{g:Nat}{L:List cv}{i:Nat}{x:cv}{K:x1->Prop}(a:y=(i:Int))(h:fd w g v L)(hi:L[i]?=σ x):
  ac x7 (j9 gB v (Δ y)) w (λp=>ac x7 (u5 cW p) w K)=K (ke x):=by
 rw[dw a gB.u cW.i h.1 (x4.1 hi).1,bR cW.p cW.i T (h.1.range hi)]
def NZ{g:Nat}{L:List cv}{i:Nat}{x:cv}{K:Unit->x3->Prop}(s:y=(i:Int))(h:fd w g v L)(hi:i<L.length)(hk:je w g x)(A:∀w',ai (λr=>leadsTo v r) w w'->fd w' g v (L.set i x)->K () w'):ac x7 (j9 gB v (Δ y)) w λp=>aE x7 (o8 cW p (ke x)) w K:=by
 rw[dw s gB.u cW.i h.1 hi];refine Ch (f:=eG) cW.i h.1 T hk.one hi λw' e _ h'=>A w' e ⟨h',λz a=>?_⟩;rcases W0 a with a|rfl
 .exact (h.2 z a).ab e λr q he=>(h.2 z a).2.1 r q (h.1.leads he).1
 .exact hk.ab e λr q he=>hk.2.1 r q (h.1.leads he).1
abbrev N0:x1:=.func (.func Ac) #[] #[]
def tW(a b:cv):Int:=let c:Int:=if(a.sc.length:Int)<b.sc.length then-1 else if(b.sc.length:Int)<a.sc.length then 1 else 0
 if c≠0 then c else gl a.sc b.sc
def N1{a b:cv}(f:jI a.sc)(p:jI b.sc):tW a b<0↔rn a<rn b:=by
 have q:=(wS f p).1;unfold rn tW;simp only;generalize r:(if(a.sc.length:Int)<b.sc.length then(-1:Int)else if(b.sc.length:Int)<a.sc.length then 1 else 0)=c;rw[q,<-r];by_cases h1:(a.sc.length:Int)<b.sc.length
 .rw[if_pos h1,if_pos Ω];exact⟨λ_=>.inl Ω,λ_=>Ω⟩
 .by_cases e:(b.sc.length:Int)<a.sc.length
  .rw[if_neg h1,if_pos e,if_pos Ω];exact⟨λh=>Ω,λh=>by rcases h with h|h<;>omega⟩
  .rw[if_neg h1,if_neg e,if_neg Ω];exact⟨λh=>.inr ⟨Ω,h⟩,λh=>by rcases h with h|h;omega;exact h.2⟩
def N2{z:Nat}{a b:cv}(B:je w z a)(C:je w z b):am x7 Ac [ke a,ke b] w λv w'=>Ext w w'/\v=Δ (tW a b):=by
 have⟨⟨ga,s⟩,_,L⟩:=B;have⟨⟨M,x⟩,_,N⟩:=C;apply az func202;refine bd λg1 V O E h=>?_;refine bd λG aa P A q=>?_;have h:ag V g1 cW [a.sv,Γ a.g]:=by
  have⟨_,_,_,e⟩:=da s.ls;simp only[ke,eG,e]at h ⊢;exact h
 have q:ag aa G cW [b.sv,Γ b.g]:=by
  have⟨_,_,_,e⟩:=da x.ls;simp only[ke,eG,e]at q ⊢;exact q
 intro Q y _ _;have f:=(E.trans A).trans y;have f1:=(h.ext A).ext y;have f2:=q.ext y;rw[aL cW.p 0 f1 T,aW an.u (s.ls.ext f),aL cW.p 0 f2 T,aW an.u (x.ls.ext f),
  aL cW.p 0 f1 T,aL cW.p 0 f2 T]
 apply pV.mono;rintro _ R _ ⟨rfl,r⟩;refine⟨.inl r,?_⟩;apply(NX ((s.ls.ext f).ext r) ((x.ls.ext f).ext r)).mono;rintro _ S _ ⟨rfl,H⟩;refine oc (l:=[if(a.sc.length:Int)<b.sc.length then(-1:Int)else if(b.sc.length:Int)<a.sc.length then 1 else 0,gl a.sc b.sc]) an.u ah.i Ω T Ψ λU W X Y I J=>?_;apply(NY J.ls).mono;rintro _ Z _ ⟨rfl,K⟩;exact⟨((((f.trans r).trans H).trans I).trans K),T⟩
def N3{g:Nat}{L:List cv}(h:fd w g v L)(E:L.length<65536):
  am x7 IZ [v,N0] w λ_ w'=>ai (λr=>leadsTo v r) w w'/\∃M,M.Perm L/\tC rn M 0 M.length/\fd w' g v M:=by
 have s:∀{z:x3}{a:cv},ai (λr=>r=g) w z->je w g a->je z g a:=λf e=>e.ab f λr A he=>e.2.1 r A he;apply(wJ Me (G:=je w g) (num:=rn) (cf:=tW) (cap:=#[]) Mj Mk (λa e=>e.one) (λa _=>rfl) (λa b e B=>N1 e.2.2 B.2.2) (Enters.of x7 Ml T Ψ) h.1 h.2 E λz a b f e B=>N2 (s f e) (s f B)).mono;rintro _ w' _ ⟨f,M,C,hu,hm⟩;have H:ai (λr=>r=g) w w':=f.mono λr _ A=>(h.1.leads A).1;exact⟨f,M,C,λp q x y _ I _ J K=>hu p q x y I J K,hm,λx J=>s H (h.2 x (C.mem_iff.1 J))⟩
def N4{m:Λ}(ad:kP l)(q:l.Nodup)(e:m.Perm l)(U:m.Pairwise (·<= ·)):m=br l:=by
 refine wT (f:=λx=>x) ?_ (wR l) λx=>?_
 .have r:m.Nodup:=e.nodup_iff.2 q;exact(List.Pairwise.and U r).imp λ{a b}h=>by
   have⟨h1,p⟩:=h;have p:a≠b:=p;omega
 .rw[e.mem_iff,rj ad]
def N5(h:∀z∈l,1<=z/\z<=32)(a:dq l=false):aQ l<=4096:=by
 have:=of_decide_eq_false a;rw[wV h]at this;omega
def N6{f:b3}{d:hq}{x:cn}{m:Bool}{S R:ak}(q:e8 N f)(bj:N<=60000)(O:x∈f.funs)(aA:rl f.k x d)(aB:au.rep m S R w cs d):
  am x7 IV [.agg cs.toArray] w λv w'=>Ext w w'/\∃sv gs G P Q,v= .tuple #[sv,Γ G]/\w.heap.size<=gs/\av .i64 ah w' gs sv (br x.scope)/\dk w' G P Q (bX f.sizes (br x.scope)) f.k (ic f.sizes f.k x).2:=by
 obtain⟨sv,gT,bk,aM,bm,rfl,H,aC⟩:=tT aB;have⟨aD,aE,aF,bn,bq,aG⟩:=aA;have⟨a,aI,aJ⟩:=q.funs x O;have ad:=tI a q.sizes.2.1;have bt:=a.len;rw[aD]at H;have aK:∀z∈x.sizes,1<=z/\z<=32:=λz Z=>by
  rw[a.sizes]at Z;obtain⟨v,aO,rfl⟩:=j5.1 Z;have bu:=a.scope.2 v aO;apply q.sizes.2.2 _;rw[u4,x6 Ω];exact S3 _
 have aP:=N5 aK aJ;have W:=tH ad a.scope.1;have bw:(br x.scope).length<=6:=by rw[W.length_eq];exact aI
 apply az func192;refine bd λao V bx ac A=>?_;have A:ag V ao cF [sv,Γ gT]:=by obtain⟨_,_,_,rfl⟩:=da H;exact A
 rw[aL cF.p 1 A T];apply(C3 (aC.ext ac).is Ω).mono;rintro _ aa _ ⟨X,_,B⟩;rw[aE]at B;obtain⟨g,bA,bB,aQ,rfl,bC,bD,B,ae⟩:=B aP;rw[aF]at B;rw[bo,bp,aL cF.p 0 (A.ext X) T];have C:=ac.trans X;refine wY (H.ext C) Ω λv af gs bE I bF aR U J=>?_;have aS:=N4 ad a.scope.1 aR U;subst aS;have bG:=C.size;rw[aW an.u J.ls];refine j0 (k:=.i64) an.u ah.i Ω Ω λgo aj bH K al=>?_;have aT:av .i64 ah aj go (.slice (σ ⟨go,0,ν⟩) (br x.scope).length (br x.scope).length) (p8 (br x.scope).length 0):=av.of (b1.full (k:=1) (n:=(br x.scope).length) al Ξ (by simp[maxLen];omega));rw[aW an.u (J.ls.ext K)];have bI:=al.lt;have L:(gm x.scope (br x.scope)).length=(br x.scope).length:=by simp[gm]
 have aU:=I.trans K;have bJ:=C.trans aU;refine cp.range (br x.scope).length (λi h=>ai (λr=>r=go) aj h/\av .i64 ah h go (.slice (σ ⟨go,0,ν⟩) (br x.scope).length (br x.scope).length) ((gm x.scope (br x.scope)).take i++p8 ((br x.scope).length-i) 0)) Ω ⟨ai.refl _ _,by simpa using aT⟩ ?_ ?_
 .rintro i h k hi ⟨M,E⟩ hk;have⟨v,Y⟩:=aH (l:=(br x.scope)) hi;have s:Ext af h:=K.put M Ω;have aV:Ext w h:=(C.trans I).trans s;have aX:v∈x.scope:=W.mem_iff.1 (x5 Y);apply bz Ω;rw[bc an.u ah.i Ψ (J.ls.ext s) Y];have aY:Ext V h:=(X.trans I).trans s;rw[aL cF.p 0 (A.ext aY) T];apply(C8 (H.ext aV)).mono;rintro _ aZ _ ⟨y,r,rfl,a1⟩;have ap:=pU aX;have a2:r=((x.scope.idxOf v:Nat):Int):=(a1 _ ap).2 λj bK a6=>by have:=kN a.scope.1 a6 ap;omega
  rw[hN T an.u ah.i (E.ext y) (by simp[L];omega)];refine hP ah.i (E.ext y) (by simp[L];omega) λbL a7 bM aq=>?_;rw[aN];refine hk _ ⟨(M.trans (y.ab _)).trans a7,?_⟩;have a8:(gm x.scope (br x.scope))[i]?=σ r:=by rw[a2];exact CX Y
  have e:((gm x.scope (br x.scope)).take i++p8 ((br x.scope).length-i) 0).set i r=(gm x.scope (br x.scope)).take (i+1)++p8 ((br x.scope).length-(i+1)) 0:=by
   have ba:((gm x.scope (br x.scope)).take i).length=i:=by rw[l9,L];omega
   rw[T7 _ _ Ω,ba,U4,show(br x.scope).length-i=((br x.scope).length-(i+1))+1 by omega,List.replicate_succ,List.set_cons_zero,u9,a8,n9,V1];rfl
  rw[e]at aq;exact aq
 .rintro h k ⟨M,E⟩;have s:Ext af h:=K.put M Ω;have aw:Ext aa h:=I.trans s;apply b4 Ω;rw[U4,List.replicate_zero,W6,b8 Ω]at E;have bb:∀t,dr x.sizes t->bl x.sizes aQ t=j7 x f.k t:=λt be=>by rw[ae.2 t be];exact aG t
  have⟨ax,bf⟩:=M5 q O ae.1 bb;have bg:Good (gm x.scope (br x.scope)) x.sizes.length:=by
   rw[a.sizes,r8];exact tL a.scope.1 W
  have bh:=(pS q O);refine(NL (B.ext aw) q.k E.ls (by rw[L];omega) λ_=>?_).mono ?_
  .rw[ax];exact bh.small
  .rintro _ aZ _ ⟨y,_,bi⟩;obtain⟨G,P,Q,rfl,ay⟩:=bi bg;rw[bo,bp];rw[ax,bf]at ay;exact⟨(C.trans aw).trans y,v,gs,G,P,Q,T,Ω,(J.ext s).ext y,ay⟩
def Dg{P:W8}{t x f:p9}{k y g o cap:Nat}{z:x1}(h:P.underlying t=σ (.slice e))(hi:aS P e k y z)(A:z.cells.size=k)(h1:∀u∈dT z.cells (n*k),u.oneCell'=true)(a:ag w g f cs)(H:o+n*k<=cs.length)(p:∀w',ai (λr=>r=g) w w'->ag w' g f (over cs o (dT z.cells (n*k)))->K (.tuple #[]) w'):aE P (Z3.clear_ #[t] x #[.slice (σ ⟨g,o,ν⟩) n cap]) w K:=by
 obtain⟨i,hi,I,rfl,B⟩:=hi;have C:∀w,(zeroValue e).run P w= .ok z w:=λw=>by simp[zeroValue,typeInfo,hi,B]
 have E:(Z3.zeroCells z.cells n).toList=dT z.cells (n*k):=by
  unfold Z3.zeroCells dT;rw[A]
 have q:=run_storeCells_cells (P:=P) g o (dT z.cells (n*k)) 0 w (λj F=>by
   rw[n2]at F;rw[Nat.add_zero,a.cell (x6 (show o+j<cs.length by omega))];rfl) (λj _=>a.frozen _ _) h1
 simp only[Nat.add_zero]at q;have⟨G,s⟩:=n1 (dT z.cells (n*k)) cs o w a;rcases Q3 n with rfl|J
 .refine .of (v:=.tuple #[]) (w':=w) (by simp[Z3.clear_,run_underlying h]) (cM.refl _) (p w (ai.refl _ _) ?_);rw[Nat.zero_mul,j6 (n2 z.cells 0)];exact a
 .obtain⟨m,rfl⟩:∃m,n=m+1:=⟨n-1,Ω⟩;refine .of (v:=.tuple #[]) (w':=_) (by simp[Z3.clear_,run_underlying h,C,E,q]) (s.cw a) (p _ s.ab G)
def dW{α:Type}{f:α->List x1}{k:Nat}{g:Nat}{L:List α}(h:bk f k e w g v L)(p:leadsTo v r):r=g/\∃cs,ag w g e cs:=by
 obtain⟨_,⟨rfl,_⟩|⟨cap,cs,rfl,q,_⟩⟩:=h.1
 .exact (e9 p).elim
 .obtain⟨a,n,c,h1,s⟩:=p;cases h1;exact⟨s.symm,cs,q⟩
def N7{α:Type}{f:α->List x1}{k:Nat}{g:Nat}{L:List α}(h:bk f k e w g v L)(a:L≠[]):∃cs n c,v= .slice (σ ⟨g,0,ν⟩) n c/\ag w g e cs:=by
 obtain⟨_,⟨rfl,p⟩|⟨cap,cs,rfl,q,_⟩⟩:=h.1
 .exact absurd (j6 p) a
 .exact⟨cs,_,_,T,q⟩
def fd.mk{g:Nat}{L:List cv}(h:bk eG 2 cW w g v L)(a:∀x∈L,(∃e,av .i64 ah w e x.sv x.sc)/\jI x.sc):fd w g v L:=by
 refine⟨h,λx J=>⟨(a x J).1,λr f=>?_,(a x J).2⟩⟩;have⟨cs,n,c,_,p⟩:=N7 h (λq=>by rw[q]at J;cases J);have⟨⟨e,hm⟩,_⟩:=a x J;exact ch hm p Φ f
def Sem(w:x3)(k:Int)(sizes:Λ)(L:List cv):Prop:=∀x∈L,∃a e,dk w x.g a e (bX sizes x.sc) k x.cs
def w3{g q:Nat}{s:x1}{cs:Λ}(h:dk w g q s aj k cs)(e:ai S w w')(f:∀r,S r->∃c,ag w r cW c):dk w' g q s aj k cs:=by
 have⟨⟨a7,gs,h1,x,y⟩,z⟩:=h;refine⟨⟨a7,gs,h1.ab e λU=>?_,bw x e λr p U=>?_,bw y e λr p U=>?_⟩,z⟩
 .obtain⟨c,a⟩:=f g U;unfold ag at h1 a;rw[h1]at a;have:=(Obj.cells.inj (b9 a)).2.1;exact absurd this Φ
 .obtain⟨c,a⟩:=f r U;exact ch x a Φ p T
 .obtain⟨c,a⟩:=f r U;exact ch y a Φ p T
def Sem.ext{L:List cv}(h:Sem w k sizes L)(J:Ext w w'):Sem w' k sizes L:=λx a=>by
 have⟨e,f,p⟩:=h x a;exact⟨e,f,p.ext J⟩
def Sem.row{L M:List cv}{g:Nat}(h:Sem w k sizes L)(a:fd w g v M)(e:ai (λr=>leadsTo v r) w w'):Sem w' k sizes L:=λx f=>by
 have⟨p,q,s⟩:=h x f;exact⟨p,q,w3 s e λr y=>by obtain⟨rfl,c,z⟩:=dW a.1 y;exact⟨c,z⟩⟩
def dX(h:cv):cL:=(h.sc,h.cs)
def N8:am x7 vH [Δ c] w λv w'=>v= .bool (decide (0<c))/\Ext w w':=by
 apply az func199;rw[bJ];exact⟨T,Ext.refl _⟩
def N9(h:aI .i64 w sv l):
  am x7 IX [sv,.func (.func vH) #[] #[]] w λv w'=>v= .bool (l.any λc=>decide (0<c))/\Ext w w':=by
 apply az func198;refine am.mono (K:=λv w'=>Ext w w'/\∃r:Int,v=Δ r/\(0<=r↔ ∃c∈l,0<c)) ?_ ?_
 .refine az func252 ?_;rw[aW ay.u h];refine bT.range l.length (λi _ V=>Ext w V/\∀c∈l.take i,¬0<c) h.le ⟨Ext.refl _,λc a=>by simp at a⟩ ?_ ?_
  .rintro i _ V k hi ⟨J,f⟩ hk;apply bz Ω;have⟨x,p⟩:=aH (l:=l) hi;rw[bc ay.u aq.i Ψ (h.ext J) p];show am x7 vH [Δ x] V _;apply N8.mono;rintro _ aa _ ⟨rfl,q⟩;rw[al];refine⟨λe=>⟨J.trans q,i,T,⟨λ_=>⟨x,x5 p,e⟩,λ_=>Ω⟩⟩,λs=>?_⟩;rw[aN];refine hk _ _ ⟨J.trans q,λc a=>?_⟩;rw[u9,p]at a;rcases o5.1 a with a|a
   .exact f c a
   .simp at a;subst a;exact s
  .rintro _ V k ⟨J,f⟩;rw[o6]at f;rw[aP,al];exact⟨λh=>Ω,λ_=>⟨J,-1,T,⟨λh=>Ω,λ⟨c,a,e⟩=>absurd e (f c a)⟩⟩⟩
 .rintro _ V _ ⟨J,r,rfl,y⟩;rw[cO];refine⟨?_,J⟩;congr 1;rw[U1,decide_eq_true_eq,List.any_eq_true,y];exact⟨λ⟨c,a,e⟩=>⟨c,a,decide_eq_true e⟩,λ⟨c,a,e⟩=>⟨c,a,of_decide_eq_true e⟩⟩
def Dh{h q:Nat}{x:cv}{r:x1}(J:je w h x)(s:dk w x.g q r aj k x.cs):am x7 qC [ke x] w λv w'=>v= .bool (!fu (dX x))/\Ext w w':=by
 have⟨⟨B,hm⟩,_⟩:=J;apply az func197;refine bd λao V C f a=>?_;have a:ag V ao cW [x.sv,Γ x.g]:=by
  have⟨_,_,_,e⟩:=da hm.ls;simp only[ke,eG,e]at a ⊢;exact a
 rw[aL cW.p 1 a T];apply(ng (s.ext f)).mono;rintro E aa _ ⟨y,G,H,z⟩;apply(N9 z.ls).mono;rintro _ I _ ⟨rfl,A⟩;rw[bK];exact⟨T,(f.trans y).trans A⟩
def Oa{g:Nat}{L:List cv}(h:fd w g v L)(U:Sem w k sizes L):
  am x7 z8 [v,.func (.func qC) #[] #[]] w λr w'=>Ext w w'/\((r=Δ (-1)/\∀x∈L,fu (dX x)=true)\/∃i:Nat,r=Δ (i:Int)/\i<L.length/\(∀x∈L.take i,fu (dX x)=true)/\∀x,L[i]?=σ x->fu (dX x)=false):=by
 apply az func193;rw[eF gB.u h.1];refine bT.range L.length (λi _ V=>Ext w V/\∀x∈L.take i,fu (dX x)=true) h.1.le ⟨Ext.refl _,λc a=>by simp at a⟩ ?_ ?_
 .rintro i _ V k hi ⟨J,e⟩ hk;apply bz Ω;have⟨x,f⟩:=aH (l:=L) hi;rw[tV T (h.ext J) f];show am x7 qC [ke x] V _;have⟨B,C,s⟩:=U x (x5 f);apply(Dh ((h.ext J).at f) (s.ext J)).mono;rintro _ aa _ ⟨rfl,p⟩;rw[ca];refine⟨λz=>⟨J.trans p,.inr ⟨i,T,hi,e,λy q=>by rw[f]at q;cases q;simpa using z⟩⟩,λA=>?_⟩;rw[aN];refine hk _ _ ⟨J.trans p,λc a=>?_⟩;rw[u9,f]at a;rcases o5.1 a with a|a
  .exact e c a
  .simp at a;subst a;simpa using A
 .rintro _ V k ⟨J,e⟩;rw[o6]at e;rw[aP,al];exact⟨λh=>Ω,λ_=>⟨J,.inl ⟨T,e⟩⟩⟩
def gn(x:cv):Bool:=fu (dX x)
def w4{L:List cv}{x:cv}(J:L[j]?=σ x):(L.take (j+1)).filter gn=if gn x=true then(L.take j).filter gn++[x]else(L.take j).filter gn:=by
 rw[u9,J,n9,List.filter_append];by_cases h:gn x=true
 .rw[if_pos h];simp[h]
 .rw[if_neg h];simp[h]
def w5{z:Array x1}(a:0<z.size)(h:∀u∈z.toList,u.oneCell'=true):∀u∈dT z n,u.oneCell'=true:=λu hu=>by
 unfold dT at hu;rw[Array.toList_map,j5]at hu;obtain⟨i,_,rfl⟩:=hu;have e:i % z.size<z.size:=Nat.mod_lt _ a;rw[getElem!_pos z (i % z.size) e];exact h _ Ξ
def Ob{g:Nat}{L:List cv}(h:fd w g v L)(U:Sem w k sizes L)(ba:L.length<=100000):
  am x7 IY [v,.func (.func qC) #[] #[]] w λf w'=>ai (λr=>leadsTo v r) w w'/\fd w' g f (L.filter gn)/\∀r,leadsTo f r->leadsTo v r:=by
 apply az func200;apply(Oa h U).mono;rintro r V _ ⟨E,q⟩;rcases q with⟨rfl,N⟩|⟨O,rfl,ax,N,ay⟩
 .rw[be,al];refine⟨λ_=>⟨E.ab _,?_,λr q=>q⟩,λh=>absurd T h⟩;rw[List.filter_eq_self.2 (show∀x∈L,gn x=true from N)];exact h.ext E
 rw[be,al];refine⟨λh=>Ω,λ_=>?_⟩;rw[aN,wrap_i64 Ω Ω];have⟨P,Z⟩:=aH (l:=L) ax;refine⟨λQ R aa=>∃(i j:Nat)(M:List cv),Q=Δ (i:Int)/\R=Δ (j:Int)/\i<j/\j<=L.length/\M.length=L.length/\M.take i=(L.take j).filter gn/\M.drop j=L.drop j/\(∀x∈M,x∈L)/\fd aa g v M/\ai (λr=>leadsTo v r) w aa,
  λ_ R _=>L.length-(bW R).toNat,⟨O,O+1,L,T,by congr 1,Ω,Ω,T,?_,T,λx J=>J,h.ext E,E.ab _⟩,?_⟩
 .have aB:¬gn P=true:=by rw[show gn P=false from ay P Z];simp
  rw[w4 Z,if_neg aB,List.filter_eq_self.2 (show∀x∈L.take O,gn x=true from N)]
 rintro _ _ aa ⟨i,j,M,rfl,rfl,bb,bc,ae,z,af,ag,e,G⟩;have aC:Sem aa k sizes L:=U.row h G;rw[eF gB.u e.1,aP,al];refine⟨λS=>?_,λbd=>?_⟩
 .have S:j<L.length:=Ω
  have⟨x,J⟩:=aH (l:=L) S;have H:M[j]?=σ x:=by
   have h1:(M.drop j)[0]?=(L.drop j)[0]?:=by rw[af]
   rw[List.getElem?_drop,List.getElem?_drop,Nat.add_zero]at h1;rw[h1,J]
  have ah:M.drop (j+1)=L.drop (j+1):=by
   have h1:(M.drop j).drop 1=(L.drop j).drop 1:=by rw[af]
   rw[List.drop_drop,List.drop_drop]at h1;exact h1
  refine aV (λQ I=>∃(B:Nat)(s:List cv),Q=Δ (B:Int)/\B<j+1/\s.length=L.length/\s.take B=(L.take (j+1)).filter gn/\s.drop (j+1)=L.drop (j+1)/\(∀x∈s,x∈L)/\fd I g v s/\ai (λr=>leadsTo v r) w I) ?_ ?_
  .rintro _ I ⟨B,s,rfl,h1,W,aD,aF,aG,aI,aJ⟩;rw[aN,wrap_i64 Ω Ω];exact⟨⟨B,j+1,s,T,T,h1,S,W,aD,aF,aG,aI,aJ⟩,by simp only[bW];omega⟩
  .intro aA aj;rw[tV T e H];refine bu cW.i λao I bf aK aL=>?_;refine cd (vs:=eG x) cW.i T rfl (e.at H).one aL λak aM bg an=>?_;have X:Ext aa ak:=aK.put aM Ω;rw[bR cW.p cW.i T an.range];show am x7 qC [ke x] ak _;have⟨bh,bi,aO⟩:=aC x (x5 J);apply(Dh ((e.ext X).at H) (aO.ext X)).mono;rintro _ bj _ ⟨rfl,ap⟩;have C:=X.trans ap;rw[bK,Bool.not_not,ca];refine⟨λhk=>?_,λaQ=>?_⟩
   .rw[bR cW.p cW.i T (an.ext ap).range];refine NZ T (e.ext C) Ω ((e.ext C).at H) λbk aR aS=>?_;rw[aN,wrap_i64 Ω Ω];refine aj _ _ ⟨i+1,M.set i x,T,Ω,by simp[ae],?_,?_,λy A=>?_,aS,(G.trans (C.ab _)).trans aR⟩
    .have Y:gn x=true:=hk;rw[w4 J,if_pos Y,u9,c8 Ω,n9,List.take_set_of_le (o4 _),z]
    .rw[List.drop_set_of_lt Ω,ah]
    .rcases W0 A with A|rfl
     .exact ag y A
     .exact x5 J
   .have Y:¬gn x=true:=by rw[show gn x=false from aQ];simp
    exact aj _ _ ⟨i,M,T,Ω,ae,by rw[w4 J,if_neg Y,z],ah,ag,e.ext C,G.trans (C.ab _)⟩
 .have aT:j=L.length:=Ω
  subst aT;rw[o6]at z;have⟨⟨bl,aU⟩,aq⟩:=e.1;rcases aU with⟨_,bm⟩|⟨cap,cs,ad,aW,bn,aX,aY,aZ⟩
  .omega
  subst ad;have a1:(ac x7 (V9 gB (.slice (σ ⟨g,0,ν⟩) M.length cap) (σ (Δ (i:Int))) ν ν) aa λa2=>
    aE x7 (Z3.clear_ #[gB] J1 #[a2]) aa λu K=>
    ac x7 (V9 gB (.slice (σ ⟨g,0,ν⟩) M.length cap) ν (σ (Δ (i:Int))) ν) K λa6=>
    (λf w'=>ai (λr=>leadsTo (.slice (σ ⟨g,0,ν⟩) M.length cap) r) w w'/\fd w' g f (L.filter gn)/\∀r,leadsTo f r->leadsTo (.slice (σ ⟨g,0,ν⟩) M.length cap) r) a6 K):=by
   rw[hj (l:=i) (h:=M.length) (m:=cap) gB.u cW.i (nZ i _ T) jy fh Ω Ω (o4 _),if_neg Ω];simp only[Z6,U9];refine Dg (g:=g) (o:=0+i*2) (n:=M.length-i) (k:=2) gB.u cW.i T ?_ aW Ω λK au a7=>?_
   .exact w5 Φ Φ
   rw[hj (l:=0) (h:=i) (m:=cap) gB.u cW.i jx (n0 i _ T) fh Ω Ω (o4 _),if_neg Ω];simp only[Z6,U9,Nat.zero_mul,X2,Nat.sub_zero];have a8:(dT (x1.agg #[.slice ν 0 0,.pointer ν]).cells ((M.length-i)*2)).length=(M.length-i)*2:=n2 _ _;have bo:(M.flatMap eG).length=M.length*2:=ig aq;have av:(L.filter gn).length=i:=by rw[<-z,l9];omega
   have key:(λf w'=>ai (λr=>leadsTo (.slice (σ ⟨g,0,ν⟩) M.length cap) r) w w'/\fd w' g f (L.filter gn)/\∀r,leadsTo f r->leadsTo (.slice (σ ⟨g,0,ν⟩) M.length cap) r) (.slice (σ ⟨g,0,ν⟩) (L.filter gn).length cap) K:=by
    refine⟨G.trans (au.mono λr _ he=>⟨_,_,_,T,he.symm⟩),⟨⟨⟨ig (k:=2) (λy _=>rfl),.inr ⟨cap,_,T,a7,Ω,aX,by rw[lj,aY],?_⟩⟩,λy _=>rfl⟩,λy A=>?_⟩,λr q=>?_⟩
    .rw[av,<-z,<-pK i aq,<-aZ,List.take_take,mY (by rw[a8];omega),V1,List.take_append_of_le_length (by rw[l9];omega),List.take_take];congr 1;omega
    .have aw:y∈M:=by rw[<-z]at A;exact T9 A
     exact(e.2 y aw).ab au λr q he=>(e.2 y aw).2.1 r q he
    .obtain⟨a,n,c,h1,W⟩:=q;cases h1;exact⟨_,_,_,T,W⟩
   rw[av]at key;exact key
  exact a1
def rp{k:o7}{g cap:Nat}{b:Option Addr}(h:av k e w g (.slice b n cap) l)(s:0<l.length):
  b=σ ⟨g,0,ν⟩/\n=l.length/\∃cs,ag w g e cs/\n<=cap/\cap<=maxLen/\cs.length=cap/\cs.take n=ints k l:=by
 obtain⟨_,⟨_,h1⟩|⟨x,cs,h1,a,f,p,q,r⟩⟩:=h
 .omega
 .cases h1;exact⟨T,T,cs,a,f,p,by simpa using q,by simpa using r⟩
def Oc{g cap:Nat}(h:av .i64 ah w g (.slice (σ ⟨g,0,ν⟩) n cap) l)(p:j<l.length):aI .i64 w (.slice (σ ⟨g,j,ν⟩) (n-j) (cap-j)) (l.drop j):=by
 have⟨_,q,cs,a,h1,r,s,f⟩:=rp h Ω;have:=KA (o:=j) (k:=n-j) (c:=cap-j) a Ω Ω Ω;apply aI.of (n:=n-j);have e:(cs.drop j).take (n-j)=ints .i64 (l.drop j):=by
  rw[<-List.drop_take,f,ints,ints,List.map_drop]
 rw[e]at this;exact this
def Od{g:Nat}(h:av .i64 ah w g sv l)(aT:l.length<=1000):
  am x7 Js [sv] w λv w'=>ai (λr=>r=g) w w'/\av .i64 ah w' g v (dedup l l.length):=by
 apply az func247;rw[aW an.u h.ls];simp only[aP,al];refine⟨λaU=>⟨ai.refl _ _,?_⟩,λaX=>?_⟩
 .rw[tR (o4 _) (λi hi U=>Ω),o6];exact h
 obtain⟨n,s⟩:∃n,l.length=n:=⟨_,T⟩;obtain⟨cap,rfl⟩:∃cap,sv= .slice (σ ⟨g,0,ν⟩) n cap:=by
  obtain⟨_,⟨_,h1⟩|⟨ap,cs,h1,_⟩⟩:=id h
  .omega
  .exact⟨ap,by rw[h1,s]⟩
 have⟨_,_,_,_,aY,aq,_⟩:=rp h Ω;refine⟨λ_ t V=>∃j:Nat,t=Δ (j:Int)/\1<=j/\j<=n/\Ext w V/\∀i,i<j->0<i->l[i]? ≠l[i-1]?,λ_ t _=>n-(bW t).toNat,⟨1,T,Ω,Ω,Ext.refl _,λi h1 W=>Ω⟩,?_⟩;rintro aZ _ V ⟨j,rfl,a1,X,A,I⟩;rw[aW an.u (h.ls.ext A)];simp only[aP,al,ev];refine⟨λau aa aw _ _=>?_,λa2=>⟨A.ab _,?_⟩⟩
 .have au:j<n:=Ω
  have B:=A.trans aw;have Y:=h.ls.ext B;have⟨a,J⟩:=aH (l:=l) (i:=j) Ω;have⟨b,K⟩:=aH (l:=l) (i:=j-1) Ω;rw[bc an.u ah.i Ψ Y J];simp only[dN];rw[wrap_i64 Ω Ω,fP (i:=j-1) Ω an.u ah.i Ψ Y K];simp only[be,al,aN];refine⟨λL=>?_,λL=>?_⟩
  .subst L;rw[hj an.u ah.i (l:=j) (h:=n) (m:=cap) pq jy fh Ω Ω Ω,if_neg Ω];have ax:V7 (λx:Addr=>x.add (j*1)) (σ ⟨g,0,ν⟩)=σ ⟨g,j,ν⟩:=by simp[U9]
   rw[ax];have Z:dedup l (j+1)=l.take j:=by rw[wZ Ω (by rw[J,K]),tR Ω I]
   refine⟨λM t N=>∃(q e:Nat)(f:Λ),M=Δ (q:Int)/\t=Δ (e:Int)/\1<=e/\j+e<=n/\ai (λr=>r=g) w N/\av .i64 ah N g (.slice (σ ⟨g,0,ν⟩) n cap) f/\f.length=n/\
     q=(dedup l (j+e)).length/\f.take q=dedup l (j+e)/\q<=j+e-1/\∀i,j+e-1<=i->f[i]?=l[i]?,λ_ t _=>n-(bW t).toNat,
    ⟨j,1,l,T,T,Ω,Ω,B.ab _,h.ext B,s,by rw[Z,l9];omega,by rw[Z],Ω,λi _=>rfl⟩,?_⟩
   rintro _ _ N ⟨q,e,f,rfl,rfl,a6,a7,O,ac,ad,ae,C,ay,E⟩;rw[hI an.u];simp only[aP,al,ev];refine⟨λaf=>?_,λaf=>?_⟩
   .have af:j+e<n:=Ω
    refine aV (λM P=>∃(q:Nat)(f:Λ),M=Δ (q:Int)/\ai (λr=>r=g) w P/\av .i64 ah P g (.slice (σ ⟨g,0,ν⟩) n cap) f/\f.length=n/\
     q=(dedup l (j+(e+1))).length/\f.take q=dedup l (j+(e+1))/\q<=j+(e+1)-1/\∀i,j+(e+1)-1<=i->f[i]?=l[i]?) ?_ ?_
    .rintro _ P ⟨q,f,rfl,h1,W,aB,aC,aD,aE,aF⟩;simp only[aN];rw[wrap_i64 Ω Ω];exact⟨⟨q,e+1,f,T,T,Ω,Ω,h1,W,aB,aC,aD,aE,aF⟩,by simp only[bW];omega⟩
    .intro aA ag a8 Q _ _;have G:=ac.ext Q;have R:=Oc (j:=j) G Ω;have⟨y,H⟩:=aH (l:=l) (i:=j+e) Ω;have⟨z,S⟩:=aH (l:=l) (i:=j+e-1) Ω;have aj:(f.drop j)[e]?=σ y:=by rw[List.getElem?_drop,E _ Ω,H]
     have aG:(f.drop j)[e-1]?=σ z:=by rw[List.getElem?_drop,E _ Ω,<-S];congr 1;omega
     rw[bc an.u ah.i Ψ R aj];simp only[dN];rw[wrap_i64 Ω Ω,fP (i:=e-1) Ω an.u ah.i Ψ R aG];simp only[bB,al,aN];refine⟨λp=>?_,λp=>?_⟩
     .rw[bc an.u ah.i Ψ R aj,hN T an.u ah.i G Ω];refine hP ah.i G Ω λba aI bb aJ=>?_;rw[wrap_i64 Ω Ω];have ak:dedup l (j+e+1)=dedup l (j+e)++[y]:=w1 H (λ_=>by rw[H,S];simpa using p);refine ag _ _ ⟨q+1,_,T,(O.trans (Q.ab _)).trans aI,aJ,by simpa using ad,?_,?_,Ω,λi hi=>?_⟩
      .rw[<-R4,ak];simp;omega
      .rw[<-R4,ak,u9,c8 Ω,List.take_set_of_le (o4 _),C];rfl
      .rw[Y2 Ω];exact E i Ω
     .have p:y=z:=Z9.1 p;have ao:dedup l (j+e+1)=dedup l (j+e):=wZ Ω (by rw[H,S,p]);exact ag _ _ ⟨q,f,T,O.trans (Q.ab _),G,ad,by rw[<-R4,ao];exact ae,by rw[<-R4,ao];exact C,Ω,λi hi=>E i Ω⟩
   .have hk:j+e=n:=Ω
    rw[hk]at ae C ay;have⟨_,_,cs,aK,_,_,bd,aL⟩:=rp ac Ω;simp only[maxLen]at aq;rw[hj an.u ah.i (l:=q) (h:=n) (m:=cap) pq jy fh Ω Ω Ω,if_neg Ω];have aM:V7 (λx:Addr=>x.add (q*1)) (σ ⟨g,0,ν⟩)=σ ⟨g,q,ν⟩:=by simp[U9]
    rw[aM];refine AX an.u ah.i T rfl aK Ω Ω λbf aO bg aQ=>?_;rw[hj an.u ah.i (l:=0) (h:=q) (m:=cap) jx pr fh Ω Ω Ω,if_neg Ω];have aR:V7 (λx:Addr=>x.add (0*1)) (σ ⟨g,0,ν⟩)=σ ⟨g,0,ν⟩:=by simp[U9]
    rw[aR,s];refine⟨O.trans aO,?_⟩;rw[<-C];refine av.of (n:=q) ⟨Θ,.inr ⟨cap,_,Ξ,aQ,Ω,by simp only[maxLen];omega,by rw[lj];omega,?_⟩⟩;rw[U2];apply Y4;intro i;by_cases hi:i<q
    .rw[Z7 hi,mX _ _ _ Θ,if_neg Ω,ints,x8,Z7 hi];have:(cs.take n)[i]?=(ints .i64 f)[i]?:=by rw[aL]
     rw[Z7 Ω,ints,x8]at this;exact this
    .rw[Z2 Θ,Z2 Θ]
  .rw[wrap_i64 Ω Ω];refine⟨⟨j+1,T,Ω,Ω,B,λi hi U=>?_⟩,by simp only[bW];omega⟩;by_cases aS:i=j
   .subst aS;rw[J,K];intro he;exact L (b9 he)
   .exact I i Ω U
 .have X:j=n:=Ω
  rw[tR (o4 _) (by rw[s,<-X];exact I),o6];exact h.ext A
def Oe(y:n<=1000000):am x7 JM [.slice ν 0 0,Δ (n:Int)] w λv w'=>Ext w w'/\∃g,w.heap.size<=g/\av .i64 ah w' g v []:=by
 apply az func280;refine dc (λV=>w=V) ?_ ?_
 .rintro _ rfl;refine aV (λv w'=>Ext w w'/\∃g,w.heap.size<=g/\av .i64 ah w' g v []) (λ_ _ h=>h) λaA a=>?_;rw[AW an.u,hI an.u];simp only[dN];have e:X6.wrap (((0:Nat):Int)-((0:Nat):Int))=0:=Φ
  have f:X6.wrap ((n:Int)-0)=n:=by rw[wrap_i64 Ω Ω];omega
  rw[e,f];simp only[bJ,al];refine⟨λh=>?_,λh=>a _ _ ⟨Ext.refl _,w.heap.size,o4 _,av.nil _ _ _ _⟩⟩;rw[AW an.u,hj an.u ah.i (l:=0) (h:=0) (m:=0) jx pr fh Ω Ω Ω,if_pos T];refine Kz (k:=n) (xs:=[]) T an.u ah.u ah.i T ⟨T,0,0,ν,0,T,o4 _,X5 _,λh=>absurd h (Nat.lt_irrefl _),λj v h=>by simp at h⟩ Ω Ω Ω Ω λv g w' z J hm=>?_;obtain⟨_,⟨_,A⟩|⟨cap,cs,rfl,p,h1,q,r,B⟩⟩:=hm
  .omega
  rw[hI an.u,hj an.u ah.i (l:=0) (h:=0) (m:=cap) jx pr fh Ω Ω Ω,if_neg Ω];have s:V7 (λx:Addr=>x.add (0*1)) (σ ⟨g,0,ν⟩)=σ ⟨g,0,ν⟩:=by simp[U9]
  rw[s];refine a _ _ ⟨J,g,Ω,av.of (n:=0) ⟨Ξ,.inr ⟨cap,cs,Ξ,p,Ω,q,r,Ξ⟩⟩⟩
 .intro aA a;simp only[aP,al];exact⟨λh=>Ω,λ_=>a _ T⟩
def Of{b:Λ}(M:aI .i64 w bj a)(N:aI .i64 w bv b)(R:a.length<=1000)(S:b.length<=1000)(U:∀v w' g,Ext w w'->w.heap.size<=g->av .i64 ah w' g v (a++b)->K v w'):
  aE x7 (Y5 cU 2 #[(0,bj),(1,bv)]) w λt V=>am x7 Jt [t] V K:=by
 obtain⟨⟨C,E,G,W⟩,⟨H,I,J,X⟩⟩:(∃x n c,bj= .slice x n c)/\(∃x n c,bv= .slice x n c):=by
  have⟨_,_,_,x,c,h1,_⟩:=id M;have⟨_,_,_,y,d,Y,_⟩:=id N;exact⟨⟨x,_,c,h1⟩,⟨y,_,d,Y⟩⟩
 subst W;subst X;refine kD cU.u an.i Ω (cs:=#[.slice C E G,.slice H I J]) Ψ λg V aB s z=>?_;have z:ag V g an [.slice C E G,.slice H I J]:=z;have key:∀i:Nat,i<2->∃v l,[x1.slice C E G,.slice H I J][i]?=σ v/\[a,b][i]?=σ l/\aI .i64 w v l/\l.length<=1000:=λi hi=>by
  match i,hi with
  |0,_=>exact⟨_,_,T,T,M,R⟩
  |1,_=>exact⟨_,_,T,T,N,S⟩
 apply az func248;rw[hI cU.u];refine bT.range 2 (λi size aa=>Ext V aa/\∃n:Nat,n<=1000*i/\size=Δ (n:Int)) Ω ⟨Ext.refl _,0,Ω,T⟩ ?_ ?_
 .rintro i _ aa Z hi ⟨f,n,ab,rfl⟩ ac;simp only[aP,al];refine⟨λ_=>?_,λh=>Ω⟩;have⟨v,l,ad,O,L,ae⟩:=key i hi;refine aV (λv P=>aa=P/\v=Δ ((n+l.length:Nat):Int)) ?_ ?_
  .rintro _ _ ⟨rfl,rfl⟩;simp only[aN];exact ac _ _ ⟨f,_,Ω,T⟩
  .intro aA af;rw[fg (b:=g) (o:=0) cU.u an.i hi (λ_=>rfl),ax Ψ ((z.ext f).cell (o:=0+i*1) (by rw[<-ad];congr 1;omega)),aW an.u (L.ext (s.trans f))];simp only[aN,aP,al];rw[wrap_i64 Ω Ω];exact⟨λh=>Ω,λ_=>af _ _ ⟨T,by congr 1⟩⟩
 .rintro _ aa Z ⟨f,n,ab,rfl⟩;simp only[aP,al];refine⟨λh=>Ω,λ_=>?_⟩;apply(Oe (n:=n) Ω).mono;rintro v0 P _ ⟨Q,ai,aC,aj⟩;have s1:=s.size;have aD:=f.size;have aF:=Q.size;have ak:=f.trans Q;rw[hI cU.u];refine bT.range 2 (λi v A=>Ext V A/\∃q,V.heap.size<=q/\av .i64 ah A q v (([a,b].take i).flatten)/\(([a,b].take i).flatten).length<=1000*i) Ω ⟨ak,ai,Ω,aj,Ξ⟩ ?_ ?_
  .rintro i v4 A ao hi ⟨p,q,ap,B,aG⟩ aq;simp only[aP,al];refine⟨λ_=>?_,λh=>Ω⟩;have⟨v,l,ad,O,L,ae⟩:=key i hi;rw[fg (b:=g) (o:=0) cU.u an.i hi (λ_=>rfl),ax Ψ ((z.ext p).cell (o:=0+i*1) (by rw[<-ad];congr 1;omega))];refine jA an.u ah.i T B (L.ext (s.trans p)) Ω Ω λaH au aJ aK aw ay=>?_;simp only[aN];have aL:=p.size;have e:([a,b].take (i+1)).flatten=([a,b].take i).flatten++l:=by rw[u9,O];simp
   refine aq _ _ ⟨p.then ay (by rintro r aM rfl;omega),au,Ω,by rw[e];exact aw,by rw[e,r9];omega⟩
  .rintro v4 A ao ⟨p,q,ap,B,_⟩;simp only[aP,al];refine⟨λh=>Ω,λ_=>U _ _ q (s.trans p) Ω ?_⟩;have e:([a,b].take 2).flatten=a++b:=Ξ
   rw[e]at B;exact B
def pW(s1 a f e vars:Λ):Prop:=∀p∈vars,p∈a->p∈e->ie s1 (fx a p)=ie f (fx e p)
def dy(s1 a e f vars:Λ):Λ:=vars.map λp=>max (ie s1 (fx a p)) (ie e (fx f p))
def Di(s1 a e f vars:Λ):(dy s1 a e f vars).length=vars.length:=by simp[dy]
def tX{x:Int}:0<=fx l x↔x∈l:=by
 unfold fx;by_cases h:x∈l
 .rw[if_pos h];exact⟨λ_=>h,λ_=>Ω⟩
 .rw[if_neg h];exact⟨λh=>Ω,λa=>absurd a h⟩
def Og{g ay W aB:Nat}{E X:x1}{s1 f vars e:Λ}{aC:Int}{aD aE:Λ}(h1:dk w g ay sv s1 k aD)(Y:dk w W aB E f aC aE)(ad:aI .i64 w X vars)(aF:aI .i64 w bj a)(G:aI .i64 w bv e)(aG:gW a)(aJ:gW e)(bd:vars.length<=1000):
  am x7 Ju [X,Γ g,bj,Γ W,bv] w λv w'=>Ext w w'/\
   (¬pW s1 a f e vars->v= .tuple #[.slice ν 0 0,.bool false])/\
   (pW s1 a f e vars->∃x ao,v= .tuple #[x,.bool true]/\w.heap.size<=ao/\av .i64 ah w' ao x (dy s1 a f e vars)):=by
 have sub:∀{w:x3}{g:Nat}{sv:x1}{k:Int}{a7:x1},ag w g cX [sv,Δ k,a7]->w.rangeAt g (0+0) [sv]:=λG=>oa G (by
  intro j v ad
  match j,ad with
  |0,ad=>exact ad)
 apply az func249;rw[aW an.u ad];refine j0 an.u ah.i Ω Ω λgz V be Z aK=>?_;have aL:av .i64 ah V gz (.slice (σ ⟨gz,0,ν⟩) vars.length vars.length) (p8 vars.length 0):=av.of (n:=vars.length) (b1.full aK Ξ (by simp[maxLen];omega));generalize (x1.slice (σ ⟨gz,0,ν⟩) vars.length vars.length)=aM at*;rw[aW an.u (ad.ext Z)];have H:=Di s1 a f e vars;refine kz.range vars.length (λi _ _ aa=>Ext w aa/\av .i64 ah aa gz aM (upto (dy s1 a f e vars) 0 i)/\∀(j:Nat)(p:Int),j<i->vars[j]?=σ p->p∈a->p∈e->ie s1 (fx a p)=ie f (fx e p)) Ω
  ⟨Z,by rw[qV,H];exact aL,λj p A=>Ω⟩ ?_ ?_
 .rintro i _ _ aa aO hi ⟨q,hm,I⟩ aQ;simp only[aP,al];refine⟨λ_=>?_,λh=>Ω⟩;have⟨p,s⟩:=aH (l:=vars) hi;rw[bc an.u ah.i Ψ (ad.ext q) s];apply(tS (aF.ext q) aG).mono;rintro _ bf _ ⟨rfl,J⟩;apply(tS (G.ext (q.trans J)) aJ).mono;rintro _ aR _ ⟨rfl,ab⟩;have ac:=(q.trans J).trans ab;refine aV (λv af=>Ext aR af/\∃c,v= .bool c/\(c=true↔p∈a/\p∈e/\ie s1 (fx a p)≠ie f (fx e p))) ?_ ?_
  .rintro _ af ⟨ai,c,rfl,aj⟩;have ak:=ac.trans ai;rw[ca];refine⟨λaS=>⟨ak,λ_=>by first|rfl|trivial,λA=>?_⟩,λae=>?_⟩
   .obtain⟨y,z,aT⟩:=aj.1 aS;exact absurd (A p (x5 s) y z) aT
   .simp only[ev];intro bg ap _ _;have K:=ak.trans ap;have⟨⟨a7,gs,L,M,_⟩,_⟩:=h1.ext K;have⟨⟨aX,aY,N,O,_⟩,_⟩:=Y.ext K;rw[bZ,aU cX.p T,bR (cs:=[sv]) bF.p bF.i T (sub L),bZ,aU cX.p T,bR (cs:=[E]) bF.p bF.i T (sub N)];apply(q4 M.ls).mono;rintro _ bh _ ⟨rfl,B⟩;refine⟨.inl B,?_⟩;apply(q4 (O.ls.ext B)).mono;rintro _ bi _ ⟨rfl,aq⟩;have aZ:=(K.trans B).trans aq;have au:=hm.ext ((((J.trans ab).trans ai).trans ap).trans (B.trans aq));have bk:(upto (dy s1 a f e vars) 0 i).length=vars.length:=by rw[qU,H]
    rw[vR,hN T an.u ah.i au Ω];refine hP ah.i au Ω λbl a1 _ aw=>?_;simp only[aN];have a2:(dy s1 a f e vars)[i]?=σ (max (ie s1 (fx a p)) (ie f (fx e p))):=by
     unfold dy;rw[x8,s];rfl
    rw[qX a2]at aw;refine aQ _ _ _ ⟨aZ.then a1 (by rintro r bm rfl;omega),aw,λj a6 A P y z=>?_⟩;by_cases a8:j=i
    .subst a8;rw[s]at P;cases P;refine Decidable.byContradiction λba=>?_;have:=aj.2 ⟨y,z,ba⟩;rw[ae]at this;cases this
    .exact I j a6 Ω P y z
  .intro aA Q;simp only[ev,cO,al];intro bn C _ _;refine⟨λR=>⟨λS=>?_,λS=>⟨.inl (Ext.refl _),Q _ _ ⟨C,false,T,⟨(λh=>by cases h),λh=>absurd (tX.2 h.2.1) S⟩⟩⟩⟩,λR=>⟨.inl (Ext.refl _),Q _ _ ⟨C,false,T,⟨(λh=>by cases h),λh=>absurd (tX.2 h.1) R⟩⟩⟩⟩;have ax:=ac.trans C;have⟨⟨a7,gs,L,M,_⟩,_⟩:=h1.ext ax;have⟨⟨aX,aY,N,O,_⟩,_⟩:=Y.ext ax;rw[bZ,aU cX.p T,bR (cs:=[sv]) bF.p bF.i T (sub L),bZ,aU cX.p T,bR (cs:=[E]) bF.p bF.i T (sub N)];apply(q4 M.ls).mono;rintro _ bo _ ⟨rfl,U⟩;refine⟨.inl U,?_⟩;apply(q4 (O.ls.ext U)).mono;rintro _ bp _ ⟨rfl,bb⟩;simp only[bB];refine Q _ _ ⟨(C.trans U).trans bb,_,T,?_⟩;rw[decide_eq_true_iff];exact⟨λh=>⟨tX.1 R,tX.1 S,h⟩,λh=>h.2.2⟩
 .rintro _ _ aa aO ⟨q,hm,I⟩;simp only[aP,al];refine⟨λh=>Ω,λ_=>?_⟩;have A:pW s1 a f e vars:=λp s y z=>by
   have⟨i,hi,he⟩:=List.getElem_of_mem s;exact I i p hi (by rw[x6 hi,he]) y z
  rw[<-H,qW]at hm;exact⟨q,λh=>absurd A h,λ_=>⟨_,gz,T,Ω,hm⟩⟩
def w6(a e vars:Λ):Prop:=gW vars/\∀x,x∈vars↔x∈a\/x∈e
def ow(s1 h a e p f vars:Λ)(k:Int):Λ:=
 (Y1 (aQ (dy s1 a e f vars)).toNat).map λ(q:Nat)=>min (bl s1 h (fc (cR (dy s1 a e f vars) q) vars a)+bl e p (fc (cR (dy s1 a e f vars) q) vars f)) k
def Dj(s1 h a e p f vars:Λ)(k:Int):(ow s1 h a e p f vars k).length=(aQ (dy s1 a e f vars)).toNat:=by simp[ow]
def tY{s cs:Λ}(hk:right k)(h:∀x∈cs,cu x k):cu (bl s cs t) k:=by
 have a:cu 0 k:=⟨hk,Int.le_refl _,by have:=hk.1;omega⟩;unfold bl;split
 .rename_i n _;rw[u4];cases e:cs[n.toNat]? with
  |none=>exact a
  |some x=>exact h x (x5 e)
 .exact a
def Fits(s l:Λ):Prop:=l.length=s.length/\rm l
def rq(e:Int):x1:=.tuple #[.pointer ν,.slice ν 0 0,Δ e]
def Dk(w:x3)(s1 r a f s e:Λ)(k h:Int)(v:x1)(w':x3):Prop:=
 Ext w w'/\(¬(Fits s1 a/\Fits f e)->v=rq 1)/\
  (Fits s1 a/\Fits f e->∃vars,w6 a e vars/\(¬pW s1 a f e vars->v=rq 1)/\(pW s1 a f e vars->(k≠h->v=rq 3)/\
   (k=h->¬cb (dy s1 a f e vars)->v=rq 1)/\(k=h->cb (dy s1 a f e vars)->4096<aQ (dy s1 a f e vars)->v=rq 5)/\
   (k=h->cb (dy s1 a f e vars)->aQ (dy s1 a f e vars)<=4096->∃p x y q,v= .tuple #[Γ p,q,Δ 0]/\
    dk w' p x y (dy s1 a f e vars) k (ow s1 r a f s e vars k)/\aI .i64 w' q vars)))
def Oh{g bM ga bN:Nat}{bO:x1}{s1 z f y:Λ}{aS:Int}{E G:Λ}(h1:dk w g bM sv s1 k E)(aw:dk w ga bN bO z aS G)(az:aI .i64 w bj f)(P:aI .i64 w bv y)(hk:right k)(cz:∀x∈E,cu x k)(cA:∀x∈G,cu x aS):
  am x7 IW [Γ g,bj,Γ ga,bv] w (Dk w s1 E f z G y k aS):=by
 have cB:=az.cells;have cC:=P.cells;have cD:=h1.2.2.1;have cE:=aw.2.2.1;have sub:∀{w:x3}{g:Nat}{sv:x1}{k:Int}{a7:x1},ag w g cX [sv,Δ k,a7]->w.rangeAt g (0+0) [sv]:=λP=>oa P (by
  intro j v ad
  match j,ad with
  |0,ad=>exact ad)
 apply hG func196;refine bd λg1 V dN bP H=>?_;refine bd λbQ aa dO bi I=>?_;refine bd λbS dP dQ aW K=>?_;refine bd λbT Y dR aC L=>?_;have dS:=H.lt;have dT:=I.lt;have dU:=K.lt;have dV:=L.lt;have dW:=bP.size;have dX:=bi.size;have dY:=aW.size;have dZ:=aC.size;have Z:=((bP.trans bi).trans aW).trans aC;have H:ag Y g1 eV [Γ g]:=((H.ext bi).ext aW).ext aC;have I:ag Y bQ an [bj]:=by rw[cB.1]at I;exact(I.ext aW).ext aC
 have K:ag Y bS eV [Γ ga]:=K.ext aC;have L:ag Y bT an [bv]:=by rw[cC.1]at L;exact L
 refine aV (λv bU=>v= .bool false/\Y=bU) ?_ ?_
 rotate_left
 .intro aA aX;rw[ax Ψ (H.Qz T),di eV.u];simp only[Z5,a8];rw[ax Ψ (K.Qz T),di eV.u];exact aX _ _ ⟨T,T⟩
 rintro _ _ ⟨rfl,rfl⟩;simp only[a8];refine aV (λv bk=>Ext Y bk/\∃c,v= .bool c/\(c=true↔¬(Fits s1 f/\Fits z y))) ?_ ?_
 rotate_left
 .intro aA aX;rw[ax Ψ (H.Qz T),ax Ψ (I.Qz T)];apply(Db (h1.ext Z) (az.ext Z)).mono;rintro _ bU _ ⟨ac,c,rfl,aD⟩;simp only[bK,ca];refine⟨λaY=>aX _ _ ⟨ac,true,T,λ_ h=>?_,λ_=>rfl⟩,λae=>?_⟩
  .have:=aD.2 h.1;rw[this]at aY;cases aY
  .have cF:c=true:=by cases c<;>simp_all
   rw[ax Ψ ((K.ext ac).Qz T),ax Ψ ((L.ext ac).Qz T)];apply(Db ((aw.ext Z).ext ac) ((P.ext Z).ext ac)).mono;rintro _ ea _ ⟨cG,d,rfl,bW⟩;simp only[bK];refine aX _ _ ⟨ac.trans cG,_,T,λh aB=>?_,λh=>?_⟩
   .have:=bW.2 aB.2;rw[this]at h;cases h
   .cases d with
    |false=>rfl
    |true=>exact absurd ⟨aD.1 cF,bW.1 T⟩ h
 rintro _ bk ⟨aE,c,rfl,aD⟩;have bm:=Z.trans aE;rw[ca];refine⟨λaY eb cH _=>⟨bm.trans cH,λ_=>rfl,λh=>absurd h (aD.1 aY)⟩,λae=>?_⟩;have aF:Fits s1 f/\Fits z y:=Classical.byContradiction λh=>by
  have:=aD.2 h;rw[ae]at this;cases this
 have⟨⟨ec,cI⟩,ed,cJ⟩:=id aF;have ee:=cD.1;have ef:=cE.1;rw[ax Ψ ((I.ext aE).Qz T),ax Ψ ((L.ext aE).Qz T)];refine Of (az.ext bm) (P.ext bm) Ω Ω λeg eh ei bX ej cK=>?_;refine wY cK.ls (by rw[r9];omega) λek em en m bY eo b0 cL cM=>?_;have cN:=b0.length_eq;rw[r9]at cN;apply(Od cM Ω).mono;rintro aZ b1 _ ⟨cO,bn⟩;have ep:=aE.size;have er:=bX.size;have es:=bY.size;have b2:Ext bk b1:=(bX.trans bY).then cO (by rintro r a2 rfl;omega);have⟨cP,cQ⟩:=Da cL (j:=m.length) (o4 _);have et:=C9 m m.length;have M:w6 f y (dedup m m.length):=⟨cP,λx=>by rw[cQ,o6,b0.mem_iff,o5]⟩;generalize dedup m m.length=vars at*;refine bu an.i λa1 eu ev b3 cS=>?_;refine bq an.i bn.ls.cells.1 bn.ls.cells.2 cS (by simp[x1.cells]) λb4 cT ew aG=>?_;have ey:=b2.size;have ez:=b3.size;have br:Ext b1 b4:=b3.then cT (by rintro r a2 rfl;omega);have af:=(aE.trans b2).trans br;have aH:=Z.trans af;have dn:=aG.lt;have b5:=bn.ls.ext br;have aG:ag b4 a1 an [aZ]:=aG;rw[ax Ψ (aG.Qz T),ax Ψ ((H.ext af).Qz T),ax Ψ ((I.ext af).Qz T),ax Ψ ((K.ext af).Qz T),ax Ψ ((L.ext af).Qz T)];apply(Og (h1.ext aH) (aw.ext aH) b5 (az.ext aH) (P.ext aH) cI.up cJ.up Ω).mono;rintro eA eB _ ⟨aJ,cU,cV⟩;have b6:=aH.trans aJ;by_cases aj:pW s1 f z y vars
 rotate_left
 .rw[cU aj,bo,bp];simp only[bK,W3,bV];intro eC cW _;exact⟨b6.trans cW,λh=>absurd aF h,λ_=>⟨vars,M,λ_=>rfl,λh=>absurd h aj⟩⟩
 obtain⟨xs,ao,rfl,eD,cY⟩:=cV aj;rw[bo,bp];simp only[bK,Y7,a8];intro Q ak _ _;have a6:=(af.trans aJ).trans ak;have ap:=b6.trans ak;have H:=H.ext a6;have I:=I.ext a6;have K:=K.ext a6;have L:=L.ext a6;have cZ:=(aG.ext aJ).ext ak;have⟨⟨a7,gs,b7,eE,_⟩,_⟩:=h1.ext ap;have⟨⟨eF,eH,c0,eI,_⟩,_⟩:=aw.ext ap;rw[ax Ψ (H.Qz T),aT cX.p 1 b7 T,ax Ψ (K.Qz T),aT cX.p 1 c0 T];simp only[bB,al];refine⟨λR eJ c1 _=>⟨ap.trans c1,λh=>absurd aF h,λ_=>⟨vars,M,λh=>absurd aj h,λ_=>⟨λ_=>rfl,λh=>absurd h R,λh=>absurd h R,λh=>absurd h R⟩⟩⟩,λR=>?_⟩;have R:k=aS:=Z9.1 R;subst R;rw[ax Ψ (H.Qz T),aT cX.p 1 b7 T];have c2:=cY.ext ak;apply(vZ c2.ls).mono;rintro aM aK _ ⟨b8,c3,c4,_,c5⟩;have eK:=br.size;have eL:=aJ.size;have eM:=ak.size;have eN:=b8.size;obtain⟨aL,e,rfl,eO,ba⟩:∃(aL:Option Addr)(e:Int),aM= .tuple #[.pointer aL,Δ e]/\(e=0->aL≠ν)/\((e=1/\¬cb (dy s1 f z y vars))\/(e=5/\cb (dy s1 f z y vars)/\4096<aQ (dy s1 f z y vars))\/(e=0/\cb (dy s1 f z y vars)/\aQ (dy s1 f z y vars)<=4096/\
   ∃B A C,aL=σ ⟨B,0,ν⟩/\Q.heap.size<=B/\Q.heap.size<=A/\(∀r,leads C r->Q.heap.size<=r)/\dk aK B A C (dy s1 f z y vars) k (p8 (aQ (dy s1 f z y vars)).toNat 0))):=by
  by_cases U:cb (dy s1 f z y vars)
  .by_cases O:aQ (dy s1 f z y vars)<=4096
   .obtain⟨B,A,C,c6,c7,c8,c9,da⟩:=c5 U O ⟨hk,Ω,by have:=hk.1;omega⟩;exact⟨_,_,c6,(λ_ h=>by cases h),.inr (.inr ⟨T,U,O,B,A,C,T,c7,c8,c9,da⟩)⟩
   .exact⟨_,_,c4 U Ω,(λh=>Ω),.inr (.inl ⟨T,U,Ω⟩)⟩
  .exact⟨_,_,c3 U,(λh=>Ω),.inl ⟨T,U⟩⟩
 rw[bo,bp];refine bu eV.i λb9 eP eQ cc aN=>?_;refine bq eV.i T rfl aN (by simp[x1.cells]) λdb dc eR aN=>?_;have eS:=cc.size;have bt:Ext aK db:=cc.then dc (by rintro r a2 rfl;omega);have cd:=b8.trans bt;have dd:=ap.trans cd;have eU:=aN.lt;simp only[bB,al];refine⟨λde eW df _=>⟨dd.trans df,λh=>absurd aF h,λ_=>⟨vars,M,λh=>absurd aj h,λ_=>⟨λh=>absurd T h,λ_ U=>?_,λ_ U O=>?_,λ_ U O=>?_⟩⟩⟩,λeX=>?_⟩
 .rcases ba with⟨rfl,_⟩|⟨_,h,_⟩|⟨_,h,_⟩
  .rfl
  .exact absurd h U
  .exact absurd h U
 .rcases ba with⟨_,h⟩|⟨rfl,_⟩|⟨_,_,h,_⟩
  .exact absurd U h
  .rfl
  .omega
 .rcases ba with⟨_,h⟩|⟨_,_,h⟩|⟨h,_⟩
  .exact absurd U h
  .omega
  .exact absurd h de
 obtain⟨bb,dg,B,A,C,rfl,eY,eZ,e0,bc⟩:cb (dy s1 f z y vars)/\aQ (dy s1 f z y vars)<=4096/\
   ∃B A C,aL=σ ⟨B,0,ν⟩/\Q.heap.size<=B/\Q.heap.size<=A/\(∀r,leads C r->Q.heap.size<=r)/\dk aK B A C (dy s1 f z y vars) k (p8 (aQ (dy s1 f z y vars)).toNat 0):=by
  rcases ba with⟨h,_⟩|⟨h,_⟩|⟨_,h⟩
  .omega
  .omega
  .exact h
 obtain rfl:e=0:=Ω
 have dh:(dy s1 f z y vars).length=vars.length:=Di _ _ _ _ _;have e1:=prod_bound bb;obtain⟨N,be⟩:∃N:Nat,(aQ (dy s1 f z y vars)).toNat=N:=⟨_,T⟩;rw[be]at bc;have e2:0<N:=Ω
 have dj:=bc.ext bt;have⟨⟨bx,ce,cg,ch,dl⟩,⟨ci,cj,_⟩,_,e3⟩:=id dj;have e4:B<aK.heap.size:=by have⟨⟨_,_,q,_⟩,_⟩:=id bc;exact q.lt
 have e5:A<aK.heap.size:=by have⟨⟨_,_,_,_,q⟩,_⟩:=id bc;exact tM q Θ
 rw[ax Ψ (aN.Qz T),bZ,aU cX.p T,bR (cs:=[C]) bF.p bF.i T (sub cg)];apply wB.mono;rintro _ aO _ ⟨W,bf,rfl,e6,ck⟩;have e7:=bt.size;have e8:=W.size;let S:Nat->Prop:=λr=>r=A;let au:=ow s1 E f z G y vars k;have bz:au.length=N:=by simp only[au];rw[Dj,be]
 have dm:=(b5.ext aJ).ext ak;let dp:x3->Prop:=λw'=>ag w' g1 eV [Γ g]/\ag w' bQ an [bj]/\ag w' bS eV [Γ ga]/\ag w' bT an [bv]/\ag w' a1 an [aZ]/\aI .i64 w' aZ vars/\
  ag w' b9 eV [Γ B]/\ag w' B cX [C,Δ k,bx]/\dk w' g bM sv s1 k E/\dk w' ga bN bO z k G/\aI .i64 w' bj f/\aI .i64 w' bv y/\av .i64 ah w' ce C (dy s1 f z y vars)/\ag w' bf bF [C]/\aO.heap.size<=w'.heap.size
 have cl:=cd.trans W;have aP:∀{a:x3},ai S aO a->dp a:=by
  intro a J;have X:Ext Q a:=cl.put J Ω;have bg:=ap.trans X;exact⟨H.ext X,I.ext X,K.ext X,L.ext X,cZ.ext X,dm.ext X,(aN.ext W).ab J (by show¬(b9=A);omega),(cg.ext W).ab J (by show¬(B=A);exact ci),h1.ext bg,aw.ext bg,az.ext bg,P.ext bg,
   bw (ch.ext W) J (λr a2 he=>cj ((show r=A from he)▸a2)),ck.ab J (by show¬(bf=A);omega),J.size⟩
 have cm:=wA (g:=bf) (B0:=aO.heap.size) (sv:=C) bb;rw[be]at cm;refine pd.old ⟨Nat,false,l8,#[Γ bf],0,_,_,_,λq w'=>ai S aO w'/\av .i64 aq w' A bx (upto au 0 q),λ_ _ _=>False,T,cm.s,
  ?_,λ_ _ J h=>⟨h.1.ext J,h.2.1.ext J,Y9 h.2.2 J.size⟩,λ_ _ _ J h=>⟨h.1.trans (J.ab S),h.2.ext J⟩,λ_ _ _ _ _ h=>h,⟨ck,(ch.ext W).ls,o4 _⟩,⟨ai.refl _ _,?_⟩,?_,?_,λ_ _ h=>h.elim,λ_ _ _ h=>h.elim⟩
 .rintro _ _ _ _ ⟨_,_,_,_,rfl,_⟩;rfl
 .rw[qV,bz];exact dl.ext W
 .rintro _ aM q _ e9 ⟨_,_,fa⟩ ⟨bA,rfl,fb,gt,dq,fd,cn⟩ ⟨bh,dr⟩;cases dq;let x:=cR (dy s1 f z y vars) (q:Int);have cp:x.length=vars.length:=by simp only[x];rw[jD,dh]
  intro fe ds _ _;intro ff dt _ _;have bC:=ds.trans dt;have⟨f1,f2,f3,f4,f5,f6,f7,f8,f9,f10,f11,f12,f13,f14,f15⟩:=aP (bh.trans (bC.ab S));rw[ax Ψ (f1.Qz T),ax Ψ (f5.Qz T),ax Ψ (f2.Qz T)];apply(Dc (cn.ls.ext bC) f6 f11 M.1 (λp O=>(M.2 p).2 (.inl O)) cp Ω).mono;rintro fg fh _ ⟨bD,fi,fj,du⟩;refine⟨.inl bD,?_⟩;apply(v7 (f9.ext bD) du.ls).mono;rintro _ fk _ ⟨rfl,dv⟩;have⟨dw,dx⟩:=wX s1 (fc x vars f) E;have dz:pu s1 (fc (cR (dy s1 f z y vars) (q:Int)) vars f) E= .tuple #[Δ (bl s1 E (fc x vars f)),Δ dw]:=dx;rw[dz,bo,bp];intro fm dA _ _;have bE:=((bC.trans bD).trans dv).trans dA;have⟨f1,f2,f3,f4,f5,f6,f7,f8,f9,f10,f11,f12,f13,f14,f15⟩:=aP (bh.trans (bE.ab S));rw[ax Ψ (f3.Qz T),ax Ψ (f5.Qz T),ax Ψ (f4.Qz T)];apply(Dc (cn.ls.ext bE) f6 f12 M.1 (λp O=>(M.2 p).2 (.inr O)) cp Ω).mono;rintro fo fp _ ⟨bG,fq,fs,dC⟩;refine⟨.inl bG,?_⟩;apply(v7 (f10.ext bG) dC.ls).mono;rintro _ ft _ ⟨rfl,dD⟩;have⟨dE,dF⟩:=wX z (fc x vars y) G;have dG:pu z (fc (cR (dy s1 f z y vars) (q:Int)) vars y) G= .tuple #[Δ (bl z G (fc x vars y)),Δ dE]:=dF;rw[dG,bo,bp];intro fu dH _ _;have bH:=((bE.trans bG).trans dD).trans dH;have⟨f1,f2,f3,f4,f5,f6,f7,f8,f9,f10,f11,f12,f13,f14,f15⟩:=aP (bh.trans (bH.ab S));rw[ax Ψ (f7.Qz T),aT cX.p 2 f8 T,ax Ψ (f7.Qz T),aT cX.p 1 f8 T];apply wz.mono;rintro _ fv _ ⟨rfl,bI⟩;refine⟨.inl bI,?_⟩;have dI:om (bl s1 E (fc x vars f)) (bl z G (fc x vars y)) k= .tuple #[Δ (min (bl s1 E (fc x vars f)+bl z G (fc x vars y)) k),Δ 0]:=if_pos ⟨tY hk cz,tY hk cA⟩;rw[dI,iX (v:=Δ (min (bl s1 E (fc x vars f)+bl z G (fc x vars y)) k)) T,iX (v:=Δ 0) T];have cq:=dr.ext (bH.trans bI);have fw:(upto au 0 q).length=N:=by rw[qU,bz]
  rw[hN T ay.u aq.i cq Ω];refine hP aq.i cq Ω λdJ dK fx cr=>?_;have ct:ai S aO dJ:=(bh.trans ((bH.trans bI).ab S)).trans (dK.mono λr _ h=>h);have⟨f1,f2,f3,f4,f5,f6,f7,f8,f9,f10,f11,f12,f13,f14,f15⟩:=aP ct;have dL:au[q]?=σ (min (bl s1 E (fc x vars f)+bl z G (fc x vars y)) k):=by
   simp only[au,ow];rw[x8,List.getElem?_range (by rw[be];exact bA)];rfl
  rw[qX dL]at cr;exact⟨⟨f14,f13.ls,f15⟩,⟨ct,cr⟩,λh=>by cases h⟩
 .rintro q fy bA ⟨cw,bJ⟩;rw[show q=N from bA]at bJ;intro fz bL _ _;have⟨f1,f2,f3,f4,f5,f6,f7,f8,f9,f10,f11,f12,f13,f14,f15⟩:=aP (cw.trans (bL.ab S));rw[ax Ψ (f7.Qz T),ax Ψ (f5.Qz T)];intro fA aR _;rw[<-bz,qW]at bJ;have dM:=ap.trans cl;refine⟨((dM.put cw Ω).trans bL).trans aR,λh=>absurd aF h,λ_=>⟨vars,M,λh=>absurd aj h,λ_=>⟨λh=>absurd T h,λ_ h=>absurd bb h,λ_ _ h=>Ω,λ_ _ _=>⟨B,A,C,aZ,T,⟨⟨bx,ce,f8.ext aR,f13.ext aR,(bJ.ext bL).ext aR⟩,⟨ci,cj,dg⟩,bb,Dj _ _ _ _ _ _ _ _⟩,f6.ext aR⟩⟩⟩⟩
def gW.pair(h:gW l):l.Pairwise (·< ·):=V8.2 λi j hi a e=>h i j _ _ e (x6 hi) (x6 a)
def Oi{m:Λ}(e:gW l)(hm:gW m)(h:∀x,x∈l↔x∈m):l=m:=by
 have f:l.Nodup:=e.pair.imp λh=>Ω
 have p:m.Nodup:=hm.pair.imp λh=>Ω
 exact List.Perm.eq_of_pairwise (le:=(·<= ·)) (λa b _ _ h1 q=>Int.le_antisymm h1 q) (e.pair.imp λh=>Int.le_of_lt h) (hm.pair.imp λh=>Int.le_of_lt h) ((List.perm_ext_iff_of_nodup f p).2 h)
def Oj{vars:Λ}(h:w6 l l vars)(hu:gW l):vars=l:=Oi h.1 hu λx=>by rw[h.2];simp
def w7(h:l.Pairwise (·< ·)):gW l:=λi j x y e J f=>by
 have h1:=x4.1 J;have a:=x4.1 f;have:=V8.1 h i j h1.1 a.1 e;rw[h1.2,a.2]at this;exact this
def Ol{x:Λ}(hu:l.Nodup)(h:x.length=l.length):fc x l l=x:=by
 refine Y4 λi=>?_;unfold fc;cases a:l[i]? with
 |none=>rw[x8,a,Z2 (by have:=List.getElem?_eq_none_iff.1 a;omega)];rfl
 |some v=>
  have hi:=(x4.1 a).1;rw[x8,a,Z6,rk hu a,u4,x6 (show i<x.length by omega)];rfl
def Dl{s:Λ}(hu:gW l)(h:s.length=l.length):dy s l s l l=s:=by
 refine Y4 λi=>?_;unfold dy;cases a:l[i]? with
 |none=>rw[x8,a,Z2 (by have:=List.getElem?_eq_none_iff.1 a;omega)];rfl
 |some v=>
  have hi:=(x4.1 a).1;rw[x8,a,Z6,w2 hu a,Int.max_self,x6 (show i<s.length by omega)];unfold ie;rw[if_pos Ω,u4,u7,x6 (show i<s.length by omega)];rfl
def Om{s b:Λ}(hu:l.Pairwise (·< ·))(h:s.length=l.length)(U:dP s)(e:a.length=(aQ s).toNat)(f:b.length=(aQ s).toNat):ow s a l s b l l k=ea k a b:=by
 have p:l.Nodup:=hu.imp λh=>Ω
 unfold ow;rw[Dl (w7 hu) h,M6 U e f];apply List.map_congr_left;intro q _;rw[Ol p (by rw[jD,h])]
def On{s b:Λ}(hu:l.Pairwise (·< ·))(C:∀x∈l,0<=x)(h:s.length=l.length)(U:cb s)(E:aQ s<=4096)(F:a.length=(aQ s).toNat)(G:b.length=(aQ s).toNat)(f:Dk w s a l s b l k k v w'):
  Ext w w'/\∃e q r y,v= .tuple #[Γ e,y,Δ 0]/\dk w' e q r s k (ea k a b):=by
 have⟨J,_,f⟩:=f;have z:=w7 hu;have A:Fits s l:=⟨h.symm,NM z C⟩;have⟨vars,ad,_,H⟩:=f ⟨A,A⟩;have I:=Oj ad z;subst I;have⟨_,_,_,B⟩:=H λp L M N=>rfl;rw[Dl z h,Om hu h U.2 F G]at B;obtain⟨e,q,r,y,rfl,K,_⟩:=B T U E;exact⟨J,e,q,r,y,T,K⟩
def Oo{s:Λ}(U:dP s):(bm s).Nodup:=(C2 U).imp λ{a b}h he=>by subst he;omega
def Oq{s:Λ}{i:Nat}(U:dP s)(hi:(bm s)[i]?=σ t)(a:(bm s)[j]?=σ t):i=j:=kN (Oo U) hi a
def Ot{s:Λ}(U:dP s)(h:dr s t):∃j:Nat,(bm s)[j]?=σ t:=X3.1 ((C1 U).2 h)
def tZ{g m:Nat}{d:List (x1×x1)}(h:ag w g e cs)(hm:c6 w m d)(a:ai (λr=>r=m) w w'):ag w' g e cs:=h.ab a (λhe=>tN h hm he)
def Dm{g m:Nat}{k:o7}{d:List (x1×x1)}(h:av k e w g v l)(hm:c6 w m d)(a:ai (λr=>r=m) w w'):av k e w' g v l:=bw h a (λ_ f he=>C4 h hm f he)
def ua(cs:Λ)(o:Int):Prop:=o∈cs/\∀d∈cs,cs.count d<cs.count o\/(cs.count d=cs.count o/\o<=d)
def Ou{i:Nat}{x:Int}(h:l[i]?=σ x)(y:Int):(l.take (i+1)).count y=(l.take i).count y+if y=x then 1 else 0:=by
 rw[u9,h,List.count_append];congr 1;simp only[n9,List.count_singleton];by_cases a:y=x
 .subst a;simp
 .rw[if_neg a,if_neg (by simpa using λh=>a h.symm)]
def gX(p:Int×Int):x1×x1:=(Δ p.1,Δ p.2)
def rr:Keys x7 aq λv=>∃n,v=Δ n:=Keys.int aq.u
def rt(E:List (Int×Int)):∀p∈E.map gX,∃n,p.1=Δ n:=λp a=>by
 obtain⟨q,_,rfl⟩:=j5.1 a;exact⟨_,T⟩
def w8(cs:Λ)(E:List (Int×Int)):Prop:=(∀x,x∈E.map (·.1)↔x∈cs)/\∀p∈E,p.2=(cs.count p.1:Nat)
def Dn{cs:Λ}{E:List (Int×Int)}(h:w8 cs E){x:Int}(J:x∈cs):∃j:Nat,E[j]?=σ (x,((cs.count x:Nat):Int)):=by
 obtain⟨p,a,rfl⟩:=j5.1 ((h.1 x).2 J);have⟨j,e⟩:=X3.1 a;exact⟨j,by rw[e,<-h.2 p a]⟩
def Do{dn:x1}{cs:Λ}(h:aI .i64 w dn cs)(au:cs≠[])(bg:cs.length<=1000000):am x7 sL [dn] w λv w'=>Ext w w'/\∃o,v=Δ o/\ua cs o:=by
 apply az func256;refine aE.cw (tu λm V hm U aL bh=>?_);rw[aW ay.u (h.ext U)];refine cp.range cs.length (λi aa=>ai (λr=>r=m) V aa/\∃E,c6 aa m (E.map gX)/\w8 (cs.take i) E) Ω ⟨ai.refl _ _,[],aL,by simp[w8]⟩ ?_ ?_
 .rintro i aa aM hi ⟨G,E,A,f⟩ av;have⟨x,W⟩:=aH (l:=cs) hi;have H:Ext w aa:=U.put G Ω;have aO:∀y,(cs.take i).count y<=1000000:=λy=>by
   have:=List.count_le_length (a:=y) (l:=cs.take i);rw[l9]at this;omega
  apply bz Ω;rw[bc ay.u aq.i Ψ (h.ext H) W];have O:=Ou W;have aw:∀y,y∈cs.take (i+1)↔y∈cs.take i\/y=x:=λy=>by
   rw[u9,W];simp
  by_cases I:x∈cs.take i
  .obtain⟨j,X⟩:=Dn f I;have P:(E.map gX)[j]?=σ (Δ x,Δ (((cs.take i).count x:Nat):Int)):=by rw[x8,X];rfl
   rw[q5 me.u rr A (rt E) ⟨_,T⟩ P];simp only[Bool.false_eq_true,if_false];have:=aO x;rw[aN,wrap_i64 Ω Ω];refine aE.cw (q6 me.u rr A (rt E) ⟨_,T⟩ (λJ v0 Y Z L ab aQ=>?_) (λY Q=>absurd T (Q _ (x5 P))));have aR:J=j:=A.uniq Z P T;subst aR;rw[aN];have ad:(E.map gX).set J (Δ x,Δ ((((cs.take i).count x:Nat):Int)+1))=(E.set J (x,(((cs.take i).count x:Nat):Int)+1)).map gX:=by rw[U5];rfl
   rw[ad]at L;have aS:=(x4.1 X).1;refine av _ ⟨G.trans ab,_,L,λy=>?_,λp e=>?_⟩
   .rw[U5,qY (by rw[x8,X];rfl),f.1,aw];exact⟨.inl,λh=>h.elim id (λh=>h▸I)⟩
   .obtain⟨q,s⟩:=X3.1 e;by_cases ae:J=q
    .subst ae;rw[c8 aS]at s;cases s;show _=(((cs.take (i+1)).count x:Nat):Int);rw[O,if_pos T];omega
    .rw[Y2 ae]at s;have af:p.1≠x:=λhe=>ae (A.uniq P (show(E.map gX)[q]?=σ (gX p) by rw[x8,s];rfl) (by rw[gX,he]));rw[f.2 p (x5 s),O,if_neg af,Nat.add_zero]
  .have Q:∀p∈E.map gX,p.1≠V6 .i64 x:=λp e he=>by
    obtain⟨q,s,rfl⟩:=j5.1 e;have:q.1=x:=by simpa[gX]using he
    exact I ((f.1 x).1 (j5.2 ⟨q,s,this⟩))
   rw[tv me.u rr ⟨_,_,ah.i⟩ A (rt E) ⟨_,T⟩ Q];simp only[Bool.false_eq_true,if_false];rw[aN,wrap_i64 Ω Ω];refine aE.cw (q6 me.u rr A (rt E) ⟨_,T⟩ (λJ v0 Y Z=>absurd T (Q _ (x5 Z))) (λY _ L ab aQ=>?_));rw[aN];have ad:E.map gX++[(V6 .i64 x,V6 .i64 (0+1))]=(E++[(x,1)]).map gX:=by rw[Z4];rfl
   rw[ad]at L;have aT:(cs.take i).count x=0:=List.count_eq_zero.2 I;refine av _ ⟨G.trans ab,_,L,λy=>?_,λp e=>?_⟩
   .rw[Z4,o5,f.1,aw];simp
   .rcases o5.1 e with e|e
    .have af:p.1≠x:=λhe=>I ((f.1 x).1 (j5.2 ⟨p,e,he⟩));rw[f.2 p e,O,if_neg af,Nat.add_zero]
    .rw[o9.1 e];show(1:Int)=(((cs.take (i+1)).count x:Nat):Int);rw[O,if_pos T,aT];rfl
 rintro aa aM ⟨G,E,A,f⟩;rw[o6]at f;have H:Ext w aa:=U.put G Ω;apply b4 Ω;apply(LF (h.ext H) au).mono;rintro _ aU bi ⟨rfl,ag⟩;have bj:=H.size;have bk:=ag.size;refine aE.cw (B2 me.u (A.ext ag) λM bl bm aX bn aY bo=>?_);refine⟨λub C=>∃b B z left ax,ub=Δ b/\b∈cs/\Ext aU C/\hT C M m (E.map gX) left ax/\left=z.map gX/\(B++z).Perm E/\∀p∈B,cs.count p.1<cs.count b\/(cs.count p.1=cs.count b/\b<=p.1),λ_ C=>pN C M,
  ⟨wp cs,[],E,E.map gX,ν,T,(Lh au).1,aX,aY,T,List.Perm.refl _,λp e=>by cases e⟩,?_⟩
 rintro _ C ⟨b,B,z,left,ax,rfl,aj,ak,aB,rfl,R,an⟩;refine B4 aB (λ_=>by show w.heap.size<=M;omega) (λaZ=>?_) (λj p ao e aC bp N=>?_)
 .rw[iX (v:=.bool false) T,a8];have:z=[]:=List.map_eq_nil_iff.1 aZ;subst this;rw[W6]at R;refine⟨(H.trans ag).trans ak,b,T,aj,λd a1=>?_⟩;obtain⟨q,s,rfl⟩:=j5.1 ((f.1 d).2 a1);exact an q (R.mem_iff.2 s)
 .rw[iX (v:=.bool true) T,bV];apply B5 N;obtain⟨q,s,rfl⟩:∃q,z[j]?=σ q/\gX q=p:=by
   rw[x8]at e;exact X1.1 e
  have aD:q∈E:=R.mem_iff.1 (o5.2 (.inr (x5 s)));have bq:=f.2 q aD;have a2:q.1∈cs:=(f.1 q.1).1 (j5.2 ⟨q,aD,T⟩);have⟨a6,a7⟩:=Dn f aj;have ba:(E.map gX)[a6]?=σ (Δ b,Δ ((cs.count b:Nat):Int)):=by rw[x8,a7];rfl
  rw[iX (v:=Δ q.1) T,iX (v:=Δ q.2) T];have aF:(B++[q]++z.eraseIdx j).Perm E:=by
   refine List.Perm.trans ?_ R;rw[V1];exact List.Perm.append_left B (wG s)
  have aG:pN ao M<pN C M:=by
   rw[tA N,tA aB];have:=Ci (x4.1 e).1;omega
  refine aV (λv bb=>ao=bb/\∃r:Bool,v= .bool r/\(r=true↔(cs.count b<cs.count q.1\/(cs.count q.1=cs.count b/\q.1<b)))) ?_ ?_
  .rintro _ _ ⟨rfl,r,rfl,S⟩;rw[ca];refine⟨λbd=>?_,λaJ=>?_⟩
   .have S:=S.1 bd;refine⟨⟨q.1,B++[q],z.eraseIdx j,_,_,T,a2,ak.trans aC,N,(nh gX z j),aF,λp e=>?_⟩,aG⟩;rcases o5.1 e with e|e
    .have:=an p e;omega
    .rw[o9.1 e];exact .inr ⟨T,Int.le_refl _⟩
   .have S:¬(cs.count b<cs.count q.1\/(cs.count q.1=cs.count b/\q.1<b)):=λh=>by rw[S.2 h]at aJ;cases aJ
    refine⟨⟨b,B++[q],z.eraseIdx j,_,_,T,aj,ak.trans aC,N,(nh gX z j),aF,λp e=>?_⟩,aG⟩;rcases o5.1 e with e|e
    .exact an p e
    .rw[o9.1 e];omega
  .intro aA ap;have aK:∀K:x1->Prop,ac x7 (Instr.lookup me (.map (σ m)) (Δ b) false) ao K=K (Δ ((cs.count b:Nat):Int)):=λK=>by
    rw[q5 me.u rr N.map (rt E) ⟨_,T⟩ ba];simp
   rw[aK,bJ,al];refine⟨λh1=>ap _ _ ⟨T,true,T,⟨λ_=>.inl Ω,λ_=>rfl⟩⟩,λh1=>?_⟩;rw[aK,be,al];refine⟨λbf=>?_,λbf=>ap _ _ ⟨T,false,T,⟨λh=>(by cases h),λh=>Ω⟩⟩⟩;rw[aP];refine ap _ _ ⟨T,_,T,?_⟩;rw[decide_eq_true_eq];omega
def Ov{g p:Nat}{k:o7}{q:p9}(h:av k e w g v l)(s:ag w p q cs)(y:e≠q)(x:leads v r):r≠p:=by
 obtain⟨rfl,_⟩:=bS h x;obtain⟨_,⟨rfl,_⟩|⟨_,_,_,f,_⟩⟩:=h
 .obtain⟨a,n,c,h,_⟩:=x;cases h
 .rintro rfl;unfold ag at s f;rw[s]at f;injection f with h1;injection h1 with A z;exact y z.symm
def Ow(w:x3)(aj:Λ)(k:Int)(cs:Λ)(v:x1)(w':x3):Prop:=Ext w w'/\∃g m o D,v=Γ g/\eO w' g m aj k o D/\D.length<=(aQ aj).toNat/\iI aj (iF D o) cs/\ua cs o
def Ox{g bN:Nat}{cs:Λ}(h:dk w g bN sv aj k cs)(aD:∀c∈cs,cu c k):am x7 I1 [Γ g] w (Ow w aj k cs):=by
 have⟨⟨a7,gs,a6,hm,ck⟩,⟨_,_,ba⟩,U,ak⟩:=id h;have cl:=prod_bound U;have cm:=U.1;have bb:cs≠[]:=λhe=>by rw[he]at ak;simp at ak;omega
 apply hG func204;rw[di eV.u];simp only[Z5,a8];apply(ng h).mono;rintro dn aa _ ⟨N,cn,cp,aF⟩;refine bu ay.i λal cq cr bd be=>?_;have ct:=be.lt;refine bq ay.i aF.ls.cells.1 aF.ls.cells.2 be (by simp[x1.cells]) λan bO cw ao=>?_;have ao:ag an al ay [dn]:=ao;have cz:=N.size;have cA:=bd.size;have bf:Ext aa an:=bd.put bO Ω;have bg:=aF.ext bf;have X:=N.trans bf;refine aV (λu ap=>∃a A m o I K,u=Γ a/\Ext an ap/\ag ap a eU [Γ A]/\an.heap.size<=m/\fX ap A m I K aj k o []/\ua cs o) ?_ ?_
 .rintro _ ap ⟨a,A,m,o,I,K,rfl,Y,e,cB,B,E⟩;have bP:=h.ext (X.trans Y);have bQ:=ao.ext Y;have bR:=bg.ext Y;apply(pI bP).mono;rintro _ cC _ ⟨rfl,bS⟩;apply wB.mono;rintro _ aG _ ⟨bT,bh,rfl,cE,bi⟩;have O:=bS.trans bT;have bj:=B.ext O;have bU:=bQ.ext O;have bk:=e.ext O;have bV:=bR.ext O;have bn:=hm.ext ((X.trans Y).trans O);have P:=bj.2.2.1;have bW:=(X.trans Y).trans O;have cF:=X.size;have bX:=wA (g:=bh) (B0:=aG.heap.size) (sv:=sv) U;refine pd.old ⟨Nat,false,l8,#[Γ bh],_,_,_,_,λi w'=>ai (λr=>r=m) aG w'/\∃D,D.length<=i/\fX w' A m I K aj k o D/\∀(j:Nat)t,(bm aj)[j]?=σ t->iF D o t=if j<i then bl aj cs t else o,λ_ _ _=>False,T,bX.s,
   ?_,λ_ _ J h=>⟨h.1.ext J,h.2.1.ext J,Y9 h.2.2 J.size⟩,λ_ _ _ J ⟨h1,D,bY,bZ,ba⟩=>⟨h1.trans (J.ab _),D,bY,bZ.ext J,ba⟩,λ_ _ _ _ _ h=>h,⟨bi,bn.ls,o4 _⟩,⟨ai.refl _ _,[],o4 _,bj,λj t _=>by rw[if_neg Ω];rfl⟩,?_,?_,λ_ _ h=>h.elim,λ_ _ _ h=>h.elim⟩
  .rintro _ _ _ _ ⟨_,_,_,_,rfl,_⟩;rfl
  .rintro _ aM i _ b0 ⟨cG,cH,b1⟩ ⟨hi,rfl,cI,gt,b2,cJ,y⟩ ⟨au,D,br,aH,aJ⟩;cases b2;have aK:(bm aj)[i]?=σ (cR aj (i:Int)):=qT U.2 Ω;have b3:dr aj (cR aj (i:Int)):=wq U.2 hi;generalize cR aj (i:Int)=t at*;have bt:=Nd U.2 ak aK;intro b4 av _ _;intro b5 b6 _ _;have aw:=av.trans b6;have az:ai (λr=>r=m) aG b5:=au.trans (aw.ab _);rw[ax Ψ ((tZ bk P az).Qz T),ax Ψ ((tZ bU P az).Qz T),bc ay.u aq.i Ψ (Dm bV P az).ls bt];have aL:=aH.ext aw;apply(Cg aL.is (y.ext aw).ls (c:=bl aj cs t)).mono;rintro _ cK _ ⟨_,b7⟩;obtain⟨rfl,aN,D',bw,bx⟩:=b7 ⟨b3,aD _ (x5 bt)⟩;have aO:=az.trans aN;have cL:=bw.2;refine⟨⟨tZ bi P aO,(Dm bn P aO).ls,Y9 b1 (Y9 aw.size aN.size)⟩,⟨aO,D',Ω,aL.put aN bx,λj s L=>?_⟩,λh=>by cases h⟩;rw[bw.cost aL.is.nodup bx.nodup];by_cases bz:j=i
   .subst bz;rw[aK]at L;cases L;rw[if_pos T,if_pos Ω]
   .rw[if_neg (λ(he:s=t)=>bz (Oq U.2 (by rw[<-he];exact L) aK)),aJ j s L];by_cases h1:j<i
    .rw[if_pos h1,if_pos Ω]
    .rw[if_neg h1,if_neg Ω]
  .rintro i b0 rfl ⟨au,D,br,aH,aJ⟩;rw[ax Ψ ((tZ bk P au).Qz T)];intro b4 av _;refine⟨(bW.put au Ω).trans av,A,m,o,D,T,aH.is.ext av,br,⟨ak,λt b8=>?_⟩,E⟩;have⟨j,L⟩:=Ot U.2 b8;have:=(x4.1 L).1;rw[iz U.2]at this;rw[aJ j t L,if_pos this]
 intro aA bA;intro z Z _ _;have aP:=X.trans Z;have bB:=Z;have aB:=h.ext aP;have bC:=bg.ext Z;have cM:=Z.size;rw[ax Ψ ((ao.ext Z).Qz T)];have bD:∀{a:Nat}{w':x3}{aM:x1}{o:Int},Ext z w'->z.heap.size<=a->(∃f,ag w' a eU [f])->aI .i64 w' aM aj->ua cs o->
   am x7 pi [aM,Δ k,Δ o] w' λC q=>ac x7 (Y0 C 0) q λM=>ac x7 (Y0 C 1) q λ_=>aE x7 (o8 eU (Γ a) M) q λ(_:Unit)G=>aA (Γ a) G:=by
  rintro a w' aM o x p ⟨f,e⟩ y E;apply(Ca y).mono;rintro _ q _ ⟨aQ,_,_,aR⟩;obtain⟨A,m,rfl,b9,ca,B⟩:=aR U (aD _ E.1);have⟨I,K,B⟩:=B.at;rw[bo,bp];have cb:=e.lt;have s':=x.size;refine bq eU.i T rfl (e.ext aQ) Ξ λG bE cN cc=>?_;refine bA _ _ ⟨a,A,m,o,I,K,T,((bB.trans x).trans aQ).put bE Ω,cc,Ω,B.ab bE (λhe=>by have he:A=a:=he;omega) (λhe=>by have he:m=a:=he;omega) (λr aS he=>?_),E⟩;exact Ov B.2.1 (e.ext aQ) Φ aS he
 have bF:∀{a:Nat}{w':x3}{aM:x1},Ext z w'->z.heap.size<=a->(∃f,ag w' a eU [f])->aI .i64 w' aM aj->
   am x7 sL [dn] w' λad aa=>am x7 pi [aM,Δ k,ad] aa λC q=>ac x7 (Y0 C 0) q λM=>ac x7 (Y0 C 1) q λ_=>aE x7 (o8 eU (Γ a) M) q λ(_:Unit)G=>aA (Γ a) G:=by
  rintro a w' aM x p ⟨f,e⟩ y;apply(Do (bC.ext x).ls bb Ω).mono;rintro _ aa _ ⟨N,o,rfl,E⟩;exact bD (x.trans N) p ⟨f,e.ext N⟩ (y.ext N) E
 have bG:∀{a:Nat}{w':x3}{aM:x1},Ext z w'->z.heap.size<=a->(∃f,ag w' a eU [f])->aI .i64 w' aM aj->
   am x7 vM [Γ g] w' λaT V=>(Ext z V\/cD x7 (u5 ay (Γ al)) dn V/\True)/\
    am x7 sL [dn] V λad aa=>am x7 pi [aM,aT,ad] aa λC q=>ac x7 (Y0 C 0) q λM=>ac x7 (Y0 C 1) q λ_=>aE x7 (o8 eU (Γ a) M) q λ(_:Unit)G=>aA (Γ a) G:=by
  rintro a w' aM x p ⟨f,e⟩ y;apply(BY (aB.ext x)).mono;rintro _ V _ ⟨rfl,H⟩;exact⟨.inl (x.trans H),bF (x.trans H) p ⟨f,e.ext H⟩ (y.ext H)⟩
 have bH:aj.length<=1000:=Ω
 have bI:∀{a:Nat}{w':x3},Ext z w'->z.heap.size<=a->(∃f,ag w' a eU [f])->
   am x7 Ai [.agg #[sv]] w' λcd w0=>(Ext z w0\/cD x7 (u5 ay (Γ al)) dn w0/\True)/\
    am x7 vM [Γ g] w0 λaT V=>(Ext z V\/cD x7 (u5 ay (Γ al)) dn V/\True)/\
    am x7 sL [dn] V λad aa=>am x7 pi [cd,aT,ad] aa λC q=>ac x7 (Y0 C 0) q λM=>ac x7 (Y0 C 1) q λ_=>aE x7 (o8 eU (Γ a) M) q λ(_:Unit)G=>aA (Γ a) G:=by
  rintro a w' x p ⟨f,e⟩;apply(BZ (hm.ext (aP.trans x)).ls bH).mono;rintro aM V _ ⟨H,_,_,y⟩;exact⟨.inl (x.trans H),bG (x.trans H) p ⟨f,e.ext H⟩ y.ls⟩
 have ae:∀{w':x3}{R:x1->x3->Prop},Ext z w'->(∀a af,z.heap.size<=a->Ext w' af->(∃f,ag af a eU [f])->R (Γ a) af)->aE x7 (Q1 eU true (.tuple #[])) w' R:=λ{w'}{R}x ce=>by
  have:=x.size;exact bu eU.i λa af p cg a6=>ce a af Ω cg ⟨_,a6⟩
 refine⟨?_,ae (Ext.refl _) λa cO p aC e=>⟨.inl aC,?_⟩⟩
 rotate_left
 .refine (pI (aB.ext aC)).mono ?_;rintro _ cP _ ⟨rfl,aU⟩;have⟨f,e⟩:=e;exact⟨.inl (aC.trans aU),bI (aC.trans aU) p ⟨f,e.ext aU⟩⟩
 apply(pI aB).mono;rintro _ cQ _ ⟨rfl,Q⟩;refine⟨.inl Q,?_,ae Q λa cS p bJ e=>⟨.inl (Q.trans bJ),bI (Q.trans bJ) p e⟩⟩;apply(BZ (hm.ext (aP.trans Q)).ls bH).mono;rintro aM cT _ ⟨ch,_,_,y⟩;have S:=Q.trans ch;refine⟨.inl S,?_,ae S λa cU p aW e=>⟨.inl (S.trans aW),bG (S.trans aW) p e (y.ext aW).ls⟩⟩;apply(BY (aB.ext S)).mono;rintro _ cV _ ⟨rfl,aX⟩;have W:=S.trans aX;refine⟨.inl W,?_,ae W λa cW p aY e=>⟨.inl (W.trans aY),bF (W.trans aY) p e ((y.ext aX).ext aY).ls⟩⟩;apply(Do (bC.ext W).ls bb Ω).mono;rintro _ cX _ ⟨bK,o,rfl,E⟩;have ah:=W.trans bK;have bL:=(y.ext aX).ext bK;refine⟨?_,ae ah λa cY p aZ e=>⟨.inl (ah.trans aZ),bD (ah.trans aZ) p e (bL.ext aZ).ls E⟩⟩;apply(Ca bL.ls).mono;rintro _ cZ _ ⟨ci,_,_,aR⟩;obtain⟨A,m,rfl,b9,ca,B⟩:=aR U (aD _ E.1);have⟨I,K,B⟩:=B.at;rw[bo,bp];have a1:=ah.trans ci;refine bu eU.i λa c0 p a2 e=>?_;refine⟨.inl (a1.trans a2),?_⟩;have cb:=e.lt;have⟨c1,c2,t3⟩:=B.q3;have c3:=ah.size;have c4:=a1.size;refine bq eU.i T rfl e (by simp[x1.cells]) λc5 bM c6 cj=>?_;exact bA _ _ ⟨a,A,m,o,I,K,T,((bB.trans a1).trans a2).put bM Ω,cj,Ω,(B.ext a2).ab bM (λhe=>by have he:A=a:=he;omega) (λhe=>by have he:m=a:=he;omega) (λr aS he=>by have he:r=a:=he;have:=t3 r aS;omega),E⟩
def Dp{acc:List cL}{g:cL}(h:∀x∈acc,x.1≠g.1):iE k acc g=acc++[g]:=by
 unfold iE;rw[if_neg];intro hm;have⟨x,J,he⟩:=j5.1 hm;exact h x J he
def Oy{acc:List cL}{g h:cL}{i:Nat}(e:jc acc)(hi:acc[i]?=σ h)(he:h.1=g.1):iE k acc g=acc.set i (h.1,ea k h.2 g.2):=by
 have f:=(x4.1 hi).1;unfold iE;rw[if_pos (j5.2 ⟨h,x5 hi,he⟩)];refine Y4 λj=>?_;rw[x8,X0];by_cases a:i=j
 .subst a;rw[hi,Z6,if_pos he,if_pos T,if_pos f]
 .rw[if_neg a];cases p:acc[j]? with
  |none=>rfl
  |some y=>
   have:y.1≠g.1:=λq=>a (by
    have h1:(acc.map (·.1))[i]?=σ g.1:=by rw[x8,hi,Z6,he]
    have r:(acc.map (·.1))[j]?=σ g.1:=by rw[x8,p,Z6,q]
    exact kN e h1 r)
   rw[Z6,if_neg this]
def Oz{α β:Type}{f:β->α->β}{b:β}{l:List α}{i:Nat}{x:α}(h:l[i]?=σ x):(l.take (i+1)).foldl f b=f ((l.take i).foldl f b) x:=by
 rw[u9,h,n9,S6];rfl
def nj(w:x3)(k:Int)(sizes:Λ)(x:cv):Prop:=(∃a,av .i64 ah w a x.sv x.sc)/\∃m o D,eO w x.g m (bX sizes x.sc) k o D/\D.length<=4096/\iI (bX sizes x.sc) (iF D o) x.cs
def nj.ext{x:cv}(h:nj w k sizes x)(J:Ext w w'):nj w' k sizes x:=by
 have⟨⟨a,h1⟩,m,o,D,e,f⟩:=h;exact⟨⟨a,h1.ext J⟩,m,o,D,e.ext J,f⟩
def nj.ab{x:cv}(h:nj w k sizes x)(J:ai S w w')(p:∀r,S r->∃e c,ag w r e c/\e≠fO/\e≠ah):nj w' k sizes x:=by
 have⟨⟨z,h1⟩,m,o,D,A,B⟩:=h;have⟨sv,gs,f⟩:=A.at;have s:∀{g:Nat}{v:x1}{l:Λ},av .i64 ah w g v l->∀r,leads v r->¬S r:=λhm r C U=>by
  have⟨e,c,a,_,q⟩:=p r U;exact ch hm a (λhe=>q he.symm) C T
 refine⟨⟨z,bw h1 J (s h1)⟩,m,o,D,(f.ab J (λU=>?_) (λU=>?_) (s f.2.1)).is,B⟩
 .obtain⟨e,c,a,q,_⟩:=p _ U;have y:=f.1;unfold ag at y a;rw[y]at a;exact q (Obj.cells.inj (b9 a)).2.1.symm
 .obtain⟨e,c,a,_,_⟩:=p _ U;exact tN a f.2.2.1 T
def ru(w:x3)(g:Nat)(v:x1)(k:Int)(sizes:Λ)(L:List cv):Prop:=bk eG 2 cF w g v L/\∀x∈L,nj w k sizes x
def ru.ext{g:Nat}{L:List cv}(h:ru w g v k sizes L)(J:Ext w w'):ru w' g v k sizes L:=⟨h.1.ext J,λx a=>(h.2 x a).ext J⟩
def OA(w:x3)(B a:Nat)(f:b3):Prop:=∃szv e gz g L,ag w a cE [bL f.name,Δ f.k,szv,e]/\av .i64 ah w gz szv f.sizes/\ru w g e f.k f.sizes L/\L.map dX=fv f/\B<=a/\(∀r,leads szv r->B<=r)/\∀x∈L,∀r,leads x.sv r->B<=r
def OB{g bn:Nat}{L:List cv}{q:Λ}(h:fd w g v L)(B:ag w bn an [sv])(U:aI .i64 w sv q):
  am x7 z8 [v,.func (.func Aa) #[] #[Γ bn]] w λr w'=>Ext w w'/\((r=Δ (-1)/\∀x∈L,x.sc≠q)\/∃i:Nat,r=Δ (i:Int)/\∃x,L[i]?=σ x/\x.sc=q):=by
 apply az func193;rw[eF gB.u h.1];refine bT.range L.length (λi _ V=>Ext w V/\∀x∈L.take i,x.sc≠q) h.1.le ⟨Ext.refl _,λc a=>by simp at a⟩ ?_ ?_
 .rintro i _ V k hi ⟨J,s⟩ hk;apply bz Ω;have⟨x,y⟩:=aH (l:=L) hi;rw[tV T (h.ext J) y];show am x7 Aa [ke x,Γ bn] V _;have⟨⟨E,hm⟩,_⟩:=(h.ext J).at y;apply az func194;refine bd λao aa G f z=>?_;have z:ag aa ao cW [x.sv,Γ x.g]:=by
   have⟨_,_,_,e⟩:=da hm.ls;simp only[ke,eG,e]at z ⊢;exact z
  rw[aL cW.p 0 z T,ax Ψ ((B.ext (J.trans f)).Qz T)];apply(Kh (hm.ls.ext f) (U.ext (J.trans f))).mono;rintro _ H _ ⟨rfl,A⟩;rw[al];refine⟨λhe=>⟨(J.trans f).trans A,.inr ⟨i,T,x,y,he⟩⟩,λC=>?_⟩;rw[aN];refine hk _ _ ⟨(J.trans f).trans A,λc a=>?_⟩;rw[u9,y]at a;rcases o5.1 a with a|a
  .exact s c a
  .simp at a;subst a;exact C
 .rintro _ V k ⟨J,s⟩;rw[o6]at s;rw[aP,al];exact⟨λh=>Ω,λ_=>⟨J,.inl ⟨T,s⟩⟩⟩
def eP(f:b3)(i:Nat):List cL:=((f.funs.take i).map (ic f.sizes f.k)).foldl (iE f.k) []
def Dq{f:b3}(ae:e8 N f)(i:Nat):(∀g∈eP f i,fW f.sizes f.k g)/\jc (eP f i)/\(eP f i).length<=i:=by
 have:=wU (sizes:=f.sizes) (k:=f.k) (by have:=ae.k.1;omega) (l:=(f.funs.take i).map (ic f.sizes f.k)) (acc:=[]) (λh aB=>by cases aB) List.nodup_nil λg e=>by
  obtain⟨x,J,rfl⟩:=j5.1 e;exact pS ae (T9 J)
 refine⟨this.1,this.2.1,?_⟩;have a:=this.2.2;rw[List.length_nil,r8,X2,l9]at a;exact Y9 a (Nat.min_le_left _ _)
def w9{f:b3}{i:Nat}{x:cn}(h:f.funs[i]?=σ x):eP f (i+1)=iE f.k (eP f i) (ic f.sizes f.k x):=by
 unfold eP;rw[u9,h,n9,Z4,S6];rfl
def Dr(f:b3):eP f f.funs.length=fj f:=by unfold eP fj;rw[o6]
def xa{L:List cv}{i:Nat}{x:cv}{D:List cL}(h:L.map dX=D)(J:L[i]?=σ x):dX x∈D:=by rw[<-h];exact j5.2 ⟨x,x5 J,T⟩
def OC(w:x3)(f:b3)(v:x1)(w':x3):Prop:=Ext w w'/\((¬jd f.funs<=16384/\∃e:Int,e≠0/\v= .tuple #[.pointer ν,Δ e])\/∃a,v= .tuple #[Γ a,Δ 0]/\OA w' w.heap.size a f)
def uc{g a:Nat}{sc cs:Λ}(hm:av .i64 ah w g sv sc):∀u∈eG ⟨sv,a,sc,cs⟩,u.oneCell'=true:=λu hu=>by
 simp[eG]at hu;rcases hu with rfl|rfl
 .exact hm.ls.cells.2
 .rfl
theorem OD{bN:Nat}{f:b3}(bP:lC w bN f)(E:e8 N f)(bQ:N<=60000)(c1:f.name≠[]/\∀b∈f.name,bO b=true):
  am x7 H4 [Γ bN] w (OC w f):=by
 have hk:=E.k;refine az func120 ?_;refine(NW bP E bQ c1).mono ?_;rintro _ V _ ⟨aI,e,rfl,he⟩;rw[bB,al];refine⟨λbU=>⟨aI,.inl ⟨λh=>bU (he h),e,bU,T⟩⟩,λep=>?_⟩;have bV:=bP.ext aI;obtain⟨szv,aJ,gz,bb,bW,c2,bc,aK⟩:=id bV;have er:bb.length<=256:=by rw[aK.1];exact E.lr
 rw[aT cE.p 3 bW T,hL dM.u bc];refine bT.range bb.length (λi l aa=>∃g L,Ext V aa/\fd aa g l L/\Sem aa f.k f.sizes L/\L.map dX=eP f i/\(∀r,leadsTo l r->V.heap.size<=r)/\∀x∈L,∀r,leads x.sv r->V.heap.size<=r) (qK bc)
  ⟨0,[],Ext.refl _,⟨bk.nil _ _ _ _ _,λx J=>(by cases J)⟩,λx J=>(by cases J),T,λr A=>(e9 A).elim,λx J=>(by cases J)⟩ ?_ ?_
 .rintro i l aa c3 hi ⟨g,L,W,ay,aM,G,O,aB⟩ c4;obtain⟨d,bY⟩:=aH (l:=bb) hi;obtain⟨x,aO⟩:∃x,f.funs[i]?=σ x:=⟨_,x6 (by have:=aK.1;omega)⟩;have b0:=x5 aO;have c5:=aK.2 i x d aO bY;have X:=pS E b0;obtain⟨c6,c8,es⟩:=Dq E i;have c9:L.length<=i:=by have b1:=congrArg S5 G;rw[r8]at b1;omega
  refine bz Ω ?_;refine aV (λl' aP=>∃P Y,Ext V aP/\fd aP P l' Y/\Sem aP f.k f.sizes Y/\Y.map dX=eP f (i+1)/\(∀r,leadsTo l' r->V.heap.size<=r)/\∀x∈Y,∀r,leads x.sv r->V.heap.size<=r) ?_ ?_
  .rintro l' aP ⟨P,Y,h1,db,dc,dd,de⟩;rw[aN];exact c4 _ _ ⟨P,Y,h1,db,dc,dd,de⟩
  intro aA b2;refine ll (α:=hq) cF.p T dM.u cF.i (bA bc W) bY λcs be=>?_;have b5:cs.length=2:=au.len be;refine bu cF.i λao et eu df dg=>?_;refine cd (vs:=cs) cF.i b5 T (au.one be) dg λdh di ev dj=>?_;have I:Ext aa dh:=df.put di Ω;rw[bR cF.p cF.i b5 dj.range];refine(N6 E bQ b0 c5 (bA be I)).mono ?_;rintro _ dl _ ⟨dm,sv,gs,b6,dn,dp,rfl,ew,Z,b7⟩;rw[bo,bp];refine bu an.i λbn ey ez dq dr=>?_;refine bq an.i Z.ls.cells.1 Z.ls.cells.2 dr (by simp[x1.cells]) λb8 ds eA aR=>?_;have bf:Ext dl b8:=dq.put ds Ω;have aR:ag b8 bn an [sv]:=aR;rw[iy];have bg:=(I.trans dm).trans bf;have eB:=bg.size;have eC:=W.size;refine(OB (ay.ext bg) aR (Z.ls.ext bf)).mono ?_;rintro _ eD _ ⟨aS,A⟩;have aW:=bg.trans aS;have ca:=bf.trans aS;have bh:=Z.ext ca;have cc:=b7.ext ca;have ce:=aR.ext aS;have cg:=ay.ext aW;have bi:=aM.ext aW;rcases A with⟨rfl,dt⟩|⟨ci,rfl,y,B,aX⟩
  .refine bz Ω ?_;rw[ax Ψ (ce.Qz T),cY (cs:=#[sv,Γ b6]) (by obtain⟨_,_,_,rfl⟩:=da Z.ls;kernel_rfl)];let a:cv:=⟨sv,b6,br x.scope,(ic f.sizes f.k x).2⟩;have bj:∀u∈eG a,u.oneCell'=true:=uc bh;refine hU (f:=eG) (a:=a) gB.u cW.i Ω T rfl λeE eH du eI ac dv=>?_;have ae:=cg.ext ac;refine iG (f:=eG) (a:=a) gB.u cW.i T ae.1 (by simpa using dv.sl) bj Ω Ω λaC P eJ aD bl aE=>?_;have cj:=bh.ext ac;have aY:∀{r:Nat},leadsTo l r->∃c,ag du r cW c:=λA=>by
    obtain⟨rfl,c,C⟩:=dW ae.1 A;exact⟨c,C⟩
   refine b2 _ _ ⟨P,L++[a],((W.trans aW).trans ac).then aE (λr A he=>by have:=O r he;omega),fd.mk aD λz s=>?_,λz s=>?_,?_,λr A=>?_,λz s r A=>?_⟩
   .rcases o5.1 s with s|s
    .have:=(ae.2 z s).ab aE λr A he=>(ae.2 z s).2.1 r A (ae.1.leads he).1;exact⟨this.1,this.2.2⟩
    .rw[o9.1 s];exact⟨⟨gs,bw cj aE λr A he=>by obtain⟨c,C⟩:=aY he;exact ch cj C Φ A T⟩,X.scope⟩
   .rcases o5.1 s with s|s
    .exact (bi.ext ac).row ae aE z s
    .rw[o9.1 s];exact⟨dn,dp,w3 (cc.ext ac) aE λr A=>aY A⟩
   .rw[Z4,G,w9 aO,Dp]
    .rfl
    .intro c H dx;rw[<-G]at H;obtain⟨z,s,rfl⟩:=j5.1 H;exact dt z s dx
   .rcases bl r A with h|h
    .exact O r h
    .have:=ac.size;have:=aS.size;omega
   .rcases o5.1 s with s|s
    .exact aB z s r A
    .rw[o9.1 s]at A;have b1:=(bS Z A).1;have:=I.size;omega
  .refine b4 Ω ?_;intro eK Q _ _;have bm:=cg.ext Q;have ck:=(x4.1 B).1;obtain⟨dy,dz,aZ⟩:=(bi.ext Q) y (x5 B);have cl:=ce.ext Q;have cm:=bh.ext Q;have dA:=cc.ext Q;rw[dw T gB.u cW.i bm.1 ck,aU cW.p T,ax Ψ (bm.1.range B 1 _ T),ax Ψ (cl.Qz T),ax Ψ (cl.Qz T)];have af:fW f.sizes f.k (dX y):=c6 _ (xa G B);rw[aX]at aZ;have cn:∀{c:Int},0<=c/\c<=f.k->cu c f.k:=λh=>⟨hk,h.1,h.2⟩;refine(Oh aZ dA cm.ls cm.ls hk (λc H=>cn (af.ih c H)) (λc H=>cn (X.ih c H))).mono ?_;intro eL cq _ dC;have dD:y.cs.length=(aQ (bX f.sizes (br x.scope))).toNat:=by have:=af.len;rw[show(dX y).1=y.sc from T,aX]at this;exact this
   have dE:cb (bX f.sizes (br x.scope)):=b7.2.2.1;obtain⟨bt,cr,ct,cw,eM,rfl,dF⟩:=On X.up (λv ad=>(X.scope.1 v ad).1) (by simp[bX];rfl) dE X.small dD X.len dC;rw[fR,fS,fT];have R:=bm.ext bt;rw[dw T gB.u cW.i R.1 ck,aU cW.p T];let a:cv:=⟨y.sv,cr,y.sc,ea f.k y.cs (ic f.sizes f.k x).2⟩;refine pM (f:=eG) (j:=1) (a:=y) (a':=a) eV.i T rfl R.1 B T Ω λdG a1 eN dH=>?_;have aY:∀{r:Nat},leadsTo l r->∃c,ag cq r cW c:=λA=>by
    obtain⟨rfl,c,C⟩:=dW R.1 A;exact⟨c,C⟩
   refine b2 _ _ ⟨g,L.set ci a,((W.trans aW).trans (Q.trans bt)).then a1 (λr A he=>by have:=O r he;omega),fd.mk dH λz s=>?_,λz s=>?_,?_,O,λz s=>?_⟩
   .have cz:∀z∈L,(∃bx,av .i64 ah dG bx z.sv z.sc)/\jI z.sc:=λz s=>by
     have:=(R.2 z s).ab a1 λr A he=>(R.2 z s).2.1 r A (R.1.leads he).1;exact⟨this.1,this.2.2⟩
    rcases W0 s with s|rfl
    .exact cz z s
    .exact cz y (x5 B)
   .rcases W0 s with s|rfl
    .exact ((bi.ext Q).ext bt).row R a1 z s
    .refine⟨ct,cw,w3 ?_ a1 λr A=>aY A⟩;show dk cq cr ct cw (bX f.sizes y.sc) f.k _;rw[aX];exact dF
   .rw[U5,G,w9 aO,Oy (g:=ic f.sizes f.k x) c8 (i:=ci) (h:=dX y) (by rw[<-G,x8,B];rfl) aX];rfl
   .rcases W0 s with s|rfl
    .exact aB z s
    .exact aB y (x5 B)
 .rintro l aa c3 ⟨g,L,W,ay,aM,G,O,aB⟩;refine b4 Ω ?_;rw[aK.1,Dr]at G;have c9:L.length<=256:=by
   have:=(kQ E).2.2;rw[<-G,r8]at this;have:=E.lr;omega
  refine(Ob ay aM Ω).mono ?_;rintro eO cA _ ⟨cB,cC,dI⟩;have dJ:Ext V cA:=W.then cB λr A he=>by have:=O r he;omega
  have dK:Sem cA f.k f.sizes (L.filter gn):=λz s=>(aM.row ay cB) z (T4.1 s).1;have eQ:(L.filter gn).length<=L.length:=R5 _ _;refine(N3 cC Ω).mono ?_;rintro _ cD _ ⟨cG,M,a2,dL,cH⟩;have dN:Ext V cD:=dJ.then cG λr A he=>by have:=O r (dI r he);omega
  have cI:Sem cD f.k f.sizes M:=λz s=>(dK.row cC cG) z (a2.mem_iff.1 s);have eR:M.length<=256:=by rw[a2.length_eq];omega
  have dO:∀x∈M,∀r,leads x.sv r->V.heap.size<=r:=λx J=>aB x (T4.1 (a2.mem_iff.1 J)).1;have cJ:M.map dX=fv f:=by
   refine M2 E ?_ ?_
   .refine (a2.map dX).trans ?_;rw[<-G,List.filter_map];exact .refl _
   .rw[List.pairwise_map];refine V8.2 λp q dP cK dQ=>?_;exact dL p q _ _ (X5 _) dQ cK (x6 dP) (x6 cK)
  intro eS a6 _ _;have aj:=dN.trans a6;have eU:=bV.ext aj;have bC:=bW.ext aj;rw[aT cE.p 0 bC T,aT cE.p 1 bC T,aT cE.p 2 bC T];refine(kH (c2.ls.ext aj) (by have:=E.sizes.2.1;omega)).mono ?_;rintro aF cL _ ⟨S,dR,eW,bD⟩;refine⟨.inl S,?_⟩;rw[cY (cs:=#[bL f.name,Δ f.k,aF,.slice ν 0 0]) (by obtain⟨_,_,_,rfl⟩:=da bD.ls;kernel_rfl)];refine bd λU dS eX a7 bE=>?_;have bE:ag dS U cE [bL f.name,Δ f.k,aF,.slice ν 0 0]:=bE;have eY:=(aj.trans S).trans a7;have dT:=((cH.ext a6).ext S).ext a7;have eZ:=((cI.ext a6).ext S).ext a7;rw[eF gB.u dT.1];refine cp.range M.length (λi ak=>∃aJ gr K,Ext cL ak/\ag ak U cE [bL f.name,Δ f.k,aF,aJ]/\ru ak gr aJ f.k f.sizes K/\K.map dX=(M.take i).map dX/\K.length=i/\(∀r,leadsTo aJ r->cL.heap.size<=r)/\∀x∈K,∀r,leads x.sv r->V.heap.size<=r) Ω
   ⟨_,0,[],a7,bE,⟨bk.nil _ _ _ _ _,λx J=>(by cases J)⟩,T,T,λr A=>(e9 A).elim,λx J=>(by cases J)⟩ ?_ ?_
  rotate_left
  .rintro ak dU ⟨aG,gr,K,ap,aq,bF,a8,_,_,bG⟩;rw[o6,cJ]at a8;refine b4 Ω ?_;have e0:=aI.size;have e1:=aj.size;have e2:=S.size;exact⟨(aI.trans (aj.trans S)).trans ap,.inr ⟨U,T,aF,aG,dR,gr,K,aq,bD.ext ap,bF,a8,Ω,λr A=>by have:=(bS bD A).1;omega,λx J r A=>by have:=bG x J r A;omega⟩⟩
  rintro i ak dU hi ⟨aG,gr,K,ap,aq,bF,a8,dV,cM,bG⟩ dY;obtain⟨y,B⟩:=aH (l:=M) hi;have cN:=(a6.trans S).trans ap;have cO:=cH.ext cN;have cP:=cO.at B;obtain⟨dy,dz,aZ⟩:=(cI.ext cN) y (x5 B);have af:fW f.sizes f.k (dX y):=tJ E _ (xa cJ B);refine bz Ω ?_;rw[tV T cO B];refine bu cW.i λgy e3 e4 dZ eb=>?_;refine cd (vs:=eG y) cW.i T rfl cP.one eb λec ed e5 ee=>?_;have ef:Ext ak ec:=dZ.put ed Ω;intro e6 cQ _ _;have bH:=ef.trans cQ;have cR:=ee.ext cQ;have eg:=aq.ext bH;rw[aT cE.p 3 eg T,aL cW.p 0 cR T,aL cW.p 1 cR T];refine(Ox (aZ.ext bH) λc H=>⟨hk,(af.ih c H).1,(af.ih c H).2⟩).mono ?_;rintro _ e7 _ ⟨bI,gT,m,o,D,rfl,eh,ei,ej,_⟩;refine⟨.inl bI,?_⟩;have cS:=bH.trans bI;obtain⟨⟨bx,cT⟩,_,fa⟩:=cP;have cU:=cT.ext cS;rw[cY (cs:=#[y.sv,Γ gT]) (by obtain⟨_,_,_,e⟩:=da cT.ls;rw[e];kernel_rfl)];let a:cv:=⟨y.sv,gT,y.sc,y.cs⟩;have bj:∀u∈eG a,u.oneCell'=true:=uc cU;refine hU (f:=eG) (a:=a) dM.u cF.i Ω T rfl λv25 fb bJ fc I ek=>?_;refine⟨.inl (bI.trans I),?_⟩;have aw:=cS.trans I;have ba:=bF.ext aw;refine iG (f:=eG) (a:=a) dM.u cF.i T ba.1 (by simpa using ek.sl) bj Ω Ω λaC P em aD bl cV=>?_;have fe:=ap.size;have ff:=aw.size;have bK:ag em U cE [bL f.name,Δ f.k,aF,aG]:=(aq.ext aw).ab cV λhe=>by
   obtain⟨rfl,c,C⟩:=dW ba.1 he;have h1:=aq.ext aw;unfold ag at C h1;rw[h1]at C;exact absurd (Obj.cells.inj (b9 C)).2.1 Φ
  rw[bZ,aU cE.p T];have cX:aC.cells= #[aC]/\aC.oneCell'=true:=by
   obtain⟨_,_,_,_,_,rfl,_⟩:=aD.sl;exact⟨T,T⟩
  refine bq dM.i cX.1 cX.2 bK Ξ λen cZ fg eo=>?_;rw[aN];have bM:ai (λr=>r=U\/leadsTo aG r) bJ en:=(cV.mono λr _ h=>.inr h).trans (cZ.mono λr _ h=>.inl h);have c0:∀r,(r=U\/leadsTo aG r)->∃e c,ag bJ r e c/\e≠fO/\e≠ah:=λr A=>by
   rcases A with rfl|A
   .exact⟨_,_,aq.ext aw,Φ,Φ⟩
   .obtain⟨rfl,c,C⟩:=dW ba.1 A;exact⟨_,c,C,Φ,Φ⟩
  refine dY _ ⟨aC,P,K++[a],?_,eo,⟨aD.ab cZ λr A he=>?_,λz s=>?_⟩,?_,by rw[r9,dV];rfl,λr A=>?_,λz s=>?_⟩
  .exact (ap.trans aw).then bM λr A he=>by
    rcases he with rfl|he
    .omega
    .have:=cM r he;omega
  .have he:r=U:=he;subst he;obtain⟨rfl,c,C⟩:=dW aD A;unfold ag at C bK;rw[bK]at C;exact absurd (Obj.cells.inj (b9 C)).2.1 Φ
  .rcases o5.1 s with s|s
   .exact (ba.2 z s).ab bM c0
   .rw[o9.1 s];refine nj.ab (w:=bJ) ⟨⟨bx,cU.ext I⟩,m,o,D,eh.ext I,?_,ej⟩ bM c0;have:=af.small;exact Y9 ei (by show(aQ (bX f.sizes (dX y).1)).toNat<=4096;omega)
  .rw[Z4,a8,u9,B,Z4];rfl
  .rcases bl r A with h|h
   .exact cM r h
   .omega
  .rcases o5.1 s with s|s
   .exact bG z s
   .rw[o9.1 s];exact dO y (x5 B)
def eQ{a:p9}{c f:List x1}(h:ag w r e c)(h':ag w r a f):e=a:=by
 unfold ag at h h';rw[h]at h';exact(Obj.cells.inj (b9 h')).2.1
def cP{α:Type}{f:α->List x1}{k:Nat}{a:p9}{g p:Nat}{L:List α}(h:bk f k e w g v L)(q:ag w p a cs)(r:e≠a):¬leadsTo v p:=λs=>by
 obtain⟨rfl,c,x⟩:=dW h s;exact r (eQ x q)
structure lD where
 v:x1
 l:Λ
def ox(h:lD):List x1:=[h.v]
def hW(w:x3)(g:Nat)(v:x1)(aY:List lD):Prop:=bk ox 1 ay w g v aY/\∀h∈aY,∃a,av .i64 aq w a h.v h.l
def hW.ext{g:Nat}{aY:List lD}(h:hW w g v aY)(J:Ext w w'):hW w' g v aY:=⟨h.1.ext J,λx a=>by
 have⟨e,hm⟩:=h.2 x a;exact⟨e,hm.ext J⟩⟩
def hW.rv{g:Nat}{aY:List lD}(h:hW w g v aY)(f:ai S w w')(p:∀r,S r->∃e c,ag w r e c/\e≠aq):∀h∈aY,∃a,av .i64 aq w' a h.v h.l:=λx q=>by
 have⟨a,hm⟩:=h.2 x q;exact⟨a,bw hm f λr s U=>by
  have⟨e,c,y,z⟩:=p r U;exact ch hm y (λhe=>z he.symm) s T⟩
def hW.ab{g:Nat}{aY:List lD}(h:hW w g v aY)(q:ai S w w')(s:∀r,S r->∃e c,ag w r e c/\e≠aq/\e≠ay):hW w' g v aY:=
 ⟨h.1.ab q λr a U=>by
  have⟨e,c,f,_,p⟩:=s r U;exact cP h.1 f (λhe=>p he.symm) a,h.rv q λr a=>by
  have⟨e,c,f,p,_⟩:=s r a;exact⟨e,c,f,p⟩⟩
def oy(w:x3)(k:Int)(sizes:Λ)(x:cv):Prop:=(∃a,av .i64 ah w a x.sv x.sc)/\∃e f,dk w x.g e f (bX sizes x.sc) k x.cs
def oy.ext{x:cv}(h:oy w k sizes x)(J:Ext w w'):oy w' k sizes x:=by
 have⟨⟨a,h1⟩,e,f,p⟩:=h;exact⟨⟨a,h1.ext J⟩,e,f,p.ext J⟩
def Ds{g x:Nat}{y:x1}{cs:Λ}(h:dk w g x y aj k cs)(p:ai S w w')(q:∀r,S r->∃e c,ag w r e c/\e≠cX/\e≠ah/\e≠aq):dk w' g x y aj k cs:=by
 have⟨⟨a7,gs,h1,z,A⟩,B⟩:=h;refine⟨⟨a7,gs,h1.ab p λU=>?_,bw z p λr s U=>?_,bw A p λr s U=>?_⟩,B⟩
 .obtain⟨e,c,a,f,_⟩:=q g U;exact f (eQ a h1)
 .obtain⟨e,c,a,_,f,_⟩:=q r U;exact ch z a (λhe=>f he.symm) s T
 .obtain⟨e,c,a,_,_,f⟩:=q r U;exact ch A a (λhe=>f he.symm) s T
def oy.ab{x:cv}(h:oy w k sizes x)(a:ai S w w')(f:∀r,S r->∃e c,ag w r e c/\e≠cX/\e≠ah/\e≠aq):oy w' k sizes x:=by
 have⟨⟨p,h1⟩,q,s,y⟩:=h;refine⟨⟨p,bw h1 a λr z U=>?_⟩,q,s,Ds y a f⟩;have⟨e,c,A,_,B,_⟩:=f r U;exact ch h1 A (λhe=>B he.symm) z T
def oz(w:x3)(g:Nat)(v:x1)(k:Int)(sizes:Λ)(L:List cv):Prop:=bk eG 2 hF w g v L/\∀x∈L,oy w k sizes x
def oz.ext{g:Nat}{L:List cv}(h:oz w g v k sizes L)(J:Ext w w'):oz w' g v k sizes L:=⟨h.1.ext J,λx a=>(h.2 x a).ext J⟩
def oz.ab{g:Nat}{L:List cv}(h:oz w g v k sizes L)(q:ai S w w')(s:∀r,S r->∃e c,ag w r e c/\e≠hF/\e≠cX/\e≠ah/\e≠aq):oz w' g v k sizes L:=
 ⟨h.1.ab q λr a U=>by
  have⟨e,c,f,p,_⟩:=s r U;exact cP h.1 f (λhe=>p he.symm) a,λx J=>(h.2 x J).ab q λr a=>by
  have⟨e,c,f,_,p⟩:=s r a;exact⟨e,c,f,p⟩⟩
def gp(w:x3)(h:Nat)(n:aG):Prop:=∃a e f p gr aY L nm szv gz fv2,ag w h fN [Γ a,Δ n.zero,e,f]/\ag w a cE [nm,Δ n.k,szv,fv2]/\av .i64 ah w gz szv n.sizes/\
 hW w p e aY/\aY.map (·.l)=n.unary/\oz w gr f n.k n.sizes L/\L.map dX=n.funs
def gp.ext{a:Nat}{n:aG}(h:gp w a n)(J:Ext w w'):gp w' a n:=by
 have⟨e,f,p,q,gr,aY,L,nm,szv,gz,fv2,h1,r,s,x,y,z,A⟩:=h;exact⟨e,f,p,q,gr,aY,L,nm,szv,gz,fv2,h1.ext J,r.ext J,s.ext J,x.ext J,y,z.ext J,A⟩
def rx(w:x3)(B:Nat)(k:Int)(sizes:Λ)(x:cv):Prop:=(∃f,av .i64 ah w f x.sv x.sc)/\(∃a e,dk w x.g a e (bX sizes x.sc) k x.cs/\B<=a/\∀r,leads e r->B<=r)/\B<=x.g/\∀r,leads x.sv r->B<=r
def rx.ab{x:cv}(h:rx w B k sizes x)(a:ai S w w')(f:∀r,S r->∃e c,ag w r e c/\e≠cX/\e≠ah/\e≠aq):rx w' B k sizes x:=by
 have⟨⟨p,h1⟩,⟨q,s,y,z⟩,A⟩:=h;refine⟨⟨p,bw h1 a λr C U=>?_⟩,⟨q,s,Ds y a f,z⟩,A⟩;have⟨e,c,E,_,F,_⟩:=f r U;exact ch h1 E (λhe=>F he.symm) C T
def mu(w:x3)(B g:Nat)(v:x1)(k:Int)(sizes:Λ)(L:List cv):Prop:=bk eG 2 hF w g v L/\∀x∈L,rx w B k sizes x
def mu.ext{g:Nat}{L:List cv}(h:mu w B g v k sizes L)(J:Ext w w'):mu w' B g v k sizes L:=⟨h.1.ext J,λx a=>(h.2 x a).ab (J.ab λ_=>False) λ_ h=>h.elim⟩
def mu.ab{g:Nat}{L:List cv}(h:mu w B g v k sizes L)(q:ai S w w')(s:∀r,S r->∃e c,ag w r e c/\e≠hF/\e≠cX/\e≠ah/\e≠aq):mu w' B g v k sizes L:=
 ⟨h.1.ab q λr a U=>by
  have⟨e,c,f,p,_⟩:=s r U;exact cP h.1 f (λhe=>p he.symm) a,λx J=>(h.2 x J).ab q λr a=>by
  have⟨e,c,f,_,p⟩:=s r a;exact⟨e,c,f,p⟩⟩
def Dt:∃o:Obj,fH o=false:=⟨.deferred ν,T⟩
def ghost(w:x3)(B:Nat):∃w0,Ext w0 w/\ai (λr=>r<B) w w0/\∀r o,w0.heap[r]?=σ o->fH o=true->B<=r:=by
 have⟨cw,f⟩:=Dt;have e:∀r,(w.heap.mapIdx λr o=>if r<B then cw else o)[r]?=(w.heap[r]?).map λo=>if r<B then cw else o:=λr=>Ξ
 refine⟨{w with heap:=w.heap.mapIdx λr o=>if r<B then cw else o},⟨Ξ,λr o a U=>?_⟩,⟨Ξ,λr o a U p=>?_⟩,λr o a U=>?_⟩
 .have a:(w.heap.mapIdx λr o=>if r<B then cw else o)[r]?=σ o:=a;rw[e]at a;cases h:w.heap[r]? with
  |none=>rw[h]at a;cases a
  |some o'=>
   rw[h]at a;simp only[Z6,Y3]at a;split at a
   .subst a;rw[f]at U;cases U
   .rw[a]
 .show (w.heap.mapIdx λr o=>if r<B then cw else o)[r]?=σ o;rw[e,a,Z6,if_neg p]
 .have a:(w.heap.mapIdx λr o=>if r<B then cw else o)[r]?=σ o:=a;rw[e]at a;cases h:w.heap[r]? with
  |none=>rw[h]at a;cases a
  |some o'=>
   rw[h]at a;simp only[Z6,Y3]at a;split at a
   .subst a;rw[f]at U;cases U
   .omega
def Du(B:Nat)(w:x3)(a:Nat)(n:aG):Prop:=∃w0,gp w0 a n/\Ext w0 w/\∀r o,w0.heap[r]?=σ o->fH o=true->B<=r
def OE{z p C gr gz:Nat}{n:aG}{q s nm szv fv2:x1}{aY:List lD}{L:List cv}(h1:ag w z fN [Γ p,Δ n.zero,q,s])(E:ag w p cE [nm,Δ n.k,szv,fv2])(I:av .i64 ah w gz szv n.sizes)(F:hW w C q aY)(K:aY.map (·.l)=n.unary)(G:mu w B gr s n.k n.sizes L)(M:L.map dX=n.funs)(N:B<=z)(O:B<=p)(P:∀r,leads szv r->B<=r)(H:∀r,leadsTo q r\/leadsTo s r->B<=r)(Q:∀h∈aY,∀r,leads h.v r->B<=r):Du B w z n:=by
 have⟨w0,J,a,R⟩:=ghost w B;have no:∀{r:Nat},B<=r->¬r<B:=λh E=>Ω
 have y:∀{e:p9}{g:Nat}{v:x1}{l:Λ},av .i64 e w g v l->(∀r,leads v r->B<=r)->av .i64 e w0 g v l:=λh S=>bw h a λr f=>no (S r f);refine⟨w0,⟨p,q,s,C,gr,aY,L,nm,szv,gz,fv2,h1.ab a (no N),E.ab a (no O),y I P,⟨F.1.ab a λr f=>no (H r (.inl f)),λh aB=>?_⟩,K,⟨G.1.ab a λr f=>no (H r (.inr f)),λx J=>?_⟩,M⟩,J,R⟩
 .obtain⟨A,hm⟩:=F.2 h aB;exact⟨A,y hm (Q h aB)⟩
 .obtain⟨⟨A,U⟩,⟨V,W,⟨⟨a7,gs,X,Y,t3⟩,t4⟩,ad,Z⟩,aa,ac⟩:=G.2 x J;exact⟨⟨A,y U ac⟩,V,W,⟨a7,gs,X.ab a (no aa),y Y Z,bw t3 a λr f=>no (by have:=(bS t3 f).1;omega)⟩,t4⟩
def jf(n:aG)(g:cL):aG:=match g.1 with
 |[]=>{n with zero:=g.2.getD 0 0}
 |[v]=>{n with unary:=n.unary.set v.toNat g.2}
 |_=>{n with funs:=n.funs++[g]}
def Dv(f:b3):aG:=⟨f.k,f.sizes,0,f.sizes.map λz=>p8 z.toNat 0,[]⟩
def OF(f:b3):cS f=(fv f).foldl jf (Dv f):=rfl
def dK(f:b3)(i:Nat):aG:=((fv f).take i).foldl jf (Dv f)
def xb{f:b3}{i:Nat}{g:cL}(h:(fv f)[i]?=σ g):dK f (i+1)=jf (dK f i) g:=Oz h
def ry(f:b3):dK f (fv f).length=cS f:=by unfold dK;rw[o6,OF]
def OG(n:aG)(g:cL):(jf n g).k=n.k/\(jf n g).sizes=n.sizes/\(jf n g).unary.length=n.unary.length/\(jf n g).funs.length<=n.funs.length+1:=by
 unfold jf;split
 .exact⟨T,T,T,Nat.le_succ _⟩
 .exact⟨T,T,Ξ,Nat.le_succ _⟩
 .exact⟨T,T,T,Ξ⟩
theorem oA(f:b3):∀i,(dK f i).k=f.k/\(dK f i).sizes=f.sizes/\(dK f i).unary.length=f.sizes.length/\(dK f i).funs.length<=i
 |0=>⟨T,T,by show(f.sizes.map _).length=_;simp,X5 _⟩
 |i+1=>by
  have a:=oA f i;cases h:(fv f)[i]? with
  |none=>
   have p:=List.getElem?_eq_none_iff.1 h;have e:dK f (i+1)=dK f i:=by unfold dK;rw[b8 Ω,b8 p]
   rw[e];exact⟨a.1,a.2.1,a.2.2.1,Ω⟩
  |some g=>
   rw[xb h];have⟨h1,q,r,s⟩:=OG (dK f i) g;exact⟨h1.trans a.1,q.trans a.2.1,r.trans a.2.2.1,Ω⟩
def OH(w:x3)(f:b3)(v:x1)(w':x3):Prop:=Ext w w'/\((¬jd f.funs<=16384/\∃e:Int,e≠0/\v= .tuple #[.pointer ν,Δ e])\/∃a,v= .tuple #[Γ a,Δ 0]/\Du w.heap.size w' a (cS f))
def eR{k:Nat}(h:ck w k v n cs):v.cells= #[v]/\v.oneCell'=true:=by
 obtain⟨_,_,_,_,_,rfl,_⟩:=h;exact⟨T,T⟩
theorem OI{bY:Nat}{f:b3}(ct:lC w bY f)(R:e8 N f)(cu:N<=60000)(cw:f.name≠[]/\∀b∈f.name,bO b=true):
  am x7 Hr [Γ bY] w (OH w f):=by
 have hk:=R.k;refine az func57 ?_;refine(OD ct R cu cw).mono ?_;rintro _ V _ ⟨aC,⟨cz,e,he,rfl⟩|⟨aD,rfl,cA⟩⟩
 .rw[bo,bp,bB,al];exact⟨λ_=>⟨aC,.inl ⟨cz,e,he,T⟩⟩,λh=>absurd he h⟩
 rw[bo,bp,bB,al];refine⟨λh=>absurd T h,λ_=>?_⟩;obtain⟨szv,cB,gz,dx,M,bg,bh,b0,aR,cC,cD,cG⟩:=id cA;have dy:M.length<=256:=by
  have h1:=(pT R).2.length_eq;have ap:=(kQ R).2.2;have au:=R5 fu (fj f);have aS:=R.lr;have dz:M.length=(fv f).length:=by rw[<-aR,r8]
  omega
 have dA:=R.sizes.2.1;rw[cY (cs:=#[Γ aD,Δ 0,.slice ν 0 0,.slice ν 0 0]) Ψ];refine bd λG aa dC bi bj=>?_;have bj:ag aa G fN [Γ aD,Δ 0,.slice ν 0 0,.slice ν 0 0]:=bj;rw[aT cE.p 2 (bg.ext bi) T,aW an.u (bh.ls.ext bi)];refine cp.range f.sizes.length (λi aE=>∃s H aY,Ext V aE/\ag aE G fN [Γ aD,Δ 0,s,.slice ν 0 0]/\hW aE H s aY/\aY.map (·.l)=(f.sizes.take i).map (λz=>p8 z.toNat 0)/\(∀r,leadsTo s r->V.heap.size<=r)/\∀h∈aY,∀r,leads h.v r->V.heap.size<=r) Ω
  ⟨_,0,[],bi,bj,⟨bk.nil _ _ _ _ _,λx J=>(by cases J)⟩,T,λr q=>(e9 q).elim,λx J=>(by cases J)⟩ ?_ ?_
 .rintro i aE cH hi ⟨s,H,aY,ac,aV,bl,aF,aX,K⟩ cI;obtain⟨z,B⟩:=aH (l:=f.sizes) hi;have dD:=R.sizes.2.2 z (x5 B);have dE:aY.length=i:=by have:=congrArg S5 aF;simp only[r8,l9]at this;omega
  refine bz Ω ?_;rw[bc an.u ah.i Ψ (bh.ls.ext ac) B];intro dF bm _ _;have cJ:=aV.ext bm;rw[aT fN.p 2 cJ T];obtain⟨ad,rfl⟩:∃n:Nat,z=n:=⟨z.toNat,Ω⟩;refine j0 (k:=.i64) ay.u aq.i Ω Ω λaZ cK dG bn cL=>?_;refine⟨.inl bn,?_⟩;have b2:av .i64 aq cK aZ (.slice (σ ⟨aZ,0,ν⟩) ad ad) (p8 ad 0):=av.of (b1.full (k:=1) (n:=ad) cL Ξ (by simp[maxLen];omega));let a:lD:=⟨.slice (σ ⟨aZ,0,ν⟩) ad ad,p8 ad 0⟩;refine hU (f:=ox) (a:=a) dZ.u ay.i Ω T rfl λdH dI br dJ bt cM=>?_;refine⟨.inl (bn.trans bt),?_⟩;have a1:=(bm.trans bn).trans bt;have a2:=bl.ext a1;refine iG (f:=ox) (a:=a) dZ.u ay.i T a2.1 (by simpa using cM.sl) (λu hu=>by rw[o9.1 (show u∈[a.v]from hu)];rfl) Ω Ω λbx bA dL O bC b5=>?_;have aG:∀{r:Nat},leadsTo s r->∃c,ag br r ay c:=λq=>by
   obtain⟨rfl,c,A⟩:=dW a2.1 q;exact⟨c,A⟩
  have bD:=aV.ext a1;have b6:=bD.ab b5 λhe=>cP a2.1 bD Φ he;rw[bZ,aU fN.p T];refine bq dZ.i (eR O.sl).1 (eR O.sl).2 b6 Ξ λcN b7 dN cO=>?_;rw[aN];have bE:ai (λr=>leadsTo s r\/r=G) br cN:=(b5.mono λr _ h=>.inl h).trans (b7.mono λr _ h=>.inr h);have S:∀r,(leadsTo s r\/r=G)->∃e c,ag br r e c/\e≠aq:=λr q=>by
   rcases q with q|rfl
   .obtain⟨c,A⟩:=aG q;exact⟨_,c,A,Φ⟩
   .exact⟨_,_,bD,Φ⟩
  have b8:=aC.size;have z3:=ac.size;have dO:=a1.size;refine cI _ ⟨bx,bA,aY++[a],(ac.trans a1).then bE (λr q he=>?_),cO,⟨O.ab b7 λr q he=>?_,λy C=>?_⟩,?_,λr q=>?_,λy C r q=>?_⟩
  .rcases he with he|rfl
   .have:=aX r he;omega
   .omega
  .have he:r=G:=he;subst he;exact cP O b6 Φ q
  .rcases o5.1 C with C|C
   .exact a2.rv bE S y C
   .rw[o9.1 C];have b9:=b2.ext bt;exact⟨aZ,bw b9 bE λr q U=>by
     obtain⟨e,c,A,cQ⟩:=S r U;exact ch b9 A (λhe=>cQ he.symm) q T⟩
  .rw[Z4,aF,u9,B,n9,Z4];rfl
  .rcases bC r q with h|h
   .exact aX r h
   .omega
  .rcases o5.1 C with C|C
   .exact K y C r q
   .rw[o9.1 C]at q;have cR:=(bS b2 q).1;have:=bm.size;omega
 .rintro aE cH ⟨s,H,aY,ac,aV,bl,aF,aX,K⟩;refine b4 Ω ?_;rw[o6]at aF;have cS:=bg.ext ac;have cT:=b0.ext ac;rw[aT cE.p 3 cS T,eF dM.u cT.1];refine cp.range M.length (λi ae=>∃s E H gr aY L,Ext V ae/\ag ae G fN [Γ aD,Δ (dK f i).zero,s,E]/\hW ae H s aY/\aY.map (·.l)=(dK f i).unary/\mu ae w.heap.size gr E f.k f.sizes L/\L.map dX=(dK f i).funs/\(∀r,leadsTo s r\/leadsTo E r->V.heap.size<=r)/\∀h∈aY,∀r,leads h.v r->V.heap.size<=r) Ω
   ⟨s,_,H,0,aY,[],ac,aV,bl,aF,⟨bk.nil _ _ _ _ _,λx J=>(by cases J)⟩,T,λr q=>q.elim (aX r) λh=>(e9 h).elim,K⟩ ?_ ?_
  rotate_left
  .rintro ae cU ⟨s,E,H,gr,aY,L,P,a6,bF,af,bG,aj,W,K⟩;refine b4 Ω ?_;have cV:M.length=(fv f).length:=by rw[<-aR,r8]
   have aI:=oA f M.length;rw[cV,ry]at a6 af aj aI;have b8:=aC.size;refine⟨aC.trans P,.inr ⟨G,T,OE (gr:=gr) (nm:=bL f.name) (szv:=szv) (gz:=gz) (fv2:=cB) a6 ?_ ?_ bF af ?_ aj Ω cC cD (λr q=>by have:=W r q;omega) λh aB r q=>by have:=K h aB r q;omega⟩⟩
   .rw[aI.1];exact bg.ext P
   .rw[aI.2.1];exact bh.ext P
   .rw[aI.1,aI.2.1];exact bG
  rintro i ae cU hi ⟨s,E,H,gr,aY,L,P,a6,bF,af,bG,aj,W,K⟩ cW;obtain⟨y,C⟩:=aH (l:=M) hi;have cZ:(fv f)[i]?=σ (dX y):=by rw[<-aR,x8,C];rfl
  have a7:fW f.sizes f.k (dX y):=tJ R _ (xa aR C);have bH:=b0.ext P;obtain⟨dQ,dR,dS,dT⟩:=oA f i;refine bz Ω ?_;refine dc (λaJ=>∃s E H gr aY L,Ext V aJ/\ag aJ G fN [Γ aD,Δ (dK f (i+1)).zero,s,E]/\hW aJ H s aY/\aY.map (·.l)=(dK f (i+1)).unary/\mu aJ w.heap.size gr E f.k f.sizes L/\L.map dX=(dK f (i+1)).funs/\(∀r,leadsTo s r\/leadsTo E r->V.heap.size<=r)/\∀h∈aY,∀r,leads h.v r->V.heap.size<=r) ?_ ?_
  .rintro aJ h;rw[aN];exact cW _ h
  intro aA bI;have c0:=bH.2 y (x5 C);obtain⟨⟨c1,bJ⟩,m,o,D,c2,dU,c3⟩:=c0;rw[dw T dM.u cF.i bH.1 hi,bR cF.p cF.i T (bH.1.range C)];refine bu cF.i λao dV dY c4 c5=>?_;refine cd (vs:=eG y) cF.i T rfl (uc bJ) c5 λc6 c7 ea ca=>?_;have bK:Ext ae c6:=c4.put c7 Ω;rw[aL cF.p 1 ca T];refine(C3 (c2.ext bK) Ω).mono ?_;rintro _ eb _ ⟨cb,_,aw⟩;obtain⟨g,c8,c9,db,rfl,ec,dd,aw,de⟩:=aw a7.small;have df:dP (bX f.sizes y.sc):=aw.2.2.1.2;have dg:db=y.cs:=iI.eq df de c3;subst dg;have X:=bK.trans cb;have bM:=ca.ext cb;have bN:=bJ.ext X;rw[bo,bp,aL cF.p 0 bM T,aW an.u bN.ls];have b8:=aC.size;have z9:=P.size;have ed:=X.size;have bP:=a6.ext X;have bQ:=bF.ext X;have bT:=bG.ext X;have bU:=xb cZ;rw[be,al];refine⟨λee=>?_,λef=>?_⟩
  .
   have ak:y.sc=[]:=j6 Ω;have I:dK f (i+1)={dK f i with zero:=y.cs.getD 0 0}:=by rw[bU];unfold jf;simp only[dX,ak]
   refine(ng aw).mono ?_;rintro cc dh _ ⟨a8,eg,eh,di⟩;have ei:y.cs.length=1:=by have:=a7.len;simpa[dX,ak,bX,aQ]using this
   have dj:y.cs[0]?=σ (y.cs.getD 0 0):=by rw[u4,x6 Ω];rfl
   rw[fP (y:=0) (i:=0) T ay.u aq.i Ψ di.ls dj,bZ,aU fN.p T];have ce:=bP.ext a8;refine bq aq.i T rfl ce Ξ λej bV ek dk=>?_;have S:∀r,r=G->∃e c,ag dh r e c/\e≠hF/\e≠cX/\e≠ah/\e≠aq/\e≠ay:=λr q=>by
    subst q;exact⟨_,_,ce,Φ,Φ,Φ,Φ,Φ⟩
   refine bI _ ⟨s,E,H,gr,aY,L,((P.trans X).trans a8).put bV Ω,?_,(bQ.ext a8).ab bV (λr q=>?_),by rw[I];exact af,(bT.ext a8).ab bV (λr q=>?_),by rw[I];exact aj,W,K⟩
   .rw[I];exact dk
   .obtain⟨e,c,A,_,_,_,h1,ap⟩:=S r q;exact⟨e,c,A,h1,ap⟩
   .obtain⟨e,c,A,h1,ap,au,aS,_⟩:=S r q;exact⟨e,c,A,h1,ap,au,aS⟩
  rw[be,al];refine⟨λh1=>?_,λem=>?_⟩
  .
   obtain⟨v,ak⟩:∃v,y.sc=[v]:=W9.1 Ω;have en:=a7.scope.1 v (by show v∈y.sc;rw[ak];exact .head _);have eo:=a7.vars v (by show v∈y.sc;rw[ak];exact .head _);have I:dK f (i+1)={dK f i with unary:=(dK f i).unary.set v.toNat y.cs}:=by rw[bU];unfold jf;simp only[dX,ak]
   intro ep Y _ _;have cg:=bP.ext Y;have dl:=bM.ext Y;rw[aT fN.p 2 cg T,aL cF.p 0 dl T];refine px (y:=0) (i:=0) T an.u ah.i (bN.ls.ext Y) (show y.sc[0]?=σ v by rw[ak];rfl) λb o dm=>?_;rw[ax Ψ dm];refine(ng (aw.ext Y)).mono ?_;rintro cc dn _ ⟨aK,dp,er,aM⟩;refine⟨.inl aK,?_⟩;have aO:=(bQ.ext Y).ext aK;have es:aY.length=f.sizes.length:=by have:=congrArg S5 af;rw[r8]at this;omega
   obtain⟨u,hu⟩:=aH (l:=aY) (i:=v.toNat) Ω;rw[dw (i:=v.toNat) Ω dZ.u ay.i aO.1 Ω];let a:lD:=⟨cc,y.cs⟩;refine pM (f:=ox) (j:=0) (a:=u) (a':=a) ay.i aM.ls.cells.1 aM.ls.cells.2 aO.1 hu T Ω λet aP eu dq=>?_;have ci:=cg.ext aK;have aG:∀{r:Nat},leadsTo s r->∃c,ag dn r ay c:=λq=>by
    obtain⟨rfl,c,A⟩:=dW aO.1 q;exact⟨c,A⟩
   refine bI _ ⟨s,E,H,gr,aY.set v.toNat a,L,(((P.trans X).trans Y).trans aK).then aP (λr q he=>by have:=W r (.inl he);omega),?_,⟨dq,λz B=>?_⟩,?_,((bT.ext Y).ext aK).ab aP (λr q=>?_),by rw[I];exact aj,W,λz B r q=>?_⟩
   .rw[I];exact ci.ab aP λhe=>cP aO.1 ci Φ he
   .rcases W0 B with B|rfl
    .exact aO.rv aP (λr q=>by obtain⟨c,A⟩:=aG q;exact⟨_,c,A,Φ⟩) z B
    .exact⟨dp,bw aM aP λr q U=>by
      obtain⟨c,A⟩:=aG U;exact ch aM A Φ q T⟩
   .rw[I,U5,af]
   .obtain⟨c,A⟩:=aG q;exact⟨_,c,A,Φ,Φ,Φ,Φ⟩
   .rcases W0 B with B|rfl
    .exact K z B r q
    .have cR:=(bS aM q).1;have:=Y.size;omega
  .
   have I:dK f (i+1)={dK f i with funs:=(dK f i).funs++[dX y]}:=by
    rw[bU];unfold jf;have cj:2<=(dX y).1.length:=by show 2<=y.sc.length;omega
    generalize dX y=g at cj ⊢;obtain⟨sc,cs⟩:=g
    match sc,cj with
    |_::_::_,_=>rfl
   intro ev Z _ _;have ck:=bP.ext Z;have dr:=bM.ext Z;have cl:=bN.ext Z;rw[aT fN.p 3 ck T,aL cF.p 0 dr T,cY (cs:=#[y.sv,Γ g]) (by obtain⟨_,_,_,e⟩:=da bJ.ls;rw[e];kernel_rfl)];let a:cv:=⟨y.sv,g,y.sc,y.cs⟩;refine hU (f:=eG) (a:=a) lf.u hF.i Ω T rfl λew ey ba ez Q ds=>?_;refine⟨.inl Q,?_⟩;have bb:=(bT.ext Z).ext Q;have dt:=(bQ.ext Z).ext Q;have bW:=ck.ext Q;have eA:L.length<=256:=by have:=congrArg S5 aj;rw[r8]at this;omega
   refine iG (f:=eG) (a:=a) lf.u hF.i T bb.1 (by simpa using ds.sl) (uc (cl.ext Q)) Ω Ω λbx bA eB O bC cm=>?_;have cn:=bW.ab cm λhe=>cP bb.1 bW Φ he;rw[bZ,aU fN.p T];refine bq lf.i (eR O.sl).1 (eR O.sl).2 cn Ξ λdu cq eC dv=>?_;have bf:ai (λr=>leadsTo E r\/r=G) ba du:=(cm.mono λr _ h=>.inl h).trans (cq.mono λr _ h=>.inr h);have S:∀r,(leadsTo E r\/r=G)->∃e c,ag ba r e c/\e≠cX/\e≠ah/\e≠aq/\e≠ay:=λr q=>by
    rcases q with q|rfl
    .obtain⟨rfl,c,A⟩:=dW bb.1 q;exact⟨_,c,A,Φ,Φ,Φ,Φ⟩
    .exact⟨_,_,bW,Φ,Φ,Φ,Φ⟩
   have eD:=(Z.trans Q).size;refine bI _ ⟨s,bx,H,bA,aY,L++[a],(((P.trans X).trans Z).trans Q).then bf (λr q he=>?_),?_,dt.ab bf (λr q=>?_),by rw[I];exact af,⟨O.ab cq λr q he=>?_,λz B=>?_⟩,?_,λr q=>?_,K⟩
   .rcases he with he|rfl
    .have:=W r (.inr he);omega
    .omega
   .rw[I];exact dv
   .obtain⟨e,c,A,_,_,au,aS⟩:=S r q;exact⟨e,c,A,au,aS⟩
   .have he:r=G:=he;subst he;exact cP O cn Φ q
   .have cr:∀r,(leadsTo E r\/r=G)->∃e c,ag ba r e c/\e≠cX/\e≠ah/\e≠aq:=λr q=>by
     obtain⟨e,c,A,h1,ap,au,_⟩:=S r q;exact⟨e,c,A,h1,ap,au⟩
    rcases o5.1 B with B|B
    .exact (bb.2 z B).ab bf cr
    .rw[o9.1 B];have eE:=bK.size;refine rx.ab (w:=ba) ⟨⟨c1,cl.ext Q⟩,⟨c8,c9,?_,Ω,λr q=>by have:=dd.2 r q;omega⟩,by show w.heap.size<=g;omega,cG y (x5 C)⟩ bf cr;exact(aw.ext Z).ext Q
   .rw[I,Z4,aj];rfl
   .rcases q with q|q
    .exact W r (.inl q)
    .rcases bC r q with h|h
     .exact W r (.inr h)
     .omega
def xc{z:Array x1}{k:Nat}(a:z.size=k):(Z3.zeroCells z n).toList=dT z (n*k):=by
 unfold Z3.zeroCells dT;rw[a]
def OJ{P:W8}{t p A:p9}{B kn:o7}{b g k m:Nat}{z:x1}{xs:List x1}(X:y=(m:Int))(M:P.underlying t=σ (.slice e))(N:P.underlying p=σ (.int kn))(hi:aS P e k b z)(C:z.cells.size=k)(av:0<k)(h1:∀u∈dT z.cells (m*k),u.oneCell'=true)(h:b1 w g e k v n xs)(Y:0<m)(Z:(n+m)*b<=140737488355328)(aa:n+m<=9223372036854775807)(O:∀E ac w',b1 w' ac e k E (n+m) (xs++dT z.cells (m*k))->(∀r,leadsTo E r->leadsTo v r\/w.heap.size<=r)->ai (λr=>leadsTo v r) w w'->K E w'):aE P (Z0 #[t,p] A #[v,.int B y]) w K:=by
 subst X;obtain⟨i,hi,F,rfl,Q⟩:=hi;have⟨R,hm⟩:=h;have ae:=n2 z.cells (m*k);have af:m*i.bytes<=281474976710656:=by
  have:m*i.bytes<=(n+m)*i.bytes:=X9 _ Ω;omega
 have grow:∀(base:Option Addr)(cap:Nat),v= .slice base n cap->(Z3.firstCells i.size n (.slice base n cap)).run P w.drew= .ok xs.toArray w.drew->cap<n+m->aE P (Z0 #[t,p] A #[v,.int B (m:Int)]) w K:=λbase cap ad ah f=>by
  subst ad;have G:=Lib.run_append_grow_zeros (P:=P) w t p A e i z B kn M N hi Q base n cap xs ah m Y Ω f Ω af (growslice_fits f Z);have S:n+m<=grownCap w (n+m) cap e:=grownCap_ge w _ _ _;have aj:grownCap w (n+m) cap e<=maxLen:=grownCap_le_maxLen w (n+m) cap e (by simpa[maxLen]using aa);have aw:=n2 z.cells ((grownCap w (n+m) cap e-(n+m))*k);have ax:(n+m)*k<=grownCap w (n+m) cap e*k:=X9 _ S;have ak:(n+m)*k=n*k+m*k:=U3 _ _ _;have ay:(grownCap w (n+m) cap e-(n+m))*k=grownCap w (n+m) cap e*k-(n+m)*k:=Nat.sub_mul _ _ _;refine .of G ((qk w _ (Nat.le_succ _)).trans (qm _ _)) (O _ w.heap.size _ ⟨by rw[r9];omega,.inr ⟨_,xs++dT z.cells (m*k)++dT z.cells ((grownCap w (n+m) cap e-(n+m))*k),rfl,?_,S,aj,?_,?_⟩⟩ (λr H=>?_) (((r6 w _).trans (ql _ _)).ab _))
  .have:=heap_alloc_new w.drew (.cells (xs.toArray++Z3.zeroCells z.cells m++Z3.zeroCells z.cells (grownCap w (n+m) cap e-(n+m))) e);unfold ag;rw[show w.drew.heap.size=w.heap.size from rfl]at this;rw[this];congr 2;apply Array.toList_inj.1;rw[Array.toList_append,Array.toList_append,xc C,xc C]
  .rw[r9,r9];omega
  .rw[List.take_append_of_le_length (by rw[r9];omega),b8 (by rw[r9];omega)]
  .obtain⟨a,al,c,q,s⟩:=H;cases q;exact .inr (by simp at s;omega)
 rcases hm with⟨rfl,am⟩|⟨cap,cs,rfl,x,q,s,I,T⟩
 .subst am;have:xs=[]:=j6 (by simpa using R);subst this;exact grow ν 0 rfl (run_firstCells_none w.drew i.size 0 0 0) Ω
 .by_cases f:n+m<=cap
  .have U:(n+m)*k<=cs.length:=by rw[I];exact X9 _ f
   have ak:(n+m)*k=n*k+m*k:=U3 _ _ _;have J:=run_storeCells_cells (P:=P) g (0+n*k) (dT z.cells (m*k)) 0 w (λj V=>by
    rw[ae]at V;rw[Nat.add_zero,X2,x.cell (x6 (show n*k+j<cs.length by omega))];rfl) (λj _=>x.frozen _ _) h1
   simp only[Nat.add_zero]at J;have hw:X6.wrap (m:Int)=m:=by rw[o7.wrap_i64];omega
   have an:¬((m:Int)<0):=Ω
   have ao:¬(281474976710656<(m:Int)*(i.bytes:Int)):=by rw[<-Int.natCast_mul];omega
   have L:¬(m*i.size=0):=Nat.mul_ne_zero Ω Ω;have ap:(Z3.zeroCells z.cells m).toList=dT z.cells (m*k):=xc C;have G:(Z0 #[t,p] A #[.slice (σ ⟨g,0,ν⟩) n cap,.int B (m:Int)]).run P w= .ok (.slice (σ ⟨g,0,ν⟩) (n+m) cap) (w.setCells g (0+n*k) (dT z.cells (m*k))):=by
    simp[Z0,run_underlying M,run_underlying N,sizeOf,typeInfo,zeroValue,hi,Q,asInt,asIntOf,hw,f,an,L,ao,ap,Addr.add_lit,F];simp only[X2]at J;rw[J];simp;intro aq;exact absurd aq (by rw[F]at L;exact L)
   have⟨au,W⟩:=n1 (dT z.cells (m*k)) cs (0+n*k) w x;refine .of G (W.cw x) (O _ g _ ⟨by rw[r9];omega,.inr ⟨cap,_,rfl,au,f,s,by rw[lj,I],?_⟩⟩ (λr H=>.inl ?_) (W.ab.mono λr _ he=>⟨_,_,_,rfl,he.symm⟩))
   .rw[tz Ω U,mY (by rw[l9];omega),X2,List.take_take,List.drop_eq_nil_of_le (by rw[l9];omega),W6,Nat.min_eq_left Ω,T]
   .obtain⟨a,al,c,q,s⟩:=H;cases q;exact⟨_,_,_,rfl,s⟩
  .refine grow _ cap rfl ?_ Ω;have U:n*k<=cs.length:=by rw[I];exact X9 _ q
   refine run_firstCells_some w.drew i.size n _ n cap xs (by rw[F];exact R) λj u hu=>?_;rw[U9,X2];have V:=(x4.1 hu).1;rw[<-T,Z7 Ω]at hu;exact x.cell hu
def iK(c:Cell):List x1:=[Δ c.v,.int .u64 (c.st:Int)]
def oB(o:lp):List x1:=[Δ (o.i:Int),Δ o.c.v,.int .u64 (o.c.st:Int)]
def oC(m:s6):List x1:=[Δ (m.olds:Int),Δ (m.cells:Int),.int .u64 (m.st:Int)]
def dz(w:x3)(gT:Nat)(A:ak)(t:aD):Prop:=A gT/\∃e go dm a7 a dG,ag w gT fM [a7,a,dG,.int .u64 (t.iB:Int)]/\bk iK 2 eL w e a7 t.cells/\bk oB 3 lg w go a t.olds/\bk oC 3 gD w dm dG t.marks/\
 ∀r,leadsTo a7 r\/leadsTo a r\/leadsTo dG r->A r
def dz.ab{S A:ak}{t:aD}(h:dz w gT A t)(e:ai S w w')(f:∀r,A r->¬S r):dz w' gT A t:=by
 have⟨q,s,go,dm,a7,x,dG,h1,y,z,B,p⟩:=h;exact⟨q,s,go,dm,a7,x,dG,h1.ab e (f _ q),y.ab e λr a=>f r (p r (.inl a)),z.ab e λr a=>f r (p r (.inr (.inl a))),B.ab e λr a=>f r (p r (.inr (.inr a))),p⟩
def dz.ext{A:ak}{t:aD}(h:dz w gT A t)(J:Ext w w'):dz w' gT A t:=h.ab (J.ab λ_=>False) λ_ _ h=>h
def dz.mono{A B:ak}{t:aD}(h:dz w gT A t)(a:∀r,A r->B r):dz w gT B t:=by
 have⟨e,f,go,dm,a7,p,dG,h1,q,s,x,y⟩:=h;exact⟨a _ e,f,go,dm,a7,p,dG,h1,q,s,x,λr z=>a r (y r z)⟩
def Grow(A:ak)(w:x3)(aR:ak)(w':x3):Prop:=ai A w w'/\(∀r,aR r->A r\/w.heap.size<=r)/\∀r,A r->aR r
def Grow.refl(A:ak)(w:x3):Grow A w A w:=⟨ai.refl _ _,λ_ h=>.inl h,λ_ h=>h⟩
def Grow.ext{A:ak}(h:Ext w w'):Grow A w A w':=⟨h.ab _,λ_ h=>.inl h,λ_ h=>h⟩
def Grow.trans{A aR e:ak}{f:x3}(h:Grow A w aR w')(k:Grow aR w' e f):Grow A w e f:=
 ⟨⟨Y9 h.1.size k.1.size,λr o a U p=>k.1.a6 r o (h.1.a6 r o a U p) U λq=>(h.2.1 r q).elim p λs=>by
  have:=(j4.1 a).1;omega⟩,λr a=>by
  rcases k.2.1 r a with h1|h1
  .exact h.2.1 r h1
  .have:=h.1.size;exact .inr Ω,λr a=>k.2.2 r (h.2.2 r a)⟩
def Dw{A:ak}{t:aD}(h:dz w gT A t):am x7 IF [Γ gT] w λv w'=>v=Δ (t.cells.length:Int)/\Ext w w':=by
 have⟨e,f,go,dm,a7,q,dG,h1,a,r,s,x⟩:=h;apply az func174;rw[di qD.u];simp only[Z5,a8];rw[aT fM.p 0 h1 T,eF ix.u a];exact⟨T,Ext.refl _⟩
def Dx{A:ak}{t:aD}{i:Int}(h:dz w gT A t):am x7 HO [Γ gT,Δ i] w λv w'=>v= .bool (decide (0<=i/\i<t.cells.length))/\Ext w w':=by
 apply az func88;apply aV (λv V=>v= .bool (decide (0<=i/\i<t.cells.length))/\Ext w V) (λ_ _ h=>h);intro aA a;rw[cO,al];refine⟨λe=>?_,λe=>a _ _ ⟨by rw[decide_eq_false];omega,Ext.refl _⟩⟩;apply(Dw h).mono;rintro _ V _ ⟨rfl,J⟩;rw[aP];refine a _ _ ⟨?_,J⟩;congr 1;rw[U1,decide_eq_true_eq,decide_eq_true_eq];exact⟨λh=>⟨Ω,h⟩,λh=>h.2⟩
def OK{A:ak}{t:aD}{i:Nat}{c:Cell}(h:dz w gT A t)(f:y=(i:Int))(a:t.cells[i]?=σ c):am x7 zN [Γ gT,Δ y] w λv w'=>v=Δ c.v/\Ext w w':=by
 have q:=(x4.1 a).1;apply az func43;apply(Dx h).mono;rintro _ V _ ⟨rfl,J⟩;rw[decide_eq_true Ω,bK,Y7,a8];have⟨r,s,go,dm,a7,x,dG,h1,e,z,B,C⟩:=h.ext J;rw[aT fM.p 0 h1 T,dw f ix.u eL.i e q,aU eL.p T,ax Ψ (e.range a 0 _ T)];exact⟨T,J⟩
def oD{A:ak}{t:aD}{i:Nat}{x:Int}(h:dz w gT A t)(e:y=(i:Int))(a:t.bY[i]?=σ x):am x7 zN [Γ gT,Δ y] w λv w'=>v=Δ x/\Ext w w':=by
 unfold aD.bY at a;rw[x8]at a;obtain⟨c,f,rfl⟩:=X1.1 a;exact OK h e f
def nk(t:aD):Prop:=t.cells.length<=100000000/\t.olds.length<=100000000/\t.marks.length<=100000000
def ud{s go dm:Nat}{a7 a dG:x1}{t:aD}{x:x1}(h1:ag w gT fM [a7,a,dG,x])(f:bk iK 2 eL w s a7 t.cells)(h:bk oB 3 lg w go a t.olds)(p:bk oC 3 gD w dm dG t.marks):
  (¬leadsTo a7 gT/\¬leadsTo a gT/\¬leadsTo dG gT)/\(∀r,leadsTo a7 r->¬leadsTo a r/\¬leadsTo dG r)/\∀r,leadsTo a r->¬leadsTo a7 r/\¬leadsTo dG r:=by
 refine⟨⟨cP f h1 Φ,cP h h1 Φ,cP p h1 Φ⟩,λr q=>?_,λr q=>?_⟩
 .obtain⟨rfl,c,e⟩:=dW f q;exact⟨cP h e Φ,cP p e Φ⟩
 .obtain⟨rfl,c,e⟩:=dW h q;exact⟨cP f e Φ,cP p e Φ⟩
def ue{A:ak}{t:aD}{i:Nat}{x:Int}(h:dz w gT A t)(bl:y=(i:Int))(O:i<t.cells.length)(ap:nk t):am x7 zY [Γ gT,Δ y,Δ x] w λv w'=>v=Δ 0/\∃aR,Grow A w aR w'/\dz w' gT aR (t.set i x):=by
 subst bl;have⟨c,E⟩:=aH (l:=t.cells) O;apply az func124;rw[di qD.u];simp only[Z5,a8];apply(Dx h).mono;rintro _ V _ ⟨rfl,J⟩;rw[decide_eq_true Ω,bK,Y7,a8];have⟨aS,L,go,dm,a7,P,dG,h1,aW,au,X,Y⟩:=id (h.ext J);have bm:∀{aa:x3}{aR:ak}{bt:aD}{st:Nat}{K:x3->Prop},dz aa gT aR bt->bt.cells[i]?=σ ⟨c.v,st⟩->
   (∀q,ai aR aa q->dz q gT aR {bt with cells:=bt.cells.set i ⟨x,st⟩}->K q)->
   (ac x7 (bQ (Γ gT)) aa λt77=>
   ac x7 (u6 fM t77 0) aa λbn=>
   ac x7 (u5 ix bn) aa λbo=>
   ac x7 (j9 ix bo (Δ (i:Int))) aa λbp=>
   ac x7 (u6 eL bp 0) aa λbr=>
   aE x7 (o8 aq br (Δ x)) aa λ(_:Unit)q=>
   K q):=by
  intro aa aR bt st K av Z bw;have⟨aw,L,go,dm,a7,P,dG,G,H,Q,R,S⟩:=av;have bx:=(x4.1 Z).1;rw[aT fM.p 0 G T,dw T ix.u eL.i H bx,aU eL.p T];have⟨⟨U,ay,aB⟩,I,_⟩:=ud G H Q R;refine pM (f:=iK) (j:=0) (a:=⟨c.v,st⟩) (a':=⟨x,st⟩) aq.i T rfl H Z T Ω λq B bz bA=>?_;exact bw q (B.mono λr _ e=>S r (.inl e)) ⟨aw,L,go,dm,a7,P,dG,G.ab B U,bA,Q.ab B λr e he=>(I r he).1 e,R.ab B λr e he=>(I r he).2 e,S⟩
 refine dc (λaa=>∃aR bt st,Grow A V aR aa/\dz aa gT aR bt/\bt.cells[i]?=σ ⟨c.v,st⟩/\t.set i x={bt with cells:=bt.cells.set i ⟨x,st⟩}) ?_ ?_
 .rintro aa ⟨aR,bt,st,bB,av,Z,aC⟩;refine bm av Z λq B au=>⟨by trivial,aR,?_,by rw[aC];exact au⟩;exact(Grow.ext J).trans (bB.trans ⟨B,λ_ h=>.inl h,λ_ h=>h⟩)
 intro aA aF;rw[aT fM.p 2 h1 T,eF sN.u X,bJ,al];have aX:∀(hm:t.marks.getLast? =ν\/∃m,t.marks.getLast? =σ m/\¬(c.st<m.st/\i<m.cells)),t.set i x={t with cells:=t.cells.set i ⟨x,c.st⟩}:=λhm=>by
  unfold aD.set;rw[E];rcases hm with hm|⟨m,hm,bC⟩
  .simp only[hm]
  .simp only[hm];rw[if_neg bC]
 refine⟨λbY=>?_,λb0=>aF _ ⟨A,t,c.st,Grow.refl _ _,h.ext J,E,aX (.inl ?_)⟩⟩
 rotate_left
 .rw[List.getLast?_eq_none_iff];exact j6 Ω
 have⟨m,hm⟩:=aH (l:=t.marks) (i:=t.marks.length-1) Ω;have aY:t.marks.getLast? =σ m:=by rw[List.getLast?_eq_getElem?];exact hm
 have b1:=ap.2.2;rw[aT fM.p 2 h1 T,dN,wrap_i64 Ω Ω,dw (i:=t.marks.length-1) Ω sN.u gD.i X Ω,bR gD.p gD.i T (X.range hm)];refine bu gD.i λao aa b2 aZ bD=>?_;refine cd (vs:=oC m) gD.i T rfl (by intro v ad;simp[oC]at ad;rcases ad with rfl|rfl|rfl<;>rfl) bD λq B bz bE=>?_;have a1:Ext V q:=aZ.put B Ω;have ae:∀{w':x3},Ext q w'->ag w' ao gD (oC m):=λJ=>bE.ext J;refine aV (λv aG=>v= .bool (decide (c.st<m.st/\i<m.cells))/\Ext q aG) ?_ ?_
 rotate_left
 .intro b3 a2;intro aG s _ _;have M:=a1.trans s;have a6:=ae s;have N:=aW.ext M;rw[aT fM.p 0 (h1.ext M) T,dw T ix.u eL.i N O,aU eL.p T,ax Ψ (N.range E 1 _ T),aL gD.p 2 a6 T,aP,al];refine⟨λba=>?_,λbb=>a2 _ _ ⟨by rw[decide_eq_false];omega,s⟩⟩;rw[aL gD.p 1 a6 T,aP];refine a2 _ _ ⟨?_,s⟩;congr 1;rw[U1,decide_eq_true_eq,decide_eq_true_eq];exact⟨λh=>⟨Ω,Ω⟩,λh=>Ω⟩
 rintro _ aG ⟨rfl,s⟩;have M:=a1.trans s;rw[al];refine⟨λba=>?_,λbb=>aF _ ⟨A,t,c.st,Grow.ext M,(h.ext J).ext M,E,aX (.inr ⟨m,aY,bb⟩)⟩⟩;intro b4 af _ _;have W:=M.trans af;have aI:=h1.ext W;have N:=aW.ext W;have bF:=au.ext W;have bG:=X.ext W;rw[bZ,aU fM.p T,ax Ψ (aI.cell (o:=0+1) T),bZ,aU fM.p T,ax Ψ (aI.cell (o:=0+0) T),dw T ix.u eL.i N O,bR eL.p eL.i T (N.range E)];rw[cY (cs:=#[Δ (i:Int),Δ c.v,.int .u64 (c.st:Int)]) Ψ];let a:lp:=⟨i,c⟩;have bH:∀u∈oB a,u.oneCell'=true:=by intro v ad;simp[oB]at ad;rcases ad with rfl|rfl|rfl<;>rfl
 refine hU (f:=oB) (a:=a) nX.u lg.i Ω T rfl λb5 b6 bc b7 z bI=>?_;refine⟨.inl z,?_⟩;have bd:=W.trans z;have aJ:=aI.ext z;have be:=N.ext z;have aK:=bF.ext z;have bf:=bG.ext z;have⟨⟨U,ay,aB⟩,I,bL⟩:=ud aJ be aK bf;refine iG (f:=oB) (a:=a) nX.u lg.i T aK (by simpa using bI.sl) bH (by have:=ap.2.1;omega) (by have:=ap.2.1;omega) λaM bg b8 ah bM bh=>?_;rw[bZ,aU fM.p T];have bi:=aJ.ab bh ay;refine bq nX.i (eR ah.sl).1 (eR ah.sl).2 bi Ξ λC bj b9 aN=>?_;have aN:ag C gT fM [a7,aM,dG,.int .u64 (t.iB:Int)]:=aN;have aj:ai (λr=>leadsTo P r\/r=gT) bc C:=(bh.mono λr _ h=>.inl h).trans (bj.mono λr _ h=>.inr h);have bN:bk iK 2 eL C L a7 t.cells:=be.ab aj λr e he=>he.elim (λhe=>(I r e).1 he) λhe=>U (he▸e);have bO:bk oC 3 gD C dm dG t.marks:=bf.ab aj λr e he=>he.elim (λhe=>(bL r he).2 e) λhe=>aB (he▸e);have bP:bk oB 3 lg C bg aM (t.olds++[a]):=ah.ab bj λr e he=>by
  have he:r=gT:=he;subst he;exact cP ah bi Φ e
 have ca:=bd.size;have cb:=aZ.size;let aO:ak:=λr=>A r\/bc.heap.size<=r;have bS:Grow A V aO C:=⟨(bd.ab A).trans (aj.mono λr _ he=>he.elim (λhe=>Y r (.inr (.inl he))) λhe=>he▸aS),λr e=>e.imp id λe=>Ω,λr e=>.inl e⟩;have bT:dz C gT aO {t with olds:=t.olds++[a]}:=⟨.inl aS,L,bg,dm,a7,aM,dG,aN,bN,bP,bO,λr e=>by
  rcases e with e|e|e
  .exact .inl (Y r (.inl e))
  .rcases bM r e with h|h
   .exact .inl (Y r (.inr (.inl h)))
   .exact .inr h
  .exact .inl (Y r (.inr (.inr e)))⟩
 have bU:ag C ao gD (oC m):=(ae ((s.trans af).trans z)).ab aj λhe=>by
  rcases he with he|he
  .obtain⟨rfl,cc,bV⟩:=dW aK he;exact absurd (eQ bV (ae ((s.trans af).trans z))) Φ
  .subst he;exact absurd (eQ aJ (ae ((s.trans af).trans z))) Φ
 intro ce aQ _ _;have bW:=bT.ext aQ;have⟨aw,L,go,dm,a7,P,dG,G,H,Q,R,S⟩:=bW;rw[aT fM.p 0 G T,aL gD.p 2 (bU.ext aQ) T,dw T ix.u eL.i H O,aU eL.p T];have⟨⟨U,ay,aB⟩,I,_⟩:=ud G H Q R;refine pM (f:=iK) (j:=1) (a:=c) (a':=⟨c.v,m.st⟩) fL.i T rfl H E T Ω λcg an ch bX=>?_;have aC:t.set i x={t with olds:=t.olds++[a],cells:=t.cells.set i ⟨x,m.st⟩}:=by
  unfold aD.set;rw[E];simp only[aY];rw[if_pos ba]
 refine aF _ ⟨aO,{t with olds:=t.olds++[a],cells:=t.cells.set i ⟨c.v,m.st⟩},m.st,bS.trans ((Grow.ext aQ).trans ⟨an.mono λr _ e=>S r (.inl e),λ_ h=>.inl h,λ_ h=>h⟩),⟨aw,L,go,dm,a7,P,dG,G.ab an U,bX,Q.ab an λr e he=>(I r he).1 e,R.ab an λr e he=>(I r he).2 e,S⟩,?_,?_⟩
 .show (t.cells.set i _)[i]?=_;rw[c8 O]
 .rw[aC];simp only[List.set_set]
def Dy(n:Nat):dT (#[Δ 0,.int .u64 0]:Array x1) (n*2)=(p8 n (⟨0,0⟩:Cell)).flatMap iK:=by
 have:∀n,dT (#[Δ 0,.int .u64 0]:Array x1) (n*2)=(p8 n (⟨0,0⟩:Cell)).flatMap iK:=by
  intro n;apply Y4;intro j;have q:((p8 n (⟨0,0⟩:Cell)).flatMap iK).length=n*2:=by simp[iK]
  by_cases e:j<n*2
  .have p:(dT (#[Δ 0,.int .u64 0]:Array x1) (n*2))[j]?=σ (if j % 2=0 then Δ 0 else .int .u64 0):=by
    unfold dT;rw[S9,Array.getElem?_map,Array.getElem?_range,if_pos e];rcases Nat.mod_two_eq_zero_or_one j with h|h<;>simp[h]
   have ae:=pL (f:=iK) (k:=2) (L:=p8 n (⟨0,0⟩:Cell)) (i:=j / 2) (j:=j % 2) (a:=⟨0,0⟩) (v:=if j % 2=0 then Δ 0 else .int .u64 0) (λa _=>rfl) (by rw[List.getElem?_replicate,if_pos Ω]) (by rcases Nat.mod_two_eq_zero_or_one j with h|h<;>simp[h,iK]);rw[show j / 2*2+j % 2=j by omega]at ae;rw[p,ae]
  .rw[Z2 (by rw[n2];omega),Z2 Ω]
 exact this n
def OL{A:ak}{t:aD}(h:dz w gT A t)(S:nk t)(ac:n<=100000000):am x7 I5 [Γ gT,Δ (n:Int)] w λv w'=>v=Δ (t.cells.length:Int)/\∃aR,Grow A w aR w'/\dz w' gT aR (t.grow n):=by
 apply az func209;apply(Dw h).mono;rintro _ V _ ⟨rfl,J⟩;apply dc (λaa=>∃aR,Grow A w aR aa/\dz aa gT aR (t.grow n)) (λaa h=>⟨T,h⟩);intro aA B;refine aV (λv aa=>v= .bool (decide (0<n))/\V=aa) ?_ ?_
 rotate_left
 .intro ad U;rw[Au qD.u];simp only[Z5,W3,bV];rw[bJ];refine U _ _ ⟨?_,T⟩;congr 1;rw[U1,decide_eq_true_eq,decide_eq_true_eq];omega
 rintro _ _ ⟨rfl,rfl⟩;rw[al];refine⟨λC=>?_,λC=>B _ ⟨A,Grow.ext J,?_⟩⟩
 rotate_left
 .have:n=0:=Ω
  subst this;have e:t.grow 0=t:=by unfold aD.grow;simp
  rw[e];exact h.ext J
 have⟨E,ae,go,dm,a7,G,dG,h1,H,I,K,f⟩:=id (h.ext J);rw[aT fM.p 0 h1 T];have⟨⟨W,X,Y⟩,L,af⟩:=ud h1 H I K;have aj:=S.1;refine OJ (k:=2) (m:=n) T ix.u ah.u eL.i T Ω (λu hu=>?_) H.1 C Ω Ω λs M aa N Z O=>?_
 .exact w5 Φ Φ u hu
 rw[bZ,aU fM.p T];have q:bk iK 2 eL aa M s (t.cells++p8 n ⟨0,0⟩):=by
  refine⟨?_,λ_ _=>rfl⟩;have e:(x1.agg #[Δ 0,.int .u64 0]).cells= #[Δ 0,.int .u64 0]:=rfl;rw[e,Dy]at N;rw[r9,List.length_replicate,List.flatMap_append];exact N
 have P:=h1.ab O W;refine bq ix.i (eR q.sl).1 (eR q.sl).2 P Ξ λQ R an x=>?_;have x:ag Q gT fM [s,G,dG,.int .u64 (t.iB:Int)]:=x;have y:ai (λr=>leadsTo a7 r\/r=gT) V Q:=(O.mono λr _ h=>.inl h).trans (R.mono λr _ h=>.inr h);have z:=J.size;refine B _ ⟨λr=>A r\/V.heap.size<=r,(Grow.ext J).trans ⟨y.mono λr _ he=>he.elim (λhe=>f r (.inl he)) λhe=>he▸E,λr a=>a,λr a=>.inl a⟩,.inl E,M,go,dm,s,G,dG,x,q.ab R λr a he=>?_,I.ab y λr a he=>he.elim (λhe=>(L r he).1 a) λhe=>X (he▸a),K.ab y λr a he=>he.elim (λhe=>(L r he).2 a) λhe=>Y (he▸a),λr a=>?_⟩
 .have he:r=gT:=he;subst he;exact cP q P Φ a
 .rcases a with a|a|a
  .exact (Z r a).imp (λh=>f r (.inl h)) id
  .exact .inl (f r (.inr (.inl a)))
  .exact .inl (f r (.inr (.inr a)))
def OM(x:n<=1000):am x7 H7 [Δ (n:Int)] w λv w'=>Ext w w'/\∃gT,v=Γ gT/\dz w' gT (eN w.heap.size) ⟨p8 n ⟨0,0⟩,[],[],0⟩:=by
 apply az func123;rw[vR,Int.max_eq_left Ω];refine AA (k:=2) ix.u eL.i Ω Ω λg V y h f=>?_;rw[cY (cs:=#[.slice (σ ⟨g,0,ν⟩) n n,.slice ν 0 0,.slice ν 0 0,.int .u64 0]) Ψ];refine bd λgT aa z p s=>?_;have A:=h.size;have e:(x1.agg #[Δ 0,.int .u64 0]).cells= #[Δ 0,.int .u64 0]:=rfl;have f:ag V g eL ((p8 n (⟨0,0⟩:Cell)).flatMap iK):=by rw[<-Dy,<-e];exact f
 have q:bk iK 2 eL V g (.slice (σ ⟨g,0,ν⟩) n n) (p8 n ⟨0,0⟩):=by
  refine⟨?_,λ_ _=>rfl⟩;rw[List.length_replicate];exact b1.full f (by simp[iK]) (by simp[maxLen];omega)
 refine⟨h.trans p,gT,T,by show w.heap.size<=gT;omega,g,0,0,_,_,_,s,q.ext p,bk.nil _ _ _ _ _,bk.nil _ _ _ _ _,λr a=>?_⟩;rcases a with a|a|a
 .have:=(q.leads a).1;show w.heap.size<=r;omega
 .exact (e9 a).elim
 .exact (e9 a).elim
theorem n4{α β:Type}{f:α->List β}:∀{L:List α}{i j:Nat}{a:α},L[i]?=σ a->j<(f a).length->(L.flatMap f)[((L.take i).flatMap f).length+j]?=(f a)[j]?
 |x::L,0,j,a,h,e=>by
  cases h;rw[List.take_zero,List.flatMap_nil,List.length_nil,X2,X8,Y6 e]
 |x::L,i+1,j,a,h,e=>by
  have h:L[i]?=σ a:=by simpa using h
  rw[List.take_succ_cons,X8,X8,r9,R4,Y8 Ω,R6,n4 h e]
theorem xd{α β:Type}{f:α->List β}:∀{L:List α}{i j:Nat}{a b:α}{x:β},L[i]?=σ a->j<(f a).length->f b=(f a).set j x->(L.flatMap f).set (((L.take i).flatMap f).length+j) x=(L.set i b).flatMap f
 |y::L,0,j,a,b,x,h,e,p=>by
  cases h;rw[List.take_zero,List.flatMap_nil,List.length_nil,X2,X8,List.set_cons_zero,X8,p,List.set_append_left _ _ e]
 |y::L,i+1,j,a,b,x,h,e,p=>by
  have h:L[i]?=σ a:=by simpa using h
  rw[List.take_succ_cons,X8,X8,r9,R4,T7 _ _ Ω,R6,xd h e p,List.set_cons_succ,X8]
def Dz{α β:Type}{f:α->List β}{L:List α}{i:Nat}{a:α}(h:L[i]?=σ a)(e:j<(f a).length):((L.take i).flatMap f).length+j<(L.flatMap f).length:=by
 have h1:=n4 (f:=f) h e;rw[x6 e]at h1;exact(x4.1 h1).1
structure bC where
 gone:Int
 mask:Int
 un:Λ
structure bU where
 sc:Λ
 aj:Λ
 live:Int
 cs:Λ
structure xe where
 v:Int
 sc:Λ
 ub:Λ
structure ap where
 zero:Int
 vars:List bC
 funs:List bU
 hr:List xe
def hX(x:bC):Λ:=x.gone::x.mask::x.un
def fy(x:bU):Λ:=x.live::x.cs
def jg(s:ap):Λ:=[s.zero,(s.funs.length:Int),(s.hr.length:Int)]
def ap.cells(s:ap):Λ:=jg s++(s.vars.flatMap hX++s.funs.flatMap fy)
def fY(s:ap)(i:Nat):Nat:=3+((s.vars.take i).flatMap hX).length
def eZ(s:ap)(j:Nat):Nat:=3+((s.vars.flatMap hX).length+((s.funs.take j).flatMap fy).length)
def ON(s:ap):s.cells[0]?=σ s.zero:=rfl
def rz{s:ap}{i:Nat}{x:bC}(h:s.vars[i]?=σ x)(e:j<x.un.length+2):s.cells[fY s i+j]?=(hX x)[j]?:=by
 have a:j<(hX x).length:=e;unfold ap.cells fY;rw[R4,Y8 (by simp[jg]),show(jg s).length=3 from T,R6,Y6 (Dz h a),n4 h a]
def xf{s:ap}{i:Nat}{x:bU}(h:s.funs[i]?=σ x)(a:j<x.cs.length+1):s.cells[eZ s i+j]?=(fy x)[j]?:=by
 have e:j<(fy x).length:=a;unfold ap.cells eZ;rw[R4,R4,Y8 (by simp[jg]),show(jg s).length=3 from T,R6,Y8 Ω,R6,n4 h e]
def OO(s:ap)(c:Int):s.cells.set 0 c=({s with zero:=c}:ap).cells:=rfl
def DA{s:ap}{i:Nat}{x y:bC}(h:s.vars[i]?=σ x)(e:j<x.un.length+2)(f:hX y=(hX x).set j c):s.cells.set (fY s i+j) c=({s with vars:=s.vars.set i y}:ap).cells:=by
 have a:j<(hX x).length:=e;unfold ap.cells fY;rw[R4,T7 _ _ (by simp[jg]),show(jg s).length=3 from T,R6,List.set_append_left _ _ (Dz h a),xd h a f];rfl
def OP{s:ap}{i:Nat}{x y:bU}(h:s.funs[i]?=σ x)(a:j<x.cs.length+1)(e:fy y=(fy x).set j c):s.cells.set (eZ s i+j) c=({s with funs:=s.funs.set i y}:ap).cells:=by
 have f:j<(fy x).length:=a;unfold ap.cells eZ;rw[R4,R4,T7 _ _ (by simp[jg]),show(jg s).length=3 from T,R6,T7 _ _ Ω,R6,xd h f e];show _=jg {s with funs:=s.funs.set i y}++_;unfold jg;rw[c9]
def OQ{s:ap}(x:bU):(s.cells++fy x).set 1 ((s.funs.length+1:Nat):Int)=({s with funs:=s.funs++[x]}:ap).cells:=by
 unfold ap.cells;simp only[List.flatMap_append,List.flatMap_singleton,jg,r9,T2,V1];rfl
def rA(s:ap):s.cells.length=3+((s.vars.flatMap hX).length+(s.funs.flatMap fy).length):=by
 unfold ap.cells;rw[r9,r9];rfl
def rB(a sc:Λ):Λ:=sc.map λv=>a.getD v.toNat 0
def rC(k:Int)(a:Int)(p:bC×Int):Int:=if p.1.gone≠0 then a else min (a+p.1.un.getD p.2.toNat 0) k
def rD(k:Int)(a:Λ)(e:Int)(f:bU):Int:=if f.live≠0 then min (e+bl f.aj f.cs (rB a f.sc)) k else e
def dropped(mask:Int)(v:Int):Bool:=mask.toNat.testBit v.toNat
def iL(p:bC×Int):Bool:=decide (p.1.gone≠0)|| !dropped p.1.mask p.2
def hs(k:Int)(s:ap)(a:Λ):Int:=if(s.vars.zip a).all iL then s.funs.foldl (rD k a) ((s.vars.zip a).foldl (rC k) s.zero)else k
def lE(s:ap)(a:Λ):Prop:=a.length=s.vars.length/\∀(i:Nat)x v,s.vars[i]?=σ x->a[i]?=σ v->x.gone≠0\/(0<=v/\v<x.un.length)
structure bi(k:Int)(sizes:Λ)(s:ap):Prop where
 eg:1<=k/\k<=2147483648
 fz:1<=sizes.length/\sizes.length<=64/\∀z∈sizes,1<=z/\z<=32
 zero:0<=s.zero/\s.zero<=k
 vars:s.vars.length=sizes.length
 var:∀(i:Nat)x z,s.vars[i]?=σ x->sizes[i]?=σ z->x.un.length=z.toNat/\(∀c∈x.un,0<=c/\c<=k)/\0<=x.mask/\x.mask<4294967296
 funs:∀f∈s.funs,fW sizes k (f.sc,f.cs)/\f.aj=bX sizes f.sc/\2<=f.sc.length
def newVar(u:Λ):bC:=⟨0,0,u⟩
def kS(sizes:Λ)(g:cL):bU:=⟨g.1,bX sizes g.1,1,g.2⟩
def dh(n:aG):ap:=⟨n.zero,n.unary.map newVar,n.funs.map (kS n.sizes),[]⟩
def OR{n:aG}(h:kd n):bi n.k n.sizes (dh n):=by
 refine⟨h.k,h.sizes,h.zero,by simp[dh,h.kR],λi x z J e=>?_,λf ae=>?_⟩
 .have J:(n.unary.map newVar)[i]?=σ x:=J;rw[x8]at J;obtain⟨u,hu,rfl⟩:=X1.1 J;have⟨h1,a⟩:=h.unary i z u e hu;exact⟨h1,a,Int.le_refl _,by show(0:Int)<_;omega⟩
 .obtain⟨g,p,rfl⟩:=j5.1 ae;have⟨h1,a⟩:=h.funs g p;exact⟨h1,T,a⟩
def xg{a:Nat}{n:aG}(h:gp w a n):am x7 HN [Γ a] w λv w'=>v=Δ (n.sizes.length:Int)/\Ext w w':=by
 have⟨q,r,s,x,gr,aY,L,nm,szv,gz,fv2,h1,e,f,y,z,A,B⟩:=h;apply az func87;rw[di mS.u];simp only[Z5,a8];rw[aT fN.p 0 h1 T,aT cE.p 2 e T,aW an.u f.ls];exact⟨T,Ext.refl _⟩
def OS{a:Nat}{n:aG}(h:gp w a n):am x7 Iw [Γ a] w λv w'=>v=Δ n.k/\Ext w w':=by
 have⟨f,q,r,s,gr,aY,L,nm,szv,gz,fv2,h1,e,x,y,z,A,B⟩:=h;apply az func153;rw[di mS.u];simp only[Z5,a8];rw[aT fN.p 0 h1 T,aT cE.p 1 e T];exact⟨T,Ext.refl _⟩
def OT{a:Nat}{n:aG}(h:gp w a n):am x7 H8 [Γ a] w λv w'=>v=Δ n.zero/\Ext w w':=by
 have⟨e,f,q,r,gr,aY,L,nm,szv,gz,fv2,h1,s,x,y,z,A,B⟩:=h;apply az func125;rw[di mS.u];simp only[Z5,a8];rw[aT fN.p 1 h1 T];exact⟨T,Ext.refl _⟩
def DB{a:Nat}{n:aG}(h:gp w a n):am x7 z1 [Γ a] w λv w'=>v=Δ (n.funs.length:Int)/\Ext w w':=by
 have⟨q,r,s,x,gr,aY,L,nm,szv,gz,fv2,h1,y,z,A,B,e,f⟩:=h;apply az func128;rw[di mS.u];simp only[Z5,a8];rw[aT fN.p 3 h1 T,eF lf.u e.1];exact⟨by rw[<-f,r8],Ext.refl _⟩
def DC{x:Nat}{n:aG}{i:Int}(h:gp w x n)(f:kd n):am x7 H9 [Γ x,Δ i] w λv w'=>Ext w w'/\(¬(0<=i/\i<n.sizes.length)->v= .slice ν 0 0)/\
  ∀u,0<=i->n.unary[i.toNat]?=σ u->∃g,w.heap.size<=g/\av .i64 aq w' g v u:=by
 apply az func126;have K:=f.kR;refine aV (λv V=>v= .bool (decide (¬(0<=i/\i<n.sizes.length)))/\Ext w V) ?_ ?_
 .rintro _ V ⟨rfl,e⟩;rw[al];refine⟨λE=>⟨e,λ_=>rfl,λu G hu=>?_⟩,λq=>?_⟩
  .have:=(x4.1 hu).1;exact absurd ⟨G,Ω⟩ E
  have q:0<=i/\i<n.sizes.length:=Z9.1 q;have⟨M,N,O,P,gr,aY,L,nm,szv,gz,fv2,h1,Q,R,r,y,S,U⟩:=h.ext e;have W:aY.length=n.unary.length:=by rw[<-y,r8]
  have⟨a,s⟩:=aH (l:=aY) (i:=i.toNat) Ω;have⟨X,hm⟩:=r.2 a (x5 s);rw[aT fN.p 2 h1 T,dw (i:=i.toNat) Ω dZ.u ay.i r.1 Ω,ax (o:=i.toNat*1) Ψ (r.1.range s 0 _ T)];have A:n.unary[i.toNat]?=σ a.l:=by rw[<-y,x8,s];rfl
  have Y:a.l.length<=32:=by
   have⟨z,B⟩:=aH (l:=n.sizes) (i:=i.toNat) Ω;have Z:=(f.unary i.toNat z a.l B A).1;have ab:=f.sizes.2.2 z (x5 B);omega
  apply(vX hm.ls Ω).mono;rintro v aa _ ⟨H,g,ac,I⟩;refine⟨e.trans H,λJ=>absurd q J,λu _ hu=>⟨g,by have:=e.size;omega,?_⟩⟩;rw[A]at hu;cases hu;exact I
 .intro aA C;rw[aP,al];refine⟨λad=>C _ _ ⟨by rw[decide_eq_true];omega,Ext.refl _⟩,λae=>?_⟩;apply(xg h).mono;rintro _ V _ ⟨rfl,e⟩;rw[cO];refine C _ _ ⟨?_,e⟩;congr 1;rw[U1,decide_eq_true_eq,decide_eq_true_eq];omega
def DD{p:Nat}{n:aG}{i:Int}(h:gp w p n)(a:kd n):am x7 HS [Γ p,Δ i] w λv w'=>Ext w w'/\v=Δ (if 0<=i then n.sizes.getD i.toNat 0 else 0):=by
 apply az func92;apply(DC h a).mono;rintro v V _ ⟨q,s,x⟩;by_cases e:0<=i/\i<n.sizes.length
 .have y:=a.kR;have⟨u,hu⟩:=aH (l:=n.unary) (i:=i.toNat) Ω;have⟨z,f⟩:=aH (l:=n.sizes) (i:=i.toNat) Ω;have⟨g,_,hm⟩:=x u e.1 hu;rw[aW ay.u hm.ls];refine⟨q,?_⟩;have A:=(a.unary i.toNat z u f hu).1;have B:=a.sizes.2.2 z (x5 f);rw[if_pos e.1,u4,f];congr 1;simp only[V4];omega
 .rw[s e,hI ay.u];refine⟨q,?_⟩;by_cases r:0<=i
  .rw[if_pos r,u4,Z2 Ω];rfl
  .rw[if_neg r];rfl
def DE{a:Nat}{n:aG}{j:Int}(h:gp w a n)(f:∀w',Ext w w'->K (.bool (decide (¬(0<=j/\j<n.funs.length)))) w'):
  ac x7 (aO .lss ah false true (Δ j) (Δ 0)) w λq=>Split q (K (.bool true) w) (am x7 z1 [Γ a] w λr p=>ac x7 (aO .geq ah false false (Δ j) r) p λs=>K s p):=by
 rw[aP,al];refine⟨λy=>?_,λz=>?_⟩
 .have:=f w (Ext.refl _);rw[decide_eq_true (show¬(0<=j/\j<n.funs.length) by omega)]at this;exact this
 .refine (DB h).mono ?_;rintro _ V _ ⟨rfl,x⟩;rw[cO];have:=f V x;have e:decide ((n.funs.length:Int)<=j)=decide (¬(0<=j/\j<n.funs.length)):=by
   rw[U1,decide_eq_true_eq,decide_eq_true_eq];omega
  rw[<-e]at this;exact this
def OU{s:Nat}{n:aG}{g:cL}(h:gp w s n)(z:kd n)(e:n.funs[j]?=σ g):am x7 Ib [Γ s,Δ (j:Int)] w λv w'=>Ext w w'/\∃gs,w.heap.size<=gs/\av .i64 ah w' gs v g.1:=by
 apply az func130;have E:=(x4.1 e).1;refine aV (λv V=>v= .bool (decide (¬(0<=(j:Int)/\(j:Int)<n.funs.length)))/\Ext w V) ?_ λaA A=>DE h λw' J=>A _ _ ⟨T,J⟩;rintro _ V ⟨rfl,f⟩;rw[decide_eq_false Ω,a8];have⟨G,H,I,K,gr,aY,L,nm,szv,gz,fv2,h1,M,N,O,P,q,x⟩:=h.ext f;have Q:L.length=n.funs.length:=by rw[<-x,r8]
 have⟨a,r⟩:=aH (l:=L) (i:=j) Ω;have y:dX a=g:=by rw[<-x,x8,r]at e;exact b9 e
 have⟨⟨R,hm⟩,_⟩:=q.2 a (x5 r);rw[aT fN.p 3 h1 T,dw T lf.u hF.i q.1 Ω,aU hF.p T,ax Ψ (q.1.range r 0 _ T)];have S:a.sc.length<=6:=by
  have:=(z.funs g (x5 e)).1.scope.2;rw[<-y]at this;exact this
 apply(kH hm.ls Ω).mono;rintro v aa _ ⟨B,gs,U,C⟩;refine⟨f.trans B,gs,by have:=f.size;omega,?_⟩;rw[<-y];exact C
def OV{g:Nat}{cs:Λ}(h:dk w g B sv aj k cs):am x7 I7 [Γ g] w λv w'=>Ext w w'/\∃a e,v=Γ a/\w.heap.size<=a/\w.heap.size<=e/\dk w' a e sv aj k cs:=by
 have⟨⟨a7,gs,C,hm,E⟩,⟨h1,J,G⟩,U,x⟩:=h;apply az func211;rw[di eV.u];simp only[Z5,a8];intro V f _ _;have r:=C.ext f;have K:=prod_bound U;rw[bZ,aU cX.p T,bR (cs:=[sv]) bF.p bF.i T (oa r (by
  intro j v ad
  match j,ad with
  |0,ad=>exact ad)),aT cX.p 1 r T,aT cX.p 2 r T]
 apply(vX (E.ls.ext f) Ω).mono;rintro y aa _ ⟨s,e,L,q⟩;refine⟨.inl s,?_⟩;rw[cY (cs:=#[sv,Δ k,y]) (by obtain⟨_,_,_,rfl⟩:=da hm.ls;obtain⟨_,_,_,rfl⟩:=da q.ls;kernel_rfl)];refine bd λa M N z H=>?_;have O:=f.size;have P:=s.size;have Q:=q;have A:=(f.trans s).trans z;refine⟨A,a,e,T,Ω,Ω,⟨y,gs,H,hm.ext A,q.ext z⟩,⟨?_,?_,G⟩,U,x⟩
 .have:=tM q (by rw[x];omega);omega
 .intro I;have⟨R,S⟩:=bS hm I;omega
def OW{z:Nat}{n:aG}{g:cL}(A:gp w0 z n)(B:Ext w0 w)(f:n.funs[j]?=σ g):am x7 Ic [Γ z,Δ (j:Int)] w λv w'=>Ext w w'/\∃gt q sv,v=Γ gt/\w.heap.size<=gt/\w.heap.size<=q/\dk w' gt q sv (bX n.sizes g.1) n.k g.2/\∀r,leads sv r->∃c,ag w0 r ah c:=by
 have h:=A.ext B;apply az func131;have S:=(x4.1 f).1;refine aV (λv V=>v= .bool (decide (¬(0<=(j:Int)/\(j:Int)<n.funs.length)))/\Ext w V) ?_ λaA I=>DE h λw' J=>I _ _ ⟨T,J⟩;rintro _ V ⟨rfl,s⟩;rw[decide_eq_false Ω,a8];have e:=B.trans s;have⟨U,W,X,Y,gr,aY,L,nm,szv,gz,fv2,h1,Z,ab,ac,ae,x,C⟩:=A;have af:L.length=n.funs.length:=by rw[<-C,r8]
 have⟨a,y⟩:=aH (l:=L) (i:=j) Ω;have K:dX a=g:=by rw[<-C,x8,y]at f;exact b9 f
 have⟨_,q,M,E⟩:=x.2 a (x5 y);rw[aT fN.p 3 (h1.ext e) T,dw T lf.u hF.i (x.1.ext e) Ω,aU hF.p T,ax Ψ ((x.1.ext e).range y 1 _ T)];apply(OV (E.ext e)).mono;rintro v aa _ ⟨N,gt,O,rfl,ai,aj,P⟩;have ak:=s.size;refine⟨s.trans N,gt,O,M,T,Ω,Ω,?_,λr G=>?_⟩
 .rw[<-K];exact P
 .obtain⟨⟨_,_,_,hm,_⟩,_⟩:=E;have⟨Q,_⟩:=bS hm G;rcases hm.2 with⟨ad,_⟩|⟨_,cs,_,R,_⟩
  .obtain⟨_,_,_,H,al⟩:=G;rw[ad]at H;cases H
  .exact⟨cs,Q▸R⟩
structure pX where
 aK:x1
 szv:x1
 at_:Nat
def oE(x:pX):List x1:=[x.aK,x.szv,Δ (x.at_:Int)]
structure rE where
 v:Int
 aK:x1
 bv:x1
def OX(x:rE):List x1:=[Δ x.v,x.aK,x.bv]
def iM(s:ap):Λ:=(Y1 s.vars.length).map λi=>(fY s i:Int)
def jh(R:ak)(w:x3)(v:x1)(l:Λ):Prop:=(∃g,av .i64 ah w g v l)/\∀r,leads v r->R r
def jh.ls{R:ak}(h:jh R w v l):aI .i64 w v l:=by
 have⟨⟨g,h⟩,_⟩:=h;exact h.ls
def jh.ab{R S:ak}(h:jh R w v l)(f:ai S w w')(p:∀r,r<w.heap.size->R r->¬S r):jh R w' v l:=by
 have⟨⟨g,h1⟩,a⟩:=h;exact⟨⟨g,bw h1 f λr e=>p r (by have⟨q,s⟩:=bS h1 e;omega) (a r e)⟩,a⟩
def jh.mono{R R':ak}(h:jh R w v l)(a:∀r,R r->R' r):jh R' w v l:=⟨h.1,λr e=>a r (h.2 r e)⟩
def lF(R:ak)(w:x3)(L:List pX)(s:ap):Prop:=L.length=s.funs.length/\∀(j:Nat)x f,L[j]?=σ x->s.funs[j]?=σ f->jh R w x.aK f.sc/\jh R w x.szv f.aj/\x.at_=eZ s j
def mv(R:ak)(w:x3)(E:List rE)(s:ap):Prop:=E.length=s.hr.length/\∀(j:Nat)x e,E[j]?=σ x->s.hr[j]?=σ e->x.v=e.v/\jh R w x.aK e.sc/\jh R w x.bv e.ub
def lF.ab{R S:ak}{L:List pX}{s:ap}(h:lF R w L s)(a:ai S w w')(e:∀r,r<w.heap.size->R r->¬S r):lF R w' L s:=⟨h.1,λj x f J ae=>by
 have⟨h1,p,q⟩:=h.2 j x f J ae;exact⟨h1.ab a e,p.ab a e,q⟩⟩
def mv.ab{R S:ak}{E:List rE}{s:ap}(h:mv R w E s)(a:ai S w w')(e:∀r,r<w.heap.size->R r->¬S r):mv R w' E s:=⟨h.1,λj x f J ae=>by
 have⟨h1,p,q⟩:=h.2 j x f J ae;exact⟨h1,p.ab a e,q.ab a e⟩⟩
def lF.mono{R R':ak}{L:List pX}{s:ap}(h:lF R w L s)(a:∀r,R r->R' r):lF R' w L s:=⟨h.1,λj x f J ae=>by
 have⟨h1,e,p⟩:=h.2 j x f J ae;exact⟨h1.mono a,e.mono a,p⟩⟩
def mv.mono{R R':ak}{E:List rE}{s:ap}(h:mv R w E s)(a:∀r,R r->R' r):mv R' w E s:=⟨h.1,λj x f J ae=>by
 have⟨h1,e,p⟩:=h.2 j x f J ae;exact⟨h1,e.mono a,p.mono a⟩⟩
def uf{a b c:x3}(h:Ext a b)(k:ai S b c)(f:∀r o,a.heap[r]?=σ o->fH o=true->¬S r):Ext a c:=
 ⟨Y9 h.size k.size,λr o e U=>k.a6 r o (h.a6 r o e U) U (f r o e U)⟩
def dz.cut{A:ak}{t:aD}(h:dz w gT A t):dz w gT (λr=>A r/\r<w.heap.size) t:=by
 have⟨x,y,go,dm,a7,z,dG,h1,e,f,p,B⟩:=h;refine⟨⟨x,h1.lt⟩,y,go,dm,a7,z,dG,h1,e,f,p,λr a=>⟨B r a,?_⟩⟩;rcases a with a|a|a
 .obtain⟨q,s⟩:=e.leads a;omega
 .obtain⟨q,s⟩:=f.leads a;omega
 .obtain⟨q,s⟩:=p.leads a;omega
def eS(w:x3)(af gT p:Nat)(e f h:x1)(A R:ak)(n:aG)(s:ap)(t:aD):Prop:=
 (A af/\(∀r,A r->¬R r)/\(∀r,R r->r<w.heap.size)/\∀r,A r->r<w.heap.size)/\∃a1 q ge,∃(L:List pX)(E:List rE)(a:ak)(w0:x3),
  ag w af cI [Γ p,Γ gT,e,f,h]/\(gp w0 p n/\Ext w0 w/\∀r o,w0.heap[r]?=σ o->fH o=true->R r)/\
  (dz w gT a t/\(∀r,a r->A r)/\¬a af/\∀r,leads e r\/leadsTo f r\/leadsTo h r->A r/\¬a r)/\av .i64 ah w a1 e (iM s)/\
  (bk oE 3 fo w q f L/\lF R w L s)/\bk OX 3 vN w ge h E/\mv R w E s
def eS.ab{S:ak}{C F G:x1}{A R:ak}{n:aG}{s:ap}{t:aD}(h:eS w af gT B C F G A R n s t)(e:ai S w w')(f:∀r,r<w.heap.size->A r\/R r->¬S r):eS w' af gT B C F G A R n s t:=by
 have⟨⟨h1,p,W,X⟩,a1,Y,ge,L,E,Z,w0,H,⟨aa,I,J⟩,⟨ac,q,ad,x⟩,K,⟨M,ae⟩,N,ag⟩:=h;have z:=e.size;refine⟨⟨h1,p,λr a=>by have:=W r a;omega,λr a=>by have:=X r a;omega⟩,a1,Y,ge,L,E,Z,w0,H.ab e (f _ H.lt (.inl h1)),⟨aa,uf I e λr o a ah U=>f r (by have:=I.size;have:=(j4.1 a).1;omega) (.inr (J r o a ah)) U,J⟩,
  ⟨?_,q,ad,x⟩,bw K e λr a U=>f r ?_ (.inl (x r (.inl a)).1) U,⟨M.ab e λr a U=>f r ?_ (.inl (x r (.inr (.inl a))).1) U,ae.ab e λr a h=>f r a (.inr h)⟩,N.ab e λr a U=>f r ?_ (.inl (x r (.inr (.inr a))).1) U,ag.ab e λr a h=>f r a (.inr h)⟩
 .obtain⟨O,aj,go,dm,a7,al,dG,P,Q,T,V,y⟩:=ac;refine⟨O,aj,go,dm,a7,al,dG,P.ab e (f _ P.lt (.inl (q _ O))),Q.ab e λr a U=>?_,T.ab e λr a U=>?_,V.ab e λr a U=>?_,y⟩
  .exact f r (by have⟨h1,p⟩:=Q.leads a;omega) (.inl (q _ (y r (.inl a)))) U
  .exact f r (by have⟨h1,p⟩:=T.leads a;omega) (.inl (q _ (y r (.inr (.inl a))))) U
  .exact f r (by have⟨h1,p⟩:=V.leads a;omega) (.inl (q _ (y r (.inr (.inr a))))) U
 .obtain⟨h1,p⟩:=bS K a;omega
 .obtain⟨h1,p⟩:=M.leads a;omega
 .obtain⟨h1,p⟩:=N.leads a;omega
def eS.ext{a:Nat}{e f p:x1}{A R:ak}{n:aG}{s:ap}{t:aD}(h:eS w af gT a e f p A R n s t)(J:Ext w w'):eS w' af gT a e f p A R n s t:=h.ab (J.ab λ_=>False) λ_ _ _ h=>h
def eS.rF{F:Nat}{G H I:x1}{A R:ak}{n:aG}{s:ap}{t:aD}(h:eS w af gT F G H I A R n s t):∃x,dz w gT x t/\∀q w' bt,Grow x w q w'->dz w' gT q bt->∃aR,Grow A w aR w'/\eS w' af gT F G H I aR R n s bt:=by
 have⟨⟨h1,f,J,K⟩,a1,X,ge,L,E,x,w0,M,⟨Y,Z,N⟩,⟨aa,p,O,y⟩,P,⟨Q,ac⟩,S,ad⟩:=h;refine⟨x,aa,λT w' bt z ae=>?_⟩;have V:=ae.cut;have e:Grow x w (λr=>T r/\r<w'.heap.size) w':=⟨z.1,λr a=>z.2.1 r a.1,λr a=>⟨z.2.2 r a,by have:=K r (p r a);have:=z.1.size;omega⟩⟩;obtain⟨q,W⟩:∃B:ak,B=λr=>T r/\r<w'.heap.size:=⟨_,rfl⟩;rw[<-W]at V e;have ag:∀r,q r->r<w'.heap.size:=λr h=>by rw[W]at h;exact h.2
 refine⟨λr=>A r\/q r,⟨e.1.mono λr _ a=>p r a,λr a=>?_,λr a=>.inl a⟩,⟨.inl h1,λr a C=>?_,λr a=>?_,λr a=>?_⟩,a1,X,ge,L,E,q,w0,M.ab e.1 O,⟨Y,uf Z e.1 λr o a ah U=>f r (p r U) (N r o a ah),N⟩,
  ⟨V,λr a=>.inr a,λa=>?_,λr a=>⟨.inl (y r a).1,λai=>?_⟩⟩,bw P e.1 λr a U=>(y r (.inl a)).2 U,⟨Q.ab e.1 λr a U=>(y r (.inr (.inl a))).2 U,ac.ab e.1 λr _ a U=>f r (p r U) a⟩,S.ab e.1 λr a U=>(y r (.inr (.inr a))).2 U,ad.ab e.1 λr _ a U=>f r (p r U) a⟩
 .rcases a with a|a
  .exact .inl a
  .exact (e.2.1 r a).imp (p r) id
 .have:=J r C;rcases a with a|a
  .exact f r a C
  .rcases e.2.1 r a with h|h
   .exact f r (p r h) C
   .omega
 .have:=J r a;have:=e.1.size;omega
 .rcases a with a|a
  .have:=K r a;have:=e.1.size;omega
  .exact ag r a
 .rcases e.2.1 _ a with h|h
  .exact O h
  .have:=M.lt;omega
 .rcases e.2.1 r ai with h|h
  .exact (y r a).2 h
  .rcases a with a|a|a
   .obtain⟨h1,f⟩:=bS P a;omega
   .obtain⟨h1,f⟩:=Q.leads a;omega
   .obtain⟨h1,f⟩:=S.leads a;omega
def StateM(w:x3)(af gT:Nat)(A R:ak)(n:aG)(s:ap)(t:aD):Prop:=∃a e f h,eS w af gT a e f h A R n s t
def StateM.ab{S:ak}{A R:ak}{n:aG}{s:ap}{t:aD}(h:StateM w af gT A R n s t)(a:ai S w w')(e:∀r,r<w.heap.size->A r\/R r->¬S r):StateM w' af gT A R n s t:=by
 have⟨f,p,q,x,h⟩:=h;exact⟨f,p,q,x,h.ab a e⟩
def StateM.ext{A R:ak}{n:aG}{s:ap}{t:aD}(h:StateM w af gT A R n s t)(J:Ext w w'):StateM w' af gT A R n s t:=h.ab (J.ab λ_=>False) λ_ _ _ h=>h
def StateM.rF{A R:ak}{n:aG}{s:ap}{t:aD}(h:StateM w af gT A R n s t):∃a,dz w gT a t/\∀e w' bt,Grow a w e w'->dz w' gT e bt->∃aR,Grow A w aR w'/\StateM w' af gT aR R n s bt:=by
 have⟨f,p,q,r,h⟩:=h;have⟨a,h1,x⟩:=h.rF;exact⟨a,h1,λe w' bt y z=>by
  have⟨aR,B,C⟩:=x e w' bt y z;exact⟨aR,B,f,p,q,r,C⟩⟩
def oF(s s':ap):Prop:=iM s'=iM s/\s'.funs.length=s.funs.length/\(∀(j:Nat)a,s'.funs[j]?=σ a->∃f,s.funs[j]?=σ f/\a.sc=f.sc/\a.aj=f.aj/\eZ s' j=eZ s j)/\s'.hr=s.hr
def eS.same{a:Nat}{e p q:x1}{A R:ak}{n:aG}{s s':ap}{t:aD}(h:eS w af gT a e p q A R n s t)(U:oF s s'):eS w af gT a e p q A R n s' t:=by
 have⟨aB,a1,y,ge,L,E,z,w0,B,C,F,G,⟨H,r⟩,I,K⟩:=h;have⟨M,N,O,P⟩:=U;refine⟨aB,a1,y,ge,L,E,z,w0,B,C,F,by rw[M];exact G,⟨H,r.1.trans N.symm,λj x Q J S=>?_⟩,I,?_⟩
 .obtain⟨f,ae,T,V,W⟩:=O j Q S;rw[T,V,W];exact r.2 j x f J ae
 .unfold mv;rw[P];exact K
def StateM.same{A R:ak}{n:aG}{s s':ap}{t:aD}(h:StateM w af gT A R n s t)(U:oF s s'):StateM w af gT A R n s' t:=by
 have⟨a,e,f,p,h⟩:=h;exact⟨a,e,f,p,h.same U⟩
theorem ug{α β:Type}{f:α->List β}:∀{L:List α}{i j:Nat}{a b:α},L[i]?=σ a->(f b).length=(f a).length->(((L.set i b).take j).flatMap f).length=((L.take j).flatMap f).length
 |[],_,_,_,_,h,_=>by simp at h
 |x::L,0,j,a,b,h,e=>by
  cases h;cases j with
  |zero=>rfl
  |succ j=>simp[e]
 |x::L,i+1,j,a,b,h,e=>by
  have h:L[i]?=σ a:=by simpa using h
  cases j with
  |zero=>rfl
  |succ j=>
   rw[List.set_cons_succ,List.take_succ_cons,List.take_succ_cons,X8,X8,r9,r9,ug h e]
def DF(s:ap)(c:Int):oF s {s with zero:=c}:=⟨T,T,λj f h=>⟨f,h,T,T,T⟩,T⟩
def DG{s:ap}{i:Nat}{x y:bC}(J:s.vars[i]?=σ x)(a:y.un.length=x.un.length):oF s {s with vars:=s.vars.set i y}:=by
 have ae:(hX y).length=(hX x).length:=by simp[hX,a]
 refine⟨?_,T,λj f h=>⟨f,h,T,T,?_⟩,T⟩
 .unfold iM;rw[show({s with vars:=s.vars.set i y}:ap).vars.length=s.vars.length from c9];apply List.map_congr_left;intro j _;unfold fY;rw[ug J ae]
 .unfold eZ;have:=ug (j:=s.vars.length) J ae;rw[b8 Ξ,b8 (o4 _)]at this;show 3+(((s.vars.set i y).flatMap hX).length+_)=_;rw[this]
def OY{s:ap}{i:Nat}{x y:bU}(J:s.funs[i]?=σ x)(p:y.cs.length=x.cs.length)(h1:y.sc=x.sc)(q:y.aj=x.aj):oF s {s with funs:=s.funs.set i y}:=by
 have ae:(fy y).length=(fy x).length:=by simp[fy,p]
 refine⟨T,c9,λj f h=>?_,T⟩;have h:(s.funs.set i y)[j]?=σ f:=h;have e:eZ {s with funs:=s.funs.set i y} j=eZ s j:=by
  unfold eZ;show 3+(_+(((s.funs.set i y).take j).flatMap fy).length)=_;rw[ug J ae]
 by_cases a:i=j
 .subst a;rw[c8 (x4.1 J).1]at h;cases h;exact⟨x,J,h1,q,e⟩
 .rw[Y2 a]at h;exact⟨f,h,T,T,e⟩
end Go.Proofs.YtikkpokkcdocoabGreatDoor
