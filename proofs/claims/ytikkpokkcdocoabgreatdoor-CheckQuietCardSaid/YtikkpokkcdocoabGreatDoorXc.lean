/- own texts, made small by a tool (wip/ holds them as they were written): no statement of the seat. -/
import Derived.Test.YtikkpokkcdocoabGreatDoorXb
set_option linter.unusedVariables false
set_option linter.unusedSimpArgs false
set_option linter.unnecessarySimpa false
open Array renaming getElem?_eq_some_iff→j4,getElem?_toList→S9
open Bool renaming not_true→Y7,not_false→V0,eq_iff_iff→V9,or_eq_false_iff→S7
open Decidable renaming not_not→Y0
open Go renaming Value→x1,World→x3,TypeId→p8,IntKind→o6,Builtin→Z6,Program→W8,FuncId→R7
open Go.Addr renaming add_mid→T3
open Go.Builtin renaming append_→Z2,len_→V2
open Go.Instr renaming loadAt→u5,fieldAt→u6,storeAt→o9,indexAt→c9,extract→Y1,buildSlice→Y3,sliceAt→U3
open Go.IntKind renaming i64→X9
open Go.Proofs.Tryz renaming prog→x7
open Go.Value renaming int→V5
open Int renaming toNat_natCast→r9
open List renaming getElem?_eq_some_iff→x4,mem_of_getElem?→x5,getElem?_eq_getElem→x6,getElem?_map→x8,getD_eq_getElem?_getD→u4,take_add_one→u7,length_map→u9,length_append→r8,replicate→p9,mem_append→o5,take_length→o7,length_take→n9,mem_singleton→l9,mem_map→j5,take_of_length_le→j6,length_cons→j9,eq_nil_of_length_eq_zero→c8,length_set→b8,getElem?_set_self→b9,map_append→Z3,getElem?_eq_none→Z4,getElem?_take_of_lt→Z9,getElem?_set_ne→Y4,ext_getElem?→Y5,append_assoc→Y6,getElem?_append_left→Y9,getElem?_append_right→X0,getElem?_set→X2,range→X3,append_nil→X5,mem_iff_getElem?→X7,flatMap_cons→W0,drop_eq_getElem_cons→W3,mem_or_eq_of_mem_set→W5,length_eq_one_iff→W9,mem_cons→V4,length_singleton→V6,pairwise_iff_getElem→V8,mem_filter→U5,map_set→U9,map_cons→T1,getElem_mem→T2,mem_range→T6,set_append_right→T8,length_filter_le→T9,mem_of_mem_take→S0,length→S5,flatMap_append→S8,map_map→R4
open Nat renaming le_refl→o4,le_trans→Y8,mul_le_mul_right→X1,zero_le→X6,zero_add→X8,add_mul→U4,mul_one→U7,sub_self→U8,add_assoc→R5,add_sub_cancel_left→R6,lt_of_lt_of_le→Q1,eq_zero_or_pos→Q2
open Option renaming toList_some→o8,some→c7,isNone_some→Z5,map_some→Z7,map_eq_some_iff→X4,getD_some→V1,map→V7
open Option.some renaming inj→Z0,injEq→Y2
open Prod.mk renaming injEq→T5
set_option maxHeartbeats 16000000
open Option renaming some→σ,none→ν
variable{a aj l scope sizes t:Λ}{bg bv sv v:x1}{c k y:Int}{B N ae gT gs j n r:Nat}{cs:List x1}{w w' w0:x3}{e:p8}{S:Nat->Prop}{K:x1->x3->Prop}
namespace Go.Proofs.YtikkpokkcdocoabGreatDoor
open Go Go.Vc Go.RowKit Go.Proofs Go.Proofs.Tryz
set_option maxRecDepth 100000
def kI(l:Λ):Prop:=∀v∈l,0<=v/\v<64
theorem q7(h:kI l){v:Int}:v∈bn l↔v∈l:=by
 unfold bn;rw[U5,decide_eq_true_eq];refine⟨λh=>h.2,λad=>⟨?_,ad⟩⟩;obtain⟨h1,a⟩:=h v ad;exact j5.2 ⟨v.toNat,T6.2 Ω,Ω⟩
theorem Mt(l:Λ):kI (bn l):=λv ad=>by
 obtain⟨n,a,rfl⟩:=j5.1 (U5.1 ad).1;have:=T6.1 a;omega
theorem wO(l:Λ):(bn l).Pairwise (·< ·):=by
 unfold bn;refine List.Pairwise.filter _ ?_;rw[List.pairwise_map];exact List.pairwise_lt_range.imp λh=>Ω
theorem CA(l:Λ):(bn l).Nodup:=(wO l).imp λh=>Ω
where
 nodup_le' {a b:Λ} (h:a.Nodup) (U:∀x∈a,x∈b):a.length<=b.length:=by
  induction a generalizing b with
  |nil=>exact X6 _
  |cons x a ih=>
   have h':=List.nodup_cons.1 h;have J:=U x (.head _);have:=ih (b:=b.erase x) h'.2 λy hy=>(List.mem_erase_of_ne (λ(he:y=x)=>h'.1 (by rw[<-he];exact hy))).2 (U y (.tail _ hy));rw[List.length_erase_of_mem J]at this;have:=List.length_pos_of_mem J;rw[j9];omega
theorem CB(n:Nat):(0:Int)<64 ^ n:=Int.pow_pos Ω
theorem tA:∀(l:Λ),kI l->0<=jv l/\jv l<64 ^ l.length
 |[],_=>by simp[jv]
 |x::l,h=>by
  have f:=tA l λy a=>h y (.tail _ a);have J:=h x (.head _);have p:=CB l.length;simp only[jv,j9];have e:(64:Int) ^ (l.length+1)=64*64 ^ l.length:=by rw[Int.pow_succ,Int.mul_comm]
  have h1:x*64 ^ l.length<=63*64 ^ l.length:=Int.mul_le_mul_of_nonneg_right Ω Ω;have q:0<=x*64 ^ l.length:=Int.mul_nonneg J.1 Ω;rw[e];omega
def gd:Λ->Λ->Int
 |x::a,y::b=>if x<y then-1 else if y<x then 1 else gd a b
 |[],[]=>0
 |[],_::_=>-1
 |_::_,[]=>1
theorem CC:∀(a b:Λ),a.length=b.length->kI a->kI b->(gd a b<0↔jv a<jv b)/\(gd a b=0↔a=b)/\(jv a=jv b->a=b)
 |[],[],_,_,_=>by simp[gd]
 |[],_::_,h,_,_=>by simp at h
 |_::_,[],h,_,_=>by simp at h
 |x::a,y::b,h,w,A=>by
  have q:a.length=b.length:=by simpa using h
  have r:kI a:=λz e=>w z (.tail _ e);have s:kI b:=λz e=>A z (.tail _ e);have f:=CC a b q r s;have B:=tA a r;have E:=tA b s;have F:=CB b.length;simp only[gd,jv];rw[q]at B ⊢;have step:∀u v:Int,u<v->u*64 ^ b.length+64 ^ b.length<=v*64 ^ b.length:=λu v G=>by
   have:=Int.mul_le_mul_of_nonneg_right (show u+1<=v by omega) (show(0:Int)<=64 ^ b.length by omega);rw[Int.add_mul,Int.one_mul]at this;exact this
  by_cases h1:x<y
  .rw[if_pos h1];have:=step x y h1;exact⟨⟨λ_=>Ω,λ_=>Ω⟩,⟨λh=>Ω,λh=>by have:=(List.cons.inj h).1;omega⟩,λh=>Ω⟩
  .rw[if_neg h1];by_cases p:y<x
   .rw[if_pos p];have:=step y x p;exact⟨⟨λh=>Ω,λh=>Ω⟩,⟨λh=>Ω,λh=>by have:=(List.cons.inj h).1;omega⟩,λh=>Ω⟩
   .rw[if_neg p];have C:x=y:=Ω
    subst C;exact⟨f.1.trans ⟨λh=>Ω,λh=>Ω⟩,f.2.1.trans ⟨λh=>by rw[h],λh=>(List.cons.inj h).2⟩,λh=>by rw[f.2.2 Ω]⟩
def jx(l:Λ):Prop:=kI l/\l.length<=6
theorem CD(h:jx l):0<=jv l/\jv l<64 ^ 6:=by
 have:=tA l h.1;have e:(64:Int) ^ l.length<=64 ^ 6:=by
  have a:=h.2
  match l.length,a with
  |0,_=>decide
  |1,_=>decide
  |2,_=>decide
  |3,_=>decide
  |4,_=>decide
  |5,_=>decide
  |6,_=>decide
  |n+7,h=>omega
 omega
theorem wP{b:Λ}(p:jx a)(q:jx b):(dd a<dd b↔a.length<b.length\/(a.length=b.length/\gd a b<0))/\(dd a=dd b->a=b):=by
 have h1:=CD p;have r:=CD q;have e:(64:Int) ^ 6=68719476736:=Φ
 rw[e]at h1 r;unfold dd;rw[e];by_cases f:a.length=b.length
 .have:=CC a b f p.1 q.1;rw[f];exact⟨⟨λh=>.inr ⟨rfl,this.1.2 Ω⟩,λh=>by
   rcases h with h|⟨_,h⟩
   .omega
   .have:=this.1.1 h;omega⟩,λh=>this.2.2 Ω⟩
 .exact⟨⟨λh=>.inl Ω,λh=>by
   rcases h with h|⟨h,_⟩
   .omega
   .exact absurd h f⟩,λh=>Ω⟩
theorem tB(g:cM):∀l:List cM,(hB g l).Perm (g::l)
 |[]=>List.Perm.refl _
 |h::l=>by
  unfold hB;split
  .exact ((tB g l).cons h).trans (List.Perm.swap g h l)
  .exact List.Perm.refl _
theorem CE{g:cM}:∀{l:List cM},l.Pairwise (λa b=>dd a.1<dd b.1)->(∀h∈l,dd h.1≠dd g.1)->(hB g l).Pairwise (λa b=>dd a.1<dd b.1)
 |[],_,_=>by simp[hB]
 |h::l,f,p=>by
  have e:=List.pairwise_cons.1 f;unfold hB;split
  .rename_i q;refine List.pairwise_cons.2 ⟨λx J=>?_,CE e.2 λx J=>p x (.tail _ J)⟩;rcases V4.1 ((tB g l).mem_iff.1 J)with rfl|J
   .exact q
   .exact e.1 x J
  .rename_i r;have:=p h (.head _);refine List.pairwise_cons.2 ⟨λx J=>?_,f⟩;rcases V4.1 J with rfl|J
   .omega
   .have:=e.1 x J;omega
theorem CF:∀(l acc:List cM),acc.Pairwise (λa b=>dd a.1<dd b.1)->l.Pairwise (λa b=>dd a.1≠dd b.1)->(∀a∈acc,∀b∈l,dd a.1≠dd b.1)->
  (l.foldl (λl g=>hB g l) acc).Pairwise (λa b=>dd a.1<dd b.1)/\(l.foldl (λl g=>hB g l) acc).Perm (acc++l)
 |[],acc,h,_,_=>⟨h,Ξ⟩
 |g::l,acc,h,r,f=>by
  have p:=List.pairwise_cons.1 r;have:=CF l (hB g acc) (CE h λa e=>f a e g (.head _)) p.2 λa e b q=>by
   rcases V4.1 ((tB g acc).mem_iff.1 e)with rfl|e
   .exact p.1 b q
   .exact f a e b (.tail _ q)
  refine⟨this.1,this.2.trans ?_⟩;exact((tB g acc).append_right l).trans (List.perm_middle (a:=g) (l₁:=acc) (l₂:=l)).symm
theorem wQ{α:Type}{f:α->Int}:∀{L M:List α},L.Pairwise (λa b=>f a<f b)->M.Pairwise (λa b=>f a<f b)->(∀x,x∈L↔x∈M)->L=M
 |[],M,_,_,h=>by
  cases M with
  |nil=>rfl
  |cons y M=>exact absurd ((h y).2 (.head _)) Ξ
 |x::L,[],_,_,h=>absurd ((h x).1 (.head _)) Ξ
 |x::L,y::M,h1,r,h=>by
  have p:=List.pairwise_cons.1 h1;have q:=List.pairwise_cons.1 r;have s:x=y:=by
   rcases V4.1 ((h x).1 (.head _))with he|hm
   .exact he
   .rcases V4.1 ((h y).2 (.head _))with he|w
    .exact he.symm
    .have a:=q.1 x hm;have b:=p.1 y w;omega
  subst s;rw[wQ p.2 q.2 λz=>⟨λe=>?_,λe=>?_⟩]
  .rcases V4.1 ((h z).1 (.tail _ e))with he|hm
   .subst he;have:=p.1 z e;omega
   .exact hm
  .rcases V4.1 ((h z).2 (.tail _ e))with he|hm
   .subst he;have:=q.1 z e;omega
   .exact hm
structure fT(sizes:Λ)(k:Int)(g:cM):Prop where
 scope:jx g.1
 up:g.1.Pairwise (·< ·)
 vars:∀v∈g.1,v<sizes.length
 len:g.2.length=(aP (bW sizes g.1)).toNat
 small:aP (bW sizes g.1)<=4096
 hY:∀c∈g.2,0<=c/\c<=k
theorem m8{sc:Λ}(e:∀z∈sizes,1<=z/\z<=32)(ad:∀v∈sc,0<=v/\v<sizes.length):∀z∈bW sizes sc,1<=z/\z<=32:=λz h=>by
 obtain⟨v,f,rfl⟩:=j5.1 h;obtain⟨h1,p⟩:=ad v f;have a:v.toNat<sizes.length:=Ω
 rw[u4,x6 a];exact e _ (T2 a)
theorem Mu{b:Λ}(h:a.Perm b):aP a=aP b:=by
 induction h with
 |nil=>rfl
 |cons x _ e=>simp only[aP,e]
 |swap x y l=>simp only[aP];rw[<-Int.mul_assoc,<-Int.mul_assoc,Int.mul_comm y x]
 |trans _ _ h1 f=>exact h1.trans f
theorem Mv{b:Λ}(h:a.length=b.length):(dV k a b).length=b.length:=by simp[dV,h]
theorem Mw{b:Λ}(hk:0<=k)(f:∀c∈a,0<=c/\c<=k)(p:∀c∈b,0<=c/\c<=k):∀c∈dV k a b,0<=c/\c<=k:=by
 induction a generalizing b with
 |nil=>intro c e;simp[dV]at e
 |cons x a q=>
  cases b with
  |nil=>intro c e;simp[dV]at e
  |cons y b=>
   intro c e;have J:=f x (.head _);have r:=p y (.head _);rcases V4.1 (show c∈min (x+y) k::dV k a b from e)with rfl|e
   .omega
   .exact q (λc h=>f c (.tail _ h)) (λc h=>p c (.tail _ h)) c e
def iR(l:List cM):Prop:=(l.map (·.1)).Nodup
theorem Mx{acc:List cM}{g:cM}(hk:0<=k)(p:∀h∈acc,fT sizes k h)(q:iR acc)(a:fT sizes k g):(∀h∈il k acc g,fT sizes k h)/\iR (il k acc g)/\(il k acc g).length<=acc.length+1:=by
 unfold il;split
 .refine⟨λh aA=>?_,?_,Ξ⟩
  .obtain⟨f,hm,rfl⟩:=j5.1 aA;have h1:=p f hm;split
   .rename_i he;have s:f.2.length=g.2.length:=by rw[h1.len,a.len,he]
    exact⟨h1.scope,h1.up,h1.vars,by show(dV k f.2 g.2).length=_;rw[Mv s,a.len,he],h1.small,Mw hk h1.hY a.hY⟩
   .exact h1
  .unfold iR;rw[R4];have e:((λx:cM=>x.1)∘λh:cM=>if h.1=g.1 then(h.1,dV k h.2 g.2)else h)=λx:cM=>x.1:=by
    funext h;simp only[Function.comp];split<;>rfl
   rw[e];exact q
 .rename_i w;refine⟨λh aA=>?_,?_,Ξ⟩
  .rcases o5.1 aA with aA|aA
   .exact p h aA
   .rw[l9.1 aA];exact a
  .unfold iR;rw[Z3];exact List.nodup_append.2 ⟨q,Ξ,λx J y r he=>by
    simp only[T1,List.map_nil,l9]at r;subst r;subst he;exact w J⟩
theorem wR{sizes:Λ}{k:Int}(hk:0<=k):∀{l acc:List cM},(∀h∈acc,fT sizes k h)->iR acc->(∀g∈l,fT sizes k g)->(∀h∈l.foldl (il k) acc,fT sizes k h)/\iR (l.foldl (il k) acc)/\(l.foldl (il k) acc).length<=acc.length+l.length
 |[],acc,a,e,_=>⟨a,e,Ξ⟩
 |g::l,acc,a,e,f=>by
  obtain⟨h1,p,s⟩:=Mx hk a e (f g (.head _));obtain⟨q,r,w⟩:=wR hk h1 p λx J=>f x (.tail _ J);exact⟨q,r,by simp only[List.foldl_cons,j9];omega⟩
theorem CG{α:Type}[DecidableEq α]:∀{a b:List α},a.Nodup->b.Nodup->(∀x,x∈a↔x∈b)->a.Perm b
 |[],b,_,_,h=>by
  cases b with
  |nil=>exact .refl _
  |cons y b=>exact absurd ((h y).2 (.head _)) Ξ
 |x::a,b,q,f,h=>by
  have J:=(h x).1 (.head _);have p:=List.nodup_cons.1 q;refine .trans ?_ (List.perm_cons_erase J).symm;refine .cons x (CG p.2 (f.erase x) λy=>?_);rw[f.mem_erase_iff];refine⟨λe=>⟨λhe=>p.1 (he▸e),(h y).1 (.tail _ e)⟩,λ⟨r,e⟩=>?_⟩;rcases V4.1 ((h y).2 e)with he|hm
  .exact absurd he r
  .exact hm
theorem tC(h:kI l)(a:l.Nodup):(bn l).Perm l:=CG (CA l) a λ_=>q7 h
theorem wS:∀{l:Λ},(∀z∈l,1<=z/\z<=32)->l.map (λz=>min z 4097)=l
 |[],_=>rfl
 |z::l,h=>by
  have a:=h z (.head _);rw[T1,wS λx J=>h x (.tail _ J)];congr 1;omega
theorem My{x:ck}(hk:0<=k)(e:0<=x.other)(a:∀p∈x.lines,0<=p.2):0<=jX x k t/\jX x k t<=k:=by
 unfold jX;cases ag:x.lines.find? (λp=>decide (p.1=t))with
 |none=>simp only;omega
 |some p=>have:=a p (List.mem_of_find?_eq_some ag);simp only;omega
theorem tD{all:Λ}{x:ck}(h:td all N x)(a:all.length<=64):kI x.scope:=λv ad=>by
 have:=h.scope.2 v ad;omega
theorem pK{f:bY}{x:ck}(ag:e3 N f)(J:x∈f.funs):fT f.sizes f.k (hV f.sizes f.k x):=by
 obtain⟨h1,r,e⟩:=ag.funs x J;have s:=ag.sizes.2.1;have ad:=tD h1 s;have a:=tC ad h1.scope.1;have h:∀v∈bn x.scope,0<=v/\v<f.sizes.length:=λv hm=>h1.scope.2 v ((q7 ad).1 hm);have w:=m8 ag.sizes.2.2 h;have y:aP (bW f.sizes (bn x.scope))=aP x.sizes:=by rw[h1.sizes];exact Mu (a.map _)
 refine⟨⟨Mt _,?_⟩,wO _,λv hm=>(h v hm).2,?_,?_,λc A=>?_⟩
 .show (bn x.scope).length<=6;rw[a.length_eq];exact r
 .show ((bj _).map _).length=_;rw[u9,iK w];rfl
 .show aP (bW f.sizes (bn x.scope))<=4096;have B:∀z∈x.sizes,1<=z/\z<=32:=λz q=>by
   rw[h1.sizes]at q;exact m8 ag.sizes.2.2 (λv hm=>h1.scope.2 v hm) z q
  unfold dk at e;rw[wS B,decide_eq_false_iff_not]at e;rw[y];omega
 .obtain⟨t,_,rfl⟩:=j5.1 A;exact My (by have:=ag.k.1;omega) h1.other λp a=>(h1.lines.2 p a).2
theorem kJ{f:bY}(ag:e3 N f):(∀g∈ff f,fT f.sizes f.k g)/\iR (ff f)/\(ff f).length<=f.funs.length:=by
 have:=wR (sizes:=f.sizes) (k:=f.k) (by have:=ag.k.1;omega) (l:=f.funs.map (hV f.sizes f.k)) (acc:=[]) (λh aA=>by cases aA) List.nodup_nil λg e=>by
  obtain⟨x,J,rfl⟩:=j5.1 e;exact pK ag J
 refine⟨this.1,this.2.1,?_⟩;have a:=this.2.2;rw[List.length_nil,u9,X8]at a;exact a
theorem CH{l:List cM}(e:∀g∈l,fT sizes k g)(f:iR l):l.Pairwise λa b=>dd a.1≠dd b.1:=by
 have h1:l.Pairwise λa b=>a.1≠b.1:=by
  unfold iR List.Nodup at f;rwa [List.pairwise_map]at f
 exact h1.imp_of_mem λ{a b}h p q he=>q ((wP (e a h).scope (e b p).scope).2 he)
theorem pL{f:bY}(ag:e3 N f):(fu f).Pairwise (λa b=>dd a.1<dd b.1)/\(fu f).Perm ((ff f).filter ft):=by
 obtain⟨h1,h,_⟩:=kJ ag;have p:∀g∈(ff f).filter ft,fT f.sizes f.k g:=λg q=>h1 g (U5.1 q).1;have r:iR ((ff f).filter ft):=(List.Sublist.map _ List.filter_sublist).nodup h;have:=CF ((ff f).filter ft) [] List.Pairwise.nil (CH p r) λa s=>by cases s
 refine⟨this.1,?_⟩;have e:=this.2;rw[List.nil_append]at e;exact e
theorem tE{f:bY}(ag:e3 N f):∀g∈fu f,fT f.sizes f.k g:=λg a=>(kJ ag).1 g (U5.1 ((pL ag).2.mem_iff.1 a)).1
theorem Mz{f:bY}(ag:e3 N f){M:List cM}(e:M.Perm ((ff f).filter ft))(U:M.Pairwise λa b=>dd a.1<=dd b.1):M=fu f:=by
 obtain⟨h1,h⟩:=pL ag;have p:iR ((ff f).filter ft):=(List.Sublist.map _ List.filter_sublist).nodup (kJ ag).2.1;have q:iR M:=(e.map (λg:cM=>g.1)).nodup_iff.2 p;have r:∀g∈M,fT f.sizes f.k g:=λg s=>(kJ ag).1 g (U5.1 (e.mem_iff.1 s)).1;have w:=CH r q;refine wQ (f:=λg:cM=>dd g.1) ?_ h1 λx=>by rw[e.mem_iff,h.mem_iff]
 exact U.imp₂ (λa b h1 h=>Int.lt_iff_le_and_ne.2 ⟨h1,h⟩) w
structure j2(n:aJ):Prop where
 k:1<=n.k/\n.k<=2147483648
 sizes:1<=n.sizes.length/\n.sizes.length<=64/\∀z∈n.sizes,1<=z/\z<=32
 zero:0<=n.zero/\n.zero<=n.k
 kK:n.unary.length=n.sizes.length
 unary:∀(i:Nat)(z:Int)(u:Λ),n.sizes[i]?=σ z->n.unary[i]?=σ u->u.length=z.toNat/\∀c∈u,0<=c/\c<=n.k
 funs:∀g∈n.funs,fT n.sizes n.k g/\2<=g.1.length
theorem MA(z:Int):aP [z]=z:=by simp[aP]
theorem tF:∀{l:List cM}{n:aJ},j2 n->(∀g∈l,fT n.sizes n.k g)->j2 (l.foldl (λn g=>match g.1 with
 |[]=>{n with zero:=g.2.getD 0 0}
 |[v]=>{n with unary:=n.unary.set v.toNat g.2}
 |_=>{n with funs:=n.funs++[g]}) n)/\(l.foldl (λn g=>match g.1 with
 |[]=>{n with zero:=g.2.getD 0 0}
 |[v]=>{n with unary:=n.unary.set v.toNat g.2}
 |_=>{n with funs:=n.funs++[g]}) n).sizes=n.sizes
 |[],n,h,_=>⟨h,rfl⟩
 |g::l,n,h,p=>by
  have e:=p g (.head _);have f:∀x∈l,fT n.sizes n.k x:=λx J=>p x (.tail _ J);rw[List.foldl_cons];obtain⟨sc,cs⟩:=g
  match sc,e with
  |[],e=>
   have s:=e.len;refine tF (n:={n with zero:=cs.getD 0 0}) ⟨h.k,h.sizes,?_,h.kK,h.unary,h.funs⟩ f;have h1:cs.length=1:=by simpa[bW,aP]using s
   have w:cs[0]?=σ (cs.getD 0 0):=by rw[u4,x6 Ω];rfl
   exact e.hY _ (x5 w)
  |[v],e=>
   have ad:=e.scope.1 v (.head _);have A:=e.vars v (.head _);refine tF (n:={n with unary:=n.unary.set v.toNat cs}) ⟨h.k,h.sizes,h.zero,by show(n.unary.set _ _).length=_;rw[b8];exact h.kK,λi z u q hu=>?_,h.funs⟩ f;by_cases hi:v.toNat=i
   .subst hi;have B:=h.kK;rw[b9 Ω]at hu;cases hu;have y:bW n.sizes [v]=[z]:=by
     simp only[bW,T1,List.map_nil];rw[u4,q];rfl
    refine⟨?_,e.hY⟩;have:=e.len;rw[y,MA]at this;exact this
   .rw[Y4 hi]at hu;exact h.unary i z u q hu
  |a::b::r,e=>
   refine tF (n:={n with funs:=n.funs++[(a::b::r,cs)]}) ⟨h.k,h.sizes,h.zero,h.kK,h.unary,λx J=>?_⟩ f;rcases o5.1 J with J|J
   .exact h.funs x J
   .rw[l9.1 J];exact⟨e,Ξ⟩
theorem CI{f:bY}(ag:e3 N f):j2 (cT f)/\(cT f).sizes=f.sizes:=by
 unfold cT;have e:=ag.sizes;refine tF (n:=⟨f.k,f.sizes,0,f.sizes.map λz=>p9 z.toNat 0,[]⟩) ⟨ag.k,e,⟨by show(0:Int)<=0;omega,by show(0:Int)<=f.k;have:=ag.k.1;omega⟩,Ξ,λi z u h1 a=>?_,λg h=>by cases h⟩ (tE ag);have a:(f.sizes.map λz=>p9 z.toNat (0:Int))[i]?=σ u:=a;have h1:f.sizes[i]?=σ z:=h1;rw[x8,h1]at a;cases a;refine⟨Ξ,λc p=>?_⟩;rw[(List.mem_replicate.1 p).2];have:=ag.k.1;exact⟨Int.le_refl _,by show(0:Int)<=f.k;omega⟩
def lx(x:ck)(k:Int)(i:Nat)(t:Λ):Int:=match(x.lines.take i).find? (λp=>decide (p.1=t))with
 |some p=>min p.2 k
 |none=>min x.other k
theorem CJ(x:ck)(k:Int)(t:Λ):lx x k 0 t=min x.other k:=by simp[lx]
theorem CK(x:ck)(k:Int)(t:Λ):lx x k x.lines.length t=jX x k t:=by
 unfold lx jX;rw[o7];cases x.lines.find? (λp=>decide (p.1=t))<;>rfl
theorem CL{x:ck}{i:Nat}{p:Λ×Int}(y:(x.lines.map (·.1)).Nodup)(hi:x.lines[i]?=σ p)(t:Λ):lx x k (i+1) t=if t=p.1 then min p.2 k else lx x k i t:=by
 unfold lx;rw[u7,hi,o8,List.find?_append];by_cases a:t=p.1
 .subst a;have z:(x.lines.take i).find? (λq=>decide (q.1=p.1))=ν:=by
   rw[List.find?_eq_none];intro q e he;have he:q.1=p.1:=by simpa using he
   obtain⟨j,f⟩:=X7.1 e;have h:j<i:=by have:=(x4.1 f).1;rw[n9]at this;omega
   rw[Z9 h]at f;have r:=x4.1 f;have s:=x4.1 hi;have w:=V8.1 y j i (by rw[u9];exact r.1) (by rw[u9];exact s.1) h;rw[List.getElem_map,List.getElem_map,r.2,s.2]at w;exact w he
  rw[z,if_pos rfl];simp
 .rw[if_neg a];have:[p].find? (λq=>decide (q.1=t))=ν:=by
   rw[List.find?_eq_none];intro q e he;rw[l9.1 e]at he;exact a (of_decide_eq_true he).symm
  rw[this,Option.or_none]
theorem pM{v:Int}(h:v∈l):l[l.idxOf v]?=σ v:=by
 have:=List.idxOf_lt_length_iff.2 h;rw[x6 this,List.getElem_idxOf this]
theorem q8{i:Nat}{v:Int}(p:l.Nodup)(h:l[i]?=σ v):l.idxOf v=i:=by
 have hm:=x5 h;have h1:=pM hm;have a:=x4.1 h1;have e:=x4.1 h;rcases Nat.lt_trichotomy (l.idxOf v) i with f|he|f
 .exact absurd (a.2.trans e.2.symm) (V8.1 p _ _ a.1 e.1 f)
 .exact he
 .exact absurd (e.2.trans a.2.symm) (V8.1 p _ _ e.1 a.1 f)
def gf(scope a:Λ):Λ:=a.map λv=>((scope.idxOf v:Nat):Int)
theorem tG{f:Λ}(s:scope.Nodup)(a:f.Perm scope):Good (gf scope f) scope.length:=by
 have r:f.Nodup:=a.nodup_iff.2 s;refine⟨by simp[gf,a.length_eq],λi p h=>?_⟩;unfold gf at h;rw[x8]at h;obtain⟨v,ad,rfl⟩:=X4.1 h;have hm:v∈scope:=a.mem_iff.1 (x5 ad);have y:=List.idxOf_lt_length_iff.2 hm;refine⟨⟨Ω,Ω⟩,λj z q=>?_⟩;unfold gf at q;rw[x8]at q;obtain⟨u,hu,he⟩:=X4.1 q;have w:u∈scope:=a.mem_iff.1 (x5 hu);have e:scope.idxOf u=scope.idxOf v:=Ω
 have h1:=pM w;rw[e,pM hm]at h1;have x:v=u:=Z0 h1;subst x;have A:=q8 r hu;have B:=q8 r ad;omega
theorem CM{v:Int}(ad:a[j]?=σ v):(gf scope a)[j]?=σ ((scope.idxOf v:Nat):Int):=by
 unfold gf;rw[x8,ad];rfl
theorem MB(h:scope.Nodup)(e:a.Perm scope):ei (bW sizes scope) (gf scope a)=bW sizes a:=by
 refine Y5 λj=>?_;cases ad:a[j]? with
 |none=>
  have f:=List.getElem?_eq_none_iff.1 ad;rw[Z4 (by rw[ta];simp[gf];exact f),Z4 (by simp[bW];exact f)]
 |some v=>
  have hm:v∈scope:=e.mem_iff.1 (x5 ad);have p:=tG h e;rw[Bv p (by simp[bW]) (CM ad),r9];unfold bW;rw[x8,x8,pM hm,ad]
theorem CN(h:scope.Nodup)(e:a.Perm scope)(q:t.length=scope.length):mh (gf scope a) t=px scope a t:=by
 have r:=tG h e;refine(Bu r q (by simp[px]) λj p f=>?_).symm;unfold gf at f;rw[x8]at f;obtain⟨v,ad,rfl⟩:=X4.1 f;have hm:v∈scope:=e.mem_iff.1 (x5 ad);have s:a.Nodup:=e.nodup_iff.2 h;have w:=(x4.1 ad).1;have x:=e.length_eq;unfold px;rw[r9,x8,pM hm,Z7,q8 s ad,u4,x6 (show j<t.length by omega)];rfl
theorem MC{f:bY}{x:ck}{cs:Λ}(ag:e3 N f)(J:x∈f.funs)(F:cs.length=(aP x.sizes).toNat)(y:∀t,dl x.sizes t->bm x.sizes cs t=jX x f.k t):
  ei x.sizes (gf x.scope (bn x.scope))=bW f.sizes (bn x.scope)/\ob x.sizes cs (gf x.scope (bn x.scope))=(hV f.sizes f.k x).2:=by
 obtain⟨h1,G,H⟩:=ag.funs x J;have ad:=tD h1 ag.sizes.2.1;have a:=tC ad h1.scope.1;have p:x.sizes=bW f.sizes x.scope:=h1.sizes;have h:ei x.sizes (gf x.scope (bn x.scope))=bW f.sizes (bn x.scope):=by rw[p];exact MB h1.scope.1 a
 have z:=tG h1.scope.1 a;have A:∀v∈bn x.scope,0<=v/\v<f.sizes.length:=λv hm=>h1.scope.2 v ((q7 ad).1 hm);have e:dF (bW f.sizes (bn x.scope)):=m8 ag.sizes.2.2 A;refine⟨h,?_⟩;have B:x.sizes.length=x.scope.length:=by rw[p];simp[bW]
 unfold ob;rw[h];show _=(bj (bW f.sizes (bn x.scope))).map λt=>jX x f.k (px x.scope (bn x.scope) t);refine Y5 λq=>?_;rw[x8,x8];have I:=mg e;by_cases r:q<(aP (bW f.sizes (bn x.scope))).toNat
 .have C:=pu e (i:=q) Ω;rw[C,List.getElem?_range r];simp only[Z7];have E:=wp e r;have w:(cQ (bW f.sizes (bn x.scope)) q).length=x.scope.length:=by rw[jr];simp[bW,a.length_eq]
  rw[CN h1.scope.1 a w,y];have:=KY (s:=x.sizes) z B (by rw[h];exact E);rw[CN h1.scope.1 a w]at this;exact this
 .rw[Z4 Θ,Z4 (by rw[iK e];omega)];rfl
theorem MD{e:Λ}(U:dF aj)(h1:a.length=(aP aj).toNat)(f:e.length=(aP aj).toNat):
  dV k a e=(X3 (aP aj).toNat).map λ(q:Nat)=>min (bm aj a (cQ aj q)+bm aj e (cQ aj q)) k:=by
 conv=>lhs;rw[s9 U h1,s9 U f]
 unfold dV;rw[List.zipWith_map,List.zipWith_self]
theorem ME{dh m:Nat}{d:List (x1×x1)}{KS:List (Λ)}(f:af w dh iG [.map (σ m)])(hm:db w m d)(p:d.map (·.1)=KS.map dZ)(e:pH KS)(A:KS.length<65536):
  am x7 I9 [.func (.func l5) #[] #[Γ dh],Cd] w λv w'=>Ext w w'/\∃g M,M.Perm KS/\tw gB M 0 M.length/\oh w' g v M:=by
 refine az func261 ?_;refine(LF f hm p (λks h=>(e ks h).1) Ω).mono ?_;rintro v V _ ⟨q,g,L,cO,a,s⟩;refine(LX s (e.perm a) (by rw[a.length_eq];omega)).mono ?_;rintro _ aa _ ⟨x,M,y,hu,z⟩;exact⟨q.then x (λr B h=>by have:=cO r h;omega),g,M,y.trans a,hu,z⟩
theorem CO{α β:Type}{f:α->β}:∀{M:List β}{D:List α},M.Perm (D.map f)->∃L:List α,L.Perm D/\L.map f=M
 |[],D,h=>by
  have h1:=h.length_eq;simp at h1;have:D=[]:=c8 h1.symm;exact⟨[],by rw[this],rfl⟩
 |x::M,D,h=>by
  have J:x∈D.map f:=h.mem_iff.1 (.head _);obtain⟨p,a,rfl⟩:=j5.1 J;obtain⟨A,B,rfl⟩:=List.append_of_mem a;have e:(f p::M).Perm (f p::(A++B).map f):=h.trans (by
   rw[Z3,T1,Z3];exact List.perm_middle)
  obtain⟨L,q,r⟩:=CO (List.Perm.cons_inv e);exact⟨p::L,(q.cons p).trans List.perm_middle.symm,by rw[T1,r]⟩
theorem CP{g:Nat}{ks:Λ}(p:ks.length=6)(q:n<=6)(a:cs=ints .i8 ks)(e:af w g cG cs):aH .i8 w (.slice (σ (if 6=0 then⟨g,0,ν⟩else⟨g,0+0*1,ν⟩)) (n-0) (6-0)) (ks.take n):=by
 subst a;rw[if_neg Ω];unfold aH;have f:(ks.take n).length=n:=by rw[n9];omega
 rw[f];refine⟨Θ,g,0,_,6,rfl,Ω,by simp[maxLen],λ_=>rfl,λj v ad=>?_⟩;have h:=(x4.1 ad).1;refine e.range j v ?_;rw[ints,List.map_take,Z9 (by simp[ints]at h;omega)]at ad;exact ad
def MF(D L:Told):Prop:=L.Perm D/\tw (λp=>gB (pad p.1)) L 0 L.length
theorem MG{g m:Nat}{o:Int}{D:Told}(h:eI w g m aj k o D)(bb:D.length<65536):am x7 IB [Γ g] w λv w'=>Ext w w'/\∃L:Told,MF D L/\bG (eH w.heap.size) bB w' [v] L:=by
 obtain⟨⟨sv,gs,Y,hm⟩,bc,U,bR,aB⟩:=id h;have bd:pH (D.map λp=>pad p.1):=λks hk=>by
  obtain⟨p,be,rfl⟩:=j5.1 hk;exact qY U (aB p be).1
 refine az func206 ?_;rw[dc eP.u];simp only[Z5,a1];rw[aQ fM.p 3 Y rfl];refine LC.mono ?_;rintro _ V _ ⟨Z,dh,rfl,bS,bf⟩;refine(ME (KS:=D.map λp=>pad p.1) bf (bc.ext Z) (by rw[R4,R4];rfl) bd (by simpa using bb)).mono ?_;rintro bT aa _ ⟨aC,bU,M,bg,bi,aD⟩;obtain⟨L,ac,N⟩:=CO bg;have aE:M.length=L.length:=by rw[<-N];simp
 have bV:=ac.length_eq;have s1:=Z.size;have bW:=aC.size;have aF:=Z.trans aC;rw[ea jj.u aD];refine b5.range L.length (λi out e=>Ext aa e/\bG (eH aa.heap.size) bB e [out] (L.take i)) Ω ⟨Ext.refl _,by rw[List.take_zero];exact ht⟩ ?_ ?_
 rotate_left
 .rintro out e bj ⟨C,O⟩;rw[aE];simp only[aS,al];refine⟨λh=>Ω,λ_=>⟨aF.trans C,L,⟨ac,λp q x y h1 bk bX J bm=>?_⟩,?_⟩⟩
  .exact bi p q (pad x.1) (pad y.1) h1 bk Ω (by rw[<-N,x8,J];rfl) (by rw[<-N,x8,bm];rfl)
  .rw[o7]at O;exact aq.mono O (λr _ h=>by have h:aa.heap.size<=r:=h;show w.heap.size<=r;omega) λ_ _ h=>h
 rintro i out e bj hi ⟨C,O⟩ bn;obtain⟨⟨t,c⟩,ae⟩:∃p,L[i]?=σ p:=⟨_,x6 hi⟩;have ag:(t,c)∈D:=ac.mem_iff.1 (x5 ae);have ak:=(aB _ ag).1;have aG:=wA U ak;have ao:t.length=aj.length:=aG.1;have aH:=U.1;have bp:lq (pad t):=qY U ak;have P:=bp.1;have bq:M[i]?=σ (pad t):=by rw[<-N,x8,ae];rfl
 rw[aE];simp only[aS,al];refine⟨λ_=>?_,λh=>Ω⟩;rw[LW rfl (aD.ext C) bq];refine bo cG.i λap bY bZ aJ aK=>?_;refine qX P rfl aK λbr bt b1 Q=>?_;have b2:=aJ.size;have b3:=aK.lt;have bu:Ext e br:=aJ.put bt Ω;intro aN H _ _;have au:=bu.trans H;have aw:=(aF.trans C).trans au;have aP:=h.ext aw;obtain⟨⟨b4,b6,b7,b8⟩,b9,_⟩:=id aP;have ca:=au.size;rw[aQ fM.p 3 (Y.ext aw) rfl,og P (Q.ext H).range];refine Lw aP ak (λf bw=>?_) (λbx=>absurd rfl (bx _ ag));have bz:f=c:=by
  have:=B1 h.nodup bw ag rfl;exact congrArg Prod.snd this
 subst bz;simp only[Bool.false_eq_true,if_false];rw[cZ (cs:=#[.slice ν 0 0,Δ f]) Ψ];refine bo gu.i λE cc cd ax aR=>?_;refine⟨.inl ax,?_⟩;refine cb (vs:=[.slice ν 0 0,Δ f]) gu.i rfl rfl (by intro v ad;simp at ad;rcases ad with rfl|rfl<;>rfl) aR λG bA cg aT=>?_;have ch:=ax.size;have ci:=aR.lt;have S:Ext aN G:=ax.put bA Ω;have aV:=au.trans S;have aX:=aw.trans S;rw[aQ fM.p 0 (Y.ext aX) rfl,aW an.u (hm.ls.ext aX)];rw[sP cG.u fZ.i (l:=0) (h:=aj.length) (m:=6) jk (nU _ _ rfl) fc Ω Ω Ω];have aY:=CP P aH rfl ((Q.ext H).ext S);rw[<-ao,BV]at aY;rw[<-ao,aW lb.u aY];have bC:=(Q.ext H).ext S;have cj:ap<aN.heap.size:=(Q.ext H).lt;have ck:E<G.heap.size:=aT.lt;refine ce.range t.length (λj s=>ai (λr=>r=E\/G.heap.size<=r) G s/\∃aL gt,G.heap.size<=gt/\af s E gu [aL,Δ f]/\av .i64 ah s gt aL (t.take j)) Ω ⟨ai.refl _ _,_,G.heap.size,o4 _,aT,av.nil _ _ _ _⟩ ?_ ?_
 .rintro j s bD bE ⟨z,aL,gt,bF,W,X⟩ bH;obtain⟨x,ay⟩:=aI (l:=t) bE;have cl:=aG.2 x (x5 ay);have cm:Ext e s:=aV.then z (λr aZ he=>by rcases he with rfl|he<;>omega);have a2:=CP P aH rfl (bC.ab z (λhe=>by rcases he with he|he<;>omega));rw[<-ao,BV]at a2;simp only[aS,al];refine⟨λ_=>?_,λh=>Ω⟩;rw[bh lb.u fZ.i Ψ a2 ay,aM gu.p 0 W rfl,fm fZ.u ah.u,wrap_i64 Ω Ω];refine ee an.u ah.i rfl λa ga bI cn B bJ=>?_;refine jn an.u ah.i rfl (X.ext B) bJ.ls Θ Θ λa6 a7 bL cp I K=>?_;have bM:=z.size;have bN:=B.size;have cq:=K.size;rw[aU gu.p rfl];refine bl (g:=E) (o:=0) an.i I.ls.cells.1 I.ls.cells.2 ((W.ext B).ab K (λhe=>by have he:E=gt:=he;omega)) Ξ λcr a8 ct bO=>?_;simp only[aO];refine bH _ ⟨((z.trans (B.ab _)).trans (K.mono λr _ he=>.inr (by have he:r=gt:=he;omega))).trans (a8.mono λr _ he=>.inl he),a6,a7,Ω,bO,?_⟩;rw[u7,ay];exact I.ab a8 (λ_ he=>by have he:a7=E:=he;omega)
 .rintro s bD ⟨z,aL,gt,bF,W,X⟩;simp only[aS,al];refine⟨λh=>Ω,λ_=>?_⟩;rw[o7]at X;rw[bK gu.p gu.i rfl W.range];have bM:=z.size;have bP:Ext e s:=aV.then z (λr aZ he=>by rcases he with rfl|he<;>omega);have ba:bG (eH e.heap.size) bB s [aL,Δ f] (t,f):=⟨[aL],[Δ f],eH e.heap.size,bB,rfl,λ_ h=>h,λ_ h=>h.elim,λ_ _ _ h=>h,aq.mono (n1 X) (λr _ h=>by subst h;show e.heap.size<=r;omega) (λ_ _ h=>h),rfl⟩;refine kA (α:=Λ×Int) (a:=(t,f)) (cs:=[aL,Δ f]) (A:=eH e.heap.size) (R:=bB) pd.u gu.i Φ rfl ba λu bI B _ bQ=>?_;have aA:=bP.trans B;have bN:=aA.size;refine n0 (α:=Λ×Int) (a:=(t,f)) (A:=eH e.heap.size) pd.u gu.i rfl (b0 (mO O) aA) bQ (b0 ba B) (λr _ h h'=>?_) Θ Θ λa6 bL I K=>?_
  .rcases h' with h'|h'
   .have:=h.2;have:e.heap.size<=r:=h';omega
   .exact h'
  simp only[aO];have cu:=C.size;refine bn _ _ ⟨(C.trans aA).then K (λr aZ h=>by have h:=h.1;have h:aa.heap.size<=r:=h;omega),?_⟩;rw[u7,ae];refine aq.mono I (λr _ h=>?_) λ_ _ h=>h;show aa.heap.size<=r;rcases h with h|h|h
  .exact h.1
  .have h:e.heap.size<=r:=h;omega
  .omega
theorem CQ{s:Λ}(U:dF s):t∈bj s↔dl s t:=by
 refine⟨λh=>?_,λ⟨n,h⟩=>x5 (mW U h)⟩;obtain⟨i,hi⟩:=X7.1 h;exact⟨_,ju U hi⟩
theorem CR:∀{s:Λ},dF s->(bj s).Pairwise λa b=>gB a<gB b
 |[],_=>by simp[bj]
 |k::s,U=>by
  have z:=CR U.tail;have f:∀t∈bj s,0<=gB t/\gB t<32 ^ s.length:=λt q=>by
   have ad:=(CQ U.tail).1 q;have h1:=oa.1 ad;have r:=tv t λx J=>by
    obtain⟨i,hi,rfl⟩:=List.getElem_of_mem J;obtain⟨a,e⟩:=aI (l:=s) (i:=i) Ω;have B:=h1.2 i a _ e (x6 hi);have C:=(U.tail a (x5 e)).2;omega
   rw[h1.1];exact r
  have p:∀t∈bj s,t.length=s.length:=λt q=>sT q;show((X3 k.toNat).flatMap λ(v:Nat)=>(bj s).map λt=>(v:Int)::t).Pairwise _;rw[List.pairwise_flatMap];refine⟨λv _=>?_,?_⟩
  .rw[List.pairwise_map];refine z.imp_of_mem λ{a b}e f h=>?_;simp only[gB,p a e,p b f];omega
  .refine List.pairwise_lt_range.imp λ{u v}E x J y A=>?_;obtain⟨a,e,rfl⟩:=j5.1 J;obtain⟨b,w,rfl⟩:=j5.1 A;simp only[gB,p a e,p b w];have h1:=f a e;have r:=f b w;have:=Int.mul_le_mul_of_nonneg_right (show(u:Int)+1<=v by omega) (show(0:Int)<=32 ^ s.length by have:=wE s.length;omega);rw[Int.add_mul,Int.one_mul]at this;omega
theorem MH{D L:Told}{o:Int}(f:(D.map (·.1)).Nodup)(a:L.Perm D)(t:Λ):im L o t=im D o t:=by
 have q:(L.map (·.1)).Nodup:=(a.map (·.1)).nodup_iff.2 f;by_cases he:∃p∈D,p.1=t
 .obtain⟨p,h,rfl⟩:=he;rw[qZ f (c:=p.2) h,qZ q (c:=p.2) (a.mem_iff.2 h)]
 .rw[q0 λp h1 e=>he ⟨p,h1,e⟩,q0 λp h1 e=>he ⟨p,a.mem_iff.1 h1,e⟩]
def iq(aj:Λ)(f:Λ->Int)(cs:Λ):Prop:=cs.length=(aP aj).toNat/\∀t,dl aj t->bm aj cs t=f t
theorem iq.eq{f:Λ->Int}{cs:Λ}(U:dF aj)(h1:iq aj f cs)(e:iq aj f a):cs=a:=KN U h1.1 e.1 λt h=>by rw[h1.2 t h,e.2 t h]
theorem iq.congr{f a:Λ->Int}{cs:Λ}(h:iq aj f cs)(he:∀t,dl aj t->f t=a t):iq aj a cs:=⟨h.1,λt e=>by rw[h.2 t e,he t e]⟩
theorem wT(U:dF aj)(h:dl aj t):∃n:Nat,cJ aj t 0=σ (n:Int)/\n<(aP aj).toNat:=by
 obtain⟨n,a⟩:=h;have:=n2 U a;simp only[Int.zero_mul,Int.zero_add,Int.one_mul]at this;exact⟨n.toNat,by rw[a];congr 1;omega,Ω⟩
theorem MI(U:dF aj)(c:Int):iq aj (λ_=>c) (p9 (aP aj).toNat c):=⟨Ξ,λt a=>by
 obtain⟨n,e,f⟩:=wT U a;unfold bm;rw[e];simp only[r9,u4,List.getElem?_replicate,f,if_true,V1]⟩
theorem iq.put{f:Λ->Int}{cs:Λ}(U:dF aj)(h:iq aj f cs)(ad:dl aj t)(r:cu c k):iq aj (λs=>if s=t then c else f s) (sU aj t k c cs):=by
 obtain⟨n,e,w⟩:=wT U ad;unfold sU;rw[e];simp only[r,if_true,r9];refine⟨by simp[h.1],λs q=>?_⟩;obtain⟨m,hm,x⟩:=wT U q;have a:=h.2 s q;unfold bm at a ⊢;rw[hm]at a ⊢;simp only[r9]at a ⊢;by_cases he:s=t
 .subst he;rw[e]at hm;have p:n=m:=by have:=Z0 hm;omega
  subst p;rw[if_pos rfl,u4,b9 (by rw[h.1];exact w)];rfl
 .rw[if_neg he,u4,Y4 (λp=>he ?_),<-u4,a];subst p;rw[<-Bo U hm,<-Bo U e]
def MJ(w:x3)(aj:Λ)(k o:Int)(D:Told)(v:x1)(w':x3):Prop:=Ext w w'/\(4096<aP aj->v= .tuple #[.pointer ν,Δ 5])/\
 (aP aj<=4096->∃g a sv cs,v= .tuple #[Γ g,Δ 0]/\w.heap.size<=g/\(w.heap.size<=a/\∀r,leads sv r->w.heap.size<=r)/\df w' g a sv aj k cs/\iq aj (im D o) cs)
theorem CS{g m:Nat}{o:Int}{D:Told}(h:eI w g m aj k o D)(Y:D.length<65536):am x7 HE [Γ g] w (MJ w aj k o D):=by
 obtain⟨⟨sv,gs,Z,hm⟩,aZ,U,ac,ae⟩:=id h;have P:=h.nodup;refine az func121 ?_;rw[dc eP.u];simp only[Z5,a1];intro V a _ _;have I:=Z.ext a;rw[aQ fM.p 0 I rfl,aQ fM.p 1 I rfl,aQ fM.p 2 I rfl];refine(vY (hm.ls.ext a)).mono ?_;rintro _ aa _ ⟨z,_,af,_,ag⟩;by_cases C:aP aj<=4096
 rotate_left
 .have:=af U Ω;subst this;rw[bq,br];simp only[bD,al];exact⟨λ_=>⟨a.trans z,λ_=>rfl,λh=>absurd h C⟩,λh=>by simp at h⟩
 obtain⟨gt,f,aL,rfl,a2,a7,ah,Q⟩:=ag U C ac;rw[bq,br];simp only[bD,al];refine⟨λh=>absurd rfl h,λ_=>?_⟩;have s1:=a.size;have a8:=z.size;refine(MG ((h.ext a).ext z) Y).mono ?_;rintro cO ak _ ⟨J,L,E,R⟩;have ba:=J.size;have bb:f<aa.heap.size:=by
  obtain⟨⟨a6,bc,_,_,an⟩,⟨_,_,bd⟩,ao,ap⟩:=id Q;have be:=mg ao.2;obtain⟨_,⟨_,au⟩|⟨cap,cs,_,av,_⟩⟩:=an
  .rw[ap]at au;omega
  .exact av.lt
 have bf:=E.1.length_eq;rw[jq pd.u R];refine ce.range L.length (λi q=>ai (λr=>r=f) ak q/\∃cs,df q gt f aL aj k cs/\iq aj (im (L.take i) o) cs) Ω ⟨ai.refl _ _,_,Q.ext J,by rw[List.take_zero];exact MI U.2 o⟩ ?_ ?_
 .rintro i q aw hi ⟨G,cs,K,H⟩ ax;simp only[aS,al];refine⟨λ_=>?_,λh=>Ω⟩;obtain⟨⟨t,c⟩,y⟩:∃p,L[i]?=σ p:=⟨_,x6 hi⟩;have ay:(t,c)∈D:=E.1.mem_iff.1 (x5 y);obtain⟨aA,aB,aC⟩:=ae _ ay;have aD:=aq.ab R G λr S aE he=>by
   have he:r=f:=he;rcases aE with h|h
   .have h:aa.heap.size<=r:=h;omega
   .exact h
  refine nZ (α:=Λ×Int) gu.p rfl pd.u gu.i aD y λus aF=>?_;obtain⟨bg,aG,A,B,rfl,bh,bi,_,h1,aH⟩:=aF;have aI:aG=[Δ c]:=aH;subst aI;obtain⟨aJ,rfl,_⟩:=id h1;have hu:=eG h1;refine bo gu.i λbj bk bl aK W=>?_;refine cb (vs:=[aJ,Δ c]) gu.i rfl rfl (by intro v ad;simp at ad;rcases ad with rfl|rfl;exact hu.cells.2;rfl) W λaN aR bm X=>?_;have bn:=W.lt;have M:Ext q aN:=aK.put aR Ω;rw[aM gu.p 0 X rfl,aM gu.p 1 X rfl];refine(JY (K.ext M) (hu.ext M)).mono ?_;rintro _ bp _ ⟨rfl,aT,aU⟩;simp only[aO];refine ax _ ⟨(G.trans (M.ab _)).trans aT,_,aU,(H.put U.2 aA aB).congr λs bt=>?_⟩;rw[u7,y];have N:(L.map (·.1)).Nodup:=(E.1.map (·.1)).nodup_iff.2 P;have aV:∀p∈L.take i,p.1≠t:=λp C he=>by
   obtain⟨j,O⟩:=X7.1 C;have aW:j<i:=by have:=(x4.1 O).1;rw[n9]at this;omega
   rw[Z9 aW]at O;have:=kG N (i:=j) (j:=i) (x:=t) (by rw[x8,O,Z7,he]) (by rw[x8,y];rfl);omega
  have aX:((L.take i).map (·.1)).Nodup:=by rw[List.map_take];exact(List.take_sublist _ _).nodup N
  have aY:((L.take i++[(t,c)]).map (·.1)).Nodup:=by
   have e:L.take i++[(t,c)]=L.take (i+1):=by rw[u7,y];rfl
   rw[e,List.map_take];exact(List.take_sublist _ _).nodup N
  exact((B2 aV aC).cost aX aY s).symm
 .rintro q aw ⟨G,cs,K,H⟩;simp only[aS,al];refine⟨λh=>Ω,λ_=>?_⟩;rw[o7]at H;exact⟨((a.trans z).trans J).put G Ω,λh=>Ω,λ_=>⟨gt,f,aL,cs,rfl,Ω,⟨Ω,λr S=>by have:=ah r S;omega⟩,K,H.congr λs _=>MH P E.1 s⟩⟩
theorem MK{s cs:Λ}(U:dF s)(a:cs.length=(aP s).toNat){i:Nat}(h:(bj s)[i]?=σ t):cs[i]?=σ (bm s cs t):=by
 have hi:=(x4.1 h).1;rw[iK U,<-a]at hi;unfold bm;rw[ju U h];simp only[r9,u4,x6 hi,V1]
theorem tH{k:o6}{g:Nat}(h:av k e w g v l)(f:0<l.length):g<w.heap.size:=by
 obtain⟨_,⟨_,h1⟩|⟨_,_,_,a,_⟩⟩:=h
 .omega
 .exact a.lt
def fU(w:x3)(g m:Nat)(sv:x1)(gs:Nat)(aj:Λ)(k o:Int)(D:Told):Prop:=
 af w g fM [sv,Δ k,Δ o,.map (σ m)]/\av .i64 ah w gs sv aj/\db w m (D.map jY)/\b3 aj/\cu o k/\∀p∈D,dl aj p.1/\cu p.2 k/\p.2≠o
theorem fU.is{g m:Nat}{o:Int}{D:Told}(h:fU w g m sv gs aj k o D):eI w g m aj k o D:=⟨⟨sv,gs,h.1,h.2.1⟩,h.2.2⟩
theorem eI.at{g m:Nat}{o:Int}{D:Told}(h:eI w g m aj k o D):∃sv gs,fU w g m sv gs aj k o D:=by
 obtain⟨⟨sv,gs,h1,a⟩,e⟩:=h;exact⟨sv,gs,h1,a,e⟩
theorem fU.ext{g m:Nat}{o:Int}{D:Told}(h:fU w g m sv gs aj k o D)(J:Ext w w'):fU w' g m sv gs aj k o D:=by
 obtain⟨h1,a,e,f⟩:=h;exact⟨h1.ext J,a.ext J,e.ext J,f⟩
theorem fU.ab{g m:Nat}{o:Int}{D:Told}(h:fU w g m sv gs aj k o D)(J:ai S w w')(a:¬S g)(hm:¬S m)(U:∀r,leads sv r->¬S r):fU w' g m sv gs aj k o D:=by
 obtain⟨h1,e,f,p⟩:=h;exact⟨h1.ab J a,bt e J U,f.ab J hm,p⟩
theorem tI{g m:Nat}{d:List (x1×x1)}(h:af w g e cs)(hm:db w m d):g≠m:=by
 rintro rfl;obtain⟨a,c,h1,_⟩:=hm;unfold af at h;rw[h1]at h;cases h
theorem CT{g m:Nat}{k:o6}{d:List (x1×x1)}(h:av k e w g v l)(hm:db w m d)(f:leads v r):r≠m:=by
 obtain⟨rfl,_⟩:=bQ h f;obtain⟨_,⟨rfl,_⟩|⟨_,_,_,p,_⟩⟩:=h
 .obtain⟨a,n,c,h,_⟩:=f;cases h
 .exact tI p hm
theorem fU.put{g m:Nat}{o:Int}{D D':Told}(h:fU w g m sv gs aj k o D)(a:ai (λr=>r=m) w w')(h':eI w' g m aj k o D'):fU w' g m sv gs aj k o D':=
 ⟨h.1.ab a (λhe=>tI h.1 h.2.2.1 he),bt h.2.1 a (λr e he=>CT h.2.1 h.2.2.1 e he),h'.2⟩
theorem fU.qT{g m:Nat}{o:Int}{D:Told}(h:fU w g m sv gs aj k o D):g<w.heap.size/\m<w.heap.size/\∀r,leads sv r->r<w.heap.size:=
 ⟨h.1.lt,h.2.2.1.lt,λr a=>by obtain⟨rfl,e⟩:=bQ h.2.1 a;exact e⟩
instance (s t:Λ):Decidable (dl s t):=decidable_of_iff ((cJ s t 0).isSome=true) ⟨λh=>by
 cases a:cJ s t 0 with
 |none=>rw[a]at h;cases h
 |some n=>exact⟨n,a⟩,λ⟨n,h⟩=>by rw[h];rfl⟩
theorem tJ(h:aH .i64 w sv l)(H:l.length<=1000000):am x7 zK [sv] w λv w'=>Ext w w'/\∃g,w.heap.size<=g/\av .i64 ah w' g v l:=by
 refine az func112 ?_;rw[aW ay.u h];refine jS (k:=.i64) an.u ah.i Ω Ω λg V I p q=>?_;have z:av .i64 ah V g (.slice (σ ⟨g,0,ν⟩) l.length l.length) (p9 l.length 0):=by
  have:=bX.full (k:=1) (n:=l.length) q Ξ (by simp[maxLen];omega);exact av.of this
 rw[aW ay.u (h.ext p)];have J:=q.lt;refine ce.range l.length (λi aa=>ai (λr=>r=g) V aa/\av .i64 ah aa g (.slice (σ ⟨g,0,ν⟩) l.length l.length) (l.take i++p9 (l.length-i) 0)) h.le ⟨ai.refl _ _,by simpa using z⟩ ?_ ?_
 rotate_left
 .rintro aa A ⟨f,a⟩;rw[aS,al];rw[o7,U8,List.replicate_zero,X5]at a;exact⟨λh=>Ω,λ_=>⟨p.put f Ω,g,Ω,a⟩⟩
 rintro i aa A hi ⟨f,a⟩ B;obtain⟨x,s⟩:=aI (l:=l) hi;have C:Ext w aa:=p.put f Ω;refine bH Ω ?_;rw[bh ay.u ao.i Ψ (h.ext C) s];rw[hx rfl an.u ah.i a Θ];refine hy ah.i a Θ λK E L y=>?_;rw[aO];refine B _ ⟨f.trans E,?_⟩;have e:(l.take i++p9 (l.length-i) 0).set i x=l.take (i+1)++p9 (l.length-(i+1)) 0:=by
  have G:(l.take i).length=i:=by rw[n9];omega
  rw[T8 _ _ Ω,G,U8,show l.length-i=(l.length-(i+1))+1 by omega,List.replicate_succ,List.set_cons_zero,u7,s,o8,Y6];rfl
 rw[e]at y;exact y
def ML(w:x3)(l:Λ)(k o:Int)(v:x1)(w':x3):Prop:=
 Ext w w'/\(¬b3 l->v= .tuple #[.pointer ν,Δ 1])/\(b3 l->¬cu o k->v= .tuple #[.pointer ν,Δ 3])/\
  (b3 l->cu o k->∃g m sv gs,v= .tuple #[Γ g,Δ 0]/\w.heap.size<=g/\w.heap.size<=m/\(∀r,leads sv r->w.heap.size<=r)/\fU w' g m sv gs l k o [])
theorem MM{o:Int}(h:aH .i64 w sv l):am x7 o1 [sv,Δ k,Δ o] w (ML w l k o):=by
 refine az func187 ?_;refine aV (λv V=>Ext w V/\∃c,v= .bool c/\(c=true↔¬b3 l)) ?_ ?_
 .rintro _ V ⟨e,c,rfl,f⟩;rw[bZ];refine⟨λy=>⟨e,λ_=>rfl,λh=>absurd h (f.1 y),λh=>absurd h (f.1 y)⟩,λag=>?_⟩;have U:b3 l:=Classical.byContradiction λh=>by have:=f.2 h;rw[ag]at this;cases this
  have I:=U.1;refine jU.mono ?_;rintro _ aa _ ⟨rfl,a⟩;by_cases hi:cu o k
  rotate_left
  .simp only[hi,decide_false,bE,V0,bT];exact⟨e.trans a,λh=>absurd U h,λ_ _=>rfl,λ_ h=>absurd h hi⟩
  simp only[hi,decide_true,bE,Y7,a1];refine(kB ((h.ext e).ext a) Ω).mono ?_;rintro aL J _ ⟨z,B,K,hm⟩;have L:=hm.ls.cells;refine tp λm M N q C=>?_;rw[cZ (cs:=#[aL,Δ k,Δ o,.map (σ m)]) (by obtain⟨_,_,_,_,_,rfl,_⟩:=hm.ls;kernel_rfl)];refine bf λg O P s E=>?_;have s1:=e.size;have Q:=a.size;have R:=z.size;have S:=q.size;exact⟨((((e.trans a).trans z).trans q).trans s),λh=>absurd U h,λ_ h=>absurd hi h,λ_ _=>⟨g,m,aL,B,rfl,Ω,Ω,λr G=>by have:=(bQ hm G).1;omega,E,(hm.ext q).ext s,C.ext s,U,hi,λp H=>by cases H⟩⟩
 .intro aB A;rw[aW an.u h];simp only[bN,al];refine⟨λW=>A _ _ ⟨Ext.refl _,true,rfl,λ_ U=>by have:=U.1;omega,λ_=>rfl⟩,λX=>?_⟩;refine(BW h).mono ?_;rintro _ aa _ ⟨rfl,a⟩;refine A _ _ ⟨a,_,rfl,?_⟩;rw[decide_eq_true_eq];exact⟨λx U=>x U.2,λx U=>x ⟨Ω,U⟩⟩
structure CU where
 aj:Λ
 k:Int
 o:Int
 D:Told
instance Sy:aq CU where
 n:=1
 rep _ _ R w cs a:=∃g m sv gs,cs=[Γ g]/\fU w g m sv gs a.aj a.k a.o a.D/\R g/\R m/\∀r,leads sv r->R r
 len:=by rintro _ _ _ _ _ _ ⟨_,_,_,_,rfl,_⟩;rfl
 one:=by rintro _ _ _ _ _ _ ⟨_,_,_,_,rfl,_⟩ u hu;simp at hu;subst hu;rfl
 ab:=by
  rintro _ _ R T w w' _ a ⟨g,m,sv,gs,rfl,h1,f,h,p⟩ J q;obtain⟨s,x,y⟩:=h1.qT;exact⟨g,m,sv,gs,rfl,h1.ab J (q g s (.inr f)) (q m x (.inr h)) λr e=>q r (y r e) (.inr (p r e)),f,h,p⟩
 mono:=by
  rintro _ _ _ R R' w _ a ⟨g,m,sv,gs,rfl,h1,f,h,p⟩ _ z;obtain⟨s,x,y⟩:=h1.qT;exact⟨g,m,sv,gs,rfl,h1,z g s f,z m x h,λr e=>z r (y r e) (p r e)⟩
 hP:=by
  rintro _ _ R w _ a ⟨g,m,sv,gs,rfl,h1,f,h,p⟩;exact⟨g,m,sv,gs,rfl,h1,.inr f,.inr h,λr e=>.inr (p r e)⟩
abbrev hb:Type:=Rd (Λ)×CU
def q9(k:Int)(x:ck)(f:hb):Prop:=f.1=x.scope/\f.2.aj=x.sizes/\f.2.k=k/\f.2.o=min x.other k/\f.2.D.length<=x.lines.length/\∀t,im f.2.D f.2.o t=jX x k t
theorem MN{m:Bool}{S R:ak}{x:ck}(h:aq.rep m S R w cs (ha x)):∃aK szv b4,cs=[aK,szv,Δ x.other,b4]/\aq.rep (α:=Λ) false bB R w [aK] x.scope/\aq.rep (α:=Λ) false bB R w [szv] x.sizes/\aq.rep (α:=List (Λ×Int)) false bB R w [b4] x.lines:=by
 obtain⟨p,d1,s,z,rfl,_,_,_,h1,q,d2,A,B,rfl,_,_,_,a,r,d3,C,E,rfl,_,_,_,f,e⟩:=h;have h1:aq.rep (α:=Λ) false bB R w p x.scope:=h1;have a:aq.rep (α:=Λ) false bB R w q x.sizes:=a;have f:r=[Δ x.other]:=f;have e:aq.rep (α:=List (Λ×Int)) false bB R w d3 x.lines:=e;obtain⟨u,rfl⟩:=W9.1 (show p.length=1 from aq.len h1);obtain⟨v,rfl⟩:=W9.1 (show q.length=1 from aq.len a);obtain⟨y,rfl⟩:=W9.1 (show d3.length=1 from aq.len e);subst f;exact⟨u,v,y,rfl,h1,a,e⟩
theorem MO{m:Bool}{S R:ak}{p:Λ×Int}(h:aq.rep m S R w cs p):∃aL,cs=[aL,Δ p.2]/\aH .i64 w aL p.1:=by
 obtain⟨e,d1,f,q,rfl,_,_,_,h1,a⟩:=h;obtain⟨u,rfl⟩:=W9.1 (show e.length=1 from aq.len h1);have a:d1=[Δ p.2]:=a;subst a;exact⟨u,rfl,eG h1⟩
structure tK(k:Int)(x:ck):Prop where
 k:right k
 sizes:b3 x.sizes
 other:0<=x.other
 lines:mX x.sizes x.lines
 len:x.lines.length<=60000
 scope:x.scope.length<=100001
theorem cU{k:o6}(h:aH k w v l):∃a n c,v= .slice a n c:=by
 obtain⟨_,b,o,base,cap,rfl,_⟩:=h;exact⟨_,_,_,rfl⟩
theorem MP{aj:Nat}{ir aP aR:x1}{K:Int}{R:ak}{x:ck}(al:af w aj cE [ir,Δ K,aP,aR])(J:Seen R w cs (ha x))(aS:tK K x):
  am x7 vF [Γ aj,.agg cs.toArray] w λv w'=>Ext w w'/\∃b6,∃f:hb,v= .agg b6.toArray/\b6.length=2/\Seen (eH w.heap.size) w' b6 f/\q9 K x f:=by
 obtain⟨aK,szv,b4,rfl,h1,an,Q⟩:=MN J;obtain⟨H,S,bm,ao,bn,bp⟩:=aS;have bu:x.sizes.length<=6:=S.1;refine az func113 ?_;refine bf λap V bw au s=>?_;have s:af V ap b2 [aK,szv,Δ x.other,b4]:=by
  obtain⟨_,_,_,rfl⟩:=mj h1;obtain⟨_,_,_,rfl⟩:=mj an;obtain⟨_,_,_,rfl⟩:=mj Q;exact s
 refine bo cF.i λz aa bx U I=>?_;have I:af aa z cF [.slice ν 0 0,.pointer ν]:=I;intro bz L _ _;have W:=(au.trans U).trans L;have X:=U.trans L;have bA:=au.size;have bC:=U.size;have z3:=L.size;have bD:=I.lt;have aw:=al.ext W;rw[aM b2.p 1 (s.ext X) rfl,aQ cE.p 1 aw rfl,
  aM b2.p 2 (s.ext X) rfl,aQ cE.p 1 aw rfl,l8]
 refine(tJ ((eG an).ext W) Ω).mono ?_;rintro bE bF _ ⟨A,bG,bI,aT⟩;refine⟨.inl A,?_⟩;have z4:=A.size;have aU:cu (min x.other K) K:=⟨H,by have:=H.1;omega,Ω⟩;refine(MM aT.ls).mono ?_;rintro _ aV _ ⟨M,_,_,aW⟩;obtain⟨gT,m,sv,gs,rfl,bJ,bK,ax,aX⟩:=aW S aU;rw[bq,br];have z5:=M.size;have Y:=(W.trans A).trans M;have ay:=(X.trans A).trans M;rw[aM b2.p 3 (s.ext ay) rfl];have aA:=b0 Q Y;rw[jq iF.u aA];refine ce.range x.lines.length (λi a=>ai (λr=>r=m) aV a/\∃D,D.length<=i/\fU a gT m sv gs x.sizes K (min x.other K) D/\∀t,im D (min x.other K) t=lx x K i t) (sR aA) ⟨ai.refl _ _,[],o4 _,aX,λt=>by rw[CJ];rfl⟩ ?_ ?_
 .rintro i a aY hi ⟨e,D,aB,B,Z⟩ aZ;obtain⟨p,ac⟩:=aI (l:=x.lines) hi;have aC:=ao.2 p (x5 ac);have C:Ext w a:=Y.put e Ω;have a1:=e.size;have a2:aq.rep (α:=List (Λ×Int)) false bB R a [b4] x.lines:=b0 Q C;refine bH Ω ?_;refine nZ dX.p rfl iF.u dX.i a2 ac λbL a6=>?_;obtain⟨aL,rfl,aD⟩:=MO a6;refine bo dX.i λbM bN bO aE a7=>?_;have bP:=aE.size;refine cb (vs:=[aL,Δ p.2]) dX.i rfl rfl (by intro v ad;simp at ad;rcases ad with rfl|rfl<;>first|exact aD.cells.2|rfl) a7 λa8 ba bR aF=>?_;have bb:Ext a a8:=aE.put ba Ω;intro bS ae _ _;have y:=bb.trans ae;have z9:=y.size;rw[aM dX.p 0 (aF.ext ae) rfl,aM dX.p 1 (aF.ext ae) rfl,aQ cE.p 1 ((al.ext C).ext y) rfl,l8];have bT:=wA S aC.1;refine(tJ (aD.ext y) Ω).mono ?_;rintro bU bV _ ⟨E,bW,bX,bc⟩;refine⟨.inl E,?_⟩;have bY:=E.size;refine(B5 (c:=min p.2 K) ((B.ext y).ext E).is bc.ls).mono ?_;rintro _ bZ _ ⟨_,bd⟩;have be:cu (min p.2 K) K:=⟨H,by have:=H.1;omega,Ω⟩;obtain⟨rfl,aG,D',aH,aJ⟩:=bd ⟨aC.1,be⟩;rw[aO];refine aZ _ ⟨(e.trans ((y.trans E).ab _)).trans aG,D',by have:=aH.2;omega,fU.put ((B.ext y).ext E) aG aJ,λt=>?_⟩;rw[CL ao.1 ac,aH.cost B.is.nodup aJ.nodup];by_cases N:t=p.1
  .rw[if_pos N,if_pos N]
  .rw[if_neg N,if_neg N,Z]
 .rintro a aY ⟨e,D,aB,B,Z⟩;have C:Ext w a:=Y.put e Ω;have bg:Ext V a:=ay.put e Ω;have a1:=e.size;refine ct Ω ?_;rw[aM b2.p 0 (s.ext bg) rfl];refine(tJ ((eG h1).ext C) Ω).mono ?_;rintro O b1 _ ⟨P,bh,b3,G⟩;have z12:=P.size;rw[cZ (cs:=#[O,Γ gT]) (by obtain⟨_,_,_,rfl⟩:=cU G.ls;kernel_rfl)];have bi:Ext aa a:=((L.trans A).trans M).put e Ω;refine cb (vs:=[O,Γ gT]) cF.i rfl rfl (by intro v ad;simp at ad;rcases ad with rfl|rfl<;>first|exact G.ls.cells.2|rfl) ((I.ext bi).ext P) λaN ag b5 bj=>?_;rw[fO cF.p cF.i rfl bj.range];have bk:fU aN gT m sv gs x.sizes K (min x.other K) D:=(B.ext P).ab ag (λhe=>by have he:gT=z:=he;omega) (λhe=>by have he:m=z:=he;omega) (λr q he=>by have he:r=z:=he;have:=ax r q;omega);have bl:av .i64 ah aN bh O x.scope:=bt G ag λr q he=>by have he:r=z:=he;have:=(bQ G q).1;omega
  refine⟨(C.trans P).put ag Ω,_,(x.scope,⟨x.sizes,K,min x.other K,D⟩),rfl,rfl,?_,rfl,rfl,rfl,rfl,aB,λt=>?_⟩
  .exact⟨[O],[Γ gT],bB,bB,rfl,λ_ h=>h,λ_ h=>h,λ_ _ h _=>h,q6 bl λr q=>by have:=(bQ G q).1;show w.heap.size<=r;omega,
    ⟨gT,m,sv,gs,rfl,bk,by show w.heap.size<=gT;omega,by show w.heap.size<=m;omega,λr q=>by have:=ax r q;show w.heap.size<=r;omega⟩⟩
  .rw[Z,CK]
theorem MQ{S R:ak}{f:hb}(h:aq.rep false S R w cs f):aq.rep (α:=hb) true bB R w cs f:=by
 obtain⟨c,d,A,B,rfl,h1,p,_,a,e⟩:=h;exact⟨c,d,bB,bB,rfl,λ_ h=>h,λ_ h=>h,λ_ _ h _=>h,a,e⟩
def tL(k:Int)(a:List ck)(e:List hb):Prop:=e.length=a.length/\∀(i:Nat)x f,a[i]?=σ x->e[i]?=σ f->q9 k x f
theorem MR{e:Nat}{m:Bool}{S R:ak}{ir szv ae:x1}{K:Int}{q:List ck}{aC:x3->Prop}(aE:af w e cE [ir,Δ K,szv,.slice ν 0 0])(aV:aq.rep m S R w [ae] (show List hE from q.map ha))(aW:∀r,S r\/R r->r≠e)(aX:∀x∈q,tK K x)(bN:q.length<=256)(aY:∀w' z,∀s:List hb,ai (λr=>r=e) w w'->af w' e cE [ir,Δ K,szv,z]->Seen (λr=>w.heap.size<=r) w' [z] s->tL K q s->aC w'):
  ce (Δ 0) w λaj E aZ=>
   ac x7 (aN .lss ah false false aj (Δ (q.length:Int))) E λa1=>
   Split a1 (ac x7 (c9 ji ae aj) E λa2=>
   ac x7 (u5 b2 a2) E λa6=>
   aD x7 (Instr.alloc b2 true (.tuple #[])) E λx a7=>
   aD x7 (o9 b2 x a6) a7 λ(_:Unit)a8=>
   er a8 λC=>
   ac x7 (bP (Γ e)) C λG=>
   ac x7 (u6 cE G 3) C λH=>
   ac x7 (u5 dH H) C λan=>
   ac x7 (u5 b2 x) C λba=>
   am x7 vF [(Γ e),ba] C λbb I=>
    (Ext C I\/cD x7 (u5 dH H) an I/\cD x7 (u6 cE G 3) H I/\cD x7 (bP (Γ e)) G I/\True)/\
   aD x7 (Y3 dH 1 #[(0,bb)]) I λbc J=>
    (Ext C J\/cD x7 (u5 dH H) an J/\cD x7 (u6 cE G 3) H J/\cD x7 (bP (Γ e)) G J/\True)/\
    aD x7 (Z2 #[dH,dH] dH #[an,bc]) J λbd ao=>
     ac x7 (bP (Γ e)) ao λbe=>
     ac x7 (u6 cE be 3) ao λbf=>
     aD x7 (o9 dH bf bd) ao λ(_:Unit)aF=>
     ac x7 (aN .add ah false true aj (Δ 1)) aF λbg=>
   aZ bg aF) (aC E):=by
 have bO:=aE.lt;have bQ:(q.map ha).length=q.length:=Ξ
 refine ce.range q.length (λi V=>ai (λr=>r=e) w V/\∃z,∃s:List hb,∃A R':ak,af V e cE [ir,Δ K,szv,z]/\bG A R' V [z] s/\(∀r,A r->w.heap.size<=r/\r<V.heap.size)/\(∀r,R' r->w.heap.size<=r/\¬A r/\r<V.heap.size)/\tL K (q.take i) s) Ω
  ⟨ai.refl _ _,_,[],bB,bB,aE,ht,λ_ h=>h.elim,λ_ h=>h.elim,rfl,λi x f h=>by simp at h⟩ ?_ ?_
 rotate_left
 .rintro V bh ⟨L,z,s,A,R',M,au,B,N,Q⟩;rw[o7]at Q;rw[aS,al];refine⟨λh=>Ω,λ_=>aY V z s L M (qB au λr _ h=>?_) Q⟩;exact h.elim (λh=>(B r h).1) λh=>(N r h).1
 rintro i V bh hi ⟨L,z,s,A,R',M,au,B,N,aG,Q⟩ bi;obtain⟨x,av⟩:=aI (l:=q) hi;have bj:=aX x (x5 av);have bR:=L.size;rw[n9]at aG;have bk:aq.rep m S R V [ae] (show List hE from q.map ha):=aq.ab aV L λr _ h he=>aW r h he;refine bH Ω ?_;refine nZ (α:=hE) (a:=ha x) b2.p rfl ji.u b2.i bk (by show(q.map ha)[i]?=_;rw[x8,av];rfl) λcs aw=>?_;have aH:cs.length=4:=aq.len aw;have bm:Seen (λr=>S r\/R r) V cs (ha x):=qB aw λr _ h=>h;refine bo b2.i λap aa bS aJ bn=>?_;have bT:=aJ.size;refine cb (vs:=cs) b2.i aH rfl (aq.one aw) bn λbp bq bU br=>?_;have bt:Ext V bp:=aJ.put bq Ω;intro U aK _ _;have O:=bt.trans aK;have z4:=O.size;rw[aQ cE.p 3 (M.ext O) rfl,bK b2.p b2.i aH (br.ext aK).range];refine(MP (M.ext O) (b0 bm O) bj).mono ?_;rintro _ W _ ⟨X,b6,f,rfl,bW,ag,bu⟩;have z5:=X.size;refine⟨.inl X,?_⟩;have aL:=MQ ag;have bw:=O.trans X;refine kA (α:=hb) (a:=f) (cs:=b6) (A:=bB) (R:=eH U.heap.size) dH.u cF.i Φ (by
  obtain⟨c,d,bX,bY,he,_,_,_,Y,bx⟩:=ag;have Y:aq.rep (α:=Λ) false bB _ W c f.1:=Y;obtain⟨u,rfl⟩:=W9.1 (show c.length=1 from aq.len Y);obtain⟨bZ,cg,b1,b3,rfl,_⟩:=bx;obtain⟨_,_,_,rfl⟩:=mj Y;cases he;rfl) aL λu ax Z _ hu=>?_
 have b4:=Z.size;refine⟨.inl (X.trans Z),?_⟩;have ay:=bw.trans Z;have bz:bG A (λr=>R' r\/(U.heap.size<=r/\r<W.heap.size)) ax [z] s:=b0 (aq.mono au (λ_ _ h=>h) λ_ _ h=>.inl h) ay;have bA:bG bB (λr=>R' r\/(U.heap.size<=r/\r<W.heap.size)) ax b6 f:=b0 (aq.mono aL (λ_ _ h=>h) λr y h=>.inr ⟨h,y⟩) Z;refine n0 (α:=hb) (a:=f) (A:=bB) dH.u cF.i rfl bz hu bA (λr _ aM h=>?_) Ω Ω λaP bC az aA=>?_
 .rcases h with h|h|h
  .exact h
  .exact (N r h).2.1 aM
  .have:=(B r aM).2;omega
 have b5:=aA.size;rw[bV,aU cE.p rfl];have bD:=(M.ext ay).ab aA (λhe=>by have:=(B _ he).1;omega);refine bl (g:=e) (o:=3) dH.i (qC az) (jp az) bD Ξ λbE aR b7 aB=>?_;have aB:af bE e cE [ir,Δ K,szv,aP]:=aB;rw[aO];have bF:=mO az;refine bi _ ⟨(hz (L.trans (ay.ab _)) aA λr y he=>by have:=(B _ he).1;omega).trans aR,aP,s++[f],λr=>((A r\/bB r\/ax.heap.size<=r)/\r<bC.heap.size),λr=>R' r\/(U.heap.size<=r/\r<W.heap.size),aB,aq.ab bF aR λr _ h he=>?_,λr y=>?_,λr y=>?_,?_,λj bI bJ ad P=>?_⟩
 .have he:r=e:=he;rcases h with h|h|h
  .rcases h.1 with h1|h1|h1
   .have:=(B _ h1).1;omega
   .exact h1
   .omega
  .have:=(N r h).1;omega
  .omega
 .have b8:=y.2;rcases y.1 with h1|h1|h1
  .have:=(B _ h1).1;omega
  .exact h1.elim
  .omega
 .rcases y with y|y
  .have aT:=N r y;refine⟨aT.1,λh=>?_,Ω⟩;rcases h.1 with h1|h1|h1
   .exact aT.2.1 h1
   .exact h1
   .omega
  .refine⟨Ω,λh=>?_,Ω⟩;rcases h.1 with h1|h1|h1
   .have:=(B _ h1).2;omega
   .exact h1
   .omega
 .rw[r8,n9,aG];simp;omega
 .have bL:=(x4.1 P).1;rw[r8,V6]at bL;rw[Z9 Ω]at ad;by_cases bM:j<s.length
  .rw[Y9 bM]at P;exact Q j bI bJ (by rw[Z9 Ω];exact ad) P
  .rw[X0 Ω,show j-s.length=0 by omega]at P;rw[show j=i by omega,av]at ad;cases P;cases ad;exact bu
def ly(w:x3)(h:Nat)(f:bY):Prop:=∃szv a gz,∃e:List hb,af w h cE [bL f.name,Δ f.k,szv,a]/\av .i64 ah w gz szv f.sizes/\Seen fo w [a] e/\tL f.k f.funs e
theorem ly.ext{a:Nat}{f:bY}(h:ly w a f)(J:Ext w w'):ly w' a f:=by
 obtain⟨szv,e,gz,p,h1,q,r,s⟩:=h;exact⟨szv,e,gz,p,h1.ext J,q.ext J,b0 r J,s⟩
def CV(w:x3)(res:Option bY)(v:x1)(w':x3):Prop:=Ext w w'/\match res with
 |none=>∃n e:Int,v= .tuple #[.pointer ν,Δ n,Δ e]/\e≠0
 |some f=>∃a,∃n:Int,v= .tuple #[Γ a,Δ n,Δ 0]/\ly w' a f
structure MS(clean:Bool)(so:Option aE)(name:Λ)(k:Int)(sizes:Λ)(acc:List hE)(res:Option bY):Prop where
 pC:∀s,so=σ s->s.toks=[]->clean=true->s.big=false->∃fs,acc=fs.map ha/\res=σ ⟨name,k,sizes,fs⟩/\(∀x∈fs,tK k x)/\fs.length<=256/\sizes.length<=1000000
 bad:res≠ν->∃s,so=σ s/\s.toks=[]/\clean=true/\s.big=false
theorem MT{g:Nat}{A B S R:ak}{m clean:Bool}{so:Option aE}{name:Λ}{acc:List hE}{res:Option bY}{szv au p:x1}{pl:Λ}{Q:x1->x3->Prop}(aF:gZ w g gs A B clean so)(N:MS clean so name k sizes acc res)(bn:aH .i64 w szv sizes)(bo:∀r,leads szv r->r≠g/\r≠gs)(bp:aq.rep m S R w [au] acc)(a6:∀r,S r\/R r->r≠g/\r≠gs/\r<w.heap.size)(c1:so=ν->True)(c2:g<w.heap.size)(c3:gs<w.heap.size)(bq:ai (λr=>w0.heap.size<=r) w0 w)(c4:w0.heap.size<=g)(c6:w0.heap.size<=gs)(br:aH .u8 w0 p pl)(X:∀v w',CV w0 res v w'->Q v w'):
  cz (α:=x3->Prop) (λ(q:x3)=>
  ac x7 (bP (Γ g)) q λbt=>
  ac x7 (u6 ch bt 1) q λbu=>
  ac x7 (u6 e1 bu 0) q λbw=>
  ac x7 (u5 jP bw) q λbx=>
  ac x7 (aN .neq jP false true bx (Δ 0)) q λbz=>
  Split bz (er q λH=>
   ac x7 (bP (Γ g)) H λbA=>
   ac x7 (u6 ch bA 1) H λbB=>
   ac x7 (u6 e1 bB 2) H λbC=>
   ac x7 (u5 ah bC) H λbE=>
   ac x7 (bP (Γ g)) H λbF=>
   ac x7 (u6 ch bF 1) H λbG=>
   ac x7 (u6 e1 bG 0) H λbH=>
   ac x7 (u5 jP bH) H λbI=>
   Q (.tuple #[(.pointer ν),bE,bI]) H)
   (ac x7 (bP (Γ g)) q λbJ=>
   ac x7 (u6 ch bJ 1) q λbK=>
   ac x7 (u6 e1 bK 1) q λbM=>
   ac x7 (u5 jP bM) q λbN=>
   ac x7 (aN .neq jP false true bN (Δ 0)) q λbO=>
   Split bO (er q λI=>
   ac x7 (bP (Γ g)) I λbQ=>
   ac x7 (u6 ch bQ 1) I λbR=>
   ac x7 (u6 e1 bR 3) I λbS=>
   ac x7 (u5 ah bS) I λbU=>
   ac x7 (bP (Γ g)) I λbW=>
   ac x7 (u6 ch bW 1) I λbX=>
   ac x7 (u6 e1 bX 1) I λbZ=>
   ac x7 (u5 jP bZ) I λb1=>
   Q (.tuple #[(.pointer ν),bU,b1]) I)
   (am x7 zK [szv] q λb3 a7=>
  ac x7 (Instr.build cE #[(0,bL name),(1,Δ k),(2,b3)]) a7 λb4=>
  aD x7 (Instr.box cE b4) a7 λO a8=>
  ac x7 (V2 #[ji] ah #[au]) a8 λb5=>
  ce (Δ 0) a8 λaG P b6=>
   ac x7 (aN .lss ah false false aG b5) P λb7=>
   Split b7 (ac x7 (c9 ji au aG) P λb8=>
   ac x7 (u5 b2 b8) P λb9=>
   aD x7 (Instr.alloc b2 true (.tuple #[])) P λx ca=>
   aD x7 (o9 b2 x b9) ca λ(_:Unit)cb=>
   er cb λM=>
   ac x7 (bP O) M λY=>
   ac x7 (u6 cE Y 3) M λZ=>
   ac x7 (u5 dH Z) M λaI=>
   ac x7 (u5 b2 x) M λcc=>
   am x7 vF [O,cc] M λcd ae=>
    (Ext M ae\/cD x7 (u5 dH Z) aI ae/\cD x7 (u6 cE Y 3) Z ae/\cD x7 (bP O) Y ae/\True)/\
   aD x7 (Y3 dH 1 #[(0,cd)]) ae λcg ag=>
    (Ext M ag\/cD x7 (u5 dH Z) aI ag/\cD x7 (u6 cE Y 3) Z ag/\cD x7 (bP O) Y ag/\True)/\
    aD x7 (Z2 #[dH,dH] dH #[aI,cg]) ag λci aJ=>
     ac x7 (bP O) aJ λcj=>
     ac x7 (u6 cE cj 3) aJ λck=>
     aD x7 (o9 dH ck ci) aJ λ(_:Unit)ba=>
     ac x7 (aN .add ah false true aG (Δ 1)) ba λcl=>
   b6 cl ba)
    (ac x7 (V2 #[cP] ah #[p]) P λcm=>
  Q (.tuple #[O,cm,(Δ 0)]) P)))) λav=>
 am x7 k8 [(Γ g)] w λcn aj=>
 Split cn (ac x7 (bP (Γ g)) aj λcp=>
  ac x7 (u6 ch cp 0) aj λcq=>
  ac x7 (u5 sI cq) aj λcr=>
  am x7 vE [cr] aj λaK L=>
  ac x7 (Y1 aK 0) L λc7=>
  ac x7 (Y1 aK 1) L λbb=>
  ac x7 (Y1 aK 2) L λaL=>
  ac x7 (aN .eql jP false true aL (Δ 0)) L λct=>
  Split ct (am x7 nM [(Γ g),(Δ 4),bb] L λc8 cu=>
  av cu)
  (ac x7 (aN .eql jP false true aL (Δ 11)) L λcw=>
  Split cw (am x7 nM [(Γ g),aL,bb] L λda cA=>
   av cA)
   (av L)))
  (av aj):=by
 refine c5 (λq=>ai (λr=>r=g\/r=gs) w q/\∃(e big J K told:Int)(sv:x1),af q g ch (fS gs e big J K told sv)/\((e≠0/\res=ν)\/(e=0/\∃s,so=σ s/\s.toks=[]/\clean=true/\(s.big=true↔big≠0)))) ?_ ?_
 rotate_left
 .intro aB aM;refine(Cv aF).mono ?_;rintro _ V _ ⟨rfl,an⟩;cases so with
  |none=>
   rw[show(ν:Option aE).isSome=false from rfl,a1];obtain⟨e,big,J,K,told,sv,z,aO⟩:=aF.ext an;refine aM _ ⟨an.ab _,e,big,J,K,told,sv,z,.inl ⟨aO,?_⟩⟩;cases G:res with
   |none=>rfl
   |some f=>obtain⟨s,h,_⟩:=N.bad (by rw[G];simp);cases h
  |some s=>
   rw[show(σ s:Option aE).isSome=true from rfl,bT];have cB:di V g gs A B s clean:=aF.ext an;obtain⟨ax,cC,cF,big,J,K,told,sv,z,aO,cG⟩:=id cB;rw[aQ ch.p 0 z rfl];refine(qQ cC).mono ?_;rintro v aa _ ⟨U,ad⟩;have cH:(s.toks≠[]\/clean=false)->res=ν:=λy=>by
    cases G:res with
    |none=>rfl
    |some f=>
     obtain⟨s',h,ao,bc,_⟩:=N.bad (by rw[G];simp);cases h;rcases y with y|y
     .exact absurd ao y
     .rw[y]at bc;cases bc
   have ay:∀C,ai (λr=>r=g) aa C->ey C g gs A B->(s.toks≠[]\/clean=false)->aB C:=λC ap ay y=>by
    obtain⟨_,e,big,J,K,told,sv,l,cI,cJ,_⟩:=ay;exact aM _ ⟨((an.ab _).trans (U.mono λr _ h=>.inr h)).trans (ap.mono λr _ h=>.inl h),e,big,J,K,told,sv,cI,.inl ⟨cJ.1,cH y⟩⟩
   have aP:=z.ab U ax.1;have bd:=aq.ab cG U λr _ h ao=>by
    have ao:r=gs:=ao;subst ao;rcases h with h|h
    .exact ax.2.2.1 h
    .exact h.1 (.inr (.inl rfl))
   have bg:s.shared.length<=100000:=by have:=cF.2.2;omega
   cases W:s.toks with
   |cons t l=>
    rw[W]at ad;obtain⟨db,n,rfl⟩:=ad;rw[fP,fQ,fR,be,al];refine⟨λ_=>?_,λh=>absurd rfl h⟩;refine(tf (ax.ab U) aP bd Ω bg).mono ?_;rintro _ C _ ⟨ap,aR⟩;exact ay C ap aR (.inl (by rw[W];simp))
   |nil=>
    rw[W]at ad;obtain⟨n,rfl⟩:=ad;rw[fP,fQ,fR,be,al];refine⟨λh=>by cases clean<;>simp at h,λ_=>?_⟩;rw[be,al];cases az:clean with
    |true=>
     subst az;refine⟨λh=>by simp at h,λ_=>aM _ ⟨(an.ab _).trans (U.mono λr _ h=>.inr h),0,big,J,K,told,sv,aP,.inr ⟨rfl,s,rfl,W,rfl,aO.1⟩⟩⟩
    |false=>
     subst az;refine⟨λ_=>?_,λh=>absurd rfl h⟩;refine(tf (ax.ab U) aP bd Ξ bg).mono ?_;rintro _ C _ ⟨ap,aR⟩;exact ay C ap aR (.inr rfl)
 .rintro V ⟨aA,e,big,J,K,told,sv,z,cK⟩;have dc:=aA.size;have aS:Ext w0 V:=(bq.ext λr G h=>Ω).then aA (λr G h=>by rcases h with h|h<;>omega);rw[bV,aU ch.p rfl,aU e1.p rfl,aw Ψ (z.cell (o:=0+1+0) rfl),bD,al];rcases cK with⟨he,aT⟩|⟨rfl,s,rfl,W,az,bh⟩
  .refine⟨λ_=>?_,λh=>absurd he h⟩;intro aa E _ _;rw[bV,aU ch.p rfl,aU e1.p rfl,aw Ψ ((z.ext E).cell (o:=0+1+2) rfl),bV,aU ch.p rfl,aU e1.p rfl,aw Ψ ((z.ext E).cell (o:=0+1+0) rfl)];rw[aT]at X;exact X _ _ ⟨aS.trans E,J,e,rfl,he⟩
  .refine⟨λh=>absurd rfl h,λ_=>?_⟩;rw[bV,aU ch.p rfl,aU e1.p rfl,aw Ψ (z.cell (o:=0+1+1) rfl),bD,al];refine⟨λy=>?_,λy=>?_⟩
   .have aT:res=ν:=by
     cases G:res with
     |none=>rfl
     |some f=>
      obtain⟨s',h,_,_,bi⟩:=N.bad (by rw[G];simp);cases h;rw[bh.2 y]at bi;cases bi
    intro aa E _ _;rw[bV,aU ch.p rfl,aU e1.p rfl,aw Ψ ((z.ext E).cell (o:=0+1+3) rfl),bV,aU ch.p rfl,aU e1.p rfl,aw Ψ ((z.ext E).cell (o:=0+1+1) rfl)];rw[aT]at X;exact X _ _ ⟨aS.trans E,K,big,rfl,y⟩
   .have cL:s.big=false:=by
     cases cM:s.big with
     |false=>rfl
     |true=>exact absurd (bh.1 cM) y
    obtain⟨aV,rfl,rfl,cN,cO,cQ⟩:=N.pC s rfl W az cL;have cR:aH .i64 V szv sizes:=hT bn aA λr G a n c ad N=>by
     have:=bo r ⟨a,n,c,ad,N⟩;exact G.elim this.1 this.2
    refine(tJ cR cQ).mono ?_;rintro aX aa _ ⟨E,gz,dd,aY⟩;have de:=E.size;rw[cZ (cs:=#[bL name,Δ k,aX,.slice ν 0 0]) (by obtain⟨_,_,_,rfl⟩:=cU aY.ls;kernel_rfl)];refine bf λaZ C df a2 aC=>?_;have aC:af C aZ cE [bL name,Δ k,aX,.slice ν 0 0]:=by obtain⟨_,_,_,rfl⟩:=cU aY.ls;exact aC
    have bj:aq.rep m S R C [au] (show List hE from aV.map ha):=b0 (b0 (aq.ab bp aA λr _ h he=>by have:=a6 r h;exact he.elim this.1 this.2.1) E) a2;have cS:(aV.map ha).length=aV.length:=Ξ
    rw[jq ji.u bj,cS];refine MR aC bj (λr h=>by have:=a6 r h;omega) cN cO λbk cT cV cW cX cY c0=>?_;have dg:=aC.lt;have z3:=a2.size;have bl:Ext aa bk:=a2.then cW (λr G h=>by have h:r=aZ:=h;omega);have bm:Ext w0 bk:=(aS.trans E).trans bl;rw[aW cP.u (br.ext bm)];exact X _ _ ⟨bm,aZ,_,rfl,aX,cT,gz,cV,cX,aY.ext bl,jT cY,c0⟩
theorem CW{α:Type}{f:List α->aE->Option (α×aE)}{acc:List α}{s:aE}:fv f (n+1) acc (σ s)=match f acc s with
  |none=>ν
  |some (a,s')=>fv f n (acc++[a]) (σ s'):=by
 show cL f (n+1) acc s=_;simp only[cL];cases f acc s<;>rfl
theorem MU{g:Nat}{A B:ak}{s:Option aE}{clean:Bool}{most:Int}{O:x1->x3->Prop}(h:dm w g gs A B clean s)(au:(N:Int)<=ax)(P:∀szv w' l so gz,ai (bF g gs A) w w'->dm w' g gs A B clean so->av .i64 ao w' gz szv l->w.heap.size<=gz->l.length<=100001->(∀q,fv (fe most) N [] s=σ q->so=σ q.2/\l=q.1)->(fv (fe most) N [] s=ν->so=ν)->O szv w'):
 b5 (.slice ν 0 0) (Δ 0) w λsizes i G k=>
  cz (α:=x1->x3->Prop) (λ(aw:x1)(Q:x3)=>
   Split aw (am x7 nL [Γ g,(Δ 1),Δ most] Q λR y=>
  ac x7 (Y1 R 0) y λS=>
  ac x7 (Y1 R 1) y λaz=>
  ac x7 (aN .gtr ao false true S (Δ 32)) y λaA=>
  am x7 qv [Γ g,aA,az] y λbm aC=>
  aD x7 (Y3 ay 1 #[(0,S)]) aC λaF aG=>
  aD x7 (Z2 #[ay,ay] ay #[sizes,aF]) aG λaH U=>
  ac x7 (aN .add ao false true i (Δ 1)) U λaI=>
  k aH aI U) (O sizes Q)) λaB=>
  ac x7 (aN .lss ao false false i (Δ (N:Int))) G λaJ=>
  Split aJ (am x7 k8 [Γ g] G λaK aL=>
  aB aK aL)
   (aB (.bool false) G):=by
 obtain⟨bn,W,bo,aM,aP⟩:=h.side;have gT:∀r,bF g gs A r->r<w.heap.size:=aM;unfold ax at au;generalize aQ:fv (fe most) N [] s=X at P;refine⟨λout H V=>∃(i:Nat)(l:Λ)(so:Option aE)(gz:Nat),H=Δ (i:Int)/\i<=N/\ai (bF g gs A) w V/\av .i64 ao V gz out l/\w.heap.size<=gz/\dm V g gs A B clean so/\X=fv (fe most) (N-i) l so/\l.length<=100001/\∀st,so=σ st->l.length+st.toks.length<=100000,
  λ_ H _=>N-(bU H).toNat,⟨0,[],s,w.heap.size,rfl,X6 _,ai.refl _ _,av.nil _ _ _ _,o4 _,h,aQ.symm,Ξ,λst aR=>?_⟩,?_⟩
 .subst aR;have:=h.words;simpa using this
 rintro out _ V ⟨i,l,so,gz,rfl,bp,I,Y,aT,Z,C,aU,ad⟩;refine aV (λv ae=>Ext V ae/\((v= .bool true/\i<N/\∃st,so=σ st)\/(v= .bool false/\(so=ν\/i=N)))) ?_ ?_
 rotate_left
 .intro aB J;rw[aS,al];refine⟨λaW=>?_,λbu=>J _ _ ⟨Ext.refl _,.inr ⟨rfl,.inr Ω⟩⟩⟩;refine(pI Z).mono ?_;rintro _ ae _ ⟨rfl,af⟩;cases so with
  |none=>exact J _ _ ⟨af,.inr ⟨rfl,.inl rfl⟩⟩
  |some st=>exact J _ _ ⟨af,.inl ⟨rfl,Ω,st,rfl⟩⟩
 rintro _ aa ⟨x,aX⟩;have ag:=Y.ext x;have ah:=Z.ext x;rcases aX with⟨rfl,aW,st,rfl⟩|⟨rfl,aY⟩
 rotate_left
 .rw[a1];have aj:X=so.map λst=>(l,st):=by
   rcases aY with rfl|rfl
   .exact C
   .rw[U8]at C;rw[C];cases so<;>rfl
  refine P out aa l so gz (I.trans (x.ab _)) ah ag aT aU (λq f=>?_) λan=>?_
  .rw[aj]at f;cases so with
   |none=>cases f
   |some st=>cases f;exact⟨rfl,rfl⟩
  .rw[aj]at an;cases so with
   |none=>rfl
   |some st=>cases an
 rw[bT];have ad:=ad st rfl;refine(mi (s:=σ st) ah).mono ?_;rintro _ bw _ ⟨K,z,at_,rfl,aZ,bx⟩;obtain⟨L,a2⟩:=K.of;rw[bq,br,bN];refine(q4 a2).mono ?_;rintro _ bz _ K;obtain⟨M,a6⟩:=K.of;refine ee ay.u ao.i rfl λa ga a7 bA E a8=>?_;have bB:=I.size;have bC:=x.size;have z3:=L.size;have z4:=M.size;have z5:=E.size;have ap:∀r,leads out r->¬bF g gs A r:=λr p ba=>by have:=gT r ba;have:=(bQ Y p).1;omega
 have bb:=bt (bt ag L ap) M ap;refine jn ay.u ao.i rfl (bb.ext E) a8.ls Θ Θ λbD be bf bE bg aq=>?_;rw[aO,wrap_i64 Ω Ω];have bh:ai (bF g gs A) w a7:=((((I.trans (x.ab _)).trans L).trans M).trans (E.ab _));have bi:ai (bF g gs A) w bf:=hz bh aq λr p he=>by have he:r=gz:=he;omega
 have bj:∀r,bF g gs A r->¬(λr=>r=gz) r:=λr p he=>by have:=gT r p;have he:r=gz:=he;omega
 have bk:∀r,cH g gs A B r->¬(λr=>r=gz) r:=λr p he=>by have:=aP r p.2;have he:r=gz:=he;omega
 refine⟨⟨i+1,l++[z],_,be,rfl,Ω,bi,bg,Ω,(a6.ext E).ab aq bj bk,?_,Θ,λbG bl=>?_⟩,by simp only[bU];omega⟩
 .rw[C,show N-i=(N-(i+1))+1 by omega,CW];unfold fe;cases f:bd 1 most st with
  |none=>have e:bc 1 most (σ st)=ν:=f;rw[e];rfl
  |some q=>
   have e:bc 1 most (σ st)=σ q:=f;have:=aZ q e;subst this;rw[e];rfl
 .obtain⟨bH,W,rfl⟩:=X4.1 bl;obtain⟨q,f,rfl⟩:=X4.1 W;have h1:=(dg (n:=q.1) (s':=q.2) f).1;simp only[r8,V6];show l.length+1+q.2.toks.length<=100000;omega
theorem MV{acc:List (Λ×Int)}{s s':aE}{a:Λ×Int}(h:dQ sizes acc s=σ (a,s')):s'.told=s.told/\s'.big=s.big:=by
 obtain⟨_,_,_,e⟩:=oc h;exact⟨e.eqs.1,e.eqs.2.1⟩
theorem MW{s s':aE}{l:List (Λ×Int)}(hi:dR s)(h:dA sizes s=σ (l,s')):dR s'/\(s.big=true->s'.big=true):=by
 have e:=Cs sizes (σ s);rw[show iQ sizes (σ s)=dA sizes s from rfl,h]at e;cases w:bc (-ax) ax (σ s)with
 |none=>rw[w]at e;cases e
 |some q=>
  obtain⟨n,s1⟩:=q;rw[w]at e;simp only at e;have h1:=(dg (n:=n) (s':=s1) w).eqs;have y:dR s1:=λp=>by rw[h1.1];rw[h1.2.1]at p;exact hi p
  split at e
  .cases U:s1.shared[(-n-1).toNat]? with
   |none=>rw[U]at e;cases e
   |some q=>
    obtain⟨z,l'⟩:=q;rw[U]at e;simp only at e;split at e
    .cases e;exact⟨y,λp=>by rw[h1.2.1];exact p⟩
    .cases e
  .have:=iN (f:=dQ sizes) (λacc t=>t.told=(j1 n s1).told/\t.big=(j1 n s1).big) (λacc t a bp ⟨x,r⟩ g=>by
    have:=MV g;exact⟨by rw[this.1,x],by rw[this.2,r]⟩) n.toNat [] _ l s' ⟨rfl,rfl⟩ e.symm
   obtain⟨⟨x,r⟩,_⟩:=this;refine⟨λp=>by rw[x];rw[r]at p;exact Mh n s1 p,λp=>?_⟩;rw[r];show(s1.big||_)=true;rw[h1.2.1,p];rfl
theorem MX{all:Λ}{s s':aE}{x:ck}(hi:dR s)(h:c0 all s=σ (x,s')):dR s'/\s'.toks.length<s.toks.length:=by
 unfold c0 at h;cases r:bd (-ax) ax s with
 |none=>rw[r]at h;cases h
 |some q=>
 obtain⟨a,s1⟩:=q;rw[r]at h;simp only at h;have t0:=dg r;cases h1:eR all.length a.natAbs s1 with
 |none=>rw[h1]at h;cases h
 |some q=>
 obtain⟨sc,f⟩:=q;rw[h1]at h;simp only at h;obtain⟨w,_⟩:=tc h1;generalize sc.map (λv=>all.getD v.toNat 0)=sizes at h;cases y:bd 0 ax (a8 (decide (6<a.natAbs)||dk sizes) f)with
 |none=>rw[y]at h;cases h
 |some q=>
 obtain⟨other,z⟩:=q;rw[y]at h;simp only at h;have A:=dg y;have F:dR z:=λe=>by
  rw[A.eqs.1];rw[A.eqs.2.1]at e;have e:(f.big||_)=false:=e;have C:=(S7.1 e).1;show f.told<=16384;rw[w.eqs.1,t0.eqs.1];rw[w.eqs.2.1,t0.eqs.2.1]at C;exact hi C
 cases p:dA sizes z with
 |none=>rw[p]at h;cases h
 |some q=>
 obtain⟨lines,B⟩:=q;rw[p]at h;simp only[Y2,T5]at h;obtain⟨_,rfl⟩:=h;have G:=MW F p;have J:=Cz p;have K:=t0.1;have L:=w.1;have M:f.toks.length=z.toks.length+1:=A.1;have E:∀t:aE,t.told=B.told/\t.big=B.big/\t.toks=B.toks->dR t/\t.toks.length<s.toks.length:=λt ⟨H,I,a3⟩=>⟨λe=>by rw[H];rw[I]at e;exact G.1 e,by rw[a3];omega⟩;split
 .exact E _ ⟨rfl,rfl,rfl⟩
 .exact E _ ⟨rfl,rfl,rfl⟩
theorem MY{S R:ak}{x:hE}(h:aq.rep false S R w cs x):aq.rep (α:=hE) true bB R w cs x/\(x1.agg cs.toArray).cells=cs.toArray:=by
 obtain⟨p,d1,s,z,rfl,_,_,_,h1,q,d2,A,B,rfl,_,_,_,a,r,d3,C,E,rfl,_,_,_,f,e⟩:=h;have h1:aq.rep (α:=Λ) false bB R w p x.1:=h1;have a:aq.rep (α:=Λ) false bB R w q x.2.1:=a;have f:r=[Δ x.2.2.1]:=f;have e:aq.rep (α:=List (Λ×Int)) false bB R w d3 x.2.2.2:=e;refine⟨⟨p,_,bB,bB,rfl,λ_ h=>h,λ_ h=>h,λ_ _ h _=>h,h1,q,_,bB,bB,rfl,λ_ h=>h,λ_ h=>h,λ_ _ h _=>h,a,r,d3,bB,bB,rfl,λ_ h=>h,λ_ h=>h,λ_ _ h _=>h,f,e⟩,?_⟩;obtain⟨u,rfl⟩:=W9.1 (show p.length=1 from aq.len h1);obtain⟨v,rfl⟩:=W9.1 (show q.length=1 from aq.len a);obtain⟨y,rfl⟩:=W9.1 (show d3.length=1 from aq.len e);obtain⟨_,_,_,rfl⟩:=mj h1;obtain⟨_,_,_,rfl⟩:=mj a;obtain⟨_,_,_,rfl⟩:=mj e;subst f;rfl
theorem MZ{g c:Nat}{A B:ak}{o:Option aE}{clean:Bool}{L:x1}{all:Λ}{aG:x1->x3->Prop}(aI:gZ w g gs A B clean o)(hi:∀s,o=σ s->dR s)(br:(c:Int)<=ax)(bt:aH .i64 w L all)(aJ:∀r,leads L r->r≠g/\r≠gs/\r<w.heap.size/\(o≠ν->¬A r))(bu:o≠ν->∀z∈all,1<=z/\z<=ax)(bw:all.length<=100001)(bx:e5 w)(h1:1<w0.heap.size/\(o≠ν->cH g gs A B 1))(aK:ai (λr=>w0.heap.size<=r) w0 w)(bz:w0.heap.size<=g)(bA:w0.heap.size<=gs)(cn:g<w.heap.size/\gs<w.heap.size)(bC:o≠ν->∀r,A r->w0.heap.size<=r)(aL:∀M w' acc so aT y aM aP,ai (λr=>w0.heap.size<=r) w0 w'->w.heap.size<=w'.heap.size->gZ w' g gs aT y clean so->aq.rep (α:=List hE) true aM aP w' [M] acc->(∀r,aM r\/aP r->r≠g/\r≠gs/\r<w'.heap.size)->aH .i64 w' L all->
   (∀q,fv (λ_ s=>c0 all s) c [] o=σ q->so=σ q.2/\acc=q.1.map ha)->(fv (λ_ s=>c0 all s) c [] o=ν->so=ν)->aG M w'):
 b5 (.slice ν 0 0) (Δ 0) w λfuns aQ an bD=>
  cz (α:=x1->x3->Prop) (λ(bE:x1)(aR:x3)=>
   Split bE (am x7 zJ [Γ g,L] aR λbH bI=>
  aD x7 (Y3 ji 1 #[(0,bH)]) bI λbJ bK=>
  aD x7 (Z2 #[ji,ji] ji #[funs,bJ]) bK λbL aU=>
  ac x7 (aN .add ao false true aQ (Δ 1)) aU λbM=>
  bD bL bM aU) (aG funs aR)) λaW=>
  ac x7 (aN .lss ao false false aQ (Δ (c:Int))) an λbN=>
  Split bN (am x7 k8 [Γ g] an λbO bP=>
  aW bO bP)
   (aW (.bool false) an):=by
 unfold ax at br;generalize f:fv (λ_ s=>c0 all s) c [] o=aX at aL;have aY:∀s,o=σ s->o≠ν:=λs h=>by rw[h];simp
 refine⟨λM ap V=>∃(i:Nat)(acc:List hE)(H:List ck)(so:Option aE)(C J E N:ak),ap=Δ (i:Int)/\i<=c/\ai (λr=>w0.heap.size<=r) w0 V/\w.heap.size<=V.heap.size/\gZ V g gs C J clean so/\aq.rep true E N V [M] acc/\
   aH .i64 V L all/\e5 V/\aX=fv (λ_ s=>c0 all s) (c-i) H so/\(∀r,E r->w.heap.size<=r/\r<V.heap.size)/\(∀r,N r->r≠g/\r≠gs/\¬E r)/\
   ∀s,so=σ s->acc=H.map ha/\dR s/\H.length+s.toks.length<=100000/\o≠ν/\(∀r,C r->A r\/w.heap.size<=r)/\(∀r,C r->w0.heap.size<=r)/\(∀r,B r->J r)/\(∀r,E r->¬J r/\¬C r)/\(∀r,N r->cH g gs C J r),
  λ_ ap _=>c-(bU ap).toNat,⟨0,[],[],o,A,B,bB,bB,rfl,X6 _,aK,o4 _,aI,ht,bt,bx,f.symm,λ_ h=>h.elim,λ_ h=>h.elim,λs U=>⟨rfl,hi s U,?_,aY s U,λr e=>.inl e,bC (aY s U),λr e=>e,λ_ h=>h.elim,λ_ h=>h.elim⟩⟩,?_⟩
 .subst U;have au:di w g gs A B s clean:=aI;have:=au.2.1.words.1;simpa using this
 rintro M _ V ⟨i,acc,H,so,C,J,E,N,rfl,cp,bQ,cq,aZ,bR,av,a2,Z,G,bS,a6⟩;refine aV (λv a7=>Ext V a7/\((v= .bool true/\i<c/\∃st,so=σ st)\/(v= .bool false/\(so=ν\/i=c)))) ?_ ?_
 rotate_left
 .intro aB aw;rw[aS,al];refine⟨λa8=>?_,λcr=>aw _ _ ⟨Ext.refl _,.inr ⟨rfl,.inr Ω⟩⟩⟩;refine(Cv aZ).mono ?_;rintro _ a7 _ ⟨rfl,ba⟩;cases so with
  |none=>exact aw _ _ ⟨ba,.inr ⟨rfl,.inl rfl⟩⟩
  |some st=>exact aw _ _ ⟨ba,.inl ⟨rfl,Ω,st,rfl⟩⟩
 rintro _ aa ⟨K,bV⟩;have ct:=K.size;have S:=aZ.ext K;have bb:=b0 bR K;have bc:ai (λr=>w0.heap.size<=r) w0 aa:=bQ.trans (K.ab _);rcases bV with⟨rfl,a8,st,rfl⟩|⟨rfl,bW⟩
 rotate_left
 .rw[a1];have bd:aX=so.map λst=>(H,st):=by
   rcases bW with rfl|rfl
   .exact Z
   .rw[U8]at Z;rw[Z];cases so<;>rfl
  refine aL M aa acc so C J E (λr=>N r/\r<aa.heap.size) bc Ω S (aq.mono bb (λ_ _ h=>h) λr e h=>⟨h,e⟩) (λr e=>?_) (av.ext K) (λq I=>?_) λbe=>?_
  .rcases e with e|e
   .have:=G r e;exact⟨Ω,Ω,Ω⟩
   .have:=bS r e.1;exact⟨this.1,this.2.1,e.2⟩
  .rw[bd]at I;cases so with
   |none=>cases I
   |some st=>cases I;exact⟨rfl,(a6 _ rfl).1⟩
  .rw[bd]at be;cases so with
   |none=>rfl
   |some st=>cases be
 rw[bT];obtain⟨rfl,bf,cu,ae,bg,ay,bh,af,bi⟩:=a6 st rfl;have S:di aa g gs C J st clean:=S;obtain⟨cw,cA,cB,cC,cD⟩:=S.1;have bX:=h1.2 ae;have bj:cH g gs C J 1:=⟨λf=>by
  rcases f with f|f|f
  .omega
  .omega
  .have:=ay 1 f;omega,bh 1 bX.2⟩
 have bk:∀r,leads L r->¬bF g gs C r/\r<aa.heap.size:=λr e=>by
  obtain⟨bY,bZ,b1,b3⟩:=aJ r e;refine⟨λf=>?_,Ω⟩;rcases f with f|f|f
  .exact bY f
  .exact bZ f
  .rcases bg r f with h|h
   .exact b3 ae h
   .omega
 refine(Ms S bf (av.ext K) bk (bu ae) bw (a2.ext K) bj).mono ?_;rintro _ b4 _ ⟨aT,y,cs,az,rfl,cE,W,X,aA,bl,bm,b6,b7⟩;have z3:=W.size;obtain⟨bn,b8⟩:=MY b6;refine kA (α:=hE) (a:=az) (cs:=cs) (A:=bB) (R:=cH g gs aT y) ji.u b2.i Φ b8 bn λu ag O _ hu=>?_;have z4:=O.size;have b9:∀r,r<aa.heap.size->E r\/N r->¬bF g gs C r:=λr e h f=>by
  rcases h with h|h
  .have p:=G r h;rcases f with f|f|f
   .omega
   .omega
   .exact (af r h).2 f
  .exact (bi r h).1 f
 have ca:∀r,r<aa.heap.size->cH g gs C J r->cH g gs aT y r:=λr e h=>⟨λf=>h.1 (f.imp id (Or.imp id λf=>(X r f).elim id λh'=>Ω)),bl r h.2⟩;have cb:bG E (cH g gs aT y) ag [M] (H.map ha):=b0 (aq.ab (aq.mono (S':=E) (R':=λr=>cH g gs aT y r/\N r) bb (λ_ _ h=>h) λr e h=>⟨ca r e (bi r h),h⟩) W λr e h=>b9 r e (h.imp id λh=>h.2) |> λh=>h) O |> λh=>aq.mono h (λ_ _ h=>h) λ_ _ h=>h.1;have ah:∀r,E r->¬y r:=λr h aj=>by
  have p:=G r h;rcases(aA r aj).1 with P|P
  .exact (af r h).1 P
  .have aC:=(G r h).2;omega
 have cF:(H.map ha).length=H.length:=Ξ
 refine n0 (α:=hE) (a:=az) (A:=bB) ji.u b2.i rfl cb hu (b0 bn O) (λr _ cc h=>?_) Ω Ω λcG Q cd Y=>?_
 .rcases h with h|h
  .exact h
  .exact ah r cc h.2
 have z5:=Y.size;rw[aO,wrap_i64 Ω Ω];have ce:ai (λr=>w0.heap.size<=r) w0 ag:=(bc.trans (W.mono λr _ f=>by
  rcases f with rfl|rfl|f
  .exact bz
  .exact bA
  .exact ay r f)).trans (O.ab _)
 have z0:=aK.size;have cg:ai (λr=>w0.heap.size<=r) w0 Q:=ce.trans (Y.mono λr _ h=>by have:=(G r h).1;omega);have ch:aH .i64 ag L all:=(hT (av.ext K) W λr e a n c ad aF=>(bk r ⟨a,n,c,ad,aF⟩).1 e).ext O;have ci:aH .i64 Q L all:=hT ch Y λr e a n c ad aF=>by
  have b1:=(aJ r ⟨a,n,c,ad,aF⟩).2.2.1;have:=(G r e).1;omega
 have cj:e5 Q:=(((a2.ext K).ab W bj.1).ext O).ab Y λh=>by have:=(G 1 h).1;omega
 have bo:gZ Q g gs aT y clean ((c0 all st).map (·.2)):=by
  refine gZ.ab (bm.ext O) Y (λh=>by have:=G _ h;omega) (λr e cI h=>?_) (λr e h=>ah r h e.2);have p:=G r h;rcases e with rfl|rfl|e
  .omega
  .omega
  .rcases X r e with P|P
   .exact (af r h).2 P
   .omega
 have cl:=mO cd;refine⟨⟨i+1,(H.map ha)++[az],H++((c0 all st).map (·.1)).toList,(c0 all st).map (·.2),aT,y,λr=>(E r\/bB r\/ag.heap.size<=r)/\r<Q.heap.size,cH g gs aT y,rfl,Ω,cg,Ω,bo,cl,ci,cj,?_,λr e=>⟨?_,e.2⟩,λr e=>⟨λh=>e.1 (.inl h),λh=>e.1 (.inr (.inl h)),λh=>?_⟩,λs' cm=>?_⟩,by simp only[bU];omega⟩
 .rw[Z,show c-i=(c-(i+1))+1 by omega,CW];cases I:c0 all st with
  |none=>rfl
  |some q=>rfl
 .rcases e.1 with h|h|h
  .exact (G r h).1
  .exact h.elim
  .omega
 .rcases h.1 with p|p|p
  .exact ah r p e.2
  .exact p
  .have:=(aA r e.2).2;omega
 .obtain⟨q,I,rfl⟩:=X4.1 cm;have p:=MX (s':=q.2) (x:=q.1) bf I;have P:=b7 q I;refine⟨?_,p.1,?_,ae,λr e=>?_,λr e=>?_,λr e=>bl r (bh r e),λr e=>⟨λaj=>?_,λbp=>?_⟩,λr e=>e⟩
  .rw[I,P];simp
  .rw[I];simp only[Z7,o8,r8,V6];omega
  .rcases X r e with h|h
   .exact bg r h
   .exact .inr Ω
  .rcases X r e with h|h
   .exact ay r h
   .omega
  .rcases e.1 with p|p|p
   .exact ah r p aj
   .exact p
   .have:=(aA r aj).2;omega
  .have cJ:gZ Q g gs aT y clean ((c0 all st).map (·.2)):=bo;have bq:=bm;rw[I]at bq;have au:di b4 g gs aT y q.2 clean:=bq;have a8:=au.1.2.2.2.1 r (.inr (.inr bp));rcases e.1 with p|p|p
   .rcases X r bp with aC|aC
    .exact (af r p).2 aC
    .have:=(G r p).2;omega
   .exact p
   .omega
theorem dR.num{lo hi n:Int}{s s':aE}(e:dR s)(h:bd lo hi s=σ (n,s')):dR s':=λa=>by
 have h1:=(dg h).eqs;rw[h1.1];rw[h1.2.1]at a;exact e a
theorem dR.big{b:Bool}{s:aE}(h:dR s):dR (a8 b s):=λa=>by
 have a:(s.big||b)=false:=a;exact h (S7.1 a).1
theorem dR.word{w:Λ}{s s':aE}(h:dR s)(hw:dI s=σ (w,s')):dR s':=λa=>by
 have h1:=(qR hw).2;rw[h1]at a ⊢;exact h a
theorem M0{most:Int}{s s':aE}(hi:dR s)(hm:most<=ax)(h:cL (fe most) N [] s=σ (l,s')):dR s'/\(∀z∈l,1<=z/\z<=ax)/\l.length+s'.toks.length<=s.toks.length:=by
 have:=iN (f:=fe most) (λacc t=>dR t/\(∀z∈acc,1<=z/\z<=ax)/\acc.length+t.toks.length<=s.toks.length) (λacc t a bp ⟨h1,p,y⟩ g=>by
  unfold fe at g;cases e:bd 1 most t with
  |none=>rw[e]at g;cases g
  |some q=>
   obtain⟨z,r⟩:=q;rw[e]at g;simp only[Y2,T5]at g;obtain⟨rfl,rfl⟩:=g;have A:=(hU e).1;have B:=(dg e).1;refine⟨(h1.num e).big,λx J=>?_,?_⟩
   .rcases o5.1 J with J|J
    .exact p x J
    .rw[l9.1 J];omega
   .simp only[r8,V6];show acc.length+1+r.toks.length<=_;omega) N [] s l s' ⟨hi,λz w=>(by cases w),Ξ⟩ h
 exact this.1
theorem M1{s0:aE}{name:Λ}{n most cnt:Int}{so6:Option aE}(h1:∀q,dI s0=σ q->name=q.1)(r:∀q,bc 1 ax (((dI s0).map (·.2)).map (a8 (decide (64<(name.length:Int)))))=σ q->n=q.1)(p:∀q,bc 1 ax (((bc 1 ax (((dI s0).map (·.2)).map (a8 (decide (64<(name.length:Int)))))).map (·.2)).map (a8 (decide (64<n))))=σ q->most=q.1)(h:∀q,bc 0 ax ((bc 1 ax (((bc 1 ax (((dI s0).map (·.2)).map (a8 (decide (64<(name.length:Int)))))).map (·.2)).map (a8 (decide (64<n))))).map (·.2))=σ q->cnt=q.1)(f:∀q,bc 1 ax (((bc 0 ax ((bc 1 ax (((bc 1 ax (((dI s0).map (·.2)).map (a8 (decide (64<(name.length:Int)))))).map (·.2)).map (a8 (decide (64<n))))).map (·.2))).map (·.2)).map (a8 (decide (256<cnt))))=σ q->k=q.1)(e:∀q,fv (fe most) n.toNat [] (((bc 1 ax (((bc 0 ax ((bc 1 ax (((bc 1 ax (((dI s0).map (·.2)).map (a8 (decide (64<(name.length:Int)))))).map (·.2)).map (a8 (decide (64<n))))).map (·.2))).map (·.2)).map (a8 (decide (256<cnt))))).map (·.2)).map (a8 (decide (2147483648<k))))=σ q->so6=σ q.2/\sizes=q.1)(a:fv (fe most) n.toNat [] (((bc 1 ax (((bc 0 ax ((bc 1 ax (((bc 1 ax (((dI s0).map (·.2)).map (a8 (decide (64<(name.length:Int)))))).map (·.2)).map (a8 (decide (64<n))))).map (·.2))).map (·.2)).map (a8 (decide (256<cnt))))).map (·.2)).map (a8 (decide (2147483648<k))))=ν->so6=ν):
  gY s0=(fv (λ_ s=>c0 sizes s) cnt.toNat [] so6).map λq=>((⟨name,k,sizes,q.1⟩:bY),q.2):=by
 unfold gY;cases A:dI s0 with
 |none=>
  rw[A]at a;rw[a rfl];rfl
 |some L=>
 obtain⟨Z,s1⟩:=L;rw[A]at h1 r p h f e a;have:=h1 _ rfl;subst this;have M:decide (64<(name.length:Int))=decide (64<name.length):=by rw[V9,decide_eq_true_eq,decide_eq_true_eq];omega
 rw[M]at r p h f e a;simp only[Z7]at r p h f e a ⊢;generalize a8 (decide (64<name.length)) s1=x at*;cases B:bd 1 ax x with
 |none=>
  rw[show bc 1 ax (σ x)=ν from B]at a;rw[a rfl];rfl
 |some N=>
 obtain⟨O,C⟩:=N;rw[show bc 1 ax (σ x)=σ (O,C)from B]at r p h f e a;have:=r _ rfl;subst this;simp only[Z7]at p h f e a ⊢;generalize a8 (decide (64<n)) C=y at*;cases E:bd 1 ax y with
 |none=>
  rw[show bc 1 ax (σ y)=ν from E]at a;rw[a rfl];rfl
 |some P=>
 obtain⟨Q,w⟩:=P;rw[show bc 1 ax (σ y)=σ (Q,w)from E]at p h f e a;have:=p _ rfl;subst this;simp only[Z7]at h f e a ⊢;cases F:bd 0 ax w with
 |none=>
  rw[show bc 0 ax (σ w)=ν from F]at a;rw[a rfl];rfl
 |some R=>
 obtain⟨S,G⟩:=R;rw[show bc 0 ax (σ w)=σ (S,G)from F]at h f e a;have:=h _ rfl;subst this;simp only[Z7]at f e a ⊢;generalize a8 (decide (256<cnt)) G=z at*;cases H:bd 1 ax z with
 |none=>
  rw[show bc 1 ax (σ z)=ν from H]at a;rw[a rfl];rfl
 |some T=>
 obtain⟨V,I⟩:=T;rw[show bc 1 ax (σ z)=σ (V,I)from H]at f e a;have:=f _ rfl;subst this;simp only[Z7]at e a ⊢;generalize a8 (decide (2147483648<k)) I=W at*;cases J:cL (fe most) n.toNat [] W with
 |none=>
  rw[a J];rfl
 |some X=>
 obtain⟨aa,K⟩:=X;obtain⟨U,Y⟩:=e _ J;subst Y;rw[U];simp only;show _=V7 _ (cL (λ_ s=>c0 sizes s) cnt.toNat [] K);cases cL (λ_ s=>c0 sizes s) cnt.toNat [] K<;>rfl
theorem M2{f:bY}(ag:e3 N f)(h:N<=60000):∀x∈f.funs,tK f.k x:=λx J=>by
 obtain⟨h1,e,p⟩:=ag.funs x J;refine⟨ag.k,⟨?_,λz a=>?_⟩,h1.other,h1.lines,by have:=h1.len;omega,Ω⟩
 .rw[h1.sizes,u9];exact e
 .rw[h1.sizes]at a;obtain⟨v,ad,rfl⟩:=j5.1 a;have:=h1.scope.2 v ad;refine ag.sizes.2.2 _ ?_;rw[u4,x6 Ω];exact T2 _
theorem M3{p:x1}{pl:Λ}(P:aH .u8 w p pl)(aL:Bytes pl)(bO:pl.length<=60000)(ae:e5 w):am x7 GZ [p] w (CV w (fp pl)):=by
 have aM:1<w.heap.size:=by
  have:=ae 0 (.int .u64 1) rfl;obtain⟨c,e,f,aN,_⟩:=vP this;exact(j4.1 aN).1
 have bP:ax=4611686018427387904:=rfl;refine az func55 ?_;rw[aW cP.u P,bN,al];refine⟨λh=>Ω,λ_=>?_⟩;refine(A2 P aL Ω).mono ?_;rintro _ V _ ⟨af,gs,rfl,bR,aO,Q⟩;rw[cZ (cs:=#[Γ gs,Δ 0,Δ 0,Δ 0,Δ 0,Δ 0,.slice ν 0 0]) Ψ];refine bf λg aa bS R ag=>?_;have bT:=af.size;have bU:=R.size;have aP:=ag.lt;have bV:gs<V.heap.size:=Q.2.2.2.1.lt;have bW:=pm _ pl (o4 _);let s0:aE:=⟨(lex pl).1,0,false,[]⟩;let B0:ak:=λr=>r<V.heap.size;have aQ:di aa g gs bB B0 s0 (lex pl).2:=by
  refine⟨⟨Ω,λh=>h,λh=>h,λr y=>?_,λr y=>by have y:r<V.heap.size:=y;omega⟩,⟨aO,pl,0,Q.ext R,λr y=>?_,by rw[List.drop_zero]⟩,⟨by show(0:Int)<=0;omega,by show(0:Int)<=ax;omega,by show(([]:List (Λ×List (Λ×Int))).length+(lex pl).1.length<=100000);simp;omega⟩,0,0,0,0,.slice ν 0 0,ag,⟨by simp[s0],λ_=>rfl⟩,ht (α:=iO)⟩
  .rcases y with rfl|rfl|y
   .exact aP
   .omega
   .exact y.elim
  .obtain⟨_,_,_,K,bk,hm⟩:=Q;have H:=bQ hm y;have I:=cc hm K Φ y;exact⟨λE=>by
    rcases E with E|E|E
    .omega
    .exact I E
    .exact E,by show r<V.heap.size;omega⟩
 have S:∀r,bF g gs bB r->w.heap.size<=r:=λr y=>by
  rcases y with rfl|rfl|y
  .omega
  .omega
  .exact y.elim
 refine(BK aQ).mono ?_;rintro _ bX _ ⟨B,name,bZ,rfl,b0,b1,aR⟩;obtain⟨aS,aU⟩:=gb.of B;rw[bq,br,n5 cS.u,bN];refine(q4 aU).mono ?_;rintro _ b2 _ B;obtain⟨aV,aX⟩:=B.of;refine(mi (lo:=1) (hi:=ax) aX).mono ?_;rintro _ b3 _ ⟨B,n,b4,rfl,ah,aY⟩;obtain⟨aZ,a1⟩:=B.of;rw[bq,br,bN];refine(q4 a1).mono ?_;rintro _ b5 _ B;obtain⟨a2,a6⟩:=B.of;refine(mi (lo:=1) (hi:=ax) a6).mono ?_;rintro _ b6 _ ⟨B,most,b7,rfl,aj,a7⟩;obtain⟨ba,bb⟩:=B.of;rw[bq,br];refine(mi (lo:=0) (hi:=ax) bb).mono ?_;rintro _ b8 _ ⟨B,cnt,b9,rfl,an,bd⟩;obtain⟨be,bg⟩:=B.of;rw[bq,br,bN];refine(q4 bg).mono ?_;rintro _ ca _ B;obtain⟨bh,bi⟩:=B.of;refine(mi (lo:=1) (hi:=ax) bi).mono ?_;rintro _ cb _ ⟨B,k,cd,rfl,hk,ce⟩;obtain⟨bj,bl⟩:=B.of;rw[bq,br,bN];refine(q4 bl).mono ?_;rintro _ ao _ B;obtain⟨bm,W⟩:=B.of;have ap:ai (bF g gs bB) aa ao:=(((((((aS.trans aV).trans aZ).trans a2).trans ba).trans be).trans bh).trans bj).trans bm;have X:∀{lo:Int}{o:Option aE}{x:Int},0<=lo->lo<=1->(∀q,bc lo ax o=σ q->x=q.1)->(bc lo ax o=ν->x=0)->0<=x/\x<=ax:=λ{lo o x}cg h1 U bn=>by
  cases a:bc lo ax o with
  |none=>rw[bn a];omega
  |some q=>
   have H:=m4 (n:=q.1) (s':=q.2) a;rw[U q a];omega
 have ch:=X Ω Ω ah aY;have ci:=X Ω Ω an bd;have cj:=X Ω Ω aj a7;obtain⟨N,bo⟩:∃N:Nat,n=(N:Int):=⟨n.toNat,Ω⟩;obtain⟨C,bp⟩:∃C:Nat,cnt=(C:Int):=⟨cnt.toNat,Ω⟩;have bt:n.toNat=N:=Ω
 have bu:cnt.toNat=C:=Ω
 have bw:dR s0:=λ_=>by show(0:Int)<=16384;omega
 have L:∀{o:Option aE}{b:Bool},(∀s,o=σ s->dR s)->∀s,o.map (a8 b)=σ s->dR s:=λh s U=>by
  obtain⟨t,Y,rfl⟩:=X4.1 U;exact(h t Y).big
 have M:∀{o:Option aE}{lo hi:Int},(∀s,o=σ s->dR s)->∀s,(bc lo hi o).map (·.2)=σ s->dR s:=λ{o lo hi}h s U=>by
  obtain⟨q,a,rfl⟩:=X4.1 U;cases o with
  |none=>cases a
  |some t=>exact(h t rfl).num (n:=q.1) (s':=q.2) a
 have bx:∀s,(dI s0).map (·.2)=σ s->dR s:=λs U=>by
  obtain⟨q,a,rfl⟩:=X4.1 U;exact bw.word (w:=q.1) (s':=q.2) a
 have aq:=L (b:=decide (2147483648<k)) (M (lo:=1) (hi:=ax) (L (b:=decide (256<cnt)) (M (lo:=0) (hi:=ax) (M (lo:=1) (hi:=ax) (L (b:=decide (64<n)) (M (lo:=1) (hi:=ax) (L (b:=decide (64<(name.length:Int))) bx)))))));have A:=λ(sizes:Λ)(so6:Option aE)=>M1 (s0:=s0) (name:=name) (sizes:=sizes) (n:=n) (most:=most) (cnt:=cnt) (k:=k) (so6:=so6) aR ah aj an hk;rw[bt]at A;generalize ck:V7 (a8 (decide (2147483648<k))) (V7 (λx=>x.2) (bc 1 ax (V7 (a8 (decide (256<cnt))) (V7 (λx=>x.2) (bc 0 ax (V7 (λx=>x.2) (bc 1 ax (V7 (a8 (decide (64<n))) (V7 (λx=>x.2) (bc 1 ax (V7 (a8 (decide (64<(name.length:Int)))) (V7 (λx=>x.2) (dI s0)))))))))))))=au at aq W A;rw[bo];refine MU (N:=N) (most:=most) W Ω λszv Z sizes so6 gz bz av aw cl bA ay aA=>?_;have A:=A sizes so6 ay aA;rw[bu]at A;have ac:ai (bF g gs bB) aa Z:=ap.trans bz;have z12:=ac.size;have aB:Ext w aa:=af.trans R;have bC:ai (λr=>w.heap.size<=r) w Z:=(aB.ab _).trans (ac.mono λr _ h=>S r h);have cm:=av.side;have aC:∀J,so6=σ J->dR J/\(∀z∈sizes,1<=z/\z<=ax)/\sizes.length<=100000:=λJ ad=>by
  cases a:fv (fe most) N [] au with
  |none=>rw[aA a]at ad;cases ad
  |some q=>
   obtain⟨H,I⟩:=ay q a;cases ad.symm.trans H;subst I;cases au with
   |none=>cases a
   |some bD=>
    obtain⟨bE,bG,cn⟩:=M0 (l:=q.1) (s':=q.2) (aq bD rfl) Ω a;exact⟨bE,bG,by have:=W.words;omega⟩
 rw[bp];have aD:∀r,leads szv r->ao.heap.size<=r/\r<Z.heap.size:=λr y=>by have:=bQ aw y;omega
 have cp:=ap.size;refine MZ (w0:=w) (c:=C) (all:=sizes) av.q (λs U=>(aC s U).1) Ω aw.ls (λr y=>?_) (λO=>?_) bA ((ae.ext aB).ab ac λE=>by have:=S 1 E;omega) ⟨aM,λ_=>⟨λE=>by have:=S 1 E;omega,by show 1<V.heap.size;omega⟩⟩
  bC Ω Ω ⟨Ω,Ω⟩ (λ_ r h=>h.elim) λcq cr acc so aT ct cu cw aF cz bH bI bJ bK aG bL=>?_
 .have:=aD r y;exact⟨Ω,Ω,Ω,λ_ h=>h⟩
 .cases aI:so6 with
  |none=>exact absurd aI O
  |some J=>exact(aC J aI).2.1
 have cA:=aF.size;have G:fp pl=match gY s0 with
   |none=>ν
   |some (f,s)=>if s.toks=[]/\(lex pl).2=true/\s.big=false then σ f else ν:=by
  unfold fp;rw[if_neg Ω];have e:gY ⟨(lex pl).1,0,false,[]⟩=gY s0:=rfl;rw[e];cases gY s0<;>rfl
 refine MT (w0:=w) (sizes:=sizes) (res:=fp pl) bH ⟨λs U Y bM K=>?_,λO=>?_⟩ bK (λr y=>by have:=aD r y;exact⟨Ω,Ω⟩) bI bJ (λ_=>trivial) Ω Ω aF Ω Ω P λv w' h=>h
 .cases a:fv (λ_ s=>c0 sizes s) C [] so6 with
  |none=>rw[bL a]at U;cases U
  |some q=>
   obtain⟨H,I⟩:=aG q a;cases U.symm.trans H;rw[a]at A;have A:gY s0=σ ((⟨name,k,sizes,q.1⟩:bY),q.2):=A;have aJ:=(BH rfl A K).1;rw[A]at G;simp only at G;rw[if_pos ⟨Y,bM,K⟩]at G;exact⟨q.1,I,G,M2 aJ (by show(lex pl).1.length<=60000;omega),aJ.ln,Ω⟩
 .cases a:fv (λ_ s=>c0 sizes s) C [] so6 with
  |none=>
   rw[a]at A;have A:gY s0=ν:=A;rw[A]at G;exact absurd G O
  |some q=>
   obtain⟨H,I⟩:=aG q a;rw[a]at A;have A:gY s0=σ ((⟨name,k,sizes,q.1⟩:bY),q.2):=A;rw[A]at G;simp only at G;by_cases aK:q.2.toks=[]/\(lex pl).2=true/\q.2.big=false
   .exact⟨q.2,H,aK⟩
   .rw[if_neg aK]at G;exact absurd G O
theorem wU(s t cs:Λ):∃e,pj s t cs= .tuple #[Δ (bm s cs t),Δ e]:=by
 unfold pj bm;cases cJ s t 0 with
 |none=>exact⟨3,rfl⟩
 |some n=>exact⟨0,rfl⟩
theorem M4:am x7 zZ [sv] w λr w'=>Ext w w'/\∃g,r= .func (.func o2) #[] #[Γ g]/\w.heap.size<=g/\af w' g an sv.cells.toList:=by
 refine az func244 ?_;refine bf λg V f a e=>?_;rw[ig];exact⟨a,g,rfl,Ω,e⟩
theorem M5{f:R7}{cap:Array x1}{A:Nat->List x1->x3->Prop}{e:x3->Prop}{L:Λ}(O:oW x7 f cap.toList n A e)(B:∀k vs w,A k vs w->∃x,L[k]?=σ x/\vs=[Δ x])(he:∀a b,ai (λr=>w.heap.size<=r) a b->e a->e b)(P:e w)(Q:n=L.length)(ap:L.length<=1000000):
  am x7 Ho [.slice ν 0 0,.func (.func f) #[] cap] w λv w'=>Ext w w'/\∃g,w.heap.size<=g/\av .i64 ah w' g v L:=by
 refine gV func89 ?_;refine bf λgs V aq C p=>?_;have p:af V gs an [.slice ν 0 0]:=p;have au:=p.lt;have E:∀{a b:x3},Ext a b->e a->e b:=λJ=>he _ _ (J.ab _);refine jf.old ⟨Nat,false,f,cap,0,_,_,e,λk w'=>ai (λr=>w.heap.size<=r) w w'/\∃v g,gs<g/\af w' gs an [v]/\av .i64 ah w' g v (L.take k),λ_ _ _=>False,rfl,O.s,?_,λ_ _ J h=>E J h,
  λ_ _ _ J h=>⟨h.1.trans (J.ab _),by obtain⟨v,g,h1,R,S⟩:=h.2;exact⟨v,g,h1,R.ext J,S.ext J⟩⟩,λ_ _ _ _ _ h=>h,E C P,⟨C.ab _,_,gs+1,Ω,p,av.nil _ _ _ _⟩,?_,?_,λ_ _ h=>h.elim,λ_ _ _ h=>h.elim⟩
 .rintro k vs ax w' ⟨_,_,h⟩;obtain⟨x,_,rfl⟩:=B k vs w' h;rfl
 .rintro a k _ aa hU ⟨hk,rfl,W⟩ ⟨X,v,g,Y,G,ad⟩;obtain⟨x,J,Z⟩:=B k _ aa W;cases Z;intro ay q _ _;have H:=G.ext q;rw[aw Ψ (H.Qz rfl)];refine ee an.u ah.i rfl λa ga az aA y ac=>?_;have aB:(L.take k).length<=1000000:=Θ
  refine jn an.u ah.i rfl ((ad.ext q).ext y) ac.ls (by simp only[j9,List.length_nil];omega) (by simp only[j9,List.length_nil];omega) λae ag aC aD z I=>?_;have aE:=G.lt;have aF:=q.size;have aG:=y.size;refine bl an.i z.ls.cells.1 z.ls.cells.2 (((H.ext y).ab I Ω)) Ξ λaj K aH ak=>?_;have M:ai (λr=>w.heap.size<=r) aa aj:=(((q.trans y).ab _).trans (I.mono λr _ h=>by show w.heap.size<=r;omega)).trans (K.mono λr _ h=>by show w.heap.size<=r;omega);refine⟨he _ _ M hU,⟨X.trans M,ae,ag,Ω,ak,?_⟩,λh=>by cases h⟩;rw[u7,J];exact z.ab K (λ_=>Ω)
 .rintro k aI hk ⟨al,v,g,Y,ao,ad⟩;have hk:k=n:=hk;subst hk;rw[aw Ψ (ao.Qz rfl)];intro aJ N _;rw[Q,o7]at ad;exact⟨(al.ext λr aK h=>by have:w.heap.size<=r:=h;omega).trans N,g,Ω,ad.ext N⟩
theorem CX{f:R7}{cap:Array x1}{p:Nat->List x1->x3->Prop}{e:x3->Prop}{L:Λ}(q:oW x7 f cap.toList n p e)(s:∀k vs w,p k vs w->∃x,L[k]?=σ x/\vs=[Δ x])(he:∀a b,ai (λr=>w.heap.size<=r) a b->e a->e b)(y:e w)(z:n=L.length)(A:L.length<=1000000):
  am x7 GQ [.func (.func f) #[] cap] w λv w'=>Ext w w'/\∃g,w.heap.size<=g/\av .i64 ah w' g v L:=by
 refine az func44 ?_;exact(M5 q s he y z A).mono λ_ _ _ h=>h
theorem M6{x:Int}:am x7 cmp_Less_int [Δ x,Δ y] w λv w'=>v= .bool (decide (x<y))/\Ext w w':=by
 refine az func318 ?_;refine aV (λv V=>v= .bool (decide (x<y))/\Ext w V) (λ_ _ h=>h) λaB a=>?_;have e:∀{z:Int}{w:x3},am x7 cmp_isNaN_int [Δ z] w λv w'=>v= .bool false/\Ext w w':=λ{z w}=>by
  refine az func82 ?_;simp only[bD];exact⟨Ξ,Ext.refl _⟩
 refine e.mono ?_;rintro _ aa _ ⟨rfl,f⟩;rw[a1];simp only[aS];exact a _ _ ⟨rfl,f⟩
theorem M7{P:W8}{t:p8}{cx cy:Bool}{k:o6}{a b:Int}:cD P (aN .sub t cx cy (.int k a) (.int k b)) (.int k (k.wrap (a-b))) w:=λw' _=>by simp[aN,eqGuard,binOp,Op.intArith]
theorem M8{g:Nat}(h:av .i64 ah w g sv l)(ak:l.length<=1000000):
  am x7 Jz [sv,Δ 0,Δ l.length] w λ_ w'=>ai (λr=>r=g) w w'/\∃m,m.Perm l/\m.Pairwise (·<= ·)/\av .i64 ah w' g sv m:=by
 refine az func312 ?_;simp only[aO];refine⟨λt V=>∃(i:Nat)(m:Λ),t=Δ i/\1<=i/\(i<=l.length\/i=1)/\m.Perm l/\qP m i/\ai (λr=>r=g) w V/\av .i64 ah V g sv m,λt _=>l.length+1-(bU t).toNat,
  ⟨1,l,by congr 1,Ω,.inr rfl,.refl _,λp q x y h1 R=>Ω,ai.refl _ _,h⟩,?_⟩
 rintro _ V ⟨i,m,rfl,ao,ap,z,I,J,hm⟩;have S:=z.length_eq;simp only[aS,al];refine⟨λU=>?_,λaq=>?_⟩
 .have U:i<l.length:=Ω
  refine⟨λt aa=>∃(j:Nat)(m:Λ),t=Δ j/\j<=i/\m.Perm l/\pv m i j/\ai (λr=>r=g) w aa/\av .i64 ah aa g sv m,λt _=>(bU t).toNat,⟨i,m,rfl,o4 _,z,KP I,J,hm⟩,?_⟩;rintro _ aa ⟨j,m,rfl,W,z,E,K,hm⟩;have S:=z.length_eq;refine aV (λv L=>Ext aa L/\∃c,v= .bool c/\(c=true->0<j/\∃a b,m[j-1]?=σ a/\m[j]?=σ b/\b<a)/\(c=false->j=0\/0<j/\∃a b,m[j-1]?=σ a/\m[j]?=σ b/\a<=b)) ?_ ?_
  .rintro _ L ⟨B,c,rfl,X,Y⟩;rw[bZ];refine⟨λh=>?_,λh=>?_⟩
   .obtain⟨A,a,b,f,s,G⟩:=X h;intro au M _ _;have C:=(hm.ext B).ext M;have e:X9.wrap ((j:Int)-1)=((j-1:Nat):Int):=by rw[wrap_i64 Ω Ω];omega
    simp only[dO,e];rw[bh an.u ah.i Ψ C.ls f,bh an.u ah.i Ψ C.ls s,hx rfl an.u ah.i C Ω];refine hy ah.i C Ω λZ ac aw N=>⟨.inr ⟨by have:=M7 (P:=x7) (w:=Z) (t:=ah) (cx:=false) (cy:=true) (k:=.i64) (a:=(j:Int)) (b:=1);rwa [e]at this,trivial⟩,?_⟩;rw[hx rfl an.u ah.i N Θ];refine hy ah.i N Θ λax ad ay ae=>?_;refine⟨⟨j-1,_,rfl,Ω,(swap_perm Ω f s).trans z,KT E A W f s G,((K.trans ((B.trans M).ab _)).trans ac).trans ad,ae⟩,?_⟩;simp only[bU];omega
   .simp only[aO];rw[wrap_i64 Ω Ω];refine⟨⟨i+1,m,rfl,Ω,.inl Ω,z,?_,K.trans (B.ab _),hm.ext B⟩,?_⟩
    .rcases Y h with rfl|⟨A,a,b,f,s,G⟩
     .exact KQ E
     .exact KR E A f s G
    .simp only[bU];omega
  .intro aB O aA H _ _;have Q:=hm.ext H;simp only[bN,al];refine⟨λA=>?_,λA=>O _ _ ⟨H,false,rfl,(λh=>by cases h),λ_=>.inl Ω⟩⟩;have e:X9.wrap ((j:Int)-1)=((j-1:Nat):Int):=by rw[wrap_i64 Ω Ω];omega
   obtain⟨b,s⟩:=aI (l:=m) (i:=j) Ω;obtain⟨a,f⟩:=aI (l:=m) (i:=j-1) Ω;rw[bh an.u ah.i Ψ Q.ls s];simp only[dO,e];rw[bh an.u ah.i Ψ Q.ls f];refine M6.mono ?_;rintro _ aC _ ⟨rfl,af⟩;refine O _ _ ⟨H.trans af,_,rfl,λh=>⟨Ω,a,b,f,s,by simpa using h⟩,λh=>.inr ⟨Ω,a,b,f,s,by simpa using h⟩⟩
 .refine⟨J,m,z,KU λp q x y h1 R ag aj=>I p q x y h1 Ω ag aj,hm⟩
theorem M9{P:W8}{t:p8}{k:o6}{s:ByteArray}{i:Nat}{K:x1->Prop}(a:P.underlying t=σ .string)(hi:i<s.size)(e:∀b:Nat,b<256->K (.int .u8 b)):
  ac P (Instr.index t (.string s) (.int k (i:Int))) w K:=by
 have f:s[i]?=σ s[i]:=by simp[hi]
 have:ac P (Instr.index t (.string s) (.int k (i:Int))) w K=K (.int .u8 s[i].toNat):=ac.of λw' _=>by
  simp[Instr.index,asIntOf,run_underlying a,hi]
 rw[this];exact e _ (UInt8.toNat_lt _)
theorem Na(a:n<256):am x7 Hj [.int .u64 (n:Int)] w λv w'=>(∃r,v=Δ r)/\Ext w w':=by
 refine az func81 ?_;refine am.mono (K:=λv w'=>(∃r,v=Δ r)/\Ext w w') ?_ (λ_ _ _ h=>h);refine az func172 ?_;simp only[cz,cn,al];refine⟨λh=>Ω,λ_=>⟨λh=>Ω,λ_=>⟨λh=>Ω,λ_=>?_⟩⟩⟩;rw[fm fJ.u cK.u,wrap_u8 Ω Ω];refine M9 cS.u (by exact Q1 a Φ) λb e=>?_;rw[fm cK.u ah.u];simp only[aO];exact⟨⟨_,rfl⟩,Ext.refl _⟩
theorem Nb{g:Nat}(h:av .i64 ah w g sv l)(f:l.length<=12):
  am x7 Ji [sv] w λ_ w'=>ai (λr=>r=g) w w'/\∃m,m.Perm l/\m.Pairwise (·<= ·)/\av .i64 ah w' g sv m:=by
 refine az func276 ?_;rw[aW an.u h.ls,fm ah.u pb.u,wrap_u64 Ω Ω];refine(Na (n:=l.length) Ω).mono ?_;rintro _ V _ ⟨⟨r,rfl⟩,e⟩;refine am.mono (K:=λ_ w'=>ai (λr=>r=g) V w'/\∃m,m.Perm l/\m.Pairwise (·<= ·)/\av .i64 ah w' g sv m) ?_ (λ_ _ _ h=>⟨(e.ab _).trans h.1,h.2⟩);refine az func299 ?_;refine⟨λa b _ _ _ aa=>a=Δ 0/\b=Δ l.length/\V=aa,λ_ _ _ _ _ _=>0,⟨rfl,rfl,rfl⟩,?_⟩;rintro _ _ _ _ _ _ ⟨rfl,rfl,rfl⟩;simp only[dO,mL,al];rw[wrap_i64 Ω Ω];refine⟨λ_=>?_,λh=>Ω⟩;refine(M8 (h.ext e) Ω).mono ?_;exact λ_ _ _ h=>h
theorem Nc{f:R7}{cap:Array x1}{p:Nat->List x1->x3->Prop}{e:x3->Prop}{L:Λ}(q:oW x7 f cap.toList n p e)(s:∀k vs w,p k vs w->∃x,L[k]?=σ x/\vs=[Δ x])(he:∀a b,ai (λr=>w.heap.size<=r) a b->e a->e b)(y:e w)(z:n=L.length)(A:L.length<=12):
  am x7 zY [.func (.func f) #[] cap] w λv w'=>Ext w w'/\∃g m,w.heap.size<=g/\m.Perm L/\m.Pairwise (·<= ·)/\av .i64 ah w' g v m:=by
 refine az func243 ?_;refine(CX q s he y z Ω).mono ?_;rintro v V _ ⟨B,g,C,ad⟩;refine(Nb ad A).mono ?_;rintro _ aa _ ⟨E,m,h1,G,H⟩;exact⟨B.then E (by rintro r I rfl;omega),g,m,C,h1,G,H⟩
theorem CY{x:Int}(h:aH .i64 w sv l):
  am x7 vC [sv,Δ x] w λv w'=>Ext w w'/\∃r:Int,v=Δ r/\∀i:Nat,l[i]?=σ x->(r=i↔ ∀j,j<i->l[j]? ≠σ x):=by
 refine az func53 ?_;rw[aW an.u h];refine b5.range l.length (λi _ V=>Ext w V/\∀j,j<i->l[j]? ≠σ x) h.le ⟨Ext.refl _,λj p=>Ω⟩ ?_ ?_
 .rintro i _ V k hi ⟨a,e⟩ hk;simp only[aS,al];refine⟨λ_=>?_,λh=>Ω⟩;obtain⟨y,f⟩:=aI (l:=l) hi;rw[bh an.u ah.i Ψ (h.ext a) f];simp only[be,al,aO];refine⟨λhe=>⟨a,i,rfl,λq s=>?_⟩,λhe=>hk _ _ ⟨a,λj p=>?_⟩⟩
  .subst he;refine⟨λB=>by
              have:i=q:=Ω
              subst this;exact e,λz=>?_⟩
   rcases Nat.lt_trichotomy i q with h1|h1|h1
   .exact absurd f (z i h1)
   .omega
   .exact absurd s (e q h1)
  .by_cases A:j=i
   .subst A;rw[f];intro h;exact he (Z0 h).symm
   .exact e j Ω
 .rintro _ V k ⟨a,e⟩;simp only[aS,al];refine⟨λh=>Ω,λ_=>⟨a,-1,rfl,λi hi=>?_⟩⟩;exact absurd hi (e i (x4.1 hi).1)
theorem Nd{g:Nat}(p:af w0 g an [sv])(a:aH .i64 w0 sv l):
  oW x7 o2 [Γ g] l.length (λk vs _=>∃x,l[k]?=σ x/\vs=[Δ x]) (λw=>Ext w0 w):=by
 refine⟨o2.enters,λy aB B w C _ q J r=>?_⟩;refine qz func277 ?_;rw[aw Ψ ((p.ext J).Qz rfl),aW an.u (a.ext J)];refine ce.range l.length (λi aa=>aB i aa/\Ext w0 aa) a.le ⟨r,J⟩ ?_ ?_
 .rintro i aa k hi ⟨e,f⟩ hk;simp only[aS,al];refine⟨λ_=>?_,λh=>Ω⟩;obtain⟨x,J⟩:=aI (l:=l) hi;rw[bh an.u ah.i Ψ (a.ext f) J];refine⟨rfl,(q i _ aa hi f ⟨x,J,rfl⟩ e).mono ?_⟩;rintro _ E (⟨rfl,s,z⟩|⟨rfl,A⟩)
  .simp only[bE,Y7,a1,aO];exact hk _ ⟨z.1,s⟩
  .simp only[bE,V0,bT];exact .inr ⟨i,hi,A⟩
 .rintro aa k ⟨e,_⟩;simp only[aS,al];exact⟨λh=>Ω,λ_=>.inl e⟩
theorem wV(h:aH .i64 w sv l)(p:l.length<=12)(q:∀v w' g m,Ext w w'->w.heap.size<=g->m.Perm l->m.Pairwise (·<= ·)->av .i64 ah w' g v m->K v w'):
  am x7 zZ [sv] w λt V=>am x7 zY [t] V K:=by
 refine M4.mono ?_;rintro _ V _ ⟨f,g,rfl,B,e⟩;have e:af V g an [sv]:=by rw[h.cells.1]at e;exact e
 refine(Nc (Nd e (h.ext f)) (λ_ _ _ h=>h) (λa b s J=>J.then s (λr C h=>Ω)) (Ext.refl _) rfl p).mono ?_;rintro v aa _ ⟨x,y,m,E,h1,z,A⟩;have:=f.size;exact q v aa y m (f.trans x) Ω h1 z A
def Nf(w:x3)(aj:Λ)(k:Int)(cs a:Λ)(v:x1)(w':x3):Prop:=
 Ext w w'/\
  (¬Good a aj.length->v= .tuple #[.pointer ν,Δ 1])/\
  (Good a aj.length->∃e f h,v= .tuple #[Γ e,Δ 0]/\df w' e f h (ei aj a) k (ob aj cs a))
theorem Ng{g bI:Nat}{Y:x1}{cs z:Λ}(h:df w g bI sv aj k cs)(hk:right k)(P:aH .i64 w Y z)(cr:z.length<=12)(ct:Good z aj.length->aP (ei aj z)<=4096):
  am x7 IZ [Γ g,Y] w (Nf w aj k cs z):=by
 have aC:=h;have cu:=h.2.2.1;have cw:=P.cells;refine gV func245 ?_;refine bf λg1 V dd bJ B=>?_;refine bf λbL aa de a7 A=>?_;have s1:=bJ.size;have dg:=a7.size;have di:=B.lt;have dj:=A.lt;have a8:=bJ.trans a7;have B:af aa g1 eQ [Γ g]:=B.ext a7;have A:af aa bL an [Y]:=by rw[cw.1]at A;exact A
 rw[aw Ψ (B.Qz rfl),dc eQ.u];simp only[Z5,a1];rw[aw Ψ (A.Qz rfl)];have cz:=P.ext a8;have sub:∀{w:x3}{g:Nat}{sv:x1}{k:Int}{a6:x1},af w g cY [sv,Δ k,a6]->w.rangeAt g (0+0) [sv]:=λK=>n3 K (by
  intro j v ad
  match j,ad with
  |0,ad=>exact ad)
 refine wV cz cr λdJ cA dh m bM dk ba cB hm=>?_;have cC:=ba.length_eq;rw[aW an.u hm.ls];have cD:=a8.trans bM;refine nE.range m.length (λi _ _ bb=>Ext cA bb/\∀j,j<i->m[j]?=σ (j:Int)) Ω ⟨Ext.refl _,λj bc=>Ω⟩ ?_ ?_
 .rintro i _ _ bb Z hi ⟨ac,bd⟩ ae;simp only[aS,al];refine⟨λ_=>?_,λh=>Ω⟩;obtain⟨y,ag⟩:=aI (l:=m) hi;rw[bh an.u ah.i Ψ (hm.ls.ext ac) ag];simp only[bD,al,aO];refine⟨λak dl cE _=>⟨(cD.trans ac).trans cE,λ_=>rfl,λbe=>?_⟩,λhe=>ae _ _ _ ⟨ac,λj bc=>?_⟩⟩
  .have:=Bq be ba cB i hi;rw[ag]at this;exact absurd (Z0 this).symm ak
  .by_cases cF:j=i
   .subst cF;rw[ag];congr 1;omega
   .exact bd j Ω
 .rintro _ _ bb Z ⟨ac,bd⟩;simp only[aS,al,er];refine⟨λh=>Ω,λ_ dm cG _ _=>?_⟩;have C:Good z m.length:=KV bd ba;have ap:=(bM.trans ac).trans cG;have aD:=a8.trans ap;have B:=B.ext ap;have A:=A.ext ap;have cH:=P.ext aD;have cI:=aC.ext aD;have dn:=ap.size;obtain⟨⟨a6,gs,K,aE,bN⟩,_⟩:=id cI;rw[aw Ψ (A.Qz rfl),aW an.u cH,aw Ψ (B.Qz rfl),bV,aU cY.p rfl,bK (cs:=[sv]) bz.p bz.i rfl (sub K)];refine(BP aE.ls).mono ?_;rintro _ aF _ ⟨rfl,L⟩;refine⟨.inl L,?_⟩;simp only[bD,al];refine⟨λak dp cJ _=>⟨(aD.trans L).trans cJ,λ_=>rfl,λbe=>absurd (by rw[be.1]) ak⟩,λdq=>?_⟩;have bg:z.length=aj.length:=Ω
  have C:Good z aj.length:=by rw[<-bg,<-cC];exact C
  have dr:=ap.trans L;have bi:=aD.trans L;have B:=B.ext L;have A:=A.ext L;have bO:=P.ext bi;rw[aw Ψ (A.Qz rfl),aW an.u bO];refine jS an.u ah.i Ω Ω λgz bP ds Q bQ=>?_;have cK:av .i64 ah bP gz (.slice (σ ⟨gz,0,ν⟩) z.length z.length) (p9 z.length 0):=av.of (n:=z.length) (bX.full bQ Ξ (by simp[maxLen];omega));generalize (x1.slice (σ ⟨gz,0,ν⟩) z.length z.length)=cL at*;have dt:=L.size;have du:=Q.size;have dv:=bQ.lt;rw[aw Ψ ((A.ext Q).Qz rfl),aW an.u (bO.ext Q)];have bR:=bi.trans Q;have aG:(ei aj z).length=z.length:=ta _ _;refine ce.range z.length (λi G=>ai (λr=>r=gz) bP G/\av .i64 ah G gz cL (upto (ei aj z) 0 i)) Ω ⟨ai.refl _ _,by rw[qL,aG];exact cK⟩ ?_ ?_
  .rintro i G Z hi ⟨M,aJ⟩ ae;simp only[aS,al];refine⟨λ_=>?_,λh=>Ω⟩;have aq:Ext w G:=bR.then M (by rintro r O rfl;omega);have aK:Ext aF G:=Q.then M (by rintro r O rfl;omega);obtain⟨p,bj⟩:=aI (l:=z) hi;obtain⟨⟨a6,gs,K,aE,bN⟩,_⟩:=aC.ext aq;rw[bh an.u ah.i Ψ (P.ext aq) bj,aw Ψ ((B.ext aK).Qz rfl),bV,aU cY.p rfl,bK (cs:=[sv]) bz.p bz.i rfl (sub K)];refine(qU aE.ls).mono ?_;rintro _ dw _ ⟨rfl,bS⟩;have bT:=aJ.ext bS;have cM:(upto (ei aj z) 0 i).length=z.length:=by rw[qK,aG]
   rw[hx rfl an.u ah.i bT Ω];refine hy ah.i bT Ω λdx cN _ bU=>?_;simp only[aO];have h1:=(C.2 i p bj).1;have au:(ei aj z)[i]?=σ (hW aj p):=by
    unfold ei hW;rw[x8,bj,if_pos h1.1];rfl
   rw[qN au]at bU;exact ae _ ⟨(M.trans (bS.ab _)).trans cN,bU⟩
  .rintro G Z ⟨M,aJ⟩;simp only[aS,al];refine⟨λh=>Ω,λ_=>?_⟩;have aq:Ext w G:=bR.then M (by rintro r O rfl;omega);have aK:Ext aF G:=Q.then M (by rintro r O rfl;omega);rw[<-aG,qM]at aJ;obtain⟨⟨a6,gs,K,aE,bN⟩,_⟩:=aC.ext aq;rw[aw Ψ ((B.ext aK).Qz rfl),aQ cY.p 1 K rfl];have aM:b3 (ei aj z):=cu.KX C rfl;have bW:=ct C;have dy:=prod_bound aM;refine(vY aJ.ls).mono ?_;rintro _ bk _ ⟨bY,_,_,_,cO⟩;obtain⟨ax,H,R,rfl,dz,dA,dC,aN⟩:=cO aM bW ⟨hk,Ω,by have:=hk.1;omega⟩;obtain⟨N,aR⟩:∃N:Nat,(aP (ei aj z)).toNat=N:=⟨_,rfl⟩;rw[aR]at aN;rw[bq,br];refine bo eQ.i λbZ dD dE b0 az=>?_;refine bl eQ.i rfl rfl az (by simp[x1.cells]) λcP cR dF az=>?_;have dG:=M.size;have dH:=bY.size;have dI:=b0.size;have bn:Ext bk cP:=b0.then cR (by rintro r O rfl;omega);have b1:=bY.trans bn;have cS:=aN.ext bn;have dK:=az.lt;obtain⟨⟨bp,b2,b4,b5,cT⟩,⟨b6,b7,_⟩,_,dL⟩:=id cS;have dM:0<N:=Ω
   have dN:ax<bk.heap.size:=by obtain⟨⟨_,_,q,_⟩,_⟩:=id aN;exact q.lt
   have dO:H<bk.heap.size:=by obtain⟨⟨_,_,_,_,q⟩,_⟩:=id aN;exact tH q Θ
   rw[aw Ψ (az.Qz rfl),bV,aU cY.p rfl,bK (cs:=[R]) bz.p bz.i rfl (sub b4)];refine tm.mono ?_;rintro _ E _ ⟨I,aT,rfl,dP,b8⟩;have dQ:=bn.size;have dR:=I.size;let S:Nat->Prop:=λr=>r=H;let U:=ob aj cs z;have bu:U.length=N:=by simp only[U];rw[Bw,aR]
   let cU:x3->Prop:=λw'=>af w' g1 eQ [Γ g]/\af w' bL an [Y]/\af w' bZ eQ [Γ ax]/\af w' ax cY [R,Δ k,bp]/\
    df w' g bI sv aj k cs/\aH .i64 w' Y z/\av .i64 ah w' b2 R (ei aj z)/\af w' aT bz [R]/\E.heap.size<=w'.heap.size
   have W:∀{a:x3},ai S E a->cU a:=by
    intro a J;have bw:Ext aF E:=(aK.trans b1).trans I;have bx:Ext aF a:=bw.put J Ω;have ca:Ext w a:=bi.trans bx;refine⟨B.ext bx,A.ext bx,(az.ext I).ab J (by show¬(bZ=H);omega),(b4.ext I).ab J (by show¬(ax=H);exact b6),aC.ext ca,P.ext ca,bt (b5.ext I) J (λr O he=>b7 ((show r=H from he)▸O)),
     b8.ab J (by show¬(aT=H);omega),J.size⟩
   have cb:=tk (g:=aT) (B0:=E.heap.size) (sv:=R) aM;rw[aR]at cb;refine nG.old ⟨Nat,false,k7,#[Γ aT],0,_,_,_,λq w'=>ai S E w'/\av .i64 ao w' H bp (upto U 0 q),λ_ _ _=>False,rfl,cb.s,
    ?_,λ_ _ J h=>⟨h.1.ext J,h.2.1.ext J,Y8 h.2.2 J.size⟩,λ_ _ _ J h=>⟨h.1.trans (J.ab S),h.2.ext J⟩,λ_ _ _ _ _ h=>h,⟨b8,(b5.ext I).ls,o4 _⟩,⟨ai.refl _ _,?_⟩,?_,?_,λ_ _ h=>h.elim,λ_ _ _ h=>h.elim⟩
   .rintro _ _ _ _ ⟨_,_,_,_,rfl,_⟩;rfl
   .rw[qL,bu];exact cT.ext I
   .rintro _ aL q _ dS ⟨_,_,dT⟩ ⟨au,rfl,dU,gt,cV,dV,cW⟩ ⟨aV,cX⟩;cases cV;let x:=cQ (ei aj z) (q:Int);have cc:x.length=z.length:=by simp only[x];rw[jr,aG]
    intro cZ X _ _;have cd:=cW.ext X;rw[aW an.u cd.ls];refine jS an.u ah.i (by rw[jr];omega) (by rw[jr];omega) λgo cg dW bA ch=>?_;have c0:av .i64 ah cg go (.slice (σ ⟨go,0,ν⟩) (cQ (ei aj z) (q:Int)).length (cQ (ei aj z) (q:Int)).length) (p9 (cQ (ei aj z) (q:Int)).length 0):=av.of (n:=(cQ (ei aj z) (q:Int)).length) (bX.full ch Ξ (by rw[jr];simp[maxLen];omega));generalize (x1.slice (σ ⟨go,0,ν⟩) (cQ (ei aj z) (q:Int)).length (cQ (ei aj z) (q:Int)).length)=c1 at*;have dX:=aV.size;have dY:=X.size;have dZ:=bA.size;have lo:=ch.lt;have c2:ai S E cg:=aV.trans ((X.trans bA).ab S);have f:=W c2;rw[aw Ψ (f.2.1.Qz rfl),aW an.u f.2.2.2.2.2.1];refine ce.range z.length (λj aX=>Ext cZ aX/\∃y:Λ,y.length=z.length/\av .i64 ah aX go c1 y/\∀(i:Nat)(p:Int),i<j->z[i]?=σ p->y[p.toNat]?=x[i]?) Ω
     ⟨bA,_,by simp[cc,x],c0,λi p hi=>Ω⟩ ?_ ?_
    .rintro j aX Z bc ⟨aA,y,bB,aY,bC⟩ ae;simp only[aS,al];refine⟨λ_=>?_,λh=>Ω⟩;have f:=W (aV.trans ((X.trans aA).ab S));obtain⟨p,aZ⟩:=aI (l:=z) bc;obtain⟨u,hu⟩:=aI (l:=x) (i:=j) Ω;have ea:=(C.2 j p aZ).1;rw[bh an.u ah.i Ψ f.2.2.2.2.2.1 aZ,bh an.u ah.i Ψ (cd.ext aA).ls hu,hx (i:=p.toNat) Ω an.u ah.i aY Ω];refine hy ah.i aY Ω λeb c3 ec c4=>?_;simp only[aO];refine ae _ ⟨aA.then c3 (by rintro r O rfl;omega),_,by simpa using bB,c4,λi a2 hi aB=>?_⟩;by_cases ci:i=j
     .subst ci;rw[aZ]at aB;cases aB;rw[b9 Ω,hu]
     .have ed:=(C.2 i a2 aB).1;have ak:p.toNat≠a2.toNat:=λhe=>by
       have:p=a2:=Ω
       subst this;exact ci (C.inj aB aZ)
      rw[Y4 ak];exact bC i a2 Ω aB
    .rintro aX Z ⟨aA,y,bB,aY,bC⟩;simp only[aS,al];refine⟨λh=>Ω,λ_ c5 cj _ _=>?_⟩;have ag:y=mh z x:=Bu C (by rw[cc,bg]) (by rw[bB,bg]) λi p ck=>bC i p (x4.1 ck).1 ck;have cl:=aA.trans cj;have cm:ai S E c5:=aV.trans ((X.trans cl).ab S);obtain⟨f1,f2,f3,f4,f5,f6,f7,f8,f9⟩:=W cm;rw[aw Ψ (f3.Qz rfl),aQ cY.p 2 f4 rfl,aw Ψ (f1.Qz rfl)];refine(vZ f5 (aY.ls.ext cj)).mono ?_;rintro _ ee _ ⟨rfl,bE⟩;refine⟨.inl bE,?_⟩;obtain⟨e,he⟩:=wU aj y cs;rw[he,bq,br];have c6:=cm.trans (bE.ab S);have cn:=(cX.ext ((X.trans cl).trans bE));have cM:(upto U 0 q).length=N:=by rw[qK,bu]
     rw[hx rfl ay.u ao.i cn Ω];refine hy ao.i cn Ω λc8 c9 ef cp=>?_;have cq:ai S E c8:=c6.trans (c9.mono λr _ h=>h);obtain⟨f1,f2,f3,f4,f5,f6,f7,f8,f9⟩:=W cq;have da:U[q]?=σ (bm aj cs y):=by
      simp only[U,ob];rw[x8,List.getElem?_range (by rw[aR];exact au),ag];rfl
     rw[qN da]at cp;exact⟨⟨f8,f7.ls,f9⟩,⟨cq,cp⟩,λh=>by cases h⟩
   .rintro q eg au ⟨bF,bG⟩;rw[show q=N from au]at bG;have f:=W bF;rw[aw Ψ (f.2.2.1.Qz rfl)];intro eh bH _;obtain⟨f1,f2,f3,f4,f5,f6,f7,f8,f9⟩:=W (bF.trans (bH.ab S));rw[<-bu,qM]at bG;have bw:Ext w E:=(aq.trans b1).trans I;refine⟨(bw.put bF Ω).trans bH,λdb=>absurd C db,λ_=>⟨ax,H,R,rfl,⟨bp,b2,f4,f7,bG.ext bH⟩,⟨b6,b7,bW⟩,aM,Bw _ _ _⟩⟩
def gL(l:Λ):Prop:=∀(i j:Nat)(x y:Int),i<j->l[i]?=σ x->l[j]?=σ y->x<y
theorem gL.inj(h:gL l){i:Nat}{x:Int}(hi:l[i]?=σ x)(a:l[j]?=σ x):i=j:=by
 rcases Nat.lt_trichotomy i j with h1|h1|h1
 .have:=h i j x x h1 hi a;omega
 .exact h1
 .have:=h j i x x h1 a hi;omega
def dedup(l:Λ):Nat->Λ
 |0=>[]
 |j+1=>if 0<j/\l[j]?=l[j-1]? then dedup l j else dedup l j++[l.getD j 0]
theorem CZ(l:Λ):∀j,(dedup l j).length<=j
 |0=>o4 _
 |j+1=>by
  have:=CZ l j;unfold dedup;split
  .omega
  .simp;omega
theorem wW(a:0<j)(h:l[j]?=l[j-1]?):dedup l (j+1)=dedup l j:=by
 rw[dedup,if_pos ⟨a,h⟩]
theorem wX{x:Int}(J:l[j]?=σ x)(h:0<j->l[j]? ≠l[j-1]?):dedup l (j+1)=dedup l j++[x]:=by
 rw[dedup,if_neg (λa=>h a.1 a.2),u4,J];rfl
theorem tM{l:Λ}:∀{j:Nat},j<=l.length->(∀i,i<j->0<i->l[i]? ≠l[i-1]?)->dedup l j=l.take j
 |0,_,_=>by simp[dedup]
 |j+1,e,h=>by
  have J:l[j]?=σ l[j]:=x6 Ω;rw[wX J (h j Ω),tM Ω (λi hi a=>h i Ω a),u7,J];rfl
theorem C0{l:Λ}(U:l.Pairwise (·<= ·)):∀{j:Nat},j<=l.length->(gL (dedup l j)/\∀x,x∈dedup l j↔x∈l.take j)
 |0,_=>⟨λi j x y _ h=>by simp[dedup]at h,λx=>by simp[dedup]⟩
 |j+1,H=>by
  obtain⟨h1,p⟩:=C0 U (j:=j) Ω;have J:l[j]?=σ l[j]:=x6 Ω;by_cases f:0<j/\l[j]?=l[j-1]?
  .rw[wW f.1 f.2];refine⟨h1,λx=>?_⟩;rw[p,u7,J];simp only[o8,o5,l9];refine⟨.inl,λh=>h.elim id λhe=>?_⟩;subst he;have r:(l.take j)[j-1]?=σ l[j]:=by rw[Z9 Ω,<-f.2,J]
   exact x5 r
  .have s:0<j->l[j]? ≠l[j-1]?:=λA he=>f ⟨A,he⟩;rw[wX J s];have B:∀x∈dedup l j,x<l[j]:=λx C=>by
    obtain⟨i,hi,he⟩:=List.getElem_of_mem ((p x).1 C);have I:i<j:=by rw[n9]at hi;omega
    rw[List.getElem_take]at he;subst he;have r:l[i]<=l[j-1]:=by
     by_cases w:i=j-1
     .subst w;exact Int.le_refl _
     .exact V8.1 U i (j-1) Ω Ω Ω
    have w:=V8.1 U (j-1) j Ω Ω Ω;have z:=s Ω;rw[J,x6 (show j-1<l.length by omega)]at z;have K:l[j]≠l[j-1]:=λh=>z (by rw[h]);omega
   refine⟨λa b x y E q e=>?_,λx=>?_⟩
   .have F:=(x4.1 e).1;simp only[r8,j9,List.length_nil]at F;rw[Y9 Ω]at q;by_cases G:b=(dedup l j).length
    .subst G;rw[X0 (o4 _),U8]at e;simp at e;subst e;exact B x (x5 q)
    .rw[Y9 Ω]at e;exact h1 a b x y E q e
   .rw[u7,J];simp only[o8,o5,l9,p]
def ra(l:Λ):Prop:=∀(j:Nat)(x:Int),l[j]?=σ x->0<=x/\(0<j->∀y,l[j-1]?=σ y->y<x)
theorem ra.up(h:ra l):gL l:=by
 intro i j x y q J;induction j generalizing y with
 |zero=>omega
 |succ j f=>
  intro e;have r:=(x4.1 e).1;obtain⟨z,a⟩:∃z,l[j]?=σ z:=⟨_,x6 (show j<l.length by omega)⟩;have h1:=(h (j+1) y e).2 Ω z (by simpa using a);by_cases p:i=j
  .subst p;rw[J]at a;cases a;exact h1
  .have:=f z Ω a;omega
theorem Nh(h:gL l)(a:∀x∈l,0<=x):ra l:=λj x J=>⟨a x (x5 J),λf y e=>h (j-1) j y x Ω e J⟩
theorem C1{g E:Nat}{cO:x1}{cs:Λ}(h:df w g E sv aj k cs)(a:aH .i64 w cO l):
  am x7 I0 [Γ g,cO] w λv w'=>Ext w w'/\∃c,v= .bool c/\(c=true↔l.length=aj.length/\ra l):=by
 obtain⟨⟨a6,gs,G,hm,f⟩,_⟩:=h;have sub:w.rangeAt g (0+0) [sv]:=n3 G (by
  intro j v ad
  match j,ad with
  |0,ad=>exact ad)
 refine az func246 ?_;rw[aW an.u a,bV,aU cY.p rfl,bK (cs:=[sv]) bz.p bz.i rfl sub];refine(BP hm.ls).mono ?_;rintro _ V _ ⟨rfl,q⟩;simp only[bD,al];refine⟨λH=>⟨q,false,rfl,(λh=>by cases h),λh=>absurd (by rw[h.1]) H⟩,λB=>?_⟩;have B:l.length=aj.length:=Ω
 rw[aW an.u (a.ext q)];refine b5.range l.length (λi _ aa=>Ext w aa/\∀(j:Nat)(x:Int),j<i->l[j]?=σ x->0<=x/\(0<j->∀y,l[j-1]?=σ y->y<x)) a.le ⟨q,λj x I=>Ω⟩ ?_ ?_
 .rintro i _ aa K hi ⟨e,r⟩ L;simp only[aS,al];refine⟨λ_=>?_,λh=>Ω⟩;obtain⟨x,J⟩:=aI (l:=l) hi;have Q:=a.le;rw[bh an.u ah.i Ψ (a.ext e) J];refine aV (λv M=>aa=M/\∃c,v= .bool c/\(c=false↔0<=x/\(0<i->∀y,l[i-1]?=σ y->y<x))) ?_ ?_
  .rintro _ _ ⟨rfl,c,rfl,f⟩;rw[bZ];simp only[aO];refine⟨λN=>⟨e,false,rfl,(λh=>by cases h),λh=>?_⟩,λag=>L _ _ ⟨e,λj O I s=>?_⟩⟩
   .have:=f.2 (h.2 i x J);rw[N]at this;cases this
   .by_cases P:j=i
    .subst P;rw[J]at s;cases s;exact f.1 ag
    .exact r j O Ω s
  .intro aB z;simp only[aS,bN,dO,al];refine⟨λR=>z _ _ ⟨rfl,true,rfl,(λh=>by cases h),λh=>Ω⟩,λS=>⟨λU=>?_,λW=>z _ _ ⟨rfl,false,rfl,λ_=>⟨Ω,λh=>Ω⟩,λ_=>rfl⟩⟩⟩;obtain⟨y,A⟩:∃y,l[i-1]?=σ y:=⟨_,x6 (show i-1<l.length by omega)⟩;rw[wrap_i64 Ω Ω,fN (i:=i-1) Ω an.u ah.i Ψ (a.ext e) A];simp only[cn];refine z _ _ ⟨rfl,_,rfl,?_⟩;rw[decide_eq_false_iff_not];refine⟨λh=>⟨Ω,λ_ X C=>by rw[A]at C;cases C;omega⟩,λh=>by have:=h.2 Ω y A;omega⟩
 .rintro _ aa K ⟨e,r⟩;simp only[aS,al];exact⟨λh=>Ω,λ_=>⟨e,true,rfl,λ_=>⟨B,λj x J=>r j x (x4.1 J).1 J⟩,λ_=>rfl⟩⟩
def gM(l:Λ)(x:Int):Int:=if x∈l then(l.idxOf x:Int)else-1
theorem wY{i:Nat}{x:Int}(h:gL l)(hi:l[i]?=σ x):gM l x=i:=by
 have hm:x∈l:=x5 hi;have a:=List.idxOf_lt_length_of_mem hm;have e:l.idxOf x=i:=h.inj (by rw[x6 a,List.getElem_idxOf a]) hi;unfold gM;rw[if_pos hm,e]
theorem Ni{x:Int}(h:x∉l):gM l x= -1:=if_neg h
theorem tN{x:Int}(h:aH .i64 w sv l)(hu:gL l):
  am x7 vC [sv,Δ x] w λv w'=>v=Δ (gM l x)/\Ext w w':=by
 refine az func53 ?_;rw[aW an.u h];refine b5.range l.length (λi _ V=>Ext w V/\∀j,j<i->l[j]? ≠σ x) h.le ⟨Ext.refl _,λj p=>Ω⟩ ?_ ?_
 .rintro i _ V k hi ⟨a,e⟩ hk;simp only[aS,al];refine⟨λ_=>?_,λh=>Ω⟩;obtain⟨y,f⟩:=aI (l:=l) hi;rw[bh an.u ah.i Ψ (h.ext a) f];simp only[be,al,aO];refine⟨λhe=>⟨?_,a⟩,λhe=>hk _ _ ⟨a,λj p=>?_⟩⟩
  .subst he;rw[wY hu f]
  .by_cases q:j=i
   .subst q;rw[f];intro h;exact he (Z0 h).symm
   .exact e j Ω
 .rintro _ V k ⟨a,e⟩;simp only[aS,al];refine⟨λh=>Ω,λ_=>⟨?_,a⟩⟩;rw[Ni];intro hm;obtain⟨i,hi,he⟩:=List.getElem_of_mem hm;exact e i hi (by rw[x6 hi,he])
def e7(x vars scope:Λ):Λ:=scope.map λp=>x.getD (vars.idxOf p) 0
theorem Nj(x vars scope:Λ):(e7 x vars scope).length=scope.length:=by simp[e7]
theorem C2{fd y:x1}{x vars:Λ}(J:aH .i64 w fd x)(ad:aH .i64 w y vars)(U:aH .i64 w sv scope)(hu:gL vars)(E:∀p∈scope,p∈vars)(O:x.length=vars.length)(P:scope.length<=1000):
  am x7 I5 [fd,y,sv] w λv w'=>Ext w w'/\∃g,w.heap.size<=g/\av .i64 ah w' g v (e7 x vars scope):=by
 refine az func251 ?_;rw[aW an.u U];refine jS an.u ah.i Ω Ω λgz V Q z G=>?_;have H:av .i64 ah V gz (.slice (σ ⟨gz,0,ν⟩) scope.length scope.length) (p9 scope.length 0):=av.of (n:=scope.length) (bX.full G Ξ (by simp[maxLen];omega));generalize (x1.slice (σ ⟨gz,0,ν⟩) scope.length scope.length)=I at*;rw[aW an.u (U.ext z)];have q:=Nj x vars scope;refine ce.range scope.length (λi aa=>Ext w aa/\av .i64 ah aa gz I (upto (e7 x vars scope) 0 i)) Ω ⟨z,by rw[qL,q];exact H⟩ ?_ ?_
 .rintro i aa K hi ⟨a,hm⟩ L;simp only[aS,al];refine⟨λ_=>?_,λh=>Ω⟩;obtain⟨p,s⟩:=aI (l:=scope) hi;have A:=E p (x5 s);have R:=List.idxOf_lt_length_of_mem A;rw[bh an.u ah.i Ψ (U.ext a) s];refine(tN (ad.ext a) hu).mono ?_;rintro _ S _ ⟨rfl,f⟩;have e:gM vars p=(vars.idxOf p:Int):=if_pos A;obtain⟨u,B⟩:∃u,x[vars.idxOf p]?=σ u:=⟨_,x6 Ω⟩;have W:(upto (e7 x vars scope) 0 i).length=scope.length:=by rw[qK,q]
  rw[fN (i:=vars.idxOf p) e an.u ah.i Ψ (J.ext (a.trans f)) B,hx rfl an.u ah.i (hm.ext f) Ω];refine hy ah.i (hm.ext f) Ω λX M _ C=>?_;simp only[aO];have N:(e7 x vars scope)[i]?=σ u:=by
   unfold e7;rw[x8,s,Z7,u4,B];rfl
  rw[qN N]at C;exact L _ ⟨(a.trans f).then M (by rintro r Y rfl;omega),C⟩
 .rintro aa K ⟨a,hm⟩;simp only[aS,al];refine⟨λh=>Ω,λ_=>⟨a,gz,Ω,?_⟩⟩;rw[<-q,qM]at hm;exact hm
theorem C3(h:t≠[])(hw:∀b∈t,bO b=true):lex t=([t],true):=by
 cases t with
 |nil=>exact absurd rfl h
 |cons b q=>
  have a:q.dropWhile bO=[]:=by
   have:∀(q:Λ),(∀x∈q,bO x=true)->q.dropWhile bO=[]/\q.takeWhile bO=q:=λq a=>by
    induction q with
    |nil=>simp
    |cons x q e=>
     have:=e λy f=>a y (.tail _ f);simp[a x (.head _),this.1,this.2]
   exact(this q λx J=>hw x (.tail _ J)).1
  have p:q.takeWhile bO=q:=by
   have:∀(q:Λ),(∀x∈q,bO x=true)->q.takeWhile bO=q:=λq a=>by
    induction q with
    |nil=>simp
    |cons x q e=>simp[a x (.head _),e λy f=>a y (.tail _ f)]
   exact this q λx J=>hw x (.tail _ J)
  rw[AU (hw b (.head _)),a,p]
theorem C4{p:x1}(h:aH .u8 w p l)(e:Bytes l)(f:l.length<=100000):am x7 zH [p] w λv w'=>Ext w w'/\∃g R,v=Γ g/\w.heap.size<=g/\hA w' g R (lex l).1 (lex l).2/\¬R g:=by
 refine(A2 h e f).mono ?_;rintro _ V _ ⟨q,g,rfl,s,x,a⟩;obtain⟨h1,A,B,y,bk,hm⟩:=id a;exact⟨q,g,λr=>r≠g,rfl,s,⟨x,l,0,a,λr z=>cc hm y Φ z,by rw[List.drop_zero]⟩,λh=>h rfl⟩
theorem Nk{p:x1}(h:aH .u8 w p t)(z:Bytes t)(A:t.length<=100000)(B:t≠[])(hw:∀b∈t,bO b=true):am x7 Jg [p] w λv w'=>Ext w w'/\∃n:Int,v= .tuple #[Δ 1,Δ n,Δ 0]:=by
 have C:=C3 B hw;refine az func273 ?_;refine(C4 h z A).mono ?_;rintro _ V _ ⟨E,g,R,rfl,H,q,I⟩;rw[C]at q;refine⟨λ_ _ _ a aa=>ai (λr=>r=g) V aa/\((a=Δ 0/\hA aa g R [t] true)\/(a=Δ 1/\hA aa g R [] true)),λ_ _ _ a _=>1-(bU a).toNat,⟨ai.refl _ _,.inl ⟨rfl,q⟩⟩,?_⟩;rintro _ _ _ _ aa ⟨s,⟨rfl,e⟩|⟨rfl,e⟩⟩
 .refine (qQ e).mono ?_;rintro v x _ ⟨f,G,n,rfl⟩;rw[fP,fQ,fR,be,al];refine⟨λ_=>?_,λh=>absurd rfl h⟩;rw[aO,wrap_i64 Ω Ω];exact⟨⟨s.trans f,.inr ⟨rfl,G⟩⟩,by simp[bU]⟩
 .refine (qQ e).mono ?_;rintro v x _ ⟨f,n,rfl⟩;rw[fP,fQ,fR,be,al];refine⟨λh=>by simp at h,λ_=>?_⟩;rw[be,al];refine⟨λh=>by simp at h,λ_=>?_⟩;have y:Ext w x:=E.then (s.trans f) (λr J he=>by have he:r=g:=he;omega);rw[aW cP.u (h.ext y)];exact⟨y,_,rfl⟩
theorem Nl(a:Bytes t)(e:t.length<=100000)(f:t≠[])(hw:∀b∈t,bO b=true):am x7 IV [bL t] w λv w'=>v= .bool true/\Ext w w':=by
 have z:=C3 f hw;refine az func238 ?_;refine wc cS.u cP.u cK.u a Ω λbv V p A _=>?_;refine(Nk A a e f hw).mono ?_;rintro _ aa _ ⟨q,n,rfl⟩;rw[fP,fQ,fR];refine wc cS.u cP.u cK.u a Ω λJ K s B _=>?_;refine(C4 B a e).mono ?_;rintro _ L _ ⟨C,g,R,rfl,M,x,N⟩;rw[z]at x;refine(qQ x).mono ?_;rintro _ y _ ⟨E,_,m,rfl⟩;rw[fP,fQ,fR];have G:Ext w y:=(((p.trans q).trans (s.trans C))).then E (λr O he=>by
  have he:r=g:=he;have:=p.size;have:=q.size;have:=s.size;omega)
 refine aV (λv H=>y=H/\v= .bool true) ?_ ?_
 .rintro _ _ ⟨rfl,rfl⟩;exact⟨rfl,G⟩
 .intro aB I;rw[be,al];refine⟨λ_=>?_,λh=>absurd rfl h⟩;rw[be,al];refine⟨λ_=>?_,λh=>absurd rfl h⟩;rw[wa a a];exact I _ _ ⟨rfl,by rw[decide_eq_true rfl]⟩
theorem Nn{x:Int}:am x7 vK [Δ x] w λv w'=>v= .bool (decide (¬ih x))/\Ext w w':=by
 refine az func237 ?_;refine aV (λv V=>w=V/\v= .bool (decide (¬ih x))) ?_ ?_
 .rintro _ _ ⟨rfl,rfl⟩;exact⟨rfl,Ext.refl _⟩
 .intro aB e;rw[aS,al];refine⟨λh=>e _ _ ⟨rfl,by rw[decide_eq_true];intro a;have:=a.1;omega⟩,λh=>?_⟩;rw[bN];refine e _ _ ⟨rfl,?_⟩;congr 1;rw[V9,decide_eq_true_eq,decide_eq_true_eq];exact⟨λf a=>by have:=a.2;omega,λf=>by
   by_cases p:32<x
   .exact p
   .exact absurd ⟨Ω,Ω⟩ f⟩
theorem No(h:aH .i64 w sv l)(e:∀x∈l,ih x):
  am x7 vJ [sv,.func (.func vK) #[] #[]] w λv w'=>v= .bool false/\Ext w w':=by
 refine az func235 ?_;refine am.mono (K:=λv w'=>v=Δ (-1)/\Ext w w') ?_ ?_
 .refine az func133 ?_;rw[aW an.u h];refine b5.range l.length (λ_ _ V=>Ext w V) h.le (Ext.refl _) ?_ ?_
  .rintro i _ V k hi J hk;refine bH Ω ?_;obtain⟨x,a⟩:=aI (l:=l) hi;rw[bh an.u ah.i Ψ (h.ext J) a];show am x7 vK [Δ x] V _;refine Nn.mono ?_;rintro _ aa _ ⟨rfl,f⟩;rw[al];refine⟨λp=>absurd (e x (x5 a)) p,λ_=>?_⟩;rw[aO];exact hk _ _ (J.trans f)
  .rintro _ V k J;rw[aS,al];exact⟨λh=>Ω,λ_=>⟨rfl,J⟩⟩
 .rintro _ V _ ⟨rfl,J⟩;rw[cn];exact⟨rfl,J⟩
theorem tO{m:Bool}{S R:ak}{d:hb}(h:aq.rep m S R w cs d):∃sv g a aL gs,cs=[sv,Γ g]/\aH .i64 w sv d.1/\fU w g a aL gs d.2.aj d.2.k d.2.o d.2.D:=by
 obtain⟨c,e,A,B,rfl,_,_,_,h1,f⟩:=h;have h1:aq.rep (α:=Λ) false bB R w c d.1:=h1;obtain⟨u,rfl⟩:=W9.1 (show c.length=1 from aq.len h1);obtain⟨g,m,sv,gs,rfl,p,_⟩:=f;exact⟨u,g,m,sv,gs,rfl,eG h1,p⟩
theorem Np{Q:Nat}{f:bY}{d:hb}{x:ck}{m:Bool}{S R:ak}(ae:ly w Q f)(ag:e3 N f)(ai:x∈f.funs)(ao:q9 f.k x d)(au:aq.rep m S R w cs d):
  am x7 Jh [Γ Q,.agg cs.toArray] w λv w'=>v= .bool true/\Ext w w':=by
 obtain⟨szv,aH,gz,aJ,U,W,_,_⟩:=ae;obtain⟨sv,gT,aK,aL,gs,rfl,s,I⟩:=tO au;obtain⟨av,X,ax,aN,aP,aR⟩:=ao;obtain⟨E,aT,aU⟩:=ag.funs x ai;rw[av]at s;refine az func275 ?_;refine bf λap V aX A G=>?_;have G:af V ap cF [sv,Γ gT]:=by obtain⟨_,_,_,rfl⟩:=cU s;exact G
 refine aV (λv aa=>Ext V aa/\v= .bool false) ?_ ?_
 rotate_left
 .intro aB J;intro aa q _ _;have z:=G.ext q;rw[aM cF.p 1 z rfl,dc eP.u];simp only[Z5,a1];rw[aM cF.p 1 z rfl,aQ cE.p 1 (U.ext (A.trans q)) rfl];refine(Ly (I.ext (A.trans q)).is).mono ?_;rintro _ B _ ⟨rfl,a⟩;refine⟨.inl a,?_⟩;rw[bD,al];refine⟨λh=>absurd ax h,λ_=>?_⟩;have C:=z.ext a;have K:=q.trans a;rw[aM cF.p 1 C rfl,aM cF.p 0 C rfl,aW an.u (s.ext (A.trans K))];refine(Lz (I.ext (A.trans K)).is).mono ?_;rintro _ H _ ⟨rfl,e⟩;refine⟨.inl e,?_⟩;rw[bD];refine J _ _ ⟨K.trans e,?_⟩;rw[decide_eq_false];intro h;exact h (by rw[X,E.sizes,u9])
 rintro _ aa ⟨q,rfl⟩;rw[a1];have z:=G.ext q;have L:=A.trans q;rw[aM cF.p 0 z rfl,aW an.u (s.ext L)];refine b5.range x.scope.length (λ_ _ B=>Ext aa B) Ω (Ext.refl _) ?_ ?_
 rotate_left
 .rintro _ B k a;rw[aS,al];exact⟨λh=>Ω,λ_=>⟨rfl,L.trans a⟩⟩
 rintro i _ B k hi a hk;obtain⟨v,ad⟩:=aI (l:=x.scope) hi;have aY:=E.scope.2 v (x5 ad);have M:=L.trans a;have C:=z.ext a;have Y:=U.ext M;have ay:f.sizes[v.toNat]?=σ (f.sizes.getD v.toNat 0):=by
  rw[u4,x6 Ω];rfl
 refine bH Ω ?_;rw[bh an.u ah.i Ψ (s.ext M) ad];refine aV (λb H=>Ext B H/\b= .bool false) ?_ ?_
 .rintro _ H ⟨e,rfl⟩;rw[a1,aO];exact hk _ _ (a.trans e)
 .intro aB J;intro H e _ _;have O:=M.trans e;refine ct Ω ?_;rw[aQ cE.p 2 (Y.ext e) rfl,aW an.u (W.ls.ext O),cn,al];refine⟨λh=>Ω,λ_=>?_⟩;rw[aM cF.p 0 (C.ext e) rfl];refine(CY (s.ext O)).mono ?_;rintro _ aZ _ ⟨Z,r,rfl,aA⟩;have aC:r=(i:Int):=(aA i ad).2 λj a2 aD=>by have:=kG E.scope.1 aD ad;omega
  subst aC;have ab:=O.trans Z;have P:=e.trans Z;rw[bD,al];refine⟨λh=>absurd rfl h,λ_=>?_⟩;rw[aM cF.p 1 (C.ext P) rfl,aQ cE.p 2 (Y.ext P) rfl];refine po (y:=v) (i:=v.toNat) Ω an.u ah.i (W.ls.ext ab) ay λb o aE=>?_;rw[aw Ψ aE];refine(wB (I.ext ab).is).mono ?_;rintro a6 a7 _ ⟨ac,a8,ba,aF⟩;refine⟨.inl ac,?_⟩;have aG:d.2.aj[i]?=σ (f.sizes.getD v.toNat 0):=by
   rw[X,E.sizes,x8,ad];rfl
  rw[bh an.u ah.i Ψ aF.ls aG,bD];exact J _ _ ⟨P.trans ac,by rw[decide_eq_false (λh=>h rfl)]⟩
theorem Nq{q:Nat}{f:bY}{d:hb}{x:ck}{m:Bool}{S R:ak}(r:ly w q f)(s:e3 N f)(y:x∈f.funs)(z:q9 f.k x d)(a:aq.rep m S R w cs d):
  am x7 vL [Γ q,.agg cs.toArray] w λv w'=>v= .bool false/\Ext w w':=by
 refine az func240 ?_;refine bf λap V E e h=>?_;have A:cs.length=2:=aq.len a;have h:af V ap cF cs:=by
  obtain⟨sv,gT,G,aL,gs,rfl,B,H⟩:=tO a;obtain⟨_,_,_,rfl⟩:=cU B;exact h
 rw[bK cF.p cF.i A h.range];refine(Np (r.ext e) s y z (b0 a e)).mono ?_;rintro _ aa _ ⟨rfl,C⟩;rw[bE];exact⟨rfl,e.trans C⟩
theorem Nr{e:Nat}{f:bY}{r:x1}{a:List hb}{m:Bool}{S R:ak}(A:ly w e f)(B:e3 N f)(q:aq.rep m S R w [r] a)(s:tL f.k f.funs a):
  am x7 IW [r,.func (.func vL) #[Γ e] #[]] w λv w'=>v= .bool false/\Ext w w':=by
 refine az func239 ?_;refine am.mono (K:=λv w'=>v=Δ (-1)/\Ext w w') ?_ ?_
 .refine az func274 ?_;rw[jq dH.u q];refine b5.range a.length (λ_ _ V=>Ext w V) (sR q) (Ext.refl _) ?_ ?_
  .rintro i _ V k hi J hk;refine bH Ω ?_;obtain⟨d,y⟩:=aI (l:=a) hi;obtain⟨x,z⟩:∃x,f.funs[i]?=σ x:=⟨_,x6 (by have:=s.1;omega)⟩;refine nZ (α:=hb) cF.p rfl dH.u cF.i (b0 q J) y λcs C=>?_;show am x7 vL [Γ e,.agg cs.toArray] V _;refine(Nq (A.ext J) B (x5 z) (s.2 i x d z y) C).mono ?_;rintro _ aa _ ⟨rfl,E⟩;rw[a1,aO];exact hk _ _ (J.trans E)
  .rintro _ V k J;rw[aS,al];exact⟨λh=>Ω,λ_=>⟨rfl,J⟩⟩
 .rintro _ V _ ⟨rfl,J⟩;rw[cn];exact⟨rfl,J⟩
def iS(a:List ck):Nat:=(a.map λx=>x.lines.length).sum
theorem Ns{ac:Nat}{f:bY}(ae:ly w ac f)(r:e3 N f)(bc:N<=60000)(R:f.name≠[]/\∀b∈f.name,bO b=true):
  am x7 Is [Γ ac] w λv w'=>Ext w w'/\∃e:Int,v=Δ e/\(iS f.funs<=16384->e=0):=by
 obtain⟨szv,bd,gz,y,A,S,U,B⟩:=id ae;have bf:=r.name;have aA:Bytes f.name:=λb aC=>by
  have:=of_decide_eq_true (R.2 b aC);omega
 refine az func191 ?_;rw[dc vN.u];simp only[Z5,a1];refine aV (λv V=>Ext w V/\v= .bool false) ?_ ?_
 rotate_left
 .intro aB s;rw[aQ cE.p 0 A rfl];refine(Nl aA Ω R.1 R.2).mono ?_;rintro _ V _ ⟨rfl,q⟩;rw[bE,Y7,a1];rw[aQ cE.p 2 (A.ext q) rfl,aW an.u (S.ls.ext q),be,al];refine⟨λh=>by have:=r.sizes.1;omega,λ_=>?_⟩;rw[aQ cE.p 2 (A.ext q) rfl];refine(No (S.ls.ext q) r.sizes.2.2).mono ?_;rintro _ aa _ ⟨rfl,C⟩;have af:=q.trans C;rw[a1,aQ cE.p 1 (A.ext af) rfl];refine Aw.mono ?_;rintro _ E _ ⟨rfl,G⟩;have L:=af.trans G;rw[decide_eq_true (show right f.k from r.k),bE,Y7,a1,aQ cE.p 3 (A.ext L) rfl,ig];refine(Nr (ae.ext L) r (b0 U L) B).mono ?_;rintro _ ag _ ⟨rfl,aD⟩;exact s _ _ ⟨L.trans aD,rfl⟩
 rintro _ V ⟨q,rfl⟩;rw[a1];have M:=A.ext q;refine aV (λv aa=>V=aa/\v= .bool false) ?_ ?_
 rotate_left
 .intro aB s;rw[aQ cE.p 0 M rfl,n5 cS.u,bN,al];refine⟨λh=>Ω,λ_=>?_⟩;rw[aQ cE.p 2 M rfl,aW an.u (S.ls.ext q),bN,al];refine⟨λh=>by have:=r.sizes.2.1;omega,λ_=>?_⟩;rw[aQ cE.p 3 M rfl,jq dH.u (b0 U q),bN];exact s _ _ ⟨rfl,by rw[decide_eq_false];have:=r.ln;have:=B.1;omega⟩
 rintro _ _ ⟨rfl,rfl⟩;have ai:=b0 U q;rw[aQ cE.p 3 M rfl,jq dH.u ai];refine⟨λaE aF W aa=>∃i n:Nat,W=Δ (i:Int)/\i<=y.length/\aE=Δ (n:Int)/\aF= .bool false/\Ext V aa/\n<=iS (f.funs.take i)/\n<=i*60000,λ_ _ W _=>y.length-(bU W).toNat,
  ⟨0,0,rfl,X6 _,rfl,rfl,Ext.refl _,X6 _,Ω⟩,?_⟩
 rintro _ _ _ aa ⟨i,n,rfl,hi,rfl,rfl,C,aG,bg⟩;have bi:y.length<=256:=by rw[B.1];exact r.ln
 rw[aS,al];refine⟨λak=>?_,λbj=>?_⟩
 .have ak:i<y.length:=Ω
  obtain⟨d,aq⟩:=aI (l:=y) ak;obtain⟨x,X⟩:∃x,f.funs[i]?=σ x:=⟨_,x6 (by have:=B.1;omega)⟩;have O:=B.2 i x d X aq;obtain⟨P,aH,aJ⟩:=r.funs x (x5 X);have bk:=P.len;refine jh (λa b E=>Ext aa E/\a=Δ ((n+d.2.D.length:Nat):Int)/\b= .bool false) ?_ ?_
  .rintro _ _ E ⟨G,rfl,rfl⟩;rw[aO,wrap_i64 Ω Ω];have aK:=O.2.2.2.2.1;refine⟨⟨i+1,n+d.2.D.length,rfl,Ω,rfl,rfl,C.trans G,?_,?_⟩,by simp only[bU];omega⟩
   .have e:iS (f.funs.take (i+1))=iS (f.funs.take i)+x.lines.length:=by
     unfold iS;rw[u7,X,o8,Z3,List.sum_append,T1,List.map_nil,List.sum_cons,List.sum_nil,Nat.add_zero]
    omega
   .have:(i+1)*60000=i*60000+60000:=Ω
    have bl:d.2.D.length<=60000:=Ω
    omega
  .intro aB s;refine nZ (α:=hb) cF.p rfl dH.u cF.i (b0 ai C) aq λcs aN=>?_;obtain⟨sv,gT,bm,aL,gs,rfl,aP,au⟩:=tO aN;refine bo cF.i λap E bn G aR=>?_;refine cb (vs:=[sv,Γ gT]) cF.i rfl rfl (by intro v ad;simp at ad;rcases ad with rfl|rfl<;>first|exact aP.cells.2|rfl) aR λag aT bp aw=>?_;have Y:Ext aa ag:=G.put aT Ω;rw[aM cF.p 1 aw rfl];refine(Lx (au.ext Y).is).mono ?_;rintro _ bq _ ⟨rfl,Z⟩;have aK:=O.2.2.2.2.1;rw[aO,wrap_i64 Ω Ω,aM cF.p 1 (aw.ext Z) rfl];refine(wB ((au.ext Y).ext Z).is).mono ?_;rintro br ab _ ⟨aU,bt,bu,ax⟩;rw[aW an.u ax.ls];have bw:d.2.aj.length<=6:=by rw[O.2.1,P.sizes,u9];exact aH
   refine b5.range d.2.aj.length (λj out Q=>Ext ab Q/\∃gr,ab.heap.size<=gr/\av .i64 ao Q gr out (d.2.aj.take j)) Ω ⟨Ext.refl _,ab.heap.size,o4 _,av.nil _ _ _ _⟩ ?_ ?_
   .rintro j out Q k aX ⟨H,gr,aY,I⟩ hk;obtain⟨z,J⟩:=aI (l:=d.2.aj) aX;refine bH Ω ?_;rw[bh an.u ah.i Ψ (ax.ls.ext H) J];refine ee ay.u ao.i rfl λa ga aZ bx K a2=>?_;refine jn ay.u ao.i rfl (I.ext K) a2.ls Θ Θ λbz a6 bA bB a7 a8=>?_;have bC:=H.size;have bD:=K.size;rw[aO];refine hk _ _ ⟨(H.trans K).put a8 Ω,a6,Ω,?_⟩;rw[u7,J];exact a7
   .rintro out Q k ⟨H,gr,aY,I⟩;rw[o7]at I;refine ct Ω ?_;rw[a1];have ba:d.2.aj=x.sizes:=O.2.1;rw[ba]at I;refine(BM I.ls λz J=>?_).mono ?_
    .rw[P.sizes]at J;obtain⟨v,ad,rfl⟩:=j5.1 J;have bF:=P.scope.2 v ad;refine(r.sizes.2.2 _ ?_).1;rw[u4,x6 Ω];exact T2 _
    .rintro _ aZ _ ⟨rfl,K⟩;refine s _ _ _ ⟨(((Y.trans Z).trans aU).trans H).trans K,by congr 1,by rw[aJ]⟩
 .have bb:i=y.length:=Ω
  subst bb;rw[B.1,o7]at aG;refine aV (λv E=>aa=E/\v= .bool (decide (16384<(n:Int)))) ?_ ?_
  .rintro _ _ ⟨rfl,rfl⟩;rw[al];refine⟨λh=>⟨q.trans C,5,rfl,λbG=>Ω⟩,λh=>⟨q.trans C,0,rfl,λ_=>rfl⟩⟩
  .intro aB s;rw[a1,bN];exact s _ _ ⟨rfl,rfl⟩
theorem tP:∀{a b:Λ}{i:Nat},(∀(j:Nat)(x y:Int),j<i->a[j]?=σ x->b[j]?=σ y->x=y)->i<=a.length->i<=b.length->gd a b=gd (a.drop i) (b.drop i)
 |_,_,0,_,_,_=>Ξ
 |[],_,i+1,_,h,_=>by simp at h
 |_::_,[],i+1,_,_,h=>by simp at h
 |x::a,y::b,i+1,he,h1,e=>by
  have f:=he 0 x y Ω rfl rfl;subst f;simp only[gd,Int.lt_irrefl,if_false,List.drop_succ_cons];exact tP (λj u v p hu ad=>he (j+1) u v Ω hu ad) (by simpa using h1) (by simpa using e)
theorem C5{x:Int}:am x7 cmp_isNaN_int [Δ x] w λv w'=>v= .bool false/\Ext w w':=by
 refine az func82 ?_;simp only[bD];exact⟨Ξ,Ext.refl _⟩
theorem pN{x:Int}:am x7 GL [Δ x,Δ y] w λv w'=>v=Δ (if x<y then-1 else if y<x then 1 else 0)/\Ext w w':=by
 refine az func29 ?_;refine C5.mono ?_;rintro _ V _ ⟨rfl,a⟩;refine C5.mono ?_;rintro _ aa _ ⟨rfl,e⟩;simp only[a1,aS,bN,al];exact⟨λh=>⟨by rw[if_pos h],a.trans e⟩,λh=>⟨λf=>⟨by rw[if_neg h,if_pos f],a.trans e⟩,λf=>⟨by rw[if_neg h,if_neg f],a.trans e⟩⟩⟩
theorem Nt{b:Λ}(r:aH .i64 w bg a)(z:aH .i64 w bv b):am x7 Iy [bg,bv] w λv w'=>v=Δ (gd a b)/\Ext w w':=by
 refine az func203 ?_;have Y:=r.le;rw[aW an.u r];refine⟨λ_ A V=>∃i:Nat,A=Δ (i:Int)/\i<=a.length/\i<=b.length/\Ext w V/\∀(j:Nat)(x y:Int),j<i->a[j]?=σ x->b[j]?=σ y->x=y,λ_ A _=>a.length-(bU A).toNat,⟨0,rfl,X6 _,X6 _,Ext.refl _,λj x y N=>Ω⟩,?_⟩;rintro _ _ V ⟨i,rfl,O,P,f,H⟩;have p:gd a b=gd (a.drop i) (b.drop i):=tP H O P;simp only[aS,al];refine⟨λs=>?_,λZ=>?_⟩
 .have s:i<a.length:=Ω
  obtain⟨x,J⟩:=aI (l:=a) s;have I:a.drop i=x::a.drop (i+1):=by rw[W3 s,(x4.1 J).2]
  rw[bh an.u ah.i Ψ (r.ext f) J,aW an.u (z.ext f)];simp only[cn,al];refine⟨λh=>?_,λh=>?_⟩
  .have:b.drop i=[]:=by rw[List.drop_eq_nil_iff];omega
   rw[this,I]at p;exact⟨by rw[p];rfl,f⟩
  have B:i<b.length:=Ω
  obtain⟨y,C⟩:=aI (l:=b) B;have Q:b.drop i=y::b.drop (i+1):=by rw[W3 B,(x4.1 C).2]
  rw[bh an.u ah.i Ψ (z.ext f) C];refine pN.mono ?_;rintro _ aa _ ⟨rfl,K⟩;rw[I,Q]at p;simp only[gd]at p;simp only[bD,al,aO];refine⟨λL=>⟨?_,f.trans K⟩,λR=>?_⟩
  .rw[p];by_cases h1:x<y
   .rw[if_pos h1,if_pos h1]
   .by_cases q:y<x
    .rw[if_neg h1,if_pos q,if_neg h1,if_pos q]
    .rw[if_neg h1,if_neg q]at L;exact absurd rfl L
  .rw[wrap_i64 Ω Ω];refine⟨⟨i+1,rfl,s,B,f.trans K,λj S U N E G=>?_⟩,by simp only[bU];omega⟩;by_cases W:j=i
   .subst W;rw[J]at E;rw[C]at G;cases E;cases G;have M:=Y0.1 R;by_cases h1:x<y
    .rw[if_pos h1]at M;omega
    .by_cases q:y<x
     .rw[if_neg h1,if_pos q]at M;omega
     .omega
   .exact H j S U Ω E G
 .have X:i=a.length:=Ω
  subst X;rw[List.drop_length]at p;rw[aW an.u (r.ext f),aW an.u (z.ext f)];simp only[aS,al];refine⟨λh=>⟨?_,f⟩,λh=>⟨?_,f⟩⟩
  .obtain⟨y,l,e⟩:∃y l,b.drop a.length=y::l:=⟨_,_,W3 Ω⟩;rw[p,e];rfl
  .have:b.drop a.length=[]:=by rw[List.drop_eq_nil_iff];omega
   rw[p,this];rfl
theorem Nu{x:Int}{f:x1}(h:aH .i64 w f [x,y]):am x7 zA [f] w λv w'=>v=Δ (if x≠0 then x else y)/\Ext w w':=by
 refine az func28 ?_;rw[aW an.u h];refine b5.range 2 (λi _ V=>Ext w V/\(1<=i->x=0)/\(2<=i->y=0)) Ω ⟨Ext.refl _,Ω,Ω⟩ ?_ ?_
 .rintro i _ V k hi ⟨a,h1,e⟩ hk;rw[aS,al];refine⟨λ_=>?_,λh=>by simp at h;omega⟩
  match i,hi,h1,e,hk with
  |0,_,h1,e,hk=>
   rw[bh (i:=0) an.u ah.i Ψ (h.ext a) rfl,bD,al];refine⟨λp=>⟨by rw[if_pos p],a⟩,λhe=>?_⟩;rw[aO];exact hk _ _ ⟨a,λ_=>Y0.1 he,λh=>Ω⟩
  |1,_,h1,e,hk=>
   rw[bh (i:=1) an.u ah.i Ψ (h.ext a) rfl,bD,al];have q:=h1 (o4 _);refine⟨λp=>⟨by rw[if_neg Ω],a⟩,λhe=>?_⟩;rw[aO];exact hk _ _ ⟨a,λ_=>q,λ_=>Y0.1 he⟩
 .rintro _ V k ⟨a,h1,e⟩;have q:=h1 Ω;have r:=e Ω;rw[aS,al];exact⟨λh=>by simp at h,λ_=>⟨by rw[if_neg Ω,r],a⟩⟩
structure cv where
 sv:x1
 g:Nat
 sc:Λ
 cs:Λ
def ez(h:cv):List x1:=[h.sv,Γ h.g]
abbrev j3(h:cv):x1:=.agg (ez h).toArray
def rb(h:cv):Int:=dd h.sc
def iT(w:x3)(a:Nat)(h:cv):Prop:=(∃e,av .i64 ah w e h.sv h.sc)/\(∀r,leads h.sv r->r≠a)/\jx h.sc
theorem iT.ab{a:Nat}{h:cv}(aA:iT w a h)(J:ai S w w')(e:∀r,leads h.sv r->¬S r):iT w' a h:=by
 obtain⟨⟨f,hm⟩,p⟩:=aA;exact⟨⟨f,bt hm J e⟩,p⟩
theorem iT.one{a:Nat}{h:cv}(aA:iT w a h):∀u∈ez h,u.oneCell'=true:=by
 obtain⟨⟨e,hm⟩,_⟩:=aA;intro u hu;simp[ez]at hu;rcases hu with rfl|rfl
 .exact hm.ls.cells.2
 .rfl
def e8(w:x3)(g:Nat)(v:x1)(L:List cv):Prop:=bi ez 2 cX w g v L/\∀h∈L,iT w g h
theorem e8.ext{g:Nat}{L:List cv}(h:e8 w g v L)(J:Ext w w'):e8 w' g v L:=⟨h.1.ext J,λx a=>(h.2 x a).ab (J.ab λ_=>False) λ_ _ h=>h⟩
theorem e8.at{g:Nat}{L:List cv}(h:e8 w g v L){i:Nat}{x:cv}(hi:L[i]?=σ x):iT w g x:=h.2 x (x5 hi)
theorem tQ{g:Nat}{L:List cv}{i:Nat}{x:cv}{K:x1->Prop}(a:y=(i:Int))(h:e8 w g v L)(hi:L[i]?=σ x):
  ac x7 (c9 gq v (Δ y)) w (λp=>ac x7 (u5 cX p) w K)=K (j3 x):=by
 rw[dj a gq.u cX.i h.1 (x4.1 hi).1,bK cX.p cX.i rfl (h.1.range hi)]
theorem Nv{g:Nat}{L:List cv}{i:Nat}{x:cv}{K:Unit->x3->Prop}(s:y=(i:Int))(h:e8 w g v L)(hi:i<L.length)(hk:iT w g x)(A:∀w',ai (λr=>leadsTo v r) w w'->e8 w' g v (L.set i x)->K () w'):ac x7 (c9 gq v (Δ y)) w λp=>aD x7 (o9 cX p (j3 x)) w K:=by
 rw[dj s gq.u cX.i h.1 hi];refine B6 (f:=ez) cX.i h.1 rfl hk.one hi λw' e _ h'=>A w' e ⟨h',λz a=>?_⟩;rcases W5 a with a|rfl
 .exact (h.2 z a).ab e λr q he=>(h.2 z a).2.1 r q (h.1.leads he).1
 .exact hk.ab e λr q he=>hk.2.1 r q (h.1.leads he).1
abbrev Nw:x1:=.func (.func zU) #[] #[]
def tR(a b:cv):Int:=let c:Int:=if(a.sc.length:Int)<b.sc.length then-1 else if(b.sc.length:Int)<a.sc.length then 1 else 0
 if c≠0 then c else gd a.sc b.sc
theorem Nx{a b:cv}(f:jx a.sc)(p:jx b.sc):tR a b<0↔rb a<rb b:=by
 have q:=(wP f p).1;unfold rb tR;simp only;generalize r:(if(a.sc.length:Int)<b.sc.length then(-1:Int)else if(b.sc.length:Int)<a.sc.length then 1 else 0)=c;rw[q,<-r];by_cases h1:(a.sc.length:Int)<b.sc.length
 .rw[if_pos h1,if_pos Ω];exact⟨λ_=>.inl Ω,λ_=>Ω⟩
 .by_cases e:(b.sc.length:Int)<a.sc.length
  .rw[if_neg h1,if_pos e,if_pos Ω];exact⟨λh=>Ω,λh=>by rcases h with h|h<;>omega⟩
  .rw[if_neg h1,if_neg e,if_neg Ω];exact⟨λh=>.inr ⟨Ω,h⟩,λh=>by rcases h with h|h;omega;exact h.2⟩
theorem Ny{z:Nat}{a b:cv}(B:iT w z a)(C:iT w z b):am x7 zU [j3 a,j3 b] w λv w'=>Ext w w'/\v=Δ (tR a b):=by
 obtain⟨⟨ga,s⟩,_,L⟩:=B;obtain⟨⟨M,x⟩,_,N⟩:=C;refine az func202 ?_;refine bf λg1 V O E h=>?_;refine bf λG aa P A q=>?_;have h:af V g1 cX [a.sv,Γ a.g]:=by
  obtain⟨_,_,_,e⟩:=cU s.ls;simp only[j3,ez,e]at h ⊢;exact h
 have q:af aa G cX [b.sv,Γ b.g]:=by
  obtain⟨_,_,_,e⟩:=cU x.ls;simp only[j3,ez,e]at q ⊢;exact q
 intro Q y _ _;have f:=(E.trans A).trans y;have f1:=(h.ext A).ext y;have f2:=q.ext y;rw[aM cX.p 0 f1 rfl,aW an.u (s.ls.ext f),aM cX.p 0 f2 rfl,aW an.u (x.ls.ext f),
  aM cX.p 0 f1 rfl,aM cX.p 0 f2 rfl]
 refine pN.mono ?_;rintro _ R _ ⟨rfl,r⟩;refine⟨.inl r,?_⟩;refine(Nt ((s.ls.ext f).ext r) ((x.ls.ext f).ext r)).mono ?_;rintro _ S _ ⟨rfl,H⟩;refine pn (l:=[if(a.sc.length:Int)<b.sc.length then(-1:Int)else if(b.sc.length:Int)<a.sc.length then 1 else 0,gd a.sc b.sc]) an.u ah.i Ω rfl Ψ λU W X Y I J=>?_;refine(Nu J.ls).mono ?_;rintro _ Z _ ⟨rfl,K⟩;exact⟨((((f.trans r).trans H).trans I).trans K),rfl⟩
theorem Nz{g:Nat}{L:List cv}(h:e8 w g v L)(E:L.length<65536):
  am x7 Ix [v,Nw] w λ_ w'=>ai (λr=>leadsTo v r) w w'/\∃M,M.Perm L/\tw rb M 0 M.length/\e8 w' g v M:=by
 have s:∀{z:x3}{a:cv},ai (λr=>r=g) w z->iT w g a->iT z g a:=λf e=>e.ab f λr A he=>e.2.1 r A he;refine(wG LK (G:=iT w g) (num:=rb) (cf:=tR) (cap:=#[]) LP LQ (λa e=>e.one) (λa _=>rfl) (λa b e B=>Nx e.2.2 B.2.2) (Enters.of x7 LR rfl Ψ) h.1 h.2 E λz a b f e B=>Ny (s f e) (s f B)).mono ?_;rintro _ w' _ ⟨f,M,C,hu,hm⟩;have H:ai (λr=>r=g) w w':=f.mono λr _ A=>(h.1.leads A).1;exact⟨f,M,C,λp q x y _ I _ J K=>hu p q x y I J K,hm,λx J=>s H (h.2 x (C.mem_iff.1 J))⟩
theorem NA{m:Λ}(ad:kI l)(q:l.Nodup)(e:m.Perm l)(U:m.Pairwise (·<= ·)):m=bn l:=by
 refine wQ (f:=λx=>x) ?_ (wO l) λx=>?_
 .have r:m.Nodup:=e.nodup_iff.2 q;exact(List.Pairwise.and U r).imp λ{a b}h=>by
   obtain⟨h1,p⟩:=h;have p:a≠b:=p;omega
 .rw[e.mem_iff,q7 ad]
theorem NB(h:∀z∈l,1<=z/\z<=32)(a:dk l=false):aP l<=4096:=by
 have:=of_decide_eq_false a;rw[wS h]at this;omega
theorem NC{f:bY}{d:hb}{x:ck}{m:Bool}{S R:ak}(q:e3 N f)(bj:N<=60000)(O:x∈f.funs)(aA:q9 f.k x d)(aB:aq.rep m S R w cs d):
  am x7 It [.agg cs.toArray] w λv w'=>Ext w w'/\∃sv gs G P Q,v= .tuple #[sv,Γ G]/\w.heap.size<=gs/\av .i64 ah w' gs sv (bn x.scope)/\df w' G P Q (bW f.sizes (bn x.scope)) f.k (hV f.sizes f.k x).2:=by
 obtain⟨sv,gT,bk,aL,bl,rfl,H,aC⟩:=tO aB;obtain⟨aD,aE,aF,bo,bp,aG⟩:=aA;obtain⟨a,aH,aJ⟩:=q.funs x O;have ad:=tD a q.sizes.2.1;have bt:=a.len;rw[aD]at H;have aK:∀z∈x.sizes,1<=z/\z<=32:=λz Z=>by
  rw[a.sizes]at Z;obtain⟨v,aN,rfl⟩:=j5.1 Z;have bu:=a.scope.2 v aN;refine q.sizes.2.2 _ ?_;rw[u4,x6 Ω];exact T2 _
 have aP:=NB aK aJ;have W:=tC ad a.scope.1;have bw:(bn x.scope).length<=6:=by rw[W.length_eq];exact aH
 refine az func192 ?_;refine bf λap V bx ac A=>?_;have A:af V ap cF [sv,Γ gT]:=by obtain⟨_,_,_,rfl⟩:=cU H;exact A
 rw[aM cF.p 1 A rfl];refine(CS (aC.ext ac).is Ω).mono ?_;rintro _ aa _ ⟨X,_,B⟩;rw[aE]at B;obtain⟨g,bz,bA,aQ,rfl,bB,bC,B,ae⟩:=B aP;rw[aF]at B;rw[bq,br,aM cF.p 0 (A.ext X) rfl];have C:=ac.trans X;refine wV (H.ext C) Ω λv ag gs bD I bE aR U J=>?_;have aS:=NA ad a.scope.1 aR U;subst aS;have bF:=C.size;rw[aW an.u J.ls];refine jS (k:=.i64) an.u ah.i Ω Ω λgo aj bG K al=>?_;have aT:av .i64 ah aj go (.slice (σ ⟨go,0,ν⟩) (bn x.scope).length (bn x.scope).length) (p9 (bn x.scope).length 0):=av.of (bX.full (k:=1) (n:=(bn x.scope).length) al Ξ (by simp[maxLen];omega));rw[aW an.u (J.ls.ext K)];have bI:=al.lt;have L:(gf x.scope (bn x.scope)).length=(bn x.scope).length:=by simp[gf]
 have aU:=I.trans K;have bJ:=C.trans aU;refine ce.range (bn x.scope).length (λi h=>ai (λr=>r=go) aj h/\av .i64 ah h go (.slice (σ ⟨go,0,ν⟩) (bn x.scope).length (bn x.scope).length) ((gf x.scope (bn x.scope)).take i++p9 ((bn x.scope).length-i) 0)) Ω ⟨ai.refl _ _,by simpa using aT⟩ ?_ ?_
 .rintro i h k hi ⟨M,E⟩ hk;obtain⟨v,Y⟩:=aI (l:=(bn x.scope)) hi;have s:Ext ag h:=K.put M Ω;have aV:Ext w h:=(C.trans I).trans s;have aX:v∈x.scope:=W.mem_iff.1 (x5 Y);refine bH Ω ?_;rw[bh an.u ah.i Ψ (J.ls.ext s) Y];have aY:Ext V h:=(X.trans I).trans s;rw[aM cF.p 0 (A.ext aY) rfl];refine(CY (H.ext aV)).mono ?_;rintro _ aZ _ ⟨y,r,rfl,a1⟩;have ao:=pM aX;have a2:r=((x.scope.idxOf v:Nat):Int):=(a1 _ ao).2 λj bK a6=>by have:=kG a.scope.1 a6 ao;omega
  rw[hx rfl an.u ah.i (E.ext y) (by simp[L];omega)];refine hy ah.i (E.ext y) (by simp[L];omega) λbL a7 bM au=>?_;rw[aO];refine hk _ ⟨(M.trans (y.ab _)).trans a7,?_⟩;have a8:(gf x.scope (bn x.scope))[i]?=σ r:=by rw[a2];exact CM Y
  have e:((gf x.scope (bn x.scope)).take i++p9 ((bn x.scope).length-i) 0).set i r=(gf x.scope (bn x.scope)).take (i+1)++p9 ((bn x.scope).length-(i+1)) 0:=by
   have ba:((gf x.scope (bn x.scope)).take i).length=i:=by rw[n9,L];omega
   rw[T8 _ _ Ω,ba,U8,show(bn x.scope).length-i=((bn x.scope).length-(i+1))+1 by omega,List.replicate_succ,List.set_cons_zero,u7,a8,o8,Y6];rfl
  rw[e]at au;exact au
 .rintro h k ⟨M,E⟩;have s:Ext ag h:=K.put M Ω;have aw:Ext aa h:=I.trans s;refine ct Ω ?_;rw[U8,List.replicate_zero,X5,j6 Ω]at E;have bb:∀t,dl x.sizes t->bm x.sizes aQ t=jX x f.k t:=λt bc=>by rw[ae.2 t bc];exact aG t
  obtain⟨ax,bd⟩:=MC q O ae.1 bb;have be:Good (gf x.scope (bn x.scope)) x.sizes.length:=by
   rw[a.sizes,u9];exact tG a.scope.1 W
  have bg:=(pK q O);refine(Ng (B.ext aw) q.k E.ls (by rw[L];omega) λ_=>?_).mono ?_
  .rw[ax];exact bg.small
  .rintro _ aZ _ ⟨y,_,bi⟩;obtain⟨G,P,Q,rfl,ay⟩:=bi be;rw[bq,br];rw[ax,bd]at ay;exact⟨(C.trans aw).trans y,v,gs,G,P,Q,rfl,Ω,(J.ext s).ext y,ay⟩
theorem C6{P:W8}{t x f:p8}{k y g o cap:Nat}{z:x1}(h:P.underlying t=σ (.slice e))(hi:aR P e k y z)(A:z.cells.size=k)(h1:∀u∈dP z.cells (n*k),u.oneCell'=true)(a:af w g f cs)(H:o+n*k<=cs.length)(p:∀w',ai (λr=>r=g) w w'->af w' g f (over cs o (dP z.cells (n*k)))->K (.tuple #[]) w'):aD P (Z6.clear_ #[t] x #[.slice (σ ⟨g,o,ν⟩) n cap]) w K:=by
 obtain⟨i,hi,I,rfl,B⟩:=hi;have C:∀w,(zeroValue e).run P w= .ok z w:=λw=>by simp[zeroValue,typeInfo,hi,B]
 have E:(Z6.zeroCells z.cells n).toList=dP z.cells (n*k):=by
  unfold Z6.zeroCells dP;rw[A]
 have q:=run_storeCells_cells (P:=P) g o (dP z.cells (n*k)) 0 w (λj F=>by
   rw[nW]at F;rw[Nat.add_zero,a.cell (x6 (show o+j<cs.length by omega))];rfl) (λj _=>a.frozen _ _) h1
 simp only[Nat.add_zero]at q;obtain⟨G,s⟩:=nV (dP z.cells (n*k)) cs o w a;rcases Q2 n with rfl|J
 .refine .of (v:=.tuple #[]) (w':=w) (by simp[Z6.clear_,run_underlying h]) (cN.refl _) (p w (ai.refl _ _) ?_);rw[Nat.zero_mul,c8 (nW z.cells 0)];exact a
 .obtain⟨m,rfl⟩:∃m,n=m+1:=⟨n-1,Ω⟩;refine .of (v:=.tuple #[]) (w':=_) (by simp[Z6.clear_,run_underlying h,C,E,q]) (s.cw a) (p _ s.ab G)
theorem dS{α:Type}{f:α->List x1}{k:Nat}{g:Nat}{L:List α}(h:bi f k e w g v L)(p:leadsTo v r):r=g/\∃cs,af w g e cs:=by
 obtain⟨_,⟨rfl,_⟩|⟨cap,cs,rfl,q,_⟩⟩:=h.1
 .exact (e4 p).elim
 .obtain⟨a,n,c,h1,s⟩:=p;cases h1;exact⟨s.symm,cs,q⟩
theorem ND{α:Type}{f:α->List x1}{k:Nat}{g:Nat}{L:List α}(h:bi f k e w g v L)(a:L≠[]):∃cs n c,v= .slice (σ ⟨g,0,ν⟩) n c/\af w g e cs:=by
 obtain⟨_,⟨rfl,p⟩|⟨cap,cs,rfl,q,_⟩⟩:=h.1
 .exact absurd (c8 p) a
 .exact⟨cs,_,_,rfl,q⟩
theorem e8.mk{g:Nat}{L:List cv}(h:bi ez 2 cX w g v L)(a:∀x∈L,(∃e,av .i64 ah w e x.sv x.sc)/\jx x.sc):e8 w g v L:=by
 refine⟨h,λx J=>⟨(a x J).1,λr f=>?_,(a x J).2⟩⟩;obtain⟨cs,n,c,_,p⟩:=ND h (λq=>by rw[q]at J;cases J);obtain⟨⟨e,hm⟩,_⟩:=a x J;exact cc hm p Φ f
def Sem(w:x3)(k:Int)(sizes:Λ)(L:List cv):Prop:=∀x∈L,∃a e,df w x.g a e (bW sizes x.sc) k x.cs
theorem wZ{g q:Nat}{s:x1}{cs:Λ}(h:df w g q s aj k cs)(e:ai S w w')(f:∀r,S r->∃c,af w r cX c):df w' g q s aj k cs:=by
 obtain⟨⟨a6,gs,h1,x,y⟩,z⟩:=h;refine⟨⟨a6,gs,h1.ab e λU=>?_,bt x e λr p U=>?_,bt y e λr p U=>?_⟩,z⟩
 .obtain⟨c,a⟩:=f g U;unfold af at h1 a;rw[h1]at a;have:=(Obj.cells.inj (Z0 a)).2.1;exact absurd this Φ
 .obtain⟨c,a⟩:=f r U;exact cc x a Φ p rfl
 .obtain⟨c,a⟩:=f r U;exact cc y a Φ p rfl
theorem Sem.ext{L:List cv}(h:Sem w k sizes L)(J:Ext w w'):Sem w' k sizes L:=λx a=>by
 obtain⟨e,f,p⟩:=h x a;exact⟨e,f,p.ext J⟩
theorem Sem.row{L M:List cv}{g:Nat}(h:Sem w k sizes L)(a:e8 w g v M)(e:ai (λr=>leadsTo v r) w w'):Sem w' k sizes L:=λx f=>by
 obtain⟨p,q,s⟩:=h x f;exact⟨p,q,wZ s e λr y=>by obtain⟨rfl,c,z⟩:=dS a.1 y;exact⟨c,z⟩⟩
def dT(h:cv):cM:=(h.sc,h.cs)
theorem NE:am x7 vH [Δ c] w λv w'=>v= .bool (decide (0<c))/\Ext w w':=by
 refine az func199 ?_;rw[bN];exact⟨rfl,Ext.refl _⟩
theorem NF(h:aH .i64 w sv l):
  am x7 Iv [sv,.func (.func vH) #[] #[]] w λv w'=>v= .bool (l.any λc=>decide (0<c))/\Ext w w':=by
 refine az func198 ?_;refine am.mono (K:=λv w'=>Ext w w'/\∃r:Int,v=Δ r/\(0<=r↔ ∃c∈l,0<c)) ?_ ?_
 .refine az func252 ?_;rw[aW ay.u h];refine b5.range l.length (λi _ V=>Ext w V/\∀c∈l.take i,¬0<c) h.le ⟨Ext.refl _,λc a=>by simp at a⟩ ?_ ?_
  .rintro i _ V k hi ⟨J,f⟩ hk;refine bH Ω ?_;obtain⟨x,p⟩:=aI (l:=l) hi;rw[bh ay.u ao.i Ψ (h.ext J) p];show am x7 vH [Δ x] V _;refine NE.mono ?_;rintro _ aa _ ⟨rfl,q⟩;rw[al];refine⟨λe=>⟨J.trans q,i,rfl,⟨λ_=>⟨x,x5 p,e⟩,λ_=>Ω⟩⟩,λs=>?_⟩;rw[aO];refine hk _ _ ⟨J.trans q,λc a=>?_⟩;rw[u7,p]at a;rcases o5.1 a with a|a
   .exact f c a
   .simp at a;subst a;exact s
  .rintro _ V k ⟨J,f⟩;rw[o7]at f;rw[aS,al];exact⟨λh=>Ω,λ_=>⟨J,-1,rfl,⟨λh=>Ω,λ⟨c,a,e⟩=>absurd e (f c a)⟩⟩⟩
 .rintro _ V _ ⟨J,r,rfl,y⟩;rw[cn];refine⟨?_,J⟩;congr 1;rw[V9,decide_eq_true_eq,List.any_eq_true,y];exact⟨λ⟨c,a,e⟩=>⟨c,a,decide_eq_true e⟩,λ⟨c,a,e⟩=>⟨c,a,of_decide_eq_true e⟩⟩
theorem C7{h q:Nat}{x:cv}{r:x1}(J:iT w h x)(s:df w x.g q r aj k x.cs):am x7 qw [j3 x] w λv w'=>v= .bool (!ft (dT x))/\Ext w w':=by
 obtain⟨⟨B,hm⟩,_⟩:=J;refine az func197 ?_;refine bf λap V C f a=>?_;have a:af V ap cX [x.sv,Γ x.g]:=by
  obtain⟨_,_,_,e⟩:=cU hm.ls;simp only[j3,ez,e]at a ⊢;exact a
 rw[aM cX.p 1 a rfl];refine(mY (s.ext f)).mono ?_;rintro E aa _ ⟨y,G,H,z⟩;refine(NF z.ls).mono ?_;rintro _ I _ ⟨rfl,A⟩;rw[bE];exact⟨rfl,(f.trans y).trans A⟩
theorem NG{g:Nat}{L:List cv}(h:e8 w g v L)(U:Sem w k sizes L):
  am x7 zR [v,.func (.func qw) #[] #[]] w λr w'=>Ext w w'/\((r=Δ (-1)/\∀x∈L,ft (dT x)=true)\/∃i:Nat,r=Δ (i:Int)/\i<L.length/\(∀x∈L.take i,ft (dT x)=true)/\∀x,L[i]?=σ x->ft (dT x)=false):=by
 refine az func193 ?_;rw[ea gq.u h.1];refine b5.range L.length (λi _ V=>Ext w V/\∀x∈L.take i,ft (dT x)=true) h.1.le ⟨Ext.refl _,λc a=>by simp at a⟩ ?_ ?_
 .rintro i _ V k hi ⟨J,e⟩ hk;refine bH Ω ?_;obtain⟨x,f⟩:=aI (l:=L) hi;rw[tQ rfl (h.ext J) f];show am x7 qw [j3 x] V _;obtain⟨B,C,s⟩:=U x (x5 f);refine(C7 ((h.ext J).at f) (s.ext J)).mono ?_;rintro _ aa _ ⟨rfl,p⟩;rw[bZ];refine⟨λz=>⟨J.trans p,.inr ⟨i,rfl,hi,e,λy q=>by rw[f]at q;cases q;simpa using z⟩⟩,λA=>?_⟩;rw[aO];refine hk _ _ ⟨J.trans p,λc a=>?_⟩;rw[u7,f]at a;rcases o5.1 a with a|a
  .exact e c a
  .simp at a;subst a;simpa using A
 .rintro _ V k ⟨J,e⟩;rw[o7]at e;rw[aS,al];exact⟨λh=>Ω,λ_=>⟨J,.inl ⟨rfl,e⟩⟩⟩
def gg(x:cv):Bool:=ft (dT x)
theorem w1{L:List cv}{x:cv}(J:L[j]?=σ x):(L.take (j+1)).filter gg=if gg x=true then(L.take j).filter gg++[x]else(L.take j).filter gg:=by
 rw[u7,J,o8,List.filter_append];by_cases h:gg x=true
 .rw[if_pos h];simp[h]
 .rw[if_neg h];simp[h]
theorem w2{z:Array x1}(a:0<z.size)(h:∀u∈z.toList,u.oneCell'=true):∀u∈dP z n,u.oneCell'=true:=λu hu=>by
 unfold dP at hu;rw[Array.toList_map,j5]at hu;obtain⟨i,_,rfl⟩:=hu;have e:i % z.size<z.size:=Nat.mod_lt _ a;rw[getElem!_pos z (i % z.size) e];exact h _ Ξ
theorem NH{g:Nat}{L:List cv}(h:e8 w g v L)(U:Sem w k sizes L)(ba:L.length<=100000):
  am x7 Iw [v,.func (.func qw) #[] #[]] w λf w'=>ai (λr=>leadsTo v r) w w'/\e8 w' g f (L.filter gg)/\∀r,leadsTo f r->leadsTo v r:=by
 refine az func200 ?_;refine(NG h U).mono ?_;rintro r V _ ⟨E,q⟩;rcases q with⟨rfl,N⟩|⟨O,rfl,ax,N,ay⟩
 .rw[be,al];refine⟨λ_=>⟨E.ab _,?_,λr q=>q⟩,λh=>absurd rfl h⟩;rw[List.filter_eq_self.2 (show∀x∈L,gg x=true from N)];exact h.ext E
 rw[be,al];refine⟨λh=>Ω,λ_=>?_⟩;rw[aO,wrap_i64 Ω Ω];obtain⟨P,Z⟩:=aI (l:=L) ax;refine⟨λQ R aa=>∃(i j:Nat)(M:List cv),Q=Δ (i:Int)/\R=Δ (j:Int)/\i<j/\j<=L.length/\M.length=L.length/\M.take i=(L.take j).filter gg/\M.drop j=L.drop j/\(∀x∈M,x∈L)/\e8 aa g v M/\ai (λr=>leadsTo v r) w aa,
  λ_ R _=>L.length-(bU R).toNat,⟨O,O+1,L,rfl,by congr 1,Ω,Ω,rfl,?_,rfl,λx J=>J,h.ext E,E.ab _⟩,?_⟩
 .have aA:¬gg P=true:=by rw[show gg P=false from ay P Z];simp
  rw[w1 Z,if_neg aA,List.filter_eq_self.2 (show∀x∈L.take O,gg x=true from N)]
 rintro _ _ aa ⟨i,j,M,rfl,rfl,bb,bc,ae,z,af,ag,e,G⟩;have aC:Sem aa k sizes L:=U.row h G;rw[ea gq.u e.1,aS,al];refine⟨λS=>?_,λbd=>?_⟩
 .have S:j<L.length:=Ω
  obtain⟨x,J⟩:=aI (l:=L) S;have H:M[j]?=σ x:=by
   have h1:(M.drop j)[0]?=(L.drop j)[0]?:=by rw[af]
   rw[List.getElem?_drop,List.getElem?_drop,Nat.add_zero]at h1;rw[h1,J]
  have ah:M.drop (j+1)=L.drop (j+1):=by
   have h1:(M.drop j).drop 1=(L.drop j).drop 1:=by rw[af]
   rw[List.drop_drop,List.drop_drop]at h1;exact h1
  refine aV (λQ I=>∃(B:Nat)(s:List cv),Q=Δ (B:Int)/\B<j+1/\s.length=L.length/\s.take B=(L.take (j+1)).filter gg/\s.drop (j+1)=L.drop (j+1)/\(∀x∈s,x∈L)/\e8 I g v s/\ai (λr=>leadsTo v r) w I) ?_ ?_
  .rintro _ I ⟨B,s,rfl,h1,W,aE,aF,aG,aH,aJ⟩;rw[aO,wrap_i64 Ω Ω];exact⟨⟨B,j+1,s,rfl,rfl,h1,S,W,aE,aF,aG,aH,aJ⟩,by simp only[bU];omega⟩
  .intro aB aj;rw[tQ rfl e H];refine bo cX.i λap I bf aK aL=>?_;refine cb (vs:=ez x) cX.i rfl rfl (e.at H).one aL λak aM bg an=>?_;have X:Ext aa ak:=aK.put aM Ω;rw[bK cX.p cX.i rfl an.range];show am x7 qw [j3 x] ak _;obtain⟨bh,bi,aN⟩:=aC x (x5 J);refine(C7 ((e.ext X).at H) (aN.ext X)).mono ?_;rintro _ bj _ ⟨rfl,ao⟩;have C:=X.trans ao;rw[bE,Bool.not_not,bZ];refine⟨λhk=>?_,λaP=>?_⟩
   .rw[bK cX.p cX.i rfl (an.ext ao).range];refine Nv rfl (e.ext C) Ω ((e.ext C).at H) λbk aQ aR=>?_;rw[aO,wrap_i64 Ω Ω];refine aj _ _ ⟨i+1,M.set i x,rfl,Ω,by simp[ae],?_,?_,λy A=>?_,aR,(G.trans (C.ab _)).trans aQ⟩
    .have Y:gg x=true:=hk;rw[w1 J,if_pos Y,u7,b9 Ω,o8,List.take_set_of_le (o4 _),z]
    .rw[List.drop_set_of_lt Ω,ah]
    .rcases W5 A with A|rfl
     .exact ag y A
     .exact x5 J
   .have Y:¬gg x=true:=by rw[show gg x=false from aP];simp
    exact aj _ _ ⟨i,M,rfl,Ω,ae,by rw[w1 J,if_neg Y,z],ah,ag,e.ext C,G.trans (C.ab _)⟩
 .have aT:j=L.length:=Ω
  subst aT;rw[o7]at z;obtain⟨⟨bl,aU⟩,aq⟩:=e.1;rcases aU with⟨_,bm⟩|⟨cap,cs,ad,aW,bn,aX,aY,aZ⟩
  .omega
  subst ad;have a1:(ac x7 (U3 gq (.slice (σ ⟨g,0,ν⟩) M.length cap) (σ (Δ (i:Int))) ν ν) aa λa2=>
    aD x7 (Z6.clear_ #[gq] JA #[a2]) aa λu K=>
    ac x7 (U3 gq (.slice (σ ⟨g,0,ν⟩) M.length cap) ν (σ (Δ (i:Int))) ν) K λa6=>
    (λf w'=>ai (λr=>leadsTo (.slice (σ ⟨g,0,ν⟩) M.length cap) r) w w'/\e8 w' g f (L.filter gg)/\∀r,leadsTo f r->leadsTo (.slice (σ ⟨g,0,ν⟩) M.length cap) r) a6 K):=by
   rw[gW (l:=i) (h:=M.length) (m:=cap) gq.u cX.i (nT i _ rfl) jl fc Ω Ω (o4 _),if_neg Ω];simp only[Z7,T3];refine C6 (g:=g) (o:=0+i*2) (n:=M.length-i) (k:=2) gq.u cX.i rfl ?_ aW Ω λK au a7=>?_
   .exact w2 Φ Φ
   rw[gW (l:=0) (h:=i) (m:=cap) gq.u cX.i jk (nU i _ rfl) fc Ω Ω (o4 _),if_neg Ω];simp only[Z7,T3,Nat.zero_mul,X8,Nat.sub_zero];have a8:(dP (x1.agg #[.slice ν 0 0,.pointer ν]).cells ((M.length-i)*2)).length=(M.length-i)*2:=nW _ _;have bp:(M.flatMap ez).length=M.length*2:=hX aq;have av:(L.filter gg).length=i:=by rw[<-z,n9];omega
   have key:(λf w'=>ai (λr=>leadsTo (.slice (σ ⟨g,0,ν⟩) M.length cap) r) w w'/\e8 w' g f (L.filter gg)/\∀r,leadsTo f r->leadsTo (.slice (σ ⟨g,0,ν⟩) M.length cap) r) (.slice (σ ⟨g,0,ν⟩) (L.filter gg).length cap) K:=by
    refine⟨G.trans (au.mono λr _ he=>⟨_,_,_,rfl,he.symm⟩),⟨⟨⟨hX (k:=2) (λy _=>rfl),.inr ⟨cap,_,rfl,a7,Ω,aX,by rw[ld,aY],?_⟩⟩,λy _=>rfl⟩,λy A=>?_⟩,λr q=>?_⟩
    .rw[av,<-z,<-pD i aq,<-aZ,List.take_take,mN (by rw[a8];omega),Y6,List.take_append_of_le_length (by rw[n9];omega),List.take_take];congr 1;omega
    .have aw:y∈M:=by rw[<-z]at A;exact S0 A
     exact(e.2 y aw).ab au λr q he=>(e.2 y aw).2.1 r q he
    .obtain⟨a,n,c,h1,W⟩:=q;cases h1;exact⟨_,_,_,rfl,W⟩
   rw[av]at key;exact key
  exact a1
theorem re{k:o6}{g cap:Nat}{b:Option Addr}(h:av k e w g (.slice b n cap) l)(s:0<l.length):
  b=σ ⟨g,0,ν⟩/\n=l.length/\∃cs,af w g e cs/\n<=cap/\cap<=maxLen/\cs.length=cap/\cs.take n=ints k l:=by
 obtain⟨_,⟨_,h1⟩|⟨x,cs,h1,a,f,p,q,r⟩⟩:=h
 .omega
 .cases h1;exact⟨rfl,rfl,cs,a,f,p,by simpa using q,by simpa using r⟩
theorem NI{g cap:Nat}(h:av .i64 ah w g (.slice (σ ⟨g,0,ν⟩) n cap) l)(p:j<l.length):aH .i64 w (.slice (σ ⟨g,j,ν⟩) (n-j) (cap-j)) (l.drop j):=by
 obtain⟨_,q,cs,a,h1,r,s,f⟩:=re h Ω;have:=J8 (o:=j) (k:=n-j) (c:=cap-j) a Ω Ω Ω;refine aH.of (n:=n-j) ?_;have e:(cs.drop j).take (n-j)=ints .i64 (l.drop j):=by
  rw[<-List.drop_take,f,ints,ints,List.map_drop]
 rw[e]at this;exact this
theorem NJ{g:Nat}(h:av .i64 ah w g sv l)(aT:l.length<=1000):
  am x7 I1 [sv] w λv w'=>ai (λr=>r=g) w w'/\av .i64 ah w' g v (dedup l l.length):=by
 refine az func247 ?_;rw[aW an.u h.ls];simp only[aS,al];refine⟨λaU=>⟨ai.refl _ _,?_⟩,λaX=>?_⟩
 .rw[tM (o4 _) (λi hi U=>Ω),o7];exact h
 obtain⟨n,s⟩:∃n,l.length=n:=⟨_,rfl⟩;obtain⟨cap,rfl⟩:∃cap,sv= .slice (σ ⟨g,0,ν⟩) n cap:=by
  obtain⟨_,⟨_,h1⟩|⟨ap,cs,h1,_⟩⟩:=id h
  .omega
  .exact⟨ap,by rw[h1,s]⟩
 obtain⟨_,_,_,_,aY,aq,_⟩:=re h Ω;refine⟨λ_ t V=>∃j:Nat,t=Δ (j:Int)/\1<=j/\j<=n/\Ext w V/\∀i,i<j->0<i->l[i]? ≠l[i-1]?,λ_ t _=>n-(bU t).toNat,⟨1,rfl,Ω,Ω,Ext.refl _,λi h1 W=>Ω⟩,?_⟩;rintro aZ _ V ⟨j,rfl,a1,X,A,I⟩;rw[aW an.u (h.ls.ext A)];simp only[aS,al,er];refine⟨λau aa aw _ _=>?_,λa2=>⟨A.ab _,?_⟩⟩
 .have au:j<n:=Ω
  have B:=A.trans aw;have Y:=h.ls.ext B;obtain⟨a,J⟩:=aI (l:=l) (i:=j) Ω;obtain⟨b,K⟩:=aI (l:=l) (i:=j-1) Ω;rw[bh an.u ah.i Ψ Y J];simp only[dO];rw[wrap_i64 Ω Ω,fN (i:=j-1) Ω an.u ah.i Ψ Y K];simp only[be,al,aO];refine⟨λL=>?_,λL=>?_⟩
  .subst L;rw[gW an.u ah.i (l:=j) (h:=n) (m:=cap) pf jl fc Ω Ω Ω,if_neg Ω];have ax:V7 (λx:Addr=>x.add (j*1)) (σ ⟨g,0,ν⟩)=σ ⟨g,j,ν⟩:=by simp[T3]
   rw[ax];have Z:dedup l (j+1)=l.take j:=by rw[wW Ω (by rw[J,K]),tM Ω I]
   refine⟨λM t N=>∃(q e:Nat)(f:Λ),M=Δ (q:Int)/\t=Δ (e:Int)/\1<=e/\j+e<=n/\ai (λr=>r=g) w N/\av .i64 ah N g (.slice (σ ⟨g,0,ν⟩) n cap) f/\f.length=n/\
     q=(dedup l (j+e)).length/\f.take q=dedup l (j+e)/\q<=j+e-1/\∀i,j+e-1<=i->f[i]?=l[i]?,λ_ t _=>n-(bU t).toNat,
    ⟨j,1,l,rfl,rfl,Ω,Ω,B.ab _,h.ext B,s,by rw[Z,n9];omega,by rw[Z],Ω,λi _=>rfl⟩,?_⟩
   rintro _ _ N ⟨q,e,f,rfl,rfl,a6,a7,O,ac,ad,ae,C,ay,E⟩;rw[hr an.u];simp only[aS,al,er];refine⟨λaf=>?_,λaf=>?_⟩
   .have af:j+e<n:=Ω
    refine aV (λM P=>∃(q:Nat)(f:Λ),M=Δ (q:Int)/\ai (λr=>r=g) w P/\av .i64 ah P g (.slice (σ ⟨g,0,ν⟩) n cap) f/\f.length=n/\
     q=(dedup l (j+(e+1))).length/\f.take q=dedup l (j+(e+1))/\q<=j+(e+1)-1/\∀i,j+(e+1)-1<=i->f[i]?=l[i]?) ?_ ?_
    .rintro _ P ⟨q,f,rfl,h1,W,aA,aC,aD,aE,aF⟩;simp only[aO];rw[wrap_i64 Ω Ω];exact⟨⟨q,e+1,f,rfl,rfl,Ω,Ω,h1,W,aA,aC,aD,aE,aF⟩,by simp only[bU];omega⟩
    .intro aB ag a8 Q _ _;have G:=ac.ext Q;have R:=NI (j:=j) G Ω;obtain⟨y,H⟩:=aI (l:=l) (i:=j+e) Ω;obtain⟨z,S⟩:=aI (l:=l) (i:=j+e-1) Ω;have aj:(f.drop j)[e]?=σ y:=by rw[List.getElem?_drop,E _ Ω,H]
     have aG:(f.drop j)[e-1]?=σ z:=by rw[List.getElem?_drop,E _ Ω,<-S];congr 1;omega
     rw[bh an.u ah.i Ψ R aj];simp only[dO];rw[wrap_i64 Ω Ω,fN (i:=e-1) Ω an.u ah.i Ψ R aG];simp only[bD,al,aO];refine⟨λp=>?_,λp=>?_⟩
     .rw[bh an.u ah.i Ψ R aj,hx rfl an.u ah.i G Ω];refine hy ah.i G Ω λba aH bb aJ=>?_;rw[wrap_i64 Ω Ω];have ak:dedup l (j+e+1)=dedup l (j+e)++[y]:=wX H (λ_=>by rw[H,S];simpa using p);refine ag _ _ ⟨q+1,_,rfl,(O.trans (Q.ab _)).trans aH,aJ,by simpa using ad,?_,?_,Ω,λi hi=>?_⟩
      .rw[<-R5,ak];simp;omega
      .rw[<-R5,ak,u7,b9 Ω,List.take_set_of_le (o4 _),C];rfl
      .rw[Y4 Ω];exact E i Ω
     .have p:y=z:=Y0.1 p;have ao:dedup l (j+e+1)=dedup l (j+e):=wW Ω (by rw[H,S,p]);exact ag _ _ ⟨q,f,rfl,O.trans (Q.ab _),G,ad,by rw[<-R5,ao];exact ae,by rw[<-R5,ao];exact C,Ω,λi hi=>E i Ω⟩
   .have hk:j+e=n:=Ω
    rw[hk]at ae C ay;obtain⟨_,_,cs,aK,_,_,bc,aL⟩:=re ac Ω;simp only[maxLen]at aq;rw[gW an.u ah.i (l:=q) (h:=n) (m:=cap) pf jl fc Ω Ω Ω,if_neg Ω];have aM:V7 (λx:Addr=>x.add (q*1)) (σ ⟨g,0,ν⟩)=σ ⟨g,q,ν⟩:=by simp[T3]
    rw[aM];refine AM an.u ah.i rfl rfl aK Ω Ω λbd aN bf aP=>?_;rw[gW an.u ah.i (l:=0) (h:=q) (m:=cap) jk pg fc Ω Ω Ω,if_neg Ω];have aQ:V7 (λx:Addr=>x.add (0*1)) (σ ⟨g,0,ν⟩)=σ ⟨g,0,ν⟩:=by simp[T3]
    rw[aQ,s];refine⟨O.trans aN,?_⟩;rw[<-C];refine av.of (n:=q) ⟨Θ,.inr ⟨cap,_,Ξ,aP,Ω,by simp only[maxLen];omega,by rw[ld];omega,?_⟩⟩;rw[U7];apply Y5;intro i;by_cases hi:i<q
    .rw[Z9 hi,mM _ _ _ Θ,if_neg Ω,ints,x8,Z9 hi];have:(cs.take n)[i]?=(ints .i64 f)[i]?:=by rw[aL]
     rw[Z9 Ω,ints,x8]at this;exact this
    .rw[Z4 Θ,Z4 Θ]
  .rw[wrap_i64 Ω Ω];refine⟨⟨j+1,rfl,Ω,Ω,B,λi hi U=>?_⟩,by simp only[bU];omega⟩;by_cases aR:i=j
   .subst aR;rw[J,K];intro he;exact L (Z0 he)
   .exact I i Ω U
 .have X:j=n:=Ω
  rw[tM (o4 _) (by rw[s,<-X];exact I),o7];exact h.ext A
theorem NK(y:n<=1000000):am x7 Jl [.slice ν 0 0,Δ (n:Int)] w λv w'=>Ext w w'/\∃g,w.heap.size<=g/\av .i64 ah w' g v []:=by
 refine az func280 ?_;refine c5 (λV=>w=V) ?_ ?_
 .rintro _ rfl;refine aV (λv w'=>Ext w w'/\∃g,w.heap.size<=g/\av .i64 ah w' g v []) (λ_ _ h=>h) λaB a=>?_;rw[AL an.u,hr an.u];simp only[dO];have e:X9.wrap (((0:Nat):Int)-((0:Nat):Int))=0:=Φ
  have f:X9.wrap ((n:Int)-0)=n:=by rw[wrap_i64 Ω Ω];omega
  rw[e,f];simp only[bN,al];refine⟨λh=>?_,λh=>a _ _ ⟨Ext.refl _,w.heap.size,o4 _,av.nil _ _ _ _⟩⟩;rw[AL an.u,gW an.u ah.i (l:=0) (h:=0) (m:=0) jk pg fc Ω Ω Ω,if_pos rfl];refine J7 (k:=n) (xs:=[]) rfl an.u ah.u ah.i rfl ⟨rfl,0,0,ν,0,rfl,o4 _,X6 _,λh=>absurd h (Nat.lt_irrefl _),λj v h=>by simp at h⟩ Ω Ω Ω Ω λv g w' z J hm=>?_;obtain⟨_,⟨_,A⟩|⟨cap,cs,rfl,p,h1,q,r,B⟩⟩:=hm
  .omega
  rw[hr an.u,gW an.u ah.i (l:=0) (h:=0) (m:=cap) jk pg fc Ω Ω Ω,if_neg Ω];have s:V7 (λx:Addr=>x.add (0*1)) (σ ⟨g,0,ν⟩)=σ ⟨g,0,ν⟩:=by simp[T3]
  rw[s];refine a _ _ ⟨J,g,Ω,av.of (n:=0) ⟨Ξ,.inr ⟨cap,cs,Ξ,p,Ω,q,r,Ξ⟩⟩⟩
 .intro aB a;simp only[aS,al];exact⟨λh=>Ω,λ_=>a _ rfl⟩
theorem NL{b:Λ}(M:aH .i64 w bg a)(N:aH .i64 w bv b)(R:a.length<=1000)(S:b.length<=1000)(U:∀v w' g,Ext w w'->w.heap.size<=g->av .i64 ah w' g v (a++b)->K v w'):
  aD x7 (Y3 dx 2 #[(0,bg),(1,bv)]) w λt V=>am x7 I2 [t] V K:=by
 obtain⟨⟨C,E,G,W⟩,⟨H,I,J,X⟩⟩:(∃x n c,bg= .slice x n c)/\(∃x n c,bv= .slice x n c):=by
  obtain⟨_,_,_,x,c,h1,_⟩:=id M;obtain⟨_,_,_,y,d,Y,_⟩:=id N;exact⟨⟨x,_,c,h1⟩,⟨y,_,d,Y⟩⟩
 subst W;subst X;refine kw dx.u an.i Ω (cs:=#[.slice C E G,.slice H I J]) Ψ λg V aA s z=>?_;have z:af V g an [.slice C E G,.slice H I J]:=z;have key:∀i:Nat,i<2->∃v l,[x1.slice C E G,.slice H I J][i]?=σ v/\[a,b][i]?=σ l/\aH .i64 w v l/\l.length<=1000:=λi hi=>by
  match i,hi with
  |0,_=>exact⟨_,_,rfl,rfl,M,R⟩
  |1,_=>exact⟨_,_,rfl,rfl,N,S⟩
 refine az func248 ?_;rw[hr dx.u];refine b5.range 2 (λi size aa=>Ext V aa/\∃n:Nat,n<=1000*i/\size=Δ (n:Int)) Ω ⟨Ext.refl _,0,Ω,rfl⟩ ?_ ?_
 .rintro i _ aa Z hi ⟨f,n,ab,rfl⟩ ac;simp only[aS,al];refine⟨λ_=>?_,λh=>Ω⟩;obtain⟨v,l,ad,O,L,ae⟩:=key i hi;refine aV (λv P=>aa=P/\v=Δ ((n+l.length:Nat):Int)) ?_ ?_
  .rintro _ _ ⟨rfl,rfl⟩;simp only[aO];exact ac _ _ ⟨f,_,Ω,rfl⟩
  .intro aB ag;rw[fb (b:=g) (o:=0) dx.u an.i hi (λ_=>rfl),aw Ψ ((z.ext f).cell (o:=0+i*1) (by rw[<-ad];congr 1;omega)),aW an.u (L.ext (s.trans f))];simp only[aO,aS,al];rw[wrap_i64 Ω Ω];exact⟨λh=>Ω,λ_=>ag _ _ ⟨rfl,by congr 1⟩⟩
 .rintro _ aa Z ⟨f,n,ab,rfl⟩;simp only[aS,al];refine⟨λh=>Ω,λ_=>?_⟩;refine(NK (n:=n) Ω).mono ?_;rintro v0 P _ ⟨Q,ai,aC,aj⟩;have s1:=s.size;have aE:=f.size;have aF:=Q.size;have ak:=f.trans Q;rw[hr dx.u];refine b5.range 2 (λi v A=>Ext V A/\∃q,V.heap.size<=q/\av .i64 ah A q v (([a,b].take i).flatten)/\(([a,b].take i).flatten).length<=1000*i) Ω ⟨ak,ai,Ω,aj,Ξ⟩ ?_ ?_
  .rintro i v4 A ao hi ⟨p,q,ap,B,aG⟩ aq;simp only[aS,al];refine⟨λ_=>?_,λh=>Ω⟩;obtain⟨v,l,ad,O,L,ae⟩:=key i hi;rw[fb (b:=g) (o:=0) dx.u an.i hi (λ_=>rfl),aw Ψ ((z.ext p).cell (o:=0+i*1) (by rw[<-ad];congr 1;omega))];refine jn an.u ah.i rfl B (L.ext (s.trans p)) Ω Ω λaI au aJ aK ax ay=>?_;simp only[aO];have aL:=p.size;have e:([a,b].take (i+1)).flatten=([a,b].take i).flatten++l:=by rw[u7,O];simp
   refine aq _ _ ⟨p.then ay (by rintro r aM rfl;omega),au,Ω,by rw[e];exact ax,by rw[e,r8];omega⟩
  .rintro v4 A ao ⟨p,q,ap,B,_⟩;simp only[aS,al];refine⟨λh=>Ω,λ_=>U _ _ q (s.trans p) Ω ?_⟩;have e:([a,b].take 2).flatten=a++b:=Ξ
   rw[e]at B;exact B
def pO(s1 a f e vars:Λ):Prop:=∀p∈vars,p∈a->p∈e->hW s1 (gM a p)=hW f (gM e p)
def ds(s1 a e f vars:Λ):Λ:=vars.map λp=>max (hW s1 (gM a p)) (hW e (gM f p))
theorem C8(s1 a e f vars:Λ):(ds s1 a e f vars).length=vars.length:=by simp[ds]
theorem tS{x:Int}:0<=gM l x↔x∈l:=by
 unfold gM;by_cases h:x∈l
 .rw[if_pos h];exact⟨λ_=>h,λ_=>Ω⟩
 .rw[if_neg h];exact⟨λh=>Ω,λa=>absurd a h⟩
theorem NM{g ay W aA:Nat}{E X:x1}{s1 f vars e:Λ}{aC:Int}{aD aE:Λ}(h1:df w g ay sv s1 k aD)(Y:df w W aA E f aC aE)(ad:aH .i64 w X vars)(aF:aH .i64 w bg a)(G:aH .i64 w bv e)(aG:gL a)(aJ:gL e)(bc:vars.length<=1000):
  am x7 I3 [X,Γ g,bg,Γ W,bv] w λv w'=>Ext w w'/\
   (¬pO s1 a f e vars->v= .tuple #[.slice ν 0 0,.bool false])/\
   (pO s1 a f e vars->∃x ap,v= .tuple #[x,.bool true]/\w.heap.size<=ap/\av .i64 ah w' ap x (ds s1 a f e vars)):=by
 have sub:∀{w:x3}{g:Nat}{sv:x1}{k:Int}{a6:x1},af w g cY [sv,Δ k,a6]->w.rangeAt g (0+0) [sv]:=λG=>n3 G (by
  intro j v ad
  match j,ad with
  |0,ad=>exact ad)
 refine az func249 ?_;rw[aW an.u ad];refine jS an.u ah.i Ω Ω λgz V bd Z aK=>?_;have aL:av .i64 ah V gz (.slice (σ ⟨gz,0,ν⟩) vars.length vars.length) (p9 vars.length 0):=av.of (n:=vars.length) (bX.full aK Ξ (by simp[maxLen];omega));generalize (x1.slice (σ ⟨gz,0,ν⟩) vars.length vars.length)=aM at*;rw[aW an.u (ad.ext Z)];have H:=C8 s1 a f e vars;refine nE.range vars.length (λi _ _ aa=>Ext w aa/\av .i64 ah aa gz aM (upto (ds s1 a f e vars) 0 i)/\∀(j:Nat)(p:Int),j<i->vars[j]?=σ p->p∈a->p∈e->hW s1 (gM a p)=hW f (gM e p)) Ω
  ⟨Z,by rw[qL,H];exact aL,λj p A=>Ω⟩ ?_ ?_
 .rintro i _ _ aa aN hi ⟨q,hm,I⟩ aP;simp only[aS,al];refine⟨λ_=>?_,λh=>Ω⟩;obtain⟨p,s⟩:=aI (l:=vars) hi;rw[bh an.u ah.i Ψ (ad.ext q) s];refine(tN (aF.ext q) aG).mono ?_;rintro _ be _ ⟨rfl,J⟩;refine(tN (G.ext (q.trans J)) aJ).mono ?_;rintro _ aQ _ ⟨rfl,ab⟩;have ac:=(q.trans J).trans ab;refine aV (λv ae=>Ext aQ ae/\∃c,v= .bool c/\(c=true↔p∈a/\p∈e/\hW s1 (gM a p)≠hW f (gM e p))) ?_ ?_
  .rintro _ ae ⟨ai,c,rfl,aj⟩;have ak:=ac.trans ai;rw[bZ];refine⟨λaR=>⟨ak,λ_=>by first|rfl|trivial,λA=>?_⟩,λag=>?_⟩
   .obtain⟨y,z,aT⟩:=aj.1 aR;exact absurd (A p (x5 s) y z) aT
   .simp only[er];intro bf ao _ _;have K:=ak.trans ao;obtain⟨⟨a6,gs,L,M,_⟩,_⟩:=h1.ext K;obtain⟨⟨aX,aY,N,O,_⟩,_⟩:=Y.ext K;rw[bV,aU cY.p rfl,bK (cs:=[sv]) bz.p bz.i rfl (sub L),bV,aU cY.p rfl,bK (cs:=[E]) bz.p bz.i rfl (sub N)];refine(qU M.ls).mono ?_;rintro _ bi _ ⟨rfl,B⟩;refine⟨.inl B,?_⟩;refine(qU (O.ls.ext B)).mono ?_;rintro _ bj _ ⟨rfl,aq⟩;have aZ:=(K.trans B).trans aq;have au:=hm.ext ((((J.trans ab).trans ai).trans ao).trans (B.trans aq));have bk:(upto (ds s1 a f e vars) 0 i).length=vars.length:=by rw[qK,H]
    rw[vQ,hx rfl an.u ah.i au Ω];refine hy ah.i au Ω λbl a1 _ aw=>?_;simp only[aO];have a2:(ds s1 a f e vars)[i]?=σ (max (hW s1 (gM a p)) (hW f (gM e p))):=by
     unfold ds;rw[x8,s];rfl
    rw[qN a2]at aw;refine aP _ _ _ ⟨aZ.then a1 (by rintro r bm rfl;omega),aw,λj a7 A P y z=>?_⟩;by_cases a8:j=i
    .subst a8;rw[s]at P;cases P;refine Decidable.byContradiction λba=>?_;have:=aj.2 ⟨y,z,ba⟩;rw[ag]at this;cases this
    .exact I j a7 Ω P y z
  .intro aB Q;simp only[er,cn,al];intro bn C _ _;refine⟨λR=>⟨λS=>?_,λS=>⟨.inl (Ext.refl _),Q _ _ ⟨C,false,rfl,⟨(λh=>by cases h),λh=>absurd (tS.2 h.2.1) S⟩⟩⟩⟩,λR=>⟨.inl (Ext.refl _),Q _ _ ⟨C,false,rfl,⟨(λh=>by cases h),λh=>absurd (tS.2 h.1) R⟩⟩⟩⟩;have ax:=ac.trans C;obtain⟨⟨a6,gs,L,M,_⟩,_⟩:=h1.ext ax;obtain⟨⟨aX,aY,N,O,_⟩,_⟩:=Y.ext ax;rw[bV,aU cY.p rfl,bK (cs:=[sv]) bz.p bz.i rfl (sub L),bV,aU cY.p rfl,bK (cs:=[E]) bz.p bz.i rfl (sub N)];refine(qU M.ls).mono ?_;rintro _ bo _ ⟨rfl,U⟩;refine⟨.inl U,?_⟩;refine(qU (O.ls.ext U)).mono ?_;rintro _ bp _ ⟨rfl,bb⟩;simp only[bD];refine Q _ _ ⟨(C.trans U).trans bb,_,rfl,?_⟩;rw[decide_eq_true_iff];exact⟨λh=>⟨tS.1 R,tS.1 S,h⟩,λh=>h.2.2⟩
 .rintro _ _ aa aN ⟨q,hm,I⟩;simp only[aS,al];refine⟨λh=>Ω,λ_=>?_⟩;have A:pO s1 a f e vars:=λp s y z=>by
   obtain⟨i,hi,he⟩:=List.getElem_of_mem s;exact I i p hi (by rw[x6 hi,he]) y z
  rw[<-H,qM]at hm;exact⟨q,λh=>absurd A h,λ_=>⟨_,gz,rfl,Ω,hm⟩⟩
def w3(a e vars:Λ):Prop:=gL vars/\∀x,x∈vars↔x∈a\/x∈e
def om(s1 h a e p f vars:Λ)(k:Int):Λ:=
 (X3 (aP (ds s1 a e f vars)).toNat).map λ(q:Nat)=>min (bm s1 h (e7 (cQ (ds s1 a e f vars) q) vars a)+bm e p (e7 (cQ (ds s1 a e f vars) q) vars f)) k
theorem C9(s1 h a e p f vars:Λ)(k:Int):(om s1 h a e p f vars k).length=(aP (ds s1 a e f vars)).toNat:=by simp[om]
theorem tT{s cs:Λ}(hk:right k)(h:∀x∈cs,cu x k):cu (bm s cs t) k:=by
 have a:cu 0 k:=⟨hk,Int.le_refl _,by have:=hk.1;omega⟩;unfold bm;split
 .rename_i n _;rw[u4];cases e:cs[n.toNat]? with
  |none=>exact a
  |some x=>exact h x (x5 e)
 .exact a
def Fits(s l:Λ):Prop:=l.length=s.length/\ra l
def rf(e:Int):x1:=.tuple #[.pointer ν,.slice ν 0 0,Δ e]
def Da(w:x3)(s1 r a f s e:Λ)(k h:Int)(v:x1)(w':x3):Prop:=
 Ext w w'/\(¬(Fits s1 a/\Fits f e)->v=rf 1)/\
  (Fits s1 a/\Fits f e->∃vars,w3 a e vars/\(¬pO s1 a f e vars->v=rf 1)/\(pO s1 a f e vars->(k≠h->v=rf 3)/\
   (k=h->¬b3 (ds s1 a f e vars)->v=rf 1)/\(k=h->b3 (ds s1 a f e vars)->4096<aP (ds s1 a f e vars)->v=rf 5)/\
   (k=h->b3 (ds s1 a f e vars)->aP (ds s1 a f e vars)<=4096->∃p x y q,v= .tuple #[Γ p,q,Δ 0]/\
    df w' p x y (ds s1 a f e vars) k (om s1 r a f s e vars k)/\aH .i64 w' q vars)))
theorem NN{g bN ga bO:Nat}{bP:x1}{s1 z f y:Λ}{aT:Int}{E G:Λ}(h1:df w g bN sv s1 k E)(ax:df w ga bO bP z aT G)(az:aH .i64 w bg f)(P:aH .i64 w bv y)(hk:right k)(cz:∀x∈E,cu x k)(cA:∀x∈G,cu x aT):
  am x7 Iu [Γ g,bg,Γ ga,bv] w (Da w s1 E f z G y k aT):=by
 have cB:=az.cells;have cC:=P.cells;have cD:=h1.2.2.1;have cE:=ax.2.2.1;have sub:∀{w:x3}{g:Nat}{sv:x1}{k:Int}{a6:x1},af w g cY [sv,Δ k,a6]->w.rangeAt g (0+0) [sv]:=λP=>n3 P (by
  intro j v ad
  match j,ad with
  |0,ad=>exact ad)
 refine gV func196 ?_;refine bf λg1 V dN bQ H=>?_;refine bf λbR aa dO bj I=>?_;refine bf λbS dP dQ aW K=>?_;refine bf λbU Y dR aC L=>?_;have dS:=H.lt;have dT:=I.lt;have dU:=K.lt;have dV:=L.lt;have dW:=bQ.size;have dX:=bj.size;have dY:=aW.size;have dZ:=aC.size;have Z:=((bQ.trans bj).trans aW).trans aC;have H:af Y g1 eQ [Γ g]:=((H.ext bj).ext aW).ext aC;have I:af Y bR an [bg]:=by rw[cB.1]at I;exact(I.ext aW).ext aC
 have K:af Y bS eQ [Γ ga]:=K.ext aC;have L:af Y bU an [bv]:=by rw[cC.1]at L;exact L
 refine aV (λv bW=>v= .bool false/\Y=bW) ?_ ?_
 rotate_left
 .intro aB aX;rw[aw Ψ (H.Qz rfl),dc eQ.u];simp only[Z5,a1];rw[aw Ψ (K.Qz rfl),dc eQ.u];exact aX _ _ ⟨rfl,rfl⟩
 rintro _ _ ⟨rfl,rfl⟩;simp only[a1];refine aV (λv bk=>Ext Y bk/\∃c,v= .bool c/\(c=true↔¬(Fits s1 f/\Fits z y))) ?_ ?_
 rotate_left
 .intro aB aX;rw[aw Ψ (H.Qz rfl),aw Ψ (I.Qz rfl)];refine(C1 (h1.ext Z) (az.ext Z)).mono ?_;rintro _ bW _ ⟨ac,c,rfl,aD⟩;simp only[bE,bZ];refine⟨λaZ=>aX _ _ ⟨ac,true,rfl,λ_ h=>?_,λ_=>rfl⟩,λag=>?_⟩
  .have:=aD.2 h.1;rw[this]at aZ;cases aZ
  .have cF:c=true:=by cases c<;>simp_all
   rw[aw Ψ ((K.ext ac).Qz rfl),aw Ψ ((L.ext ac).Qz rfl)];refine(C1 ((ax.ext Z).ext ac) ((P.ext Z).ext ac)).mono ?_;rintro _ ea _ ⟨cG,d,rfl,bX⟩;simp only[bE];refine aX _ _ ⟨ac.trans cG,_,rfl,λh aA=>?_,λh=>?_⟩
   .have:=bX.2 aA.2;rw[this]at h;cases h
   .cases d with
    |false=>rfl
    |true=>exact absurd ⟨aD.1 cF,bX.1 rfl⟩ h
 rintro _ bk ⟨aE,c,rfl,aD⟩;have bn:=Z.trans aE;rw[bZ];refine⟨λaZ eb cH _=>⟨bn.trans cH,λ_=>rfl,λh=>absurd h (aD.1 aZ)⟩,λag=>?_⟩;have aF:Fits s1 f/\Fits z y:=Classical.byContradiction λh=>by
  have:=aD.2 h;rw[ag]at this;cases this
 obtain⟨⟨ec,cI⟩,ed,cJ⟩:=id aF;have ee:=cD.1;have ef:=cE.1;rw[aw Ψ ((I.ext aE).Qz rfl),aw Ψ ((L.ext aE).Qz rfl)];refine NL (az.ext bn) (P.ext bn) Ω Ω λeg eh ei bY ej cK=>?_;refine wV cK.ls (by rw[r8];omega) λek em en m b0 eo b1 cL cM=>?_;have cN:=b1.length_eq;rw[r8]at cN;refine(NJ cM Ω).mono ?_;rintro a2 b2 _ ⟨cP,bp⟩;have ep:=aE.size;have er:=bY.size;have es:=b0.size;have b4:Ext bk b2:=(bY.trans b0).then cP (by rintro r a7 rfl;omega);obtain⟨cR,cS⟩:=C0 cL (j:=m.length) (o4 _);have et:=CZ m m.length;have M:w3 f y (dedup m m.length):=⟨cR,λx=>by rw[cS,o7,b1.mem_iff,o5]⟩;generalize dedup m m.length=vars at*;refine bo an.i λaY eu ev b5 cT=>?_;refine bl an.i bp.ls.cells.1 bp.ls.cells.2 cT (by simp[x1.cells]) λb6 cU ew aG=>?_;have ey:=b4.size;have ez:=b5.size;have bu:Ext b2 b6:=b5.then cU (by rintro r a7 rfl;omega);have ae:=(aE.trans b4).trans bu;have aI:=Z.trans ae;have cO:=aG.lt;have b7:=bp.ls.ext bu;have aG:af b6 aY an [a2]:=aG;rw[aw Ψ (aG.Qz rfl),aw Ψ ((H.ext ae).Qz rfl),aw Ψ ((I.ext ae).Qz rfl),aw Ψ ((K.ext ae).Qz rfl),aw Ψ ((L.ext ae).Qz rfl)];refine(NM (h1.ext aI) (ax.ext aI) b7 (az.ext aI) (P.ext aI) cI.up cJ.up Ω).mono ?_;rintro eA eB _ ⟨aJ,cV,cW⟩;have b8:=aI.trans aJ;by_cases aj:pO s1 f z y vars
 rotate_left
 .rw[cV aj,bq,br];simp only[bE,V0,bT];intro eC cX _;exact⟨b8.trans cX,λh=>absurd aF h,λ_=>⟨vars,M,λ_=>rfl,λh=>absurd h aj⟩⟩
 obtain⟨xs,ap,rfl,eD,cZ⟩:=cW aj;rw[bq,br];simp only[bE,Y7,a1];intro Q ak _ _;have a8:=(ae.trans aJ).trans ak;have aq:=b8.trans ak;have H:=H.ext a8;have I:=I.ext a8;have K:=K.ext a8;have L:=L.ext a8;have c0:=(aG.ext aJ).ext ak;obtain⟨⟨a6,gs,b9,eE,_⟩,_⟩:=h1.ext aq;obtain⟨⟨eF,eH,c1,eI,_⟩,_⟩:=ax.ext aq;rw[aw Ψ (H.Qz rfl),aQ cY.p 1 b9 rfl,aw Ψ (K.Qz rfl),aQ cY.p 1 c1 rfl];simp only[bD,al];refine⟨λR eJ c2 _=>⟨aq.trans c2,λh=>absurd aF h,λ_=>⟨vars,M,λh=>absurd aj h,λ_=>⟨λ_=>rfl,λh=>absurd h R,λh=>absurd h R,λh=>absurd h R⟩⟩⟩,λR=>?_⟩;have R:k=aT:=Y0.1 R;subst R;rw[aw Ψ (H.Qz rfl),aQ cY.p 1 b9 rfl];have c3:=cZ.ext ak;refine(vY c3.ls).mono ?_;rintro aL aK _ ⟨ca,c4,c5,_,c6⟩;have eK:=bu.size;have eL:=aJ.size;have eM:=ak.size;have eN:=ca.size;obtain⟨aM,e,rfl,eO,ba⟩:∃(aM:Option Addr)(e:Int),aL= .tuple #[.pointer aM,Δ e]/\(e=0->aM≠ν)/\((e=1/\¬b3 (ds s1 f z y vars))\/(e=5/\b3 (ds s1 f z y vars)/\4096<aP (ds s1 f z y vars))\/(e=0/\b3 (ds s1 f z y vars)/\aP (ds s1 f z y vars)<=4096/\
   ∃B A C,aM=σ ⟨B,0,ν⟩/\Q.heap.size<=B/\Q.heap.size<=A/\(∀r,leads C r->Q.heap.size<=r)/\df aK B A C (ds s1 f z y vars) k (p9 (aP (ds s1 f z y vars)).toNat 0))):=by
  by_cases U:b3 (ds s1 f z y vars)
  .by_cases O:aP (ds s1 f z y vars)<=4096
   .obtain⟨B,A,C,c7,c8,c9,da,db⟩:=c6 U O ⟨hk,Ω,by have:=hk.1;omega⟩;exact⟨_,_,c7,(λ_ h=>by cases h),.inr (.inr ⟨rfl,U,O,B,A,C,rfl,c8,c9,da,db⟩)⟩
   .exact⟨_,_,c5 U Ω,(λh=>Ω),.inr (.inl ⟨rfl,U,Ω⟩)⟩
  .exact⟨_,_,c4 U,(λh=>Ω),.inl ⟨rfl,U⟩⟩
 rw[bq,br];refine bo eQ.i λcb eP eR cc aN=>?_;refine bl eQ.i rfl rfl aN (by simp[x1.cells]) λdd de eS aN=>?_;have eU:=cc.size;have bw:Ext aK dd:=cc.then de (by rintro r a7 rfl;omega);have cd:=ca.trans bw;have dg:=aq.trans cd;have eV:=aN.lt;simp only[bD,al];refine⟨λdh eW di _=>⟨dg.trans di,λh=>absurd aF h,λ_=>⟨vars,M,λh=>absurd aj h,λ_=>⟨λh=>absurd rfl h,λ_ U=>?_,λ_ U O=>?_,λ_ U O=>?_⟩⟩⟩,λeX=>?_⟩
 .rcases ba with⟨rfl,_⟩|⟨_,h,_⟩|⟨_,h,_⟩
  .rfl
  .exact absurd h U
  .exact absurd h U
 .rcases ba with⟨_,h⟩|⟨rfl,_⟩|⟨_,_,h,_⟩
  .exact absurd U h
  .rfl
  .omega
 .rcases ba with⟨_,h⟩|⟨_,_,h⟩|⟨h,_⟩
  .exact absurd U h
  .omega
  .exact absurd h dh
 obtain⟨bb,dj,B,A,C,rfl,eY,eZ,e0,bc⟩:b3 (ds s1 f z y vars)/\aP (ds s1 f z y vars)<=4096/\
   ∃B A C,aM=σ ⟨B,0,ν⟩/\Q.heap.size<=B/\Q.heap.size<=A/\(∀r,leads C r->Q.heap.size<=r)/\df aK B A C (ds s1 f z y vars) k (p9 (aP (ds s1 f z y vars)).toNat 0):=by
  rcases ba with⟨h,_⟩|⟨h,_⟩|⟨_,h⟩
  .omega
  .omega
  .exact h
 obtain rfl:e=0:=Ω
 have dk:(ds s1 f z y vars).length=vars.length:=C8 _ _ _ _ _;have e1:=prod_bound bb;obtain⟨N,bd⟩:∃N:Nat,(aP (ds s1 f z y vars)).toNat=N:=⟨_,rfl⟩;rw[bd]at bc;have e2:0<N:=Ω
 have dl:=bc.ext bw;obtain⟨⟨bx,ce,cg,ch,dm⟩,⟨ci,cj,_⟩,_,e3⟩:=id dl;have e4:B<aK.heap.size:=by obtain⟨⟨_,_,q,_⟩,_⟩:=id bc;exact q.lt
 have e5:A<aK.heap.size:=by obtain⟨⟨_,_,_,_,q⟩,_⟩:=id bc;exact tH q Θ
 rw[aw Ψ (aN.Qz rfl),bV,aU cY.p rfl,bK (cs:=[C]) bz.p bz.i rfl (sub cg)];refine tm.mono ?_;rintro _ aO _ ⟨W,be,rfl,e6,ck⟩;have e8:=bw.size;have e9:=W.size;let S:Nat->Prop:=λr=>r=A;let au:=om s1 E f z G y vars k;have bA:au.length=N:=by simp only[au];rw[C9,bd]
 have dn:=(b7.ext aJ).ext ak;let dp:x3->Prop:=λw'=>af w' g1 eQ [Γ g]/\af w' bR an [bg]/\af w' bS eQ [Γ ga]/\af w' bU an [bv]/\af w' aY an [a2]/\aH .i64 w' a2 vars/\
  af w' cb eQ [Γ B]/\af w' B cY [C,Δ k,bx]/\df w' g bN sv s1 k E/\df w' ga bO bP z k G/\aH .i64 w' bg f/\aH .i64 w' bv y/\av .i64 ah w' ce C (ds s1 f z y vars)/\af w' be bz [C]/\aO.heap.size<=w'.heap.size
 have cl:=cd.trans W;have aR:∀{a:x3},ai S aO a->dp a:=by
  intro a J;have X:Ext Q a:=cl.put J Ω;have bh:=aq.trans X;exact⟨H.ext X,I.ext X,K.ext X,L.ext X,c0.ext X,dn.ext X,(aN.ext W).ab J (by show¬(cb=A);omega),(cg.ext W).ab J (by show¬(B=A);exact ci),h1.ext bh,ax.ext bh,az.ext bh,P.ext bh,
   bt (ch.ext W) J (λr a7 he=>cj ((show r=A from he)▸a7)),ck.ab J (by show¬(be=A);omega),J.size⟩
 have cm:=tk (g:=be) (B0:=aO.heap.size) (sv:=C) bb;rw[bd]at cm;refine nG.old ⟨Nat,false,k7,#[Γ be],0,_,_,_,λq w'=>ai S aO w'/\av .i64 ao w' A bx (upto au 0 q),λ_ _ _=>False,rfl,cm.s,
  ?_,λ_ _ J h=>⟨h.1.ext J,h.2.1.ext J,Y8 h.2.2 J.size⟩,λ_ _ _ J h=>⟨h.1.trans (J.ab S),h.2.ext J⟩,λ_ _ _ _ _ h=>h,⟨ck,(ch.ext W).ls,o4 _⟩,⟨ai.refl _ _,?_⟩,?_,?_,λ_ _ h=>h.elim,λ_ _ _ h=>h.elim⟩
 .rintro _ _ _ _ ⟨_,_,_,_,rfl,_⟩;rfl
 .rw[qL,bA];exact dm.ext W
 .rintro _ aL q _ fa ⟨_,_,fb⟩ ⟨bB,rfl,fc,gt,dq,fd,cn⟩ ⟨bi,dr⟩;cases dq;let x:=cQ (ds s1 f z y vars) (q:Int);have cp:x.length=vars.length:=by simp only[x];rw[jr,dk]
  intro fe dt _ _;intro ff du _ _;have bC:=dt.trans du;obtain⟨f1,f2,f3,f4,f5,f6,f7,f8,f9,f10,f11,f12,f13,f14,f15⟩:=aR (bi.trans (bC.ab S));rw[aw Ψ (f1.Qz rfl),aw Ψ (f5.Qz rfl),aw Ψ (f2.Qz rfl)];refine(C2 (cn.ls.ext bC) f6 f11 M.1 (λp O=>(M.2 p).2 (.inl O)) cp Ω).mono ?_;rintro fg fh _ ⟨bF,fi,fj,dv⟩;refine⟨.inl bF,?_⟩;refine(vZ (f9.ext bF) dv.ls).mono ?_;rintro _ fk _ ⟨rfl,dw⟩;obtain⟨dx,dy⟩:=wU s1 (e7 x vars f) E;have dz:pj s1 (e7 (cQ (ds s1 f z y vars) (q:Int)) vars f) E= .tuple #[Δ (bm s1 E (e7 x vars f)),Δ dx]:=dy;rw[dz,bq,br];intro fm dA _ _;have bG:=((bC.trans bF).trans dw).trans dA;obtain⟨f1,f2,f3,f4,f5,f6,f7,f8,f9,f10,f11,f12,f13,f14,f15⟩:=aR (bi.trans (bG.ab S));rw[aw Ψ (f3.Qz rfl),aw Ψ (f5.Qz rfl),aw Ψ (f4.Qz rfl)];refine(C2 (cn.ls.ext bG) f6 f12 M.1 (λp O=>(M.2 p).2 (.inr O)) cp Ω).mono ?_;rintro fo fp _ ⟨bH,fq,fs,dC⟩;refine⟨.inl bH,?_⟩;refine(vZ (f10.ext bH) dC.ls).mono ?_;rintro _ ft _ ⟨rfl,dD⟩;obtain⟨dE,dF⟩:=wU z (e7 x vars y) G;have dG:pj z (e7 (cQ (ds s1 f z y vars) (q:Int)) vars y) G= .tuple #[Δ (bm z G (e7 x vars y)),Δ dE]:=dF;rw[dG,bq,br];intro fu dH _ _;have bI:=((bG.trans bH).trans dD).trans dH;obtain⟨f1,f2,f3,f4,f5,f6,f7,f8,f9,f10,f11,f12,f13,f14,f15⟩:=aR (bi.trans (bI.ab S));rw[aw Ψ (f7.Qz rfl),aQ cY.p 2 f8 rfl,aw Ψ (f7.Qz rfl),aQ cY.p 1 f8 rfl];refine wy.mono ?_;rintro _ fv _ ⟨rfl,bJ⟩;refine⟨.inl bJ,?_⟩;have dI:oe (bm s1 E (e7 x vars f)) (bm z G (e7 x vars y)) k= .tuple #[Δ (min (bm s1 E (e7 x vars f)+bm z G (e7 x vars y)) k),Δ 0]:=if_pos ⟨tT hk cz,tT hk cA⟩;rw[dI,iJ (v:=Δ (min (bm s1 E (e7 x vars f)+bm z G (e7 x vars y)) k)) rfl,iJ (v:=Δ 0) rfl];have cq:=dr.ext (bI.trans bJ);have fw:(upto au 0 q).length=N:=by rw[qK,bA]
  rw[hx rfl ay.u ao.i cq Ω];refine hy ao.i cq Ω λdJ dK fx cr=>?_;have ct:ai S aO dJ:=(bi.trans ((bI.trans bJ).ab S)).trans (dK.mono λr _ h=>h);obtain⟨f1,f2,f3,f4,f5,f6,f7,f8,f9,f10,f11,f12,f13,f14,f15⟩:=aR ct;have dL:au[q]?=σ (min (bm s1 E (e7 x vars f)+bm z G (e7 x vars y)) k):=by
   simp only[au,om];rw[x8,List.getElem?_range (by rw[bd];exact bB)];rfl
  rw[qN dL]at cr;exact⟨⟨f14,f13.ls,f15⟩,⟨ct,cr⟩,λh=>by cases h⟩
 .rintro q fy bB ⟨cw,bL⟩;rw[show q=N from bB]at bL;intro fz bM _ _;obtain⟨f1,f2,f3,f4,f5,f6,f7,f8,f9,f10,f11,f12,f13,f14,f15⟩:=aR (cw.trans (bM.ab S));rw[aw Ψ (f7.Qz rfl),aw Ψ (f5.Qz rfl)];intro fA aS _;rw[<-bA,qM]at bL;have dM:=aq.trans cl;refine⟨((dM.put cw Ω).trans bM).trans aS,λh=>absurd aF h,λ_=>⟨vars,M,λh=>absurd aj h,λ_=>⟨λh=>absurd rfl h,λ_ h=>absurd bb h,λ_ _ h=>Ω,λ_ _ _=>⟨B,A,C,a2,rfl,⟨⟨bx,ce,f8.ext aS,f13.ext aS,(bL.ext bM).ext aS⟩,⟨ci,cj,dj⟩,bb,C9 _ _ _ _ _ _ _ _⟩,f6.ext aS⟩⟩⟩⟩
theorem gL.pair(h:gL l):l.Pairwise (·< ·):=V8.2 λi j hi a e=>h i j _ _ e (x6 hi) (x6 a)
theorem NO{m:Λ}(e:gL l)(hm:gL m)(h:∀x,x∈l↔x∈m):l=m:=by
 have f:l.Nodup:=e.pair.imp λh=>Ω
 have p:m.Nodup:=hm.pair.imp λh=>Ω
 exact List.Perm.eq_of_pairwise (le:=(·<= ·)) (λa b _ _ h1 q=>Int.le_antisymm h1 q) (e.pair.imp λh=>Int.le_of_lt h) (hm.pair.imp λh=>Int.le_of_lt h) ((List.perm_ext_iff_of_nodup f p).2 h)
theorem NP{vars:Λ}(h:w3 l l vars)(hu:gL l):vars=l:=NO h.1 hu λx=>by rw[h.2];simp
theorem w4(h:l.Pairwise (·< ·)):gL l:=λi j x y e J f=>by
 have h1:=x4.1 J;have a:=x4.1 f;have:=V8.1 h i j h1.1 a.1 e;rw[h1.2,a.2]at this;exact this
theorem NQ{x:Λ}(hu:l.Nodup)(h:x.length=l.length):e7 x l l=x:=by
 refine Y5 λi=>?_;unfold e7;cases a:l[i]? with
 |none=>rw[x8,a,Z4 (by have:=List.getElem?_eq_none_iff.1 a;omega)];rfl
 |some v=>
  have hi:=(x4.1 a).1;rw[x8,a,Z7,q8 hu a,u4,x6 (show i<x.length by omega)];rfl
theorem Db{s:Λ}(hu:gL l)(h:s.length=l.length):ds s l s l l=s:=by
 refine Y5 λi=>?_;unfold ds;cases a:l[i]? with
 |none=>rw[x8,a,Z4 (by have:=List.getElem?_eq_none_iff.1 a;omega)];rfl
 |some v=>
  have hi:=(x4.1 a).1;rw[x8,a,Z7,wY hu a,Int.max_self,x6 (show i<s.length by omega)];unfold hW;rw[if_pos Ω,u4,r9,x6 (show i<s.length by omega)];rfl
theorem NR{s b:Λ}(hu:l.Pairwise (·< ·))(h:s.length=l.length)(U:dF s)(e:a.length=(aP s).toNat)(f:b.length=(aP s).toNat):om s a l s b l l k=dV k a b:=by
 have p:l.Nodup:=hu.imp λh=>Ω
 unfold om;rw[Db (w4 hu) h,MD U e f];apply List.map_congr_left;intro q _;rw[NQ p (by rw[jr,h])]
theorem NS{s b:Λ}(hu:l.Pairwise (·< ·))(C:∀x∈l,0<=x)(h:s.length=l.length)(U:b3 s)(E:aP s<=4096)(F:a.length=(aP s).toNat)(G:b.length=(aP s).toNat)(f:Da w s a l s b l k k v w'):
  Ext w w'/\∃e q r y,v= .tuple #[Γ e,y,Δ 0]/\df w' e q r s k (dV k a b):=by
 obtain⟨J,_,f⟩:=f;have z:=w4 hu;have A:Fits s l:=⟨h.symm,Nh z C⟩;obtain⟨vars,ad,_,H⟩:=f ⟨A,A⟩;have I:=NP ad z;subst I;obtain⟨_,_,_,B⟩:=H λp L M N=>rfl;rw[Db z h,NR hu h U.2 F G]at B;obtain⟨e,q,r,y,rfl,K,_⟩:=B rfl U E;exact⟨J,e,q,r,y,rfl,K⟩
theorem NT{s:Λ}(U:dF s):(bj s).Nodup:=(CR U).imp λ{a b}h he=>by subst he;omega
theorem NU{s:Λ}{i:Nat}(U:dF s)(hi:(bj s)[i]?=σ t)(a:(bj s)[j]?=σ t):i=j:=kG (NT U) hi a
theorem NV{s:Λ}(U:dF s)(h:dl s t):∃j:Nat,(bj s)[j]?=σ t:=X7.1 ((CQ U).2 h)
theorem tU{g m:Nat}{d:List (x1×x1)}(h:af w g e cs)(hm:db w m d)(a:ai (λr=>r=m) w w'):af w' g e cs:=h.ab a (λhe=>tI h hm he)
theorem Dc{g m:Nat}{k:o6}{d:List (x1×x1)}(h:av k e w g v l)(hm:db w m d)(a:ai (λr=>r=m) w w'):av k e w' g v l:=bt h a (λ_ f he=>CT h hm f he)
def tV(cs:Λ)(o:Int):Prop:=o∈cs/\∀d∈cs,cs.count d<cs.count o\/(cs.count d=cs.count o/\o<=d)
theorem NW{i:Nat}{x:Int}(h:l[i]?=σ x)(y:Int):(l.take (i+1)).count y=(l.take i).count y+if y=x then 1 else 0:=by
 rw[u7,h,List.count_append];congr 1;simp only[o8,List.count_singleton];by_cases a:y=x
 .subst a;simp
 .rw[if_neg a,if_neg (by simpa using λh=>a h.symm)]
def gN(p:Int×Int):x1×x1:=(Δ p.1,Δ p.2)
theorem rg:Keys x7 ao λv=>∃n,v=Δ n:=Keys.int ao.u
theorem rh(E:List (Int×Int)):∀p∈E.map gN,∃n,p.1=Δ n:=λp a=>by
 obtain⟨q,_,rfl⟩:=j5.1 a;exact⟨_,rfl⟩
def w5(cs:Λ)(E:List (Int×Int)):Prop:=(∀x,x∈E.map (·.1)↔x∈cs)/\∀p∈E,p.2=(cs.count p.1:Nat)
theorem Dd{cs:Λ}{E:List (Int×Int)}(h:w5 cs E){x:Int}(J:x∈cs):∃j:Nat,E[j]?=σ (x,((cs.count x:Nat):Int)):=by
 obtain⟨p,a,rfl⟩:=j5.1 ((h.1 x).2 J);obtain⟨j,e⟩:=X7.1 a;exact⟨j,by rw[e,<-h.2 p a]⟩
theorem De{cO:x1}{cs:Λ}(h:aH .i64 w cO cs)(au:cs≠[])(bf:cs.length<=1000000):am x7 sE [cO] w λv w'=>Ext w w'/\∃o,v=Δ o/\tV cs o:=by
 refine az func256 ?_;refine aD.cw (tp λm V hm U aL bg=>?_);rw[aW ay.u (h.ext U)];refine ce.range cs.length (λi aa=>ai (λr=>r=m) V aa/\∃E,db aa m (E.map gN)/\w5 (cs.take i) E) Ω ⟨ai.refl _ _,[],aL,by simp[w5]⟩ ?_ ?_
 .rintro i aa aM hi ⟨G,E,A,f⟩ av;obtain⟨x,W⟩:=aI (l:=cs) hi;have H:Ext w aa:=U.put G Ω;have aN:∀y,(cs.take i).count y<=1000000:=λy=>by
   have:=List.count_le_length (a:=y) (l:=cs.take i);rw[n9]at this;omega
  refine bH Ω ?_;rw[bh ay.u ao.i Ψ (h.ext H) W];have O:=NW W;have aw:∀y,y∈cs.take (i+1)↔y∈cs.take i\/y=x:=λy=>by
   rw[u7,W];simp
  by_cases I:x∈cs.take i
  .obtain⟨j,X⟩:=Dd f I;have P:(E.map gN)[j]?=σ (Δ x,Δ (((cs.take i).count x:Nat):Int)):=by rw[x8,X];rfl
   rw[qV l6.u rg A (rh E) ⟨_,rfl⟩ P];simp only[Bool.false_eq_true,if_false];have:=aN x;rw[aO,wrap_i64 Ω Ω];refine aD.cw (qW l6.u rg A (rh E) ⟨_,rfl⟩ (λJ v0 Y Z L ab aP=>?_) (λY Q=>absurd rfl (Q _ (x5 P))));have aQ:J=j:=A.uniq Z P rfl;subst aQ;rw[aO];have ad:(E.map gN).set J (Δ x,Δ ((((cs.take i).count x:Nat):Int)+1))=(E.set J (x,(((cs.take i).count x:Nat):Int)+1)).map gN:=by rw[U9];rfl
   rw[ad]at L;have aR:=(x4.1 X).1;refine av _ ⟨G.trans ab,_,L,λy=>?_,λp e=>?_⟩
   .rw[U9,qO (by rw[x8,X];rfl),f.1,aw];exact⟨.inl,λh=>h.elim id (λh=>h▸I)⟩
   .obtain⟨q,s⟩:=X7.1 e;by_cases ae:J=q
    .subst ae;rw[b9 aR]at s;cases s;show _=(((cs.take (i+1)).count x:Nat):Int);rw[O,if_pos rfl];omega
    .rw[Y4 ae]at s;have af:p.1≠x:=λhe=>ae (A.uniq P (show(E.map gN)[q]?=σ (gN p) by rw[x8,s];rfl) (by rw[gN,he]));rw[f.2 p (x5 s),O,if_neg af,Nat.add_zero]
  .have Q:∀p∈E.map gN,p.1≠V5 .i64 x:=λp e he=>by
    obtain⟨q,s,rfl⟩:=j5.1 e;have:q.1=x:=by simpa[gN]using he
    exact I ((f.1 x).1 (j5.2 ⟨q,s,this⟩))
   rw[tq l6.u rg ⟨_,_,ah.i⟩ A (rh E) ⟨_,rfl⟩ Q];simp only[Bool.false_eq_true,if_false];rw[aO,wrap_i64 Ω Ω];refine aD.cw (qW l6.u rg A (rh E) ⟨_,rfl⟩ (λJ v0 Y Z=>absurd rfl (Q _ (x5 Z))) (λY _ L ab aP=>?_));rw[aO];have ad:E.map gN++[(V5 .i64 x,V5 .i64 (0+1))]=(E++[(x,1)]).map gN:=by rw[Z3];rfl
   rw[ad]at L;have aT:(cs.take i).count x=0:=List.count_eq_zero.2 I;refine av _ ⟨G.trans ab,_,L,λy=>?_,λp e=>?_⟩
   .rw[Z3,o5,f.1,aw];simp
   .rcases o5.1 e with e|e
    .have af:p.1≠x:=λhe=>I ((f.1 x).1 (j5.2 ⟨p,e,he⟩));rw[f.2 p e,O,if_neg af,Nat.add_zero]
    .rw[l9.1 e];show(1:Int)=(((cs.take (i+1)).count x:Nat):Int);rw[O,if_pos rfl,aT];rfl
 rintro aa aM ⟨G,E,A,f⟩;rw[o7]at f;have H:Ext w aa:=U.put G Ω;refine ct Ω ?_;refine(Lb (h.ext H) au).mono ?_;rintro _ aU bi ⟨rfl,ag⟩;have bj:=H.size;have bk:=ag.size;refine aD.cw (BQ l6.u (A.ext ag) λM bl bm aX bn aY bo=>?_);refine⟨λpP C=>∃b B z left ax,pP=Δ b/\b∈cs/\Ext aU C/\hC C M m (E.map gN) left ax/\left=z.map gN/\(B++z).Perm E/\∀p∈B,cs.count p.1<cs.count b\/(cs.count p.1=cs.count b/\b<=p.1),λ_ C=>pG C M,
  ⟨wo cs,[],E,E.map gN,ν,rfl,(KO au).1,aX,aY,rfl,List.Perm.refl _,λp e=>by cases e⟩,?_⟩
 rintro _ C ⟨b,B,z,left,ax,rfl,aj,ak,aA,rfl,R,an⟩;refine BS aA (λ_=>by show w.heap.size<=M;omega) (λaZ=>?_) (λj p ap e aC bp N=>?_)
 .rw[iJ (v:=.bool false) rfl,a1];have:z=[]:=List.map_eq_nil_iff.1 aZ;subst this;rw[X5]at R;refine⟨(H.trans ag).trans ak,b,rfl,aj,λd a2=>?_⟩;obtain⟨q,s,rfl⟩:=j5.1 ((f.1 d).2 a2);exact an q (R.mem_iff.2 s)
 .rw[iJ (v:=.bool true) rfl,bT];refine BT N ?_;obtain⟨q,s,rfl⟩:∃q,z[j]?=σ q/\gN q=p:=by
   rw[x8]at e;exact X4.1 e
  have aE:q∈E:=R.mem_iff.1 (o5.2 (.inr (x5 s)));have bq:=f.2 q aE;have a6:q.1∈cs:=(f.1 q.1).1 (j5.2 ⟨q,aE,rfl⟩);obtain⟨a7,a8⟩:=Dd f aj;have ba:(E.map gN)[a7]?=σ (Δ b,Δ ((cs.count b:Nat):Int)):=by rw[x8,a8];rfl
  rw[iJ (v:=Δ q.1) rfl,iJ (v:=Δ q.2) rfl];have aF:(B++[q]++z.eraseIdx j).Perm E:=by
   refine List.Perm.trans ?_ R;rw[Y6];exact List.Perm.append_left B (wD s)
  have aG:pG ap M<pG C M:=by
   rw[tu N,tu aA];have:=B7 (x4.1 e).1;omega
  refine aV (λv bb=>ap=bb/\∃r:Bool,v= .bool r/\(r=true↔(cs.count b<cs.count q.1\/(cs.count q.1=cs.count b/\q.1<b)))) ?_ ?_
  .rintro _ _ ⟨rfl,r,rfl,S⟩;rw[bZ];refine⟨λbc=>?_,λaJ=>?_⟩
   .have S:=S.1 bc;refine⟨⟨q.1,B++[q],z.eraseIdx j,_,_,rfl,a6,ak.trans aC,N,(mZ gN z j),aF,λp e=>?_⟩,aG⟩;rcases o5.1 e with e|e
    .have:=an p e;omega
    .rw[l9.1 e];exact .inr ⟨rfl,Int.le_refl _⟩
   .have S:¬(cs.count b<cs.count q.1\/(cs.count q.1=cs.count b/\q.1<b)):=λh=>by rw[S.2 h]at aJ;cases aJ
    refine⟨⟨b,B++[q],z.eraseIdx j,_,_,rfl,aj,ak.trans aC,N,(mZ gN z j),aF,λp e=>?_⟩,aG⟩;rcases o5.1 e with e|e
    .exact an p e
    .rw[l9.1 e];omega
  .intro aB aq;have aK:∀K:x1->Prop,ac x7 (Instr.lookup l6 (.map (σ m)) (Δ b) false) ap K=K (Δ ((cs.count b:Nat):Int)):=λK=>by
    rw[qV l6.u rg N.map (rh E) ⟨_,rfl⟩ ba];simp
   rw[aK,bN,al];refine⟨λh1=>aq _ _ ⟨rfl,true,rfl,⟨λ_=>.inl Ω,λ_=>rfl⟩⟩,λh1=>?_⟩;rw[aK,be,al];refine⟨λbd=>?_,λbd=>aq _ _ ⟨rfl,false,rfl,⟨λh=>(by cases h),λh=>Ω⟩⟩⟩;rw[aS];refine aq _ _ ⟨rfl,_,rfl,?_⟩;rw[decide_eq_true_eq];omega
theorem NX{g p:Nat}{k:o6}{q:p8}(h:av k e w g v l)(s:af w p q cs)(y:e≠q)(x:leads v r):r≠p:=by
 obtain⟨rfl,_⟩:=bQ h x;obtain⟨_,⟨rfl,_⟩|⟨_,_,_,f,_⟩⟩:=h
 .obtain⟨a,n,c,h,_⟩:=x;cases h
 .rintro rfl;unfold af at s f;rw[s]at f;injection f with h1;injection h1 with A z;exact y z.symm
def NY(w:x3)(aj:Λ)(k:Int)(cs:Λ)(v:x1)(w':x3):Prop:=Ext w w'/\∃g m o D,v=Γ g/\eI w' g m aj k o D/\D.length<=(aP aj).toNat/\iq aj (im D o) cs/\tV cs o
theorem NZ{g bN:Nat}{cs:Λ}(h:df w g bN sv aj k cs)(aE:∀c∈cs,cu c k):am x7 Iz [Γ g] w (NY w aj k cs):=by
 obtain⟨⟨a6,gs,a8,hm,ck⟩,⟨_,_,ba⟩,U,ak⟩:=id h;have cl:=prod_bound U;have cm:=U.1;have bb:cs≠[]:=λhe=>by rw[he]at ak;simp at ak;omega
 refine gV func204 ?_;rw[dc eQ.u];simp only[Z5,a1];refine(mY h).mono ?_;rintro cO aa _ ⟨N,cn,cp,aF⟩;refine bo ay.i λal cq cr bc bd=>?_;have ct:=bd.lt;refine bl ay.i aF.ls.cells.1 aF.ls.cells.2 bd (by simp[x1.cells]) λan bO cw ap=>?_;have ap:af an al ay [cO]:=ap;have cz:=N.size;have cA:=bc.size;have be:Ext aa an:=bc.put bO Ω;have bf:=aF.ext be;have X:=N.trans be;refine aV (λu aq=>∃a A m o I K,u=Γ a/\Ext an aq/\af aq a eP [Γ A]/\an.heap.size<=m/\fU aq A m I K aj k o []/\tV cs o) ?_ ?_
 .rintro _ aq ⟨a,A,m,o,I,K,rfl,Y,e,cB,B,E⟩;have bP:=h.ext (X.trans Y);have bQ:=ap.ext Y;have bR:=bf.ext Y;refine(pB bP).mono ?_;rintro _ cC _ ⟨rfl,bS⟩;refine tm.mono ?_;rintro _ aG _ ⟨bT,bg,rfl,cE,bi⟩;have O:=bS.trans bT;have bk:=B.ext O;have bU:=bQ.ext O;have bn:=e.ext O;have bV:=bR.ext O;have bp:=hm.ext ((X.trans Y).trans O);have P:=bk.2.2.1;have bW:=(X.trans Y).trans O;have cF:=X.size;have bX:=tk (g:=bg) (B0:=aG.heap.size) (sv:=sv) U;refine nG.old ⟨Nat,false,k7,#[Γ bg],_,_,_,_,λi w'=>ai (λr=>r=m) aG w'/\∃D,D.length<=i/\fU w' A m I K aj k o D/\∀(j:Nat)t,(bj aj)[j]?=σ t->im D o t=if j<i then bm aj cs t else o,λ_ _ _=>False,rfl,bX.s,
   ?_,λ_ _ J h=>⟨h.1.ext J,h.2.1.ext J,Y8 h.2.2 J.size⟩,λ_ _ _ J ⟨h1,D,bY,bZ,ba⟩=>⟨h1.trans (J.ab _),D,bY,bZ.ext J,ba⟩,λ_ _ _ _ _ h=>h,⟨bi,bp.ls,o4 _⟩,⟨ai.refl _ _,[],o4 _,bk,λj t _=>by rw[if_neg Ω];rfl⟩,?_,?_,λ_ _ h=>h.elim,λ_ _ _ h=>h.elim⟩
  .rintro _ _ _ _ ⟨_,_,_,_,rfl,_⟩;rfl
  .rintro _ aL i _ b0 ⟨cG,cH,b1⟩ ⟨hi,rfl,cI,gt,b2,cJ,y⟩ ⟨au,D,bt,aI,aJ⟩;cases b2;have aK:(bj aj)[i]?=σ (cQ aj (i:Int)):=pu U.2 Ω;have b3:dl aj (cQ aj (i:Int)):=wp U.2 hi;generalize cQ aj (i:Int)=t at*;have bu:=MK U.2 ak aK;intro b4 av _ _;intro b5 b6 _ _;have ax:=av.trans b6;have az:ai (λr=>r=m) aG b5:=au.trans (ax.ab _);rw[aw Ψ ((tU bn P az).Qz rfl),aw Ψ ((tU bU P az).Qz rfl),bh ay.u ao.i Ψ (Dc bV P az).ls bu];have aM:=aI.ext ax;refine(B5 aM.is (y.ext ax).ls (c:=bm aj cs t)).mono ?_;rintro _ cK _ ⟨_,b7⟩;obtain⟨rfl,aN,D',bw,bx⟩:=b7 ⟨b3,aE _ (x5 bu)⟩;have aO:=az.trans aN;have cL:=bw.2;refine⟨⟨tU bi P aO,(Dc bp P aO).ls,Y8 b1 (Y8 ax.size aN.size)⟩,⟨aO,D',Ω,aM.put aN bx,λj s L=>?_⟩,λh=>by cases h⟩;rw[bw.cost aM.is.nodup bx.nodup];by_cases bz:j=i
   .subst bz;rw[aK]at L;cases L;rw[if_pos rfl,if_pos Ω]
   .rw[if_neg (λ(he:s=t)=>bz (NU U.2 (by rw[<-he];exact L) aK)),aJ j s L];by_cases h1:j<i
    .rw[if_pos h1,if_pos Ω]
    .rw[if_neg h1,if_neg Ω]
  .rintro i b0 rfl ⟨au,D,bt,aI,aJ⟩;rw[aw Ψ ((tU bn P au).Qz rfl)];intro b4 av _;refine⟨(bW.put au Ω).trans av,A,m,o,D,rfl,aI.is.ext av,bt,⟨ak,λt b8=>?_⟩,E⟩;obtain⟨j,L⟩:=NV U.2 b8;have:=(x4.1 L).1;rw[iK U.2]at this;rw[aJ j t L,if_pos this]
 intro aB bA;intro z Z _ _;have aP:=X.trans Z;have bB:=Z;have aA:=h.ext aP;have bC:=bf.ext Z;have cM:=Z.size;rw[aw Ψ ((ap.ext Z).Qz rfl)];have bD:∀{a:Nat}{w':x3}{aL:x1}{o:Int},Ext z w'->z.heap.size<=a->(∃f,af w' a eP [f])->aH .i64 w' aL aj->tV cs o->
   am x7 o1 [aL,Δ k,Δ o] w' λC q=>ac x7 (Y1 C 0) q λM=>ac x7 (Y1 C 1) q λ_=>aD x7 (o9 eP (Γ a) M) q λ(_:Unit)G=>aB (Γ a) G:=by
  rintro a w' aL o x p ⟨f,e⟩ y E;refine(BY y).mono ?_;rintro _ q _ ⟨aQ,_,_,aR⟩;obtain⟨A,m,rfl,b9,ca,B⟩:=aR U (aE _ E.1);obtain⟨I,K,B⟩:=B.at;rw[bq,br];have cb:=e.lt;have s':=x.size;refine bl eP.i rfl rfl (e.ext aQ) Ξ λG bE cN cc=>?_;refine bA _ _ ⟨a,A,m,o,I,K,rfl,((bB.trans x).trans aQ).put bE Ω,cc,Ω,B.ab bE (λhe=>by have he:A=a:=he;omega) (λhe=>by have he:m=a:=he;omega) (λr aS he=>?_),E⟩;exact NX B.2.1 (e.ext aQ) Φ aS he
 have bF:∀{a:Nat}{w':x3}{aL:x1},Ext z w'->z.heap.size<=a->(∃f,af w' a eP [f])->aH .i64 w' aL aj->
   am x7 sE [cO] w' λad aa=>am x7 o1 [aL,Δ k,ad] aa λC q=>ac x7 (Y1 C 0) q λM=>ac x7 (Y1 C 1) q λ_=>aD x7 (o9 eP (Γ a) M) q λ(_:Unit)G=>aB (Γ a) G:=by
  rintro a w' aL x p ⟨f,e⟩ y;refine(De (bC.ext x).ls bb Ω).mono ?_;rintro _ aa _ ⟨N,o,rfl,E⟩;exact bD (x.trans N) p ⟨f,e.ext N⟩ (y.ext N) E
 have bG:∀{a:Nat}{w':x3}{aL:x1},Ext z w'->z.heap.size<=a->(∃f,af w' a eP [f])->aH .i64 w' aL aj->
   am x7 vM [Γ g] w' λaT V=>(Ext z V\/cD x7 (u5 ay (Γ al)) cO V/\True)/\
    am x7 sE [cO] V λad aa=>am x7 o1 [aL,aT,ad] aa λC q=>ac x7 (Y1 C 0) q λM=>ac x7 (Y1 C 1) q λ_=>aD x7 (o9 eP (Γ a) M) q λ(_:Unit)G=>aB (Γ a) G:=by
  rintro a w' aL x p ⟨f,e⟩ y;refine(BN (aA.ext x)).mono ?_;rintro _ V _ ⟨rfl,H⟩;exact⟨.inl (x.trans H),bF (x.trans H) p ⟨f,e.ext H⟩ (y.ext H)⟩
 have bH:aj.length<=1000:=Ω
 have bI:∀{a:Nat}{w':x3},Ext z w'->z.heap.size<=a->(∃f,af w' a eP [f])->
   am x7 z1 [.agg #[sv]] w' λcd w0=>(Ext z w0\/cD x7 (u5 ay (Γ al)) cO w0/\True)/\
    am x7 vM [Γ g] w0 λaT V=>(Ext z V\/cD x7 (u5 ay (Γ al)) cO V/\True)/\
    am x7 sE [cO] V λad aa=>am x7 o1 [cd,aT,ad] aa λC q=>ac x7 (Y1 C 0) q λM=>ac x7 (Y1 C 1) q λ_=>aD x7 (o9 eP (Γ a) M) q λ(_:Unit)G=>aB (Γ a) G:=by
  rintro a w' x p ⟨f,e⟩;refine(BO (hm.ext (aP.trans x)).ls bH).mono ?_;rintro aL V _ ⟨H,_,_,y⟩;exact⟨.inl (x.trans H),bG (x.trans H) p ⟨f,e.ext H⟩ y.ls⟩
 have ae:∀{w':x3}{R:x1->x3->Prop},Ext z w'->(∀a ag,z.heap.size<=a->Ext w' ag->(∃f,af ag a eP [f])->R (Γ a) ag)->aD x7 (Instr.alloc eP true (.tuple #[])) w' R:=λ{w'}{R}x ce=>by
  have:=x.size;exact bo eP.i λa ag p cg a8=>ce a ag Ω cg ⟨_,a8⟩
 refine⟨?_,ae (Ext.refl _) λa cP p aC e=>⟨.inl aC,?_⟩⟩
 rotate_left
 .refine (pB (aA.ext aC)).mono ?_;rintro _ cR _ ⟨rfl,aU⟩;obtain⟨f,e⟩:=e;exact⟨.inl (aC.trans aU),bI (aC.trans aU) p ⟨f,e.ext aU⟩⟩
 refine(pB aA).mono ?_;rintro _ cS _ ⟨rfl,Q⟩;refine⟨.inl Q,?_,ae Q λa cT p bJ e=>⟨.inl (Q.trans bJ),bI (Q.trans bJ) p e⟩⟩;refine(BO (hm.ext (aP.trans Q)).ls bH).mono ?_;rintro aL cU _ ⟨ch,_,_,y⟩;have S:=Q.trans ch;refine⟨.inl S,?_,ae S λa cV p aW e=>⟨.inl (S.trans aW),bG (S.trans aW) p e (y.ext aW).ls⟩⟩;refine(BN (aA.ext S)).mono ?_;rintro _ cW _ ⟨rfl,aX⟩;have W:=S.trans aX;refine⟨.inl W,?_,ae W λa cX p aY e=>⟨.inl (W.trans aY),bF (W.trans aY) p e ((y.ext aX).ext aY).ls⟩⟩;refine(De (bC.ext W).ls bb Ω).mono ?_;rintro _ cY _ ⟨bK,o,rfl,E⟩;have ah:=W.trans bK;have bL:=(y.ext aX).ext bK;refine⟨?_,ae ah λa cZ p aZ e=>⟨.inl (ah.trans aZ),bD (ah.trans aZ) p e (bL.ext aZ).ls E⟩⟩;refine(BY bL.ls).mono ?_;rintro _ c0 _ ⟨ci,_,_,aR⟩;obtain⟨A,m,rfl,b9,ca,B⟩:=aR U (aE _ E.1);obtain⟨I,K,B⟩:=B.at;rw[bq,br];have a2:=ah.trans ci;refine bo eP.i λa c1 p a7 e=>?_;refine⟨.inl (a2.trans a7),?_⟩;have cb:=e.lt;obtain⟨c2,c3,t3⟩:=B.qT;have c4:=ah.size;have c5:=a2.size;refine bl eP.i rfl rfl e (by simp[x1.cells]) λc6 bM c7 cj=>?_;exact bA _ _ ⟨a,A,m,o,I,K,rfl,((bB.trans a2).trans a7).put bM Ω,cj,Ω,(B.ext a7).ab bM (λhe=>by have he:A=a:=he;omega) (λhe=>by have he:m=a:=he;omega) (λr aS he=>by have he:r=a:=he;have:=t3 r aS;omega),E⟩
theorem Df{acc:List cM}{g:cM}(h:∀x∈acc,x.1≠g.1):il k acc g=acc++[g]:=by
 unfold il;rw[if_neg];intro hm;obtain⟨x,J,he⟩:=j5.1 hm;exact h x J he
theorem N0{acc:List cM}{g h:cM}{i:Nat}(e:iR acc)(hi:acc[i]?=σ h)(he:h.1=g.1):il k acc g=acc.set i (h.1,dV k h.2 g.2):=by
 have f:=(x4.1 hi).1;unfold il;rw[if_pos (j5.2 ⟨h,x5 hi,he⟩)];refine Y5 λj=>?_;rw[x8,X2];by_cases a:i=j
 .subst a;rw[hi,Z7,if_pos he,if_pos rfl,if_pos f]
 .rw[if_neg a];cases p:acc[j]? with
  |none=>rfl
  |some y=>
   have:y.1≠g.1:=λq=>a (by
    have h1:(acc.map (·.1))[i]?=σ g.1:=by rw[x8,hi,Z7,he]
    have r:(acc.map (·.1))[j]?=σ g.1:=by rw[x8,p,Z7,q]
    exact kG e h1 r)
   rw[Z7,if_neg this]
theorem N1{α β:Type}{f:β->α->β}{b:β}{l:List α}{i:Nat}{x:α}(h:l[i]?=σ x):(l.take (i+1)).foldl f b=f ((l.take i).foldl f b) x:=by
 rw[u7,h,o8,List.foldl_append];rfl
def m9(w:x3)(k:Int)(sizes:Λ)(x:cv):Prop:=(∃a,av .i64 ah w a x.sv x.sc)/\∃m o D,eI w x.g m (bW sizes x.sc) k o D/\D.length<=4096/\iq (bW sizes x.sc) (im D o) x.cs
theorem m9.ext{x:cv}(h:m9 w k sizes x)(J:Ext w w'):m9 w' k sizes x:=by
 obtain⟨⟨a,h1⟩,m,o,D,e,f⟩:=h;exact⟨⟨a,h1.ext J⟩,m,o,D,e.ext J,f⟩
theorem m9.ab{x:cv}(h:m9 w k sizes x)(J:ai S w w')(p:∀r,S r->∃e c,af w r e c/\e≠fM/\e≠ah):m9 w' k sizes x:=by
 obtain⟨⟨z,h1⟩,m,o,D,A,B⟩:=h;obtain⟨sv,gs,f⟩:=A.at;have s:∀{g:Nat}{v:x1}{l:Λ},av .i64 ah w g v l->∀r,leads v r->¬S r:=λhm r C U=>by
  obtain⟨e,c,a,_,q⟩:=p r U;exact cc hm a (λhe=>q he.symm) C rfl
 refine⟨⟨z,bt h1 J (s h1)⟩,m,o,D,(f.ab J (λU=>?_) (λU=>?_) (s f.2.1)).is,B⟩
 .obtain⟨e,c,a,q,_⟩:=p _ U;have y:=f.1;unfold af at y a;rw[y]at a;exact q (Obj.cells.inj (Z0 a)).2.1.symm
 .obtain⟨e,c,a,_,_⟩:=p _ U;exact tI a f.2.2.1 rfl
def ri(w:x3)(g:Nat)(v:x1)(k:Int)(sizes:Λ)(L:List cv):Prop:=bi ez 2 cF w g v L/\∀x∈L,m9 w k sizes x
theorem ri.ext{g:Nat}{L:List cv}(h:ri w g v k sizes L)(J:Ext w w'):ri w' g v k sizes L:=⟨h.1.ext J,λx a=>(h.2 x a).ext J⟩
def N2(w:x3)(B a:Nat)(f:bY):Prop:=∃szv e gz g L,af w a cE [bL f.name,Δ f.k,szv,e]/\av .i64 ah w gz szv f.sizes/\ri w g e f.k f.sizes L/\L.map dT=fu f/\B<=a/\(∀r,leads szv r->B<=r)/\∀x∈L,∀r,leads x.sv r->B<=r
theorem N3{g bk:Nat}{L:List cv}{q:Λ}(h:e8 w g v L)(B:af w bk an [sv])(U:aH .i64 w sv q):
  am x7 zR [v,.func (.func zS) #[] #[Γ bk]] w λr w'=>Ext w w'/\((r=Δ (-1)/\∀x∈L,x.sc≠q)\/∃i:Nat,r=Δ (i:Int)/\∃x,L[i]?=σ x/\x.sc=q):=by
 refine az func193 ?_;rw[ea gq.u h.1];refine b5.range L.length (λi _ V=>Ext w V/\∀x∈L.take i,x.sc≠q) h.1.le ⟨Ext.refl _,λc a=>by simp at a⟩ ?_ ?_
 .rintro i _ V k hi ⟨J,s⟩ hk;refine bH Ω ?_;obtain⟨x,y⟩:=aI (l:=L) hi;rw[tQ rfl (h.ext J) y];show am x7 zS [j3 x,Γ bk] V _;obtain⟨⟨E,hm⟩,_⟩:=(h.ext J).at y;refine az func194 ?_;refine bf λap aa G f z=>?_;have z:af aa ap cX [x.sv,Γ x.g]:=by
   obtain⟨_,_,_,e⟩:=cU hm.ls;simp only[j3,ez,e]at z ⊢;exact z
  rw[aM cX.p 0 z rfl,aw Ψ ((B.ext (J.trans f)).Qz rfl)];refine(JQ (hm.ls.ext f) (U.ext (J.trans f))).mono ?_;rintro _ H _ ⟨rfl,A⟩;rw[al];refine⟨λhe=>⟨(J.trans f).trans A,.inr ⟨i,rfl,x,y,he⟩⟩,λC=>?_⟩;rw[aO];refine hk _ _ ⟨(J.trans f).trans A,λc a=>?_⟩;rw[u7,y]at a;rcases o5.1 a with a|a
  .exact s c a
  .simp at a;subst a;exact C
 .rintro _ V k ⟨J,s⟩;rw[o7]at s;rw[aS,al];exact⟨λh=>Ω,λ_=>⟨J,.inl ⟨rfl,s⟩⟩⟩
def eJ(f:bY)(i:Nat):List cM:=((f.funs.take i).map (hV f.sizes f.k)).foldl (il f.k) []
theorem Dg{f:bY}(ag:e3 N f)(i:Nat):(∀g∈eJ f i,fT f.sizes f.k g)/\iR (eJ f i)/\(eJ f i).length<=i:=by
 have:=wR (sizes:=f.sizes) (k:=f.k) (by have:=ag.k.1;omega) (l:=(f.funs.take i).map (hV f.sizes f.k)) (acc:=[]) (λh aA=>by cases aA) List.nodup_nil λg e=>by
  obtain⟨x,J,rfl⟩:=j5.1 e;exact pK ag (S0 J)
 refine⟨this.1,this.2.1,?_⟩;have a:=this.2.2;rw[List.length_nil,u9,X8,n9]at a;exact Y8 a (Nat.min_le_left _ _)
theorem w6{f:bY}{i:Nat}{x:ck}(h:f.funs[i]?=σ x):eJ f (i+1)=il f.k (eJ f i) (hV f.sizes f.k x):=by
 unfold eJ;rw[u7,h,o8,Z3,List.foldl_append];rfl
theorem Dh(f:bY):eJ f f.funs.length=ff f:=by unfold eJ ff;rw[o7]
theorem w7{L:List cv}{i:Nat}{x:cv}{D:List cM}(h:L.map dT=D)(J:L[i]?=σ x):dT x∈D:=by rw[<-h];exact j5.2 ⟨x,x5 J,rfl⟩
def N4(w:x3)(f:bY)(v:x1)(w':x3):Prop:=Ext w w'/\((¬iS f.funs<=16384/\∃e:Int,e≠0/\v= .tuple #[.pointer ν,Δ e])\/∃a,v= .tuple #[Γ a,Δ 0]/\N2 w' w.heap.size a f)
theorem tW{g a:Nat}{sc cs:Λ}(hm:av .i64 ah w g sv sc):∀u∈ez ⟨sv,a,sc,cs⟩,u.oneCell'=true:=λu hu=>by
 simp[ez]at hu;rcases hu with rfl|rfl
 .exact hm.ls.cells.2
 .rfl
theorem N5{bN:Nat}{f:bY}(bP:ly w bN f)(E:e3 N f)(bR:N<=60000)(c1:f.name≠[]/\∀b∈f.name,bO b=true):
  am x7 HD [Γ bN] w (N4 w f):=by
 have hk:=E.k;refine az func120 ?_;refine(Ns bP E bR c1).mono ?_;rintro _ V _ ⟨aH,e,rfl,he⟩;rw[bD,al];refine⟨λbS=>⟨aH,.inl ⟨λh=>bS (he h),e,bS,rfl⟩⟩,λep=>?_⟩;have bT:=bP.ext aH;obtain⟨szv,aJ,gz,bb,bU,c2,bc,aK⟩:=id bT;have er:bb.length<=256:=by rw[aK.1];exact E.ln
 rw[aQ cE.p 3 bU rfl,jq dH.u bc];refine b5.range bb.length (λi l aa=>∃g L,Ext V aa/\e8 aa g l L/\Sem aa f.k f.sizes L/\L.map dT=eJ f i/\(∀r,leadsTo l r->V.heap.size<=r)/\∀x∈L,∀r,leads x.sv r->V.heap.size<=r) (sR bc)
  ⟨0,[],Ext.refl _,⟨bi.nil _ _ _ _ _,λx J=>(by cases J)⟩,λx J=>(by cases J),rfl,λr A=>(e4 A).elim,λx J=>(by cases J)⟩ ?_ ?_
 .rintro i l aa c3 hi ⟨g,L,W,ay,aL,G,O,aA⟩ c4;obtain⟨d,bX⟩:=aI (l:=bb) hi;obtain⟨x,aN⟩:∃x,f.funs[i]?=σ x:=⟨_,x6 (by have:=aK.1;omega)⟩;have bZ:=x5 aN;have c5:=aK.2 i x d aN bX;have X:=pK E bZ;obtain⟨c6,c8,es⟩:=Dg E i;have c9:L.length<=i:=by have b1:=congrArg S5 G;rw[u9]at b1;omega
  refine bH Ω ?_;refine aV (λl' aR=>∃P Y,Ext V aR/\e8 aR P l' Y/\Sem aR f.k f.sizes Y/\Y.map dT=eJ f (i+1)/\(∀r,leadsTo l' r->V.heap.size<=r)/\∀x∈Y,∀r,leads x.sv r->V.heap.size<=r) ?_ ?_
  .rintro l' aR ⟨P,Y,h1,da,db,dc,dd⟩;rw[aO];exact c4 _ _ ⟨P,Y,h1,da,db,dc,dd⟩
  intro aB b2;refine nZ (α:=hb) cF.p rfl dH.u cF.i (b0 bc W) bX λcs bd=>?_;have b4:cs.length=2:=aq.len bd;refine bo cF.i λap et eu de dg=>?_;refine cb (vs:=cs) cF.i b4 rfl (aq.one bd) dg λdh di ev dk=>?_;have I:Ext aa dh:=de.put di Ω;rw[bK cF.p cF.i b4 dk.range];refine(NC E bR bZ c5 (b0 bd I)).mono ?_;rintro _ dl _ ⟨dm,sv,gs,b6,dn,dp,rfl,ew,Z,b7⟩;rw[bq,br];refine bo an.i λbk ey eA dq dr=>?_;refine bl an.i Z.ls.cells.1 Z.ls.cells.2 dr (by simp[x1.cells]) λb8 ds eB aS=>?_;have be:Ext dl b8:=dq.put ds Ω;have aS:af b8 bk an [sv]:=aS;rw[ig];have bg:=(I.trans dm).trans be;have eC:=bg.size;have eD:=W.size;refine(N3 (ay.ext bg) aS (Z.ls.ext be)).mono ?_;rintro _ eE _ ⟨aT,A⟩;have aW:=bg.trans aT;have b9:=be.trans aT;have bh:=Z.ext b9;have ca:=b7.ext b9;have cd:=aS.ext aT;have cg:=ay.ext aW;have bj:=aL.ext aW;rcases A with⟨rfl,dt⟩|⟨ch,rfl,y,B,aX⟩
  .refine bH Ω ?_;rw[aw Ψ (cd.Qz rfl),cZ (cs:=#[sv,Γ b6]) (by obtain⟨_,_,_,rfl⟩:=cU Z.ls;kernel_rfl)];let a:cv:=⟨sv,b6,bn x.scope,(hV f.sizes f.k x).2⟩;have bm:∀u∈ez a,u.oneCell'=true:=tW bh;refine hD (f:=ez) (a:=a) gq.u cX.i Ω rfl rfl λeF eH du eI ac dv=>?_;have ae:=cg.ext ac;refine io (f:=ez) (a:=a) gq.u cX.i rfl ae.1 (by simpa using dv.sl) bm Ω Ω λaC P eK aD bp aE=>?_;have ci:=bh.ext ac;have aY:∀{r:Nat},leadsTo l r->∃c,af du r cX c:=λA=>by
    obtain⟨rfl,c,C⟩:=dS ae.1 A;exact⟨c,C⟩
   refine b2 _ _ ⟨P,L++[a],((W.trans aW).trans ac).then aE (λr A he=>by have:=O r he;omega),e8.mk aD λz s=>?_,λz s=>?_,?_,λr A=>?_,λz s r A=>?_⟩
   .rcases o5.1 s with s|s
    .have:=(ae.2 z s).ab aE λr A he=>(ae.2 z s).2.1 r A (ae.1.leads he).1;exact⟨this.1,this.2.2⟩
    .rw[l9.1 s];exact⟨⟨gs,bt ci aE λr A he=>by obtain⟨c,C⟩:=aY he;exact cc ci C Φ A rfl⟩,X.scope⟩
   .rcases o5.1 s with s|s
    .exact (bj.ext ac).row ae aE z s
    .rw[l9.1 s];exact⟨dn,dp,wZ (ca.ext ac) aE λr A=>aY A⟩
   .rw[Z3,G,w6 aN,Df]
    .rfl
    .intro c H dw;rw[<-G]at H;obtain⟨z,s,rfl⟩:=j5.1 H;exact dt z s dw
   .rcases bp r A with h|h
    .exact O r h
    .have:=ac.size;have:=aT.size;omega
   .rcases o5.1 s with s|s
    .exact aA z s r A
    .rw[l9.1 s]at A;have b1:=(bQ Z A).1;have:=I.size;omega
  .refine ct Ω ?_;intro eL Q _ _;have bu:=cg.ext Q;have cj:=(x4.1 B).1;obtain⟨dx,dy,aZ⟩:=(bj.ext Q) y (x5 B);have ck:=cd.ext Q;have cl:=bh.ext Q;have dz:=ca.ext Q;rw[dj rfl gq.u cX.i bu.1 cj,aU cX.p rfl,aw Ψ (bu.1.range B 1 _ rfl),aw Ψ (ck.Qz rfl),aw Ψ (ck.Qz rfl)];have ag:fT f.sizes f.k (dT y):=c6 _ (w7 G B);rw[aX]at aZ;have cm:∀{c:Int},0<=c/\c<=f.k->cu c f.k:=λh=>⟨hk,h.1,h.2⟩;refine(NN aZ dz cl.ls cl.ls hk (λc H=>cm (ag.hY c H)) (λc H=>cm (X.hY c H))).mono ?_;intro eM cn _ dA;have dC:y.cs.length=(aP (bW f.sizes (bn x.scope))).toNat:=by have:=ag.len;rw[show(dT y).1=y.sc from rfl,aX]at this;exact this
   have dD:b3 (bW f.sizes (bn x.scope)):=b7.2.2.1;obtain⟨bw,cp,cq,cr,eN,rfl,dE⟩:=NS X.up (λv ad=>(X.scope.1 v ad).1) (by simp[bW];rfl) dD X.small dC X.len dA;rw[fP,fQ,fR];have R:=bu.ext bw;rw[dj rfl gq.u cX.i R.1 cj,aU cX.p rfl];let a:cv:=⟨y.sv,cp,y.sc,dV f.k y.cs (hV f.sizes f.k x).2⟩;refine pF (f:=ez) (j:=1) (a:=y) (a':=a) eQ.i rfl rfl R.1 B rfl Ω λdF a1 eO dG=>?_;have aY:∀{r:Nat},leadsTo l r->∃c,af cn r cX c:=λA=>by
    obtain⟨rfl,c,C⟩:=dS R.1 A;exact⟨c,C⟩
   refine b2 _ _ ⟨g,L.set ch a,((W.trans aW).trans (Q.trans bw)).then a1 (λr A he=>by have:=O r he;omega),e8.mk dG λz s=>?_,λz s=>?_,?_,O,λz s=>?_⟩
   .have cw:∀z∈L,(∃bx,av .i64 ah dF bx z.sv z.sc)/\jx z.sc:=λz s=>by
     have:=(R.2 z s).ab a1 λr A he=>(R.2 z s).2.1 r A (R.1.leads he).1;exact⟨this.1,this.2.2⟩
    rcases W5 s with s|rfl
    .exact cw z s
    .exact cw y (x5 B)
   .rcases W5 s with s|rfl
    .exact ((bj.ext Q).ext bw).row R a1 z s
    .refine⟨cq,cr,wZ ?_ a1 λr A=>aY A⟩;show df cn cp cq cr (bW f.sizes y.sc) f.k _;rw[aX];exact dE
   .rw[U9,G,w6 aN,N0 (g:=hV f.sizes f.k x) c8 (i:=ch) (h:=dT y) (by rw[<-G,x8,B];rfl) aX];rfl
   .rcases W5 s with s|rfl
    .exact aA z s
    .exact aA y (x5 B)
 .rintro l aa c3 ⟨g,L,W,ay,aL,G,O,aA⟩;refine ct Ω ?_;rw[aK.1,Dh]at G;have c9:L.length<=256:=by
   have:=(kJ E).2.2;rw[<-G,u9]at this;have:=E.ln;omega
  refine(NH ay aL Ω).mono ?_;rintro eP cz _ ⟨cA,cB,dI⟩;have dJ:Ext V cz:=W.then cA λr A he=>by have:=O r he;omega
  have dK:Sem cz f.k f.sizes (L.filter gg):=λz s=>(aL.row ay cA) z (U5.1 s).1;have eR:(L.filter gg).length<=L.length:=T9 _ _;refine(Nz cB Ω).mono ?_;rintro _ cC _ ⟨cD,M,a2,dL,cG⟩;have dM:Ext V cC:=dJ.then cD λr A he=>by have:=O r (dI r he);omega
  have cH:Sem cC f.k f.sizes M:=λz s=>(dK.row cB cD) z (a2.mem_iff.1 s);have eS:M.length<=256:=by rw[a2.length_eq];omega
  have dN:∀x∈M,∀r,leads x.sv r->V.heap.size<=r:=λx J=>aA x (U5.1 (a2.mem_iff.1 J)).1;have cI:M.map dT=fu f:=by
   refine Mz E ?_ ?_
   .refine (a2.map dT).trans ?_;rw[<-G,List.filter_map];exact .refl _
   .rw[List.pairwise_map];refine V8.2 λp q dO cJ dP=>?_;exact dL p q _ _ (X6 _) dP cJ (x6 dO) (x6 cJ)
  intro eU a6 _ _;have aj:=dM.trans a6;have eV:=bT.ext aj;have bz:=bU.ext aj;rw[aQ cE.p 0 bz rfl,aQ cE.p 1 bz rfl,aQ cE.p 2 bz rfl];refine(kB (c2.ls.ext aj) (by have:=E.sizes.2.1;omega)).mono ?_;rintro aF cK _ ⟨S,dQ,eW,bA⟩;refine⟨.inl S,?_⟩;rw[cZ (cs:=#[bL f.name,Δ f.k,aF,.slice ν 0 0]) (by obtain⟨_,_,_,rfl⟩:=cU bA.ls;kernel_rfl)];refine bf λU dR eX a7 bB=>?_;have bB:af dR U cE [bL f.name,Δ f.k,aF,.slice ν 0 0]:=bB;have eY:=(aj.trans S).trans a7;have dU:=((cG.ext a6).ext S).ext a7;have eZ:=((cH.ext a6).ext S).ext a7;rw[ea gq.u dU.1];refine ce.range M.length (λi ak=>∃aJ gr K,Ext cK ak/\af ak U cE [bL f.name,Δ f.k,aF,aJ]/\ri ak gr aJ f.k f.sizes K/\K.map dT=(M.take i).map dT/\K.length=i/\(∀r,leadsTo aJ r->cK.heap.size<=r)/\∀x∈K,∀r,leads x.sv r->V.heap.size<=r) Ω
   ⟨_,0,[],a7,bB,⟨bi.nil _ _ _ _ _,λx J=>(by cases J)⟩,rfl,rfl,λr A=>(e4 A).elim,λx J=>(by cases J)⟩ ?_ ?_
  rotate_left
  .rintro ak dW ⟨aG,gr,K,ao,au,bC,a8,_,_,bE⟩;rw[o7,cI]at a8;refine ct Ω ?_;have e0:=aH.size;have e1:=aj.size;have e2:=S.size;exact⟨(aH.trans (aj.trans S)).trans ao,.inr ⟨U,rfl,aF,aG,dQ,gr,K,au,bA.ext ao,bC,a8,Ω,λr A=>by have:=(bQ bA A).1;omega,λx J r A=>by have:=bE x J r A;omega⟩⟩
  rintro i ak dW hi ⟨aG,gr,K,ao,au,bC,a8,dX,cL,bE⟩ dY;obtain⟨y,B⟩:=aI (l:=M) hi;have cM:=(a6.trans S).trans ao;have cN:=cG.ext cM;have cO:=cN.at B;obtain⟨dx,dy,aZ⟩:=(cH.ext cM) y (x5 B);have ag:fT f.sizes f.k (dT y):=tE E _ (w7 cI B);refine bH Ω ?_;rw[tQ rfl cN B];refine bo cX.i λgy e5 e6 dZ eb=>?_;refine cb (vs:=ez y) cX.i rfl rfl cO.one eb λec ed e7 ee=>?_;have ef:Ext ak ec:=dZ.put ed Ω;intro e9 cP _ _;have bF:=ef.trans cP;have cQ:=ee.ext cP;have eg:=au.ext bF;rw[aQ cE.p 3 eg rfl,aM cX.p 0 cQ rfl,aM cX.p 1 cQ rfl];refine(NZ (aZ.ext bF) λc H=>⟨hk,(ag.hY c H).1,(ag.hY c H).2⟩).mono ?_;rintro _ fa _ ⟨bG,gT,m,o,D,rfl,eh,ei,ej,_⟩;refine⟨.inl bG,?_⟩;have cR:=bF.trans bG;obtain⟨⟨bx,cS⟩,_,fb⟩:=cO;have cT:=cS.ext cR;rw[cZ (cs:=#[y.sv,Γ gT]) (by obtain⟨_,_,_,e⟩:=cU cS.ls;rw[e];kernel_rfl)];let a:cv:=⟨y.sv,gT,y.sc,y.cs⟩;have bm:∀u∈ez a,u.oneCell'=true:=tW cT;refine hD (f:=ez) (a:=a) dH.u cF.i Ω rfl rfl λv25 fc bI fd I ek=>?_;refine⟨.inl (bG.trans I),?_⟩;have ax:=cR.trans I;have ba:=bC.ext ax;refine io (f:=ez) (a:=a) dH.u cF.i rfl ba.1 (by simpa using ek.sl) bm Ω Ω λaC P em aD bp cV=>?_;have fe:=ao.size;have ff:=ax.size;have bJ:af em U cE [bL f.name,Δ f.k,aF,aG]:=(au.ext ax).ab cV λhe=>by
   obtain⟨rfl,c,C⟩:=dS ba.1 he;have h1:=au.ext ax;unfold af at C h1;rw[h1]at C;exact absurd (Obj.cells.inj (Z0 C)).2.1 Φ
  rw[bV,aU cE.p rfl];have cW:aC.cells= #[aC]/\aC.oneCell'=true:=by
   obtain⟨_,_,_,_,_,rfl,_⟩:=aD.sl;exact⟨rfl,rfl⟩
  refine bl dH.i cW.1 cW.2 bJ Ξ λen cY fg eo=>?_;rw[aO];have bM:ai (λr=>r=U\/leadsTo aG r) bI en:=(cV.mono λr _ h=>.inr h).trans (cY.mono λr _ h=>.inl h);have c0:∀r,(r=U\/leadsTo aG r)->∃e c,af bI r e c/\e≠fM/\e≠ah:=λr A=>by
   rcases A with rfl|A
   .exact⟨_,_,au.ext ax,Φ,Φ⟩
   .obtain⟨rfl,c,C⟩:=dS ba.1 A;exact⟨_,c,C,Φ,Φ⟩
  refine dY _ ⟨aC,P,K++[a],?_,eo,⟨aD.ab cY λr A he=>?_,λz s=>?_⟩,?_,by rw[r8,dX];rfl,λr A=>?_,λz s=>?_⟩
  .exact (ao.trans ax).then bM λr A he=>by
    rcases he with rfl|he
    .omega
    .have:=cL r he;omega
  .have he:r=U:=he;subst he;obtain⟨rfl,c,C⟩:=dS aD A;unfold af at C bJ;rw[bJ]at C;exact absurd (Obj.cells.inj (Z0 C)).2.1 Φ
  .rcases o5.1 s with s|s
   .exact (ba.2 z s).ab bM c0
   .rw[l9.1 s];refine m9.ab (w:=bI) ⟨⟨bx,cT.ext I⟩,m,o,D,eh.ext I,?_,ej⟩ bM c0;have:=ag.small;exact Y8 ei (by show(aP (bW f.sizes (dT y).1)).toNat<=4096;omega)
  .rw[Z3,a8,u7,B,Z3];rfl
  .rcases bp r A with h|h
   .exact cL r h
   .omega
  .rcases o5.1 s with s|s
   .exact bE z s
   .rw[l9.1 s];exact dN y (x5 B)
theorem eb{a:p8}{c f:List x1}(h:af w r e c)(h':af w r a f):e=a:=by
 unfold af at h h';rw[h]at h';exact(Obj.cells.inj (Z0 h')).2.1
theorem cR{α:Type}{f:α->List x1}{k:Nat}{a:p8}{g p:Nat}{L:List α}(h:bi f k e w g v L)(q:af w p a cs)(r:e≠a):¬leadsTo v p:=λs=>by
 obtain⟨rfl,c,x⟩:=dS h s;exact r (eb x q)
structure lz where
 v:x1
 l:Λ
def oo(h:lz):List x1:=[h.v]
def hF(w:x3)(g:Nat)(v:x1)(aX:List lz):Prop:=bi oo 1 ay w g v aX/\∀h∈aX,∃a,av .i64 ao w a h.v h.l
theorem hF.ext{g:Nat}{aX:List lz}(h:hF w g v aX)(J:Ext w w'):hF w' g v aX:=⟨h.1.ext J,λx a=>by
 obtain⟨e,hm⟩:=h.2 x a;exact⟨e,hm.ext J⟩⟩
theorem hF.rj{g:Nat}{aX:List lz}(h:hF w g v aX)(f:ai S w w')(p:∀r,S r->∃e c,af w r e c/\e≠ao):∀h∈aX,∃a,av .i64 ao w' a h.v h.l:=λx q=>by
 obtain⟨a,hm⟩:=h.2 x q;exact⟨a,bt hm f λr s U=>by
  obtain⟨e,c,y,z⟩:=p r U;exact cc hm y (λhe=>z he.symm) s rfl⟩
theorem hF.ab{g:Nat}{aX:List lz}(h:hF w g v aX)(q:ai S w w')(s:∀r,S r->∃e c,af w r e c/\e≠ao/\e≠ay):hF w' g v aX:=
 ⟨h.1.ab q λr a U=>by
  obtain⟨e,c,f,_,p⟩:=s r U;exact cR h.1 f (λhe=>p he.symm) a,h.rj q λr a=>by
  obtain⟨e,c,f,p,_⟩:=s r a;exact⟨e,c,f,p⟩⟩
def oq(w:x3)(k:Int)(sizes:Λ)(x:cv):Prop:=(∃a,av .i64 ah w a x.sv x.sc)/\∃e f,df w x.g e f (bW sizes x.sc) k x.cs
theorem oq.ext{x:cv}(h:oq w k sizes x)(J:Ext w w'):oq w' k sizes x:=by
 obtain⟨⟨a,h1⟩,e,f,p⟩:=h;exact⟨⟨a,h1.ext J⟩,e,f,p.ext J⟩
theorem Di{g x:Nat}{y:x1}{cs:Λ}(h:df w g x y aj k cs)(p:ai S w w')(q:∀r,S r->∃e c,af w r e c/\e≠cY/\e≠ah/\e≠ao):df w' g x y aj k cs:=by
 obtain⟨⟨a6,gs,h1,z,A⟩,B⟩:=h;refine⟨⟨a6,gs,h1.ab p λU=>?_,bt z p λr s U=>?_,bt A p λr s U=>?_⟩,B⟩
 .obtain⟨e,c,a,f,_⟩:=q g U;exact f (eb a h1)
 .obtain⟨e,c,a,_,f,_⟩:=q r U;exact cc z a (λhe=>f he.symm) s rfl
 .obtain⟨e,c,a,_,_,f⟩:=q r U;exact cc A a (λhe=>f he.symm) s rfl
theorem oq.ab{x:cv}(h:oq w k sizes x)(a:ai S w w')(f:∀r,S r->∃e c,af w r e c/\e≠cY/\e≠ah/\e≠ao):oq w' k sizes x:=by
 obtain⟨⟨p,h1⟩,q,s,y⟩:=h;refine⟨⟨p,bt h1 a λr z U=>?_⟩,q,s,Di y a f⟩;obtain⟨e,c,A,_,B,_⟩:=f r U;exact cc h1 A (λhe=>B he.symm) z rfl
def ot(w:x3)(g:Nat)(v:x1)(k:Int)(sizes:Λ)(L:List cv):Prop:=bi ez 2 hq w g v L/\∀x∈L,oq w k sizes x
theorem ot.ext{g:Nat}{L:List cv}(h:ot w g v k sizes L)(J:Ext w w'):ot w' g v k sizes L:=⟨h.1.ext J,λx a=>(h.2 x a).ext J⟩
theorem ot.ab{g:Nat}{L:List cv}(h:ot w g v k sizes L)(q:ai S w w')(s:∀r,S r->∃e c,af w r e c/\e≠hq/\e≠cY/\e≠ah/\e≠ao):ot w' g v k sizes L:=
 ⟨h.1.ab q λr a U=>by
  obtain⟨e,c,f,p,_⟩:=s r U;exact cR h.1 f (λhe=>p he.symm) a,λx J=>(h.2 x J).ab q λr a=>by
  obtain⟨e,c,f,_,p⟩:=s r a;exact⟨e,c,f,p⟩⟩
def gh(w:x3)(h:Nat)(n:aJ):Prop:=∃a e f p gr aX L nm szv gz fv2,af w h fL [Γ a,Δ n.zero,e,f]/\af w a cE [nm,Δ n.k,szv,fv2]/\av .i64 ah w gz szv n.sizes/\
 hF w p e aX/\aX.map (·.l)=n.unary/\ot w gr f n.k n.sizes L/\L.map dT=n.funs
theorem gh.ext{a:Nat}{n:aJ}(h:gh w a n)(J:Ext w w'):gh w' a n:=by
 obtain⟨e,f,p,q,gr,aX,L,nm,szv,gz,fv2,h1,r,s,x,y,z,A⟩:=h;exact⟨e,f,p,q,gr,aX,L,nm,szv,gz,fv2,h1.ext J,r.ext J,s.ext J,x.ext J,y,z.ext J,A⟩
def rk(w:x3)(B:Nat)(k:Int)(sizes:Λ)(x:cv):Prop:=(∃f,av .i64 ah w f x.sv x.sc)/\(∃a e,df w x.g a e (bW sizes x.sc) k x.cs/\B<=a/\∀r,leads e r->B<=r)/\B<=x.g/\∀r,leads x.sv r->B<=r
theorem rk.ab{x:cv}(h:rk w B k sizes x)(a:ai S w w')(f:∀r,S r->∃e c,af w r e c/\e≠cY/\e≠ah/\e≠ao):rk w' B k sizes x:=by
 obtain⟨⟨p,h1⟩,⟨q,s,y,z⟩,A⟩:=h;refine⟨⟨p,bt h1 a λr C U=>?_⟩,⟨q,s,Di y a f,z⟩,A⟩;obtain⟨e,c,E,_,F,_⟩:=f r U;exact cc h1 E (λhe=>F he.symm) C rfl
def ml(w:x3)(B g:Nat)(v:x1)(k:Int)(sizes:Λ)(L:List cv):Prop:=bi ez 2 hq w g v L/\∀x∈L,rk w B k sizes x
theorem ml.ext{g:Nat}{L:List cv}(h:ml w B g v k sizes L)(J:Ext w w'):ml w' B g v k sizes L:=⟨h.1.ext J,λx a=>(h.2 x a).ab (J.ab λ_=>False) λ_ h=>h.elim⟩
theorem ml.ab{g:Nat}{L:List cv}(h:ml w B g v k sizes L)(q:ai S w w')(s:∀r,S r->∃e c,af w r e c/\e≠hq/\e≠cY/\e≠ah/\e≠ao):ml w' B g v k sizes L:=
 ⟨h.1.ab q λr a U=>by
  obtain⟨e,c,f,p,_⟩:=s r U;exact cR h.1 f (λhe=>p he.symm) a,λx J=>(h.2 x J).ab q λr a=>by
  obtain⟨e,c,f,_,p⟩:=s r a;exact⟨e,c,f,p⟩⟩
theorem Dj:∃o:Obj,fF o=false:=⟨.deferred ν,rfl⟩
theorem ghost(w:x3)(B:Nat):∃w0,Ext w0 w/\ai (λr=>r<B) w w0/\∀r o,w0.heap[r]?=σ o->fF o=true->B<=r:=by
 obtain⟨cw,f⟩:=Dj;have e:∀r,(w.heap.mapIdx λr o=>if r<B then cw else o)[r]?=(w.heap[r]?).map λo=>if r<B then cw else o:=λr=>Ξ
 refine⟨{w with heap:=w.heap.mapIdx λr o=>if r<B then cw else o},⟨Ξ,λr o a U=>?_⟩,⟨Ξ,λr o a U p=>?_⟩,λr o a U=>?_⟩
 .have a:(w.heap.mapIdx λr o=>if r<B then cw else o)[r]?=σ o:=a;rw[e]at a;cases h:w.heap[r]? with
  |none=>rw[h]at a;cases a
  |some o'=>
   rw[h]at a;simp only[Z7,Y2]at a;split at a
   .subst a;rw[f]at U;cases U
   .rw[a]
 .show (w.heap.mapIdx λr o=>if r<B then cw else o)[r]?=σ o;rw[e,a,Z7,if_neg p]
 .have a:(w.heap.mapIdx λr o=>if r<B then cw else o)[r]?=σ o:=a;rw[e]at a;cases h:w.heap[r]? with
  |none=>rw[h]at a;cases a
  |some o'=>
   rw[h]at a;simp only[Z7,Y2]at a;split at a
   .subst a;rw[f]at U;cases U
   .omega
def Dk(B:Nat)(w:x3)(a:Nat)(n:aJ):Prop:=∃w0,gh w0 a n/\Ext w0 w/\∀r o,w0.heap[r]?=σ o->fF o=true->B<=r
theorem N6{z p C gr gz:Nat}{n:aJ}{q s nm szv fv2:x1}{aX:List lz}{L:List cv}(h1:af w z fL [Γ p,Δ n.zero,q,s])(E:af w p cE [nm,Δ n.k,szv,fv2])(I:av .i64 ah w gz szv n.sizes)(F:hF w C q aX)(K:aX.map (·.l)=n.unary)(G:ml w B gr s n.k n.sizes L)(M:L.map dT=n.funs)(N:B<=z)(O:B<=p)(P:∀r,leads szv r->B<=r)(H:∀r,leadsTo q r\/leadsTo s r->B<=r)(Q:∀h∈aX,∀r,leads h.v r->B<=r):Dk B w z n:=by
 obtain⟨w0,J,a,R⟩:=ghost w B;have no:∀{r:Nat},B<=r->¬r<B:=λh E=>Ω
 have y:∀{e:p8}{g:Nat}{v:x1}{l:Λ},av .i64 e w g v l->(∀r,leads v r->B<=r)->av .i64 e w0 g v l:=λh S=>bt h a λr f=>no (S r f);refine⟨w0,⟨p,q,s,C,gr,aX,L,nm,szv,gz,fv2,h1.ab a (no N),E.ab a (no O),y I P,⟨F.1.ab a λr f=>no (H r (.inl f)),λh aA=>?_⟩,K,⟨G.1.ab a λr f=>no (H r (.inr f)),λx J=>?_⟩,M⟩,J,R⟩
 .obtain⟨A,hm⟩:=F.2 h aA;exact⟨A,y hm (Q h aA)⟩
 .obtain⟨⟨A,U⟩,⟨V,W,⟨⟨a6,gs,X,Y,t3⟩,t4⟩,ad,Z⟩,aa,ac⟩:=G.2 x J;exact⟨⟨A,y U ac⟩,V,W,⟨a6,gs,X.ab a (no aa),y Y Z,bt t3 a λr f=>no (by have:=(bQ t3 f).1;omega)⟩,t4⟩
def iU(n:aJ)(g:cM):aJ:=match g.1 with
 |[]=>{n with zero:=g.2.getD 0 0}
 |[v]=>{n with unary:=n.unary.set v.toNat g.2}
 |_=>{n with funs:=n.funs++[g]}
def Dl(f:bY):aJ:=⟨f.k,f.sizes,0,f.sizes.map λz=>p9 z.toNat 0,[]⟩
theorem N7(f:bY):cT f=(fu f).foldl iU (Dl f):=rfl
def dG(f:bY)(i:Nat):aJ:=((fu f).take i).foldl iU (Dl f)
theorem w8{f:bY}{i:Nat}{g:cM}(h:(fu f)[i]?=σ g):dG f (i+1)=iU (dG f i) g:=N1 h
theorem rl(f:bY):dG f (fu f).length=cT f:=by unfold dG;rw[o7,N7]
theorem N8(n:aJ)(g:cM):(iU n g).k=n.k/\(iU n g).sizes=n.sizes/\(iU n g).unary.length=n.unary.length/\(iU n g).funs.length<=n.funs.length+1:=by
 unfold iU;split
 .exact⟨rfl,rfl,rfl,Nat.le_succ _⟩
 .exact⟨rfl,rfl,Ξ,Nat.le_succ _⟩
 .exact⟨rfl,rfl,rfl,Ξ⟩
theorem ou(f:bY):∀i,(dG f i).k=f.k/\(dG f i).sizes=f.sizes/\(dG f i).unary.length=f.sizes.length/\(dG f i).funs.length<=i
 |0=>⟨rfl,rfl,by show(f.sizes.map _).length=_;simp,X6 _⟩
 |i+1=>by
  have a:=ou f i;cases h:(fu f)[i]? with
  |none=>
   have p:=List.getElem?_eq_none_iff.1 h;have e:dG f (i+1)=dG f i:=by unfold dG;rw[j6 Ω,j6 p]
   rw[e];exact⟨a.1,a.2.1,a.2.2.1,Ω⟩
  |some g=>
   rw[w8 h];obtain⟨h1,q,r,s⟩:=N8 (dG f i) g;exact⟨h1.trans a.1,q.trans a.2.1,r.trans a.2.2.1,Ω⟩
def N9(w:x3)(f:bY)(v:x1)(w':x3):Prop:=Ext w w'/\((¬iS f.funs<=16384/\∃e:Int,e≠0/\v= .tuple #[.pointer ν,Δ e])\/∃a,v= .tuple #[Γ a,Δ 0]/\Dk w.heap.size w' a (cT f))
theorem eK{k:Nat}(h:ci w k v n cs):v.cells= #[v]/\v.oneCell'=true:=by
 obtain⟨_,_,_,_,_,rfl,_⟩:=h;exact⟨rfl,rfl⟩
theorem Oa{b1:Nat}{f:bY}(cr:ly w b1 f)(R:e3 N f)(cu:N<=60000)(cw:f.name≠[]/\∀b∈f.name,bO b=true):
  am x7 G1 [Γ b1] w (N9 w f):=by
 have hk:=R.k;refine az func57 ?_;refine(N5 cr R cu cw).mono ?_;rintro _ V _ ⟨aC,⟨cz,e,he,rfl⟩|⟨aD,rfl,cA⟩⟩
 .rw[bq,br,bD,al];exact⟨λ_=>⟨aC,.inl ⟨cz,e,he,rfl⟩⟩,λh=>absurd he h⟩
 rw[bq,br,bD,al];refine⟨λh=>absurd rfl h,λ_=>?_⟩;obtain⟨szv,cB,gz,dy,M,bd,bg,b2,aS,cC,cD,cG⟩:=id cA;have dz:M.length<=256:=by
  have h1:=(pL R).2.length_eq;have aq:=(kJ R).2.2;have au:=T9 ft (ff f);have aT:=R.ln;have dA:M.length=(fu f).length:=by rw[<-aS,u9]
  omega
 have dC:=R.sizes.2.1;rw[cZ (cs:=#[Γ aD,Δ 0,.slice ν 0 0,.slice ν 0 0]) Ψ];refine bf λG aa dD bj bk=>?_;have bk:af aa G fL [Γ aD,Δ 0,.slice ν 0 0,.slice ν 0 0]:=bk;rw[aQ cE.p 2 (bd.ext bj) rfl,aW an.u (bg.ls.ext bj)];refine ce.range f.sizes.length (λi aE=>∃s H aX,Ext V aE/\af aE G fL [Γ aD,Δ 0,s,.slice ν 0 0]/\hF aE H s aX/\aX.map (·.l)=(f.sizes.take i).map (λz=>p9 z.toNat 0)/\(∀r,leadsTo s r->V.heap.size<=r)/\∀h∈aX,∀r,leads h.v r->V.heap.size<=r) Ω
  ⟨_,0,[],bj,bk,⟨bi.nil _ _ _ _ _,λx J=>(by cases J)⟩,rfl,λr q=>(e4 q).elim,λx J=>(by cases J)⟩ ?_ ?_
 .rintro i aE cH hi ⟨s,H,aX,ac,aV,bm,aF,aY,K⟩ cI;obtain⟨z,B⟩:=aI (l:=f.sizes) hi;have dE:=R.sizes.2.2 z (x5 B);have dI:aX.length=i:=by have:=congrArg S5 aF;simp only[u9,n9]at this;omega
  refine bH Ω ?_;rw[bh an.u ah.i Ψ (bg.ls.ext ac) B];intro dJ bn _ _;have cJ:=aV.ext bn;rw[aQ fL.p 2 cJ rfl];obtain⟨ad,rfl⟩:∃n:Nat,z=n:=⟨z.toNat,Ω⟩;refine jS (k:=.i64) ay.u ao.i Ω Ω λaZ cK dK bp cL=>?_;refine⟨.inl bp,?_⟩;have b3:av .i64 ao cK aZ (.slice (σ ⟨aZ,0,ν⟩) ad ad) (p9 ad 0):=av.of (bX.full (k:=1) (n:=ad) cL Ξ (by simp[maxLen];omega));let a:lz:=⟨.slice (σ ⟨aZ,0,ν⟩) ad ad,p9 ad 0⟩;refine hD (f:=oo) (a:=a) eE.u ay.i Ω rfl rfl λdL dM bu dN bw cM=>?_;refine⟨.inl (bp.trans bw),?_⟩;have a1:=(bn.trans bp).trans bw;have a2:=bm.ext a1;refine io (f:=oo) (a:=a) eE.u ay.i rfl a2.1 (by simpa using cM.sl) (λu hu=>by rw[l9.1 (show u∈[a.v]from hu)];rfl) Ω Ω λbx bz dO O bA b4=>?_;have aG:∀{r:Nat},leadsTo s r->∃c,af bu r ay c:=λq=>by
   obtain⟨rfl,c,A⟩:=dS a2.1 q;exact⟨c,A⟩
  have bB:=aV.ext a1;have b5:=bB.ab b4 λhe=>cR a2.1 bB Φ he;rw[bV,aU fL.p rfl];refine bl eE.i (eK O.sl).1 (eK O.sl).2 b5 Ξ λcN b6 dP cO=>?_;rw[aO];have bC:ai (λr=>leadsTo s r\/r=G) bu cN:=(b4.mono λr _ h=>.inl h).trans (b6.mono λr _ h=>.inr h);have S:∀r,(leadsTo s r\/r=G)->∃e c,af bu r e c/\e≠ao:=λr q=>by
   rcases q with q|rfl
   .obtain⟨c,A⟩:=aG q;exact⟨_,c,A,Φ⟩
   .exact⟨_,_,bB,Φ⟩
  have b7:=aC.size;have z3:=ac.size;have dQ:=a1.size;refine cI _ ⟨bx,bz,aX++[a],(ac.trans a1).then bC (λr q he=>?_),cO,⟨O.ab b6 λr q he=>?_,λy C=>?_⟩,?_,λr q=>?_,λy C r q=>?_⟩
  .rcases he with he|rfl
   .have:=aY r he;omega
   .omega
  .have he:r=G:=he;subst he;exact cR O b5 Φ q
  .rcases o5.1 C with C|C
   .exact a2.rj bC S y C
   .rw[l9.1 C];have b8:=b3.ext bw;exact⟨aZ,bt b8 bC λr q U=>by
     obtain⟨e,c,A,cP⟩:=S r U;exact cc b8 A (λhe=>cP he.symm) q rfl⟩
  .rw[Z3,aF,u7,B,o8,Z3];rfl
  .rcases bA r q with h|h
   .exact aY r h
   .omega
  .rcases o5.1 C with C|C
   .exact K y C r q
   .rw[l9.1 C]at q;have cQ:=(bQ b3 q).1;have:=bn.size;omega
 .rintro aE cH ⟨s,H,aX,ac,aV,bm,aF,aY,K⟩;refine ct Ω ?_;rw[o7]at aF;have cS:=bd.ext ac;have cT:=b2.ext ac;rw[aQ cE.p 3 cS rfl,ea dH.u cT.1];refine ce.range M.length (λi ae=>∃s E H gr aX L,Ext V ae/\af ae G fL [Γ aD,Δ (dG f i).zero,s,E]/\hF ae H s aX/\aX.map (·.l)=(dG f i).unary/\ml ae w.heap.size gr E f.k f.sizes L/\L.map dT=(dG f i).funs/\(∀r,leadsTo s r\/leadsTo E r->V.heap.size<=r)/\∀h∈aX,∀r,leads h.v r->V.heap.size<=r) Ω
   ⟨s,_,H,0,aX,[],ac,aV,bm,aF,⟨bi.nil _ _ _ _ _,λx J=>(by cases J)⟩,rfl,λr q=>q.elim (aY r) λh=>(e4 h).elim,K⟩ ?_ ?_
  rotate_left
  .rintro ae cV ⟨s,E,H,gr,aX,L,P,a6,bE,ag,bF,aj,W,K⟩;refine ct Ω ?_;have cW:M.length=(fu f).length:=by rw[<-aS,u9]
   have aH:=ou f M.length;rw[cW,rl]at a6 ag aj aH;have b7:=aC.size;refine⟨aC.trans P,.inr ⟨G,rfl,N6 (gr:=gr) (nm:=bL f.name) (szv:=szv) (gz:=gz) (fv2:=cB) a6 ?_ ?_ bE ag ?_ aj Ω cC cD (λr q=>by have:=W r q;omega) λh aA r q=>by have:=K h aA r q;omega⟩⟩
   .rw[aH.1];exact bd.ext P
   .rw[aH.2.1];exact bg.ext P
   .rw[aH.1,aH.2.1];exact bF
  rintro i ae cV hi ⟨s,E,H,gr,aX,L,P,a6,bE,ag,bF,aj,W,K⟩ cX;obtain⟨y,C⟩:=aI (l:=M) hi;have c0:(fu f)[i]?=σ (dT y):=by rw[<-aS,x8,C];rfl
  have a7:fT f.sizes f.k (dT y):=tE R _ (w7 aS C);have bG:=b2.ext P;obtain⟨dR,dU,dV,dW⟩:=ou f i;refine bH Ω ?_;refine c5 (λaJ=>∃s E H gr aX L,Ext V aJ/\af aJ G fL [Γ aD,Δ (dG f (i+1)).zero,s,E]/\hF aJ H s aX/\aX.map (·.l)=(dG f (i+1)).unary/\ml aJ w.heap.size gr E f.k f.sizes L/\L.map dT=(dG f (i+1)).funs/\(∀r,leadsTo s r\/leadsTo E r->V.heap.size<=r)/\∀h∈aX,∀r,leads h.v r->V.heap.size<=r) ?_ ?_
  .rintro aJ h;rw[aO];exact cX _ h
  intro aB bI;have c1:=bG.2 y (x5 C);obtain⟨⟨c2,bJ⟩,m,o,D,c3,dX,c4⟩:=c1;rw[dj rfl dH.u cF.i bG.1 hi,bK cF.p cF.i rfl (bG.1.range C)];refine bo cF.i λap dY dZ c6 c7=>?_;refine cb (vs:=ez y) cF.i rfl rfl (tW bJ) c7 λc9 da eb b9=>?_;have bM:Ext ae c9:=c6.put da Ω;rw[aM cF.p 1 b9 rfl];refine(CS (c3.ext bM) Ω).mono ?_;rintro _ ec _ ⟨ca,_,ax⟩;obtain⟨g,db,dc,dd,rfl,ed,de,ax,df⟩:=ax a7.small;have dg:dF (bW f.sizes y.sc):=ax.2.2.1.2;have dh:dd=y.cs:=iq.eq dg df c4;subst dh;have X:=bM.trans ca;have bN:=b9.ext ca;have bP:=bJ.ext X;rw[bq,br,aM cF.p 0 bN rfl,aW an.u bP.ls];have b7:=aC.size;have z9:=P.size;have ee:=X.size;have bR:=a6.ext X;have bS:=bE.ext X;have bT:=bF.ext X;have bU:=w8 c0;rw[be,al];refine⟨λef=>?_,λeg=>?_⟩
  .
   have ak:y.sc=[]:=c8 Ω;have I:dG f (i+1)={dG f i with zero:=y.cs.getD 0 0}:=by rw[bU];unfold iU;simp only[dT,ak]
   refine(mY ax).mono ?_;rintro cd di _ ⟨a8,eh,ei,dk⟩;have ej:y.cs.length=1:=by have:=a7.len;simpa[dT,ak,bW,aP]using this
   have dl:y.cs[0]?=σ (y.cs.getD 0 0):=by rw[u4,x6 Ω];rfl
   rw[fN (y:=0) (i:=0) rfl ay.u ao.i Ψ dk.ls dl,bV,aU fL.p rfl];have cg:=bR.ext a8;refine bl ao.i rfl rfl cg Ξ λek bZ em dm=>?_;have S:∀r,r=G->∃e c,af di r e c/\e≠hq/\e≠cY/\e≠ah/\e≠ao/\e≠ay:=λr q=>by
    subst q;exact⟨_,_,cg,Φ,Φ,Φ,Φ,Φ⟩
   refine bI _ ⟨s,E,H,gr,aX,L,((P.trans X).trans a8).put bZ Ω,?_,(bS.ext a8).ab bZ (λr q=>?_),by rw[I];exact ag,(bT.ext a8).ab bZ (λr q=>?_),by rw[I];exact aj,W,K⟩
   .rw[I];exact dm
   .obtain⟨e,c,A,_,_,_,h1,aq⟩:=S r q;exact⟨e,c,A,h1,aq⟩
   .obtain⟨e,c,A,h1,aq,au,aT,_⟩:=S r q;exact⟨e,c,A,h1,aq,au,aT⟩
  rw[be,al];refine⟨λh1=>?_,λen=>?_⟩
  .
   obtain⟨v,ak⟩:∃v,y.sc=[v]:=W9.1 Ω;have eo:=a7.scope.1 v (by show v∈y.sc;rw[ak];exact .head _);have ep:=a7.vars v (by show v∈y.sc;rw[ak];exact .head _);have I:dG f (i+1)={dG f i with unary:=(dG f i).unary.set v.toNat y.cs}:=by rw[bU];unfold iU;simp only[dT,ak]
   intro er Y _ _;have ch:=bR.ext Y;have dn:=bN.ext Y;rw[aQ fL.p 2 ch rfl,aM cF.p 0 dn rfl];refine po (y:=0) (i:=0) rfl an.u ah.i (bP.ls.ext Y) (show y.sc[0]?=σ v by rw[ak];rfl) λb o dp=>?_;rw[aw Ψ dp];refine(mY (ax.ext Y)).mono ?_;rintro cd dq _ ⟨aK,dr,es,aL⟩;refine⟨.inl aK,?_⟩;have aN:=(bS.ext Y).ext aK;have et:aX.length=f.sizes.length:=by have:=congrArg S5 ag;rw[u9]at this;omega
   obtain⟨u,hu⟩:=aI (l:=aX) (i:=v.toNat) Ω;rw[dj (i:=v.toNat) Ω eE.u ay.i aN.1 Ω];let a:lz:=⟨cd,y.cs⟩;refine pF (f:=oo) (j:=0) (a:=u) (a':=a) ay.i aL.ls.cells.1 aL.ls.cells.2 aN.1 hu rfl Ω λeu aR ev ds=>?_;have ci:=ch.ext aK;have aG:∀{r:Nat},leadsTo s r->∃c,af dq r ay c:=λq=>by
    obtain⟨rfl,c,A⟩:=dS aN.1 q;exact⟨c,A⟩
   refine bI _ ⟨s,E,H,gr,aX.set v.toNat a,L,(((P.trans X).trans Y).trans aK).then aR (λr q he=>by have:=W r (.inl he);omega),?_,⟨ds,λz B=>?_⟩,?_,((bT.ext Y).ext aK).ab aR (λr q=>?_),by rw[I];exact aj,W,λz B r q=>?_⟩
   .rw[I];exact ci.ab aR λhe=>cR aN.1 ci Φ he
   .rcases W5 B with B|rfl
    .exact aN.rj aR (λr q=>by obtain⟨c,A⟩:=aG q;exact⟨_,c,A,Φ⟩) z B
    .exact⟨dr,bt aL aR λr q U=>by
      obtain⟨c,A⟩:=aG U;exact cc aL A Φ q rfl⟩
   .rw[I,U9,ag]
   .obtain⟨c,A⟩:=aG q;exact⟨_,c,A,Φ,Φ,Φ,Φ⟩
   .rcases W5 B with B|rfl
    .exact K z B r q
    .have cQ:=(bQ aL q).1;have:=Y.size;omega
  .
   have I:dG f (i+1)={dG f i with funs:=(dG f i).funs++[dT y]}:=by
    rw[bU];unfold iU;have cj:2<=(dT y).1.length:=by show 2<=y.sc.length;omega
    generalize dT y=g at cj ⊢;obtain⟨sc,cs⟩:=g
    match sc,cj with
    |_::_::_,_=>rfl
   intro ew Z _ _;have ck:=bR.ext Z;have dt:=bN.ext Z;have cl:=bP.ext Z;rw[aQ fL.p 3 ck rfl,aM cF.p 0 dt rfl,cZ (cs:=#[y.sv,Γ g]) (by obtain⟨_,_,_,e⟩:=cU bJ.ls;rw[e];kernel_rfl)];let a:cv:=⟨y.sv,g,y.sc,y.cs⟩;refine hD (f:=ez) (a:=a) k9.u hq.i Ω rfl rfl λey eA ba eB Q du=>?_;refine⟨.inl Q,?_⟩;have bb:=(bT.ext Z).ext Q;have dv:=(bS.ext Z).ext Q;have b0:=ck.ext Q;have eC:L.length<=256:=by have:=congrArg S5 aj;rw[u9]at this;omega
   refine io (f:=ez) (a:=a) k9.u hq.i rfl bb.1 (by simpa using du.sl) (tW (cl.ext Q)) Ω Ω λbx bz eD O bA cm=>?_;have cn:=b0.ab cm λhe=>cR bb.1 b0 Φ he;rw[bV,aU fL.p rfl];refine bl k9.i (eK O.sl).1 (eK O.sl).2 cn Ξ λdw cp eF dx=>?_;have bc:ai (λr=>leadsTo E r\/r=G) ba dw:=(cm.mono λr _ h=>.inl h).trans (cp.mono λr _ h=>.inr h);have S:∀r,(leadsTo E r\/r=G)->∃e c,af ba r e c/\e≠cY/\e≠ah/\e≠ao/\e≠ay:=λr q=>by
    rcases q with q|rfl
    .obtain⟨rfl,c,A⟩:=dS bb.1 q;exact⟨_,c,A,Φ,Φ,Φ,Φ⟩
    .exact⟨_,_,b0,Φ,Φ,Φ,Φ⟩
   have eH:=(Z.trans Q).size;refine bI _ ⟨s,bx,H,bz,aX,L++[a],(((P.trans X).trans Z).trans Q).then bc (λr q he=>?_),?_,dv.ab bc (λr q=>?_),by rw[I];exact ag,⟨O.ab cp λr q he=>?_,λz B=>?_⟩,?_,λr q=>?_,K⟩
   .rcases he with he|rfl
    .have:=W r (.inr he);omega
    .omega
   .rw[I];exact dx
   .obtain⟨e,c,A,_,_,au,aT⟩:=S r q;exact⟨e,c,A,au,aT⟩
   .have he:r=G:=he;subst he;exact cR O cn Φ q
   .have cq:∀r,(leadsTo E r\/r=G)->∃e c,af ba r e c/\e≠cY/\e≠ah/\e≠ao:=λr q=>by
     obtain⟨e,c,A,h1,aq,au,_⟩:=S r q;exact⟨e,c,A,h1,aq,au⟩
    rcases o5.1 B with B|B
    .exact (bb.2 z B).ab bc cq
    .rw[l9.1 B];have eI:=bM.size;refine rk.ab (w:=ba) ⟨⟨c2,cl.ext Q⟩,⟨db,dc,?_,Ω,λr q=>by have:=de.2 r q;omega⟩,by show w.heap.size<=g;omega,cG y (x5 C)⟩ bc cq;exact(ax.ext Z).ext Q
   .rw[I,Z3,aj];rfl
   .rcases q with q|q
    .exact W r (.inl q)
    .rcases bA r q with h|h
     .exact W r (.inr h)
     .omega
theorem w9{z:Array x1}{k:Nat}(a:z.size=k):(Z6.zeroCells z n).toList=dP z (n*k):=by
 unfold Z6.zeroCells dP;rw[a]
theorem Ob{P:W8}{t p A:p8}{B kn:o6}{b g k m:Nat}{z:x1}{xs:List x1}(X:y=(m:Int))(M:P.underlying t=σ (.slice e))(N:P.underlying p=σ (.int kn))(hi:aR P e k b z)(C:z.cells.size=k)(av:0<k)(h1:∀u∈dP z.cells (m*k),u.oneCell'=true)(h:bX w g e k v n xs)(Y:0<m)(Z:(n+m)*b<=140737488355328)(aa:n+m<=9223372036854775807)(O:∀E ac w',bX w' ac e k E (n+m) (xs++dP z.cells (m*k))->(∀r,leadsTo E r->leadsTo v r\/w.heap.size<=r)->ai (λr=>leadsTo v r) w w'->K E w'):aD P (Z2 #[t,p] A #[v,.int B y]) w K:=by
 subst X;obtain⟨i,hi,F,rfl,Q⟩:=hi;obtain⟨R,hm⟩:=h;have ae:=nW z.cells (m*k);have ag:m*i.bytes<=281474976710656:=by
  have:m*i.bytes<=(n+m)*i.bytes:=X1 _ Ω;omega
 have grow:∀(base:Option Addr)(cap:Nat),v= .slice base n cap->(Z6.firstCells i.size n (.slice base n cap)).run P w.drew= .ok xs.toArray w.drew->cap<n+m->aD P (Z2 #[t,p] A #[v,.int B (m:Int)]) w K:=λbase cap ad ah f=>by
  subst ad;have G:=Lib.run_append_grow_zeros (P:=P) w t p A e i z B kn M N hi Q base n cap xs ah m Y Ω f Ω ag (growslice_fits f Z);have S:n+m<=grownCap w (n+m) cap e:=grownCap_ge w _ _ _;have aj:grownCap w (n+m) cap e<=maxLen:=grownCap_le_maxLen w (n+m) cap e (by simpa[maxLen]using aa);have aw:=nW z.cells ((grownCap w (n+m) cap e-(n+m))*k);have ax:(n+m)*k<=grownCap w (n+m) cap e*k:=X1 _ S;have ak:(n+m)*k=n*k+m*k:=U4 _ _ _;have ay:(grownCap w (n+m) cap e-(n+m))*k=grownCap w (n+m) cap e*k-(n+m)*k:=Nat.sub_mul _ _ _;refine .of G ((qe w _ (Nat.le_succ _)).trans (qg _ _)) (O _ w.heap.size _ ⟨by rw[r8];omega,.inr ⟨_,xs++dP z.cells (m*k)++dP z.cells ((grownCap w (n+m) cap e-(n+m))*k),rfl,?_,S,aj,?_,?_⟩⟩ (λr H=>?_) (((rZ w _).trans (qf _ _)).ab _))
  .have:=heap_alloc_new w.drew (.cells (xs.toArray++Z6.zeroCells z.cells m++Z6.zeroCells z.cells (grownCap w (n+m) cap e-(n+m))) e);unfold af;rw[show w.drew.heap.size=w.heap.size from rfl]at this;rw[this];congr 2;apply Array.toList_inj.1;rw[Array.toList_append,Array.toList_append,w9 C,w9 C]
  .rw[r8,r8];omega
  .rw[List.take_append_of_le_length (by rw[r8];omega),j6 (by rw[r8];omega)]
  .obtain⟨a,al,c,q,s⟩:=H;cases q;exact .inr (by simp at s;omega)
 rcases hm with⟨rfl,am⟩|⟨cap,cs,rfl,x,q,s,I,T⟩
 .subst am;have:xs=[]:=c8 (by simpa using R);subst this;exact grow ν 0 rfl (run_firstCells_none w.drew i.size 0 0 0) Ω
 .by_cases f:n+m<=cap
  .have U:(n+m)*k<=cs.length:=by rw[I];exact X1 _ f
   have ak:(n+m)*k=n*k+m*k:=U4 _ _ _;have J:=run_storeCells_cells (P:=P) g (0+n*k) (dP z.cells (m*k)) 0 w (λj V=>by
    rw[ae]at V;rw[Nat.add_zero,X8,x.cell (x6 (show n*k+j<cs.length by omega))];rfl) (λj _=>x.frozen _ _) h1
   simp only[Nat.add_zero]at J;have hw:X9.wrap (m:Int)=m:=by rw[o6.wrap_i64];omega
   have an:¬((m:Int)<0):=Ω
   have ao:¬(281474976710656<(m:Int)*(i.bytes:Int)):=by rw[<-Int.natCast_mul];omega
   have L:¬(m*i.size=0):=Nat.mul_ne_zero Ω Ω;have ap:(Z6.zeroCells z.cells m).toList=dP z.cells (m*k):=w9 C;have G:(Z2 #[t,p] A #[.slice (σ ⟨g,0,ν⟩) n cap,.int B (m:Int)]).run P w= .ok (.slice (σ ⟨g,0,ν⟩) (n+m) cap) (w.setCells g (0+n*k) (dP z.cells (m*k))):=by
    simp[Z2,run_underlying M,run_underlying N,sizeOf,typeInfo,zeroValue,hi,Q,asInt,asIntOf,hw,f,an,L,ao,ap,Addr.add_lit,F];simp only[X8]at J;rw[J];simp;intro aq;exact absurd aq (by rw[F]at L;exact L)
   obtain⟨au,W⟩:=nV (dP z.cells (m*k)) cs (0+n*k) w x;refine .of G (W.cw x) (O _ g _ ⟨by rw[r8];omega,.inr ⟨cap,_,rfl,au,f,s,by rw[ld,I],?_⟩⟩ (λr H=>.inl ?_) (W.ab.mono λr _ he=>⟨_,_,_,rfl,he.symm⟩))
   .rw[tt Ω U,mN (by rw[n9];omega),X8,List.take_take,List.drop_eq_nil_of_le (by rw[n9];omega),X5,Nat.min_eq_left Ω,T]
   .obtain⟨a,al,c,q,s⟩:=H;cases q;exact⟨_,_,_,rfl,s⟩
  .refine grow _ cap rfl ?_ Ω;have U:n*k<=cs.length:=by rw[I];exact X1 _ q
   refine run_firstCells_some w.drew i.size n _ n cap xs (by rw[F];exact R) λj u hu=>?_;rw[T3,X8];have V:=(x4.1 hu).1;rw[<-T,Z9 Ω]at hu;exact x.cell hu
def iu(c:Cell):List x1:=[Δ c.v,.int .u64 (c.st:Int)]
def ov(o:lh):List x1:=[Δ (o.i:Int),Δ o.c.v,.int .u64 (o.c.st:Int)]
def ow(m:sY):List x1:=[Δ (m.olds:Int),Δ (m.cells:Int),.int .u64 (m.st:Int)]
def dt(w:x3)(gT:Nat)(A:ak)(t:aC):Prop:=A gT/\∃e go dh a6 a dJ,af w gT fK [a6,a,dJ,.int .u64 (t.ii:Int)]/\bi iu 2 eF w e a6 t.cells/\bi ov 3 la w go a t.olds/\bi ow 3 gv w dh dJ t.marks/\
 ∀r,leadsTo a6 r\/leadsTo a r\/leadsTo dJ r->A r
theorem dt.ab{S A:ak}{t:aC}(h:dt w gT A t)(e:ai S w w')(f:∀r,A r->¬S r):dt w' gT A t:=by
 obtain⟨q,s,go,dh,a6,x,dJ,h1,y,z,B,p⟩:=h;exact⟨q,s,go,dh,a6,x,dJ,h1.ab e (f _ q),y.ab e λr a=>f r (p r (.inl a)),z.ab e λr a=>f r (p r (.inr (.inl a))),B.ab e λr a=>f r (p r (.inr (.inr a))),p⟩
theorem dt.ext{A:ak}{t:aC}(h:dt w gT A t)(J:Ext w w'):dt w' gT A t:=h.ab (J.ab λ_=>False) λ_ _ h=>h
theorem dt.mono{A B:ak}{t:aC}(h:dt w gT A t)(a:∀r,A r->B r):dt w gT B t:=by
 obtain⟨e,f,go,dh,a6,p,dJ,h1,q,s,x,y⟩:=h;exact⟨a _ e,f,go,dh,a6,p,dJ,h1,q,s,x,λr z=>a r (y r z)⟩
def Grow(A:ak)(w:x3)(aT:ak)(w':x3):Prop:=ai A w w'/\(∀r,aT r->A r\/w.heap.size<=r)/\∀r,A r->aT r
theorem Grow.refl(A:ak)(w:x3):Grow A w A w:=⟨ai.refl _ _,λ_ h=>.inl h,λ_ h=>h⟩
theorem Grow.ext{A:ak}(h:Ext w w'):Grow A w A w':=⟨h.ab _,λ_ h=>.inl h,λ_ h=>h⟩
theorem Grow.trans{A aT e:ak}{f:x3}(h:Grow A w aT w')(k:Grow aT w' e f):Grow A w e f:=
 ⟨⟨Y8 h.1.size k.1.size,λr o a U p=>k.1.aZ r o (h.1.aZ r o a U p) U λq=>(h.2.1 r q).elim p λs=>by
  have:=(j4.1 a).1;omega⟩,λr a=>by
  rcases k.2.1 r a with h1|h1
  .exact h.2.1 r h1
  .have:=h.1.size;exact .inr Ω,λr a=>k.2.2 r (h.2.2 r a)⟩
theorem Dm{A:ak}{t:aC}(h:dt w gT A t):am x7 Ie [Γ gT] w λv w'=>v=Δ (t.cells.length:Int)/\Ext w w':=by
 obtain⟨e,f,go,dh,a6,q,dJ,h1,a,r,s,x⟩:=h;refine az func174 ?_;rw[dc qx.u];simp only[Z5,a1];rw[aQ fK.p 0 h1 rfl,ea ie.u a];exact⟨rfl,Ext.refl _⟩
theorem Dn{A:ak}{t:aC}{i:Int}(h:dt w gT A t):am x7 Hn [Γ gT,Δ i] w λv w'=>v= .bool (decide (0<=i/\i<t.cells.length))/\Ext w w':=by
 refine az func88 ?_;refine aV (λv V=>v= .bool (decide (0<=i/\i<t.cells.length))/\Ext w V) (λ_ _ h=>h) ?_;intro aB a;rw[cn,al];refine⟨λe=>?_,λe=>a _ _ ⟨by rw[decide_eq_false];omega,Ext.refl _⟩⟩;refine(Dm h).mono ?_;rintro _ V _ ⟨rfl,J⟩;rw[aS];refine a _ _ ⟨?_,J⟩;congr 1;rw[V9,decide_eq_true_eq,decide_eq_true_eq];exact⟨λh=>⟨Ω,h⟩,λh=>h.2⟩
theorem Oc{A:ak}{t:aC}{i:Nat}{c:Cell}(h:dt w gT A t)(f:y=(i:Int))(a:t.cells[i]?=σ c):am x7 zB [Γ gT,Δ y] w λv w'=>v=Δ c.v/\Ext w w':=by
 have q:=(x4.1 a).1;refine az func43 ?_;refine(Dn h).mono ?_;rintro _ V _ ⟨rfl,J⟩;rw[decide_eq_true Ω,bE,Y7,a1];obtain⟨r,s,go,dh,a6,x,dJ,h1,e,z,B,C⟩:=h.ext J;rw[aQ fK.p 0 h1 rfl,dj f ie.u eF.i e q,aU eF.p rfl,aw Ψ (e.range a 0 _ rfl)];exact⟨rfl,J⟩
theorem na{A:ak}{t:aC}{i:Nat}{x:Int}(h:dt w gT A t)(e:y=(i:Int))(a:t.bR[i]?=σ x):am x7 zB [Γ gT,Δ y] w λv w'=>v=Δ x/\Ext w w':=by
 unfold aC.bR at a;rw[x8]at a;obtain⟨c,f,rfl⟩:=X4.1 a;exact Oc h e f
def nb(t:aC):Prop:=t.cells.length<=100000000/\t.olds.length<=100000000/\t.marks.length<=100000000
theorem tX{s go dh:Nat}{a6 a dJ:x1}{t:aC}{x:x1}(h1:af w gT fK [a6,a,dJ,x])(f:bi iu 2 eF w s a6 t.cells)(h:bi ov 3 la w go a t.olds)(p:bi ow 3 gv w dh dJ t.marks):
  (¬leadsTo a6 gT/\¬leadsTo a gT/\¬leadsTo dJ gT)/\(∀r,leadsTo a6 r->¬leadsTo a r/\¬leadsTo dJ r)/\∀r,leadsTo a r->¬leadsTo a6 r/\¬leadsTo dJ r:=by
 refine⟨⟨cR f h1 Φ,cR h h1 Φ,cR p h1 Φ⟩,λr q=>?_,λr q=>?_⟩
 .obtain⟨rfl,c,e⟩:=dS f q;exact⟨cR h e Φ,cR p e Φ⟩
 .obtain⟨rfl,c,e⟩:=dS h q;exact⟨cR f e Φ,cR p e Φ⟩
theorem tY{A:ak}{t:aC}{i:Nat}{x:Int}(h:dt w gT A t)(bm:y=(i:Int))(O:i<t.cells.length)(aq:nb t):am x7 zM [Γ gT,Δ y,Δ x] w λv w'=>v=Δ 0/\∃aT,Grow A w aT w'/\dt w' gT aT (t.set i x):=by
 subst bm;obtain⟨c,E⟩:=aI (l:=t.cells) O;refine az func124 ?_;rw[dc qx.u];simp only[Z5,a1];refine(Dn h).mono ?_;rintro _ V _ ⟨rfl,J⟩;rw[decide_eq_true Ω,bE,Y7,a1];obtain⟨aR,L,go,dh,a6,P,dJ,h1,aW,au,X,Y⟩:=id (h.ext J);have bn:∀{aa:x3}{aT:ak}{bp:aC}{st:Nat}{K:x3->Prop},dt aa gT aT bp->bp.cells[i]?=σ ⟨c.v,st⟩->
   (∀q,ai aT aa q->dt q gT aT {bp with cells:=bp.cells.set i ⟨x,st⟩}->K q)->
   (ac x7 (bP (Γ gT)) aa λt77=>
   ac x7 (u6 fK t77 0) aa λbq=>
   ac x7 (u5 ie bq) aa λbr=>
   ac x7 (c9 ie br (Δ (i:Int))) aa λbt=>
   ac x7 (u6 eF bt 0) aa λbu=>
   aD x7 (o9 ao bu (Δ x)) aa λ(_:Unit)q=>
   K q):=by
  intro aa aT bp st K av Z bw;obtain⟨ax,L,go,dh,a6,P,dJ,G,H,Q,R,S⟩:=av;have bx:=(x4.1 Z).1;rw[aQ fK.p 0 G rfl,dj rfl ie.u eF.i H bx,aU eF.p rfl];obtain⟨⟨U,ay,aA⟩,I,_⟩:=tX G H Q R;refine pF (f:=iu) (j:=0) (a:=⟨c.v,st⟩) (a':=⟨x,st⟩) ao.i rfl rfl H Z rfl Ω λq B bz bA=>?_;exact bw q (B.mono λr _ e=>S r (.inl e)) ⟨ax,L,go,dh,a6,P,dJ,G.ab B U,bA,Q.ab B λr e he=>(I r he).1 e,R.ab B λr e he=>(I r he).2 e,S⟩
 refine c5 (λaa=>∃aT bp st,Grow A V aT aa/\dt aa gT aT bp/\bp.cells[i]?=σ ⟨c.v,st⟩/\t.set i x={bp with cells:=bp.cells.set i ⟨x,st⟩}) ?_ ?_
 .rintro aa ⟨aT,bp,st,bB,av,Z,aE⟩;refine bn av Z λq B au=>⟨by trivial,aT,?_,by rw[aE];exact au⟩;exact(Grow.ext J).trans (bB.trans ⟨B,λ_ h=>.inl h,λ_ h=>h⟩)
 intro aB aF;rw[aQ fK.p 2 h1 rfl,ea sH.u X,bN,al];have aX:∀(hm:t.marks.getLast? =ν\/∃m,t.marks.getLast? =σ m/\¬(c.st<m.st/\i<m.cells)),t.set i x={t with cells:=t.cells.set i ⟨x,c.st⟩}:=λhm=>by
  unfold aC.set;rw[E];rcases hm with hm|⟨m,hm,bC⟩
  .simp only[hm]
  .simp only[hm];rw[if_neg bC]
 refine⟨λbZ=>?_,λb0=>aF _ ⟨A,t,c.st,Grow.refl _ _,h.ext J,E,aX (.inl ?_)⟩⟩
 rotate_left
 .rw[List.getLast?_eq_none_iff];exact c8 Ω
 obtain⟨m,hm⟩:=aI (l:=t.marks) (i:=t.marks.length-1) Ω;have aY:t.marks.getLast? =σ m:=by rw[List.getLast?_eq_getElem?];exact hm
 have b1:=aq.2.2;rw[aQ fK.p 2 h1 rfl,dO,wrap_i64 Ω Ω,dj (i:=t.marks.length-1) Ω sH.u gv.i X Ω,bK gv.p gv.i rfl (X.range hm)];refine bo gv.i λap aa b2 aZ bD=>?_;refine cb (vs:=ow m) gv.i rfl rfl (by intro v ad;simp[ow]at ad;rcases ad with rfl|rfl|rfl<;>rfl) bD λq B bz bF=>?_;have a2:Ext V q:=aZ.put B Ω;have ae:∀{w':x3},Ext q w'->af w' ap gv (ow m):=λJ=>bF.ext J;refine aV (λv aG=>v= .bool (decide (c.st<m.st/\i<m.cells))/\Ext q aG) ?_ ?_
 rotate_left
 .intro b3 a7;intro aG s _ _;have M:=a2.trans s;have a8:=ae s;have N:=aW.ext M;rw[aQ fK.p 0 (h1.ext M) rfl,dj rfl ie.u eF.i N O,aU eF.p rfl,aw Ψ (N.range E 1 _ rfl),aM gv.p 2 a8 rfl,aS,al];refine⟨λba=>?_,λbb=>a7 _ _ ⟨by rw[decide_eq_false];omega,s⟩⟩;rw[aM gv.p 1 a8 rfl,aS];refine a7 _ _ ⟨?_,s⟩;congr 1;rw[V9,decide_eq_true_eq,decide_eq_true_eq];exact⟨λh=>⟨Ω,Ω⟩,λh=>Ω⟩
 rintro _ aG ⟨rfl,s⟩;have M:=a2.trans s;rw[al];refine⟨λba=>?_,λbb=>aF _ ⟨A,t,c.st,Grow.ext M,(h.ext J).ext M,E,aX (.inr ⟨m,aY,bb⟩)⟩⟩;intro b4 ag _ _;have W:=M.trans ag;have aH:=h1.ext W;have N:=aW.ext W;have bG:=au.ext W;have bH:=X.ext W;rw[bV,aU fK.p rfl,aw Ψ (aH.cell (o:=0+1) rfl),bV,aU fK.p rfl,aw Ψ (aH.cell (o:=0+0) rfl),dj rfl ie.u eF.i N O,bK eF.p eF.i rfl (N.range E)];rw[cZ (cs:=#[Δ (i:Int),Δ c.v,.int .u64 (c.st:Int)]) Ψ];let a:lh:=⟨i,c⟩;have bI:∀u∈ov a,u.oneCell'=true:=by intro v ad;simp[ov]at ad;rcases ad with rfl|rfl|rfl<;>rfl
 refine hD (f:=ov) (a:=a) nR.u la.i Ω rfl rfl λb5 b6 bc b7 z bJ=>?_;refine⟨.inl z,?_⟩;have bd:=W.trans z;have aJ:=aH.ext z;have be:=N.ext z;have aK:=bG.ext z;have bf:=bH.ext z;obtain⟨⟨U,ay,aA⟩,I,bL⟩:=tX aJ be aK bf;refine io (f:=ov) (a:=a) nR.u la.i rfl aK (by simpa using bJ.sl) bI (by have:=aq.2.1;omega) (by have:=aq.2.1;omega) λaL bg b8 ah bM bh=>?_;rw[bV,aU fK.p rfl];have bj:=aJ.ab bh ay;refine bl nR.i (eK ah.sl).1 (eK ah.sl).2 bj Ξ λC bk ca aN=>?_;have aN:af C gT fK [a6,aL,dJ,.int .u64 (t.ii:Int)]:=aN;have aj:ai (λr=>leadsTo P r\/r=gT) bc C:=(bh.mono λr _ h=>.inl h).trans (bk.mono λr _ h=>.inr h);have bO:bi iu 2 eF C L a6 t.cells:=be.ab aj λr e he=>he.elim (λhe=>(I r e).1 he) λhe=>U (he▸e);have bQ:bi ow 3 gv C dh dJ t.marks:=bf.ab aj λr e he=>he.elim (λhe=>(bL r he).2 e) λhe=>aA (he▸e);have bR:bi ov 3 la C bg aL (t.olds++[a]):=ah.ab bk λr e he=>by
  have he:r=gT:=he;subst he;exact cR ah bj Φ e
 have cc:=bd.size;have cd:=aZ.size;let aO:ak:=λr=>A r\/bc.heap.size<=r;have bS:Grow A V aO C:=⟨(bd.ab A).trans (aj.mono λr _ he=>he.elim (λhe=>Y r (.inr (.inl he))) λhe=>he▸aR),λr e=>e.imp id λe=>Ω,λr e=>.inl e⟩;have bT:dt C gT aO {t with olds:=t.olds++[a]}:=⟨.inl aR,L,bg,dh,a6,aL,dJ,aN,bO,bR,bQ,λr e=>by
  rcases e with e|e|e
  .exact .inl (Y r (.inl e))
  .rcases bM r e with h|h
   .exact .inl (Y r (.inr (.inl h)))
   .exact .inr h
  .exact .inl (Y r (.inr (.inr e)))⟩
 have bU:af C ap gv (ow m):=(ae ((s.trans ag).trans z)).ab aj λhe=>by
  rcases he with he|he
  .obtain⟨rfl,ce,bW⟩:=dS aK he;exact absurd (eb bW (ae ((s.trans ag).trans z))) Φ
  .subst he;exact absurd (eb aJ (ae ((s.trans ag).trans z))) Φ
 intro cg aP _ _;have bX:=bT.ext aP;obtain⟨ax,L,go,dh,a6,P,dJ,G,H,Q,R,S⟩:=bX;rw[aQ fK.p 0 G rfl,aM gv.p 2 (bU.ext aP) rfl,dj rfl ie.u eF.i H O,aU eF.p rfl];obtain⟨⟨U,ay,aA⟩,I,_⟩:=tX G H Q R;refine pF (f:=iu) (j:=1) (a:=c) (a':=⟨c.v,m.st⟩) fJ.i rfl rfl H E rfl Ω λch an ci bY=>?_;have aE:t.set i x={t with olds:=t.olds++[a],cells:=t.cells.set i ⟨x,m.st⟩}:=by
  unfold aC.set;rw[E];simp only[aY];rw[if_pos ba]
 refine aF _ ⟨aO,{t with olds:=t.olds++[a],cells:=t.cells.set i ⟨c.v,m.st⟩},m.st,bS.trans ((Grow.ext aP).trans ⟨an.mono λr _ e=>S r (.inl e),λ_ h=>.inl h,λ_ h=>h⟩),⟨ax,L,go,dh,a6,P,dJ,G.ab an U,bY,Q.ab an λr e he=>(I r he).1 e,R.ab an λr e he=>(I r he).2 e,S⟩,?_,?_⟩
 .show (t.cells.set i _)[i]?=_;rw[b9 O]
 .rw[aE];simp only[List.set_set]
theorem Do(n:Nat):dP (#[Δ 0,.int .u64 0]:Array x1) (n*2)=(p9 n (⟨0,0⟩:Cell)).flatMap iu:=by
 have:∀n,dP (#[Δ 0,.int .u64 0]:Array x1) (n*2)=(p9 n (⟨0,0⟩:Cell)).flatMap iu:=by
  intro n;apply Y5;intro j;have q:((p9 n (⟨0,0⟩:Cell)).flatMap iu).length=n*2:=by simp[iu]
  by_cases e:j<n*2
  .have p:(dP (#[Δ 0,.int .u64 0]:Array x1) (n*2))[j]?=σ (if j % 2=0 then Δ 0 else .int .u64 0):=by
    unfold dP;rw[S9,Array.getElem?_map,Array.getElem?_range,if_pos e];rcases Nat.mod_two_eq_zero_or_one j with h|h<;>simp[h]
   have ag:=pE (f:=iu) (k:=2) (L:=p9 n (⟨0,0⟩:Cell)) (i:=j / 2) (j:=j % 2) (a:=⟨0,0⟩) (v:=if j % 2=0 then Δ 0 else .int .u64 0) (λa _=>rfl) (by rw[List.getElem?_replicate,if_pos Ω]) (by rcases Nat.mod_two_eq_zero_or_one j with h|h<;>simp[h,iu]);rw[show j / 2*2+j % 2=j by omega]at ag;rw[p,ag]
  .rw[Z4 (by rw[nW];omega),Z4 Ω]
 exact this n
theorem Od{A:ak}{t:aC}(h:dt w gT A t)(S:nb t)(ac:n<=100000000):am x7 ID [Γ gT,Δ (n:Int)] w λv w'=>v=Δ (t.cells.length:Int)/\∃aT,Grow A w aT w'/\dt w' gT aT (t.grow n):=by
 refine az func209 ?_;refine(Dm h).mono ?_;rintro _ V _ ⟨rfl,J⟩;refine c5 (λaa=>∃aT,Grow A w aT aa/\dt aa gT aT (t.grow n)) (λaa h=>⟨rfl,h⟩) ?_;intro aB B;refine aV (λv aa=>v= .bool (decide (0<n))/\V=aa) ?_ ?_
 rotate_left
 .intro ad U;rw[Ah qx.u];simp only[Z5,V0,bT];rw[bN];refine U _ _ ⟨?_,rfl⟩;congr 1;rw[V9,decide_eq_true_eq,decide_eq_true_eq];omega
 rintro _ _ ⟨rfl,rfl⟩;rw[al];refine⟨λC=>?_,λC=>B _ ⟨A,Grow.ext J,?_⟩⟩
 rotate_left
 .have:n=0:=Ω
  subst this;have e:t.grow 0=t:=by unfold aC.grow;simp
  rw[e];exact h.ext J
 obtain⟨E,ae,go,dh,a6,G,dJ,h1,H,I,K,f⟩:=id (h.ext J);rw[aQ fK.p 0 h1 rfl];obtain⟨⟨W,X,Y⟩,L,ag⟩:=tX h1 H I K;have aj:=S.1;refine Ob (k:=2) (m:=n) rfl ie.u ah.u eF.i rfl Ω (λu hu=>?_) H.1 C Ω Ω λs M aa N Z O=>?_
 .exact w2 Φ Φ u hu
 rw[bV,aU fK.p rfl];have q:bi iu 2 eF aa M s (t.cells++p9 n ⟨0,0⟩):=by
  refine⟨?_,λ_ _=>rfl⟩;have e:(x1.agg #[Δ 0,.int .u64 0]).cells= #[Δ 0,.int .u64 0]:=rfl;rw[e,Do]at N;rw[r8,List.length_replicate,S8];exact N
 have P:=h1.ab O W;refine bl ie.i (eK q.sl).1 (eK q.sl).2 P Ξ λQ R an x=>?_;have x:af Q gT fK [s,G,dJ,.int .u64 (t.ii:Int)]:=x;have y:ai (λr=>leadsTo a6 r\/r=gT) V Q:=(O.mono λr _ h=>.inl h).trans (R.mono λr _ h=>.inr h);have z:=J.size;refine B _ ⟨λr=>A r\/V.heap.size<=r,(Grow.ext J).trans ⟨y.mono λr _ he=>he.elim (λhe=>f r (.inl he)) λhe=>he▸E,λr a=>a,λr a=>.inl a⟩,.inl E,M,go,dh,s,G,dJ,x,q.ab R λr a he=>?_,I.ab y λr a he=>he.elim (λhe=>(L r he).1 a) λhe=>X (he▸a),K.ab y λr a he=>he.elim (λhe=>(L r he).2 a) λhe=>Y (he▸a),λr a=>?_⟩
 .have he:r=gT:=he;subst he;exact cR q P Φ a
 .rcases a with a|a|a
  .exact (Z r a).imp (λh=>f r (.inl h)) id
  .exact .inl (f r (.inr (.inl a)))
  .exact .inl (f r (.inr (.inr a)))
theorem Oe(x:n<=1000):am x7 HG [Δ (n:Int)] w λv w'=>Ext w w'/\∃gT,v=Γ gT/\dt w' gT (eH w.heap.size) ⟨p9 n ⟨0,0⟩,[],[],0⟩:=by
 refine az func123 ?_;rw[vQ,Int.max_eq_left Ω];refine An (k:=2) ie.u eF.i Ω Ω λg V y h f=>?_;rw[cZ (cs:=#[.slice (σ ⟨g,0,ν⟩) n n,.slice ν 0 0,.slice ν 0 0,.int .u64 0]) Ψ];refine bf λgT aa z p s=>?_;have A:=h.size;have e:(x1.agg #[Δ 0,.int .u64 0]).cells= #[Δ 0,.int .u64 0]:=rfl;have f:af V g eF ((p9 n (⟨0,0⟩:Cell)).flatMap iu):=by rw[<-Do,<-e];exact f
 have q:bi iu 2 eF V g (.slice (σ ⟨g,0,ν⟩) n n) (p9 n ⟨0,0⟩):=by
  refine⟨?_,λ_ _=>rfl⟩;rw[List.length_replicate];exact bX.full f (by simp[iu]) (by simp[maxLen];omega)
 refine⟨h.trans p,gT,rfl,by show w.heap.size<=gT;omega,g,0,0,_,_,_,s,q.ext p,bi.nil _ _ _ _ _,bi.nil _ _ _ _ _,λr a=>?_⟩;rcases a with a|a|a
 .have:=(q.leads a).1;show w.heap.size<=r;omega
 .exact (e4 a).elim
 .exact (e4 a).elim
theorem nY{α β:Type}{f:α->List β}:∀{L:List α}{i j:Nat}{a:α},L[i]?=σ a->j<(f a).length->(L.flatMap f)[((L.take i).flatMap f).length+j]?=(f a)[j]?
 |x::L,0,j,a,h,e=>by
  cases h;rw[List.take_zero,List.flatMap_nil,List.length_nil,X8,W0,Y9 e]
 |x::L,i+1,j,a,h,e=>by
  have h:L[i]?=σ a:=by simpa using h
  rw[List.take_succ_cons,W0,W0,r8,R5,X0 Ω,R6,nY h e]
theorem xa{α β:Type}{f:α->List β}:∀{L:List α}{i j:Nat}{a b:α}{x:β},L[i]?=σ a->j<(f a).length->f b=(f a).set j x->(L.flatMap f).set (((L.take i).flatMap f).length+j) x=(L.set i b).flatMap f
 |y::L,0,j,a,b,x,h,e,p=>by
  cases h;rw[List.take_zero,List.flatMap_nil,List.length_nil,X8,W0,List.set_cons_zero,W0,p,List.set_append_left _ _ e]
 |y::L,i+1,j,a,b,x,h,e,p=>by
  have h:L[i]?=σ a:=by simpa using h
  rw[List.take_succ_cons,W0,W0,r8,R5,T8 _ _ Ω,R6,xa h e p,List.set_cons_succ,W0]
theorem Dp{α β:Type}{f:α->List β}{L:List α}{i:Nat}{a:α}(h:L[i]?=σ a)(e:j<(f a).length):((L.take i).flatMap f).length+j<(L.flatMap f).length:=by
 have h1:=nY (f:=f) h e;rw[x6 e]at h1;exact(x4.1 h1).1
structure bJ where
 gone:Int
 mask:Int
 un:Λ
structure b7 where
 sc:Λ
 aj:Λ
 live:Int
 cs:Λ
structure tZ where
 v:Int
 sc:Λ
 pP:Λ
structure au where
 zero:Int
 vars:List bJ
 funs:List b7
 eg:List tZ
def hG(x:bJ):Λ:=x.gone::x.mask::x.un
def fw(x:b7):Λ:=x.live::x.cs
def iV(s:au):Λ:=[s.zero,(s.funs.length:Int),(s.eg.length:Int)]
def au.cells(s:au):Λ:=iV s++(s.vars.flatMap hG++s.funs.flatMap fw)
def fg(s:au)(i:Nat):Nat:=3+((s.vars.take i).flatMap hG).length
def eU(s:au)(j:Nat):Nat:=3+((s.vars.flatMap hG).length+((s.funs.take j).flatMap fw).length)
theorem Of(s:au):s.cells[0]?=σ s.zero:=rfl
theorem pQ{s:au}{i:Nat}{x:bJ}(h:s.vars[i]?=σ x)(e:j<x.un.length+2):s.cells[fg s i+j]?=(hG x)[j]?:=by
 have a:j<(hG x).length:=e;unfold au.cells fg;rw[R5,X0 (by simp[iV]),show(iV s).length=3 from rfl,R6,Y9 (Dp h a),nY h a]
theorem xb{s:au}{i:Nat}{x:b7}(h:s.funs[i]?=σ x)(a:j<x.cs.length+1):s.cells[eU s i+j]?=(fw x)[j]?:=by
 have e:j<(fw x).length:=a;unfold au.cells eU;rw[R5,R5,X0 (by simp[iV]),show(iV s).length=3 from rfl,R6,X0 Ω,R6,nY h e]
theorem Og(s:au)(c:Int):s.cells.set 0 c=({s with zero:=c}:au).cells:=rfl
theorem Dq{s:au}{i:Nat}{x y:bJ}(h:s.vars[i]?=σ x)(e:j<x.un.length+2)(f:hG y=(hG x).set j c):s.cells.set (fg s i+j) c=({s with vars:=s.vars.set i y}:au).cells:=by
 have a:j<(hG x).length:=e;unfold au.cells fg;rw[R5,T8 _ _ (by simp[iV]),show(iV s).length=3 from rfl,R6,List.set_append_left _ _ (Dp h a),xa h a f];rfl
theorem Oh{s:au}{i:Nat}{x y:b7}(h:s.funs[i]?=σ x)(a:j<x.cs.length+1)(e:fw y=(fw x).set j c):s.cells.set (eU s i+j) c=({s with funs:=s.funs.set i y}:au).cells:=by
 have f:j<(fw x).length:=a;unfold au.cells eU;rw[R5,R5,T8 _ _ (by simp[iV]),show(iV s).length=3 from rfl,R6,T8 _ _ Ω,R6,xa h f e];show _=iV {s with funs:=s.funs.set i y}++_;unfold iV;rw[b8]
theorem Oi{s:au}(x:b7):(s.cells++fw x).set 1 ((s.funs.length+1:Nat):Int)=({s with funs:=s.funs++[x]}:au).cells:=by
 unfold au.cells;simp only[S8,List.flatMap_singleton,iV,r8,V6,Y6];rfl
theorem rm(s:au):s.cells.length=3+((s.vars.flatMap hG).length+(s.funs.flatMap fw).length):=by
 unfold au.cells;rw[r8,r8];rfl
def rn(a sc:Λ):Λ:=sc.map λv=>a.getD v.toNat 0
def rp(k:Int)(a:Int)(p:bJ×Int):Int:=if p.1.gone≠0 then a else min (a+p.1.un.getD p.2.toNat 0) k
def rq(k:Int)(a:Λ)(e:Int)(f:b7):Int:=if f.live≠0 then min (e+bm f.aj f.cs (rn a f.sc)) k else e
def dropped(mask:Int)(v:Int):Bool:=mask.toNat.testBit v.toNat
def iv(p:bJ×Int):Bool:=decide (p.1.gone≠0)|| !dropped p.1.mask p.2
def hc(k:Int)(s:au)(a:Λ):Int:=if(s.vars.zip a).all iv then s.funs.foldl (rq k a) ((s.vars.zip a).foldl (rp k) s.zero)else k
def lA(s:au)(a:Λ):Prop:=a.length=s.vars.length/\∀(i:Nat)x v,s.vars[i]?=σ x->a[i]?=σ v->x.gone≠0\/(0<=v/\v<x.un.length)
structure bx(k:Int)(sizes:Λ)(s:au):Prop where
 eV:1<=k/\k<=2147483648
 eW:1<=sizes.length/\sizes.length<=64/\∀z∈sizes,1<=z/\z<=32
 zero:0<=s.zero/\s.zero<=k
 vars:s.vars.length=sizes.length
 var:∀(i:Nat)x z,s.vars[i]?=σ x->sizes[i]?=σ z->x.un.length=z.toNat/\(∀c∈x.un,0<=c/\c<=k)/\0<=x.mask/\x.mask<4294967296
 funs:∀f∈s.funs,fT sizes k (f.sc,f.cs)/\f.aj=bW sizes f.sc/\2<=f.sc.length
def newVar(u:Λ):bJ:=⟨0,0,u⟩
def kL(sizes:Λ)(g:cM):b7:=⟨g.1,bW sizes g.1,1,g.2⟩
def de(n:aJ):au:=⟨n.zero,n.unary.map newVar,n.funs.map (kL n.sizes),[]⟩
theorem Oj{n:aJ}(h:j2 n):bx n.k n.sizes (de n):=by
 refine⟨h.k,h.sizes,h.zero,by simp[de,h.kK],λi x z J e=>?_,λf ag=>?_⟩
 .have J:(n.unary.map newVar)[i]?=σ x:=J;rw[x8]at J;obtain⟨u,hu,rfl⟩:=X4.1 J;obtain⟨h1,a⟩:=h.unary i z u e hu;exact⟨h1,a,Int.le_refl _,by show(0:Int)<_;omega⟩
 .obtain⟨g,p,rfl⟩:=j5.1 ag;obtain⟨h1,a⟩:=h.funs g p;exact⟨h1,rfl,a⟩
theorem xc{a:Nat}{n:aJ}(h:gh w a n):am x7 Hm [Γ a] w λv w'=>v=Δ (n.sizes.length:Int)/\Ext w w':=by
 obtain⟨q,r,s,x,gr,aX,L,nm,szv,gz,fv2,h1,e,f,y,z,A,B⟩:=h;refine az func87 ?_;rw[dc mI.u];simp only[Z5,a1];rw[aQ fL.p 0 h1 rfl,aQ cE.p 2 e rfl,aW an.u f.ls];exact⟨rfl,Ext.refl _⟩
theorem Ol{a:Nat}{n:aJ}(h:gh w a n):am x7 H4 [Γ a] w λv w'=>v=Δ n.k/\Ext w w':=by
 obtain⟨f,q,r,s,gr,aX,L,nm,szv,gz,fv2,h1,e,x,y,z,A,B⟩:=h;refine az func153 ?_;rw[dc mI.u];simp only[Z5,a1];rw[aQ fL.p 0 h1 rfl,aQ cE.p 1 e rfl];exact⟨rfl,Ext.refl _⟩
theorem Om{a:Nat}{n:aJ}(h:gh w a n):am x7 HH [Γ a] w λv w'=>v=Δ n.zero/\Ext w w':=by
 obtain⟨e,f,q,r,gr,aX,L,nm,szv,gz,fv2,h1,s,x,y,z,A,B⟩:=h;refine az func125 ?_;rw[dc mI.u];simp only[Z5,a1];rw[aQ fL.p 1 h1 rfl];exact⟨rfl,Ext.refl _⟩
theorem Dr{a:Nat}{n:aJ}(h:gh w a n):am x7 zO [Γ a] w λv w'=>v=Δ (n.funs.length:Int)/\Ext w w':=by
 obtain⟨q,r,s,x,gr,aX,L,nm,szv,gz,fv2,h1,y,z,A,B,e,f⟩:=h;refine az func128 ?_;rw[dc mI.u];simp only[Z5,a1];rw[aQ fL.p 3 h1 rfl,ea k9.u e.1];exact⟨by rw[<-f,u9],Ext.refl _⟩
theorem Ds{x:Nat}{n:aJ}{i:Int}(h:gh w x n)(f:j2 n):am x7 HI [Γ x,Δ i] w λv w'=>Ext w w'/\(¬(0<=i/\i<n.sizes.length)->v= .slice ν 0 0)/\
  ∀u,0<=i->n.unary[i.toNat]?=σ u->∃g,w.heap.size<=g/\av .i64 ao w' g v u:=by
 refine az func126 ?_;have K:=f.kK;refine aV (λv V=>v= .bool (decide (¬(0<=i/\i<n.sizes.length)))/\Ext w V) ?_ ?_
 .rintro _ V ⟨rfl,e⟩;rw[al];refine⟨λE=>⟨e,λ_=>rfl,λu G hu=>?_⟩,λq=>?_⟩
  .have:=(x4.1 hu).1;exact absurd ⟨G,Ω⟩ E
  have q:0<=i/\i<n.sizes.length:=Y0.1 q;obtain⟨M,N,O,P,gr,aX,L,nm,szv,gz,fv2,h1,Q,R,r,y,S,U⟩:=h.ext e;have W:aX.length=n.unary.length:=by rw[<-y,u9]
  obtain⟨a,s⟩:=aI (l:=aX) (i:=i.toNat) Ω;obtain⟨X,hm⟩:=r.2 a (x5 s);rw[aQ fL.p 2 h1 rfl,dj (i:=i.toNat) Ω eE.u ay.i r.1 Ω,aw (o:=i.toNat*1) Ψ (r.1.range s 0 _ rfl)];have A:n.unary[i.toNat]?=σ a.l:=by rw[<-y,x8,s];rfl
  have Y:a.l.length<=32:=by
   obtain⟨z,B⟩:=aI (l:=n.sizes) (i:=i.toNat) Ω;have Z:=(f.unary i.toNat z a.l B A).1;have ab:=f.sizes.2.2 z (x5 B);omega
  refine(vW hm.ls Ω).mono ?_;rintro v aa _ ⟨H,g,ac,I⟩;refine⟨e.trans H,λJ=>absurd q J,λu _ hu=>⟨g,by have:=e.size;omega,?_⟩⟩;rw[A]at hu;cases hu;exact I
 .intro aB C;rw[aS,al];refine⟨λad=>C _ _ ⟨by rw[decide_eq_true];omega,Ext.refl _⟩,λae=>?_⟩;refine(xc h).mono ?_;rintro _ V _ ⟨rfl,e⟩;rw[cn];refine C _ _ ⟨?_,e⟩;congr 1;rw[V9,decide_eq_true_eq,decide_eq_true_eq];omega
theorem Dt{p:Nat}{n:aJ}{i:Int}(h:gh w p n)(a:j2 n):am x7 Hr [Γ p,Δ i] w λv w'=>Ext w w'/\v=Δ (if 0<=i then n.sizes.getD i.toNat 0 else 0):=by
 refine az func92 ?_;refine(Ds h a).mono ?_;rintro v V _ ⟨q,s,x⟩;by_cases e:0<=i/\i<n.sizes.length
 .have y:=a.kK;obtain⟨u,hu⟩:=aI (l:=n.unary) (i:=i.toNat) Ω;obtain⟨z,f⟩:=aI (l:=n.sizes) (i:=i.toNat) Ω;obtain⟨g,_,hm⟩:=x u e.1 hu;rw[aW ay.u hm.ls];refine⟨q,?_⟩;have A:=(a.unary i.toNat z u f hu).1;have B:=a.sizes.2.2 z (x5 f);rw[if_pos e.1,u4,f];congr 1;simp only[V1];omega
 .rw[s e,hr ay.u];refine⟨q,?_⟩;by_cases r:0<=i
  .rw[if_pos r,u4,Z4 Ω];rfl
  .rw[if_neg r];rfl
theorem Du{a:Nat}{n:aJ}{j:Int}(h:gh w a n)(f:∀w',Ext w w'->K (.bool (decide (¬(0<=j/\j<n.funs.length)))) w'):
  ac x7 (aN .lss ah false true (Δ j) (Δ 0)) w λq=>Split q (K (.bool true) w) (am x7 zO [Γ a] w λr p=>ac x7 (aN .geq ah false false (Δ j) r) p λs=>K s p):=by
 rw[aS,al];refine⟨λy=>?_,λz=>?_⟩
 .have:=f w (Ext.refl _);rw[decide_eq_true (show¬(0<=j/\j<n.funs.length) by omega)]at this;exact this
 .refine (Dr h).mono ?_;rintro _ V _ ⟨rfl,x⟩;rw[cn];have:=f V x;have e:decide ((n.funs.length:Int)<=j)=decide (¬(0<=j/\j<n.funs.length)):=by
   rw[V9,decide_eq_true_eq,decide_eq_true_eq];omega
  rw[<-e]at this;exact this
theorem On{s:Nat}{n:aJ}{g:cM}(h:gh w s n)(z:j2 n)(e:n.funs[j]?=σ g):am x7 HK [Γ s,Δ (j:Int)] w λv w'=>Ext w w'/\∃gs,w.heap.size<=gs/\av .i64 ah w' gs v g.1:=by
 refine az func130 ?_;have E:=(x4.1 e).1;refine aV (λv V=>v= .bool (decide (¬(0<=(j:Int)/\(j:Int)<n.funs.length)))/\Ext w V) ?_ λaB A=>Du h λw' J=>A _ _ ⟨rfl,J⟩;rintro _ V ⟨rfl,f⟩;rw[decide_eq_false Ω,a1];obtain⟨G,H,I,K,gr,aX,L,nm,szv,gz,fv2,h1,M,N,O,P,q,x⟩:=h.ext f;have Q:L.length=n.funs.length:=by rw[<-x,u9]
 obtain⟨a,r⟩:=aI (l:=L) (i:=j) Ω;have y:dT a=g:=by rw[<-x,x8,r]at e;exact Z0 e
 obtain⟨⟨R,hm⟩,_⟩:=q.2 a (x5 r);rw[aQ fL.p 3 h1 rfl,dj rfl k9.u hq.i q.1 Ω,aU hq.p rfl,aw Ψ (q.1.range r 0 _ rfl)];have S:a.sc.length<=6:=by
  have:=(z.funs g (x5 e)).1.scope.2;rw[<-y]at this;exact this
 refine(kB hm.ls Ω).mono ?_;rintro v aa _ ⟨B,gs,U,C⟩;refine⟨f.trans B,gs,by have:=f.size;omega,?_⟩;rw[<-y];exact C
theorem Oo{g:Nat}{cs:Λ}(h:df w g B sv aj k cs):am x7 IF [Γ g] w λv w'=>Ext w w'/\∃a e,v=Γ a/\w.heap.size<=a/\w.heap.size<=e/\df w' a e sv aj k cs:=by
 obtain⟨⟨a6,gs,C,hm,E⟩,⟨h1,J,G⟩,U,x⟩:=h;refine az func211 ?_;rw[dc eQ.u];simp only[Z5,a1];intro V f _ _;have r:=C.ext f;have K:=prod_bound U;rw[bV,aU cY.p rfl,bK (cs:=[sv]) bz.p bz.i rfl (n3 r (by
  intro j v ad
  match j,ad with
  |0,ad=>exact ad)),aQ cY.p 1 r rfl,aQ cY.p 2 r rfl]
 refine(vW (E.ls.ext f) Ω).mono ?_;rintro y aa _ ⟨s,e,L,q⟩;refine⟨.inl s,?_⟩;rw[cZ (cs:=#[sv,Δ k,y]) (by obtain⟨_,_,_,rfl⟩:=cU hm.ls;obtain⟨_,_,_,rfl⟩:=cU q.ls;kernel_rfl)];refine bf λa M N z H=>?_;have O:=f.size;have P:=s.size;have Q:=q;have A:=(f.trans s).trans z;refine⟨A,a,e,rfl,Ω,Ω,⟨y,gs,H,hm.ext A,q.ext z⟩,⟨?_,?_,G⟩,U,x⟩
 .have:=tH q (by rw[x];omega);omega
 .intro I;obtain⟨R,S⟩:=bQ hm I;omega
theorem Oq{z:Nat}{n:aJ}{g:cM}(A:gh w0 z n)(B:Ext w0 w)(f:n.funs[j]?=σ g):am x7 HL [Γ z,Δ (j:Int)] w λv w'=>Ext w w'/\∃gt q sv,v=Γ gt/\w.heap.size<=gt/\w.heap.size<=q/\df w' gt q sv (bW n.sizes g.1) n.k g.2/\∀r,leads sv r->∃c,af w0 r ah c:=by
 have h:=A.ext B;refine az func131 ?_;have S:=(x4.1 f).1;refine aV (λv V=>v= .bool (decide (¬(0<=(j:Int)/\(j:Int)<n.funs.length)))/\Ext w V) ?_ λaB I=>Du h λw' J=>I _ _ ⟨rfl,J⟩;rintro _ V ⟨rfl,s⟩;rw[decide_eq_false Ω,a1];have e:=B.trans s;obtain⟨U,W,X,Y,gr,aX,L,nm,szv,gz,fv2,h1,Z,ab,ac,ae,x,C⟩:=A;have ag:L.length=n.funs.length:=by rw[<-C,u9]
 obtain⟨a,y⟩:=aI (l:=L) (i:=j) Ω;have K:dT a=g:=by rw[<-C,x8,y]at f;exact Z0 f
 obtain⟨_,q,M,E⟩:=x.2 a (x5 y);rw[aQ fL.p 3 (h1.ext e) rfl,dj rfl k9.u hq.i (x.1.ext e) Ω,aU hq.p rfl,aw Ψ ((x.1.ext e).range y 1 _ rfl)];refine(Oo (E.ext e)).mono ?_;rintro v aa _ ⟨N,gt,O,rfl,ai,aj,P⟩;have ak:=s.size;refine⟨s.trans N,gt,O,M,rfl,Ω,Ω,?_,λr G=>?_⟩
 .rw[<-K];exact P
 .obtain⟨⟨_,_,_,hm,_⟩,_⟩:=E;obtain⟨Q,_⟩:=bQ hm G;rcases hm.2 with⟨ad,_⟩|⟨_,cs,_,R,_⟩
  .obtain⟨_,_,_,H,al⟩:=G;rw[ad]at H;cases H
  .exact⟨cs,Q▸R⟩
structure pR where
 aK:x1
 szv:x1
 at_:Nat
def mm(x:pR):List x1:=[x.aK,x.szv,Δ (x.at_:Int)]
structure rr where
 v:Int
 aK:x1
 bv:x1
def xd(x:rr):List x1:=[Δ x.v,x.aK,x.bv]
def iw(s:au):Λ:=(X3 s.vars.length).map λi=>(fg s i:Int)
def iW(R:ak)(w:x3)(v:x1)(l:Λ):Prop:=(∃g,av .i64 ah w g v l)/\∀r,leads v r->R r
theorem iW.ls{R:ak}(h:iW R w v l):aH .i64 w v l:=by
 obtain⟨⟨g,h⟩,_⟩:=h;exact h.ls
theorem iW.ab{R S:ak}(h:iW R w v l)(f:ai S w w')(p:∀r,r<w.heap.size->R r->¬S r):iW R w' v l:=by
 obtain⟨⟨g,h1⟩,a⟩:=h;exact⟨⟨g,bt h1 f λr e=>p r (by obtain⟨q,s⟩:=bQ h1 e;omega) (a r e)⟩,a⟩
theorem iW.mono{R R':ak}(h:iW R w v l)(a:∀r,R r->R' r):iW R' w v l:=⟨h.1,λr e=>a r (h.2 r e)⟩
def lB(R:ak)(w:x3)(L:List pR)(s:au):Prop:=L.length=s.funs.length/\∀(j:Nat)x f,L[j]?=σ x->s.funs[j]?=σ f->iW R w x.aK f.sc/\iW R w x.szv f.aj/\x.at_=eU s j
def mn(R:ak)(w:x3)(E:List rr)(s:au):Prop:=E.length=s.eg.length/\∀(j:Nat)x e,E[j]?=σ x->s.eg[j]?=σ e->x.v=e.v/\iW R w x.aK e.sc/\iW R w x.bv e.pP
theorem lB.ab{R S:ak}{L:List pR}{s:au}(h:lB R w L s)(a:ai S w w')(e:∀r,r<w.heap.size->R r->¬S r):lB R w' L s:=⟨h.1,λj x f J ag=>by
 obtain⟨h1,p,q⟩:=h.2 j x f J ag;exact⟨h1.ab a e,p.ab a e,q⟩⟩
theorem mn.ab{R S:ak}{E:List rr}{s:au}(h:mn R w E s)(a:ai S w w')(e:∀r,r<w.heap.size->R r->¬S r):mn R w' E s:=⟨h.1,λj x f J ag=>by
 obtain⟨h1,p,q⟩:=h.2 j x f J ag;exact⟨h1,p.ab a e,q.ab a e⟩⟩
theorem lB.mono{R R':ak}{L:List pR}{s:au}(h:lB R w L s)(a:∀r,R r->R' r):lB R' w L s:=⟨h.1,λj x f J ag=>by
 obtain⟨h1,e,p⟩:=h.2 j x f J ag;exact⟨h1.mono a,e.mono a,p⟩⟩
theorem mn.mono{R R':ak}{E:List rr}{s:au}(h:mn R w E s)(a:∀r,R r->R' r):mn R' w E s:=⟨h.1,λj x f J ag=>by
 obtain⟨h1,e,p⟩:=h.2 j x f J ag;exact⟨h1,e.mono a,p.mono a⟩⟩
theorem ua{a b c:x3}(h:Ext a b)(k:ai S b c)(f:∀r o,a.heap[r]?=σ o->fF o=true->¬S r):Ext a c:=
 ⟨Y8 h.size k.size,λr o e U=>k.aZ r o (h.aZ r o e U) U (f r o e U)⟩
theorem dt.cut{A:ak}{t:aC}(h:dt w gT A t):dt w gT (λr=>A r/\r<w.heap.size) t:=by
 obtain⟨x,y,go,dh,a6,z,dJ,h1,e,f,p,B⟩:=h;refine⟨⟨x,h1.lt⟩,y,go,dh,a6,z,dJ,h1,e,f,p,λr a=>⟨B r a,?_⟩⟩;rcases a with a|a|a
 .obtain⟨q,s⟩:=e.leads a;omega
 .obtain⟨q,s⟩:=f.leads a;omega
 .obtain⟨q,s⟩:=p.leads a;omega
def eL(w:x3)(ae gT p:Nat)(e f h:x1)(A R:ak)(n:aJ)(s:au)(t:aC):Prop:=
 (A ae/\(∀r,A r->¬R r)/\(∀r,R r->r<w.heap.size)/\∀r,A r->r<w.heap.size)/\∃aY q ge,∃(L:List pR)(E:List rr)(a:ak)(w0:x3),
  af w ae cq [Γ p,Γ gT,e,f,h]/\(gh w0 p n/\Ext w0 w/\∀r o,w0.heap[r]?=σ o->fF o=true->R r)/\
  (dt w gT a t/\(∀r,a r->A r)/\¬a ae/\∀r,leads e r\/leadsTo f r\/leadsTo h r->A r/\¬a r)/\av .i64 ah w aY e (iw s)/\
  (bi mm 3 dC w q f L/\lB R w L s)/\bi xd 3 gp w ge h E/\mn R w E s
theorem eL.ab{S:ak}{C F G:x1}{A R:ak}{n:aJ}{s:au}{t:aC}(h:eL w ae gT B C F G A R n s t)(e:ai S w w')(f:∀r,r<w.heap.size->A r\/R r->¬S r):eL w' ae gT B C F G A R n s t:=by
 obtain⟨⟨h1,p,W,X⟩,aY,Y,ge,L,E,Z,w0,H,⟨aa,I,J⟩,⟨ac,q,ad,x⟩,K,⟨M,af⟩,N,ag⟩:=h;have z:=e.size;refine⟨⟨h1,p,λr a=>by have:=W r a;omega,λr a=>by have:=X r a;omega⟩,aY,Y,ge,L,E,Z,w0,H.ab e (f _ H.lt (.inl h1)),⟨aa,ua I e λr o a ah U=>f r (by have:=I.size;have:=(j4.1 a).1;omega) (.inr (J r o a ah)) U,J⟩,
  ⟨?_,q,ad,x⟩,bt K e λr a U=>f r ?_ (.inl (x r (.inl a)).1) U,⟨M.ab e λr a U=>f r ?_ (.inl (x r (.inr (.inl a))).1) U,af.ab e λr a h=>f r a (.inr h)⟩,N.ab e λr a U=>f r ?_ (.inl (x r (.inr (.inr a))).1) U,ag.ab e λr a h=>f r a (.inr h)⟩
 .obtain⟨O,aj,go,dh,a6,al,dJ,P,Q,T,V,y⟩:=ac;refine⟨O,aj,go,dh,a6,al,dJ,P.ab e (f _ P.lt (.inl (q _ O))),Q.ab e λr a U=>?_,T.ab e λr a U=>?_,V.ab e λr a U=>?_,y⟩
  .exact f r (by obtain⟨h1,p⟩:=Q.leads a;omega) (.inl (q _ (y r (.inl a)))) U
  .exact f r (by obtain⟨h1,p⟩:=T.leads a;omega) (.inl (q _ (y r (.inr (.inl a))))) U
  .exact f r (by obtain⟨h1,p⟩:=V.leads a;omega) (.inl (q _ (y r (.inr (.inr a))))) U
 .obtain⟨h1,p⟩:=bQ K a;omega
 .obtain⟨h1,p⟩:=M.leads a;omega
 .obtain⟨h1,p⟩:=N.leads a;omega
theorem eL.ext{a:Nat}{e f p:x1}{A R:ak}{n:aJ}{s:au}{t:aC}(h:eL w ae gT a e f p A R n s t)(J:Ext w w'):eL w' ae gT a e f p A R n s t:=h.ab (J.ab λ_=>False) λ_ _ _ h=>h
theorem eL.rt{F:Nat}{G H I:x1}{A R:ak}{n:aJ}{s:au}{t:aC}(h:eL w ae gT F G H I A R n s t):∃x,dt w gT x t/\∀q w' bp,Grow x w q w'->dt w' gT q bp->∃aT,Grow A w aT w'/\eL w' ae gT F G H I aT R n s bp:=by
 obtain⟨⟨h1,f,J,K⟩,aY,X,ge,L,E,x,w0,M,⟨Y,Z,N⟩,⟨aa,p,O,y⟩,P,⟨Q,ac⟩,S,ad⟩:=h;refine⟨x,aa,λT w' bp z af=>?_⟩;have V:=af.cut;have e:Grow x w (λr=>T r/\r<w'.heap.size) w':=⟨z.1,λr a=>z.2.1 r a.1,λr a=>⟨z.2.2 r a,by have:=K r (p r a);have:=z.1.size;omega⟩⟩;obtain⟨q,W⟩:∃B:ak,B=λr=>T r/\r<w'.heap.size:=⟨_,rfl⟩;rw[<-W]at V e;have ag:∀r,q r->r<w'.heap.size:=λr h=>by rw[W]at h;exact h.2
 refine⟨λr=>A r\/q r,⟨e.1.mono λr _ a=>p r a,λr a=>?_,λr a=>.inl a⟩,⟨.inl h1,λr a C=>?_,λr a=>?_,λr a=>?_⟩,aY,X,ge,L,E,q,w0,M.ab e.1 O,⟨Y,ua Z e.1 λr o a ah U=>f r (p r U) (N r o a ah),N⟩,
  ⟨V,λr a=>.inr a,λa=>?_,λr a=>⟨.inl (y r a).1,λai=>?_⟩⟩,bt P e.1 λr a U=>(y r (.inl a)).2 U,⟨Q.ab e.1 λr a U=>(y r (.inr (.inl a))).2 U,ac.ab e.1 λr _ a U=>f r (p r U) a⟩,S.ab e.1 λr a U=>(y r (.inr (.inr a))).2 U,ad.ab e.1 λr _ a U=>f r (p r U) a⟩
 .rcases a with a|a
  .exact .inl a
  .exact (e.2.1 r a).imp (p r) id
 .have:=J r C;rcases a with a|a
  .exact f r a C
  .rcases e.2.1 r a with h|h
   .exact f r (p r h) C
   .omega
 .have:=J r a;have:=e.1.size;omega
 .rcases a with a|a
  .have:=K r a;have:=e.1.size;omega
  .exact ag r a
 .rcases e.2.1 _ a with h|h
  .exact O h
  .have:=M.lt;omega
 .rcases e.2.1 r ai with h|h
  .exact (y r a).2 h
  .rcases a with a|a|a
   .obtain⟨h1,f⟩:=bQ P a;omega
   .obtain⟨h1,f⟩:=Q.leads a;omega
   .obtain⟨h1,f⟩:=S.leads a;omega
def StateM(w:x3)(ae gT:Nat)(A R:ak)(n:aJ)(s:au)(t:aC):Prop:=∃a e f h,eL w ae gT a e f h A R n s t
theorem StateM.ab{S:ak}{A R:ak}{n:aJ}{s:au}{t:aC}(h:StateM w ae gT A R n s t)(a:ai S w w')(e:∀r,r<w.heap.size->A r\/R r->¬S r):StateM w' ae gT A R n s t:=by
 obtain⟨f,p,q,x,h⟩:=h;exact⟨f,p,q,x,h.ab a e⟩
theorem StateM.ext{A R:ak}{n:aJ}{s:au}{t:aC}(h:StateM w ae gT A R n s t)(J:Ext w w'):StateM w' ae gT A R n s t:=h.ab (J.ab λ_=>False) λ_ _ _ h=>h
theorem StateM.rt{A R:ak}{n:aJ}{s:au}{t:aC}(h:StateM w ae gT A R n s t):∃a,dt w gT a t/\∀e w' bp,Grow a w e w'->dt w' gT e bp->∃aT,Grow A w aT w'/\StateM w' ae gT aT R n s bp:=by
 obtain⟨f,p,q,r,h⟩:=h;obtain⟨a,h1,x⟩:=h.rt;exact⟨a,h1,λe w' bp y z=>by
  obtain⟨aT,B,C⟩:=x e w' bp y z;exact⟨aT,B,f,p,q,r,C⟩⟩
def ox(s s':au):Prop:=iw s'=iw s/\s'.funs.length=s.funs.length/\(∀(j:Nat)a,s'.funs[j]?=σ a->∃f,s.funs[j]?=σ f/\a.sc=f.sc/\a.aj=f.aj/\eU s' j=eU s j)/\s'.eg=s.eg
theorem eL.same{a:Nat}{e p q:x1}{A R:ak}{n:aJ}{s s':au}{t:aC}(h:eL w ae gT a e p q A R n s t)(U:ox s s'):eL w ae gT a e p q A R n s' t:=by
 obtain⟨aA,aY,y,ge,L,E,z,w0,B,C,F,G,⟨H,r⟩,I,K⟩:=h;obtain⟨M,N,O,P⟩:=U;refine⟨aA,aY,y,ge,L,E,z,w0,B,C,F,by rw[M];exact G,⟨H,r.1.trans N.symm,λj x Q J S=>?_⟩,I,?_⟩
 .obtain⟨f,ag,T,V,W⟩:=O j Q S;rw[T,V,W];exact r.2 j x f J ag
 .unfold mn;rw[P];exact K
theorem StateM.same{A R:ak}{n:aJ}{s s':au}{t:aC}(h:StateM w ae gT A R n s t)(U:ox s s'):StateM w ae gT A R n s' t:=by
 obtain⟨a,e,f,p,h⟩:=h;exact⟨a,e,f,p,h.same U⟩
theorem ub{α β:Type}{f:α->List β}:∀{L:List α}{i j:Nat}{a b:α},L[i]?=σ a->(f b).length=(f a).length->(((L.set i b).take j).flatMap f).length=((L.take j).flatMap f).length
 |[],_,_,_,_,h,_=>by simp at h
 |x::L,0,j,a,b,h,e=>by
  cases h;cases j with
  |zero=>rfl
  |succ j=>simp[e]
 |x::L,i+1,j,a,b,h,e=>by
  have h:L[i]?=σ a:=by simpa using h
  cases j with
  |zero=>rfl
  |succ j=>
   rw[List.set_cons_succ,List.take_succ_cons,List.take_succ_cons,W0,W0,r8,r8,ub h e]
theorem Dv(s:au)(c:Int):ox s {s with zero:=c}:=⟨rfl,rfl,λj f h=>⟨f,h,rfl,rfl,rfl⟩,rfl⟩
theorem Dw{s:au}{i:Nat}{x y:bJ}(J:s.vars[i]?=σ x)(a:y.un.length=x.un.length):ox s {s with vars:=s.vars.set i y}:=by
 have ag:(hG y).length=(hG x).length:=by simp[hG,a]
 refine⟨?_,rfl,λj f h=>⟨f,h,rfl,rfl,?_⟩,rfl⟩
 .unfold iw;rw[show({s with vars:=s.vars.set i y}:au).vars.length=s.vars.length from b8];apply List.map_congr_left;intro j _;unfold fg;rw[ub J ag]
 .unfold eU;have:=ub (j:=s.vars.length) J ag;rw[j6 Ξ,j6 (o4 _)]at this;show 3+(((s.vars.set i y).flatMap hG).length+_)=_;rw[this]
theorem Ot{s:au}{i:Nat}{x y:b7}(J:s.funs[i]?=σ x)(p:y.cs.length=x.cs.length)(h1:y.sc=x.sc)(q:y.aj=x.aj):ox s {s with funs:=s.funs.set i y}:=by
 have ag:(fw y).length=(fw x).length:=by simp[fw,p]
 refine⟨rfl,b8,λj f h=>?_,rfl⟩;have h:(s.funs.set i y)[j]?=σ f:=h;have e:eU {s with funs:=s.funs.set i y} j=eU s j:=by
  unfold eU;show 3+(_+(((s.funs.set i y).take j).flatMap fw).length)=_;rw[ub J ag]
 by_cases a:i=j
 .subst a;rw[b9 (x4.1 J).1]at h;cases h;exact⟨x,J,h1,q,e⟩
 .rw[Y4 a]at h;exact⟨f,h,rfl,rfl,e⟩
end Go.Proofs.YtikkpokkcdocoabGreatDoor
