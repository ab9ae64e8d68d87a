/- own texts, made small by a tool (wip/ holds them as they were written): no statement of the seat. -/
import Derived.Test.YtikkpokkcdocoabGreatDoorYb
set_option linter.unusedVariables false
set_option linter.unusedSimpArgs false
set_option linter.unnecessarySimpa false
open Array renaming getElem?_eq_some_iff→l9,getElem?_toList→S6
open Bool renaming not_true→X1,not_false→W7,eq_iff_iff→V9,or_eq_false_iff→S5
open Decidable renaming not_not→Z9
open Go renaming Value→x1,World→x3,TypeId→p9,IntKind→o6,Builtin→Z3,Program→W5,FuncId→R5
open Go.Addr renaming add_mid→U7
open Go.Builtin renaming append_→Z0,len_→W9
open Go.Instr renaming loadAt→u5,fieldAt→u6,storeAt→o8,indexAt→c7,extract→Y0,buildSlice→Y4,sliceAt→V8
open Go.IntKind renaming i64→X5
open Go.Proofs.Tryz renaming prog→x7
open Go.Value renaming int→V4
open Int renaming toNat_natCast→u7
open List renaming getElem?_eq_some_iff→x4,mem_of_getElem?→x5,getElem?_eq_getElem→x6,getElem?_map→x8,getD_eq_getElem?_getD→u4,take_add_one→u9,length_map→r8,length_append→r9,replicate→p8,mem_append→o5,take_length→o7,mem_singleton→o9,length_take→n9,mem_map→j4,eq_nil_of_length_eq_zero→j6,length_cons→c8,length_set→c9,take_of_length_le→b6,getElem?_set_self→b8,getElem?_eq_none→Z2,map_append→Z4,getElem?_take_of_lt→Z7,getElem?_set_ne→Y2,ext_getElem?→Y3,getElem?_append_left→Y5,getElem?_append_right→Y6,getElem?_set→Y9,range→X0,mem_iff_getElem?→X3,drop_eq_getElem_cons→X6,flatMap_cons→X7,mem_or_eq_of_mem_set→X9,length_eq_one_iff→W6,append_nil→W8,append_assoc→V0,mem_cons→V3,pairwise_iff_getElem→V6,map_set→U4,map_cons→U6,length_singleton→T1,mem_filter→T3,set_append_right→T4,mem_range→T6,getElem_mem→S0,foldl_cons→S1,length→S3,map_map→S9,length_filter_le→R3
open Nat renaming le_refl→o4,le_trans→Y8,zero_add→X2,zero_le→X4,mul_le_mul_right→X8,mul_one→U1,add_mul→U2,sub_self→U3,add_assoc→R2,add_sub_cancel_left→R4,lt_of_lt_of_le→R7,eq_zero_or_pos→Q0
open Option renaming toList_some→j5,isNone_some→Z5,map_some→Z6,map_eq_some_iff→Y7,getD_some→V2,map→V5
open Option.some renaming inj→b9,injEq→Y1
open Prod.mk renaming injEq→T0
set_option maxHeartbeats 16000000
open Option renaming some→σ,none→ν
variable{a ak l scope sizes t:Λ}{bh bv sv v:x1}{c k y:Int}{B N ae gT gs j n r:Nat}{cs:List x1}{w w' w0:x3}{e:p9}{S:Nat->Prop}{K:x1->x3->Prop}
namespace Go.Proofs.YtikkpokkcdocoabGreatDoor
open Go Go.Vc Go.RowKit Go.Proofs Go.Proofs.Tryz
set_option maxRecDepth 100000
def kB(l:Λ):Prop:=∀v∈l,0<=v/\v<64
theorem qU(h:kB l){v:Int}:v∈bo l↔v∈l:=by
 unfold bo;rw[T3,decide_eq_true_eq];refine⟨λh=>h.2,λad=>⟨?_,ad⟩⟩;obtain⟨h1,a⟩:=h v ad;exact j4.2 ⟨v.toNat,T6.2 Ω,Ω⟩
theorem Mh(l:Λ):kB (bo l):=λv ad=>by
 obtain⟨n,a,rfl⟩:=j4.1 (T3.1 ad).1;have:=T6.1 a;omega
theorem wx(l:Λ):(bo l).Pairwise (·< ·):=by
 unfold bo;refine List.Pairwise.filter _ ?_;rw[List.pairwise_map];exact List.pairwise_lt_range.imp λh=>Ω
theorem Cm(l:Λ):(bo l).Nodup:=(wx l).imp λh=>Ω
where
 nodup_le' {a b:Λ} (h:a.Nodup) (U:∀x∈a,x∈b):a.length<=b.length:=by
  induction a generalizing b with
  |nil=>exact X4 _
  |cons x a ih=>
   have h':=List.nodup_cons.1 h;have J:=U x (.head _);have:=ih (b:=b.erase x) h'.2 λy hy=>(List.mem_erase_of_ne (λ(he:y=x)=>h'.1 (by rw[<-he];exact hy))).2 (U y (.tail _ hy));rw[List.length_erase_of_mem J]at this;have:=List.length_pos_of_mem J;rw[c8];omega
theorem Cn(n:Nat):(0:Int)<64 ^ n:=Int.pow_pos Ω
theorem th:∀(l:Λ),kB l->0<=js l/\js l<64 ^ l.length
 |[],_=>by simp[js]
 |x::l,h=>by
  have f:=th l λy a=>h y (.tail _ a);have J:=h x (.head _);have p:=Cn l.length;simp only[js,c8];have e:(64:Int) ^ (l.length+1)=64*64 ^ l.length:=by rw[Int.pow_succ,Int.mul_comm]
  have h1:x*64 ^ l.length<=63*64 ^ l.length:=Int.mul_le_mul_of_nonneg_right Ω Ω;have q:0<=x*64 ^ l.length:=Int.mul_nonneg J.1 Ω;rw[e];omega
def gb:Λ->Λ->Int
 |x::a,y::b=>if x<y then-1 else if y<x then 1 else gb a b
 |[],[]=>0
 |[],_::_=>-1
 |_::_,[]=>1
theorem Co:∀(a b:Λ),a.length=b.length->kB a->kB b->(gb a b<0↔js a<js b)/\(gb a b=0↔a=b)/\(js a=js b->a=b)
 |[],[],_,_,_=>by simp[gb]
 |[],_::_,h,_,_=>by simp at h
 |_::_,[],h,_,_=>by simp at h
 |x::a,y::b,h,w,A=>by
  have q:a.length=b.length:=by simpa using h
  have r:kB a:=λz e=>w z (.tail _ e);have s:kB b:=λz e=>A z (.tail _ e);have f:=Co a b q r s;have B:=th a r;have E:=th b s;have F:=Cn b.length;simp only[gb,js];rw[q]at B ⊢;have step:∀u v:Int,u<v->u*64 ^ b.length+64 ^ b.length<=v*64 ^ b.length:=λu v G=>by
   have:=Int.mul_le_mul_of_nonneg_right (show u+1<=v by omega) (show(0:Int)<=64 ^ b.length by omega);rw[Int.add_mul,Int.one_mul]at this;exact this
  by_cases h1:x<y
  .rw[if_pos h1];have:=step x y h1;exact⟨⟨λ_=>Ω,λ_=>Ω⟩,⟨λh=>Ω,λh=>by have:=(List.cons.inj h).1;omega⟩,λh=>Ω⟩
  .rw[if_neg h1];by_cases p:y<x
   .rw[if_pos p];have:=step y x p;exact⟨⟨λh=>Ω,λh=>Ω⟩,⟨λh=>Ω,λh=>by have:=(List.cons.inj h).1;omega⟩,λh=>Ω⟩
   .rw[if_neg p];have C:x=y:=Ω
    subst C;exact⟨f.1.trans ⟨λh=>Ω,λh=>Ω⟩,f.2.1.trans ⟨λh=>by rw[h],λh=>(List.cons.inj h).2⟩,λh=>by rw[f.2.2 Ω]⟩
def jt(l:Λ):Prop:=kB l/\l.length<=6
theorem Cp(h:jt l):0<=js l/\js l<64 ^ 6:=by
 have:=th l h.1;have e:(64:Int) ^ l.length<=64 ^ 6:=by
  have a:=h.2
  match l.length,a with
  |0,_=>decide
  |1,_=>decide
  |2,_=>decide
  |3,_=>decide
  |4,_=>decide
  |5,_=>decide
  |6,_=>decide
  |n+7,h=>omega
 omega
theorem wy{b:Λ}(p:jt a)(q:jt b):(dd a<dd b↔a.length<b.length\/(a.length=b.length/\gb a b<0))/\(dd a=dd b->a=b):=by
 have h1:=Cp p;have r:=Cp q;have e:(64:Int) ^ 6=68719476736:=Φ
 rw[e]at h1 r;unfold dd;rw[e];by_cases f:a.length=b.length
 .have:=Co a b f p.1 q.1;rw[f];exact⟨⟨λh=>.inr ⟨rfl,this.1.2 Ω⟩,λh=>by
   rcases h with h|⟨_,h⟩
   .omega
   .have:=this.1.1 h;omega⟩,λh=>this.2.2 Ω⟩
 .exact⟨⟨λh=>.inl Ω,λh=>by
   rcases h with h|⟨h,_⟩
   .omega
   .exact absurd h f⟩,λh=>Ω⟩
theorem ti(g:cK):∀l:List cK,(hC g l).Perm (g::l)
 |[]=>List.Perm.refl _
 |h::l=>by
  unfold hC;split
  .exact ((ti g l).cons h).trans (List.Perm.swap g h l)
  .exact List.Perm.refl _
theorem Cq{g:cK}:∀{l:List cK},l.Pairwise (λa b=>dd a.1<dd b.1)->(∀h∈l,dd h.1≠dd g.1)->(hC g l).Pairwise (λa b=>dd a.1<dd b.1)
 |[],_,_=>by simp[hC]
 |h::l,f,p=>by
  have e:=List.pairwise_cons.1 f;unfold hC;split
  .rename_i q;refine List.pairwise_cons.2 ⟨λx J=>?_,Cq e.2 λx J=>p x (.tail _ J)⟩;rcases V3.1 ((ti g l).mem_iff.1 J)with rfl|J
   .exact q
   .exact e.1 x J
  .rename_i r;have:=p h (.head _);refine List.pairwise_cons.2 ⟨λx J=>?_,f⟩;rcases V3.1 J with rfl|J
   .omega
   .have:=e.1 x J;omega
theorem Cr:∀(l acc:List cK),acc.Pairwise (λa b=>dd a.1<dd b.1)->l.Pairwise (λa b=>dd a.1≠dd b.1)->(∀a∈acc,∀b∈l,dd a.1≠dd b.1)->
  (l.foldl (λl g=>hC g l) acc).Pairwise (λa b=>dd a.1<dd b.1)/\(l.foldl (λl g=>hC g l) acc).Perm (acc++l)
 |[],acc,h,_,_=>⟨h,Ξ⟩
 |g::l,acc,h,r,f=>by
  have p:=List.pairwise_cons.1 r;have:=Cr l (hC g acc) (Cq h λa e=>f a e g (.head _)) p.2 λa e b q=>by
   rcases V3.1 ((ti g acc).mem_iff.1 e)with rfl|e
   .exact p.1 b q
   .exact f a e b (.tail _ q)
  refine⟨this.1,this.2.trans ?_⟩;exact((ti g acc).append_right l).trans (List.perm_middle (a:=g) (l₁:=acc) (l₂:=l)).symm
theorem wz{α:Type}{f:α->Int}:∀{L M:List α},L.Pairwise (λa b=>f a<f b)->M.Pairwise (λa b=>f a<f b)->(∀x,x∈L↔x∈M)->L=M
 |[],M,_,_,h=>by
  cases M with
  |nil=>rfl
  |cons y M=>exact absurd ((h y).2 (.head _)) Ξ
 |x::L,[],_,_,h=>absurd ((h x).1 (.head _)) Ξ
 |x::L,y::M,h1,r,h=>by
  have p:=List.pairwise_cons.1 h1;have q:=List.pairwise_cons.1 r;have s:x=y:=by
   rcases V3.1 ((h x).1 (.head _))with he|hm
   .exact he
   .rcases V3.1 ((h y).2 (.head _))with he|w
    .exact he.symm
    .have a:=q.1 x hm;have b:=p.1 y w;omega
  subst s;rw[wz p.2 q.2 λz=>⟨λe=>?_,λe=>?_⟩]
  .rcases V3.1 ((h z).1 (.tail _ e))with he|hm
   .subst he;have:=p.1 z e;omega
   .exact hm
  .rcases V3.1 ((h z).2 (.tail _ e))with he|hm
   .subst he;have:=q.1 z e;omega
   .exact hm
structure fP(sizes:Λ)(k:Int)(g:cK):Prop where
 scope:jt g.1
 up:g.1.Pairwise (·< ·)
 vars:∀v∈g.1,v<sizes.length
 len:g.2.length=(aO (bX sizes g.1)).toNat
 small:aO (bX sizes g.1)<=4096
 h0:∀c∈g.2,0<=c/\c<=k
theorem pw{sc:Λ}(e:∀z∈sizes,1<=z/\z<=32)(ad:∀v∈sc,0<=v/\v<sizes.length):∀z∈bX sizes sc,1<=z/\z<=32:=λz h=>by
 obtain⟨v,f,rfl⟩:=j4.1 h;obtain⟨h1,p⟩:=ad v f;have a:v.toNat<sizes.length:=Ω
 rw[u4,x6 a];exact e _ (S0 a)
theorem Mi{b:Λ}(h:a.Perm b):aO a=aO b:=by
 induction h with
 |nil=>rfl
 |cons x _ e=>simp only[aO,e]
 |swap x y l=>simp only[aO];rw[<-Int.mul_assoc,<-Int.mul_assoc,Int.mul_comm y x]
 |trans _ _ h1 f=>exact h1.trans f
theorem Mj{b:Λ}(h:a.length=b.length):(dV k a b).length=b.length:=by simp[dV,h]
theorem Mk{b:Λ}(hk:0<=k)(f:∀c∈a,0<=c/\c<=k)(p:∀c∈b,0<=c/\c<=k):∀c∈dV k a b,0<=c/\c<=k:=by
 induction a generalizing b with
 |nil=>intro c e;simp[dV]at e
 |cons x a q=>
  cases b with
  |nil=>intro c e;simp[dV]at e
  |cons y b=>
   intro c e;have J:=f x (.head _);have r:=p y (.head _);rcases V3.1 (show c∈min (x+y) k::dV k a b from e)with rfl|e
   .omega
   .exact q (λc h=>f c (.tail _ h)) (λc h=>p c (.tail _ h)) c e
def iR(l:List cK):Prop:=(l.map (·.1)).Nodup
theorem Ml{acc:List cK}{g:cK}(hk:0<=k)(p:∀h∈acc,fP sizes k h)(q:iR acc)(a:fP sizes k g):(∀h∈il k acc g,fP sizes k h)/\iR (il k acc g)/\(il k acc g).length<=acc.length+1:=by
 unfold il;split
 .refine⟨λh aB=>?_,?_,Ξ⟩
  .obtain⟨f,hm,rfl⟩:=j4.1 aB;have h1:=p f hm;split
   .rename_i he;have s:f.2.length=g.2.length:=by rw[h1.len,a.len,he]
    exact⟨h1.scope,h1.up,h1.vars,by show(dV k f.2 g.2).length=_;rw[Mj s,a.len,he],h1.small,Mk hk h1.h0 a.h0⟩
   .exact h1
  .unfold iR;rw[S9];have e:((λx:cK=>x.1)∘λh:cK=>if h.1=g.1 then(h.1,dV k h.2 g.2)else h)=λx:cK=>x.1:=by
    funext h;simp only[Function.comp];split<;>rfl
   rw[e];exact q
 .rename_i w;refine⟨λh aB=>?_,?_,Ξ⟩
  .rcases o5.1 aB with aB|aB
   .exact p h aB
   .rw[o9.1 aB];exact a
  .unfold iR;rw[Z4];exact List.nodup_append.2 ⟨q,Ξ,λx J y r he=>by
    simp only[U6,List.map_nil,o9]at r;subst r;subst he;exact w J⟩
theorem wA{sizes:Λ}{k:Int}(hk:0<=k):∀{l acc:List cK},(∀h∈acc,fP sizes k h)->iR acc->(∀g∈l,fP sizes k g)->(∀h∈l.foldl (il k) acc,fP sizes k h)/\iR (l.foldl (il k) acc)/\(l.foldl (il k) acc).length<=acc.length+l.length
 |[],acc,a,e,_=>⟨a,e,Ξ⟩
 |g::l,acc,a,e,f=>by
  obtain⟨h1,p,s⟩:=Ml hk a e (f g (.head _));obtain⟨q,r,w⟩:=wA hk h1 p λx J=>f x (.tail _ J);exact⟨q,r,by simp only[S1,c8];omega⟩
theorem Cs{α:Type}[DecidableEq α]:∀{a b:List α},a.Nodup->b.Nodup->(∀x,x∈a↔x∈b)->a.Perm b
 |[],b,_,_,h=>by
  cases b with
  |nil=>exact .refl _
  |cons y b=>exact absurd ((h y).2 (.head _)) Ξ
 |x::a,b,q,f,h=>by
  have J:=(h x).1 (.head _);have p:=List.nodup_cons.1 q;refine .trans ?_ (List.perm_cons_erase J).symm;refine .cons x (Cs p.2 (f.erase x) λy=>?_);rw[f.mem_erase_iff];refine⟨λe=>⟨λhe=>p.1 (he▸e),(h y).1 (.tail _ e)⟩,λ⟨r,e⟩=>?_⟩;rcases V3.1 ((h y).2 e)with he|hm
  .exact absurd he r
  .exact hm
theorem tj(h:kB l)(a:l.Nodup):(bo l).Perm l:=Cs (Cm l) a λ_=>qU h
theorem wB:∀{l:Λ},(∀z∈l,1<=z/\z<=32)->l.map (λz=>min z 4097)=l
 |[],_=>rfl
 |z::l,h=>by
  have a:=h z (.head _);rw[U6,wB λx J=>h x (.tail _ J)];congr 1;omega
theorem Mm{x:cj}(hk:0<=k)(e:0<=x.other)(a:∀p∈x.lines,0<=p.2):0<=jU x k t/\jU x k t<=k:=by
 unfold jU;cases ag:x.lines.find? (λp=>decide (p.1=t))with
 |none=>simp only;omega
 |some p=>have:=a p (List.mem_of_find?_eq_some ag);simp only;omega
theorem tk{all:Λ}{x:cj}(h:sW all N x)(a:all.length<=64):kB x.scope:=λv ad=>by
 have:=h.scope.2 v ad;omega
theorem px{f:bY}{x:cj}(ag:e0 N f)(J:x∈f.funs):fP f.sizes f.k (hX f.sizes f.k x):=by
 obtain⟨h1,r,e⟩:=ag.funs x J;have s:=ag.sizes.2.1;have ad:=tk h1 s;have a:=tj ad h1.scope.1;have h:∀v∈bo x.scope,0<=v/\v<f.sizes.length:=λv hm=>h1.scope.2 v ((qU ad).1 hm);have w:=pw ag.sizes.2.2 h;have y:aO (bX f.sizes (bo x.scope))=aO x.sizes:=by rw[h1.sizes];exact Mi (a.map _)
 refine⟨⟨Mh _,?_⟩,wx _,λv hm=>(h v hm).2,?_,?_,λc A=>?_⟩
 .show (bo x.scope).length<=6;rw[a.length_eq];exact r
 .show ((bp _).map _).length=_;rw[r8,jQ w];rfl
 .show aO (bX f.sizes (bo x.scope))<=4096;have B:∀z∈x.sizes,1<=z/\z<=32:=λz q=>by
   rw[h1.sizes]at q;exact pw ag.sizes.2.2 (λv hm=>h1.scope.2 v hm) z q
  unfold dj at e;rw[wB B,decide_eq_false_iff_not]at e;rw[y];omega
 .obtain⟨t,_,rfl⟩:=j4.1 A;exact Mm (by have:=ag.k.1;omega) h1.other λp a=>(h1.lines.2 p a).2
theorem kC{f:bY}(ag:e0 N f):(∀g∈fc f,fP f.sizes f.k g)/\iR (fc f)/\(fc f).length<=f.funs.length:=by
 have:=wA (sizes:=f.sizes) (k:=f.k) (by have:=ag.k.1;omega) (l:=f.funs.map (hX f.sizes f.k)) (acc:=[]) (λh aB=>by cases aB) List.nodup_nil λg e=>by
  obtain⟨x,J,rfl⟩:=j4.1 e;exact px ag J
 refine⟨this.1,this.2.1,?_⟩;have a:=this.2.2;rw[List.length_nil,r8,X2]at a;exact a
theorem Ct{l:List cK}(e:∀g∈l,fP sizes k g)(f:iR l):l.Pairwise λa b=>dd a.1≠dd b.1:=by
 have h1:l.Pairwise λa b=>a.1≠b.1:=by
  unfold iR List.Nodup at f;rwa [List.pairwise_map]at f
 exact h1.imp_of_mem λ{a b}h p q he=>q ((wy (e a h).scope (e b p).scope).2 he)
theorem py{f:bY}(ag:e0 N f):(fm f).Pairwise (λa b=>dd a.1<dd b.1)/\(fm f).Perm ((fc f).filter fl):=by
 obtain⟨h1,h,_⟩:=kC ag;have p:∀g∈(fc f).filter fl,fP f.sizes f.k g:=λg q=>h1 g (T3.1 q).1;have r:iR ((fc f).filter fl):=(List.Sublist.map _ List.filter_sublist).nodup h;have:=Cr ((fc f).filter fl) [] List.Pairwise.nil (Ct p r) λa s=>by cases s
 refine⟨this.1,?_⟩;have e:=this.2;rw[List.nil_append]at e;exact e
theorem tm{f:bY}(ag:e0 N f):∀g∈fm f,fP f.sizes f.k g:=λg a=>(kC ag).1 g (T3.1 ((py ag).2.mem_iff.1 a)).1
theorem Mn{f:bY}(ag:e0 N f){M:List cK}(e:M.Perm ((fc f).filter fl))(U:M.Pairwise λa b=>dd a.1<=dd b.1):M=fm f:=by
 obtain⟨h1,h⟩:=py ag;have p:iR ((fc f).filter fl):=(List.Sublist.map _ List.filter_sublist).nodup (kC ag).2.1;have q:iR M:=(e.map (λg:cK=>g.1)).nodup_iff.2 p;have r:∀g∈M,fP f.sizes f.k g:=λg s=>(kC ag).1 g (T3.1 (e.mem_iff.1 s)).1;have w:=Ct r q;refine wz (f:=λg:cK=>dd g.1) ?_ h1 λx=>by rw[e.mem_iff,h.mem_iff]
 exact U.imp₂ (λa b h1 h=>Int.lt_iff_le_and_ne.2 ⟨h1,h⟩) w
structure jZ(n:aF):Prop where
 k:1<=n.k/\n.k<=2147483648
 sizes:1<=n.sizes.length/\n.sizes.length<=64/\∀z∈n.sizes,1<=z/\z<=32
 zero:0<=n.zero/\n.zero<=n.k
 kD:n.unary.length=n.sizes.length
 unary:∀(i:Nat)(z:Int)(u:Λ),n.sizes[i]?=σ z->n.unary[i]?=σ u->u.length=z.toNat/\∀c∈u,0<=c/\c<=n.k
 funs:∀g∈n.funs,fP n.sizes n.k g/\2<=g.1.length
theorem Mo(z:Int):aO [z]=z:=by simp[aO]
theorem tn:∀{l:List cK}{n:aF},jZ n->(∀g∈l,fP n.sizes n.k g)->jZ (l.foldl (λn g=>match g.1 with
 |[]=>{n with zero:=g.2.getD 0 0}
 |[v]=>{n with unary:=n.unary.set v.toNat g.2}
 |_=>{n with funs:=n.funs++[g]}) n)/\(l.foldl (λn g=>match g.1 with
 |[]=>{n with zero:=g.2.getD 0 0}
 |[v]=>{n with unary:=n.unary.set v.toNat g.2}
 |_=>{n with funs:=n.funs++[g]}) n).sizes=n.sizes
 |[],n,h,_=>⟨h,rfl⟩
 |g::l,n,h,p=>by
  have e:=p g (.head _);have f:∀x∈l,fP n.sizes n.k x:=λx J=>p x (.tail _ J);rw[S1];obtain⟨sc,cs⟩:=g
  match sc,e with
  |[],e=>
   have s:=e.len;refine tn (n:={n with zero:=cs.getD 0 0}) ⟨h.k,h.sizes,?_,h.kD,h.unary,h.funs⟩ f;have h1:cs.length=1:=by simpa[bX,aO]using s
   have w:cs[0]?=σ (cs.getD 0 0):=by rw[u4,x6 Ω];rfl
   exact e.h0 _ (x5 w)
  |[v],e=>
   have ad:=e.scope.1 v (.head _);have A:=e.vars v (.head _);refine tn (n:={n with unary:=n.unary.set v.toNat cs}) ⟨h.k,h.sizes,h.zero,by show(n.unary.set _ _).length=_;rw[c9];exact h.kD,λi z u q hu=>?_,h.funs⟩ f;by_cases hi:v.toNat=i
   .subst hi;have B:=h.kD;rw[b8 Ω]at hu;cases hu;have y:bX n.sizes [v]=[z]:=by
     simp only[bX,U6,List.map_nil];rw[u4,q];rfl
    refine⟨?_,e.h0⟩;have:=e.len;rw[y,Mo]at this;exact this
   .rw[Y2 hi]at hu;exact h.unary i z u q hu
  |a::b::r,e=>
   refine tn (n:={n with funs:=n.funs++[(a::b::r,cs)]}) ⟨h.k,h.sizes,h.zero,h.kD,h.unary,λx J=>?_⟩ f;rcases o5.1 J with J|J
   .exact h.funs x J
   .rw[o9.1 J];exact⟨e,Ξ⟩
theorem Cu{f:bY}(ag:e0 N f):jZ (cR f)/\(cR f).sizes=f.sizes:=by
 unfold cR;have e:=ag.sizes;refine tn (n:=⟨f.k,f.sizes,0,f.sizes.map λz=>p8 z.toNat 0,[]⟩) ⟨ag.k,e,⟨by show(0:Int)<=0;omega,by show(0:Int)<=f.k;have:=ag.k.1;omega⟩,Ξ,λi z u h1 a=>?_,λg h=>by cases h⟩ (tm ag);have a:(f.sizes.map λz=>p8 z.toNat (0:Int))[i]?=σ u:=a;have h1:f.sizes[i]?=σ z:=h1;rw[x8,h1]at a;cases a;refine⟨Ξ,λc p=>?_⟩;rw[(List.mem_replicate.1 p).2];have:=ag.k.1;exact⟨Int.le_refl _,by show(0:Int)<=f.k;omega⟩
def lk(x:cj)(k:Int)(i:Nat)(t:Λ):Int:=match(x.lines.take i).find? (λp=>decide (p.1=t))with
 |some p=>min p.2 k
 |none=>min x.other k
theorem Cv(x:cj)(k:Int)(t:Λ):lk x k 0 t=min x.other k:=by simp[lk]
theorem Cw(x:cj)(k:Int)(t:Λ):lk x k x.lines.length t=jU x k t:=by
 unfold lk jU;rw[o7];cases x.lines.find? (λp=>decide (p.1=t))<;>rfl
theorem Cx{x:cj}{i:Nat}{p:Λ×Int}(y:(x.lines.map (·.1)).Nodup)(hi:x.lines[i]?=σ p)(t:Λ):lk x k (i+1) t=if t=p.1 then min p.2 k else lk x k i t:=by
 unfold lk;rw[u9,hi,j5,List.find?_append];by_cases a:t=p.1
 .subst a;have z:(x.lines.take i).find? (λq=>decide (q.1=p.1))=ν:=by
   rw[List.find?_eq_none];intro q e he;have he:q.1=p.1:=by simpa using he
   obtain⟨j,f⟩:=X3.1 e;have h:j<i:=by have:=(x4.1 f).1;rw[n9]at this;omega
   rw[Z7 h]at f;have r:=x4.1 f;have s:=x4.1 hi;have w:=V6.1 y j i (by rw[r8];exact r.1) (by rw[r8];exact s.1) h;rw[List.getElem_map,List.getElem_map,r.2,s.2]at w;exact w he
  rw[z,if_pos rfl];simp
 .rw[if_neg a];have:[p].find? (λq=>decide (q.1=t))=ν:=by
   rw[List.find?_eq_none];intro q e he;rw[o9.1 e]at he;exact a (of_decide_eq_true he).symm
  rw[this,Option.or_none]
theorem pz{v:Int}(h:v∈l):l[l.idxOf v]?=σ v:=by
 have:=List.idxOf_lt_length_iff.2 h;rw[x6 this,List.getElem_idxOf this]
theorem qV{i:Nat}{v:Int}(p:l.Nodup)(h:l[i]?=σ v):l.idxOf v=i:=by
 have hm:=x5 h;have h1:=pz hm;have a:=x4.1 h1;have e:=x4.1 h;rcases Nat.lt_trichotomy (l.idxOf v) i with f|he|f
 .exact absurd (a.2.trans e.2.symm) (V6.1 p _ _ a.1 e.1 f)
 .exact he
 .exact absurd (e.2.trans a.2.symm) (V6.1 p _ _ e.1 a.1 f)
def gd(scope a:Λ):Λ:=a.map λv=>((scope.idxOf v:Nat):Int)
theorem tp{f:Λ}(s:scope.Nodup)(a:f.Perm scope):Good (gd scope f) scope.length:=by
 have r:f.Nodup:=a.nodup_iff.2 s;refine⟨by simp[gd,a.length_eq],λi p h=>?_⟩;unfold gd at h;rw[x8]at h;obtain⟨v,ad,rfl⟩:=Y7.1 h;have hm:v∈scope:=a.mem_iff.1 (x5 ad);have y:=List.idxOf_lt_length_iff.2 hm;refine⟨⟨Ω,Ω⟩,λj z q=>?_⟩;unfold gd at q;rw[x8]at q;obtain⟨u,hu,he⟩:=Y7.1 q;have w:u∈scope:=a.mem_iff.1 (x5 hu);have e:scope.idxOf u=scope.idxOf v:=Ω
 have h1:=pz w;rw[e,pz hm]at h1;have x:v=u:=b9 h1;subst x;have A:=qV r hu;have B:=qV r ad;omega
theorem Cy{v:Int}(ad:a[j]?=σ v):(gd scope a)[j]?=σ ((scope.idxOf v:Nat):Int):=by
 unfold gd;rw[x8,ad];rfl
theorem Mp(h:scope.Nodup)(e:a.Perm scope):ed (bX sizes scope) (gd scope a)=bX sizes a:=by
 refine Y3 λj=>?_;cases ad:a[j]? with
 |none=>
  have f:=List.getElem?_eq_none_iff.1 ad;rw[Z2 (by rw[sT];simp[gd];exact f),Z2 (by simp[bX];exact f)]
 |some v=>
  have hm:v∈scope:=e.mem_iff.1 (x5 ad);have p:=tp h e;rw[Bh p (by simp[bX]) (Cy ad),u7];unfold bX;rw[x8,x8,pz hm,ad]
theorem Cz(h:scope.Nodup)(e:a.Perm scope)(q:t.length=scope.length):ma (gd scope a) t=pi scope a t:=by
 have r:=tp h e;refine(Bg r q (by simp[pi]) λj p f=>?_).symm;unfold gd at f;rw[x8]at f;obtain⟨v,ad,rfl⟩:=Y7.1 f;have hm:v∈scope:=e.mem_iff.1 (x5 ad);have s:a.Nodup:=e.nodup_iff.2 h;have w:=(x4.1 ad).1;have x:=e.length_eq;unfold pi;rw[u7,x8,pz hm,Z6,qV s ad,u4,x6 (show j<t.length by omega)];rfl
theorem Mq{f:bY}{x:cj}{cs:Λ}(ag:e0 N f)(J:x∈f.funs)(F:cs.length=(aO x.sizes).toNat)(y:∀t,dk x.sizes t->bt x.sizes cs t=jU x f.k t):
  ed x.sizes (gd x.scope (bo x.scope))=bX f.sizes (bo x.scope)/\nV x.sizes cs (gd x.scope (bo x.scope))=(hX f.sizes f.k x).2:=by
 obtain⟨h1,G,H⟩:=ag.funs x J;have ad:=tk h1 ag.sizes.2.1;have a:=tj ad h1.scope.1;have p:x.sizes=bX f.sizes x.scope:=h1.sizes;have h:ed x.sizes (gd x.scope (bo x.scope))=bX f.sizes (bo x.scope):=by rw[p];exact Mp h1.scope.1 a
 have z:=tp h1.scope.1 a;have A:∀v∈bo x.scope,0<=v/\v<f.sizes.length:=λv hm=>h1.scope.2 v ((qU ad).1 hm);have e:dQ (bX f.sizes (bo x.scope)):=pw ag.sizes.2.2 A;refine⟨h,?_⟩;have B:x.sizes.length=x.scope.length:=by rw[p];simp[bX]
 unfold nV;rw[h];show _=(bp (bX f.sizes (bo x.scope))).map λt=>jU x f.k (pi x.scope (bo x.scope) t);refine Y3 λq=>?_;rw[x8,x8];have I:=l8 e;by_cases r:q<(aO (bX f.sizes (bo x.scope))).toNat
 .have C:=qw e (i:=q) Ω;rw[C,List.getElem?_range r];simp only[Z6];have E:=vV e r;have w:(cQ (bX f.sizes (bo x.scope)) q).length=x.scope.length:=by rw[jp];simp[bX,a.length_eq]
  rw[Cz h1.scope.1 a w,y];have:=KL (s:=x.sizes) z B (by rw[h];exact E);rw[Cz h1.scope.1 a w]at this;exact this
 .rw[Z2 Θ,Z2 (by rw[jQ e];omega)];rfl
theorem Mr{e:Λ}(U:dQ ak)(h1:a.length=(aO ak).toNat)(f:e.length=(aO ak).toNat):
  dV k a e=(X0 (aO ak).toNat).map λ(q:Nat)=>min (bt ak a (cQ ak q)+bt ak e (cQ ak q)) k:=by
 conv=>lhs;rw[sS U h1,sS U f]
 unfold dV;rw[List.zipWith_map,List.zipWith_self]
theorem Ms{dh m:Nat}{d:List (x1×x1)}{KS:List (Λ)}(f:af w dh iI [.map (σ m)])(hm:c4 w m d)(p:d.map (·.1)=KS.map dZ)(e:pt KS)(A:KS.length<65536):
  am x7 IV [.func (.func lY) #[] #[Γ dh],BY] w λv w'=>Ext w w'/\∃g M,M.Perm KS/\te gA M 0 M.length/\n0 w' g v M:=by
 refine az func261 ?_;refine(Ls f hm p (λks h=>(e ks h).1) Ω).mono ?_;rintro v V _ ⟨q,g,L,ds,a,s⟩;refine(LK s (e.perm a) (by rw[a.length_eq];omega)).mono ?_;rintro _ aa _ ⟨x,M,y,hu,z⟩;exact⟨q.then x (λr B h=>by have:=ds r h;omega),g,M,y.trans a,hu,z⟩
theorem CA{α β:Type}{f:α->β}:∀{M:List β}{D:List α},M.Perm (D.map f)->∃L:List α,L.Perm D/\L.map f=M
 |[],D,h=>by
  have h1:=h.length_eq;simp at h1;have:D=[]:=j6 h1.symm;exact⟨[],by rw[this],rfl⟩
 |x::M,D,h=>by
  have J:x∈D.map f:=h.mem_iff.1 (.head _);obtain⟨p,a,rfl⟩:=j4.1 J;obtain⟨A,B,rfl⟩:=List.append_of_mem a;have e:(f p::M).Perm (f p::(A++B).map f):=h.trans (by
   rw[Z4,U6,Z4];exact List.perm_middle)
  obtain⟨L,q,r⟩:=CA (List.Perm.cons_inv e);exact⟨p::L,(q.cons p).trans List.perm_middle.symm,by rw[U6,r]⟩
theorem CB{g:Nat}{ks:Λ}(p:ks.length=6)(q:n<=6)(a:cs=ints .i8 ks)(e:af w g cD cs):aI .i8 w (.slice (σ (if 6=0 then⟨g,0,ν⟩else⟨g,0+0*1,ν⟩)) (n-0) (6-0)) (ks.take n):=by
 subst a;rw[if_neg Ω];unfold aI;have f:(ks.take n).length=n:=by rw[n9];omega
 rw[f];refine⟨Θ,g,0,_,6,rfl,Ω,by simp[maxLen],λ_=>rfl,λj v ad=>?_⟩;have h:=(x4.1 ad).1;refine e.range j v ?_;rw[ints,List.map_take,Z7 (by simp[ints]at h;omega)]at ad;exact ad
def Mt(D L:Told):Prop:=L.Perm D/\te (λp=>gA (pad p.1)) L 0 L.length
theorem Mu{g m:Nat}{o:Int}{D:Told}(h:eF w g m ak k o D)(bb:D.length<65536):am x7 In [Γ g] w λv w'=>Ext w w'/\∃L:Told,Mt D L/\bF (eE w.heap.size) bA w' [v] L:=by
 obtain⟨⟨sv,gs,Y,hm⟩,bc,U,bR,aB⟩:=id h;have bd:pt (D.map λp=>pad p.1):=λks hk=>by
  obtain⟨p,be,rfl⟩:=j4.1 hk;exact qL U (aB p be).1
 refine az func206 ?_;rw[de eN.u];simp only[Z5,a1];rw[aS fI.p 3 Y rfl];refine Lq.mono ?_;rintro _ V _ ⟨Z,dh,rfl,bS,bf⟩;refine(Ms (KS:=D.map λp=>pad p.1) bf (bc.ext Z) (by rw[S9,S9];rfl) bd (by simpa using bb)).mono ?_;rintro bT aa _ ⟨aC,bU,M,bh,bi,aD⟩;obtain⟨L,ac,N⟩:=CA bh;have aE:M.length=L.length:=by rw[<-N];simp
 have bV:=ac.length_eq;have s1:=Z.size;have bX:=aC.size;have aF:=Z.trans aC;rw[ee jg.u aD];refine cb.range L.length (λi out e=>Ext aa e/\bF (eE aa.heap.size) bA e [out] (L.take i)) Ω ⟨Ext.refl _,by rw[List.take_zero];exact hv⟩ ?_ ?_
 rotate_left
 .rintro out e bj ⟨C,O⟩;rw[aE];simp only[aR,al];refine⟨λh=>Ω,λ_=>⟨aF.trans C,L,⟨ac,λp q x y h1 bk bY J bm=>?_⟩,?_⟩⟩
  .exact bi p q (pad x.1) (pad y.1) h1 bk Ω (by rw[<-N,x8,J];rfl) (by rw[<-N,x8,bm];rfl)
  .rw[o7]at O;exact ap.mono O (λr _ h=>by have h:aa.heap.size<=r:=h;show w.heap.size<=r;omega) λ_ _ h=>h
 rintro i out e bj hi ⟨C,O⟩ bn;obtain⟨⟨t,c⟩,ae⟩:∃p,L[i]?=σ p:=⟨_,x6 hi⟩;have ag:(t,c)∈D:=ac.mem_iff.1 (x5 ae);have aj:=(aB _ ag).1;have aG:=wg U aj;have aq:t.length=ak.length:=aG.1;have aH:=U.1;have bo:ld (pad t):=qL U aj;have P:=bo.1;have bp:M[i]?=σ (pad t):=by rw[<-N,x8,ae];rfl
 rw[aE];simp only[aR,al];refine⟨λ_=>?_,λh=>Ω⟩;rw[LJ rfl (aD.ext C) bp];refine bx cD.i λao bZ b0 aI aL=>?_;refine qK P rfl aL λbq br b1 Q=>?_;have b2:=aI.size;have b3:=aL.lt;have bt:Ext e bq:=aI.put br Ω;intro aM H _ _;have au:=bt.trans H;have aw:=(aF.trans C).trans au;have aO:=h.ext aw;obtain⟨⟨b4,b5,b6,b7⟩,b8,_⟩:=id aO;have b9:=au.size;rw[aS fI.p 3 (Y.ext aw) rfl,nZ P (Q.ext H).range];refine Lk aO aj (λf bu=>?_) (λbw=>absurd rfl (bw _ ag));have bz:f=c:=by
  have:=BM h.nodup bu ag rfl;exact congrArg Prod.snd this
 subst bz;simp only[Bool.false_eq_true,if_false];rw[cW (cs:=#[.slice ν 0 0,Δ f]) Ψ];refine bx gq.i λE ca cc ax aP=>?_;refine⟨.inl ax,?_⟩;refine ci (vs:=[.slice ν 0 0,Δ f]) gq.i rfl rfl (by intro v ad;simp at ad;rcases ad with rfl|rfl<;>rfl) aP λG bB cd aQ=>?_;have ce:=ax.size;have cg:=aP.lt;have S:Ext aM G:=ax.put bB Ω;have aV:=au.trans S;have aW:=aw.trans S;rw[aS fI.p 0 (Y.ext aW) rfl,aX an.u (hm.ls.ext aW)];rw[sA cD.u fX.i (l:=0) (h:=ak.length) (m:=6) ji (nG _ _ rfl) e9 Ω Ω Ω];have aY:=CB P aH rfl ((Q.ext H).ext S);rw[<-aq,BH]at aY;rw[<-aq,aX k3.u aY];have bC:=(Q.ext H).ext S;have ch:ao<aM.heap.size:=(Q.ext H).lt;have cj:E<G.heap.size:=aQ.lt;refine ck.range t.length (λj s=>ai (λr=>r=E\/G.heap.size<=r) G s/\∃aK gt,G.heap.size<=gt/\af s E gq [aK,Δ f]/\av .i64 ah s gt aK (t.take j)) Ω ⟨ai.refl _ _,_,G.heap.size,o4 _,aQ,av.nil _ _ _ _⟩ ?_ ?_
 .rintro j s bD bE ⟨z,aK,gt,bG,W,X⟩ bH;obtain⟨x,ay⟩:=aJ (l:=t) bE;have cl:=aG.2 x (x5 ay);have cm:Ext e s:=aV.then z (λr aZ he=>by rcases he with rfl|he<;>omega);have a2:=CB P aH rfl (bC.ab z (λhe=>by rcases he with he|he<;>omega));rw[<-aq,BH]at a2;simp only[aR,al];refine⟨λ_=>?_,λh=>Ω⟩;rw[bg k3.u fX.i Ψ a2 ay,aT gq.p 0 W rfl,fh fX.u ah.u,wrap_i64 Ω Ω];refine et an.u ah.i rfl λa ga bI cn B bJ=>?_;refine jl an.u ah.i rfl (X.ext B) bJ.ls Θ Θ λa6 a7 bK cp I K=>?_;have bL:=z.size;have bM:=B.size;have cq:=K.size;rw[aU gq.p rfl];refine bl (g:=E) (o:=0) an.i I.ls.cells.1 I.ls.cells.2 ((W.ext B).ab K (λhe=>by have he:E=gt:=he;omega)) Ξ λcr a8 ct bN=>?_;simp only[aN];refine bH _ ⟨((z.trans (B.ab _)).trans (K.mono λr _ he=>.inr (by have he:r=gt:=he;omega))).trans (a8.mono λr _ he=>.inl he),a6,a7,Ω,bN,?_⟩;rw[u9,ay];exact I.ab a8 (λ_ he=>by have he:a7=E:=he;omega)
 .rintro s bD ⟨z,aK,gt,bG,W,X⟩;simp only[aR,al];refine⟨λh=>Ω,λ_=>?_⟩;rw[o7]at X;rw[bP gq.p gq.i rfl W.range];have bL:=z.size;have bO:Ext e s:=aV.then z (λr aZ he=>by rcases he with rfl|he<;>omega);have ba:bF (eE e.heap.size) bA s [aK,Δ f] (t,f):=⟨[aK],[Δ f],eE e.heap.size,bA,rfl,λ_ h=>h,λ_ h=>h.elim,λ_ _ _ h=>h,ap.mono (nN X) (λr _ h=>by subst h;show e.heap.size<=r;omega) (λ_ _ h=>h),rfl⟩;refine kt (α:=Λ×Int) (a:=(t,f)) (cs:=[aK,Δ f]) (A:=eE e.heap.size) (R:=bA) oW.u gq.i Φ rfl ba λu bI B _ bQ=>?_;have aA:=bO.trans B;have bM:=aA.size;refine nM (α:=Λ×Int) (a:=(t,f)) (A:=eE e.heap.size) oW.u gq.i rfl (bW (mG O) aA) bQ (bW ba B) (λr _ h h'=>?_) Θ Θ λa6 bK I K=>?_
  .rcases h' with h'|h'
   .have:=h.2;have:e.heap.size<=r:=h';omega
   .exact h'
  simp only[aN];have cu:=C.size;refine bn _ _ ⟨(C.trans aA).then K (λr aZ h=>by have h:=h.1;have h:aa.heap.size<=r:=h;omega),?_⟩;rw[u9,ae];refine ap.mono I (λr _ h=>?_) λ_ _ h=>h;show aa.heap.size<=r;rcases h with h|h|h
  .exact h.1
  .have h:e.heap.size<=r:=h;omega
  .omega
theorem CC{s:Λ}(U:dQ s):t∈bp s↔dk s t:=by
 refine⟨λh=>?_,λ⟨n,h⟩=>x5 (mP U h)⟩;obtain⟨i,hi⟩:=X3.1 h;exact⟨_,jT U hi⟩
theorem CD:∀{s:Λ},dQ s->(bp s).Pairwise λa b=>gA a<gA b
 |[],_=>by simp[bp]
 |k::s,U=>by
  have z:=CD U.tail;have f:∀t∈bp s,0<=gA t/\gA t<32 ^ s.length:=λt q=>by
   have ad:=(CC U.tail).1 q;have h1:=nU.1 ad;have r:=td t λx J=>by
    obtain⟨i,hi,rfl⟩:=List.getElem_of_mem J;obtain⟨a,e⟩:=aJ (l:=s) (i:=i) Ω;have B:=h1.2 i a _ e (x6 hi);have C:=(U.tail a (x5 e)).2;omega
   rw[h1.1];exact r
  have p:∀t∈bp s,t.length=s.length:=λt q=>sE q;show((X0 k.toNat).flatMap λ(v:Nat)=>(bp s).map λt=>(v:Int)::t).Pairwise _;rw[List.pairwise_flatMap];refine⟨λv _=>?_,?_⟩
  .rw[List.pairwise_map];refine z.imp_of_mem λ{a b}e f h=>?_;simp only[gA,p a e,p b f];omega
  .refine List.pairwise_lt_range.imp λ{u v}E x J y A=>?_;obtain⟨a,e,rfl⟩:=j4.1 J;obtain⟨b,w,rfl⟩:=j4.1 A;simp only[gA,p a e,p b w];have h1:=f a e;have r:=f b w;have:=Int.mul_le_mul_of_nonneg_right (show(u:Int)+1<=v by omega) (show(0:Int)<=32 ^ s.length by have:=wk s.length;omega);rw[Int.add_mul,Int.one_mul]at this;omega
theorem Mv{D L:Told}{o:Int}(f:(D.map (·.1)).Nodup)(a:L.Perm D)(t:Λ):im L o t=im D o t:=by
 have q:(L.map (·.1)).Nodup:=(a.map (·.1)).nodup_iff.2 f;by_cases he:∃p∈D,p.1=t
 .obtain⟨p,h,rfl⟩:=he;rw[qM f (c:=p.2) h,qM q (c:=p.2) (a.mem_iff.2 h)]
 .rw[qN λp h1 e=>he ⟨p,h1,e⟩,qN λp h1 e=>he ⟨p,a.mem_iff.1 h1,e⟩]
def iq(ak:Λ)(f:Λ->Int)(cs:Λ):Prop:=cs.length=(aO ak).toNat/\∀t,dk ak t->bt ak cs t=f t
theorem iq.eq{f:Λ->Int}{cs:Λ}(U:dQ ak)(h1:iq ak f cs)(e:iq ak f a):cs=a:=KB U h1.1 e.1 λt h=>by rw[h1.2 t h,e.2 t h]
theorem iq.congr{f a:Λ->Int}{cs:Λ}(h:iq ak f cs)(he:∀t,dk ak t->f t=a t):iq ak a cs:=⟨h.1,λt e=>by rw[h.2 t e,he t e]⟩
theorem wC(U:dQ ak)(h:dk ak t):∃n:Nat,cH ak t 0=σ (n:Int)/\n<(aO ak).toNat:=by
 obtain⟨n,a⟩:=h;have:=nO U a;simp only[Int.zero_mul,Int.zero_add,Int.one_mul]at this;exact⟨n.toNat,by rw[a];congr 1;omega,Ω⟩
theorem Mw(U:dQ ak)(c:Int):iq ak (λ_=>c) (p8 (aO ak).toNat c):=⟨Ξ,λt a=>by
 obtain⟨n,e,f⟩:=wC U a;unfold bt;rw[e];simp only[u7,u4,List.getElem?_replicate,f,if_true,V2]⟩
theorem iq.put{f:Λ->Int}{cs:Λ}(U:dQ ak)(h:iq ak f cs)(ad:dk ak t)(r:cq c k):iq ak (λs=>if s=t then c else f s) (sF ak t k c cs):=by
 obtain⟨n,e,w⟩:=wC U ad;unfold sF;rw[e];simp only[r,if_true,u7];refine⟨by simp[h.1],λs q=>?_⟩;obtain⟨m,hm,x⟩:=wC U q;have a:=h.2 s q;unfold bt at a ⊢;rw[hm]at a ⊢;simp only[u7]at a ⊢;by_cases he:s=t
 .subst he;rw[e]at hm;have p:n=m:=by have:=b9 hm;omega
  subst p;rw[if_pos rfl,u4,b8 (by rw[h.1];exact w)];rfl
 .rw[if_neg he,u4,Y2 (λp=>he ?_),<-u4,a];subst p;rw[<-Ba U hm,<-Ba U e]
def Mx(w:x3)(ak:Λ)(k o:Int)(D:Told)(v:x1)(w':x3):Prop:=Ext w w'/\(4096<aO ak->v= .tuple #[.pointer ν,Δ 5])/\
 (aO ak<=4096->∃g a sv cs,v= .tuple #[Γ g,Δ 0]/\w.heap.size<=g/\(w.heap.size<=a/\∀r,leads sv r->w.heap.size<=r)/\df w' g a sv ak k cs/\iq ak (im D o) cs)
theorem CE{g m:Nat}{o:Int}{D:Told}(h:eF w g m ak k o D)(Y:D.length<65536):am x7 Hq [Γ g] w (Mx w ak k o D):=by
 obtain⟨⟨sv,gs,Z,hm⟩,aZ,U,ac,ae⟩:=id h;have P:=h.nodup;refine az func121 ?_;rw[de eN.u];simp only[Z5,a1];intro V a _ _;have I:=Z.ext a;rw[aS fI.p 0 I rfl,aS fI.p 1 I rfl,aS fI.p 2 I rfl];refine(vF (hm.ls.ext a)).mono ?_;rintro _ aa _ ⟨z,_,af,_,ag⟩;by_cases C:aO ak<=4096
 rotate_left
 .have:=af U Ω;subst this;rw[bm,bn];simp only[bC,al];exact⟨λ_=>⟨a.trans z,λ_=>rfl,λh=>absurd h C⟩,λh=>by simp at h⟩
 obtain⟨gt,f,aK,rfl,a2,a7,ah,Q⟩:=ag U C ac;rw[bm,bn];simp only[bC,al];refine⟨λh=>absurd rfl h,λ_=>?_⟩;have s1:=a.size;have a8:=z.size;refine(Mu ((h.ext a).ext z) Y).mono ?_;rintro ds aj _ ⟨J,L,E,R⟩;have ba:=J.size;have bb:f<aa.heap.size:=by
  obtain⟨⟨a6,bc,_,_,an⟩,⟨_,_,bd⟩,ao,aq⟩:=id Q;have be:=l8 ao.2;obtain⟨_,⟨_,au⟩|⟨cap,cs,_,av,_⟩⟩:=an
  .rw[aq]at au;omega
  .exact av.lt
 have bf:=E.1.length_eq;rw[jo oW.u R];refine ck.range L.length (λi q=>ai (λr=>r=f) aj q/\∃cs,df q gt f aK ak k cs/\iq ak (im (L.take i) o) cs) Ω ⟨ai.refl _ _,_,Q.ext J,by rw[List.take_zero];exact Mw U.2 o⟩ ?_ ?_
 .rintro i q aw hi ⟨G,cs,K,H⟩ ax;simp only[aR,al];refine⟨λ_=>?_,λh=>Ω⟩;obtain⟨⟨t,c⟩,y⟩:∃p,L[i]?=σ p:=⟨_,x6 hi⟩;have ay:(t,c)∈D:=E.1.mem_iff.1 (x5 y);obtain⟨aA,aB,aC⟩:=ae _ ay;have aD:=ap.ab R G λr S aE he=>by
   have he:r=f:=he;rcases aE with h|h
   .have h:aa.heap.size<=r:=h;omega
   .exact h
  refine nL (α:=Λ×Int) gq.p rfl oW.u gq.i aD y λus aF=>?_;obtain⟨bg,aG,A,B,rfl,bh,bi,_,h1,aH⟩:=aF;have aI:aG=[Δ c]:=aH;subst aI;obtain⟨aJ,rfl,_⟩:=id h1;have hu:=eD h1;refine bx gq.i λbj bk bl aL W=>?_;refine ci (vs:=[aJ,Δ c]) gq.i rfl rfl (by intro v ad;simp at ad;rcases ad with rfl|rfl;exact hu.cells.2;rfl) W λaM aP bo X=>?_;have bp:=W.lt;have M:Ext q aM:=aL.put aP Ω;rw[aT gq.p 0 X rfl,aT gq.p 1 X rfl];refine(JM (K.ext M) (hu.ext M)).mono ?_;rintro _ bq _ ⟨rfl,aQ,aU⟩;simp only[aN];refine ax _ ⟨(G.trans (M.ab _)).trans aQ,_,aU,(H.put U.2 aA aB).congr λs br=>?_⟩;rw[u9,y];have N:(L.map (·.1)).Nodup:=(E.1.map (·.1)).nodup_iff.2 P;have aV:∀p∈L.take i,p.1≠t:=λp C he=>by
   obtain⟨j,O⟩:=X3.1 C;have aW:j<i:=by have:=(x4.1 O).1;rw[n9]at this;omega
   rw[Z7 aW]at O;have:=kz N (i:=j) (j:=i) (x:=t) (by rw[x8,O,Z6,he]) (by rw[x8,y];rfl);omega
  have aX:((L.take i).map (·.1)).Nodup:=by rw[List.map_take];exact(List.take_sublist _ _).nodup N
  have aY:((L.take i++[(t,c)]).map (·.1)).Nodup:=by
   have e:L.take i++[(t,c)]=L.take (i+1):=by rw[u9,y];rfl
   rw[e,List.map_take];exact(List.take_sublist _ _).nodup N
  exact((BN aV aC).cost aX aY s).symm
 .rintro q aw ⟨G,cs,K,H⟩;simp only[aR,al];refine⟨λh=>Ω,λ_=>?_⟩;rw[o7]at H;exact⟨((a.trans z).trans J).put G Ω,λh=>Ω,λ_=>⟨gt,f,aK,cs,rfl,Ω,⟨Ω,λr S=>by have:=ah r S;omega⟩,K,H.congr λs _=>Mv P E.1 s⟩⟩
theorem My{s cs:Λ}(U:dQ s)(a:cs.length=(aO s).toNat){i:Nat}(h:(bp s)[i]?=σ t):cs[i]?=σ (bt s cs t):=by
 have hi:=(x4.1 h).1;rw[jQ U,<-a]at hi;unfold bt;rw[jT U h];simp only[u7,u4,x6 hi,V2]
theorem tq{k:o6}{g:Nat}(h:av k e w g v l)(f:0<l.length):g<w.heap.size:=by
 obtain⟨_,⟨_,h1⟩|⟨_,_,_,a,_⟩⟩:=h
 .omega
 .exact a.lt
def fQ(w:x3)(g m:Nat)(sv:x1)(gs:Nat)(ak:Λ)(k o:Int)(D:Told):Prop:=
 af w g fI [sv,Δ k,Δ o,.map (σ m)]/\av .i64 ah w gs sv ak/\c4 w m (D.map jV)/\b3 ak/\cq o k/\∀p∈D,dk ak p.1/\cq p.2 k/\p.2≠o
theorem fQ.is{g m:Nat}{o:Int}{D:Told}(h:fQ w g m sv gs ak k o D):eF w g m ak k o D:=⟨⟨sv,gs,h.1,h.2.1⟩,h.2.2⟩
theorem eF.at{g m:Nat}{o:Int}{D:Told}(h:eF w g m ak k o D):∃sv gs,fQ w g m sv gs ak k o D:=by
 obtain⟨⟨sv,gs,h1,a⟩,e⟩:=h;exact⟨sv,gs,h1,a,e⟩
theorem fQ.ext{g m:Nat}{o:Int}{D:Told}(h:fQ w g m sv gs ak k o D)(J:Ext w w'):fQ w' g m sv gs ak k o D:=by
 obtain⟨h1,a,e,f⟩:=h;exact⟨h1.ext J,a.ext J,e.ext J,f⟩
theorem fQ.ab{g m:Nat}{o:Int}{D:Told}(h:fQ w g m sv gs ak k o D)(J:ai S w w')(a:¬S g)(hm:¬S m)(U:∀r,leads sv r->¬S r):fQ w' g m sv gs ak k o D:=by
 obtain⟨h1,e,f,p⟩:=h;exact⟨h1.ab J a,bu e J U,f.ab J hm,p⟩
theorem tr{g m:Nat}{d:List (x1×x1)}(h:af w g e cs)(hm:c4 w m d):g≠m:=by
 rintro rfl;obtain⟨a,c,h1,_⟩:=hm;unfold af at h;rw[h1]at h;cases h
theorem CF{g m:Nat}{k:o6}{d:List (x1×x1)}(h:av k e w g v l)(hm:c4 w m d)(f:leads v r):r≠m:=by
 obtain⟨rfl,_⟩:=bQ h f;obtain⟨_,⟨rfl,_⟩|⟨_,_,_,p,_⟩⟩:=h
 .obtain⟨a,n,c,h,_⟩:=f;cases h
 .exact tr p hm
theorem fQ.put{g m:Nat}{o:Int}{D D':Told}(h:fQ w g m sv gs ak k o D)(a:ai (λr=>r=m) w w')(h':eF w' g m ak k o D'):fQ w' g m sv gs ak k o D':=
 ⟨h.1.ab a (λhe=>tr h.1 h.2.2.1 he),bu h.2.1 a (λr e he=>CF h.2.1 h.2.2.1 e he),h'.2⟩
theorem fQ.qG{g m:Nat}{o:Int}{D:Told}(h:fQ w g m sv gs ak k o D):g<w.heap.size/\m<w.heap.size/\∀r,leads sv r->r<w.heap.size:=
 ⟨h.1.lt,h.2.2.1.lt,λr a=>by obtain⟨rfl,e⟩:=bQ h.2.1 a;exact e⟩
instance (s t:Λ):Decidable (dk s t):=decidable_of_iff ((cH s t 0).isSome=true) ⟨λh=>by
 cases a:cH s t 0 with
 |none=>rw[a]at h;cases h
 |some n=>exact⟨n,a⟩,λ⟨n,h⟩=>by rw[h];rfl⟩
theorem ts(h:aI .i64 w sv l)(H:l.length<=1000000):am x7 zx [sv] w λv w'=>Ext w w'/\∃g,w.heap.size<=g/\av .i64 ah w' g v l:=by
 refine az func112 ?_;rw[aX ay.u h];refine jN (k:=.i64) an.u ah.i Ω Ω λg V I p q=>?_;have z:av .i64 ah V g (.slice (σ ⟨g,0,ν⟩) l.length l.length) (p8 l.length 0):=by
  have:=bV.full (k:=1) (n:=l.length) q Ξ (by simp[maxLen];omega);exact av.of this
 rw[aX ay.u (h.ext p)];have J:=q.lt;refine ck.range l.length (λi aa=>ai (λr=>r=g) V aa/\av .i64 ah aa g (.slice (σ ⟨g,0,ν⟩) l.length l.length) (l.take i++p8 (l.length-i) 0)) h.le ⟨ai.refl _ _,by simpa using z⟩ ?_ ?_
 rotate_left
 .rintro aa A ⟨f,a⟩;rw[aR,al];rw[o7,U3,List.replicate_zero,W8]at a;exact⟨λh=>Ω,λ_=>⟨p.put f Ω,g,Ω,a⟩⟩
 rintro i aa A hi ⟨f,a⟩ B;obtain⟨x,s⟩:=aJ (l:=l) hi;have C:Ext w aa:=p.put f Ω;refine bM Ω ?_;rw[bg ay.u au.i Ψ (h.ext C) s];rw[hy rfl an.u ah.i a Θ];refine hz ah.i a Θ λK E L y=>?_;rw[aN];refine B _ ⟨f.trans E,?_⟩;have e:(l.take i++p8 (l.length-i) 0).set i x=l.take (i+1)++p8 (l.length-(i+1)) 0:=by
  have G:(l.take i).length=i:=by rw[n9];omega
  rw[T4 _ _ Ω,G,U3,show l.length-i=(l.length-(i+1))+1 by omega,List.replicate_succ,List.set_cons_zero,u9,s,j5,V0];rfl
 rw[e]at y;exact y
def Mz(w:x3)(l:Λ)(k o:Int)(v:x1)(w':x3):Prop:=
 Ext w w'/\(¬b3 l->v= .tuple #[.pointer ν,Δ 1])/\(b3 l->¬cq o k->v= .tuple #[.pointer ν,Δ 3])/\
  (b3 l->cq o k->∃g m sv gs,v= .tuple #[Γ g,Δ 0]/\w.heap.size<=g/\w.heap.size<=m/\(∀r,leads sv r->w.heap.size<=r)/\fQ w' g m sv gs l k o [])
theorem MA{o:Int}(h:aI .i64 w sv l):am x7 oQ [sv,Δ k,Δ o] w (Mz w l k o):=by
 refine az func187 ?_;refine aV (λv V=>Ext w V/\∃c,v= .bool c/\(c=true↔¬b3 l)) ?_ ?_
 .rintro _ V ⟨e,c,rfl,f⟩;rw[b2];refine⟨λy=>⟨e,λ_=>rfl,λh=>absurd h (f.1 y),λh=>absurd h (f.1 y)⟩,λag=>?_⟩;have U:b3 l:=Classical.byContradiction λh=>by have:=f.2 h;rw[ag]at this;cases this
  have I:=U.1;refine jP.mono ?_;rintro _ aa _ ⟨rfl,a⟩;by_cases hi:cq o k
  rotate_left
  .simp only[hi,decide_false,bH,W7,bR];exact⟨e.trans a,λh=>absurd U h,λ_ _=>rfl,λ_ h=>absurd h hi⟩
  simp only[hi,decide_true,bH,X1,a1];refine(ku ((h.ext e).ext a) Ω).mono ?_;rintro aK J _ ⟨z,B,K,hm⟩;have L:=hm.ls.cells;refine s7 λm M N q C=>?_;rw[cW (cs:=#[aK,Δ k,Δ o,.map (σ m)]) (by obtain⟨_,_,_,_,_,rfl,_⟩:=hm.ls;kernel_rfl)];refine bf λg O P s E=>?_;have s1:=e.size;have Q:=a.size;have R:=z.size;have S:=q.size;exact⟨((((e.trans a).trans z).trans q).trans s),λh=>absurd U h,λ_ h=>absurd hi h,λ_ _=>⟨g,m,aK,B,rfl,Ω,Ω,λr G=>by have:=(bQ hm G).1;omega,E,(hm.ext q).ext s,C.ext s,U,hi,λp H=>by cases H⟩⟩
 .intro aA A;rw[aX an.u h];simp only[bL,al];refine⟨λW=>A _ _ ⟨Ext.refl _,true,rfl,λ_ U=>by have:=U.1;omega,λ_=>rfl⟩,λX=>?_⟩;refine(BI h).mono ?_;rintro _ aa _ ⟨rfl,a⟩;refine A _ _ ⟨a,_,rfl,?_⟩;rw[decide_eq_true_eq];exact⟨λx U=>x U.2,λx U=>x ⟨Ω,U⟩⟩
structure CG where
 ak:Λ
 k:Int
 o:Int
 D:Told
instance Sr:ap CG where
 n:=1
 rep _ _ R w cs a:=∃g m sv gs,cs=[Γ g]/\fQ w g m sv gs a.ak a.k a.o a.D/\R g/\R m/\∀r,leads sv r->R r
 len:=by rintro _ _ _ _ _ _ ⟨_,_,_,_,rfl,_⟩;rfl
 one:=by rintro _ _ _ _ _ _ ⟨_,_,_,_,rfl,_⟩ u hu;simp at hu;subst hu;rfl
 ab:=by
  rintro _ _ R T w w' _ a ⟨g,m,sv,gs,rfl,h1,f,h,p⟩ J q;obtain⟨s,x,y⟩:=h1.qG;exact⟨g,m,sv,gs,rfl,h1.ab J (q g s (.inr f)) (q m x (.inr h)) λr e=>q r (y r e) (.inr (p r e)),f,h,p⟩
 mono:=by
  rintro _ _ _ R R' w _ a ⟨g,m,sv,gs,rfl,h1,f,h,p⟩ _ z;obtain⟨s,x,y⟩:=h1.qG;exact⟨g,m,sv,gs,rfl,h1,z g s f,z m x h,λr e=>z r (y r e) (p r e)⟩
 hR:=by
  rintro _ _ R w _ a ⟨g,m,sv,gs,rfl,h1,f,h,p⟩;exact⟨g,m,sv,gs,rfl,h1,.inr f,.inr h,λr e=>.inr (p r e)⟩
abbrev ha:Type:=Rd (Λ)×CG
def qW(k:Int)(x:cj)(f:ha):Prop:=f.1=x.scope/\f.2.ak=x.sizes/\f.2.k=k/\f.2.o=min x.other k/\f.2.D.length<=x.lines.length/\∀t,im f.2.D f.2.o t=jU x k t
theorem MB{m:Bool}{S R:aj}{x:cj}(h:ap.rep m S R w cs (gZ x)):∃aL szv b1,cs=[aL,szv,Δ x.other,b1]/\ap.rep (α:=Λ) false bA R w [aL] x.scope/\ap.rep (α:=Λ) false bA R w [szv] x.sizes/\ap.rep (α:=List (Λ×Int)) false bA R w [b1] x.lines:=by
 obtain⟨p,d1,s,z,rfl,_,_,_,h1,q,d2,A,B,rfl,_,_,_,a,r,d3,C,E,rfl,_,_,_,f,e⟩:=h;have h1:ap.rep (α:=Λ) false bA R w p x.scope:=h1;have a:ap.rep (α:=Λ) false bA R w q x.sizes:=a;have f:r=[Δ x.other]:=f;have e:ap.rep (α:=List (Λ×Int)) false bA R w d3 x.lines:=e;obtain⟨u,rfl⟩:=W6.1 (show p.length=1 from ap.len h1);obtain⟨v,rfl⟩:=W6.1 (show q.length=1 from ap.len a);obtain⟨y,rfl⟩:=W6.1 (show d3.length=1 from ap.len e);subst f;exact⟨u,v,y,rfl,h1,a,e⟩
theorem MC{m:Bool}{S R:aj}{p:Λ×Int}(h:ap.rep m S R w cs p):∃aK,cs=[aK,Δ p.2]/\aI .i64 w aK p.1:=by
 obtain⟨e,d1,f,q,rfl,_,_,_,h1,a⟩:=h;obtain⟨u,rfl⟩:=W6.1 (show e.length=1 from ap.len h1);have a:d1=[Δ p.2]:=a;subst a;exact⟨u,rfl,eD h1⟩
structure tt(k:Int)(x:cj):Prop where
 k:right k
 sizes:b3 x.sizes
 other:0<=x.other
 lines:mQ x.sizes x.lines
 len:x.lines.length<=60000
 scope:x.scope.length<=100001
theorem c5{k:o6}(h:aI k w v l):∃a n c,v= .slice a n c:=by
 obtain⟨_,b,o,base,cap,rfl,_⟩:=h;exact⟨_,_,_,rfl⟩
theorem MD{ak:Nat}{ir aO aP:x1}{K:Int}{R:aj}{x:cj}(al:af w ak cB [ir,Δ K,aO,aP])(J:Seen R w cs (gZ x))(aQ:tt K x):
  am x7 vl [Γ ak,.agg cs.toArray] w λv w'=>Ext w w'/\∃b4,∃f:ha,v= .agg b4.toArray/\b4.length=2/\Seen (eE w.heap.size) w' b4 f/\qW K x f:=by
 obtain⟨aL,szv,b1,rfl,h1,an,Q⟩:=MB J;obtain⟨H,S,bo,aq,bp,bq⟩:=aQ;have br:x.sizes.length<=6:=S.1;refine az func113 ?_;refine bf λao V bt au s=>?_;have s:af V ao b0 [aL,szv,Δ x.other,b1]:=by
  obtain⟨_,_,_,rfl⟩:=mc h1;obtain⟨_,_,_,rfl⟩:=mc an;obtain⟨_,_,_,rfl⟩:=mc Q;exact s
 refine bx cC.i λz aa bw U I=>?_;have I:af aa z cC [.slice ν 0 0,.pointer ν]:=I;intro bz L _ _;have W:=(au.trans U).trans L;have X:=U.trans L;have bB:=au.size;have bC:=U.size;have z3:=L.size;have bD:=I.lt;have aw:=al.ext W;rw[aT b0.p 1 (s.ext X) rfl,aS cB.p 1 aw rfl,
  aT b0.p 2 (s.ext X) rfl,aS cB.p 1 aw rfl,l1]
 refine(ts ((eD an).ext W) Ω).mono ?_;rintro bE bF _ ⟨A,bG,bH,aR⟩;refine⟨.inl A,?_⟩;have z4:=A.size;have aU:cq (min x.other K) K:=⟨H,by have:=H.1;omega,Ω⟩;refine(MA aR.ls).mono ?_;rintro _ aV _ ⟨M,_,_,aW⟩;obtain⟨gT,m,sv,gs,rfl,bI,bJ,ax,aX⟩:=aW S aU;rw[bm,bn];have z5:=M.size;have Y:=(W.trans A).trans M;have ay:=(X.trans A).trans M;rw[aT b0.p 3 (s.ext ay) rfl];have aA:=bW Q Y;rw[jo iH.u aA];refine ck.range x.lines.length (λi a=>ai (λr=>r=m) aV a/\∃D,D.length<=i/\fQ a gT m sv gs x.sizes K (min x.other K) D/\∀t,im D (min x.other K) t=lk x K i t) (sC aA) ⟨ai.refl _ _,[],o4 _,aX,λt=>by rw[Cv];rfl⟩ ?_ ?_
 .rintro i a aY hi ⟨e,D,aB,B,Z⟩ aZ;obtain⟨p,ac⟩:=aJ (l:=x.lines) hi;have aC:=aq.2 p (x5 ac);have C:Ext w a:=Y.put e Ω;have a1:=e.size;have a2:ap.rep (α:=List (Λ×Int)) false bA R a [b1] x.lines:=bW Q C;refine bM Ω ?_;refine nL dX.p rfl iH.u dX.i a2 ac λbK a6=>?_;obtain⟨aK,rfl,aD⟩:=MC a6;refine bx dX.i λbL bN bO aE a7=>?_;have bP:=aE.size;refine ci (vs:=[aK,Δ p.2]) dX.i rfl rfl (by intro v ad;simp at ad;rcases ad with rfl|rfl<;>first|exact aD.cells.2|rfl) a7 λa8 ba bR aF=>?_;have bb:Ext a a8:=aE.put ba Ω;intro bS ae _ _;have y:=bb.trans ae;have z9:=y.size;rw[aT dX.p 0 (aF.ext ae) rfl,aT dX.p 1 (aF.ext ae) rfl,aS cB.p 1 ((al.ext C).ext y) rfl,l1];have bT:=wg S aC.1;refine(ts (aD.ext y) Ω).mono ?_;rintro bU bV _ ⟨E,bX,bY,bc⟩;refine⟨.inl E,?_⟩;have bZ:=E.size;refine(BQ (c:=min p.2 K) ((B.ext y).ext E).is bc.ls).mono ?_;rintro _ b2 _ ⟨_,bd⟩;have be:cq (min p.2 K) K:=⟨H,by have:=H.1;omega,Ω⟩;obtain⟨rfl,aG,D',aH,aI⟩:=bd ⟨aC.1,be⟩;rw[aN];refine aZ _ ⟨(e.trans ((y.trans E).ab _)).trans aG,D',by have:=aH.2;omega,fQ.put ((B.ext y).ext E) aG aI,λt=>?_⟩;rw[Cx aq.1 ac,aH.cost B.is.nodup aI.nodup];by_cases N:t=p.1
  .rw[if_pos N,if_pos N]
  .rw[if_neg N,if_neg N,Z]
 .rintro a aY ⟨e,D,aB,B,Z⟩;have C:Ext w a:=Y.put e Ω;have bg:Ext V a:=ay.put e Ω;have a1:=e.size;refine cE Ω ?_;rw[aT b0.p 0 (s.ext bg) rfl];refine(ts ((eD h1).ext C) Ω).mono ?_;rintro O b3 _ ⟨P,bh,b5,G⟩;have z12:=P.size;rw[cW (cs:=#[O,Γ gT]) (by obtain⟨_,_,_,rfl⟩:=c5 G.ls;kernel_rfl)];have bi:Ext aa a:=((L.trans A).trans M).put e Ω;refine ci (vs:=[O,Γ gT]) cC.i rfl rfl (by intro v ad;simp at ad;rcases ad with rfl|rfl<;>first|exact G.ls.cells.2|rfl) ((I.ext bi).ext P) λaM ag b6 bj=>?_;rw[fJ cC.p cC.i rfl bj.range];have bk:fQ aM gT m sv gs x.sizes K (min x.other K) D:=(B.ext P).ab ag (λhe=>by have he:gT=z:=he;omega) (λhe=>by have he:m=z:=he;omega) (λr q he=>by have he:r=z:=he;have:=ax r q;omega);have bl:av .i64 ah aM bh O x.scope:=bu G ag λr q he=>by have he:r=z:=he;have:=(bQ G q).1;omega
  refine⟨(C.trans P).put ag Ω,_,(x.scope,⟨x.sizes,K,min x.other K,D⟩),rfl,rfl,?_,rfl,rfl,rfl,rfl,aB,λt=>?_⟩
  .exact⟨[O],[Γ gT],bA,bA,rfl,λ_ h=>h,λ_ h=>h,λ_ _ h _=>h,qT bl λr q=>by have:=(bQ G q).1;show w.heap.size<=r;omega,
    ⟨gT,m,sv,gs,rfl,bk,by show w.heap.size<=gT;omega,by show w.heap.size<=m;omega,λr q=>by have:=ax r q;show w.heap.size<=r;omega⟩⟩
  .rw[Z,Cw]
theorem ME{S R:aj}{f:ha}(h:ap.rep false S R w cs f):ap.rep (α:=ha) true bA R w cs f:=by
 obtain⟨c,d,A,B,rfl,h1,p,_,a,e⟩:=h;exact⟨c,d,bA,bA,rfl,λ_ h=>h,λ_ h=>h,λ_ _ h _=>h,a,e⟩
def tu(k:Int)(a:List cj)(e:List ha):Prop:=e.length=a.length/\∀(i:Nat)x f,a[i]?=σ x->e[i]?=σ f->qW k x f
theorem MF{e:Nat}{m:Bool}{S R:aj}{ir szv ae:x1}{K:Int}{q:List cj}{aC:x3->Prop}(aE:af w e cB [ir,Δ K,szv,.slice ν 0 0])(aV:ap.rep m S R w [ae] (show List hF from q.map gZ))(aW:∀r,S r\/R r->r≠e)(aX:∀x∈q,tt K x)(bL:q.length<=256)(aY:∀w' z,∀s:List ha,ai (λr=>r=e) w w'->af w' e cB [ir,Δ K,szv,z]->Seen (λr=>w.heap.size<=r) w' [z] s->tu K q s->aC w'):
  ck (Δ 0) w λak E aZ=>
   ac x7 (aM .lss ah false false ak (Δ (q.length:Int))) E λa1=>
   Split a1 (ac x7 (c7 jf ae ak) E λa2=>
   ac x7 (u5 b0 a2) E λa6=>
   aD x7 (Instr.alloc b0 true (.tuple #[])) E λx a7=>
   aD x7 (o8 b0 x a6) a7 λ(_:Unit)a8=>
   ej a8 λC=>
   ac x7 (bO (Γ e)) C λG=>
   ac x7 (u6 cB G 3) C λH=>
   ac x7 (u5 dH H) C λan=>
   ac x7 (u5 b0 x) C λba=>
   am x7 vl [(Γ e),ba] C λbb I=>
    (Ext C I\/cA x7 (u5 dH H) an I/\cA x7 (u6 cB G 3) H I/\cA x7 (bO (Γ e)) G I/\True)/\
   aD x7 (Y4 dH 1 #[(0,bb)]) I λbc J=>
    (Ext C J\/cA x7 (u5 dH H) an J/\cA x7 (u6 cB G 3) H J/\cA x7 (bO (Γ e)) G J/\True)/\
    aD x7 (Z0 #[dH,dH] dH #[an,bc]) J λbd aq=>
     ac x7 (bO (Γ e)) aq λbe=>
     ac x7 (u6 cB be 3) aq λbf=>
     aD x7 (o8 dH bf bd) aq λ(_:Unit)aF=>
     ac x7 (aM .add ah false true ak (Δ 1)) aF λbg=>
   aZ bg aF) (aC E):=by
 have bN:=aE.lt;have bQ:(q.map gZ).length=q.length:=Ξ
 refine ck.range q.length (λi V=>ai (λr=>r=e) w V/\∃z,∃s:List ha,∃A R':aj,af V e cB [ir,Δ K,szv,z]/\bF A R' V [z] s/\(∀r,A r->w.heap.size<=r/\r<V.heap.size)/\(∀r,R' r->w.heap.size<=r/\¬A r/\r<V.heap.size)/\tu K (q.take i) s) Ω
  ⟨ai.refl _ _,_,[],bA,bA,aE,hv,λ_ h=>h.elim,λ_ h=>h.elim,rfl,λi x f h=>by simp at h⟩ ?_ ?_
 rotate_left
 .rintro V bh ⟨L,z,s,A,R',M,au,B,N,Q⟩;rw[o7]at Q;rw[aR,al];refine⟨λh=>Ω,λ_=>aY V z s L M (qj au λr _ h=>?_) Q⟩;exact h.elim (λh=>(B r h).1) λh=>(N r h).1
 rintro i V bh hi ⟨L,z,s,A,R',M,au,B,N,aG,Q⟩ bi;obtain⟨x,av⟩:=aJ (l:=q) hi;have bj:=aX x (x5 av);have bR:=L.size;rw[n9]at aG;have bk:ap.rep m S R V [ae] (show List hF from q.map gZ):=ap.ab aV L λr _ h he=>aW r h he;refine bM Ω ?_;refine nL (α:=hF) (a:=gZ x) b0.p rfl jf.u b0.i bk (by show(q.map gZ)[i]?=_;rw[x8,av];rfl) λcs aw=>?_;have aH:cs.length=4:=ap.len aw;have bm:Seen (λr=>S r\/R r) V cs (gZ x):=qj aw λr _ h=>h;refine bx b0.i λao aa bS aI bn=>?_;have bT:=aI.size;refine ci (vs:=cs) b0.i aH rfl (ap.one aw) bn λbo bp bV bq=>?_;have br:Ext V bo:=aI.put bp Ω;intro U aK _ _;have O:=br.trans aK;have z4:=O.size;rw[aS cB.p 3 (M.ext O) rfl,bP b0.p b0.i aH (bq.ext aK).range];refine(MD (M.ext O) (bW bm O) bj).mono ?_;rintro _ W _ ⟨X,b4,f,rfl,bX,ag,bt⟩;have z5:=X.size;refine⟨.inl X,?_⟩;have aL:=ME ag;have bu:=O.trans X;refine kt (α:=ha) (a:=f) (cs:=b4) (A:=bA) (R:=eE U.heap.size) dH.u cC.i Φ (by
  obtain⟨c,d,bY,bZ,he,_,_,_,Y,bw⟩:=ag;have Y:ap.rep (α:=Λ) false bA _ W c f.1:=Y;obtain⟨u,rfl⟩:=W6.1 (show c.length=1 from ap.len Y);obtain⟨b1,cd,b2,b3,rfl,_⟩:=bw;obtain⟨_,_,_,rfl⟩:=mc Y;cases he;rfl) aL λu ax Z _ hu=>?_
 have b5:=Z.size;refine⟨.inl (X.trans Z),?_⟩;have ay:=bu.trans Z;have bz:bF A (λr=>R' r\/(U.heap.size<=r/\r<W.heap.size)) ax [z] s:=bW (ap.mono au (λ_ _ h=>h) λ_ _ h=>.inl h) ay;have bB:bF bA (λr=>R' r\/(U.heap.size<=r/\r<W.heap.size)) ax b4 f:=bW (ap.mono aL (λ_ _ h=>h) λr y h=>.inr ⟨h,y⟩) Z;refine nM (α:=ha) (a:=f) (A:=bA) dH.u cC.i rfl bz hu bB (λr _ aO h=>?_) Ω Ω λaP bC az aA=>?_
 .rcases h with h|h|h
  .exact h
  .exact (N r h).2.1 aO
  .have:=(B r aO).2;omega
 have b6:=aA.size;rw[bU,aU cB.p rfl];have bD:=(M.ext ay).ab aA (λhe=>by have:=(B _ he).1;omega);refine bl (g:=e) (o:=3) dH.i (ql az) (jn az) bD Ξ λbE aQ b7 aB=>?_;have aB:af bE e cB [ir,Δ K,szv,aP]:=aB;rw[aN];have bG:=mG az;refine bi _ ⟨(hA (L.trans (ay.ab _)) aA λr y he=>by have:=(B _ he).1;omega).trans aQ,aP,s++[f],λr=>((A r\/bA r\/ax.heap.size<=r)/\r<bC.heap.size),λr=>R' r\/(U.heap.size<=r/\r<W.heap.size),aB,ap.ab bG aQ λr _ h he=>?_,λr y=>?_,λr y=>?_,?_,λj bH bI ad P=>?_⟩
 .have he:r=e:=he;rcases h with h|h|h
  .rcases h.1 with h1|h1|h1
   .have:=(B _ h1).1;omega
   .exact h1
   .omega
  .have:=(N r h).1;omega
  .omega
 .have b8:=y.2;rcases y.1 with h1|h1|h1
  .have:=(B _ h1).1;omega
  .exact h1.elim
  .omega
 .rcases y with y|y
  .have aT:=N r y;refine⟨aT.1,λh=>?_,Ω⟩;rcases h.1 with h1|h1|h1
   .exact aT.2.1 h1
   .exact h1
   .omega
  .refine⟨Ω,λh=>?_,Ω⟩;rcases h.1 with h1|h1|h1
   .have:=(B _ h1).2;omega
   .exact h1
   .omega
 .rw[r9,n9,aG];simp;omega
 .have bJ:=(x4.1 P).1;rw[r9,T1]at bJ;rw[Z7 Ω]at ad;by_cases bK:j<s.length
  .rw[Y5 bK]at P;exact Q j bH bI (by rw[Z7 Ω];exact ad) P
  .rw[Y6 Ω,show j-s.length=0 by omega]at P;rw[show j=i by omega,av]at ad;cases P;cases ad;exact bt
def ll(w:x3)(h:Nat)(f:bY):Prop:=∃szv a gz,∃e:List ha,af w h cB [bI f.name,Δ f.k,szv,a]/\av .i64 ah w gz szv f.sizes/\Seen fi w [a] e/\tu f.k f.funs e
theorem ll.ext{a:Nat}{f:bY}(h:ll w a f)(J:Ext w w'):ll w' a f:=by
 obtain⟨szv,e,gz,p,h1,q,r,s⟩:=h;exact⟨szv,e,gz,p,h1.ext J,q.ext J,bW r J,s⟩
def CH(w:x3)(res:Option bY)(v:x1)(w':x3):Prop:=Ext w w'/\match res with
 |none=>∃n e:Int,v= .tuple #[.pointer ν,Δ n,Δ e]/\e≠0
 |some f=>∃a,∃n:Int,v= .tuple #[Γ a,Δ n,Δ 0]/\ll w' a f
structure MG(clean:Bool)(so:Option aE)(name:Λ)(k:Int)(sizes:Λ)(acc:List hF)(res:Option bY):Prop where
 po:∀s,so=σ s->s.toks=[]->clean=true->s.big=false->∃fs,acc=fs.map gZ/\res=σ ⟨name,k,sizes,fs⟩/\(∀x∈fs,tt k x)/\fs.length<=256/\sizes.length<=1000000
 bad:res≠ν->∃s,so=σ s/\s.toks=[]/\clean=true/\s.big=false
theorem MH{g:Nat}{A B S R:aj}{m clean:Bool}{so:Option aE}{name:Λ}{acc:List hF}{res:Option bY}{szv au p:x1}{pl:Λ}{Q:x1->x3->Prop}(aF:gY w g gs A B clean so)(N:MG clean so name k sizes acc res)(bn:aI .i64 w szv sizes)(bo:∀r,leads szv r->r≠g/\r≠gs)(bp:ap.rep m S R w [au] acc)(a6:∀r,S r\/R r->r≠g/\r≠gs/\r<w.heap.size)(c0:so=ν->True)(c1:g<w.heap.size)(c2:gs<w.heap.size)(bq:ai (λr=>w0.heap.size<=r) w0 w)(c3:w0.heap.size<=g)(c4:w0.heap.size<=gs)(br:aI .u8 w0 p pl)(X:∀v w',CH w0 res v w'->Q v w'):
  cu (α:=x3->Prop) (λ(q:x3)=>
  ac x7 (bO (Γ g)) q λbt=>
  ac x7 (u6 ce bt 1) q λbu=>
  ac x7 (u6 eY bu 0) q λbw=>
  ac x7 (u5 jK bw) q λbx=>
  ac x7 (aM .neq jK false true bx (Δ 0)) q λbz=>
  Split bz (ej q λH=>
   ac x7 (bO (Γ g)) H λbA=>
   ac x7 (u6 ce bA 1) H λbB=>
   ac x7 (u6 eY bB 2) H λbD=>
   ac x7 (u5 ah bD) H λbE=>
   ac x7 (bO (Γ g)) H λbF=>
   ac x7 (u6 ce bF 1) H λbG=>
   ac x7 (u6 eY bG 0) H λbH=>
   ac x7 (u5 jK bH) H λbJ=>
   Q (.tuple #[(.pointer ν),bE,bJ]) H)
   (ac x7 (bO (Γ g)) q λbK=>
   ac x7 (u6 ce bK 1) q λbL=>
   ac x7 (u6 eY bL 1) q λbM=>
   ac x7 (u5 jK bM) q λbN=>
   ac x7 (aM .neq jK false true bN (Δ 0)) q λbP=>
   Split bP (ej q λI=>
   ac x7 (bO (Γ g)) I λbQ=>
   ac x7 (u6 ce bQ 1) I λbS=>
   ac x7 (u6 eY bS 3) I λbT=>
   ac x7 (u5 ah bT) I λbV=>
   ac x7 (bO (Γ g)) I λbX=>
   ac x7 (u6 ce bX 1) I λbZ=>
   ac x7 (u6 eY bZ 1) I λb1=>
   ac x7 (u5 jK b1) I λb2=>
   Q (.tuple #[(.pointer ν),bV,b2]) I)
   (am x7 zx [szv] q λb3 a7=>
  ac x7 (Instr.build cB #[(0,bI name),(1,Δ k),(2,b3)]) a7 λb4=>
  aD x7 (Instr.box cB b4) a7 λO a8=>
  ac x7 (W9 #[jf] ah #[au]) a8 λb5=>
  ck (Δ 0) a8 λaG P b6=>
   ac x7 (aM .lss ah false false aG b5) P λb7=>
   Split b7 (ac x7 (c7 jf au aG) P λb8=>
   ac x7 (u5 b0 b8) P λb9=>
   aD x7 (Instr.alloc b0 true (.tuple #[])) P λx ca=>
   aD x7 (o8 b0 x b9) ca λ(_:Unit)cb=>
   ej cb λM=>
   ac x7 (bO O) M λY=>
   ac x7 (u6 cB Y 3) M λZ=>
   ac x7 (u5 dH Z) M λaH=>
   ac x7 (u5 b0 x) M λcc=>
   am x7 vl [O,cc] M λcd ae=>
    (Ext M ae\/cA x7 (u5 dH Z) aH ae/\cA x7 (u6 cB Y 3) Z ae/\cA x7 (bO O) Y ae/\True)/\
   aD x7 (Y4 dH 1 #[(0,cd)]) ae λcg ag=>
    (Ext M ag\/cA x7 (u5 dH Z) aH ag/\cA x7 (u6 cB Y 3) Z ag/\cA x7 (bO O) Y ag/\True)/\
    aD x7 (Z0 #[dH,dH] dH #[aH,cg]) ag λch aJ=>
     ac x7 (bO O) aJ λci=>
     ac x7 (u6 cB ci 3) aJ λcj=>
     aD x7 (o8 dH cj ch) aJ λ(_:Unit)ba=>
     ac x7 (aM .add ah false true aG (Δ 1)) ba λcl=>
   b6 cl ba)
    (ac x7 (W9 #[cN] ah #[p]) P λcm=>
  Q (.tuple #[O,cm,(Δ 0)]) P)))) λav=>
 am x7 k0 [(Γ g)] w λcn ak=>
 Split cn (ac x7 (bO (Γ g)) ak λcp=>
  ac x7 (u6 ce cp 0) ak λcq=>
  ac x7 (u5 sr cq) ak λcr=>
  am x7 vk [cr] ak λaK L=>
  ac x7 (Y0 aK 0) L λc6=>
  ac x7 (Y0 aK 1) L λbb=>
  ac x7 (Y0 aK 2) L λaL=>
  ac x7 (aM .eql jK false true aL (Δ 0)) L λct=>
  Split ct (am x7 ny [(Γ g),(Δ 4),bb] L λc8 cw=>
  av cw)
  (ac x7 (aM .eql jK false true aL (Δ 11)) L λcz=>
  Split cz (am x7 ny [(Γ g),aL,bb] L λc9 cC=>
   av cC)
   (av L)))
  (av ak):=by
 refine da (λq=>ai (λr=>r=g\/r=gs) w q/\∃(e big J K told:Int)(sv:x1),af q g ce (fO gs e big J K told sv)/\((e≠0/\res=ν)\/(e=0/\∃s,so=σ s/\s.toks=[]/\clean=true/\(s.big=true↔big≠0)))) ?_ ?_
 rotate_left
 .intro aA aN;refine(Ch aF).mono ?_;rintro _ V _ ⟨rfl,an⟩;cases so with
  |none=>
   rw[show(ν:Option aE).isSome=false from rfl,a1];obtain⟨e,big,J,K,told,sv,z,aO⟩:=aF.ext an;refine aN _ ⟨an.ab _,e,big,J,K,told,sv,z,.inl ⟨aO,?_⟩⟩;cases G:res with
   |none=>rfl
   |some f=>obtain⟨s,h,_⟩:=N.bad (by rw[G];simp);cases h
  |some s=>
   rw[show(σ s:Option aE).isSome=true from rfl,bR];have cD:di V g gs A B s clean:=aF.ext an;obtain⟨aw,cE,cF,big,J,K,told,sv,z,aO,cG⟩:=id cD;rw[aS ce.p 0 z rfl];refine(qD cE).mono ?_;rintro v aa _ ⟨U,ad⟩;have cH:(s.toks≠[]\/clean=false)->res=ν:=λy=>by
    cases G:res with
    |none=>rfl
    |some f=>
     obtain⟨s',h,ao,bc,_⟩:=N.bad (by rw[G];simp);cases h;rcases y with y|y
     .exact absurd ao y
     .rw[y]at bc;cases bc
   have ay:∀C,ai (λr=>r=g) aa C->eu C g gs A B->(s.toks≠[]\/clean=false)->aA C:=λC aq ay y=>by
    obtain⟨_,e,big,J,K,told,sv,l,cI,cJ,_⟩:=ay;exact aN _ ⟨((an.ab _).trans (U.mono λr _ h=>.inr h)).trans (aq.mono λr _ h=>.inl h),e,big,J,K,told,sv,cI,.inl ⟨cJ.1,cH y⟩⟩
   have aP:=z.ab U aw.1;have bd:=ap.ab cG U λr _ h ao=>by
    have ao:r=gs:=ao;subst ao;rcases h with h|h
    .exact aw.2.2.1 h
    .exact h.1 (.inr (.inl rfl))
   have bg:s.shared.length<=100000:=by have:=cF.2.2;omega
   cases W:s.toks with
   |cons t l=>
    rw[W]at ad;obtain⟨db,n,rfl⟩:=ad;rw[fK,fL,fM,be,al];refine⟨λ_=>?_,λh=>absurd rfl h⟩;refine(sY (aw.ab U) aP bd Ω bg).mono ?_;rintro _ C _ ⟨aq,aQ⟩;exact ay C aq aQ (.inl (by rw[W];simp))
   |nil=>
    rw[W]at ad;obtain⟨n,rfl⟩:=ad;rw[fK,fL,fM,be,al];refine⟨λh=>by cases clean<;>simp at h,λ_=>?_⟩;rw[be,al];cases az:clean with
    |true=>
     subst az;refine⟨λh=>by simp at h,λ_=>aN _ ⟨(an.ab _).trans (U.mono λr _ h=>.inr h),0,big,J,K,told,sv,aP,.inr ⟨rfl,s,rfl,W,rfl,aO.1⟩⟩⟩
    |false=>
     subst az;refine⟨λ_=>?_,λh=>absurd rfl h⟩;refine(sY (aw.ab U) aP bd Ξ bg).mono ?_;rintro _ C _ ⟨aq,aQ⟩;exact ay C aq aQ (.inr rfl)
 .rintro V ⟨aB,e,big,J,K,told,sv,z,cK⟩;have dc:=aB.size;have aR:Ext w0 V:=(bq.ext λr G h=>Ω).then aB (λr G h=>by rcases h with h|h<;>omega);rw[bU,aU ce.p rfl,aU eY.p rfl,ax Ψ (z.cell (o:=0+1+0) rfl),bC,al];rcases cK with⟨he,aT⟩|⟨rfl,s,rfl,W,az,bh⟩
  .refine⟨λ_=>?_,λh=>absurd he h⟩;intro aa E _ _;rw[bU,aU ce.p rfl,aU eY.p rfl,ax Ψ ((z.ext E).cell (o:=0+1+2) rfl),bU,aU ce.p rfl,aU eY.p rfl,ax Ψ ((z.ext E).cell (o:=0+1+0) rfl)];rw[aT]at X;exact X _ _ ⟨aR.trans E,J,e,rfl,he⟩
  .refine⟨λh=>absurd rfl h,λ_=>?_⟩;rw[bU,aU ce.p rfl,aU eY.p rfl,ax Ψ (z.cell (o:=0+1+1) rfl),bC,al];refine⟨λy=>?_,λy=>?_⟩
   .have aT:res=ν:=by
     cases G:res with
     |none=>rfl
     |some f=>
      obtain⟨s',h,_,_,bi⟩:=N.bad (by rw[G];simp);cases h;rw[bh.2 y]at bi;cases bi
    intro aa E _ _;rw[bU,aU ce.p rfl,aU eY.p rfl,ax Ψ ((z.ext E).cell (o:=0+1+3) rfl),bU,aU ce.p rfl,aU eY.p rfl,ax Ψ ((z.ext E).cell (o:=0+1+1) rfl)];rw[aT]at X;exact X _ _ ⟨aR.trans E,K,big,rfl,y⟩
   .have cL:s.big=false:=by
     cases cM:s.big with
     |false=>rfl
     |true=>exact absurd (bh.1 cM) y
    obtain⟨aV,rfl,rfl,cO,cP,cQ⟩:=N.po s rfl W az cL;have cR:aI .i64 V szv sizes:=hV bn aB λr G a n c ad N=>by
     have:=bo r ⟨a,n,c,ad,N⟩;exact G.elim this.1 this.2
    refine(ts cR cQ).mono ?_;rintro aW aa _ ⟨E,gz,dd,aY⟩;have de:=E.size;rw[cW (cs:=#[bI name,Δ k,aW,.slice ν 0 0]) (by obtain⟨_,_,_,rfl⟩:=c5 aY.ls;kernel_rfl)];refine bf λaZ C df a2 aC=>?_;have aC:af C aZ cB [bI name,Δ k,aW,.slice ν 0 0]:=by obtain⟨_,_,_,rfl⟩:=c5 aY.ls;exact aC
    have bj:ap.rep m S R C [au] (show List hF from aV.map gZ):=bW (bW (ap.ab bp aB λr _ h he=>by have:=a6 r h;exact he.elim this.1 this.2.1) E) a2;have cS:(aV.map gZ).length=aV.length:=Ξ
    rw[jo jf.u bj,cS];refine MF aC bj (λr h=>by have:=a6 r h;omega) cO cP λbk cT cU cV cX cY cZ=>?_;have dg:=aC.lt;have z3:=a2.size;have bl:Ext aa bk:=a2.then cV (λr G h=>by have h:r=aZ:=h;omega);have bm:Ext w0 bk:=(aR.trans E).trans bl;rw[aX cN.u (br.ext bm)];exact X _ _ ⟨bm,aZ,_,rfl,aW,cT,gz,cU,cX,aY.ext bl,jO cY,cZ⟩
theorem CI{α:Type}{f:List α->aE->Option (α×aE)}{acc:List α}{s:aE}:fo f (n+1) acc (σ s)=match f acc s with
  |none=>ν
  |some (a,s')=>fo f n (acc++[a]) (σ s'):=by
 show cJ f (n+1) acc s=_;simp only[cJ];cases f acc s<;>rfl
theorem MI{g:Nat}{A B:aj}{s:Option aE}{clean:Bool}{most:Int}{O:x1->x3->Prop}(h:dl w g gs A B clean s)(aq:(N:Int)<=aw)(P:∀szv w' l so gz,ai (bD g gs A) w w'->dl w' g gs A B clean so->av .i64 au w' gz szv l->w.heap.size<=gz->l.length<=100001->(∀q,fo (fb most) N [] s=σ q->so=σ q.2/\l=q.1)->(fo (fb most) N [] s=ν->so=ν)->O szv w'):
 cb (.slice ν 0 0) (Δ 0) w λsizes i G k=>
  cu (α:=x1->x3->Prop) (λ(ax:x1)(Q:x3)=>
   Split ax (am x7 nx [Γ g,(Δ 1),Δ most] Q λR y=>
  ac x7 (Y0 R 0) y λS=>
  ac x7 (Y0 R 1) y λaz=>
  ac x7 (aM .gtr au false true S (Δ 32)) y λaB=>
  am x7 qd [Γ g,aB,az] y λbo aC=>
  aD x7 (Y4 ay 1 #[(0,S)]) aC λaF aG=>
  aD x7 (Z0 #[ay,ay] ay #[sizes,aF]) aG λaH U=>
  ac x7 (aM .add au false true i (Δ 1)) U λaI=>
  k aH aI U) (O sizes Q)) λaA=>
  ac x7 (aM .lss au false false i (Δ (N:Int))) G λaJ=>
  Split aJ (am x7 k0 [Γ g] G λaK aL=>
  aA aK aL)
   (aA (.bool false) G):=by
 obtain⟨bp,W,bq,aO,aP⟩:=h.side;have gT:∀r,bD g gs A r->r<w.heap.size:=aO;unfold aw at aq;generalize aQ:fo (fb most) N [] s=X at P;refine⟨λout H V=>∃(i:Nat)(l:Λ)(so:Option aE)(gz:Nat),H=Δ (i:Int)/\i<=N/\ai (bD g gs A) w V/\av .i64 au V gz out l/\w.heap.size<=gz/\dl V g gs A B clean so/\X=fo (fb most) (N-i) l so/\l.length<=100001/\∀st,so=σ st->l.length+st.toks.length<=100000,
  λ_ H _=>N-(bS H).toNat,⟨0,[],s,w.heap.size,rfl,X4 _,ai.refl _ _,av.nil _ _ _ _,o4 _,h,aQ.symm,Ξ,λst aS=>?_⟩,?_⟩
 .subst aS;have:=h.words;simpa using this
 rintro out _ V ⟨i,l,so,gz,rfl,br,I,Y,aT,Z,C,aU,ad⟩;refine aV (λv ae=>Ext V ae/\((v= .bool true/\i<N/\∃st,so=σ st)\/(v= .bool false/\(so=ν\/i=N)))) ?_ ?_
 rotate_left
 .intro aA J;rw[aR,al];refine⟨λaW=>?_,λbt=>J _ _ ⟨Ext.refl _,.inr ⟨rfl,.inr Ω⟩⟩⟩;refine(pu Z).mono ?_;rintro _ ae _ ⟨rfl,af⟩;cases so with
  |none=>exact J _ _ ⟨af,.inr ⟨rfl,.inl rfl⟩⟩
  |some st=>exact J _ _ ⟨af,.inl ⟨rfl,Ω,st,rfl⟩⟩
 rintro _ aa ⟨x,aX⟩;have ag:=Y.ext x;have ah:=Z.ext x;rcases aX with⟨rfl,aW,st,rfl⟩|⟨rfl,aY⟩
 rotate_left
 .rw[a1];have ak:X=so.map λst=>(l,st):=by
   rcases aY with rfl|rfl
   .exact C
   .rw[U3]at C;rw[C];cases so<;>rfl
  refine P out aa l so gz (I.trans (x.ab _)) ah ag aT aU (λq f=>?_) λan=>?_
  .rw[ak]at f;cases so with
   |none=>cases f
   |some st=>cases f;exact⟨rfl,rfl⟩
  .rw[ak]at an;cases so with
   |none=>rfl
   |some st=>cases an
 rw[bR];have ad:=ad st rfl;refine(mb (s:=σ st) ah).mono ?_;rintro _ bw _ ⟨K,z,at_,rfl,aZ,bx⟩;obtain⟨L,a2⟩:=K.of;rw[bm,bn,bL];refine(qR a2).mono ?_;rintro _ bz _ K;obtain⟨M,a6⟩:=K.of;refine et ay.u au.i rfl λa ga a7 bA E a8=>?_;have bB:=I.size;have bC:=x.size;have z3:=L.size;have z4:=M.size;have z5:=E.size;have ao:∀r,leads out r->¬bD g gs A r:=λr p ba=>by have:=gT r ba;have:=(bQ Y p).1;omega
 have bb:=bu (bu ag L ao) M ao;refine jl ay.u au.i rfl (bb.ext E) a8.ls Θ Θ λbE be bf bF bg ap=>?_;rw[aN,wrap_i64 Ω Ω];have bh:ai (bD g gs A) w a7:=((((I.trans (x.ab _)).trans L).trans M).trans (E.ab _));have bi:ai (bD g gs A) w bf:=hA bh ap λr p he=>by have he:r=gz:=he;omega
 have bj:∀r,bD g gs A r->¬(λr=>r=gz) r:=λr p he=>by have:=gT r p;have he:r=gz:=he;omega
 have bk:∀r,cF g gs A B r->¬(λr=>r=gz) r:=λr p he=>by have:=aP r p.2;have he:r=gz:=he;omega
 refine⟨⟨i+1,l++[z],_,be,rfl,Ω,bi,bg,Ω,(a6.ext E).ab ap bj bk,?_,Θ,λbG bl=>?_⟩,by simp only[bS];omega⟩
 .rw[C,show N-i=(N-(i+1))+1 by omega,CI];unfold fb;cases f:bd 1 most st with
  |none=>have e:bc 1 most (σ st)=ν:=f;rw[e];rfl
  |some q=>
   have e:bc 1 most (σ st)=σ q:=f;have:=aZ q e;subst this;rw[e];rfl
 .obtain⟨bH,W,rfl⟩:=Y7.1 bl;obtain⟨q,f,rfl⟩:=Y7.1 W;have h1:=(dg (n:=q.1) (s':=q.2) f).1;simp only[r9,T1];show l.length+1+q.2.toks.length<=100000;omega
theorem MJ{acc:List (Λ×Int)}{s s':aE}{a:Λ×Int}(h:dP sizes acc s=σ (a,s')):s'.told=s.told/\s'.big=s.big:=by
 obtain⟨_,_,_,e⟩:=nW h;exact⟨e.eqs.1,e.eqs.2.1⟩
theorem MK{s s':aE}{l:List (Λ×Int)}(hi:dR s)(h:dC sizes s=σ (l,s')):dR s'/\(s.big=true->s'.big=true):=by
 have e:=Ce sizes (σ s);rw[show iQ sizes (σ s)=dC sizes s from rfl,h]at e;cases w:bc (-aw) aw (σ s)with
 |none=>rw[w]at e;cases e
 |some q=>
  obtain⟨n,s1⟩:=q;rw[w]at e;simp only at e;have h1:=(dg (n:=n) (s':=s1) w).eqs;have y:dR s1:=λp=>by rw[h1.1];rw[h1.2.1]at p;exact hi p
  split at e
  .cases U:s1.shared[(-n-1).toNat]? with
   |none=>rw[U]at e;cases e
   |some q=>
    obtain⟨z,l'⟩:=q;rw[U]at e;simp only at e;split at e
    .cases e;exact⟨y,λp=>by rw[h1.2.1];exact p⟩
    .cases e
  .have:=iN (f:=dP sizes) (λacc t=>t.told=(jY n s1).told/\t.big=(jY n s1).big) (λacc t a bq ⟨x,r⟩ g=>by
    have:=MJ g;exact⟨by rw[this.1,x],by rw[this.2,r]⟩) n.toNat [] _ l s' ⟨rfl,rfl⟩ e.symm
   obtain⟨⟨x,r⟩,_⟩:=this;refine⟨λp=>by rw[x];rw[r]at p;exact L5 n s1 p,λp=>?_⟩;rw[r];show(s1.big||_)=true;rw[h1.2.1,p];rfl
theorem ML{all:Λ}{s s':aE}{x:cj}(hi:dR s)(h:cX all s=σ (x,s')):dR s'/\s'.toks.length<s.toks.length:=by
 unfold cX at h;cases r:bd (-aw) aw s with
 |none=>rw[r]at h;cases h
 |some q=>
 obtain⟨a,s1⟩:=q;rw[r]at h;simp only at h;have t0:=dg r;cases h1:eP all.length a.natAbs s1 with
 |none=>rw[h1]at h;cases h
 |some q=>
 obtain⟨sc,f⟩:=q;rw[h1]at h;simp only at h;obtain⟨w,_⟩:=sV h1;generalize sc.map (λv=>all.getD v.toNat 0)=sizes at h;cases y:bd 0 aw (ba (decide (6<a.natAbs)||dj sizes) f)with
 |none=>rw[y]at h;cases h
 |some q=>
 obtain⟨other,z⟩:=q;rw[y]at h;simp only at h;have A:=dg y;have F:dR z:=λe=>by
  rw[A.eqs.1];rw[A.eqs.2.1]at e;have e:(f.big||_)=false:=e;have C:=(S5.1 e).1;show f.told<=16384;rw[w.eqs.1,t0.eqs.1];rw[w.eqs.2.1,t0.eqs.2.1]at C;exact hi C
 cases p:dC sizes z with
 |none=>rw[p]at h;cases h
 |some q=>
 obtain⟨lines,B⟩:=q;rw[p]at h;simp only[Y1,T0]at h;obtain⟨_,rfl⟩:=h;have G:=MK F p;have J:=Cl p;have K:=t0.1;have L:=w.1;have M:f.toks.length=z.toks.length+1:=A.1;have E:∀t:aE,t.told=B.told/\t.big=B.big/\t.toks=B.toks->dR t/\t.toks.length<s.toks.length:=λt ⟨H,I,a3⟩=>⟨λe=>by rw[H];rw[I]at e;exact G.1 e,by rw[a3];omega⟩;split
 .exact E _ ⟨rfl,rfl,rfl⟩
 .exact E _ ⟨rfl,rfl,rfl⟩
theorem MM{S R:aj}{x:hF}(h:ap.rep false S R w cs x):ap.rep (α:=hF) true bA R w cs x/\(x1.agg cs.toArray).cells=cs.toArray:=by
 obtain⟨p,d1,s,z,rfl,_,_,_,h1,q,d2,A,B,rfl,_,_,_,a,r,d3,C,E,rfl,_,_,_,f,e⟩:=h;have h1:ap.rep (α:=Λ) false bA R w p x.1:=h1;have a:ap.rep (α:=Λ) false bA R w q x.2.1:=a;have f:r=[Δ x.2.2.1]:=f;have e:ap.rep (α:=List (Λ×Int)) false bA R w d3 x.2.2.2:=e;refine⟨⟨p,_,bA,bA,rfl,λ_ h=>h,λ_ h=>h,λ_ _ h _=>h,h1,q,_,bA,bA,rfl,λ_ h=>h,λ_ h=>h,λ_ _ h _=>h,a,r,d3,bA,bA,rfl,λ_ h=>h,λ_ h=>h,λ_ _ h _=>h,f,e⟩,?_⟩;obtain⟨u,rfl⟩:=W6.1 (show p.length=1 from ap.len h1);obtain⟨v,rfl⟩:=W6.1 (show q.length=1 from ap.len a);obtain⟨y,rfl⟩:=W6.1 (show d3.length=1 from ap.len e);obtain⟨_,_,_,rfl⟩:=mc h1;obtain⟨_,_,_,rfl⟩:=mc a;obtain⟨_,_,_,rfl⟩:=mc e;subst f;rfl
theorem MN{g c:Nat}{A B:aj}{o:Option aE}{clean:Bool}{L:x1}{all:Λ}{aG:x1->x3->Prop}(aH:gY w g gs A B clean o)(hi:∀s,o=σ s->dR s)(br:(c:Int)<=aw)(bt:aI .i64 w L all)(aJ:∀r,leads L r->r≠g/\r≠gs/\r<w.heap.size/\(o≠ν->¬A r))(bu:o≠ν->∀z∈all,1<=z/\z<=aw)(bw:all.length<=100001)(bx:e2 w)(h1:1<w0.heap.size/\(o≠ν->cF g gs A B 1))(aK:ai (λr=>w0.heap.size<=r) w0 w)(bz:w0.heap.size<=g)(bB:w0.heap.size<=gs)(cn:g<w.heap.size/\gs<w.heap.size)(bC:o≠ν->∀r,A r->w0.heap.size<=r)(aL:∀M w' acc so aP y aO aQ,ai (λr=>w0.heap.size<=r) w0 w'->w.heap.size<=w'.heap.size->gY w' g gs aP y clean so->ap.rep (α:=List hF) true aO aQ w' [M] acc->(∀r,aO r\/aQ r->r≠g/\r≠gs/\r<w'.heap.size)->aI .i64 w' L all->
   (∀q,fo (λ_ s=>cX all s) c [] o=σ q->so=σ q.2/\acc=q.1.map gZ)->(fo (λ_ s=>cX all s) c [] o=ν->so=ν)->aG M w'):
 cb (.slice ν 0 0) (Δ 0) w λfuns aS an bE=>
  cu (α:=x1->x3->Prop) (λ(bG:x1)(aT:x3)=>
   Split bG (am x7 zw [Γ g,L] aT λbH bI=>
  aD x7 (Y4 jf 1 #[(0,bH)]) bI λbJ bK=>
  aD x7 (Z0 #[jf,jf] jf #[funs,bJ]) bK λbL aU=>
  ac x7 (aM .add au false true aS (Δ 1)) aU λbM=>
  bE bL bM aU) (aG funs aT)) λaW=>
  ac x7 (aM .lss au false false aS (Δ (c:Int))) an λbN=>
  Split bN (am x7 k0 [Γ g] an λbO bP=>
  aW bO bP)
   (aW (.bool false) an):=by
 unfold aw at br;generalize f:fo (λ_ s=>cX all s) c [] o=aX at aL;have aY:∀s,o=σ s->o≠ν:=λs h=>by rw[h];simp
 refine⟨λM ao V=>∃(i:Nat)(acc:List hF)(H:List cj)(so:Option aE)(C J E N:aj),ao=Δ (i:Int)/\i<=c/\ai (λr=>w0.heap.size<=r) w0 V/\w.heap.size<=V.heap.size/\gY V g gs C J clean so/\ap.rep true E N V [M] acc/\
   aI .i64 V L all/\e2 V/\aX=fo (λ_ s=>cX all s) (c-i) H so/\(∀r,E r->w.heap.size<=r/\r<V.heap.size)/\(∀r,N r->r≠g/\r≠gs/\¬E r)/\
   ∀s,so=σ s->acc=H.map gZ/\dR s/\H.length+s.toks.length<=100000/\o≠ν/\(∀r,C r->A r\/w.heap.size<=r)/\(∀r,C r->w0.heap.size<=r)/\(∀r,B r->J r)/\(∀r,E r->¬J r/\¬C r)/\(∀r,N r->cF g gs C J r),
  λ_ ao _=>c-(bS ao).toNat,⟨0,[],[],o,A,B,bA,bA,rfl,X4 _,aK,o4 _,aH,hv,bt,bx,f.symm,λ_ h=>h.elim,λ_ h=>h.elim,λs U=>⟨rfl,hi s U,?_,aY s U,λr e=>.inl e,bC (aY s U),λr e=>e,λ_ h=>h.elim,λ_ h=>h.elim⟩⟩,?_⟩
 .subst U;have aq:di w g gs A B s clean:=aH;have:=aq.2.1.words.1;simpa using this
 rintro M _ V ⟨i,acc,H,so,C,J,E,N,rfl,cp,bQ,cq,aZ,bT,av,a2,Z,G,bU,a6⟩;refine aV (λv a7=>Ext V a7/\((v= .bool true/\i<c/\∃st,so=σ st)\/(v= .bool false/\(so=ν\/i=c)))) ?_ ?_
 rotate_left
 .intro aA ax;rw[aR,al];refine⟨λa8=>?_,λcr=>ax _ _ ⟨Ext.refl _,.inr ⟨rfl,.inr Ω⟩⟩⟩;refine(Ch aZ).mono ?_;rintro _ a7 _ ⟨rfl,ba⟩;cases so with
  |none=>exact ax _ _ ⟨ba,.inr ⟨rfl,.inl rfl⟩⟩
  |some st=>exact ax _ _ ⟨ba,.inl ⟨rfl,Ω,st,rfl⟩⟩
 rintro _ aa ⟨K,bV⟩;have ct:=K.size;have S:=aZ.ext K;have bb:=bW bT K;have bc:ai (λr=>w0.heap.size<=r) w0 aa:=bQ.trans (K.ab _);rcases bV with⟨rfl,a8,st,rfl⟩|⟨rfl,bX⟩
 rotate_left
 .rw[a1];have bd:aX=so.map λst=>(H,st):=by
   rcases bX with rfl|rfl
   .exact Z
   .rw[U3]at Z;rw[Z];cases so<;>rfl
  refine aL M aa acc so C J E (λr=>N r/\r<aa.heap.size) bc Ω S (ap.mono bb (λ_ _ h=>h) λr e h=>⟨h,e⟩) (λr e=>?_) (av.ext K) (λq I=>?_) λbe=>?_
  .rcases e with e|e
   .have:=G r e;exact⟨Ω,Ω,Ω⟩
   .have:=bU r e.1;exact⟨this.1,this.2.1,e.2⟩
  .rw[bd]at I;cases so with
   |none=>cases I
   |some st=>cases I;exact⟨rfl,(a6 _ rfl).1⟩
  .rw[bd]at be;cases so with
   |none=>rfl
   |some st=>cases be
 rw[bR];obtain⟨rfl,bf,cw,ae,bg,ay,bh,af,bi⟩:=a6 st rfl;have S:di aa g gs C J st clean:=S;obtain⟨cz,cA,cB,cC,cD⟩:=S.1;have bY:=h1.2 ae;have bj:cF g gs C J 1:=⟨λf=>by
  rcases f with f|f|f
  .omega
  .omega
  .have:=ay 1 f;omega,bh 1 bY.2⟩
 have bk:∀r,leads L r->¬bD g gs C r/\r<aa.heap.size:=λr e=>by
  obtain⟨bZ,b1,b2,b3⟩:=aJ r e;refine⟨λf=>?_,Ω⟩;rcases f with f|f|f
  .exact bZ f
  .exact b1 f
  .rcases bg r f with h|h
   .exact b3 ae h
   .omega
 refine(Mg S bf (av.ext K) bk (bu ae) bw (a2.ext K) bj).mono ?_;rintro _ b4 _ ⟨aP,y,cs,az,rfl,cE,W,X,aB,bl,bm,b5,b6⟩;have z3:=W.size;obtain⟨bn,b7⟩:=MM b5;refine kt (α:=hF) (a:=az) (cs:=cs) (A:=bA) (R:=cF g gs aP y) jf.u b0.i Φ b7 bn λu ag O _ hu=>?_;have z4:=O.size;have b8:∀r,r<aa.heap.size->E r\/N r->¬bD g gs C r:=λr e h f=>by
  rcases h with h|h
  .have p:=G r h;rcases f with f|f|f
   .omega
   .omega
   .exact (af r h).2 f
  .exact (bi r h).1 f
 have b9:∀r,r<aa.heap.size->cF g gs C J r->cF g gs aP y r:=λr e h=>⟨λf=>h.1 (f.imp id (Or.imp id λf=>(X r f).elim id λh'=>Ω)),bl r h.2⟩;have ca:bF E (cF g gs aP y) ag [M] (H.map gZ):=bW (ap.ab (ap.mono (S':=E) (R':=λr=>cF g gs aP y r/\N r) bb (λ_ _ h=>h) λr e h=>⟨b9 r e (bi r h),h⟩) W λr e h=>b8 r e (h.imp id λh=>h.2) |> λh=>h) O |> λh=>ap.mono h (λ_ _ h=>h) λ_ _ h=>h.1;have ah:∀r,E r->¬y r:=λr h ak=>by
  have p:=G r h;rcases(aB r ak).1 with P|P
  .exact (af r h).1 P
  .have aC:=(G r h).2;omega
 have cG:(H.map gZ).length=H.length:=Ξ
 refine nM (α:=hF) (a:=az) (A:=bA) jf.u b0.i rfl ca hu (bW bn O) (λr _ cc h=>?_) Ω Ω λcH Q cd Y=>?_
 .rcases h with h|h
  .exact h
  .exact ah r cc h.2
 have z5:=Y.size;rw[aN,wrap_i64 Ω Ω];have ce:ai (λr=>w0.heap.size<=r) w0 ag:=(bc.trans (W.mono λr _ f=>by
  rcases f with rfl|rfl|f
  .exact bz
  .exact bB
  .exact ay r f)).trans (O.ab _)
 have z0:=aK.size;have cg:ai (λr=>w0.heap.size<=r) w0 Q:=ce.trans (Y.mono λr _ h=>by have:=(G r h).1;omega);have ch:aI .i64 ag L all:=(hV (av.ext K) W λr e a n c ad aF=>(bk r ⟨a,n,c,ad,aF⟩).1 e).ext O;have ci:aI .i64 Q L all:=hV ch Y λr e a n c ad aF=>by
  have b2:=(aJ r ⟨a,n,c,ad,aF⟩).2.2.1;have:=(G r e).1;omega
 have ck:e2 Q:=(((a2.ext K).ab W bj.1).ext O).ab Y λh=>by have:=(G 1 h).1;omega
 have bo:gY Q g gs aP y clean ((cX all st).map (·.2)):=by
  refine gY.ab (bm.ext O) Y (λh=>by have:=G _ h;omega) (λr e cI h=>?_) (λr e h=>ah r h e.2);have p:=G r h;rcases e with rfl|rfl|e
  .omega
  .omega
  .rcases X r e with P|P
   .exact (af r h).2 P
   .omega
 have cl:=mG cd;refine⟨⟨i+1,(H.map gZ)++[az],H++((cX all st).map (·.1)).toList,(cX all st).map (·.2),aP,y,λr=>(E r\/bA r\/ag.heap.size<=r)/\r<Q.heap.size,cF g gs aP y,rfl,Ω,cg,Ω,bo,cl,ci,ck,?_,λr e=>⟨?_,e.2⟩,λr e=>⟨λh=>e.1 (.inl h),λh=>e.1 (.inr (.inl h)),λh=>?_⟩,λs' cm=>?_⟩,by simp only[bS];omega⟩
 .rw[Z,show c-i=(c-(i+1))+1 by omega,CI];cases I:cX all st with
  |none=>rfl
  |some q=>rfl
 .rcases e.1 with h|h|h
  .exact (G r h).1
  .exact h.elim
  .omega
 .rcases h.1 with p|p|p
  .exact ah r p e.2
  .exact p
  .have:=(aB r e.2).2;omega
 .obtain⟨q,I,rfl⟩:=Y7.1 cm;have p:=ML (s':=q.2) (x:=q.1) bf I;have P:=b6 q I;refine⟨?_,p.1,?_,ae,λr e=>?_,λr e=>?_,λr e=>bl r (bh r e),λr e=>⟨λak=>?_,λbp=>?_⟩,λr e=>e⟩
  .rw[I,P];simp
  .rw[I];simp only[Z6,j5,r9,T1];omega
  .rcases X r e with h|h
   .exact bg r h
   .exact .inr Ω
  .rcases X r e with h|h
   .exact ay r h
   .omega
  .rcases e.1 with p|p|p
   .exact ah r p ak
   .exact p
   .have:=(aB r ak).2;omega
  .have cJ:gY Q g gs aP y clean ((cX all st).map (·.2)):=bo;have bq:=bm;rw[I]at bq;have aq:di b4 g gs aP y q.2 clean:=bq;have a8:=aq.1.2.2.2.1 r (.inr (.inr bp));rcases e.1 with p|p|p
   .rcases X r bp with aC|aC
    .exact (af r p).2 aC
    .have:=(G r p).2;omega
   .exact p
   .omega
theorem dR.num{lo hi n:Int}{s s':aE}(e:dR s)(h:bd lo hi s=σ (n,s')):dR s':=λa=>by
 have h1:=(dg h).eqs;rw[h1.1];rw[h1.2.1]at a;exact e a
theorem dR.big{b:Bool}{s:aE}(h:dR s):dR (ba b s):=λa=>by
 have a:(s.big||b)=false:=a;exact h (S5.1 a).1
theorem dR.word{w:Λ}{s s':aE}(h:dR s)(hw:dI s=σ (w,s')):dR s':=λa=>by
 have h1:=(qE hw).2;rw[h1]at a ⊢;exact h a
theorem MO{most:Int}{s s':aE}(hi:dR s)(hm:most<=aw)(h:cJ (fb most) N [] s=σ (l,s')):dR s'/\(∀z∈l,1<=z/\z<=aw)/\l.length+s'.toks.length<=s.toks.length:=by
 have:=iN (f:=fb most) (λacc t=>dR t/\(∀z∈acc,1<=z/\z<=aw)/\acc.length+t.toks.length<=s.toks.length) (λacc t a bq ⟨h1,p,y⟩ g=>by
  unfold fb at g;cases e:bd 1 most t with
  |none=>rw[e]at g;cases g
  |some q=>
   obtain⟨z,r⟩:=q;rw[e]at g;simp only[Y1,T0]at g;obtain⟨rfl,rfl⟩:=g;have A:=(hW e).1;have B:=(dg e).1;refine⟨(h1.num e).big,λx J=>?_,?_⟩
   .rcases o5.1 J with J|J
    .exact p x J
    .rw[o9.1 J];omega
   .simp only[r9,T1];show acc.length+1+r.toks.length<=_;omega) N [] s l s' ⟨hi,λz w=>(by cases w),Ξ⟩ h
 exact this.1
theorem MP{s0:aE}{name:Λ}{n most cnt:Int}{so6:Option aE}(h1:∀q,dI s0=σ q->name=q.1)(r:∀q,bc 1 aw (((dI s0).map (·.2)).map (ba (decide (64<(name.length:Int)))))=σ q->n=q.1)(p:∀q,bc 1 aw (((bc 1 aw (((dI s0).map (·.2)).map (ba (decide (64<(name.length:Int)))))).map (·.2)).map (ba (decide (64<n))))=σ q->most=q.1)(h:∀q,bc 0 aw ((bc 1 aw (((bc 1 aw (((dI s0).map (·.2)).map (ba (decide (64<(name.length:Int)))))).map (·.2)).map (ba (decide (64<n))))).map (·.2))=σ q->cnt=q.1)(f:∀q,bc 1 aw (((bc 0 aw ((bc 1 aw (((bc 1 aw (((dI s0).map (·.2)).map (ba (decide (64<(name.length:Int)))))).map (·.2)).map (ba (decide (64<n))))).map (·.2))).map (·.2)).map (ba (decide (256<cnt))))=σ q->k=q.1)(e:∀q,fo (fb most) n.toNat [] (((bc 1 aw (((bc 0 aw ((bc 1 aw (((bc 1 aw (((dI s0).map (·.2)).map (ba (decide (64<(name.length:Int)))))).map (·.2)).map (ba (decide (64<n))))).map (·.2))).map (·.2)).map (ba (decide (256<cnt))))).map (·.2)).map (ba (decide (2147483648<k))))=σ q->so6=σ q.2/\sizes=q.1)(a:fo (fb most) n.toNat [] (((bc 1 aw (((bc 0 aw ((bc 1 aw (((bc 1 aw (((dI s0).map (·.2)).map (ba (decide (64<(name.length:Int)))))).map (·.2)).map (ba (decide (64<n))))).map (·.2))).map (·.2)).map (ba (decide (256<cnt))))).map (·.2)).map (ba (decide (2147483648<k))))=ν->so6=ν):
  gX s0=(fo (λ_ s=>cX sizes s) cnt.toNat [] so6).map λq=>((⟨name,k,sizes,q.1⟩:bY),q.2):=by
 unfold gX;cases A:dI s0 with
 |none=>
  rw[A]at a;rw[a rfl];rfl
 |some L=>
 obtain⟨Z,s1⟩:=L;rw[A]at h1 r p h f e a;have:=h1 _ rfl;subst this;have M:decide (64<(name.length:Int))=decide (64<name.length):=by rw[V9,decide_eq_true_eq,decide_eq_true_eq];omega
 rw[M]at r p h f e a;simp only[Z6]at r p h f e a ⊢;generalize ba (decide (64<name.length)) s1=x at*;cases B:bd 1 aw x with
 |none=>
  rw[show bc 1 aw (σ x)=ν from B]at a;rw[a rfl];rfl
 |some N=>
 obtain⟨O,C⟩:=N;rw[show bc 1 aw (σ x)=σ (O,C)from B]at r p h f e a;have:=r _ rfl;subst this;simp only[Z6]at p h f e a ⊢;generalize ba (decide (64<n)) C=y at*;cases E:bd 1 aw y with
 |none=>
  rw[show bc 1 aw (σ y)=ν from E]at a;rw[a rfl];rfl
 |some P=>
 obtain⟨Q,w⟩:=P;rw[show bc 1 aw (σ y)=σ (Q,w)from E]at p h f e a;have:=p _ rfl;subst this;simp only[Z6]at h f e a ⊢;cases F:bd 0 aw w with
 |none=>
  rw[show bc 0 aw (σ w)=ν from F]at a;rw[a rfl];rfl
 |some R=>
 obtain⟨S,G⟩:=R;rw[show bc 0 aw (σ w)=σ (S,G)from F]at h f e a;have:=h _ rfl;subst this;simp only[Z6]at f e a ⊢;generalize ba (decide (256<cnt)) G=z at*;cases H:bd 1 aw z with
 |none=>
  rw[show bc 1 aw (σ z)=ν from H]at a;rw[a rfl];rfl
 |some T=>
 obtain⟨V,I⟩:=T;rw[show bc 1 aw (σ z)=σ (V,I)from H]at f e a;have:=f _ rfl;subst this;simp only[Z6]at e a ⊢;generalize ba (decide (2147483648<k)) I=W at*;cases J:cJ (fb most) n.toNat [] W with
 |none=>
  rw[a J];rfl
 |some X=>
 obtain⟨aa,K⟩:=X;obtain⟨U,Y⟩:=e _ J;subst Y;rw[U];simp only;show _=V5 _ (cJ (λ_ s=>cX sizes s) cnt.toNat [] K);cases cJ (λ_ s=>cX sizes s) cnt.toNat [] K<;>rfl
theorem MQ{f:bY}(ag:e0 N f)(h:N<=60000):∀x∈f.funs,tt f.k x:=λx J=>by
 obtain⟨h1,e,p⟩:=ag.funs x J;refine⟨ag.k,⟨?_,λz a=>?_⟩,h1.other,h1.lines,by have:=h1.len;omega,Ω⟩
 .rw[h1.sizes,r8];exact e
 .rw[h1.sizes]at a;obtain⟨v,ad,rfl⟩:=j4.1 a;have:=h1.scope.2 v ad;refine ag.sizes.2.2 _ ?_;rw[u4,x6 Ω];exact S0 _
theorem MR{p:x1}{pl:Λ}(P:aI .u8 w p pl)(aL:Bytes pl)(bO:pl.length<=60000)(ae:e2 w):am x7 GK [p] w (CH w (fj pl)):=by
 have aM:1<w.heap.size:=by
  have:=ae 0 (.int .u64 1) rfl;obtain⟨c,e,f,aN,_⟩:=vx this;exact(l9.1 aN).1
 have bP:aw=4611686018427387904:=rfl;refine az func55 ?_;rw[aX cN.u P,bL,al];refine⟨λh=>Ω,λ_=>?_⟩;refine(AO P aL Ω).mono ?_;rintro _ V _ ⟨af,gs,rfl,bR,aO,Q⟩;rw[cW (cs:=#[Γ gs,Δ 0,Δ 0,Δ 0,Δ 0,Δ 0,.slice ν 0 0]) Ψ];refine bf λg aa bS R ag=>?_;have bT:=af.size;have bU:=R.size;have aQ:=ag.lt;have bV:gs<V.heap.size:=Q.2.2.2.1.lt;have bW:=pa _ pl (o4 _);let s0:aE:=⟨(lex pl).1,0,false,[]⟩;let B0:aj:=λr=>r<V.heap.size;have aR:di aa g gs bA B0 s0 (lex pl).2:=by
  refine⟨⟨Ω,λh=>h,λh=>h,λr y=>?_,λr y=>by have y:r<V.heap.size:=y;omega⟩,⟨aO,pl,0,Q.ext R,λr y=>?_,by rw[List.drop_zero]⟩,⟨by show(0:Int)<=0;omega,by show(0:Int)<=aw;omega,by show(([]:List (Λ×List (Λ×Int))).length+(lex pl).1.length<=100000);simp;omega⟩,0,0,0,0,.slice ν 0 0,ag,⟨by simp[s0],λ_=>rfl⟩,hv (α:=iO)⟩
  .rcases y with rfl|rfl|y
   .exact aQ
   .omega
   .exact y.elim
  .obtain⟨_,_,_,K,bj,hm⟩:=Q;have H:=bQ hm y;have I:=b7 hm K Φ y;exact⟨λE=>by
    rcases E with E|E|E
    .omega
    .exact I E
    .exact E,by show r<V.heap.size;omega⟩
 have S:∀r,bD g gs bA r->w.heap.size<=r:=λr y=>by
  rcases y with rfl|rfl|y
  .omega
  .omega
  .exact y.elim
 refine(Bw aR).mono ?_;rintro _ bX _ ⟨B,name,bZ,rfl,b0,b1,aS⟩;obtain⟨aT,aU⟩:=fZ.of B;rw[bm,bn,nR cP.u,bL];refine(qR aU).mono ?_;rintro _ b2 _ B;obtain⟨aV,aW⟩:=B.of;refine(mb (lo:=1) (hi:=aw) aW).mono ?_;rintro _ b3 _ ⟨B,n,b4,rfl,ah,aY⟩;obtain⟨aZ,a1⟩:=B.of;rw[bm,bn,bL];refine(qR a1).mono ?_;rintro _ b5 _ B;obtain⟨a2,a6⟩:=B.of;refine(mb (lo:=1) (hi:=aw) a6).mono ?_;rintro _ b6 _ ⟨B,most,b8,rfl,ak,a7⟩;obtain⟨a8,bb⟩:=B.of;rw[bm,bn];refine(mb (lo:=0) (hi:=aw) bb).mono ?_;rintro _ b9 _ ⟨B,cnt,ca,rfl,an,bd⟩;obtain⟨be,bg⟩:=B.of;rw[bm,bn,bL];refine(qR bg).mono ?_;rintro _ cb _ B;obtain⟨bh,bi⟩:=B.of;refine(mb (lo:=1) (hi:=aw) bi).mono ?_;rintro _ cc _ ⟨B,k,cd,rfl,hk,ce⟩;obtain⟨bk,bl⟩:=B.of;rw[bm,bn,bL];refine(qR bl).mono ?_;rintro _ ao _ B;obtain⟨bo,W⟩:=B.of;have ap:ai (bD g gs bA) aa ao:=(((((((aT.trans aV).trans aZ).trans a2).trans a8).trans be).trans bh).trans bk).trans bo;have X:∀{lo:Int}{o:Option aE}{x:Int},0<=lo->lo<=1->(∀q,bc lo aw o=σ q->x=q.1)->(bc lo aw o=ν->x=0)->0<=x/\x<=aw:=λ{lo o x}cg h1 U bp=>by
  cases a:bc lo aw o with
  |none=>rw[bp a];omega
  |some q=>
   have H:=mT (n:=q.1) (s':=q.2) a;rw[U q a];omega
 have ch:=X Ω Ω ah aY;have ci:=X Ω Ω an bd;have cj:=X Ω Ω ak a7;obtain⟨N,bq⟩:∃N:Nat,n=(N:Int):=⟨n.toNat,Ω⟩;obtain⟨C,br⟩:∃C:Nat,cnt=(C:Int):=⟨cnt.toNat,Ω⟩;have bt:n.toNat=N:=Ω
 have bu:cnt.toNat=C:=Ω
 have bw:dR s0:=λ_=>by show(0:Int)<=16384;omega
 have L:∀{o:Option aE}{b:Bool},(∀s,o=σ s->dR s)->∀s,o.map (ba b)=σ s->dR s:=λh s U=>by
  obtain⟨t,Y,rfl⟩:=Y7.1 U;exact(h t Y).big
 have M:∀{o:Option aE}{lo hi:Int},(∀s,o=σ s->dR s)->∀s,(bc lo hi o).map (·.2)=σ s->dR s:=λ{o lo hi}h s U=>by
  obtain⟨q,a,rfl⟩:=Y7.1 U;cases o with
  |none=>cases a
  |some t=>exact(h t rfl).num (n:=q.1) (s':=q.2) a
 have bx:∀s,(dI s0).map (·.2)=σ s->dR s:=λs U=>by
  obtain⟨q,a,rfl⟩:=Y7.1 U;exact bw.word (w:=q.1) (s':=q.2) a
 have aq:=L (b:=decide (2147483648<k)) (M (lo:=1) (hi:=aw) (L (b:=decide (256<cnt)) (M (lo:=0) (hi:=aw) (M (lo:=1) (hi:=aw) (L (b:=decide (64<n)) (M (lo:=1) (hi:=aw) (L (b:=decide (64<(name.length:Int))) bx)))))));have A:=λ(sizes:Λ)(so6:Option aE)=>MP (s0:=s0) (name:=name) (sizes:=sizes) (n:=n) (most:=most) (cnt:=cnt) (k:=k) (so6:=so6) aS ah ak an hk;rw[bt]at A;generalize ck:V5 (ba (decide (2147483648<k))) (V5 (λx=>x.2) (bc 1 aw (V5 (ba (decide (256<cnt))) (V5 (λx=>x.2) (bc 0 aw (V5 (λx=>x.2) (bc 1 aw (V5 (ba (decide (64<n))) (V5 (λx=>x.2) (bc 1 aw (V5 (ba (decide (64<(name.length:Int)))) (V5 (λx=>x.2) (dI s0)))))))))))))=au at aq W A;rw[bq];refine MI (N:=N) (most:=most) W Ω λszv Z sizes so6 gz bz av ax cl bB ay aA=>?_;have A:=A sizes so6 ay aA;rw[bu]at A;have ac:ai (bD g gs bA) aa Z:=ap.trans bz;have z12:=ac.size;have aB:Ext w aa:=af.trans R;have bC:ai (λr=>w.heap.size<=r) w Z:=(aB.ab _).trans (ac.mono λr _ h=>S r h);have cm:=av.side;have aC:∀J,so6=σ J->dR J/\(∀z∈sizes,1<=z/\z<=aw)/\sizes.length<=100000:=λJ ad=>by
  cases a:fo (fb most) N [] au with
  |none=>rw[aA a]at ad;cases ad
  |some q=>
   obtain⟨H,I⟩:=ay q a;cases ad.symm.trans H;subst I;cases au with
   |none=>cases a
   |some bE=>
    obtain⟨bF,bG,cn⟩:=MO (l:=q.1) (s':=q.2) (aq bE rfl) Ω a;exact⟨bF,bG,by have:=W.words;omega⟩
 rw[br];have aD:∀r,leads szv r->ao.heap.size<=r/\r<Z.heap.size:=λr y=>by have:=bQ ax y;omega
 have cp:=ap.size;refine MN (w0:=w) (c:=C) (all:=sizes) av.q (λs U=>(aC s U).1) Ω ax.ls (λr y=>?_) (λO=>?_) bB ((ae.ext aB).ab ac λE=>by have:=S 1 E;omega) ⟨aM,λ_=>⟨λE=>by have:=S 1 E;omega,by show 1<V.heap.size;omega⟩⟩
  bC Ω Ω ⟨Ω,Ω⟩ (λ_ r h=>h.elim) λcq cr acc so aP ct cu cw aF cz bH bI bJ bK aG bM=>?_
 .have:=aD r y;exact⟨Ω,Ω,Ω,λ_ h=>h⟩
 .cases aH:so6 with
  |none=>exact absurd aH O
  |some J=>exact(aC J aH).2.1
 have cA:=aF.size;have G:fj pl=match gX s0 with
   |none=>ν
   |some (f,s)=>if s.toks=[]/\(lex pl).2=true/\s.big=false then σ f else ν:=by
  unfold fj;rw[if_neg Ω];have e:gX ⟨(lex pl).1,0,false,[]⟩=gX s0:=rfl;rw[e];cases gX s0<;>rfl
 refine MH (w0:=w) (sizes:=sizes) (res:=fj pl) bH ⟨λs U Y bN K=>?_,λO=>?_⟩ bK (λr y=>by have:=aD r y;exact⟨Ω,Ω⟩) bI bJ (λ_=>trivial) Ω Ω aF Ω Ω P λv w' h=>h
 .cases a:fo (λ_ s=>cX sizes s) C [] so6 with
  |none=>rw[bM a]at U;cases U
  |some q=>
   obtain⟨H,I⟩:=aG q a;cases U.symm.trans H;rw[a]at A;have A:gX s0=σ ((⟨name,k,sizes,q.1⟩:bY),q.2):=A;have aJ:=(Bt rfl A K).1;rw[A]at G;simp only at G;rw[if_pos ⟨Y,bN,K⟩]at G;exact⟨q.1,I,G,MQ aJ (by show(lex pl).1.length<=60000;omega),aJ.la,Ω⟩
 .cases a:fo (λ_ s=>cX sizes s) C [] so6 with
  |none=>
   rw[a]at A;have A:gX s0=ν:=A;rw[A]at G;exact absurd G O
  |some q=>
   obtain⟨H,I⟩:=aG q a;rw[a]at A;have A:gX s0=σ ((⟨name,k,sizes,q.1⟩:bY),q.2):=A;rw[A]at G;simp only at G;by_cases aK:q.2.toks=[]/\(lex pl).2=true/\q.2.big=false
   .exact⟨q.2,H,aK⟩
   .rw[if_neg aK]at G;exact absurd G O
theorem wD(s t cs:Λ):∃e,o2 s t cs= .tuple #[Δ (bt s cs t),Δ e]:=by
 unfold o2 bt;cases cH s t 0 with
 |none=>exact⟨3,rfl⟩
 |some n=>exact⟨0,rfl⟩
theorem MS:am x7 zM [sv] w λr w'=>Ext w w'/\∃g,r= .func (.func oR) #[] #[Γ g]/\w.heap.size<=g/\af w' g an sv.cells.toList:=by
 refine az func244 ?_;refine bf λg V f a e=>?_;rw[ig];exact⟨a,g,rfl,Ω,e⟩
theorem MT{f:R5}{cap:Array x1}{A:Nat->List x1->x3->Prop}{e:x3->Prop}{L:Λ}(O:oK x7 f cap.toList n A e)(B:∀k vs w,A k vs w->∃x,L[k]?=σ x/\vs=[Δ x])(he:∀a b,ai (λr=>w.heap.size<=r) a b->e a->e b)(P:e w)(Q:n=L.length)(ap:L.length<=1000000):
  am x7 Ha [.slice ν 0 0,.func (.func f) #[] cap] w λv w'=>Ext w w'/\∃g,w.heap.size<=g/\av .i64 ah w' g v L:=by
 refine hr func89 ?_;refine bf λgs V aq C p=>?_;have p:af V gs an [.slice ν 0 0]:=p;have au:=p.lt;have E:∀{a b:x3},Ext a b->e a->e b:=λJ=>he _ _ (J.ab _);refine jJ.old ⟨Nat,false,f,cap,0,_,_,e,λk w'=>ai (λr=>w.heap.size<=r) w w'/\∃v g,gs<g/\af w' gs an [v]/\av .i64 ah w' g v (L.take k),λ_ _ _=>False,rfl,O.s,?_,λ_ _ J h=>E J h,
  λ_ _ _ J h=>⟨h.1.trans (J.ab _),by obtain⟨v,g,h1,R,S⟩:=h.2;exact⟨v,g,h1,R.ext J,S.ext J⟩⟩,λ_ _ _ _ _ h=>h,E C P,⟨C.ab _,_,gs+1,Ω,p,av.nil _ _ _ _⟩,?_,?_,λ_ _ h=>h.elim,λ_ _ _ h=>h.elim⟩
 .rintro k vs aw w' ⟨_,_,h⟩;obtain⟨x,_,rfl⟩:=B k vs w' h;rfl
 .rintro a k _ aa hU ⟨hk,rfl,W⟩ ⟨X,v,g,Y,G,ad⟩;obtain⟨x,J,Z⟩:=B k _ aa W;cases Z;intro ay q _ _;have H:=G.ext q;rw[ax Ψ (H.cell (o:=0) rfl)];refine et an.u ah.i rfl λa ga az aA y ac=>?_;have aB:(L.take k).length<=1000000:=Θ
  refine jl an.u ah.i rfl ((ad.ext q).ext y) ac.ls (by simp only[c8,List.length_nil];omega) (by simp only[c8,List.length_nil];omega) λae ag aC aD z I=>?_;have aE:=G.lt;have aF:=q.size;have aG:=y.size;refine bl an.i z.ls.cells.1 z.ls.cells.2 (((H.ext y).ab I Ω)) Ξ λaj K aH ak=>?_;have M:ai (λr=>w.heap.size<=r) aa aj:=(((q.trans y).ab _).trans (I.mono λr _ h=>by show w.heap.size<=r;omega)).trans (K.mono λr _ h=>by show w.heap.size<=r;omega);refine⟨he _ _ M hU,⟨X.trans M,ae,ag,Ω,ak,?_⟩,λh=>by cases h⟩;rw[u9,J];exact z.ab K (λ_=>Ω)
 .rintro k aI hk ⟨al,v,g,Y,ao,ad⟩;have hk:k=n:=hk;subst hk;rw[ax Ψ (ao.cell (o:=0) rfl)];intro aJ N _;rw[Q,o7]at ad;exact⟨(al.ext λr aK h=>by have:w.heap.size<=r:=h;omega).trans N,g,Ω,ad.ext N⟩
theorem MU{f:R5}{cap:Array x1}{p:Nat->List x1->x3->Prop}{e:x3->Prop}{L:Λ}(q:oK x7 f cap.toList n p e)(s:∀k vs w,p k vs w->∃x,L[k]?=σ x/\vs=[Δ x])(he:∀a b,ai (λr=>w.heap.size<=r) a b->e a->e b)(y:e w)(z:n=L.length)(A:L.length<=1000000):
  am x7 GC [.func (.func f) #[] cap] w λv w'=>Ext w w'/\∃g,w.heap.size<=g/\av .i64 ah w' g v L:=by
 refine az func44 ?_;exact(MT q s he y z A).mono λ_ _ _ h=>h
theorem MV{x:Int}:am x7 cmp_Less_int [Δ x,Δ y] w λv w'=>v= .bool (decide (x<y))/\Ext w w':=by
 refine az func318 ?_;refine aV (λv V=>v= .bool (decide (x<y))/\Ext w V) (λ_ _ h=>h) λaA a=>?_;have e:∀{z:Int}{w:x3},am x7 cmp_isNaN_int [Δ z] w λv w'=>v= .bool false/\Ext w w':=λ{z w}=>by
  refine az func82 ?_;simp only[bC];exact⟨Ξ,Ext.refl _⟩
 refine e.mono ?_;rintro _ aa _ ⟨rfl,f⟩;rw[a1];simp only[aR];exact a _ _ ⟨rfl,f⟩
theorem MW{P:W5}{t:p9}{cx cy:Bool}{k:o6}{a b:Int}:cA P (aM .sub t cx cy (.int k a) (.int k b)) (.int k (k.wrap (a-b))) w:=λw' _=>by simp[aM,eqGuard,binOp,Op.intArith]
theorem MX{g:Nat}(h:av .i64 ah w g sv l)(ak:l.length<=1000000):
  am x7 Jl [sv,Δ 0,Δ l.length] w λ_ w'=>ai (λr=>r=g) w w'/\∃m,m.Perm l/\m.Pairwise (·<= ·)/\av .i64 ah w' g sv m:=by
 refine az func312 ?_;simp only[aN];refine⟨λt V=>∃(i:Nat)(m:Λ),t=Δ i/\1<=i/\(i<=l.length\/i=1)/\m.Perm l/\qC m i/\ai (λr=>r=g) w V/\av .i64 ah V g sv m,λt _=>l.length+1-(bS t).toNat,
  ⟨1,l,by congr 1,Ω,.inr rfl,.refl _,λp q x y h1 R=>Ω,ai.refl _ _,h⟩,?_⟩
 rintro _ V ⟨i,m,rfl,ao,ap,z,I,J,hm⟩;have S:=z.length_eq;simp only[aR,al];refine⟨λU=>?_,λaq=>?_⟩
 .have U:i<l.length:=Ω
  refine⟨λt aa=>∃(j:Nat)(m:Λ),t=Δ j/\j<=i/\m.Perm l/\pg m i j/\ai (λr=>r=g) w aa/\av .i64 ah aa g sv m,λt _=>(bS t).toNat,⟨i,m,rfl,o4 _,z,KD I,J,hm⟩,?_⟩;rintro _ aa ⟨j,m,rfl,W,z,E,K,hm⟩;have S:=z.length_eq;refine aV (λv L=>Ext aa L/\∃c,v= .bool c/\(c=true->0<j/\∃a b,m[j-1]?=σ a/\m[j]?=σ b/\b<a)/\(c=false->j=0\/0<j/\∃a b,m[j-1]?=σ a/\m[j]?=σ b/\a<=b)) ?_ ?_
  .rintro _ L ⟨B,c,rfl,X,Y⟩;rw[b2];refine⟨λh=>?_,λh=>?_⟩
   .obtain⟨A,a,b,f,s,G⟩:=X h;intro au M _ _;have C:=(hm.ext B).ext M;have e:X5.wrap ((j:Int)-1)=((j-1:Nat):Int):=by rw[wrap_i64 Ω Ω];omega
    simp only[dN,e];rw[bg an.u ah.i Ψ C.ls f,bg an.u ah.i Ψ C.ls s,hy rfl an.u ah.i C Ω];refine hz ah.i C Ω λZ ac aw N=>⟨.inr ⟨by have:=MW (P:=x7) (w:=Z) (t:=ah) (cx:=false) (cy:=true) (k:=.i64) (a:=(j:Int)) (b:=1);rwa [e]at this,trivial⟩,?_⟩;rw[hy rfl an.u ah.i N Θ];refine hz ah.i N Θ λax ad ay ae=>?_;refine⟨⟨j-1,_,rfl,Ω,(swap_perm Ω f s).trans z,KG E A W f s G,((K.trans ((B.trans M).ab _)).trans ac).trans ad,ae⟩,?_⟩;simp only[bS];omega
   .simp only[aN];rw[wrap_i64 Ω Ω];refine⟨⟨i+1,m,rfl,Ω,.inl Ω,z,?_,K.trans (B.ab _),hm.ext B⟩,?_⟩
    .rcases Y h with rfl|⟨A,a,b,f,s,G⟩
     .exact KE E
     .exact KF E A f s G
    .simp only[bS];omega
  .intro aA O aB H _ _;have Q:=hm.ext H;simp only[bL,al];refine⟨λA=>?_,λA=>O _ _ ⟨H,false,rfl,(λh=>by cases h),λ_=>.inl Ω⟩⟩;have e:X5.wrap ((j:Int)-1)=((j-1:Nat):Int):=by rw[wrap_i64 Ω Ω];omega
   obtain⟨b,s⟩:=aJ (l:=m) (i:=j) Ω;obtain⟨a,f⟩:=aJ (l:=m) (i:=j-1) Ω;rw[bg an.u ah.i Ψ Q.ls s];simp only[dN,e];rw[bg an.u ah.i Ψ Q.ls f];refine MV.mono ?_;rintro _ aC _ ⟨rfl,af⟩;refine O _ _ ⟨H.trans af,_,rfl,λh=>⟨Ω,a,b,f,s,by simpa using h⟩,λh=>.inr ⟨Ω,a,b,f,s,by simpa using h⟩⟩
 .refine⟨J,m,z,KH λp q x y h1 R ag aj=>I p q x y h1 Ω ag aj,hm⟩
theorem MY{P:W5}{t:p9}{k:o6}{s:ByteArray}{i:Nat}{K:x1->Prop}(a:P.underlying t=σ .string)(hi:i<s.size)(e:∀b:Nat,b<256->K (.int .u8 b)):
  ac P (Instr.index t (.string s) (.int k (i:Int))) w K:=by
 have f:s[i]?=σ s[i]:=by simp[hi]
 have:ac P (Instr.index t (.string s) (.int k (i:Int))) w K=K (.int .u8 s[i].toNat):=ac.of λw' _=>by
  simp[Instr.index,asIntOf,run_underlying a,hi]
 rw[this];exact e _ (UInt8.toNat_lt _)
theorem MZ(a:n<256):am x7 G5 [.int .u64 (n:Int)] w λv w'=>(∃r,v=Δ r)/\Ext w w':=by
 refine az func81 ?_;refine am.mono (K:=λv w'=>(∃r,v=Δ r)/\Ext w w') ?_ (λ_ _ _ h=>h);refine az func172 ?_;simp only[cu,cM,al];refine⟨λh=>Ω,λ_=>⟨λh=>Ω,λ_=>⟨λh=>Ω,λ_=>?_⟩⟩⟩;rw[fh fF.u cI.u,wrap_u8 Ω Ω];refine MY cP.u (by exact R7 a Φ) λb e=>?_;rw[fh cI.u ah.u];simp only[aN];exact⟨⟨_,rfl⟩,Ext.refl _⟩
theorem M0{g:Nat}(h:av .i64 ah w g sv l)(f:l.length<=12):
  am x7 I4 [sv] w λ_ w'=>ai (λr=>r=g) w w'/\∃m,m.Perm l/\m.Pairwise (·<= ·)/\av .i64 ah w' g sv m:=by
 refine az func276 ?_;rw[aX an.u h.ls,fh ah.u oU.u,wrap_u64 Ω Ω];refine(MZ (n:=l.length) Ω).mono ?_;rintro _ V _ ⟨⟨r,rfl⟩,e⟩;refine am.mono (K:=λ_ w'=>ai (λr=>r=g) V w'/\∃m,m.Perm l/\m.Pairwise (·<= ·)/\av .i64 ah w' g sv m) ?_ (λ_ _ _ h=>⟨(e.ab _).trans h.1,h.2⟩);refine az func299 ?_;refine⟨λa b _ _ _ aa=>a=Δ 0/\b=Δ l.length/\V=aa,λ_ _ _ _ _ _=>0,⟨rfl,rfl,rfl⟩,?_⟩;rintro _ _ _ _ _ _ ⟨rfl,rfl,rfl⟩;simp only[dN,mD,al];rw[wrap_i64 Ω Ω];refine⟨λ_=>?_,λh=>Ω⟩;refine(MX (h.ext e) Ω).mono ?_;exact λ_ _ _ h=>h
theorem M1{f:R5}{cap:Array x1}{p:Nat->List x1->x3->Prop}{e:x3->Prop}{L:Λ}(q:oK x7 f cap.toList n p e)(s:∀k vs w,p k vs w->∃x,L[k]?=σ x/\vs=[Δ x])(he:∀a b,ai (λr=>w.heap.size<=r) a b->e a->e b)(y:e w)(z:n=L.length)(A:L.length<=12):
  am x7 zL [.func (.func f) #[] cap] w λv w'=>Ext w w'/\∃g m,w.heap.size<=g/\m.Perm L/\m.Pairwise (·<= ·)/\av .i64 ah w' g v m:=by
 refine az func243 ?_;refine(MU q s he y z Ω).mono ?_;rintro v V _ ⟨B,g,C,ad⟩;refine(M0 ad A).mono ?_;rintro _ aa _ ⟨E,m,h1,G,H⟩;exact⟨B.then E (by rintro r I rfl;omega),g,m,C,h1,G,H⟩
theorem CJ{x:Int}(h:aI .i64 w sv l):
  am x7 vi [sv,Δ x] w λv w'=>Ext w w'/\∃r:Int,v=Δ r/\∀i:Nat,l[i]?=σ x->(r=i↔ ∀j,j<i->l[j]? ≠σ x):=by
 refine az func53 ?_;rw[aX an.u h];refine cb.range l.length (λi _ V=>Ext w V/\∀j,j<i->l[j]? ≠σ x) h.le ⟨Ext.refl _,λj p=>Ω⟩ ?_ ?_
 .rintro i _ V k hi ⟨a,e⟩ hk;simp only[aR,al];refine⟨λ_=>?_,λh=>Ω⟩;obtain⟨y,f⟩:=aJ (l:=l) hi;rw[bg an.u ah.i Ψ (h.ext a) f];simp only[be,al,aN];refine⟨λhe=>⟨a,i,rfl,λq s=>?_⟩,λhe=>hk _ _ ⟨a,λj p=>?_⟩⟩
  .subst he;refine⟨λB=>by
              have:i=q:=Ω
              subst this;exact e,λz=>?_⟩
   rcases Nat.lt_trichotomy i q with h1|h1|h1
   .exact absurd f (z i h1)
   .omega
   .exact absurd s (e q h1)
  .by_cases A:j=i
   .subst A;rw[f];intro h;exact he (b9 h).symm
   .exact e j Ω
 .rintro _ V k ⟨a,e⟩;simp only[aR,al];refine⟨λh=>Ω,λ_=>⟨a,-1,rfl,λi hi=>?_⟩⟩;exact absurd hi (e i (x4.1 hi).1)
theorem M2{g:Nat}(p:af w0 g an [sv])(a:aI .i64 w0 sv l):
  oK x7 oR [Γ g] l.length (λk vs _=>∃x,l[k]?=σ x/\vs=[Δ x]) (λw=>Ext w0 w):=by
 refine⟨oR.enters,λy aA B w C _ q J r=>?_⟩;refine qh func277 ?_;rw[ax Ψ ((p.ext J).cell (o:=0) rfl),aX an.u (a.ext J)];refine ck.range l.length (λi aa=>aA i aa/\Ext w0 aa) a.le ⟨r,J⟩ ?_ ?_
 .rintro i aa k hi ⟨e,f⟩ hk;simp only[aR,al];refine⟨λ_=>?_,λh=>Ω⟩;obtain⟨x,J⟩:=aJ (l:=l) hi;rw[bg an.u ah.i Ψ (a.ext f) J];refine⟨rfl,(q i _ aa hi f ⟨x,J,rfl⟩ e).mono ?_⟩;rintro _ E (⟨rfl,s,z⟩|⟨rfl,A⟩)
  .simp only[bH,X1,a1,aN];exact hk _ ⟨z.1,s⟩
  .simp only[bH,W7,bR];exact .inr ⟨i,hi,A⟩
 .rintro aa k ⟨e,_⟩;simp only[aR,al];exact⟨λh=>Ω,λ_=>.inl e⟩
theorem wE(h:aI .i64 w sv l)(p:l.length<=12)(q:∀v w' g m,Ext w w'->w.heap.size<=g->m.Perm l->m.Pairwise (·<= ·)->av .i64 ah w' g v m->K v w'):
  am x7 zM [sv] w λt V=>am x7 zL [t] V K:=by
 refine MS.mono ?_;rintro _ V _ ⟨f,g,rfl,B,e⟩;have e:af V g an [sv]:=by rw[h.cells.1]at e;exact e
 refine(M1 (M2 e (h.ext f)) (λ_ _ _ h=>h) (λa b s J=>J.then s (λr C h=>Ω)) (Ext.refl _) rfl p).mono ?_;rintro v aa _ ⟨x,y,m,E,h1,z,A⟩;have:=f.size;exact q v aa y m (f.trans x) Ω h1 z A
def M3(w:x3)(ak:Λ)(k:Int)(cs a:Λ)(v:x1)(w':x3):Prop:=
 Ext w w'/\
  (¬Good a ak.length->v= .tuple #[.pointer ν,Δ 1])/\
  (Good a ak.length->∃e f h,v= .tuple #[Γ e,Δ 0]/\df w' e f h (ed ak a) k (nV ak cs a))
theorem M4{g bI:Nat}{Y:x1}{cs z:Λ}(h:df w g bI sv ak k cs)(hk:right k)(P:aI .i64 w Y z)(ct:z.length<=12)(cu:Good z ak.length->aO (ed ak z)<=4096):
  am x7 IK [Γ g,Y] w (M3 w ak k cs z):=by
 have aC:=h;have cw:=h.2.2.1;have cz:=P.cells;refine hr func245 ?_;refine bf λg1 V dc bJ B=>?_;refine bf λbK aa dd a7 A=>?_;have s1:=bJ.size;have dg:=a7.size;have di:=B.lt;have dj:=A.lt;have a8:=bJ.trans a7;have B:af aa g1 eO [Γ g]:=B.ext a7;have A:af aa bK an [Y]:=by rw[cz.1]at A;exact A
 rw[ax Ψ (B.cell (o:=0) rfl),de eO.u];simp only[Z5,a1];rw[ax Ψ (A.cell (o:=0) rfl)];have cA:=P.ext a8;have sub:∀{w:x3}{g:Nat}{sv:x1}{k:Int}{a6:x1},af w g cV [sv,Δ k,a6]->w.rangeAt g (0+0) [sv]:=λK=>nP K (by
  intro j v ad
  match j,ad with
  |0,ad=>exact ad)
 refine wE cA ct λdJ cB dh m bL dk ba cC hm=>?_;have cD:=ba.length_eq;rw[aX an.u hm.ls];have cE:=a8.trans bL;refine nr.range m.length (λi _ _ bb=>Ext cB bb/\∀j,j<i->m[j]?=σ (j:Int)) Ω ⟨Ext.refl _,λj bc=>Ω⟩ ?_ ?_
 .rintro i _ _ bb Z hi ⟨ac,bd⟩ ae;simp only[aR,al];refine⟨λ_=>?_,λh=>Ω⟩;obtain⟨y,ag⟩:=aJ (l:=m) hi;rw[bg an.u ah.i Ψ (hm.ls.ext ac) ag];simp only[bC,al,aN];refine⟨λaj dl cF _=>⟨(cE.trans ac).trans cF,λ_=>rfl,λbe=>?_⟩,λhe=>ae _ _ _ ⟨ac,λj bc=>?_⟩⟩
  .have:=Bc be ba cC i hi;rw[ag]at this;exact absurd (b9 this).symm aj
  .by_cases cG:j=i
   .subst cG;rw[ag];congr 1;omega
   .exact bd j Ω
 .rintro _ _ bb Z ⟨ac,bd⟩;simp only[aR,al,ej];refine⟨λh=>Ω,λ_ dm cH _ _=>?_⟩;have C:Good z m.length:=KI bd ba;have ao:=(bL.trans ac).trans cH;have aD:=a8.trans ao;have B:=B.ext ao;have A:=A.ext ao;have cI:=P.ext aD;have cJ:=aC.ext aD;have dn:=ao.size;obtain⟨⟨a6,gs,K,aE,bM⟩,_⟩:=id cJ;rw[ax Ψ (A.cell (o:=0) rfl),aX an.u cI,ax Ψ (B.cell (o:=0) rfl),bU,aU cV.p rfl,bP (cs:=[sv]) bB.p bB.i rfl (sub K)];refine(BB aE.ls).mono ?_;rintro _ aF _ ⟨rfl,L⟩;refine⟨.inl L,?_⟩;simp only[bC,al];refine⟨λaj dp cK _=>⟨(aD.trans L).trans cK,λ_=>rfl,λbe=>absurd (by rw[be.1]) aj⟩,λdq=>?_⟩;have bh:z.length=ak.length:=Ω
  have C:Good z ak.length:=by rw[<-bh,<-cD];exact C
  have dr:=ao.trans L;have bi:=aD.trans L;have B:=B.ext L;have A:=A.ext L;have bN:=P.ext bi;rw[ax Ψ (A.cell (o:=0) rfl),aX an.u bN];refine jN an.u ah.i Ω Ω λgz bO ds Q bQ=>?_;have cL:av .i64 ah bO gz (.slice (σ ⟨gz,0,ν⟩) z.length z.length) (p8 z.length 0):=av.of (n:=z.length) (bV.full bQ Ξ (by simp[maxLen];omega));generalize (x1.slice (σ ⟨gz,0,ν⟩) z.length z.length)=cM at*;have dt:=L.size;have du:=Q.size;have dv:=bQ.lt;rw[ax Ψ ((A.ext Q).cell (o:=0) rfl),aX an.u (bN.ext Q)];have bR:=bi.trans Q;have aG:(ed ak z).length=z.length:=sT _ _;refine ck.range z.length (λi G=>ai (λr=>r=gz) bO G/\av .i64 ah G gz cM (upto (ed ak z) 0 i)) Ω ⟨ai.refl _ _,by rw[qy,aG];exact cL⟩ ?_ ?_
  .rintro i G Z hi ⟨M,aH⟩ ae;simp only[aR,al];refine⟨λ_=>?_,λh=>Ω⟩;have ap:Ext w G:=bR.then M (by rintro r O rfl;omega);have aL:Ext aF G:=Q.then M (by rintro r O rfl;omega);obtain⟨p,bj⟩:=aJ (l:=z) hi;obtain⟨⟨a6,gs,K,aE,bM⟩,_⟩:=aC.ext ap;rw[bg an.u ah.i Ψ (P.ext ap) bj,ax Ψ ((B.ext aL).cell (o:=0) rfl),bU,aU cV.p rfl,bP (cs:=[sv]) bB.p bB.i rfl (sub K)];refine(qH aE.ls).mono ?_;rintro _ dw _ ⟨rfl,bS⟩;have bT:=aH.ext bS;have cN:(upto (ed ak z) 0 i).length=z.length:=by rw[qx,aG]
   rw[hy rfl an.u ah.i bT Ω];refine hz ah.i bT Ω λdx cO _ bW=>?_;simp only[aN];have h1:=(C.2 i p bj).1;have aq:(ed ak z)[i]?=σ (hY ak p):=by
    unfold ed hY;rw[x8,bj,if_pos h1.1];rfl
   rw[qA aq]at bW;exact ae _ ⟨(M.trans (bS.ab _)).trans cO,bW⟩
  .rintro G Z ⟨M,aH⟩;simp only[aR,al];refine⟨λh=>Ω,λ_=>?_⟩;have ap:Ext w G:=bR.then M (by rintro r O rfl;omega);have aL:Ext aF G:=Q.then M (by rintro r O rfl;omega);rw[<-aG,qz]at aH;obtain⟨⟨a6,gs,K,aE,bM⟩,_⟩:=aC.ext ap;rw[ax Ψ ((B.ext aL).cell (o:=0) rfl),aS cV.p 1 K rfl];have aM:b3 (ed ak z):=cw.KK C rfl;have bX:=cu C;have dy:=prod_bound aM;refine(vF aH.ls).mono ?_;rintro _ bk _ ⟨bY,_,_,_,cP⟩;obtain⟨aw,H,R,rfl,dz,dA,dC,aP⟩:=cP aM bX ⟨hk,Ω,by have:=hk.1;omega⟩;obtain⟨N,aQ⟩:∃N:Nat,(aO (ed ak z)).toNat=N:=⟨_,rfl⟩;rw[aQ]at aP;rw[bm,bn];refine bx eO.i λbZ dD dE b0 az=>?_;refine bl eO.i rfl rfl az (by simp[x1.cells]) λcR cS dF az=>?_;have dG:=M.size;have dH:=bY.size;have dI:=b0.size;have bo:Ext bk cR:=b0.then cS (by rintro r O rfl;omega);have b1:=bY.trans bo;have cT:=aP.ext bo;have dK:=az.lt;obtain⟨⟨bp,b2,b4,b5,cU⟩,⟨b6,b7,_⟩,_,dL⟩:=id cT;have dM:0<N:=Ω
   have dN:aw<bk.heap.size:=by obtain⟨⟨_,_,q,_⟩,_⟩:=id aP;exact q.lt
   have dO:H<bk.heap.size:=by obtain⟨⟨_,_,_,_,q⟩,_⟩:=id aP;exact tq q Θ
   rw[ax Ψ (az.cell (o:=0) rfl),bU,aU cV.p rfl,bP (cs:=[R]) bB.p bB.i rfl (sub b4)];refine wc.mono ?_;rintro _ E _ ⟨I,aT,rfl,dP,ca⟩;have dQ:=bo.size;have dR:=I.size;let S:Nat->Prop:=λr=>r=H;let U:=nV ak cs z;have bq:U.length=N:=by simp only[U];rw[Bi,aQ]
   let cW:x3->Prop:=λw'=>af w' g1 eO [Γ g]/\af w' bK an [Y]/\af w' bZ eO [Γ aw]/\af w' aw cV [R,Δ k,bp]/\
    df w' g bI sv ak k cs/\aI .i64 w' Y z/\av .i64 ah w' b2 R (ed ak z)/\af w' aT bB [R]/\E.heap.size<=w'.heap.size
   have W:∀{a:x3},ai S E a->cW a:=by
    intro a J;have br:Ext aF E:=(aL.trans b1).trans I;have bw:Ext aF a:=br.put J Ω;have cb:Ext w a:=bi.trans bw;refine⟨B.ext bw,A.ext bw,(az.ext I).ab J (by show¬(bZ=H);omega),(b4.ext I).ab J (by show¬(aw=H);exact b6),aC.ext cb,P.ext cb,bu (b5.ext I) J (λr O he=>b7 ((show r=H from he)▸O)),
     ca.ab J (by show¬(aT=H);omega),J.size⟩
   have cc:=wb (g:=aT) (B0:=E.heap.size) (sv:=R) aM;rw[aQ]at cc;refine oL.old ⟨Nat,false,lU,#[Γ aT],0,_,_,_,λq w'=>ai S E w'/\av .i64 au w' H bp (upto U 0 q),λ_ _ _=>False,rfl,cc.s,
    ?_,λ_ _ J h=>⟨h.1.ext J,h.2.1.ext J,Y8 h.2.2 J.size⟩,λ_ _ _ J h=>⟨h.1.trans (J.ab S),h.2.ext J⟩,λ_ _ _ _ _ h=>h,⟨ca,(b5.ext I).ls,o4 _⟩,⟨ai.refl _ _,?_⟩,?_,?_,λ_ _ h=>h.elim,λ_ _ _ h=>h.elim⟩
   .rintro _ _ _ _ ⟨_,_,_,_,rfl,_⟩;rfl
   .rw[qy,bq];exact cU.ext I
   .rintro _ aK q _ dS ⟨_,_,dT⟩ ⟨aq,rfl,dU,gt,cX,dV,cY⟩ ⟨aV,cZ⟩;cases cX;let x:=cQ (ed ak z) (q:Int);have cd:x.length=z.length:=by simp only[x];rw[jp,aG]
    intro c0 X _ _;have ce:=cY.ext X;rw[aX an.u ce.ls];refine jN an.u ah.i (by rw[jp];omega) (by rw[jp];omega) λgo cg dW bz ch=>?_;have c1:av .i64 ah cg go (.slice (σ ⟨go,0,ν⟩) (cQ (ed ak z) (q:Int)).length (cQ (ed ak z) (q:Int)).length) (p8 (cQ (ed ak z) (q:Int)).length 0):=av.of (n:=(cQ (ed ak z) (q:Int)).length) (bV.full ch Ξ (by rw[jp];simp[maxLen];omega));generalize (x1.slice (σ ⟨go,0,ν⟩) (cQ (ed ak z) (q:Int)).length (cQ (ed ak z) (q:Int)).length)=c2 at*;have dX:=aV.size;have dY:=X.size;have dZ:=bz.size;have lo:=ch.lt;have c3:ai S E cg:=aV.trans ((X.trans bz).ab S);have f:=W c3;rw[ax Ψ (f.2.1.cell (o:=0) rfl),aX an.u f.2.2.2.2.2.1];refine ck.range z.length (λj aW=>Ext c0 aW/\∃y:Λ,y.length=z.length/\av .i64 ah aW go c2 y/\∀(i:Nat)(p:Int),i<j->z[i]?=σ p->y[p.toNat]?=x[i]?) Ω
     ⟨bz,_,by simp[cd,x],c1,λi p hi=>Ω⟩ ?_ ?_
    .rintro j aW Z bc ⟨aA,y,bA,aY,bD⟩ ae;simp only[aR,al];refine⟨λ_=>?_,λh=>Ω⟩;have f:=W (aV.trans ((X.trans aA).ab S));obtain⟨p,aZ⟩:=aJ (l:=z) bc;obtain⟨u,hu⟩:=aJ (l:=x) (i:=j) Ω;have ea:=(C.2 j p aZ).1;rw[bg an.u ah.i Ψ f.2.2.2.2.2.1 aZ,bg an.u ah.i Ψ (ce.ext aA).ls hu,hy (i:=p.toNat) Ω an.u ah.i aY Ω];refine hz ah.i aY Ω λeb c4 ec c5=>?_;simp only[aN];refine ae _ ⟨aA.then c4 (by rintro r O rfl;omega),_,by simpa using bA,c5,λi a2 hi aB=>?_⟩;by_cases ci:i=j
     .subst ci;rw[aZ]at aB;cases aB;rw[b8 Ω,hu]
     .have ee:=(C.2 i a2 aB).1;have aj:p.toNat≠a2.toNat:=λhe=>by
       have:p=a2:=Ω
       subst this;exact ci (C.inj aB aZ)
      rw[Y2 aj];exact bD i a2 Ω aB
    .rintro aW Z ⟨aA,y,bA,aY,bD⟩;simp only[aR,al];refine⟨λh=>Ω,λ_ c6 cj _ _=>?_⟩;have ag:y=ma z x:=Bg C (by rw[cd,bh]) (by rw[bA,bh]) λi p cl=>bD i p (x4.1 cl).1 cl;have cm:=aA.trans cj;have cn:ai S E c6:=aV.trans ((X.trans cm).ab S);obtain⟨f1,f2,f3,f4,f5,f6,f7,f8,f9⟩:=W cn;rw[ax Ψ (f3.cell (o:=0) rfl),aS cV.p 2 f4 rfl,ax Ψ (f1.cell (o:=0) rfl)];refine(vG f5 (aY.ls.ext cj)).mono ?_;rintro _ ef _ ⟨rfl,bE⟩;refine⟨.inl bE,?_⟩;obtain⟨e,he⟩:=wD ak y cs;rw[he,bm,bn];have c7:=cn.trans (bE.ab S);have cp:=(cZ.ext ((X.trans cm).trans bE));have cN:(upto U 0 q).length=N:=by rw[qx,bq]
     rw[hy rfl ay.u au.i cp Ω];refine hz au.i cp Ω λc8 c9 eg cq=>?_;have cr:ai S E c8:=c7.trans (c9.mono λr _ h=>h);obtain⟨f1,f2,f3,f4,f5,f6,f7,f8,f9⟩:=W cr;have da:U[q]?=σ (bt ak cs y):=by
      simp only[U,nV];rw[x8,List.getElem?_range (by rw[aQ];exact aq),ag];rfl
     rw[qA da]at cq;exact⟨⟨f8,f7.ls,f9⟩,⟨cr,cq⟩,λh=>by cases h⟩
   .rintro q eh aq ⟨bF,bG⟩;rw[show q=N from aq]at bG;have f:=W bF;rw[ax Ψ (f.2.2.1.cell (o:=0) rfl)];intro ei bH _;obtain⟨f1,f2,f3,f4,f5,f6,f7,f8,f9⟩:=W (bF.trans (bH.ab S));rw[<-bq,qz]at bG;have br:Ext w E:=(ap.trans b1).trans I;refine⟨(br.put bF Ω).trans bH,λdb=>absurd C db,λ_=>⟨aw,H,R,rfl,⟨bp,b2,f4,f7,bG.ext bH⟩,⟨b6,b7,bX⟩,aM,Bi _ _ _⟩⟩
def gL(l:Λ):Prop:=∀(i j:Nat)(x y:Int),i<j->l[i]?=σ x->l[j]?=σ y->x<y
theorem gL.inj(h:gL l){i:Nat}{x:Int}(hi:l[i]?=σ x)(a:l[j]?=σ x):i=j:=by
 rcases Nat.lt_trichotomy i j with h1|h1|h1
 .have:=h i j x x h1 hi a;omega
 .exact h1
 .have:=h j i x x h1 a hi;omega
def dedup(l:Λ):Nat->Λ
 |0=>[]
 |j+1=>if 0<j/\l[j]?=l[j-1]? then dedup l j else dedup l j++[l.getD j 0]
theorem CK(l:Λ):∀j,(dedup l j).length<=j
 |0=>o4 _
 |j+1=>by
  have:=CK l j;unfold dedup;split
  .omega
  .simp;omega
theorem wF(a:0<j)(h:l[j]?=l[j-1]?):dedup l (j+1)=dedup l j:=by
 rw[dedup,if_pos ⟨a,h⟩]
theorem wG{x:Int}(J:l[j]?=σ x)(h:0<j->l[j]? ≠l[j-1]?):dedup l (j+1)=dedup l j++[x]:=by
 rw[dedup,if_neg (λa=>h a.1 a.2),u4,J];rfl
theorem tv{l:Λ}:∀{j:Nat},j<=l.length->(∀i,i<j->0<i->l[i]? ≠l[i-1]?)->dedup l j=l.take j
 |0,_,_=>by simp[dedup]
 |j+1,e,h=>by
  have J:l[j]?=σ l[j]:=x6 Ω;rw[wG J (h j Ω),tv Ω (λi hi a=>h i Ω a),u9,J];rfl
theorem CL{l:Λ}(U:l.Pairwise (·<= ·)):∀{j:Nat},j<=l.length->(gL (dedup l j)/\∀x,x∈dedup l j↔x∈l.take j)
 |0,_=>⟨λi j x y _ h=>by simp[dedup]at h,λx=>by simp[dedup]⟩
 |j+1,H=>by
  obtain⟨h1,p⟩:=CL U (j:=j) Ω;have J:l[j]?=σ l[j]:=x6 Ω;by_cases f:0<j/\l[j]?=l[j-1]?
  .rw[wF f.1 f.2];refine⟨h1,λx=>?_⟩;rw[p,u9,J];simp only[j5,o5,o9];refine⟨.inl,λh=>h.elim id λhe=>?_⟩;subst he;have r:(l.take j)[j-1]?=σ l[j]:=by rw[Z7 Ω,<-f.2,J]
   exact x5 r
  .have s:0<j->l[j]? ≠l[j-1]?:=λA he=>f ⟨A,he⟩;rw[wG J s];have B:∀x∈dedup l j,x<l[j]:=λx C=>by
    obtain⟨i,hi,he⟩:=List.getElem_of_mem ((p x).1 C);have I:i<j:=by rw[n9]at hi;omega
    rw[List.getElem_take]at he;subst he;have r:l[i]<=l[j-1]:=by
     by_cases w:i=j-1
     .subst w;exact Int.le_refl _
     .exact V6.1 U i (j-1) Ω Ω Ω
    have w:=V6.1 U (j-1) j Ω Ω Ω;have z:=s Ω;rw[J,x6 (show j-1<l.length by omega)]at z;have K:l[j]≠l[j-1]:=λh=>z (by rw[h]);omega
   refine⟨λa b x y E q e=>?_,λx=>?_⟩
   .have F:=(x4.1 e).1;simp only[r9,c8,List.length_nil]at F;rw[Y5 Ω]at q;by_cases G:b=(dedup l j).length
    .subst G;rw[Y6 (o4 _),U3]at e;simp at e;subst e;exact B x (x5 q)
    .rw[Y5 Ω]at e;exact h1 a b x y E q e
   .rw[u9,J];simp only[j5,o5,o9,p]
def qX(l:Λ):Prop:=∀(j:Nat)(x:Int),l[j]?=σ x->0<=x/\(0<j->∀y,l[j-1]?=σ y->y<x)
theorem qX.up(h:qX l):gL l:=by
 intro i j x y q J;induction j generalizing y with
 |zero=>omega
 |succ j f=>
  intro e;have r:=(x4.1 e).1;obtain⟨z,a⟩:∃z,l[j]?=σ z:=⟨_,x6 (show j<l.length by omega)⟩;have h1:=(h (j+1) y e).2 Ω z (by simpa using a);by_cases p:i=j
  .subst p;rw[J]at a;cases a;exact h1
  .have:=f z Ω a;omega
theorem M5(h:gL l)(a:∀x∈l,0<=x):qX l:=λj x J=>⟨a x (x5 J),λf y e=>h (j-1) j y x Ω e J⟩
theorem CM{g E:Nat}{ds:x1}{cs:Λ}(h:df w g E sv ak k cs)(a:aI .i64 w ds l):
  am x7 IL [Γ g,ds] w λv w'=>Ext w w'/\∃c,v= .bool c/\(c=true↔l.length=ak.length/\qX l):=by
 obtain⟨⟨a6,gs,G,hm,f⟩,_⟩:=h;have sub:w.rangeAt g (0+0) [sv]:=nP G (by
  intro j v ad
  match j,ad with
  |0,ad=>exact ad)
 refine az func246 ?_;rw[aX an.u a,bU,aU cV.p rfl,bP (cs:=[sv]) bB.p bB.i rfl sub];refine(BB hm.ls).mono ?_;rintro _ V _ ⟨rfl,q⟩;simp only[bC,al];refine⟨λH=>⟨q,false,rfl,(λh=>by cases h),λh=>absurd (by rw[h.1]) H⟩,λB=>?_⟩;have B:l.length=ak.length:=Ω
 rw[aX an.u (a.ext q)];refine cb.range l.length (λi _ aa=>Ext w aa/\∀(j:Nat)(x:Int),j<i->l[j]?=σ x->0<=x/\(0<j->∀y,l[j-1]?=σ y->y<x)) a.le ⟨q,λj x I=>Ω⟩ ?_ ?_
 .rintro i _ aa K hi ⟨e,r⟩ L;simp only[aR,al];refine⟨λ_=>?_,λh=>Ω⟩;obtain⟨x,J⟩:=aJ (l:=l) hi;have Q:=a.le;rw[bg an.u ah.i Ψ (a.ext e) J];refine aV (λv M=>aa=M/\∃c,v= .bool c/\(c=false↔0<=x/\(0<i->∀y,l[i-1]?=σ y->y<x))) ?_ ?_
  .rintro _ _ ⟨rfl,c,rfl,f⟩;rw[b2];simp only[aN];refine⟨λN=>⟨e,false,rfl,(λh=>by cases h),λh=>?_⟩,λag=>L _ _ ⟨e,λj O I s=>?_⟩⟩
   .have:=f.2 (h.2 i x J);rw[N]at this;cases this
   .by_cases P:j=i
    .subst P;rw[J]at s;cases s;exact f.1 ag
    .exact r j O Ω s
  .intro aA z;simp only[aR,bL,dN,al];refine⟨λR=>z _ _ ⟨rfl,true,rfl,(λh=>by cases h),λh=>Ω⟩,λS=>⟨λU=>?_,λW=>z _ _ ⟨rfl,false,rfl,λ_=>⟨Ω,λh=>Ω⟩,λ_=>rfl⟩⟩⟩;obtain⟨y,A⟩:∃y,l[i-1]?=σ y:=⟨_,x6 (show i-1<l.length by omega)⟩;rw[wrap_i64 Ω Ω,fY (i:=i-1) Ω an.u ah.i Ψ (a.ext e) A];simp only[cM];refine z _ _ ⟨rfl,_,rfl,?_⟩;rw[decide_eq_false_iff_not];refine⟨λh=>⟨Ω,λ_ X C=>by rw[A]at C;cases C;omega⟩,λh=>by have:=h.2 Ω y A;omega⟩
 .rintro _ aa K ⟨e,r⟩;simp only[aR,al];exact⟨λh=>Ω,λ_=>⟨e,true,rfl,λ_=>⟨B,λj x J=>r j x (x4.1 J).1 J⟩,λ_=>rfl⟩⟩
def gM(l:Λ)(x:Int):Int:=if x∈l then(l.idxOf x:Int)else-1
theorem wH{i:Nat}{x:Int}(h:gL l)(hi:l[i]?=σ x):gM l x=i:=by
 have hm:x∈l:=x5 hi;have a:=List.idxOf_lt_length_of_mem hm;have e:l.idxOf x=i:=h.inj (by rw[x6 a,List.getElem_idxOf a]) hi;unfold gM;rw[if_pos hm,e]
theorem M6{x:Int}(h:x∉l):gM l x= -1:=if_neg h
theorem tw{x:Int}(h:aI .i64 w sv l)(hu:gL l):
  am x7 vi [sv,Δ x] w λv w'=>v=Δ (gM l x)/\Ext w w':=by
 refine az func53 ?_;rw[aX an.u h];refine cb.range l.length (λi _ V=>Ext w V/\∀j,j<i->l[j]? ≠σ x) h.le ⟨Ext.refl _,λj p=>Ω⟩ ?_ ?_
 .rintro i _ V k hi ⟨a,e⟩ hk;simp only[aR,al];refine⟨λ_=>?_,λh=>Ω⟩;obtain⟨y,f⟩:=aJ (l:=l) hi;rw[bg an.u ah.i Ψ (h.ext a) f];simp only[be,al,aN];refine⟨λhe=>⟨?_,a⟩,λhe=>hk _ _ ⟨a,λj p=>?_⟩⟩
  .subst he;rw[wH hu f]
  .by_cases q:j=i
   .subst q;rw[f];intro h;exact he (b9 h).symm
   .exact e j Ω
 .rintro _ V k ⟨a,e⟩;simp only[aR,al];refine⟨λh=>Ω,λ_=>⟨?_,a⟩⟩;rw[M6];intro hm;obtain⟨i,hi,he⟩:=List.getElem_of_mem hm;exact e i hi (by rw[x6 hi,he])
def e4(x vars scope:Λ):Λ:=scope.map λp=>x.getD (vars.idxOf p) 0
theorem M7(x vars scope:Λ):(e4 x vars scope).length=scope.length:=by simp[e4]
theorem CN{fa y:x1}{x vars:Λ}(J:aI .i64 w fa x)(ad:aI .i64 w y vars)(U:aI .i64 w sv scope)(hu:gL vars)(E:∀p∈scope,p∈vars)(O:x.length=vars.length)(P:scope.length<=1000):
  am x7 IR [fa,y,sv] w λv w'=>Ext w w'/\∃g,w.heap.size<=g/\av .i64 ah w' g v (e4 x vars scope):=by
 refine az func251 ?_;rw[aX an.u U];refine jN an.u ah.i Ω Ω λgz V Q z G=>?_;have H:av .i64 ah V gz (.slice (σ ⟨gz,0,ν⟩) scope.length scope.length) (p8 scope.length 0):=av.of (n:=scope.length) (bV.full G Ξ (by simp[maxLen];omega));generalize (x1.slice (σ ⟨gz,0,ν⟩) scope.length scope.length)=I at*;rw[aX an.u (U.ext z)];have q:=M7 x vars scope;refine ck.range scope.length (λi aa=>Ext w aa/\av .i64 ah aa gz I (upto (e4 x vars scope) 0 i)) Ω ⟨z,by rw[qy,q];exact H⟩ ?_ ?_
 .rintro i aa K hi ⟨a,hm⟩ L;simp only[aR,al];refine⟨λ_=>?_,λh=>Ω⟩;obtain⟨p,s⟩:=aJ (l:=scope) hi;have A:=E p (x5 s);have R:=List.idxOf_lt_length_of_mem A;rw[bg an.u ah.i Ψ (U.ext a) s];refine(tw (ad.ext a) hu).mono ?_;rintro _ S _ ⟨rfl,f⟩;have e:gM vars p=(vars.idxOf p:Int):=if_pos A;obtain⟨u,B⟩:∃u,x[vars.idxOf p]?=σ u:=⟨_,x6 Ω⟩;have W:(upto (e4 x vars scope) 0 i).length=scope.length:=by rw[qx,q]
  rw[fY (i:=vars.idxOf p) e an.u ah.i Ψ (J.ext (a.trans f)) B,hy rfl an.u ah.i (hm.ext f) Ω];refine hz ah.i (hm.ext f) Ω λX M _ C=>?_;simp only[aN];have N:(e4 x vars scope)[i]?=σ u:=by
   unfold e4;rw[x8,s,Z6,u4,B];rfl
  rw[qA N]at C;exact L _ ⟨(a.trans f).then M (by rintro r Y rfl;omega),C⟩
 .rintro aa K ⟨a,hm⟩;simp only[aR,al];refine⟨λh=>Ω,λ_=>⟨a,gz,Ω,?_⟩⟩;rw[<-q,qz]at hm;exact hm
theorem CO(h:t≠[])(hw:∀b∈t,bN b=true):lex t=([t],true):=by
 cases t with
 |nil=>exact absurd rfl h
 |cons b q=>
  have a:q.dropWhile bN=[]:=by
   have:∀(q:Λ),(∀x∈q,bN x=true)->q.dropWhile bN=[]/\q.takeWhile bN=q:=λq a=>by
    induction q with
    |nil=>simp
    |cons x q e=>
     have:=e λy f=>a y (.tail _ f);simp[a x (.head _),this.1,this.2]
   exact(this q λx J=>hw x (.tail _ J)).1
  have p:q.takeWhile bN=q:=by
   have:∀(q:Λ),(∀x∈q,bN x=true)->q.takeWhile bN=q:=λq a=>by
    induction q with
    |nil=>simp
    |cons x q e=>simp[a x (.head _),e λy f=>a y (.tail _ f)]
   exact this q λx J=>hw x (.tail _ J)
  rw[AG (hw b (.head _)),a,p]
theorem CP{p:x1}(h:aI .u8 w p l)(e:Bytes l)(f:l.length<=100000):am x7 zu [p] w λv w'=>Ext w w'/\∃g R,v=Γ g/\w.heap.size<=g/\hB w' g R (lex l).1 (lex l).2/\¬R g:=by
 refine(AO h e f).mono ?_;rintro _ V _ ⟨q,g,rfl,s,x,a⟩;obtain⟨h1,A,B,y,bj,hm⟩:=id a;exact⟨q,g,λr=>r≠g,rfl,s,⟨x,l,0,a,λr z=>b7 hm y Φ z,by rw[List.drop_zero]⟩,λh=>h rfl⟩
theorem M8{p:x1}(h:aI .u8 w p t)(z:Bytes t)(A:t.length<=100000)(B:t≠[])(hw:∀b∈t,bN b=true):am x7 I2 [p] w λv w'=>Ext w w'/\∃n:Int,v= .tuple #[Δ 1,Δ n,Δ 0]:=by
 have C:=CO B hw;refine az func273 ?_;refine(CP h z A).mono ?_;rintro _ V _ ⟨E,g,R,rfl,H,q,I⟩;rw[C]at q;refine⟨λ_ _ _ a aa=>ai (λr=>r=g) V aa/\((a=Δ 0/\hB aa g R [t] true)\/(a=Δ 1/\hB aa g R [] true)),λ_ _ _ a _=>1-(bS a).toNat,⟨ai.refl _ _,.inl ⟨rfl,q⟩⟩,?_⟩;rintro _ _ _ _ aa ⟨s,⟨rfl,e⟩|⟨rfl,e⟩⟩
 .refine (qD e).mono ?_;rintro v x _ ⟨f,G,n,rfl⟩;rw[fK,fL,fM,be,al];refine⟨λ_=>?_,λh=>absurd rfl h⟩;rw[aN,wrap_i64 Ω Ω];exact⟨⟨s.trans f,.inr ⟨rfl,G⟩⟩,by simp[bS]⟩
 .refine (qD e).mono ?_;rintro v x _ ⟨f,n,rfl⟩;rw[fK,fL,fM,be,al];refine⟨λh=>by simp at h,λ_=>?_⟩;rw[be,al];refine⟨λh=>by simp at h,λ_=>?_⟩;have y:Ext w x:=E.then (s.trans f) (λr J he=>by have he:r=g:=he;omega);rw[aX cN.u (h.ext y)];exact⟨y,_,rfl⟩
theorem M9(a:Bytes t)(e:t.length<=100000)(f:t≠[])(hw:∀b∈t,bN b=true):am x7 IG [bI t] w λv w'=>v= .bool true/\Ext w w':=by
 have z:=CO f hw;refine az func238 ?_;refine vL cP.u cN.u cI.u a Ω λbv V p A _=>?_;refine(M8 A a e f hw).mono ?_;rintro _ aa _ ⟨q,n,rfl⟩;rw[fK,fL,fM];refine vL cP.u cN.u cI.u a Ω λJ K s B _=>?_;refine(CP B a e).mono ?_;rintro _ L _ ⟨C,g,R,rfl,M,x,N⟩;rw[z]at x;refine(qD x).mono ?_;rintro _ y _ ⟨E,_,m,rfl⟩;rw[fK,fL,fM];have G:Ext w y:=(((p.trans q).trans (s.trans C))).then E (λr O he=>by
  have he:r=g:=he;have:=p.size;have:=q.size;have:=s.size;omega)
 refine aV (λv H=>y=H/\v= .bool true) ?_ ?_
 .rintro _ _ ⟨rfl,rfl⟩;exact⟨rfl,G⟩
 .intro aA I;rw[be,al];refine⟨λ_=>?_,λh=>absurd rfl h⟩;rw[be,al];refine⟨λ_=>?_,λh=>absurd rfl h⟩;rw[vJ a a];exact I _ _ ⟨rfl,by rw[decide_eq_true rfl]⟩
theorem Na{x:Int}:am x7 vq [Δ x] w λv w'=>v= .bool (decide (¬ih x))/\Ext w w':=by
 refine az func237 ?_;refine aV (λv V=>w=V/\v= .bool (decide (¬ih x))) ?_ ?_
 .rintro _ _ ⟨rfl,rfl⟩;exact⟨rfl,Ext.refl _⟩
 .intro aA e;rw[aR,al];refine⟨λh=>e _ _ ⟨rfl,by rw[decide_eq_true];intro a;have:=a.1;omega⟩,λh=>?_⟩;rw[bL];refine e _ _ ⟨rfl,?_⟩;congr 1;rw[V9,decide_eq_true_eq,decide_eq_true_eq];exact⟨λf a=>by have:=a.2;omega,λf=>by
   by_cases p:32<x
   .exact p
   .exact absurd ⟨Ω,Ω⟩ f⟩
theorem Nb(h:aI .i64 w sv l)(e:∀x∈l,ih x):
  am x7 vp [sv,.func (.func vq) #[] #[]] w λv w'=>v= .bool false/\Ext w w':=by
 refine az func235 ?_;refine am.mono (K:=λv w'=>v=Δ (-1)/\Ext w w') ?_ ?_
 .refine az func133 ?_;rw[aX an.u h];refine cb.range l.length (λ_ _ V=>Ext w V) h.le (Ext.refl _) ?_ ?_
  .rintro i _ V k hi J hk;refine bM Ω ?_;obtain⟨x,a⟩:=aJ (l:=l) hi;rw[bg an.u ah.i Ψ (h.ext J) a];show am x7 vq [Δ x] V _;refine Na.mono ?_;rintro _ aa _ ⟨rfl,f⟩;rw[al];refine⟨λp=>absurd (e x (x5 a)) p,λ_=>?_⟩;rw[aN];exact hk _ _ (J.trans f)
  .rintro _ V k J;rw[aR,al];exact⟨λh=>Ω,λ_=>⟨rfl,J⟩⟩
 .rintro _ V _ ⟨rfl,J⟩;rw[cM];exact⟨rfl,J⟩
theorem tx{m:Bool}{S R:aj}{d:ha}(h:ap.rep m S R w cs d):∃sv g a aK gs,cs=[sv,Γ g]/\aI .i64 w sv d.1/\fQ w g a aK gs d.2.ak d.2.k d.2.o d.2.D:=by
 obtain⟨c,e,A,B,rfl,_,_,_,h1,f⟩:=h;have h1:ap.rep (α:=Λ) false bA R w c d.1:=h1;obtain⟨u,rfl⟩:=W6.1 (show c.length=1 from ap.len h1);obtain⟨g,m,sv,gs,rfl,p,_⟩:=f;exact⟨u,g,m,sv,gs,rfl,eD h1,p⟩
theorem Nc{Q:Nat}{f:bY}{d:ha}{x:cj}{m:Bool}{S R:aj}(ae:ll w Q f)(ag:e0 N f)(ai:x∈f.funs)(aq:qW f.k x d)(au:ap.rep m S R w cs d):
  am x7 I3 [Γ Q,.agg cs.toArray] w λv w'=>v= .bool true/\Ext w w':=by
 obtain⟨szv,aH,gz,aI,U,W,_,_⟩:=ae;obtain⟨sv,gT,aL,aK,gs,rfl,s,I⟩:=tx au;obtain⟨av,X,aw,aM,aO,aP⟩:=aq;obtain⟨E,aQ,aU⟩:=ag.funs x ai;rw[av]at s;refine az func275 ?_;refine bf λao V aW A G=>?_;have G:af V ao cC [sv,Γ gT]:=by obtain⟨_,_,_,rfl⟩:=c5 s;exact G
 refine aV (λv aa=>Ext V aa/\v= .bool false) ?_ ?_
 rotate_left
 .intro aA J;intro aa q _ _;have z:=G.ext q;rw[aT cC.p 1 z rfl,de eN.u];simp only[Z5,a1];rw[aT cC.p 1 z rfl,aS cB.p 1 (U.ext (A.trans q)) rfl];refine(Lm (I.ext (A.trans q)).is).mono ?_;rintro _ B _ ⟨rfl,a⟩;refine⟨.inl a,?_⟩;rw[bC,al];refine⟨λh=>absurd aw h,λ_=>?_⟩;have C:=z.ext a;have K:=q.trans a;rw[aT cC.p 1 C rfl,aT cC.p 0 C rfl,aX an.u (s.ext (A.trans K))];refine(Ln (I.ext (A.trans K)).is).mono ?_;rintro _ H _ ⟨rfl,e⟩;refine⟨.inl e,?_⟩;rw[bC];refine J _ _ ⟨K.trans e,?_⟩;rw[decide_eq_false];intro h;exact h (by rw[X,E.sizes,r8])
 rintro _ aa ⟨q,rfl⟩;rw[a1];have z:=G.ext q;have L:=A.trans q;rw[aT cC.p 0 z rfl,aX an.u (s.ext L)];refine cb.range x.scope.length (λ_ _ B=>Ext aa B) Ω (Ext.refl _) ?_ ?_
 rotate_left
 .rintro _ B k a;rw[aR,al];exact⟨λh=>Ω,λ_=>⟨rfl,L.trans a⟩⟩
 rintro i _ B k hi a hk;obtain⟨v,ad⟩:=aJ (l:=x.scope) hi;have aY:=E.scope.2 v (x5 ad);have M:=L.trans a;have C:=z.ext a;have Y:=U.ext M;have ay:f.sizes[v.toNat]?=σ (f.sizes.getD v.toNat 0):=by
  rw[u4,x6 Ω];rfl
 refine bM Ω ?_;rw[bg an.u ah.i Ψ (s.ext M) ad];refine aV (λb H=>Ext B H/\b= .bool false) ?_ ?_
 .rintro _ H ⟨e,rfl⟩;rw[a1,aN];exact hk _ _ (a.trans e)
 .intro aA J;intro H e _ _;have O:=M.trans e;refine cE Ω ?_;rw[aS cB.p 2 (Y.ext e) rfl,aX an.u (W.ls.ext O),cM,al];refine⟨λh=>Ω,λ_=>?_⟩;rw[aT cC.p 0 (C.ext e) rfl];refine(CJ (s.ext O)).mono ?_;rintro _ aZ _ ⟨Z,r,rfl,aB⟩;have aC:r=(i:Int):=(aB i ad).2 λj a2 aD=>by have:=kz E.scope.1 aD ad;omega
  subst aC;have ab:=O.trans Z;have P:=e.trans Z;rw[bC,al];refine⟨λh=>absurd rfl h,λ_=>?_⟩;rw[aT cC.p 1 (C.ext P) rfl,aS cB.p 2 (Y.ext P) rfl];refine qq (y:=v) (i:=v.toNat) Ω an.u ah.i (W.ls.ext ab) ay λb o aE=>?_;rw[ax Ψ aE];refine(wh (I.ext ab).is).mono ?_;rintro a6 a7 _ ⟨ac,a8,ba,aF⟩;refine⟨.inl ac,?_⟩;have aG:d.2.ak[i]?=σ (f.sizes.getD v.toNat 0):=by
   rw[X,E.sizes,x8,ad];rfl
  rw[bg an.u ah.i Ψ aF.ls aG,bC];exact J _ _ ⟨P.trans ac,by rw[decide_eq_false (λh=>h rfl)]⟩
theorem Nd{q:Nat}{f:bY}{d:ha}{x:cj}{m:Bool}{S R:aj}(r:ll w q f)(s:e0 N f)(y:x∈f.funs)(z:qW f.k x d)(a:ap.rep m S R w cs d):
  am x7 vr [Γ q,.agg cs.toArray] w λv w'=>v= .bool false/\Ext w w':=by
 refine az func240 ?_;refine bf λao V E e h=>?_;have A:cs.length=2:=ap.len a;have h:af V ao cC cs:=by
  obtain⟨sv,gT,G,aK,gs,rfl,B,H⟩:=tx a;obtain⟨_,_,_,rfl⟩:=c5 B;exact h
 rw[bP cC.p cC.i A h.range];refine(Nc (r.ext e) s y z (bW a e)).mono ?_;rintro _ aa _ ⟨rfl,C⟩;rw[bH];exact⟨rfl,e.trans C⟩
theorem Nf{e:Nat}{f:bY}{r:x1}{a:List ha}{m:Bool}{S R:aj}(A:ll w e f)(B:e0 N f)(q:ap.rep m S R w [r] a)(s:tu f.k f.funs a):
  am x7 IH [r,.func (.func vr) #[Γ e] #[]] w λv w'=>v= .bool false/\Ext w w':=by
 refine az func239 ?_;refine am.mono (K:=λv w'=>v=Δ (-1)/\Ext w w') ?_ ?_
 .refine az func274 ?_;rw[jo dH.u q];refine cb.range a.length (λ_ _ V=>Ext w V) (sC q) (Ext.refl _) ?_ ?_
  .rintro i _ V k hi J hk;refine bM Ω ?_;obtain⟨d,y⟩:=aJ (l:=a) hi;obtain⟨x,z⟩:∃x,f.funs[i]?=σ x:=⟨_,x6 (by have:=s.1;omega)⟩;refine nL (α:=ha) cC.p rfl dH.u cC.i (bW q J) y λcs C=>?_;show am x7 vr [Γ e,.agg cs.toArray] V _;refine(Nd (A.ext J) B (x5 z) (s.2 i x d z y) C).mono ?_;rintro _ aa _ ⟨rfl,E⟩;rw[a1,aN];exact hk _ _ (J.trans E)
  .rintro _ V k J;rw[aR,al];exact⟨λh=>Ω,λ_=>⟨rfl,J⟩⟩
 .rintro _ V _ ⟨rfl,J⟩;rw[cM];exact⟨rfl,J⟩
def iS(a:List cj):Nat:=(a.map λx=>x.lines.length).sum
theorem Ng{ac:Nat}{f:bY}(ae:ll w ac f)(r:e0 N f)(bc:N<=60000)(R:f.name≠[]/\∀b∈f.name,bN b=true):
  am x7 Ie [Γ ac] w λv w'=>Ext w w'/\∃e:Int,v=Δ e/\(iS f.funs<=16384->e=0):=by
 obtain⟨szv,bd,gz,y,A,S,U,B⟩:=id ae;have bf:=r.name;have aB:Bytes f.name:=λb aC=>by
  have:=of_decide_eq_true (R.2 b aC);omega
 refine az func191 ?_;rw[de vv.u];simp only[Z5,a1];refine aV (λv V=>Ext w V/\v= .bool false) ?_ ?_
 rotate_left
 .intro aA s;rw[aS cB.p 0 A rfl];refine(M9 aB Ω R.1 R.2).mono ?_;rintro _ V _ ⟨rfl,q⟩;rw[bH,X1,a1];rw[aS cB.p 2 (A.ext q) rfl,aX an.u (S.ls.ext q),be,al];refine⟨λh=>by have:=r.sizes.1;omega,λ_=>?_⟩;rw[aS cB.p 2 (A.ext q) rfl];refine(Nb (S.ls.ext q) r.sizes.2.2).mono ?_;rintro _ aa _ ⟨rfl,C⟩;have af:=q.trans C;rw[a1,aS cB.p 1 (A.ext af) rfl];refine Ah.mono ?_;rintro _ E _ ⟨rfl,G⟩;have L:=af.trans G;rw[decide_eq_true (show right f.k from r.k),bH,X1,a1,aS cB.p 3 (A.ext L) rfl,ig];refine(Nf (ae.ext L) r (bW U L) B).mono ?_;rintro _ ag _ ⟨rfl,aD⟩;exact s _ _ ⟨L.trans aD,rfl⟩
 rintro _ V ⟨q,rfl⟩;rw[a1];have M:=A.ext q;refine aV (λv aa=>V=aa/\v= .bool false) ?_ ?_
 rotate_left
 .intro aA s;rw[aS cB.p 0 M rfl,nR cP.u,bL,al];refine⟨λh=>Ω,λ_=>?_⟩;rw[aS cB.p 2 M rfl,aX an.u (S.ls.ext q),bL,al];refine⟨λh=>by have:=r.sizes.2.1;omega,λ_=>?_⟩;rw[aS cB.p 3 M rfl,jo dH.u (bW U q),bL];exact s _ _ ⟨rfl,by rw[decide_eq_false];have:=r.la;have:=B.1;omega⟩
 rintro _ _ ⟨rfl,rfl⟩;have ai:=bW U q;rw[aS cB.p 3 M rfl,jo dH.u ai];refine⟨λaE aF W aa=>∃i n:Nat,W=Δ (i:Int)/\i<=y.length/\aE=Δ (n:Int)/\aF= .bool false/\Ext V aa/\n<=iS (f.funs.take i)/\n<=i*60000,λ_ _ W _=>y.length-(bS W).toNat,
  ⟨0,0,rfl,X4 _,rfl,rfl,Ext.refl _,X4 _,Ω⟩,?_⟩
 rintro _ _ _ aa ⟨i,n,rfl,hi,rfl,rfl,C,aG,bh⟩;have bi:y.length<=256:=by rw[B.1];exact r.la
 rw[aR,al];refine⟨λaj=>?_,λbj=>?_⟩
 .have aj:i<y.length:=Ω
  obtain⟨d,ap⟩:=aJ (l:=y) aj;obtain⟨x,X⟩:∃x,f.funs[i]?=σ x:=⟨_,x6 (by have:=B.1;omega)⟩;have O:=B.2 i x d X ap;obtain⟨P,aH,aI⟩:=r.funs x (x5 X);have bk:=P.len;refine ic (λa b E=>Ext aa E/\a=Δ ((n+d.2.D.length:Nat):Int)/\b= .bool false) ?_ ?_
  .rintro _ _ E ⟨G,rfl,rfl⟩;rw[aN,wrap_i64 Ω Ω];have aL:=O.2.2.2.2.1;refine⟨⟨i+1,n+d.2.D.length,rfl,Ω,rfl,rfl,C.trans G,?_,?_⟩,by simp only[bS];omega⟩
   .have e:iS (f.funs.take (i+1))=iS (f.funs.take i)+x.lines.length:=by
     unfold iS;rw[u9,X,j5,Z4,List.sum_append,U6,List.map_nil,List.sum_cons,List.sum_nil,Nat.add_zero]
    omega
   .have:(i+1)*60000=i*60000+60000:=Ω
    have bl:d.2.D.length<=60000:=Ω
    omega
  .intro aA s;refine nL (α:=ha) cC.p rfl dH.u cC.i (bW ai C) ap λcs aM=>?_;obtain⟨sv,gT,bm,aK,gs,rfl,aO,aq⟩:=tx aM;refine bx cC.i λao E bn G aP=>?_;refine ci (vs:=[sv,Γ gT]) cC.i rfl rfl (by intro v ad;simp at ad;rcases ad with rfl|rfl<;>first|exact aO.cells.2|rfl) aP λag aQ bo aw=>?_;have Y:Ext aa ag:=G.put aQ Ω;rw[aT cC.p 1 aw rfl];refine(Ll (aq.ext Y).is).mono ?_;rintro _ bp _ ⟨rfl,Z⟩;have aL:=O.2.2.2.2.1;rw[aN,wrap_i64 Ω Ω,aT cC.p 1 (aw.ext Z) rfl];refine(wh ((aq.ext Y).ext Z).is).mono ?_;rintro bq ab _ ⟨aU,br,bt,ax⟩;rw[aX an.u ax.ls];have bu:d.2.ak.length<=6:=by rw[O.2.1,P.sizes,r8];exact aH
   refine cb.range d.2.ak.length (λj out Q=>Ext ab Q/\∃gr,ab.heap.size<=gr/\av .i64 au Q gr out (d.2.ak.take j)) Ω ⟨Ext.refl _,ab.heap.size,o4 _,av.nil _ _ _ _⟩ ?_ ?_
   .rintro j out Q k aW ⟨H,gr,aY,I⟩ hk;obtain⟨z,J⟩:=aJ (l:=d.2.ak) aW;refine bM Ω ?_;rw[bg an.u ah.i Ψ (ax.ls.ext H) J];refine et ay.u au.i rfl λa ga aZ bw K a2=>?_;refine jl ay.u au.i rfl (I.ext K) a2.ls Θ Θ λbz a6 bA bB a7 a8=>?_;have bC:=H.size;have bD:=K.size;rw[aN];refine hk _ _ ⟨(H.trans K).put a8 Ω,a6,Ω,?_⟩;rw[u9,J];exact a7
   .rintro out Q k ⟨H,gr,aY,I⟩;rw[o7]at I;refine cE Ω ?_;rw[a1];have ba:d.2.ak=x.sizes:=O.2.1;rw[ba]at I;refine(By I.ls λz J=>?_).mono ?_
    .rw[P.sizes]at J;obtain⟨v,ad,rfl⟩:=j4.1 J;have bE:=P.scope.2 v ad;refine(r.sizes.2.2 _ ?_).1;rw[u4,x6 Ω];exact S0 _
    .rintro _ aZ _ ⟨rfl,K⟩;refine s _ _ _ ⟨(((Y.trans Z).trans aU).trans H).trans K,by congr 1,by rw[aI]⟩
 .have bb:i=y.length:=Ω
  subst bb;rw[B.1,o7]at aG;refine aV (λv E=>aa=E/\v= .bool (decide (16384<(n:Int)))) ?_ ?_
  .rintro _ _ ⟨rfl,rfl⟩;rw[al];refine⟨λh=>⟨q.trans C,5,rfl,λbF=>Ω⟩,λh=>⟨q.trans C,0,rfl,λ_=>rfl⟩⟩
  .intro aA s;rw[a1,bL];exact s _ _ ⟨rfl,rfl⟩
theorem tz:∀{a b:Λ}{i:Nat},(∀(j:Nat)(x y:Int),j<i->a[j]?=σ x->b[j]?=σ y->x=y)->i<=a.length->i<=b.length->gb a b=gb (a.drop i) (b.drop i)
 |_,_,0,_,_,_=>Ξ
 |[],_,i+1,_,h,_=>by simp at h
 |_::_,[],i+1,_,_,h=>by simp at h
 |x::a,y::b,i+1,he,h1,e=>by
  have f:=he 0 x y Ω rfl rfl;subst f;simp only[gb,Int.lt_irrefl,if_false,List.drop_succ_cons];exact tz (λj u v p hu ad=>he (j+1) u v Ω hu ad) (by simpa using h1) (by simpa using e)
theorem CQ{x:Int}:am x7 cmp_isNaN_int [Δ x] w λv w'=>v= .bool false/\Ext w w':=by
 refine az func82 ?_;simp only[bC];exact⟨Ξ,Ext.refl _⟩
theorem pA{x:Int}:am x7 Gy [Δ x,Δ y] w λv w'=>v=Δ (if x<y then-1 else if y<x then 1 else 0)/\Ext w w':=by
 refine az func29 ?_;refine CQ.mono ?_;rintro _ V _ ⟨rfl,a⟩;refine CQ.mono ?_;rintro _ aa _ ⟨rfl,e⟩;simp only[a1,aR,bL,al];exact⟨λh=>⟨by rw[if_pos h],a.trans e⟩,λh=>⟨λf=>⟨by rw[if_neg h,if_pos f],a.trans e⟩,λf=>⟨by rw[if_neg h,if_neg f],a.trans e⟩⟩⟩
theorem Nh{b:Λ}(r:aI .i64 w bh a)(z:aI .i64 w bv b):am x7 Ik [bh,bv] w λv w'=>v=Δ (gb a b)/\Ext w w':=by
 refine az func203 ?_;have Y:=r.le;rw[aX an.u r];refine⟨λ_ A V=>∃i:Nat,A=Δ (i:Int)/\i<=a.length/\i<=b.length/\Ext w V/\∀(j:Nat)(x y:Int),j<i->a[j]?=σ x->b[j]?=σ y->x=y,λ_ A _=>a.length-(bS A).toNat,⟨0,rfl,X4 _,X4 _,Ext.refl _,λj x y N=>Ω⟩,?_⟩;rintro _ _ V ⟨i,rfl,O,P,f,H⟩;have p:gb a b=gb (a.drop i) (b.drop i):=tz H O P;simp only[aR,al];refine⟨λs=>?_,λZ=>?_⟩
 .have s:i<a.length:=Ω
  obtain⟨x,J⟩:=aJ (l:=a) s;have I:a.drop i=x::a.drop (i+1):=by rw[X6 s,(x4.1 J).2]
  rw[bg an.u ah.i Ψ (r.ext f) J,aX an.u (z.ext f)];simp only[cM,al];refine⟨λh=>?_,λh=>?_⟩
  .have:b.drop i=[]:=by rw[List.drop_eq_nil_iff];omega
   rw[this,I]at p;exact⟨by rw[p];rfl,f⟩
  have B:i<b.length:=Ω
  obtain⟨y,C⟩:=aJ (l:=b) B;have Q:b.drop i=y::b.drop (i+1):=by rw[X6 B,(x4.1 C).2]
  rw[bg an.u ah.i Ψ (z.ext f) C];refine pA.mono ?_;rintro _ aa _ ⟨rfl,K⟩;rw[I,Q]at p;simp only[gb]at p;simp only[bC,al,aN];refine⟨λL=>⟨?_,f.trans K⟩,λR=>?_⟩
  .rw[p];by_cases h1:x<y
   .rw[if_pos h1,if_pos h1]
   .by_cases q:y<x
    .rw[if_neg h1,if_pos q,if_neg h1,if_pos q]
    .rw[if_neg h1,if_neg q]at L;exact absurd rfl L
  .rw[wrap_i64 Ω Ω];refine⟨⟨i+1,rfl,s,B,f.trans K,λj S U N E G=>?_⟩,by simp only[bS];omega⟩;by_cases W:j=i
   .subst W;rw[J]at E;rw[C]at G;cases E;cases G;have M:=Z9.1 R;by_cases h1:x<y
    .rw[if_pos h1]at M;omega
    .by_cases q:y<x
     .rw[if_neg h1,if_pos q]at M;omega
     .omega
   .exact H j S U Ω E G
 .have X:i=a.length:=Ω
  subst X;rw[List.drop_length]at p;rw[aX an.u (r.ext f),aX an.u (z.ext f)];simp only[aR,al];refine⟨λh=>⟨?_,f⟩,λh=>⟨?_,f⟩⟩
  .obtain⟨y,l,e⟩:∃y l,b.drop a.length=y::l:=⟨_,_,X6 Ω⟩;rw[p,e];rfl
  .have:b.drop a.length=[]:=by rw[List.drop_eq_nil_iff];omega
   rw[p,this];rfl
theorem Ni{x:Int}{f:x1}(h:aI .i64 w f [x,y]):am x7 zn [f] w λv w'=>v=Δ (if x≠0 then x else y)/\Ext w w':=by
 refine az func28 ?_;rw[aX an.u h];refine cb.range 2 (λi _ V=>Ext w V/\(1<=i->x=0)/\(2<=i->y=0)) Ω ⟨Ext.refl _,Ω,Ω⟩ ?_ ?_
 .rintro i _ V k hi ⟨a,h1,e⟩ hk;rw[aR,al];refine⟨λ_=>?_,λh=>by simp at h;omega⟩
  match i,hi,h1,e,hk with
  |0,_,h1,e,hk=>
   rw[bg (i:=0) an.u ah.i Ψ (h.ext a) rfl,bC,al];refine⟨λp=>⟨by rw[if_pos p],a⟩,λhe=>?_⟩;rw[aN];exact hk _ _ ⟨a,λ_=>Z9.1 he,λh=>Ω⟩
  |1,_,h1,e,hk=>
   rw[bg (i:=1) an.u ah.i Ψ (h.ext a) rfl,bC,al];have q:=h1 (o4 _);refine⟨λp=>⟨by rw[if_neg Ω],a⟩,λhe=>?_⟩;rw[aN];exact hk _ _ ⟨a,λ_=>q,λ_=>Z9.1 he⟩
 .rintro _ V k ⟨a,h1,e⟩;have q:=h1 Ω;have r:=e Ω;rw[aR,al];exact⟨λh=>by simp at h,λ_=>⟨by rw[if_neg Ω,r],a⟩⟩
structure cr where
 sv:x1
 g:Nat
 sc:Λ
 cs:Λ
def ev(h:cr):List x1:=[h.sv,Γ h.g]
abbrev j0(h:cr):x1:=.agg (ev h).toArray
def qY(h:cr):Int:=dd h.sc
def iT(w:x3)(a:Nat)(h:cr):Prop:=(∃e,av .i64 ah w e h.sv h.sc)/\(∀r,leads h.sv r->r≠a)/\jt h.sc
theorem iT.ab{a:Nat}{h:cr}(aB:iT w a h)(J:ai S w w')(e:∀r,leads h.sv r->¬S r):iT w' a h:=by
 obtain⟨⟨f,hm⟩,p⟩:=aB;exact⟨⟨f,bu hm J e⟩,p⟩
theorem iT.one{a:Nat}{h:cr}(aB:iT w a h):∀u∈ev h,u.oneCell'=true:=by
 obtain⟨⟨e,hm⟩,_⟩:=aB;intro u hu;simp[ev]at hu;rcases hu with rfl|rfl
 .exact hm.ls.cells.2
 .rfl
def e5(w:x3)(g:Nat)(v:x1)(L:List cr):Prop:=bi ev 2 cU w g v L/\∀h∈L,iT w g h
theorem e5.ext{g:Nat}{L:List cr}(h:e5 w g v L)(J:Ext w w'):e5 w' g v L:=⟨h.1.ext J,λx a=>(h.2 x a).ab (J.ab λ_=>False) λ_ _ h=>h⟩
theorem e5.at{g:Nat}{L:List cr}(h:e5 w g v L){i:Nat}{x:cr}(hi:L[i]?=σ x):iT w g x:=h.2 x (x5 hi)
theorem tA{g:Nat}{L:List cr}{i:Nat}{x:cr}{K:x1->Prop}(a:y=(i:Int))(h:e5 w g v L)(hi:L[i]?=σ x):
  ac x7 (c7 gp v (Δ y)) w (λp=>ac x7 (u5 cU p) w K)=K (j0 x):=by
 rw[dr a gp.u cU.i h.1 (x4.1 hi).1,bP cU.p cU.i rfl (h.1.range hi)]
theorem Nj{g:Nat}{L:List cr}{i:Nat}{x:cr}{K:Unit->x3->Prop}(s:y=(i:Int))(h:e5 w g v L)(hi:i<L.length)(hk:iT w g x)(A:∀w',ai (λr=>leadsTo v r) w w'->e5 w' g v (L.set i x)->K () w'):ac x7 (c7 gp v (Δ y)) w λp=>aD x7 (o8 cU p (j0 x)) w K:=by
 rw[dr s gp.u cU.i h.1 hi];refine BR (f:=ev) cU.i h.1 rfl hk.one hi λw' e _ h'=>A w' e ⟨h',λz a=>?_⟩;rcases X9 a with a|rfl
 .exact (h.2 z a).ab e λr q he=>(h.2 z a).2.1 r q (h.1.leads he).1
 .exact hk.ab e λr q he=>hk.2.1 r q (h.1.leads he).1
abbrev Nk:x1:=.func (.func zH) #[] #[]
def tB(a b:cr):Int:=let c:Int:=if(a.sc.length:Int)<b.sc.length then-1 else if(b.sc.length:Int)<a.sc.length then 1 else 0
 if c≠0 then c else gb a.sc b.sc
theorem Nl{a b:cr}(f:jt a.sc)(p:jt b.sc):tB a b<0↔qY a<qY b:=by
 have q:=(wy f p).1;unfold qY tB;simp only;generalize r:(if(a.sc.length:Int)<b.sc.length then(-1:Int)else if(b.sc.length:Int)<a.sc.length then 1 else 0)=c;rw[q,<-r];by_cases h1:(a.sc.length:Int)<b.sc.length
 .rw[if_pos h1,if_pos Ω];exact⟨λ_=>.inl Ω,λ_=>Ω⟩
 .by_cases e:(b.sc.length:Int)<a.sc.length
  .rw[if_neg h1,if_pos e,if_pos Ω];exact⟨λh=>Ω,λh=>by rcases h with h|h<;>omega⟩
  .rw[if_neg h1,if_neg e,if_neg Ω];exact⟨λh=>.inr ⟨Ω,h⟩,λh=>by rcases h with h|h;omega;exact h.2⟩
theorem Nn{z:Nat}{a b:cr}(B:iT w z a)(C:iT w z b):am x7 zH [j0 a,j0 b] w λv w'=>Ext w w'/\v=Δ (tB a b):=by
 obtain⟨⟨ga,s⟩,_,L⟩:=B;obtain⟨⟨M,x⟩,_,N⟩:=C;refine az func202 ?_;refine bf λg1 V O E h=>?_;refine bf λG aa P A q=>?_;have h:af V g1 cU [a.sv,Γ a.g]:=by
  obtain⟨_,_,_,e⟩:=c5 s.ls;simp only[j0,ev,e]at h ⊢;exact h
 have q:af aa G cU [b.sv,Γ b.g]:=by
  obtain⟨_,_,_,e⟩:=c5 x.ls;simp only[j0,ev,e]at q ⊢;exact q
 intro Q y _ _;have f:=(E.trans A).trans y;have f1:=(h.ext A).ext y;have f2:=q.ext y;rw[aT cU.p 0 f1 rfl,aX an.u (s.ls.ext f),aT cU.p 0 f2 rfl,aX an.u (x.ls.ext f),
  aT cU.p 0 f1 rfl,aT cU.p 0 f2 rfl]
 refine pA.mono ?_;rintro _ R _ ⟨rfl,r⟩;refine⟨.inl r,?_⟩;refine(Nh ((s.ls.ext f).ext r) ((x.ls.ext f).ext r)).mono ?_;rintro _ S _ ⟨rfl,H⟩;refine qp (l:=[if(a.sc.length:Int)<b.sc.length then(-1:Int)else if(b.sc.length:Int)<a.sc.length then 1 else 0,gb a.sc b.sc]) an.u ah.i Ω rfl Ψ λU W X Y I J=>?_;refine(Ni J.ls).mono ?_;rintro _ Z _ ⟨rfl,K⟩;exact⟨((((f.trans r).trans H).trans I).trans K),rfl⟩
theorem No{g:Nat}{L:List cr}(h:e5 w g v L)(E:L.length<65536):
  am x7 Ij [v,Nk] w λ_ w'=>ai (λr=>leadsTo v r) w w'/\∃M,M.Perm L/\te qY M 0 M.length/\e5 w' g v M:=by
 have s:∀{z:x3}{a:cr},ai (λr=>r=g) w z->iT w g a->iT z g a:=λf e=>e.ab f λr A he=>e.2.1 r A he;refine(wn Lx (G:=iT w g) (num:=qY) (cf:=tB) (cap:=#[]) LC LD (λa e=>e.one) (λa _=>rfl) (λa b e B=>Nl e.2.2 B.2.2) (Enters.of x7 LF rfl Ψ) h.1 h.2 E λz a b f e B=>Nn (s f e) (s f B)).mono ?_;rintro _ w' _ ⟨f,M,C,hu,hm⟩;have H:ai (λr=>r=g) w w':=f.mono λr _ A=>(h.1.leads A).1;exact⟨f,M,C,λp q x y _ I _ J K=>hu p q x y I J K,hm,λx J=>s H (h.2 x (C.mem_iff.1 J))⟩
theorem Np{m:Λ}(ad:kB l)(q:l.Nodup)(e:m.Perm l)(U:m.Pairwise (·<= ·)):m=bo l:=by
 refine wz (f:=λx=>x) ?_ (wx l) λx=>?_
 .have r:m.Nodup:=e.nodup_iff.2 q;exact(List.Pairwise.and U r).imp λ{a b}h=>by
   obtain⟨h1,p⟩:=h;have p:a≠b:=p;omega
 .rw[e.mem_iff,qU ad]
theorem Nq(h:∀z∈l,1<=z/\z<=32)(a:dj l=false):aO l<=4096:=by
 have:=of_decide_eq_false a;rw[wB h]at this;omega
theorem Nr{f:bY}{d:ha}{x:cj}{m:Bool}{S R:aj}(q:e0 N f)(bj:N<=60000)(O:x∈f.funs)(aA:qW f.k x d)(aB:ap.rep m S R w cs d):
  am x7 If [.agg cs.toArray] w λv w'=>Ext w w'/\∃sv gs G P Q,v= .tuple #[sv,Γ G]/\w.heap.size<=gs/\av .i64 ah w' gs sv (bo x.scope)/\df w' G P Q (bX f.sizes (bo x.scope)) f.k (hX f.sizes f.k x).2:=by
 obtain⟨sv,gT,bk,aK,bl,rfl,H,aC⟩:=tx aB;obtain⟨aD,aE,aF,bp,bq,aG⟩:=aA;obtain⟨a,aH,aI⟩:=q.funs x O;have ad:=tk a q.sizes.2.1;have br:=a.len;rw[aD]at H;have aL:∀z∈x.sizes,1<=z/\z<=32:=λz Z=>by
  rw[a.sizes]at Z;obtain⟨v,aM,rfl⟩:=j4.1 Z;have bu:=a.scope.2 v aM;refine q.sizes.2.2 _ ?_;rw[u4,x6 Ω];exact S0 _
 have aO:=Nq aL aI;have W:=tj ad a.scope.1;have bw:(bo x.scope).length<=6:=by rw[W.length_eq];exact aH
 refine az func192 ?_;refine bf λao V bx ac A=>?_;have A:af V ao cC [sv,Γ gT]:=by obtain⟨_,_,_,rfl⟩:=c5 H;exact A
 rw[aT cC.p 1 A rfl];refine(CE (aC.ext ac).is Ω).mono ?_;rintro _ aa _ ⟨X,_,B⟩;rw[aE]at B;obtain⟨g,bz,bA,aP,rfl,bB,bC,B,ae⟩:=B aO;rw[aF]at B;rw[bm,bn,aT cC.p 0 (A.ext X) rfl];have C:=ac.trans X;refine wE (H.ext C) Ω λv ag gs bD I bE aQ U J=>?_;have aR:=Np ad a.scope.1 aQ U;subst aR;have bF:=C.size;rw[aX an.u J.ls];refine jN (k:=.i64) an.u ah.i Ω Ω λgo ak bG K al=>?_;have aS:av .i64 ah ak go (.slice (σ ⟨go,0,ν⟩) (bo x.scope).length (bo x.scope).length) (p8 (bo x.scope).length 0):=av.of (bV.full (k:=1) (n:=(bo x.scope).length) al Ξ (by simp[maxLen];omega));rw[aX an.u (J.ls.ext K)];have bH:=al.lt;have L:(gd x.scope (bo x.scope)).length=(bo x.scope).length:=by simp[gd]
 have aU:=I.trans K;have bI:=C.trans aU;refine ck.range (bo x.scope).length (λi h=>ai (λr=>r=go) ak h/\av .i64 ah h go (.slice (σ ⟨go,0,ν⟩) (bo x.scope).length (bo x.scope).length) ((gd x.scope (bo x.scope)).take i++p8 ((bo x.scope).length-i) 0)) Ω ⟨ai.refl _ _,by simpa using aS⟩ ?_ ?_
 .rintro i h k hi ⟨M,E⟩ hk;obtain⟨v,Y⟩:=aJ (l:=(bo x.scope)) hi;have s:Ext ag h:=K.put M Ω;have aV:Ext w h:=(C.trans I).trans s;have aW:v∈x.scope:=W.mem_iff.1 (x5 Y);refine bM Ω ?_;rw[bg an.u ah.i Ψ (J.ls.ext s) Y];have aY:Ext V h:=(X.trans I).trans s;rw[aT cC.p 0 (A.ext aY) rfl];refine(CJ (H.ext aV)).mono ?_;rintro _ aZ _ ⟨y,r,rfl,a1⟩;have aq:=pz aW;have a2:r=((x.scope.idxOf v:Nat):Int):=(a1 _ aq).2 λj bJ a6=>by have:=kz a.scope.1 a6 aq;omega
  rw[hy rfl an.u ah.i (E.ext y) (by simp[L];omega)];refine hz ah.i (E.ext y) (by simp[L];omega) λbK a7 bL au=>?_;rw[aN];refine hk _ ⟨(M.trans (y.ab _)).trans a7,?_⟩;have a8:(gd x.scope (bo x.scope))[i]?=σ r:=by rw[a2];exact Cy Y
  have e:((gd x.scope (bo x.scope)).take i++p8 ((bo x.scope).length-i) 0).set i r=(gd x.scope (bo x.scope)).take (i+1)++p8 ((bo x.scope).length-(i+1)) 0:=by
   have ba:((gd x.scope (bo x.scope)).take i).length=i:=by rw[n9,L];omega
   rw[T4 _ _ Ω,ba,U3,show(bo x.scope).length-i=((bo x.scope).length-(i+1))+1 by omega,List.replicate_succ,List.set_cons_zero,u9,a8,j5,V0];rfl
  rw[e]at au;exact au
 .rintro h k ⟨M,E⟩;have s:Ext ag h:=K.put M Ω;have aw:Ext aa h:=I.trans s;refine cE Ω ?_;rw[U3,List.replicate_zero,W8,b6 Ω]at E;have bb:∀t,dk x.sizes t->bt x.sizes aP t=jU x f.k t:=λt bc=>by rw[ae.2 t bc];exact aG t
  obtain⟨ax,bd⟩:=Mq q O ae.1 bb;have be:Good (gd x.scope (bo x.scope)) x.sizes.length:=by
   rw[a.sizes,r8];exact tp a.scope.1 W
  have bh:=(px q O);refine(M4 (B.ext aw) q.k E.ls (by rw[L];omega) λ_=>?_).mono ?_
  .rw[ax];exact bh.small
  .rintro _ aZ _ ⟨y,_,bi⟩;obtain⟨G,P,Q,rfl,ay⟩:=bi be;rw[bm,bn];rw[ax,bd]at ay;exact⟨(C.trans aw).trans y,v,gs,G,P,Q,rfl,Ω,(J.ext s).ext y,ay⟩
theorem CR{P:W5}{t x f:p9}{k y g o cap:Nat}{z:x1}(h:P.underlying t=σ (.slice e))(hi:aQ P e k y z)(A:z.cells.size=k)(h1:∀u∈dO z.cells (n*k),u.oneCell'=true)(a:af w g f cs)(H:o+n*k<=cs.length)(p:∀w',ai (λr=>r=g) w w'->af w' g f (over cs o (dO z.cells (n*k)))->K (.tuple #[]) w'):aD P (Z3.clear_ #[t] x #[.slice (σ ⟨g,o,ν⟩) n cap]) w K:=by
 obtain⟨i,hi,I,rfl,B⟩:=hi;have C:∀w,(zeroValue e).run P w= .ok z w:=λw=>by simp[zeroValue,typeInfo,hi,B]
 have E:(Z3.zeroCells z.cells n).toList=dO z.cells (n*k):=by
  unfold Z3.zeroCells dO;rw[A]
 have q:=run_storeCells_cells (P:=P) g o (dO z.cells (n*k)) 0 w (λj F=>by
   rw[nI]at F;rw[Nat.add_zero,a.cell (x6 (show o+j<cs.length by omega))];rfl) (λj _=>a.frozen _ _) h1
 simp only[Nat.add_zero]at q;obtain⟨G,s⟩:=nH (dO z.cells (n*k)) cs o w a;rcases Q0 n with rfl|J
 .refine .of (v:=.tuple #[]) (w':=w) (by simp[Z3.clear_,run_underlying h]) (cL.refl _) (p w (ai.refl _ _) ?_);rw[Nat.zero_mul,j6 (nI z.cells 0)];exact a
 .obtain⟨m,rfl⟩:∃m,n=m+1:=⟨n-1,Ω⟩;refine .of (v:=.tuple #[]) (w':=_) (by simp[Z3.clear_,run_underlying h,C,E,q]) (s.ct a) (p _ s.ab G)
theorem dS{α:Type}{f:α->List x1}{k:Nat}{g:Nat}{L:List α}(h:bi f k e w g v L)(p:leadsTo v r):r=g/\∃cs,af w g e cs:=by
 obtain⟨_,⟨rfl,_⟩|⟨cap,cs,rfl,q,_⟩⟩:=h.1
 .exact (e1 p).elim
 .obtain⟨a,n,c,h1,s⟩:=p;cases h1;exact⟨s.symm,cs,q⟩
theorem Ns{α:Type}{f:α->List x1}{k:Nat}{g:Nat}{L:List α}(h:bi f k e w g v L)(a:L≠[]):∃cs n c,v= .slice (σ ⟨g,0,ν⟩) n c/\af w g e cs:=by
 obtain⟨_,⟨rfl,p⟩|⟨cap,cs,rfl,q,_⟩⟩:=h.1
 .exact absurd (j6 p) a
 .exact⟨cs,_,_,rfl,q⟩
theorem e5.mk{g:Nat}{L:List cr}(h:bi ev 2 cU w g v L)(a:∀x∈L,(∃e,av .i64 ah w e x.sv x.sc)/\jt x.sc):e5 w g v L:=by
 refine⟨h,λx J=>⟨(a x J).1,λr f=>?_,(a x J).2⟩⟩;obtain⟨cs,n,c,_,p⟩:=Ns h (λq=>by rw[q]at J;cases J);obtain⟨⟨e,hm⟩,_⟩:=a x J;exact b7 hm p Φ f
def Sem(w:x3)(k:Int)(sizes:Λ)(L:List cr):Prop:=∀x∈L,∃a e,df w x.g a e (bX sizes x.sc) k x.cs
theorem wI{g q:Nat}{s:x1}{cs:Λ}(h:df w g q s ak k cs)(e:ai S w w')(f:∀r,S r->∃c,af w r cU c):df w' g q s ak k cs:=by
 obtain⟨⟨a6,gs,h1,x,y⟩,z⟩:=h;refine⟨⟨a6,gs,h1.ab e λU=>?_,bu x e λr p U=>?_,bu y e λr p U=>?_⟩,z⟩
 .obtain⟨c,a⟩:=f g U;unfold af at h1 a;rw[h1]at a;have:=(Obj.cells.inj (b9 a)).2.1;exact absurd this Φ
 .obtain⟨c,a⟩:=f r U;exact b7 x a Φ p rfl
 .obtain⟨c,a⟩:=f r U;exact b7 y a Φ p rfl
theorem Sem.ext{L:List cr}(h:Sem w k sizes L)(J:Ext w w'):Sem w' k sizes L:=λx a=>by
 obtain⟨e,f,p⟩:=h x a;exact⟨e,f,p.ext J⟩
theorem Sem.row{L M:List cr}{g:Nat}(h:Sem w k sizes L)(a:e5 w g v M)(e:ai (λr=>leadsTo v r) w w'):Sem w' k sizes L:=λx f=>by
 obtain⟨p,q,s⟩:=h x f;exact⟨p,q,wI s e λr y=>by obtain⟨rfl,c,z⟩:=dS a.1 y;exact⟨c,z⟩⟩
def dT(h:cr):cK:=(h.sc,h.cs)
theorem Nt:am x7 vn [Δ c] w λv w'=>v= .bool (decide (0<c))/\Ext w w':=by
 refine az func199 ?_;rw[bL];exact⟨rfl,Ext.refl _⟩
theorem Nu(h:aI .i64 w sv l):
  am x7 Ih [sv,.func (.func vn) #[] #[]] w λv w'=>v= .bool (l.any λc=>decide (0<c))/\Ext w w':=by
 refine az func198 ?_;refine am.mono (K:=λv w'=>Ext w w'/\∃r:Int,v=Δ r/\(0<=r↔ ∃c∈l,0<c)) ?_ ?_
 .refine az func252 ?_;rw[aX ay.u h];refine cb.range l.length (λi _ V=>Ext w V/\∀c∈l.take i,¬0<c) h.le ⟨Ext.refl _,λc a=>by simp at a⟩ ?_ ?_
  .rintro i _ V k hi ⟨J,f⟩ hk;refine bM Ω ?_;obtain⟨x,p⟩:=aJ (l:=l) hi;rw[bg ay.u au.i Ψ (h.ext J) p];show am x7 vn [Δ x] V _;refine Nt.mono ?_;rintro _ aa _ ⟨rfl,q⟩;rw[al];refine⟨λe=>⟨J.trans q,i,rfl,⟨λ_=>⟨x,x5 p,e⟩,λ_=>Ω⟩⟩,λs=>?_⟩;rw[aN];refine hk _ _ ⟨J.trans q,λc a=>?_⟩;rw[u9,p]at a;rcases o5.1 a with a|a
   .exact f c a
   .simp at a;subst a;exact s
  .rintro _ V k ⟨J,f⟩;rw[o7]at f;rw[aR,al];exact⟨λh=>Ω,λ_=>⟨J,-1,rfl,⟨λh=>Ω,λ⟨c,a,e⟩=>absurd e (f c a)⟩⟩⟩
 .rintro _ V _ ⟨J,r,rfl,y⟩;rw[cM];refine⟨?_,J⟩;congr 1;rw[V9,decide_eq_true_eq,List.any_eq_true,y];exact⟨λ⟨c,a,e⟩=>⟨c,a,decide_eq_true e⟩,λ⟨c,a,e⟩=>⟨c,a,of_decide_eq_true e⟩⟩
theorem CS{h q:Nat}{x:cr}{r:x1}(J:iT w h x)(s:df w x.g q r ak k x.cs):am x7 qe [j0 x] w λv w'=>v= .bool (!fl (dT x))/\Ext w w':=by
 obtain⟨⟨B,hm⟩,_⟩:=J;refine az func197 ?_;refine bf λao V C f a=>?_;have a:af V ao cU [x.sv,Γ x.g]:=by
  obtain⟨_,_,_,e⟩:=c5 hm.ls;simp only[j0,ev,e]at a ⊢;exact a
 rw[aT cU.p 1 a rfl];refine(mR (s.ext f)).mono ?_;rintro E aa _ ⟨y,G,H,z⟩;refine(Nu z.ls).mono ?_;rintro _ I _ ⟨rfl,A⟩;rw[bH];exact⟨rfl,(f.trans y).trans A⟩
theorem Nv{g:Nat}{L:List cr}(h:e5 w g v L)(U:Sem w k sizes L):
  am x7 zE [v,.func (.func qe) #[] #[]] w λr w'=>Ext w w'/\((r=Δ (-1)/\∀x∈L,fl (dT x)=true)\/∃i:Nat,r=Δ (i:Int)/\i<L.length/\(∀x∈L.take i,fl (dT x)=true)/\∀x,L[i]?=σ x->fl (dT x)=false):=by
 refine az func193 ?_;rw[ee gp.u h.1];refine cb.range L.length (λi _ V=>Ext w V/\∀x∈L.take i,fl (dT x)=true) h.1.le ⟨Ext.refl _,λc a=>by simp at a⟩ ?_ ?_
 .rintro i _ V k hi ⟨J,e⟩ hk;refine bM Ω ?_;obtain⟨x,f⟩:=aJ (l:=L) hi;rw[tA rfl (h.ext J) f];show am x7 qe [j0 x] V _;obtain⟨B,C,s⟩:=U x (x5 f);refine(CS ((h.ext J).at f) (s.ext J)).mono ?_;rintro _ aa _ ⟨rfl,p⟩;rw[b2];refine⟨λz=>⟨J.trans p,.inr ⟨i,rfl,hi,e,λy q=>by rw[f]at q;cases q;simpa using z⟩⟩,λA=>?_⟩;rw[aN];refine hk _ _ ⟨J.trans p,λc a=>?_⟩;rw[u9,f]at a;rcases o5.1 a with a|a
  .exact e c a
  .simp at a;subst a;simpa using A
 .rintro _ V k ⟨J,e⟩;rw[o7]at e;rw[aR,al];exact⟨λh=>Ω,λ_=>⟨J,.inl ⟨rfl,e⟩⟩⟩
def gf(x:cr):Bool:=fl (dT x)
theorem wJ{L:List cr}{x:cr}(J:L[j]?=σ x):(L.take (j+1)).filter gf=if gf x=true then(L.take j).filter gf++[x]else(L.take j).filter gf:=by
 rw[u9,J,j5,List.filter_append];by_cases h:gf x=true
 .rw[if_pos h];simp[h]
 .rw[if_neg h];simp[h]
theorem wK{z:Array x1}(a:0<z.size)(h:∀u∈z.toList,u.oneCell'=true):∀u∈dO z n,u.oneCell'=true:=λu hu=>by
 unfold dO at hu;rw[Array.toList_map,j4]at hu;obtain⟨i,_,rfl⟩:=hu;have e:i % z.size<z.size:=Nat.mod_lt _ a;rw[getElem!_pos z (i % z.size) e];exact h _ Ξ
theorem Nw{g:Nat}{L:List cr}(h:e5 w g v L)(U:Sem w k sizes L)(ba:L.length<=100000):
  am x7 Ii [v,.func (.func qe) #[] #[]] w λf w'=>ai (λr=>leadsTo v r) w w'/\e5 w' g f (L.filter gf)/\∀r,leadsTo f r->leadsTo v r:=by
 refine az func200 ?_;refine(Nv h U).mono ?_;rintro r V _ ⟨E,q⟩;rcases q with⟨rfl,N⟩|⟨O,rfl,ax,N,ay⟩
 .rw[be,al];refine⟨λ_=>⟨E.ab _,?_,λr q=>q⟩,λh=>absurd rfl h⟩;rw[List.filter_eq_self.2 (show∀x∈L,gf x=true from N)];exact h.ext E
 rw[be,al];refine⟨λh=>Ω,λ_=>?_⟩;rw[aN,wrap_i64 Ω Ω];obtain⟨P,Z⟩:=aJ (l:=L) ax;refine⟨λQ R aa=>∃(i j:Nat)(M:List cr),Q=Δ (i:Int)/\R=Δ (j:Int)/\i<j/\j<=L.length/\M.length=L.length/\M.take i=(L.take j).filter gf/\M.drop j=L.drop j/\(∀x∈M,x∈L)/\e5 aa g v M/\ai (λr=>leadsTo v r) w aa,
  λ_ R _=>L.length-(bS R).toNat,⟨O,O+1,L,rfl,by congr 1,Ω,Ω,rfl,?_,rfl,λx J=>J,h.ext E,E.ab _⟩,?_⟩
 .have aB:¬gf P=true:=by rw[show gf P=false from ay P Z];simp
  rw[wJ Z,if_neg aB,List.filter_eq_self.2 (show∀x∈L.take O,gf x=true from N)]
 rintro _ _ aa ⟨i,j,M,rfl,rfl,bb,bc,ae,z,af,ag,e,G⟩;have aC:Sem aa k sizes L:=U.row h G;rw[ee gp.u e.1,aR,al];refine⟨λS=>?_,λbd=>?_⟩
 .have S:j<L.length:=Ω
  obtain⟨x,J⟩:=aJ (l:=L) S;have H:M[j]?=σ x:=by
   have h1:(M.drop j)[0]?=(L.drop j)[0]?:=by rw[af]
   rw[List.getElem?_drop,List.getElem?_drop,Nat.add_zero]at h1;rw[h1,J]
  have ah:M.drop (j+1)=L.drop (j+1):=by
   have h1:(M.drop j).drop 1=(L.drop j).drop 1:=by rw[af]
   rw[List.drop_drop,List.drop_drop]at h1;exact h1
  refine aV (λQ I=>∃(B:Nat)(s:List cr),Q=Δ (B:Int)/\B<j+1/\s.length=L.length/\s.take B=(L.take (j+1)).filter gf/\s.drop (j+1)=L.drop (j+1)/\(∀x∈s,x∈L)/\e5 I g v s/\ai (λr=>leadsTo v r) w I) ?_ ?_
  .rintro _ I ⟨B,s,rfl,h1,W,aE,aF,aG,aH,aI⟩;rw[aN,wrap_i64 Ω Ω];exact⟨⟨B,j+1,s,rfl,rfl,h1,S,W,aE,aF,aG,aH,aI⟩,by simp only[bS];omega⟩
  .intro aA aj;rw[tA rfl e H];refine bx cU.i λao I bf aK aL=>?_;refine ci (vs:=ev x) cU.i rfl rfl (e.at H).one aL λak aM bg an=>?_;have X:Ext aa ak:=aK.put aM Ω;rw[bP cU.p cU.i rfl an.range];show am x7 qe [j0 x] ak _;obtain⟨bh,bi,aO⟩:=aC x (x5 J);refine(CS ((e.ext X).at H) (aO.ext X)).mono ?_;rintro _ bj _ ⟨rfl,ap⟩;have C:=X.trans ap;rw[bH,Bool.not_not,b2];refine⟨λhk=>?_,λaP=>?_⟩
   .rw[bP cU.p cU.i rfl (an.ext ap).range];refine Nj rfl (e.ext C) Ω ((e.ext C).at H) λbk aQ aS=>?_;rw[aN,wrap_i64 Ω Ω];refine aj _ _ ⟨i+1,M.set i x,rfl,Ω,by simp[ae],?_,?_,λy A=>?_,aS,(G.trans (C.ab _)).trans aQ⟩
    .have Y:gf x=true:=hk;rw[wJ J,if_pos Y,u9,b8 Ω,j5,List.take_set_of_le (o4 _),z]
    .rw[List.drop_set_of_lt Ω,ah]
    .rcases X9 A with A|rfl
     .exact ag y A
     .exact x5 J
   .have Y:¬gf x=true:=by rw[show gf x=false from aP];simp
    exact aj _ _ ⟨i,M,rfl,Ω,ae,by rw[wJ J,if_neg Y,z],ah,ag,e.ext C,G.trans (C.ab _)⟩
 .have aT:j=L.length:=Ω
  subst aT;rw[o7]at z;obtain⟨⟨bl,aU⟩,aq⟩:=e.1;rcases aU with⟨_,bm⟩|⟨cap,cs,ad,aW,bn,aX,aY,aZ⟩
  .omega
  subst ad;have a1:(ac x7 (V8 gp (.slice (σ ⟨g,0,ν⟩) M.length cap) (σ (Δ (i:Int))) ν ν) aa λa2=>
    aD x7 (Z3.clear_ #[gp] Jm #[a2]) aa λu K=>
    ac x7 (V8 gp (.slice (σ ⟨g,0,ν⟩) M.length cap) ν (σ (Δ (i:Int))) ν) K λa6=>
    (λf w'=>ai (λr=>leadsTo (.slice (σ ⟨g,0,ν⟩) M.length cap) r) w w'/\e5 w' g f (L.filter gf)/\∀r,leadsTo f r->leadsTo (.slice (σ ⟨g,0,ν⟩) M.length cap) r) a6 K):=by
   rw[gV (l:=i) (h:=M.length) (m:=cap) gp.u cU.i (nF i _ rfl) jj e9 Ω Ω (o4 _),if_neg Ω];simp only[Z6,U7];refine CR (g:=g) (o:=0+i*2) (n:=M.length-i) (k:=2) gp.u cU.i rfl ?_ aW Ω λK au a7=>?_
   .exact wK Φ Φ
   rw[gV (l:=0) (h:=i) (m:=cap) gp.u cU.i ji (nG i _ rfl) e9 Ω Ω (o4 _),if_neg Ω];simp only[Z6,U7,Nat.zero_mul,X2,Nat.sub_zero];have a8:(dO (x1.agg #[.slice ν 0 0,.pointer ν]).cells ((M.length-i)*2)).length=(M.length-i)*2:=nI _ _;have bo:(M.flatMap ev).length=M.length*2:=hZ aq;have av:(L.filter gf).length=i:=by rw[<-z,n9];omega
   have key:(λf w'=>ai (λr=>leadsTo (.slice (σ ⟨g,0,ν⟩) M.length cap) r) w w'/\e5 w' g f (L.filter gf)/\∀r,leadsTo f r->leadsTo (.slice (σ ⟨g,0,ν⟩) M.length cap) r) (.slice (σ ⟨g,0,ν⟩) (L.filter gf).length cap) K:=by
    refine⟨G.trans (au.mono λr _ he=>⟨_,_,_,rfl,he.symm⟩),⟨⟨⟨hZ (k:=2) (λy _=>rfl),.inr ⟨cap,_,rfl,a7,Ω,aX,by rw[k4,aY],?_⟩⟩,λy _=>rfl⟩,λy A=>?_⟩,λr q=>?_⟩
    .rw[av,<-z,<-pp i aq,<-aZ,List.take_take,mF (by rw[a8];omega),V0,List.take_append_of_le_length (by rw[n9];omega),List.take_take];congr 1;omega
    .have aw:y∈M:=by rw[<-z]at A;exact List.mem_of_mem_take A
     exact(e.2 y aw).ab au λr q he=>(e.2 y aw).2.1 r q he
    .obtain⟨a,n,c,h1,W⟩:=q;cases h1;exact⟨_,_,_,rfl,W⟩
   rw[av]at key;exact key
  exact a1
theorem qZ{k:o6}{g cap:Nat}{b:Option Addr}(h:av k e w g (.slice b n cap) l)(s:0<l.length):
  b=σ ⟨g,0,ν⟩/\n=l.length/\∃cs,af w g e cs/\n<=cap/\cap<=maxLen/\cs.length=cap/\cs.take n=ints k l:=by
 obtain⟨_,⟨_,h1⟩|⟨x,cs,h1,a,f,p,q,r⟩⟩:=h
 .omega
 .cases h1;exact⟨rfl,rfl,cs,a,f,p,by simpa using q,by simpa using r⟩
theorem Nx{g cap:Nat}(h:av .i64 ah w g (.slice (σ ⟨g,0,ν⟩) n cap) l)(p:j<l.length):aI .i64 w (.slice (σ ⟨g,j,ν⟩) (n-j) (cap-j)) (l.drop j):=by
 obtain⟨_,q,cs,a,h1,r,s,f⟩:=qZ h Ω;have:=JW (o:=j) (k:=n-j) (c:=cap-j) a Ω Ω Ω;refine aI.of (n:=n-j) ?_;have e:(cs.drop j).take (n-j)=ints .i64 (l.drop j):=by
  rw[<-List.drop_take,f,ints,ints,List.map_drop]
 rw[e]at this;exact this
theorem Ny{g:Nat}(h:av .i64 ah w g sv l)(aT:l.length<=1000):
  am x7 IM [sv] w λv w'=>ai (λr=>r=g) w w'/\av .i64 ah w' g v (dedup l l.length):=by
 refine az func247 ?_;rw[aX an.u h.ls];simp only[aR,al];refine⟨λaU=>⟨ai.refl _ _,?_⟩,λaW=>?_⟩
 .rw[tv (o4 _) (λi hi U=>Ω),o7];exact h
 obtain⟨n,s⟩:∃n,l.length=n:=⟨_,rfl⟩;obtain⟨cap,rfl⟩:∃cap,sv= .slice (σ ⟨g,0,ν⟩) n cap:=by
  obtain⟨_,⟨_,h1⟩|⟨ap,cs,h1,_⟩⟩:=id h
  .omega
  .exact⟨ap,by rw[h1,s]⟩
 obtain⟨_,_,_,_,aY,aq,_⟩:=qZ h Ω;refine⟨λ_ t V=>∃j:Nat,t=Δ (j:Int)/\1<=j/\j<=n/\Ext w V/\∀i,i<j->0<i->l[i]? ≠l[i-1]?,λ_ t _=>n-(bS t).toNat,⟨1,rfl,Ω,Ω,Ext.refl _,λi h1 W=>Ω⟩,?_⟩;rintro aZ _ V ⟨j,rfl,a1,X,A,I⟩;rw[aX an.u (h.ls.ext A)];simp only[aR,al,ej];refine⟨λau aa aw _ _=>?_,λa2=>⟨A.ab _,?_⟩⟩
 .have au:j<n:=Ω
  have B:=A.trans aw;have Y:=h.ls.ext B;obtain⟨a,J⟩:=aJ (l:=l) (i:=j) Ω;obtain⟨b,K⟩:=aJ (l:=l) (i:=j-1) Ω;rw[bg an.u ah.i Ψ Y J];simp only[dN];rw[wrap_i64 Ω Ω,fY (i:=j-1) Ω an.u ah.i Ψ Y K];simp only[be,al,aN];refine⟨λL=>?_,λL=>?_⟩
  .subst L;rw[gV an.u ah.i (l:=j) (h:=n) (m:=cap) oY jj e9 Ω Ω Ω,if_neg Ω];have ax:V5 (λx:Addr=>x.add (j*1)) (σ ⟨g,0,ν⟩)=σ ⟨g,j,ν⟩:=by simp[U7]
   rw[ax];have Z:dedup l (j+1)=l.take j:=by rw[wF Ω (by rw[J,K]),tv Ω I]
   refine⟨λM t N=>∃(q e:Nat)(f:Λ),M=Δ (q:Int)/\t=Δ (e:Int)/\1<=e/\j+e<=n/\ai (λr=>r=g) w N/\av .i64 ah N g (.slice (σ ⟨g,0,ν⟩) n cap) f/\f.length=n/\
     q=(dedup l (j+e)).length/\f.take q=dedup l (j+e)/\q<=j+e-1/\∀i,j+e-1<=i->f[i]?=l[i]?,λ_ t _=>n-(bS t).toNat,
    ⟨j,1,l,rfl,rfl,Ω,Ω,B.ab _,h.ext B,s,by rw[Z,n9];omega,by rw[Z],Ω,λi _=>rfl⟩,?_⟩
   rintro _ _ N ⟨q,e,f,rfl,rfl,a6,a7,O,ac,ad,ae,C,ay,E⟩;rw[hs an.u];simp only[aR,al,ej];refine⟨λaf=>?_,λaf=>?_⟩
   .have af:j+e<n:=Ω
    refine aV (λM P=>∃(q:Nat)(f:Λ),M=Δ (q:Int)/\ai (λr=>r=g) w P/\av .i64 ah P g (.slice (σ ⟨g,0,ν⟩) n cap) f/\f.length=n/\
     q=(dedup l (j+(e+1))).length/\f.take q=dedup l (j+(e+1))/\q<=j+(e+1)-1/\∀i,j+(e+1)-1<=i->f[i]?=l[i]?) ?_ ?_
    .rintro _ P ⟨q,f,rfl,h1,W,aB,aC,aD,aE,aF⟩;simp only[aN];rw[wrap_i64 Ω Ω];exact⟨⟨q,e+1,f,rfl,rfl,Ω,Ω,h1,W,aB,aC,aD,aE,aF⟩,by simp only[bS];omega⟩
    .intro aA ag a8 Q _ _;have G:=ac.ext Q;have R:=Nx (j:=j) G Ω;obtain⟨y,H⟩:=aJ (l:=l) (i:=j+e) Ω;obtain⟨z,S⟩:=aJ (l:=l) (i:=j+e-1) Ω;have aj:(f.drop j)[e]?=σ y:=by rw[List.getElem?_drop,E _ Ω,H]
     have aG:(f.drop j)[e-1]?=σ z:=by rw[List.getElem?_drop,E _ Ω,<-S];congr 1;omega
     rw[bg an.u ah.i Ψ R aj];simp only[dN];rw[wrap_i64 Ω Ω,fY (i:=e-1) Ω an.u ah.i Ψ R aG];simp only[bC,al,aN];refine⟨λp=>?_,λp=>?_⟩
     .rw[bg an.u ah.i Ψ R aj,hy rfl an.u ah.i G Ω];refine hz ah.i G Ω λba aH bb aI=>?_;rw[wrap_i64 Ω Ω];have ak:dedup l (j+e+1)=dedup l (j+e)++[y]:=wG H (λ_=>by rw[H,S];simpa using p);refine ag _ _ ⟨q+1,_,rfl,(O.trans (Q.ab _)).trans aH,aI,by simpa using ad,?_,?_,Ω,λi hi=>?_⟩
      .rw[<-R2,ak];simp;omega
      .rw[<-R2,ak,u9,b8 Ω,List.take_set_of_le (o4 _),C];rfl
      .rw[Y2 Ω];exact E i Ω
     .have p:y=z:=Z9.1 p;have ao:dedup l (j+e+1)=dedup l (j+e):=wF Ω (by rw[H,S,p]);exact ag _ _ ⟨q,f,rfl,O.trans (Q.ab _),G,ad,by rw[<-R2,ao];exact ae,by rw[<-R2,ao];exact C,Ω,λi hi=>E i Ω⟩
   .have hk:j+e=n:=Ω
    rw[hk]at ae C ay;obtain⟨_,_,cs,aK,_,_,bc,aL⟩:=qZ ac Ω;simp only[maxLen]at aq;rw[gV an.u ah.i (l:=q) (h:=n) (m:=cap) oY jj e9 Ω Ω Ω,if_neg Ω];have aM:V5 (λx:Addr=>x.add (q*1)) (σ ⟨g,0,ν⟩)=σ ⟨g,q,ν⟩:=by simp[U7]
    rw[aM];refine Ay an.u ah.i rfl rfl aK Ω Ω λbd aO bf aP=>?_;rw[gV an.u ah.i (l:=0) (h:=q) (m:=cap) ji oZ e9 Ω Ω Ω,if_neg Ω];have aQ:V5 (λx:Addr=>x.add (0*1)) (σ ⟨g,0,ν⟩)=σ ⟨g,0,ν⟩:=by simp[U7]
    rw[aQ,s];refine⟨O.trans aO,?_⟩;rw[<-C];refine av.of (n:=q) ⟨Θ,.inr ⟨cap,_,Ξ,aP,Ω,by simp only[maxLen];omega,by rw[k4];omega,?_⟩⟩;rw[U1];apply Y3;intro i;by_cases hi:i<q
    .rw[Z7 hi,mE _ _ _ Θ,if_neg Ω,ints,x8,Z7 hi];have:(cs.take n)[i]?=(ints .i64 f)[i]?:=by rw[aL]
     rw[Z7 Ω,ints,x8]at this;exact this
    .rw[Z2 Θ,Z2 Θ]
  .rw[wrap_i64 Ω Ω];refine⟨⟨j+1,rfl,Ω,Ω,B,λi hi U=>?_⟩,by simp only[bS];omega⟩;by_cases aS:i=j
   .subst aS;rw[J,K];intro he;exact L (b9 he)
   .exact I i Ω U
 .have X:j=n:=Ω
  rw[tv (o4 _) (by rw[s,<-X];exact I),o7];exact h.ext A
theorem Nz(y:n<=1000000):am x7 I7 [.slice ν 0 0,Δ (n:Int)] w λv w'=>Ext w w'/\∃g,w.heap.size<=g/\av .i64 ah w' g v []:=by
 refine az func280 ?_;refine da (λV=>w=V) ?_ ?_
 .rintro _ rfl;refine aV (λv w'=>Ext w w'/\∃g,w.heap.size<=g/\av .i64 ah w' g v []) (λ_ _ h=>h) λaA a=>?_;rw[Ax an.u,hs an.u];simp only[dN];have e:X5.wrap (((0:Nat):Int)-((0:Nat):Int))=0:=Φ
  have f:X5.wrap ((n:Int)-0)=n:=by rw[wrap_i64 Ω Ω];omega
  rw[e,f];simp only[bL,al];refine⟨λh=>?_,λh=>a _ _ ⟨Ext.refl _,w.heap.size,o4 _,av.nil _ _ _ _⟩⟩;rw[Ax an.u,gV an.u ah.i (l:=0) (h:=0) (m:=0) ji oZ e9 Ω Ω Ω,if_pos rfl];refine JV (k:=n) (xs:=[]) rfl an.u ah.u ah.i rfl ⟨rfl,0,0,ν,0,rfl,o4 _,X4 _,λh=>absurd h (Nat.lt_irrefl _),λj v h=>by simp at h⟩ Ω Ω Ω Ω λv g w' z J hm=>?_;obtain⟨_,⟨_,A⟩|⟨cap,cs,rfl,p,h1,q,r,B⟩⟩:=hm
  .omega
  rw[hs an.u,gV an.u ah.i (l:=0) (h:=0) (m:=cap) ji oZ e9 Ω Ω Ω,if_neg Ω];have s:V5 (λx:Addr=>x.add (0*1)) (σ ⟨g,0,ν⟩)=σ ⟨g,0,ν⟩:=by simp[U7]
  rw[s];refine a _ _ ⟨J,g,Ω,av.of (n:=0) ⟨Ξ,.inr ⟨cap,cs,Ξ,p,Ω,q,r,Ξ⟩⟩⟩
 .intro aA a;simp only[aR,al];exact⟨λh=>Ω,λ_=>a _ rfl⟩
theorem NA{b:Λ}(M:aI .i64 w bh a)(N:aI .i64 w bv b)(R:a.length<=1000)(S:b.length<=1000)(U:∀v w' g,Ext w w'->w.heap.size<=g->av .i64 ah w' g v (a++b)->K v w'):
  aD x7 (Y4 dz 2 #[(0,bh),(1,bv)]) w λt V=>am x7 IN [t] V K:=by
 obtain⟨⟨C,E,G,W⟩,⟨H,I,J,X⟩⟩:(∃x n c,bh= .slice x n c)/\(∃x n c,bv= .slice x n c):=by
  obtain⟨_,_,_,x,c,h1,_⟩:=id M;obtain⟨_,_,_,y,d,Y,_⟩:=id N;exact⟨⟨x,_,c,h1⟩,⟨y,_,d,Y⟩⟩
 subst W;subst X;refine kq dz.u an.i Ω (cs:=#[.slice C E G,.slice H I J]) Ψ λg V aB s z=>?_;have z:af V g an [.slice C E G,.slice H I J]:=z;have key:∀i:Nat,i<2->∃v l,[x1.slice C E G,.slice H I J][i]?=σ v/\[a,b][i]?=σ l/\aI .i64 w v l/\l.length<=1000:=λi hi=>by
  match i,hi with
  |0,_=>exact⟨_,_,rfl,rfl,M,R⟩
  |1,_=>exact⟨_,_,rfl,rfl,N,S⟩
 refine az func248 ?_;rw[hs dz.u];refine cb.range 2 (λi size aa=>Ext V aa/\∃n:Nat,n<=1000*i/\size=Δ (n:Int)) Ω ⟨Ext.refl _,0,Ω,rfl⟩ ?_ ?_
 .rintro i _ aa Z hi ⟨f,n,ab,rfl⟩ ac;simp only[aR,al];refine⟨λ_=>?_,λh=>Ω⟩;obtain⟨v,l,ad,O,L,ae⟩:=key i hi;refine aV (λv P=>aa=P/\v=Δ ((n+l.length:Nat):Int)) ?_ ?_
  .rintro _ _ ⟨rfl,rfl⟩;simp only[aN];exact ac _ _ ⟨f,_,Ω,rfl⟩
  .intro aA ag;rw[e8 (b:=g) (o:=0) dz.u an.i hi (λ_=>rfl),ax Ψ ((z.ext f).cell (o:=0+i*1) (by rw[<-ad];congr 1;omega)),aX an.u (L.ext (s.trans f))];simp only[aN,aR,al];rw[wrap_i64 Ω Ω];exact⟨λh=>Ω,λ_=>ag _ _ ⟨rfl,by congr 1⟩⟩
 .rintro _ aa Z ⟨f,n,ab,rfl⟩;simp only[aR,al];refine⟨λh=>Ω,λ_=>?_⟩;refine(Nz (n:=n) Ω).mono ?_;rintro v0 P _ ⟨Q,ai,aC,aj⟩;have s1:=s.size;have aE:=f.size;have aF:=Q.size;have ak:=f.trans Q;rw[hs dz.u];refine cb.range 2 (λi v A=>Ext V A/\∃q,V.heap.size<=q/\av .i64 ah A q v (([a,b].take i).flatten)/\(([a,b].take i).flatten).length<=1000*i) Ω ⟨ak,ai,Ω,aj,Ξ⟩ ?_ ?_
  .rintro i v4 A ao hi ⟨p,q,ap,B,aG⟩ aq;simp only[aR,al];refine⟨λ_=>?_,λh=>Ω⟩;obtain⟨v,l,ad,O,L,ae⟩:=key i hi;rw[e8 (b:=g) (o:=0) dz.u an.i hi (λ_=>rfl),ax Ψ ((z.ext p).cell (o:=0+i*1) (by rw[<-ad];congr 1;omega))];refine jl an.u ah.i rfl B (L.ext (s.trans p)) Ω Ω λaH au aJ aK aw ay=>?_;simp only[aN];have aL:=p.size;have e:([a,b].take (i+1)).flatten=([a,b].take i).flatten++l:=by rw[u9,O];simp
   refine aq _ _ ⟨p.then ay (by rintro r aM rfl;omega),au,Ω,by rw[e];exact aw,by rw[e,r9];omega⟩
  .rintro v4 A ao ⟨p,q,ap,B,_⟩;simp only[aR,al];refine⟨λh=>Ω,λ_=>U _ _ q (s.trans p) Ω ?_⟩;have e:([a,b].take 2).flatten=a++b:=Ξ
   rw[e]at B;exact B
def pB(s1 a f e vars:Λ):Prop:=∀p∈vars,p∈a->p∈e->hY s1 (gM a p)=hY f (gM e p)
def du(s1 a e f vars:Λ):Λ:=vars.map λp=>max (hY s1 (gM a p)) (hY e (gM f p))
theorem CT(s1 a e f vars:Λ):(du s1 a e f vars).length=vars.length:=by simp[du]
theorem tC{x:Int}:0<=gM l x↔x∈l:=by
 unfold gM;by_cases h:x∈l
 .rw[if_pos h];exact⟨λ_=>h,λ_=>Ω⟩
 .rw[if_neg h];exact⟨λh=>Ω,λa=>absurd a h⟩
theorem NB{g ay W aB:Nat}{E X:x1}{s1 f vars e:Λ}{aC:Int}{aD aE:Λ}(h1:df w g ay sv s1 k aD)(Y:df w W aB E f aC aE)(ad:aI .i64 w X vars)(aF:aI .i64 w bh a)(G:aI .i64 w bv e)(aG:gL a)(aH:gL e)(bc:vars.length<=1000):
  am x7 IP [X,Γ g,bh,Γ W,bv] w λv w'=>Ext w w'/\
   (¬pB s1 a f e vars->v= .tuple #[.slice ν 0 0,.bool false])/\
   (pB s1 a f e vars->∃x ao,v= .tuple #[x,.bool true]/\w.heap.size<=ao/\av .i64 ah w' ao x (du s1 a f e vars)):=by
 have sub:∀{w:x3}{g:Nat}{sv:x1}{k:Int}{a6:x1},af w g cV [sv,Δ k,a6]->w.rangeAt g (0+0) [sv]:=λG=>nP G (by
  intro j v ad
  match j,ad with
  |0,ad=>exact ad)
 refine az func249 ?_;rw[aX an.u ad];refine jN an.u ah.i Ω Ω λgz V bd Z aK=>?_;have aL:av .i64 ah V gz (.slice (σ ⟨gz,0,ν⟩) vars.length vars.length) (p8 vars.length 0):=av.of (n:=vars.length) (bV.full aK Ξ (by simp[maxLen];omega));generalize (x1.slice (σ ⟨gz,0,ν⟩) vars.length vars.length)=aM at*;rw[aX an.u (ad.ext Z)];have H:=CT s1 a f e vars;refine nr.range vars.length (λi _ _ aa=>Ext w aa/\av .i64 ah aa gz aM (upto (du s1 a f e vars) 0 i)/\∀(j:Nat)(p:Int),j<i->vars[j]?=σ p->p∈a->p∈e->hY s1 (gM a p)=hY f (gM e p)) Ω
  ⟨Z,by rw[qy,H];exact aL,λj p A=>Ω⟩ ?_ ?_
 .rintro i _ _ aa aO hi ⟨q,hm,I⟩ aP;simp only[aR,al];refine⟨λ_=>?_,λh=>Ω⟩;obtain⟨p,s⟩:=aJ (l:=vars) hi;rw[bg an.u ah.i Ψ (ad.ext q) s];refine(tw (aF.ext q) aG).mono ?_;rintro _ be _ ⟨rfl,J⟩;refine(tw (G.ext (q.trans J)) aH).mono ?_;rintro _ aQ _ ⟨rfl,ab⟩;have ac:=(q.trans J).trans ab;refine aV (λv ae=>Ext aQ ae/\∃c,v= .bool c/\(c=true↔p∈a/\p∈e/\hY s1 (gM a p)≠hY f (gM e p))) ?_ ?_
  .rintro _ ae ⟨ai,c,rfl,aj⟩;have ak:=ac.trans ai;rw[b2];refine⟨λaS=>⟨ak,λ_=>by first|rfl|trivial,λA=>?_⟩,λag=>?_⟩
   .obtain⟨y,z,aT⟩:=aj.1 aS;exact absurd (A p (x5 s) y z) aT
   .simp only[ej];intro bf ap _ _;have K:=ak.trans ap;obtain⟨⟨a6,gs,L,M,_⟩,_⟩:=h1.ext K;obtain⟨⟨aW,aY,N,O,_⟩,_⟩:=Y.ext K;rw[bU,aU cV.p rfl,bP (cs:=[sv]) bB.p bB.i rfl (sub L),bU,aU cV.p rfl,bP (cs:=[E]) bB.p bB.i rfl (sub N)];refine(qH M.ls).mono ?_;rintro _ bi _ ⟨rfl,B⟩;refine⟨.inl B,?_⟩;refine(qH (O.ls.ext B)).mono ?_;rintro _ bj _ ⟨rfl,aq⟩;have aZ:=(K.trans B).trans aq;have au:=hm.ext ((((J.trans ab).trans ai).trans ap).trans (B.trans aq));have bk:(upto (du s1 a f e vars) 0 i).length=vars.length:=by rw[qx,H]
    rw[vy,hy rfl an.u ah.i au Ω];refine hz ah.i au Ω λbl a1 _ aw=>?_;simp only[aN];have a2:(du s1 a f e vars)[i]?=σ (max (hY s1 (gM a p)) (hY f (gM e p))):=by
     unfold du;rw[x8,s];rfl
    rw[qA a2]at aw;refine aP _ _ _ ⟨aZ.then a1 (by rintro r bm rfl;omega),aw,λj a7 A P y z=>?_⟩;by_cases a8:j=i
    .subst a8;rw[s]at P;cases P;refine Decidable.byContradiction λba=>?_;have:=aj.2 ⟨y,z,ba⟩;rw[ag]at this;cases this
    .exact I j a7 Ω P y z
  .intro aA Q;simp only[ej,cM,al];intro bn C _ _;refine⟨λR=>⟨λS=>?_,λS=>⟨.inl (Ext.refl _),Q _ _ ⟨C,false,rfl,⟨(λh=>by cases h),λh=>absurd (tC.2 h.2.1) S⟩⟩⟩⟩,λR=>⟨.inl (Ext.refl _),Q _ _ ⟨C,false,rfl,⟨(λh=>by cases h),λh=>absurd (tC.2 h.1) R⟩⟩⟩⟩;have ax:=ac.trans C;obtain⟨⟨a6,gs,L,M,_⟩,_⟩:=h1.ext ax;obtain⟨⟨aW,aY,N,O,_⟩,_⟩:=Y.ext ax;rw[bU,aU cV.p rfl,bP (cs:=[sv]) bB.p bB.i rfl (sub L),bU,aU cV.p rfl,bP (cs:=[E]) bB.p bB.i rfl (sub N)];refine(qH M.ls).mono ?_;rintro _ bo _ ⟨rfl,U⟩;refine⟨.inl U,?_⟩;refine(qH (O.ls.ext U)).mono ?_;rintro _ bp _ ⟨rfl,bb⟩;simp only[bC];refine Q _ _ ⟨(C.trans U).trans bb,_,rfl,?_⟩;rw[decide_eq_true_iff];exact⟨λh=>⟨tC.1 R,tC.1 S,h⟩,λh=>h.2.2⟩
 .rintro _ _ aa aO ⟨q,hm,I⟩;simp only[aR,al];refine⟨λh=>Ω,λ_=>?_⟩;have A:pB s1 a f e vars:=λp s y z=>by
   obtain⟨i,hi,he⟩:=List.getElem_of_mem s;exact I i p hi (by rw[x6 hi,he]) y z
  rw[<-H,qz]at hm;exact⟨q,λh=>absurd A h,λ_=>⟨_,gz,rfl,Ω,hm⟩⟩
def wL(a e vars:Λ):Prop:=gL vars/\∀x,x∈vars↔x∈a\/x∈e
def n4(s1 h a e p f vars:Λ)(k:Int):Λ:=
 (X0 (aO (du s1 a e f vars)).toNat).map λ(q:Nat)=>min (bt s1 h (e4 (cQ (du s1 a e f vars) q) vars a)+bt e p (e4 (cQ (du s1 a e f vars) q) vars f)) k
theorem CU(s1 h a e p f vars:Λ)(k:Int):(n4 s1 h a e p f vars k).length=(aO (du s1 a e f vars)).toNat:=by simp[n4]
theorem tD{s cs:Λ}(hk:right k)(h:∀x∈cs,cq x k):cq (bt s cs t) k:=by
 have a:cq 0 k:=⟨hk,Int.le_refl _,by have:=hk.1;omega⟩;unfold bt;split
 .rename_i n _;rw[u4];cases e:cs[n.toNat]? with
  |none=>exact a
  |some x=>exact h x (x5 e)
 .exact a
def Fits(s l:Λ):Prop:=l.length=s.length/\qX l
def q0(e:Int):x1:=.tuple #[.pointer ν,.slice ν 0 0,Δ e]
def CV(w:x3)(s1 r a f s e:Λ)(k h:Int)(v:x1)(w':x3):Prop:=
 Ext w w'/\(¬(Fits s1 a/\Fits f e)->v=q0 1)/\
  (Fits s1 a/\Fits f e->∃vars,wL a e vars/\(¬pB s1 a f e vars->v=q0 1)/\(pB s1 a f e vars->(k≠h->v=q0 3)/\
   (k=h->¬b3 (du s1 a f e vars)->v=q0 1)/\(k=h->b3 (du s1 a f e vars)->4096<aO (du s1 a f e vars)->v=q0 5)/\
   (k=h->b3 (du s1 a f e vars)->aO (du s1 a f e vars)<=4096->∃p x y q,v= .tuple #[Γ p,q,Δ 0]/\
    df w' p x y (du s1 a f e vars) k (n4 s1 r a f s e vars k)/\aI .i64 w' q vars)))
theorem NC{g bM ga bN:Nat}{bO:x1}{s1 z f y:Λ}{aT:Int}{E G:Λ}(h1:df w g bM sv s1 k E)(aw:df w ga bN bO z aT G)(az:aI .i64 w bh f)(P:aI .i64 w bv y)(hk:right k)(cz:∀x∈E,cq x k)(cA:∀x∈G,cq x aT):
  am x7 Ig [Γ g,bh,Γ ga,bv] w (CV w s1 E f z G y k aT):=by
 have cB:=az.cells;have cC:=P.cells;have cD:=h1.2.2.1;have cE:=aw.2.2.1;have sub:∀{w:x3}{g:Nat}{sv:x1}{k:Int}{a6:x1},af w g cV [sv,Δ k,a6]->w.rangeAt g (0+0) [sv]:=λP=>nP P (by
  intro j v ad
  match j,ad with
  |0,ad=>exact ad)
 refine hr func196 ?_;refine bf λg1 V dN bQ H=>?_;refine bf λbS aa dO bj I=>?_;refine bf λbT dP dQ aW K=>?_;refine bf λbV Y dR aC L=>?_;have dS:=H.lt;have dT:=I.lt;have dU:=K.lt;have dV:=L.lt;have dW:=bQ.size;have dX:=bj.size;have dY:=aW.size;have dZ:=aC.size;have Z:=((bQ.trans bj).trans aW).trans aC;have H:af Y g1 eO [Γ g]:=((H.ext bj).ext aW).ext aC;have I:af Y bS an [bh]:=by rw[cB.1]at I;exact(I.ext aW).ext aC
 have K:af Y bT eO [Γ ga]:=K.ext aC;have L:af Y bV an [bv]:=by rw[cC.1]at L;exact L
 refine aV (λv bW=>v= .bool false/\Y=bW) ?_ ?_
 rotate_left
 .intro aA aX;rw[ax Ψ (H.cell (o:=0) rfl),de eO.u];simp only[Z5,a1];rw[ax Ψ (K.cell (o:=0) rfl),de eO.u];exact aX _ _ ⟨rfl,rfl⟩
 rintro _ _ ⟨rfl,rfl⟩;simp only[a1];refine aV (λv bk=>Ext Y bk/\∃c,v= .bool c/\(c=true↔¬(Fits s1 f/\Fits z y))) ?_ ?_
 rotate_left
 .intro aA aX;rw[ax Ψ (H.cell (o:=0) rfl),ax Ψ (I.cell (o:=0) rfl)];refine(CM (h1.ext Z) (az.ext Z)).mono ?_;rintro _ bW _ ⟨ac,c,rfl,aD⟩;simp only[bH,b2];refine⟨λaZ=>aX _ _ ⟨ac,true,rfl,λ_ h=>?_,λ_=>rfl⟩,λag=>?_⟩
  .have:=aD.2 h.1;rw[this]at aZ;cases aZ
  .have cF:c=true:=by cases c<;>simp_all
   rw[ax Ψ ((K.ext ac).cell (o:=0) rfl),ax Ψ ((L.ext ac).cell (o:=0) rfl)];refine(CM ((aw.ext Z).ext ac) ((P.ext Z).ext ac)).mono ?_;rintro _ ea _ ⟨cG,d,rfl,bX⟩;simp only[bH];refine aX _ _ ⟨ac.trans cG,_,rfl,λh aB=>?_,λh=>?_⟩
   .have:=bX.2 aB.2;rw[this]at h;cases h
   .cases d with
    |false=>rfl
    |true=>exact absurd ⟨aD.1 cF,bX.1 rfl⟩ h
 rintro _ bk ⟨aE,c,rfl,aD⟩;have bo:=Z.trans aE;rw[b2];refine⟨λaZ eb cH _=>⟨bo.trans cH,λ_=>rfl,λh=>absurd h (aD.1 aZ)⟩,λag=>?_⟩;have aF:Fits s1 f/\Fits z y:=Classical.byContradiction λh=>by
  have:=aD.2 h;rw[ag]at this;cases this
 obtain⟨⟨ec,cI⟩,ed,cJ⟩:=id aF;have ee:=cD.1;have ef:=cE.1;rw[ax Ψ ((I.ext aE).cell (o:=0) rfl),ax Ψ ((L.ext aE).cell (o:=0) rfl)];refine NA (az.ext bo) (P.ext bo) Ω Ω λeg eh ei bY ej cK=>?_;refine wE cK.ls (by rw[r9];omega) λek em en m bZ eo b0 cL cM=>?_;have cN:=b0.length_eq;rw[r9]at cN;refine(Ny cM Ω).mono ?_;rintro a2 b1 _ ⟨cO,bp⟩;have ep:=aE.size;have er:=bY.size;have es:=bZ.size;have b4:Ext bk b1:=(bY.trans bZ).then cO (by rintro r a7 rfl;omega);obtain⟨cP,cR⟩:=CL cL (j:=m.length) (o4 _);have et:=CK m m.length;have M:wL f y (dedup m m.length):=⟨cP,λx=>by rw[cR,o7,b0.mem_iff,o5]⟩;generalize dedup m m.length=vars at*;refine bx an.i λaY eu ev b5 cS=>?_;refine bl an.i bp.ls.cells.1 bp.ls.cells.2 cS (by simp[x1.cells]) λb6 cT ew aG=>?_;have ey:=b4.size;have ez:=b5.size;have bq:Ext b1 b6:=b5.then cT (by rintro r a7 rfl;omega);have ae:=(aE.trans b4).trans bq;have aH:=Z.trans ae;have ds:=aG.lt;have b7:=bp.ls.ext bq;have aG:af b6 aY an [a2]:=aG;rw[ax Ψ (aG.cell (o:=0) rfl),ax Ψ ((H.ext ae).cell (o:=0) rfl),ax Ψ ((I.ext ae).cell (o:=0) rfl),ax Ψ ((K.ext ae).cell (o:=0) rfl),ax Ψ ((L.ext ae).cell (o:=0) rfl)];refine(NB (h1.ext aH) (aw.ext aH) b7 (az.ext aH) (P.ext aH) cI.up cJ.up Ω).mono ?_;rintro eA eB _ ⟨aJ,cU,cW⟩;have b8:=aH.trans aJ;by_cases aj:pB s1 f z y vars
 rotate_left
 .rw[cU aj,bm,bn];simp only[bH,W7,bR];intro eC cX _;exact⟨b8.trans cX,λh=>absurd aF h,λ_=>⟨vars,M,λ_=>rfl,λh=>absurd h aj⟩⟩
 obtain⟨xs,ao,rfl,eD,cY⟩:=cW aj;rw[bm,bn];simp only[bH,X1,a1];intro Q ak _ _;have a8:=(ae.trans aJ).trans ak;have ap:=b8.trans ak;have H:=H.ext a8;have I:=I.ext a8;have K:=K.ext a8;have L:=L.ext a8;have cZ:=(aG.ext aJ).ext ak;obtain⟨⟨a6,gs,b9,eE,_⟩,_⟩:=h1.ext ap;obtain⟨⟨eF,eH,c0,eI,_⟩,_⟩:=aw.ext ap;rw[ax Ψ (H.cell (o:=0) rfl),aS cV.p 1 b9 rfl,ax Ψ (K.cell (o:=0) rfl),aS cV.p 1 c0 rfl];simp only[bC,al];refine⟨λR eJ c1 _=>⟨ap.trans c1,λh=>absurd aF h,λ_=>⟨vars,M,λh=>absurd aj h,λ_=>⟨λ_=>rfl,λh=>absurd h R,λh=>absurd h R,λh=>absurd h R⟩⟩⟩,λR=>?_⟩;have R:k=aT:=Z9.1 R;subst R;rw[ax Ψ (H.cell (o:=0) rfl),aS cV.p 1 b9 rfl];have c2:=cY.ext ak;refine(vF c2.ls).mono ?_;rintro aK aL _ ⟨ca,c3,c4,_,c5⟩;have eK:=bq.size;have eL:=aJ.size;have eM:=ak.size;have eN:=ca.size;obtain⟨aM,e,rfl,eP,ba⟩:∃(aM:Option Addr)(e:Int),aK= .tuple #[.pointer aM,Δ e]/\(e=0->aM≠ν)/\((e=1/\¬b3 (du s1 f z y vars))\/(e=5/\b3 (du s1 f z y vars)/\4096<aO (du s1 f z y vars))\/(e=0/\b3 (du s1 f z y vars)/\aO (du s1 f z y vars)<=4096/\
   ∃B A C,aM=σ ⟨B,0,ν⟩/\Q.heap.size<=B/\Q.heap.size<=A/\(∀r,leads C r->Q.heap.size<=r)/\df aL B A C (du s1 f z y vars) k (p8 (aO (du s1 f z y vars)).toNat 0))):=by
  by_cases U:b3 (du s1 f z y vars)
  .by_cases O:aO (du s1 f z y vars)<=4096
   .obtain⟨B,A,C,c6,c7,c8,c9,da⟩:=c5 U O ⟨hk,Ω,by have:=hk.1;omega⟩;exact⟨_,_,c6,(λ_ h=>by cases h),.inr (.inr ⟨rfl,U,O,B,A,C,rfl,c7,c8,c9,da⟩)⟩
   .exact⟨_,_,c4 U Ω,(λh=>Ω),.inr (.inl ⟨rfl,U,Ω⟩)⟩
  .exact⟨_,_,c3 U,(λh=>Ω),.inl ⟨rfl,U⟩⟩
 rw[bm,bn];refine bx eO.i λcb eQ eR cc aN=>?_;refine bl eO.i rfl rfl aN (by simp[x1.cells]) λdb dc eS aN=>?_;have eU:=cc.size;have br:Ext aL db:=cc.then dc (by rintro r a7 rfl;omega);have cd:=ca.trans br;have dd:=ap.trans cd;have eV:=aN.lt;simp only[bC,al];refine⟨λdg eW dh _=>⟨dd.trans dh,λh=>absurd aF h,λ_=>⟨vars,M,λh=>absurd aj h,λ_=>⟨λh=>absurd rfl h,λ_ U=>?_,λ_ U O=>?_,λ_ U O=>?_⟩⟩⟩,λeX=>?_⟩
 .rcases ba with⟨rfl,_⟩|⟨_,h,_⟩|⟨_,h,_⟩
  .rfl
  .exact absurd h U
  .exact absurd h U
 .rcases ba with⟨_,h⟩|⟨rfl,_⟩|⟨_,_,h,_⟩
  .exact absurd U h
  .rfl
  .omega
 .rcases ba with⟨_,h⟩|⟨_,_,h⟩|⟨h,_⟩
  .exact absurd U h
  .omega
  .exact absurd h dg
 obtain⟨bb,di,B,A,C,rfl,eY,eZ,e0,bc⟩:b3 (du s1 f z y vars)/\aO (du s1 f z y vars)<=4096/\
   ∃B A C,aM=σ ⟨B,0,ν⟩/\Q.heap.size<=B/\Q.heap.size<=A/\(∀r,leads C r->Q.heap.size<=r)/\df aL B A C (du s1 f z y vars) k (p8 (aO (du s1 f z y vars)).toNat 0):=by
  rcases ba with⟨h,_⟩|⟨h,_⟩|⟨_,h⟩
  .omega
  .omega
  .exact h
 obtain rfl:e=0:=Ω
 have dj:(du s1 f z y vars).length=vars.length:=CT _ _ _ _ _;have e1:=prod_bound bb;obtain⟨N,bd⟩:∃N:Nat,(aO (du s1 f z y vars)).toNat=N:=⟨_,rfl⟩;rw[bd]at bc;have e2:0<N:=Ω
 have dk:=bc.ext br;obtain⟨⟨bw,ce,cg,ch,dl⟩,⟨ci,cj,_⟩,_,e3⟩:=id dk;have e5:B<aL.heap.size:=by obtain⟨⟨_,_,q,_⟩,_⟩:=id bc;exact q.lt
 have e6:A<aL.heap.size:=by obtain⟨⟨_,_,_,_,q⟩,_⟩:=id bc;exact tq q Θ
 rw[ax Ψ (aN.cell (o:=0) rfl),bU,aU cV.p rfl,bP (cs:=[C]) bB.p bB.i rfl (sub cg)];refine wc.mono ?_;rintro _ aP _ ⟨W,be,rfl,e7,ck⟩;have e8:=br.size;have e9:=W.size;let S:Nat->Prop:=λr=>r=A;let aq:=n4 s1 E f z G y vars k;have bz:aq.length=N:=by simp only[aq];rw[CU,bd]
 have dm:=(b7.ext aJ).ext ak;let dn:x3->Prop:=λw'=>af w' g1 eO [Γ g]/\af w' bS an [bh]/\af w' bT eO [Γ ga]/\af w' bV an [bv]/\af w' aY an [a2]/\aI .i64 w' a2 vars/\
  af w' cb eO [Γ B]/\af w' B cV [C,Δ k,bw]/\df w' g bM sv s1 k E/\df w' ga bN bO z k G/\aI .i64 w' bh f/\aI .i64 w' bv y/\av .i64 ah w' ce C (du s1 f z y vars)/\af w' be bB [C]/\aP.heap.size<=w'.heap.size
 have cl:=cd.trans W;have aQ:∀{a:x3},ai S aP a->dn a:=by
  intro a J;have X:Ext Q a:=cl.put J Ω;have bg:=ap.trans X;exact⟨H.ext X,I.ext X,K.ext X,L.ext X,cZ.ext X,dm.ext X,(aN.ext W).ab J (by show¬(cb=A);omega),(cg.ext W).ab J (by show¬(B=A);exact ci),h1.ext bg,aw.ext bg,az.ext bg,P.ext bg,
   bu (ch.ext W) J (λr a7 he=>cj ((show r=A from he)▸a7)),ck.ab J (by show¬(be=A);omega),J.size⟩
 have cm:=wb (g:=be) (B0:=aP.heap.size) (sv:=C) bb;rw[bd]at cm;refine oL.old ⟨Nat,false,lU,#[Γ be],0,_,_,_,λq w'=>ai S aP w'/\av .i64 au w' A bw (upto aq 0 q),λ_ _ _=>False,rfl,cm.s,
  ?_,λ_ _ J h=>⟨h.1.ext J,h.2.1.ext J,Y8 h.2.2 J.size⟩,λ_ _ _ J h=>⟨h.1.trans (J.ab S),h.2.ext J⟩,λ_ _ _ _ _ h=>h,⟨ck,(ch.ext W).ls,o4 _⟩,⟨ai.refl _ _,?_⟩,?_,?_,λ_ _ h=>h.elim,λ_ _ _ h=>h.elim⟩
 .rintro _ _ _ _ ⟨_,_,_,_,rfl,_⟩;rfl
 .rw[qy,bz];exact dl.ext W
 .rintro _ aK q _ fa ⟨_,_,fb⟩ ⟨bA,rfl,fc,gt,dp,fd,cn⟩ ⟨bi,dq⟩;cases dp;let x:=cQ (du s1 f z y vars) (q:Int);have cp:x.length=vars.length:=by simp only[x];rw[jp,dj]
  intro fe dr _ _;intro ff dt _ _;have bD:=dr.trans dt;obtain⟨f1,f2,f3,f4,f5,f6,f7,f8,f9,f10,f11,f12,f13,f14,f15⟩:=aQ (bi.trans (bD.ab S));rw[ax Ψ (f1.cell (o:=0) rfl),ax Ψ (f5.cell (o:=0) rfl),ax Ψ (f2.cell (o:=0) rfl)];refine(CN (cn.ls.ext bD) f6 f11 M.1 (λp O=>(M.2 p).2 (.inl O)) cp Ω).mono ?_;rintro fg fh _ ⟨bE,fi,fj,dv⟩;refine⟨.inl bE,?_⟩;refine(vG (f9.ext bE) dv.ls).mono ?_;rintro _ fk _ ⟨rfl,dw⟩;obtain⟨dx,dy⟩:=wD s1 (e4 x vars f) E;have dz:o2 s1 (e4 (cQ (du s1 f z y vars) (q:Int)) vars f) E= .tuple #[Δ (bt s1 E (e4 x vars f)),Δ dx]:=dy;rw[dz,bm,bn];intro fm dA _ _;have bF:=((bD.trans bE).trans dw).trans dA;obtain⟨f1,f2,f3,f4,f5,f6,f7,f8,f9,f10,f11,f12,f13,f14,f15⟩:=aQ (bi.trans (bF.ab S));rw[ax Ψ (f3.cell (o:=0) rfl),ax Ψ (f5.cell (o:=0) rfl),ax Ψ (f4.cell (o:=0) rfl)];refine(CN (cn.ls.ext bF) f6 f12 M.1 (λp O=>(M.2 p).2 (.inr O)) cp Ω).mono ?_;rintro fo fp _ ⟨bG,fq,fs,dC⟩;refine⟨.inl bG,?_⟩;refine(vG (f10.ext bG) dC.ls).mono ?_;rintro _ ft _ ⟨rfl,dD⟩;obtain⟨dE,dF⟩:=wD z (e4 x vars y) G;have dG:o2 z (e4 (cQ (du s1 f z y vars) (q:Int)) vars y) G= .tuple #[Δ (bt z G (e4 x vars y)),Δ dE]:=dF;rw[dG,bm,bn];intro fu dH _ _;have bI:=((bF.trans bG).trans dD).trans dH;obtain⟨f1,f2,f3,f4,f5,f6,f7,f8,f9,f10,f11,f12,f13,f14,f15⟩:=aQ (bi.trans (bI.ab S));rw[ax Ψ (f7.cell (o:=0) rfl),aS cV.p 2 f8 rfl,ax Ψ (f7.cell (o:=0) rfl),aS cV.p 1 f8 rfl];refine wa.mono ?_;rintro _ fv _ ⟨rfl,bJ⟩;refine⟨.inl bJ,?_⟩;have dI:nY (bt s1 E (e4 x vars f)) (bt z G (e4 x vars y)) k= .tuple #[Δ (min (bt s1 E (e4 x vars f)+bt z G (e4 x vars y)) k),Δ 0]:=if_pos ⟨tD hk cz,tD hk cA⟩;rw[dI,iK (v:=Δ (min (bt s1 E (e4 x vars f)+bt z G (e4 x vars y)) k)) rfl,iK (v:=Δ 0) rfl];have cr:=dq.ext (bI.trans bJ);have fw:(upto aq 0 q).length=N:=by rw[qx,bz]
  rw[hy rfl ay.u au.i cr Ω];refine hz au.i cr Ω λdJ dK fx ct=>?_;have cu:ai S aP dJ:=(bi.trans ((bI.trans bJ).ab S)).trans (dK.mono λr _ h=>h);obtain⟨f1,f2,f3,f4,f5,f6,f7,f8,f9,f10,f11,f12,f13,f14,f15⟩:=aQ cu;have dL:aq[q]?=σ (min (bt s1 E (e4 x vars f)+bt z G (e4 x vars y)) k):=by
   simp only[aq,n4];rw[x8,List.getElem?_range (by rw[bd];exact bA)];rfl
  rw[qA dL]at ct;exact⟨⟨f14,f13.ls,f15⟩,⟨cu,ct⟩,λh=>by cases h⟩
 .rintro q fy bA ⟨cw,bK⟩;rw[show q=N from bA]at bK;intro fz bL _ _;obtain⟨f1,f2,f3,f4,f5,f6,f7,f8,f9,f10,f11,f12,f13,f14,f15⟩:=aQ (cw.trans (bL.ab S));rw[ax Ψ (f7.cell (o:=0) rfl),ax Ψ (f5.cell (o:=0) rfl)];intro fA aR _;rw[<-bz,qz]at bK;have dM:=ap.trans cl;refine⟨((dM.put cw Ω).trans bL).trans aR,λh=>absurd aF h,λ_=>⟨vars,M,λh=>absurd aj h,λ_=>⟨λh=>absurd rfl h,λ_ h=>absurd bb h,λ_ _ h=>Ω,λ_ _ _=>⟨B,A,C,a2,rfl,⟨⟨bw,ce,f8.ext aR,f13.ext aR,(bK.ext bL).ext aR⟩,⟨ci,cj,di⟩,bb,CU _ _ _ _ _ _ _ _⟩,f6.ext aR⟩⟩⟩⟩
theorem gL.pair(h:gL l):l.Pairwise (·< ·):=V6.2 λi j hi a e=>h i j _ _ e (x6 hi) (x6 a)
theorem ND{m:Λ}(e:gL l)(hm:gL m)(h:∀x,x∈l↔x∈m):l=m:=by
 have f:l.Nodup:=e.pair.imp λh=>Ω
 have p:m.Nodup:=hm.pair.imp λh=>Ω
 exact List.Perm.eq_of_pairwise (le:=(·<= ·)) (λa b _ _ h1 q=>Int.le_antisymm h1 q) (e.pair.imp λh=>Int.le_of_lt h) (hm.pair.imp λh=>Int.le_of_lt h) ((List.perm_ext_iff_of_nodup f p).2 h)
theorem NE{vars:Λ}(h:wL l l vars)(hu:gL l):vars=l:=ND h.1 hu λx=>by rw[h.2];simp
theorem wM(h:l.Pairwise (·< ·)):gL l:=λi j x y e J f=>by
 have h1:=x4.1 J;have a:=x4.1 f;have:=V6.1 h i j h1.1 a.1 e;rw[h1.2,a.2]at this;exact this
theorem NF{x:Λ}(hu:l.Nodup)(h:x.length=l.length):e4 x l l=x:=by
 refine Y3 λi=>?_;unfold e4;cases a:l[i]? with
 |none=>rw[x8,a,Z2 (by have:=List.getElem?_eq_none_iff.1 a;omega)];rfl
 |some v=>
  have hi:=(x4.1 a).1;rw[x8,a,Z6,qV hu a,u4,x6 (show i<x.length by omega)];rfl
theorem CW{s:Λ}(hu:gL l)(h:s.length=l.length):du s l s l l=s:=by
 refine Y3 λi=>?_;unfold du;cases a:l[i]? with
 |none=>rw[x8,a,Z2 (by have:=List.getElem?_eq_none_iff.1 a;omega)];rfl
 |some v=>
  have hi:=(x4.1 a).1;rw[x8,a,Z6,wH hu a,Int.max_self,x6 (show i<s.length by omega)];unfold hY;rw[if_pos Ω,u4,u7,x6 (show i<s.length by omega)];rfl
theorem NG{s b:Λ}(hu:l.Pairwise (·< ·))(h:s.length=l.length)(U:dQ s)(e:a.length=(aO s).toNat)(f:b.length=(aO s).toNat):n4 s a l s b l l k=dV k a b:=by
 have p:l.Nodup:=hu.imp λh=>Ω
 unfold n4;rw[CW (wM hu) h,Mr U e f];apply List.map_congr_left;intro q _;rw[NF p (by rw[jp,h])]
theorem NH{s b:Λ}(hu:l.Pairwise (·< ·))(C:∀x∈l,0<=x)(h:s.length=l.length)(U:b3 s)(E:aO s<=4096)(F:a.length=(aO s).toNat)(G:b.length=(aO s).toNat)(f:CV w s a l s b l k k v w'):
  Ext w w'/\∃e q r y,v= .tuple #[Γ e,y,Δ 0]/\df w' e q r s k (dV k a b):=by
 obtain⟨J,_,f⟩:=f;have z:=wM hu;have A:Fits s l:=⟨h.symm,M5 z C⟩;obtain⟨vars,ad,_,H⟩:=f ⟨A,A⟩;have I:=NE ad z;subst I;obtain⟨_,_,_,B⟩:=H λp L M N=>rfl;rw[CW z h,NG hu h U.2 F G]at B;obtain⟨e,q,r,y,rfl,K,_⟩:=B rfl U E;exact⟨J,e,q,r,y,rfl,K⟩
theorem NI{s:Λ}(U:dQ s):(bp s).Nodup:=(CD U).imp λ{a b}h he=>by subst he;omega
theorem NJ{s:Λ}{i:Nat}(U:dQ s)(hi:(bp s)[i]?=σ t)(a:(bp s)[j]?=σ t):i=j:=kz (NI U) hi a
theorem NK{s:Λ}(U:dQ s)(h:dk s t):∃j:Nat,(bp s)[j]?=σ t:=X3.1 ((CC U).2 h)
theorem tE{g m:Nat}{d:List (x1×x1)}(h:af w g e cs)(hm:c4 w m d)(a:ai (λr=>r=m) w w'):af w' g e cs:=h.ab a (λhe=>tr h hm he)
theorem CX{g m:Nat}{k:o6}{d:List (x1×x1)}(h:av k e w g v l)(hm:c4 w m d)(a:ai (λr=>r=m) w w'):av k e w' g v l:=bu h a (λ_ f he=>CF h hm f he)
def tF(cs:Λ)(o:Int):Prop:=o∈cs/\∀d∈cs,cs.count d<cs.count o\/(cs.count d=cs.count o/\o<=d)
theorem NL{i:Nat}{x:Int}(h:l[i]?=σ x)(y:Int):(l.take (i+1)).count y=(l.take i).count y+if y=x then 1 else 0:=by
 rw[u9,h,List.count_append];congr 1;simp only[j5,List.count_singleton];by_cases a:y=x
 .subst a;simp
 .rw[if_neg a,if_neg (by simpa using λh=>a h.symm)]
def gN(p:Int×Int):x1×x1:=(Δ p.1,Δ p.2)
theorem q1:Keys x7 au λv=>∃n,v=Δ n:=Keys.int au.u
theorem q2(E:List (Int×Int)):∀p∈E.map gN,∃n,p.1=Δ n:=λp a=>by
 obtain⟨q,_,rfl⟩:=j4.1 a;exact⟨_,rfl⟩
def wN(cs:Λ)(E:List (Int×Int)):Prop:=(∀x,x∈E.map (·.1)↔x∈cs)/\∀p∈E,p.2=(cs.count p.1:Nat)
theorem CY{cs:Λ}{E:List (Int×Int)}(h:wN cs E){x:Int}(J:x∈cs):∃j:Nat,E[j]?=σ (x,((cs.count x:Nat):Int)):=by
 obtain⟨p,a,rfl⟩:=j4.1 ((h.1 x).2 J);obtain⟨j,e⟩:=X3.1 a;exact⟨j,by rw[e,<-h.2 p a]⟩
theorem CZ{ds:x1}{cs:Λ}(h:aI .i64 w ds cs)(aq:cs≠[])(bf:cs.length<=1000000):am x7 sm [ds] w λv w'=>Ext w w'/\∃o,v=Δ o/\tF cs o:=by
 refine az func256 ?_;refine aD.ct (s7 λm V hm U aL bh=>?_);rw[aX ay.u (h.ext U)];refine ck.range cs.length (λi aa=>ai (λr=>r=m) V aa/\∃E,c4 aa m (E.map gN)/\wN (cs.take i) E) Ω ⟨ai.refl _ _,[],aL,by simp[wN]⟩ ?_ ?_
 .rintro i aa aM hi ⟨G,E,A,f⟩ av;obtain⟨x,W⟩:=aJ (l:=cs) hi;have H:Ext w aa:=U.put G Ω;have aO:∀y,(cs.take i).count y<=1000000:=λy=>by
   have:=List.count_le_length (a:=y) (l:=cs.take i);rw[n9]at this;omega
  refine bM Ω ?_;rw[bg ay.u au.i Ψ (h.ext H) W];have O:=NL W;have aw:∀y,y∈cs.take (i+1)↔y∈cs.take i\/y=x:=λy=>by
   rw[u9,W];simp
  by_cases I:x∈cs.take i
  .obtain⟨j,X⟩:=CY f I;have P:(E.map gN)[j]?=σ (Δ x,Δ (((cs.take i).count x:Nat):Int)):=by rw[x8,X];rfl
   rw[qI lZ.u q1 A (q2 E) ⟨_,rfl⟩ P];simp only[Bool.false_eq_true,if_false];have:=aO x;rw[aN,wrap_i64 Ω Ω];refine aD.ct (qJ lZ.u q1 A (q2 E) ⟨_,rfl⟩ (λJ v0 Y Z L ab aP=>?_) (λY Q=>absurd rfl (Q _ (x5 P))));have aQ:J=j:=A.uniq Z P rfl;subst aQ;rw[aN];have ad:(E.map gN).set J (Δ x,Δ ((((cs.take i).count x:Nat):Int)+1))=(E.set J (x,(((cs.take i).count x:Nat):Int)+1)).map gN:=by rw[U4];rfl
   rw[ad]at L;have aS:=(x4.1 X).1;refine av _ ⟨G.trans ab,_,L,λy=>?_,λp e=>?_⟩
   .rw[U4,qB (by rw[x8,X];rfl),f.1,aw];exact⟨.inl,λh=>h.elim id (λh=>h▸I)⟩
   .obtain⟨q,s⟩:=X3.1 e;by_cases ae:J=q
    .subst ae;rw[b8 aS]at s;cases s;show _=(((cs.take (i+1)).count x:Nat):Int);rw[O,if_pos rfl];omega
    .rw[Y2 ae]at s;have af:p.1≠x:=λhe=>ae (A.uniq P (show(E.map gN)[q]?=σ (gN p) by rw[x8,s];rfl) (by rw[gN,he]));rw[f.2 p (x5 s),O,if_neg af,Nat.add_zero]
  .have Q:∀p∈E.map gN,p.1≠V4 .i64 x:=λp e he=>by
    obtain⟨q,s,rfl⟩:=j4.1 e;have:q.1=x:=by simpa[gN]using he
    exact I ((f.1 x).1 (j4.2 ⟨q,s,this⟩))
   rw[s8 lZ.u q1 ⟨_,_,ah.i⟩ A (q2 E) ⟨_,rfl⟩ Q];simp only[Bool.false_eq_true,if_false];rw[aN,wrap_i64 Ω Ω];refine aD.ct (qJ lZ.u q1 A (q2 E) ⟨_,rfl⟩ (λJ v0 Y Z=>absurd rfl (Q _ (x5 Z))) (λY _ L ab aP=>?_));rw[aN];have ad:E.map gN++[(V4 .i64 x,V4 .i64 (0+1))]=(E++[(x,1)]).map gN:=by rw[Z4];rfl
   rw[ad]at L;have aT:(cs.take i).count x=0:=List.count_eq_zero.2 I;refine av _ ⟨G.trans ab,_,L,λy=>?_,λp e=>?_⟩
   .rw[Z4,o5,f.1,aw];simp
   .rcases o5.1 e with e|e
    .have af:p.1≠x:=λhe=>I ((f.1 x).1 (j4.2 ⟨p,e,he⟩));rw[f.2 p e,O,if_neg af,Nat.add_zero]
    .rw[o9.1 e];show(1:Int)=(((cs.take (i+1)).count x:Nat):Int);rw[O,if_pos rfl,aT];rfl
 rintro aa aM ⟨G,E,A,f⟩;rw[o7]at f;have H:Ext w aa:=U.put G Ω;refine cE Ω ?_;refine(KZ (h.ext H) aq).mono ?_;rintro _ aU bi ⟨rfl,ag⟩;have bj:=H.size;have bk:=ag.size;refine aD.ct (BC lZ.u (A.ext ag) λM bl bm aW bn aY bo=>?_);refine⟨λtG C=>∃b B z left ax,tG=Δ b/\b∈cs/\Ext aU C/\hD C M m (E.map gN) left ax/\left=z.map gN/\(B++z).Perm E/\∀p∈B,cs.count p.1<cs.count b\/(cs.count p.1=cs.count b/\b<=p.1),λ_ C=>ps C M,
  ⟨vU cs,[],E,E.map gN,ν,rfl,(KC aq).1,aW,aY,rfl,List.Perm.refl _,λp e=>by cases e⟩,?_⟩
 rintro _ C ⟨b,B,z,left,ax,rfl,aj,ak,aB,rfl,R,an⟩;refine BE aB (λ_=>by show w.heap.size<=M;omega) (λaZ=>?_) (λj p ao e aC bp N=>?_)
 .rw[iK (v:=.bool false) rfl,a1];have:z=[]:=List.map_eq_nil_iff.1 aZ;subst this;rw[W8]at R;refine⟨(H.trans ag).trans ak,b,rfl,aj,λd a2=>?_⟩;obtain⟨q,s,rfl⟩:=j4.1 ((f.1 d).2 a2);exact an q (R.mem_iff.2 s)
 .rw[iK (v:=.bool true) rfl,bR];refine BF N ?_;obtain⟨q,s,rfl⟩:∃q,z[j]?=σ q/\gN q=p:=by
   rw[x8]at e;exact Y7.1 e
  have aE:q∈E:=R.mem_iff.1 (o5.2 (.inr (x5 s)));have bq:=f.2 q aE;have a6:q.1∈cs:=(f.1 q.1).1 (j4.2 ⟨q,aE,rfl⟩);obtain⟨a7,a8⟩:=CY f aj;have ba:(E.map gN)[a7]?=σ (Δ b,Δ ((cs.count b:Nat):Int)):=by rw[x8,a8];rfl
  rw[iK (v:=Δ q.1) rfl,iK (v:=Δ q.2) rfl];have aF:(B++[q]++z.eraseIdx j).Perm E:=by
   refine List.Perm.trans ?_ R;rw[V0];exact List.Perm.append_left B (wj s)
  have aG:ps ao M<ps C M:=by
   rw[tc N,tc aB];have:=BS (x4.1 e).1;omega
  refine aV (λv bb=>ao=bb/\∃r:Bool,v= .bool r/\(r=true↔(cs.count b<cs.count q.1\/(cs.count q.1=cs.count b/\q.1<b)))) ?_ ?_
  .rintro _ _ ⟨rfl,r,rfl,S⟩;rw[b2];refine⟨λbc=>?_,λaH=>?_⟩
   .have S:=S.1 bc;refine⟨⟨q.1,B++[q],z.eraseIdx j,_,_,rfl,a6,ak.trans aC,N,(mS gN z j),aF,λp e=>?_⟩,aG⟩;rcases o5.1 e with e|e
    .have:=an p e;omega
    .rw[o9.1 e];exact .inr ⟨rfl,Int.le_refl _⟩
   .have S:¬(cs.count b<cs.count q.1\/(cs.count q.1=cs.count b/\q.1<b)):=λh=>by rw[S.2 h]at aH;cases aH
    refine⟨⟨b,B++[q],z.eraseIdx j,_,_,rfl,aj,ak.trans aC,N,(mS gN z j),aF,λp e=>?_⟩,aG⟩;rcases o5.1 e with e|e
    .exact an p e
    .rw[o9.1 e];omega
  .intro aA ap;have aK:∀K:x1->Prop,ac x7 (Instr.lookup lZ (.map (σ m)) (Δ b) false) ao K=K (Δ ((cs.count b:Nat):Int)):=λK=>by
    rw[qI lZ.u q1 N.map (q2 E) ⟨_,rfl⟩ ba];simp
   rw[aK,bL,al];refine⟨λh1=>ap _ _ ⟨rfl,true,rfl,⟨λ_=>.inl Ω,λ_=>rfl⟩⟩,λh1=>?_⟩;rw[aK,be,al];refine⟨λbd=>?_,λbd=>ap _ _ ⟨rfl,false,rfl,⟨λh=>(by cases h),λh=>Ω⟩⟩⟩;rw[aR];refine ap _ _ ⟨rfl,_,rfl,?_⟩;rw[decide_eq_true_eq];omega
theorem NM{g p:Nat}{k:o6}{q:p9}(h:av k e w g v l)(s:af w p q cs)(y:e≠q)(x:leads v r):r≠p:=by
 obtain⟨rfl,_⟩:=bQ h x;obtain⟨_,⟨rfl,_⟩|⟨_,_,_,f,_⟩⟩:=h
 .obtain⟨a,n,c,h,_⟩:=x;cases h
 .rintro rfl;unfold af at s f;rw[s]at f;injection f with h1;injection h1 with A z;exact y z.symm
def NN(w:x3)(ak:Λ)(k:Int)(cs:Λ)(v:x1)(w':x3):Prop:=Ext w w'/\∃g m o D,v=Γ g/\eF w' g m ak k o D/\D.length<=(aO ak).toNat/\iq ak (im D o) cs/\tF cs o
theorem NO{g bN:Nat}{cs:Λ}(h:df w g bN sv ak k cs)(aE:∀c∈cs,cq c k):am x7 Il [Γ g] w (NN w ak k cs):=by
 obtain⟨⟨a6,gs,a8,hm,ck⟩,⟨_,_,ba⟩,U,aj⟩:=id h;have cl:=prod_bound U;have cm:=U.1;have bb:cs≠[]:=λhe=>by rw[he]at aj;simp at aj;omega
 refine hr func204 ?_;rw[de eO.u];simp only[Z5,a1];refine(mR h).mono ?_;rintro ds aa _ ⟨N,cn,cp,aF⟩;refine bx ay.i λal cr ct bc bd=>?_;have cu:=bd.lt;refine bl ay.i aF.ls.cells.1 aF.ls.cells.2 bd (by simp[x1.cells]) λan bO cw ao=>?_;have ao:af an al ay [ds]:=ao;have cz:=N.size;have cB:=bc.size;have be:Ext aa an:=bc.put bO Ω;have bf:=aF.ext be;have X:=N.trans be;refine aV (λu ap=>∃a A m o I K,u=Γ a/\Ext an ap/\af ap a eN [Γ A]/\an.heap.size<=m/\fQ ap A m I K ak k o []/\tF cs o) ?_ ?_
 .rintro _ ap ⟨a,A,m,o,I,K,rfl,Y,e,cC,B,E⟩;have bP:=h.ext (X.trans Y);have bQ:=ao.ext Y;have bR:=bf.ext Y;refine(pn bP).mono ?_;rintro _ cD _ ⟨rfl,bS⟩;refine wc.mono ?_;rintro _ aG _ ⟨bT,bh,rfl,cE,bi⟩;have O:=bS.trans bT;have bj:=B.ext O;have bU:=bQ.ext O;have bk:=e.ext O;have bV:=bR.ext O;have bo:=hm.ext ((X.trans Y).trans O);have P:=bj.2.2.1;have bW:=(X.trans Y).trans O;have cF:=X.size;have bX:=wb (g:=bh) (B0:=aG.heap.size) (sv:=sv) U;refine oL.old ⟨Nat,false,lU,#[Γ bh],_,_,_,_,λi w'=>ai (λr=>r=m) aG w'/\∃D,D.length<=i/\fQ w' A m I K ak k o D/\∀(j:Nat)t,(bp ak)[j]?=σ t->im D o t=if j<i then bt ak cs t else o,λ_ _ _=>False,rfl,bX.s,
   ?_,λ_ _ J h=>⟨h.1.ext J,h.2.1.ext J,Y8 h.2.2 J.size⟩,λ_ _ _ J ⟨h1,D,bY,bZ,ba⟩=>⟨h1.trans (J.ab _),D,bY,bZ.ext J,ba⟩,λ_ _ _ _ _ h=>h,⟨bi,bo.ls,o4 _⟩,⟨ai.refl _ _,[],o4 _,bj,λj t _=>by rw[if_neg Ω];rfl⟩,?_,?_,λ_ _ h=>h.elim,λ_ _ _ h=>h.elim⟩
  .rintro _ _ _ _ ⟨_,_,_,_,rfl,_⟩;rfl
  .rintro _ aK i _ b0 ⟨cG,cH,b1⟩ ⟨hi,rfl,cI,gt,b2,cJ,y⟩ ⟨aq,D,bq,aH,aJ⟩;cases b2;have aL:(bp ak)[i]?=σ (cQ ak (i:Int)):=qw U.2 Ω;have b3:dk ak (cQ ak (i:Int)):=vV U.2 hi;generalize cQ ak (i:Int)=t at*;have br:=My U.2 aj aL;intro b4 av _ _;intro b5 b6 _ _;have aw:=av.trans b6;have az:ai (λr=>r=m) aG b5:=aq.trans (aw.ab _);rw[ax Ψ ((tE bk P az).cell (o:=0) rfl),ax Ψ ((tE bU P az).cell (o:=0) rfl),bg ay.u au.i Ψ (CX bV P az).ls br];have aM:=aH.ext aw;refine(BQ aM.is (y.ext aw).ls (c:=bt ak cs t)).mono ?_;rintro _ cK _ ⟨_,b7⟩;obtain⟨rfl,aN,D',bu,bw⟩:=b7 ⟨b3,aE _ (x5 br)⟩;have aO:=az.trans aN;have cL:=bu.2;refine⟨⟨tE bi P aO,(CX bo P aO).ls,Y8 b1 (Y8 aw.size aN.size)⟩,⟨aO,D',Ω,aM.put aN bw,λj s L=>?_⟩,λh=>by cases h⟩;rw[bu.cost aM.is.nodup bw.nodup];by_cases bz:j=i
   .subst bz;rw[aL]at L;cases L;rw[if_pos rfl,if_pos Ω]
   .rw[if_neg (λ(he:s=t)=>bz (NJ U.2 (by rw[<-he];exact L) aL)),aJ j s L];by_cases h1:j<i
    .rw[if_pos h1,if_pos Ω]
    .rw[if_neg h1,if_neg Ω]
  .rintro i b0 rfl ⟨aq,D,bq,aH,aJ⟩;rw[ax Ψ ((tE bk P aq).cell (o:=0) rfl)];intro b4 av _;refine⟨(bW.put aq Ω).trans av,A,m,o,D,rfl,aH.is.ext av,bq,⟨aj,λt b8=>?_⟩,E⟩;obtain⟨j,L⟩:=NK U.2 b8;have:=(x4.1 L).1;rw[jQ U.2]at this;rw[aJ j t L,if_pos this]
 intro aA bA;intro z Z _ _;have aP:=X.trans Z;have bB:=Z;have aB:=h.ext aP;have bC:=bf.ext Z;have cM:=Z.size;rw[ax Ψ ((ao.ext Z).cell (o:=0) rfl)];have bD:∀{a:Nat}{w':x3}{aK:x1}{o:Int},Ext z w'->z.heap.size<=a->(∃f,af w' a eN [f])->aI .i64 w' aK ak->tF cs o->
   am x7 oQ [aK,Δ k,Δ o] w' λC q=>ac x7 (Y0 C 0) q λM=>ac x7 (Y0 C 1) q λ_=>aD x7 (o8 eN (Γ a) M) q λ(_:Unit)G=>aA (Γ a) G:=by
  rintro a w' aK o x p ⟨f,e⟩ y E;refine(BK y).mono ?_;rintro _ q _ ⟨aQ,_,_,aR⟩;obtain⟨A,m,rfl,b9,ca,B⟩:=aR U (aE _ E.1);obtain⟨I,K,B⟩:=B.at;rw[bm,bn];have cb:=e.lt;have s':=x.size;refine bl eN.i rfl rfl (e.ext aQ) Ξ λG bE cN cc=>?_;refine bA _ _ ⟨a,A,m,o,I,K,rfl,((bB.trans x).trans aQ).put bE Ω,cc,Ω,B.ab bE (λhe=>by have he:A=a:=he;omega) (λhe=>by have he:m=a:=he;omega) (λr aS he=>?_),E⟩;exact NM B.2.1 (e.ext aQ) Φ aS he
 have bF:∀{a:Nat}{w':x3}{aK:x1},Ext z w'->z.heap.size<=a->(∃f,af w' a eN [f])->aI .i64 w' aK ak->
   am x7 sm [ds] w' λad aa=>am x7 oQ [aK,Δ k,ad] aa λC q=>ac x7 (Y0 C 0) q λM=>ac x7 (Y0 C 1) q λ_=>aD x7 (o8 eN (Γ a) M) q λ(_:Unit)G=>aA (Γ a) G:=by
  rintro a w' aK x p ⟨f,e⟩ y;refine(CZ (bC.ext x).ls bb Ω).mono ?_;rintro _ aa _ ⟨N,o,rfl,E⟩;exact bD (x.trans N) p ⟨f,e.ext N⟩ (y.ext N) E
 have bG:∀{a:Nat}{w':x3}{aK:x1},Ext z w'->z.heap.size<=a->(∃f,af w' a eN [f])->aI .i64 w' aK ak->
   am x7 vt [Γ g] w' λaT V=>(Ext z V\/cA x7 (u5 ay (Γ al)) ds V/\True)/\
    am x7 sm [ds] V λad aa=>am x7 oQ [aK,aT,ad] aa λC q=>ac x7 (Y0 C 0) q λM=>ac x7 (Y0 C 1) q λ_=>aD x7 (o8 eN (Γ a) M) q λ(_:Unit)G=>aA (Γ a) G:=by
  rintro a w' aK x p ⟨f,e⟩ y;refine(Bz (aB.ext x)).mono ?_;rintro _ V _ ⟨rfl,H⟩;exact⟨.inl (x.trans H),bF (x.trans H) p ⟨f,e.ext H⟩ (y.ext H)⟩
 have bH:ak.length<=1000:=Ω
 have bI:∀{a:Nat}{w':x3},Ext z w'->z.heap.size<=a->(∃f,af w' a eN [f])->
   am x7 zN [.agg #[sv]] w' λcd w0=>(Ext z w0\/cA x7 (u5 ay (Γ al)) ds w0/\True)/\
    am x7 vt [Γ g] w0 λaT V=>(Ext z V\/cA x7 (u5 ay (Γ al)) ds V/\True)/\
    am x7 sm [ds] V λad aa=>am x7 oQ [cd,aT,ad] aa λC q=>ac x7 (Y0 C 0) q λM=>ac x7 (Y0 C 1) q λ_=>aD x7 (o8 eN (Γ a) M) q λ(_:Unit)G=>aA (Γ a) G:=by
  rintro a w' x p ⟨f,e⟩;refine(BA (hm.ext (aP.trans x)).ls bH).mono ?_;rintro aK V _ ⟨H,_,_,y⟩;exact⟨.inl (x.trans H),bG (x.trans H) p ⟨f,e.ext H⟩ y.ls⟩
 have ae:∀{w':x3}{R:x1->x3->Prop},Ext z w'->(∀a ag,z.heap.size<=a->Ext w' ag->(∃f,af ag a eN [f])->R (Γ a) ag)->aD x7 (Instr.alloc eN true (.tuple #[])) w' R:=λ{w'}{R}x ce=>by
  have:=x.size;exact bx eN.i λa ag p cg a8=>ce a ag Ω cg ⟨_,a8⟩
 refine⟨?_,ae (Ext.refl _) λa cO p aC e=>⟨.inl aC,?_⟩⟩
 rotate_left
 .refine (pn (aB.ext aC)).mono ?_;rintro _ cP _ ⟨rfl,aU⟩;obtain⟨f,e⟩:=e;exact⟨.inl (aC.trans aU),bI (aC.trans aU) p ⟨f,e.ext aU⟩⟩
 refine(pn aB).mono ?_;rintro _ cR _ ⟨rfl,Q⟩;refine⟨.inl Q,?_,ae Q λa cS p bJ e=>⟨.inl (Q.trans bJ),bI (Q.trans bJ) p e⟩⟩;refine(BA (hm.ext (aP.trans Q)).ls bH).mono ?_;rintro aK cT _ ⟨ch,_,_,y⟩;have S:=Q.trans ch;refine⟨.inl S,?_,ae S λa cU p aW e=>⟨.inl (S.trans aW),bG (S.trans aW) p e (y.ext aW).ls⟩⟩;refine(Bz (aB.ext S)).mono ?_;rintro _ cV _ ⟨rfl,aX⟩;have W:=S.trans aX;refine⟨.inl W,?_,ae W λa cW p aY e=>⟨.inl (W.trans aY),bF (W.trans aY) p e ((y.ext aX).ext aY).ls⟩⟩;refine(CZ (bC.ext W).ls bb Ω).mono ?_;rintro _ cX _ ⟨bK,o,rfl,E⟩;have ah:=W.trans bK;have bL:=(y.ext aX).ext bK;refine⟨?_,ae ah λa cY p aZ e=>⟨.inl (ah.trans aZ),bD (ah.trans aZ) p e (bL.ext aZ).ls E⟩⟩;refine(BK bL.ls).mono ?_;rintro _ cZ _ ⟨ci,_,_,aR⟩;obtain⟨A,m,rfl,b9,ca,B⟩:=aR U (aE _ E.1);obtain⟨I,K,B⟩:=B.at;rw[bm,bn];have a2:=ah.trans ci;refine bx eN.i λa c0 p a7 e=>?_;refine⟨.inl (a2.trans a7),?_⟩;have cb:=e.lt;obtain⟨c1,c2,t3⟩:=B.qG;have c3:=ah.size;have c4:=a2.size;refine bl eN.i rfl rfl e (by simp[x1.cells]) λc5 bM c6 cj=>?_;exact bA _ _ ⟨a,A,m,o,I,K,rfl,((bB.trans a2).trans a7).put bM Ω,cj,Ω,(B.ext a7).ab bM (λhe=>by have he:A=a:=he;omega) (λhe=>by have he:m=a:=he;omega) (λr aS he=>by have he:r=a:=he;have:=t3 r aS;omega),E⟩
theorem C0{acc:List cK}{g:cK}(h:∀x∈acc,x.1≠g.1):il k acc g=acc++[g]:=by
 unfold il;rw[if_neg];intro hm;obtain⟨x,J,he⟩:=j4.1 hm;exact h x J he
theorem NP{acc:List cK}{g h:cK}{i:Nat}(e:iR acc)(hi:acc[i]?=σ h)(he:h.1=g.1):il k acc g=acc.set i (h.1,dV k h.2 g.2):=by
 have f:=(x4.1 hi).1;unfold il;rw[if_pos (j4.2 ⟨h,x5 hi,he⟩)];refine Y3 λj=>?_;rw[x8,Y9];by_cases a:i=j
 .subst a;rw[hi,Z6,if_pos he,if_pos rfl,if_pos f]
 .rw[if_neg a];cases p:acc[j]? with
  |none=>rfl
  |some y=>
   have:y.1≠g.1:=λq=>a (by
    have h1:(acc.map (·.1))[i]?=σ g.1:=by rw[x8,hi,Z6,he]
    have r:(acc.map (·.1))[j]?=σ g.1:=by rw[x8,p,Z6,q]
    exact kz e h1 r)
   rw[Z6,if_neg this]
theorem NQ{α β:Type}{f:β->α->β}{b:β}{l:List α}{i:Nat}{x:α}(h:l[i]?=σ x):(l.take (i+1)).foldl f b=f ((l.take i).foldl f b) x:=by
 rw[u9,h,j5,List.foldl_append];rfl
def mU(w:x3)(k:Int)(sizes:Λ)(x:cr):Prop:=(∃a,av .i64 ah w a x.sv x.sc)/\∃m o D,eF w x.g m (bX sizes x.sc) k o D/\D.length<=4096/\iq (bX sizes x.sc) (im D o) x.cs
theorem mU.ext{x:cr}(h:mU w k sizes x)(J:Ext w w'):mU w' k sizes x:=by
 obtain⟨⟨a,h1⟩,m,o,D,e,f⟩:=h;exact⟨⟨a,h1.ext J⟩,m,o,D,e.ext J,f⟩
theorem mU.ab{x:cr}(h:mU w k sizes x)(J:ai S w w')(p:∀r,S r->∃e c,af w r e c/\e≠fI/\e≠ah):mU w' k sizes x:=by
 obtain⟨⟨z,h1⟩,m,o,D,A,B⟩:=h;obtain⟨sv,gs,f⟩:=A.at;have s:∀{g:Nat}{v:x1}{l:Λ},av .i64 ah w g v l->∀r,leads v r->¬S r:=λhm r C U=>by
  obtain⟨e,c,a,_,q⟩:=p r U;exact b7 hm a (λhe=>q he.symm) C rfl
 refine⟨⟨z,bu h1 J (s h1)⟩,m,o,D,(f.ab J (λU=>?_) (λU=>?_) (s f.2.1)).is,B⟩
 .obtain⟨e,c,a,q,_⟩:=p _ U;have y:=f.1;unfold af at y a;rw[y]at a;exact q (Obj.cells.inj (b9 a)).2.1.symm
 .obtain⟨e,c,a,_,_⟩:=p _ U;exact tr a f.2.2.1 rfl
def q3(w:x3)(g:Nat)(v:x1)(k:Int)(sizes:Λ)(L:List cr):Prop:=bi ev 2 cC w g v L/\∀x∈L,mU w k sizes x
theorem q3.ext{g:Nat}{L:List cr}(h:q3 w g v k sizes L)(J:Ext w w'):q3 w' g v k sizes L:=⟨h.1.ext J,λx a=>(h.2 x a).ext J⟩
def NR(w:x3)(B a:Nat)(f:bY):Prop:=∃szv e gz g L,af w a cB [bI f.name,Δ f.k,szv,e]/\av .i64 ah w gz szv f.sizes/\q3 w g e f.k f.sizes L/\L.map dT=fm f/\B<=a/\(∀r,leads szv r->B<=r)/\∀x∈L,∀r,leads x.sv r->B<=r
theorem NS{g bj:Nat}{L:List cr}{q:Λ}(h:e5 w g v L)(B:af w bj an [sv])(U:aI .i64 w sv q):
  am x7 zE [v,.func (.func zF) #[] #[Γ bj]] w λr w'=>Ext w w'/\((r=Δ (-1)/\∀x∈L,x.sc≠q)\/∃i:Nat,r=Δ (i:Int)/\∃x,L[i]?=σ x/\x.sc=q):=by
 refine az func193 ?_;rw[ee gp.u h.1];refine cb.range L.length (λi _ V=>Ext w V/\∀x∈L.take i,x.sc≠q) h.1.le ⟨Ext.refl _,λc a=>by simp at a⟩ ?_ ?_
 .rintro i _ V k hi ⟨J,s⟩ hk;refine bM Ω ?_;obtain⟨x,y⟩:=aJ (l:=L) hi;rw[tA rfl (h.ext J) y];show am x7 zF [j0 x,Γ bj] V _;obtain⟨⟨E,hm⟩,_⟩:=(h.ext J).at y;refine az func194 ?_;refine bf λao aa G f z=>?_;have z:af aa ao cU [x.sv,Γ x.g]:=by
   obtain⟨_,_,_,e⟩:=c5 hm.ls;simp only[j0,ev,e]at z ⊢;exact z
  rw[aT cU.p 0 z rfl,ax Ψ ((B.ext (J.trans f)).cell (o:=0) rfl)];refine(JD (hm.ls.ext f) (U.ext (J.trans f))).mono ?_;rintro _ H _ ⟨rfl,A⟩;rw[al];refine⟨λhe=>⟨(J.trans f).trans A,.inr ⟨i,rfl,x,y,he⟩⟩,λC=>?_⟩;rw[aN];refine hk _ _ ⟨(J.trans f).trans A,λc a=>?_⟩;rw[u9,y]at a;rcases o5.1 a with a|a
  .exact s c a
  .simp at a;subst a;exact C
 .rintro _ V k ⟨J,s⟩;rw[o7]at s;rw[aR,al];exact⟨λh=>Ω,λ_=>⟨J,.inl ⟨rfl,s⟩⟩⟩
def eG(f:bY)(i:Nat):List cK:=((f.funs.take i).map (hX f.sizes f.k)).foldl (il f.k) []
theorem C1{f:bY}(ag:e0 N f)(i:Nat):(∀g∈eG f i,fP f.sizes f.k g)/\iR (eG f i)/\(eG f i).length<=i:=by
 have:=wA (sizes:=f.sizes) (k:=f.k) (by have:=ag.k.1;omega) (l:=(f.funs.take i).map (hX f.sizes f.k)) (acc:=[]) (λh aB=>by cases aB) List.nodup_nil λg e=>by
  obtain⟨x,J,rfl⟩:=j4.1 e;exact px ag (List.mem_of_mem_take J)
 refine⟨this.1,this.2.1,?_⟩;have a:=this.2.2;rw[List.length_nil,r8,X2,n9]at a;exact Y8 a (Nat.min_le_left _ _)
theorem wO{f:bY}{i:Nat}{x:cj}(h:f.funs[i]?=σ x):eG f (i+1)=il f.k (eG f i) (hX f.sizes f.k x):=by
 unfold eG;rw[u9,h,j5,Z4,List.foldl_append];rfl
theorem C2(f:bY):eG f f.funs.length=fc f:=by unfold eG fc;rw[o7]
theorem wP{L:List cr}{i:Nat}{x:cr}{D:List cK}(h:L.map dT=D)(J:L[i]?=σ x):dT x∈D:=by rw[<-h];exact j4.2 ⟨x,x5 J,rfl⟩
def NT(w:x3)(f:bY)(v:x1)(w':x3):Prop:=Ext w w'/\((¬iS f.funs<=16384/\∃e:Int,e≠0/\v= .tuple #[.pointer ν,Δ e])\/∃a,v= .tuple #[Γ a,Δ 0]/\NR w' w.heap.size a f)
theorem tH{g a:Nat}{sc cs:Λ}(hm:av .i64 ah w g sv sc):∀u∈ev ⟨sv,a,sc,cs⟩,u.oneCell'=true:=λu hu=>by
 simp[ev]at hu;rcases hu with rfl|rfl
 .exact hm.ls.cells.2
 .rfl
theorem NU{bL:Nat}{f:bY}(bO:ll w bL f)(E:e0 N f)(bR:N<=60000)(c2:f.name≠[]/\∀b∈f.name,bN b=true):
  am x7 Hp [Γ bL] w (NT w f):=by
 have hk:=E.k;refine az func120 ?_;refine(Ng bO E bR c2).mono ?_;rintro _ V _ ⟨aH,e,rfl,he⟩;rw[bC,al];refine⟨λbS=>⟨aH,.inl ⟨λh=>bS (he h),e,bS,rfl⟩⟩,λer=>?_⟩;have bT:=bO.ext aH;obtain⟨szv,aI,gz,bb,bV,c3,bc,aK⟩:=id bT;have es:bb.length<=256:=by rw[aK.1];exact E.la
 rw[aS cB.p 3 bV rfl,jo dH.u bc];refine cb.range bb.length (λi l aa=>∃g L,Ext V aa/\e5 aa g l L/\Sem aa f.k f.sizes L/\L.map dT=eG f i/\(∀r,leadsTo l r->V.heap.size<=r)/\∀x∈L,∀r,leads x.sv r->V.heap.size<=r) (sC bc)
  ⟨0,[],Ext.refl _,⟨bi.nil _ _ _ _ _,λx J=>(by cases J)⟩,λx J=>(by cases J),rfl,λr A=>(e1 A).elim,λx J=>(by cases J)⟩ ?_ ?_
 .rintro i l aa c4 hi ⟨g,L,W,ay,aL,G,O,aB⟩ c6;obtain⟨d,bZ⟩:=aJ (l:=bb) hi;obtain⟨x,aM⟩:∃x,f.funs[i]?=σ x:=⟨_,x6 (by have:=aK.1;omega)⟩;have b0:=x5 aM;have c7:=aK.2 i x d aM bZ;have X:=px E b0;obtain⟨c8,c9,et⟩:=C1 E i;have da:L.length<=i:=by have b1:=congrArg S3 G;rw[r8]at b1;omega
  refine bM Ω ?_;refine aV (λl' aP=>∃P Y,Ext V aP/\e5 aP P l' Y/\Sem aP f.k f.sizes Y/\Y.map dT=eG f (i+1)/\(∀r,leadsTo l' r->V.heap.size<=r)/\∀x∈Y,∀r,leads x.sv r->V.heap.size<=r) ?_ ?_
  .rintro l' aP ⟨P,Y,h1,db,dc,dd,de⟩;rw[aN];exact c6 _ _ ⟨P,Y,h1,db,dc,dd,de⟩
  intro aA b2;refine nL (α:=ha) cC.p rfl dH.u cC.i (bW bc W) bZ λcs bd=>?_;have b4:cs.length=2:=ap.len bd;refine bx cC.i λao eu ew dg dh=>?_;refine ci (vs:=cs) cC.i b4 rfl (ap.one bd) dh λdi dj ey dk=>?_;have I:Ext aa di:=dg.put dj Ω;rw[bP cC.p cC.i b4 dk.range];refine(Nr E bR b0 c7 (bW bd I)).mono ?_;rintro _ dl _ ⟨dm,sv,gs,b5,dn,dp,rfl,ez,Z,b6⟩;rw[bm,bn];refine bx an.i λbj eA eB dq ds=>?_;refine bl an.i Z.ls.cells.1 Z.ls.cells.2 ds (by simp[x1.cells]) λb8 dt eC aQ=>?_;have be:Ext dl b8:=dq.put dt Ω;have aQ:af b8 bj an [sv]:=aQ;rw[ig];have bg:=(I.trans dm).trans be;have eD:=bg.size;have eE:=W.size;refine(NS (ay.ext bg) aQ (Z.ls.ext be)).mono ?_;rintro _ eF _ ⟨aR,A⟩;have aW:=bg.trans aR;have ca:=be.trans aR;have bh:=Z.ext ca;have cc:=b6.ext ca;have cd:=aQ.ext aR;have ce:=ay.ext aW;have bk:=aL.ext aW;rcases A with⟨rfl,du⟩|⟨cg,rfl,y,B,aX⟩
  .refine bM Ω ?_;rw[ax Ψ (cd.cell (o:=0) rfl),cW (cs:=#[sv,Γ b5]) (by obtain⟨_,_,_,rfl⟩:=c5 Z.ls;kernel_rfl)];let a:cr:=⟨sv,b5,bo x.scope,(hX f.sizes f.k x).2⟩;have bp:∀u∈ev a,u.oneCell'=true:=tH bh;refine hE (f:=ev) (a:=a) gp.u cU.i Ω rfl rfl λeH eI dv eJ ac dw=>?_;have ae:=ce.ext ac;refine io (f:=ev) (a:=a) gp.u cU.i rfl ae.1 (by simpa using dw.sl) bp Ω Ω λaC P eK aD bq aE=>?_;have ch:=bh.ext ac;have aY:∀{r:Nat},leadsTo l r->∃c,af dv r cU c:=λA=>by
    obtain⟨rfl,c,C⟩:=dS ae.1 A;exact⟨c,C⟩
   refine b2 _ _ ⟨P,L++[a],((W.trans aW).trans ac).then aE (λr A he=>by have:=O r he;omega),e5.mk aD λz s=>?_,λz s=>?_,?_,λr A=>?_,λz s r A=>?_⟩
   .rcases o5.1 s with s|s
    .have:=(ae.2 z s).ab aE λr A he=>(ae.2 z s).2.1 r A (ae.1.leads he).1;exact⟨this.1,this.2.2⟩
    .rw[o9.1 s];exact⟨⟨gs,bu ch aE λr A he=>by obtain⟨c,C⟩:=aY he;exact b7 ch C Φ A rfl⟩,X.scope⟩
   .rcases o5.1 s with s|s
    .exact (bk.ext ac).row ae aE z s
    .rw[o9.1 s];exact⟨dn,dp,wI (cc.ext ac) aE λr A=>aY A⟩
   .rw[Z4,G,wO aM,C0]
    .rfl
    .intro c H dx;rw[<-G]at H;obtain⟨z,s,rfl⟩:=j4.1 H;exact du z s dx
   .rcases bq r A with h|h
    .exact O r h
    .have:=ac.size;have:=aR.size;omega
   .rcases o5.1 s with s|s
    .exact aB z s r A
    .rw[o9.1 s]at A;have b1:=(bQ Z A).1;have:=I.size;omega
  .refine cE Ω ?_;intro eL Q _ _;have br:=ce.ext Q;have cj:=(x4.1 B).1;obtain⟨dy,dz,aZ⟩:=(bk.ext Q) y (x5 B);have cl:=cd.ext Q;have cm:=bh.ext Q;have dA:=cc.ext Q;rw[dr rfl gp.u cU.i br.1 cj,aU cU.p rfl,ax Ψ (br.1.range B 1 _ rfl),ax Ψ (cl.cell (o:=0) rfl),ax Ψ (cl.cell (o:=0) rfl)];have ag:fP f.sizes f.k (dT y):=c8 _ (wP G B);rw[aX]at aZ;have cn:∀{c:Int},0<=c/\c<=f.k->cq c f.k:=λh=>⟨hk,h.1,h.2⟩;refine(NC aZ dA cm.ls cm.ls hk (λc H=>cn (ag.h0 c H)) (λc H=>cn (X.h0 c H))).mono ?_;intro eM cp _ dC;have dD:y.cs.length=(aO (bX f.sizes (bo x.scope))).toNat:=by have:=ag.len;rw[show(dT y).1=y.sc from rfl,aX]at this;exact this
   have dE:b3 (bX f.sizes (bo x.scope)):=b6.2.2.1;obtain⟨bt,ct,cu,cw,eN,rfl,dF⟩:=NH X.up (λv ad=>(X.scope.1 v ad).1) (by simp[bX];rfl) dE X.small dD X.len dC;rw[fK,fL,fM];have R:=br.ext bt;rw[dr rfl gp.u cU.i R.1 cj,aU cU.p rfl];let a:cr:=⟨y.sv,ct,y.sc,dV f.k y.cs (hX f.sizes f.k x).2⟩;refine pr (f:=ev) (j:=1) (a:=y) (a':=a) eO.i rfl rfl R.1 B rfl Ω λdG a1 eP dI=>?_;have aY:∀{r:Nat},leadsTo l r->∃c,af cp r cU c:=λA=>by
    obtain⟨rfl,c,C⟩:=dS R.1 A;exact⟨c,C⟩
   refine b2 _ _ ⟨g,L.set cg a,((W.trans aW).trans (Q.trans bt)).then a1 (λr A he=>by have:=O r he;omega),e5.mk dI λz s=>?_,λz s=>?_,?_,O,λz s=>?_⟩
   .have cz:∀z∈L,(∃bw,av .i64 ah dG bw z.sv z.sc)/\jt z.sc:=λz s=>by
     have:=(R.2 z s).ab a1 λr A he=>(R.2 z s).2.1 r A (R.1.leads he).1;exact⟨this.1,this.2.2⟩
    rcases X9 s with s|rfl
    .exact cz z s
    .exact cz y (x5 B)
   .rcases X9 s with s|rfl
    .exact ((bk.ext Q).ext bt).row R a1 z s
    .refine⟨cu,cw,wI ?_ a1 λr A=>aY A⟩;show df cp ct cu cw (bX f.sizes y.sc) f.k _;rw[aX];exact dF
   .rw[U4,G,wO aM,NP (g:=hX f.sizes f.k x) c9 (i:=cg) (h:=dT y) (by rw[<-G,x8,B];rfl) aX];rfl
   .rcases X9 s with s|rfl
    .exact aB z s
    .exact aB y (x5 B)
 .rintro l aa c4 ⟨g,L,W,ay,aL,G,O,aB⟩;refine cE Ω ?_;rw[aK.1,C2]at G;have da:L.length<=256:=by
   have:=(kC E).2.2;rw[<-G,r8]at this;have:=E.la;omega
  refine(Nw ay aL Ω).mono ?_;rintro eQ cA _ ⟨cD,cF,dJ⟩;have dK:Ext V cA:=W.then cD λr A he=>by have:=O r he;omega
  have dL:Sem cA f.k f.sizes (L.filter gf):=λz s=>(aL.row ay cD) z (T3.1 s).1;have eR:(L.filter gf).length<=L.length:=R3 _ _;refine(No cF Ω).mono ?_;rintro _ cG _ ⟨cH,M,a2,dM,cI⟩;have dN:Ext V cG:=dK.then cH λr A he=>by have:=O r (dJ r he);omega
  have cJ:Sem cG f.k f.sizes M:=λz s=>(dL.row cF cH) z (a2.mem_iff.1 s);have eS:M.length<=256:=by rw[a2.length_eq];omega
  have dO:∀x∈M,∀r,leads x.sv r->V.heap.size<=r:=λx J=>aB x (T3.1 (a2.mem_iff.1 J)).1;have cK:M.map dT=fm f:=by
   refine Mn E ?_ ?_
   .refine (a2.map dT).trans ?_;rw[<-G,List.filter_map];exact .refl _
   .rw[List.pairwise_map];refine V6.2 λp q dP cL dQ=>?_;exact dM p q _ _ (X4 _) dQ cL (x6 dP) (x6 cL)
  intro eU a6 _ _;have aj:=dN.trans a6;have eV:=bT.ext aj;have bz:=bV.ext aj;rw[aS cB.p 0 bz rfl,aS cB.p 1 bz rfl,aS cB.p 2 bz rfl];refine(ku (c3.ls.ext aj) (by have:=E.sizes.2.1;omega)).mono ?_;rintro aF cM _ ⟨S,dR,eW,bA⟩;refine⟨.inl S,?_⟩;rw[cW (cs:=#[bI f.name,Δ f.k,aF,.slice ν 0 0]) (by obtain⟨_,_,_,rfl⟩:=c5 bA.ls;kernel_rfl)];refine bf λU dU eX a7 bB=>?_;have bB:af dU U cB [bI f.name,Δ f.k,aF,.slice ν 0 0]:=bB;have eY:=(aj.trans S).trans a7;have dW:=((cI.ext a6).ext S).ext a7;have eZ:=((cJ.ext a6).ext S).ext a7;rw[ee gp.u dW.1];refine ck.range M.length (λi ak=>∃aI gr K,Ext cM ak/\af ak U cB [bI f.name,Δ f.k,aF,aI]/\q3 ak gr aI f.k f.sizes K/\K.map dT=(M.take i).map dT/\K.length=i/\(∀r,leadsTo aI r->cM.heap.size<=r)/\∀x∈K,∀r,leads x.sv r->V.heap.size<=r) Ω
   ⟨_,0,[],a7,bB,⟨bi.nil _ _ _ _ _,λx J=>(by cases J)⟩,rfl,rfl,λr A=>(e1 A).elim,λx J=>(by cases J)⟩ ?_ ?_
  rotate_left
  .rintro ak dX ⟨aG,gr,K,aq,au,bD,a8,_,_,bE⟩;rw[o7,cK]at a8;refine cE Ω ?_;have e2:=aH.size;have e3:=aj.size;have e4:=S.size;exact⟨(aH.trans (aj.trans S)).trans aq,.inr ⟨U,rfl,aF,aG,dR,gr,K,au,bA.ext aq,bD,a8,Ω,λr A=>by have:=(bQ bA A).1;omega,λx J r A=>by have:=bE x J r A;omega⟩⟩
  rintro i ak dX hi ⟨aG,gr,K,aq,au,bD,a8,dY,cN,bE⟩ dZ;obtain⟨y,B⟩:=aJ (l:=M) hi;have cO:=(a6.trans S).trans aq;have cP:=cI.ext cO;have cQ:=cP.at B;obtain⟨dy,dz,aZ⟩:=(cJ.ext cO) y (x5 B);have ag:fP f.sizes f.k (dT y):=tm E _ (wP cK B);refine bM Ω ?_;rw[tA rfl cP B];refine bx cU.i λgy e6 e7 ea eb=>?_;refine ci (vs:=ev y) cU.i rfl rfl cQ.one eb λec ed e8 ef=>?_;have eg:Ext ak ec:=ea.put ed Ω;intro e9 cR _ _;have bF:=eg.trans cR;have cS:=ef.ext cR;have eh:=au.ext bF;rw[aS cB.p 3 eh rfl,aT cU.p 0 cS rfl,aT cU.p 1 cS rfl];refine(NO (aZ.ext bF) λc H=>⟨hk,(ag.h0 c H).1,(ag.h0 c H).2⟩).mono ?_;rintro _ fa _ ⟨bG,gT,m,o,D,rfl,ei,ej,ek,_⟩;refine⟨.inl bG,?_⟩;have cT:=bF.trans bG;obtain⟨⟨bw,cV⟩,_,fb⟩:=cQ;have cX:=cV.ext cT;rw[cW (cs:=#[y.sv,Γ gT]) (by obtain⟨_,_,_,e⟩:=c5 cV.ls;rw[e];kernel_rfl)];let a:cr:=⟨y.sv,gT,y.sc,y.cs⟩;have bp:∀u∈ev a,u.oneCell'=true:=tH cX;refine hE (f:=ev) (a:=a) dH.u cC.i Ω rfl rfl λv25 fc bH fd I em=>?_;refine⟨.inl (bG.trans I),?_⟩;have aw:=cT.trans I;have ba:=bD.ext aw;refine io (f:=ev) (a:=a) dH.u cC.i rfl ba.1 (by simpa using em.sl) bp Ω Ω λaC P en aD bq cY=>?_;have fe:=aq.size;have ff:=aw.size;have bJ:af en U cB [bI f.name,Δ f.k,aF,aG]:=(au.ext aw).ab cY λhe=>by
   obtain⟨rfl,c,C⟩:=dS ba.1 he;have h1:=au.ext aw;unfold af at C h1;rw[h1]at C;exact absurd (Obj.cells.inj (b9 C)).2.1 Φ
  rw[bU,aU cB.p rfl];have cZ:aC.cells= #[aC]/\aC.oneCell'=true:=by
   obtain⟨_,_,_,_,_,rfl,_⟩:=aD.sl;exact⟨rfl,rfl⟩
  refine bl dH.i cZ.1 cZ.2 bJ Ξ λeo c0 fg ep=>?_;rw[aN];have bK:ai (λr=>r=U\/leadsTo aG r) bH eo:=(cY.mono λr _ h=>.inr h).trans (c0.mono λr _ h=>.inl h);have c1:∀r,(r=U\/leadsTo aG r)->∃e c,af bH r e c/\e≠fI/\e≠ah:=λr A=>by
   rcases A with rfl|A
   .exact⟨_,_,au.ext aw,Φ,Φ⟩
   .obtain⟨rfl,c,C⟩:=dS ba.1 A;exact⟨_,c,C,Φ,Φ⟩
  refine dZ _ ⟨aC,P,K++[a],?_,ep,⟨aD.ab c0 λr A he=>?_,λz s=>?_⟩,?_,by rw[r9,dY];rfl,λr A=>?_,λz s=>?_⟩
  .exact (aq.trans aw).then bK λr A he=>by
    rcases he with rfl|he
    .omega
    .have:=cN r he;omega
  .have he:r=U:=he;subst he;obtain⟨rfl,c,C⟩:=dS aD A;unfold af at C bJ;rw[bJ]at C;exact absurd (Obj.cells.inj (b9 C)).2.1 Φ
  .rcases o5.1 s with s|s
   .exact (ba.2 z s).ab bK c1
   .rw[o9.1 s];refine mU.ab (w:=bH) ⟨⟨bw,cX.ext I⟩,m,o,D,ei.ext I,?_,ek⟩ bK c1;have:=ag.small;exact Y8 ej (by show(aO (bX f.sizes (dT y).1)).toNat<=4096;omega)
  .rw[Z4,a8,u9,B,Z4];rfl
  .rcases bq r A with h|h
   .exact cN r h
   .omega
  .rcases o5.1 s with s|s
   .exact bE z s
   .rw[o9.1 s];exact dO y (x5 B)
theorem eH{a:p9}{c f:List x1}(h:af w r e c)(h':af w r a f):e=a:=by
 unfold af at h h';rw[h]at h';exact(Obj.cells.inj (b9 h')).2.1
theorem cO{α:Type}{f:α->List x1}{k:Nat}{a:p9}{g p:Nat}{L:List α}(h:bi f k e w g v L)(q:af w p a cs)(r:e≠a):¬leadsTo v p:=λs=>by
 obtain⟨rfl,c,x⟩:=dS h s;exact r (eH x q)
structure ln where
 v:x1
 l:Λ
def n5(h:ln):List x1:=[h.v]
def hG(w:x3)(g:Nat)(v:x1)(aW:List ln):Prop:=bi n5 1 ay w g v aW/\∀h∈aW,∃a,av .i64 au w a h.v h.l
theorem hG.ext{g:Nat}{aW:List ln}(h:hG w g v aW)(J:Ext w w'):hG w' g v aW:=⟨h.1.ext J,λx a=>by
 obtain⟨e,hm⟩:=h.2 x a;exact⟨e,hm.ext J⟩⟩
theorem hG.q4{g:Nat}{aW:List ln}(h:hG w g v aW)(f:ai S w w')(p:∀r,S r->∃e c,af w r e c/\e≠au):∀h∈aW,∃a,av .i64 au w' a h.v h.l:=λx q=>by
 obtain⟨a,hm⟩:=h.2 x q;exact⟨a,bu hm f λr s U=>by
  obtain⟨e,c,y,z⟩:=p r U;exact b7 hm y (λhe=>z he.symm) s rfl⟩
theorem hG.ab{g:Nat}{aW:List ln}(h:hG w g v aW)(q:ai S w w')(s:∀r,S r->∃e c,af w r e c/\e≠au/\e≠ay):hG w' g v aW:=
 ⟨h.1.ab q λr a U=>by
  obtain⟨e,c,f,_,p⟩:=s r U;exact cO h.1 f (λhe=>p he.symm) a,h.q4 q λr a=>by
  obtain⟨e,c,f,p,_⟩:=s r a;exact⟨e,c,f,p⟩⟩
def n7(w:x3)(k:Int)(sizes:Λ)(x:cr):Prop:=(∃a,av .i64 ah w a x.sv x.sc)/\∃e f,df w x.g e f (bX sizes x.sc) k x.cs
theorem n7.ext{x:cr}(h:n7 w k sizes x)(J:Ext w w'):n7 w' k sizes x:=by
 obtain⟨⟨a,h1⟩,e,f,p⟩:=h;exact⟨⟨a,h1.ext J⟩,e,f,p.ext J⟩
theorem C3{g x:Nat}{y:x1}{cs:Λ}(h:df w g x y ak k cs)(p:ai S w w')(q:∀r,S r->∃e c,af w r e c/\e≠cV/\e≠ah/\e≠au):df w' g x y ak k cs:=by
 obtain⟨⟨a6,gs,h1,z,A⟩,B⟩:=h;refine⟨⟨a6,gs,h1.ab p λU=>?_,bu z p λr s U=>?_,bu A p λr s U=>?_⟩,B⟩
 .obtain⟨e,c,a,f,_⟩:=q g U;exact f (eH a h1)
 .obtain⟨e,c,a,_,f,_⟩:=q r U;exact b7 z a (λhe=>f he.symm) s rfl
 .obtain⟨e,c,a,_,_,f⟩:=q r U;exact b7 A a (λhe=>f he.symm) s rfl
theorem n7.ab{x:cr}(h:n7 w k sizes x)(a:ai S w w')(f:∀r,S r->∃e c,af w r e c/\e≠cV/\e≠ah/\e≠au):n7 w' k sizes x:=by
 obtain⟨⟨p,h1⟩,q,s,y⟩:=h;refine⟨⟨p,bu h1 a λr z U=>?_⟩,q,s,C3 y a f⟩;obtain⟨e,c,A,_,B,_⟩:=f r U;exact b7 h1 A (λhe=>B he.symm) z rfl
def n8(w:x3)(g:Nat)(v:x1)(k:Int)(sizes:Λ)(L:List cr):Prop:=bi ev 2 hq w g v L/\∀x∈L,n7 w k sizes x
theorem n8.ext{g:Nat}{L:List cr}(h:n8 w g v k sizes L)(J:Ext w w'):n8 w' g v k sizes L:=⟨h.1.ext J,λx a=>(h.2 x a).ext J⟩
theorem n8.ab{g:Nat}{L:List cr}(h:n8 w g v k sizes L)(q:ai S w w')(s:∀r,S r->∃e c,af w r e c/\e≠hq/\e≠cV/\e≠ah/\e≠au):n8 w' g v k sizes L:=
 ⟨h.1.ab q λr a U=>by
  obtain⟨e,c,f,p,_⟩:=s r U;exact cO h.1 f (λhe=>p he.symm) a,λx J=>(h.2 x J).ab q λr a=>by
  obtain⟨e,c,f,_,p⟩:=s r a;exact⟨e,c,f,p⟩⟩
def gg(w:x3)(h:Nat)(n:aF):Prop:=∃a e f p gr aW L nm szv gz fv2,af w h fH [Γ a,Δ n.zero,e,f]/\af w a cB [nm,Δ n.k,szv,fv2]/\av .i64 ah w gz szv n.sizes/\
 hG w p e aW/\aW.map (·.l)=n.unary/\n8 w gr f n.k n.sizes L/\L.map dT=n.funs
theorem gg.ext{a:Nat}{n:aF}(h:gg w a n)(J:Ext w w'):gg w' a n:=by
 obtain⟨e,f,p,q,gr,aW,L,nm,szv,gz,fv2,h1,r,s,x,y,z,A⟩:=h;exact⟨e,f,p,q,gr,aW,L,nm,szv,gz,fv2,h1.ext J,r.ext J,s.ext J,x.ext J,y,z.ext J,A⟩
def q5(w:x3)(B:Nat)(k:Int)(sizes:Λ)(x:cr):Prop:=(∃f,av .i64 ah w f x.sv x.sc)/\(∃a e,df w x.g a e (bX sizes x.sc) k x.cs/\B<=a/\∀r,leads e r->B<=r)/\B<=x.g/\∀r,leads x.sv r->B<=r
theorem q5.ab{x:cr}(h:q5 w B k sizes x)(a:ai S w w')(f:∀r,S r->∃e c,af w r e c/\e≠cV/\e≠ah/\e≠au):q5 w' B k sizes x:=by
 obtain⟨⟨p,h1⟩,⟨q,s,y,z⟩,A⟩:=h;refine⟨⟨p,bu h1 a λr C U=>?_⟩,⟨q,s,C3 y a f,z⟩,A⟩;obtain⟨e,c,E,_,F,_⟩:=f r U;exact b7 h1 E (λhe=>F he.symm) C rfl
def md(w:x3)(B g:Nat)(v:x1)(k:Int)(sizes:Λ)(L:List cr):Prop:=bi ev 2 hq w g v L/\∀x∈L,q5 w B k sizes x
theorem md.ext{g:Nat}{L:List cr}(h:md w B g v k sizes L)(J:Ext w w'):md w' B g v k sizes L:=⟨h.1.ext J,λx a=>(h.2 x a).ab (J.ab λ_=>False) λ_ h=>h.elim⟩
theorem md.ab{g:Nat}{L:List cr}(h:md w B g v k sizes L)(q:ai S w w')(s:∀r,S r->∃e c,af w r e c/\e≠hq/\e≠cV/\e≠ah/\e≠au):md w' B g v k sizes L:=
 ⟨h.1.ab q λr a U=>by
  obtain⟨e,c,f,p,_⟩:=s r U;exact cO h.1 f (λhe=>p he.symm) a,λx J=>(h.2 x J).ab q λr a=>by
  obtain⟨e,c,f,_,p⟩:=s r a;exact⟨e,c,f,p⟩⟩
theorem C4:∃o:Obj,fA o=false:=⟨.deferred ν,rfl⟩
theorem ghost(w:x3)(B:Nat):∃w0,Ext w0 w/\ai (λr=>r<B) w w0/\∀r o,w0.heap[r]?=σ o->fA o=true->B<=r:=by
 obtain⟨ct,f⟩:=C4;have e:∀r,(w.heap.mapIdx λr o=>if r<B then ct else o)[r]?=(w.heap[r]?).map λo=>if r<B then ct else o:=λr=>Ξ
 refine⟨{w with heap:=w.heap.mapIdx λr o=>if r<B then ct else o},⟨Ξ,λr o a U=>?_⟩,⟨Ξ,λr o a U p=>?_⟩,λr o a U=>?_⟩
 .have a:(w.heap.mapIdx λr o=>if r<B then ct else o)[r]?=σ o:=a;rw[e]at a;cases h:w.heap[r]? with
  |none=>rw[h]at a;cases a
  |some o'=>
   rw[h]at a;simp only[Z6,Y1]at a;split at a
   .subst a;rw[f]at U;cases U
   .rw[a]
 .show (w.heap.mapIdx λr o=>if r<B then ct else o)[r]?=σ o;rw[e,a,Z6,if_neg p]
 .have a:(w.heap.mapIdx λr o=>if r<B then ct else o)[r]?=σ o:=a;rw[e]at a;cases h:w.heap[r]? with
  |none=>rw[h]at a;cases a
  |some o'=>
   rw[h]at a;simp only[Z6,Y1]at a;split at a
   .subst a;rw[f]at U;cases U
   .omega
def C5(B:Nat)(w:x3)(a:Nat)(n:aF):Prop:=∃w0,gg w0 a n/\Ext w0 w/\∀r o,w0.heap[r]?=σ o->fA o=true->B<=r
theorem NV{z p C gr gz:Nat}{n:aF}{q s nm szv fv2:x1}{aW:List ln}{L:List cr}(h1:af w z fH [Γ p,Δ n.zero,q,s])(E:af w p cB [nm,Δ n.k,szv,fv2])(I:av .i64 ah w gz szv n.sizes)(F:hG w C q aW)(K:aW.map (·.l)=n.unary)(G:md w B gr s n.k n.sizes L)(M:L.map dT=n.funs)(N:B<=z)(O:B<=p)(P:∀r,leads szv r->B<=r)(H:∀r,leadsTo q r\/leadsTo s r->B<=r)(Q:∀h∈aW,∀r,leads h.v r->B<=r):C5 B w z n:=by
 obtain⟨w0,J,a,R⟩:=ghost w B;have no:∀{r:Nat},B<=r->¬r<B:=λh E=>Ω
 have y:∀{e:p9}{g:Nat}{v:x1}{l:Λ},av .i64 e w g v l->(∀r,leads v r->B<=r)->av .i64 e w0 g v l:=λh S=>bu h a λr f=>no (S r f);refine⟨w0,⟨p,q,s,C,gr,aW,L,nm,szv,gz,fv2,h1.ab a (no N),E.ab a (no O),y I P,⟨F.1.ab a λr f=>no (H r (.inl f)),λh aB=>?_⟩,K,⟨G.1.ab a λr f=>no (H r (.inr f)),λx J=>?_⟩,M⟩,J,R⟩
 .obtain⟨A,hm⟩:=F.2 h aB;exact⟨A,y hm (Q h aB)⟩
 .obtain⟨⟨A,U⟩,⟨V,W,⟨⟨a6,gs,X,Y,t3⟩,t4⟩,ad,Z⟩,aa,ac⟩:=G.2 x J;exact⟨⟨A,y U ac⟩,V,W,⟨a6,gs,X.ab a (no aa),y Y Z,bu t3 a λr f=>no (by have:=(bQ t3 f).1;omega)⟩,t4⟩
def iU(n:aF)(g:cK):aF:=match g.1 with
 |[]=>{n with zero:=g.2.getD 0 0}
 |[v]=>{n with unary:=n.unary.set v.toNat g.2}
 |_=>{n with funs:=n.funs++[g]}
def C6(f:bY):aF:=⟨f.k,f.sizes,0,f.sizes.map λz=>p8 z.toNat 0,[]⟩
theorem NW(f:bY):cR f=(fm f).foldl iU (C6 f):=rfl
def dG(f:bY)(i:Nat):aF:=((fm f).take i).foldl iU (C6 f)
theorem wQ{f:bY}{i:Nat}{g:cK}(h:(fm f)[i]?=σ g):dG f (i+1)=iU (dG f i) g:=NQ h
theorem q6(f:bY):dG f (fm f).length=cR f:=by unfold dG;rw[o7,NW]
theorem NX(n:aF)(g:cK):(iU n g).k=n.k/\(iU n g).sizes=n.sizes/\(iU n g).unary.length=n.unary.length/\(iU n g).funs.length<=n.funs.length+1:=by
 unfold iU;split
 .exact⟨rfl,rfl,rfl,Nat.le_succ _⟩
 .exact⟨rfl,rfl,Ξ,Nat.le_succ _⟩
 .exact⟨rfl,rfl,rfl,Ξ⟩
theorem oa(f:bY):∀i,(dG f i).k=f.k/\(dG f i).sizes=f.sizes/\(dG f i).unary.length=f.sizes.length/\(dG f i).funs.length<=i
 |0=>⟨rfl,rfl,by show(f.sizes.map _).length=_;simp,X4 _⟩
 |i+1=>by
  have a:=oa f i;cases h:(fm f)[i]? with
  |none=>
   have p:=List.getElem?_eq_none_iff.1 h;have e:dG f (i+1)=dG f i:=by unfold dG;rw[b6 Ω,b6 p]
   rw[e];exact⟨a.1,a.2.1,a.2.2.1,Ω⟩
  |some g=>
   rw[wQ h];obtain⟨h1,q,r,s⟩:=NX (dG f i) g;exact⟨h1.trans a.1,q.trans a.2.1,r.trans a.2.2.1,Ω⟩
def NY(w:x3)(f:bY)(v:x1)(w':x3):Prop:=Ext w w'/\((¬iS f.funs<=16384/\∃e:Int,e≠0/\v= .tuple #[.pointer ν,Δ e])\/∃a,v= .tuple #[Γ a,Δ 0]/\C5 w.heap.size w' a (cR f))
theorem eI{k:Nat}(h:cg w k v n cs):v.cells= #[v]/\v.oneCell'=true:=by
 obtain⟨_,_,_,_,_,rfl,_⟩:=h;exact⟨rfl,rfl⟩
theorem NZ{b1:Nat}{f:bY}(ct:ll w b1 f)(R:e0 N f)(cu:N<=60000)(cw:f.name≠[]/\∀b∈f.name,bN b=true):
  am x7 GM [Γ b1] w (NY w f):=by
 have hk:=R.k;refine az func57 ?_;refine(NU ct R cu cw).mono ?_;rintro _ V _ ⟨aC,⟨cz,e,he,rfl⟩|⟨aD,rfl,cA⟩⟩
 .rw[bm,bn,bC,al];exact⟨λ_=>⟨aC,.inl ⟨cz,e,he,rfl⟩⟩,λh=>absurd he h⟩
 rw[bm,bn,bC,al];refine⟨λh=>absurd rfl h,λ_=>?_⟩;obtain⟨szv,cD,gz,dy,M,bd,bh,b2,aQ,cF,cG,cH⟩:=id cA;have dz:M.length<=256:=by
  have h1:=(py R).2.length_eq;have ap:=(kC R).2.2;have aq:=R3 fl (fc f);have aR:=R.la;have dA:M.length=(fm f).length:=by rw[<-aQ,r8]
  omega
 have dC:=R.sizes.2.1;rw[cW (cs:=#[Γ aD,Δ 0,.slice ν 0 0,.slice ν 0 0]) Ψ];refine bf λG aa dD bj bk=>?_;have bk:af aa G fH [Γ aD,Δ 0,.slice ν 0 0,.slice ν 0 0]:=bk;rw[aS cB.p 2 (bd.ext bj) rfl,aX an.u (bh.ls.ext bj)];refine ck.range f.sizes.length (λi aE=>∃s H aW,Ext V aE/\af aE G fH [Γ aD,Δ 0,s,.slice ν 0 0]/\hG aE H s aW/\aW.map (·.l)=(f.sizes.take i).map (λz=>p8 z.toNat 0)/\(∀r,leadsTo s r->V.heap.size<=r)/\∀h∈aW,∀r,leads h.v r->V.heap.size<=r) Ω
  ⟨_,0,[],bj,bk,⟨bi.nil _ _ _ _ _,λx J=>(by cases J)⟩,rfl,λr q=>(e1 q).elim,λx J=>(by cases J)⟩ ?_ ?_
 .rintro i aE cI hi ⟨s,H,aW,ac,aV,bo,aF,aY,K⟩ cJ;obtain⟨z,B⟩:=aJ (l:=f.sizes) hi;have dE:=R.sizes.2.2 z (x5 B);have dF:aW.length=i:=by have:=congrArg S3 aF;simp only[r8,n9]at this;omega
  refine bM Ω ?_;rw[bg an.u ah.i Ψ (bh.ls.ext ac) B];intro dI bp _ _;have cK:=aV.ext bp;rw[aS fH.p 2 cK rfl];obtain⟨ad,rfl⟩:∃n:Nat,z=n:=⟨z.toNat,Ω⟩;refine jN (k:=.i64) ay.u au.i Ω Ω λaZ cL dJ bq cM=>?_;refine⟨.inl bq,?_⟩;have b3:av .i64 au cL aZ (.slice (σ ⟨aZ,0,ν⟩) ad ad) (p8 ad 0):=av.of (bV.full (k:=1) (n:=ad) cM Ξ (by simp[maxLen];omega));let a:ln:=⟨.slice (σ ⟨aZ,0,ν⟩) ad ad,p8 ad 0⟩;refine hE (f:=n5) (a:=a) ek.u ay.i Ω rfl rfl λdK dL br dM bt cN=>?_;refine⟨.inl (bq.trans bt),?_⟩;have a1:=(bp.trans bq).trans bt;have a2:=bo.ext a1;refine io (f:=n5) (a:=a) ek.u ay.i rfl a2.1 (by simpa using cN.sl) (λu hu=>by rw[o9.1 (show u∈[a.v]from hu)];rfl) Ω Ω λbw bz dN O bA b4=>?_;have aG:∀{r:Nat},leadsTo s r->∃c,af br r ay c:=λq=>by
   obtain⟨rfl,c,A⟩:=dS a2.1 q;exact⟨c,A⟩
  have bB:=aV.ext a1;have b5:=bB.ab b4 λhe=>cO a2.1 bB Φ he;rw[bU,aU fH.p rfl];refine bl ek.i (eI O.sl).1 (eI O.sl).2 b5 Ξ λcP b6 dO cQ=>?_;rw[aN];have bD:ai (λr=>leadsTo s r\/r=G) br cP:=(b4.mono λr _ h=>.inl h).trans (b6.mono λr _ h=>.inr h);have S:∀r,(leadsTo s r\/r=G)->∃e c,af br r e c/\e≠au:=λr q=>by
   rcases q with q|rfl
   .obtain⟨c,A⟩:=aG q;exact⟨_,c,A,Φ⟩
   .exact⟨_,_,bB,Φ⟩
  have b8:=aC.size;have z3:=ac.size;have dP:=a1.size;refine cJ _ ⟨bw,bz,aW++[a],(ac.trans a1).then bD (λr q he=>?_),cQ,⟨O.ab b6 λr q he=>?_,λy C=>?_⟩,?_,λr q=>?_,λy C r q=>?_⟩
  .rcases he with he|rfl
   .have:=aY r he;omega
   .omega
  .have he:r=G:=he;subst he;exact cO O b5 Φ q
  .rcases o5.1 C with C|C
   .exact a2.q4 bD S y C
   .rw[o9.1 C];have b9:=b3.ext bt;exact⟨aZ,bu b9 bD λr q U=>by
     obtain⟨e,c,A,cR⟩:=S r U;exact b7 b9 A (λhe=>cR he.symm) q rfl⟩
  .rw[Z4,aF,u9,B,j5,Z4];rfl
  .rcases bA r q with h|h
   .exact aY r h
   .omega
  .rcases o5.1 C with C|C
   .exact K y C r q
   .rw[o9.1 C]at q;have cS:=(bQ b3 q).1;have:=bp.size;omega
 .rintro aE cI ⟨s,H,aW,ac,aV,bo,aF,aY,K⟩;refine cE Ω ?_;rw[o7]at aF;have cT:=bd.ext ac;have cU:=b2.ext ac;rw[aS cB.p 3 cT rfl,ee dH.u cU.1];refine ck.range M.length (λi ae=>∃s E H gr aW L,Ext V ae/\af ae G fH [Γ aD,Δ (dG f i).zero,s,E]/\hG ae H s aW/\aW.map (·.l)=(dG f i).unary/\md ae w.heap.size gr E f.k f.sizes L/\L.map dT=(dG f i).funs/\(∀r,leadsTo s r\/leadsTo E r->V.heap.size<=r)/\∀h∈aW,∀r,leads h.v r->V.heap.size<=r) Ω
   ⟨s,_,H,0,aW,[],ac,aV,bo,aF,⟨bi.nil _ _ _ _ _,λx J=>(by cases J)⟩,rfl,λr q=>q.elim (aY r) λh=>(e1 h).elim,K⟩ ?_ ?_
  rotate_left
  .rintro ae cX ⟨s,E,H,gr,aW,L,P,a6,bE,ag,bF,aj,W,K⟩;refine cE Ω ?_;have cY:M.length=(fm f).length:=by rw[<-aQ,r8]
   have aH:=oa f M.length;rw[cY,q6]at a6 ag aj aH;have b8:=aC.size;refine⟨aC.trans P,.inr ⟨G,rfl,NV (gr:=gr) (nm:=bI f.name) (szv:=szv) (gz:=gz) (fv2:=cD) a6 ?_ ?_ bE ag ?_ aj Ω cF cG (λr q=>by have:=W r q;omega) λh aB r q=>by have:=K h aB r q;omega⟩⟩
   .rw[aH.1];exact bd.ext P
   .rw[aH.2.1];exact bh.ext P
   .rw[aH.1,aH.2.1];exact bF
  rintro i ae cX hi ⟨s,E,H,gr,aW,L,P,a6,bE,ag,bF,aj,W,K⟩ cZ;obtain⟨y,C⟩:=aJ (l:=M) hi;have c0:(fm f)[i]?=σ (dT y):=by rw[<-aQ,x8,C];rfl
  have a7:fP f.sizes f.k (dT y):=tm R _ (wP aQ C);have bG:=b2.ext P;obtain⟨dR,dU,dV,dW⟩:=oa f i;refine bM Ω ?_;refine da (λaI=>∃s E H gr aW L,Ext V aI/\af aI G fH [Γ aD,Δ (dG f (i+1)).zero,s,E]/\hG aI H s aW/\aW.map (·.l)=(dG f (i+1)).unary/\md aI w.heap.size gr E f.k f.sizes L/\L.map dT=(dG f (i+1)).funs/\(∀r,leadsTo s r\/leadsTo E r->V.heap.size<=r)/\∀h∈aW,∀r,leads h.v r->V.heap.size<=r) ?_ ?_
  .rintro aI h;rw[aN];exact cZ _ h
  intro aA bH;have c1:=bG.2 y (x5 C);obtain⟨⟨c2,bJ⟩,m,o,D,c3,dX,c4⟩:=c1;rw[dr rfl dH.u cC.i bG.1 hi,bP cC.p cC.i rfl (bG.1.range C)];refine bx cC.i λao dY dZ c6 c7=>?_;refine ci (vs:=ev y) cC.i rfl rfl (tH bJ) c7 λc8 c9 ea ca=>?_;have bK:Ext ae c8:=c6.put c9 Ω;rw[aT cC.p 1 ca rfl];refine(CE (c3.ext bK) Ω).mono ?_;rintro _ eb _ ⟨cb,_,aw⟩;obtain⟨g,db,dc,dd,rfl,ec,de,aw,df⟩:=aw a7.small;have dg:dQ (bX f.sizes y.sc):=aw.2.2.1.2;have dh:dd=y.cs:=iq.eq dg df c4;subst dh;have X:=bK.trans cb;have bL:=ca.ext cb;have bO:=bJ.ext X;rw[bm,bn,aT cC.p 0 bL rfl,aX an.u bO.ls];have b8:=aC.size;have z9:=P.size;have ed:=X.size;have bR:=a6.ext X;have bS:=bE.ext X;have bT:=bF.ext X;have bW:=wQ c0;rw[be,al];refine⟨λef=>?_,λeg=>?_⟩
  .
   have ak:y.sc=[]:=j6 Ω;have I:dG f (i+1)={dG f i with zero:=y.cs.getD 0 0}:=by rw[bW];unfold iU;simp only[dT,ak]
   refine(mR aw).mono ?_;rintro cc di _ ⟨a8,eh,ei,dj⟩;have ej:y.cs.length=1:=by have:=a7.len;simpa[dT,ak,bX,aO]using this
   have dk:y.cs[0]?=σ (y.cs.getD 0 0):=by rw[u4,x6 Ω];rfl
   rw[fY (y:=0) (i:=0) rfl ay.u au.i Ψ dj.ls dk,bU,aU fH.p rfl];have cd:=bR.ext a8;refine bl au.i rfl rfl cd Ξ λem bZ en dl=>?_;have S:∀r,r=G->∃e c,af di r e c/\e≠hq/\e≠cV/\e≠ah/\e≠au/\e≠ay:=λr q=>by
    subst q;exact⟨_,_,cd,Φ,Φ,Φ,Φ,Φ⟩
   refine bH _ ⟨s,E,H,gr,aW,L,((P.trans X).trans a8).put bZ Ω,?_,(bS.ext a8).ab bZ (λr q=>?_),by rw[I];exact ag,(bT.ext a8).ab bZ (λr q=>?_),by rw[I];exact aj,W,K⟩
   .rw[I];exact dl
   .obtain⟨e,c,A,_,_,_,h1,ap⟩:=S r q;exact⟨e,c,A,h1,ap⟩
   .obtain⟨e,c,A,h1,ap,aq,aR,_⟩:=S r q;exact⟨e,c,A,h1,ap,aq,aR⟩
  rw[be,al];refine⟨λh1=>?_,λeo=>?_⟩
  .
   obtain⟨v,ak⟩:∃v,y.sc=[v]:=W6.1 Ω;have ep:=a7.scope.1 v (by show v∈y.sc;rw[ak];exact .head _);have er:=a7.vars v (by show v∈y.sc;rw[ak];exact .head _);have I:dG f (i+1)={dG f i with unary:=(dG f i).unary.set v.toNat y.cs}:=by rw[bW];unfold iU;simp only[dT,ak]
   intro es Y _ _;have ce:=bR.ext Y;have dm:=bL.ext Y;rw[aS fH.p 2 ce rfl,aT cC.p 0 dm rfl];refine qq (y:=0) (i:=0) rfl an.u ah.i (bO.ls.ext Y) (show y.sc[0]?=σ v by rw[ak];rfl) λb o dn=>?_;rw[ax Ψ dn];refine(mR (aw.ext Y)).mono ?_;rintro cc dp _ ⟨aK,dq,et,aL⟩;refine⟨.inl aK,?_⟩;have aM:=(bS.ext Y).ext aK;have eu:aW.length=f.sizes.length:=by have:=congrArg S3 ag;rw[r8]at this;omega
   obtain⟨u,hu⟩:=aJ (l:=aW) (i:=v.toNat) Ω;rw[dr (i:=v.toNat) Ω ek.u ay.i aM.1 Ω];let a:ln:=⟨cc,y.cs⟩;refine pr (f:=n5) (j:=0) (a:=u) (a':=a) ay.i aL.ls.cells.1 aL.ls.cells.2 aM.1 hu rfl Ω λew aP ey ds=>?_;have cg:=ce.ext aK;have aG:∀{r:Nat},leadsTo s r->∃c,af dp r ay c:=λq=>by
    obtain⟨rfl,c,A⟩:=dS aM.1 q;exact⟨c,A⟩
   refine bH _ ⟨s,E,H,gr,aW.set v.toNat a,L,(((P.trans X).trans Y).trans aK).then aP (λr q he=>by have:=W r (.inl he);omega),?_,⟨ds,λz B=>?_⟩,?_,((bT.ext Y).ext aK).ab aP (λr q=>?_),by rw[I];exact aj,W,λz B r q=>?_⟩
   .rw[I];exact cg.ab aP λhe=>cO aM.1 cg Φ he
   .rcases X9 B with B|rfl
    .exact aM.q4 aP (λr q=>by obtain⟨c,A⟩:=aG q;exact⟨_,c,A,Φ⟩) z B
    .exact⟨dq,bu aL aP λr q U=>by
      obtain⟨c,A⟩:=aG U;exact b7 aL A Φ q rfl⟩
   .rw[I,U4,ag]
   .obtain⟨c,A⟩:=aG q;exact⟨_,c,A,Φ,Φ,Φ,Φ⟩
   .rcases X9 B with B|rfl
    .exact K z B r q
    .have cS:=(bQ aL q).1;have:=Y.size;omega
  .
   have I:dG f (i+1)={dG f i with funs:=(dG f i).funs++[dT y]}:=by
    rw[bW];unfold iU;have ch:2<=(dT y).1.length:=by show 2<=y.sc.length;omega
    generalize dT y=g at ch ⊢;obtain⟨sc,cs⟩:=g
    match sc,ch with
    |_::_::_,_=>rfl
   intro ez Z _ _;have cj:=bR.ext Z;have dt:=bL.ext Z;have cl:=bO.ext Z;rw[aS fH.p 3 cj rfl,aT cC.p 0 dt rfl,cW (cs:=#[y.sv,Γ g]) (by obtain⟨_,_,_,e⟩:=c5 bJ.ls;rw[e];kernel_rfl)];let a:cr:=⟨y.sv,g,y.sc,y.cs⟩;refine hE (f:=ev) (a:=a) k1.u hq.i Ω rfl rfl λeA eB ba eC Q du=>?_;refine⟨.inl Q,?_⟩;have bb:=(bT.ext Z).ext Q;have dv:=(bS.ext Z).ext Q;have b0:=cj.ext Q;have eD:L.length<=256:=by have:=congrArg S3 aj;rw[r8]at this;omega
   refine io (f:=ev) (a:=a) k1.u hq.i rfl bb.1 (by simpa using du.sl) (tH (cl.ext Q)) Ω Ω λbw bz eE O bA cm=>?_;have cn:=b0.ab cm λhe=>cO bb.1 b0 Φ he;rw[bU,aU fH.p rfl];refine bl k1.i (eI O.sl).1 (eI O.sl).2 cn Ξ λdw cp eF dx=>?_;have bc:ai (λr=>leadsTo E r\/r=G) ba dw:=(cm.mono λr _ h=>.inl h).trans (cp.mono λr _ h=>.inr h);have S:∀r,(leadsTo E r\/r=G)->∃e c,af ba r e c/\e≠cV/\e≠ah/\e≠au/\e≠ay:=λr q=>by
    rcases q with q|rfl
    .obtain⟨rfl,c,A⟩:=dS bb.1 q;exact⟨_,c,A,Φ,Φ,Φ,Φ⟩
    .exact⟨_,_,b0,Φ,Φ,Φ,Φ⟩
   have eH:=(Z.trans Q).size;refine bH _ ⟨s,bw,H,bz,aW,L++[a],(((P.trans X).trans Z).trans Q).then bc (λr q he=>?_),?_,dv.ab bc (λr q=>?_),by rw[I];exact ag,⟨O.ab cp λr q he=>?_,λz B=>?_⟩,?_,λr q=>?_,K⟩
   .rcases he with he|rfl
    .have:=W r (.inr he);omega
    .omega
   .rw[I];exact dx
   .obtain⟨e,c,A,_,_,aq,aR⟩:=S r q;exact⟨e,c,A,aq,aR⟩
   .have he:r=G:=he;subst he;exact cO O cn Φ q
   .have cq:∀r,(leadsTo E r\/r=G)->∃e c,af ba r e c/\e≠cV/\e≠ah/\e≠au:=λr q=>by
     obtain⟨e,c,A,h1,ap,aq,_⟩:=S r q;exact⟨e,c,A,h1,ap,aq⟩
    rcases o5.1 B with B|B
    .exact (bb.2 z B).ab bc cq
    .rw[o9.1 B];have eJ:=bK.size;refine q5.ab (w:=ba) ⟨⟨c2,cl.ext Q⟩,⟨db,dc,?_,Ω,λr q=>by have:=de.2 r q;omega⟩,by show w.heap.size<=g;omega,cH y (x5 C)⟩ bc cq;exact(aw.ext Z).ext Q
   .rw[I,Z4,aj];rfl
   .rcases q with q|q
    .exact W r (.inl q)
    .rcases bA r q with h|h
     .exact W r (.inr h)
     .omega
theorem wR{z:Array x1}{k:Nat}(a:z.size=k):(Z3.zeroCells z n).toList=dO z (n*k):=by
 unfold Z3.zeroCells dO;rw[a]
theorem N0{P:W5}{t p A:p9}{B kn:o6}{b g k m:Nat}{z:x1}{xs:List x1}(X:y=(m:Int))(M:P.underlying t=σ (.slice e))(N:P.underlying p=σ (.int kn))(hi:aQ P e k b z)(C:z.cells.size=k)(av:0<k)(h1:∀u∈dO z.cells (m*k),u.oneCell'=true)(h:bV w g e k v n xs)(Y:0<m)(Z:(n+m)*b<=140737488355328)(aa:n+m<=9223372036854775807)(O:∀E ac w',bV w' ac e k E (n+m) (xs++dO z.cells (m*k))->(∀r,leadsTo E r->leadsTo v r\/w.heap.size<=r)->ai (λr=>leadsTo v r) w w'->K E w'):aD P (Z0 #[t,p] A #[v,.int B y]) w K:=by
 subst X;obtain⟨i,hi,F,rfl,Q⟩:=hi;obtain⟨R,hm⟩:=h;have ae:=nI z.cells (m*k);have ag:m*i.bytes<=281474976710656:=by
  have:m*i.bytes<=(n+m)*i.bytes:=X8 _ Ω;omega
 have grow:∀(base:Option Addr)(cap:Nat),v= .slice base n cap->(Z3.firstCells i.size n (.slice base n cap)).run P w.drew= .ok xs.toArray w.drew->cap<n+m->aD P (Z0 #[t,p] A #[v,.int B (m:Int)]) w K:=λbase cap ad ah f=>by
  subst ad;have G:=Lib.run_append_grow_zeros (P:=P) w t p A e i z B kn M N hi Q base n cap xs ah m Y Ω f Ω ag (growslice_fits f Z);have S:n+m<=grownCap w (n+m) cap e:=grownCap_ge w _ _ _;have aj:grownCap w (n+m) cap e<=maxLen:=grownCap_le_maxLen w (n+m) cap e (by simpa[maxLen]using aa);have aw:=nI z.cells ((grownCap w (n+m) cap e-(n+m))*k);have ax:(n+m)*k<=grownCap w (n+m) cap e*k:=X8 _ S;have ak:(n+m)*k=n*k+m*k:=U2 _ _ _;have ay:(grownCap w (n+m) cap e-(n+m))*k=grownCap w (n+m) cap e*k-(n+m)*k:=Nat.sub_mul _ _ _;refine .of G ((pV w _ (Nat.le_succ _)).trans (pX _ _)) (O _ w.heap.size _ ⟨by rw[r9];omega,.inr ⟨_,xs++dO z.cells (m*k)++dO z.cells ((grownCap w (n+m) cap e-(n+m))*k),rfl,?_,S,aj,?_,?_⟩⟩ (λr H=>?_) (((rL w _).trans (pW _ _)).ab _))
  .have:=heap_alloc_new w.drew (.cells (xs.toArray++Z3.zeroCells z.cells m++Z3.zeroCells z.cells (grownCap w (n+m) cap e-(n+m))) e);unfold af;rw[show w.drew.heap.size=w.heap.size from rfl]at this;rw[this];congr 2;apply Array.toList_inj.1;rw[Array.toList_append,Array.toList_append,wR C,wR C]
  .rw[r9,r9];omega
  .rw[List.take_append_of_le_length (by rw[r9];omega),b6 (by rw[r9];omega)]
  .obtain⟨a,al,c,q,s⟩:=H;cases q;exact .inr (by simp at s;omega)
 rcases hm with⟨rfl,am⟩|⟨cap,cs,rfl,x,q,s,I,T⟩
 .subst am;have:xs=[]:=j6 (by simpa using R);subst this;exact grow ν 0 rfl (run_firstCells_none w.drew i.size 0 0 0) Ω
 .by_cases f:n+m<=cap
  .have U:(n+m)*k<=cs.length:=by rw[I];exact X8 _ f
   have ak:(n+m)*k=n*k+m*k:=U2 _ _ _;have J:=run_storeCells_cells (P:=P) g (0+n*k) (dO z.cells (m*k)) 0 w (λj V=>by
    rw[ae]at V;rw[Nat.add_zero,X2,x.cell (x6 (show n*k+j<cs.length by omega))];rfl) (λj _=>x.frozen _ _) h1
   simp only[Nat.add_zero]at J;have hw:X5.wrap (m:Int)=m:=by rw[o6.wrap_i64];omega
   have an:¬((m:Int)<0):=Ω
   have ao:¬(281474976710656<(m:Int)*(i.bytes:Int)):=by rw[<-Int.natCast_mul];omega
   have L:¬(m*i.size=0):=Nat.mul_ne_zero Ω Ω;have ap:(Z3.zeroCells z.cells m).toList=dO z.cells (m*k):=wR C;have G:(Z0 #[t,p] A #[.slice (σ ⟨g,0,ν⟩) n cap,.int B (m:Int)]).run P w= .ok (.slice (σ ⟨g,0,ν⟩) (n+m) cap) (w.setCells g (0+n*k) (dO z.cells (m*k))):=by
    simp[Z0,run_underlying M,run_underlying N,sizeOf,typeInfo,zeroValue,hi,Q,asInt,asIntOf,hw,f,an,L,ao,ap,Addr.add_lit,F];simp only[X2]at J;rw[J];simp;intro aq;exact absurd aq (by rw[F]at L;exact L)
   obtain⟨au,W⟩:=nH (dO z.cells (m*k)) cs (0+n*k) w x;refine .of G (W.ct x) (O _ g _ ⟨by rw[r9];omega,.inr ⟨cap,_,rfl,au,f,s,by rw[k4,I],?_⟩⟩ (λr H=>.inl ?_) (W.ab.mono λr _ he=>⟨_,_,_,rfl,he.symm⟩))
   .rw[tb Ω U,mF (by rw[n9];omega),X2,List.take_take,List.drop_eq_nil_of_le (by rw[n9];omega),W8,Nat.min_eq_left Ω,T]
   .obtain⟨a,al,c,q,s⟩:=H;cases q;exact⟨_,_,_,rfl,s⟩
  .refine grow _ cap rfl ?_ Ω;have U:n*k<=cs.length:=by rw[I];exact X8 _ q
   refine run_firstCells_some w.drew i.size n _ n cap xs (by rw[F];exact R) λj u hu=>?_;rw[U7,X2];have V:=(x4.1 hu).1;rw[<-T,Z7 Ω]at hu;exact x.cell hu
def iu(c:Cell):List x1:=[Δ c.v,.int .u64 (c.st:Int)]
def ob(o:k8):List x1:=[Δ (o.i:Int),Δ o.c.v,.int .u64 (o.c.st:Int)]
def oc(m:sJ):List x1:=[Δ (m.olds:Int),Δ (m.cells:Int),.int .u64 (m.st:Int)]
def dv(w:x3)(gT:Nat)(A:aj)(t:aC):Prop:=A gT/\∃e go dh a6 a dJ,af w gT fG [a6,a,dJ,.int .u64 (t.ii:Int)]/\bi iu 2 eC w e a6 t.cells/\bi ob 3 k2 w go a t.olds/\bi oc 3 gu w dh dJ t.marks/\
 ∀r,leadsTo a6 r\/leadsTo a r\/leadsTo dJ r->A r
theorem dv.ab{S A:aj}{t:aC}(h:dv w gT A t)(e:ai S w w')(f:∀r,A r->¬S r):dv w' gT A t:=by
 obtain⟨q,s,go,dh,a6,x,dJ,h1,y,z,B,p⟩:=h;exact⟨q,s,go,dh,a6,x,dJ,h1.ab e (f _ q),y.ab e λr a=>f r (p r (.inl a)),z.ab e λr a=>f r (p r (.inr (.inl a))),B.ab e λr a=>f r (p r (.inr (.inr a))),p⟩
theorem dv.ext{A:aj}{t:aC}(h:dv w gT A t)(J:Ext w w'):dv w' gT A t:=h.ab (J.ab λ_=>False) λ_ _ h=>h
theorem dv.mono{A B:aj}{t:aC}(h:dv w gT A t)(a:∀r,A r->B r):dv w gT B t:=by
 obtain⟨e,f,go,dh,a6,p,dJ,h1,q,s,x,y⟩:=h;exact⟨a _ e,f,go,dh,a6,p,dJ,h1,q,s,x,λr z=>a r (y r z)⟩
def Grow(A:aj)(w:x3)(aP:aj)(w':x3):Prop:=ai A w w'/\(∀r,aP r->A r\/w.heap.size<=r)/\∀r,A r->aP r
theorem Grow.refl(A:aj)(w:x3):Grow A w A w:=⟨ai.refl _ _,λ_ h=>.inl h,λ_ h=>h⟩
theorem Grow.ext{A:aj}(h:Ext w w'):Grow A w A w':=⟨h.ab _,λ_ h=>.inl h,λ_ h=>h⟩
theorem Grow.trans{A aP e:aj}{f:x3}(h:Grow A w aP w')(k:Grow aP w' e f):Grow A w e f:=
 ⟨⟨Y8 h.1.size k.1.size,λr o a U p=>k.1.aZ r o (h.1.aZ r o a U p) U λq=>(h.2.1 r q).elim p λs=>by
  have:=(l9.1 a).1;omega⟩,λr a=>by
  rcases k.2.1 r a with h1|h1
  .exact h.2.1 r h1
  .have:=h.1.size;exact .inr Ω,λr a=>k.2.2 r (h.2.2 r a)⟩
theorem C7{A:aj}{t:aC}(h:dv w gT A t):am x7 HZ [Γ gT] w λv w'=>v=Δ (t.cells.length:Int)/\Ext w w':=by
 obtain⟨e,f,go,dh,a6,q,dJ,h1,a,r,s,x⟩:=h;refine az func174 ?_;rw[de qf.u];simp only[Z5,a1];rw[aS fG.p 0 h1 rfl,ee ie.u a];exact⟨rfl,Ext.refl _⟩
theorem C8{A:aj}{t:aC}{i:Int}(h:dv w gT A t):am x7 G9 [Γ gT,Δ i] w λv w'=>v= .bool (decide (0<=i/\i<t.cells.length))/\Ext w w':=by
 refine az func88 ?_;refine aV (λv V=>v= .bool (decide (0<=i/\i<t.cells.length))/\Ext w V) (λ_ _ h=>h) ?_;intro aA a;rw[cM,al];refine⟨λe=>?_,λe=>a _ _ ⟨by rw[decide_eq_false];omega,Ext.refl _⟩⟩;refine(C7 h).mono ?_;rintro _ V _ ⟨rfl,J⟩;rw[aR];refine a _ _ ⟨?_,J⟩;congr 1;rw[V9,decide_eq_true_eq,decide_eq_true_eq];exact⟨λh=>⟨Ω,h⟩,λh=>h.2⟩
theorem N1{A:aj}{t:aC}{i:Nat}{c:Cell}(h:dv w gT A t)(f:y=(i:Int))(a:t.cells[i]?=σ c):am x7 zo [Γ gT,Δ y] w λv w'=>v=Δ c.v/\Ext w w':=by
 have q:=(x4.1 a).1;refine az func43 ?_;refine(C8 h).mono ?_;rintro _ V _ ⟨rfl,J⟩;rw[decide_eq_true Ω,bH,X1,a1];obtain⟨r,s,go,dh,a6,x,dJ,h1,e,z,B,C⟩:=h.ext J;rw[aS fG.p 0 h1 rfl,dr f ie.u eC.i e q,aU eC.p rfl,ax Ψ (e.range a 0 _ rfl)];exact⟨rfl,J⟩
theorem od{A:aj}{t:aC}{i:Nat}{x:Int}(h:dv w gT A t)(e:y=(i:Int))(a:t.bT[i]?=σ x):am x7 zo [Γ gT,Δ y] w λv w'=>v=Δ x/\Ext w w':=by
 unfold aC.bT at a;rw[x8]at a;obtain⟨c,f,rfl⟩:=Y7.1 a;exact N1 h e f
def mV(t:aC):Prop:=t.cells.length<=100000000/\t.olds.length<=100000000/\t.marks.length<=100000000
theorem tI{s go dh:Nat}{a6 a dJ:x1}{t:aC}{x:x1}(h1:af w gT fG [a6,a,dJ,x])(f:bi iu 2 eC w s a6 t.cells)(h:bi ob 3 k2 w go a t.olds)(p:bi oc 3 gu w dh dJ t.marks):
  (¬leadsTo a6 gT/\¬leadsTo a gT/\¬leadsTo dJ gT)/\(∀r,leadsTo a6 r->¬leadsTo a r/\¬leadsTo dJ r)/\∀r,leadsTo a r->¬leadsTo a6 r/\¬leadsTo dJ r:=by
 refine⟨⟨cO f h1 Φ,cO h h1 Φ,cO p h1 Φ⟩,λr q=>?_,λr q=>?_⟩
 .obtain⟨rfl,c,e⟩:=dS f q;exact⟨cO h e Φ,cO p e Φ⟩
 .obtain⟨rfl,c,e⟩:=dS h q;exact⟨cO f e Φ,cO p e Φ⟩
theorem tJ{A:aj}{t:aC}{i:Nat}{x:Int}(h:dv w gT A t)(bm:y=(i:Int))(O:i<t.cells.length)(ap:mV t):am x7 zz [Γ gT,Δ y,Δ x] w λv w'=>v=Δ 0/\∃aP,Grow A w aP w'/\dv w' gT aP (t.set i x):=by
 subst bm;obtain⟨c,E⟩:=aJ (l:=t.cells) O;refine az func124 ?_;rw[de qf.u];simp only[Z5,a1];refine(C8 h).mono ?_;rintro _ V _ ⟨rfl,J⟩;rw[decide_eq_true Ω,bH,X1,a1];obtain⟨aQ,L,go,dh,a6,P,dJ,h1,aW,aq,X,Y⟩:=id (h.ext J);have bn:∀{aa:x3}{aP:aj}{bq:aC}{st:Nat}{K:x3->Prop},dv aa gT aP bq->bq.cells[i]?=σ ⟨c.v,st⟩->
   (∀q,ai aP aa q->dv q gT aP {bq with cells:=bq.cells.set i ⟨x,st⟩}->K q)->
   (ac x7 (bO (Γ gT)) aa λt77=>
   ac x7 (u6 fG t77 0) aa λbo=>
   ac x7 (u5 ie bo) aa λbp=>
   ac x7 (c7 ie bp (Δ (i:Int))) aa λbr=>
   ac x7 (u6 eC br 0) aa λbt=>
   aD x7 (o8 au bt (Δ x)) aa λ(_:Unit)q=>
   K q):=by
  intro aa aP bq st K av Z bu;obtain⟨aw,L,go,dh,a6,P,dJ,G,H,Q,R,S⟩:=av;have bw:=(x4.1 Z).1;rw[aS fG.p 0 G rfl,dr rfl ie.u eC.i H bw,aU eC.p rfl];obtain⟨⟨U,ay,aB⟩,I,_⟩:=tI G H Q R;refine pr (f:=iu) (j:=0) (a:=⟨c.v,st⟩) (a':=⟨x,st⟩) au.i rfl rfl H Z rfl Ω λq B bz bA=>?_;exact bu q (B.mono λr _ e=>S r (.inl e)) ⟨aw,L,go,dh,a6,P,dJ,G.ab B U,bA,Q.ab B λr e he=>(I r he).1 e,R.ab B λr e he=>(I r he).2 e,S⟩
 refine da (λaa=>∃aP bq st,Grow A V aP aa/\dv aa gT aP bq/\bq.cells[i]?=σ ⟨c.v,st⟩/\t.set i x={bq with cells:=bq.cells.set i ⟨x,st⟩}) ?_ ?_
 .rintro aa ⟨aP,bq,st,bB,av,Z,aE⟩;refine bn av Z λq B aq=>⟨by trivial,aP,?_,by rw[aE];exact aq⟩;exact(Grow.ext J).trans (bB.trans ⟨B,λ_ h=>.inl h,λ_ h=>h⟩)
 intro aA aF;rw[aS fG.p 2 h1 rfl,ee sq.u X,bL,al];have aX:∀(hm:t.marks.getLast? =ν\/∃m,t.marks.getLast? =σ m/\¬(c.st<m.st/\i<m.cells)),t.set i x={t with cells:=t.cells.set i ⟨x,c.st⟩}:=λhm=>by
  unfold aC.set;rw[E];rcases hm with hm|⟨m,hm,bC⟩
  .simp only[hm]
  .simp only[hm];rw[if_neg bC]
 refine⟨λbZ=>?_,λb0=>aF _ ⟨A,t,c.st,Grow.refl _ _,h.ext J,E,aX (.inl ?_)⟩⟩
 rotate_left
 .rw[List.getLast?_eq_none_iff];exact j6 Ω
 obtain⟨m,hm⟩:=aJ (l:=t.marks) (i:=t.marks.length-1) Ω;have aY:t.marks.getLast? =σ m:=by rw[List.getLast?_eq_getElem?];exact hm
 have b1:=ap.2.2;rw[aS fG.p 2 h1 rfl,dN,wrap_i64 Ω Ω,dr (i:=t.marks.length-1) Ω sq.u gu.i X Ω,bP gu.p gu.i rfl (X.range hm)];refine bx gu.i λao aa b2 aZ bD=>?_;refine ci (vs:=oc m) gu.i rfl rfl (by intro v ad;simp[oc]at ad;rcases ad with rfl|rfl|rfl<;>rfl) bD λq B bz bE=>?_;have a2:Ext V q:=aZ.put B Ω;have ae:∀{w':x3},Ext q w'->af w' ao gu (oc m):=λJ=>bE.ext J;refine aV (λv aG=>v= .bool (decide (c.st<m.st/\i<m.cells))/\Ext q aG) ?_ ?_
 rotate_left
 .intro b3 a7;intro aG s _ _;have M:=a2.trans s;have a8:=ae s;have N:=aW.ext M;rw[aS fG.p 0 (h1.ext M) rfl,dr rfl ie.u eC.i N O,aU eC.p rfl,ax Ψ (N.range E 1 _ rfl),aT gu.p 2 a8 rfl,aR,al];refine⟨λba=>?_,λbb=>a7 _ _ ⟨by rw[decide_eq_false];omega,s⟩⟩;rw[aT gu.p 1 a8 rfl,aR];refine a7 _ _ ⟨?_,s⟩;congr 1;rw[V9,decide_eq_true_eq,decide_eq_true_eq];exact⟨λh=>⟨Ω,Ω⟩,λh=>Ω⟩
 rintro _ aG ⟨rfl,s⟩;have M:=a2.trans s;rw[al];refine⟨λba=>?_,λbb=>aF _ ⟨A,t,c.st,Grow.ext M,(h.ext J).ext M,E,aX (.inr ⟨m,aY,bb⟩)⟩⟩;intro b4 ag _ _;have W:=M.trans ag;have aH:=h1.ext W;have N:=aW.ext W;have bF:=aq.ext W;have bG:=X.ext W;rw[bU,aU fG.p rfl,ax Ψ (aH.cell (o:=0+1) rfl),bU,aU fG.p rfl,ax Ψ (aH.cell (o:=0+0) rfl),dr rfl ie.u eC.i N O,bP eC.p eC.i rfl (N.range E)];rw[cW (cs:=#[Δ (i:Int),Δ c.v,.int .u64 (c.st:Int)]) Ψ];let a:k8:=⟨i,c⟩;have bI:∀u∈ob a,u.oneCell'=true:=by intro v ad;simp[ob]at ad;rcases ad with rfl|rfl|rfl<;>rfl
 refine hE (f:=ob) (a:=a) nD.u k2.i Ω rfl rfl λb5 b6 bc b7 z bJ=>?_;refine⟨.inl z,?_⟩;have bd:=W.trans z;have aI:=aH.ext z;have be:=N.ext z;have aK:=bF.ext z;have bf:=bG.ext z;obtain⟨⟨U,ay,aB⟩,I,bK⟩:=tI aI be aK bf;refine io (f:=ob) (a:=a) nD.u k2.i rfl aK (by simpa using bJ.sl) bI (by have:=ap.2.1;omega) (by have:=ap.2.1;omega) λaL bg b9 ah bM bh=>?_;rw[bU,aU fG.p rfl];have bj:=aI.ab bh ay;refine bl nD.i (eI ah.sl).1 (eI ah.sl).2 bj Ξ λC bk ca aM=>?_;have aM:af C gT fG [a6,aL,dJ,.int .u64 (t.ii:Int)]:=aM;have ak:ai (λr=>leadsTo P r\/r=gT) bc C:=(bh.mono λr _ h=>.inl h).trans (bk.mono λr _ h=>.inr h);have bN:bi iu 2 eC C L a6 t.cells:=be.ab ak λr e he=>he.elim (λhe=>(I r e).1 he) λhe=>U (he▸e);have bQ:bi oc 3 gu C dh dJ t.marks:=bf.ab ak λr e he=>he.elim (λhe=>(bK r he).2 e) λhe=>aB (he▸e);have bR:bi ob 3 k2 C bg aL (t.olds++[a]):=ah.ab bk λr e he=>by
  have he:r=gT:=he;subst he;exact cO ah bj Φ e
 have cb:=bd.size;have cc:=aZ.size;let aN:aj:=λr=>A r\/bc.heap.size<=r;have bS:Grow A V aN C:=⟨(bd.ab A).trans (ak.mono λr _ he=>he.elim (λhe=>Y r (.inr (.inl he))) λhe=>he▸aQ),λr e=>e.imp id λe=>Ω,λr e=>.inl e⟩;have bT:dv C gT aN {t with olds:=t.olds++[a]}:=⟨.inl aQ,L,bg,dh,a6,aL,dJ,aM,bN,bR,bQ,λr e=>by
  rcases e with e|e|e
  .exact .inl (Y r (.inl e))
  .rcases bM r e with h|h
   .exact .inl (Y r (.inr (.inl h)))
   .exact .inr h
  .exact .inl (Y r (.inr (.inr e)))⟩
 have bV:af C ao gu (oc m):=(ae ((s.trans ag).trans z)).ab ak λhe=>by
  rcases he with he|he
  .obtain⟨rfl,cd,bW⟩:=dS aK he;exact absurd (eH bW (ae ((s.trans ag).trans z))) Φ
  .subst he;exact absurd (eH aI (ae ((s.trans ag).trans z))) Φ
 intro ce aO _ _;have bX:=bT.ext aO;obtain⟨aw,L,go,dh,a6,P,dJ,G,H,Q,R,S⟩:=bX;rw[aS fG.p 0 G rfl,aT gu.p 2 (bV.ext aO) rfl,dr rfl ie.u eC.i H O,aU eC.p rfl];obtain⟨⟨U,ay,aB⟩,I,_⟩:=tI G H Q R;refine pr (f:=iu) (j:=1) (a:=c) (a':=⟨c.v,m.st⟩) fF.i rfl rfl H E rfl Ω λcg an ch bY=>?_;have aE:t.set i x={t with olds:=t.olds++[a],cells:=t.cells.set i ⟨x,m.st⟩}:=by
  unfold aC.set;rw[E];simp only[aY];rw[if_pos ba]
 refine aF _ ⟨aN,{t with olds:=t.olds++[a],cells:=t.cells.set i ⟨c.v,m.st⟩},m.st,bS.trans ((Grow.ext aO).trans ⟨an.mono λr _ e=>S r (.inl e),λ_ h=>.inl h,λ_ h=>h⟩),⟨aw,L,go,dh,a6,P,dJ,G.ab an U,bY,Q.ab an λr e he=>(I r he).1 e,R.ab an λr e he=>(I r he).2 e,S⟩,?_,?_⟩
 .show (t.cells.set i _)[i]?=_;rw[b8 O]
 .rw[aE];simp only[List.set_set]
theorem C9(n:Nat):dO (#[Δ 0,.int .u64 0]:Array x1) (n*2)=(p8 n (⟨0,0⟩:Cell)).flatMap iu:=by
 have:∀n,dO (#[Δ 0,.int .u64 0]:Array x1) (n*2)=(p8 n (⟨0,0⟩:Cell)).flatMap iu:=by
  intro n;apply Y3;intro j;have q:((p8 n (⟨0,0⟩:Cell)).flatMap iu).length=n*2:=by simp[iu]
  by_cases e:j<n*2
  .have p:(dO (#[Δ 0,.int .u64 0]:Array x1) (n*2))[j]?=σ (if j % 2=0 then Δ 0 else .int .u64 0):=by
    unfold dO;rw[S6,Array.getElem?_map,Array.getElem?_range,if_pos e];rcases Nat.mod_two_eq_zero_or_one j with h|h<;>simp[h]
   have ag:=pq (f:=iu) (k:=2) (L:=p8 n (⟨0,0⟩:Cell)) (i:=j / 2) (j:=j % 2) (a:=⟨0,0⟩) (v:=if j % 2=0 then Δ 0 else .int .u64 0) (λa _=>rfl) (by rw[List.getElem?_replicate,if_pos Ω]) (by rcases Nat.mod_two_eq_zero_or_one j with h|h<;>simp[h,iu]);rw[show j / 2*2+j % 2=j by omega]at ag;rw[p,ag]
  .rw[Z2 (by rw[nI];omega),Z2 Ω]
 exact this n
theorem N2{A:aj}{t:aC}(h:dv w gT A t)(S:mV t)(ac:n<=100000000):am x7 Ip [Γ gT,Δ (n:Int)] w λv w'=>v=Δ (t.cells.length:Int)/\∃aP,Grow A w aP w'/\dv w' gT aP (t.grow n):=by
 refine az func209 ?_;refine(C7 h).mono ?_;rintro _ V _ ⟨rfl,J⟩;refine da (λaa=>∃aP,Grow A w aP aa/\dv aa gT aP (t.grow n)) (λaa h=>⟨rfl,h⟩) ?_;intro aA B;refine aV (λv aa=>v= .bool (decide (0<n))/\V=aa) ?_ ?_
 rotate_left
 .intro ad U;rw[zX qf.u];simp only[Z5,W7,bR];rw[bL];refine U _ _ ⟨?_,rfl⟩;congr 1;rw[V9,decide_eq_true_eq,decide_eq_true_eq];omega
 rintro _ _ ⟨rfl,rfl⟩;rw[al];refine⟨λC=>?_,λC=>B _ ⟨A,Grow.ext J,?_⟩⟩
 rotate_left
 .have:n=0:=Ω
  subst this;have e:t.grow 0=t:=by unfold aC.grow;simp
  rw[e];exact h.ext J
 obtain⟨E,ae,go,dh,a6,G,dJ,h1,H,I,K,f⟩:=id (h.ext J);rw[aS fG.p 0 h1 rfl];obtain⟨⟨W,X,Y⟩,L,ag⟩:=tI h1 H I K;have ak:=S.1;refine N0 (k:=2) (m:=n) rfl ie.u ah.u eC.i rfl Ω (λu hu=>?_) H.1 C Ω Ω λs M aa N Z O=>?_
 .exact wK Φ Φ u hu
 rw[bU,aU fG.p rfl];have q:bi iu 2 eC aa M s (t.cells++p8 n ⟨0,0⟩):=by
  refine⟨?_,λ_ _=>rfl⟩;have e:(x1.agg #[Δ 0,.int .u64 0]).cells= #[Δ 0,.int .u64 0]:=rfl;rw[e,C9]at N;rw[r9,List.length_replicate,List.flatMap_append];exact N
 have P:=h1.ab O W;refine bl ie.i (eI q.sl).1 (eI q.sl).2 P Ξ λQ R an x=>?_;have x:af Q gT fG [s,G,dJ,.int .u64 (t.ii:Int)]:=x;have y:ai (λr=>leadsTo a6 r\/r=gT) V Q:=(O.mono λr _ h=>.inl h).trans (R.mono λr _ h=>.inr h);have z:=J.size;refine B _ ⟨λr=>A r\/V.heap.size<=r,(Grow.ext J).trans ⟨y.mono λr _ he=>he.elim (λhe=>f r (.inl he)) λhe=>he▸E,λr a=>a,λr a=>.inl a⟩,.inl E,M,go,dh,s,G,dJ,x,q.ab R λr a he=>?_,I.ab y λr a he=>he.elim (λhe=>(L r he).1 a) λhe=>X (he▸a),K.ab y λr a he=>he.elim (λhe=>(L r he).2 a) λhe=>Y (he▸a),λr a=>?_⟩
 .have he:r=gT:=he;subst he;exact cO q P Φ a
 .rcases a with a|a|a
  .exact (Z r a).imp (λh=>f r (.inl h)) id
  .exact .inl (f r (.inr (.inl a)))
  .exact .inl (f r (.inr (.inr a)))
theorem N3(x:n<=1000):am x7 Hs [Δ (n:Int)] w λv w'=>Ext w w'/\∃gT,v=Γ gT/\dv w' gT (eE w.heap.size) ⟨p8 n ⟨0,0⟩,[],[],0⟩:=by
 refine az func123 ?_;rw[vy,Int.max_eq_left Ω];refine z8 (k:=2) ie.u eC.i Ω Ω λg V y h f=>?_;rw[cW (cs:=#[.slice (σ ⟨g,0,ν⟩) n n,.slice ν 0 0,.slice ν 0 0,.int .u64 0]) Ψ];refine bf λgT aa z p s=>?_;have A:=h.size;have e:(x1.agg #[Δ 0,.int .u64 0]).cells= #[Δ 0,.int .u64 0]:=rfl;have f:af V g eC ((p8 n (⟨0,0⟩:Cell)).flatMap iu):=by rw[<-C9,<-e];exact f
 have q:bi iu 2 eC V g (.slice (σ ⟨g,0,ν⟩) n n) (p8 n ⟨0,0⟩):=by
  refine⟨?_,λ_ _=>rfl⟩;rw[List.length_replicate];exact bV.full f (by simp[iu]) (by simp[maxLen];omega)
 refine⟨h.trans p,gT,rfl,by show w.heap.size<=gT;omega,g,0,0,_,_,_,s,q.ext p,bi.nil _ _ _ _ _,bi.nil _ _ _ _ _,λr a=>?_⟩;rcases a with a|a|a
 .have:=(q.leads a).1;show w.heap.size<=r;omega
 .exact (e1 a).elim
 .exact (e1 a).elim
theorem nK{α β:Type}{f:α->List β}:∀{L:List α}{i j:Nat}{a:α},L[i]?=σ a->j<(f a).length->(L.flatMap f)[((L.take i).flatMap f).length+j]?=(f a)[j]?
 |x::L,0,j,a,h,e=>by
  cases h;rw[List.take_zero,List.flatMap_nil,List.length_nil,X2,X7,Y5 e]
 |x::L,i+1,j,a,h,e=>by
  have h:L[i]?=σ a:=by simpa using h
  rw[List.take_succ_cons,X7,X7,r9,R2,Y6 Ω,R4,nK h e]
theorem wS{α β:Type}{f:α->List β}:∀{L:List α}{i j:Nat}{a b:α}{x:β},L[i]?=σ a->j<(f a).length->f b=(f a).set j x->(L.flatMap f).set (((L.take i).flatMap f).length+j) x=(L.set i b).flatMap f
 |y::L,0,j,a,b,x,h,e,p=>by
  cases h;rw[List.take_zero,List.flatMap_nil,List.length_nil,X2,X7,List.set_cons_zero,X7,p,List.set_append_left _ _ e]
 |y::L,i+1,j,a,b,x,h,e,p=>by
  have h:L[i]?=σ a:=by simpa using h
  rw[List.take_succ_cons,X7,X7,r9,R2,T4 _ _ Ω,R4,wS h e p,List.set_cons_succ,X7]
theorem Da{α β:Type}{f:α->List β}{L:List α}{i:Nat}{a:α}(h:L[i]?=σ a)(e:j<(f a).length):((L.take i).flatMap f).length+j<(L.flatMap f).length:=by
 have h1:=nK (f:=f) h e;rw[x6 e]at h1;exact(x4.1 h1).1
structure bG where
 gone:Int
 mask:Int
 un:Λ
structure ca where
 sc:Λ
 ak:Λ
 live:Int
 cs:Λ
structure wT where
 v:Int
 sc:Λ
 tG:Λ
structure aq where
 zero:Int
 vars:List bG
 funs:List ca
 hb:List wT
def hI(x:bG):Λ:=x.gone::x.mask::x.un
def fp(x:ca):Λ:=x.live::x.cs
def iV(s:aq):Λ:=[s.zero,(s.funs.length:Int),(s.hb.length:Int)]
def aq.cells(s:aq):Λ:=iV s++(s.vars.flatMap hI++s.funs.flatMap fp)
def fR(s:aq)(i:Nat):Nat:=3+((s.vars.take i).flatMap hI).length
def eS(s:aq)(j:Nat):Nat:=3+((s.vars.flatMap hI).length+((s.funs.take j).flatMap fp).length)
theorem N4(s:aq):s.cells[0]?=σ s.zero:=rfl
theorem q7{s:aq}{i:Nat}{x:bG}(h:s.vars[i]?=σ x)(e:j<x.un.length+2):s.cells[fR s i+j]?=(hI x)[j]?:=by
 have a:j<(hI x).length:=e;unfold aq.cells fR;rw[R2,Y6 (by simp[iV]),show(iV s).length=3 from rfl,R4,Y5 (Da h a),nK h a]
theorem wU{s:aq}{i:Nat}{x:ca}(h:s.funs[i]?=σ x)(a:j<x.cs.length+1):s.cells[eS s i+j]?=(fp x)[j]?:=by
 have e:j<(fp x).length:=a;unfold aq.cells eS;rw[R2,R2,Y6 (by simp[iV]),show(iV s).length=3 from rfl,R4,Y6 Ω,R4,nK h e]
theorem N5(s:aq)(c:Int):s.cells.set 0 c=({s with zero:=c}:aq).cells:=rfl
theorem Db{s:aq}{i:Nat}{x y:bG}(h:s.vars[i]?=σ x)(e:j<x.un.length+2)(f:hI y=(hI x).set j c):s.cells.set (fR s i+j) c=({s with vars:=s.vars.set i y}:aq).cells:=by
 have a:j<(hI x).length:=e;unfold aq.cells fR;rw[R2,T4 _ _ (by simp[iV]),show(iV s).length=3 from rfl,R4,List.set_append_left _ _ (Da h a),wS h a f];rfl
theorem N6{s:aq}{i:Nat}{x y:ca}(h:s.funs[i]?=σ x)(a:j<x.cs.length+1)(e:fp y=(fp x).set j c):s.cells.set (eS s i+j) c=({s with funs:=s.funs.set i y}:aq).cells:=by
 have f:j<(fp x).length:=a;unfold aq.cells eS;rw[R2,R2,T4 _ _ (by simp[iV]),show(iV s).length=3 from rfl,R4,T4 _ _ Ω,R4,wS h f e];show _=iV {s with funs:=s.funs.set i y}++_;unfold iV;rw[c9]
theorem N7{s:aq}(x:ca):(s.cells++fp x).set 1 ((s.funs.length+1:Nat):Int)=({s with funs:=s.funs++[x]}:aq).cells:=by
 unfold aq.cells;simp only[List.flatMap_append,List.flatMap_singleton,iV,r9,T1,V0];rfl
theorem q8(s:aq):s.cells.length=3+((s.vars.flatMap hI).length+(s.funs.flatMap fp).length):=by
 unfold aq.cells;rw[r9,r9];rfl
def q9(a sc:Λ):Λ:=sc.map λv=>a.getD v.toNat 0
def ra(k:Int)(a:Int)(p:bG×Int):Int:=if p.1.gone≠0 then a else min (a+p.1.un.getD p.2.toNat 0) k
def rb(k:Int)(a:Λ)(e:Int)(f:ca):Int:=if f.live≠0 then min (e+bt f.ak f.cs (q9 a f.sc)) k else e
def dropped(mask:Int)(v:Int):Bool:=mask.toNat.testBit v.toNat
def iv(p:bG×Int):Bool:=decide (p.1.gone≠0)|| !dropped p.1.mask p.2
def hc(k:Int)(s:aq)(a:Λ):Int:=if(s.vars.zip a).all iv then s.funs.foldl (rb k a) ((s.vars.zip a).foldl (ra k) s.zero)else k
def lp(s:aq)(a:Λ):Prop:=a.length=s.vars.length/\∀(i:Nat)x v,s.vars[i]?=σ x->a[i]?=σ v->x.gone≠0\/(0<=v/\v<x.un.length)
structure br(k:Int)(sizes:Λ)(s:aq):Prop where
 ew:1<=k/\k<=2147483648
 fq:1<=sizes.length/\sizes.length<=64/\∀z∈sizes,1<=z/\z<=32
 zero:0<=s.zero/\s.zero<=k
 vars:s.vars.length=sizes.length
 var:∀(i:Nat)x z,s.vars[i]?=σ x->sizes[i]?=σ z->x.un.length=z.toNat/\(∀c∈x.un,0<=c/\c<=k)/\0<=x.mask/\x.mask<4294967296
 funs:∀f∈s.funs,fP sizes k (f.sc,f.cs)/\f.ak=bX sizes f.sc/\2<=f.sc.length
def newVar(u:Λ):bG:=⟨0,0,u⟩
def kE(sizes:Λ)(g:cK):ca:=⟨g.1,bX sizes g.1,1,g.2⟩
def cY(n:aF):aq:=⟨n.zero,n.unary.map newVar,n.funs.map (kE n.sizes),[]⟩
theorem N8{n:aF}(h:jZ n):br n.k n.sizes (cY n):=by
 refine⟨h.k,h.sizes,h.zero,by simp[cY,h.kD],λi x z J e=>?_,λf ag=>?_⟩
 .have J:(n.unary.map newVar)[i]?=σ x:=J;rw[x8]at J;obtain⟨u,hu,rfl⟩:=Y7.1 J;obtain⟨h1,a⟩:=h.unary i z u e hu;exact⟨h1,a,Int.le_refl _,by show(0:Int)<_;omega⟩
 .obtain⟨g,p,rfl⟩:=j4.1 ag;obtain⟨h1,a⟩:=h.funs g p;exact⟨h1,rfl,a⟩
theorem wV{a:Nat}{n:aF}(h:gg w a n):am x7 G8 [Γ a] w λv w'=>v=Δ (n.sizes.length:Int)/\Ext w w':=by
 obtain⟨q,r,s,x,gr,aW,L,nm,szv,gz,fv2,h1,e,f,y,z,A,B⟩:=h;refine az func87 ?_;rw[de mA.u];simp only[Z5,a1];rw[aS fH.p 0 h1 rfl,aS cB.p 2 e rfl,aX an.u f.ls];exact⟨rfl,Ext.refl _⟩
theorem N9{a:Nat}{n:aF}(h:gg w a n):am x7 HQ [Γ a] w λv w'=>v=Δ n.k/\Ext w w':=by
 obtain⟨f,q,r,s,gr,aW,L,nm,szv,gz,fv2,h1,e,x,y,z,A,B⟩:=h;refine az func153 ?_;rw[de mA.u];simp only[Z5,a1];rw[aS fH.p 0 h1 rfl,aS cB.p 1 e rfl];exact⟨rfl,Ext.refl _⟩
theorem Oa{a:Nat}{n:aF}(h:gg w a n):am x7 Ht [Γ a] w λv w'=>v=Δ n.zero/\Ext w w':=by
 obtain⟨e,f,q,r,gr,aW,L,nm,szv,gz,fv2,h1,s,x,y,z,A,B⟩:=h;refine az func125 ?_;rw[de mA.u];simp only[Z5,a1];rw[aS fH.p 1 h1 rfl];exact⟨rfl,Ext.refl _⟩
theorem Dc{a:Nat}{n:aF}(h:gg w a n):am x7 zB [Γ a] w λv w'=>v=Δ (n.funs.length:Int)/\Ext w w':=by
 obtain⟨q,r,s,x,gr,aW,L,nm,szv,gz,fv2,h1,y,z,A,B,e,f⟩:=h;refine az func128 ?_;rw[de mA.u];simp only[Z5,a1];rw[aS fH.p 3 h1 rfl,ee k1.u e.1];exact⟨by rw[<-f,r8],Ext.refl _⟩
theorem Dd{x:Nat}{n:aF}{i:Int}(h:gg w x n)(f:jZ n):am x7 Hu [Γ x,Δ i] w λv w'=>Ext w w'/\(¬(0<=i/\i<n.sizes.length)->v= .slice ν 0 0)/\
  ∀u,0<=i->n.unary[i.toNat]?=σ u->∃g,w.heap.size<=g/\av .i64 au w' g v u:=by
 refine az func126 ?_;have K:=f.kD;refine aV (λv V=>v= .bool (decide (¬(0<=i/\i<n.sizes.length)))/\Ext w V) ?_ ?_
 .rintro _ V ⟨rfl,e⟩;rw[al];refine⟨λE=>⟨e,λ_=>rfl,λu G hu=>?_⟩,λq=>?_⟩
  .have:=(x4.1 hu).1;exact absurd ⟨G,Ω⟩ E
  have q:0<=i/\i<n.sizes.length:=Z9.1 q;obtain⟨M,N,O,P,gr,aW,L,nm,szv,gz,fv2,h1,Q,R,r,y,S,U⟩:=h.ext e;have W:aW.length=n.unary.length:=by rw[<-y,r8]
  obtain⟨a,s⟩:=aJ (l:=aW) (i:=i.toNat) Ω;obtain⟨X,hm⟩:=r.2 a (x5 s);rw[aS fH.p 2 h1 rfl,dr (i:=i.toNat) Ω ek.u ay.i r.1 Ω,ax (o:=i.toNat*1) Ψ (r.1.range s 0 _ rfl)];have A:n.unary[i.toNat]?=σ a.l:=by rw[<-y,x8,s];rfl
  have Y:a.l.length<=32:=by
   obtain⟨z,B⟩:=aJ (l:=n.sizes) (i:=i.toNat) Ω;have Z:=(f.unary i.toNat z a.l B A).1;have ab:=f.sizes.2.2 z (x5 B);omega
  refine(vD hm.ls Ω).mono ?_;rintro v aa _ ⟨H,g,ac,I⟩;refine⟨e.trans H,λJ=>absurd q J,λu _ hu=>⟨g,by have:=e.size;omega,?_⟩⟩;rw[A]at hu;cases hu;exact I
 .intro aA C;rw[aR,al];refine⟨λad=>C _ _ ⟨by rw[decide_eq_true];omega,Ext.refl _⟩,λae=>?_⟩;refine(wV h).mono ?_;rintro _ V _ ⟨rfl,e⟩;rw[cM];refine C _ _ ⟨?_,e⟩;congr 1;rw[V9,decide_eq_true_eq,decide_eq_true_eq];omega
theorem De{p:Nat}{n:aF}{i:Int}(h:gg w p n)(a:jZ n):am x7 Hd [Γ p,Δ i] w λv w'=>Ext w w'/\v=Δ (if 0<=i then n.sizes.getD i.toNat 0 else 0):=by
 refine az func92 ?_;refine(Dd h a).mono ?_;rintro v V _ ⟨q,s,x⟩;by_cases e:0<=i/\i<n.sizes.length
 .have y:=a.kD;obtain⟨u,hu⟩:=aJ (l:=n.unary) (i:=i.toNat) Ω;obtain⟨z,f⟩:=aJ (l:=n.sizes) (i:=i.toNat) Ω;obtain⟨g,_,hm⟩:=x u e.1 hu;rw[aX ay.u hm.ls];refine⟨q,?_⟩;have A:=(a.unary i.toNat z u f hu).1;have B:=a.sizes.2.2 z (x5 f);rw[if_pos e.1,u4,f];congr 1;simp only[V2];omega
 .rw[s e,hs ay.u];refine⟨q,?_⟩;by_cases r:0<=i
  .rw[if_pos r,u4,Z2 Ω];rfl
  .rw[if_neg r];rfl
theorem Df{a:Nat}{n:aF}{j:Int}(h:gg w a n)(f:∀w',Ext w w'->K (.bool (decide (¬(0<=j/\j<n.funs.length)))) w'):
  ac x7 (aM .lss ah false true (Δ j) (Δ 0)) w λq=>Split q (K (.bool true) w) (am x7 zB [Γ a] w λr p=>ac x7 (aM .geq ah false false (Δ j) r) p λs=>K s p):=by
 rw[aR,al];refine⟨λy=>?_,λz=>?_⟩
 .have:=f w (Ext.refl _);rw[decide_eq_true (show¬(0<=j/\j<n.funs.length) by omega)]at this;exact this
 .refine (Dc h).mono ?_;rintro _ V _ ⟨rfl,x⟩;rw[cM];have:=f V x;have e:decide ((n.funs.length:Int)<=j)=decide (¬(0<=j/\j<n.funs.length)):=by
   rw[V9,decide_eq_true_eq,decide_eq_true_eq];omega
  rw[<-e]at this;exact this
theorem Ob{s:Nat}{n:aF}{g:cK}(h:gg w s n)(z:jZ n)(e:n.funs[j]?=σ g):am x7 Hw [Γ s,Δ (j:Int)] w λv w'=>Ext w w'/\∃gs,w.heap.size<=gs/\av .i64 ah w' gs v g.1:=by
 refine az func130 ?_;have E:=(x4.1 e).1;refine aV (λv V=>v= .bool (decide (¬(0<=(j:Int)/\(j:Int)<n.funs.length)))/\Ext w V) ?_ λaA A=>Df h λw' J=>A _ _ ⟨rfl,J⟩;rintro _ V ⟨rfl,f⟩;rw[decide_eq_false Ω,a1];obtain⟨G,H,I,K,gr,aW,L,nm,szv,gz,fv2,h1,M,N,O,P,q,x⟩:=h.ext f;have Q:L.length=n.funs.length:=by rw[<-x,r8]
 obtain⟨a,r⟩:=aJ (l:=L) (i:=j) Ω;have y:dT a=g:=by rw[<-x,x8,r]at e;exact b9 e
 obtain⟨⟨R,hm⟩,_⟩:=q.2 a (x5 r);rw[aS fH.p 3 h1 rfl,dr rfl k1.u hq.i q.1 Ω,aU hq.p rfl,ax Ψ (q.1.range r 0 _ rfl)];have S:a.sc.length<=6:=by
  have:=(z.funs g (x5 e)).1.scope.2;rw[<-y]at this;exact this
 refine(ku hm.ls Ω).mono ?_;rintro v aa _ ⟨B,gs,U,C⟩;refine⟨f.trans B,gs,by have:=f.size;omega,?_⟩;rw[<-y];exact C
theorem Oc{g:Nat}{cs:Λ}(h:df w g B sv ak k cs):am x7 Ir [Γ g] w λv w'=>Ext w w'/\∃a e,v=Γ a/\w.heap.size<=a/\w.heap.size<=e/\df w' a e sv ak k cs:=by
 obtain⟨⟨a6,gs,C,hm,E⟩,⟨h1,J,G⟩,U,x⟩:=h;refine az func211 ?_;rw[de eO.u];simp only[Z5,a1];intro V f _ _;have r:=C.ext f;have K:=prod_bound U;rw[bU,aU cV.p rfl,bP (cs:=[sv]) bB.p bB.i rfl (nP r (by
  intro j v ad
  match j,ad with
  |0,ad=>exact ad)),aS cV.p 1 r rfl,aS cV.p 2 r rfl]
 refine(vD (E.ls.ext f) Ω).mono ?_;rintro y aa _ ⟨s,e,L,q⟩;refine⟨.inl s,?_⟩;rw[cW (cs:=#[sv,Δ k,y]) (by obtain⟨_,_,_,rfl⟩:=c5 hm.ls;obtain⟨_,_,_,rfl⟩:=c5 q.ls;kernel_rfl)];refine bf λa M N z H=>?_;have O:=f.size;have P:=s.size;have Q:=q;have A:=(f.trans s).trans z;refine⟨A,a,e,rfl,Ω,Ω,⟨y,gs,H,hm.ext A,q.ext z⟩,⟨?_,?_,G⟩,U,x⟩
 .have:=tq q (by rw[x];omega);omega
 .intro I;obtain⟨R,S⟩:=bQ hm I;omega
theorem Od{z:Nat}{n:aF}{g:cK}(A:gg w0 z n)(B:Ext w0 w)(f:n.funs[j]?=σ g):am x7 Hx [Γ z,Δ (j:Int)] w λv w'=>Ext w w'/\∃gt q sv,v=Γ gt/\w.heap.size<=gt/\w.heap.size<=q/\df w' gt q sv (bX n.sizes g.1) n.k g.2/\∀r,leads sv r->∃c,af w0 r ah c:=by
 have h:=A.ext B;refine az func131 ?_;have S:=(x4.1 f).1;refine aV (λv V=>v= .bool (decide (¬(0<=(j:Int)/\(j:Int)<n.funs.length)))/\Ext w V) ?_ λaA I=>Df h λw' J=>I _ _ ⟨rfl,J⟩;rintro _ V ⟨rfl,s⟩;rw[decide_eq_false Ω,a1];have e:=B.trans s;obtain⟨U,W,X,Y,gr,aW,L,nm,szv,gz,fv2,h1,Z,ab,ac,ae,x,C⟩:=A;have ag:L.length=n.funs.length:=by rw[<-C,r8]
 obtain⟨a,y⟩:=aJ (l:=L) (i:=j) Ω;have K:dT a=g:=by rw[<-C,x8,y]at f;exact b9 f
 obtain⟨_,q,M,E⟩:=x.2 a (x5 y);rw[aS fH.p 3 (h1.ext e) rfl,dr rfl k1.u hq.i (x.1.ext e) Ω,aU hq.p rfl,ax Ψ ((x.1.ext e).range y 1 _ rfl)];refine(Oc (E.ext e)).mono ?_;rintro v aa _ ⟨N,gt,O,rfl,ai,aj,P⟩;have ak:=s.size;refine⟨s.trans N,gt,O,M,rfl,Ω,Ω,?_,λr G=>?_⟩
 .rw[<-K];exact P
 .obtain⟨⟨_,_,_,hm,_⟩,_⟩:=E;obtain⟨Q,_⟩:=bQ hm G;rcases hm.2 with⟨ad,_⟩|⟨_,cs,_,R,_⟩
  .obtain⟨_,_,_,H,al⟩:=G;rw[ad]at H;cases H
  .exact⟨cs,Q▸R⟩
structure pC where
 aL:x1
 szv:x1
 at_:Nat
def oe(x:pC):List x1:=[x.aL,x.szv,Δ (x.at_:Int)]
structure re where
 v:Int
 aL:x1
 bv:x1
def Oe(x:re):List x1:=[Δ x.v,x.aL,x.bv]
def iw(s:aq):Λ:=(X0 s.vars.length).map λi=>(fR s i:Int)
def iW(R:aj)(w:x3)(v:x1)(l:Λ):Prop:=(∃g,av .i64 ah w g v l)/\∀r,leads v r->R r
theorem iW.ls{R:aj}(h:iW R w v l):aI .i64 w v l:=by
 obtain⟨⟨g,h⟩,_⟩:=h;exact h.ls
theorem iW.ab{R S:aj}(h:iW R w v l)(f:ai S w w')(p:∀r,r<w.heap.size->R r->¬S r):iW R w' v l:=by
 obtain⟨⟨g,h1⟩,a⟩:=h;exact⟨⟨g,bu h1 f λr e=>p r (by obtain⟨q,s⟩:=bQ h1 e;omega) (a r e)⟩,a⟩
theorem iW.mono{R R':aj}(h:iW R w v l)(a:∀r,R r->R' r):iW R' w v l:=⟨h.1,λr e=>a r (h.2 r e)⟩
def lq(R:aj)(w:x3)(L:List pC)(s:aq):Prop:=L.length=s.funs.length/\∀(j:Nat)x f,L[j]?=σ x->s.funs[j]?=σ f->iW R w x.aL f.sc/\iW R w x.szv f.ak/\x.at_=eS s j
def me(R:aj)(w:x3)(E:List re)(s:aq):Prop:=E.length=s.hb.length/\∀(j:Nat)x e,E[j]?=σ x->s.hb[j]?=σ e->x.v=e.v/\iW R w x.aL e.sc/\iW R w x.bv e.tG
theorem lq.ab{R S:aj}{L:List pC}{s:aq}(h:lq R w L s)(a:ai S w w')(e:∀r,r<w.heap.size->R r->¬S r):lq R w' L s:=⟨h.1,λj x f J ag=>by
 obtain⟨h1,p,q⟩:=h.2 j x f J ag;exact⟨h1.ab a e,p.ab a e,q⟩⟩
theorem me.ab{R S:aj}{E:List re}{s:aq}(h:me R w E s)(a:ai S w w')(e:∀r,r<w.heap.size->R r->¬S r):me R w' E s:=⟨h.1,λj x f J ag=>by
 obtain⟨h1,p,q⟩:=h.2 j x f J ag;exact⟨h1,p.ab a e,q.ab a e⟩⟩
theorem lq.mono{R R':aj}{L:List pC}{s:aq}(h:lq R w L s)(a:∀r,R r->R' r):lq R' w L s:=⟨h.1,λj x f J ag=>by
 obtain⟨h1,e,p⟩:=h.2 j x f J ag;exact⟨h1.mono a,e.mono a,p⟩⟩
theorem me.mono{R R':aj}{E:List re}{s:aq}(h:me R w E s)(a:∀r,R r->R' r):me R' w E s:=⟨h.1,λj x f J ag=>by
 obtain⟨h1,e,p⟩:=h.2 j x f J ag;exact⟨h1,e.mono a,p.mono a⟩⟩
theorem tK{a b c:x3}(h:Ext a b)(k:ai S b c)(f:∀r o,a.heap[r]?=σ o->fA o=true->¬S r):Ext a c:=
 ⟨Y8 h.size k.size,λr o e U=>k.aZ r o (h.aZ r o e U) U (f r o e U)⟩
theorem dv.cut{A:aj}{t:aC}(h:dv w gT A t):dv w gT (λr=>A r/\r<w.heap.size) t:=by
 obtain⟨x,y,go,dh,a6,z,dJ,h1,e,f,p,B⟩:=h;refine⟨⟨x,h1.lt⟩,y,go,dh,a6,z,dJ,h1,e,f,p,λr a=>⟨B r a,?_⟩⟩;rcases a with a|a|a
 .obtain⟨q,s⟩:=e.leads a;omega
 .obtain⟨q,s⟩:=f.leads a;omega
 .obtain⟨q,s⟩:=p.leads a;omega
def eJ(w:x3)(ae gT p:Nat)(e f h:x1)(A R:aj)(n:aF)(s:aq)(t:aC):Prop:=
 (A ae/\(∀r,A r->¬R r)/\(∀r,R r->r<w.heap.size)/\∀r,A r->r<w.heap.size)/\∃aY q ge,∃(L:List pC)(E:List re)(a:aj)(w0:x3),
  af w ae cG [Γ p,Γ gT,e,f,h]/\(gg w0 p n/\Ext w0 w/\∀r o,w0.heap[r]?=σ o->fA o=true->R r)/\
  (dv w gT a t/\(∀r,a r->A r)/\¬a ae/\∀r,leads e r\/leadsTo f r\/leadsTo h r->A r/\¬a r)/\av .i64 ah w aY e (iw s)/\
  (bi oe 3 ff w q f L/\lq R w L s)/\bi Oe 3 vu w ge h E/\me R w E s
theorem eJ.ab{S:aj}{C F G:x1}{A R:aj}{n:aF}{s:aq}{t:aC}(h:eJ w ae gT B C F G A R n s t)(e:ai S w w')(f:∀r,r<w.heap.size->A r\/R r->¬S r):eJ w' ae gT B C F G A R n s t:=by
 obtain⟨⟨h1,p,W,X⟩,aY,Y,ge,L,E,Z,w0,H,⟨aa,I,J⟩,⟨ac,q,ad,x⟩,K,⟨M,af⟩,N,ag⟩:=h;have z:=e.size;refine⟨⟨h1,p,λr a=>by have:=W r a;omega,λr a=>by have:=X r a;omega⟩,aY,Y,ge,L,E,Z,w0,H.ab e (f _ H.lt (.inl h1)),⟨aa,tK I e λr o a ah U=>f r (by have:=I.size;have:=(l9.1 a).1;omega) (.inr (J r o a ah)) U,J⟩,
  ⟨?_,q,ad,x⟩,bu K e λr a U=>f r ?_ (.inl (x r (.inl a)).1) U,⟨M.ab e λr a U=>f r ?_ (.inl (x r (.inr (.inl a))).1) U,af.ab e λr a h=>f r a (.inr h)⟩,N.ab e λr a U=>f r ?_ (.inl (x r (.inr (.inr a))).1) U,ag.ab e λr a h=>f r a (.inr h)⟩
 .obtain⟨O,ak,go,dh,a6,al,dJ,P,Q,T,V,y⟩:=ac;refine⟨O,ak,go,dh,a6,al,dJ,P.ab e (f _ P.lt (.inl (q _ O))),Q.ab e λr a U=>?_,T.ab e λr a U=>?_,V.ab e λr a U=>?_,y⟩
  .exact f r (by obtain⟨h1,p⟩:=Q.leads a;omega) (.inl (q _ (y r (.inl a)))) U
  .exact f r (by obtain⟨h1,p⟩:=T.leads a;omega) (.inl (q _ (y r (.inr (.inl a))))) U
  .exact f r (by obtain⟨h1,p⟩:=V.leads a;omega) (.inl (q _ (y r (.inr (.inr a))))) U
 .obtain⟨h1,p⟩:=bQ K a;omega
 .obtain⟨h1,p⟩:=M.leads a;omega
 .obtain⟨h1,p⟩:=N.leads a;omega
theorem eJ.ext{a:Nat}{e f p:x1}{A R:aj}{n:aF}{s:aq}{t:aC}(h:eJ w ae gT a e f p A R n s t)(J:Ext w w'):eJ w' ae gT a e f p A R n s t:=h.ab (J.ab λ_=>False) λ_ _ _ h=>h
theorem eJ.rf{F:Nat}{G H I:x1}{A R:aj}{n:aF}{s:aq}{t:aC}(h:eJ w ae gT F G H I A R n s t):∃x,dv w gT x t/\∀q w' bq,Grow x w q w'->dv w' gT q bq->∃aP,Grow A w aP w'/\eJ w' ae gT F G H I aP R n s bq:=by
 obtain⟨⟨h1,f,J,K⟩,aY,X,ge,L,E,x,w0,M,⟨Y,Z,N⟩,⟨aa,p,O,y⟩,P,⟨Q,ac⟩,S,ad⟩:=h;refine⟨x,aa,λT w' bq z af=>?_⟩;have V:=af.cut;have e:Grow x w (λr=>T r/\r<w'.heap.size) w':=⟨z.1,λr a=>z.2.1 r a.1,λr a=>⟨z.2.2 r a,by have:=K r (p r a);have:=z.1.size;omega⟩⟩;obtain⟨q,W⟩:∃B:aj,B=λr=>T r/\r<w'.heap.size:=⟨_,rfl⟩;rw[<-W]at V e;have ag:∀r,q r->r<w'.heap.size:=λr h=>by rw[W]at h;exact h.2
 refine⟨λr=>A r\/q r,⟨e.1.mono λr _ a=>p r a,λr a=>?_,λr a=>.inl a⟩,⟨.inl h1,λr a C=>?_,λr a=>?_,λr a=>?_⟩,aY,X,ge,L,E,q,w0,M.ab e.1 O,⟨Y,tK Z e.1 λr o a ah U=>f r (p r U) (N r o a ah),N⟩,
  ⟨V,λr a=>.inr a,λa=>?_,λr a=>⟨.inl (y r a).1,λai=>?_⟩⟩,bu P e.1 λr a U=>(y r (.inl a)).2 U,⟨Q.ab e.1 λr a U=>(y r (.inr (.inl a))).2 U,ac.ab e.1 λr _ a U=>f r (p r U) a⟩,S.ab e.1 λr a U=>(y r (.inr (.inr a))).2 U,ad.ab e.1 λr _ a U=>f r (p r U) a⟩
 .rcases a with a|a
  .exact .inl a
  .exact (e.2.1 r a).imp (p r) id
 .have:=J r C;rcases a with a|a
  .exact f r a C
  .rcases e.2.1 r a with h|h
   .exact f r (p r h) C
   .omega
 .have:=J r a;have:=e.1.size;omega
 .rcases a with a|a
  .have:=K r a;have:=e.1.size;omega
  .exact ag r a
 .rcases e.2.1 _ a with h|h
  .exact O h
  .have:=M.lt;omega
 .rcases e.2.1 r ai with h|h
  .exact (y r a).2 h
  .rcases a with a|a|a
   .obtain⟨h1,f⟩:=bQ P a;omega
   .obtain⟨h1,f⟩:=Q.leads a;omega
   .obtain⟨h1,f⟩:=S.leads a;omega
def StateM(w:x3)(ae gT:Nat)(A R:aj)(n:aF)(s:aq)(t:aC):Prop:=∃a e f h,eJ w ae gT a e f h A R n s t
theorem StateM.ab{S:aj}{A R:aj}{n:aF}{s:aq}{t:aC}(h:StateM w ae gT A R n s t)(a:ai S w w')(e:∀r,r<w.heap.size->A r\/R r->¬S r):StateM w' ae gT A R n s t:=by
 obtain⟨f,p,q,x,h⟩:=h;exact⟨f,p,q,x,h.ab a e⟩
theorem StateM.ext{A R:aj}{n:aF}{s:aq}{t:aC}(h:StateM w ae gT A R n s t)(J:Ext w w'):StateM w' ae gT A R n s t:=h.ab (J.ab λ_=>False) λ_ _ _ h=>h
theorem StateM.rf{A R:aj}{n:aF}{s:aq}{t:aC}(h:StateM w ae gT A R n s t):∃a,dv w gT a t/\∀e w' bq,Grow a w e w'->dv w' gT e bq->∃aP,Grow A w aP w'/\StateM w' ae gT aP R n s bq:=by
 obtain⟨f,p,q,r,h⟩:=h;obtain⟨a,h1,x⟩:=h.rf;exact⟨a,h1,λe w' bq y z=>by
  obtain⟨aP,B,C⟩:=x e w' bq y z;exact⟨aP,B,f,p,q,r,C⟩⟩
def og(s s':aq):Prop:=iw s'=iw s/\s'.funs.length=s.funs.length/\(∀(j:Nat)a,s'.funs[j]?=σ a->∃f,s.funs[j]?=σ f/\a.sc=f.sc/\a.ak=f.ak/\eS s' j=eS s j)/\s'.hb=s.hb
theorem eJ.same{a:Nat}{e p q:x1}{A R:aj}{n:aF}{s s':aq}{t:aC}(h:eJ w ae gT a e p q A R n s t)(U:og s s'):eJ w ae gT a e p q A R n s' t:=by
 obtain⟨aB,aY,y,ge,L,E,z,w0,B,C,F,G,⟨H,r⟩,I,K⟩:=h;obtain⟨M,N,O,P⟩:=U;refine⟨aB,aY,y,ge,L,E,z,w0,B,C,F,by rw[M];exact G,⟨H,r.1.trans N.symm,λj x Q J S=>?_⟩,I,?_⟩
 .obtain⟨f,ag,T,V,W⟩:=O j Q S;rw[T,V,W];exact r.2 j x f J ag
 .unfold me;rw[P];exact K
theorem StateM.same{A R:aj}{n:aF}{s s':aq}{t:aC}(h:StateM w ae gT A R n s t)(U:og s s'):StateM w ae gT A R n s' t:=by
 obtain⟨a,e,f,p,h⟩:=h;exact⟨a,e,f,p,h.same U⟩
theorem tL{α β:Type}{f:α->List β}:∀{L:List α}{i j:Nat}{a b:α},L[i]?=σ a->(f b).length=(f a).length->(((L.set i b).take j).flatMap f).length=((L.take j).flatMap f).length
 |[],_,_,_,_,h,_=>by simp at h
 |x::L,0,j,a,b,h,e=>by
  cases h;cases j with
  |zero=>rfl
  |succ j=>simp[e]
 |x::L,i+1,j,a,b,h,e=>by
  have h:L[i]?=σ a:=by simpa using h
  cases j with
  |zero=>rfl
  |succ j=>
   rw[List.set_cons_succ,List.take_succ_cons,List.take_succ_cons,X7,X7,r9,r9,tL h e]
theorem Dg(s:aq)(c:Int):og s {s with zero:=c}:=⟨rfl,rfl,λj f h=>⟨f,h,rfl,rfl,rfl⟩,rfl⟩
theorem Dh{s:aq}{i:Nat}{x y:bG}(J:s.vars[i]?=σ x)(a:y.un.length=x.un.length):og s {s with vars:=s.vars.set i y}:=by
 have ag:(hI y).length=(hI x).length:=by simp[hI,a]
 refine⟨?_,rfl,λj f h=>⟨f,h,rfl,rfl,?_⟩,rfl⟩
 .unfold iw;rw[show({s with vars:=s.vars.set i y}:aq).vars.length=s.vars.length from c9];apply List.map_congr_left;intro j _;unfold fR;rw[tL J ag]
 .unfold eS;have:=tL (j:=s.vars.length) J ag;rw[b6 Ξ,b6 (o4 _)]at this;show 3+(((s.vars.set i y).flatMap hI).length+_)=_;rw[this]
theorem Of{s:aq}{i:Nat}{x y:ca}(J:s.funs[i]?=σ x)(p:y.cs.length=x.cs.length)(h1:y.sc=x.sc)(q:y.ak=x.ak):og s {s with funs:=s.funs.set i y}:=by
 have ag:(fp y).length=(fp x).length:=by simp[fp,p]
 refine⟨rfl,c9,λj f h=>?_,rfl⟩;have h:(s.funs.set i y)[j]?=σ f:=h;have e:eS {s with funs:=s.funs.set i y} j=eS s j:=by
  unfold eS;show 3+(_+(((s.funs.set i y).take j).flatMap fp).length)=_;rw[tL J ag]
 by_cases a:i=j
 .subst a;rw[b8 (x4.1 J).1]at h;cases h;exact⟨x,J,h1,q,e⟩
 .rw[Y2 a]at h;exact⟨f,h,rfl,rfl,e⟩
end Go.Proofs.YtikkpokkcdocoabGreatDoor
