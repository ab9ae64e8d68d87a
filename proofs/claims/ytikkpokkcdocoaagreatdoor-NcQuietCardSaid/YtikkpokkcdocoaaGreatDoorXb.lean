/- own texts, made small by a tool (wip/ holds them as they were written): no statement of the seat. -/
import Derived.Test.YtikkpokkcdocoaaGreatDoorXa
set_option linter.unusedVariables false
set_option linter.unusedSimpArgs false
set_option linter.unnecessarySimpa false
open Array renaming getElem?_eq_some_iff→n9,getElem?_toList→S8
open BitVec renaming ofInt→T3
open Bool renaming not_true→Y6,not_false→W5,eq_iff_iff→U1,and_eq_true→U4,or_eq_false_iff→U5
open Decidable renaming not_not→X3
open Go renaming Value→x1,World→x3,TypeId→r9,IntKind→o4,Builtin→Z5,Program→W9,FuncId→Q1
open Go.Addr renaming add_mid→T2
open Go.Builtin renaming append_→Z3,len_→V2
open Go.Instr renaming loadAt→u4,fieldAt→u5,storeAt→o6,indexAt→j5,extract→Y3,buildSlice→Y7,sliceAt→V6
open Go.IntKind renaming i64→X7,u64→T1
open Go.Proofs.Tryz renaming prog→x7
open Go.Result renaming andThen→W8
open Go.Sem renaming run_bind→W6,run_pure→V4
open Go.Value renaming int→V7
open Int renaming toNat_natCast→u6
open List renaming getElem?_eq_some_iff→x4,mem_of_getElem?→x5,getElem?_eq_getElem→x6,getElem?_map→x8,getD_eq_getElem?_getD→v8,take_add_one→u7,length_map→u9,length_append→r8,replicate→p9,take_length→o5,length_take→o7,mem_append→o9,mem_singleton→l7,mem_map→l9,take_of_length_le→j0,eq_nil_of_length_eq_zero→j4,length_cons→c9,getElem?_set_self→Z0,map_append→Z4,length_set→Z6,getElem?_take_of_lt→Z9,getElem?_eq_none→Y0,getElem?_append_left→Y1,getElem?_append_right→Y2,getElem?_set_ne→Y8,getElem?_set→X1,ext_getElem?→X2,mem_iff_getElem?→X5,drop_eq_getElem_cons→X8,append_assoc→X9,flatMap_cons→W0,mem_or_eq_of_mem_set→W3,append_nil→W7,range→V0,mem_cons→V3,pairwise_iff_getElem→V9,map_set→U6,length_singleton→U9,map_cons→T4,foldl_cons→T9,set_append_right→S0,getElem_mem→S9,length→R6,map_map→Q0
open Nat renaming le_refl→p8,mul_le_mul_right→Y4,le_trans→Y5,zero_le→X4,zero_add→X6,sub_self→U2,add_mul→U8,mul_one→T0,lt_of_lt_of_le→T7,pow_le_pow_right→T8,add_sub_cancel_left→S3,add_assoc→S6,min_eq_left→R5,eq_zero_or_pos→Q4
open Option renaming toList_some→o8,isNone_some→j9,map_some→Z7,map_eq_some_iff→Y9,getD_some→V8,map→U3
open Option.some renaming inj→Z2,injEq→X0
open Prod.mk renaming injEq→S2
set_option maxHeartbeats 16000000
open Option renaming some→σ,none→ν
variable{N a gs j n r:Nat}{e t:r9}{at_ c hi k lo y:Int}{sv v z:x1}{cs:List x1}{K:x1->Prop}{f:o4}{C ag ks l sizes:Λ}{w w':x3}{clean cx cy:Bool}{S:Nat->Prop}
namespace Go.Proofs.YtikkpokkcdocoaaGreatDoor
open Go Go.Vc Go.RowKit Go.Proofs Go.Proofs.Tryz
set_option maxRecDepth 100000
structure Cell where
 v:Int
 st:Nat
structure kp where
 i:Nat
 c:Cell
structure nH where
 olds:Nat
 cells:Nat
 st:Nat
structure aw where
 cells:List Cell
 olds:List kp
 marks:List nH
 ever:Nat
def aw.bG(t:aw):Λ:=t.cells.map (·.v)
def aw.set(t:aw)(i:Nat)(x:Int):aw:=match t.cells[i]? with
 |none=>t
 |some c=>match t.marks.getLast? with
  |none=>{t with cells:=t.cells.set i ⟨x,c.st⟩}
  |some m=>if c.st<m.st/\i<m.cells then{t with olds:=t.olds++[⟨i,c⟩],cells:=t.cells.set i ⟨x,m.st⟩}else{t with cells:=t.cells.set i ⟨x,c.st⟩}
def aw.grow(t:aw)(n:Nat):aw:={t with cells:=t.cells++p9 n ⟨0,0⟩}
def aw.mark(t:aw):aw:={t with marks:=t.marks++[⟨t.olds.length,t.cells.length,t.ever+1⟩],ever:=t.ever+1}
def back(os:List kp)(cs:List Cell):List Cell:=os.foldr (λo cs=>cs.set o.i o.c) cs
def aw.hB(t:aw)(m:Nat):aw:=match t.marks[m]? with
 |none=>t
 |some x=>{cells:=(back (t.olds.drop x.olds) t.cells).take x.cells,olds:=t.olds.take x.olds,marks:=t.marks.take m,ever:=t.ever}
theorem nI:∀(os:List kp)(cs:List Cell),(back os cs).length=cs.length
 |[],_=>rfl
 |o::os,cs=>by
  have:=nI os cs;show((back os cs).set o.i o.c).length=_;rw[Z6,this]
theorem back_append(a b:List kp)(cs:List Cell):back (a++b) cs=back a (back b cs):=by unfold back;rw[List.foldr_append]
theorem vc:∀{os:List kp}{cs:List Cell}{n:Nat},(back os cs).take n=back (os.filter λo=>decide (o.i<n)) (cs.take n)
 |[],cs,n=>rfl
 |o::os,cs,n=>by
  show((back os cs).set o.i o.c).take n=_;by_cases h:o.i<n
  .rw[List.filter_cons_of_pos (by simpa using h),List.take_set,vc];rfl
  .rw[List.filter_cons_of_neg (by simpa using h),List.take_set_of_le Ω,vc]
theorem vd{os:List kp}{cs:List Cell}(h:∀o∈os,o.i<n):(back os cs).take n=back os (cs.take n):=by
 rw[vc,List.filter_eq_self.2 λo a=>by simpa using h o a]
theorem zM:∀{os:List kp}{cs a:List Cell}{i:Nat},cs.length=a.length->(∃o∈os,o.i=i)->(back os cs)[i]?=(back os a)[i]?
 |[],_,_,_,_,⟨_,h,_⟩=>by cases h
 |o::os,cs,a,i,f,hm=>by
  show((back os cs).set o.i o.c)[i]?=((back os a).set o.i o.c)[i]?;rw[X1,X1];by_cases h:o.i=i
  .rw[if_pos h,if_pos h,nI,nI,f]
  .rw[if_neg h,if_neg h];obtain⟨x,e,he⟩:=hm;rcases V3.1 e with rfl|e
   .exact absurd he h
   .exact zM f ⟨x,e,he⟩
theorem zN:∀{os:List kp}{cs a:List Cell}{i:Nat},cs[i]?=a[i]? ->cs.length=a.length->(back os cs)[i]?=(back os a)[i]?
 |[],_,_,_,h,_=>h
 |o::os,cs,a,i,h,e=>by
  show((back os cs).set o.i o.c)[i]?=((back os a).set o.i o.c)[i]?;rw[X1,X1,nI,nI,e,zN h e]
def ey:aw->List aw->Prop
 |t,[]=>t.marks=[]/\t.olds=[]/\(∀c∈t.cells,c.st<=t.ever)/\t.ever<=1000000
 |t,s::h=>ey s h/\(∀c∈t.cells,c.st<=t.ever)/\∃m new,t.marks=s.marks++[m]/\m.olds=s.olds.length/\m.cells=s.cells.length/\t.olds=s.olds++new/\m.cells<=t.cells.length/\(back new t.cells).take m.cells=s.cells/\
   (∀c∈s.cells,c.st<m.st)/\(∀c∈t.cells,c.st<=m.st)/\(∀(i:Nat)c,i<m.cells->t.cells[i]?=σ c->c.st=m.st->∃o∈new,o.i=i)/\(∀o∈new,o.i<m.cells)/\m.st<=t.ever/\s.ever<=t.ever
theorem ey.len:∀{h:List aw}{t:aw},ey t h->t.marks.length=h.length
 |[],t,hk=>by rw[hk.1];rfl
 |s::h,t,hk=>by
  obtain⟨h1,_,m,new,a,_⟩:=hk;rw[a,r8,ey.len h1];rfl
theorem ey.Jc{h:List aw}{t:aw}(hk:ey t h):∀c∈t.cells,c.st<=t.ever:=by
 cases h with
 |nil=>exact hk.2.2.1
 |cons s h=>exact hk.2.1
theorem ey.mark{h:List aw}{t:aw}(hk:ey t h):ey t.mark (t::h):=by
 have I:=hk.Jc;refine⟨hk,λc a=>Y5 (I c a) (Nat.le_succ _),⟨t.olds.length,t.cells.length,t.ever+1⟩,[],rfl,rfl,rfl,by show t.olds=_;rw[W7],p8 _,?_,λc a=>Nat.lt_succ_of_le (I c a),λc a=>Y5 (I c a) (Nat.le_succ _),λi c _ hi he=>?_,λo e=>(by cases e),p8 _,Nat.le_succ _⟩
 .show t.cells.take t.cells.length=_;rw[o5]
 .have:=I c (x5 hi);have he:c.st=t.ever+1:=he;omega
theorem ey.grow{h:List aw}{t:aw}(hk:ey t h):ey (t.grow n) h:=by
 cases h with
 |nil=>
  refine⟨hk.1,hk.2.1,λc a=>?_,hk.2.2.2⟩;rcases o9.1 a with a|a
  .exact hk.2.2.1 c a
  .rw[(List.mem_replicate.1 a).2];exact X4 _
 |cons s h=>
  obtain⟨h1,j,m,new,p,q,a3,a4,a5,r,w,x,a9,e,y,z⟩:=hk;have f:∀{b:Nat},(∀c∈t.cells,c.st<=b)->∀c∈(t.grow n).cells,c.st<=b:=λA c a=>by
   rcases o9.1 a with a|a
   .exact A c a
   .rw[(List.mem_replicate.1 a).2];exact X4 _
  refine⟨h1,f j,m,new,p,q,a3,a4,by show m.cells<=(t.cells++_).length;rw[r8];omega,?_,w,f x,λi c hi a he=>?_,e,y,z⟩
  .show (back new (t.cells++_)).take m.cells=_;rw[vd e,List.take_append_of_le_length a5,<-vd e];exact r
  .have a:(t.cells++p9 n ⟨0,0⟩)[i]?=σ c:=a;rw[Y1 Ω]at a;exact a9 i c hi a he
theorem Jd{s:aw}{m:nH}{l:List nH}(h:l=s.marks++[m]):l.getLast? =σ m:=by rw[h,List.getLast?_concat]
theorem ey.set{h:List aw}{t:aw}{i:Nat}{x:Int}(hk:ey t h):ey (t.set i x) h:=by
 unfold aw.set;cases q:t.cells[i]? with
 |none=>exact hk
 |some c=>
  have F:=(x4.1 q).1;have y:=x5 q;have r:∀{b st:Nat},(∀c∈t.cells,c.st<=b)->st<=b->∀d∈t.cells.set i ⟨x,st⟩,d.st<=b:=λM B d a=>by
   rcases W3 a with a|rfl
   .exact M d a
   .exact B
  cases h with
  |nil=>
   obtain⟨h1,w,G,N⟩:=hk;simp only[h1,List.getLast?_nil];exact⟨rfl,w,r G (G c y),N⟩
  |cons s h=>
   obtain⟨h1,w,m,new,C,H,a3,a4,a5,I,J,z,a9,K,E,L⟩:=hk;simp only[Jd C];by_cases A:c.st<m.st/\i<m.cells
   .rw[if_pos A];refine⟨h1,r w E,m,new++[⟨i,c⟩],C,H,a3,by show t.olds++_=_;rw[a4,X9],by show m.cells<=(t.cells.set i _).length;rw[Z6];exact a5,?_,J,r z (p8 _),λj d e a he=>?_,λo p=>?_,E,L⟩
    .show (back (new++[⟨i,c⟩]) (t.cells.set i _)).take m.cells=_;rw[back_append];have:back [⟨i,c⟩] (t.cells.set i ⟨x,m.st⟩)=t.cells:=by
      show(t.cells.set i _).set i c=_;rw[List.set_set];refine X2 λj=>?_;rw[X1];by_cases e:i=j
      .subst e;rw[if_pos rfl,if_pos F,q]
      .rw[if_neg e]
     rw[this];exact I
    .have a:(t.cells.set i ⟨x,m.st⟩)[j]?=σ d:=a;by_cases f:i=j
     .exact⟨⟨i,c⟩,Ξ,f⟩
     .rw[X1,if_neg f]at a;obtain⟨o,p,he⟩:=a9 j d e a he;exact⟨o,List.mem_append_left _ p,he⟩
    .rcases o9.1 p with p|p
     .exact K o p
     .rw[l7.1 p];exact A.2
   .rw[if_neg A];refine⟨h1,r w (w c y),m,new,C,H,a3,a4,by show m.cells<=(t.cells.set i _).length;rw[Z6];exact a5,?_,J,r z (z c y),λj d e a he=>?_,K,E,L⟩
    .rw[<-I];show(back new (t.cells.set i _)).take m.cells=_;refine X2 λj=>?_;by_cases e:j<m.cells
     .rw[Z9 e,Z9 e];by_cases f:i=j
      .subst f;have B:c.st=m.st:=by
        have:=z c y;have:¬c.st<m.st:=λao=>A ⟨ao,e⟩;omega
       exact zM (by rw[Z6]) (a9 i c e q B)
      .exact zN (by rw[X1,if_neg f]) (by rw[Z6])
     .rw[Y0 (by rw[o7];omega),Y0 (by rw[o7];omega)]
    .have a:(t.cells.set i ⟨x,c.st⟩)[j]?=σ d:=a;by_cases f:i=j
     .subst f;rw[X1,if_pos rfl,if_pos F]at a;cases a;exact a9 i c e q he
     .rw[X1,if_neg f]at a;exact a9 j d e a he
theorem ey.hB:∀{h:List aw}{t:aw}{m:Nat}{s:aw},ey t h->h.reverse[m]?=σ s->t.hB m={s with ever:=t.ever}/\∃x,t.marks[m]?=σ x/\x.olds=s.olds.length/\x.cells=s.cells.length/\s.cells.length<=t.cells.length/\(∃new,t.olds=s.olds++new/\(back new t.cells).take s.cells.length=s.cells/\∀o∈new,o.i<t.cells.length)/\s.marks=t.marks.take m/\s.ever<=t.ever
 |[],t,m,s,_,I=>by simp at I
 |s1::h,t,m,s,hk,I=>by
  obtain⟨h1,O,mk,new,q,y,a3,a4,a5,z,P,Q,a9,A,R,G⟩:=hk;have B:=h1.len;have key:∀{x:nH},t.marks[m]?=σ x->x.olds=s.olds.length->x.cells=s.cells.length->(∃e,t.olds=s.olds++e/\(back e t.cells).take s.cells.length=s.cells)->s.marks=t.marks.take m->t.hB m={s with ever:=t.ever}:=λ{x} f H J ⟨e,r,j⟩ p=>by
   unfold aw.hB;rw[f];simp only;rw[H,J,r,List.drop_left,List.take_left,j,<-p]
  rw[List.reverse_cons]at I;by_cases hm:m<h.length
  .rw[Y1 (by simpa using hm)]at I;obtain⟨_,x,K,C,E,S,⟨e,L,M,F⟩,N,T⟩:=ey.hB h1 I;have f:t.marks[m]?=σ x:=by rw[q,Y1 Ω];exact K
   have r:t.olds=s.olds++(e++new):=by rw[a4,L,X9]
   have j:(back (e++new) t.cells).take s.cells.length=s.cells:=by
    rw[back_append];have:((back e (back new t.cells)).take mk.cells).take s.cells.length=s.cells:=by
     rw[vd (λo a=>by have:=F o a;omega),z];exact M
    rw[List.take_take,R5 Ω]at this;exact this
   have p:s.marks=t.marks.take m:=by rw[q,List.take_append_of_le_length Ω];exact N
   refine⟨key f C E ⟨_,r,j⟩ p,x,f,C,E,Ω,⟨_,r,j,λo a=>?_⟩,p,Ω⟩;rcases o9.1 a with a|a
   .have:=F o a;omega
   .have:=A o a;omega
  .have w:m=h.length:=by
    have:=(x4.1 I).1;simp at this;omega
   rw[Y2 Θ]at I;simp only[List.length_reverse,w,U2,List.getElem?_cons_zero,X0]at I;subst I;have f:t.marks[m]?=σ mk:=by rw[q,Y2 Ω,w,B,U2];rfl
   have p:s1.marks=t.marks.take m:=by rw[q,w,<-B,List.take_left]
   have j:(back new t.cells).take s1.cells.length=s1.cells:=by rw[<-a3];exact z
   exact⟨key f y a3 ⟨new,a4,j⟩ p,mk,f,y,a3,Ω,⟨new,a4,j,λo a=>by have:=A o a;omega⟩,p,G⟩
theorem aw.pY{t:aw}{i:Nat}{x:Int}:(t.set i x).bG=t.bG.set i x:=by
 unfold aw.set aw.bG;cases a:t.cells[i]? with
 |none=>rw[List.set_eq_of_length_le (by rw[u9];exact List.getElem?_eq_none_iff.1 a)]
 |some c=>
  simp only;cases t.marks.getLast? with
  |none=>simp only;rw[U6]
  |some m=>simp only;split<;>rw[U6]
theorem aw.Je{t:aw}:(t.grow n).bG=t.bG++p9 n 0:=by
 unfold aw.grow aw.bG;rw[Z4,List.map_replicate]
end Go.Proofs.YtikkpokkcdocoaaGreatDoor
namespace Go.Vc
open Go Go.RowKit
section
variable{P:W9}{w:x3}{m:Bool}{S R:af}
theorem r7{b k l h:Nat}{low high:Option x1}(p:P.underlying t=σ (.slice e))(hi:aO P e k b z)(a:cc w k v n cs)(h1:lO low l)(q:lP high n h)(f:l<=h)(ao:h<=n)(r:∀j,cc w k j (h-l) ((cs.drop (l*k)).take ((h-l)*k))->K j):
  aa P (V6 t v low high ν) w K:=by
 have s:=a;obtain⟨_,x,o,base,cap,rfl,y,_⟩:=a;rw[gk p hi h1 q eU f Ω (p8 _)];exact r _ (cc.part s f ao Ω (p8 _))
theorem Jf{k:o4}{b i:Nat}(j:y=(i:Int))(p:P.underlying t=σ (.slice e))(hi:aO P e 1 b z)(h:aH k w v l)(q:i<=l.length)(r:∀a,aH k w a (l.drop i)->K a):aa P (V6 t v (σ (.int f y)) ν ν) w K:=by
 refine r7 p hi h (nu i y j) iH q (p8 _) λa h'=>r a (aH.of (n:=l.length-i) ?_);have s:((ints k l).drop (i*1)).take ((l.length-i)*1)=ints k (l.drop i):=by
  rw[j0 Ξ,T0,ints,<-List.map_drop]
 rw[s]at h';exact h'
theorem Jg{k:o4}{b i:Nat}(j:y=(i:Int))(p:P.underlying t=σ (.slice e))(hi:aO P e 1 b z)(h:aH k w v l)(q:i<=l.length)(r:∀a,aH k w a (l.take i)->K a):aa P (V6 t v ν (σ (.int f y)) ν) w K:=by
 refine r7 p hi h iG (nv i y j) (X4 _) q λa h'=>r a (aH.of (n:=i) ?_);have s:((ints k l).drop (0*1)).take ((i-0)*1)=ints k (l.take i):=by
  simp[ints,List.map_take]
 rw[s]at h';exact h'
theorem ve{b:Nat}{parts:Array (Nat×x1)}{K:x1->x3->Prop}(a:P.underlying t=σ (.slice e))(hi:aO P e 1 b (Δ 0))(x:n<=100000)(f:l.length=n)(h:Instr.fill (λj=>σ (j*1,1)) ((Array.range (n*1)).map ((if n*1=0 then#[]else(V7 .i64 0).cells)[·% (if n*1=0 then#[]else(V7 .i64 0).cells).size]!)) parts.toList=σ (ints .i64 l).toArray)(p:∀v g w',g=w.heap.size->Ext w w'->aq .i64 e w' g v l->K v w'):aC P (Y7 t n parts) w K:=
 kj a hi Ω h λg w' q r s=>p _ g w' q r (aq.of (n:=n) (bW.full (by simpa using s) (by simp[f]) (by simp[maxLen];omega)))
end
section
variable{P:W9}{w:x3}
theorem Jh{h p:r9}{q kn:o4}{b k cap:Nat}{base:Option Addr}{xs:List x1}{K:x1->x3->Prop}(x:y=(k:Int))(A:P.underlying t=σ (.slice e))(B:P.underlying h=σ (.int kn))(hi:aO P e 1 b z)(C:z.cells= #[z])(I:cc w 1 (.slice base n cap) n xs)(E:0<k)(r:cap<n+k)(F:(n+k)*b<=140737488355328)(G:n+k<=9223372036854775807)(H:∀v g w',g=w.heap.size->Ext w w'->bW w' g e 1 v (n+k) (xs++p9 k z)->K v w'):aC P (Z3 #[t,h] p #[.slice base n cap,.int q y]) w K:=by
 subst x;obtain⟨i,hi,J,rfl,L⟩:=hi;obtain⟨f,W,o,X,Y,he,M,Z,N,O⟩:=I;cases he;have Q:(Z5.firstCells i.size n (.slice base n cap)).run P w.drew= .ok xs.toArray w.drew:=by
  rcases Q4 n with rfl|R
  .have:xs=[]:=j4 (by simpa using f);subst this;cases base with
   |none=>exact run_firstCells_none w.drew i.size 0 0 cap
   |some a=>exact run_firstCells_some w.drew i.size 0 a 0 cap [] Ξ Ξ
  .have:=N R;subst this;refine run_firstCells_some w.drew i.size n _ n cap xs (by rw[J];exact f) λj u hu=>?_;rw[T2];exact O j u hu
 have S:k*i.bytes<=281474976710656:=by
  have:k*i.bytes<=(n+k)*i.bytes:=Y4 _ Ω;omega
 have T:=Lib.run_append_grow_zeros (P:=P) w t h p e i z q kn A B hi L base n cap xs Q k E Ω r Ω S (growslice_fits r F);have U:n+k<=grownCap w (n+k) cap e:=grownCap_ge w _ _ _;have V:grownCap w (n+k) cap e<=maxLen:=grownCap_le_maxLen w (n+k) cap e (by simpa[maxLen]using G);have s:∀m,Z5.zeroCells z.cells m=(p9 m z).toArray:=λm=>by
  rw[C];apply Array.ext
  .simp[size_zeroCells]
  .intro j h1 M;simp[Z5.zeroCells,Nat.mod_one]
 refine .of T ((pA w _ (Nat.le_succ _)).trans (pC _ _)) (H _ w.heap.size _ rfl ((rf w _).trans (pB _ _)) ⟨by simp at f;simp[f],.inr ⟨_,xs++p9 k z++p9 (grownCap w (n+k) cap e-(n+k)) z,rfl,?_,U,V,?_,?_⟩⟩)
 .rw[s,s];have:=heap_alloc_new w.drew (.cells (xs.toArray++(p9 k z).toArray++(p9 (grownCap w (n+k) cap e-(n+k)) z).toArray) e);rw[List.append_toArray,List.append_toArray]at this ⊢;exact this
 .simp at f;simp[f];omega
 .simp at f;rw[List.take_append_of_le_length (by simp[f]),j0 (by simp[f])]
theorem zO{a:r9}{base:Option Addr}{c:Nat}(f:P.underlying t=σ (.slice e)):
  aa P (Z5.cap_ #[t] a #[.slice base n c]) w K=K (Δ c):=aa.of λw' _=>by simp[Z5.cap_,run_underlying f,goInt]
theorem Ji{g o k c:Nat}(h:ad w g e cs)(hk:o+k<=cs.length)(f:k<=c)(p:c<=maxLen):cc w 1 (.slice (σ ⟨g,o,ν⟩) k c) k ((cs.drop o).take k):=by
 refine⟨Θ,g,o,_,c,rfl,f,p,λ_=>rfl,λj v a=>?_⟩;have q:=(x4.1 a).1;simp at q;rw[Z9 Ω,List.getElem?_drop]at a;exact h.cell a
theorem zP{h p:r9}{q g o cap:Nat}{K:x1->x3->Prop}(s:P.underlying t=σ (.slice e))(hi:aO P e 1 q z)(x:z.cells= #[z])(h1:z.oneCell'=true)(a:ad w g p cs)(y:0<n)(F:o+n<=cs.length)(A:∀w',ae (λr=>r=g) w w'->w'.heap.size=w.heap.size->ad w' g p (over cs o (p9 n z))->K (.tuple #[]) w'):aC P (Z5.clear_ #[t] h #[.slice (σ ⟨g,o,ν⟩) n cap]) w K:=by
 obtain⟨i,hi,G,rfl,B⟩:=hi;have C:=Lib.run_clear_slice (P:=P) w t e h z s (λw=>by simp[zeroValue,typeInfo,hi,B]) x h1 g o n cap y
  (λj H=>by rw[a.cell (x6 (show o+j<cs.length by omega))];rfl) (λj _=>a.frozen _ _)
 obtain⟨E,f⟩:=ny (p9 n z) cs o w a;exact .of C (f.cj a) (A _ f.V f.size E)
end
section
variable{P:W9}{w:x3}
theorem ic{a:r9}{k:o4}{i b g:Nat}(j:y=(i:Int))(p:P.underlying t=σ (.slice e))(hi:aO P e 1 b z)(h:aq k a w g v l)(q:i<l.length):aa P (j5 t v (.int f y)) w K=K (.pointer (σ ⟨g,i,ν⟩)):=by
 subst j;obtain⟨_,⟨_,r⟩|⟨cap,cs,rfl,_⟩⟩:=h
 .omega
 .rw[e3 p hi q (λ_=>rfl)];simp
theorem pZ{k:o4}{i b:Nat}{x:Int}(j:y=(i:Int))(p:P.underlying t=σ (.slice e))(hi:aO P e 1 b z)(h:aH k w v l)(a:l[i]?=σ x)(q:∀b o,w.cell? ⟨b,o,ν⟩=σ (.int k x)->K (.pointer (σ ⟨b,o,ν⟩))):aa P (j5 t v (.int f y)) w K:=by
 subst j;have r:=(x4.1 a).1;obtain⟨_,_,_,_,_,rfl,_,_,s,A⟩:=h;rw[e3 p hi r s,T0];exact q _ _ (A i _ (kV a))
theorem ie{a:r9}{k:o4}{i b g:Nat}{x:Int}{K:Unit->x3->Prop}(hi:aO P e 1 b z)(h:aq k a w g v l)(E:i<l.length)(p:∀w',ae (λr=>r=g) w w'->w'.heap.size=w.heap.size->aq k a w' g v (l.set i x)->K () w'):aC P (o6 e (.pointer (σ ⟨g,i,ν⟩)) (.int k x)) w K:=by
 obtain⟨F,⟨_,G⟩|⟨cap,full,rfl,q,s,y,f,j⟩⟩:=h
 .omega
 .have A:i<full.length:=by simp at f;omega
  refine bk hi rfl rfl q A λw' B I C=>p w' B I ⟨Ξ,.inr ⟨cap,full.set i (.int k x),Ξ,C,by simpa using s,y,by simpa using f,?_⟩⟩;simp only[Z6,T0]at j ⊢;rw[List.take_set,j,ints,ints,U6]
theorem jo{b o:Nat}(a:jL P t=true)(h:w.cell? ⟨b,o,ν⟩=σ v):cu P (u4 t (.pointer (σ ⟨b,o,ν⟩))) v w:=λw' e=>by
 have h':=iE e h;unfold jL at a;cases hu:P.underlying t with
 |none=>rw[hu]at a;cases a
 |some d=>
  rw[hu]at a;cases d<;>first|(cases a;done)|simp[u4,Instr.sureAddr,loadVar,isAgg,run_underlying hu,h']
theorem hX{k:o4}{S:af}(h:aH k w v l)(p:ae S w w')(q:∀r,S r->∀a n c,v= .slice (σ a) n c->a.block≠r):aH k w' v l:=by
 obtain⟨h1,b,o,base,cap,rfl,s,x,e,y⟩:=h;refine⟨h1,b,o,base,cap,rfl,s,x,e,?_⟩;rcases Q4 l.length with f|f
 .intro j u hu;have:=(x4.1 hu).1;simp at this;omega
 .have z:=e f;subst z;exact hx p (λh=>q _ h _ _ _ rfl rfl) y
end
end Go.Vc
namespace Go.Vc
open Go Go.RowKit Go.ChangeShapes Go.WideShapes
structure my(P:W9)(t:r9)(α:Type)[an α](G:α->Prop):Prop where
 op:∀{H:Type}{enc:r9×x1->H}{w:x3}{base:Nat}{spare:Nat->Bool}{held:Bool}{fuel:Nat}{cs:List x1}{x:DataW H×List MemPlace},
  DataW.trod enc P w base spare held fuel t cs=σ x->∃a:α,Seen fm w cs a/\G a
section
variable{P:W9}{α β:Type}[an α][an β]
theorem zQ{k:o4}{n:Int}(h:(Lit.int k n).wf=true):k.min<=n/\n<=k.max:=by simpa[Lit.wf]using h
theorem Jj{k:o4}(a:P.underlying t=σ (.int k)):my P t (lR k) λn=>k.min<=n.val/\n.val<=k.max:=⟨λh=>by
 obtain⟨n,rfl,_,hw⟩:=DataW.trod_int a h;exact⟨(n:Int),rfl,zQ hw⟩⟩
theorem sa(a:P.underlying t=σ (.int .i64)):my P t Int λn=>X7.min<=n/\n<=X7.max:=⟨λh=>by
 obtain⟨n,rfl,_,hw⟩:=DataW.trod_int a h;exact⟨n,rfl,zQ hw⟩⟩
theorem Jk(a:Addr)(m n:Nat):(a.add m).add n=a.add (m+n):=by
 unfold Addr.add;by_cases hm:m=0<;>by_cases e:n=0<;>simp[hm,e,S6]
theorem Jl{base:Nat}{a:Addr}(h:w.cells? base a n=σ cs):cs.length=n/\∀j v,cs[j]?=σ v->w.cell? (a.add j)=σ v:=by
 unfold x3.cells? at h;split at h
 .have f:cs.length=n:=by
   have:=mapM_some_length h;simpa using this
  refine⟨f,λj v e=>?_⟩;have p:=(x4.1 e).1;have:=mapM_some_get h j j (List.getElem?_range Ω);rw[this,e]
 .cases h
theorem Jm{G:α->Prop}(M:P.underlying t=σ (.slice e))(he:my P e α G)(N:P.cellsOf e=an.n α)(V:0<an.n α):my P t (List α) λl=>∀a∈l,G a:=by
 constructor;intro H enc w base spare held fuel cs x h;rcases DataW.trod_slice M h with⟨rfl,_⟩|⟨a,len,cap,W,rest,n,_,rfl,rfl,X,Y,hm,Z,O,_,_⟩
 .exact⟨[],hA,λ_ h=>by cases h⟩
 .
  have K:∀i,i<len->∃(c:List x1)(y:α),c.length=an.n α/\(∀j v,c[j]?=σ v->w.cell? (a.add (i*an.n α+j))=σ v)/\Seen fm w c y/\G y:=by
   intro i hi;have h1:=O i hi;rw[x6 Ω,N,Option.bind_eq_some_iff]at h1;obtain⟨c,r,s⟩:=h1;obtain⟨B,C⟩:=Jl r;obtain⟨y,E,Q⟩:=he.op s;exact⟨c,y,B,λj v q=>by have:=C j v q;rwa [Jk]at this,E,Q⟩
  have all:∀m,m<=len->∃(vs:List (List x1))(l:List α),vs.length=m/\l.length=m/\(∀c∈vs,c.length=an.n α)/\(∀(j:Nat)(v:x1),vs.flatten[j]?=σ v->w.cell? (a.add j)=σ v)/\
    (∀(i:Nat)(c:List x1)(y:α),vs[i]?=σ c->l[i]?=σ y->Seen fm w c y)/\∀y∈l,G y:=by
   intro m;induction m with
   |zero=>exact λ_=>⟨[],[],rfl,rfl,(λ_ h=>by cases h),(λj v h=>by simp at h),(λi c y h=>by simp at h),(λ_ h=>by cases h)⟩
   |succ m R=>
    intro hm;obtain⟨vs,l,h1,r,s,B,C,E⟩:=R Ω;obtain⟨c,y,g1,F,S,T⟩:=K m Ω;refine⟨vs++[c],l++[y],by simp[h1],by simp[r],λd f=>?_,λj v q=>?_,λi d z f p=>?_,λz p=>?_⟩
    .rcases o9.1 f with f|f
     .exact s d f
     .simp at f;subst f;exact g1
    .have A:=ji s;rw[h1]at A;rw[List.flatten_append]at q;by_cases U:j<m*an.n α
     .rw[Y1 Ω]at q;exact B j v q
     .rw[Y2 Ω,A]at q;simp at q;have:=F _ v q;rwa [show m*an.n α+(j-m*an.n α)=j by omega]at this
    .by_cases hi:i<m
     .rw[Y1 Ω]at f p;exact C i d z f p
     .have I:=(x4.1 f).1;simp[h1]at I;have I:i=m:=Ω
      subst I;rw[Y2 Ω,h1]at f;rw[Y2 Ω,r]at p;simp at f p;subst f p;exact S
    .rcases o9.1 p with p|p
     .exact E z p
     .simp at p;subst p;exact T
  obtain⟨vs,l,h1,r,s,B,C,E⟩:=all len (p8 _);have A:=ji s;rw[h1]at A;have L:0<len->a=⟨a.block,a.off,ν⟩:=λJ=>by
   obtain⟨c,y,g1,F,_⟩:=K 0 Ω;have:=F 0 c[0] (x6 Ω);rw[Nat.zero_mul]at this;exact uZ this
  refine⟨l,⟨_,rfl,vs,0,λ_ _=>False,⟨λ_ _ h=>h.elim,(λh=>by cases h),(λh=>by cases h)⟩,⟨Ω,C⟩,⟨by rw[A,r],a.block,a.off,σ a,cap,by rw[r],Ω,hm,λJ=>congrArg σ (L Ω),λ_=>.inr trivial,λj v q=>?_⟩,λh=>by cases h⟩,E⟩;have:=B j v q;have U:=(x4.1 q).1;have J:0<len:=by
   rcases Q4 len with h|h
   .rw[h,Nat.zero_mul]at A;omega
   .exact h
  rw[L J,T2]at this;exact this
structure sb(P:W9)(fs:List Field)(off:Nat)(α:Type)[an α](G:α->Prop):Prop where
 op:∀{H:Type}{enc:r9×x1->H}{w:x3}{base:Nat}{spare:Nat->Bool}{held:Bool}{n:Nat}{cs:List x1},cs.length=off+an.n α->
  (∀f∈fs,∃x,DataW.trod enc P w base spare held n f.type ((cs.drop f.offset).take (P.cellsOf f.type))=σ x)->∃a:α,Seen fm w (cs.drop off) a/\G a
theorem Jn{f:Field}{off:Nat}{G:α->Prop}(h:my P f.type α G)(e:f.offset=off)(j:P.cellsOf f.type=an.n α):sb P [f] off α G:=by
 constructor;intro H enc w base spare held n cs s p;obtain⟨x,q⟩:=p f (.head _);obtain⟨a,h1,r⟩:=h.op q;rw[e,j,j0 Θ]at h1;exact⟨a,h1,r⟩
theorem sd{f:Field}{e:List Field}{off:Nat}{G:α->Prop}{j:β->Prop}(h:my P f.type α G)(r:f.offset=off)(s:P.cellsOf f.type=an.n α)(y:sb P e (off+an.n α) β j):
  sb P (f::e) off (α×β) λp=>G p.1/\j p.2:=by
 constructor;intro H enc w base spare held n cs F q;obtain⟨x,z⟩:=q f (.head _);obtain⟨a,h1,A⟩:=h.op z;rw[r,s]at h1;have I:an.n (α×β)=an.n α+an.n β:=rfl;obtain⟨b,B,C⟩:=y.op Ω λg E=>q g (.tail _ E);refine⟨(a,b),⟨(cs.drop off).take (an.n α),cs.drop (off+an.n α),λ_=>False,λ_=>False,?_,λ_ h=>h,λ_ h=>h,(λh=>by cases h),h1,B⟩,A,C⟩;rw[<-List.drop_drop,List.take_append_drop]
theorem Jo{a:List Field}{G:α->Prop}(e:P.underlying t=σ (.struct a.toArray))(j:sb P a 0 α G)(y:P.cellsOf t=an.n α):my P t α G:=by
 constructor;intro H enc w base spare held fuel cs x h;obtain⟨xs,n,_,rfl,z,p,q⟩:=DataW.trod_struct e h;have:=j.op (enc:=enc) (w:=w) (base:=base) (spare:=spare) (held:=held) (n:=n) (cs:=cs) Ω λf r=>by
  obtain⟨i,hi,rfl⟩:=List.mem_iff_getElem.1 r;have s:i<xs.length:=by simpa[p]using hi
  have:=q i a[i] (by simp[hi]);rw[x6 s]at this;exact⟨_,this⟩
 simpa using this
end
end Go.Vc
namespace Go.Vc
open Go Go.RowKit
set_option maxRecDepth 100000
theorem Jp:(⟨#[]⟩:ByteArray)=strOfNums []:=rfl
theorem zR{ax:x1->x1->x1->x3->Prop}{B:(x1->x1->x1->x3->Prop)->Prop}(G:x1->x1->x1->x3->Prop)(h1:∀t u v w,G t u v w->ax t u v w)(e:∀a:x1->x1->x1->x3->Prop,(∀t u v w,G t u v w->a t u v w)->B a):ck ax B:=e ax h1
theorem zS{ax:x1->x1->x1->x1->x3->Prop}{B:(x1->x1->x1->x1->x3->Prop)->Prop}(G:x1->x1->x1->x1->x3->Prop)(h1:∀s t u v w,G s t u v w->ax s t u v w)(e:∀a:x1->x1->x1->x1->x3->Prop,(∀s t u v w,G s t u v w->a s t u v w)->B a):ck ax B:=e ax h1
abbrev bR(l:Λ):x1:=.string (strOfNums l)
def Bytes(l:Λ):Prop:=∀b∈l,0<=b/\b<256
theorem mz(l:Λ):(strOfNums l).size=l.length:=strOfNums_size l
theorem Jq(h:Bytes l){i:Nat}{b:Int}(hi:l[i]?=σ b):(strOfNums l)[i]?=σ (UInt8.ofNat b.toNat)/\((UInt8.ofNat b.toNat).toNat:Int)=b:=by
 have f:=h b (x5 hi);have e:=x4.1 hi;refine⟨?_,by rw[UInt8.toNat_ofNat'];omega⟩;have I:i<(strOfNums l).size:=by rw[mz];exact e.1
 rw[getElem?_pos (strOfNums l) i I];congr 1;show(strOfNums l).data[i]=_;have a:(strOfNums l).data.toList[i]?=σ (UInt8.ofNat b.toNat):=by rw[strOfNums_data,x8,hi];rfl
 rw[S8]at a;exact(n9.1 a).2
theorem str_inj{a b:Λ}(e:Bytes a)(f:Bytes b)(h:strOfNums a=strOfNums b):a=b:=by
 have h1:(strOfNums a).data.toList=(strOfNums b).data.toList:=by rw[h]
 rw[strOfNums_data,strOfNums_data]at h1;have key:∀{l:Λ},Bytes l->(l.map λn=>UInt8.ofNat n.toNat).map (λu=>((u.toNat:Nat):Int))=l:=λ{l}j=>by
  rw[Q0]
  conv=>rhs;rw[<-List.map_id l]
  refine List.map_congr_left λx p=>?_;have:=j x p;show(((UInt8.ofNat x.toNat).toNat:Nat):Int)=x;rw[UInt8.toNat_ofNat'];omega
 rw[<-key e,<-key f,h1]
theorem Jr(a b:Λ):strOfNums a++strOfNums b=strOfNums (a++b):=by
 apply ByteArray.ext;rw[ByteArray.data_append];simp[strOfNums]
theorem Js(l:Λ)(i j:Nat):(strOfNums l).extract i j=strOfNums ((l.take j).drop i):=by
 apply ByteArray.ext;rw[ByteArray.data_extract];apply Array.toList_inj.1;rw[Array.toList_extract];simp[strOfNums,List.extract_eq_take_drop,List.map_drop,List.map_take,List.drop_take]
theorem zT(l:Λ):(strOfNums l).toList=l.map λn=>UInt8.ofNat n.toNat:=by
 rw[ByteArray.toList_eq];exact strOfNums_data l
theorem zU{a b:Λ}(e:Bytes a)(f:Bytes b):((strOfNums a).toList == (strOfNums b).toList)=decide (a=b):=by
 rw[U1,beq_iff_eq,decide_eq_true_eq,zT,zT];refine⟨λh=>str_inj e f ?_,λh=>by rw[h]⟩;unfold strOfNums;rw[h]
section
variable{P:W9}{w:x3}
theorem nJ{a:r9}(e:P.underlying t=σ .string):aa P (V2 #[t] a #[bR l]) w K=K (Δ l.length):=aa.of λw' _=>by
 simp[V2,run_underlying e,goInt,mz]
theorem p0{k:o4}{b:Int}{i:Nat}(a:y=(i:Int))(f:P.underlying t=σ .string)(h:Bytes l)(hi:l[i]?=σ b):aa P (Instr.index t (bR l) (.int k y)) w K=K (.int .u8 b):=aa.of λw' _=>by
 subst a;obtain⟨h1,j⟩:=Jq h hi;have e:(0:Int)<=(i:Int):=Ω
 simp only[Instr.index,asIntOf,W6,V4,W8,run_underlying f];rw[if_pos e,u6,h1];simp only[V4,j]
theorem vf{a b:Λ}(h:a.length+b.length<=9223372036854775807):aa P (aJ .add t cx cy (bR a) (bR b)) w K=K (bR (a++b)):=aa.of λw' _=>by
 have:=run_string_add_sum (P:=P) (w:=w') (strOfNums a) (strOfNums b) (by rw[mz,mz];exact h);simp only[aJ,eqGuard,binOp];simp[this,Jr]
theorem zV{a b:Λ}(e:Bytes a)(f:Bytes b):aa P (aJ .eql t cx cy (bR a) (bR b)) w K=K (.bool (decide (a=b))):=aa.of λw' _=>by
 simp[aJ,eqGuard,binOp,Op.stringOp,zU e f]
theorem Jt{a b:Λ}(e:Bytes a)(f:Bytes b):aa P (aJ .neq t cx cy (bR a) (bR b)) w K=K (.bool (decide (a≠b))):=aa.of λw' _=>by
 simp[aJ,eqGuard,binOp,Op.stringOp,zU e f]
theorem zW{k:o4}{i:Nat}(a:y=(i:Int))(f:P.underlying t=σ .string)(hi:i<=l.length):aa P (V6 t (bR l) (σ (.int k y)) ν ν) w K=K (bR (l.drop i)):=aa.of λw' _=>by
 have j:=rW (P:=P) w' (sl:=false) (n:=(strOfNums l).size) (c:=(strOfNums l).size) (low:=σ (.int k y)) (high:=ν) (mx:=ν) (l:=i) (h:=(strOfNums l).size) (m:=(strOfNums l).size) (nu i y a) iH eU (by rw[mz];exact hi) (p8 _) (p8 _);have e:(strOfNums l).extract i (strOfNums l).size=strOfNums (l.drop i):=by rw[Js,mz,o5]
 simp[V6,Instr.slice,run_underlying f,j,e]
theorem vg{s:r9}(I:P.underlying s=σ (.slice e))(he:P.underlying e=σ (.int .u8))(f:P.underlying t=σ .string)(h:aH .u8 w v l):aa P (convert s t v) w K=K (bR l):=aa.of λw' r=>by
 obtain⟨p,b,o,base,cap,rfl,_,_,x,y⟩:=h.ext r;have p:l.length=l.length*1:=by simpa using p
 by_cases z:0<l.length
 .rw[x z];refine run_convert_bytes_arg w' s e I he b o l.length cap l rfl (λi hi=>?_) t f;have q:l[i]?=σ l[i]:=x6 hi;rw[v8,q];exact y i _ (kV q)
 .have A:l=[]:=j4 Ω;subst A;cases base with
  |none=>
   rw[run_convert_bytes_nil w' s e I he _ _ t f];rfl
  |some a=>
   rw[run_convert_bytes_string w' s t e _ _ _ I he f];have:=run_bytesToString (P:=P) w' a 0 cap [] (by have:=run_loadCells_list (P:=P) w' a [] (λj v B=>by simp at B);simpa using this);simp only[List.length_nil];rw[this];rfl
theorem vh{s:r9}{u:TypeDesc}{K:x1->x3->Prop}(I:P.underlying s=σ u)(y:P.underlying t=σ (.slice e))(he:P.underlying e=σ (.int .u8))(z:Bytes l)(hm:l.length<=1000000000)(A:∀v w',Ext w w'->aH .u8 w' v l->(∀r,(∃a n c,v= .slice (σ a) n c/\a.block=r)->w.heap.size<=r)->K v w'):aC P (convert s t (bR l)) w K:=by
 have B:=Lib.bytesWorld_at_new w e (strOfNums l);have q:=λj f=>Lib.bytesWorld_at_old w e (strOfNums l) j f;have C:=Lib.bytesWorld_size w e (strOfNums l);refine .of (Lib.run_convert_string_bytes w s t e (strOfNums l) I y he) ⟨rfl,⟨rfl,Nat.le_succ _⟩,rfl,Ω,λr o h _=>?_⟩ (A _ _ ⟨Ω,λr o h _=>?_⟩ ?_ ?_)
 .rw[q r (n9.1 h).1];exact h
 .rw[q r (n9.1 h).1];exact h
 .rw[mz];refine⟨Ξ,w.heap.size,0,_,_,rfl,?_,?_,λ_=>rfl,λj v p=>?_⟩
  .exact grownCap_ge w _ _ _
  .exact grownCap_le_maxLen w _ _ _ (by simp[maxLen];omega)
  .have f:j<l.length:=by have:=(x4.1 p).1;simpa using this
   have x:l[j]?=σ l[j]:=x6 f;rw[X6,Lib.bytesWorld_cell w e (strOfNums l) j (by rw[mz];exact f)];rw[kV x]at p;rw[<-Z2 p,strOfNums_data,v8,x8,x];have:=z l[j] (S9 f);simp only[Z7,V8];congr 2;rw[UInt8.toNat_ofNat'];omega
 .rintro r ⟨a,n,c,h1,rfl⟩;cases h1;exact p8 _
end
end Go.Vc
namespace Go.Proofs.YtikkpokkcdocoaaGreatDoor
open Go Go.Vc Go.RowKit Go.Proofs Go.Proofs.Tryz
set_option maxRecDepth 100000
theorem zX{b:Int}(h:cq b=true):bM b=false:=by
 have h:=of_decide_eq_true h;unfold bM;rw[decide_eq_false_iff_not];omega
theorem zY{b:Int}{p:Λ}(h:cq b=true):lex (b::p)=lex p:=by
 rw[km,km p,List.dropWhile_cons,if_pos h]
theorem Ju{b:Int}{p:Λ}(h:cq b=false)(a:bM b=false):lex (b::p)=([],false):=by
 rw[km,List.dropWhile_cons,if_neg (by simp[h])];simp only[a,Bool.false_eq_true,if_false]
theorem zZ{b:Int}{p:Λ}(h:bM b=true):lex (b::p)=match p.dropWhile bM with
  |[]=>([b::p.takeWhile bM],true)
  |c::r=>if cq c then((b::p.takeWhile bM)::(lex (c::r)).1,(lex (c::r)).2)else([],false):=by
 have I:cq b=false:=by
  cases a:cq b with
  |false=>rfl
  |true=>rw[zX a]at h;cases h
 rw[km,List.dropWhile_cons,if_neg (by simp[I])];simp only[h,if_true,List.dropWhile_cons,List.takeWhile_cons]
 all_goals (cases List.dropWhile bM p<;>rfl)
def ig:Λ->List (Λ)->Λ->Bool->List (Λ)×Bool
 |[],out,w,op=>(if op then out++[w]else out,true)
 |b::p,out,w,op=>
  if cq b then ig p (if op then out++[w]else out) [] false
  else if bM b then ig p out (if op then w++[b]else[b]) true
  else(out,false)
theorem p1:∀(p:Λ)(out:List (Λ))(w:Λ),ig p out w false=(out++(lex p).1,(lex p).2)/\
  ig p out w true=match p.dropWhile bM with
   |[]=>(out++[w++p.takeWhile bM],true)
   |c::r=>if cq c then(out++[w++p.takeWhile bM]++(lex (c::r)).1,(lex (c::r)).2)else(out,false)
 |[],out,w=>by simp[ig,km []]
 |b::p,out,w=>by
  by_cases I:cq b=true
  .have hw:=zX I;refine⟨?_,?_⟩
   .rw[ig,if_pos I,(p1 p _ _).1,zY I];simp
   .rw[ig,if_pos I,if_pos rfl,(p1 p _ _).1,List.dropWhile_cons,if_neg (by simp[hw])];simp only[I,if_true,zY I,List.takeWhile_cons,hw,Bool.false_eq_true,if_false,W7]
  .have e:cq b=false:=by cases h:cq b;rfl;exact absurd h I
   by_cases hw:bM b=true
   .refine⟨?_,?_⟩
    .rw[ig,if_neg I,if_pos hw,if_neg Ξ,(p1 p _ _).2,zZ hw];cases p.dropWhile bM with
     |nil=>simp
     |cons c r=>
      simp only;by_cases a:cq c=true
      .simp[a]
      .simp[a]
    .rw[ig,if_neg I,if_pos hw,if_pos rfl,(p1 p _ _).2,List.dropWhile_cons,if_pos hw,List.takeWhile_cons,if_pos hw];cases p.dropWhile bM with
     |nil=>simp
     |cons c r=>
      simp only;by_cases a:cq c=true
      .simp[a]
      .simp[a]
   .have f:bM b=false:=by cases h:bM b;rfl;exact absurd h hw
    refine⟨?_,?_⟩
    .rw[ig,if_neg I,if_neg hw,Ju e f];simp
    .rw[ig,if_neg I,if_neg hw,List.dropWhile_cons,if_neg hw];simp[e]
theorem Jv(p:Λ):ig p [] [] false=lex p:=by rw[(p1 p [] []).1];simp
def oQ:Nat->Nat->Λ
 |0,_=>[]
 |k+1,n=>(if n<10 then[]else oQ k (n / 10))++[48+((n % 10:Nat):Int)]
def fo(n:Nat):Λ:=oQ (n+1) n
theorem z1:∀{k m n:Nat},n<k->n<m->oQ k n=oQ m n
 |k+1,m+1,n,h1,a=>by
  unfold oQ;by_cases h:n<10
  .rw[if_pos h,if_pos h]
  .rw[if_neg h,if_neg h,z1 (k:=k) (m:=m) (n:=n / 10) Ω Ω]
theorem nK(n:Nat):fo n=(if n<10 then[]else fo (n / 10))++[48+((n % 10:Nat):Int)]:=by
 unfold fo;rw[oQ];by_cases h:n<10
 .rw[if_pos h,if_pos h]
 .rw[if_neg h,if_neg h,z1 (k:=n) (m:=n / 10+1) Ω Ω]
theorem z6:∀(k n:Nat),n<k->∀b∈fo n,48<=b/\b<=57
 |k+1,n,hk,b,a=>by
  rw[nK]at a;rcases o9.1 a with a|a
  .by_cases h:n<10
   .rw[if_pos h]at a;simp at a
   .rw[if_neg h]at a;exact z6 k (n / 10) Ω b a
  .rw[l7]at a;omega
theorem z7(n:Nat):∀b∈fo n,48<=b/\b<=57:=z6 (n+1) n Ω
def p2(l:Λ):Int:=l.foldl (λn b=>10*n+(b-48)) 0
theorem Jw(l:Λ)(b:Int):p2 (l++[b])=10*p2 l+(b-48):=by simp[p2]
theorem vi:∀(k n:Nat),n<k->p2 (fo n)=n
 |k+1,n,hk=>by
  rw[nK,Jw];by_cases h:n<10
  .rw[if_pos h];have:p2 []=0:=rfl;omega
  .rw[if_neg h,vi k (n / 10) Ω];omega
theorem Jx{b:Nat}(h:fo a=fo b):a=b:=by
 have h1:=vi (a+1) a Ω;have e:=vi (b+1) b Ω;rw[h,e]at h1;omega
theorem vj:∀(k n:Nat),n<10 ^ k->1<=k->(fo n).length<=k
 |k+1,n,h,_=>by
  rw[nK,r8];by_cases a:n<10
  .rw[if_pos a];simp
  .rw[if_neg a];have hk:1<=k:=by
    rcases k with _|k
    .simp at h;omega
    .omega
   have e:(10:Nat) ^ (k+1)=10*10 ^ k:=by rw[Nat.pow_succ,Nat.mul_comm]
   have:=vj k (n / 10) Ω hk;simp only[U9];omega
def ed(t:Λ):Λ:=t.flatMap λv=>fo v.toNat++[32]
theorem Jy(t:Λ)(v:Int):ed (t++[v])=ed t++(fo v.toNat++[32]):=by simp[ed]
theorem z8{r:Λ}(a:∀b∈l,b≠32):(l++32::r).takeWhile (λb=>decide (b≠32))=l/\(l++32::r).dropWhile (λb=>decide (b≠32))=32::r:=by
 induction l with
 |nil=>simp
 |cons x l e=>
  have f:=a x (.head _);have:=e λb h=>a b (.tail _ h);simp only[List.cons_append,List.takeWhile_cons,List.dropWhile_cons];simp only[f,ne_eq,not_false_eq_true,decide_true,if_true];exact⟨by rw[this.1],this.2⟩
theorem Aa:∀{a b:Λ},(∀x∈a,0<=x)->(∀x∈b,0<=x)->ed a=ed b->a=b
 |[],[],_,_,_=>rfl
 |[],y::b,_,_,h=>by simp[ed]at h
 |x::a,[],_,_,h=>by simp[ed]at h
 |x::a,y::b,j,p,h=>by
  have e:∀(z:Int)(l:Λ),ed (z::l)=fo z.toNat++32::ed l:=λz l=>by simp[ed]
  rw[e,e]at h;have d:∀z:Int,∀c∈fo z.toNat,c≠32:=λz c s=>by have:=z7 _ c s;omega
  have s1:=z8 (r:=ed a) (d x);have q:=z8 (r:=ed b) (d y);rw[h]at s1;have w:fo x.toNat=fo y.toNat:=s1.1.symm.trans q.1;have A:=s1.2.symm.trans q.2;have C:=j x (.head _);have E:=p y (.head _);have:=Jx w;have B:x=y:=Ω
  subst B;rw[Aa (λz f=>j z (.tail _ f)) (λz f=>p z (.tail _ f)) (List.cons.inj A).2]
theorem Ab(t:Λ):Bytes (ed t):=λb a=>by
 obtain⟨v,_,a⟩:=List.mem_flatMap.1 a;rcases o9.1 a with a|a
 .have:=z7 _ b a;omega
 .rw[l7]at a;omega
theorem Ac{b:Int}:ai x7 Ht [.int .u8 b] w λv w'=>v= .bool (cq b)/\Ext w w':=by
 refine az func170 ?_;refine aT (λv J=>v= .bool (cq b)/\Ext w J) (λ_ _ h=>h) λax a=>?_;rw[bd,aj];refine⟨λh=>a _ _ ⟨by unfold cq;rw[decide_eq_true (.inl h)],Ext.refl _⟩,λh1=>?_⟩;rw[bd,aj];refine⟨λh=>a _ _ ⟨by unfold cq;rw[decide_eq_true (.inr (.inl h))],Ext.refl _⟩,λe=>?_⟩;rw[bd,aj];refine⟨λh=>a _ _ ⟨by unfold cq;rw[decide_eq_true (.inr (.inr (.inl h)))],Ext.refl _⟩,λf=>?_⟩;rw[bd];refine a _ _ ⟨?_,Ext.refl _⟩;congr 1;unfold cq;rw[U1,decide_eq_true_eq,decide_eq_true_eq];omega
theorem Jz{b:Int}:ai x7 Hs [.int .u8 b] w λv w'=>v= .bool (bM b)/\Ext w w':=by
 refine az func169 ?_;refine aT (λv J=>v= .bool (bM b)/\Ext w J) (λ_ _ h=>h) λax a=>?_;rw[cI,aj];refine⟨λh=>?_,λh=>a _ _ ⟨by unfold bM;rw[decide_eq_false Ω],Ext.refl _⟩⟩;rw[mp];refine a _ _ ⟨?_,Ext.refl _⟩;congr 1;unfold bM;rw[U1,decide_eq_true_eq,decide_eq_true_eq];omega
def lT(w:x3)(g:Nat)(a:x1)(p:Λ)(at_:Nat)(bad:Int):Prop:=Bytes p/\p.length<=100000/\at_<=p.length/\ad w g hT [a,Δ (at_:Int),Δ bad]/\∃bm,aq .u8 cD w bm a p
theorem lT.ext{g:Nat}{a:x1}{p:Λ}{at_:Nat}{bad:Int}(h:lT w g a p at_ bad)(e:Ext w w'):lT w' g a p at_ bad:=by
 obtain⟨h1,f,j,q,bm,r⟩:=h;exact⟨h1,f,j,q.ext e,bm,r.ext e⟩
theorem JA(h:aH .u8 w v l)(A:l.length<=100000):ai x7 Hn [v] w λf w'=>Ext w w'/\∃g,aq .u8 cD w' g f l:=by
 have e:=h;obtain⟨B,b,o,base,cap,rfl,C,hm,p,E⟩:=h;refine az func163 ?_;rw[rV cH.u,b7];refine⟨λq=>⟨Ext.refl _,0,?_⟩,λ_=>?_⟩
 .have:l=[]:=by
   cases base with
   |none=>
        by_cases e:0<l.length
        .have:=p e;cases this
        .exact j4 Ω
   |some a=>cases q
  subst this;exact aq.nil _ _ _ _
 .refine kj (k:=1) (cs:=#[]) cH.u cD.i Ω Ψ λg J G j r=>?_;have s:aq .u8 cD J g (.slice (σ ⟨g,0,ν⟩) 0 0) []:=aq.of (n:=0) (bW.full (by simpa using r) rfl Ξ);refine jh cH.u cD.i rfl s (e.ext j) Θ Θ λf x U H y z=>?_;exact⟨j.put z Ω,x,by simpa using y⟩
theorem Ad(h:aH .u8 w v l)(q:Bytes l)(e:l.length<=100000):ai x7 yT [v] w λr w'=>Ext w w'/\∃g,r=Γ g/\w.heap.size<=g/\∃a,lT w' g a l 0 (-1):=by
 refine az func108 ?_;refine(JA h e).mono ?_;rintro a J _ ⟨f,bm,j⟩;rw[dh (cs:=#[a,Δ 0,Δ (-1)]) (by obtain⟨_,_,_,_,_,rfl,_⟩:=j.ls;kernel_rfl)];refine bj λg U x p s=>?_;have s1:=f.size;exact⟨f.trans p,g,rfl,Ω,a,q,e,X4 _,s,bm,j.ext p⟩
def runN(f:Int->Bool)(p:Λ):Nat:=(p.takeWhile f).length
theorem JB(f:Int->Bool)(p:Λ):runN f p<=p.length:=(List.takeWhile_sublist f).length_le
theorem Ae{f:Int->Bool}{p:Λ}{i:Nat}{b:Int}(hi:p[i]?=σ b)(e:f b=true):i+runN f (p.drop i)=(i+1)+runN f (p.drop (i+1)):=by
 have a:=x4.1 hi;unfold runN;rw[X8 a.1,a.2,List.takeWhile_cons,if_pos e,c9];omega
theorem Af{f:Int->Bool}{p:Λ}{i:Nat}(h:∀b,p[i]?=σ b->f b=false):runN f (p.drop i)=0:=by
 unfold runN;cases a:p[i]? with
 |none=>
  rw[List.drop_of_length_le (List.getElem?_eq_none_iff.1 a)];rfl
 |some b=>
  have e:=x4.1 a;rw[X8 e.1,e.2,List.takeWhile_cons,if_neg (by simp[h b a])];rfl
theorem JC{g at_:Nat}{A:x1}{p:Λ}{bad:Int}(h:lT w g A p at_ bad):ai x7 Hr [Γ g] w λv w'=>v=Δ ((at_+runN cq (p.drop at_):Nat):Int)/\Ext w w':=by
 obtain⟨M,N,B,a,bm,q⟩:=h;refine az func168 ?_;rw[aG hT.p 1 a rfl];refine⟨λv J=>Ext w J/\∃i:Nat,v=Δ (i:Int)/\i<=p.length/\i+runN cq (p.drop i)=at_+runN cq (p.drop at_),λv _=>p.length-(bS v).toNat,⟨Ext.refl _,at_,rfl,B,rfl⟩,?_⟩;rintro _ J ⟨j,i,rfl,hi,he⟩;refine aT (λv U=>Ext w U/\∃c:Bool,v= .bool c/\(c=true↔ ∃b,p[i]?=σ b/\cq b=true)) ?_ ?_
 .rintro _ U ⟨r,c,rfl,s⟩;rw[b7];refine⟨λC=>?_,λx=>?_⟩
  .obtain⟨b,e,E⟩:=s.1 C;have G:=(x4.1 e).1;rw[aP,wrap_i64 Ω Ω];exact⟨⟨r,i+1,rfl,G,by rw[<-he,Ae e E]⟩,by simp only[bS];omega⟩
  .have H:=Af (f:=cq) (p:=p) (i:=i) λb a=>by
    cases I:cq b with
    |false=>rfl
    |true=>rw[s.2 ⟨b,a,I⟩]at x;cases x
   exact⟨by rw[<-he,H,Nat.add_zero],r⟩
 .intro ax y;have z:=a.ext j;rw[aG hT.p 0 z rfl,aW cH.u (q.ext j).ls,aQ,aj];refine⟨λO=>?_,λP=>y _ _ ⟨j,false,rfl,⟨λh=>(by cases h),λ⟨b,a,_⟩=>by have:=(x4.1 a).1;omega⟩⟩⟩;have K:i<p.length:=Ω
  have e:p[i]?=σ p[i]:=x6 K;rw[aG hT.p 0 z rfl,be cH.u cD.i Ψ (q.ext j).ls e];refine Ac.mono ?_;rintro _ Q _ ⟨rfl,L⟩;exact y _ _ ⟨j.trans L,_,rfl,⟨λh=>⟨_,e,h⟩,λ⟨b,a,h⟩=>by rw[e]at a;cases a;exact h⟩⟩
inductive JD where
 |word (from_ to:Nat)
 |none
 |text (at_:Nat)
def gq(p:Λ)(at_:Nat):Nat:=at_+runN cq (p.drop at_)
def iK(p:Λ)(a:Nat):Nat:=a+runN bM (p.drop a)
open Classical in
noncomputable def oR(p:Λ)(at_:Nat):JD:=
 if iK p (gq p at_)<p.length/\(∀c,p[iK p (gq p at_)]?=σ c->cq c=false)then .text (iK p (gq p at_))else if gq p at_=iK p (gq p at_)then .none else .word (gq p at_) (iK p (gq p at_))
def p3(w:x3)(g:Nat)(e:x1)(p:Λ)(at_:Nat)(v:x1)(w':x3):Prop:=
 match oR p at_ with
 | .word a b=>v= .tuple #[bR ((p.take b).drop a),Δ (a:Int),Δ 0]/\ae (λr=>r=g) w w'/\lT w' g e p b (-1)
 | .none=>∃n:Nat,v= .tuple #[bR [],Δ (n:Int),Δ 2]/\Ext w w'
 | .text b=>v= .tuple #[bR [],Δ (b:Int),Δ 11]/\ae (λr=>r=g) w w'/\lT w' g e p at_ (b:Int)
theorem hC{aS:Nat->Prop}{a b c:x3}(h:ae S a b)(k:ae aS b c)(j:∀r,r<a.heap.size->aS r->S r):ae S a c:=
 ⟨Y5 h.size k.size,λr o e I f=>k.aY r o (h.aY r o e I f) I λhu=>f (j r (n9.1 e).1 hu)⟩
theorem b4{g:Nat}{k:o4}{p:r9}(h:aq k e w g v l)(q:ad w j p cs)(x:e≠p)(s:leads v r):r≠j:=by
 obtain⟨rfl,_⟩:=bO h s;obtain⟨_,⟨rfl,_⟩|⟨_,_,_,f,_⟩⟩:=h
 .obtain⟨a,n,c,h,_⟩:=s;cases h
 .rintro rfl;unfold ad at q f;rw[q]at f;injection f with h1;injection h1 with z y;exact x y.symm
theorem JE{s:r9}{e:o4}{b i:Nat}(p:x7.underlying s=σ (.slice t))(hi:aO x7 t 1 b z)(h:aH .u8 w v l)(q:i<=j)(r:j<=l.length)(x:∀a,aH .u8 w a ((l.take j).drop i)->K a):aa x7 (V6 s v (σ (.int e (i:Int))) (σ (.int f (j:Int))) ν) w K:=by
 refine r7 p hi h (nu i _ rfl) (nv j _ rfl) q r λa h'=>x a (aH.of (n:=j-i) ?_);have y:((ints .u8 l).drop (i*1)).take ((j-i)*1)=ints .u8 ((l.take j).drop i):=by
  rw[T0,T0,ints,ints,List.map_drop,List.map_take,List.drop_take]
 rw[y]at h';exact h'
theorem JF{g at_:Nat}{G:x1}{p:Λ}(h:lT w g G p at_ (-1)):ai x7 uK [Γ g] w (p3 w g G p at_):=by
 obtain⟨R,S,ao,e,bm,H⟩:=id h;refine az func114 ?_;rw[cP rQ.u,j9,aU,aG hT.p 2 e rfl,cI,aj];refine⟨λh=>Ω,λ_=>?_⟩;refine(JC h).mono ?_;rintro _ U _ ⟨rfl,ap⟩;obtain⟨a,W⟩:∃a,a=at_+runN cq (p.drop at_):=⟨_,rfl⟩;rw[<-W];have aq:a<=p.length:=by have:=JB cq (p.drop at_);rw[List.length_drop]at this;omega
 refine⟨λv J=>Ext U J/\∃i:Nat,v=Δ (i:Int)/\a<=i/\i<=p.length/\i+runN bM (p.drop i)=a+runN bM (p.drop a),λv _=>p.length-(bS v).toNat,⟨Ext.refl _,a,rfl,p8 _,aq,rfl⟩,?_⟩;rintro _ J ⟨X,i,rfl,au,hi,he⟩;have K:=ap.trans X;have Y:=e.ext K;have Z:=H.ext K;refine aT (λv z=>Ext J z/\∃c:Bool,v= .bool c/\(c=true↔ ∃b,p[i]?=σ b/\bM b=true)) ?_ ?_
 rotate_left
 .intro ax s;rw[aG hT.p 0 Y rfl,aW cH.u Z.ls,aQ,aj];refine⟨λav=>?_,λaw=>s _ _ ⟨Ext.refl _,false,rfl,⟨λh=>(by cases h),λ⟨b,e,_⟩=>by have:=(x4.1 e).1;omega⟩⟩⟩;have A:i<p.length:=Ω
  have q:p[i]?=σ p[i]:=x6 A;rw[aG hT.p 0 Y rfl,be cH.u cD.i Ψ Z.ls q];refine Jz.mono ?_;rintro _ z _ ⟨rfl,B⟩;exact s _ _ ⟨B,_,rfl,⟨λh=>⟨_,q,h⟩,λ⟨b,e,h⟩=>by rw[q]at e;cases e;exact h⟩⟩
 rintro _ z ⟨B,c,rfl,x⟩;have L:=K.trans B;have aa:=e.ext L;have ab:=H.ext L;rw[b7];refine⟨λM=>?_,λac=>?_⟩
 .obtain⟨b,q,ay⟩:=x.1 M;have aA:=(x4.1 q).1;rw[aP,wrap_i64 Ω Ω];exact⟨⟨X.trans B,i+1,rfl,Ω,aA,by rw[<-he,Ae q ay]⟩,by simp only[bS];omega⟩
 have aF:=Af (f:=bM) (p:=p) (i:=i) λb e=>by
  cases I:bM b with
  |false=>rfl
  |true=>rw[x.2 ⟨b,e,I⟩]at ac;cases ac
 have aB:i=a+runN bM (p.drop a):=Ω
 refine aT (λv N=>Ext z N/\∃c:Bool,v= .bool c/\(c=true↔i<p.length/\∀c,p[i]?=σ c->cq c=false)) ?_ ?_
 rotate_left
 .intro ax s;rw[aG hT.p 0 aa rfl,aW cH.u ab.ls,aQ,aj];refine⟨λav=>?_,λaw=>s _ _ ⟨Ext.refl _,false,rfl,⟨λh=>(by cases h),λh=>Ω⟩⟩⟩;have A:i<p.length:=Ω
  have q:p[i]?=σ p[i]:=x6 A;rw[aG hT.p 0 aa rfl,be cH.u cD.i Ψ ab.ls q];refine Ac.mono ?_;rintro _ N _ ⟨rfl,O⟩;rw[bC];refine s _ _ ⟨O,_,rfl,⟨λh=>⟨A,λc x=>?_⟩,λh=>by rw[h.2 _ q];rfl⟩⟩;rw[q]at x;cases x;cases I:cq p[i]with
  |false=>rfl
  |true=>rw[I]at h;cases h
 rintro _ N ⟨O,aH,rfl,ad⟩;have y:=L.trans O;have C:=e.ext y;have E:=H.ext y;have ae:∀r,leads G r->r≠g:=λr aC=>b4 E C Φ aC;have P:oR p at_=open Classical in if i<p.length/\(∀c,p[i]?=σ c->cq c=false)then .text i else if a=i then .none else .word a i:=by
  unfold oR;rw[show gq p at_=a from W.symm,show iK p a=i from aB.symm]
 rw[b7];refine⟨λM=>?_,λaf=>?_⟩
 .rw[bJ,aR hT.p rfl];refine bk (g:=g) (o:=2) ah.i rfl rfl C Ξ λaI ag aJ aD=>?_;unfold p3;rw[P,if_pos (ad.1 M)];exact⟨rfl,(y.V _).trans ag,R,S,ao,aD,bm,bo E ag ae⟩
 .have ak:¬(i<p.length/\∀c,p[i]?=σ c->cq c=false):=λh=>by rw[ad.2 h]at af;cases af
  rw[bd,aj];refine⟨λaK=>?_,λaL=>?_⟩
  .intro aM Q _ _;rw[aG hT.p 0 (C.ext Q) rfl,aW cH.u (E.ext Q).ls];unfold p3;rw[P,if_neg ak,if_pos Ω];exact⟨p.length,rfl,y.trans Q⟩
  .rw[bJ,aR hT.p rfl];refine bk (g:=g) (o:=1) ah.i rfl rfl C Ξ λaN al aO am=>?_;have an:=bo E al ae;rw[aG hT.p 0 am rfl];refine JE (i:=a) (j:=i) cH.u cD.i an.ls au hi λaS aE=>?_;rw[vg cH.u cD.u cZ.u aE];unfold p3;rw[P,if_neg ak,if_neg Ω];exact⟨rfl,(y.V _).trans al,R,S,hi,am,bm,an⟩
abbrev bx:af:=λ_=>False
abbrev eK(n:Nat):af:=λr=>n<=r
theorem JG{a b:Λ}{bb bv:x1}(f:aH .i64 w bb a)(s:aH .i64 w bv b):
  ai x7 HN [bb,bv] w λv w'=>v= .bool (decide (a=b))/\Ext w w':=by
 refine az func199 ?_;rw[aW ap.u f,aW ap.u s];simp only[bI,aj];refine⟨λp=>⟨?_,Ext.refl _⟩,λz=>?_⟩
 .rw[decide_eq_false];rintro rfl;exact p rfl
 .have z:a.length=b.length:=Ω
  rw[aW ap.u f];refine cd.range a.length (λi _ J=>Ext w J/\a.take i=b.take i) f.le ⟨Ext.refl _,rfl⟩ ?_ ?_
  .rintro i t4 J k A ⟨e,q⟩ hk;simp only[aQ,aj,ev];refine⟨λ_ U B _ _=>?_,λh=>Ω⟩;have e:=e.trans B;obtain⟨x,r⟩:=aF (l:=a) A;obtain⟨y,j⟩:=aF (l:=b) (i:=i) Ω;rw[be ap.u ah.i Ψ (f.ext e) r,be ap.u ah.i Ψ (s.ext e) j];simp only[bI,aj,aP];refine⟨λp=>⟨?_,e⟩,λC=>hk _ _ ⟨e,uY q r j Ω⟩⟩;rw[decide_eq_false];rintro rfl;rw[r]at j;cases j;exact p rfl
  .rintro _ J k ⟨e,q⟩;simp only[aQ,aj];refine⟨λh=>Ω,λ_=>⟨?_,e⟩⟩;rw[decide_eq_true];rwa [o5,z,o5]at q
def jp(rest:List (Λ))(i:Nat):List (Λ):=(V0 i).flatMap λ(v:Nat)=>rest.map λt=>(v:Int)::t
theorem JH(rest:List (Λ))(i:Nat):jp rest (i+1)=jp rest i++rest.map λt=>(i:Int)::t:=by
 simp[jp,List.range_succ]
theorem Ag(rest:List (Λ))(i:Nat):(jp rest i).length=i*rest.length:=by
 simp only[jp,List.length_flatMap,u9];rw[List.map_const',List.length_range,List.sum_replicate_nat]
def oS(l:Λ):Prop:=l.length<=90/\(∀x∈l,1<=x/\x<=32)/\aK l<=1073741824
theorem b1.p(h:b1 l):oS l:=⟨by have:=h.1;omega,h.2,(prod_bound h).2⟩
theorem oS.tail{s:Λ}(h:oS (k::s)):oS s:=by
 have h1:=h.2.1 k (.head _);have e:=(mv s λx a=>h.2.1 x (.tail _ a)).1;have f:k*aK s<=1073741824:=h.2.2;have j:=Int.mul_le_mul_of_nonneg_right h1.1 (show 0<=aK s by omega);refine⟨?_,λx a=>h.2.1 x (.tail _ a),Ω⟩;have:=h.1;rw[c9]at this;omega
theorem Ah:∀(s:Λ){sv:x1}{w:x3},aH .i64 w sv s->oS s->
  ai x7 yN [sv] w λv w'=>Ext w w'/\bD (eK w.heap.size) bx w' [v] (bg s)
 |[],sv,w,h,I=>by
  refine az func30 ?_;rw[aW ap.u h];simp only[bd,List.length_nil,Int.natCast_zero,decide_true,bL];refine kl (α:=Λ) (a:=[]) (cs:=[.slice ν 0 0]) (A:=bx) dn.u ap.i Φ rfl hA λv w' P f _=>⟨P,an.mono f (λr _ h=>?_) λ_ _ h=>h⟩;exact h.elim False.elim id
 |k::s,sv,w,h,I=>by
  have ao:1<=aK (k::s)/\aK (k::s)<=1073741824:=⟨(mv _ I.2.1).1,I.2.2⟩;have z:oS s:=I.tail;have hk:=I.2.1 k (.head _);have Q:=iI z.2.1;have aq:1<=aK s/\aK s<=1073741824:=⟨(mv _ z.2.1).1,z.2.2⟩;obtain⟨kn,rfl⟩:∃kn:Nat,k=kn:=⟨k.toNat,Ω⟩;have au:kn*(bg s).length<=1073741824:=by
   have e:((kn*(bg s).length:Nat):Int)=aK ((kn:Int)::s):=by
    rw[Int.natCast_mul,Q,aK,Int.toNat_of_nonneg Ω]
   omega
  refine az func30 ?_;rw[aW ap.u h];simp only[bd,aj];refine⟨λS=>by simp at S;omega,λ_=>?_⟩;refine Jf (i:=1) rfl ap.u ah.i h Ξ λV h'=>?_;refine(Ah s h' z).mono ?_;rintro av U _ ⟨E,B⟩;have aw:=mr B;refine cd.range kn (λi out J=>Ext U J/\bD (eK U.heap.size) bx J [out] (jp (bg s) i)) Ω ⟨Ext.refl _,hA⟩ ?_ ?_
  .rintro i out W X M ⟨q,f⟩ Y;have Z:=bT B q;rw[gl (y:=0) (i:=0) rfl ap.u ah.i Ψ (h.ext (E.trans q)) (by rfl)];simp only[aQ,aj];refine⟨λ_=>?_,λh=>Ω⟩;rw[jl dn.u Z];refine cd.range (bg s).length (λj out J=>Ext U J/\bD (eK U.heap.size) bx J [out] (jp (bg s) i++((bg s).take j).map λt=>(i:Int)::t)) Ω ⟨q,by simpa using f⟩ ?_ ?_
   .rintro j out p aa ab ⟨C,f⟩ ac;simp only[aQ,aj];refine⟨λ_=>?_,λh=>Ω⟩;obtain⟨x,G⟩:=aF (l:=(bg s)) ab;have ax:x.length<=100:=by
     have:=u1 G;have:=z.1;omega
    refine jm rfl rfl dn.u ap.i Ψ (bT B C) G λu hu=>?_;refine en ap.u ah.i rfl λa ga ay aA H ad=>?_;refine jh ap.u ah.i rfl ad (ew (bT hu H)) Θ Θ λb aB ae aC K af=>?_;have aD:=H.size;have N:Ext p ae:=H.then af (by rintro r B rfl;omega);have aE:=N.size;refine kl (α:=Λ) (a:=(i:Int)::x) (cs:=[b]) (A:=eK p.heap.size) (R:=bx) dn.u ap.i Φ (pV (nD K (R:=bx))) (an.mono (nD K) (λr _ h=>by subst h;show p.heap.size<=r;omega) λ_ _ h=>h) λc aG L _ ag=>?_;have O:=N.trans L;have aI:=L.size;refine nC (α:=Λ) (a:=(i:Int)::x) (A:=eK p.heap.size) dn.u ap.i rfl (bT (mr f) O) ag (bT (an.mono (nD K) (λr _ h=>by subst h;show p.heap.size<=r;omega) λ_ _ h=>h) L) (λr _ h h'=>?_) ?_ ?_ λV aJ ak al=>?_
    .rcases h' with h'|h'
     .have:=h.2;have:p.heap.size<=r:=h';omega
     .exact h'
    .have am:(jp (bg s) i++((bg s).take j).map λt=>(i:Int)::t).length+1<=kn*(bg s).length:=by
      simp only[r8,Ag,u9,o7];have:(i+1)*(bg s).length<=kn*(bg s).length:=Y4 _ M;rw[U8]at this;omega
     omega
    .have am:(jp (bg s) i++((bg s).take j).map λt=>(i:Int)::t).length+1<=kn*(bg s).length:=by
      simp only[r8,Ag,u9,o7];have:(i+1)*(bg s).length<=kn*(bg s).length:=Y4 _ M;rw[U8]at this;omega
     omega
    .simp only[aP];have aL:=C.size;refine ac _ _ ⟨(C.trans O).then al (λr B h=>?_),?_⟩
     .have:=h.1;have:U.heap.size<=r:=this;omega
     .have e:jp (bg s) i++((bg s).take (j+1)).map (λt=>(i:Int)::t)=(jp (bg s) i++((bg s).take j).map λt=>(i:Int)::t)++[(i:Int)::x]:=by
       rw[u7,G];simp
      rw[e];refine an.mono ak (λr _ h=>?_) λ_ _ h=>h;show U.heap.size<=r;rcases h with h|h|h
      .exact h.1
      .have:p.heap.size<=r:=h;omega
      .omega
   .rintro out p aa ⟨C,f⟩;simp only[aQ,aj,aP];refine⟨λh=>Ω,λ_=>Y _ _ ⟨C,?_⟩⟩;rw[JH];simpa using f
  .rintro out W X ⟨q,f⟩;rw[gl (y:=0) (i:=0) rfl ap.u ah.i Ψ (h.ext (E.trans q)) (by rfl)];simp only[aQ,aj];refine⟨λh=>Ω,λ_=>⟨E.trans q,?_⟩⟩;have aM:=E.size;have e:bg ((kn:Int)::s)=jp (bg s) kn:=by simp[bg,jp]
   rw[e];exact an.mono f (λr _ h=>by have:U.heap.size<=r:=h;show w.heap.size<=r;omega) λ_ _ h=>h
theorem Ai(s:Λ)(h:aH .i64 w sv s)(I:b1 s):ai x7 yN [sv] w λv w'=>Ext w w'/\bD (eK w.heap.size) bx w' [v] (bg s):=Ah s h I.p
theorem JI:∀(x:Nat),0<x->∃k m,x=2 ^ k*(2*m+1):=by
 intro x;induction x using Nat.strongRecOn with
 |_ x a=>
  intro h;by_cases e:x % 2=1
  .exact⟨0,x / 2,Ω⟩
  .obtain⟨k,m,hk⟩:=a (x / 2) Ω Ω;refine⟨k+1,m,?_⟩;rw[Nat.pow_succ,Nat.mul_assoc,Nat.mul_comm 2,<-Nat.mul_assoc,<-hk];omega
theorem vk{k m i:Nat}:(2 ^ k*(2*m+1)).testBit i=(decide (i=k)||decide (k<i)&&m.testBit (i-k-1)):=by
 rw[Nat.testBit_two_pow_mul];by_cases h:k<=i
 .obtain⟨d,rfl⟩:=Nat.exists_eq_add_of_le h;cases d with
  |zero=>simp
  |succ d=>
   have e:(2*m+1).testBit (d+1)=m.testBit d:=by rw[Nat.testBit_succ];congr 1;omega
   simp[e,show k+(d+1)-k=d+1 by omega]
 .simp[h,show i≠k by omega,show¬k<i by omega]
theorem JJ{k m:Nat}(p:2 ^ k*(2*m+1)<2 ^ 64):(2 ^ k*(2*m+1)) &&& (2 ^ 64-2 ^ k*(2*m+1))=2 ^ k:=by
 have q:0<2 ^ k:=Nat.two_pow_pos k;have hk:k<64:=by
  rcases Nat.lt_or_ge k 64 with h|h
  .exact h
  .have:2 ^ 64<=2 ^ k:=T8 Ω h;have:2 ^ k*1<=2 ^ k*(2*m+1):=Nat.mul_le_mul_left _ Ω;omega
 have e:2 ^ k*(2*m+1)=(2 ^ k*(2*m)+(2 ^ k-1))+1:=by rw[Nat.mul_add];omega
 apply Nat.eq_of_testBit_eq;intro i;rw[Nat.testBit_and,vk]
 conv=>lhs;rhs;rw[e]
 rw[Nat.testBit_two_pow_sub_succ Ω,Nat.testBit_two_pow_mul_add _ Ω,Nat.testBit_two_pow];by_cases h1:i=k
 .subst h1;simp[hk]
 .by_cases a:k<i
  .have f:(2*m).testBit (i-k)=m.testBit (i-k-1):=by
    obtain⟨d,j⟩:∃d,i-k=d+1:=⟨i-k-1,Ω⟩;rw[j,Nat.testBit_succ];congr 1;omega
   simp[h1,a,show¬i<k by omega,f,show k≠i by omega];intro h;simp[h]
  .simp[h1,a,show k≠i by omega]
def jO(a c:Nat):Nat:=(BitVec.ofNat 64 a &&& ~~~BitVec.ofNat 64 c).toNat
theorem Aj(a c i:Nat):(jO a c).testBit i=(decide (i<64)&&(a.testBit i&& !c.testBit i)):=by
 unfold jO;rw[BitVec.testBit_toNat,BitVec.getLsbD_and,BitVec.getLsbD_not,BitVec.getLsbD_ofNat,BitVec.getLsbD_ofNat];by_cases h:i<64<;>simp[h]
theorem JK(a c:Nat):jO a c<2 ^ 64:=BitVec.isLt _
theorem JL(h:∀i,n<=i->a.testBit i=false):a<2 ^ n:=Nat.lt_pow_two_of_testBit a h
theorem Ak{i:Nat}(h:a<2 ^ n)(hi:n<=i):a.testBit i=false:=Nat.testBit_lt_two_pow (T7 h (T8 Ω hi))
def fR(b n:Nat):List Nat:=(V0 n).filter λi=>b.testBit i
theorem Al(b n:Nat):(fR b n).Pairwise (·< ·):=List.Pairwise.filter _ List.pairwise_lt_range
theorem vl{b i:Nat}:i∈fR b n↔i<n/\b.testBit i=true:=by simp[fR]
def nL:Option Nat->Int
 |some i=>(i:Int)
 |none=>-1
def jP(b n:Nat)(v:Int):Int:=nL ((V0 n).find? (λi:Nat=>decide (v<(i:Int))&&b.testBit i))
theorem Am:∀{l:List Nat}{k x:Nat},l.Pairwise (·< ·)->l[k]?=σ x->l.filter (λi=>decide (x<i))=l.drop (k+1)
 |y::l,0,x,h,hk=>by
  simp at hk;subst hk;rw[List.pairwise_cons]at h;simp only[List.drop_succ_cons,List.drop_zero];rw[List.filter_cons_of_neg Ξ,List.filter_eq_self.2 λa e=>by simpa using h.1 a e]
 |y::l,k+1,x,h,hk=>by
  simp only[List.getElem?_cons_succ]at hk;rw[List.pairwise_cons]at h;have:y<x:=h.1 x (x5 hk);rw[List.filter_cons_of_neg Θ,List.drop_succ_cons];exact Am h.2 hk
theorem An(b n:Nat)(v:Int):jP b n v=nL (((fR b n).filter (λi:Nat=>decide (v<i))).head?):=by
 unfold jP fR;rw[<-List.head?_filter,List.filter_filter]
theorem JM(b n:Nat):jP b n (-1)=nL ((fR b n)[0]?):=by
 rw[An,List.filter_eq_self.2 (λa _=>Θ),List.head?_eq_getElem?]
theorem Ao{b k x:Nat}(h:(fR b n)[k]?=σ x):jP b n x=nL ((fR b n)[k+1]?):=by
 have e:(λi:Nat=>decide ((x:Int)<i))=λi=>decide (x<i):=by funext i;simp
 rw[An,e,Am (Al b n) h,List.head?_eq_getElem?,List.getElem?_drop]
theorem JN{b:Nat}{v:Int}(h:(n:Int)-1<=v):jP b n v= -1:=by
 unfold jP;rw[List.find?_eq_none.2 λi hi=>by simp at hi ⊢;omega];rfl
theorem JO{b k m s:Nat}(y:n<=64)(f:b<2 ^ n)(e:∀i,r.testBit i=(decide (s<=i)&&b.testBit i))(hk:r=2 ^ k*(2*m+1)){v:Int}(z:v+1=s):jP b n v=k:=by
 have p:r.testBit k=true:=by rw[hk,vk];simp
 have q:∀i,i<k->r.testBit i=false:=λi hi=>by rw[hk,vk];simp[show i≠k by omega,show¬k<i by omega]
 have a:=p;rw[e]at a;simp at a;have w:k<n:=by
  rcases Nat.lt_or_ge k n with h|h
  .exact h
  .rw[Ak f h]at a;cases a.2
 unfold jP;have:(V0 n).find? (λi:Nat=>decide (v<(i:Int))&&b.testBit i)=σ k:=by
  rw[List.find?_range_eq_some];refine⟨by simp[a.2];omega,by simpa using w,λj x=>?_⟩;have:=q j x;rw[e]at this;simp only[Bool.not_eq_true',Bool.and_eq_false_iff,decide_eq_false_iff_not]at this ⊢;rcases this with h|h
  .exact .inl Ω
  .exact .inr h
 rw[this];rfl
theorem JP{b s:Nat}(a:∀i,r.testBit i=(decide (s<=i)&&b.testBit i))(hk:r=0){v:Int}(e:v+1=s):jP b n v= -1:=by
 unfold jP;rw[List.find?_eq_none.2]
 .rfl
 .intro i hi;have:=a i;rw[hk,Nat.zero_testBit]at this;simp at hi this ⊢;intro h;exact this Ω
section
variable{P:W9}{w:x3}{t:r9}{cx cy:Bool}{a b:Nat}{K:x1->Prop}
theorem mA(a:Nat):T3 64 (a:Int)=BitVec.ofNat 64 a:=BitVec.ofInt_natCast _ _
theorem Ap(x:BitVec 64):T1.wrap (x.toNat:Int)=(x.toNat:Int):=by
 have:=x.isLt;rw[wrap_u64 Ω Ω]
theorem u64_and(f:a<2 ^ 64)(h:b<2 ^ 64):aa P (aJ .and t cx cy (.int .u64 a) (.int .u64 b)) w K=K (.int .u64 ((a &&& b:Nat):Int)):=aa.of λw' _=>by
 have e:(T3 64 (a:Int) &&& T3 64 (b:Int)).toNat=a &&& b:=by
  rw[mA,mA,BitVec.toNat_and,BitVec.toNat_ofNat,BitVec.toNat_ofNat,Nat.mod_eq_of_lt f,Nat.mod_eq_of_lt h]
 have hw:T1.wrap ((a &&& b:Nat):Int)=((a &&& b:Nat):Int):=by rw[<-e];exact Ap _
 have j:(T3 T1.bits (a:Int) &&& T3 T1.bits (b:Int)).toNat=a &&& b:=e;simp only[aJ,eqGuard,binOp,Op.intBits,j,hw];rfl
theorem Aq:aa P (aJ .andNot t cx cy (.int .u64 a) (.int .u64 b)) w K=K (.int .u64 (jO a b:Int)):=aa.of λw' _=>by
 have e:(T3 64 (a:Int) &&& ~~~T3 64 (b:Int)).toNat=jO a b:=by rw[mA,mA];rfl
 have hw:T1.wrap (jO a b:Int)=(jO a b:Int):=Ap _;have f:(T3 T1.bits (a:Int) &&& ~~~T3 T1.bits (b:Int)).toNat=jO a b:=e;simp only[aJ,eqGuard,binOp,Op.intBits,f,hw];rfl
theorem kY{k:o4}(f:n<64):aa P (aJ .shr t cx cy (.int .u64 (a:Int)) (.int k (n:Int))) w K=K (.int .u64 ((a / 2 ^ n:Nat):Int)):=aa.of λw' _=>by
 have e:(a:Int).fdiv (2 ^ min n T1.bits)=((a / 2 ^ n:Nat):Int):=by
  have:min n T1.bits=n:=R5 (by show n<=64;omega);rw[this,Int.fdiv_eq_ediv_of_nonneg _ (by exact Int.le_of_lt (Int.pow_pos Ω))];simp
 simp only[aJ,eqGuard,binOp,Op.shift,u6,e];simp[show¬(n:Int)<0 by omega]
theorem vm{k:o4}(a:n<64):aa P (aJ .shl t cx cy (.int .u64 1) (.int k (n:Int))) w K=K (.int .u64 ((2 ^ n:Nat):Int)):=by
 rw[zk Ω];have e:min ((n:Int).toNat) T1.bits=n:=R5 (by show n<=64;omega);have f:2 ^ n<2 ^ 64:=Nat.pow_lt_pow_right Ω a;rw[e,Int.one_mul,show((2:Int) ^ n)=((2 ^ n:Nat):Int) by simp];generalize 2 ^ n=q at f ⊢;rw[wrap_u64 Ω Ω]
end
def se:Λ:=[0,1,56,2,57,49,28,3,61,58,42,50,38,29,17,4,62,47,59,36,45,43,51,22,53,39,33,30,24,18,12,5,63,55,48,27,60,41,37,16,46,35,44,21,52,32,23,11,54,26,40,15,34,20,31,10,25,14,19,9,13,8,7,6]
def Laid(w:x3):Prop:=w.rangeAt 0 0 (ints .u8 se)
theorem Laid.ext(h:Laid w)(a:Ext w w'):Laid w':=ns a h
theorem JQ:∀k:Nat,k<64->se[(2 ^ k*285870213051353865 % 2 ^ 64) / 2 ^ 58]?=σ (k:Int):=Φ
theorem JR{x k m:Nat}(f:Laid w)(j:x=2 ^ k*(2*m+1))(p:x<2 ^ 64):
  ai x7 He [.int .u64 (x:Int)] w λv w'=>v=Δ (k:Int)/\Ext w w':=by
 have z:0<2 ^ k:=Nat.two_pow_pos k;have A:2 ^ k<=x:=by
  have:2 ^ k*1<=2 ^ k*(2*m+1):=Nat.mul_le_mul_left _ Ω;omega
 have hk:k<64:=by
  rcases Nat.lt_or_ge k 64 with h|h
  .exact h
  .have:2 ^ 64<=2 ^ k:=T8 Ω h;omega
 refine az func150 ?_;simp only[bd,aj];refine⟨λh=>Ω,λ_=>?_⟩;rw[lM];have q:T1.wrap (0-(x:Int))=((2 ^ 64-x:Nat):Int):=by
  simp only[o4.wrap,o4.bits,o4.signed];simp;omega
 rw[q,u64_and p Ω,j,JJ Ω];simp only[hV];have r:T1.wrap (((2 ^ k:Nat):Int)*285870213051353865)=((2 ^ k*285870213051353865 % 2 ^ 64:Nat):Int):=by
  have e:((2 ^ k:Nat):Int)*285870213051353865=((2 ^ k*285870213051353865:Nat):Int):=Ξ
  rw[e];simp only[o4.wrap,o4.bits,o4.signed];simp
 have s:(58:Int)=((58:Nat):Int):=rfl;rw[r,s,kY Ω];have a:=JQ k hk;have y:=(x4.1 a).1;rw[uX (t:=rR) rR.u cD.i y,aB Ψ (by rw[T0];exact f _ _ (kV a)),fl cD.u ah.u,wrap_i64 Ω Ω];exact⟨rfl,Ext.refl _⟩
def iL(b n:Nat):x1:=.agg #[.int .u64 (b:Int),Δ (n:Int)]
def kZ(b n:Nat):Prop:=n<=32/\b<2 ^ n
theorem Ar(s i:Nat):(2 ^ s-1).testBit i=decide (i<s):=Nat.testBit_two_pow_sub_one s i
theorem As{b:Nat}{v:Int}:ai x7 G2 [iL b n,Δ v] w λr w'=>r= .bool (decide (0<=v/\v<n))/\Ext w w':=by
 refine az func137 ?_;refine bj λg J f a e=>?_;simp only[ck,cI,aj];refine⟨λh=>?_,λh=>⟨?_,a⟩⟩
 .rw[aL bX.p 1 e rfl];simp only[aQ];exact⟨by simp[h],a⟩
 .rw[decide_eq_false];omega
theorem vn{b:Nat}:ai x7 Gl [iL b n] w λr w'=>r=Δ n/\Ext w w':=by
 refine az func68 ?_;refine bj λg J f a e=>?_;rw[aL bX.p 1 e rfl];exact⟨rfl,a⟩
theorem JS{n:Int}:ai x7 Gj [Δ n] w λr w'=>Ext w w'/\r=(if 1<=n/\n<=32 then .tuple #[iL (2 ^ n.toNat-1) n.toNat,Δ 0]else .tuple #[iL 0 0,Δ 1]):=by
 refine az func66 ?_;refine bz bX.i λg J z f j=>?_;refine aT (λv U=>v= .bool (decide (¬(1<=n/\n<=32)))/\J=U) ?_ ?_
 .rintro _ _ ⟨rfl,rfl⟩;simp only[aj];refine⟨λh=>?_,λh=>?_⟩
  .rw[dh (cs:=#[.int .u64 0,Δ 0]) Ψ];refine b6 (vs:=[.int .u64 0,Δ 0]) bX.i rfl rfl (by intro u hu;simp at hu;rcases hu with rfl|rfl<;>rfl) j λs a x e=>?_;rw[fC bX.p bX.i rfl e.range,if_neg h];exact⟨f.then a (by rintro r y rfl;omega),rfl⟩
  .have h:1<=n/\n<=32:=X3.1 h;obtain⟨m,rfl⟩:∃m:Nat,n=m:=⟨n.toNat,Ω⟩;rw[vm Ω];have A:0<2 ^ m:=Nat.two_pow_pos m;have B:2 ^ m<=2 ^ 32:=T8 Ω Ω;simp only[dD];rw[wrap_u64 Ω Ω,show(((2 ^ m:Nat):Int)-1)=((2 ^ m-1:Nat):Int) by omega];rw[dh (cs:=#[.int .u64 ((2 ^ m-1:Nat):Int),Δ m]) Ψ];refine b6 (vs:=[.int .u64 ((2 ^ m-1:Nat):Int),Δ m]) bX.i rfl rfl (by intro u hu;simp at hu;rcases hu with rfl|rfl<;>rfl) j λs a x e=>?_;rw[fC bX.p bX.i rfl e.range,if_pos h];exact⟨f.then a (by rintro r y rfl;omega),rfl⟩
 .intro ax q;simp only[aQ,bP,aj];refine⟨λh=>q _ _ ⟨?_,rfl⟩,λh=>q _ _ ⟨?_,rfl⟩⟩
  .rw[decide_eq_true];omega
  .congr 1;simp;omega
theorem Au{b:Nat}{v:Int}(y:kZ b n)(z:Laid w)(G: -1<=v):ai x7 Gy [iL b n,Δ v] w λr w'=>r=Δ (jP b n v)/\Ext w w':=by
 obtain⟨H,e⟩:=y;have f:b<2 ^ 64:=T7 e (T8 Ω Ω);refine az func83 ?_;refine bj λg J K a j=>?_;rw[aL bX.p 1 j rfl];simp only[dD,cI,aj];rw[wrap_i64 Ω Ω];refine⟨λh=>⟨by rw[JN h],a⟩,λL=>?_⟩;rw[aL bX.p 0 j rfl];refine aT (λu U=>J=U/\∃r s:Nat,u= .int .u64 (r:Int)/\r<2 ^ 64/\v+1=s/\∀i,r.testBit i=(decide (s<=i)&&b.testBit i)) ?_ ?_
 .rintro _ _ ⟨rfl,r,s,rfl,A,I,q⟩;simp only[bd,aj];refine⟨λB=>⟨by rw[JP q Ω I],a⟩,λB=>?_⟩;obtain⟨k,m,hk⟩:=JI r Ω;refine(JR (z.ext a) hk A).mono ?_;rintro _ M _ ⟨rfl,C⟩;exact⟨by rw[JO Ω e q hk I],a.trans C⟩
 .intro ax x;refine⟨λh=>?_,λh=>?_⟩
  .obtain⟨s,rfl⟩:∃s:Nat,v=s:=⟨v.toNat,Ω⟩;have N:0<2 ^ (s+1):=Nat.two_pow_pos _;have O:2 ^ (s+1)<=2 ^ 32:=T8 Ω Ω;simp only[aP];rw[wrap_i64 Ω Ω,show((s:Int)+1)=((s+1:Nat):Int) by omega,vm Ω];simp only[dD];rw[wrap_u64 Ω Ω,show(((2 ^ (s+1):Nat):Int)-1)=((2 ^ (s+1)-1:Nat):Int) by omega,Aq];refine x _ _ ⟨rfl,_,s+1,rfl,JK _ _,Ω,λi=>?_⟩;rw[Aj,Ar];by_cases E:i<64
   .by_cases hi:s+1<=i
    .simp[E,hi,show¬i<s+1 by omega]
    .simp[hi,show i<s+1 by omega]
   .rw[Ak f Ω];simp
  .exact x _ _ ⟨rfl,b,0,rfl,f,Ω,λi=>Ξ⟩
theorem JT{b:Nat}(e:kZ b n)(f:Laid w):ai x7 Gx [iL b n] w λr w'=>r=Δ (jP b n (-1))/\Ext w w':=by
 refine az func82 ?_;refine bj λg J q a h=>?_;rw[bH bX.p bX.i rfl h.range];refine(Au e (f.ext a) Ω).mono ?_;rintro _ U _ ⟨rfl,j⟩;exact⟨rfl,a.trans j⟩
theorem JU{b:Nat}{v:Int}(H:kZ b n):ai x7 Gm [iL b n,Δ v] w λr w'=>r=iL (if 0<=v/\v<n then jO b (2 ^ v.toNat)else b) n/\Ext w w':=by
 refine az func69 ?_;refine bj λg J R x y=>?_;refine bz bX.i λI U S z A=>?_;have s1:=x.size;have W:=y.lt;refine dd (λe=>∃f,ad e g bX [.int .u64 ((f:Nat):Int),Δ (n:Int)]/\ad e I bX [.int .u64 0,Δ 0]/\Ext w e/\f=(if 0<=v/\v<n then jO b (2 ^ v.toNat)else b)) ?_ ?_
 .rintro e ⟨f,K,L,M,rfl⟩;rw[bH bX.p bX.i rfl K.range];refine b6 (vs:=[_,_]) bX.i rfl rfl (by intro u hu;simp at hu;rcases hu with rfl|rfl<;>rfl) L λX N Y O=>?_;rw[fC bX.p bX.i rfl O.range];exact⟨rfl,M.then N (by rintro r P rfl;omega)⟩
 .intro ax B;have j:=y.ext z;rw[bH bX.p bX.i rfl j.range];refine As.mono ?_;rintro _ Z _ ⟨rfl,a⟩;have C:=(x.trans z).trans a;simp only[aj,ev];refine⟨λh aa q _ _=>?_,λh=>B _ ⟨b,j.ext a,A.ext a,C,by rw[if_neg h]⟩⟩;have E:=(j.ext a).ext q;rw[aL bX.p 0 E rfl];obtain⟨s,rfl⟩:∃s:Nat,v=s:=⟨v.toNat,Ω⟩;have ab:=H.1;rw[vm Ω,Aq,aR bX.p rfl];refine bk fj.i rfl rfl E (by simp[iL,x1.cells]) λac G ae Q=>?_;refine B _ ⟨_,Q,((A.ext a).ext q).V G Ω,(C.trans q).then G (by rintro r P rfl;omega),?_⟩;rw[if_pos h,u6]
def oT(v:Int):Nat:=if v<0 then 0 else 40-v.toNat
theorem vo(x:Nat):oT x=40-x:=by unfold oT;rw[if_neg Ω];omega
theorem mB{b g:Nat}(e:kZ b n):
  nf x7 jd [Γ g] (fR b n).length (λk vs _=>∃v:Nat,(fR b n)[k]?=σ v/\vs=[Δ (v:Int)])
   (λw=>ad w g bX [.int .u64 (b:Int),Δ (n:Int)]/\Laid w):=by
 refine⟨jd.enters,λl ax Q w r _ E ⟨s,z⟩ G=>?_⟩;have R:=e.1;refine oK func81 ?_;rw[bH bX.p bX.i rfl s.range];refine(JT e z).free.mono ?_;rintro _ J ⟨H,rfl,f⟩;refine⟨λv U=>∃k,k<=(fR b n).length/\v=Δ (nL (fR b n)[k]?)/\ax k U/\ad U g bX [.int .u64 (b:Int),Δ (n:Int)]/\Laid U,
  λv _=>oT (bS v),⟨0,X4 _,by rw[JM],r 0 _ _ f H.b G,s.ext f,z.ext f⟩,?_⟩
 rintro _ U ⟨k,hk,rfl,A,I,K⟩;cases a:(fR b n)[k]? with
 |none=>
  have:k=(fR b n).length:=by
   have:=List.getElem?_eq_none_iff.1 a;omega
  subst this;simp only[nL,cI,aj];exact⟨λh=>Ω,λ_=>.inl A⟩
 |some x=>
  have j:=(x4.1 a).1;have S:=(vl.1 (x5 a)).1;simp only[nL,cI,aj];refine⟨λ_=>?_,λh=>Ω⟩;refine⟨rfl,(E k _ U j ⟨I,K⟩ ⟨x,a,rfl⟩ A).mono ?_⟩;rintro _ V (⟨rfl,⟨B,C⟩,L⟩|⟨rfl,M⟩)
  .simp only[bC,Y6,aU];rw[bH bX.p bX.i rfl B.range];refine(Au e C Ω).free.mono ?_;rintro _ W ⟨N,rfl,q⟩;refine⟨⟨k+1,j,congrArg (V7 .i64) (Ao a),r _ _ _ q N.b L.1,B.ext q,C.ext q⟩,?_⟩;rw[Ao a];cases O:(fR b n)[k+1]? with
   |none=>show 0<oT x;rw[vo];omega
   |some y=>
    have X:x<y:=by
     have h1:=(x4.1 a).2;have P:=(x4.1 O).2;rw[<-h1,<-P];exact V9.1 (Al b n) k (k+1) _ _ Ω
    show oT y<oT x;rw[vo,vo];omega
  .simp only[bC,W5,bL];exact .inr ⟨k,j,M⟩
theorem mC{b:Nat}:ai x7 FX [iL b n] w λr w'=>Ext w w'/\∃g,r= .func (.func jd) #[] #[Γ g]/\w.heap.size<=g/\ad w' g bX [.int .u64 (b:Int),Δ (n:Int)]:=by
 refine az func36 ?_;refine bj λg J f a e=>?_;rw[ki];exact⟨a,g,rfl,Ω,e⟩
abbrev dE(s:Λ):Prop:=∀x∈s,1<=x/\x<=32
theorem dE.tail{s:Λ}(h:dE (k::s)):dE s:=λx a=>h x (.tail _ a)
theorem lU{s:Λ}(h:dE s):1<=aK s:=(mv s h).1
theorem oU:∀(s t:Λ)(m:Int),cB s t m=(cB s t 0).map λn=>n+m*aK s
 |[],[],m=>by simp[cB,aK]
 |k::s,v::t,m=>by
  unfold cB;split
  .rw[oU s t (m*k+v),oU s t (0*k+v)];simp only[Option.map_map,aK];congr 1;funext n;simp only[Function.comp];rw[Int.add_mul,Int.add_mul,<-Int.mul_assoc];simp;omega
  .rfl
 |[],_::_,_=>rfl
 |_::_,[],_=>rfl
theorem vp{L j:Nat}{rest:List (Λ)}(p:rest.length=L):∀{kn v:Nat},v<kn->∀{x:Λ},rest[j]?=σ x->
  ((V0 kn).flatMap λ(v:Nat)=>rest.map λt=>(v:Int)::t)[v*L+j]?=σ ((v:Int)::x)
 |0,v,h,_,_=>Ω
 |kn+1,v,h,x,e=>by
  have q:=(x4.1 e).1;have f:((V0 kn).flatMap λ(v:Nat)=>rest.map λt=>(v:Int)::t).length=kn*L:=by
   simp only[List.length_flatMap,u9,p];rw[List.map_const',List.length_range,List.sum_replicate_nat]
  rw[List.range_succ,List.flatMap_append];by_cases a:v<kn
  .have:(v+1)*L<=kn*L:=Y4 _ a;rw[U8]at this;rw[Y1 (by rw[f];omega)];exact vp p a e
  .have a:v=kn:=Ω
   subst a;rw[Y2 (by rw[f];omega),f,show v*L+j-v*L=j by omega];simp[e]
theorem jq:∀{s:Λ},dE s->∀{i:Nat}{t:Λ},(bg s)[i]?=σ t->cB s t 0=σ (i:Int)
 |[],_,i,t,h=>by
  cases i with
  |zero=>simp[bg]at h;subst h;rfl
  |succ i=>simp[bg]at h
 |k::s,I,i,t,h=>by
  have hk:=I k (.head _);have a:=iI I.tail;have w:=lU I.tail;obtain⟨kn,rfl⟩:∃kn:Nat,k=kn:=⟨k.toNat,Ω⟩;have hi:=(x4.1 h).1;rw[iI I,aK,Int.toNat_mul Ω Ω,<-a,u6]at hi;have p:0<(bg s).length:=Ω
  have e:i / (bg s).length<kn:=Nat.div_lt_of_lt_mul (by rw[Nat.mul_comm];exact hi);have q:i % (bg s).length<(bg s).length:=Nat.mod_lt _ p;obtain⟨x,f⟩:∃x,(bg s)[i % (bg s).length]?=σ x:=⟨_,x6 q⟩;have j:=vp (kn:=kn) rfl e f;rw[Nat.mul_comm,Nat.div_add_mod]at j;have h':((V0 ((kn:Int).toNat)).flatMap λ(v:Nat)=>(bg s).map λt=>(v:Int)::t)[i]?=σ t:=h;rw[u6,j]at h';cases h';unfold cB;rw[if_pos ⟨Int.natCast_nonneg _,Int.ofNat_lt.2 e⟩,oU,jq I.tail f];simp only[Z7,X0,Int.zero_mul,Int.zero_add];have r:aK s=((bg s).length:Int):=by rw[a];omega
  rw[r,<-Int.natCast_mul,<-Int.natCast_add];congr 1;rw[Nat.mul_comm,Nat.add_comm,Nat.div_add_mod]
theorem mD:∀{s:Λ},dE s->∀{t:Λ}{n:Int},cB s t 0=σ n->(bg s)[n.toNat]?=σ t
 |[],_,[],n,h=>by simp[cB]at h;subst h;rfl
 |k::s,I,v::t,n,h=>by
  have hk:=I k (.head _);have j:=iI I.tail;have w:=lU I.tail;obtain⟨kn,rfl⟩:∃kn:Nat,k=kn:=⟨k.toNat,Ω⟩;unfold cB at h;split at h
  .rename_i x;rw[oU]at h;cases f:cB s t 0 with
   |none=>rw[f]at h;cases h
   |some q=>
    rw[f]at h;simp only[Z7,X0,Int.zero_mul,Int.zero_add]at h;have p:=nE I.tail f;simp only[Int.zero_mul,Int.zero_add,Int.one_mul]at p;obtain⟨a,rfl⟩:∃a:Nat,v=a:=⟨v.toNat,Ω⟩;have r:=vp (kn:=kn) (v:=a) rfl Ω (mD I.tail f);have e:n.toNat=a*(bg s).length+q.toNat:=by
     rw[<-h,j];have:((a*(aK s).toNat:Nat):Int)=(a:Int)*aK s:=by rw[Int.natCast_mul,Int.toNat_of_nonneg Ω]
     omega
    rw[e];show((V0 ((kn:Int).toNat)).flatMap λ(v:Nat)=>(bg s).map λt=>(v:Int)::t)[_]?=_;rw[u6];exact r
  .cases h
 |[],_,_::_,_,h=>by cases h
 |_::_,_,[],_,h=>by cases h
theorem Av:∀(s:Λ),dE s->∀(n c:Int),cJ s (n+c*aK s)=cJ s n
 |[],_,_,_=>rfl
 |k::s,I,n,c=>by
  have a:=lU I.tail;simp only[cJ,aK];rw[<-Int.mul_assoc,Av s I.tail,Int.add_mul_ediv_right _ _ Ω,Int.add_mul_emod_self_right]
theorem sf:∀{s:Λ},dE s->∀{n:Int},0<=n->n<aK s->cB s (cJ s n) 0=σ n
 |[],_,n,a,h1=>by simp[aK]at h1;simp[cJ,cB];omega
 |k::s,I,n,a,h1=>by
  have hk:=I k (.head _);have j:=lU I.tail;simp only[cJ,aK]at h1 ⊢;have f:n / aK s<k:=Int.ediv_lt_of_lt_mul Ω h1;have h:0<=n / aK s:=Int.ediv_nonneg a Ω;have hm:n / aK s % k=n / aK s:=Int.emod_eq_of_lt h f;rw[hm];unfold cB;rw[if_pos ⟨h,f⟩,oU];have e:cJ s n=cJ s (n % aK s):=by
   have:=Av s I.tail (n % aK s) (n / aK s);rw[<-this];congr 1;have:=Int.emod_add_mul_ediv n (aK s);rw[Int.mul_comm (n / aK s)];omega
  rw[e,sf I.tail (Int.emod_nonneg _ Ω) (Int.emod_lt_of_pos _ Ω)];simp only[Z7,X0,Int.zero_mul,Int.zero_add];have:=Int.emod_add_mul_ediv n (aK s);rw[Int.mul_comm (n / aK s)];omega
theorem oV{s:Λ}(I:dE s){i:Nat}(h:(i:Int)<aK s):(bg s)[i]?=σ (cJ s i):=by
 have:=mD I (sf I (n:=(i:Int)) Ω h);simpa using this
def bn(s cs t:Λ):Int:=match cB s t 0 with
 |some n=>cs.getD n.toNat 0
 |none=>0
def upto{α:Type}(l:List α)(d:α)(i:Nat):List α:=l.take i++p9 (l.length-i) d
theorem p4{α:Type}(l:List α)(d:α)(i:Nat):(upto l d i).length=l.length:=by simp[upto];omega
theorem p5{α:Type}(l:List α)(d:α):upto l d 0=p9 l.length d:=by simp[upto]
theorem p6{α:Type}(l:List α)(d:α):upto l d l.length=l:=by simp[upto]
theorem p7{α:Type}{l:List α}{d x:α}{i:Nat}(h:l[i]?=σ x):(upto l d i).set i x=upto l d (i+1):=by
 have hi:=(x4.1 h).1;unfold upto;rw[S0 _ _ Θ,u7,h];have e:i-(l.take i).length=0:=Θ
 obtain⟨m,hm⟩:∃m,l.length-i=m+1:=⟨l.length-i-1,Ω⟩;rw[e,hm,show l.length-(i+1)=m by omega];simp[List.replicate_succ]
theorem qa{α:Type}{l:List α}{i:Nat}{x:α}(h:l[i]?=σ x):l.set i x=l:=by
 apply X2;intro j;rw[X1];split
 .rename_i a;subst a;rw[if_pos (x4.1 h).1,h]
 .rfl
def vq:Λ->Int
 |[]=>0
 |x::l=>l.foldl min x
def Aw(P:Int->Prop)(m:Int):Prop:=P m/\∀x,P x->m<=x
def di(s t:Λ):Prop:=∃n,cB s t 0=σ n
theorem JV(k v:Int)(s t:Λ):cB (k::s) (v::t) 0=if 0<=v/\v<k then(cB s t 0).map (λn=>n+(0*k+v)*aK s)else ν:=by
 conv=>lhs;unfold cB
 rw[oU]
theorem Ax{v:Int}{s t:Λ}:di (k::s) (v::t)↔(0<=v/\v<k)/\di s t:=by
 unfold di;rw[JV];constructor
 .rintro⟨n,h⟩;split at h
  .rename_i a;cases e:cB s t 0 with
   |none=>rw[e]at h;cases h
   |some q=>exact⟨a,q,rfl⟩
  .cases h
 .rintro⟨a,q,e⟩;rw[if_pos a,e];exact⟨_,rfl⟩
theorem Ay{t:Λ}:di [] t↔t=[]:=by
 cases t with
 |nil=>exact⟨λ_=>rfl,λ_=>⟨0,rfl⟩⟩
 |cons v t=>
  constructor
  .rintro⟨_,h⟩;cases h
  .intro h;cases h
theorem sg{s t:Λ}(h:di s t):s.length=t.length:=by
 obtain⟨n,h⟩:=h;rcases Nat.decEq s.length t.length with a|a
 .rw[u0 s t 0 a]at h;cases h
 .exact a
theorem Az{s t:Λ}(I:dE s){n:Int}(h:cB s t 0=σ n):cJ s n=t:=by
 have f:=nE I h;have h1:=mD I h;simp only[Int.zero_mul,Int.zero_add,Int.one_mul]at f;have a:=oV I (i:=n.toNat) Ω;rw[h1]at a;have e:((n.toNat:Nat):Int)=n:=Ω
 rw[e]at a;exact(Z2 a).symm
theorem sh{s cs:Λ}(I:dE s)(a:cs.length=(aK s).toNat):cs=(V0 (aK s).toNat).map λ(q:Nat)=>bn s cs (cJ s q):=by
 apply List.ext_getElem
 .simp[a]
 .intro i h1 e;rw[List.getElem_map,List.getElem_range];have f:=lU I;have hi:(i:Int)<aK s:=Ω
  unfold bn;rw[sf I Ω hi];simp only[u6];rw[v8,x6 h1];rfl
theorem vr{s:Λ}(I:dE s){q:Nat}(a:q<(aK s).toNat):di s (cJ s q):=⟨_,sf I Ω (by have:=lU I;omega)⟩
theorem JW{s cs a:Λ}(I:dE s)(e:cs.length=(aK s).toNat)(f:a.length=(aK s).toNat)(h:∀t,di s t->bn s cs t=bn s a t):cs=a:=by
 rw[sh I e,sh I f];apply List.map_congr_left;intro q j;exact h _ (vr I (by simpa using j))
theorem JX(h:l≠[]):Aw (λc=>c∈l) (vq l):=by
 obtain⟨x,r,rfl⟩:∃v r,l=v::r:=by cases l with
  |nil=>exact absurd rfl h
  |cons v r=>exact⟨v,r,rfl⟩
 clear h;show Aw (λc=>c∈x::r) (r.foldl min x);induction r generalizing x with
 |nil=>exact⟨.head _,λy f=>by simp at f;simp[f]⟩
 |cons y r j=>
  rw[T9];obtain⟨h1,e⟩:=j (min x y);refine⟨?_,λz a=>?_⟩
  .rcases V3.1 h1 with h1|h1
   .rw[h1];rcases Int.le_total x y with h|h
    .rw[Int.min_eq_left h];exact .head _
    .rw[Int.min_eq_right h];exact .tail _ (.head _)
   .exact .tail _ (.tail _ h1)
  .rcases V3.1 a with rfl|a
   .have:=e _ (.head _);omega
   .rcases V3.1 a with rfl|a
    .have:=e _ (.head _);omega
    .exact e _ (.tail _ a)
def oW(m:Λ)(i j:Nat):Prop:=∀(p q:Nat)(x y:Int),p<q->q<=i->q≠j->m[p]?=σ x->m[q]?=σ y->x<=y
def qb(m:Λ)(i:Nat):Prop:=∀(p q:Nat)(x y:Int),p<q->q<i->m[p]?=σ x->m[q]?=σ y->x<=y
theorem JY{m:Λ}{i:Nat}(h:qb m i):oW m i i:=λp q x y h1 f j a e=>h p q x y h1 Ω a e
theorem JZ{m:Λ}{i:Nat}(h:oW m i 0):qb m (i+1):=λp q x y h1 f a e=>h p q x y h1 Ω Ω a e
theorem J0{m:Λ}{i:Nat}{a b:Int}(h:oW m i j)(B:0<j)(r:m[j-1]?=σ a)(w:m[j]?=σ b)(z:a<=b):qb m (i+1):=by
 intro p q x y h1 C e f;by_cases s:q=j
 .subst s;rw[w]at f;cases f;by_cases A:p=q-1
  .subst A;rw[r]at e;cases e;exact z
  .have:=h p (q-1) x a Ω Ω Ω e r;omega
 .exact h p q x y h1 Ω s e f
theorem J1{m:Λ}{i:Nat}{a b:Int}(h:oW m i j)(H:0<j)(hi:j<=i)(z:m[j-1]?=σ a)(A:m[j]?=σ b)(I:b<a):oW ((m.set j a).set (j-1) b) i (j-1):=by
 intro p q x y h1 w B e f;have C:=(x4.1 A).1;have E:∀(r:Nat),((m.set j a).set (j-1) b)[r]?=if r=j-1 then σ b else if r=j then σ a else m[r]?:=λr=>by
  by_cases h:r=j-1
  .subst h;rw[Z0 Θ,if_pos rfl]
  .rw[Y8 (Ne.symm h),if_neg h];by_cases h':r=j
   .subst h';rw[Z0 C,if_pos rfl]
   .rw[Y8 (Ne.symm h'),if_neg h']
 rw[E]at e f;rw[if_neg B]at f;by_cases s:q=j
 .rw[if_pos s]at f;cases f;split at e
  .cases e;omega
  .split at e
   .omega
   .exact h p (j-1) x a Ω Ω Ω e z
 .rw[if_neg s]at f;split at e
  .cases e;have:=h j q b y;by_cases F:j<q
   .exact this F w s A f
   .omega
  .split at e
   .rename_i G;subst G;cases e;exact h (p-1) q a y Ω w s z f
   .exact h p q x y h1 w s e f
theorem swap_perm{m:Λ}{i:Nat}{a b:Int}(q:i<j)(h:m[i]?=σ a)(f:m[j]?=σ b):((m.set j a).set i b).Perm m:=by
 induction m generalizing i j with
 |nil=>simp at h
 |cons x m p=>
  cases j with
  |zero=>omega
  |succ j=>
   cases i with
   |zero=>
    simp at h f ⊢;subst h;obtain⟨r,f⟩:=x4.1 f;rw[show m=m.take j++m[j]::m.drop (j+1) by simp];rw[S0 _ _ Θ];have e:j-(m.take j).length=0:=Θ
    rw[e,f];simp only[List.set_cons_zero];refine(List.Perm.cons b (List.perm_middle)).trans ?_;refine(List.Perm.swap x b _).trans ?_;exact List.Perm.cons x List.perm_middle.symm
   |succ i=>
    simp at h f ⊢;exact p Ω h f
theorem J2{m:Λ}(h:qb m m.length):m.Pairwise (·<= ·):=by
 rw[V9];intro i j hi a e;exact h i j _ _ e a (x6 hi) (x6 a)
def Good(o:Λ)(n:Nat):Prop:=o.length=n/\∀(i:Nat)(p:Int),o[i]?=σ p->(0<=p/\p<n)/\∀j,j<i->o[j]? ≠σ p
theorem Good.inj{o:Λ}{i:Nat}{p:Int}(h:Good o n)(hi:o[i]?=σ p)(a:o[j]?=σ p):i=j:=by
 rcases Nat.lt_trichotomy i j with h1|h1|h1
 .exact absurd hi ((h.2 j p a).2 i h1)
 .exact h1
 .exact absurd a ((h.2 i p hi).2 j h1)
def AA(m:Λ):Prop:=∀i:Nat,i<m.length->m[i]?=σ (i:Int)
theorem AB{o m:Λ}(h:Good o n)(a:m.Perm o)(I:m.Pairwise (·<= ·)):AA m:=by
 have s:o.Nodup:=V9.2 λi j hi w C he=>by
  have:=h.inj (i:=i) (j:=j) (p:=o[j]) (by rw[x6 hi,he]) (x6 w);omega
 have y:m.Nodup:=a.nodup_iff.2 s;have E:m.length=n:=by rw[a.length_eq,h.1]
 have q:∀x∈m,0<=x/\x<(n:Int):=λx z=>by
  obtain⟨i,hi,he⟩:=List.getElem_of_mem (a.mem_iff.1 z);exact(h.2 i x (by rw[x6 hi,he])).1
 have r:∀(i:Nat)(hi:i+1<m.length),m[i]<m[i+1]:=λi hi=>by
  have h1:=V9.1 I i (i+1) Ω hi Ω;have e:=V9.1 y i (i+1) Ω hi Ω;omega
 have A:∀(i:Nat)(hi:i<m.length),(i:Int)<=m[i]:=by
  intro i;induction i with
  |zero=>intro hi;exact(q _ (S9 hi)).1
  |succ i f=>
   intro hi;have h1:=f Ω;have e:=r i hi;omega
 have B:∀(d i:Nat)(hi:i<m.length),i+d+1=m.length->m[i]<=(i:Int):=by
  intro d;induction d with
  |zero=>
   intro i hi he;have:=(q _ (S9 hi)).2;omega
  |succ d f=>
   intro i hi he;have h1:=f (i+1) Ω Ω;have e:=r i Ω;omega
 intro i hi;rw[x6 hi];have h1:=A i hi;have e:=B (m.length-i-1) i hi Ω;congr 1;omega
theorem J3{o m:Λ}(h:AA m)(e:m.Perm o):Good o m.length:=by
 have s:m.Nodup:=V9.2 λi j hi a x he=>by
  have h1:=h i hi;have f:=h j a;rw[x6 hi]at h1;rw[x6 a]at f;have h1:=Z2 h1;have f:=Z2 f;omega
 have w:o.Nodup:=e.nodup_iff.1 s;refine⟨e.length_eq.symm,λi p hi=>⟨?_,λj a q=>?_⟩⟩
 .obtain⟨k,hk,he⟩:=List.getElem_of_mem (e.mem_iff.2 (x5 hi));have h1:=h k hk;rw[x6 hk,he]at h1;cases h1;omega
 .have r:i<o.length:=(x4.1 hi).1;have:=V9.1 w j i Ω r a;rw[x6 r]at hi;rw[x6 (show j<o.length by omega)]at q;exact this ((Z2 q).trans (Z2 hi).symm)
theorem Good.AC{o:Λ}{p:Nat}(h:Good o n)(f:p<n):∃j:Nat,o[j]?=σ (p:Int):=by
 let le:Int->Int->Bool:=λa b=>decide (a<=b);have h1:(o.mergeSort le).Perm o:=List.mergeSort_perm o le;have e:(o.mergeSort le).Pairwise (·<= ·):=by
  refine(List.pairwise_mergeSort (le:=le) (λa b c h1 e=>?_) (λa b=>?_) o).imp λh=>by simpa[le]using h
  .simp[le]at*;omega
  .simp[le];omega
 have q:=AB h h1 e p (by rw[h1.length_eq,h.1];exact f);obtain⟨j,r,he⟩:=List.getElem_of_mem (h1.mem_iff.1 (x5 q));exact⟨j,by rw[x6 r,he]⟩
def lV(o x:Λ):Λ:=(V0 o.length).map λ(p:Nat)=>x.getD (o.idxOf (p:Int)) 0
theorem AD(o x:Λ):(lV o x).length=o.length:=by simp[lV]
theorem AE{o x:Λ}{p:Int}(h:Good o n)(r:x.length=n)(a:o[j]?=σ p):(lV o x)[p.toNat]?=x[j]?:=by
 have h1:=(h.2 j p a).1;have s:j<o.length:=(x4.1 a).1;have hm:p∈o:=x5 a;have e:=List.idxOf_lt_length_of_mem hm;have f:o.idxOf p=j:=h.inj (by rw[x6 e,List.getElem_idxOf e]) a;have q:((p.toNat:Nat):Int)=p:=Ω
 have w:=h.1;unfold lV;rw[x8,List.getElem?_range Ω];simp only[Z7,q,f];rw[v8,x6 (show j<x.length by omega)];rfl
theorem AF{o x y:Λ}(h:Good o n)(f:x.length=n)(s:y.length=n)(q:∀(j:Nat)(p:Int),o[j]?=σ p->y[p.toNat]?=x[j]?):y=lV o x:=by
 refine X2 λp=>?_;have w:=h.1;by_cases r:p<n
 .obtain⟨j,a⟩:=h.AC r;have h1:=q j p a;have e:=AE h f a;rw[u6]at h1 e;rw[h1,e]
 .rw[Y0 Ω,Y0 (by rw[AD];omega)]
theorem nM:∀{s t:Λ},di s t↔s.length=t.length/\∀(i:Nat)(a v:Int),s[i]?=σ a->t[i]?=σ v->0<=v/\v<a
 |[],t=>by
  rw[Ay];exact⟨λh=>⟨by rw[h],λi a v h _=>by simp at h⟩,λh=>j4 h.1.symm⟩
 |k::s,[]=>⟨λh=>absurd (sg h) Ξ,λh=>absurd h.1 Ξ⟩
 |k::s,v::t=>by
  rw[Ax,nM (s:=s) (t:=t)];refine⟨λ⟨h1,f,j⟩=>⟨by simp[f],λi a u e hu=>?_⟩,λ⟨h1,f⟩=>⟨f 0 k v rfl rfl,by simpa using h1,λi a u e hu=>f (i+1) a u (by simpa using e) (by simpa using hu)⟩⟩;cases i with
  |zero=>simp at e hu;subst e;subst hu;exact h1
  |succ i=>exact j i a u (by simpa using e) (by simpa using hu)
def eo(s o:Λ):Λ:=o.map λp=>s.getD p.toNat 0
theorem si(s o:Λ):(eo s o).length=o.length:=by simp[eo]
theorem AG{s o:Λ}{p:Int}(h:Good o n)(I:s.length=n)(a:o[j]?=σ p):(eo s o)[j]?=s[p.toNat]?:=by
 have h1:=(h.2 j p a).1;unfold eo;rw[x8,a,Z7,v8,x6 (show p.toNat<s.length by omega)];rfl
theorem J4{s o:Λ}(h:Good o n)(I:s.length=n){x:Int}(a:x∈eo s o):x∈s:=by
 obtain⟨p,e,rfl⟩:=l9.1 a;obtain⟨j,f,he⟩:=List.getElem_of_mem e;have h1:=(h.2 j p (by rw[x6 f,he])).1;rw[v8,x6 (show p.toNat<s.length by omega)];exact S9 _
theorem b1.J5{s o:Λ}(a:b1 s)(h:Good o n)(I:s.length=n):b1 (eo s o):=
 ⟨by rw[si,h.1,<-I];exact a.1,λx e=>a.2 x (J4 h I e)⟩
theorem J6{s o x:Λ}(h:Good o n)(I:s.length=n)(w:di (eo s o) x):di s (lV o x):=by
 obtain⟨h1,y⟩:=nM.1 w;rw[si,h.1]at h1;refine nM.2 ⟨by rw[AD,h.1,I],λp a v e z=>?_⟩;have A:p<n:=by have:=(x4.1 e).1;omega
 obtain⟨j,f⟩:=h.AC A;have q:=AG h I f;have r:=AE h h1.symm f;rw[u6]at q r;exact y j a v (by rw[q,e]) (by rw[<-r,z])
def nN(s cs o:Λ):Λ:=(V0 (aK (eo s o)).toNat).map λ(q:Nat)=>bn s cs (lV o (cJ (eo s o) q))
theorem AH(s cs o:Λ):(nN s cs o).length=(aK (eo s o)).toNat:=by simp[nN]
theorem vt{f:Int->Bool}{x:Int}:runN f (x::l)=if f x=true then runN f l+1 else 0:=by
 unfold runN;rw[List.takeWhile_cons];by_cases h:f x=true
 .rw[if_pos h,if_pos h,c9]
 .rw[if_neg h,if_neg h];rfl
theorem vu(f:Int->Bool):∀l:Λ,l.dropWhile f=l.drop (runN f l)
 |[]=>rfl
 |x::l=>by
  rw[List.dropWhile_cons,vt];by_cases h:f x=true
  .rw[if_pos h,if_pos h,vu f l];rfl
  .rw[if_neg h,if_neg h];rfl
theorem AI(f:Int->Bool):∀l:Λ,l.takeWhile f=l.take (runN f l)
 |[]=>rfl
 |x::l=>by
  rw[List.takeWhile_cons,vt];by_cases h:f x=true
  .rw[if_pos h,if_pos h,List.take_succ_cons,AI f l]
  .rw[if_neg h,if_neg h];rfl
theorem AJ{f:Int->Bool}:∀{l:Λ}{b:Int}{q:Λ},l.dropWhile f=b::q->f b=false
 |x::l,b,q,h=>by
  rw[List.dropWhile_cons]at h;by_cases a:f x=true
  .rw[if_pos a]at h;exact AJ h
  .rw[if_neg a]at h;have:=(List.cons.inj h).1;subst this;cases e:f x
   .rfl
   .exact absurd e a
theorem vv{p:Λ}{b:Int}{q:Λ}(h:p.drop a=b::q):p[a]?=σ b:=by
 have:=List.getElem?_drop (xs:=p) (i:=a) (j:=0);rw[h]at this;simpa using this.symm
theorem J7(p:Λ)(at_:Nat):match oR p at_ with
  | .word a b=>lex (p.drop at_)=(((p.take b).drop a)::(lex (p.drop b)).1,(lex (p.drop b)).2)
  | .none=>lex (p.drop at_)=([],true)
  | .text _=>lex (p.drop at_)=([],false):=by
 have j:(p.drop at_).dropWhile cq=p.drop (gq p at_):=by rw[vu,List.drop_drop];rfl
 have s:(p.drop (gq p at_)).dropWhile bM=p.drop (iK p (gq p at_)):=by rw[vu,List.drop_drop];rfl
 have y:(p.drop (gq p at_)).takeWhile bM=(p.take (iK p (gq p at_))).drop (gq p at_):=by
  rw[AI,List.drop_take];congr 1;unfold iK;omega
 have h:runN bM (p.drop (gq p at_))=iK p (gq p at_)-gq p at_:=by unfold iK;omega
 have K:gq p at_<=iK p (gq p at_):=by unfold iK;omega
 unfold oR;generalize gq p at_=a at*;generalize iK p a=b at*;by_cases h1:b<p.length/\(∀c,p[b]?=σ c->cq c=false)
 .rw[if_pos h1];simp only;rw[km,j];cases e:p.drop a with
  |nil=>
   have:=List.drop_eq_nil_iff.1 e;omega
  |cons x q=>
   simp only;rw[e]at s y h;by_cases f:bM x=true
   .rw[if_pos f,s];cases w:p.drop b with
    |nil=>have:=List.drop_eq_nil_iff.1 w;omega
    |cons c r=>
     simp only;rw[h1.2 c (vv w)];rfl
   .rw[if_neg f]
 .rw[if_neg h1];by_cases z:a=b
  .rw[if_pos z];simp only;subst z;rw[km,j];cases e:p.drop a with
   |nil=>rfl
   |cons x q=>
    exfalso;have A:=vv e;have F:=(x4.1 A).1;rw[e]at h;rw[e]at j;have G:=AJ j;refine h1 ⟨F,λc B=>?_⟩;rw[A]at B;cases B;exact G
  .rw[if_neg z];simp only;rw[km (p.drop at_),j];cases e:p.drop a with
   |nil=>
    rw[e]at h;have:runN bM []=0:=rfl;omega
   |cons x q=>
    simp only;rw[e]at s y h;have f:bM x=true:=by
     rw[vt]at h;by_cases f:bM x=true
     .exact f
     .rw[if_neg f]at h;omega
    rw[if_pos f,s,y];cases w:p.drop b with
    |nil=>simp only;rw[km []];rfl
    |cons c r=>
     simp only;have C:=vv w;have H:=(x4.1 C).1;have J:cq c=true:=by
      cases I:cq c with
      |true=>rfl
      |false=>exact absurd ⟨H,λd E=>by rw[C]at E;cases E;exact I⟩ h1
     rw[if_pos J]
def hD(w:x3)(g:Nat)(R:Nat->Prop)(toks:List (Λ))(clean:Bool):Prop:=∃a p at_,lT w g a p at_ (-1)/\(∀r,leads a r->R r)/\lex (p.drop at_)=(toks,clean)
theorem hD.V{g:Nat}{R:Nat->Prop}{toks:List (Λ)}(h:hD w g R toks clean)(e:ae S w w')(j:¬S g)(q:∀r,R r->¬S r):hD w' g R toks clean:=by
 obtain⟨s,p,a,⟨h1,x,y,z,bm,A⟩,f,B⟩:=h;exact⟨s,p,a,⟨h1,x,y,z.V e j,bm,bo A e λr C=>q r (f r C)⟩,f,B⟩
theorem hD.words{g:Nat}{R:Nat->Prop}{toks:List (Λ)}(h:hD w g R toks clean):toks.length<=100000/\∀t∈toks,Bytes t/\t≠[]/\t.length<=100000:=by
 obtain⟨s,p,a,⟨x,y,z,_⟩,_,f⟩:=h;have A:(p.drop a).length<=100000:=by rw[List.length_drop];omega
 have e:=pX _ (p.drop a) (p8 _);rw[f]at e;refine⟨by show toks.length<=_;have e:toks.length<=_:=e;omega,λt q=>?_⟩;have j:=r5 _ (p.drop a) (p8 _) t (by rw[f];exact q);refine⟨λb r=>?_,j.1,Ω⟩;have:=of_decide_eq_true (j.2.1 b r);omega
def J8(w:x3)(g:Nat)(R:Nat->Prop)(toks:List (Λ))(clean:Bool)(v:x1)(w':x3):Prop:=ae (λr=>r=g) w w'/\match toks with
 |t::l=>hD w' g R l clean/\∃n:Int,v= .tuple #[bR t,Δ n,Δ 0]
 |[]=>∃n:Int,v= .tuple #[bR [],Δ n,Δ (if clean then 2 else 11)]
theorem qc{g:Nat}{R:Nat->Prop}{toks:List (Λ)}(h:hD w g R toks clean):ai x7 uK [Γ g] w (J8 w g R toks clean):=by
 obtain⟨z,p,a,h1,A,q⟩:=h;refine(JF h1).mono ?_;intro v w' _ hw;have e:=J7 p a;unfold p3 at hw;cases r:oR p a with
 |word x y=>
  rw[r]at hw e;simp only at hw e;rw[q]at e;obtain⟨rfl,s,I⟩:=hw;obtain⟨f,j⟩:=Prod.mk.inj e;subst f j;exact⟨s,⟨z,p,y,I,A,rfl⟩,_,rfl⟩
 |none=>
  rw[r]at hw e;simp only at hw e;rw[q]at e;obtain⟨f,j⟩:=Prod.mk.inj e;subst f j;obtain⟨n,rfl,B⟩:=hw;exact⟨B.V _,_,rfl⟩
 |text b=>
  rw[r]at hw e;simp only at hw e;rw[q]at e;obtain⟨f,j⟩:=Prod.mk.inj e;subst f j;obtain⟨rfl,s,_⟩:=hw;exact⟨s,_,rfl⟩
def kq(w:Λ):x1:=match gn w with
 |some n=>.tuple #[Δ n,Δ 0]
 |none=>.tuple #[Δ 0,Δ 4]
theorem AK{i:Nat}{b:Int}(hi:l[i]?=σ b):(l.take (i+1)).all gm=((l.take i).all gm&&gm b):=by
 rw[u7,hi,List.all_append];simp
theorem AL{i:Nat}{b:Int}(hi:l[i]?=σ b):(l.take (i+1)).foldl e4 0=e4 ((l.take i).foldl e4 0) b:=by
 rw[u7,hi,List.foldl_append];rfl
theorem AM(a:l≠[])(h:l.all gm=true):ko l=σ (l.foldl e4 0):=by
 unfold ko;cases l with
 |nil=>exact absurd rfl a
 |cons x l=>simp only[h,if_true]
theorem AN{i:Nat}{b:Int}(hi:l[i]?=σ b)(a:gm b=false):ko l=ν:=by
 unfold ko;cases l with
 |nil=>simp at hi
 |cons x l=>
  simp only;rw[if_neg];intro h;have:=List.all_eq_true.1 h b (x5 hi);rw[a]at this;cases this
def oX(w l:Λ)(s:Int):Prop:=(s=1\/s= -1)/\gn w=(ko l).map λn=>s*n
theorem AO:oX (45::l) l (-1):=⟨.inr rfl,by simp only[gn];congr 1;funext n;omega⟩
theorem AP{w:Λ}(h:∀b,w[0]?=σ b->b≠45):oX w w 1:=⟨.inl rfl,by
 have e:gn w=ko w:=by
  unfold gn;cases w with
  |nil=>rfl
  |cons x l=>
   have:=h x rfl;split
   .rename_i l' he;exact absurd (List.cons.inj he).1 this
   .rfl
 rw[e];cases ko w with
 |none=>rfl
 |some n=>simp⟩
theorem sj{w:Λ}{s:Int}(h:oX w l s)(a:ko l=ν):kq w= .tuple #[Δ 0,Δ 4]:=by
 unfold kq;rw[h.2,a];rfl
theorem AQ{w:Λ}{s n:Int}(h:oX w l s)(a:ko l=σ n):kq w= .tuple #[Δ (s*n),Δ 0]:=by
 unfold kq;rw[h.2,a];rfl
theorem J9(B:Bytes l)(L:l.length<=100000):ai x7 Ho [bR l] w λv w'=>v=kq l/\Ext w w':=by
 refine az func164 ?_;rw[Jp];refine iA (λS V J=>Ext w J/\∃(m:Λ)(s:Int),S=bR m/\V=Δ s/\Bytes m/\m.length<=100000/\oX l m s) ?_ ?_
 .rintro _ _ J ⟨H,m,s,rfl,rfl,I,af,C⟩;rw[zV I (λb a=>by cases a),aj];refine⟨λe=>⟨by rw[sj C (by rw[e];rfl)],H⟩,λe=>?_⟩;refine vh cZ.u cH.u cD.u I Ω λbv U M N _=>?_;rw[aW cH.u N];refine pH.range m.length (λi _ _ c E=>Ext U E/\c=Δ ((m.take i).foldl e4 0)/\(m.take i).all gm=true) Ω ⟨Ext.refl _,rfl,rfl⟩ ?_ ?_
  .rintro i W t3 _ E X hi ⟨f,rfl,j⟩ Y;obtain⟨b,q⟩:=aF (l:=m) hi;have ag:=I b (x5 q);refine bQ Ω ?_;refine zR (λ_ _ c G=>Ext U G/\c=Δ ((m.take (i+1)).foldl e4 0)/\(m.take (i+1)).all gm=true) ?_ ?_
   .rintro ah ak c G Z;rw[aP];exact Y _ _ _ _ Z
   intro ax p;rw[be cH.u cD.i Ψ (N.ext f) q];refine aT (λv G=>E=G/\v= .bool (!gm b)) ?_ ?_
   rotate_left
   .intro aa z;rw[aQ,aj];refine⟨λh=>z _ _ ⟨rfl,by unfold gm;rw[decide_eq_false Ω];rfl⟩,λh=>?_⟩;rw[bP];refine z _ _ ⟨rfl,?_⟩;unfold gm;congr 1;by_cases O:57<b
    .rw[decide_eq_true O,decide_eq_false Ω];rfl
    .rw[decide_eq_false O,decide_eq_true Ω];rfl
   rintro _ _ ⟨rfl,rfl⟩;cases K:gm b with
   |false=>
    rw[W5,bL];exact⟨by rw[sj C (AN q K)],(H.trans M).trans f⟩
   |true=>
    rw[Y6,aU];have am:=of_decide_eq_true K;have A:=r6 (l:=m.take i) (n:=0) j ⟨Int.le_refl _,Φ⟩;rw[AL q,AK q,j,K]at p;generalize (m.take i).foldl e4 0=n at*;have A:0<=n/\n<=4611686018427387904:=A;rw[dD,wrap_u8 Ω Ω,fl cD.u al.u,wrap_i64 (x:=b-48) Ω Ω,dD,wrap_i64 Ω Ω,rT Φ,Int.tdiv_eq_ediv_of_nonneg Ω];rw[wrap_i64 Ω Ω,bP,aj];refine⟨λab=>p _ _ _ _ ⟨f,?_,rfl⟩,λab=>?_⟩
    .congr 1;unfold e4 av;omega
    .rw[hV,wrap_i64 Ω Ω,aP,wrap_i64 Ω Ω];refine p _ _ _ _ ⟨f,?_,rfl⟩;congr 1;unfold e4 av;omega
  .rintro W t3 _ E X ⟨f,rfl,j⟩;rw[o5]at j ⊢;refine cn Ω ?_;have A:=r6 (l:=m) (n:=0) j ⟨Int.le_refl _,Φ⟩;have A:0<=m.foldl e4 0/\m.foldl e4 0<=4611686018427387904:=A;rw[hV];have hw:X7.wrap (s*m.foldl e4 0)=s*m.foldl e4 0:=by
    rcases C.1 with rfl|rfl<;>exact wrap_i64 Ω Ω
   rw[hw];exact⟨by rw[AQ C (AM e j)],(H.trans M).trans f⟩
 .intro ax p;refine aT (λv U=>w=U/\∃c:Bool,v= .bool c/\(c=true↔l[0]?=σ 45)) ?_ ?_
  .rintro _ _ ⟨rfl,c,rfl,P⟩;rw[b7];refine⟨λac=>?_,λQ=>?_⟩
   .intro an ad _ _;have R:=P.1 ac;cases l with
    |nil=>simp at R
    |cons x r=>
     have ae:x=45:=by simpa using R
     subst ae;rw[zW (y:=1) (i:=1) rfl cZ.u Ξ];exact p _ _ _ ⟨ad,r,-1,rfl,rfl,λb a=>B b (.tail _ a),by simp at L;omega,AO⟩
   .refine p _ _ _ ⟨Ext.refl _,l,1,rfl,rfl,B,L,AP λb a he=>?_⟩;subst he;rw[P.2 a]at Q;cases Q
  .intro aa z;rw[Jt B (λb a=>by cases a),aj];refine⟨λe=>?_,λe=>z _ _ ⟨rfl,false,rfl,⟨λh=>(by cases h),λh=>by rw[X3.1 e]at h;simp at h⟩⟩⟩;cases l with
   |nil=>exact absurd rfl e
   |cons x r=>
    rw[p0 (y:=0) (i:=0) (b:=x) rfl cZ.u B rfl,bd];exact z _ _ ⟨rfl,_,rfl,Ξ⟩
theorem sk{s s':aD}{w:Λ}(h:dQ s=σ (w,s')):s.toks=w::s'.toks/\s'={s with toks:=s'.toks}:=by
 unfold dQ at h;cases a:s.toks with
 |nil=>rw[a]at h;cases h
 |cons x l=>
  rw[a]at h;simp only[X0,S2]at h;obtain⟨rfl,rfl⟩:=h;exact⟨rfl,rfl⟩
theorem hY{n:Int}{s s':aD}(h:bc lo hi s=σ (n,s')):(lo<=n/\n<=hi)/\(∃w,s.toks=w::s'.toks/\gn w=σ n)/\s'={s with toks:=s'.toks}:=by
 unfold bc at h;cases hw:dQ s with
 |none=>rw[hw]at h;cases h
 |some q=>
  obtain⟨w,s1⟩:=q;rw[hw]at h;simp only at h;obtain⟨h1,e⟩:=sk hw;cases a:gn w with
  |none=>rw[a]at h;cases h
  |some m=>
   rw[a]at h;simp only at h;split at h
   .rename_i f;simp only[X0,S2]at h;obtain⟨rfl,rfl⟩:=h;exact⟨f,⟨w,h1,a⟩,e⟩
   .cases h
def ih(k:Nat)(s s':aD):Prop:=s.toks.length=s'.toks.length+k/\s'={s with toks:=s'.toks}
theorem ih.refl(s:aD):ih 0 s s:=⟨rfl,rfl⟩
theorem ih.trans{b:Nat}{r s t:aD}(h:ih a r s)(k:ih b s t):ih (a+b) r t:=⟨by have:=h.1;have:=k.1;omega,by rw[k.2,h.2]⟩
theorem dF{n:Int}{s s':aD}(h:bc lo hi s=σ (n,s')):ih 1 s s':=by
 obtain⟨_,⟨w,h1,_⟩,a⟩:=hY h;exact⟨by rw[h1];simp,a⟩
theorem ih.eqs{k:Nat}{s s':aD}(h:ih k s s'):s'.told=s.told/\s'.big=s.big/\s'.shared=s.shared:=by rw[h.2];exact⟨rfl,rfl,rfl⟩
theorem kr{α:Type}{f:List α->aD->Option (α×aD)}(e:List α->aD->Prop)(r:∀acc s a s',e acc s->f acc s=σ (a,s')->e (acc++[a]) s'):
  ∀(n:Nat)(acc:List α)(s:aD)(l:List α)(s':aD),e acc s->cK f n acc s=σ (l,s')->e l s'/\l.length=acc.length+n
 |0,acc,s,l,s',j,h=>by
  simp only[cK,X0,S2]at h;obtain⟨rfl,rfl⟩:=h;exact⟨j,Ω⟩
 |n+1,acc,s,l,s',j,h=>by
  simp only[cK]at h;cases p:f acc s with
  |none=>rw[p]at h;cases h
  |some q=>
   obtain⟨a,s1⟩:=q;rw[p]at h;have:=kr e r n _ _ _ _ (r _ _ _ _ j p) h;exact⟨this.1,by rw[this.2];simp;omega⟩
theorem vw{n:Int}{k:Nat}{s s':aD}(h:e5 n k s=σ (l,s')):ih l.length s s'/\l.length=k/\l.Nodup/\∀v∈l,0<=v/\v<n:=by
 have:=kr (λacc t=>ih acc.length s t/\acc.Nodup/\∀v∈acc,0<=v/\v<n) (λacc t a bi ⟨h1,p,r⟩ h=>by
  cases f:bc 0 (n-1) t with
  |none=>rw[f]at h;cases h
  |some q=>
   obtain⟨v,A⟩:=q;rw[f]at h;simp only at h;split at h
   .cases h
   .rename_i w;simp only[X0,S2]at h;obtain⟨rfl,rfl⟩:=h;have B:=(hY f).1;refine⟨by rw[r8];exact h1.trans (dF f),List.nodup_append.2 ⟨p,Ξ,λx e y j he=>?_⟩,λx e=>?_⟩
    .rw[l7]at j;subst j;subst he;exact w e
    .rcases o9.1 e with e|e
     .exact r x e
     .rw[l7.1 e];omega) k [] s l s' ⟨ih.refl s,List.nodup_nil,λv z=>by cases z⟩ h
 exact⟨this.1.1,by simpa using this.2,this.1.2.1,this.1.2.2⟩
theorem vx:∀{ks acc:Λ}{s s':aD}{t:Λ},iJ ks acc s=σ (t,s')->∃u,t=acc++u/\di ks u/\ih u.length s s'
 |[],acc,s,s',t,h=>by
  simp only[iJ,X0,S2]at h;obtain⟨rfl,rfl⟩:=h;exact⟨[],Ξ,Ay.2 rfl,ih.refl s⟩
 |k::ks,acc,s,s',t,h=>by
  simp only[iJ]at h;cases a:bc 0 (k-1) s with
  |none=>rw[a]at h;cases h
  |some q=>
   obtain⟨v,s1⟩:=q;rw[a]at h;obtain⟨u,rfl,hu,e⟩:=vx h;have f:=(hY a).1;exact⟨v::u,Ξ,Ax.2 ⟨Ω,hu⟩,by rw[c9,Nat.add_comm];exact(dF a).trans e⟩
def mE(sizes:Λ)(l:List (Λ×Int)):Prop:=(l.map (·.1)).Nodup/\∀p∈l,di sizes p.1/\0<=p.2
theorem oY{acc:List (Λ×Int)}{s s':aD}{a:Λ×Int}(h:dR sizes acc s=σ (a,s')):a.1∉acc.map (·.1)/\di sizes a.1/\0<=a.2/\ih (a.1.length+1) s s':=by
 unfold dR at h;cases f:iJ sizes [] s with
 |none=>rw[f]at h;cases h
 |some q=>
  obtain⟨t,s1⟩:=q;rw[f]at h;simp only at h;obtain⟨u,hu,j,p⟩:=vx f;rw[List.nil_append]at hu;subst hu;cases e:bc 0 av s1 with
  |none=>rw[e]at h;cases h
  |some q=>
   obtain⟨c,w⟩:=q;rw[e]at h;simp only at h;split at h
   .cases h
   .rename_i r;simp only[X0,S2]at h;obtain⟨rfl,rfl⟩:=h;exact⟨r,j,(hY e).1.1,p.trans (dF e)⟩
structure AR(s s':aD):Prop where
 toks:s'.toks.length<s.toks.length
 big:s.big=true->s'.big=true
theorem Ka{s s':aD}{l:List (Λ×Int)}(B:∀q∈s.shared,mE q.1 q.2/\q.2.length<=N)(O:s.toks.length<=N)(h:dS sizes s=σ (l,s')):
  mE sizes l/\l.length<=N/\s'.shared=s.shared/\AR s s':=by
 unfold dS at h;cases j:bc (-av) av s with
 |none=>rw[j]at h;cases h
 |some q=>
  obtain⟨n,s1⟩:=q;rw[j]at h;simp only at h;have h1:=dF j;obtain⟨P,C,r⟩:=h1.eqs;split at h
  .cases I:s1.shared[(-n-1).toNat]? with
   |none=>rw[I]at h;cases h
   |some q=>
    obtain⟨z,l'⟩:=q;rw[I]at h;simp only at h;split at h
    .rename_i G;simp only[X0,S2]at h;obtain⟨rfl,rfl⟩:=h;subst G;have hm:=x5 I;rw[r]at hm;exact⟨(B _ hm).1,(B _ hm).2,r,by have:=h1.1;omega,λf=>by rw[C];exact f⟩
    .cases h
  .have:=kr (λacc t=>mE sizes acc/\t.shared=s.shared/\t.toks.length+acc.length<=s1.toks.length/\(s.big=true->t.big=true)) (λacc t a bi ⟨g1,w,H,A⟩ g=>by
    obtain⟨J,K,L,E⟩:=oY g;obtain⟨f1,f2,f3⟩:=E.eqs;refine⟨⟨?_,λp e=>?_⟩,by rw[f3,w],by have:=E.1;simp only[r8,U9];omega,λf=>by rw[f2];exact A f⟩
    .rw[Z4];exact List.nodup_append.2 ⟨g1.1,Ξ,λx M y F he=>by
      simp only[T4,List.map_nil,l7]at F;subst F;subst he;exact J M⟩
    .rcases o9.1 e with e|e
     .exact g1.2 p e
     .rw[l7.1 e];exact⟨K,L⟩) n.toNat [] (a8 (decide (16384<min (s1.told+n) av)) {s1 with told:=min (s1.told+n) av}) l s' ⟨⟨Ξ,λp e=>by cases e⟩,r,by simp[a8],λf=>by simp[a8,C,f]⟩ h
   obtain⟨⟨g1,w,H,A⟩,_⟩:=this;have:=h1.1;exact⟨g1,Ω,w,⟨Ω,A⟩⟩
structure sn(all:Λ)(N:Nat)(f:cm):Prop where
 scope:f.scope.Nodup/\∀v∈f.scope,0<=v/\v<all.length
 sizes:f.sizes=f.scope.map λv=>all.getD v.toNat 0
 other:0<=f.other
 lines:mE f.sizes f.lines
 len:f.lines.length<=N
theorem Kb{all:Λ}{s s':aD}{f:cm}(B:∀q∈s.shared,mE q.1 q.2/\q.2.length<=N)(V:s.toks.length<=N)(h:c6 all s=σ (f,s')):
  sn all N f/\(∀q∈s'.shared,mE q.1 q.2/\q.2.length<=N)/\AR s s'/\(s'.big=false->f.scope.length<=6/\ds f.sizes=false):=by
 unfold c6 at h;cases C:bc (-av) av s with
 |none=>rw[C]at h;cases h
 |some q=>
 obtain⟨a,s1⟩:=q;rw[C]at h;simp only at h;have t0:=dF C;obtain⟨W,M,O⟩:=t0.eqs;cases h1:e5 all.length a.natAbs s1 with
 |none=>rw[h1]at h;cases h
 |some q=>
 obtain⟨sc,w⟩:=q;rw[h1]at h;simp only at h;obtain⟨F,X,P,Q⟩:=vw h1;obtain⟨Y,R,S⟩:=F.eqs;generalize T:sc.map (λv=>all.getD v.toNat 0)=sizes at h;cases y:bc 0 av (a8 (decide (6<a.natAbs)||ds sizes) w)with
 |none=>rw[y]at h;cases h
 |some q=>
 obtain⟨other,p⟩:=q;rw[y]at h;simp only at h;have G:=dF y;obtain⟨Z,z,x⟩:=G.eqs;have x:p.shared=s.shared:=by rw[x];show w.shared=_;rw[S,O]
 have aa:p.toks.length<s.toks.length:=by
  have:=t0.1;have:=F.1;have A:=G.1;have:(a8 (decide (6<a.natAbs)||ds sizes) w).toks.length=w.toks.length:=rfl;omega
 cases A:dS sizes p with
 |none=>rw[A]at h;cases h
 |some q=>
 obtain⟨lines,j⟩:=q;rw[A]at h;simp only[X0,S2]at h;obtain⟨rfl,rfl⟩:=h;obtain⟨g1,H,I,J⟩:=Ka (N:=N) (by rw[x];exact B) Ω A;have U:=J.big;have gt:=J.toks;have K:p.big=true->∀E:aD,E=(if a<0 then{j with shared:=j.shared++[(sizes,lines)]}else j)->E.big=true:=λr E he=>by
  rw[he];split<;>exact U r
 have z:p.big=(s.big||(decide (6<a.natAbs)||ds sizes)):=by
  rw[z];show(w.big||_)=_;rw[R,M]
 refine⟨⟨⟨P,Q⟩,T.symm,(hY y).1.1,g1,H⟩,λq e=>?_,⟨?_,λr=>K (by rw[z,r];rfl) _ rfl⟩,λr=>?_⟩
 .split at e
  .rcases o9.1 e with e|e
   .rw[show j.shared=s.shared by rw[I,x]]at e;exact B q e
   .rw[l7.1 e];exact⟨g1,H⟩
  .rw[show j.shared=s.shared by rw[I,x]]at e;exact B q e
 .have:(if a<0 then{j with shared:=j.shared++[(sizes,lines)]}else j).toks=j.toks:=by split<;>rfl
  rw[this];omega
 .have L:p.big=false:=by
   cases e:p.big with
   |false=>rfl
   |true=>rw[K e _ rfl]at r;cases r
  rw[z,U5,U5,decide_eq_false_iff_not]at L;show sc.length<=6/\_;exact⟨Ω,L.2.2⟩
structure fe(N:Nat)(f:b2):Prop where
 name:f.name.length<=64
 k:1<=f.k/\f.k<=2147483648
 sizes:1<=f.sizes.length/\f.sizes.length<=64/\∀z∈f.sizes,1<=z/\z<=32
 k0:f.funs.length<=256
 funs:∀x∈f.funs,sn f.sizes N x/\x.scope.length<=6/\ds x.sizes=false
theorem qd{b:Bool}{s:aD}(h:(a8 b s).big=false):s.big=false/\b=false:=by
 have h:(s.big||b)=false:=h;exact U5.1 h
theorem Kc{a b:aD}(h:a.big=true->b.big=true)(e:b.big=false):a.big=false:=by
 cases f:a.big with
 |false=>rfl
 |true=>rw[h f]at e;cases e
theorem AS{s s':aD}{f:b2}(I:s.shared=[])(h:hW s=σ (f,s'))(e:s'.big=false):fe s.toks.length f/\f.name∈s.toks:=by
 unfold hW at h;cases L:dQ s with
 |none=>rw[L]at h;cases h
 |some q=>
 obtain⟨name,s0⟩:=q;rw[L]at h;simp only at h;obtain⟨J,U⟩:=sk L;cases h1:bc 1 av (a8 (decide (64<name.length)) s0)with
 |none=>rw[h1]at h;cases h
 |some q=>
 obtain⟨n,s1⟩:=q;rw[h1]at h;simp only at h;have r:=dF h1;cases M:bc 1 av (a8 (decide (64<n)) s1)with
 |none=>rw[M]at h;cases h
 |some q=>
 obtain⟨most,Z⟩:=q;rw[M]at h;simp only at h;have N:=dF M;cases O:bc 0 av Z with
 |none=>rw[O]at h;cases h
 |some q=>
 obtain⟨E,F⟩:=q;rw[O]at h;simp only at h;have t3:=dF O;cases G:bc 1 av (a8 (decide (256<E)) F)with
 |none=>rw[G]at h;cases h
 |some q=>
 obtain⟨k,A⟩:=q;rw[G]at h;simp only at h;have t4:=dF G;cases P:cK (fQ most) n.toNat [] (a8 (decide (2147483648<k)) A)with
 |none=>rw[P]at h;cases h
 |some q=>
 obtain⟨sizes,H⟩:=q;rw[P]at h;simp only at h;cases Q:cK (λ_ s=>c6 sizes s) E.toNat [] H with
 |none=>rw[Q]at h;cases h
 |some q=>
 obtain⟨funs,aa⟩:=q;rw[Q]at h;simp only[X0,S2]at h;obtain⟨rfl,rfl⟩:=h;have ab:=kr (λ(acc:Λ)t=>t.shared=[]/\t.toks.length<=s.toks.length/\(t.big=false->A.big=false/\k<=2147483648/\∀z∈acc,1<=z/\z<=32)) (λacc t a bi ⟨g1,V,R⟩ g=>by
  unfold fQ at g;cases w:bc 1 most t with
  |none=>rw[w]at g;cases g
  |some q=>
   obtain⟨z,r⟩:=q;rw[w]at g;simp only[X0,S2]at g;obtain⟨rfl,rfl⟩:=g;have W:=dF w;obtain⟨aA,ac,ad⟩:=W.eqs;have aB:=(hY w).1;refine⟨by show r.shared=[];rw[ad,g1],by show r.toks.length<=_;have:=W.1;omega,λe=>?_⟩;obtain⟨j,B⟩:=qd e;rw[ac]at j;obtain⟨S,T,ae⟩:=R j;refine⟨S,T,λy C=>?_⟩;rcases o9.1 C with C|C
   .exact ae y C
   .rw[l7.1 C];have:=of_decide_eq_false B;omega) n.toNat [] (a8 (decide (2147483648<k)) A) sizes H ⟨by
     show A.shared=[];rw[t4.eqs.2.2];show F.shared=[];rw[t3.eqs.2.2,N.eqs.2.2];show s1.shared=[];rw[r.eqs.2.2];show s0.shared=[];rw[U];exact I,by
     show A.toks.length<=_;have af:=r.1;have ag:=N.1;have a3:=t3.1;have a4:=t4.1;have j:(a8 (decide (64<name.length)) s0).toks=s0.toks:=rfl;have B:(a8 (decide (64<n)) s1).toks=s1.toks:=rfl;have K:(a8 (decide (256<E)) F).toks=F.toks:=rfl;rw[j]at af;rw[B]at ag;rw[K]at a4;rw[J,c9];omega,λe=>by
     obtain⟨j,B⟩:=qd e;have:=of_decide_eq_false B;exact⟨j,Ω,λz ah=>by cases ah⟩⟩ P
 obtain⟨⟨ai,aj,ak⟩,al⟩:=ab;have am:=kr (λ(acc:List cm)t=>(∀q∈t.shared,mE q.1 q.2/\q.2.length<=s.toks.length)/\t.toks.length<=s.toks.length/\(t.big=false->H.big=false/\∀x∈acc,sn sizes s.toks.length x/\x.scope.length<=6/\ds x.sizes=false)) (λacc t a bi ⟨g1,V,R⟩ g=>by
  obtain⟨an,ao,X,ap⟩:=Kb g1 V g;refine⟨ao,by have:=X.toks;omega,λe=>?_⟩;obtain⟨S,T⟩:=R (Kc X.big e);refine⟨S,λx p=>?_⟩;rcases o9.1 p with p|p
  .exact T x p
  .rw[l7.1 p];exact⟨an,ap e⟩) E.toNat [] H funs aa ⟨(by rw[ai];intro q w;cases w),aj,λe=>⟨e,λx p=>by cases p⟩⟩ Q
 obtain⟨⟨_,_,d3⟩,d4⟩:=am;obtain⟨aq,d5⟩:=d3 e;obtain⟨K,au,aw⟩:=ak aq;rw[t4.eqs.2.1]at K;obtain⟨Y,ax⟩:=qd K;rw[t3.eqs.2.1,N.eqs.2.1]at Y;obtain⟨j,ay⟩:=qd Y;rw[r.eqs.2.1]at j;obtain⟨_,az⟩:=qd j;have:=of_decide_eq_false ax;have:=of_decide_eq_false ay;have:=of_decide_eq_false az;have aC:=(hY h1).1;have hk:=(hY G).1;simp only[List.length_nil,X6]at al d4;exact⟨⟨by show name.length<=64;omega,⟨hk.1,au⟩,⟨by show 1<=sizes.length;omega,by show sizes.length<=64;omega,aw⟩,by show funs.length<=256;omega,d5⟩,by rw[J];exact .head _⟩
def jQ(x:cm)(k:Int)(t:Λ):Int:=min (match x.lines.find? (λp=>decide (p.1=t))with
 |some p=>p.2
 |none=>x.other) k
def bl(l:Λ):Λ:=((V0 64).map λ(v:Nat)=>(v:Int)).filter λv=>decide (v∈l)
def bV(sizes scope:Λ):Λ:=scope.map λv=>sizes.getD v.toNat 0
def oZ(scope a t:Λ):Λ:=scope.map λv=>t.getD (a.idxOf v) 0
abbrev cE:Type:=Λ×Λ
def hZ(sizes:Λ)(k:Int)(x:cm):cE:=(bl x.scope,(bg (bV sizes (bl x.scope))).map λt=>jQ x k (oZ x.scope (bl x.scope) t))
def dZ(k:Int)(a b:Λ):Λ:=List.zipWith (λx y=>min (x+y) k) a b
def ii(k:Int)(acc:List cE)(g:cE):List cE:=if g.1∈acc.map (·.1)then acc.map λh=>if h.1=g.1 then(h.1,dZ k h.2 g.2)else h else acc++[g]
def jr:Λ->Int
 |[]=>0
 |x::l=>x*64 ^ l.length+jr l
def c7(l:Λ):Int:=l.length*64 ^ 6+jr l
def hE(g:cE):List cE->List cE
 |[]=>[g]
 |h::l=>if c7 h.1<c7 g.1 then h::hE g l else g::h::l
def fD(g:cE):Bool:=g.2.any λc=>decide (0<c)
def fp(f:b2):List cE:=(f.funs.map (hZ f.sizes f.k)).foldl (ii f.k) []
def fE(f:b2):List cE:=((fp f).filter fD).foldl (λl g=>hE g l) []
structure aI where
 k:Int
 sizes:Λ
 zero:Int
 unary:List (Λ)
 funs:List cE
deriving DecidableEq
def c3(f:b2):aI:=(fE f).foldl (λn g=>match g.1 with
 |[]=>{n with zero:=g.2.getD 0 0}
 |[v]=>{n with unary:=n.unary.set v.toNat g.2}
 |_=>{n with funs:=n.funs++[g]}) ⟨f.k,f.sizes,0,f.sizes.map λz=>p9 z.toNat 0,[]⟩
abbrev iM:Type:=Rd (Λ)×Rd (List (Λ×Int))
def bA(g gs:Nat)(A:af):af:=λr=>r=g\/r=gs\/A r
def fF(gs:Nat)(e big a f told:Int)(sv:x1):List x1:=[Γ gs,Δ e,Δ big,Δ a,Δ f,Δ told,sv]
def cA(g gs:Nat)(A:af)(B:af):af:=λr=>¬bA g gs A r/\B r
def k1(w:x3)(g gs:Nat)(A:af)(B:af):Prop:=g≠gs/\¬A g/\¬A gs/\(∀r,bA g gs A r->r<w.heap.size)/\∀r,B r->r<w.heap.size
def df(w:x3)(g gs:Nat)(A:af)(B:af)(s:aD)(clean:Bool):Prop:=k1 w g gs A B/\hD w gs (cA g gs A B) s.toks clean/\(0<=s.told/\s.told<=av/\s.shared.length+s.toks.length<=100000)/\
 ∃big a e told sv,ad w g cb (fF gs 0 big a e told sv)/\((s.big=true↔big≠0)/\(s.big=false->told=s.told))/\bD A (cA g gs A B) w [sv] (show List iM from s.shared)
def eD(w:x3)(g gs:Nat)(A:af)(B:af):Prop:=k1 w g gs A B/\∃(e big a f told:Int)(sv:x1)(l:List iM),ad w g cb (fF gs e big a f told sv)/\(e≠0/\l.length<=100000)/\bD A (cA g gs A B) w [sv] l
theorem k1.V{g:Nat}{A:af}{B:af}(h:k1 w g gs A B)(e:ae S w w'):k1 w' g gs A B:=by
 obtain⟨h1,f,j,p,q⟩:=h;exact⟨h1,f,j,λr a=>T7 (p r a) e.size,λr a=>T7 (q r a) e.size⟩
theorem AT{g:Nat}{A:af}{B:af}(a:∀r,A r->¬S r)(e:∀r,cA g gs A B r->¬S r):∀r,A r\/cA g gs A B r->¬S r:=λr h=>h.elim (a r) (e r)
theorem df.V{g:Nat}{A:af}{B:af}{s:aD}(h:df w g gs A B s clean)(a:ae S w w')(e:∀r,bA g gs A r->¬S r)(f:∀r,cA g gs A B r->¬S r):df w' g gs A B s clean:=by
 obtain⟨h1,j,p,big,q,x,told,sv,y,z,C⟩:=h;exact⟨h1.V a,j.V a (e gs (.inr (.inl rfl))) f,p,big,q,x,told,sv,y.V a (e g (.inl rfl)),z,an.V C a λr _ h=>AT (λr E=>e r (.inr (.inr E))) f r h⟩
theorem eD.V{g:Nat}{A:af}{B:af}(h:eD w g gs A B)(a:ae S w w')(f:∀r,bA g gs A r->¬S r)(j:∀r,cA g gs A B r->¬S r):eD w' g gs A B:=by
 obtain⟨h1,e,big,p,q,told,sv,l,s,x,y⟩:=h;exact⟨h1.V a,e,big,p,q,told,sv,l,s.V a (f g (.inl rfl)),x,an.V y a λr _ h=>AT (λr z=>f r (.inr (.inr z))) j r h⟩
theorem df.ext{g:Nat}{A:af}{B:af}{s:aD}(h:df w g gs A B s clean)(a:Ext w w'):df w' g gs A B s clean:=h.V (a.V λ_=>False) (λ_ _ h=>h) (λ_ _ h=>h)
theorem eD.ext{g:Nat}{A:af}{B:af}(h:eD w g gs A B)(a:Ext w w'):eD w' g gs A B:=h.V (a.V λ_=>False) (λ_ _ h=>h) (λ_ _ h=>h)
def fS(w:x3)(g gs:Nat)(A:af)(B:af)(clean:Bool)(s':Option aD)(w':x3):Prop:=ae (bA g gs A) w w'/\match s' with
 |some s'=>df w' g gs A B s' clean
 |none=>eD w' g gs A B
theorem vy{g:Nat}{e big a f told:Int}(h:ad w g cb (fF gs e big a f told sv)):ai x7 kR [Γ g] w λv w'=>v= .bool (decide (e=0))/\Ext w w':=by
 refine az func112 ?_;rw[bJ,aR cb.p rfl,aR e2.p rfl,aB Ψ (h.cell (o:=0+1+0) rfl),bd];exact⟨rfl,Ext.refl _⟩
theorem o0{g:Nat}{A:af}{B:af}{s:aD}(h:df w g gs A B s clean):ai x7 kR [Γ g] w λv w'=>v= .bool true/\Ext w w':=by
 obtain⟨_,_,_,big,e,f,told,sv,a,_⟩:=h;exact(vy a).mono λ_ _ _ h=>h
theorem nO{g:Nat}{A:af}{B:af}(h:eD w g gs A B):ai x7 kR [Γ g] w λv w'=>v= .bool false/\Ext w w':=by
 obtain⟨_,e,big,p,q,told,sv,l,a,f,_⟩:=h;refine(vy a).mono ?_;rintro _ J _ ⟨rfl,j⟩;exact⟨by rw[decide_eq_false f.1],j⟩
theorem sq{g:Nat}{A B:af}(h:A r\/cA g gs A B r)(a:¬A g):r≠g:=by
 rintro rfl;rcases h with h|h
 .exact a h
 .exact h.1 (.inl rfl)
theorem sr{g:Nat}{A:af}{B:af}{big s a told e:Int}{l:List iM}(I:k1 w g gs A B)(x:ad w g cb (fF gs 0 big s a told sv))(y:bD A (cA g gs A B) w [sv] l)(he:e≠0)(z:l.length<=100000):
  ai x7 np [Γ g,Δ e,Δ at_] w λ_ w'=>ae (λr=>r=g) w w'/\eD w' g gs A B:=by
 refine az func115 ?_;rw[bJ,aR cb.p rfl,aR e2.p rfl,aB Ψ (x.cell (o:=0+1+0) rfl),bd,aj];refine⟨λ_=>?_,λh=>absurd rfl h⟩;rw[bJ,aR cb.p rfl,aR e2.p rfl];refine bk (g:=g) (o:=1) jJ.i rfl rfl x (by simp[fF]) λJ C H f=>?_;have f:ad J g cb (fF gs e big s a told sv):=f;rw[bJ,aR cb.p rfl,aR e2.p rfl];refine bk (g:=g) (o:=3) ah.i rfl rfl f (by simp[fF]) λU E K j=>?_;have j:ad U g cb (fF gs e big at_ a told sv):=j;have q:=C.trans E;exact⟨q,I.V q,e,big,at_,a,told,sv,l,j,⟨he,z⟩,an.V y q λr _ h G=>sq h I.2.1 G⟩
theorem ss{g:Nat}{A:af}{B:af}{s:aD}{e:Int}(h:df w g gs A B s clean)(he:e≠0):ai x7 np [Γ g,Δ e,Δ at_] w λ_ w'=>ae (λr=>r=g) w w'/\eD w' g gs A B:=by
 obtain⟨I,_,a,big,p,q,told,sv,f,_,j⟩:=h;exact sr I f j he (by have:=a.2.2;show s.shared.length<=_;omega)
theorem Kd{g:Nat}{A:af}{B:af}{e:Int}(h:eD w g gs A B):ai x7 np [Γ g,Δ e,Δ at_] w λ_ w'=>Ext w w':=by
 obtain⟨_,f,big,j,q,told,sv,l,h1,a,_⟩:=h;refine az func115 ?_;rw[bJ,aR cb.p rfl,aR e2.p rfl,aB Ψ (h1.cell (o:=0+1+0) rfl),bd,aj];exact⟨λh=>absurd h a.1,λ_=>Ext.refl _⟩
theorem su{g:Nat}{A:af}{B:af}{s:aD}{b:Bool}(h:df w g gs A B s clean):ai x7 pQ [Γ g,.bool b,Δ at_] w λ_ w'=>ae (λr=>r=g) w w'/\df w' g gs A B (a8 b s) clean:=by
 obtain⟨I,z,C,big,e,E,told,sv,f,G,H⟩:=id h;refine az func110 ?_;refine aT (λv J=>w=J/\v= .bool (b&&decide (big=0))) ?_ ?_
 rotate_left
 .intro ax q;cases b with
  |false=>rw[aU];exact q _ _ ⟨rfl,rfl⟩
  |true=>
   rw[bL,bJ,aR cb.p rfl,aR e2.p rfl,aB Ψ (f.cell (o:=0+1+1) rfl),bd,aj];refine⟨λa=>?_,λa=>q _ _ ⟨rfl,by rw[decide_eq_false a];rfl⟩⟩;rw[bJ,aR cb.p rfl,aR e2.p rfl,aB Ψ (f.cell (o:=0+1+0) rfl),bd];exact q _ _ ⟨rfl,by rw[decide_eq_true a];rfl⟩
 rintro _ _ ⟨rfl,rfl⟩;rw[b7];refine⟨λK=>?_,λL=>?_⟩
 .obtain⟨rfl,a⟩:=Bool.and_eq_true_iff.1 K;rw[bJ,aR cb.p rfl,aR e2.p rfl];refine bk (g:=g) (o:=2) jJ.i rfl rfl f (by simp[fF]) λJ M Q x=>?_;have x:ad J g cb (fF gs 0 5 e E told sv):=x;rw[bJ,aR cb.p rfl,aR e2.p rfl];refine bk (g:=g) (o:=4) ah.i rfl rfl x (by simp[fF]) λU N R y=>?_;have y:ad U g cb (fF gs 0 5 e at_ told sv):=y;have j:=M.trans N;exact⟨j,I.V j,z.V j (λhe=>I.1 he.symm) (λr O he=>O.1 (.inl he)),C,5,e,at_,told,sv,y,⟨⟨λ_=>Ω,λ_=>by simp[a8]⟩,λh=>by simp[a8]at h⟩,an.V H j λr _ h P=>sq h I.2.1 P⟩
 .refine⟨ae.refl _ _,I,z,C,big,e,E,told,sv,f,⟨?_,λh=>G.2 (by
   have h:(s.big||b)=false:=h;exact(U5.1 h).1)⟩,H⟩
  show(s.big||b)=true↔big≠0;cases b with
  |false=>rw[Bool.or_false];exact G.1
  |true=>
   have a:big≠0:=of_decide_eq_false (by simpa using L);simp[a]
theorem AU{g:Nat}{A:af}{B:af}{b:Bool}(h:eD w g gs A B):ai x7 pQ [Γ g,.bool b,Δ at_] w λ_ w'=>Ext w w':=by
 obtain⟨_,j,big,q,r,told,sv,l,h1,e,_⟩:=h;refine az func110 ?_;refine aT (λv J=>w=J/\v= .bool false) ?_ ?_
 .rintro _ _ ⟨rfl,rfl⟩;rw[aU];exact Ext.refl _
 intro ax a;cases b with
 |false=>rw[aU];exact a _ _ ⟨rfl,rfl⟩
 |true=>
  rw[bL,bJ,aR cb.p rfl,aR e2.p rfl,aB Ψ (h1.cell (o:=0+1+1) rfl),bd,aj];refine⟨λf=>?_,λf=>a _ _ ⟨rfl,rfl⟩⟩;rw[bJ,aR cb.p rfl,aR e2.p rfl,aB Ψ (h1.cell (o:=0+1+0) rfl),bd];exact a _ _ ⟨rfl,by rw[decide_eq_false e.1]⟩
theorem df.scan{g:Nat}{A:af}{B:af}{s:aD}{l:List (Λ)}(h:df w g gs A B s clean)(a:ae (λr=>r=gs) w w')(I:hD w' gs (cA g gs A B) l clean)(z:l.length<=s.toks.length):df w' g gs A B {s with toks:=l} clean:=by
 obtain⟨h1,_,e,big,j,p,told,sv,q,x,y⟩:=h;refine⟨h1.V a,I,⟨e.1,e.2.1,by have:=e.2.2;show s.shared.length+l.length<=100000;omega⟩,big,j,p,told,sv,q.V a h1.1,x,an.V y a λr _ h f=>?_⟩;have f:r=gs:=f;subst f;rcases h with h|h
 .exact h1.2.2.1 h
 .exact h.1 (.inr (.inl rfl))
theorem AV{g:Nat}{A:af}{B:af}{s:aD}(h:df w g gs A B s clean):ai x7 yU [Γ g] w λv w'=>fS w g gs A B clean ((dQ s).map (·.2)) w'/\∃(t:Λ)(n:Int),v= .tuple #[bR t,Δ n]/\Bytes t/\t.length<=100000/\∀q,dQ s=σ q->t=q.1:=by
 refine az func109 ?_;refine(o0 h).mono ?_;rintro _ J _ ⟨rfl,K⟩;rw[bC,Y6,aU];have h1:=h.ext K;obtain⟨_,L,_,big,O,P,told,sv,z,_⟩:=id h1;have Q:=L.words.2;rw[aG cb.p 0 z rfl];refine(qc L).mono ?_;rintro v U _ ⟨j,y⟩;have M:ae (bA g gs A) w U:=(K.V _).trans (j.mono λr _ h=>.inr (.inl h));cases f:s.toks with
 |cons t l=>
  rw[f]at y;obtain⟨R,n,rfl⟩:=y;have S:=h1.scan j R (by rw[f];simp);have C:dQ s=σ (t,{s with toks:=l}):=by unfold dQ;rw[f]
  have N:=Q t (by rw[f];exact .head _);rw[gW,gX,gY];refine aT (λv E=>U=E/\v=Δ 0) ?_ ?_
  .rintro _ _ ⟨rfl,rfl⟩;refine dd (λx=>U=x) ?_ ?_
   .rintro _ rfl;rw[C];exact⟨⟨M,S⟩,t,n,rfl,N.1,N.2.2,λq G=>by cases G;rfl⟩
   .intro ax a;rw[bI,aj];exact⟨λh=>absurd rfl h,λ_=>a _ rfl⟩
  .intro ax a;rw[bd,aj];exact⟨λh=>Ω,λ_=>a _ _ ⟨rfl,rfl⟩⟩
 |nil=>
  rw[f]at y;obtain⟨n,rfl⟩:=y;have C:dQ s=ν:=by unfold dQ;rw[f]
  obtain⟨H,_,W,big,O,P,told,sv,z,ad,X⟩:=id h1;have Y:=z.V j H.1;have Z:=an.V X j λr _ h I=>by
   have I:r=gs:=I;subst I;rcases h with h|h
   .exact H.2.2.1 h
   .exact h.1 (.inr (.inl rfl))
  rw[gW,gX,gY];refine aT (λv E=>U=E/\∃e:Int,v=Δ e/\e≠0) ?_ ?_
  .rintro _ _ ⟨rfl,e,rfl,he⟩;refine dd (λx=>ae (λr=>r=g) U x/\eD x g gs A B) ?_ ?_
   .rintro x ⟨aa,ab⟩;rw[C];exact⟨⟨M.trans (aa.mono λr _ h=>.inl h),ab⟩,[],n,rfl,λb ac=>(by cases ac),Ξ,λq G=>by cases G⟩
   .intro ax a;rw[bI,aj];refine⟨λ_=>?_,λh=>absurd he h⟩;exact(sr (H.V j) Y Z he (by have:=W.2.2;show s.shared.length<=_;omega)).mono λ_ w' _ h=>a _ h
  .intro ax a;rw[bd,aj];cases clean with
   |true=>exact⟨λ_=>a _ _ ⟨rfl,4,rfl,Ω⟩,λh=>absurd rfl h⟩
   |false=>exact⟨λh=>by simp at h,λ_=>a _ _ ⟨rfl,11,rfl,Ω⟩⟩
theorem Ke{g:Nat}{A:af}{B:af}(h:eD w g gs A B):ai x7 yU [Γ g] w λv w'=>Ext w w'/\v= .tuple #[bR [],Δ 0]:=by
 refine az func109 ?_;refine(nO h).mono ?_;rintro _ J _ ⟨rfl,a⟩;rw[bC,W5,bL];exact⟨a,rfl⟩
theorem vz{g:Nat}{A:af}{B:af}{s:aD}(h:df w g gs A B s clean):ai x7 nn [Γ g,Δ lo,Δ hi] w λv w'=>fS w g gs A B clean ((bc lo hi s).map (·.2)) w'/\∃n at_:Int,v= .tuple #[Δ n,Δ at_]/\(∀q,bc lo hi s=σ q->n=q.1)/\(bc lo hi s=ν->n=0):=by
 refine az func111 ?_;refine(AV h).mono ?_;rintro _ J _ ⟨⟨y,f⟩,t,n,rfl,H,I,hw⟩;rw[br,bt];cases j:dQ s with
 |none=>
  have a:bc lo hi s=ν:=by unfold bc;rw[j]
  rw[j]at f;have f:eD J g gs A B:=f;refine(nO f).mono ?_;rintro _ U _ ⟨rfl,p⟩;rw[bC,W5,bL,a];exact⟨⟨y.trans (p.V _),f.ext p⟩,0,n,rfl,λq h=>(by cases h),λ_=>rfl⟩
 |some q=>
  obtain⟨bi,s1⟩:=q;have:=hw _ j;subst this;rw[j]at f;have f:df J g gs A B s1 clean:=f;refine(o0 f).mono ?_;rintro _ U _ ⟨rfl,p⟩;rw[bC,Y6,aU];refine(J9 H I).mono ?_;rintro _ z _ ⟨rfl,C⟩;have E:=(f.ext p).ext C;have G:ae (bA g gs A) w z:=(y.trans (p.V _)).trans (C.V _);obtain⟨m,e,K,hm⟩:∃m e:Int,kq t= .tuple #[Δ m,Δ e]/\((gn t=σ m/\e=0)\/(gn t=ν/\e=4)):=by
   unfold kq;cases O:gn t with
   |none=>exact⟨0,4,rfl,.inr ⟨rfl,rfl⟩⟩
   |some m=>exact⟨m,0,rfl,.inl ⟨rfl,rfl⟩⟩
  rw[K,br,bt];refine aT (λv L=>z=L/\v= .bool (bc lo hi s).isNone) ?_ ?_
  .rintro _ _ ⟨rfl,rfl⟩;cases a:bc lo hi s with
   |none=>
    rw[Option.isNone_none,bL];refine(ss E Ω).mono ?_;rintro _ P _ ⟨M,N⟩;exact⟨⟨G.trans (M.mono λr _ h=>.inl h),N⟩,0,n,rfl,λq h=>(by cases h),λ_=>rfl⟩
   |some q=>
    rw[j9,aU];unfold bc at a;rw[j]at a;simp only at a;rcases hm with⟨hm,_⟩|⟨hm,_⟩
    .rw[hm]at a;simp only at a;split at a
     .cases a;exact⟨⟨G,E⟩,m,n,rfl,λq h=>(by cases h;rfl),λh=>(by cases h)⟩
     .cases a
    .rw[hm]at a;cases a
  .intro ax x;have a:bc lo hi s=match gn t with
     |none=>ν
     |some n=>if lo<=n/\n<=hi then σ (n,s1)else ν:=by
    unfold bc;rw[j];simp only;cases gn t<;>rfl
   rw[bI,aj];rcases hm with⟨hm,rfl⟩|⟨hm,rfl⟩
   .rw[hm]at a;simp only at a;refine⟨λh=>absurd rfl h,λ_=>?_⟩;rw[aQ,aj];refine⟨λh=>x _ _ ⟨rfl,by rw[a,if_neg Ω];rfl⟩,λh=>?_⟩;rw[bP];refine x _ _ ⟨rfl,?_⟩;rw[a];by_cases ao:hi<m
    .rw[decide_eq_true ao,if_neg Ω];rfl
    .rw[decide_eq_false ao,if_pos Ω];rfl
   .rw[hm]at a;exact⟨λ_=>x _ _ ⟨rfl,by rw[a];rfl⟩,λh=>absurd (by omega:(4:Int)≠0) h⟩
theorem Kf{g:Nat}{A:af}{B:af}(h:eD w g gs A B):ai x7 nn [Γ g,Δ lo,Δ hi] w λv w'=>Ext w w'/\v= .tuple #[Δ 0,Δ 0]:=by
 refine az func111 ?_;refine(Ke h).mono ?_;rintro _ J _ ⟨a,rfl⟩;rw[br,bt];refine(nO (h.ext a)).mono ?_;rintro _ U _ ⟨rfl,e⟩;rw[bC,W5,bL];exact⟨a.trans e,rfl⟩
theorem Kg{x:Int}(h:aH .i64 w sv l):ai x7 Ij [sv,Δ x] w λv w'=>Ext w w'/\∃r:Int,v=Δ r/\(0<=r↔x∈l):=by
 refine az func251 ?_;rw[aW au.u h];refine cd.range l.length (λi _ J=>Ext w J/\x∉l.take i) h.le ⟨Ext.refl _,Ξ⟩ ?_ ?_
 .rintro i _ J k hi ⟨a,e⟩ hk;refine bQ Ω ?_;obtain⟨y,f⟩:=aF (l:=l) hi;rw[be au.u al.i Ψ (h.ext a) f,bd,aj];refine⟨λhe=>⟨a,i,rfl,⟨λ_=>he▸x5 f,λ_=>Ω⟩⟩,λhe=>?_⟩;rw[aP];refine hk _ _ ⟨a,λhm=>?_⟩;rw[u7,f]at hm;rcases o9.1 hm with hm|hm
  .exact e hm
  .simp at hm;exact he hm
 .rintro _ J k ⟨a,e⟩;rw[o5]at e;rw[aQ,aj];exact⟨λh=>Ω,λ_=>⟨a,-1,rfl,⟨λh=>Ω,λh=>absurd h e⟩⟩⟩
theorem Kh{x:Int}(h:aH .i64 w sv l):ai x7 HV [sv,Δ x] w λv w'=>v= .bool (decide (x∈l))/\Ext w w':=by
 refine az func211 ?_;refine(Kg h).mono ?_;rintro _ J _ ⟨a,r,rfl,e⟩;rw[cI];exact⟨by congr 1;rw[U1,decide_eq_true_eq,decide_eq_true_eq];exact e,a⟩
theorem sw:∀{l:Λ},(∀z∈l,1<=z)->∀i,aK ((l.take i).map λk=>min k 4097)<=aK (l.map λk=>min k 4097)/\1<=aK ((l.take i).map λk=>min k 4097)
 |[],_,i=>by simp[aK]
 |z::l,h,0=>by
  have a:=sw (l:=l) (λx e=>h x (.tail _ e)) l.length;rw[o5]at a;have f:=h z (.head _);simp only[List.take_zero,List.map_nil,T4,aK];have:=Int.mul_le_mul_of_nonneg_left a.2 (show 0<=min z 4097 by omega);omega
 |z::l,h,i+1=>by
  have a:=sw (l:=l) (λx e=>h x (.tail _ e)) i;have f:=h z (.head _);simp only[List.take_succ_cons,T4,aK];have h1:=Int.mul_le_mul_of_nonneg_left a.1 (show 0<=min z 4097 by omega);have j:=Int.mul_le_mul_of_nonneg_left a.2 (show 0<=min z 4097 by omega);exact⟨h1,Ω⟩
theorem AW(l:Λ)(x:Int):aK (l++[x])=aK l*x:=by
 induction l with
 |nil=>simp[aK]
 |cons a l e=>rw[List.cons_append,aK,e,aK,Int.mul_assoc]
theorem AX(h:aH .i64 w sv l)(h1:∀z∈l,1<=z):ai x7 Hp [sv] w λv w'=>v= .bool (ds l)/\Ext w w':=by
 refine az func166 ?_;rw[aW au.u h];refine nb.range l.length (λi _ n J=>Ext w J/\n=Δ (aK ((l.take i).map λk=>min k 4097))/\aK ((l.take i).map λk=>min k 4097)<=4096) h.le ⟨Ext.refl _,by simp[aK],by simp[aK]⟩ ?_ ?_
 .rintro i _ _ J p hi ⟨a,rfl,f⟩ q;refine bQ Ω ?_;obtain⟨z,j⟩:=aF (l:=l) hi;have s:=h1 z (x5 j);have x:=sw h1 i;have y:=sw h1 (i+1);have e:aK ((l.take (i+1)).map λk=>min k 4097)=aK ((l.take i).map λk=>min k 4097)*min z 4097:=by
   rw[u7,j,o8,Z4,T4,List.map_nil,AW]
  rw[be au.u al.i Ψ (h.ext a) j,lN,hV,<-e];have A:aK ((l.take (i+1)).map λk=>min k 4097)<=4096*4097:=by
   rw[e];have B:=Int.mul_le_mul_of_nonneg_right f (show 0<=min z 4097 by omega);have C:=Int.mul_le_mul_of_nonneg_left (show min z 4097<=4097 by omega) (show(0:Int)<=4096 by omega);omega
  rw[wrap_i64 Ω Ω,bP,aj];refine⟨λr=>⟨?_,a⟩,λr=>?_⟩
  .unfold ds;rw[decide_eq_true];omega
  .rw[aP];exact q _ _ _ ⟨a,rfl,Ω⟩
 .rintro _ _ J p ⟨a,rfl,f⟩;rw[o5]at f;rw[aQ,aj];refine⟨λh=>Ω,λ_=>⟨?_,a⟩⟩;unfold ds;rw[decide_eq_false];omega
def kt(n:Int)(acc:Λ)(s:aD):Option (Int×aD):=match bc 0 (n-1) s with
 |none=>ν
 |some (v,s)=>if v∈acc then ν else σ (v,s)
theorem o1{α:Type}{f:List α->aD->Option (α×aD)}{acc:List α}{s:aD}(h:f acc s=ν):cK f (n+1) acc s=ν:=by
 simp only[cK,h]
theorem sx{α:Type}{f:List α->aD->Option (α×aD)}{acc:List α}{s s':aD}{a:α}(h:f acc s=σ (a,s')):cK f (n+1) acc s=cK f n (acc++[a]) s':=by
 simp only[cK,h]
theorem df.qe{g:Nat}{A:af}{B:af}{s:aD}(h:df w g gs A B s clean):(∀r,bA g gs A r->r<w.heap.size)/\(∀r,B r->r<w.heap.size):=⟨h.1.2.2.2.1,h.1.2.2.2.2⟩
theorem Ki{g k:Nat}{A B:af}{s:aD}{m:Int}(h:df w g gs A B s clean)(hk:k<=4611686018427387904)(hm:0<=m/\m<=1000000):
  ai x7 y3 [Γ g,Δ (k:Int),Δ m] w λv w'=>fS w g gs A B clean ((e5 m k s).map (·.2)) w'/\
   ∃gr l,aq .i64 al w' gr v l/\(∀r,leads v r->w.heap.size<=r)/\l.length<=100001/\∀q,e5 m k s=σ q->l=q.1:=by
 obtain⟨ab,ay⟩:=h.qe;have aA:=h.2.1.words.1;refine az func165 ?_;refine⟨λout Q J=>∃i:Nat,Q=Δ (i:Int)/\i<=k/\ae (bA g gs A) w J/\∃gr l,aq .i64 al J gr out l/\w.heap.size<=gr/\l.length<=100001/\
  ((∃st,df J g gs A B st clean/\cK (kt m) (k-i) l st=e5 m k s/\l.length+st.toks.length<=100000)\/(eD J g gs A B/\e5 m k s=ν)),λ_ Q _=>k-(bS Q).toNat,
  ⟨0,rfl,X4 _,ae.refl _ _,w.heap.size,[],aq.nil _ _ _ _,p8 _,Ξ,.inl ⟨s,h,rfl,by simpa using aA⟩⟩,?_⟩
 rintro out _ J ⟨i,rfl,aB,ac,gr,l,ad,ba,bb,ag⟩;have s1:=ac.size;have R:∀r,leads out r->w.heap.size<=r:=λr y=>by have:=bO ad y;omega
 refine aT (λv U=>Ext J U/\((v= .bool true/\i<k/\∃st,df U g gs A B st clean/\cK (kt m) (k-i) l st=e5 m k s/\l.length+st.toks.length<=100000)\/
  (v= .bool false/\((∃st,df U g gs A B st clean/\e5 m k s=σ (l,st))\/(eD U g gs A B/\e5 m k s=ν))))) ?_ ?_
 rotate_left
 .intro ax K;rw[aQ,aj];refine⟨λbd=>?_,λbe=>?_⟩
  .rcases ag with⟨st,z,x,S⟩|⟨E,W⟩
   .refine (o0 z).mono ?_;rintro _ U _ ⟨rfl,C⟩;exact K _ _ ⟨C,.inl ⟨rfl,Ω,st,z.ext C,x,S⟩⟩
   .refine (nO E).mono ?_;rintro _ U _ ⟨rfl,C⟩;exact K _ _ ⟨C,.inr ⟨rfl,.inr ⟨E.ext C,W⟩⟩⟩
  .have aC:k-i=0:=Ω
   rcases ag with⟨st,z,x,S⟩|aE
   .rw[aC]at x;exact K _ _ ⟨Ext.refl _,.inr ⟨rfl,.inl ⟨st,z,x.symm⟩⟩⟩
   .exact K _ _ ⟨Ext.refl _,.inr ⟨rfl,.inr aE⟩⟩
 rintro _ U ⟨C,aF⟩;have X:ae (bA g gs A) w U:=ac.trans (C.V _);have L:=ad.ext C;rcases aF with⟨rfl,aB,st,z,x,S⟩|⟨rfl,aG⟩
 rotate_left
 .rw[aU];rcases aG with⟨st,z,H⟩|⟨E,H⟩
  .rw[H];exact⟨⟨X,z⟩,gr,l,L,R,Ω,λq f=>by cases f;rfl⟩
  .rw[H];exact⟨⟨X,E⟩,gr,l,L,R,Ω,λq f=>by cases f⟩
 rw[bL,dD,wrap_i64 Ω Ω];have aH:k-i=(k-(i+1))+1:=Ω
 rw[aH]at x;refine(vz z).mono ?_;rintro _ M _ ⟨⟨N,O⟩,n,at_,rfl,aI,bf⟩;rw[br,bt];have ah:∀r,leads out r->¬bA g gs A r:=λr y aJ=>by have:=ab r aJ;have:=R r y;omega
 have bg:∀r,g=r->bA g gs A r:=λr h=>.inl h.symm;refine dd (λe=>ae (bA g gs A) U e/\((∃p,df e g gs A B p clean/\cK (kt m) (k-(i+1)) (l++[n]) p=e5 m k s/\l.length+1+p.toks.length<=100000)\/(eD e g gs A B/\e5 m k s=ν))/\l.length+1<=100001) ?_ ?_
 .rintro e ⟨ak,aK,am⟩;have aL:=bo L ak ah;have an:=X.trans ak;have bh:=an.size;refine en au.u al.i rfl λa ga ao bi G aM=>?_;refine jh au.u al.i rfl (aL.ext G) aM.ls Θ Θ λaN aO aR bj aS Y=>?_;have bk:=G.size;rw[aP,wrap_i64 Ω Ω];have aV:ae (bA g gs A) w aR:=hC (an.trans (G.V _)) Y λr y he=>by have he:r=gr:=he;omega
  have ap:∀r,bA g gs A r->¬(λr=>r=gr) r:=λr y he=>by have:=ab r y;have he:r=gr:=he;omega
  have av:∀r,cA g gs A B r->¬(λr=>r=gr) r:=λr y he=>by have:=ay r y.2;have he:r=gr:=he;omega
  refine⟨⟨i+1,rfl,Ω,aV,aO,l++[n],aS,Ω,Θ,?_⟩,by simp only[bS];omega⟩;rcases aK with⟨p,P,aW,bl⟩|⟨aX,W⟩
  .exact .inl ⟨p,(P.ext G).V Y ap av,aW,Θ⟩
  .exact .inr ⟨(aX.ext G).V Y ap av,W⟩
 .intro bm Z;cases f:bc 0 (m-1) st with
  |none=>
   rw[f]at O;have E:eD M g gs A B:=O;have I:kt m l st=ν:=by unfold kt;rw[f]
   have H:e5 m k s=ν:=by rw[<-x];exact o1 I
   refine aT (λv e=>Ext M e/\v= .bool false) ?_ ?_
   rotate_left
   .intro aY aa;refine(nO E).mono ?_;rintro _ e _ ⟨rfl,j⟩;rw[aU];exact aa _ _ ⟨j,rfl⟩
   rintro _ e ⟨j,rfl⟩;rw[aU];exact Z _ ⟨N.trans (j.V _),.inr ⟨E.ext j,H⟩,Ω⟩
  |some q=>
   obtain⟨aN,p⟩:=q;have aZ:=aI _ f;subst aZ;rw[f]at O;have aw:df M g gs A B p clean:=O;have a1:=dF f;have am:l.length+1+p.toks.length<=100000:=by have:=a1.1;omega
   refine aT (λv e=>Ext M e/\v= .bool (decide (n∈l))) ?_ ?_
   rotate_left
   .intro aY aa;refine(o0 aw).mono ?_;rintro _ e _ ⟨rfl,j⟩;rw[bL];refine(Kh ((bo L N ah).ext j).ls).mono ?_;rintro _ ao _ ⟨rfl,G⟩;exact aa _ _ ⟨j.trans G,rfl⟩
   rintro _ e ⟨j,rfl⟩;have P:=aw.ext j;rw[aj];refine⟨λa2=>?_,λa6=>?_⟩
   .have I:kt m l st=ν:=by unfold kt;rw[f];simp only;rw[if_pos a2]
    refine(ss P Ω).mono ?_;rintro _ ao _ ⟨a7,a8⟩;exact Z _ ⟨(N.trans (j.V _)).trans (a7.mono λr _ h=>.inl h),.inr ⟨a8,by rw[<-x];exact o1 I⟩,Ω⟩
   .have I:kt m l st=σ (n,p):=by unfold kt;rw[f];simp only;rw[if_neg a6]
    exact Z _ ⟨N.trans (j.V _),.inl ⟨p,P,by rw[<-x];exact(sx I).symm,am⟩,Ω⟩
theorem nP{a b:Int}(e:0<=a/\a<=4294967296)(f:0<=b/\b<=4294967296):ai x7 FV [Δ a,Δ b,Δ k] w λv w'=>v=Δ (min (a+b) k)/\Ext w w':=by
 refine az func32 ?_;simp only[aP,bP,aj];rw[wrap_i64 Ω Ω];exact⟨λh=>⟨by rw[Int.min_eq_right Ω],Ext.refl _⟩,λh=>⟨by rw[Int.min_eq_left Ω],Ext.refl _⟩⟩
def qf(a b k:Int):x1:=if cp a k/\cp b k then .tuple #[Δ (min (a+b) k),Δ 0]else .tuple #[Δ 0,Δ 3]
theorem AY{a b:Int}:ai x7 y2 [Δ a,Δ b,Δ k] w λv w'=>v=qf a b k/\Ext w w':=by
 refine az func160 ?_;refine aT (λv J=>Ext w J/\v= .bool (decide (¬(cp a k/\cp b k)))) ?_ ?_
 .rintro _ J ⟨e,rfl⟩;simp only[aj,aP,lN];refine⟨λh=>⟨by unfold qf;rw[if_neg h],e⟩,λh=>?_⟩;have h:=X3.1 h;obtain⟨⟨h1,r⟩,s,x⟩:=id h;have:=h1.2;rw[wrap_i64 Ω Ω];exact⟨by unfold qf;rw[if_pos h],e⟩
 .intro ax f;refine jN.mono ?_;rintro _ U _ ⟨rfl,j⟩;simp only[bC,b7];refine⟨λh=>f _ _ ⟨j,?_⟩,λh=>?_⟩
  .have:¬cp a k:=by simpa using h
   rw[decide_eq_true];exact λh=>this h.1
  .have p:cp a k:=by simpa using h
   refine jN.mono ?_;rintro _ y _ ⟨rfl,q⟩;simp only[bC];exact f _ _ ⟨j.trans q,by simp[p]⟩
theorem Kj(h:aH .i64 w sv l)(f:l≠[]):
  ai x7 Ir [sv] w λv w'=>v=Δ (vq l)/\Ext w w':=by
 obtain⟨x,l,rfl⟩:∃x r,l=x::r:=by cases l with
  |nil=>exact absurd rfl f
  |cons x r=>exact⟨x,r,rfl⟩
 have j:=h.le;refine az func271 ?_;refine dd (λJ=>w=J) ?_ ?_
 .rintro _ rfl;rw[gl (y:=0) (i:=0) rfl au.u al.i Ψ h (by rfl)];refine⟨λm i U=>Ext w U/\∃k:Nat,i=Δ (k+1:Nat)/\k<=l.length/\m=Δ ((l.take k).foldl min x),λ_ i _=>l.length+1-(bS i).toNat,⟨Ext.refl _,0,rfl,X4 _,rfl⟩,?_⟩;rintro _ _ U ⟨a,k,rfl,hk,rfl⟩;rw[aW au.u (h.ext a)];simp only[c9,aQ,aj]at j ⊢;refine⟨λq=>?_,λs=>⟨?_,a⟩⟩
  .obtain⟨y,e⟩:=aF (l:=l) (i:=k) Ω;rw[be au.u al.i Ψ (h.ext a) (show(x::l)[k+1]?=σ y from e),lN];simp only[aP];rw[wrap_i64 Ω Ω];refine⟨⟨a,k+1,by congr 1,Ω,?_⟩,?_⟩
   .rw[u7,e,List.foldl_append];rfl
   .simp only[bS];omega
  .have:k=l.length:=Ω
   subst this;rw[o5];rfl
 .intro ax p;rw[aW au.u h];simp only[aQ,aj];exact⟨λh=>by simp at h;omega,λ_=>p _ rfl⟩
theorem AZ{g:Nat}{cs:Λ}(h:c8 w g a sv ag k cs):ai x7 uS [Γ g] w λv w'=>v=Δ k/\Ext w w':=by
 obtain⟨⟨aV,gs,e,hm,f⟩,_⟩:=h;refine az func237 ?_;rw[cP eT.u];simp only[j9,aU];rw[aG cU.p 1 e rfl];exact⟨rfl,Ext.refl _⟩
theorem mF{g e:Nat}{cs:Λ}(h:c8 w g e sv ag k cs):
  ai x7 GU [Γ g] w λv w'=>Ext w w'/\∃a,w.heap.size<=a/\aq .i64 al w' a v cs:=by
 obtain⟨⟨aV,gs,f,hm,j⟩,⟨_,_,q⟩,I,r⟩:=h;refine az func126 ?_;rw[cP eT.u];simp only[j9,aU];rw[aG cU.p 2 f rfl];exact u2 j.ls Ω
theorem o2{g f:Nat}{cs:Λ}(h:c8 w g f sv ag k cs):
  ai x7 HK [Γ g] w λv w'=>v= .agg #[sv]/\Ext w w':=by
 obtain⟨⟨aV,gs,q,hm,A⟩,_⟩:=h;have s:=hm.ls.cells;refine az func196 ?_;refine bz bu.i λB J C e x=>?_;rw[cP eT.u];simp only[j9,aU];rw[bJ,aR cU.p rfl,bH (cs:=[sv]) bu.p bu.i rfl (nF (q.ext e) (by
  intro j v a
  match j,a with
  |0,a=>exact a))]
 refine b6 (vs:=[sv]) bu.i rfl rfl (by intro u hu;simp at hu;subst hu;exact s.2) x λE y G z=>?_;rw[fC bu.p bu.i rfl z.range];exact⟨rfl,e.then y (by rintro r H rfl;omega)⟩
theorem A0(h:aH .i64 w sv ag)(q:ag.length<=1000):ai x7 zf [.agg #[sv]] w λv w'=>Ext w w'/\∃a,w.heap.size<=a/\aq .i64 ah w' a v ag:=by
 refine az func236 ?_;refine bj λg J r e f=>?_;rw[aL bu.p 0 f rfl];refine(kX (h.ext e) Ω).mono ?_;rintro v U _ ⟨j,a,s,hm⟩;have s1:=e.size;exact⟨e.trans j,a,Ω,hm⟩
theorem A1(h:aH .i64 w sv ag):ai x7 In [.agg #[sv]] w λv w'=>v=Δ ag.length/\Ext w w':=by
 refine az func258 ?_;refine bj λg J f a e=>?_;rw[aL bu.p 0 e rfl,aW ap.u (h.ext a)];exact⟨rfl,a⟩
def h0(ag:Λ)(i:Int):Int:=if 0<=i then ag.getD i.toNat 0 else 0
theorem qg{i:Int}(h:aH .i64 w sv ag):ai x7 Io [.agg #[sv],Δ i] w λv w'=>v=Δ (h0 ag i)/\Ext w w':=by
 refine az func259 ?_;refine bj λg J r a e=>?_;refine aT (λv U=>v= .bool (decide (i<0\/(ag.length:Int)<=i))/\J=U) ?_ ?_
 .rintro _ _ ⟨rfl,rfl⟩;simp only[aj];refine⟨λh=>⟨?_,a⟩,λq=>?_⟩
  .unfold h0;split
   .rw[v8,Y0 Ω];rfl
   .rfl
  .rw[aL bu.p 0 e rfl];obtain⟨n,rfl⟩:∃n:Nat,i=n:=⟨i.toNat,Ω⟩;have f:n<ag.length:=Ω
   rw[be ap.u ah.i Ψ (h.ext a) (x6 f)];refine⟨?_,a⟩;unfold h0;rw[if_pos Ω,v8,u6,x6 f];rfl
 .intro ax j;simp only[aQ,aj];refine⟨λh=>j _ _ ⟨by rw[decide_eq_true];omega,rfl⟩,λq=>?_⟩;rw[aL bu.p 0 e rfl,aW ap.u (h.ext a)];simp only[cI];exact j _ _ ⟨by congr 1;simp;omega,rfl⟩
theorem sy{g B0:Nat}(I:b1 ag):
  nf x7 kQ [Γ g] (aK ag).toNat (λk vs w=>∃aM gt,vs=[Δ (k:Int),aM]/\B0<=gt/\aq .i64 ah w gt aM (cJ ag k))
   (λw=>ad w g bu [sv]/\aH .i64 w sv ag/\B0<=w.heap.size):=by
 refine⟨kQ.enters,λl ax Q w r _ z ⟨s,x,A⟩ B=>?_⟩;have R:=prod_bound I;refine oK func94 ?_;rw[bH bu.p bu.i rfl s.range];refine(oN x I).free.mono ?_;rintro _ J ⟨C,rfl,a⟩;refine bZ.range (aK ag).toNat (λi U=>ax i U/\ad U g bu [sv]/\aH .i64 U sv ag/\B0<=U.heap.size) Ω ⟨r 0 _ _ a C.b B,s.ext a,x.ext a,Y5 A a.size⟩ ?_ ?_
 .rintro i U k hi ⟨f,j,q,y⟩ hk;simp only[aQ,aj];refine⟨λ_=>?_,λh=>Ω⟩;rw[bH bu.p bu.i rfl j.range];refine(I0 q I Ω Ω).free.mono ?_;rintro _ E ⟨G,e,aM,gt,rfl,H,K⟩;rw[br,bt];refine⟨rfl,(z i _ E hi ⟨j.ext e,q.ext e,Y5 y e.size⟩ ⟨aM,gt,rfl,Y5 y H,K⟩ (r _ _ _ e G.b f)).mono ?_⟩;rintro _ S (⟨rfl,⟨L,M,N⟩,O⟩|⟨rfl,P⟩)
  .simp only[bC,Y6,aU,aP];exact hk _ ⟨O.1,L,M,N⟩
  .simp only[bC,W5,bL];exact .inr ⟨i,hi,P⟩
 .rintro U k ⟨f,j,q,_⟩;simp only[aQ,aj];exact⟨λh=>Ω,λ_=>.inl f⟩
theorem sz:ai x7 F6 [.agg #[sv]] w λr w'=>Ext w w'/\∃g,r= .func (.func kQ) #[] #[Γ g]/\w.heap.size<=g/\ad w' g bu [sv]:=by
 refine az func51 ?_;refine bj λg J f a e=>?_;rw[ki];exact⟨a,g,rfl,Ω,e⟩
end Go.Proofs.YtikkpokkcdocoaaGreatDoor
namespace Go.Vc
open Go Go.RowKit
set_option maxRecDepth 100000
section
variable{P:W9}{w:x3}
theorem aC.cj{α:Type}{s:Sem α}{K:α->x3->Prop}(h:aC P s w λv w'=>cF w w'->K v w'):aC P s w K:=by
 obtain⟨v,w',h1,a,e⟩:=h;exact⟨v,w',h1,a,e a⟩
structure Keys(P:W9)(k:r9)(G:x1->Prop):Prop where
 check:∀(w:x3)(em:Bool){v:x1},G v->(Instr.checkKey em 10000 k v).run P w= .ok () w
 find:∀(w:x3){x:x1},G x->∀es:List MapEntry,(∀e∈es,G e.key)->
  ((Instr.findKey k x es).run P w= .ok ν w/\∀e∈es,e.key≠x)\/∃j e,(Instr.findKey k x es).run P w= .ok (σ (j,e.val)) w/\es[j]?=σ e/\e.key=x
 stays:∀(w:x3){v:x1},G v->(Instr.keyThatStays v v).run P w= .ok v w
theorem Keys.law{k:r9}(K:WideMaps.KeyLaw P k):Keys P k λv=>∃l,keyOf P k v=σ l:=
 ⟨λw a _ ⟨_,h⟩=>K.check w a h,λw _ ⟨_,h⟩ e f=>K.find w h e f,λw _ ⟨_,h⟩=>K.stays w h⟩
theorem Keys.int{k:r9}{a:o4}(hk:P.underlying k=σ (.int a)):Keys P k λv=>∃n,v= .int a n:=by
 have key:∀n,MapKept.IsKey (.int a) (.int a n):=λn=>rfl;refine⟨λw p v ⟨n,h⟩=>?_,λw x ⟨n,h⟩ q r=>?_,λw v ⟨n,h⟩=>?_⟩
 .subst h;exact MapKept.run_checkKey hk (key n) p 9999
 .subst h;rcases MapKept.findNow_spec (key n) q 0 (λe he=>by obtain⟨m,h⟩:=r e he;rw[h];exact key m)with⟨h1,f⟩|⟨j,e,h1,f,s⟩
  .exact .inl ⟨MapKept.run_findKey hk h1,f⟩
  .exact .inr ⟨j,e,by have:=MapKept.run_findKey (P:=P) (w:=w) hk h1;simpa using this,f,s⟩
 .subst h;exact MapKept.run_keyThatStays (d:=.int a) (key n)
def gJ(e:MapEntry):x1×x1:=(e.key,e.val)
def c4(w:x3)(m:Nat)(d:List (x1×x1)):Prop:=∃a e,w.heap[m]?=σ (.map a e)/\MapKept.Stamped a e/\a.toList.map gJ=d
theorem c4.ext{m:Nat}{d:List (x1×x1)}(h:c4 w m d)(a:Ext w w'):c4 w' m d:=by
 obtain⟨e,c,h1,f⟩:=h;exact⟨e,c,a.aY m _ h1 rfl,f⟩
theorem c4.V{m:Nat}{d:List (x1×x1)}(h:c4 w m d)(a:ae S w w')(e:¬S m):c4 w' m d:=by
 obtain⟨f,c,h1,j⟩:=h;exact⟨f,c,a.aY m _ h1 rfl e,j⟩
theorem c4.lt{m:Nat}{d:List (x1×x1)}(h:c4 w m d):m<w.heap.size:=by
 obtain⟨a,c,h1,e⟩:=h;exact(n9.1 h1).1
theorem c4.nodup{m:Nat}{d:List (x1×x1)}(h:c4 w m d):(d.map (·.1)).Nodup:=by
 obtain⟨e,c,_,⟨_,_,a⟩,rfl⟩:=h;rw[Q0];exact a
theorem ku{α:Type}{l:List α}(h:l.Nodup){i:Nat}{x:α}(hi:l[i]?=σ x)(q:l[j]?=σ x):i=j:=by
 have a:=x4.1 hi;have e:=x4.1 q;have p:=V9.1 h;rcases Nat.lt_trichotomy i j with f|rfl|f
 .exact absurd (a.2.trans e.2.symm) (p i j a.1 e.1 f)
 .rfl
 .exact absurd (e.2.trans a.2.symm) (p j i e.1 a.1 f)
theorem mG{α β:Type}(f:α->β):∀(l:List α)(i:Nat),(l.map f).eraseIdx i=(l.eraseIdx i).map f
 |[],_=>Ξ
 |_::_,0=>rfl
 |x::l,i+1=>by simp[mG f l i]
theorem c4.uniq{m:Nat}{d:List (x1×x1)}(h:c4 w m d){i:Nat}{p q:x1×x1}(hi:d[i]?=σ p)(a:d[j]?=σ q)(he:p.1=q.1):i=j:=by
 have e:=h.nodup;have h1:(d.map (·.1))[i]?=σ p.1:=by rw[x8,hi];rfl
 have f:(d.map (·.1))[j]?=σ p.1:=by rw[x8,a,he];rfl
 exact ku e h1 f
theorem sA{m:Nat}{q:Array MapEntry}{c:Nat}(h:w.heap[m]?=σ (.map q c))(a:Array MapEntry)(e:Nat):
  ae (λr=>r=m) w {w with heap:=w.heap.setIfInBounds m (.map a e)}/\cF w {w with heap:=w.heap.setIfInBounds m (.map a e)}/\({w with heap:=w.heap.setIfInBounds m (.map a e)}:x3).heap[m]?=σ (.map a e):=by
 have I:=MapKept.heap_set (o':=.map a e) h;refine⟨⟨Ξ,λr o f j s=>?_⟩,⟨rfl,.ka,rfl,Ξ,λr o f j=>?_⟩,I.1⟩
 .show (w.heap.setIfInBounds m _)[r]?=σ o;rw[I.2 r s];exact f
 .show (w.heap.setIfInBounds m _)[r]?=σ o;by_cases p:r=m
  .subst p;rw[h]at f;cases f;cases j
  .rw[I.2 r p];exact f
theorem sB{K:x1->x3->Prop}(h:∀m w',m=w.heap.size->Ext w w'->c4 w' m []->K (.map (σ m)) w'):aC P (Instr.makeMap t ν) w K:=by
 refine .of (run_makeMap t w) (oA w _) (h _ _ rfl (oz w _) ⟨#[],0,?_,MapKept.stamped_empty 0,rfl⟩);exact heap_alloc_new w _
variable{k e:r9}{G:x1->Prop}
theorem qh{c:Bool}{m:Nat}{d:List (x1×x1)}{x:x1}(y:P.underlying t=σ (.map k e))(hk:Keys P k G)(hm:c4 w m d)(z:∀p∈d,G p.1)(q:G x)(a:d[j]?=σ (x,v)):
  aa P (Instr.lookup t (.map (σ m)) x c) w K=K (if c then .tuple #[v,.bool true]else v):=aa.of λw' A=>by
 obtain⟨f,B,r,C,rfl⟩:=hm.ext A;have E:∀e∈f.toList,G e.key:=λe he=>z (gJ e) (l9.2 ⟨e,he,rfl⟩);rcases hk.find w' q f.toList E with⟨_,h⟩|⟨i,s,h1,h,F⟩
 .rw[x8]at a;obtain⟨H,I,J⟩:=Y9.1 a;exact absurd (congrArg Prod.fst J) (h H (x5 I))
 .have L:s.val=v:=by
   have hi:(f.toList.map gJ)[i]?=σ (gJ s):=by rw[x8,h];rfl
   have M:c4 w' m (f.toList.map gJ):=⟨f,B,r,C,rfl⟩;have:=M.uniq hi a F;subst this;rw[hi]at a;exact congrArg Prod.snd (Z2 a)
  simp only[Instr.lookup,W6,run_underlying y,W8,MapKept.run_getObj_map r,V4,hk.check w' _ q,h1,L]
theorem sC{c:Bool}{m:Nat}{d:List (x1×x1)}{x:x1}(r:P.underlying t=σ (.map k e))(hk:Keys P k G)(a:∃s b,aO P e s b z)(hm:c4 w m d)(y:∀p∈d,G p.1)(f:G x)(A:∀p∈d,p.1≠x):
  aa P (Instr.lookup t (.map (σ m)) x c) w K=K (if c then .tuple #[z,.bool false]else z):=aa.of λw' B=>by
 obtain⟨h,I,C,J,rfl⟩:=hm.ext B;have E:∀e∈h.toList,G e.key:=λe he=>y (gJ e) (l9.2 ⟨e,he,rfl⟩);have F:(zeroValue e).run P w'= .ok z w':=by
  obtain⟨s,b,i,hi,_,_,a⟩:=a;simp[zeroValue,typeInfo,hi,a]
 rcases hk.find w' f h.toList E with⟨h1,j⟩|⟨i,q,h1,j,H⟩
 .simp only[Instr.lookup,W6,run_underlying r,W8,MapKept.run_getObj_map C,V4,hk.check w' _ f,h1,F]
 .exact absurd H (A (gJ q) (l9.2 ⟨q,x5 j,rfl⟩))
theorem Kk{a:Array MapEntry}{e:MapEntry}{f:MapEntry->MapEntry}(h:a[j]?=σ e):(a.modify j f).toList.map gJ=(a.toList.map gJ).set j (gJ (f e)):=by
 refine X2 λi=>?_;simp only[x8,S8,Array.getElem?_modify,X1,u9,Array.length_toList];by_cases p:j=i
 .subst p;have:=(n9.1 h);simp[this.1,this.2]
 .simp[p]
theorem qi{m:Nat}{d:List (x1×x1)}{x:x1}{K:Unit->x3->Prop}(C:P.underlying t=σ (.map k e))(hk:Keys P k G)(hm:c4 w m d)(J:∀p∈d,G p.1)(h:G x)(h1:∀j v0 w',d[j]?=σ (x,v0)->c4 w' m (d.set j (x,v))->ae (λr=>r=m) w w'->K () w')(L:∀w',(∀p∈d,p.1≠x)->c4 w' m (d++[(x,v)])->ae (λr=>r=m) w w'->K () w'):aC P (Instr.mapUpdate t (.map (σ m)) x v) w K:=by
 obtain⟨f,q,a,E,rfl⟩:=hm;have M:∀e∈f.toList,G e.key:=λe he=>J (gJ e) (l9.2 ⟨e,he,rfl⟩);rcases hk.find w h f.toList M with⟨s,F⟩|⟨i,H,s,hi,he⟩
 .obtain⟨y,z,A⟩:=sA a (f.push {key:=x,val:=v,born:=q}) (q+1);refine .of (v:=()) (w':=_) ?_ z (L _ (λp N=>?_) ⟨_,_,A,MapKept.stamped_push E F,by simp[gJ]⟩ y)
  .simp only[Instr.mapUpdate,W6,run_underlying C,W8,MapKept.run_getObj_map a,hk.check w _ h,s,MapKept.run_setObj_map _ a]
  .obtain⟨O,Q,rfl⟩:=l9.1 N;exact F O Q
 .have B:f[i]?=σ H:=by simpa using hi
  obtain⟨y,z,A⟩:=sA a (f.modify i λe=>{e with key:=x,val:=v}) q;refine .of (v:=()) (w':=_) ?_ z (h1 i H.val _ (by rw[x8,hi];simp[gJ,he]) ⟨_,_,A,MapKept.stamped_modify E _ _ (λ_ _=>rfl) (λR _ I=>by rw[B]at I;cases I;exact he.symm),Kk B⟩ y);simp only[Instr.mapUpdate,W6,run_underlying C,W8,MapKept.run_getObj_map a,hk.check w _ h,s,B,Z7,V8,he,hk.stays w h,MapKept.run_setObj_map _ a]
theorem Kl{E F:r9}{m:Nat}{d:List (x1×x1)}{x:x1}{K:x1->x3->Prop}(A:P.underlying t=σ (.map k e))(hk:Keys P k G)(hm:c4 w m d)(H:∀p∈d,G p.1)(h:G x)(h1:∀j v0 w',d[j]?=σ (x,v0)->c4 w' m (d.eraseIdx j)->ae (λr=>r=m) w w'->K (.tuple #[]) w')(I:∀w',(∀p∈d,p.1≠x)->c4 w' m d->ae (λr=>r=m) w w'->K (.tuple #[]) w'):aC P (Z5.delete_ #[t,E] F #[.map (σ m),x]) w K:=by
 obtain⟨f,B,a,C,rfl⟩:=hm;have J:∀e∈f.toList,G e.key:=λe he=>H (gJ e) (l9.2 ⟨e,he,rfl⟩);rcases hk.find w h f.toList J with⟨q,L⟩|⟨i,M,q,hi,he⟩
 .obtain⟨s,y,z⟩:=sA a f B;refine .of (v:=.tuple #[]) (w':=_) ?_ y (I _ (λp N=>?_) ⟨_,_,z,C,rfl⟩ s)
  .simp only[Z5.delete_,List.getElem?_toArray,List.getElem?_cons_zero,List.getElem?_cons_succ,W6,run_underlying A,W8,MapKept.run_getObj_map a,hk.check w _ h,q,MapKept.run_setObj_map _ a,V4]
  .obtain⟨O,Q,rfl⟩:=l9.1 N;exact L O Q
 .obtain⟨s,y,z⟩:=sA a (f.eraseIdxIfInBounds i) B;refine .of (v:=.tuple #[]) (w':=_) ?_ y (h1 i M.val _ (by rw[x8,hi];simp[gJ,he]) ⟨_,_,z,MapKept.stamped_erase C _,by rw[mG];simp⟩ s);simp only[Z5.delete_,List.getElem?_toArray,List.getElem?_cons_zero,List.getElem?_cons_succ,W6,run_underlying A,W8,MapKept.run_getObj_map a,hk.check w _ h,q,MapKept.run_setObj_map _ a,V4]
theorem Km{a:r9}{m:Nat}{d:List (x1×x1)}(f:P.underlying t=σ (.map k e))(hm:c4 w m d):aa P (V2 #[t] a #[.map (σ m)]) w K=K (Δ d.length):=aa.of λw' h=>by
 obtain⟨p,q,j,r,rfl⟩:=hm.ext h;simp[V2,run_underlying f,MapKept.run_getObj_map j,goInt]
def hF(w:x3)(j m:Nat)(d left:List (x1×x1))(q:Option (x1×x1)):Prop:=∃a f seen gZ,w.heap[m]?=σ (.map a f)/\MapKept.Stamped a f/\a.toList.map gJ=d/\
 w.heap[j]?=σ (.mapIter (σ m) f seen gZ)/\f<=gZ/\(leftOf a seen).toList.map gJ=left/\∀p,q=σ p->gZ=f/\∃h,a.toList.find? (λe=>e.born == seen.back?.getD 0)=σ h/\seen.back? =σ h.born/\gJ h=p
theorem hF.map{m:Nat}{d left:List (x1×x1)}{e:Option (x1×x1)}(h:hF w a m d left e):c4 w m d:=by
 obtain⟨f,c,_,_,h1,j,p,_⟩:=h;exact⟨f,c,h1,j,p⟩
theorem hF.aY{m:Nat}{d left:List (x1×x1)}{e:Option (x1×x1)}(h:hF w a m d left e)(f:ae S w w')(hm:¬S m)(hi:e0 w w'):hF w' a m d left e:=by
 obtain⟨j,c,s,gZ,h1,p,q,r,x⟩:=h;exact⟨j,c,s,gZ,f.aY m _ h1 rfl hm,p,q,hi a _ r rfl,x⟩
theorem hF.ext{m:Nat}{d left:List (x1×x1)}{e:Option (x1×x1)}(h:hF w a m d left e)(f:Ext w w')(hi:e0 w w'):hF w' a m d left e:=
 h.aY (f.V λ_=>False) (λh=>h) hi
theorem Kn(a:Array MapEntry):leftOf a #[]=a:=by
 unfold leftOf;exact Array.filter_eq_self.2 λx e=>Ξ
theorem A2{m:Nat}{d:List (x1×x1)}{K:x1->x3->Prop}(r:P.underlying t=σ (.map k e))(hm:c4 w m d)(h:∀a w',a=w.heap.size->Ext w w'->e0 w w'->hF w' a m d d ν->K (Γ a) w'):aC P (Instr.range t (.map (σ m))) w K:=by
 obtain⟨j,f,q,s,rfl⟩:=hm;refine .of (run_range_map w t k e m j f r q) (oA w _) (h _ _ rfl (oz w _) (oA w _).kb ⟨j,f,#[],f,(oz w _).aY m _ q rfl,s,rfl,heap_alloc_new w _,p8 _,by rw[Kn],λp x=>by cases x⟩)
theorem A3:∀(l:List MapEntry)(j:Nat)(a:MapEntry),(l.map (·.born)).Nodup->l[j]?=σ a->l.filter (λx=>!(x.born == a.born))=l.eraseIdx j
 |[],j,a,_,h=>by simp at h
 |x::l,0,a,f,h=>by
  simp at h;subst h;have e:=List.nodup_cons.1 (by simpa using f:(x.born::l.map (·.born)).Nodup);simp only[List.filter_cons,beq_self_eq_true,Y6,Bool.false_eq_true,if_false,List.eraseIdx_cons_zero];refine List.filter_eq_self.2 λy p=>?_;have:y.born≠x.born:=λhe=>e.1 (he▸l9.2 ⟨y,p,rfl⟩);simpa using this
 |x::l,j+1,a,f,h=>by
  simp at h;have e:=List.nodup_cons.1 (by simpa using f:(x.born::l.map (·.born)).Nodup);have q:x.born≠a.born:=λhe=>e.1 (he▸l9.2 ⟨a,x5 h,rfl⟩);have r:=A3 l j a e.2 h;simp only[List.filter_cons,List.eraseIdx_cons_succ,r];simp[q]
theorem A4{free:fy}{m:Nat}{d left:List (x1×x1)}{T:Option (x1×x1)}{K:x1->x3->Prop}(h:hF w a m d left T)(A:free.1=false->free.2<=a)(U:left=[]->K (.tuple #[.bool false]) w)(h1:∀j p w',left[j]?=σ p->Ext w w'->ct a w w'->hF w' a m d (left.eraseIdx j) (σ p)->K (.tuple #[.bool true,p.1,p.2]) w'):rg P free (Instr.next (Γ a) false 0) w K:=by
 obtain⟨q,s,seen,gZ,B,E,rfl,hi,V,rfl,_⟩:=h;have M:∀x∈q.toList,x.born<s:=E.1;have N:=E.2.1;have O:∀x∈(leftOf q seen).toList,x.born<s:=λx z=>M x (mem_left z).1;have W:∀(J:x3)(o':Obj),J.heap=w.heap->(setObj a o').run P J= .ok () {J with heap:=J.heap.setIfInBounds a o'}:=λJ o' he=>by
  simp only[setObj,Sem.run];rw[he,hi]
 unfold rg;simp only[Instr.next,getObj,W6,Sem.run,hi,B,W8,next_test_false seen q s gZ M V,Bool.false_eq_true,if_false];have X:Array.filter (λe=>!seen.contains e.born) q=leftOf q seen:=rfl;rw[X];have Y:((leftOf q seen).toList.map (·.born)).Nodup:=by
  unfold leftOf;rw[Array.toList_filter];exact(List.Sublist.map _ List.filter_sublist).nodup N
 have Z:∀C:MapEntry,leftOf q (seen.push C.born)=(leftOf q seen).filter λx=>!(x.born == C.born):=λC=>by
  unfold leftOf;rw[Array.filter_filter];congr 1;funext x;rw[contains_push];cases seen.contains x.born<;>cases x.born == C.born<;>rfl
 generalize aa:leftOf q seen=L at*;have ab:L.filter (λx=>decide (x.born<s))=L:=Array.filter_eq_self.2 (λx z=>by simpa using O x (by simpa using z));have ac:L.filter (λx=>decide (x.born≥s))= #[]:=by
  rw[Array.filter_eq_empty_iff];intro x z;have:=O x (by simpa using z);simp;omega
 simp only[ab,ac,Array.append_empty];by_cases Q:L.size=0
 .have ad:L= #[]:=Array.eq_empty_of_size_eq_zero Q;subst ad;refine⟨.tuple #[.bool false],w,?_,λ_=>ct.refl _ _,U rfl⟩;simp[choose,Sem.run,Question.forced]
 .have ae:L.isEmpty=false:=by simp[Array.isEmpty,Q]
  simp only[ae,Bool.false_eq_true,if_false,Array.empty_append,Array.size_map];have af:∃(j:Nat)(n:Nat),j<L.size/\w.drawn<=n/\(choose (Question.mapNext L.size)).run P w= .ok j {w with drawn:=n}:=by
   by_cases A:L.size<=1
   .exact⟨0,w.drawn,Ω,p8 _,by simp[choose,Sem.run,Question.forced,A]⟩
   .exact⟨_,w.drawn+1,Nat.mod_lt _ Ω,Nat.le_succ _,by
     simp only[choose,Sem.run,Question.forced,decide_eq_true_eq,A,if_false,Question.cut];rfl⟩
  obtain⟨j,n,F,R,ag⟩:=af;have S:L.toList[j]?=σ L[j]:=by simp[F]
  have ah:L[j]∈q.toList:=(mem_left (seen:=seen) (by rw[aa];exact Array.mem_toList_iff.2 (Array.getElem_mem F))).1;refine⟨.tuple #[.bool true,L[j].key,L[j].val],{w with drawn:=n,heap:=w.heap.setIfInBounds a (.mapIter (σ m) s (seen.push L[j].born) s)},?_,?_,?_⟩
  .have I:=W {w with drawn:=n} (.mapIter (σ m) s (seen.push L[j].born) s) rfl;simp only[ag,Array.getElem?_map,Array.getElem?_eq_getElem F,Z7,W6,I,W8,V4]
  .intro ai;have:=A ai;refine⟨rfl,⟨rfl,R⟩,rfl,Ξ,λr o f G=>?_,λr o aj f H=>?_⟩
   .show (w.heap.setIfInBounds a _)[r]?=σ o;by_cases y:r=a
    .subst y;rw[hi]at f;cases f;cases G
    .rw[(MapKept.heap_set hi).2 r y];exact f
   .show (w.heap.setIfInBounds a _)[r]?=σ o;rw[(MapKept.heap_set hi).2 r Ω];exact f
  .refine h1 j (gJ L[j]) _ (by rw[x8,S];rfl) ⟨Ξ,λr o f H=>?_⟩ ⟨rfl,⟨rfl,R⟩,rfl,Ξ,λr o f G=>?_,λr o aj f H=>?_⟩ ⟨q,s,seen.push L[j].born,s,?_,E,rfl,?_,p8 _,?_,λp ak=>⟨rfl,L[j],?_,Ξ,Z2 ak⟩⟩
   .show (w.heap.setIfInBounds a _)[r]?=σ o;by_cases y:r=a
    .subst y;rw[hi]at f;cases f;cases H
    .rw[(MapKept.heap_set hi).2 r y];exact f
   .show (w.heap.setIfInBounds a _)[r]?=σ o;by_cases y:r=a
    .subst y;rw[hi]at f;cases f;cases G
    .rw[(MapKept.heap_set hi).2 r y];exact f
   .show (w.heap.setIfInBounds a _)[r]?=σ o;rw[(MapKept.heap_set hi).2 r Ω];exact f
   .show (w.heap.setIfInBounds a _)[m]?=_;rw[(MapKept.heap_set hi).2 m (λhe=>by subst he;rw[hi]at B;cases B)];exact B
   .exact (MapKept.heap_set hi).1
   .rw[Z,Array.toList_filter,A3 _ _ _ Y S,mG]
   .simp only[Array.back?_push,V8];exact find_born _ _ N ah
theorem A5{m:Nat}{d left:List (x1×x1)}{p:x1×x1}{K:x1->x3->Prop}(h:hF w a m d left (σ p))(j:K (.tuple #[p.1,p.2]) w):aC P (Instr.entry (Γ a)) w K:=by
 obtain⟨s,x,seen,gZ,q,y,rfl,hi,z,rfl,r⟩:=h;obtain⟨rfl,e,h1,f,rfl⟩:=r p rfl;refine .of (v:=.tuple #[e.key,e.val]) (w':=w) ?_ (cF.refl _) j;rw[f]at h1;simp only[Instr.entry,getObj,W6,Sem.run,hi,q,W8,f,bne_self_eq_false,Bool.false_eq_true,if_false,<-Array.find?_toList];simp only[V8]at h1;rw[h1];rfl
end
end Go.Vc
namespace Go.Proofs.YtikkpokkcdocoaaGreatDoor
open Go Go.Vc Go.RowKit Go.Proofs Go.Proofs.Tryz
set_option maxRecDepth 100000
def ee(ks:Λ):x1:=.agg (ints .i8 ks).toArray
def k2(ks:Λ):Prop:=ks.length=6/\∀x∈ks,0<=x/\x<32
theorem Ko{a b:Λ}(h:ee a=ee b):a=b:=by
 unfold ee at h;have h:ints .i8 a=ints .i8 b:=congrArg Array.toList (x1.agg.inj h);have e:∀l:Λ,(ints .i8 l).map valOf=l:=λl=>by
  unfold ints;rw[Q0];exact List.map_id l
 rw[<-e a,<-e b,h]
theorem A6(ks:Λ):(ee ks).cells.toList=ints .i8 ks:=by simp[ee,x1.cells]
theorem Kp:WideMaps.ArrKey x7 cz fP 6:=⟨cz.u,Ψ,Ψ,Ψ⟩
theorem keys:Keys x7 cz λv=>∃l,keyOf x7 cz v=σ l:=Keys.law Kp.law
theorem vA(h:k2 ks):∃l,keyOf x7 cz (ee ks)=σ l:=by
 obtain⟨s,j⟩:=h
 match ks,s with
 |[a,b,c,d,e,f],_=>
  have w:=j a Ξ;have y:=j b Ξ;have z:=j c Ξ;have rd:=j d Ξ;have A:=j e Ξ;have ka:=j f Ξ;have wf:∀x:Int,0<=x/\x<32->(Lit.int .i8 x).wf=true:=λx p=>by
   simp only[Lit.wf,U4,decide_eq_true_eq];have H:o4.i8.min= -128:=Φ
   have I:o4.i8.max=127:=Φ
   omega
  have q:decide (0<x7.types.size)=true:=Ψ
  have q:=of_decide_eq_true q;obtain⟨n,B⟩:∃n,x7.types.size=n+1:=⟨x7.types.size-1,Ω⟩;have one:∀x:Int,0<=x/\x<32->x7.keyLits (n+1) fP [.int .i8 x]=σ [.int .i8 x]:=λx p=>by
   unfold W9.keyLits;rw[fP.u];simp[wf x p]
  unfold keyOf;rw[cz.u];simp only;have C:x7.keyType cz=true:=Ψ
  have E:x7.cellsOf fP=1:=Ψ
  have r:x7.cellsOf cz=6:=Ψ
  have F:(ee [a,b,c,d,e,f]).formed x7 cz=true:=by
   unfold ee x1.formed;rw[cz.u,r];rfl
  rw[C,F,A6,B];simp only[Bool.and_self,if_true];unfold W9.keyLits;rw[cz.u];simp only[r,E,ints];have G:V0 6=[0,1,2,3,4,5]:=Φ
  simp[G,one a w,one b y,one c z,one d rd,one e A,one f ka]
def pad(t:Λ):Λ:=t++p9 (6-t.length) 0
theorem Kq{t:Λ}(f:t.length<=6)(a:∀x∈t,0<=x/\x<32):k2 (pad t):=
 ⟨by simp[pad];omega,λx e=>by
  rcases o9.1 e with h|h
  .exact a x h
  .have:=(List.mem_replicate.1 h).2;omega⟩
theorem Kr{a b:Λ}(e:a.length=b.length)(h:pad a=pad b):a=b:=by
 unfold pad at h;exact(List.append_inj h e).1
theorem A7{t:Λ}:(pad t).take t.length=t:=by simp[pad]
theorem nQ{b o:Nat}(a:ks.length=6)(h:w.rangeAt b o (ints .i8 ks)):aa x7 (u4 cz (.pointer (σ ⟨b,o,ν⟩))) w K=K (ee ks):=
 zo cz.u rfl cz.i (by simp[a]) h
theorem Ks{b o:Nat}(a:ks.length=6)(h:w.rangeAt b o (ints .i8 ks)):aa x7 (do loadVar cz (<-asAddr (.pointer (σ ⟨b,o,ν⟩)))) w K=K (ee ks):=aa.of λw' e=>by
 have:=run_loadVar_mid (P:=x7) w' b o cz (ints .i8 ks) (.array 6 fP) (ns e h) cz.u rfl (by rw[cz.i.size];simp[a]);simp only[asAddr,W6,V4,Result.andThen_ok,this];rfl
theorem qj{g:Nat}{K:Unit->x3->Prop}(a:ks.length=6)(e:cs.length=6)(f:ad w g cz cs)(h:∀w',ae (λr=>r=g) w w'->w'.heap.size=w.heap.size->ad w' g cz (ints .i8 ks)->K () w'):aC x7 (o6 cz (Γ g) (ee ks)) w K:=
 b6 (vs:=ints .i8 ks) cz.i (by simp[a]) e (λv j=>by obtain⟨x,_,rfl⟩:=l9.1 j;rfl) f h
def sD:List x1:=[.int .i8 0,.int .i8 0,.int .i8 0,.int .i8 0,.int .i8 0,.int .i8 0]
theorem Kt{x:Int}:ai x7 rN [Δ x] w λv w'=>v= .bool (decide (¬ib x))/\Ext w w':=by
 refine az func213 ?_;simp only[ck,aQ,bP,aj];refine⟨λh=>⟨?_,Ext.refl _⟩,λh=>⟨?_,Ext.refl _⟩⟩
 .rw[decide_eq_true];intro a;have:=a.1;omega
 .congr 1;have:(32<x)=(¬ib x):=propext ⟨λe a=>by have:=a.2;omega,λe=>by
   by_cases f:32<x
   .exact f
   .exact absurd ⟨Ω,Ω⟩ e⟩
  simp only[this]
theorem Ku(h:aH .i64 w sv l):
  ai x7 uM [sv,.func (.func rN) #[] #[]] w λv w'=>Ext w w'/\∃n:Int,v=Δ n/\((0<=n)=¬∀x∈l,ib x):=by
 have z:=h.le;refine az func138 ?_;rw[aW ap.u h];refine⟨λ_ t J=>Ext w J/\∃i:Nat,t=Δ i/\i<=l.length/\∀x∈l.take i,ib x,λ_ t _=>l.length-(bS t).toNat,⟨Ext.refl _,0,rfl,X4 _,Ξ⟩,?_⟩;rintro _ _ J ⟨e,i,rfl,hi,f⟩;simp only[aQ,aj];refine⟨λA=>?_,λB=>⟨e,-1,rfl,?_⟩⟩
 .obtain⟨x,j⟩:=aF (l:=l) (i:=i) Ω;rw[be ap.u ah.i Ψ (h.ext e) j];show ai x7 rN [Δ x] J _;refine Kt.mono ?_;rintro _ U _ ⟨rfl,p⟩;simp only[aj,aP];refine⟨λq=>⟨e.trans p,i,rfl,?_⟩,λr=>?_⟩
  .exact propext ⟨λ_ s=>q (s x (x5 j)),λ_=>Ω⟩
  .rw[wrap_i64 Ω Ω];refine⟨⟨e.trans p,i+1,rfl,Ω,λy a=>?_⟩,?_⟩
   .rw[u7,j]at a;rcases o9.1 a with a|a
    .exact f y a
    .simp at a;subst a;exact X3.1 r
   .simp only[bS];omega
 .have:i=l.length:=Ω
  rw[this,o5]at f;exact propext ⟨λh=>Ω,λh=>absurd f h⟩
theorem A8(h:aH .i64 w sv l):
  ai x7 uP [sv,.func (.func rN) #[] #[]] w λv w'=>v= .bool (decide (¬∀x∈l,ib x))/\Ext w w':=by
 refine az func214 ?_;refine(Ku h).mono ?_;rintro _ J _ ⟨a,n,rfl,e⟩;simp only[cI];exact⟨by congr 1;simp only[e],a⟩
abbrev Told:=List (Λ×Int)
def jR(p:Λ×Int):x1×x1:=(ee (pad p.1),Δ p.2)
def eL(w:x3)(g m:Nat)(ag:Λ)(k o:Int)(D:Told):Prop:=
 (∃sv gs,ad w g fB [sv,Δ k,Δ o,.map (σ m)]/\aq .i64 ah w gs sv ag)/\c4 w m (D.map jR)/\b1 ag/\cp o k/\∀p∈D,di ag p.1/\cp p.2 k/\p.2≠o
theorem eL.ext{g m:Nat}{o:Int}{D:Told}(h:eL w g m ag k o D)(a:Ext w w'):eL w' g m ag k o D:=by
 obtain⟨⟨sv,gs,h1,e⟩,f,j⟩:=h;exact⟨⟨sv,gs,h1.ext a,e.ext a⟩,f.ext a,j⟩
theorem vB{t:Λ}(I:b1 ag)(h:di ag t):t.length=ag.length/\∀x∈t,0<=x/\x<32:=by
 obtain⟨h1,f⟩:=nM.1 h;refine⟨h1.symm,λx j=>?_⟩;obtain⟨i,hi,rfl⟩:=List.getElem_of_mem j;obtain⟨a,e⟩:=aF (l:=ag) (i:=i) Ω;have p:=f i a _ e (x6 hi);have q:=(I.2 a (x5 e)).2;omega
theorem qk{t:Λ}(I:b1 ag)(h:di ag t):k2 (pad t):=by
 obtain⟨h1,a⟩:=vB I h;exact Kq (by rw[h1];exact I.1) a
theorem eL.o3{g m:Nat}{o:Int}{D:Told}(h:eL w g m ag k o D):∀p∈D.map jR,∃l,keyOf x7 cz p.1=σ l:=λp a=>by
 obtain⟨q,e,rfl⟩:=l9.1 a;exact vA (qk h.2.2.1 (h.2.2.2.2 q e).1)
theorem Ba{s t:Λ}(I:di ag s)(a:di ag t)(h:ee (pad s)=ee (pad t)):s=t:=
 Kr ((sg I).symm.trans (sg a)) (Ko h)
theorem eL.nodup{g m:Nat}{o:Int}{D:Told}(h:eL w g m ag k o D):(D.map (·.1)).Nodup:=by
 have e:=h.2.1.nodup;rw[Q0]at e;refine List.Pairwise.of_map (S:=λa b=>a≠b) (λt=>ee (pad t)) (λa b h he=>h (by rw[he])) ?_;rw[Q0];exact e
def Kv(w:x3)(l:Λ)(k o:Int)(v:x1)(w':x3):Prop:=
 Ext w w'/\(¬b1 l->v= .tuple #[.pointer ν,Δ 1])/\(b1 l->¬cp o k->v= .tuple #[.pointer ν,Δ 3])/\
  (b1 l->cp o k->∃g m,v= .tuple #[Γ g,Δ 0]/\w.heap.size<=g/\w.heap.size<=m/\eL w' g m l k o [])
theorem Bb{o:Int}(h:aH .i64 w sv l):ai x7 oE [sv,Δ k,Δ o] w (Kv w l k o):=by
 refine az func171 ?_;refine aT (λv J=>Ext w J/\∃c,v= .bool c/\(c=true↔¬b1 l)) ?_ ?_
 .rintro _ J ⟨e,c,rfl,f⟩;rw[b7];refine⟨λs=>⟨e,λ_=>rfl,λh=>absurd h (f.1 s),λh=>absurd h (f.1 s)⟩,λz=>?_⟩;have I:b1 l:=Classical.byContradiction λh=>by have:=f.2 h;rw[z]at this;cases this
  have G:=I.1;refine jN.mono ?_;rintro _ U _ ⟨rfl,a⟩;by_cases hi:cp o k
  rotate_left
  .simp only[hi,decide_false,bC,W5,bL];exact⟨e.trans a,λh=>absurd I h,λ_ _=>rfl,λ_ h=>absurd h hi⟩
  simp only[hi,decide_true,bC,Y6,aU];refine(kX ((h.ext e).ext a) Ω).mono ?_;rintro aM H _ ⟨x,A,K,hm⟩;have L:=hm.ls.cells;refine sB λm M N j B=>?_;rw[dh (cs:=#[aM,Δ k,Δ o,.map (σ m)]) (by obtain⟨_,_,_,_,_,rfl,_⟩:=hm.ls;kernel_rfl)];refine bj λg O P q C=>?_;have s1:=e.size;have Q:=a.size;have R:=x.size;have S:=j.size;exact⟨((((e.trans a).trans x).trans j).trans q),λh=>absurd I h,λ_ h=>absurd hi h,λ_ _=>⟨g,m,rfl,Ω,Ω,⟨aM,A,C,(hm.ext j).ext q⟩,B.ext q,I,hi,λp E=>by cases E⟩⟩
 .intro ax y;rw[aW ap.u h];simp only[bP,aj];refine⟨λV=>y _ _ ⟨Ext.refl _,true,rfl,λ_ I=>by have:=I.1;omega,λ_=>rfl⟩,λW=>?_⟩;refine(A8 h).mono ?_;rintro _ U _ ⟨rfl,a⟩;refine y _ _ ⟨a,_,rfl,?_⟩;rw[decide_eq_true_eq];exact⟨λr I=>r I.2,λr I=>r ⟨Ω,I⟩⟩
def iN(t:Λ)(i:Nat):Λ:=t.take i++p9 (6-i) 0
theorem Kw{t:Λ}{i:Nat}(hi:i<=t.length)(a:t.length<=6):(iN t i).length=6:=by simp[iN];omega
theorem Kx{t:Λ}{i:Nat}{x:Int}(a:t[i]?=σ x)(f:t.length<=6):(iN t i).set i x=iN t (i+1):=by
 have hi:=(x4.1 a).1;unfold iN;have e:(t.take i).length=i:=by rw[o7];omega
 rw[S0 _ _ Ω,e,U2,u7,a];have:6-i=(6-(i+1))+1:=Ω
 rw[this,List.replicate_succ];simp
theorem Ky(t:Λ):iN t t.length=pad t:=by simp[iN,pad]
def Bc(w:x3)(ag t:Λ)(v:x1)(w':x3):Prop:=Ext w w'/\∃ks e,v= .tuple #[ee ks,Δ e]/\ks.length=6/\(di ag t->ks=pad t/\e=0)/\(¬di ag t->e=3)
theorem Kz{g m:Nat}{t:Λ}{o:Int}{D:Told}{aM:x1}(h:eL w g m ag k o D)(H:aH .i64 w aM t):ai x7 HW [Γ g,aM] w (Bc w ag t):=by
 obtain⟨⟨sv,gs,K,hm⟩,_,I,_⟩:=h;have aJ:=I.1;refine az func215 ?_;refine bz cz.i λB J aK X C=>?_;refine bz cz.i λak U aL L M=>?_;have y:=X.trans L;have s1:=X.size;have aN:=L.size;have aO:=C.lt;have aR:=M.lt;have aS:=K.lt;have C:=C.ext L;have al:=K.ext y;rw[cP eS.u];simp only[j9,aU];have N:∀{f:x3}{ks:Λ}{e:Int},Ext w f->ad f ak cz (ints .i8 ks)->ad f B cz sD->ks.length=6->(di ag t->ks=pad t/\e=0)->(¬di ag t->e=3)->
   aa x7 (u4 cz (Γ ak)) f λam=>aC x7 (o6 cz (Γ B) am) f λ(_:Unit)O=>aa x7 (do loadVar cz (<-asAddr (Γ B))) O λan=>Bc w ag t (.tuple #[an,Δ e]) O:=by
  intro f ks e q r z G E P;rw[nQ G r.range];refine qj G rfl z λO aq aV au=>?_;rw[Ks G au.range];exact⟨q.put aq Ω,ks,e,rfl,G,E,P⟩
 rw[aW ap.u (H.ext y),aG fB.p 0 al rfl,aW ap.u (hm.ls.ext y)];simp only[bI,aj];have Y:ints .i8 (iN t 0)=sD:=by simp[iN,sD,ints]
 refine⟨λav=>N y (ks:=iN t 0) (e:=3) (by rw[Y];exact M) C (by simp[iN]) (λE=>absurd (by rw[sg E]) av) (λ_=>rfl),λZ=>?_⟩;have Z:t.length=ag.length:=Ω
 rw[aW ap.u (H.ext y)];refine cd.range t.length (λi _ f=>Ext w f/\ad f ak cz (ints .i8 (iN t i))/\ad f B cz sD/\∀(j:Nat)(a x:Int),j<i->ag[j]?=σ a->t[j]?=σ x->0<=x/\x<a) Ω
  ⟨y,by rw[Y];exact M,C,λj a x aw=>Ω⟩ ?_ ?_
 .rintro i _ f ay hi ⟨q,r,z,Q⟩ aA;simp only[aQ,aj];refine⟨λ_=>?_,λh=>Ω⟩;obtain⟨x,s⟩:=aF (l:=t) hi;obtain⟨a,A⟩:=aF (l:=ag) (i:=i) Ω;have aX:=I.2 a (x5 A);rw[be ap.u ah.i Ψ (H.ext q) s];have ab:=Kw (t:=t) (i:=i) Ω Ω;refine aT (λv aB=>f=aB/\v= .bool (decide (¬(0<=x/\x<a)))) ?_ ?_
  .rintro _ _ ⟨rfl,rfl⟩;simp only[aj];refine⟨λaD=>N q r z ab (λE=>absurd ((nM.1 E).2 i a x A s) aD) (λ_=>rfl),λR=>?_⟩;have R:=X3.1 R;rw[fl ah.u fP.u,IL Ω Ω,uX cz.u fP.i Ω];refine bk fP.i rfl rfl r (by simp[ab];omega) λaY ac aZ ae=>?_;simp only[aP];refine aA _ _ ⟨q.put ac Ω,?_,z.V ac (by show¬(B=ak);omega),λj a' aE aw S W=>?_⟩
   .have e:(ints .i8 (iN t i)).set (0+i*1) (.int .i8 x)=ints .i8 (iN t (i+1)):=by
     rw[<-Kx s Ω];simp[ints,U6]
    rw[e]at ae;exact ae
   .by_cases aI:j=i
    .subst aI;rw[A]at S;rw[s]at W;cases S;cases W;exact R
    .exact Q j a' aE Ω S W
  .intro ax af;simp only[aQ,aj];refine⟨λa1=>af _ _ ⟨rfl,by rw[decide_eq_true];omega⟩,λa2=>?_⟩;rw[aG fB.p 0 (K.ext q) rfl,be ap.u ah.i Ψ (hm.ls.ext q) A,cI];refine af _ _ ⟨rfl,?_⟩;congr 1;exact decide_eq_decide.2 ⟨λh ao=>Ω,λh=>Ω⟩
 .rintro _ f ay ⟨q,r,z,Q⟩;simp only[aQ,aj];refine⟨λh=>Ω,λ_=>?_⟩;rw[Ky]at r;exact N q r z (by simp[pad];omega) (λ_=>⟨rfl,rfl⟩) (λP=>absurd (nM.2 ⟨Z.symm,λj a x A s=>Q j a x (x4.1 s).1 A s⟩) P)
def ij(D:Told)(o:Int)(t:Λ):Int:=match D.find? (λp=>decide (p.1=t))with
 |some p=>p.2
 |none=>o
theorem Bd{D:Told}(e:(D.map (·.1)).Nodup){p q:Λ×Int}(f:p∈D)(r:q∈D)(h:p.1=q.1):p=q:=by
 obtain⟨i,hi⟩:=X5.1 f;obtain⟨j,a⟩:=X5.1 r;have h1:(D.map (·.1))[i]?=σ p.1:=by rw[x8,hi];rfl
 have s:(D.map (·.1))[j]?=σ p.1:=by rw[x8,a,h];rfl
 have:=ku e h1 s;subst this;rw[hi]at a;exact Z2 a
theorem ql{D:Told}{o:Int}{t:Λ}(e:(D.map (·.1)).Nodup)(h:(t,c)∈D):ij D o t=c:=by
 unfold ij;cases a:D.find? (λp=>decide (p.1=t))with
 |none=>
  have:=List.find?_eq_none.1 a _ h;simp at this
 |some p=>
  have h1:=List.find?_some a;have h1:p.1=t:=by simpa using h1
  have:=Bd e (List.mem_of_find?_eq_some a) h h1;rw[this]
theorem qm{D:Told}{o:Int}{t:Λ}(h:∀p∈D,p.1≠t):ij D o t=o:=by
 unfold ij;cases a:D.find? (λp=>decide (p.1=t))with
 |none=>rfl
 |some p=>
  have h1:=List.find?_some a;have h1:p.1=t:=by simpa using h1
  exact absurd h1 (h p (List.mem_of_find?_eq_some a))
def k3(D:Told)(t:Λ)(c o:Int)(D':Told):Prop:=(∀p,p∈D'↔(c≠o/\p=(t,c))\/(p∈D/\p.1≠t))/\D'.length<=D.length+1
theorem k3.cost{D D':Told}{t:Λ}{o:Int}(h:k3 D t c o D')(r:(D.map (·.1)).Nodup)(f:(D'.map (·.1)).Nodup)(s:Λ):ij D' o s=if s=t then c else ij D o s:=by
 by_cases I:s=t
 .subst I;rw[if_pos rfl];by_cases j:c=o
  .subst j;exact qm λp a he=>by
    rcases(h.1 p).1 a with e|e
    .exact e.1 rfl
    .exact e.2 he
  .exact ql f ((h.1 _).2 (.inl ⟨j,rfl⟩))
 .rw[if_neg I];by_cases he:∃p∈D,p.1=s
  .obtain⟨p,a,rfl⟩:=he;rw[ql (c:=p.2) r a];exact ql f ((h.1 _).2 (.inr ⟨a,I⟩))
  .have q:∀p∈D,p.1≠s:=λp a h=>he ⟨p,a,h⟩;rw[qm q];exact qm λp a e=>by
    rcases(h.1 p).1 a with⟨_,rfl⟩|⟨w,_⟩
    .exact I e.symm
    .exact q p w e
theorem KA{D:Told}{t:Λ}{o v0:Int}(q:(D.map (·.1)).Nodup)(f:D[j]?=σ (t,v0))(r:c≠o):k3 D t c o (D.set j (t,c)):=by
 have h:=(x4.1 f).1;refine⟨λp=>⟨λa=>?_,λa=>?_⟩,Ξ⟩
 .obtain⟨i,hi⟩:=X5.1 a;by_cases e:j=i
  .subst e;rw[Z0 h]at hi;exact .inl ⟨r,(Z2 hi).symm⟩
  .rw[Y8 e]at hi;refine .inr ⟨x5 hi,λhe=>e ?_⟩;exact ku q (x:=t) (by rw[x8,f];rfl) (by rw[x8,hi,Z7,he])
 .rcases a with⟨_,rfl⟩|⟨a,s⟩
  .exact x5 (Z0 h)
  .obtain⟨i,hi⟩:=X5.1 a;have e:j≠i:=λhe=>by subst he;rw[f]at hi;cases hi;exact s rfl
   exact x5 (by rw[Y8 e];exact hi)
theorem Be{D:Told}{t:Λ}{o:Int}(a:∀p∈D,p.1≠t)(e:c≠o):k3 D t c o (D++[(t,c)]):=by
 refine⟨λp=>?_,Ξ⟩;rw[o9,l7];exact⟨λh=>h.elim (λh=>.inr ⟨h,a p h⟩) (λh=>.inl ⟨e,h⟩),λh=>h.elim (λh=>.inr h.2) (λh=>.inl h.1)⟩
theorem KB{D:Told}{t:Λ}{o v0:Int}(f:(D.map (·.1)).Nodup)(e:D[j]?=σ (t,v0)):k3 D t o o (D.eraseIdx j):=by
 refine⟨λp=>⟨λa=>?_,λa=>?_⟩,by have:=List.length_eraseIdx_le D j;omega⟩
 .refine .inr ?_;obtain⟨i,q,hi⟩:=List.mem_eraseIdx_iff_getElem?.1 a;refine⟨x5 hi,λhe=>q ?_⟩;exact ku f (x:=t) (by rw[x8,hi,Z7,he]) (by rw[x8,e];rfl)
 .rcases a with⟨h,_⟩|⟨a,r⟩
  .exact absurd rfl h
  .obtain⟨i,hi⟩:=X5.1 a;exact List.mem_eraseIdx_iff_getElem?.2 ⟨i,λhe=>by subst he;rw[e]at hi;cases hi;exact r rfl,hi⟩
theorem KC{D:Told}{t:Λ}{o:Int}(a:∀p∈D,p.1≠t):k3 D t o o D:=
 ⟨λp=>⟨λh=>.inr ⟨h,a p h⟩,λh=>h.elim (λh=>absurd rfl h.1) (λh=>h.1)⟩,Ω⟩
theorem Bf{g m:Nat}{t:Λ}{o:Int}{D:Told}(h:eL w g m ag k o D)(f:di ag t)(a:(D.map jR)[j]?=σ (ee (pad t),v)):∃c,D[j]?=σ (t,c)/\v=Δ c:=by
 rw[x8]at a;obtain⟨p,e,he⟩:=Y9.1 a;have h1:=Ba (h.2.2.2.2 p (x5 e)).1 f (congrArg Prod.fst he);exact⟨p.2,by rw[e,<-h1],(congrArg Prod.snd he).symm⟩
theorem Bg{g m:Nat}{t:Λ}{o:Int}{D:Told}(h:eL w g m ag k o D)(a:∀p∈D.map jR,p.1≠ee (pad t)):∀p∈D,p.1≠t:=λp e he=>a (jR p) (l9.2 ⟨p,e,rfl⟩) (by rw[jR,he])
def KD(w:x3)(g m:Nat)(ag t:Λ)(k o c:Int)(D:Told)(v:x1)(w':x3):Prop:=
 (¬(di ag t/\cp c k)->v=Δ 3/\Ext w w')/\(di ag t/\cp c k->v=Δ 0/\ae (λr=>r=m) w w'/\∃D',k3 D t c o D'/\eL w' g m ag k o D')
theorem Bh{g m:Nat}{t:Λ}{o:Int}{D:Told}{aM:x1}(h:eL w g m ag k o D)(af:aH .i64 w aM t):ai x7 Hu [Γ g,aM,Δ c] w (KD w g m ag t k o c D):=by
 refine az func172 ?_;refine(Kz h af).mono ?_;rintro _ J _ ⟨Y,ks,e,rfl,N,ah,al⟩;rw[br,bt];refine bz cz.i λak U aF Z aa=>?_;refine qj N rfl aa λO am aI ab=>?_;have s1:=Y.size;have aJ:=Z.size;have aK:=aa.lt;have H:Ext w O:=(Y.trans Z).put am Ω;refine aT (λv P=>v=Δ 0/\(di ag t/\cp c k)/\ae (λr=>r=m) w P/\∃D',k3 D t c o D'/\eL P g m ag k o D') ?_ ?_
 .rintro _ P ⟨_,h1,E⟩;exact⟨λh=>absurd h1 h,λ_=>⟨rfl,E⟩⟩
 intro ax an;simp only[bI,aj];by_cases A:di ag t
 rotate_left
 .have he:=al A;subst he;exact⟨λ_=>⟨λ_=>⟨rfl,H⟩,λh=>absurd h.1 A⟩,λh=>by simp at h⟩
 obtain⟨rfl,rfl⟩:=ah A;refine⟨λh=>absurd rfl h,λ_=>?_⟩;have x:=h.ext H;obtain⟨⟨sv,gs,y,hm⟩,K,I,ap,aq⟩:=id x;rw[aG fB.p 1 y rfl];refine jN.mono ?_;rintro _ au _ ⟨rfl,z⟩;have av:=H.trans z;by_cases hi:cp c k
 rotate_left
 .simp only[hi,decide_false,bC,W5,bL];exact⟨λ_=>⟨rfl,av⟩,λh=>absurd h.2 hi⟩
 simp only[hi,decide_true,bC,Y6,aU];rw[aG fB.p 2 (y.ext z) rfl];simp only[bd,aj,ev];have ac:=vA (qk I A);have aw:∀{D':Told},k3 D t c o D'->∀p∈D',di ag p.1/\cp p.2 k/\p.2≠o:=λhu p ay=>by
  rcases(hu.1 p).1 ay with⟨C,rfl⟩|⟨h1,_⟩
  .exact⟨A,hi,C⟩
  .exact aq p h1
 have L:∀{G B:x3}{D':Told},Ext au G->ae (λr=>r=m) G B->c4 B m (D'.map jR)->k3 D t c o D'->ax (Δ 0) B:=by
  intro G B D' f q aA hu;have aB:g≠m:=λhe=>by
   obtain⟨aC,aD,ao,_⟩:=K;have y:O.heap[g]?=_:=y;rw[he,ao]at y;cases y
  have aE:∀r,leads sv r->r≠m:=λr ad he=>by
   subst he;obtain⟨aC,aD,ao,_⟩:=K;obtain⟨_,⟨rfl,_⟩|⟨cap,cs,rfl,M,_⟩⟩:=hm
   .obtain⟨a,n,c,h1,_⟩:=ad;cases h1
   .obtain⟨a,n,c,h1,E⟩:=ad;cases h1;have M:O.heap[gs]?=_:=M;have E:gs=r:=E;rw[E,ao]at M;cases M
  have Q:=z.trans f;exact an _ _ ⟨rfl,⟨A,hi⟩,((H.trans Q).V _).trans q,D',hu,⟨sv,gs,(y.ext Q).V q aB,bo (hm.ext Q) q aE⟩,aA,I,ap,aw hu⟩
 refine⟨λC G f _ _=>?_,λC G f _ _=>?_⟩
 .rw[aG fB.p 3 ((y.ext z).ext f) rfl,nQ N ((ab.ext z).ext f).range];subst C;refine Kl iD.u keys ((K.ext z).ext f) x.o3 ac (λj v0 B R s q=>?_) (λB S s q=>?_)
  .obtain⟨gZ,W,_⟩:=Bf x A R;rw[mG]at s;exact L f q s (KB x.nodup W)
  .exact L f q s (KC (Bg x S))
 .rw[aG fB.p 3 ((y.ext z).ext f) rfl,nQ N ((ab.ext z).ext f).range];refine qi iD.u keys ((K.ext z).ext f) x.o3 ac (λj v0 B R s q=>?_) (λB S s q=>?_)
  .obtain⟨gZ,W,_⟩:=Bf x A R;have X:(D.map jR).set j (ee (pad t),Δ c)=(D.set j (t,c)).map jR:=by rw[U6];rfl
   rw[X]at s;exact L f q s (KA x.nodup W C)
  .have X:D.map jR++[(ee (pad t),Δ c)]=(D++[(t,c)]).map jR:=by rw[Z4];rfl
   rw[X]at s;exact L f q s (Be (Bg x S) C)
theorem KE{g m:Nat}{t:Λ}{o:Int}{D:Told}{b:Bool}(h:eL w g m ag k o D)(e:di ag t)(h1:∀c,(t,c)∈D->K (if b then .tuple #[Δ c,.bool true]else Δ c))(s:(∀p∈D,p.1≠t)->K (if b then .tuple #[Δ 0,.bool false]else Δ 0)):
  aa x7 (Instr.lookup iD (.map (σ m)) (ee (pad t)) b) w K:=by
 have f:=vA (qk h.2.2.1 e);by_cases he:∃p∈D,p.1=t
 .obtain⟨p,a,rfl⟩:=he;obtain⟨j,x⟩:=X5.1 a;rw[qh iD.u keys h.2.1 h.o3 f (j:=j) (v:=Δ p.2) (by rw[x8,x];rfl)];exact h1 p.2 a
 .have r:∀p∈D,p.1≠t:=λp a h=>he ⟨p,a,h⟩;rw[sC iD.u keys ⟨_,_,al.i⟩ h.2.1 h.o3 f (λq y hk=>by
   obtain⟨p,a,rfl⟩:=l9.1 y;exact r p a (Ba (h.2.2.2.2 p a).1 e hk))]
  exact s r
theorem KF{g m:Nat}{o:Int}{D:Told}(h:eL w g m ag k o D):ai x7 HZ [Γ g] w λv w'=>v=Δ D.length/\Ext w w':=by
 obtain⟨⟨sv,gs,a,hm⟩,e,_⟩:=h;refine az func220 ?_;rw[cP eS.u];simp only[j9,aU];rw[aG fB.p 3 a rfl,Km iD.u e];exact⟨Ξ,Ext.refl _⟩
theorem KG{g m:Nat}{o:Int}{D:Told}(h:eL w g m ag k o D):ai x7 Ix [Γ g] w λv w'=>v=Δ k/\Ext w w':=by
 obtain⟨⟨sv,gs,a,hm⟩,_⟩:=h;refine az func279 ?_;rw[cP eS.u];simp only[j9,aU];rw[aG fB.p 1 a rfl];exact⟨rfl,Ext.refl _⟩
theorem vC{g m:Nat}{o:Int}{D:Told}(h:eL w g m ag k o D):ai x7 H0 [Γ g] w λv w'=>Ext w w'/\∃a,w.heap.size<=a/\aq .i64 ah w' a v ag:=by
 obtain⟨⟨sv,gs,e,hm⟩,_,I,_⟩:=h;have f:=I.1;refine az func221 ?_;rw[cP eS.u];simp only[j9,aU];rw[aG fB.p 0 e rfl];exact kX hm.ls Ω
theorem KH{g m:Nat}{o:Int}{D:Told}(h:eL w g m ag k o D):ai x7 Iy [Γ g] w λv w'=>v=Δ ag.length/\Ext w w':=by
 refine az func280 ?_;refine(vC h).mono ?_;rintro v J _ ⟨a,e,_,hm⟩;rw[aW ap.u hm.ls];exact⟨rfl,a⟩
end Go.Proofs.YtikkpokkcdocoaaGreatDoor
namespace Go.Vc
open Go Go.RowKit
set_option maxRecDepth 100000
def leadsTo(v:x1)(r:Nat):Prop:=∃a n c,v= .slice (σ a) n c/\a.block=r
theorem fq(h:leadsTo (.slice ν 0 0) r):False:=by
 obtain⟨a,n,c,h,_⟩:=h;cases h
section
variable{α:Type}{f:α->List x1}{k:Nat}
theorem gu:∀{L:List α},(∀a∈L,(f a).length=k)->(L.flatMap f).length=L.length*k
 |[],_=>Ξ
 |a::L,h=>by
  rw[W0,r8,h a (.head _),gu λb e=>h b (.tail _ e),c9,U8];omega
theorem qn:∀{L:List α}(i:Nat),(∀a∈L,(f a).length=k)->(L.flatMap f).take (i*k)=(L.take i).flatMap f
 |[],i,_=>Ξ
 |a::L,0,_=>Ξ
 |a::L,i+1,h=>by
  have e:=h a (.head _);rw[W0,List.take_succ_cons,W0,<-qn i λb j=>h b (.tail _ j),U8,Nat.one_mul,Nat.add_comm,List.take_append,e];congr 1
  .exact j0 Ω
  .congr 1;omega
theorem sE:∀{L:List α}(i:Nat),(∀a∈L,(f a).length=k)->(L.flatMap f).drop (i*k)=(L.drop i).flatMap f
 |[],i,_=>Ξ
 |a::L,0,_=>Ξ
 |a::L,i+1,h=>by
  have e:=h a (.head _);rw[W0,List.drop_succ_cons,<-sE i λb j=>h b (.tail _ j),U8,Nat.one_mul,Nat.add_comm,List.drop_append,e];rw[List.drop_of_length_le Ω,List.nil_append];congr 1;omega
theorem nR{L:List α}{i:Nat}{a:α}(h:∀a∈L,(f a).length=k)(hi:L[i]?=σ a)(e:(f a)[j]?=σ v):(L.flatMap f)[i*k+j]?=σ v:=by
 have q:=(x4.1 e).1;rw[<-List.getElem?_drop,sE i h];have p:=x4.1 hi;rw[X8 p.1,p.2,W0,Y1 q];exact e
theorem vD{L:List α}{i:Nat}{a:α}(h:∀a∈L,(f a).length=k)(e:(f a).length=k)(hi:i<L.length):over (L.flatMap f) (i*k) (f a)=(L.set i a).flatMap f:=by
 have p:=gu h;have j:(i+1)*k<=L.length*k:=Y4 _ hi;rw[U8,Nat.one_mul]at j;rw[mq Ω,e,qn i h,show i*k+k=(i+1)*k by rw[U8,Nat.one_mul],sE (i+1) h,List.set_eq_take_append_cons_drop,if_pos hi,List.flatMap_append,W0,X9]
theorem sF{vs:List x1}{o m:Nat}(h1:o+vs.length<=m)(a:m<=cs.length):(over cs o vs).take m=over (cs.take m) o vs:=by
 rw[mq Ω,mq (by rw[o7];omega),X9,X9,List.take_append,List.take_append,List.take_take,List.take_take,List.drop_take,o7];rw[show min m o=o by omega,show min o m=o by omega,show min o cs.length=o by omega,j0 (l:=vs) Ω];congr 3;omega
def ba(f:α->List x1)(k:Nat)(e:r9)(w:x3)(g:Nat)(v:x1)(L:List α):Prop:=bW w g e k v L.length (L.flatMap f)/\∀a∈L,(f a).length=k
variable{P:W9}{w:x3}{e:r9}{g:Nat}{v:x1}{L:List α}
theorem ba.nil(f:α->List x1)(k:Nat)(e:r9)(w:x3)(g:Nat):ba f k e w g (.slice ν 0 0) []:=⟨bW.nil w g e k,λa h=>by cases h⟩
theorem ba.leads(h:ba f k e w g v L)(j:leadsTo v r):r=g/\g<w.heap.size:=by
 obtain⟨_,⟨rfl,_⟩|⟨cap,cs,rfl,p,_⟩⟩:=h.1
 .exact (fq j).elim
 .obtain⟨a,n,c,h1,q⟩:=j;cases h1;exact⟨q.symm,p.lt⟩
theorem ba.V(h:ba f k e w g v L)(a:ae S w w')(j:∀r,leadsTo v r->¬S r):ba f k e w' g v L:=
 ⟨⟨h.1.1,h.1.2.imp id λ⟨cap,cs,h1,p,q⟩=>⟨cap,cs,h1,p.V a (j g ⟨_,_,_,h1,rfl⟩),q⟩⟩,h.2⟩
theorem ba.ext(h:ba f k e w g v L)(a:Ext w w'):ba f k e w' g v L:=h.V (a.V λ_=>False) λ_ _ h=>h
theorem ba.sl(h:ba f k e w g v L):cc w k v L.length (L.flatMap f):=h.1.sl
theorem ba.le(h:ba f k e w g v L):L.length<=9223372036854775807:=by
 have:=cc.le h.sl;simpa[maxLen]using this
theorem ez{a:r9}(j:P.underlying t=σ (.slice e))(h:ba f k e w g v L):aa P (V2 #[t] a #[v]) w K=K (Δ L.length):=by
 obtain⟨_,_,_,_,_,rfl,_⟩:=h.sl;exact hy j
theorem dj{q:o4}{b:Nat}{i:Nat}(a:y=(i:Int))(j:P.underlying t=σ (.slice e))(hi:aO P e k b z)(h:ba f k e w g v L)(p:i<L.length):
  aa P (j5 t v (.int q y)) w K=K (.pointer (σ ⟨g,i*k,ν⟩)):=by
 subst a;obtain⟨_,⟨rfl,r⟩|⟨cap,cs,rfl,s,x⟩⟩:=h.1
 .omega
 .rw[e3 j hi p (λ_=>rfl),X6]
theorem ba.range{i:Nat}{a:α}(h:ba f k e w g v L)(hi:L[i]?=σ a):w.rangeAt g (i*k) (f a):=λj u hu=>by
 have h1:=nR h.2 hi hu;have s:=(x4.1 hi).1;obtain⟨_,⟨rfl,x⟩|⟨cap,cs,rfl,q,_,_,y,r⟩⟩:=h.1
 .omega
 .have p:=(x4.1 h1).1;rw[gu h.2]at p;rw[<-r,Z9 p]at h1;exact q.cell h1
theorem Bi{b:Nat}{i:Nat}{a:α}{K:Unit->x3->Prop}(hi:aO P t k b z)(h:ba f k e w g v L)(j:(f a).length=k)(h1:∀u∈f a,u.oneCell'=true)(s:i<L.length)(A:∀w',ae (λr=>leadsTo v r) w w'->w'.heap.size=w.heap.size->ba f k e w' g v (L.set i a)->K () w'):aC P (o6 t (.pointer (σ ⟨g,i*k,ν⟩)) (.agg (f a).toArray)) w K:=by
 have M:=gu h.2;have B:(i+1)*k<=L.length*k:=Y4 _ s;rw[U8,Nat.one_mul]at B;obtain⟨⟨N,⟨rfl,O⟩|⟨cap,cs,rfl,C,x,E,y,F⟩⟩,p⟩:=h
 .omega
 .have G:L.length*k<=cs.length:=by rw[y];exact Y4 _ x
  refine zr hi j h1 C Ω λw' H I J=>A w' (H.mono λr _ he=>⟨_,_,_,rfl,he.symm⟩) I ⟨⟨?_,.inr ⟨cap,_,Ξ,J,by simpa using x,E,by rw[lQ,y],?_⟩⟩,λb q=>?_⟩
  .rw[gu (L:=L.set i a) λb q=>by
    rcases W3 q with h|rfl
    .exact p b h
    .exact j]
  .rw[Z6,<-vD p j s,<-F,sF (by rw[j];omega) G]
  .rcases W3 q with h|rfl
   .exact p b h
   .exact j
theorem pa{b:Nat}{u:x1}{i:Nat}{a a':α}{K:Unit->x3->Prop}(hi:aO P t 1 b z)(hu:u.cells= #[u])(h1:u.oneCell'=true)(h:ba f k e w g v L)(s:L[i]?=σ a)(A:f a'=(f a).set j u)(W:j<k)(M:∀w',ae (λr=>leadsTo v r) w w'->w'.heap.size=w.heap.size->ba f k e w' g v (L.set i a')->K () w'):aC P (o6 t (.pointer (σ ⟨g,i*k+j,ν⟩)) u) w K:=by
 have B:=(x4.1 s).1;have X:=gu h.2;have N:(i+1)*k<=L.length*k:=Y4 _ B;rw[U8,Nat.one_mul]at N;have O:(f a).length=k:=h.2 a (x5 s);have q:(f a').length=k:=by rw[A,Z6];exact O
 have Q:(L.flatMap f).set (i*k+j) u=(L.set i a').flatMap f:=by
  rw[<-vD h.2 q B];refine X2 λp=>?_;rw[nx _ _ _ Ω,X1,q];by_cases C:i*k<=p/\p<i*k+k
  .rw[if_pos C,A,X1];by_cases E:i*k+j=p
   .rw[if_pos E,if_pos Ω,if_pos Ω,if_pos Ω]
   .rw[if_neg E,if_neg Ω];obtain⟨y,F⟩:∃y,(f a)[p-i*k]?=σ y:=⟨_,x6 Ω⟩;have:=nR h.2 s F;rw[show i*k+(p-i*k)=p by omega]at this;rw[this,F]
  .rw[if_neg C,if_neg Ω]
 obtain⟨⟨Y,⟨rfl,Z⟩|⟨cap,cs,rfl,R,G,S,H,T⟩⟩,J⟩:=h
 .omega
 .have aa:L.length*k<=cs.length:=by rw[H];exact Y4 _ G
  refine bk hi hu h1 R Ω λw' U I V=>M w' (U.mono λr _ he=>⟨_,_,_,rfl,he.symm⟩) I ⟨⟨?_,.inr ⟨cap,_,Ξ,V,by simpa using G,S,by rw[Z6,H],?_⟩⟩,λb x=>?_⟩
  .rw[gu (L:=L.set i a') λb x=>by
    rcases W3 x with h|rfl
    .exact J b h
    .exact q]
  .rw[Z6,<-Q,<-T,List.take_set]
  .rcases W3 x with h|rfl
   .exact J b h
   .exact q
theorem ik{M:r9}{b:Nat}{x:x1}{a:α}{K:x1->x3->Prop}(A:P.underlying t=σ (.slice e))(hi:aO P e k b z)(H:z.cells.size=k)(h:ba f k e w g v L)(F:cc w k x 1 (f a))(h1:∀u∈f a,u.oneCell'=true)(B:(L.length+1)*b<=140737488355328)(I:L.length+1<=9223372036854775807)(J:∀j p w',ba f k e w' p j (L++[a])->(∀r,leadsTo j r->leadsTo v r\/w.heap.size<=r)->ae (λr=>leadsTo v r) w w'->K j w'):aC P (Z3 #[t,t] M #[v,x]) w K:=by
 have N:(f a).length=k:=by have:=F.1;omega
 have C:∀j p w',bW w' p e k j (L.length+1) (L.flatMap f++f a)->ba f k e w' p j (L++[a]):=λj p w' hm=>⟨by simpa using hm,λb B=>by
  rcases o9.1 B with h'|h'
  .exact h.2 b h'
  .rw[l7.1 h'];exact N⟩
 rcases h.1.2 with⟨q,O⟩|⟨cap,cs,q,Q,_⟩
 .have hm:bW w w.heap.size e k v L.length (L.flatMap f):=⟨h.1.1,.inl ⟨q,O⟩⟩;subst q;refine nz A A hi H hm F h1 (by simpa using B) (by simpa[maxLen]using I) λj p w' E s G=>J j p w' (C _ _ _ s) (λr y=>.inr ?_) (G.mono λr y h=>Ω);have:=((C _ _ _ s).leads y).1;omega
 .refine nz A A hi H h.1 F h1 (by simpa using B) (by simpa[maxLen]using I) λj p w' E s G=>J j p w' (C _ _ _ s) (λr y=>?_) (G.mono λr y h=>⟨_,_,_,q,h.symm⟩);have:=((C _ _ _ s).leads y).1;rcases E with E|E
  .exact .inl ⟨_,_,_,q,by show g=r;omega⟩
  .exact .inr Ω
theorem KI{p:r9}{b:Nat}{x:x1}{a:α}{K:x1->x3->Prop}(q:P.underlying t=σ (.slice e))(hi:aO P e k b z)(s:z.cells.size=k)(h:ba f k e w g v L)(y:cc w k x 1 (f a))(h1:∀a,∀u∈f a,u.oneCell'=true)(A:(L.length+1)*b<=140737488355328)(B:L.length+1<=9223372036854775807)(C:∀j E w',ba f k e w' E j (L++[a])->(∀r,leadsTo j r->leadsTo v r\/w.heap.size<=r)->ae (λr=>leadsTo v r) w w'->K j w'):aC P (Z3 #[t,t] p #[v,x]) w K:=ik q hi s h y (h1 a) A B C
theorem h2{b:Nat}{a:α}{x:x1}{K:x1->x3->Prop}(q:P.underlying t=σ (.slice e))(hi:aO P e k b z)(B:k<=100000)(j:x.cells=(f a).toArray)(p:(f a).length=k)(r:∀v g w',g=w.heap.size->Ext w w'->ba f k e w' g v [a]->K v w'):aC P (Y7 t 1 #[(0,x)]) w K:=
 kj q hi Ω (cs:=x.cells) (zz Ξ (by rw[j];simpa using p)) λg w' s y h=>by
  have h:ad w' g e (f a):=by rw[j]at h;simpa using h
  exact r _ g w' s y ⟨by simpa using bW.full (k:=k) (n:=1) h Ω (by simp[maxLen]),λc A=>by rw[l7.1 A];exact p⟩
end
end Go.Vc
namespace Go.Proofs.YtikkpokkcdocoaaGreatDoor
open Go Go.Vc Go.RowKit Go.Proofs Go.Proofs.Tryz
set_option maxRecDepth 100000
theorem vE{α:Type}:∀{l:List α}{j:Nat}{x:α},l[j]?=σ x->(x::l.eraseIdx j).Perm l
 |[],j,x,h=>by simp at h
 |a::l,0,x,h=>by simp at h;subst h;exact List.Perm.refl _
 |a::l,j+1,x,h=>by
  simp at h;rw[List.eraseIdx_cons_succ];exact(List.Perm.swap a x _).trans ((vE h).cons a)
theorem Bj{α:Type}{l:List α}(h:j<l.length):(l.eraseIdx j).length+1=l.length:=by
 rw[List.length_eraseIdx,if_pos h];omega
def pb(w:x3)(a:Nat):Nat:=match w.heap[a]? with
 |some (.mapIter (σ m) _ seen _)=>(match w.heap[m]? with
  |some (.map e _)=>(leftOf e seen).size
  |_=>0)
 |_=>0
theorem sG{m:Nat}{d left:List (x1×x1)}{e:Option (x1×x1)}(h:hF w a m d left e):pb w a=left.length:=by
 obtain⟨j,p,seen,gZ,h1,_,_,f,_,rfl,_⟩:=h;unfold pb;rw[f];simp only;rw[h1];simp
theorem KJ{w0:x3}{m:Nat}{d d0 left:List (x1×x1)}{e:Option (x1×x1)}(h:hF w a m d left e)(hm:c4 w0 m d0)(h1:Ext w0 w)(j:Ext w0 w')(hi:e0 w w'):hF w' a m d left e:=by
 obtain⟨p,c,s,gZ,q,r,x,y,z⟩:=h;obtain⟨A,B,f1,_⟩:=hm;have g1:=h1.aY m _ f1 rfl;have f:=j.aY m _ f1 rfl;rw[q]at g1;rw[<-g1]at f;exact⟨p,c,s,gZ,f,r,x,hi a _ y rfl,z⟩
abbrev nS(w:x3)(g:Nat)(v:x1)(L:List (Λ)):Prop:=ba (ints .i8) 6 cz w g v L
theorem Bk{k:o4}:∀u∈ints k l,u.oneCell'=true:=λu hu=>by
 obtain⟨x,_,rfl⟩:=l9.1 hu;rfl
theorem keysIter{cQ m:Nat}{d:List (x1×x1)}{KS:List (Λ)}{w0:x3}(R:ad w0 cQ iD [.map (σ m)])(hm:c4 w0 m d)(S:d.map (·.1)=KS.map ee)(V:∀ks∈KS,ks.length=6):
  oy x7 true lK [Γ cQ] ([]:List (Λ)) (λh=>h.Perm KS) (λh vs h' _=>∃ks∈KS,h.length<KS.length/\vs=[ee ks]/\h'=h++[ks]) (λw=>Ext w0 w):=by
 refine⟨lK.enters,λl ax aF w f _ W q X=>?_⟩;refine oK func277 ?_;rw[aB Ψ ((R.ext q).Qz rfl)];refine aC.cj (A2 iD.u (hm.ext q) λB J Y r aG Z aa=>?_);refine⟨λU=>∃h a left C,ax h U/\Ext w0 U/\w.heap.size<=U.heap.size/\hF U B m d left C/\left.map (·.1)=a.map ee/\(h++a).Perm KS,λU=>pb U B,
  ⟨[],KS,d,ν,f _ _ _ r aa.b X,q.trans r,r.size,Z,S,List.Perm.refl _⟩,?_⟩
 rintro U ⟨h,a,left,C,E,ab,aH,G,s,e⟩;have ac:left.length=a.length:=by have:=congrArg R6 s;simpa using this
 refine A4 G (λh=>by cases h) (λae=>?_) (λj p af H I ag K=>?_)
 .rw[iF (v:=.bool false) rfl,aU];subst ae;have:a=[]:=j4 (by rw[<-ac];rfl);subst this;rw[W7]at e;exact .inl ⟨h,e,E⟩
 .rw[iF (v:=.bool true) rfl,bL];refine A5 K ?_;obtain⟨ks,x,ah⟩:∃ks,a[j]?=σ ks/\p.1=ee ks:=by
   have h1:(left.map (·.1))[j]?=σ p.1:=by rw[x8,H];rfl
   rw[s,x8]at h1;obtain⟨ks,L,ai⟩:=Y9.1 h1;exact⟨ks,L,ai.symm⟩
  have M:ks∈KS:=e.mem_iff.1 (o9.2 (.inr (x5 x)));have N:=V ks M;rw[iF (v:=p.1) rfl,ah];refine aC.cj (bz cz.i λaI aJ aK aj ak al=>?_);refine aC.cj (qj N rfl ak λy am aL an ao=>?_);rw[nQ N an.range];have z:Ext af y:=aj.put am Ω;have O:=al.trans ao;have P:Ext w0 y:=(ab.trans I).trans z;have ap:=f _ _ _ I (by rw[<-Y];exact ag) E;have aq:=f _ _ _ z O.b ap;have au:=K.ext z O.kb;have av:h.length<KS.length:=by
   have h1:=e.length_eq;have L:=(x4.1 x).1;rw[r8]at h1;omega
  refine⟨rfl,(W h (h++[ks]) _ y P ⟨ks,M,av,rfl,rfl⟩ aq).mono ?_⟩;rintro _ aw (⟨rfl,Q,ay,az⟩|⟨rfl,aA⟩)
  .simp only[bC,Y6,aU];have A:=KJ au hm P Q (az rfl).kb;have aD:w.heap.size<=aw.heap.size:=by
    obtain⟨_,_,_,_,_,_,_,aE,_⟩:=A;have:=(n9.1 aE).1;omega
   refine⟨⟨h++[ks],a.eraseIdx j,left.eraseIdx j,σ p,ay,Q,aD,A,?_,?_⟩,?_⟩
   .rw[<-mG,s,mG]
   .refine List.Perm.trans ?_ e;rw[X9];exact List.Perm.append_left h (vE x)
   .rw[sG A,sG G];have:=Bj (x4.1 H).1;omega
  .simp only[bC,W5,bL];exact .inr ⟨h,aA⟩
theorem KK{m:Nat}:ai x7 Ie [.map (σ m)] w λr w'=>Ext w w'/\∃g,r= .func (.func lK) #[] #[Γ g]/\w.heap.size<=g/\ad w' g iD [.map (σ m)]:=by
 refine az func244 ?_;refine bj λg J f a e=>?_;rw[ki];exact⟨a,g,rfl,Ω,e⟩
theorem KL{cQ m:Nat}{d:List (x1×x1)}{KS:List (Λ)}(X:ad w cQ iD [.map (σ m)])(hm:c4 w m d)(Y:d.map (·.1)=KS.map ee)(E:∀ks∈KS,ks.length=6)(aA:KS.length<=1000000):
  ai x7 IA [.slice ν 0 0,.func (.func lK) #[] #[Γ cQ]] w λv w'=>Ext w w'/\∃g L,(∀r,leadsTo v r->w.heap.size<=r)/\L.Perm KS/\nS w' g v L:=by
 refine hU func290 ?_;refine bj λgs J aD G q=>?_;have q:ad J gs jf [.slice ν 0 0]:=q;have aE:=q.lt;refine kf.old ⟨List (Λ),true,_,_,_,_,_,_,λh w'=>ae (λr=>w.heap.size<=r) w w'/\∃v g,ad w' gs jf [v]/\(∀r,leadsTo v r->w.heap.size<=r/\r≠gs)/\nS w' g v h,λ_ _ _=>False,rfl,keysIter X hm Y E,?_,λ_ _ j h=>h.trans j,
  λ_ _ _ j h=>⟨h.1.trans (j.V _),by obtain⟨v,g,h1,Z,aa⟩:=h.2;exact⟨v,g,h1.ext j,Z,aa.ext j⟩⟩,λ_ _ _ _ _ h=>h,G,⟨G.V _,_,0,q,λr h=>(fq h).elim,ba.nil _ _ _ _ _⟩,?_,?_,λ_ _ h=>h.elim,λ_ _ _ h=>h.elim⟩
 .rintro h _ h' w' ⟨ks,_,_,rfl,_⟩;rfl
 .rintro a h h' U ab ⟨ks,ac,aF,af,rfl⟩ ⟨H,v,g,y,cG,z⟩;cases af;have A:=E ks ac;have aG:h.length<=1000000:=Ω
  refine aC.cj (bz cz.i λaH aI aJ ag I ah=>?_);refine aC.cj (qj A rfl I λaj ak aK al am=>?_);intro aL K _ an;have aM:=I.lt;have ao:Ext U aj:=ag.put ak Ω;have p:=ao.trans K;rw[aB Ψ ((y.ext p).Qz rfl),nQ A (al.ext K).range];refine aC.cj (h2 (f:=ints .i8) (a:=ks) jf.u cz.i Ω (by simp[ee,x1.cells]) (by simp[A]) λa ga aN aO s ap aq=>?_);have M:=ap.sl;rw[W0,List.flatMap_nil,W7]at M;refine aC.cj (KI jf.u cz.i rfl ((z.ext p).ext s) M (λa=>Bk) Ω Ω λN au O B av x aw=>?_);have aP:=H.size;have aQ:=p.size;have aR:=s.size;have aS:=y.lt;have P:∀r,leadsTo N r->w.heap.size<=r/\r≠gs:=λr e=>by
   rcases av r e with h|h
   .exact cG r h
   .omega
  have C:ad O gs jf [v]:=((y.ext p).ext s).V x (λh=>(cG gs h).2 rfl);refine aC.cj (bk jf.i (by obtain⟨_,_,_,_,_,rfl,_⟩:=B.sl;rfl) (by obtain⟨_,_,_,_,_,rfl,_⟩:=B.sl;rfl) C Ξ λQ R aT ax ay=>?_);have S:ae (λr=>w.heap.size<=r) U Q:=(((p.trans s).V _).trans (x.mono λr _ h=>(cG r h).1)).trans (R.mono λr _ h=>by show w.heap.size<=r;omega);refine⟨ab.then S (λr e h=>by have h:w.heap.size<=r:=h;omega),⟨H.trans S,N,au,ax,P,B.V R λr e h=>(P r e).2 h⟩,λ_=>?_⟩;exact((((ah.kb.trans am.kb).trans an).trans aq.kb).trans aw.kb).trans ay.kb
 .rintro h O az ⟨x,v,g,C,cG,z⟩;rw[aB Ψ (C.Qz rfl)];intro Q W _;exact⟨(x.ext λr e h=>by have:w.heap.size<=r:=h;omega).trans W,g,h,λr e=>(cG r e).1,az,z.ext W⟩
theorem KM{cQ m:Nat}{d:List (x1×x1)}{KS:List (Λ)}(a:ad w cQ iD [.map (σ m)])(hm:c4 w m d)(e:d.map (·.1)=KS.map ee)(f:∀ks∈KS,ks.length=6)(j:KS.length<=1000000):
  ai x7 Iu [.func (.func lK) #[] #[Γ cQ]] w λv w'=>Ext w w'/\∃g L,(∀r,leadsTo v r->w.heap.size<=r)/\L.Perm KS/\nS w' g v L:=by
 refine az func275 ?_;exact(KL a hm e f j).mono λ_ _ _ h=>h
def gv:Λ->Int
 |[]=>0
 |x::l=>x*32 ^ l.length+gv l
theorem vF(n:Nat):(0:Int)<32 ^ n:=Int.pow_pos Ω
theorem sH:∀(l:Λ),(∀x∈l,0<=x/\x<32)->0<=gv l/\gv l<32 ^ l.length
 |[],_=>by simp[gv]
 |x::l,h=>by
  have j:=sH l λy a=>h y (.tail _ a);have f:=h x (.head _);have p:=vF l.length;simp only[gv,c9];have e:(32:Int) ^ (l.length+1)=32*32 ^ l.length:=by rw[Int.pow_succ,Int.mul_comm]
  have h1:x*32 ^ l.length<=31*32 ^ l.length:=Int.mul_le_mul_of_nonneg_right Ω Ω;have q:0<=x*32 ^ l.length:=Int.mul_nonneg f.1 Ω;rw[e];omega
def il:Λ->Λ->Int
 |x::a,y::b=>if x<y then-1 else if y<x then 1 else il a b
 |_,_=>0
theorem Bl:∀(a b:Λ),a.length=b.length->(∀x∈a,0<=x/\x<32)->(∀x∈b,0<=x/\x<32)->(il a b<0↔gv a<gv b)/\(gv a=gv b->a=b)
 |[],[],_,_,_=>by simp[il]
 |[],_::_,h,_,_=>by simp at h
 |_::_,[],h,_,_=>by simp at h
 |x::a,y::b,h,s,w=>by
  have j:a.length=b.length:=by simpa using h
  have p:∀x∈a,0<=x/\x<32:=λz e=>s z (.tail _ e);have q:∀x∈b,0<=x/\x<32:=λz e=>w z (.tail _ e);have r:=Bl a b j p q;have A:=sH a p;have C:=sH b q;have E:=vF b.length;simp only[il,gv];rw[j]at A ⊢;have step:∀u v:Int,u<v->u*32 ^ b.length+32 ^ b.length<=v*32 ^ b.length:=λu v F=>by
   have:=Int.mul_le_mul_of_nonneg_right (show u+1<=v by omega) (show(0:Int)<=32 ^ b.length by omega);rw[Int.add_mul,Int.one_mul]at this;exact this
  by_cases h1:x<y
  .rw[if_pos h1];have:=step x y h1;exact⟨⟨λ_=>Ω,λ_=>Ω⟩,λh=>Ω⟩
  .rw[if_neg h1];by_cases f:y<x
   .rw[if_pos f];have:=step y x f;exact⟨⟨λh=>Ω,λh=>Ω⟩,λh=>Ω⟩
   .rw[if_neg f];have B:x=y:=Ω
    subst B;exact⟨r.1.trans ⟨λh=>Ω,λh=>Ω⟩,λh=>by rw[r.2 Ω]⟩
theorem vG:∀{a b:Λ}{i:Nat},(∀(j:Nat)(x y:Int),j<i->a[j]?=σ x->b[j]?=σ y->x=y)->i<=a.length->i<=b.length->il a b=il (a.drop i) (b.drop i)
 |_,_,0,_,_,_=>Ξ
 |[],_,i+1,_,h,_=>by simp at h
 |_::_,[],i+1,_,_,h=>by simp at h
 |x::a,y::b,i+1,he,h1,e=>by
  have f:=he 0 x y Ω rfl rfl;subst f;simp only[il,Int.lt_irrefl,if_false,List.drop_succ_cons];exact vG (λj u v q hu p=>he (j+1) u v Ω hu p) (by simpa using h1) (by simpa using e)
theorem Bm{x:Int}:ai x7 Iz [.int .i8 x] w λv w'=>v= .bool false/\Ext w w':=by
 refine az func289 ?_;simp only[bI];exact⟨Ξ,Ext.refl _⟩
theorem KN{x:Int}:ai x7 It [.int .i8 x,.int .i8 y] w λv w'=>v=Δ (if x<y then-1 else if y<x then 1 else 0)/\Ext w w':=by
 refine az func274 ?_;refine Bm.mono ?_;rintro _ J _ ⟨rfl,a⟩;refine Bm.mono ?_;rintro _ U _ ⟨rfl,e⟩;simp only[aU,aQ,bP,aj];exact⟨λh=>⟨by rw[if_pos h],a.trans e⟩,λh=>⟨λf=>⟨by rw[if_neg h,if_pos f],a.trans e⟩,λf=>⟨by rw[if_neg h,if_neg f],a.trans e⟩⟩⟩
theorem KO{bb bv:x1}{a b:Λ}(q:aH .i8 w bb a)(s:aH .i8 w bv b)(S:a.length=b.length):ai x7 Ib [bb,bv] w λv w'=>v=Δ (il a b)/\Ext w w':=by
 refine az func242 ?_;have V:=q.le;rw[aW kU.u q];refine cd.range a.length (λi _ J=>Ext w J/\∀(j:Nat)(x y:Int),j<i->a[j]?=σ x->b[j]?=σ y->x=y) Ω ⟨Ext.refl _,λj x y I=>Ω⟩ ?_ ?_
 .rintro i _ J K hi ⟨e,r⟩ L;simp only[aQ,aj];refine⟨λ_=>?_,λh=>Ω⟩;obtain⟨x,z⟩:=aF (l:=a) hi;obtain⟨y,A⟩:=aF (l:=b) (i:=i) Ω;rw[be kU.u fP.i Ψ (q.ext e) z,aW kU.u (s.ext e)];simp only[cI,aj];refine⟨λh=>Ω,λ_=>?_⟩;rw[be kU.u fP.i Ψ (s.ext e) A];refine KN.mono ?_;rintro _ U _ ⟨rfl,E⟩;have f:il a b=il (a.drop i) (b.drop i):=vG r Ω Ω;have M:a.drop i=x::a.drop (i+1):=by rw[X8 hi,(x4.1 z).2]
  have N:b.drop i=y::b.drop (i+1):=by rw[X8 Ω,(x4.1 A).2]
  rw[M,N]at f;simp only[il]at f;simp only[bI,aj,aP];refine⟨λG=>⟨?_,e.trans E⟩,λO=>L _ _ ⟨e.trans E,λj P Q I B C=>?_⟩⟩
  .rw[f];by_cases h1:x<y
   .rw[if_pos h1,if_pos h1]
   .by_cases p:y<x
    .rw[if_neg h1,if_pos p,if_neg h1,if_pos p]
    .rw[if_neg h1,if_neg p]at G;exact absurd rfl G
  .by_cases R:j=i
   .subst R;rw[z]at B;rw[A]at C;cases B;cases C;have H:=X3.1 O;by_cases h1:x<y
    .rw[if_pos h1]at H;omega
    .by_cases p:y<x
     .rw[if_neg h1,if_pos p]at H;omega
     .omega
   .exact r j P Q Ω B C
 .rintro _ J K ⟨e,r⟩;simp only[aQ,show decide ((a.length:Int)<(a.length:Int))=false from decide_eq_false Ω,aU];rw[aW kU.u (q.ext e),aW kU.u (s.ext e)];simp only[aQ,aj];refine⟨λh=>Ω,λ_=>⟨?_,e⟩⟩;have f:il a b=il (a.drop a.length) (b.drop a.length):=vG r Ω Ω;rw[f,List.drop_length];cases b.drop a.length<;>rfl
theorem KP{a b:Λ}(p:k2 a)(q:k2 b):ai x7 zg [ee a,ee b] w λv w'=>Ext w w'/\v=Δ (il a b):=by
 have B:∀{c:Λ},k2 c->(ints .i8 c).length=6:=λh=>by simp[h.1]
 refine az func241 ?_;refine bj λg1 J C y e=>?_;refine bj λE U G r f=>?_;rw[A6]at e f;intro s j _ _;have e:=(e.ext r).ext j;have f:=f.ext j;rw[rX cz.u fP.i (l:=0) (h:=6) (m:=6) iG iH eU Ω Ω Ω,rX cz.u fP.i (l:=0) (h:=6) (m:=6) iG iH eU Ω Ω Ω];rw[if_neg Ω,if_neg Ω];have ls:∀{g:Nat}{c:Λ},k2 c->ad s g cz (ints .i8 c)->aH .i8 s (.slice (σ ⟨g,0+0*1,ν⟩) (6-0) (6-0)) c:=λ{g c}x z=>by
  unfold aH;refine⟨Ξ,g,0,_,6,by rw[x.1],by rw[x.1];omega,by simp[maxLen],λ_=>rfl,z.range⟩
 refine(KO (ls p e) (ls q f) (by rw[p.1,q.1])).mono ?_;rintro _ H _ ⟨rfl,A⟩;exact⟨((y.trans r).trans j).trans A,rfl⟩
end Go.Proofs.YtikkpokkcdocoaaGreatDoor
namespace Go.Vc
open Go Go.RowKit Go.Shelf Go.Proofs Go.Sort
theorem grown_of(f:Ext w w')(a:cF w w'):∃q os,w'=grow (w.drewN q) os:=by
 refine⟨w'.drawn-w.drawn,w'.heap.extract w.heap.size w'.heap.size,?_⟩;have hk:∀k,k<w.heap.size->w'.heap[k]?=w.heap[k]?:=λk hk=>by
  have e:w.heap[k]?=σ w.heap[k]:=Array.getElem?_eq_getElem hk;rw[e];cases I:fw w.heap[k]with
  |true=>exact f.aY k _ e I
  |false=>exact a.aY k _ e I
 have ao:w'.heap=w.heap++w'.heap.extract w.heap.size w'.heap.size:=by
  apply Array.ext_getElem?;intro k;rw[Array.getElem?_append];by_cases h:k<w.heap.size
  .rw[if_pos h,hk k h]
  .rw[if_neg h,Array.getElem?_extract];have:=f.size;by_cases j:k<w'.heap.size
   .rw[if_pos Ω];congr 1;omega
   .rw[if_neg Ω,Array.getElem?_eq_none Ω]
 have h1:=a.os;have j:=a.tape.1;have p:=a.output;have r:w.drawn+(w'.drawn-w.drawn)=w'.drawn:=by have:=a.tape.2;omega
 cases w';simp only[grow,x3.drewN]at*;subst h1 j p;rw[<-ao,r]
section
variable{α:Type}[Inhabited α]
theorem Bn(enc:α->List x1)(k:Nat)(hk:∀x,(enc x).length=k)(d:Array α):(flatK enc k d).toList=d.toList.flatMap enc:=by
 apply X2;intro t;by_cases h:t<d.size*k
 .have j:0<k:=by
   rcases Q4 k with e|e
   .rw[e]at h;simp at h
   .exact e
  have p:t / k<d.size:=(Nat.div_lt_iff_lt_mul j).2 h;have q:=Nat.mod_lt t j;have r:(flatK enc k d).toList[t]?=σ ((enc d[t / k]!)[t % k]!):=by
   rw[S8,Array.getElem?_eq_getElem (by simpa using h)];have:=get_flatK enc k d t h;rw[getElem!_pos _ t (by simpa using h)]at this;rw[this]
  have s:d.toList[t / k]?=σ d[t / k]!:=by
   rw[S8,Array.getElem?_eq_getElem p,getElem!_pos d _ p]
  have w:(enc d[t / k]!)[t % k]?=σ ((enc d[t / k]!)[t % k]!):=by
   generalize d[t / k]! =z;rw[x6 (by rw[hk];exact q),getElem!_pos (enc z) _ (by rw[hk];exact q)]
  have:=nR (f:=enc) (k:=k) (λa _=>hk a) s w;rw[r,<-this];congr 1;rw[Nat.mul_comm];exact Nat.div_add_mod t k
 .rw[Y0 (by simpa using h),Y0];rw[gu (k:=k) λa _=>hk a];simpa using h
theorem Bo(enc:α->List x1)(k:Nat)(hk:∀x,(enc x).length=k){g m:Nat}{d:Array α}{os:Array Obj}(h:ad w g e cs)(y:d.size*k<=cs.length):
  ad (sortWorldK enc k w g 0 m d os) g e (d.toList.flatMap enc++cs.drop (d.size*k))/\∀r,r<w.heap.size->r≠g->(sortWorldK enc k w g 0 m d os).heap[r]?=w.heap[r]?:=by
 have q:=h.lt;have p:∀r,r<w.heap.size->(sortWorldK enc k w g 0 m d os).heap[r]?=(w.heap.modify g (onCells (putCells id 0 (flatK enc k d))))[r]?:=λr j=>by
  show((w.heap.modify g (onCells (putCells id 0 (flatK enc k d))))++os)[r]?=_;rw[Array.getElem?_append_left (by simpa using j)]
 refine⟨?_,λr j s=>?_⟩
 .unfold ad at h ⊢;rw[p g q,Array.getElem?_modify,if_pos rfl,h];show σ (Obj.cells (putCells id 0 (flatK enc k d) cs.toArray) e (0,0))=_;refine congrArg σ (congrArg (λc=>Obj.cells c e (0,0)) ?_);apply Array.ext';apply X2;intro t;show _=(d.toList.flatMap enc++cs.drop (d.size*k))[t]?;rw[List.getElem?_append,gu (k:=k) λa _=>hk a,S8];unfold putCells;rw[Array.getElem?_mapIdx,List.getElem?_toArray];have I:d.toList.length=d.size:=rfl;by_cases f:t<d.size*k
  .rw[if_pos (by rw[I];exact f),x6 Ω,<-Bn enc k hk,S8,Array.getElem?_eq_getElem (by simpa using f)];simp only[Z7,id];rw[if_pos (by simpa using f),Nat.sub_zero,getElem!_pos _ t (by simpa using f)]
  .rw[if_neg (by rw[I];exact f),List.getElem?_drop,I,show d.size*k+(t-d.size*k)=t by omega];cases z:cs[t]? with
   |none=>rfl
   |some x=>
    simp only[Z7];rw[if_neg Θ]
 .rw[p r j,Array.getElem?_modify,if_neg (Ne.symm s)]
end
theorem Bp{P:W9}{E:Ren}(V:SlLaysF0.n6 P E){α:Type}{f:α->List x1}{k:Nat}{G:α->Prop}{num:α->Int}{cf:α->α->Int}{F:Q1}{cap:Array x1}(aA:∀w,(isAgg (E.t 24)).run P w= .ok true w)(aB:∀w,(Go.sizeOf (E.t 24)).run P w= .ok k w)(h1:∀a,G a->∀u∈f a,u.oneCell'=true)(hk:∀a,G a->(f a).length=k)(aC:∀a b,G a->G b->(cf a b<0↔num a<num b))(ag:Enters P F){w:x3}{g:Nat}{v:x1}{L:List α}(h:ba f k e w g v L)(J:∀a∈L,G a)(ah:L.length<65536)(aD:∀W a b,ae (λr=>r=g) w W->G a->G b->ai P F ([.agg (f a).toArray,.agg (f b).toArray]++cap.toList) W λu aE=>Ext W aE/\u=Δ (cf a b)):
  ai P (E.f 6) [v,.func (.func F) #[] cap] w λ_ w'=>ae (λr=>leadsTo v r) w w'/\∃M,M.Perm L/\(∀(p q:Nat)(x y:α),p<q->M[p]?=σ x->M[q]?=σ y->num x<=num y)/\ba f k e w' g v M:=by
 have aj:Enters P (E.f 6):=λargs w=>V.f6.enters rfl args w;obtain⟨⟨aX,aF⟩,aY⟩:=id h;have ak:∀p c,v= .slice p 0 c->L=[]->ai P (E.f 6) [v,.func (.func F) #[] cap] w λ_ w'=>ae (λr=>leadsTo v r) w w'/\∃M,M.Perm L/\(∀(p q:Nat)(x y:α),p<q->M[p]?=σ x->M[q]?=σ y->num x<=num y)/\ba f k e w' g v M:=λp c K ah=>by
  refine .code aj ?_;rw[K];refine(AnyF.slices_SortFunc_none V p c _ w).mono ?_;rintro aZ w' ⟨rfl,rfl⟩;refine⟨_,rfl,cF.refl _,ae.refl _ _,L,.refl _,λp q x y _ B=>by rw[ah]at B;simp at B,by rw[<-K];exact h⟩
 rcases aF with⟨rfl,aG⟩|⟨c,cs,rfl,C,al,hm,X,aH⟩
 .exact ak _ _ rfl (j4 aG)
 cases Y:L with
 |nil=>subst Y;exact ak _ _ rfl rfl
 |cons a0 a1=>
 rw[<-Y];let β:={a:α // G a};have:Inhabited β:=⟨⟨a0,J a0 (by rw[Y];exact .head _)⟩⟩;let enc:β->List x1:=λx=>f x.1;let d:Array β:=(L.attach.map λx=>(⟨x.1,J x.1 x.2⟩:β)).toArray;have am:d.toList.map Subtype.val=L:=by
  show(L.attach.map λx=>(⟨x.1,J x.1 x.2⟩:β)).map Subtype.val=L;rw[Q0];exact List.attach_map_subtype_val L
 have Q:d.size=L.length:=by simp[d]
 have H:∀x:β,(enc x).length=k:=λx=>hk x.1 x.2;have aI:d.toList.flatMap enc=L.flatMap f:=by
  have N:=congrArg (λl=>l.flatMap f) am;rw[<-N];exact(List.flatMap_map Subtype.val f d.toList).symm
 have R:d.size*k<=cs.length:=by rw[Q,X];exact Y4 k al
 have aJ:HoldsK enc k w g 0 d:=by
  intro j S;rw[size_flatK]at S;have an:j<cs.length:=Ω
  have Z:(flatK enc k d)[j]! =cs[j]:=by
   have N:(flatK enc k d).toList[j]?=σ cs[j]:=by
    rw[Bn enc k H,aI,<-aH,Z9 (by rw[<-Q];exact S),x6 an]
   rw[S8]at N;rw[getElem!_pos _ j (by simpa using S)];rw[Array.getElem?_eq_getElem (by simpa using S)]at N;exact Z2 N
  refine⟨?_,?_⟩
  .show w.cell? ⟨g,0+j,ν⟩=σ ((flatK enc k d)[j]!);rw[Z];exact C.cell (o:=0+j) (by rw[X6];exact x6 an)
  .unfold x3.frozen?;unfold ad at C;rw[C];simp
 have T:∀x y:β,ltOf (λx y:β=>cf x.1 y.1) x y=decide (num x.1<num y.1):=λx y=>by
  unfold ltOf;exact decide_eq_decide.2 (aC x.1 y.1 x.2 y.2)
 have aK:SWO (ltOf λx y:β=>cf x.1 y.1):=
  ⟨λx=>by rw[T];simp,λx y z p q=>by rw[T]at*;simp at*;omega,λx y z p q=>by rw[T]at*;simp at*;omega⟩
 have ao:∀m (d2:Array β) os,d2.size=d.size->ae (λr=>r=g) w (sortWorldK enc k w g 0 m d2 os)/\cF w (sortWorldK enc k w g 0 m d2 os):=λm d2 os I=>by
  obtain⟨a2,ap⟩:=Bo enc k H (m:=m) (os:=os) C (d:=d2) (by rw[I];exact R);have aq:w.heap.size<=(sortWorldK enc k w g 0 m d2 os).heap.size:=by
   show w.heap.size<=((w.heap.modify g _)++os).size;simp
  refine⟨⟨aq,λr o A _ aa=>?_⟩,rfl,⟨rfl,Nat.le_add_right _ _⟩,rfl,aq,λr o A I=>?_⟩
  .rw[ap r (n9.1 A).1 aa];exact A
  .have aa:r≠g:=λhe=>by subst he;unfold ad at C;rw[C]at A;cases A;cases I
   rw[ap r (n9.1 A).1 aa];exact A
 have aL:CmpLays P F cap enc k (λx y:β=>cf x.1 y.1) g 0 d.size w:=λm os aM I x y=>by
  have B:=(aD _ x.1 y.1 (ao m aM os I).1 x.2 y.2).calls ag;have O:([x1.agg (f x.1).toArray,.agg (f y.1).toArray]++cap.toList).toArray= #[.agg (enc x).toArray,.agg (enc y).toArray]++cap:=by
   apply Array.ext';simp[enc]
  rw[O]at B;refine B.mono ?_;rintro _ w' ⟨_,rfl,aN,aO,rfl⟩;exact⟨rfl,grown_of aO aN⟩
 have au:=AnyQ.slices_SortFunc V k aA aB enc H (λx=>h1 x.1 x.2) (λx y:β=>cf x.1 y.1) aK F cap g 0 c d w (λargs w=>ag args w) aL aJ C.lt (by rw[Q];omega);rw[Q]at au;refine .code aj (au.mono ?_);rintro _ w' ⟨rfl,s,n,os,⟨aP,_,K⟩,aQ,rfl⟩;have ab:s.size=d.size:=aP;obtain⟨aR,aS⟩:=ao n s os ab;obtain⟨aT,_⟩:=Bo enc k H (m:=n) (os:=os) C (d:=s) (by rw[ab];exact R);have U:(s.toList.map Subtype.val).Perm L:=by
  have Z:(s.extract 0 L.length).toList=s.toList:=by rw[show L.length=s.size by omega,Array.extract_size]
  have aU:(d.extract 0 L.length).toList=d.toList:=by rw[show L.length=d.size by omega,Array.extract_size]
  rw[Z,aU]at K;rw[<-am];exact K.map _
 have av:=U.length_eq;refine⟨_,rfl,aS,aR.mono λr _ A=>⟨_,_,_,rfl,A.symm⟩,s.toList.map Subtype.val,U,λp q x y aV B aw=>?_,⟨?_,.inr ⟨c,_,by rw[av],aT,by rw[av];exact al,hm,?_,?_⟩⟩,λa O=>hk a (J a (U.mem_iff.1 O))⟩
 .rw[x8,Y9]at B aw;obtain⟨a6,ax,rfl⟩:=B;obtain⟨a7,ay,rfl⟩:=aw;rw[S8]at ax ay;have az:=(n9.1 ax);have ac:=(n9.1 ay);have:=aQ p q (X4 _) aV (by have:=ac.1;omega);rw[getElem!_pos s p az.1,getElem!_pos s q ac.1,az.2,ac.2,T]at this;simpa using this
 .rw[gu (k:=k) λa O=>hk a (J a (U.mem_iff.1 O))]
 .have af:(s.toList.flatMap enc).length=s.size*k:=by rw[gu (k:=k) λa _=>H a];rfl
  rw[r8,af,List.length_drop,ab,X];rw[X]at R;exact Nat.add_sub_cancel' R
 .have af:(s.toList.flatMap enc).length=s.size*k:=by rw[gu (k:=k) λa _=>H a];rfl
  have aW:(List.map Subtype.val s.toList).length*k=(s.toList.flatMap enc).length:=by rw[af,u9];rfl
  rw[aW,List.take_left,List.flatMap_map]
end Go.Vc
namespace Go.Proofs
open Go.Shelf
def Tryz.vH:Go.Shelf.Ren:=⟨λ|6=>276|15=>234|14=>291|28=>269|29=>270|20=>306|21=>307|22=>308|23=>309|24=>310|25=>311|26=>312|27=>313|46=>321|47=>283|48=>284|49=>322|50=>323|57=>326|n=>n,λ|22=>337|24=>312|25=>336|3=>3|39=>228|0=>0|53=>357|55=>58|4=>4|46=>351|45=>350|50=>297|5=>5|9=>9|66=>366|70=>370|76=>390|77=>391|n=>n,λ|n=>n⟩
theorem Tryz.KQ:Go.Proofs.SlLaysF0.n6 Tryz.prog Tryz.vH:={
 mixed:=Ψ,
 f6:=⟨Tryz.f276.name,Φ,Tryz.func276.trans (congrArg σ Ψ)⟩,
 f14:=⟨Tryz.f291.name,Φ,Tryz.func291.trans (congrArg σ Ψ)⟩,
 f15:=Tryz.func234.trans (congrArg σ Ψ),
 f20:=⟨Tryz.f306.name,Φ,Tryz.func306.trans (congrArg σ Ψ)⟩,
 f21:=⟨Tryz.f307.name,Φ,Tryz.func307.trans (congrArg σ Ψ)⟩,
 f22:=⟨Tryz.f308.name,Φ,Tryz.func308.trans (congrArg σ Ψ)⟩,
 f23:=⟨Tryz.f309.name,Φ,Tryz.func309.trans (congrArg σ Ψ)⟩,
 f24:=⟨Tryz.f310.name,Φ,Tryz.func310.trans (congrArg σ Ψ)⟩,
 f25:=⟨Tryz.f311.name,Φ,Tryz.func311.trans (congrArg σ Ψ)⟩,
 f26:=⟨Tryz.f312.name,Φ,Tryz.func312.trans (congrArg σ Ψ)⟩,
 f27:=⟨Tryz.f313.name,Φ,Tryz.func313.trans (congrArg σ Ψ)⟩,
 f28:=Tryz.func269.trans (congrArg σ Ψ),
 f29:=Tryz.func270.trans (congrArg σ Ψ),
 f46:=⟨Tryz.f321.name,Φ,Tryz.func321.trans (congrArg σ Ψ)⟩,
 f47:=Tryz.func283.trans (congrArg σ Ψ),
 f48:=Tryz.func284.trans (congrArg σ Ψ),
 f49:=⟨Tryz.f322.name,Φ,Tryz.func322.trans (congrArg σ Ψ)⟩,
 f50:=⟨Tryz.f323.name,Φ,Tryz.func323.trans (congrArg σ Ψ)⟩,
 f57:=⟨Tryz.f326.name,Φ,Tryz.func326.trans (congrArg σ Ψ)⟩,
 t0:=Tryz.underlying0,
 a0:=Tryz.isAgg0,
 z0:=Tryz.sizeOf0,
 v0:=Tryz.zeroValue0,
 t3:=Tryz.underlying3,
 a3:=Tryz.isAgg3,
 z3:=Tryz.sizeOf3,
 v3:=Tryz.zeroValue3,
 t4:=Tryz.underlying4,
 a4:=Tryz.isAgg4,
 z4:=Tryz.sizeOf4,
 v4:=Tryz.zeroValue4,
 t5:=Tryz.underlying5,
 a5:=Tryz.isAgg5,
 z5:=Tryz.sizeOf5,
 v5:=Tryz.zeroValue5,
 t9:=Tryz.underlying9,
 a9:=Tryz.isAgg9,
 z9:=Tryz.sizeOf9,
 v9:=Tryz.zeroValue9,
 t22:=Tryz.underlying337,
 a22:=Tryz.isAgg337,
 z22:=Tryz.sizeOf337,
 v22:=Tryz.zeroValue337,
 t25:=Tryz.underlying336,
 a25:=Tryz.isAgg336,
 z25:=Tryz.sizeOf336,
 v25:=Tryz.zeroValue336,
 t39:=Tryz.underlying228,
 a39:=Tryz.isAgg228,
 z39:=Tryz.sizeOf228,
 v39:=Tryz.zeroValue228,
 t45:=Tryz.underlying350,
 a45:=Tryz.isAgg350,
 z45:=Tryz.sizeOf350,
 v45:=Tryz.zeroValue350,
 t46:=Tryz.underlying351,
 a46:=Tryz.isAgg351,
 z46:=Tryz.sizeOf351,
 v46:=Tryz.zeroValue351,
 t50:=Tryz.underlying297,
 a50:=Tryz.isAgg297,
 z50:=Tryz.sizeOf297,
 v50:=Tryz.zeroValue297,
 t53:=Tryz.underlying357,
 a53:=Tryz.isAgg357,
 z53:=Tryz.sizeOf357,
 v53:=Tryz.zeroValue357,
 t55:=Tryz.underlying58,
 a55:=Tryz.isAgg58,
 z55:=Tryz.sizeOf58,
 v55:=Tryz.zeroValue58,
 t66:=Tryz.underlying366,
 a66:=Tryz.isAgg366,
 z66:=Tryz.sizeOf366,
 v66:=Tryz.zeroValue366,
 t70:=Tryz.underlying370,
 a70:=Tryz.isAgg370,
 z70:=Tryz.sizeOf370,
 v70:=Tryz.zeroValue370,
 t76:=Tryz.underlying390,
 a76:=Tryz.isAgg390,
 z76:=Tryz.sizeOf390,
 v76:=Tryz.zeroValue390,
 t77:=Tryz.underlying391,
 a77:=Tryz.isAgg391,
 z77:=Tryz.sizeOf391,
 v77:=Tryz.zeroValue391}
def Tryz.vI:Go.Shelf.Ren:=⟨λ|6=>185|15=>234|14=>233|28=>269|29=>270|20=>261|21=>262|22=>263|23=>264|24=>265|25=>266|26=>267|27=>268|46=>282|47=>283|48=>284|49=>285|50=>286|57=>305|n=>n,λ|22=>265|24=>270|25=>280|3=>3|39=>228|0=>0|53=>357|55=>58|4=>4|46=>351|45=>350|50=>297|5=>5|9=>9|66=>366|70=>370|76=>390|77=>391|n=>n,λ|n=>n⟩
theorem Tryz.KR:Go.Proofs.SlLaysF0.n6 Tryz.prog Tryz.vI:={
 mixed:=Ψ,
 f6:=⟨Tryz.f185.name,Φ,Tryz.func185.trans (congrArg σ Ψ)⟩,
 f14:=⟨Tryz.f233.name,Φ,Tryz.func233.trans (congrArg σ Ψ)⟩,
 f15:=Tryz.func234.trans (congrArg σ Ψ),
 f20:=⟨Tryz.f261.name,Φ,Tryz.func261.trans (congrArg σ Ψ)⟩,
 f21:=⟨Tryz.f262.name,Φ,Tryz.func262.trans (congrArg σ Ψ)⟩,
 f22:=⟨Tryz.f263.name,Φ,Tryz.func263.trans (congrArg σ Ψ)⟩,
 f23:=⟨Tryz.f264.name,Φ,Tryz.func264.trans (congrArg σ Ψ)⟩,
 f24:=⟨Tryz.f265.name,Φ,Tryz.func265.trans (congrArg σ Ψ)⟩,
 f25:=⟨Tryz.f266.name,Φ,Tryz.func266.trans (congrArg σ Ψ)⟩,
 f26:=⟨Tryz.f267.name,Φ,Tryz.func267.trans (congrArg σ Ψ)⟩,
 f27:=⟨Tryz.f268.name,Φ,Tryz.func268.trans (congrArg σ Ψ)⟩,
 f28:=Tryz.func269.trans (congrArg σ Ψ),
 f29:=Tryz.func270.trans (congrArg σ Ψ),
 f46:=⟨Tryz.f282.name,Φ,Tryz.func282.trans (congrArg σ Ψ)⟩,
 f47:=Tryz.func283.trans (congrArg σ Ψ),
 f48:=Tryz.func284.trans (congrArg σ Ψ),
 f49:=⟨Tryz.f285.name,Φ,Tryz.func285.trans (congrArg σ Ψ)⟩,
 f50:=⟨Tryz.f286.name,Φ,Tryz.func286.trans (congrArg σ Ψ)⟩,
 f57:=⟨Tryz.f305.name,Φ,Tryz.func305.trans (congrArg σ Ψ)⟩,
 t0:=Tryz.underlying0,
 a0:=Tryz.isAgg0,
 z0:=Tryz.sizeOf0,
 v0:=Tryz.zeroValue0,
 t3:=Tryz.underlying3,
 a3:=Tryz.isAgg3,
 z3:=Tryz.sizeOf3,
 v3:=Tryz.zeroValue3,
 t4:=Tryz.underlying4,
 a4:=Tryz.isAgg4,
 z4:=Tryz.sizeOf4,
 v4:=Tryz.zeroValue4,
 t5:=Tryz.underlying5,
 a5:=Tryz.isAgg5,
 z5:=Tryz.sizeOf5,
 v5:=Tryz.zeroValue5,
 t9:=Tryz.underlying9,
 a9:=Tryz.isAgg9,
 z9:=Tryz.sizeOf9,
 v9:=Tryz.zeroValue9,
 t22:=Tryz.underlying265,
 a22:=Tryz.isAgg265,
 z22:=Tryz.sizeOf265,
 v22:=Tryz.zeroValue265,
 t25:=Tryz.underlying280,
 a25:=Tryz.isAgg280,
 z25:=Tryz.sizeOf280,
 v25:=Tryz.zeroValue280,
 t39:=Tryz.underlying228,
 a39:=Tryz.isAgg228,
 z39:=Tryz.sizeOf228,
 v39:=Tryz.zeroValue228,
 t45:=Tryz.underlying350,
 a45:=Tryz.isAgg350,
 z45:=Tryz.sizeOf350,
 v45:=Tryz.zeroValue350,
 t46:=Tryz.underlying351,
 a46:=Tryz.isAgg351,
 z46:=Tryz.sizeOf351,
 v46:=Tryz.zeroValue351,
 t50:=Tryz.underlying297,
 a50:=Tryz.isAgg297,
 z50:=Tryz.sizeOf297,
 v50:=Tryz.zeroValue297,
 t53:=Tryz.underlying357,
 a53:=Tryz.isAgg357,
 z53:=Tryz.sizeOf357,
 v53:=Tryz.zeroValue357,
 t55:=Tryz.underlying58,
 a55:=Tryz.isAgg58,
 z55:=Tryz.sizeOf58,
 v55:=Tryz.zeroValue58,
 t66:=Tryz.underlying366,
 a66:=Tryz.isAgg366,
 z66:=Tryz.sizeOf366,
 v66:=Tryz.zeroValue366,
 t70:=Tryz.underlying370,
 a70:=Tryz.isAgg370,
 z70:=Tryz.sizeOf370,
 v70:=Tryz.zeroValue370,
 t76:=Tryz.underlying390,
 a76:=Tryz.isAgg390,
 z76:=Tryz.sizeOf390,
 v76:=Tryz.zeroValue390,
 t77:=Tryz.underlying391,
 a77:=Tryz.isAgg391,
 z77:=Tryz.sizeOf391,
 v77:=Tryz.zeroValue391}
theorem Tryz.KT(w:x3):(isAgg (Tryz.vH.t 24)).run Tryz.prog w= .ok true w:=Tryz.isAgg312 w
theorem Tryz.KU(w:x3):(Go.sizeOf (Tryz.vH.t 24)).run Tryz.prog w= .ok 6 w:=Tryz.sizeOf312 w
theorem Tryz.KV:Tryz.prog.funcs[241]?=σ Tryz.f241:=Tryz.func241
theorem Tryz.KW(w:x3):(isAgg (Tryz.vI.t 24)).run Tryz.prog w= .ok true w:=Tryz.isAgg270 w
theorem Tryz.KX(w:x3):(Go.sizeOf (Tryz.vI.t 24)).run Tryz.prog w= .ok 2 w:=Tryz.sizeOf270 w
theorem Tryz.KY:Tryz.prog.funcs[186]?=σ Tryz.f186:=Tryz.func186
end Go.Proofs
namespace Go.Proofs.YtikkpokkcdocoaaGreatDoor
open Go Go.Vc Go.RowKit Go.Proofs Go.Proofs.Tryz
set_option maxRecDepth 100000
def sI{α:Type}(f:α->Int)(L:List α)(a i:Nat):Prop:=∀(p q:Nat)(x y:α),a<=p->p<q->q<i->L[p]?=σ x->L[q]?=σ y->f x<=f y
def pc(L:List (Λ)):Prop:=∀ks∈L,k2 ks
theorem pc.perm{L M:List (Λ)}(h:pc L)(a:M.Perm L):pc M:=λks hk=>h ks (a.mem_iff.1 hk)
theorem KZ{g:Nat}{L:List (Λ)}{i:Nat}(a:y=(i:Int))(h:nS w g v L)(hi:L[i]?=σ ks):
  aa x7 (j5 jf v (Δ y)) w (λp=>aa x7 (u4 cz p) w K)=K (ee ks):=by
 have e:ks.length=6:=by have:=h.2 ks (x5 hi);simpa using this
 rw[dj a jf.u cz.i h (x4.1 hi).1,nQ e (h.range hi)]
abbrev Bq:x1:=.func (.func zg) #[] #[]
theorem sJ{P:W9}{k:o4}{s:ByteArray}{i:Nat}(a:P.underlying t=σ .string)(hi:i<s.size):
  aa P (Instr.index t (.string s) (.int k (i:Int))) w K=K (.int .u8 (s[i].toNat:Int)):=aa.of λw' _=>by
 simp[Instr.index,asIntOf,run_underlying a,hi]
def ej(n:Nat):Nat:=if n=0 then 0 else Nat.log2 n+1
theorem Br(h:n<256):ej n<=8:=by
 unfold ej;by_cases a:n=0
 .rw[if_pos a];omega
 .rw[if_neg a];have e:Nat.log2 n<8:=(Nat.log2_lt a).2 Ω;omega
theorem K0{g:Nat}{L:List (Λ)}(h:nS w g v L)(j:pc L)(s:L.length<65536):
  ai x7 Iv [v,Bq] w λ_ w'=>ae (λr=>leadsTo v r) w w'/\∃M,M.Perm L/\sI gv M 0 M.length/\nS w' g v M:=by
 refine(Bp KQ (G:=k2) (num:=gv) (cf:=il) (cap:=#[]) KT KU (λa _=>Bk) (λa e=>by simp[e.1]) (λa b e f=>(Bl a b (by rw[e.1,f.1]) e.2 f.2).1) (Enters.of x7 KV rfl Ψ) h j s λH a b _ e f=>KP e f).mono ?_;rintro _ w' _ ⟨z,M,A,hu,hm⟩;exact⟨z,M,A,λp q x y _ B _ C E=>hu p q x y B C E,hm⟩
end Go.Proofs.YtikkpokkcdocoaaGreatDoor
namespace Go.Vc
open Go Go.RowKit
set_option maxRecDepth 100000
theorem Keys.str{P:W9}{k:r9}(hk:P.underlying k=σ .string):Keys P k λv=>∃s,v= .string s:=by
 have key:∀s,MapKept.IsKey .string (.string s):=λs=>trivial;refine⟨λw f v ⟨n,h⟩=>?_,λw x ⟨n,h⟩ p q=>?_,λw v ⟨n,h⟩=>?_⟩
 .subst h;exact MapKept.run_checkKey hk (key n) f 9999
 .subst h;rcases MapKept.findNow_spec (key n) p 0 (λe he=>by obtain⟨m,h⟩:=q e he;rw[h];exact key m)with⟨h1,a⟩|⟨j,e,h1,a,r⟩
  .exact .inl ⟨MapKept.run_findKey hk h1,a⟩
  .exact .inr ⟨j,e,by have:=MapKept.run_findKey (P:=P) (w:=w) hk h1;simpa using this,a,r⟩
 .subst h;exact MapKept.run_keyThatStays (d:=.string) (key n)
section
variable{P:W9}{w:x3}
theorem hG{s:Sem x1}(h:∀K:x1->Prop,aa P s w K=K v):cu P s v w:=by
 have h1:aa P s w (λu=>u=v):=(h λu=>u=v).mpr rfl;obtain⟨u,hu,rfl⟩:=h1;exact hu
variable{k e:r9}{G:x1->Prop}
end
end Go.Vc
namespace Go.Proofs.YtikkpokkcdocoaaGreatDoor
open Go Go.Vc Go.RowKit Go.Proofs Go.Proofs.Tryz
set_option maxRecDepth 100000
def gK:Nat->Nat->Λ
 |0,_=>[]
 |n+1,u=>gK n (u / 10)++[48+((u % 10:Nat):Int)]
theorem qo:∀(n u:Nat),(gK n u).length=n
 |0,_=>rfl
 |n+1,u=>by rw[gK,r8,qo n];rfl
theorem K1(n u:Nat):gK (n+2) u=gK n (u / 100)++[48+((u / 10 % 10:Nat):Int),48+((u % 10:Nat):Int)]:=by
 rw[gK,gK,X9];rw[show u / 10 / 10=u / 100 by omega];rfl
theorem Bs:∀(n u:Nat),10 ^ n<=u->u<10 ^ (n+1)->gK (n+1) u=fo u
 |0,u,h1,a=>by
  rw[nK,if_pos (by simpa using a)];simp[gK]
 |n+1,u,h1,a=>by
  have e:(10:Nat) ^ (n+1)=10*10 ^ n:=by rw[Nat.pow_succ,Nat.mul_comm]
  have f:(10:Nat) ^ (n+1+1)=10*10 ^ (n+1):=by rw[Nat.pow_succ,Nat.mul_comm]
  have h:1<=10 ^ n:=Nat.one_le_iff_ne_zero.2 Ξ;rw[nK,if_neg Ω,gK,Bs n (u / 10) Ω Ω]
def gw(a C:Λ)(nd u:Nat):Prop:=nd<=a.length/\C.length=a.length/\∃t,C.drop nd=t/\a=gK nd u++t
theorem gw.two{a:Λ}{nd u:Nat}(h:gw a C (nd+2) u):gw a ((C.set (nd+1) (48+((u % 10:Nat):Int))).set nd (48+((u / 10 % 10:Nat):Int))) nd (u / 100):=by
 obtain⟨h1,e,t,f,j⟩:=h;refine⟨Ω,by simp[e],_,rfl,?_⟩;rw[j,K1,X9];congr 1;rw[List.drop_set,if_neg Ω,List.drop_set,if_neg Ω,<-f];have p:nd<C.length:=Ω
 have q:nd+1<C.length:=Ω
 rw[X8 p,X8 q,U2,S3];rfl
theorem gw.one{a:Λ}{u:Nat}(h:gw a C 1 u):C.set 0 (48+((u % 10:Nat):Int))=a:=by
 obtain⟨h1,e,t,f,j⟩:=h;rw[j,gK,gK,List.nil_append,<-f];cases C with
 |nil=>simp at e;omega
 |cons c C=>simp
theorem gw.zero{a:Λ}{u:Nat}(h:gw a C 0 u):C=a:=by
 obtain⟨h1,j,t,e,f⟩:=h;rw[f,gK,List.nil_append,<-e,List.drop_zero]
def jS:ByteArray:=⟨#[48,48,48,49,48,50,48,51,48,52,48,53,48,54,48,55,48,56,48,57,49,48,49,49,49,50,49,51,49,52,49,53,49,54,49,55,49,56,49,57,50,48,50,49,50,50,50,51,50,52,50,53,50,54,50,55,50,56,50,57,51,48,51,49,51,50,51,51,51,52,51,53,51,54,51,55,51,56,51,57,52,48,52,49,52,50,52,51,52,52,52,53,52,54,52,55,52,56,52,57,53,48,53,49,53,50,53,51,53,52,53,53,53,54,53,55,53,56,53,57,54,48,54,49,54,50,54,51,54,52,54,53,54,54,54,55,54,56,54,57,55,48,55,49,55,50,55,51,55,52,55,53,55,54,55,55,55,56,55,57,56,48,56,49,56,50,56,51,56,52,56,53,56,54,56,55,56,56,56,57,57,48,57,49,57,50,57,51,57,52,57,53,57,54,57,55,57,56,57,57]⟩
theorem Bt:jS.size=200:=by decide+kernel
theorem K2:∀q:Fin 100,jS.data.toList[2*q.val]?=σ (UInt8.ofNat (48+q.val / 10))/\jS.data.toList[2*q.val+1]?=σ (UInt8.ofNat (48+q.val % 10)):=by decide+kernel
theorem vJ{q:Nat}(e:q<100):(∀h,(jS[2*q]'h).toNat=48+q / 10)/\∀h,(jS[2*q+1]'h).toNat=48+q % 10:=by
 obtain⟨h1,f⟩:=K2 ⟨q,e⟩;refine⟨λh=>?_,λh=>?_⟩
 .have a:=(x4.1 h1).2;have:jS[2*q]=UInt8.ofNat (48+q / 10):=a;rw[this,UInt8.toNat_ofNat'];omega
 .have a:=(x4.1 f).2;have:jS[2*q+1]=UInt8.ofNat (48+q % 10):=a;rw[this,UInt8.toNat_ofNat'];omega
theorem wrap_u32{x:Int}(h1:0<=x)(a:x<4294967296):o4.u32.wrap x=x:=by
 simp[o4.wrap,o4.bits,o4.signed];omega
def jT(w:x3)(g o:Nat)(a C e:Λ):Prop:=ad w g mo (ints .u8 (a++C++e))/\a.length=o
theorem vK{g o c i:Nat}{a:o4}(e:y=(i:Int))(hi:i<n):
  aa x7 (j5 cH (.slice (σ ⟨g,o,ν⟩) n c) (.int a y)) w K=K (.pointer (σ ⟨g,o+i,ν⟩)):=by
 subst e;rw[e3 cH.u cD.i hi (λ_=>rfl),T0]
theorem vL{g o i:Nat}{x:Int}{a f:Λ}{K:Unit->x3->Prop}(h:jT w g o a C f)(hi:i<C.length)(p:∀w',ae (λr=>r=g) w w'->jT w' g o a (C.set i x) f->K () w'):aC x7 (o6 cD (.pointer (σ ⟨g,o+i,ν⟩)) (.int .u8 x)) w K:=by
 obtain⟨h,rfl⟩:=h;refine bk (g:=g) (o:=a.length+i) cD.i rfl rfl h Θ λw' q I j=>p w' q ⟨?_,rfl⟩;have e:(ints .u8 (a++C++f)).set (a.length+i) (.int .u8 x)=ints .u8 (a++C.set i x++f):=by
  unfold ints;rw[<-U6,X9,S0 _ _ Ω,S3,List.set_append_left _ _ hi,X9]
 rw[e]at j;exact j
theorem nT{g o c nd q i:Nat}{s e t:Int}{f h:Λ}{K:x3->Prop}(x:jT w g o f C h)(X:C.length=n)(Y:n<=1000)(Z:nd<=n)(h1:(nd:Int)-s=((i+1:Nat):Int))(B:(nd:Int)-e=(i:Int))(E:i+1<n)(F:t=((2*q:Nat):Int))(j:q<100)(G:∀w',ae (λr=>r=g) w w'->jT w' g o f ((C.set (i+1) (48+((q % 10:Nat):Int))).set i (48+((q / 10:Nat):Int))) h->K w'):
  ev w λU=>
  aa x7 (aJ .sub ah false true (Δ (nd:Int)) (Δ s)) U λH=>
  aa x7 (aJ .sub ah false true (Δ (nd:Int)) (Δ e)) U λy=>
  aa x7 (aJ .add oJ false true (.int .u32 t) (.int .u32 1)) U λJ=>
  aa x7 (Instr.index cZ (.string jS) J) U λt50=>
  aa x7 (Instr.index cZ (.string jS) (.int .u32 t)) U λz=>
  aa x7 (j5 cH (.slice (σ ⟨g,o,ν⟩) n c) H) U λt53=>
  aC x7 (o6 cD t53 t50) U λ(_:Unit)a=>
   (Ext U a\/cu x7 (Instr.index cZ (.string jS) (.int .u32 t)) z a/\cu x7 (aJ .sub ah false true (Δ (nd:Int)) (Δ e)) y a/\True)/\
  aa x7 (j5 cH (.slice (σ ⟨g,o,ν⟩) n c) y) a λL=>
   aC x7 (o6 cD L z) a λ(_:Unit)p=>K p:=by
 subst F;intro U A _ _;have M:ae (λr=>r=g) w U:=A.V _;have N:jT U g o f C h:=⟨x.1.ext A,x.2⟩;rw[dD,wrap_i64 Ω Ω,dD,wrap_i64 Ω Ω,aP,wrap_u32 Ω Ω];rw[show((2*q:Nat):Int)+1=((2*q+1:Nat):Int) by omega];have I:=Bt;rw[sJ cZ.u (by rw[I];omega),sJ cZ.u (by rw[I];omega)];rw[(vJ j).1,(vJ j).2,vK h1 E];refine vL N Ω λa O P=>⟨.inr ⟨hG λK=>?_,hG λK=>?_,trivial⟩,?_⟩
 .rw[sJ cZ.u (by rw[I];omega),(vJ j).1]
 .rw[dD,wrap_i64 Ω Ω]
 .rw[vK B Ω];refine vL P Θ λp Q R=>G p ((M.trans O).trans Q) ?_;have S:48+((q % 10:Nat):Int)=((48+q % 10:Nat):Int):=Ω
  have W:48+((q / 10:Nat):Int)=((48+q / 10:Nat):Int):=Ω
  rw[S,W];exact R
theorem gw.pair{a:Λ}{nd u q:Nat}(h:gw a C (nd+2) u)(e:q=u % 100):gw a ((C.set (nd+1) (48+((q % 10:Nat):Int))).set nd (48+((q / 10:Nat):Int))) nd (u / 100):=by
 have:=h.two;rw[show u % 10=q % 10 by omega,show u / 10 % 10=q / 10 by omega]at this;exact this
theorem nU{k:o4}{b:Nat}(e:b≠0):aa x7 (aJ .rem t cx cy (.int k (a:Int)) (.int k (b:Int))) w K=K (.int k ((a % b:Nat):Int)):=by
 rw[rU Ω,Int.tmod_eq_emod_of_nonneg Ω,Int.natCast_emod]
theorem u32_quo{b:Nat}(e:b≠0)(f:a<4294967296):aa x7 (aJ .quo t cx cy (.int .u32 (a:Int)) (.int .u32 (b:Int))) w K=K (.int .u32 ((a / b:Nat):Int)):=by
 have:=Nat.div_le_self a b;rw[rT Ω,Int.tdiv_eq_ediv_of_nonneg Ω,<-Int.natCast_ediv];generalize a / b=m at this ⊢;rw[wrap_u32 Ω Ω]
theorem u64_quo{b:Nat}(e:b≠0)(f:a<18446744073709551616):aa x7 (aJ .quo t cx cy (.int .u64 (a:Int)) (.int .u64 (b:Int))) w K=K (.int .u64 ((a / b:Nat):Int)):=by
 have:=Nat.div_le_self a b;rw[rT Ω,Int.tdiv_eq_ediv_of_nonneg Ω,<-Int.natCast_ediv];generalize a / b=m at this ⊢;rw[wrap_u64 Ω Ω]
theorem nV{b:Nat}(f:a*b<4294967296):aa x7 (aJ .mul t cx cy (.int .u32 (a:Int)) (.int .u32 (b:Int))) w K=K (.int .u32 ((a*b:Nat):Int)):=by
 have e:(a:Int)*(b:Int)=((a*b:Nat):Int):=Ξ
 rw[hV,e];generalize a*b=m at f ⊢;rw[wrap_u32 Ω Ω]
theorem gw.start{u:Nat}(h:C.length=N):gw (gK N u) C N u:=⟨by rw[qo];omega,by rw[qo,h],[],by rw[List.drop_eq_nil_iff];omega,Ξ⟩
theorem K3{g o c u:Nat}{B E:Λ}(ag:jT w g o B C E)(ah:C.length=N)(av:N<=19)(hu:u<10 ^ N):
  ai x7 ID [.slice (σ ⟨g,o,ν⟩) N c,.int .u64 (u:Int)] w λv w'=>v= .tuple #[]/\ae (λr=>r=g) w w'/\jT w' g o B (gK N u) E:=by
 have p:=qo N u;refine az func294 ?_;rw[hy cH.u];refine⟨λak Q J=>∃eV nd:Nat,ak= .int .u64 (eV:Int)/\Q=Δ (nd:Int)/\eV<10 ^ nd/\nd<=N/\ae (λr=>r=g) w J/\∃G,jT J g o B G E/\gw (gK N u) G nd eV,
  λ_ Q _=>(bS Q).toNat,⟨u,N,rfl,rfl,hu,p8 _,ae.refl _ _,C,ag,gw.start ah⟩,?_⟩
 rintro _ _ J ⟨eV,nd,rfl,rfl,H,s,R,G,S,M⟩;have ab:G.length=N:=by rw[M.2.1,p]
 have aw:(10:Nat) ^ nd<=10 ^ 19:=T8 Ω Ω;have al:eV<18446744073709551616:=Ω
 have ay:(8:Int)=((8:Nat):Int):=rfl;rw[cI,aj];refine⟨λam=>?_,λam=>?_⟩
 .obtain⟨m,rfl⟩:∃m,nd=m+8:=⟨nd-8,Ω⟩;have aA:eV % 100000000<100000000:=Nat.mod_lt _ Ω;rw[show V7 .u64 100000000=V7 .u64 ((100000000:Nat):Int)from rfl,nU Ω,fl fj.u oJ.u,wrap_u32 Ω Ω,u64_quo Ω al];rw[show V7 .u32 10000=V7 .u32 ((10000:Nat):Int)from rfl,show V7 .u32 100=V7 .u32 ((100:Nat):Int)from rfl,show V7 .u32 2=V7 .u32 ((2:Nat):Int)from rfl];rw[u32_quo Ω Ω,nU Ω,u32_quo Ω Ω,nV Ω,nU Ω,nV Ω,u32_quo Ω Ω,nV Ω,nU Ω,nV Ω];refine nT (i:=m+6) (q:=eV % 100000000 % 10000 % 100) S ab Ω s Ω Ω Ω Ω Ω λU x z=>?_;have f:=M.pair (q:=eV % 100000000 % 10000 % 100) Ω;have I:=f.2.1.trans p;refine nT (i:=m+4) (q:=eV % 100000000 % 10000 / 100) z I Ω s Ω Ω Ω Ω Ω λA j h=>?_;have e:=gw.pair (nd:=m+4) (q:=eV % 100000000 % 10000 / 100) f Ω;have ac:=e.2.1.trans p;refine nT (i:=m+2) (q:=eV % 100000000 / 10000 % 100) h ac Ω s Ω Ω Ω Ω Ω λan V O=>?_;have ad:=gw.pair (nd:=m+2) (q:=eV % 100000000 / 10000 % 100) e Ω;have ao:=ad.2.1.trans p;refine nT (i:=m) (q:=eV % 100000000 / 10000 / 100) O ao Ω s Ω Ω Ω Ω Ω λaB ap aq=>?_;have af:=gw.pair (nd:=m) (q:=eV % 100000000 / 10000 / 100) ad Ω;rw[dD,wrap_i64 Ω Ω];refine⟨⟨eV / 100000000,m,rfl,by congr 1;omega,?_,Ω,(((R.trans x).trans j).trans V).trans ap,_,aq,?_⟩,by simp only[bS];omega⟩
  .rw[Nat.pow_add]at H;exact Nat.div_lt_of_lt_mul (by rw[Nat.mul_comm];exact H)
  .rw[show eV / 100 / 100 / 100 / 100=eV / 100000000 by omega]at af;exact af
 .have aC:nd<8:=Ω
  have aD:(10:Nat) ^ nd<=10 ^ 7:=T8 Ω Ω;rw[fl fj.u oJ.u,wrap_u32 Ω Ω];refine iA (λa b U=>∃eW m:Nat,a=Δ (m:Int)/\b= .int .u32 (eW:Int)/\eW<10 ^ m/\m<4/\m<=N/\ae (λr=>r=g) w U/\∃P,jT U g o B P E/\gw (gK N u) P m eW) ?_ ?_
  rotate_left
  .intro ax K;rw[cI,aj];refine⟨λW=>?_,λW=>K _ _ _ ⟨eV,nd,rfl,rfl,H,Ω,s,R,G,S,M⟩⟩;obtain⟨m,rfl⟩:∃m,nd=m+4:=⟨nd-4,Ω⟩;rw[show V7 .u32 10000=V7 .u32 ((10000:Nat):Int)from rfl,show V7 .u32 100=V7 .u32 ((100:Nat):Int)from rfl,show V7 .u32 2=V7 .u32 ((2:Nat):Int)from rfl];rw[nU Ω,u32_quo Ω Ω,u32_quo Ω Ω,nV Ω,nU Ω,nV Ω];refine nT (i:=m+2) (q:=eV % 10000 % 100) S ab Ω s Ω Ω Ω Ω Ω λU x z=>?_;have f:=M.pair (q:=eV % 10000 % 100) Ω;have I:=f.2.1.trans p;refine nT (i:=m) (q:=eV % 10000 / 100) z I Ω s Ω Ω Ω Ω Ω λA j h=>?_;have e:=gw.pair (nd:=m) (q:=eV % 10000 / 100) f Ω;rw[dD,wrap_i64 Ω Ω];refine K _ _ _ ⟨eV / 10000,m,by congr 1;omega,rfl,?_,Ω,Ω,(R.trans x).trans j,_,h,?_⟩
   .rw[Nat.pow_add]at H;exact Nat.div_lt_of_lt_mul (by rw[Nat.mul_comm];exact H)
   .rw[show eV / 100 / 100=eV / 10000 by omega]at e;exact e
  rintro _ _ U ⟨eW,m,rfl,rfl,X,aE,Y,x,P,z,f⟩;have I:=f.2.1.trans p;have aF:(10:Nat) ^ m<=10 ^ 3:=T8 Ω Ω;refine iA (λa b A=>∃L m:Nat,a=Δ (m:Int)/\b= .int .u32 (L:Int)/\L<10 ^ m/\m<2/\m<=N/\ae (λr=>r=g) w A/\∃Z,jT A g o B Z E/\gw (gK N u) Z m L) ?_ ?_
  rotate_left
  .intro ax K;rw[cI,aj];refine⟨λW=>?_,λW=>K _ _ _ ⟨eW,m,rfl,rfl,X,Ω,Y,x,P,z,f⟩⟩;obtain⟨m,rfl⟩:∃bU,m=bU+2:=⟨m-2,Ω⟩;rw[show V7 .u32 100=V7 .u32 ((100:Nat):Int)from rfl,show V7 .u32 2=V7 .u32 ((2:Nat):Int)from rfl];rw[nU Ω,nV Ω,u32_quo Ω Ω];refine nT (i:=m) (q:=eW % 100) z I Ω Y Ω Ω Ω Ω Ω λA j h=>?_;have e:=f.pair (q:=eW % 100) rfl;rw[dD,wrap_i64 Ω Ω];refine K _ _ _ ⟨eW / 100,m,by congr 1;omega,rfl,?_,Ω,Ω,x.trans j,_,h,e⟩;rw[Nat.pow_add]at X;exact Nat.div_lt_of_lt_mul (by rw[Nat.mul_comm];exact X)
  rintro _ _ A ⟨L,m,rfl,rfl,aa,aG,Y,j,Z,h,e⟩;have ac:=e.2.1.trans p;rw[bP,aj];refine⟨λau=>?_,λau=>?_⟩
  .obtain rfl:m=1:=Ω
   have aa:L<10:=by simpa using aa
   rw[aP,wrap_u32 Ω Ω,fl oJ.u cD.u,wrap_u8 Ω Ω,vK (y:=0) (i:=0) rfl Ω];refine vL h Ω λan V O=>?_;have:=e.one;rw[Nat.mod_eq_of_lt aa]at this;rw[this]at O;exact⟨rfl,j.trans V,O⟩
  .obtain rfl:m=0:=Ω
   rw[e.zero]at h;exact⟨rfl,j,h⟩
def qp:Λ:=[1,10,100,1000,10000,100000,1000000,10000000,100000000,1000000000,10000000000,100000000000,1000000000000,10000000000000,100000000000000,1000000000000000,10000000000000000,100000000000000000,1000000000000000000,10000000000000000000]
def e6(w:x3):Prop:=w.rangeAt 1 0 (ints .u64 qp)
theorem e6.ext(h:e6 w)(a:Ext w w'):e6 w':=ns a h
theorem K4:∀k:Nat,k<20->qp[k]?=σ (((10 ^ k:Nat)):Int):=Φ
theorem Bu{s:Nat}(h:2 ^ s<=n):ej n=s+ej (n / 2 ^ s):=by
 have I:=Nat.two_pow_pos s;have h1:n / 2 ^ s≠0:=by have:=Nat.div_pos h I;omega
 have f:n≠0:=Ω
 unfold ej;rw[if_neg f,if_neg h1];have e:Nat.log2 n=Nat.log2 (n / 2 ^ s)+s:=by
  refine(Nat.log2_eq_iff f).2 ⟨?_,?_⟩
  .rw[Nat.pow_add];have:=Y4 (2 ^ s) (Nat.log2_self_le h1);have:=Nat.div_mul_le_self n (2 ^ s);omega
  .have j:=Nat.lt_log2_self (n:=n / 2 ^ s);rw[show Nat.log2 (n / 2 ^ s)+s+1=(Nat.log2 (n / 2 ^ s)+1)+s by omega,Nat.pow_add];have:=Y4 (2 ^ s) (show n / 2 ^ s+1<=2 ^ (Nat.log2 (n / 2 ^ s)+1) by omega);have p:=Nat.lt_div_mul_add I (a:=n);rw[U8]at this;omega
 omega
def qq:ByteArray:=⟨#[0,1,2,2,3,3,3,3,4,4,4,4,4,4,4,4,5,5,5,5,5,5,5,5,5,5,5,5,5,5,5,5,6,6,6,6,6,6,6,6,6,6,6,6,6,6,6,6,6,6,6,6,6,6,6,6,6,6,6,6,6,6,6,6,7,7,7,7,7,7,7,7,7,7,7,7,7,7,7,7,7,7,7,7,7,7,7,7,7,7,7,7,7,7,7,7,7,7,7,7,7,7,7,7,7,7,7,7,7,7,7,7,7,7,7,7,7,7,7,7,7,7,7,7,7,7,7,7,8,8,8,8,8,8,8,8,8,8,8,8,8,8,8,8,8,8,8,8,8,8,8,8,8,8,8,8,8,8,8,8,8,8,8,8,8,8,8,8,8,8,8,8,8,8,8,8,8,8,8,8,8,8,8,8,8,8,8,8,8,8,8,8,8,8,8,8,8,8,8,8,8,8,8,8,8,8,8,8,8,8,8,8,8,8,8,8,8,8,8,8,8,8,8,8,8,8,8,8,8,8,8,8,8,8,8,8,8,8,8,8,8,8,8,8,8,8,8,8,8,8,8,8,8,8,8,8]⟩
theorem K5:qq.size=256:=by decide+kernel
theorem K6:∀q:Fin 256,qq.data.toList[q.val]?=σ (UInt8.ofNat (ej q.val)):=by decide+kernel
theorem K7{q:Nat}(a:q<256):∀h,(qq[q]'h).toNat=ej q:=λh=>by
 have h1:=K6 ⟨q,a⟩;have e:=(x4.1 h1).2;have:qq[q]=UInt8.ofNat (ej q):=e;have f:=Br a;rw[this,UInt8.toNat_ofNat'];omega
theorem K8(E:n<18446744073709551616):ai x7 Iq [.int .u64 (n:Int)] w λv w'=>v=Δ (ej n:Int)/\Ext w w':=by
 refine az func270 ?_;have step:∀{s x m:Nat}{ax:x1->x1->x3->Prop}{y c:Int},s<64->x<18446744073709551616->m+ej x=ej n->m<=64->y=(2 ^ s:Nat)->c=(s:Int)->2 ^ s<=18446744073709551615->(∀a bU:Nat,a<2 ^ s\/(a=x / 2 ^ s/\bU=m+s)->a<=x->bU+ej a=ej n->bU<=m+s->ax (.int .u64 (a:Int)) (Δ (bU:Int)) w)->
   aa x7 (aJ .geq fj false true (.int .u64 (x:Int)) (.int .u64 y)) w λt4=>
    Split t4 (aa x7 (aJ .shr fj false true (.int .u64 (x:Int)) (.int .u64 c)) w λr=>aa x7 (aJ .add ah false true (Δ (m:Int)) (Δ c)) w λz=>ax r z w) (ax (.int .u64 (x:Int)) (Δ (m:Int)) w):=by
  intro s x m ax y c I f hm G A B p e;subst A B;rw[cI,aj];refine⟨λh=>?_,λh=>e x m (.inl Ω) (p8 _) hm Ω⟩;rw[kY I,aP,wrap_i64 Ω Ω];have:=Bu (n:=x) (s:=s) Ω;have:=e (x / 2 ^ s) (m+s) (.inr ⟨rfl,rfl⟩) (Nat.div_le_self _ _) Ω Ω;exact this
 refine iA (λx m J=>w=J/\∃a bU:Nat,x= .int .u64 (a:Int)/\m=Δ (bU:Int)/\a<4294967296/\bU+ej a=ej n/\bU<=32) ?_ ?_
 rotate_left
 .intro ax e;rw[cI,aj];refine⟨λh=>?_,λh=>e _ _ _ ⟨rfl,n,0,rfl,rfl,Ω,Ω,Ω⟩⟩;rw[show V7 .u64 32=V7 .u64 ((32:Nat):Int)from rfl,kY Ω];have:=Bu (n:=n) (s:=32) Ω;exact e _ _ _ ⟨rfl,n / 2 ^ 32,32,rfl,rfl,Ω,Ω,Ω⟩
 rintro _ _ _ ⟨rfl,x,m,rfl,rfl,f,hm,q⟩;refine iA (λx m J=>w=J/\∃a bU:Nat,x= .int .u64 (a:Int)/\m=Δ (bU:Int)/\a<65536/\bU+ej a=ej n/\bU<=48) ?_ ?_
 rotate_left
 .intro ax e;refine step (s:=16) Ω Ω hm Ω Ω Ω Ω λa bU h1 p j C=>e _ _ _ ⟨rfl,a,bU,rfl,rfl,?_,j,Ω⟩;rcases h1 with h1|⟨h1,_⟩<;>omega
 rintro _ _ _ ⟨rfl,x,m,rfl,rfl,f,hm,q⟩;refine iA (λx m J=>w=J/\∃a bU:Nat,x= .int .u64 (a:Int)/\m=Δ (bU:Int)/\a<256/\bU+ej a=ej n/\bU<=56) ?_ ?_
 rotate_left
 .intro ax e;refine step (s:=8) Ω Ω hm Ω Ω Ω Ω λa bU h1 p j C=>e _ _ _ ⟨rfl,a,bU,rfl,rfl,?_,j,Ω⟩;rcases h1 with h1|⟨h1,_⟩<;>omega
 rintro _ _ _ ⟨rfl,x,m,rfl,rfl,f,hm,q⟩;have I:=K5;have H:=Br f;rw[fl fj.u cD.u,wrap_u8 Ω Ω];refine(sJ (s:=qq) cZ.u (by rw[I];omega)).mpr ?_;rw[K7 f,fl cD.u ah.u,wrap_i64 Ω Ω,aP,wrap_i64 Ω Ω];exact⟨by congr 1;omega,Ext.refl _⟩
theorem Bv{k:o4}(f:n<64):aa x7 (aJ .shr t cx cy (Δ (a:Int)) (.int k (n:Int))) w K=K (Δ ((a / 2 ^ n:Nat):Int)):=aa.of λw' _=>by
 have e:(a:Int).fdiv (2 ^ min n X7.bits)=((a / 2 ^ n:Nat):Int):=by
  have:min n X7.bits=n:=R5 (by show n<=64;omega);rw[this,Int.fdiv_eq_ediv_of_nonneg _ (by exact Int.le_of_lt (Int.pow_pos Ω))];simp
 simp only[aJ,eqGuard,binOp,Op.shift,u6,e];rfl
theorem K9:∀L:Fin 64,7<=L.val->2 ^ L.val<=10 ^ (L.val*78913 / 262144+1)/\10 ^ (L.val*78913 / 262144)<=10*2 ^ (L.val-1)/\1<=L.val*78913 / 262144/\L.val*78913 / 262144<19:=by decide+kernel
theorem La{d:Nat}(y:e6 w)(h1:100<=d)(E:d<9223372036854775808):ai x7 IC [.int .u64 (d:Int)] w λv w'=>Ext w w'/\∃n:Nat,v=Δ ((n+1:Nat):Int)/\n<19/\10 ^ n<=d/\d<10 ^ (n+1):=by
 have j:d≠0:=Ω
 have p:ej d=Nat.log2 d+1:=by unfold ej;rw[if_neg j]
 have G:2 ^ (ej d-1)<=d:=by rw[p];exact Nat.log2_self_le j
 have H:d<2 ^ ej d:=by rw[p];exact Nat.lt_log2_self
 have z:7<=ej d:=by
  by_cases h:7<=ej d
  .exact h
  .have:2 ^ ej d<=2 ^ 6:=T8 Ω Ω;omega
 have A:ej d<64:=by
  by_cases h:ej d<64
  .exact h
  .have:2 ^ 63<=2 ^ (ej d-1):=T8 Ω Ω;omega
 obtain⟨B,q,t3,t4⟩:=K9 ⟨ej d,A⟩ z;simp only at B q t3 t4;refine az func293 ?_;refine(K8 Ω).mono ?_;rintro _ J _ ⟨rfl,a⟩;generalize ej d=L at*;refine ai.mono (K:=λv U=>v=Δ ((L*78913 / 262144:Nat):Int)/\Ext J U) ?_ ?_
 .refine az func314 ?_;rw[hV,wrap_i64 Ω Ω,show V7 .u64 18=V7 .u64 ((18:Nat):Int)from rfl,show(L:Int)*78913=((L*78913:Nat):Int) by omega,Bv Ω];exact⟨rfl,Ext.refl _⟩
 rintro _ U _ ⟨rfl,e⟩;generalize L*78913 / 262144=t at*;have C:=K4 t Ω;rw[uX (t:=rS) rS.u fj.i Ω,aB Ψ (by rw[T0];exact((y.ext a).ext e) _ _ (kV C)),cI];refine ai.mono (K:=λv r=>v=Δ ((if 10 ^ t<=d then 1 else 0:Nat):Int)/\Ext U r) ?_ ?_
 .refine az func315 ?_;rw[aj];refine⟨λh=>⟨by rw[if_pos Ω];rfl,Ext.refl _⟩,λh=>⟨by rw[if_neg Ω];rfl,Ext.refl _⟩⟩
 rintro _ r _ ⟨rfl,x⟩;rw[aP];by_cases f:10 ^ t<=d
 .rw[if_pos f,wrap_i64 Ω Ω];exact⟨(a.trans e).trans x,t,by congr 1,t4,f,Ω⟩
 .rw[if_neg f,wrap_i64 Ω Ω];obtain⟨s,rfl⟩:∃s,t=s+1:=⟨t-1,Ω⟩;rw[Nat.pow_succ]at q;exact⟨(a.trans e).trans x,s,by congr 1,Ω,Ω,Ω⟩
theorem Bw{k a:o4}{x:Int}{i:Nat}{s:ByteArray}(e:x=(i:Int))(f:y=(j:Int))(p:x7.underlying t=σ .string)(q:i<=j)(r:j<=s.size):
  aa x7 (V6 t (.string s) (σ (.int k x)) (σ (.int a y)) ν) w K=K (.string (s.extract i j)):=aa.of λw' _=>by
 subst e f;have z:=rW (P:=x7) w' (sl:=false) (n:=s.size) (c:=s.size) (low:=σ (.int k (i:Int))) (high:=σ (.int a (j:Int))) (mx:=ν) (l:=i) (h:=j) (m:=s.size) ⟨k,rfl⟩ ⟨a,rfl⟩ eU q r (p8 _);simp[V6,Instr.slice,run_underlying p,z]
theorem Lb:∀q:Fin 100,jS.extract (2*q.val) (2*q.val+2)=strOfNums [48+((q.val / 10:Nat):Int),48+((q.val % 10:Nat):Int)]:=by decide+kernel
def Bx:ByteArray:=⟨#[48,49,50,51,52,53,54,55,56,57,97,98,99,100,101,102,103,104,105,106,107,108,109,110,111,112,113,114,115,116,117,118,119,120,121,122]⟩
theorem Lc:∀q:Fin 10,Bx.extract q.val (q.val+1)=strOfNums [48+(q.val:Int)]:=by decide+kernel
theorem By(h:n<10):fo n=[48+(n:Int)]:=by rw[nK,if_pos h,Nat.mod_eq_of_lt h];rfl
theorem Ld(h1:10<=n)(a:n<100):fo n=[48+((n / 10:Nat):Int),48+((n % 10:Nat):Int)]:=by
 rw[nK,if_neg Ω,By Ω];rfl
theorem Le(a:n<100):ai x7 IB [Δ (n:Int)] w λv w'=>v=bR (fo n)/\Ext w w':=by
 refine az func292 ?_;rw[aQ,aj];refine⟨λh=>?_,λh=>?_⟩
 .rw[aP,wrap_i64 Ω Ω];refine(Bw (s:=Bx) (i:=n) (j:=n+1) rfl Ω cZ.u Ω (by show n+1<=36;omega)).mpr ?_;rw[Lc ⟨n,Ω⟩,By Ω];exact⟨rfl,Ext.refl _⟩
 .rw[hV,wrap_i64 Ω Ω,hV,wrap_i64 Ω Ω,aP,wrap_i64 Ω Ω];refine(Bw (s:=jS) (i:=2*n) (j:=2*n+2) Ω Ω cZ.u Ω (by rw[Bt];omega)).mpr ?_;rw[Lb ⟨n,a⟩,Ld Ω a];exact⟨rfl,Ext.refl _⟩
theorem Lf{g:Nat}{f h:Λ}(a:jT w g 1 f C h)(p:C.length<=23):aH .u8 w (.slice (σ ⟨g,1,ν⟩) C.length 23) C:=by
 obtain⟨a,q⟩:=a;refine⟨Ξ,g,1,_,23,rfl,p,by simp[maxLen],λ_=>rfl,λj v e=>?_⟩;have r:j<C.length:=by have:=(x4.1 e).1;simpa using this
 refine a.cell ?_;rw[ints,Z4,Z4,Y1 Θ,Y2 Θ,u9,q,S3];exact e
theorem Bz{g m:Nat}(a:y=((m+2:Nat):Int))(hm:m<=22):
  aa x7 (V6 mo (Γ g) (σ (Δ 1)) (σ (Δ y)) ν) w K=K (.slice (σ ⟨g,1,ν⟩) (m+1) 23):=by
 subst a;have:=rX (w:=w) (b:=g) (o:=0) (low:=σ (Δ 1)) (high:=σ (Δ ((m+2:Nat):Int))) (mx:=ν) (l:=1) (h:=m+2) (m:=24) (K:=K) mo.u cD.i ⟨_,rfl⟩ ⟨_,rfl⟩ eU Ω Ω Ω;rw[this,if_neg Ω];rfl
theorem Lg(q:e6 w)(s:n<9223372036854775808):ai x7 Iw [Δ (n:Int),Δ 10] w λv w'=>v=bR (fo n)/\Ext w w':=by
 refine az func278 ?_;rw[bd];refine(aj).mpr ⟨λ_=>?_,λh=>absurd rfl h⟩;refine aT (λv J=>w=J/\v= .bool (decide (n<100))) ?_ ?_
 rotate_left
 .intro ax a;rw[mp,aj];refine⟨λ_=>?_,λh=>Ω⟩;rw[aQ];exact a _ _ ⟨rfl,by congr 1;rw[U1,decide_eq_true_eq,decide_eq_true_eq];omega⟩
 rintro _ _ ⟨rfl,rfl⟩;rw[aj];refine⟨λh=>?_,λh=>?_⟩
 .exact (Le h).mono λ_ _ _ h=>h
 refine bz mo.i λg J E f x=>?_;rw[fl al.u fj.u,wrap_u64 Ω Ω];refine aT (λv U=>J=U/\v= .int .u64 (n:Int)) ?_ ?_
 rotate_left
 .intro ax a;rw[aQ,aj];exact⟨λh=>Ω,λ_=>a _ _ ⟨rfl,rfl⟩⟩
 rintro _ _ ⟨rfl,rfl⟩;refine(La (q.ext f) Ω s).mono ?_;rintro _ U _ ⟨j,m,rfl,hm,y,p⟩;rw[aP,wrap_i64 Ω Ω];rw[Bz (m:=m) Ω Ω];have z:jT U g 1 [0] (p9 (m+1) 0) (p9 (22-m) 0):=by
  refine⟨?_,rfl⟩;have e:[0]++p9 (m+1) (0:Int)++p9 (22-m) 0=p9 24 0:=by
   rw[show[(0:Int)]=p9 1 0 from rfl,List.replicate_append_replicate,List.replicate_append_replicate];congr 1;omega
  rw[e];exact x.ext j
 refine(K3 (N:=m+1) z Ξ Ω p).mono ?_;rintro _ G _ ⟨rfl,A,B⟩;refine cn Ω ?_;rw[aP,wrap_i64 Ω Ω];rw[Bz (m:=m) Ω Ω];have C:=qo (m+1) n;have I:=Lf B Ω;rw[C]at I;rw[vg cH.u cD.u cZ.u I,Bs m n y p];refine⟨rfl,(f.trans j).then A λr H he=>?_⟩;have he:r=g:=he;omega
theorem Lh(a:e6 w)(e:n<9223372036854775808):ai x7 uO [Δ (n:Int)] w λv w'=>v=bR (fo n)/\Ext w w':=by
 refine az func212 ?_;refine ai.mono (K:=λv w'=>v=bR (fo n)/\Ext w w') ?_ (λ_ _ _ h=>h);refine az func252 ?_;exact(Lg a e).mono λ_ _ _ h=>h
theorem e6.V(h:e6 w)(a:ae S w w')(e:¬S 1):e6 w':=hx a e h
def dk(w:x3)(g gs:Nat)(A:af)(B:af)(clean:Bool)(s:Option aD):Prop:=match s with
 |some s=>df w g gs A B s clean
 |none=>eD w g gs A B
theorem fS.of{g:Nat}{A:af}{B:af}{s:Option aD}(h:fS w g gs A B clean s w'):ae (bA g gs A) w w'/\dk w' g gs A B clean s:=h
theorem fS.mk{g:Nat}{A:af}{B:af}{s:Option aD}(h:ae (bA g gs A) w w')(a:dk w' g gs A B clean s):fS w g gs A B clean s w':=⟨h,a⟩
theorem dk.V{g:Nat}{A:af}{B:af}{s:Option aD}(h:dk w g gs A B clean s)(a:ae S w w')(e:∀r,bA g gs A r->¬S r)(f:∀r,cA g gs A B r->¬S r):dk w' g gs A B clean s:=by
 cases s with
 |none=>exact eD.V (g:=g) (gs:=gs) (A:=A) (B:=B) h a e f
 |some s=>exact df.V (g:=g) (gs:=gs) (A:=A) (B:=B) (s:=s) (clean:=clean) h a e f
theorem dk.ext{g:Nat}{A:af}{B:af}{s:Option aD}(h:dk w g gs A B clean s)(a:Ext w w'):dk w' g gs A B clean s:=h.V (a.V λ_=>False) (λ_ _ h=>h) λ_ _ h=>h
theorem dk.side{g:Nat}{A:af}{B:af}{s:Option aD}(h:dk w g gs A B clean s):k1 w g gs A B:=by
 cases s with
 |none=>exact h.1
 |some s=>exact h.1
def a7(lo hi:Int)(s:Option aD):Option (Int×aD):=s.bind (bc lo hi)
theorem lW{g:Nat}{A:af}{B:af}{s:Option aD}(h:dk w g gs A B clean s):ai x7 nn [Γ g,Δ lo,Δ hi] w λv w'=>fS w g gs A B clean ((a7 lo hi s).map (·.2)) w'/\∃n at_:Int,v= .tuple #[Δ n,Δ at_]/\(∀q,a7 lo hi s=σ q->n=q.1)/\(a7 lo hi s=ν->n=0):=by
 cases s with
 |none=>
  refine(Kf h).mono ?_;rintro _ J _ ⟨a,rfl⟩;exact⟨⟨a.V _,eD.ext (g:=g) (gs:=gs) (A:=A) (B:=B) h a⟩,0,0,rfl,λq h=>(by cases h),λ_=>rfl⟩
 |some s=>exact vz (s:=s) h
theorem pd{g:Nat}{A:af}{B:af}{s:Option aD}(h:dk w g gs A B clean s):ai x7 kR [Γ g] w λv w'=>v= .bool s.isSome/\Ext w w':=by
 cases s with
 |none=>exact nO h
 |some s=>exact o0 h
theorem Li{g:Nat}{A:af}{B:af}{s:Option aD}{e:Int}(h:dk w g gs A B clean s)(he:e≠0):ai x7 np [Γ g,Δ e,Δ at_] w λ_ w'=>fS w g gs A B clean ν w':=by
 cases s with
 |none=>
  refine(Kd h).mono ?_;rintro _ J _ a;exact⟨a.V _,eD.ext (g:=g) (gs:=gs) (A:=A) (B:=B) h a⟩
 |some s=>
  refine(ss (s:=s) h he).mono ?_;rintro _ J _ ⟨f,j⟩;exact⟨f.mono λr _ h=>.inl h,j⟩
theorem qs{g:Nat}{A:af}{B:af}{s:Option aD}{b:Bool}(h:dk w g gs A B clean s):ai x7 pQ [Γ g,.bool b,Δ at_] w λ_ w'=>fS w g gs A B clean (s.map (a8 b)) w':=by
 cases s with
 |none=>
  refine(AU h).mono ?_;rintro _ J _ a;exact⟨a.V _,eD.ext (g:=g) (gs:=gs) (A:=A) (B:=B) h a⟩
 |some s=>
  refine(su (s:=s) h).mono ?_;rintro _ J _ ⟨e,f⟩;exact⟨e.mono λr _ h=>.inl h,f⟩
theorem mH{n:Int}{s:Option aD}{s':aD}(h:a7 lo hi s=σ (n,s')):lo<=n/\n<=hi:=by
 cases s with
 |none=>cases h
 |some s=>exact(hY h).1
def e7(ks acc:Λ)(s:Option aD):Option (Λ×aD):=s.bind (iJ ks acc)
theorem BA{acc:Λ}{s:Option aD}:e7 (k::ks) acc s=match a7 0 (k-1) s with
  |none=>ν
  |some (v,s)=>iJ ks (acc++[v]) s:=by
 cases s with
 |none=>rfl
 |some s=>
  show iJ (k::ks) acc s=_;rw[iJ];show _=match bc 0 (k-1) s with|none=>ν|some (v,s)=>iJ ks (acc++[v]) s
  cases bc 0 (k-1) s<;>rfl
theorem BB:∀(t:Λ),(∀x∈t,0<=x/\x<=av)->(ed t).length<=20*t.length
 |[],_=>by simp[ed]
 |x::t,h=>by
  have j:=BB t λy a=>h y (.tail _ a);have f:=h x (.head _);have p:=vj 19 x.toNat (by unfold av at f;omega) Ω;have e:ed (x::t)=fo x.toNat++[32]++ed t:=by simp[ed]
  rw[e];simp only[r8,c9,List.length_nil];omega
theorem Lj{g ak:Nat}{A B:af}{s:Option aD}{ag:x1->x3->Prop}(h:dk w g gs A B clean s)(aj:aH .i64 w sv sizes)(aO:∀r,leads sv r->¬bA g gs A r/\r≠ak)(aQ:∀z∈sizes,1<=z/\z<=av)(bN:sizes.length<=100001)(aS:e6 w)(h1:cA g gs A B 1)(am:ad w ak eb [.slice ν 0 0,Δ 0])(an:¬bA g gs A ak)(ao:¬B ak)(ap:∀t w' aM gt,t.length=sizes.length->(∀x∈t,0<=x/\x<=av)->ae (λr=>bA g gs A r\/r=ak) w w'->ad w' ak eb [aM,Δ 0]->aq .i64 al w' gt aM t->w.heap.size<=gt->
   dk w' g gs A B clean ((e7 sizes [] s).map (·.2))->(∀q,e7 sizes [] s=σ q->t=q.1)->ag (bR (ed t)) w'):
  cd (.string ⟨#[]⟩) (Δ 0) w λkey S C aT=>
   aa x7 (aJ .lss ah false false S (Δ (sizes.length:Int))) C λaU=>
   Split aU (aa x7 (j5 au sv S) C λaV=>
   aa x7 (u4 al aV) C λaW=>
   aa x7 (aJ .sub al false true aW (Δ 1)) C λaX=>
   ai x7 nn [Γ g,(Δ 0),aX] C λaw G=>
   aa x7 (Y3 aw 0) G λax=>
   aa x7 (Y3 aw 1) G λbO=>
   aa x7 (u5 eb (Γ ak) 0) G λaY=>
   aa x7 (u4 au aY) G λaZ=>
   aC x7 (Y7 au 1 #[(0,ax)]) G λa1 a2=>
   aC x7 (Z3 #[au,au] au #[aZ,a1]) a2 λa6 ay=>
   aa x7 (u5 eb (Γ ak) 0) ay λa8=>
   aC x7 (o6 au a8 a6) ay λ(_:Unit)ba=>
   ai x7 uO [ax] ba λbb K=>
   aa x7 (aJ .add cZ false true bb (.string ⟨#[32]⟩)) K λbc=>
   aa x7 (aJ .add cZ false false key bc) K λbd=>
   aa x7 (aJ .add ah false true S (Δ 1)) K λbf=>
   aT bd bf K) (ag key C):=by
 have bP:=am.lt;have bg:=h.side;obtain⟨bS,bT,bU,bh,bi⟩:=bg;refine cd.range sizes.length (λj key J=>∃t aM gt s1,key=bR (ed t)/\t.length=j/\(∀x∈t,0<=x/\x<=av)/\ae (λr=>bA g gs A r\/r=ak) w J/\ad J ak eb [aM,Δ 0]/\aq .i64 al J gt aM t/\w.heap.size<=gt/\
  dk J g gs A B clean s1/\e7 sizes [] s=e7 (sizes.drop j) t s1) aj.le ⟨[],_,w.heap.size,s,rfl,rfl,λx y=>(by cases y),ae.refl _ _,am,aq.nil _ _ _ _,p8 _,h,rfl⟩ ?_ ?_
 rotate_left
 .rintro _ J bj ⟨t,aM,gt,s1,rfl,L,H,E,M,N,W,O,he⟩;refine cn Ω ?_;rw[List.drop_length]at he;cases s1 with
  |none=>
   have he:e7 sizes [] s=ν:=he;exact ap t J aM gt L H E M N W (by rw[he];exact O) (λq e=>by rw[he]at e;cases e)
  |some s1=>
   have he:e7 sizes [] s=σ (t,s1):=he;exact ap t J aM gt L H E M N W (by rw[he];exact O) (λq e=>by rw[he]at e;cases e;rfl)
 rintro j _ J bj az ⟨t,aM,gt,s1,rfl,L,H,E,M,N,W,O,he⟩ bl;obtain⟨z,X⟩:=aF (l:=sizes) az;have bm:=aQ z (x5 X);have bV:z<=4611686018427387904:=bm.2;have bn:aH .i64 J sv sizes:=hX aj E λr f a n c bo bp=>by
  have:=aO r ⟨a,n,c,bo,bp⟩;exact f.elim this.1 this.2
 have ac:∀r,bA g gs A r->r<w.heap.size:=bh;refine bQ Ω ?_;rw[be au.u al.i Ψ bn X,dD,wrap_i64 Ω Ω];refine(lW O).mono ?_;rintro _ U _ ⟨bq,n,at_,rfl,aA,bu⟩;obtain⟨P,bw⟩:=bq.of;have aB:0<=n/\n<=av:=by
  cases e:a7 0 (z-1) s1 with
  |none=>rw[bu e];exact⟨Ω,by unfold av;omega⟩
  |some q=>
   rw[aA q e];have:=mH (s':=q.2) (n:=q.1) e;exact⟨this.1,by unfold av;omega⟩
 rw[br,bt];have aE:=M.V P an;have bx:=N.V P λ_ bz=>by have:=ac _ bz;omega
 rw[aL eb.p 0 aE rfl];refine en au.u al.i rfl λa ga bB bW I bC=>?_;refine jh au.u al.i rfl (bx.ext I) bC.ls Θ Θ λaG aI bD bX Y Q=>?_;have bY:=E.size;have bZ:=P.size;have z3:=I.size;have z4:=Q.size;rw[aR eb.p rfl];have bE:=(aE.ext I).V Q (λhe=>by have he:ak=gt:=he;omega);refine bk (g:=ak) (o:=0) au.i Y.ls.cells.1 Y.ls.cells.2 bE Ξ λaK Z b0 ab=>?_;have ab:ad aK ak eb [aG,Δ 0]:=ab;have bF:ae (λr=>bA g gs A r\/r=ak) w bB:=(E.trans (P.mono λr _ h=>.inl h)).trans (I.V _);have bG:ae (λr=>bA g gs A r\/r=ak) w bD:=hC bF Q λr f he=>by have he:r=gt:=he;omega
 have aN:ae (λr=>bA g gs A r\/r=ak) w aK:=bG.trans (Z.mono λr _ h=>.inr h);have bH:¬(λr=>bA g gs A r\/r=ak) 1:=λh=>h.elim h1.1 λh=>ao (h▸h1.2);obtain⟨m,rfl⟩:∃m:Nat,n=(m:Int):=⟨n.toNat,Ω⟩;unfold av at aB;refine(Lh (aS.V aN bH) Ω).mono ?_;rintro _ b1 _ ⟨rfl,R⟩;have b2:=vj 19 m Ω Ω;have b3:=BB t H;rw[show(ByteArray.mk #[32])=strOfNums [32]from rfl,vf Θ,vf Θ,aP];refine bl _ _ ⟨t++[(m:Int)],aG,aI,(a7 0 (z-1) s1).map (·.2),?_,by simp[L],λx y=>?_,aN.trans (R.V _),ab.ext R,(Y.V Z (λ_ he=>by have he:aI=ak:=he;omega)).ext R,Ω,?_,?_⟩
 .rw[Jy,u6]
 .rcases o9.1 y with y|y
  .exact H x y
  .rw[l7.1 y];exact aB
 .refine dk.ext ?_ R;have bI:=bw.ext I;have bJ:∀r,bA g gs A r->¬(λr=>r=gt) r:=λr f he=>by have:=ac r f;have he:r=gt:=he;omega
  have bK:∀r,cA g gs A B r->¬(λr=>r=gt) r:=λr f he=>by have:=bi r f.2;have he:r=gt:=he;omega
  have bL:∀r,bA g gs A r->¬(λr=>r=ak) r:=λr f he=>by have he:r=ak:=he;exact an (he▸f)
  have bM:∀r,cA g gs A B r->¬(λr=>r=ak) r:=λr f he=>by have he:r=ak:=he;exact ao (he▸f.2)
  exact(bI.V Q bJ bK).V Z bL bM
 .rw[he,X8 az,show sizes[j]=z from(x4.1 X).2,BA];cases e:a7 0 (z-1) s1 with
  |none=>rfl
  |some q=>
   rw[aA q e];rfl
def dT(s:aD):Prop:=s.big=false->s.told<=16384
def jU(n:Int)(s:aD):aD:=a8 (decide (16384<min (s.told+n) av)) {s with told:=min (s.told+n) av}
theorem Lk(n:Int)(s:aD):dT (jU n s):=λh=>by
 have h:(s.big||decide (16384<min (s.told+n) av))=false:=h;have:=of_decide_eq_false (U5.1 h).2;show min (s.told+n) av<=16384;omega
theorem Ll{g:Nat}{A B:af}{s:Option aD}{n:Int}{K:x3->Prop}(h:dk w g gs A B clean s)(O:∀t,s=σ t->0<=n/\n<=av/\dT t)(H:∀w',ae (bA g gs A) w w'->dk w' g gs A B clean (s.map (jU n))->K w'):
  aa x7 (bN (Γ g)) w λP=>
  aa x7 (u5 cb P 2) w λQ=>
  aa x7 (u4 al Q) w λR=>
  aa x7 (aJ .add al false false R (Δ n)) w λS=>
  aa x7 (Z5.min_ #[al,al] al #[S,(Δ 4611686018427387904)]) w λW=>
  aa x7 (bN (Γ g)) w λX=>
  aa x7 (u5 cb X 2) w λY=>
  aC x7 (o6 al Y W) w λ(_:Unit)q=>
  aa x7 (bN (Γ g)) q λt77=>
  aa x7 (u5 cb t77 2) q λZ=>
  aa x7 (u4 al Z) q λab=>
  aa x7 (aJ .gtr al false true ab (Δ 16384)) q λac=>
  ai x7 pQ [Γ g,ac,Δ at_] q λ_ ag=>K ag:=by
 cases s with
 |none=>
  obtain⟨I,e,big,y,z,told,sv,l,x,C,E⟩:=id h;rw[aG cb.p 2 x rfl,aP,lN,bJ,aR cb.p rfl];refine bk (g:=g) (o:=5) al.i rfl rfl x (by simp[fF]) λJ a ah f=>?_;rw[aG cb.p 2 f rfl,bP];have L:eD J g gs A B:=⟨I.V a,e,big,y,z,_,sv,l,f,C,an.V E a λr _ h G=>sq h I.2.1 G⟩;refine(AU L).mono ?_;rintro _ U _ M;exact H _ ((a.mono λr _ h=>.inl h).trans (M.V _)) (L.ext M)
 |some s=>
  obtain⟨au,aj,hi⟩:=O s rfl;obtain⟨I,ak,am,big,y,z,told,sv,x,C,E⟩:=id h;rw[aG cb.p 2 x rfl,aP,lN,bJ,aR cb.p rfl];refine bk (g:=g) (o:=5) al.i rfl rfl x (by simp[fF]) λJ a ah f=>?_;have f:ad J g cb (fF gs 0 big y z (min (X7.wrap (told+n)) 4611686018427387904) sv):=f;rw[aG cb.p 2 f rfl,bP];have key:s.big=false->min (X7.wrap (told+n)) 4611686018427387904=min (s.told+n) av:=λj=>by
   rw[C.2 j];have:=hi j;unfold av at aj ⊢;rw[wrap_i64 Ω Ω]
  have ao:df J g gs A B {s with told:=min (s.told+n) av} clean:=⟨I.V a,ak.V a (λhe=>I.1 he.symm) (λr ap he=>ap.1 (.inl he)),⟨by show 0<=min _ _;unfold av;omega,by show min _ _<=_;omega,am.2.2⟩,big,y,z,_,sv,f,⟨C.1,key⟩,an.V E a λr _ h G=>sq h I.2.1 G⟩;refine(su ao).mono ?_;rintro _ U _ ⟨aq,N⟩;refine H _ ((a.trans aq).mono λr _ h=>.inl h) ?_;have e:a8 (decide (16384<min (X7.wrap (told+n)) 4611686018427387904)) {s with told:=min (s.told+n) av}=jU n s:=by
   cases j:s.big with
   |false=>rw[key j,<-j];rfl
   |true=>simp[jU,a8,j]
  rw[e]at N;exact N
def iO(sizes:Λ)(s:Option aD):Option (List (Λ×Int)×aD):=s.bind (dS sizes)
def k4(w:x3)(m:Nat)(acc:List (Λ×Int)):Prop:=c4 w m (acc.map λp=>(bR (ed p.1),Δ 1))
def kv(w:x3)(m:Nat):Prop:=∃d,c4 w m d/\∀p∈d,∃(k:ByteArray)(c:Int),p=(.string k,Δ c)
theorem k4.any{m:Nat}{acc:List (Λ×Int)}(h:k4 w m acc):kv w m:=⟨_,h,λp a=>by
 obtain⟨q,_,rfl⟩:=l9.1 a;exact⟨_,_,rfl⟩⟩
theorem Lm{m:Nat}{k:ByteArray}(h:kv w m)(f:∀c:Int,K (Δ c)):aa x7 (Instr.lookup gV (.map (σ m)) (.string k) false) w K:=by
 obtain⟨d,hm,q⟩:=h;have hk:=Keys.str cZ.u;have r:∀p∈d,∃s,p.1=x1.string s:=λp a=>by obtain⟨s,c,rfl⟩:=q p a;exact⟨s,rfl⟩
 by_cases he:∃p∈d,p.1=x1.string k
 .obtain⟨p,a,e⟩:=he;obtain⟨j,x⟩:=X5.1 a;obtain⟨s,c,rfl⟩:=q p a;have e:x1.string s=x1.string k:=e;rw[e]at x;rw[qh gV.u hk hm r ⟨k,rfl⟩ x];exact f c
 .have y:∀p∈d,p.1≠x1.string k:=λp a h=>he ⟨p,a,h⟩;rw[sC gV.u hk ⟨_,_,ah.i⟩ hm r ⟨k,rfl⟩ y];exact f 0
theorem Ln{m:Nat}{k:ByteArray}{K:Unit->x3->Prop}(h:kv w m)(x:∀w',ae (λr=>r=m) w w'->kv w' m->K () w'):aC x7 (Instr.mapUpdate gV (.map (σ m)) (.string k) (Δ c)) w K:=by
 obtain⟨d,hm,e⟩:=h;have y:∀p∈d,∃s,p.1=x1.string s:=λp a=>by obtain⟨s,c,rfl⟩:=e p a;exact⟨s,rfl⟩
 refine qi gV.u (Keys.str cZ.u) hm y ⟨k,rfl⟩ (λj v0 w' z f q=>x w' q ⟨_,f,λp a=>?_⟩) (λw' A f q=>x w' q ⟨_,f,λp a=>?_⟩)
 .rcases W3 a with a|rfl
  .exact e p a
  .exact⟨_,_,rfl⟩
 .rcases o9.1 a with a|a
  .exact e p a
  .rw[l7.1 a];exact⟨_,_,rfl⟩
theorem BC{a b:Λ}(e:∀x∈a,0<=x)(f:∀x∈b,0<=x)(h:bR (ed a)=bR (ed b)):a=b:=by
 have h:strOfNums (ed a)=strOfNums (ed b):=x1.string.inj h;exact Aa e f (str_inj (Ab a) (Ab b) h)
theorem vM{acc:List (Λ×Int)}:∀p∈acc.map λp=>(bR (ed p.1),V7 .i64 1),∃s,p.1=x1.string s:=λp a=>by
 obtain⟨q,_,rfl⟩:=l9.1 a;exact⟨_,rfl⟩
theorem BD{m:Nat}{acc:List (Λ×Int)}{t:Λ}(h:k4 w m acc)(f:∀p∈acc,∀x∈p.1,0<=x)(r:∀x∈t,0<=x):
  aa x7 (Instr.lookup gV (.map (σ m)) (bR (ed t)) false) w K=K (Δ (if t∈acc.map (·.1)then 1 else 0)):=by
 have hk:=Keys.str cZ.u;by_cases he:t∈acc.map (·.1)
 .rw[if_pos he];obtain⟨p,a,rfl⟩:=l9.1 he;obtain⟨j,s⟩:=X5.1 a;rw[qh gV.u hk h vM ⟨_,rfl⟩ (j:=j) (v:=Δ 1) (by rw[x8,s];rfl)];simp
 .rw[if_neg he];rw[sC gV.u hk ⟨_,_,ah.i⟩ h vM ⟨_,rfl⟩ (λp a y=>?_)]
  .simp
  .obtain⟨q,e,rfl⟩:=l9.1 a;have:=BC (f q e) r y;exact he (l9.2 ⟨q,e,this⟩)
theorem Lo{m:Nat}{acc:List (Λ×Int)}{t:Λ}{K:Unit->x3->Prop}(h:k4 w m acc)(z:∀p∈acc,∀x∈p.1,0<=x)(A:∀x∈t,0<=x)(B:t∉acc.map (·.1))(C:∀w',ae (λr=>r=m) w w'->k4 w' m (acc++[(t,c)])->K () w'):aC x7 (Instr.mapUpdate gV (.map (σ m)) (bR (ed t)) (Δ 1)) w K:=by
 refine qi gV.u (Keys.str cZ.u) h vM ⟨_,rfl⟩ (λj v0 w' e f s=>?_) (λw' _ f s=>C w' s ?_)
 .rw[x8]at e;obtain⟨q,y,a⟩:=Y9.1 e;have a:bR (ed q.1)=bR (ed t):=congrArg Prod.fst a;have:=BC (z q (x5 y)) A a;exact absurd (l9.2 ⟨q,x5 y,this⟩) B
 .unfold k4;rw[Z4];exact f
theorem Lp{m:Nat}{acc:List (Λ×Int)}{t:Λ}{ok:Prop}{K:Unit->x3->Prop}(e:kv w m)(z:ok->k4 w m acc/\(∀p∈acc,∀x∈p.1,0<=x)/\(∀x∈t,0<=x)/\t∉acc.map (·.1))(f:∀w',ae (λr=>r=m) w w'->kv w' m->(ok->k4 w' m (acc++[(t,c)]))->K () w'):
  aa x7 (Instr.lookup gV (.map (σ m)) (bR (ed t)) false) w λA=>
  aa x7 (aJ .add ah false true A (Δ 1)) w λB=>
  aC x7 (Instr.mapUpdate gV (.map (σ m)) (bR (ed t)) B) w K:=by
 by_cases j:ok
 .obtain⟨h1,q,s,y⟩:=z j;rw[BD h1 q s,if_neg y,aP,wrap_i64 Ω Ω];exact Lo (c:=c) h1 q s y λw' a I=>f w' a I.any λ_=>I
 .refine Lm e λgZ=>?_;rw[aP];exact Ln e λw' a I=>f w' a I λh=>absurd h j
def fs{α:Type}(f:List α->aD->Option (α×aD))(n:Nat)(acc:List α)(o:Option aD):Option (List α×aD):=o.bind (cK f n acc)
theorem kv.V{m:Nat}(h:kv w m)(a:ae S w w')(e:¬S m):kv w' m:=by
 obtain⟨d,h1,f⟩:=h;exact⟨d,h1.V a e,f⟩
theorem dk.words{g:Nat}{A:af}{B:af}{s:aD}(h:dk w g gs A B clean (σ s)):s.toks.length<=100000:=by
 have h:df w g gs A B s clean:=h;exact h.2.1.words.1
theorem BE{acc:List (Λ×Int)}{st:aD}{t:Λ}(j:∀q,e7 sizes [] (σ st)=σ q->t=q.1)(a:∀q,a7 0 av ((e7 sizes [] (σ st)).map (·.2))=σ q->c=q.1):
  (a7 0 av ((e7 sizes [] (σ st)).map (·.2))=ν->dR sizes acc st=ν)/\∀q,a7 0 av ((e7 sizes [] (σ st)).map (·.2))=σ q->dR sizes acc st=if t∈acc.map (·.1)then ν else σ ((t,c),q.2):=by
 have e:e7 sizes [] (σ st)=iJ sizes [] st:=rfl;rw[e]at j a ⊢;unfold dR;cases h1:iJ sizes [] st with
 |none=>exact⟨λ_=>rfl,λq f=>(by cases f)⟩
 |some q=>
  obtain⟨bi,s1⟩:=q;rw[h1]at j a;have:=j _ rfl;subst this;have p:a7 0 av ((σ (t,s1)).map (·.2))=bc 0 av s1:=rfl;rw[p]at a ⊢;simp only;cases r:bc 0 av s1 with
  |none=>exact⟨λ_=>rfl,λq f=>(by cases f)⟩
  |some q=>
   obtain⟨s,w⟩:=q;rw[r]at a;have:=a _ rfl;subst this;exact⟨λh=>(by cases h),λq f=>(by cases f;rfl)⟩
theorem Lq{g:Nat}{A B:af}{s:Option aD}{Q:x1->x3->Prop}(h:dk w g gs A B clean s)(bX:aH .i64 w sv sizes)(aV:∀r,leads sv r->¬bA g gs A r/\r<w.heap.size)(bY:∀z∈sizes,1<=z/\z<=av)(bZ:sizes.length<=100001)(b0:e6 w)(h1:cA g gs A B 1)(b1:(N:Int)<=av)(bn:∀v w' l,fS w g gs A B clean ((fs (dR sizes) N [] s).map (·.2)) w'->bD (eK w.heap.size) bx w' [v] (show List (Λ×Int)from l)->(∀q,fs (dR sizes) N [] s=σ q->l=q.1)->Q v w'):
  aC x7 (Instr.makeMap gV ν) w λaX y=>
 cd (.slice ν 0 0) (Δ 0) y λout i H k=>
  ck (α:=x1->x3->Prop) (λ(b2:x1)(S:x3)=>
   Split b2 (aC x7 (Instr.alloc eb true (.tuple #[])) S λx j=>
  aa x7 (V2 #[au] ah #[sv]) j λb3=>
  cd (.string ⟨#[]⟩) (Δ 0) j λkey aY U b4=>
   aa x7 (aJ .lss ah false false aY b3) U λb5=>
   Split b5 (aa x7 (j5 au sv aY) U λb6=>
   aa x7 (u4 al b6) U λb7=>
   aa x7 (aJ .sub al false true b7 (Δ 1)) U λb8=>
   ai x7 nn [Γ g,(Δ 0),b8] U λbo Z=>
   aa x7 (Y3 bo 0) Z λbp=>
   aa x7 (Y3 bo 1) Z λdt=>
   aa x7 (u5 eb x 0) Z λb9=>
   aa x7 (u4 au b9) Z λca=>
   aC x7 (Y7 au 1 #[(0,bp)]) Z λcb I=>
   aC x7 (Z3 #[au,au] au #[ca,cb]) I λcc bq=>
   aa x7 (u5 eb x 0) bq λce=>
   aC x7 (o6 au ce cc) bq λ(_:Unit)cg=>
   ai x7 uO [bp] cg λch aB=>
   aa x7 (aJ .add cZ false true ch (.string ⟨#[32]⟩)) aB λci=>
   aa x7 (aJ .add cZ false false key ci) aB λcj=>
   aa x7 (aJ .add ah false true aY (Δ 1)) aB λcl=>
   b4 cj cl aB)
    (ai x7 nn [Γ g,(Δ 0),(Δ 4611686018427387904)] U λbu aE=>
  aa x7 (Y3 bu 0) aE λcm=>
  aa x7 (Y3 bu 1) aE λcn=>
  aa x7 (u5 eb x 1) aE λcp=>
  aC x7 (o6 al cp cm) aE λ(_:Unit)cq=>
  ck (α:=x3->Prop) (λ(W:x3)=>
   aa x7 (Instr.lookup gV aX key false) W λcr=>
   aa x7 (aJ .add ah false true cr (Δ 1)) W λct=>
   aC x7 (Instr.mapUpdate gV aX key ct) W λ(_:Unit)ab=>
   aa x7 (u4 eb x) ab λcu=>
   aC x7 (Y7 iC 1 #[(0,cu)]) ab λcw aw=>
   aC x7 (Z3 #[iC,iC] iC #[out,cw]) aw λcz aF=>
   aa x7 (aJ .add al false true i (Δ 1)) aF λcB=>
  k cz cB aF) λbw=>
  ck (α:=x1->x3->Prop) (λ(cC:x1)(M:x3)=>
   Split cC (ai x7 np [Γ g,(Δ 4),cn] M λdu bB=>
    bw bB)
    (bw M)) λbC=>
  ai x7 kR [Γ g] cq λcD ag=>
  Split cD (aa x7 (Instr.lookup gV aX key false) ag λcE=>
  aa x7 (aJ .gtr ah false true cE (Δ 0)) ag λcF=>
  bC cF ag)
   (bC (.bool false) ag)))
    (Q out S)) λbE=>
  aa x7 (aJ .lss al false false i (Δ (N:Int))) H λcG=>
  Split cG (ai x7 kR [Γ g] H λcH cI=>
  bE cH cI)
   (bE (.bool false) H):=by
 obtain⟨dv,dw,dx,cJ,aG⟩:=h.side;have ac:∀r,bA g gs A r->r<w.heap.size:=cJ;unfold av at b1;refine sB λC y dy aZ a1=>?_;have dz:=aZ.size;have dA:=a1.lt;generalize E:fs (dR sizes) N [] s=bF at bn;refine⟨λout a2 H=>∃(i:Nat)(acc:List (Λ×Int))(so:Option aD),a2=Δ (i:Int)/\i<=N/\ae (bA g gs A) w H/\y.heap.size<=H.heap.size/\bD (eK y.heap.size) bx H [out] acc/\dk H g gs A B clean so/\
   bF=fs (dR sizes) (N-i) acc so/\kv H C/\acc.length<=100001/\∀st,so=σ st->k4 H C acc/\(∀p∈acc,∀x∈p.1,0<=x)/\acc.length+st.toks.length<=100000,
  λ_ a2 _=>N-(bS a2).toNat,⟨0,[],s,rfl,X4 _,aZ.V _,p8 _,hA,h.ext aZ,E.symm,⟨[],a1,λp L=>(by cases L)⟩,Ξ,λst cK=>⟨a1,λp L=>(by cases L),?_⟩⟩,?_⟩
 .subst cK;have:=h.words;simpa using this
 rintro out _ H ⟨i,acc,so,rfl,dC,bG,z9,bI,a6,aI,cL,dD,a8⟩;refine aT (λv S=>Ext H S/\((v= .bool true/\i<N/\∃st,so=σ st)\/(v= .bool false/\(so=ν\/i=N)))) ?_ ?_
 rotate_left
 .intro ax ba;rw[aQ,aj];refine⟨λcM=>?_,λdE=>ba _ _ ⟨Ext.refl _,.inr ⟨rfl,.inr Ω⟩⟩⟩;refine(pd a6).mono ?_;rintro _ S _ ⟨rfl,O⟩;cases so with
  |none=>exact ba _ _ ⟨O,.inr ⟨rfl,.inl rfl⟩⟩
  |some st=>exact ba _ _ ⟨O,.inl ⟨rfl,Ω,st,rfl⟩⟩
 rintro _ S ⟨O,cN⟩;rcases cN with⟨rfl,cM,st,rfl⟩|⟨rfl,cO⟩
 rotate_left
 .rw[aU];have bJ:bF=so.map λst=>(acc,st):=by
   rcases cO with rfl|rfl
   .exact aI
   .rw[U2]at aI;rw[aI];cases so<;>rfl
  refine bn out S acc (fS.mk (bG.trans (O.V _)) ?_) (bT (an.mono bI (λr _ h=>by have h:y.heap.size<=r:=h;show w.heap.size<=r;omega) λ_ _ h=>h) O) (λq J=>?_)
  .rw[bJ,Option.map_map];have e:U3 ((λx=>x.2)∘λst=>(acc,st)) so=so:=by cases so<;>rfl
   rw[e];exact a6.ext O
  .rw[bJ]at J;cases so with
   |none=>cases J
   |some st=>cases J;rfl
 rw[bL];obtain⟨a8,bb,dF⟩:=a8 st rfl;have dG:=O.size;refine bz eb.i λak j dH bK bM=>?_;have ay:=O.trans bK;have bc:ae (bA g gs A) w j:=bG.trans (ay.V _);have bN:aH .i64 j sv sizes:=hX bX bc λr f a n c cP cQ=>(aV r ⟨a,n,c,cP,cQ⟩).1 f;rw[aW au.u bN];have aK:¬bA g gs A ak:=λE=>by have:=ac _ E;omega
 refine Lj (s:=σ st) (a6.ext ay) bN (λr f=>⟨(aV r f).1,by have:=(aV r f).2;omega⟩) bY bZ (b0.V bc h1.1) h1 bM aK (λcR=>by have:=aG _ cR;omega) λt U aM gt dI cS bO cT cU cV cW cX=>?_;have dJ:=bK.size;have z12:=bO.size;have dK:=bM.lt;have bd:∀x∈t,0<=x:=λx cY=>(cS x cY).1;refine(lW cW).mono ?_;rintro _ Z _ ⟨be,c,dL,rfl,c0,dM⟩;obtain⟨aL,c1⟩:=be.of;have dN:=aL.size;rw[br,bt,aR eb.p rfl];refine bk (g:=ak) (o:=1) al.i rfl rfl (cT.V aL aK) Ξ λI aN dO bf=>?_;have bf:ad I ak eb [aM,Δ c]:=bf;have c2:aq .i64 al I gt aM t:=(cU.V aL (λ_ E=>by have:=ac _ E;omega)).V aN (λ_ he=>by have he:gt=ak:=he;omega);have bg:ae (λr=>bA g gs A r\/r=ak) j I:=(bO.trans (aL.mono λr _ h=>.inl h)).trans (aN.mono λr _ h=>.inr h);have X:dk I g gs A B clean ((a7 0 av ((e7 sizes [] (σ st)).map (·.2))).map (·.2)):=c1.V aN (λr f he=>by have he:r=ak:=he;exact aK (he▸f)) (λr f he=>by have:=aG r f.2;have he:r=ak:=he;omega);have bQ:¬(λr=>bA g gs A r\/r=ak) C:=λh=>h.elim (λh=>by have:=ac _ h;omega) (λh=>Ω);have c3:kv I C:=(cL.V (ay.V (λ_=>False)) (λh=>h)).V bg bQ;have bR:k4 I C acc:=(c4.ext a8 ay).V bg bQ;obtain⟨bh,bi⟩:=BE (acc:=acc) cX c0;refine dd (λW=>ae (bA g gs A) I W/\dk W g gs A B clean ((dR sizes acc st).map (·.2))) ?_ ?_
 .rintro W ⟨am,c5⟩;have bj:¬bA g gs A C:=λh=>by have:=ac _ h;omega
  have dP:=aN.size;have dQ:=am.size;refine Lp (acc:=acc) (t:=t) (c:=c) (ok:=∃q,dR sizes acc st=σ q) (c3.V am bj) (λ⟨q,J⟩=>⟨c4.V bR am bj,bb,bd,λP=>?_⟩) λab az c6 c7=>?_
  .cases K:a7 0 av ((e7 sizes [] (σ st)).map (·.2))with
   |none=>rw[bh K]at J;cases J
   |some ao=>rw[bi ao K,if_pos P]at J;cases J
  have dS:=az.size;have c8:ad ab ak eb [aM,Δ c]:=(bf.V am aK).V az (λhe=>by have he:ak=C:=he;omega);have c9:aq .i64 al ab gt aM t:=(c2.V am (λ_ E=>by have:=ac _ E;omega)).V az (λ_ he=>by have he:gt=C:=he;omega);rw[bH eb.p eb.i rfl c8.range];have bU:bD (eK j.heap.size) bx ab [aM,Δ c] (t,c):=⟨[aM],[Δ c],eK j.heap.size,bx,rfl,λ_ h=>h,λ_ h=>h.elim,λ_ _ _ h=>h,an.mono (nD c9) (λr _ h=>by subst h;exact cV) (λ_ _ h=>h),rfl⟩;refine kl (α:=Λ×Int) (a:=(t,c)) (cs:=[aM,Δ c]) (A:=eK j.heap.size) (R:=bx) iC.u eb.i Φ rfl bU λu aw ap _ da=>?_;have z22:=ap.size;have db:bD (λr=>eK y.heap.size r/\r<j.heap.size/\r≠ak) bx j [out] acc:=bT (an.mono (mr bI) (λr _ h=>⟨h.1,by have:=h.2;omega,by have:=h.2;omega⟩) λ_ _ h=>h) ay;have bV:ae (λr=>bA g gs A r\/r=ak\/r=C) j aw:=(((bg.mono λr _ h=>h.elim .inl λh=>.inr (.inl h)).trans (am.mono λr _ h=>.inl h)).trans (az.mono λr _ h=>.inr (.inr h))).trans (ap.V _);have dc:=an.V db bV λr f h E=>by
   rcases h with h|h
   .have aO:y.heap.size<=r:=h.1;rcases E with E|E|E
    .have:=ac _ E;omega
    .exact h.2.2 E
    .omega
   .exact h
  refine nC (α:=Λ×Int) (a:=(t,c)) (A:=eK j.heap.size) iC.u eb.i rfl dc da (bT bU ap) (λr _ h h'=>?_) Ω Ω λdT aF de aA=>?_
  .rcases h' with h'|h'
   .have:=h.2;have:j.heap.size<=r:=h';omega
   .exact h'
  have dU:=aA.size;rw[aP,wrap_i64 Ω Ω];have df:ae (bA g gs A) w aw:=hC bc bV λr f h=>by
   rcases h with h|h|h
   .exact h
   .omega
   .omega
  have dg:ae (bA g gs A) w aF:=hC df aA λr f h=>by have aO:y.heap.size<=r:=h.1;omega
  have dh:dk aw g gs A B clean ((dR sizes acc st).map (·.2)):=(c5.V az (λr f he=>by have he:r=C:=he;exact bj (he▸f)) (λr f he=>by have:=aG r f.2;have he:r=C:=he;omega)).ext ap;have di:∀r,bA g gs A r->¬(eK y.heap.size r/\r<j.heap.size/\r≠ak):=λr f he=>by have:=ac _ f;have aO:y.heap.size<=r:=he.1;omega
  have dj:∀r,cA g gs A B r->¬(eK y.heap.size r/\r<j.heap.size/\r≠ak):=λr f he=>by have:=aG r f.2;have aO:y.heap.size<=r:=he.1;omega
  have bW:¬(eK y.heap.size C/\C<j.heap.size/\C≠ak):=λhe=>by have aO:y.heap.size<=C:=he.1;omega
  refine⟨⟨i+1,acc++[(t,c)],(dR sizes acc st).map (·.2),rfl,Ω,dg,Ω,?_,dh.V aA di dj,?_,(c6.V (ap.V (λ_=>False)) (λh=>h)).V aA bW,Θ,λdl dm=>?_⟩,by simp only[bS];omega⟩
  .refine an.mono de (λr _ h=>?_) λ_ _ h=>h;show y.heap.size<=r;rcases h with h|h|h
   .exact h.1
   .have h:j.heap.size<=r:=h;omega
   .omega
  .rw[aI,show N-i=(N-(i+1))+1 by omega];cases G:dR sizes acc st with
   |none=>exact o1 G
   |some q=>
    obtain⟨a,dl⟩:=q;have dn:a=(t,c):=by
     cases K:a7 0 av ((e7 sizes [] (σ st)).map (·.2))with
     |none=>rw[bh K]at G;cases G
     |some ao=>
      rw[bi ao K]at G;split at G
      .cases G
      .cases G;rfl
    subst dn;exact sx G
  .obtain⟨q,J,rfl⟩:=Y9.1 dm;have dV:=(oY J).2.2.2.1;refine⟨c4.V ((c4.ext (c7 ⟨q,J⟩) ap)) aA bW,λp L=>?_,by simp only[r8,U9];omega⟩;rcases o9.1 L with L|L
   .exact bb p L
   .rw[l7.1 L];exact bd
 .intro dW bl;cases K:a7 0 av ((e7 sizes [] (σ st)).map (·.2))with
  |none=>
   rw[K]at X;have G:=bh K;refine aT (λv M=>Ext I M/\v= .bool false) ?_ ?_
   .rintro _ M ⟨Y,rfl⟩;rw[aU];exact bl _ ⟨Y.V _,by rw[G];exact X.ext Y⟩
   .intro dp bm;refine(pd X).mono ?_;rintro _ ag _ ⟨rfl,aS⟩;rw[show((ν:Option (Int×aD)).map (·.2)).isSome=false from rfl,aU];exact bm _ _ ⟨aS,rfl⟩
  |some ao=>
   rw[K]at X;have G:=bi ao K;refine aT (λv M=>Ext I M/\v= .bool (decide (t∈acc.map (·.1)))) ?_ ?_
   .rintro _ M ⟨Y,rfl⟩;rw[aj];refine⟨λP=>?_,λdq=>?_⟩
    .refine (Li (X.ext Y) Ω).mono ?_;rintro _ bB _ be;obtain⟨dr,ds⟩:=be.of;exact bl _ ⟨(Y.V _).trans dr,by rw[G,if_pos P];exact ds⟩
    .exact bl _ ⟨Y.V _,by rw[G,if_neg dq];exact X.ext Y⟩
   .intro dp bm;refine(pd X).mono ?_;rintro _ ag _ ⟨rfl,aS⟩;rw[show((σ ao:Option (Int×aD)).map (·.2)).isSome=true from rfl,bL,BD (c4.ext bR aS) bb bd,bP];refine bm _ _ ⟨aS,?_⟩;congr 1;by_cases P:t∈acc.map (·.1)
    .rw[if_pos P,decide_eq_true P];rfl
    .rw[if_neg P,decide_eq_false P];rfl
end Go.Proofs.YtikkpokkcdocoaaGreatDoor
