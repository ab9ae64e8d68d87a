/- own texts, made small by a tool (wip/ holds them as they were written): no statement of the seat. -/
import Derived.Test.YtgbkinibgjmodaaGreatDoorZa
set_option linter.unusedVariables false
set_option linter.unusedSimpArgs false
set_option linter.unnecessarySimpa false
open Array renaming getElem?_eq_some_iff→j4,getElem?_toList→S3
open BitVec renaming ofInt→U5
open Bool renaming not_true→Y1,not_false→X4,eq_iff_iff→V8,and_eq_true→U1,true_and→U7,or_eq_false_iff→S0
open Decidable renaming not_not→X2
open Go renaming Value→x1,World→x2,TypeId→u9,IntKind→o5,Builtin→l5,Program→W5,Oper→U8,Operand→T8
open Go.Addr renaming add_mid→U4
open Go.Builtin renaming append_→l7,len_→Y3
open Go.Instr renaming loadAt→x5,fieldAt→x7,storeAt→o4,indexAt→n0,buildSlice→Z7,extract→Z8,sliceAt→W3,alloc→S6
open Go.IntKind renaming i64→Y5,u64→U3
open Go.Proofs.Tryz renaming prog→x3
open Go.Result renaming andThen→W0
open Go.Sem renaming run_bind→X8,run_pure→W9
open Go.Sort renaming Holds→T9
open Go.Value renaming int→V2
open Int renaming toNat_natCast→j9
open List renaming getElem?_eq_getElem→y0,getElem?_eq_some_iff→x4,mem_of_getElem?→x6,getElem?_map→x8,getD_eq_getElem?_getD→u4,length_map→u5,length_append→r8,take_add_one→r9,replicate→o6,length_take→o7,take_length→o9,mem_append→n9,mem_singleton→l9,getElem?_append_left→j0,length_cons→j5,take_of_length_le→Z0,getElem?_append_right→Z1,eq_nil_of_length_eq_zero→Z2,map_append→Z4,mem_map→Z5,getElem?_take_of_lt→Y2,getElem?_eq_none→Y4,mem_iff_getElem?→Y7,length_set→X1,getElem?_set→X5,ext_getElem?→X6,length_eq_one_iff→X7,range→X9,getElem?_set_ne→W6,drop_eq_getElem_cons→W8,pairwise_iff_getElem→V0,mem_or_eq_of_mem_set→V3,append_nil→V4,getElem?_set_self→V5,flatMap_cons→V6,append_assoc→V9,set_append_right→U6,mem_cons→U9,map_set→T0,length_singleton→T1,mem_of_mem_take→T2,map_cons→S2,length→S9,length_drop→R0,getElem_mem→R2
open Nat renaming le_refl→o8,zero_le→Y9,le_trans→X0,mul_le_mul_right→X3,sub_self→W7,zero_add→V1,add_mul→U2,beq→T3,mul_one→T4,min_eq_left→T5,pow_le_pow_right→S4,le_succ→S5,add_assoc→S7,add_sub_cancel_left→S8
open Ne renaming symm→T7
open Option renaming isNone_some→j6,some→Z3,toList_some→Z9,map_some→Y0,map_eq_some_iff→Y8,map→V7,getD_some→S1
open Option.some renaming inj→Z6,injEq→Y6
open Prod.mk renaming injEq→T6
set_option maxHeartbeats 16000000
open Option renaming some→σ,none→ν
variable {I N gs j m n r:Nat}{e t:u9}{at_ c hi k lo o y:Int}{sv v z:x1}{cs:List x1}{K:x1->Prop}{U:o5}{C a ks l szs:List Int}{w w':x2}{clean cx cy:Bool}{S:Nat->Prop}
namespace Go.Proofs.YtgbkinibgjmodaaGreatDoor
open Go Go.Vc Go.RowKit Go.Proofs Go.Proofs.Tryz
set_option maxRecDepth 100000
structure Cell where
 v:Int
 st:Nat
structure iV where
 i:Nat
 c:Cell
structure l3 where
 olds:Nat
 cells:Nat
 st:Nat
structure aC where
 cells:List Cell
 olds:List iV
 marks:List l3
 ever:Nat
def aC.bS (t:aC):List Int:=t.cells.map (·.v)
def aC.set (t:aC) (i:Nat) (x:Int):aC:=match t.cells[i]? with
 |none=>t
 |some c=>match t.marks.getLast? with
  |none=>{t with cells:=t.cells.set i ⟨x,c.st⟩}
  |some m=>if c.st<m.st/\i<m.cells then {t with olds:=t.olds++[⟨i,c⟩],cells:=t.cells.set i ⟨x,m.st⟩} else {t with cells:=t.cells.set i ⟨x,c.st⟩}
def aC.grow (t:aC) (n:Nat):aC:={t with cells:=t.cells++o6 n ⟨0,0⟩}
def aC.mark (t:aC):aC:={t with marks:=t.marks++[⟨t.olds.length,t.cells.length,t.ever+1⟩],ever:=t.ever+1}
def back (os:List iV) (cs:List Cell):List Cell:=os.foldr (λo cs=>cs.set o.i o.c) cs
def aC.gM (t:aC) (m:Nat):aC:=match t.marks[m]? with
 |none=>t
 |some x=>{cells:=(back (t.olds.drop x.olds) t.cells).take x.cells,olds:=t.olds.take x.olds,marks:=t.marks.take m,ever:=t.ever}
theorem l4:∀ (os:List iV) (cs:List Cell),(back os cs).length=cs.length
 |[],_=>rfl
 |o::os,cs=>by
  have:=l4 os cs;show ((back os cs).set o.i o.c).length=_;rw[X1,this]
theorem back_append (a b:List iV) (cs:List Cell):back (a++b) cs=back a (back b cs):=by unfold back;rw[List.foldr_append]
theorem sZ:∀ {os:List iV} {cs:List Cell} {n:Nat},(back os cs).take n=back (os.filter λo=>decide (o.i<n)) (cs.take n)
 |[],cs,n=>rfl
 |o::os,cs,n=>by
  show ((back os cs).set o.i o.c).take n=_;by_cases h:o.i<n
  .rw[List.filter_cons_of_pos (by simpa using h),List.take_set,sZ];rfl
  .rw[List.filter_cons_of_neg (by simpa using h),List.take_set_of_le Ω,sZ]
theorem s3 {os:List iV} {cs:List Cell} (h:∀o∈os,o.i<n):(back os cs).take n=back os (cs.take n):=by
 rw[sZ,List.filter_eq_self.2 λo I=>by simpa using h o I]
theorem xr:∀ {os:List iV} {cs I:List Cell} {i:Nat},cs.length=I.length->(∃o∈os,o.i=i)->(back os cs)[i]? =(back os I)[i]?
 |[],_,_,_,_,⟨_,h,_⟩=>by cases h
 |o::os,cs,I,i,U,hm=>by
  show ((back os cs).set o.i o.c)[i]? =((back os I).set o.i o.c)[i]?;rw[X5,X5];by_cases h:o.i=i
  .rw[if_pos h,if_pos h,l4,l4,U]
  .rw[if_neg h,if_neg h];obtain⟨x,J,he⟩:=hm;rcases U9.1 J with rfl|J
   .exact absurd he h
   .exact xr U ⟨x,J,he⟩
theorem xt:∀ {os:List iV} {cs I:List Cell} {i:Nat},cs[i]? =I[i]? ->cs.length=I.length->(back os cs)[i]? =(back os I)[i]?
 |[],_,_,_,h,_=>h
 |o::os,cs,I,i,h,J=>by
  show ((back os cs).set o.i o.c)[i]? =((back os I).set o.i o.c)[i]?;rw[X5,X5,l4,l4,J,xt h J]
def dp:aC->List aC->Prop
 |t,[]=>t.marks=[]/\t.olds=[]/\ ∀c∈t.cells,c.st<=t.ever
 |t,s::h=>dp s h/\(∀c∈t.cells,c.st<=t.ever)/\ ∃m new,t.marks=s.marks++[m]/\m.olds=s.olds.length/\m.cells=s.cells.length/\t.olds=s.olds++new/\m.cells<=t.cells.length/\(back new t.cells).take m.cells=s.cells/\
   (∀c∈s.cells,c.st<m.st)/\(∀c∈t.cells,c.st<=m.st)/\(∀ (i:Nat) c,i<m.cells->t.cells[i]? =σ c->c.st=m.st-> ∃o∈new,o.i=i)/\(∀o∈new,o.i<m.cells)/\m.st<=t.ever/\s.ever<=t.ever
theorem dp.len:∀ {h:List aC} {t:aC},dp t h->t.marks.length=h.length
 |[],t,I=>by rw[I.1];rfl
 |s::h,t,I=>by
  obtain⟨h1,_,m,new,J,_⟩:=I;rw[J,r8,dp.len h1];rfl
theorem dp.Ft {h:List aC} {t:aC} (I:dp t h):∀c∈t.cells,c.st<=t.ever:=by
 cases h with
 |nil=>exact I.2.2
 |cons s h=>exact I.2.1
theorem dp.ever:∀ {h:List aC} {t:aC} {n:Nat},dp t h->t.ever<=n->dp {t with ever:=n} h
 |[],t,n,I,J=>⟨I.1,I.2.1,λc U=>X0 (I.2.2 c U) J⟩
 |s::h,t,n,I,J=>by
  obtain⟨h1,V,m,new,W,X,a3,a4,a5,Y,aa,ab,a9,ac,ad,ae⟩:=I;exact⟨h1,λc U=>X0 (V c U) J,m,new,W,X,a3,a4,a5,Y,aa,ab,a9,ac,X0 ad J,X0 ae J⟩
theorem dp.mark {h:List aC} {t:aC} (U:dp t h):dp t.mark (t::h):=by
 have I:=U.Ft;refine⟨U,λc J=>X0 (I c J) (S5 _),⟨t.olds.length,t.cells.length,t.ever+1⟩,[],rfl,rfl,rfl,by show t.olds=_;rw[V4],o8 _,?_,λc J=>Nat.lt_succ_of_le (I c J),λc J=>X0 (I c J) (S5 _),λi c _ hi he=>?_,λo V=>(by cases V),o8 _,S5 _⟩
 .show t.cells.take t.cells.length=_;rw[o9]
 .have:=I c (x6 hi);have he:c.st=t.ever+1:=he;omega
theorem dp.grow {h:List aC} {t:aC} (J:dp t h):dp (t.grow n) h:=by
 cases h with
 |nil=>
  refine⟨J.1,J.2.1,λc I=>?_⟩;rcases n9.1 I with I|I
  .exact J.2.2 c I
  .rw[(List.mem_replicate.1 I).2];exact Y9 _
 |cons s h=>
  obtain⟨h1,W,m,new,X,Y,a3,a4,a5,aa,ab,ac,a9,U,ad,ae⟩:=J;have V:∀ {b:Nat},(∀c∈t.cells,c.st<=b)-> ∀c∈(t.grow n).cells,c.st<=b:=λaf c I=>by
   rcases n9.1 I with I|I
   .exact af c I
   .rw[(List.mem_replicate.1 I).2];exact Y9 _
  refine⟨h1,V W,m,new,X,Y,a3,a4,by show m.cells<=(t.cells++_).length;rw[r8];omega,?_,ab,V ac,λi c hi I he=>?_,U,ad,ae⟩
  .show (back new (t.cells++_)).take m.cells=_;rw[s3 U,List.take_append_of_le_length a5,<-s3 U];exact aa
  .have I:(t.cells++o6 n ⟨0,0⟩)[i]? =σ c:=I;rw[j0 Ω] at I;exact a9 i c hi I he
theorem Fu {s:aC} {m:l3} {l:List l3} (h:l=s.marks++[m]):l.getLast? =σ m:=by rw[h,List.getLast?_concat]
theorem dp.set {h:List aC} {t:aC} {i:Nat} {x:Int} (ad:dp t h):dp (t.set i x) h:=by
 unfold aC.set;cases W:t.cells[i]? with
 |none=>exact ad
 |some c=>
  have ah:=(x4.1 W).1;have aa:=x6 W;have X:∀ {b st:Nat},(∀c∈t.cells,c.st<=b)->st<=b-> ∀d∈t.cells.set i ⟨x,st⟩,d.st<=b:=λao ae d I=>by
   rcases V3 I with I|rfl
   .exact ao d I
   .exact ae
  cases h with
  |nil=>
   obtain⟨h1,Y,ai⟩:=ad;simp only[h1,List.getLast?_nil];exact⟨rfl,Y,X ai (ai c aa)⟩
  |cons s h=>
   obtain⟨h1,Y,m,new,af,aj,a3,a4,a5,ak,al,ab,a9,am,ag,an⟩:=ad;simp only[Fu af];by_cases ac:c.st<m.st/\i<m.cells
   .rw[if_pos ac];refine⟨h1,X Y ag,m,new++[⟨i,c⟩],af,aj,a3,by show t.olds++_=_;rw[a4,V9],by show m.cells<=(t.cells.set i _).length;rw[X1];exact a5,?_,al,X ab (o8 _),λj d J I he=>?_,λo V=>?_,ag,an⟩
    .show (back (new++[⟨i,c⟩]) (t.cells.set i _)).take m.cells=_;rw[back_append];have:back [⟨i,c⟩] (t.cells.set i ⟨x,m.st⟩)=t.cells:=by
      show (t.cells.set i _).set i c=_;rw[List.set_set];refine X6 λj=>?_;rw[X5];by_cases J:i=j
      .subst J;rw[if_pos rfl,if_pos ah,W]
      .rw[if_neg J]
     rw[this];exact ak
    .have I:(t.cells.set i ⟨x,m.st⟩)[j]? =σ d:=I;by_cases U:i=j
     .exact⟨⟨i,c⟩,Ξ,U⟩
     .rw[X5,if_neg U] at I;obtain⟨o,V,he⟩:=a9 j d J I he;exact⟨o,List.mem_append_left _ V,he⟩
    .rcases n9.1 V with V|V
     .exact am o V
     .rw[l9.1 V];exact ac.2
   .rw[if_neg ac];refine⟨h1,X Y (Y c aa),m,new,af,aj,a3,a4,by show m.cells<=(t.cells.set i _).length;rw[X1];exact a5,?_,al,X ab (ab c aa),λj d J I he=>?_,am,ag,an⟩
    .rw[<-ak];show (back new (t.cells.set i _)).take m.cells=_;refine X6 λj=>?_;by_cases J:j<m.cells
     .rw[Y2 J,Y2 J];by_cases U:i=j
      .subst U;have ae:c.st=m.st:=by
        have:=ab c aa;have:¬c.st<m.st:=λaH=>ac ⟨aH,J⟩;omega
       exact xr (by rw[X1]) (a9 i c J W ae)
      .exact xt (by rw[X5,if_neg U]) (by rw[X1])
     .rw[Y4 (by rw[o7];omega),Y4 (by rw[o7];omega)]
    .have I:(t.cells.set i ⟨x,c.st⟩)[j]? =σ d:=I;by_cases U:i=j
     .subst U;rw[X5,if_pos rfl,if_pos ah] at I;cases I;exact a9 i c J W he
     .rw[X5,if_neg U] at I;exact a9 j d J I he
theorem dp.gM:∀ {h:List aC} {t:aC} {m:Nat} {s:aC},dp t h->h.reverse[m]? =σ s->t.gM m={s with ever:=t.ever}/\ ∃x,t.marks[m]? =σ x/\x.olds=s.olds.length/\x.cells=s.cells.length/\s.cells.length<=t.cells.length/\(∃new,t.olds=s.olds++new/\(back new t.cells).take s.cells.length=s.cells/\ ∀o∈new,o.i<t.cells.length)/\s.marks=t.marks.take m/\s.ever<=t.ever
 |[],t,m,s,_,I=>by simp at I
 |s1::h,t,m,s,aj,I=>by
  obtain⟨h1,au,mk,new,Y,ac,a3,a4,a5,ad,av,aw,a9,ae,ax,ak⟩:=aj;have af:=h1.len;have key:∀ {x:l3},t.marks[m]? =σ x->x.olds=s.olds.length->x.cells=s.cells.length->(∃U,t.olds=s.olds++U/\(back U t.cells).take s.cells.length=s.cells)->s.marks=t.marks.take m->t.gM m={s with ever:=t.ever}:=λ{x} V al am ⟨U,aa,W⟩ X=>by
   unfold aC.gM;rw[V];simp only;rw[al,am,aa,List.drop_left,List.take_left,W,<-X]
  rw[List.reverse_cons] at I;by_cases hm:m<h.length
  .rw[j0 (by simpa using hm)] at I;obtain⟨_,x,an,ag,ah,ay,⟨U,ao,ap,ai⟩,aq,az⟩:=dp.gM h1 I;have V:t.marks[m]? =σ x:=by rw[Y,j0 Ω];exact an
   have aa:t.olds=s.olds++(U++new):=by rw[a4,ao,V9]
   have W:(back (U++new) t.cells).take s.cells.length=s.cells:=by
    rw[back_append];have:((back U (back new t.cells)).take mk.cells).take s.cells.length=s.cells:=by
     rw[s3 (λo J=>by have:=ai o J;omega),ad];exact ap
    rw[List.take_take,T5 Ω] at this;exact this
   have X:s.marks=t.marks.take m:=by rw[Y,List.take_append_of_le_length Ω];exact aq
   refine⟨key V ag ah ⟨_,aa,W⟩ X,x,V,ag,ah,Ω,⟨_,aa,W,λo J=>?_⟩,X,Ω⟩;rcases n9.1 J with J|J
   .have:=ai o J;omega
   .have:=ae o J;omega
  .have ab:m=h.length:=by
    have:=(x4.1 I).1;simp at this;omega
   rw[Z1 Θ] at I;simp only[List.length_reverse,ab,W7,List.getElem?_cons_zero,Y6] at I;subst I;have V:t.marks[m]? =σ mk:=by rw[Y,Z1 Ω,ab,af,W7];rfl
   have X:s1.marks=t.marks.take m:=by rw[Y,ab,<-af,List.take_left]
   have W:(back new t.cells).take s1.cells.length=s1.cells:=by rw[<-a3];exact ad
   exact⟨key V ac a3 ⟨new,a4,W⟩ X,mk,V,ac,a3,Ω,⟨new,a4,W,λo J=>by have:=ae o J;omega⟩,X,ak⟩
theorem dp.tail:∀ {h:List aC} {t:aC} {m:Nat} {s:aC},dp t h->h.reverse[m]? =σ s->dp s (h.drop (h.length-m))
 |[],t,m,s,_,I=>by simp at I
 |s1::h,t,m,s,U,I=>by
  obtain⟨h1,_⟩:=U;rw[List.reverse_cons] at I;by_cases hm:m<h.length
  .rw[j0 (by simpa using hm)] at I;have:=dp.tail h1 I;rw[j5,show h.length+1-m=(h.length-m)+1 by omega,List.drop_succ_cons];exact this
  .have J:m=h.length:=by
    have:=(x4.1 I).1;simp at this;omega
   rw[Z1 Θ] at I;simp only[List.length_reverse,J,W7,List.getElem?_cons_zero,Y6] at I;subst I;rw[j5,J,show h.length+1-h.length=1 by omega];exact h1
theorem aC.nf {t:aC} {i:Nat} {x:Int}:(t.set i x).bS=t.bS.set i x:=by
 unfold aC.set aC.bS;cases I:t.cells[i]? with
 |none=>rw[List.set_eq_of_length_le (by rw[u5];exact List.getElem?_eq_none_iff.1 I)]
 |some c=>
  simp only;cases t.marks.getLast? with
  |none=>simp only;rw[T0]
  |some m=>simp only;split <;> rw[T0]
theorem aC.Fv {t:aC}:(t.grow n).bS=t.bS++o6 n 0:=by
 unfold aC.grow aC.bS;rw[Z4,List.map_replicate]
end Go.Proofs.YtgbkinibgjmodaaGreatDoor
namespace Go.Vc
open Go Go.RowKit
section
variable {P:W5} {w:x2} {m:Bool} {S R:ai}
theorem qG {b k l h:Nat} {low high:Option x1} (W:P.underlying t=σ (.slice e)) (hi:aM P e k b z)
  (I:bT w k v n cs) (h1:kk low l) (X:kl high n h) (U:l<=h) (aH:h<=n) (Y:∀V,bT w k V (h-l) ((cs.drop (l*k)).take ((h-l)*k))->K V):
  J P (W3 t v low high ν) w K:=by
 have aa:=I;obtain⟨_,ab,o,base,cap,rfl,ac,_⟩:=I;rw[fq W hi h1 X er U Ω (o8 _)];exact Y _ (bT.part aa U aH Ω (o8 _))
theorem Fw {k:o5} {b i:Nat} (V:y=(i:Int)) (W:P.underlying t=σ (.slice e)) (hi:aM P e 1 b z)
  (h:aI k w v l) (X:i<=l.length) (Y:∀I,aI k w I (l.drop i)->K I):J P (W3 t v (σ (.int U y)) ν ν) w K:=by
 refine qG W hi h (lP i y V) hx X (o8 _) λI h'=>Y I (aI.of (n:=l.length-i) ?_);have aa:((ints k l).drop (i*1)).take ((l.length-i)*1)=ints k (l.drop i):=by
  rw[Z0 Ξ,T4,ints,<-List.map_drop]
 rw[aa] at h';exact h'
theorem s4 {k:o5} {b i:Nat} (V:y=(i:Int)) (W:P.underlying t=σ (.slice e)) (hi:aM P e 1 b z)
  (h:aI k w v l) (X:i<=l.length) (Y:∀I,aI k w I (l.take i)->K I):J P (W3 t v ν (σ (.int U y)) ν) w K:=by
 refine qG W hi h hv (lQ i y V) (Y9 _) X λI h'=>Y I (aI.of (n:=i) ?_);have aa:((ints k l).drop (0*1)).take ((i-0)*1)=ints k (l.take i):=by
  simp[ints,List.map_take]
 rw[aa] at h';exact h'
theorem oz {b:Nat} {parts:Array (Nat×x1)} {K:x1->x2->Prop} (I:P.underlying t=σ (.slice e)) (hi:aM P e 1 b (Δ 0)) (aa:n<=100000) (J:l.length=n)
  (U:Instr.fill (λj=>σ (j*1,1)) ((Array.range (n*1)).map ((if n*1=0 then #[] else (V2 .i64 0).cells)[·% (if n*1=0 then #[] else (V2 .i64 0).cells).size]!)) parts.toList=σ (ints .i64 l).toArray)
  (V:∀v g w',g=w.heap.size->Ext w w'->aq .i64 e w' g v l->K v w'):az P (Z7 t n parts) w K:=
 il I hi Ω U λg w' W X Y=>V _ g w' W X (aq.of (n:=n) (bQ.full (by simpa using Y) (by simp[J]) (by simp[maxLen];omega)))
end
section
variable {P:W5} {w:x2}
theorem Fx {U V:u9} {W kn:o5} {b k cap:Nat} {base:Option Addr} {xs:List x1} {K:x1->x2->Prop} (aa:y=(k:Int)) (ab:P.underlying t=σ (.slice e)) (ac:P.underlying U=σ (.int kn)) (hi:aM P e 1 b z) (ad:z.cells= #[z])
  (I:bT w 1 (.slice base n cap) n xs) (ae:0<k) (X:cap<n+k) (af:(n+k)*b<=140737488355328) (ag:n+k<=9223372036854775807)
  (ah:∀v g w',g=w.heap.size->Ext w w'->bQ w' g e 1 v (n+k) (xs++o6 k z)->K v w'):az P (l7 #[t,U] V #[.slice base n cap,.int W y]) w K:=by
 subst aa;obtain⟨i,hi,ai,rfl,aj⟩:=hi;obtain⟨J,aw,o,ax,ay,he,ak,aA,al,am⟩:=I;cases he;have an:(l5.firstCells i.size n (.slice base n cap)).run P w.drew= .ok xs.toArray w.drew:=by
  rcases Nat.eq_zero_or_pos n with rfl|ao
  .have:xs=[]:=Z2 (by simpa using J);subst this;cases base with
   |none=>exact run_firstCells_none w.drew i.size 0 0 cap
   |some a=>exact run_firstCells_some w.drew i.size 0 a 0 cap [] Ξ Ξ
  .have:=al ao;subst this;refine run_firstCells_some w.drew i.size n _ n cap xs (by rw[ai];exact J) λj u hu=>?_;rw[U4];exact am j u hu
 have ap:k*i.bytes<=281474976710656:=by
  have:k*i.bytes<=(n+k)*i.bytes:=X3 _ Ω;omega
 have aq:=Lib.run_append_grow_zeros (P:=P) w t U V e i z W kn ab ac hi aj base n cap xs an k ae Ω X Ω ap (growslice_fits X af);have au:n+k<=grownCap w (n+k) cap e:=grownCap_ge w _ _ _;have av:grownCap w (n+k) cap e<=maxLen:=grownCap_le_maxLen w (n+k) cap e (by simpa[maxLen] using ag);have Y:∀m,l5.zeroCells z.cells m=(o6 m z).toArray:=λm=>by
  rw[ad];apply Array.ext
  .simp[size_zeroCells]
  .intro j h1 ak;simp[l5.zeroCells,Nat.mod_one]
 refine .of aq ((n1 w _ (S5 _)).trans (n3 _ _)) (ah _ w.heap.size _ rfl ((pO w _).trans (n2 _ _)) ⟨by simp at J;simp[J],.inr ⟨_,xs++o6 k z++o6 (grownCap w (n+k) cap e-(n+k)) z,rfl,?_,au,av,?_,?_⟩⟩)
 .rw[Y,Y];have:=heap_alloc_new w.drew (.cells (xs.toArray++(o6 k z).toArray++(o6 (grownCap w (n+k) cap e-(n+k)) z).toArray) e);rw[List.append_toArray,List.append_toArray] at this ⊢;exact this
 .simp at J;simp[J];omega
 .simp at J;rw[List.take_append_of_le_length (by simp[J]),Z0 (by simp[J])]
theorem xu {I:u9} {base:Option Addr} {c:Nat} (U:P.underlying t=σ (.slice e)):
  J P (l5.cap_ #[t] I #[.slice base n c]) w K=K (Δ c):=J.of λw' _=>by simp[l5.cap_,run_underlying U,goInt]
theorem Fy {g o k c:Nat} (h:ae w g e cs) (W:o+k<=cs.length) (J:k<=c) (U:c<=maxLen):bT w 1 (.slice (σ ⟨g,o,ν⟩) k c) k ((cs.drop o).take k):=by
 refine⟨Θ,g,o,_,c,rfl,J,U,λ_=>rfl,λj v I=>?_⟩;have V:=(x4.1 I).1;simp at V;rw[Y2 Ω,List.getElem?_drop] at I;exact h.cell I
theorem xv {U W:u9} {X g o cap:Nat} {K:x1->x2->Prop} (Y:P.underlying t=σ (.slice e)) (hi:aM P e 1 X z) (aa:z.cells= #[z]) (h1:z.oneCell'=true)
  (I:ae w g W cs) (ab:0<n) (ai:o+n<=cs.length)
  (ac:∀w',af (λr=>r=g) w w'->w'.heap.size=w.heap.size->ae w' g W (over cs o (o6 n z))->K (.tuple #[]) w'):az P (l5.clear_ #[t] U #[.slice (σ ⟨g,o,ν⟩) n cap]) w K:=by
 obtain⟨i,hi,aj,rfl,ad⟩:=hi;have ag:=Lib.run_clear_slice (P:=P) w t e U z Y (λw=>by simp[zeroValue,typeInfo,hi,ad]) aa h1 g o n cap ab
  (λj ak=>by rw[I.cell (y0 (show o+j<cs.length by omega))];rfl) (λj _=>I.frozen _ _)
 obtain⟨ah,J⟩:=lT (o6 n z) cs o w I;exact .of ag (J.ds I) (ac _ J.V J.size ah)
end
section
variable {P:W5} {w:x2}
theorem ha {I:u9} {k:o5} {i b g:Nat} (V:y=(i:Int)) (W:P.underlying t=σ (.slice e)) (hi:aM P e 1 b z)
  (h:aq k I w g v l) (X:i<l.length):J P (n0 t v (.int U y)) w K=K (.pointer (σ ⟨g,i,ν⟩)):=by
 subst V;obtain⟨_,⟨_,Y⟩|⟨cap,cs,rfl,_⟩⟩:=h
 .omega
 .rw[fc W hi X (λ_=>rfl)];simp
theorem s5 {k:o5} {i b:Nat} {x:Int} (V:y=(i:Int)) (W:P.underlying t=σ (.slice e)) (hi:aM P e 1 b z)
  (h:aI k w v l) (I:l[i]? =σ x) (X:∀b o,w.cell? ⟨b,o,ν⟩=σ (.int k x)->K (.pointer (σ ⟨b,o,ν⟩))):J P (n0 t v (.int U y)) w K:=by
 subst V;have Y:=(x4.1 I).1;obtain⟨_,_,_,_,_,rfl,_,_,aa,ab⟩:=h;rw[fc W hi Y aa,T4];exact X _ _ (ab i _ (jx I))
theorem hb {J:u9} {k:o5} {i b g:Nat} {x:Int} {K:Unit->x2->Prop} (hi:aM P e 1 b z)
  (h:aq k J w g v l) (ae:i<l.length) (W:∀w',af (λr=>r=g) w w'->w'.heap.size=w.heap.size->aq k J w' g v (l.set i x)->K () w'):az P (o4 e (.pointer (σ ⟨g,i,ν⟩)) (.int k x)) w K:=by
 obtain⟨ag,⟨_,ah⟩|⟨cap,full,rfl,X,Y,aa,U,V⟩⟩:=h
 .omega
 .have ab:i<full.length:=by simp at U;omega
  refine bj hi rfl rfl X ab λw' ac I ad=>W w' ac I ⟨Ξ,.inr ⟨cap,full.set i (.int k x),Ξ,ad,by simpa using Y,aa,by simpa using U,?_⟩⟩;simp only[X1,T4] at V ⊢;rw[List.take_set,V,ints,ints,T0]
theorem kt {b o:Nat} (I:jw P t=true) (h:w.cell? ⟨b,o,ν⟩=σ v):bk P (x5 t (.pointer (σ ⟨b,o,ν⟩))) v w:=λw' J=>by
 have h':=lM J h;unfold jw at I;cases hu:P.underlying t with
 |none=>rw[hu] at I;cases I
 |some d=>
  rw[hu] at I;cases d <;> first|(cases I;done)|simp[x5,Instr.sureAddr,loadVar,isAgg,run_underlying hu,h']
theorem io {k:o5} {S:ai} (h:aI k w v l) (U:af S w w') (V:∀r,S r-> ∀a n c,v= .slice (σ a) n c->a.block≠r):aI k w' v l:=by
 obtain⟨h1,b,o,base,cap,rfl,W,X,I,Y⟩:=h;refine⟨h1,b,o,base,cap,rfl,W,X,I,?_⟩;rcases Nat.eq_zero_or_pos l.length with J|J
 .intro j u hu;have:=(x4.1 hu).1;simp at this;omega
 .have aa:=I J;subst aa;exact oo U (λh=>V _ h _ _ _ rfl rfl) Y
end
end Go.Vc
namespace Go.Vc
open Go Go.RowKit Go.ChangeShapes Go.WideShapes
structure ku (P:W5) (t:u9) (α:Type) [ak α] (G:α->Prop):Prop where
 op:∀ {H:Type} {enc:u9×x1->H} {w:x2} {base:Nat} {spare:Nat->Bool} {held:Bool} {fuel:Nat} {cs:List x1} {x:DataW H×List MemPlace},
  DataW.trod enc P w base spare held fuel t cs=σ x-> ∃a:α,Seen ea w cs a/\G a
section
variable {P:W5} {α β:Type} [ak α] [ak β]
theorem xw {k:o5} {n:Int} (h:(Lit.int k n).wf=true):k.min<=n/\n<=k.max:=by simpa[Lit.wf] using h
theorem xx {k:o5} (I:P.underlying t=σ (.int k)):ku P t (cY k) λn=>k.min<=n.val/\n.val<=k.max:=⟨λh=>by
 obtain⟨n,rfl,_,hw⟩:=DataW.trod_int I h;exact⟨(n:Int),rfl,xw hw⟩⟩
theorem ng (I:P.underlying t=σ (.int .i64)):ku P t Int λn=>Y5.min<=n/\n<=Y5.max:=⟨λh=>by
 obtain⟨n,rfl,_,hw⟩:=DataW.trod_int I h;exact⟨n,rfl,xw hw⟩⟩
theorem Fz (I:P.underlying t=σ .bool):ku P t Bool λ_=>True:=⟨λh=>by
 obtain⟨b,rfl,_⟩:=DataW.trod_bool I h;exact⟨b,rfl,trivial⟩⟩
theorem FA (a:Addr) (m n:Nat):(a.add m).add n=a.add (m+n):=by
 unfold Addr.add;by_cases hm:m=0 <;> by_cases I:n=0 <;> simp[hm,I,S7]
theorem FB {base:Nat} {a:Addr} (h:w.cells? base a n=σ cs):cs.length=n/\ ∀j v,cs[j]? =σ v->w.cell? (a.add j)=σ v:=by
 unfold x2.cells? at h;split at h
 .have J:cs.length=n:=by
   have:=mapM_some_length h;simpa using this
  refine⟨J,λj v I=>?_⟩;have U:=(x4.1 I).1;have:=mapM_some_get h j j (List.getElem?_range Ω);rw[this,I]
 .cases h
theorem qH {G:α->Prop} (ai:P.underlying t=σ (.slice e)) (he:ku P e α G) (aj:P.cellsOf e=ak.n α) (au:0<ak.n α):ku P t (List α) λl=>∀a∈l,G a:=by
 constructor;intro H enc w base spare held fuel cs x h;rcases DataW.trod_slice ai h with⟨rfl,_⟩|⟨a,len,cap,av,rest,n,_,rfl,rfl,aw,ax,hm,ay,al,_,_⟩
 .exact⟨[],fs,λ_ h=>by cases h⟩
 .
  have af:∀i,i<len-> ∃ (c:List x1) (y:α),c.length=ak.n α/\(∀j v,c[j]? =σ v->w.cell? (a.add (i*ak.n α+j))=σ v)/\Seen ea w c y/\G y:=by
   intro i hi;have h1:=al i hi;rw[y0 Ω,aj,Option.bind_eq_some_iff] at h1;obtain⟨c,V,W⟩:=h1;obtain⟨Y,aa⟩:=FB V;obtain⟨y,ab,am⟩:=he.op W;exact⟨c,y,Y,λj v U=>by have:=aa j v U;rwa [FA] at this,ab,am⟩
  have all:∀m,m<=len-> ∃ (vs:List (List x1)) (l:List α),vs.length=m/\l.length=m/\(∀c∈vs,c.length=ak.n α)/\(∀ (j:Nat) (v:x1),vs.flatten[j]? =σ v->w.cell? (a.add j)=σ v)/\
    (∀ (i:Nat) (c:List x1) (y:α),vs[i]? =σ c->l[i]? =σ y->Seen ea w c y)/\ ∀y∈l,G y:=by
   intro m;induction m with
   |zero=>exact λ_=>⟨[],[],rfl,rfl,(λ_ h=>by cases h),(λj v h=>by simp at h),(λi c y h=>by simp at h),(λ_ h=>by cases h)⟩
   |succ m an=>
    intro hm;obtain⟨vs,l,h1,V,W,Y,aa,ab⟩:=an Ω;obtain⟨c,y,ag,ac,ao,ap⟩:=af m Ω;refine⟨vs++[c],l++[y],by simp[h1],by simp[V],λd I=>?_,λj v U=>?_,λi d z I J=>?_,λz J=>?_⟩
    .rcases n9.1 I with I|I
     .exact W d I
     .simp at I;subst I;exact ag
    .have X:=ov W;rw[h1] at X;rw[List.flatten_append] at U;by_cases aq:j<m*ak.n α
     .rw[j0 Ω] at U;exact Y j v U
     .rw[Z1 Ω,X] at U;simp at U;have:=ac _ v U;rwa [show m*ak.n α+(j-m*ak.n α)=j by omega] at this
    .by_cases hi:i<m
     .rw[j0 Ω] at I J;exact aa i d z I J
     .have ad:=(x4.1 I).1;simp[h1] at ad;have ad:i=m:=Ω
      subst ad;rw[Z1 Ω,h1] at I;rw[Z1 Ω,V] at J;simp at I J;subst I J;exact ao
    .rcases n9.1 J with J|J
     .exact ab z J
     .simp at J;subst J;exact ap
  obtain⟨vs,l,h1,V,W,Y,aa,ab⟩:=all len (o8 _);have X:=ov W;rw[h1] at X;have ah:0<len->a=⟨a.block,a.off,ν⟩:=λae=>by
   obtain⟨c,y,ag,ac,_⟩:=af 0 Ω;have:=ac 0 c[0] (y0 Ω);rw[Nat.zero_mul] at this;exact sS this
  refine⟨l,⟨_,rfl,vs,0,λ_ _=>False,⟨λ_ _ h=>h.elim,(λh=>by cases h),(λh=>by cases h)⟩,⟨Ω,aa⟩,⟨by rw[X,V],a.block,a.off,σ a,cap,by rw[V],Ω,hm,λae=>congrArg σ (ah Ω),λ_=>.inr trivial,λj v U=>?_⟩,λh=>by cases h⟩,ab⟩;have:=Y j v U;have aq:=(x4.1 U).1;have ae:0<len:=by
   rcases Nat.eq_zero_or_pos len with h|h
   .rw[h,Nat.zero_mul] at X;omega
   .exact h
  rw[ah ae,U4] at this;exact this
structure qI (P:W5) (fs:List Field) (off:Nat) (α:Type) [ak α] (G:α->Prop):Prop where
 op:∀ {H:Type} {enc:u9×x1->H} {w:x2} {base:Nat} {spare:Nat->Bool} {held:Bool} {n:Nat} {cs:List x1},cs.length=off+ak.n α->
  (∀f∈fs,∃x,DataW.trod enc P w base spare held n f.type ((cs.drop f.offset).take (P.cellsOf f.type))=σ x)-> ∃a:α,Seen ea w (cs.drop off) a/\G a
theorem FC {f:Field} {off:Nat} {G:α->Prop} (h:ku P f.type α G) (I:f.offset=off) (J:P.cellsOf f.type=ak.n α):qI P [f] off α G:=by
 constructor;intro H enc w base spare held n cs X U;obtain⟨x,V⟩:=U f (.head _);obtain⟨a,h1,W⟩:=h.op V;rw[I,J,Z0 Θ] at h1;exact⟨a,h1,W⟩
theorem k9 {f:Field} {I:List Field} {off:Nat} {G:α->Prop} {J:β->Prop} (h:ku P f.type α G) (V:f.offset=off) (W:P.cellsOf f.type=ak.n α) (X:qI P I (off+ak.n α) β J):
  qI P (f::I) off (α×β) λp=>G p.1/\J p.2:=by
 constructor;intro H enc w base spare held n cs ae U;obtain⟨x,Y⟩:=U f (.head _);obtain⟨a,h1,aa⟩:=h.op Y;rw[V,W] at h1;have af:ak.n (α×β)=ak.n α+ak.n β:=rfl;obtain⟨b,ab,ac⟩:=X.op Ω λg ad=>U g (.tail _ ad);refine⟨(a,b),⟨(cs.drop off).take (ak.n α),cs.drop (off+ak.n α),λ_=>False,λ_=>False,?_,λ_ h=>h,λ_ h=>h,(λh=>by cases h),h1,ab⟩,aa,ac⟩;rw[<-List.drop_drop,List.take_append_drop]
theorem FD {I:List Field} {G:α->Prop} (J:P.underlying t=σ (.struct I.toArray)) (U:qI P I 0 α G) (aa:P.cellsOf t=ak.n α):ku P t α G:=by
 constructor;intro H enc w base spare held fuel cs x h;obtain⟨xs,n,_,rfl,ab,V,W⟩:=DataW.trod_struct J h;have:=U.op (enc:=enc) (w:=w) (base:=base) (spare:=spare) (held:=held) (n:=n) (cs:=cs) Ω λf X=>by
  obtain⟨i,hi,rfl⟩:=List.mem_iff_getElem.1 X;have Y:i<xs.length:=by simpa[V] using hi
  have:=W i I[i] (by simp[hi]);rw[y0 Y] at this;exact⟨_,this⟩
 simpa using this
end
end Go.Vc
namespace Go.Vc
open Go Go.RowKit
set_option maxRecDepth 100000
theorem FE:(⟨#[]⟩:ByteArray)=strOfNums []:=rfl
theorem FF {I:x1->x1->x1->x2->Prop} {B:(x1->x1->x1->x2->Prop)->Prop} (G:x1->x1->x1->x2->Prop) (h1:∀t u v w,G t u v w->I t u v w)
  (U:∀J:x1->x1->x1->x2->Prop,(∀t u v w,G t u v w->J t u v w)->B J):bx I B:=U I h1
theorem s6 {I:x1->x1->x1->x1->x2->Prop} {B:(x1->x1->x1->x1->x2->Prop)->Prop} (G:x1->x1->x1->x1->x2->Prop) (h1:∀s t u v w,G s t u v w->I s t u v w)
  (U:∀J:x1->x1->x1->x1->x2->Prop,(∀s t u v w,G s t u v w->J s t u v w)->B J):bx I B:=U I h1
abbrev bw (l:List Int):x1:=.string (strOfNums l)
def Bytes (l:List Int):Prop:=∀b∈l,0<=b/\b<256
theorem la (l:List Int):(strOfNums l).size=l.length:=strOfNums_size l
theorem FG (h:Bytes l) {i:Nat} {b:Int} (hi:l[i]? =σ b):(strOfNums l)[i]? =σ (UInt8.ofNat b.toNat)/\((UInt8.ofNat b.toNat).toNat:Int)=b:=by
 have V:=h b (x6 hi);have U:=x4.1 hi;refine⟨?_,by rw[UInt8.toNat_ofNat'];omega⟩;have I:i<(strOfNums l).size:=by rw[la];exact U.1
 rw[getElem?_pos (strOfNums l) i I];congr 1;show (strOfNums l).data[i]=_;have J:(strOfNums l).data.toList[i]? =σ (UInt8.ofNat b.toNat):=by rw[strOfNums_data,x8,hi];rfl
 rw[S3] at J;exact (j4.1 J).2
theorem str_inj {b:List Int} (I:Bytes a) (J:Bytes b) (h:strOfNums a=strOfNums b):a=b:=by
 have h1:(strOfNums a).data.toList=(strOfNums b).data.toList:=by rw[h]
 rw[strOfNums_data,strOfNums_data] at h1;have key:∀ {l:List Int},Bytes l->(l.map λn=>UInt8.ofNat n.toNat).map (λu=>((u.toNat:Nat):Int))=l:=λ{l} U=>by
  rw[List.map_map]
  conv=>rhs;rw[<-List.map_id l]
  refine List.map_congr_left λx V=>?_;have:=U x V;show (((UInt8.ofNat x.toNat).toNat:Nat):Int)=x;rw[UInt8.toNat_ofNat'];omega
 rw[<-key I,<-key J,h1]
theorem FH (a b:List Int):strOfNums a++strOfNums b=strOfNums (a++b):=by
 apply ByteArray.ext;rw[ByteArray.data_append];simp[strOfNums]
theorem FI (l:List Int) (i j:Nat):(strOfNums l).extract i j=strOfNums ((l.take j).drop i):=by
 apply ByteArray.ext;rw[ByteArray.data_extract];apply Array.toList_inj.1;rw[Array.toList_extract];simp[strOfNums,List.extract_eq_take_drop,List.map_drop,List.map_take,List.drop_take]
theorem xy (l:List Int):(strOfNums l).toList=l.map λn=>UInt8.ofNat n.toNat:=by
 rw[ByteArray.toList_eq];exact strOfNums_data l
theorem xz {b:List Int} (I:Bytes a) (J:Bytes b):((strOfNums a).toList == (strOfNums b).toList)=decide (a=b):=by
 rw[V8,beq_iff_eq,decide_eq_true_eq,xy,xy];refine⟨λh=>str_inj I J ?_,λh=>by rw[h]⟩;unfold strOfNums;rw[h]
section
variable {P:W5} {w:x2}
theorem l6 {I:u9} (U:P.underlying t=σ .string):J P (Y3 #[t] I #[bw l]) w K=K (Δ l.length):=J.of λw' _=>by
 simp[Y3,run_underlying U,goInt,la]
theorem oA {k:o5} {b:Int} {i:Nat} (I:y=(i:Int)) (U:P.underlying t=σ .string) (V:Bytes l) (hi:l[i]? =σ b):J P (Instr.index t (bw l) (.int k y)) w K=K (.int .u8 b):=J.of λw' _=>by
 subst I;obtain⟨h1,W⟩:=FG V hi;have e:(0:Int)<=(i:Int):=Ω
 simp only[Instr.index,asIntOf,X8,W9,W0,run_underlying U];rw[if_pos e,j9,h1];simp only[W9,W]
theorem s7 {b:List Int} (h:a.length+b.length<=9223372036854775807):J P (aB .add t cx cy (bw a) (bw b)) w K=K (bw (a++b)):=J.of λw' _=>by
 have:=run_string_add_sum (P:=P) (w:=w') (strOfNums a) (strOfNums b) (by rw[la,la];exact h);simp only[aB,eqGuard,binOp];simp[this,FH]
theorem xA {b:List Int} (I:Bytes a) (U:Bytes b):J P (aB .eql t cx cy (bw a) (bw b)) w K=K (.bool (decide (a=b))):=J.of λw' _=>by
 simp[aB,eqGuard,binOp,Op.stringOp,xz I U]
theorem FJ {b:List Int} (I:Bytes a) (U:Bytes b):J P (aB .neq t cx cy (bw a) (bw b)) w K=K (.bool (decide (a≠b))):=J.of λw' _=>by
 simp[aB,eqGuard,binOp,Op.stringOp,xz I U]
theorem xB {k:o5} {i:Nat} (I:y=(i:Int)) (U:P.underlying t=σ .string) (hi:i<=l.length):J P (W3 t (bw l) (σ (.int k y)) ν ν) w K=K (bw (l.drop i)):=J.of λw' _=>by
 have V:=qz (P:=P) w' (sl:=false) (n:=(strOfNums l).size) (c:=(strOfNums l).size) (low:=σ (.int k y)) (high:=ν) (mx:=ν) (l:=i) (h:=(strOfNums l).size) (m:=(strOfNums l).size) (lP i y I) hx er (by rw[la];exact hi) (o8 _) (o8 _);have e:(strOfNums l).extract i (strOfNums l).size=strOfNums (l.drop i):=by rw[FI,la,o9]
 simp[W3,Instr.slice,run_underlying U,V,e]
theorem s8 {s:u9} (I:P.underlying s=σ (.slice e)) (he:P.underlying e=σ (.int .u8)) (U:P.underlying t=σ .string) (h:aI .u8 w v l):J P (convert s t v) w K=K (bw l):=J.of λw' X=>by
 obtain⟨V,b,o,base,cap,rfl,_,_,Y,aa⟩:=h.ext X;have V:l.length=l.length*1:=by simpa using V
 by_cases ab:0<l.length
 .rw[Y ab];refine run_convert_bytes_arg w' s e I he b o l.length cap l rfl (λi hi=>?_) t U;have W:l[i]? =σ l[i]:=y0 hi;rw[u4,W];exact aa i _ (jx W)
 .have ac:l=[]:=Z2 Ω;subst ac;cases base with
  |none=>
   rw[run_convert_bytes_nil w' s e I he _ _ t U];rfl
  |some a=>
   rw[run_convert_bytes_string w' s t e _ _ _ I he U];have:=run_bytesToString (P:=P) w' a 0 cap [] (by have:=run_loadCells_list (P:=P) w' a [] (λj v ad=>by simp at ad);simpa using this);simp only[List.length_nil];rw[this];rfl
theorem s9 {s:u9} {u:TypeDesc} {K:x1->x2->Prop} (I:P.underlying s=σ u) (Y:P.underlying t=σ (.slice e)) (he:P.underlying e=σ (.int .u8)) (aa:Bytes l) (hm:l.length<=1000000000)
  (ab:∀v w',Ext w w'->aI .u8 w' v l->(∀r,(∃a n c,v= .slice (σ a) n c/\a.block=r)->w.heap.size<=r)->K v w'):az P (convert s t (bw l)) w K:=by
 have ac:=Lib.bytesWorld_at_new w e (strOfNums l);have W:=λj J=>Lib.bytesWorld_at_old w e (strOfNums l) j J;have ad:=Lib.bytesWorld_size w e (strOfNums l);refine .of (Lib.run_convert_string_bytes w s t e (strOfNums l) I Y he) ⟨rfl,⟨rfl,S5 _⟩,rfl,Ω,λr o U _=>?_⟩ (ab _ _ ⟨Ω,λr o U _=>?_⟩ ?_ ?_)
 .rw[W r (j4.1 U).1];exact U
 .rw[W r (j4.1 U).1];exact U
 .rw[la];refine⟨Ξ,w.heap.size,0,_,_,rfl,?_,?_,λ_=>rfl,λj v V=>?_⟩
  .exact grownCap_ge w _ _ _
  .exact grownCap_le_maxLen w _ _ _ (by simp[maxLen];omega)
  .have J:j<l.length:=by have:=(x4.1 V).1;simpa using this
   have X:l[j]? =σ l[j]:=y0 J;rw[V1,Lib.bytesWorld_cell w e (strOfNums l) j (by rw[la];exact J)];rw[jx X] at V;rw[<-Z6 V,strOfNums_data,u4,x8,X];have:=aa l[j] (R2 J);simp only[Y0,S1];congr 2;rw[UInt8.toNat_ofNat'];omega
 .rintro r ⟨a,n,c,h1,rfl⟩;cases h1;exact o8 _
end
end Go.Vc
namespace Go.Proofs.YtgbkinibgjmodaaGreatDoor
open Go Go.Vc Go.RowKit Go.Proofs Go.Proofs.Tryz
set_option maxRecDepth 100000
theorem xC {b:Int} (h:cg b=true):bF b=false:=by
 have h:=of_decide_eq_true h;unfold bF;rw[decide_eq_false_iff_not];omega
theorem xD {b:Int} {p:List Int} (h:cg b=true):lex (b::p)=lex p:=by
 rw[iT,iT p,List.dropWhile_cons,if_pos h]
theorem FK {b:Int} {p:List Int} (h:cg b=false) (I:bF b=false):lex (b::p)=([],false):=by
 rw[iT,List.dropWhile_cons,if_neg (by simp[h])];simp only[I,Bool.false_eq_true,if_false]
theorem xE {b:Int} {p:List Int} (h:bF b=true):lex (b::p)=match p.dropWhile bF with
  |[]=>([b::p.takeWhile bF],true)
  |c::r=>if cg c then ((b::p.takeWhile bF)::(lex (c::r)).1,(lex (c::r)).2) else ([],false):=by
 have I:cg b=false:=by
  cases J:cg b with
  |false=>rfl
  |true=>rw[xC J] at h;cases h
 rw[iT,List.dropWhile_cons,if_neg (by simp[I])];simp only[h,if_true,List.dropWhile_cons,List.takeWhile_cons]
 all_goals (cases List.dropWhile bF p <;> rfl)
def hc:List Int->List (List Int)->List Int->Bool->List (List Int)×Bool
 |[],out,w,op=>(if op then out++[w] else out,true)
 |b::p,out,w,op=>
  if cg b then hc p (if op then out++[w] else out) [] false
  else if bF b then hc p out (if op then w++[b] else[b]) true
  else (out,false)
theorem oB:∀ (p:List Int) (out:List (List Int)) (w:List Int),hc p out w false=(out++(lex p).1,(lex p).2)/\
  hc p out w true=match p.dropWhile bF with
   |[]=>(out++[w++p.takeWhile bF],true)
   |c::r=>if cg c then (out++[w++p.takeWhile bF]++(lex (c::r)).1,(lex (c::r)).2) else (out,false)
 |[],out,w=>by simp[hc,iT []]
 |b::p,out,w=>by
  by_cases I:cg b=true
  .have hw:=xC I;refine⟨?_,?_⟩
   .rw[hc,if_pos I,(oB p _ _).1,xD I];simp
   .rw[hc,if_pos I,if_pos rfl,(oB p _ _).1,List.dropWhile_cons,if_neg (by simp[hw])];simp only[I,if_true,xD I,List.takeWhile_cons,hw,Bool.false_eq_true,if_false,V4]
  .have U:cg b=false:=by cases h:cg b;rfl;exact absurd h I
   by_cases hw:bF b=true
   .refine⟨?_,?_⟩
    .rw[hc,if_neg I,if_pos hw,if_neg Ξ,(oB p _ _).2,xE hw];cases p.dropWhile bF with
     |nil=>simp
     |cons c r=>
      simp only;by_cases J:cg c=true
      .simp[J]
      .simp[J]
    .rw[hc,if_neg I,if_pos hw,if_pos rfl,(oB p _ _).2,List.dropWhile_cons,if_pos hw,List.takeWhile_cons,if_pos hw];cases p.dropWhile bF with
     |nil=>simp
     |cons c r=>
      simp only;by_cases J:cg c=true
      .simp[J]
      .simp[J]
   .have V:bF b=false:=by cases h:bF b;rfl;exact absurd h hw
    refine⟨?_,?_⟩
    .rw[hc,if_neg I,if_neg hw,FK U V];simp
    .rw[hc,if_neg I,if_neg hw,List.dropWhile_cons,if_neg hw];simp[U]
theorem FL (p:List Int):hc p [] [] false=lex p:=by rw[(oB p [] []).1];simp
def nh:Nat->Nat->List Int
 |0,_=>[]
 |k+1,n=>(if n<10 then[] else nh k (n / 10))++[48+((n % 10:Nat):Int)]
def eQ (n:Nat):List Int:=nh (n+1) n
theorem xF:∀ {k m n:Nat},n<k->n<m->nh k n=nh m n
 |k+1,m+1,n,h1,I=>by
  unfold nh;by_cases h:n<10
  .rw[if_pos h,if_pos h]
  .rw[if_neg h,if_neg h,xF (k:=k) (m:=m) (n:=n / 10) Ω Ω]
theorem l8 (n:Nat):eQ n=(if n<10 then[] else eQ (n / 10))++[48+((n % 10:Nat):Int)]:=by
 unfold eQ;rw[nh];by_cases h:n<10
 .rw[if_pos h,if_pos h]
 .rw[if_neg h,if_neg h,xF (k:=n) (m:=n / 10+1) Ω Ω]
theorem xG:∀ (k n:Nat),n<k-> ∀b∈eQ n,48<=b/\b<=57
 |k+1,n,J,b,I=>by
  rw[l8] at I;rcases n9.1 I with I|I
  .by_cases h:n<10
   .rw[if_pos h] at I;simp at I
   .rw[if_neg h] at I;exact xG k (n / 10) Ω b I
  .rw[l9] at I;omega
theorem xH (n:Nat):∀b∈eQ n,48<=b/\b<=57:=xG (n+1) n Ω
def oC (l:List Int):Int:=l.foldl (λn b=>10*n+(b-48)) 0
theorem FM (l:List Int) (b:Int):oC (l++[b])=10*oC l+(b-48):=by simp[oC]
theorem ta:∀ (k n:Nat),n<k->oC (eQ n)=n
 |k+1,n,I=>by
  rw[l8,FM];by_cases h:n<10
  .rw[if_pos h];have:oC []=0:=rfl;omega
  .rw[if_neg h,ta k (n / 10) Ω];omega
theorem FN {a b:Nat} (h:eQ a=eQ b):a=b:=by
 have h1:=ta (a+1) a Ω;have I:=ta (b+1) b Ω;rw[h,I] at h1;omega
theorem tb:∀ (k n:Nat),n<10 ^ k->1<=k->(eQ n).length<=k
 |k+1,n,h,_=>by
  rw[l8,r8];by_cases I:n<10
  .rw[if_pos I];simp
  .rw[if_neg I];have J:1<=k:=by
    rcases k with _|k
    .simp at h;omega
    .omega
   have U:(10:Nat) ^ (k+1)=10*10 ^ k:=by rw[Nat.pow_succ,Nat.mul_comm]
   have:=tb k (n / 10) Ω J;simp only[T1];omega
def dI (t:List Int):List Int:=t.flatMap λv=>eQ v.toNat++[32]
theorem FO (t:List Int) (v:Int):dI (t++[v])=dI t++(eQ v.toNat++[32]):=by simp[dI]
theorem xI {r:List Int} (I:∀b∈l,b≠32):(l++32::r).takeWhile (λb=>decide (b≠32))=l/\(l++32::r).dropWhile (λb=>decide (b≠32))=32::r:=by
 induction l with
 |nil=>simp
 |cons x l J=>
  have U:=I x (.head _);have:=J λb V=>I b (.tail _ V);simp only[List.cons_append,List.takeWhile_cons,List.dropWhile_cons];simp only[U,ne_eq,not_false_eq_true,decide_true,if_true];exact⟨by rw[this.1],this.2⟩
theorem xJ:∀ {a b:List Int},(∀x∈a,0<=x)->(∀x∈b,0<=x)->dI a=dI b->a=b
 |[],[],_,_,_=>rfl
 |[],y::b,_,_,h=>by simp[dI] at h
 |x::a,[],_,_,h=>by simp[dI] at h
 |x::a,y::b,J,U,h=>by
  have e:∀ (z:Int) (l:List Int),dI (z::l)=eQ z.toNat++32::dI l:=λz l=>by simp[dI]
  rw[e,e] at h;have d:∀z:Int,∀c∈eQ z.toNat,c≠32:=λz c W=>by have:=xH _ c W;omega
  have s1:=xI (r:=dI a) (d x);have V:=xI (r:=dI b) (d y);rw[h] at s1;have X:eQ x.toNat=eQ y.toNat:=s1.1.symm.trans V.1;have Y:=s1.2.symm.trans V.2;have ab:=J x (.head _);have ac:=U y (.head _);have:=FN X;have aa:x=y:=Ω
  subst aa;rw[xJ (λz I=>J z (.tail _ I)) (λz I=>U z (.tail _ I)) (List.cons.inj Y).2]
theorem xK (t:List Int):Bytes (dI t):=λb I=>by
 obtain⟨v,_,I⟩:=List.mem_flatMap.1 I;rcases n9.1 I with I|I
 .have:=xH _ b I;omega
 .rw[l9] at I;omega
theorem xL {b:Int}:aj x3 D0 [.int .u8 b] w λv w'=>v= .bool (cg b)/\Ext w w':=by
 refine aA func204 ?_;refine aP (λv U=>v= .bool (cg b)/\Ext w U) (λ_ _ h=>h) λJ I=>?_;rw[bi,ad];refine⟨λh=>I _ _ ⟨by unfold cg;rw[decide_eq_true (.inl h)],Ext.refl _⟩,λh1=>?_⟩;rw[bi,ad];refine⟨λh=>I _ _ ⟨by unfold cg;rw[decide_eq_true (.inr (.inl h))],Ext.refl _⟩,λV=>?_⟩;rw[bi,ad];refine⟨λh=>I _ _ ⟨by unfold cg;rw[decide_eq_true (.inr (.inr (.inl h)))],Ext.refl _⟩,λW=>?_⟩;rw[bi];refine I _ _ ⟨?_,Ext.refl _⟩;congr 1;unfold cg;rw[V8,decide_eq_true_eq,decide_eq_true_eq];omega
theorem FP {b:Int}:aj x3 DZ [.int .u8 b] w λv w'=>v= .bool (bF b)/\Ext w w':=by
 refine aA func203 ?_;refine aP (λv U=>v= .bool (bF b)/\Ext w U) (λ_ _ h=>h) λJ I=>?_;rw[cb,ad];refine⟨λh=>?_,λh=>I _ _ ⟨by unfold bF;rw[decide_eq_false Ω],Ext.refl _⟩⟩;rw[lN];refine I _ _ ⟨?_,Ext.refl _⟩;congr 1;unfold bF;rw[V8,decide_eq_true_eq,decide_eq_true_eq];omega
def kv (w:x2) (g:Nat) (I:x1) (p:List Int) (at_:Nat) (bad:Int):Prop:=Bytes p/\p.length<=100000/\at_<=p.length/\ae w g gI [I,Δ (at_:Int),Δ bad]/\ ∃J,aq .u8 cr w J I p
theorem kv.ext {g:Nat} {I:x1} {p:List Int} {at_:Nat} {bad:Int} (h:kv w g I p at_ bad) (J:Ext w w'):kv w' g I p at_ bad:=by
 obtain⟨h1,U,V,W,X,Y⟩:=h;exact⟨h1,U,V,W.ext J,X,Y.ext J⟩
theorem FQ (h:aI .u8 w v l) (af:l.length<=100000):aj x3 DU [v] w λJ w'=>Ext w w'/\ ∃g,aq .u8 cr w' g J l:=by
 have I:=h;obtain⟨ag,b,o,base,cap,rfl,ah,hm,W,X⟩:=h;refine aA func197 ?_;rw[qx cw.u,bH];refine⟨λY=>⟨Ext.refl _,0,?_⟩,λ_=>?_⟩
 .have:l=[]:=by
   cases base with
   |none=>
        by_cases I:0<l.length
        .have:=W I;cases this
        .exact Z2 Ω
   |some a=>cases Y
  subst this;exact aq.nil _ _ _ _
 .refine il (k:=1) (cs:=#[]) cw.u cr.i Ω Ψ λg U ai V aa=>?_;have ab:aq .u8 cr U g (.slice (σ ⟨g,0,ν⟩) 0 0) []:=aq.of (n:=0) (bQ.full (by simpa using aa) rfl Ξ);refine hy cw.u cr.i rfl ab (I.ext V) Θ Θ λJ ac ak al ad ae=>?_;exact⟨V.then ae (λr X he=>by have he:r=g:=he;omega),ac,by simpa using ad⟩
theorem xM (h:aI .u8 w v l) (Y:Bytes l) (J:l.length<=100000):aj x3 wH [v] w λaa w'=>Ext w w'/\ ∃g,aa=Γ g/\w.heap.size<=g/\ ∃I,kv w' g I l 0 (-1):=by
 refine aA func146 ?_;refine (FQ h J).mono ?_;rintro I U _ ⟨V,ab,W⟩;rw[cR (cs:=#[I,Δ 0,Δ (-1)]) (by obtain⟨_,_,_,_,_,rfl,_⟩:=W.ls;kernel_rfl)];refine bM λg ad ae X ac=>?_;have s1:=V.size;exact⟨V.trans X,g,rfl,Ω,I,Y,J,Y9 _,ac,ab,W.ext X⟩
def runN (f:Int->Bool) (p:List Int):Nat:=(p.takeWhile f).length
theorem FR (f:Int->Bool) (p:List Int):runN f p<=p.length:=(List.takeWhile_sublist f).length_le
theorem xN {f:Int->Bool} {p:List Int} {i:Nat} {b:Int} (hi:p[i]? =σ b) (J:f b=true):i+runN f (p.drop i)=(i+1)+runN f (p.drop (i+1)):=by
 have I:=x4.1 hi;unfold runN;rw[W8 I.1,I.2,List.takeWhile_cons,if_pos J,j5];omega
theorem xO {f:Int->Bool} {p:List Int} {i:Nat} (h:∀b,p[i]? =σ b->f b=false):runN f (p.drop i)=0:=by
 unfold runN;cases I:p[i]? with
 |none=>
  rw[List.drop_of_length_le (List.getElem?_eq_none_iff.1 I)];rfl
 |some b=>
  have J:=x4.1 I;rw[W8 J.1,J.2,List.takeWhile_cons,if_neg (by simp[h b I])];rfl
theorem FS {g at_:Nat} {ai:x1} {p:List Int} {bad:Int} (h:kv w g ai p at_ bad):aj x3 DY [Γ g] w λv w'=>v=Δ ((at_+runN cg (p.drop at_):Nat):Int)/\Ext w w':=by
 obtain⟨av,ax,ak,J,ay,X⟩:=h;refine aA func202 ?_;rw[aw,aa gI.p rfl,ac Ψ (J.cell (o:=0+1) rfl)];refine⟨λv U=>Ext w U/\ ∃i:Nat,v=Δ (i:Int)/\i<=p.length/\i+runN cg (p.drop i)=at_+runN cg (p.drop at_),λv _=>p.length-(bL v).toNat,⟨Ext.refl _,at_,rfl,ak,rfl⟩,?_⟩;rintro _ U ⟨W,i,rfl,hi,he⟩;refine aP (λv Y=>Ext w Y/\ ∃c:Bool,v= .bool c/\(c=true↔ ∃b,p[i]? =σ b/\cg b=true)) ?_ ?_
 .rintro _ Y ⟨ab,c,rfl,ae⟩;rw[bH];refine⟨λal=>?_,λaf=>?_⟩
  .obtain⟨b,V,am⟩:=ae.1 al;have an:=(x4.1 V).1;rw[aN,wrap_i64 Ω Ω];exact⟨⟨ab,i+1,rfl,an,by rw[<-he,xN V am]⟩,by simp only[bL];omega⟩
  .have ap:=xO (f:=cg) (p:=p) (i:=i) λb J=>by
    cases I:cg b with
    |false=>rfl
    |true=>rw[ae.2 ⟨b,J,I⟩] at af;cases af
   exact⟨by rw[<-he,ap,Nat.add_zero],ab⟩
 .intro az ag;have ah:=J.ext W;rw[aw,aa gI.p rfl,ac Ψ (ah.cell (o:=0+0) rfl),aS cw.u (X.ext W).ls,ao,ad];refine⟨λaB=>?_,λaC=>ag _ _ ⟨W,false,rfl,⟨λh=>(by cases h),λ⟨b,J,_⟩=>by have:=(x4.1 J).1;omega⟩⟩⟩;have aq:i<p.length:=Ω
  have V:p[i]? =σ p[i]:=y0 aq;rw[aw,aa gI.p rfl,ac Ψ (ah.cell (o:=0+0) rfl),bc cw.u cr.i Ψ (X.ext W).ls V];refine xL.mono ?_;rintro _ aD _ ⟨rfl,au⟩;exact ag _ _ ⟨W.trans au,_,rfl,⟨λh=>⟨_,V,h⟩,λ⟨b,J,h⟩=>by rw[V] at J;cases J;exact h⟩⟩
inductive FT where
 |word (from_ to:Nat)
 |none
 |text (at_:Nat)
def fv (p:List Int) (at_:Nat):Nat:=at_+runN cg (p.drop at_)
def hC (p:List Int) (a:Nat):Nat:=a+runN bF (p.drop a)
open Classical in
noncomputable def ni (p:List Int) (at_:Nat):FT:=
 if hC p (fv p at_)<p.length/\(∀c,p[hC p (fv p at_)]? =σ c->cg c=false) then .text (hC p (fv p at_)) else if fv p at_=hC p (fv p at_) then .none else .word (fv p at_) (hC p (fv p at_))
def oD (w:x2) (g:Nat) (I:x1) (p:List Int) (at_:Nat) (v:x1) (w':x2):Prop:=
 match ni p at_ with
 | .word a b=>v= .tuple #[bw ((p.take b).drop a),Δ (a:Int),Δ 0]/\af (λr=>r=g) w w'/\kv w' g I p b (-1)
 | .none=>∃n:Nat,v= .tuple #[bw [],Δ (n:Int),Δ 2]/\Ext w w'
 | .text b=>v= .tuple #[bw [],Δ (b:Int),Δ 11]/\af (λr=>r=g) w w'/\kv w' g I p at_ (b:Int)
theorem gb {aT:Nat->Prop} {a b c:x2} (h:af S a b) (k:af aT b c) (V:∀r,r<a.heap.size->aT r->S r):af S a c:=
 ⟨X0 h.size k.size,λr o J I U=>k.a7 r o (h.a7 r o J I U) I λhu=>U (V r (j4.1 J).1 hu)⟩
theorem bU {g J:Nat} {k:o5} {U:u9} (h:aq k e w g v l) (V:ae w J U cs) (X:e≠U) (W:leads v r):r≠J:=by
 obtain⟨rfl,_⟩:=bA h W;obtain⟨_,⟨rfl,_⟩|⟨_,_,_,I,_⟩⟩:=h
 .obtain⟨a,n,c,h,_⟩:=W;cases h
 .rintro rfl;unfold ae at V I;rw[V] at I;injection I with h1;injection h1 with aa Y;exact X Y.symm
theorem FU {s:u9} {V:o5} {b i:Nat} (W:x3.underlying s=σ (.slice t)) (hi:aM x3 t 1 b z)
  (h:aI .u8 w v l) (X:i<=j) (Y:j<=l.length) (aa:∀I,aI .u8 w I ((l.take j).drop i)->K I):J x3 (W3 s v (σ (.int U (i:Int))) (σ (.int V (j:Int))) ν) w K:=by
 refine qG W hi h (lP i _ rfl) (lQ j _ rfl) X Y λI h'=>aa I (aI.of (n:=j-i) ?_);have ab:((ints .u8 l).drop (i*1)).take ((j-i)*1)=ints .u8 ((l.take j).drop i):=by
  rw[T4,T4,ints,ints,List.map_drop,List.map_take,List.drop_take]
 rw[ab] at h';exact h'
theorem FV {g at_:Nat} {ak:x1} {p:List Int} (h:kv w g ak p at_ (-1)):aj x3 sG [Γ g] w (oD w g ak p at_):=by
 obtain⟨az,aB,aW,J,aC,al⟩:=id h;refine aA func152 ?_;rw[cA qu.u,j6,aQ,aw,aa gI.p rfl,ac Ψ (J.cell (o:=0+2) rfl),cb,ad];refine⟨λh=>Ω,λ_=>?_⟩;refine (FS h).mono ?_;rintro _ aX _ ⟨rfl,aY⟩;obtain⟨a,aD⟩:∃a,a=at_+runN cg (p.drop at_):=⟨_,rfl⟩;rw[<-aD];have aZ:a<=p.length:=by have:=FR cg (p.drop at_);rw[R0] at this;omega
 refine⟨λv am=>Ext aX am/\ ∃i:Nat,v=Δ (i:Int)/\a<=i/\i<=p.length/\i+runN bF (p.drop i)=a+runN bF (p.drop a),λv _=>p.length-(bL v).toNat,⟨Ext.refl _,a,rfl,o8 _,aZ,rfl⟩,?_⟩;rintro _ am ⟨aE,i,rfl,a1,hi,he⟩;have an:=aY.trans aE;have aF:=J.ext an;have aG:=al.ext an;refine aP (λv ae=>Ext am ae/\ ∃c:Bool,v= .bool c/\(c=true↔ ∃b,p[i]? =σ b/\bF b=true)) ?_ ?_
 rotate_left
 .intro a2 W;rw[aw,aa gI.p rfl,ac Ψ (aF.cell (o:=0+0) rfl),aS cw.u aG.ls,ao,ad];refine⟨λa6=>?_,λa7=>W _ _ ⟨Ext.refl _,false,rfl,⟨λh=>(by cases h),λ⟨b,J,_⟩=>by have:=(x4.1 J).1;omega⟩⟩⟩;have af:i<p.length:=Ω
  have U:p[i]? =σ p[i]:=y0 af;rw[aw,aa gI.p rfl,ac Ψ (aF.cell (o:=0+0) rfl),bc cw.u cr.i Ψ aG.ls U];refine FP.mono ?_;rintro _ ae _ ⟨rfl,ag⟩;exact W _ _ ⟨ag,_,rfl,⟨λh=>⟨_,U,h⟩,λ⟨b,J,h⟩=>by rw[U] at J;cases J;exact h⟩⟩
 rintro _ ae ⟨ag,c,rfl,X⟩;have ap:=an.trans ag;have aH:=J.ext ap;have aI:=al.ext ap;rw[bH];refine⟨λaq=>?_,λaJ=>?_⟩
 .obtain⟨b,U,a8⟩:=X.1 aq;have ba:=(x4.1 U).1;rw[aN,wrap_i64 Ω Ω];exact⟨⟨aE.trans ag,i+1,rfl,Ω,ba,by rw[<-he,xN U a8]⟩,by simp only[bL];omega⟩
 have bk:=xO (f:=bF) (p:=p) (i:=i) λb J=>by
  cases I:bF b with
  |false=>rfl
  |true=>rw[X.2 ⟨b,J,I⟩] at aJ;cases aJ
 have bd:i=a+runN bF (p.drop a):=Ω
 refine aP (λv au=>Ext ae au/\ ∃c:Bool,v= .bool c/\(c=true↔i<p.length/\ ∀c,p[i]? =σ c->cg c=false)) ?_ ?_
 rotate_left
 .intro a2 W;rw[aw,aa gI.p rfl,ac Ψ (aH.cell (o:=0+0) rfl),aS cw.u aI.ls,ao,ad];refine⟨λa6=>?_,λa7=>W _ _ ⟨Ext.refl _,false,rfl,⟨λh=>(by cases h),λh=>Ω⟩⟩⟩;have af:i<p.length:=Ω
  have U:p[i]? =σ p[i]:=y0 af;rw[aw,aa gI.p rfl,ac Ψ (aH.cell (o:=0+0) rfl),bc cw.u cr.i Ψ aI.ls U];refine xL.mono ?_;rintro _ au _ ⟨rfl,av⟩;rw[bg];refine W _ _ ⟨av,_,rfl,⟨λh=>⟨af,λc X=>?_⟩,λh=>by rw[h.2 _ U];rfl⟩⟩;rw[U] at X;cases X;cases I:cg p[i] with
  |false=>rfl
  |true=>rw[I] at h;cases h
 rintro _ au ⟨av,bl,rfl,aK⟩;have Y:=ap.trans av;have ah:=J.ext Y;have ai:=al.ext Y;have aL:∀r,leads ak r->r≠g:=λr be=>bU ai ah Φ be;have ax:ni p at_=open Classical in if i<p.length/\(∀c,p[i]? =σ c->cg c=false) then .text i else if a=i then .none else .word a i:=by
  unfold ni;rw[show fv p at_=a from aD.symm,show hC p a=i from bd.symm]
 rw[bH];refine⟨λaq=>?_,λaM=>?_⟩
 .rw[aw,aa gI.p rfl];refine bj (g:=g) (o:=2) ab.i rfl rfl ah Ξ λbm aO bn bf=>?_;unfold oD;rw[ax,if_pos (aK.1 aq)];exact⟨rfl,(Y.V _).trans aO,az,aB,aW,bf,aC,bb ai aO aL⟩
 .have aR:¬(i<p.length/\ ∀c,p[i]? =σ c->cg c=false):=λh=>by rw[aK.2 h] at aM;cases aM
  rw[bi,ad];refine⟨λbo=>?_,λbp=>?_⟩
  .intro bq ay _ _;rw[aw,aa gI.p rfl,ac Ψ ((ah.ext ay).cell (o:=0+0) rfl),aS cw.u (ai.ext ay).ls];unfold oD;rw[ax,if_neg aR,if_pos Ω];exact⟨p.length,rfl,Y.trans ay⟩
  .rw[aw,aa gI.p rfl];refine bj (g:=g) (o:=1) ab.i rfl rfl ah Ξ λbr aT bt aU=>?_;have aV:=bb ai aT aL;rw[aw,aa gI.p rfl,ac Ψ (aU.cell (o:=0+0) rfl)];refine FU (i:=a) (j:=i) cw.u cr.i aV.ls a1 hi λbu bh=>?_;rw[s8 cw.u cr.u cK.u bh];unfold oD;rw[ax,if_neg aR,if_neg Ω];exact⟨rfl,(Y.V _).trans aT,az,aB,hi,aU,aC,aV⟩
abbrev bp:ai:=λ_=>False
abbrev et (n:Nat):ai:=λr=>n<=r
theorem xP {b:List Int} {db bv:x1} (J:aI .i64 w db a) (aa:aI .i64 w bv b):
  aj x3 Di [db,bv] w λv w'=>v= .bool (decide (a=b))/\Ext w w':=by
 refine aA func124 ?_;rw[aS ah.u J,aS ah.u aa];simp only[bB,ad];refine⟨λW=>⟨?_,Ext.refl _⟩,λac=>?_⟩
 .rw[decide_eq_false];rintro rfl;exact W rfl
 .have ac:a.length=b.length:=Ω
  rw[aS ah.u J];refine bC.range a.length (λi _ U=>Ext w U/\a.take i=b.take i) J.le ⟨Ext.refl _,rfl⟩ ?_ ?_
  .rintro i t4 U k ae ⟨I,X⟩ af;simp only[ao,ad,cj];refine⟨λ_ ai ag _ _=>?_,λh=>Ω⟩;have I:=I.trans ag;obtain⟨x,Y⟩:∃x,a[i]? =σ x:=⟨_,y0 ae⟩;obtain⟨y,V⟩:∃y,b[i]? =σ y:=⟨_,y0 Ω⟩;rw[bc ah.u ab.i Ψ (J.ext I) Y,bc ah.u ab.i Ψ (aa.ext I) V];simp only[bB,ad,aN];refine⟨λW=>⟨?_,I⟩,λak=>af _ _ ⟨I,sR X Y V Ω⟩⟩;rw[decide_eq_false];rintro rfl;rw[Y] at V;cases V;exact W rfl
  .rintro _ U k ⟨I,X⟩;simp only[ao,ad];refine⟨λh=>Ω,λ_=>⟨?_,I⟩⟩;rw[decide_eq_true];rwa [o9,ac,o9] at X
def h3 (rest:List (List Int)) (i:Nat):List (List Int):=(X9 i).flatMap λ(v:Nat)=>rest.map λt=>(v:Int)::t
theorem FW (rest:List (List Int)) (i:Nat):h3 rest (i+1)=h3 rest i++rest.map λt=>(i:Int)::t:=by
 simp[h3,List.range_succ]
theorem xQ (rest:List (List Int)) (i:Nat):(h3 rest i).length=i*rest.length:=by
 simp only[h3,List.length_flatMap,u5];rw[List.map_const',List.length_range,List.sum_replicate_nat]
theorem oE:∀ (s:List Int) {sv:x1} {w:x2},aI .i64 w sv s->bR s->
  aj x3 sB [sv] w λv w'=>Ext w w'/\bf (et w.heap.size) bp w' [v] (bu s)
 |[],sv,w,h,I=>by
  refine aA func90 ?_;rw[aS ah.u h];simp only[bi,List.length_nil,Int.natCast_zero,decide_true,bO];refine gK (α:=List Int) (a:=[]) (cs:=[.slice ν 0 0]) (A:=bp) cu.u ah.i Φ rfl fs λv w' aq J _=>⟨aq,ak.mono J (λr _ h=>?_) λ_ _ h=>h⟩;exact h.elim False.elim id
 |k::s,sv,w,h,I=>by
  have aP:=prod_bound I;have ac:bR s:=I.drop 1;have aQ:=I.2 k (.head _);have au:=h2 ac.2;have aR:=prod_bound ac;obtain⟨kn,rfl⟩:∃kn:Nat,k=kn:=⟨k.toNat,Ω⟩;have aT:kn*(bu s).length<=1073741824:=by
   have e:((kn*(bu s).length:Nat):Int)=aL ((kn:Int)::s):=by
    rw[Int.natCast_mul,au,aL,Int.toNat_of_nonneg Ω]
   omega
  refine aA func90 ?_;rw[aS ah.u h];simp only[bi,ad];refine⟨λav=>by simp at av;omega,λ_=>?_⟩;refine Fw (i:=1) rfl ah.u ab.i h Ξ λaw h'=>?_;refine (oE s h' ac).mono ?_;rintro aV W _ ⟨ae,Y⟩;have aW:=ko Y;refine bC.range kn (λi out U=>Ext W U/\bf (et W.heap.size) bp U [out] (h3 (bu s) i)) Ω ⟨Ext.refl _,fs⟩ ?_ ?_
  .rintro i out ax ay am ⟨X,J⟩ az;have aB:=be Y X;rw[dZ (y:=0) (i:=0) rfl ah.u ab.i Ψ (h.ext (ae.trans X)) (by rfl)];simp only[ao,ad];refine⟨λ_=>?_,λh=>Ω⟩;rw[eK cu.u aB];refine bC.range (bu s).length (λj out U=>Ext W U/\bf (et W.heap.size) bp U [out] (h3 (bu s) i++((bu s).take j).map λt=>(i:Int)::t)) Ω ⟨X,by simpa using J⟩ ?_ ?_
   .rintro j out V aC aD ⟨aa,J⟩ aE;simp only[ao,ad];refine⟨λ_=>?_,λh=>Ω⟩;obtain⟨x,af⟩:∃x,(bu s)[j]? =σ x:=⟨_,y0 aD⟩;have aX:x.length<=100:=by
     have:=E9 af;have:=ac.1;omega
    refine k7 rfl rfl cu.u ah.i Ψ (be Y aa) af λu hu=>?_;refine dJ ah.u ab.i rfl λa aU aY aZ ag aF=>?_;refine hy ah.u ab.i rfl aF (dR (be hu ag)) Θ Θ λb a1 aG a2 ai aH=>?_;have a6:=ag.size;have an:Ext V aG:=ag.then aH (by rintro r Y rfl;omega);have a7:=an.size;refine gK (α:=List Int) (a:=(i:Int)::x) (cs:=[b]) (A:=et V.heap.size) (R:=bp) cu.u ah.i Φ (jy (lZ ai (R:=bp))) (ak.mono (lZ ai) (λr _ h=>by subst h;show V.heap.size<=r;omega) λ_ _ h=>h) λc a8 al _ aJ=>?_;have ap:=an.trans al;have ba:=al.size;refine lY (α:=List Int) (a:=(i:Int)::x) (A:=et V.heap.size) cu.u ah.i rfl (be (ko J) ap) aJ (be (ak.mono (lZ ai) (λr _ h=>by subst h;show V.heap.size<=r;omega) λ_ _ h=>h) al) (λr _ h h'=>?_) ?_ ?_ λaw bb aK aM=>?_
    .rcases h' with h'|h'
     .have:=h.2;have:V.heap.size<=r:=h';omega
     .exact h'
    .have aO:(h3 (bu s) i++((bu s).take j).map λt=>(i:Int)::t).length+1<=kn*(bu s).length:=by
      simp only[r8,xQ,u5,o7];have:(i+1)*(bu s).length<=kn*(bu s).length:=X3 _ am;rw[U2] at this;omega
     omega
    .have aO:(h3 (bu s) i++((bu s).take j).map λt=>(i:Int)::t).length+1<=kn*(bu s).length:=by
      simp only[r8,xQ,u5,o7];have:(i+1)*(bu s).length<=kn*(bu s).length:=X3 _ am;rw[U2] at this;omega
     omega
    .simp only[aN];have bc:=aa.size;refine aE _ _ ⟨(aa.trans ap).then aM (λr Y h=>?_),?_⟩
     .have:=h.1;have:W.heap.size<=r:=this;omega
     .have e:h3 (bu s) i++((bu s).take (j+1)).map (λt=>(i:Int)::t)=(h3 (bu s) i++((bu s).take j).map λt=>(i:Int)::t)++[(i:Int)::x]:=by
       rw[r9,af];simp
      rw[e];refine ak.mono aK (λr _ h=>?_) λ_ _ h=>h;show W.heap.size<=r;rcases h with h|h|h
      .exact h.1
      .have:V.heap.size<=r:=h;omega
      .omega
   .rintro out V aC ⟨aa,J⟩;simp only[ao,ad,aN];refine⟨λh=>Ω,λ_=>az _ _ ⟨aa,?_⟩⟩;rw[FW];simpa using J
  .rintro out ax ay ⟨X,J⟩;rw[dZ (y:=0) (i:=0) rfl ah.u ab.i Ψ (h.ext (ae.trans X)) (by rfl)];simp only[ao,ad];refine⟨λh=>Ω,λ_=>⟨ae.trans X,?_⟩⟩;have bd:=ae.size;have e:bu ((kn:Int)::s)=h3 (bu s) kn:=by simp[bu,h3]
   rw[e];exact ak.mono J (λr _ h=>by have:W.heap.size<=r:=h;show w.heap.size<=r;omega) λ_ _ h=>h
def nj (l:List (List Int)) (t:List Int):Int:=match l.findIdx? (·=t) with
 |some i=>i
 |none=>-1
theorem FX {s t:List Int} {aD:x1} (h:aI .i64 w sv s) (I:bR s) (ae:aI .i64 w aD t):
  aj x3 DF [sv,aD] w λv w'=>v=Δ (nj (bu s) t)/\Ext w w':=by
 have al:=h2 I.2;have am:=prod_bound I;refine aA func169 ?_;refine (oE s h I).mono ?_;rintro an U _ ⟨X,ab⟩;rw[eK cu.u ab];refine bC.range (bu s).length (λi _ Y=>Ext U Y/\ ∀j,j<i->(bu s)[j]? ≠σ t) Ω ⟨Ext.refl _,λj J=>Ω⟩ ?_ ?_
 .rintro i _ Y k hi ⟨V,W⟩ af;simp only[ao,ad];refine⟨λ_=>?_,λh=>Ω⟩;obtain⟨x,aa⟩:∃x,(bu s)[i]? =σ x:=⟨_,y0 hi⟩;refine k7 rfl rfl cu.u ah.i Ψ (be ab V) aa λu hu=>?_;refine (xP (dR hu) (ae.ext (X.trans V))).mono ?_;rintro _ ap _ ⟨rfl,ac⟩;simp only[ad,aN];refine⟨λhe=>⟨?_,(X.trans V).trans ac⟩,λag=>af _ _ ⟨V.trans ac,λj J=>?_⟩⟩
  .subst he;have:(bu s).findIdx? (·=x)=σ i:=by
    rw[List.findIdx?_eq_some_iff_getElem];refine⟨hi,by simpa using (x4.1 aa).2,λj J=>?_⟩;have:=W j J;rw[y0 Ω] at this;simpa using this
   unfold nj;rw[this]
  .by_cases ai:j=i
   .subst ai;rw[aa];intro h;exact ag (by simpa using h)
   .exact W j Ω
 .rintro _ Y k ⟨V,W⟩;simp only[ao,ad];refine⟨λh=>Ω,λ_=>⟨?_,X.trans V⟩⟩;have:(bu s).findIdx? (·=t)=ν:=by
   rw[List.findIdx?_eq_none_iff];intro x ak;obtain⟨j,J,rfl⟩:=List.mem_iff_getElem.1 ak;have:=W j J;rw[y0 J] at this;simpa using this
  unfold nj;rw[this]
end Go.Proofs.YtgbkinibgjmodaaGreatDoor
namespace Go.Proofs.YtgbkinibgjmodaaGreatDoor
open Go Go.Vc Go.RowKit Go.Proofs Go.Proofs.Tryz
set_option maxRecDepth 100000
theorem FY:∀ (x:Nat),0<x-> ∃k m,x=2 ^ k*(2*m+1):=by
 intro x;induction x using Nat.strongRecOn with
 |_ x I=>
  intro h;by_cases U:x % 2=1
  .exact⟨0,x / 2,Ω⟩
  .obtain⟨k,m,J⟩:=I (x / 2) Ω Ω;refine⟨k+1,m,?_⟩;rw[Nat.pow_succ,Nat.mul_assoc,Nat.mul_comm 2,<-Nat.mul_assoc,<-J];omega
theorem tc {k i:Nat}:(2 ^ k*(2*m+1)).testBit i=(decide (i=k)||decide (k<i)&&m.testBit (i-k-1)):=by
 rw[Nat.testBit_two_pow_mul];by_cases h:k<=i
 .obtain⟨d,rfl⟩:=Nat.exists_eq_add_of_le h;cases d with
  |zero=>simp
  |succ d=>
   have e:(2*m+1).testBit (d+1)=m.testBit d:=by rw[Nat.testBit_succ];congr 1;omega
   simp[e,show k+(d+1)-k=d+1 by omega]
 .simp[h,show i≠k by omega,show ¬k<i by omega]
theorem FZ {k:Nat} (X:2 ^ k*(2*m+1)<2 ^ 64):(2 ^ k*(2*m+1)) &&& (2 ^ 64-2 ^ k*(2*m+1))=2 ^ k:=by
 have Y:0<2 ^ k:=Nat.two_pow_pos k;have J:k<64:=by
  rcases Nat.lt_or_ge k 64 with h|h
  .exact h
  .have:2 ^ 64<=2 ^ k:=S4 Ω h;have:2 ^ k*1<=2 ^ k*(2*m+1):=Nat.mul_le_mul_left _ Ω;omega
 have U:2 ^ k*(2*m+1)=(2 ^ k*(2*m)+(2 ^ k-1))+1:=by rw[Nat.mul_add];omega
 apply Nat.eq_of_testBit_eq;intro i;rw[Nat.testBit_and,tc]
 conv=>lhs;rhs;rw[U]
 rw[Nat.testBit_two_pow_sub_succ Ω,Nat.testBit_two_pow_mul_add _ Ω,Nat.testBit_two_pow];by_cases h1:i=k
 .subst h1;simp[J]
 .by_cases I:k<i
  .have V:(2*m).testBit (i-k)=m.testBit (i-k-1):=by
    obtain⟨d,W⟩:∃d,i-k=d+1:=⟨i-k-1,Ω⟩;rw[W,Nat.testBit_succ];congr 1;omega
   simp[h1,I,show ¬i<k by omega,V,show k≠i by omega];intro h;simp[h]
  .simp[h1,I,show k≠i by omega]
def ip (a c:Nat):Nat:=(BitVec.ofNat 64 a &&& ~~~BitVec.ofNat 64 c).toNat
theorem xR (a c i:Nat):(ip a c).testBit i=(decide (i<64)&&(a.testBit i&& !c.testBit i)):=by
 unfold ip;rw[BitVec.testBit_toNat,BitVec.getLsbD_and,BitVec.getLsbD_not,BitVec.getLsbD_ofNat,BitVec.getLsbD_ofNat];by_cases h:i<64 <;> simp[h]
theorem F0 (a c:Nat):ip a c<2 ^ 64:=BitVec.isLt _
theorem F1 {a:Nat} (h:∀i,n<=i->a.testBit i=false):a<2 ^ n:=Nat.lt_pow_two_of_testBit a h
theorem xS {a i:Nat} (h:a<2 ^ n) (hi:n<=i):a.testBit i=false:=Nat.testBit_lt_two_pow (Nat.lt_of_lt_of_le h (S4 Ω hi))
def gw (b n:Nat):List Nat:=(X9 n).filter λi=>b.testBit i
theorem xT (b n:Nat):(gw b n).Pairwise (·< ·):=List.Pairwise.filter _ List.pairwise_lt_range
theorem F2 {b i:Nat}:i∈gw b n↔i<n/\b.testBit i=true:=by simp[gw]
def ma:Option Nat->Int
 |some i=>(i:Int)
 |none=>-1
def iq (b n:Nat) (v:Int):Int:=ma ((X9 n).find? (λi:Nat=>decide (v<(i:Int))&&b.testBit i))
theorem xU:∀ {l:List Nat} {k x:Nat},l.Pairwise (·< ·)->l[k]? =σ x->l.filter (λi=>decide (x<i))=l.drop (k+1)
 |y::l,0,x,h,I=>by
  simp at I;subst I;rw[List.pairwise_cons] at h;simp only[List.drop_succ_cons,List.drop_zero];rw[List.filter_cons_of_neg Ξ,List.filter_eq_self.2 λa J=>by simpa using h.1 a J]
 |y::l,k+1,x,h,I=>by
  simp only[List.getElem?_cons_succ] at I;rw[List.pairwise_cons] at h;have:y<x:=h.1 x (x6 I);rw[List.filter_cons_of_neg Θ,List.drop_succ_cons];exact xU h.2 I
theorem xV (b n:Nat) (v:Int):iq b n v=ma (((gw b n).filter (λi:Nat=>decide (v<i))).head?):=by
 unfold iq gw;rw[<-List.head?_filter,List.filter_filter]
theorem F3 (b n:Nat):iq b n (-1)=ma ((gw b n)[0]?):=by
 rw[xV,List.filter_eq_self.2 (λa _=>Θ),List.head?_eq_getElem?]
theorem xW {b k x:Nat} (h:(gw b n)[k]? =σ x):iq b n x=ma ((gw b n)[k+1]?):=by
 have e:(λi:Nat=>decide ((x:Int)<i))=λi=>decide (x<i):=by funext i;simp
 rw[xV,e,xU (xT b n) h,List.head?_eq_getElem?,List.getElem?_drop]
theorem F4 {b:Nat} {v:Int} (h:(n:Int)-1<=v):iq b n v= -1:=by
 unfold iq;rw[List.find?_eq_none.2 λi hi=>by simp at hi ⊢;omega];rfl
theorem F5 {b k s:Nat} (ab:n<=64) (V:b<2 ^ n) (J:∀i,r.testBit i=(decide (s<=i)&&b.testBit i)) (U:r=2 ^ k*(2*m+1)) {v:Int} (ac:v+1=s):iq b n v=k:=by
 have W:r.testBit k=true:=by rw[U,tc];simp
 have X:∀i,i<k->r.testBit i=false:=λi hi=>by rw[U,tc];simp[show i≠k by omega,show ¬k<i by omega]
 have I:=W;rw[J] at I;simp at I;have Y:k<n:=by
  rcases Nat.lt_or_ge k n with h|h
  .exact h
  .rw[xS V h] at I;cases I.2
 unfold iq;have:(X9 n).find? (λi:Nat=>decide (v<(i:Int))&&b.testBit i)=σ k:=by
  rw[List.find?_range_eq_some];refine⟨by simp[I.2];omega,by simpa using Y,λj aa=>?_⟩;have:=X j aa;rw[J] at this;simp only[Bool.not_eq_true',Bool.and_eq_false_iff,decide_eq_false_iff_not] at this ⊢;rcases this with h|h
  .exact .inl Ω
  .exact .inr h
 rw[this];rfl
theorem F6 {b s:Nat} (I:∀i,r.testBit i=(decide (s<=i)&&b.testBit i)) (J:r=0) {v:Int} (U:v+1=s):iq b n v= -1:=by
 unfold iq;rw[List.find?_eq_none.2]
 .rfl
 .intro i hi;have:=I i;rw[J,Nat.zero_testBit] at this;simp at hi this ⊢;intro h;exact this Ω
end Go.Proofs.YtgbkinibgjmodaaGreatDoor
namespace Go.Proofs.YtgbkinibgjmodaaGreatDoor
open Go Go.Vc Go.RowKit Go.Proofs Go.Proofs.Tryz
set_option maxRecDepth 100000
section
variable {P:W5} {w:x2} {t:u9} {cx cy:Bool} {a b:Nat} {K:x1->Prop}
theorem lb (a:Nat):U5 64 (a:Int)=BitVec.ofNat 64 a:=BitVec.ofInt_natCast _ _
theorem xX (x:BitVec 64):U3.wrap (x.toNat:Int)=(x.toNat:Int):=by
 have:=x.isLt;rw[wrap_u64 Ω Ω]
theorem u64_and (I:a<2 ^ 64) (U:b<2 ^ 64):J P (aB .and t cx cy (.int .u64 a) (.int .u64 b)) w K=K (.int .u64 ((a &&& b:Nat):Int)):=J.of λw' _=>by
 have e:(U5 64 (a:Int) &&& U5 64 (b:Int)).toNat=a &&& b:=by
  rw[lb,lb,BitVec.toNat_and,BitVec.toNat_ofNat,BitVec.toNat_ofNat,Nat.mod_eq_of_lt I,Nat.mod_eq_of_lt U]
 have hw:U3.wrap ((a &&& b:Nat):Int)=((a &&& b:Nat):Int):=by rw[<-e];exact xX _
 have V:(U5 U3.bits (a:Int) &&& U5 U3.bits (b:Int)).toNat=a &&& b:=e;simp only[aB,eqGuard,binOp,Op.intBits,V,hw];rfl
theorem xY:J P (aB .andNot t cx cy (.int .u64 a) (.int .u64 b)) w K=K (.int .u64 (ip a b:Int)):=J.of λw' _=>by
 have e:(U5 64 (a:Int) &&& ~~~U5 64 (b:Int)).toNat=ip a b:=by rw[lb,lb];rfl
 have hw:U3.wrap (ip a b:Int)=(ip a b:Int):=xX _;have I:(U5 U3.bits (a:Int) &&& ~~~U5 U3.bits (b:Int)).toNat=ip a b:=e;simp only[aB,eqGuard,binOp,Op.intBits,I,hw];rfl
theorem qJ {k:o5} (I:n<64):J P (aB .shr t cx cy (.int .u64 (a:Int)) (.int k (n:Int))) w K=K (.int .u64 ((a / 2 ^ n:Nat):Int)):=J.of λw' _=>by
 have e:(a:Int).fdiv (2 ^ min n U3.bits)=((a / 2 ^ n:Nat):Int):=by
  have:min n U3.bits=n:=T5 (by show n<=64;omega);rw[this,Int.fdiv_eq_ediv_of_nonneg _ (by exact Int.le_of_lt (Int.pow_pos Ω))];simp
 simp only[aB,eqGuard,binOp,Op.shift,j9,e];simp[show ¬(n:Int)<0 by omega]
theorem td {k:o5} (I:n<64):J P (aB .shl t cx cy (.int .u64 1) (.int k (n:Int))) w K=K (.int .u64 ((2 ^ n:Nat):Int)):=by
 rw[wX Ω];have e:min ((n:Int).toNat) U3.bits=n:=T5 (by show n<=64;omega);have U:2 ^ n<2 ^ 64:=Nat.pow_lt_pow_right Ω I;rw[e,Int.one_mul,show ((2:Int) ^ n)=((2 ^ n:Nat):Int) by simp];generalize 2 ^ n=q at U ⊢;rw[wrap_u64 Ω Ω]
end
def qK:List Int:=[0,1,56,2,57,49,28,3,61,58,42,50,38,29,17,4,62,47,59,36,45,43,51,22,53,39,33,30,24,18,12,5,63,55,48,27,60,41,37,16,46,35,44,21,52,32,23,11,54,26,40,15,34,20,31,10,25,14,19,9,13,8,7,6]
def Laid (w:x2):Prop:=w.rangeAt 0 0 (ints .u8 qK)
theorem Laid.ext (h:Laid w) (I:Ext w w'):Laid w':=m4 I h
theorem F7:∀k:Nat,k<64->qK[(2 ^ k*285870213051353865 % 2 ^ 64) / 2 ^ 58]? =σ (k:Int):=Φ
theorem F8 {x k:Nat} (J:Laid w) (U:x=2 ^ k*(2*m+1)) (V:x<2 ^ 64):
  aj x3 Eh [.int .u64 (x:Int)] w λv w'=>v=Δ (k:Int)/\Ext w w':=by
 have af:0<2 ^ k:=Nat.two_pow_pos k;have ag:2 ^ k<=x:=by
  have:2 ^ k*1<=2 ^ k*(2*m+1):=Nat.mul_le_mul_left _ Ω;omega
 have W:k<64:=by
  rcases Nat.lt_or_ge k 64 with h|h
  .exact h
  .have:2 ^ 64<=2 ^ k:=S4 Ω h;omega
 refine aA func239 ?_;simp only[bi,ad];refine⟨λh=>Ω,λ_=>?_⟩;rw[ki];have X:U3.wrap (0-(x:Int))=((2 ^ 64-x:Nat):Int):=by
  simp only[o5.wrap,o5.bits,o5.signed];simp;omega
 rw[X,u64_and V Ω,U,FZ Ω];simp only[fp];have Y:U3.wrap (((2 ^ k:Nat):Int)*285870213051353865)=((2 ^ k*285870213051353865 % 2 ^ 64:Nat):Int):=by
  have e:((2 ^ k:Nat):Int)*285870213051353865=((2 ^ k*285870213051353865:Nat):Int):=Ξ
  rw[e];simp only[o5.wrap,o5.bits,o5.signed];simp
 have aa:(58:Int)=((58:Nat):Int):=rfl;rw[Y,aa,qJ Ω];have I:=F7 k W;have ae:=(x4.1 I).1;rw[sQ (t:=qv) qv.u cr.i ae,ac Ψ (by rw[T4];exact J _ _ (jx I)),eZ cr.u ab.u,wrap_i64 Ω Ω];exact⟨rfl,Ext.refl _⟩
def h4 (b n:Nat):x1:=.agg #[.int .u64 (b:Int),Δ (n:Int)]
def ld (b n:Nat):Prop:=n<=32/\b<2 ^ n
theorem xZ (s i:Nat):(2 ^ s-1).testBit i=decide (i<s):=Nat.testBit_two_pow_sub_one s i
theorem x0 {b:Nat} {v:Int}:aj x3 C7 [h4 b n,Δ v] w λr w'=>r= .bool (decide (0<=v/\v<n))/\Ext w w':=by
 refine aA func79 ?_;refine bM λg U V I J=>?_;simp only[bx,cb,ad];refine⟨λh=>?_,λh=>⟨?_,I⟩⟩
 .rw[aa b3.p rfl,ac Ψ (J.cell (o:=0+1) rfl)];simp only[ao];exact⟨by simp[h],I⟩
 .rw[decide_eq_false];omega
theorem x9 {b:Nat}:aj x3 CS [h4 b n] w λr w'=>r=Δ n/\Ext w w':=by
 refine aA func62 ?_;refine bM λg U V I J=>?_;rw[aa b3.p rfl,ac Ψ (J.cell (o:=0+1) rfl)];exact⟨rfl,I⟩
theorem F9 {n:Int}:aj x3 C4 [Δ n] w λr w'=>Ext w w'/\r=(if 1<=n/\n<=32 then .tuple #[h4 (2 ^ n.toNat-1) n.toNat,Δ 0] else .tuple #[h4 0 0,Δ 1]):=by
 refine aA func76 ?_;refine bt b3.i λg U ae V W=>?_;refine aP (λv Y=>v= .bool (decide (¬(1<=n/\n<=32)))/\U=Y) ?_ ?_
 .rintro _ _ ⟨rfl,rfl⟩;simp only[ad];refine⟨λh=>?_,λh=>?_⟩
  .rw[cR (cs:=#[.int .u64 0,Δ 0]) Ψ];refine bJ (vs:=[.int .u64 0,Δ 0]) b3.i rfl rfl (by intro u hu;simp at hu;rcases hu with rfl|rfl <;> rfl) W λaa I ab J=>?_;rw[eJ b3.p b3.i rfl J.range,if_neg h];exact⟨V.then I (by rintro r ac rfl;omega),rfl⟩
  .have h:1<=n/\n<=32:=X2.1 h;obtain⟨m,rfl⟩:∃m:Nat,n=m:=⟨n.toNat,Ω⟩;rw[td Ω];have af:0<2 ^ m:=Nat.two_pow_pos m;have ag:2 ^ m<=2 ^ 32:=S4 Ω Ω;simp only[cX];rw[wrap_u64 Ω Ω,show (((2 ^ m:Nat):Int)-1)=((2 ^ m-1:Nat):Int) by omega];rw[cR (cs:=#[.int .u64 ((2 ^ m-1:Nat):Int),Δ m]) Ψ];refine bJ (vs:=[.int .u64 ((2 ^ m-1:Nat):Int),Δ m]) b3.i rfl rfl (by intro u hu;simp at hu;rcases hu with rfl|rfl <;> rfl) W λaa I ab J=>?_;rw[eJ b3.p b3.i rfl J.range,if_pos h];exact⟨V.then I (by rintro r ac rfl;omega),rfl⟩
 .intro ah X;simp only[ao,bP,ad];refine⟨λh=>X _ _ ⟨?_,rfl⟩,λh=>X _ _ ⟨?_,rfl⟩⟩
  .rw[decide_eq_true];omega
  .congr 1;simp;omega
theorem ya {b:Nat} {v:Int} (af:ld b n) (ag:Laid w) (an: -1<=v):aj x3 DO [h4 b n,Δ v] w λr w'=>r=Δ (iq b n v)/\Ext w w':=by
 obtain⟨ao,V⟩:=af;have W:b<2 ^ 64:=Nat.lt_of_lt_of_le V (S4 Ω Ω);refine aA func186 ?_;refine bM λg U ap J X=>?_;rw[aa b3.p rfl,ac Ψ (X.cell (o:=0+1) rfl)];simp only[cX,cb,ad];rw[wrap_i64 Ω Ω];refine⟨λh=>⟨by rw[F4 h],J⟩,λaq=>?_⟩;rw[aa b3.p rfl,ac Ψ (X.cell (o:=0+0) rfl)];refine aP (λu ah=>U=ah/\ ∃r s:Nat,u= .int .u64 (r:Int)/\r<2 ^ 64/\v+1=s/\ ∀i,r.testBit i=(decide (s<=i)&&b.testBit i)) ?_ ?_
 .rintro _ _ ⟨rfl,r,s,rfl,ai,I,Y⟩;simp only[bi,ad];refine⟨λak=>⟨by rw[F6 Y Ω I],J⟩,λak=>?_⟩;obtain⟨k,m,ab⟩:=FY r Ω;refine (F8 (ag.ext J) ab ai).mono ?_;rintro _ au _ ⟨rfl,al⟩;exact⟨by rw[F5 Ω V Y ab I],J.trans al⟩
 .intro av ae;refine⟨λh=>?_,λh=>?_⟩
  .obtain⟨s,rfl⟩:∃s:Nat,v=s:=⟨v.toNat,Ω⟩;have aw:0<2 ^ (s+1):=Nat.two_pow_pos _;have ax:2 ^ (s+1)<=2 ^ 32:=S4 Ω Ω;simp only[aN];rw[wrap_i64 Ω Ω,show ((s:Int)+1)=((s+1:Nat):Int) by omega,td Ω];simp only[cX];rw[wrap_u64 Ω Ω,show (((2 ^ (s+1):Nat):Int)-1)=((2 ^ (s+1)-1:Nat):Int) by omega,xY];refine ae _ _ ⟨rfl,_,s+1,rfl,F0 _ _,Ω,λi=>?_⟩;rw[xR,xZ];by_cases am:i<64
   .by_cases hi:s+1<=i
    .simp[am,hi,show ¬i<s+1 by omega]
    .simp[hi,show i<s+1 by omega]
   .rw[xS W Ω];simp
  .exact ae _ _ ⟨rfl,b,0,rfl,W,Ω,λi=>Ξ⟩
theorem Ga {b:Nat} (J:ld b n) (V:Laid w):aj x3 DN [h4 b n] w λr w'=>r=Δ (iq b n (-1))/\Ext w w':=by
 refine aA func185 ?_;refine bM λg U Y I W=>?_;rw[bn b3.p b3.i rfl W.range];refine (ya J (V.ext I) Ω).mono ?_;rintro _ aa _ ⟨rfl,X⟩;exact⟨rfl,I.trans X⟩
theorem Gb {b:Nat} {v:Int} (an:ld b n):aj x3 C6 [h4 b n,Δ v] w λr w'=>r=h4 (if 0<=v/\v<n then ip b (2 ^ v.toNat) else b) n/\Ext w w':=by
 refine aA func78 ?_;refine bM λg U az ab af=>?_;refine bt b3.i λao aB aC ag ah=>?_;have s1:=ab.size;have aD:=af.lt;refine dt (λJ=>∃W,ae J g b3 [.int .u64 ((W:Nat):Int),Δ (n:Int)]/\ae J ao b3 [.int .u64 0,Δ 0]/\Ext w J/\W=(if 0<=v/\v<n then ip b (2 ^ v.toNat) else b)) ?_ ?_
 .rintro J ⟨W,ap,aq,au,rfl⟩;rw[bn b3.p b3.i rfl ap.range];refine bJ (vs:=[_,_]) b3.i rfl rfl (by intro u hu;simp at hu;rcases hu with rfl|rfl <;> rfl) aq λaE av aF aw=>?_;rw[eJ b3.p b3.i rfl aw.range];exact⟨rfl,au.then av (by rintro r ax rfl;omega)⟩
 .intro aG ai;have X:=af.ext ag;rw[bn b3.p b3.i rfl X.range];refine x0.mono ?_;rintro _ aH _ ⟨rfl,I⟩;have ak:=(ab.trans ag).trans I;simp only[ad,cj];refine⟨λh aI Y _ _=>?_,λh=>ai _ ⟨b,X.ext I,ah.ext I,ak,by rw[if_neg h]⟩⟩;have al:=(X.ext I).ext Y;rw[aa b3.p rfl,ac Ψ (al.cell (o:=0+0) rfl)];obtain⟨s,rfl⟩:∃s:Nat,v=s:=⟨v.toNat,Ω⟩;have aJ:=an.1;rw[td Ω,xY,aa b3.p rfl];refine bj eo.i rfl rfl al (by simp[h4,x1.cells]) λaK am aL ay=>?_;refine ai _ ⟨_,ay,((ah.ext I).ext Y).V am Ω,(ak.trans Y).then am (by rintro r ax rfl;omega),?_⟩;rw[if_pos h,j9]
def nk (v:Int):Nat:=if v<0 then 0 else 40-v.toNat
theorem te (x:Nat):nk x=40-x:=by unfold nk;rw[if_neg Ω];omega
theorem Gc {b g:Nat} (V:ld b n):
  lC x3 mU [Γ g] (gw b n).length (λk vs _=>∃v:Nat,(gw b n)[k]? =σ v/\vs=[Δ (v:Int)])
   (λw=>ae w g b3 [.int .u64 (b:Int),Δ (n:Int)]/\Laid w):=by
 refine⟨mU.enters,λl ai aw w aa _ aj ⟨ab,ac⟩ ak=>?_⟩;have ax:=V.1;refine om func184 ?_;rw[bn b3.p b3.i rfl ab.range];refine (Ga V ac).free.mono ?_;rintro _ U ⟨al,rfl,W⟩;refine⟨λv J=>∃k,k<=(gw b n).length/\v=Δ (ma (gw b n)[k]?)/\ai k J/\ae J g b3 [.int .u64 (b:Int),Δ (n:Int)]/\Laid J,
  λv _=>nk (bL v),⟨0,Y9 _,by rw[F3],aa 0 _ _ W al.b ak,ab.ext W,ac.ext W⟩,?_⟩
 rintro _ J ⟨k,ay,rfl,af,am,an⟩;cases I:(gw b n)[k]? with
 |none=>
  have:k=(gw b n).length:=by
   have:=List.getElem?_eq_none_iff.1 I;omega
  subst this;simp only[ma,cb,ad];exact⟨λh=>Ω,λ_=>.inl af⟩
 |some x=>
  have X:=(x4.1 I).1;have az:=(F2.1 (x6 I)).1;simp only[ma,cb,ad];refine⟨λ_=>?_,λh=>Ω⟩;refine⟨rfl,(aj k _ J X ⟨am,an⟩ ⟨x,I,rfl⟩ af).mono ?_⟩;rintro _ aA (⟨rfl,⟨ag,ah⟩,ao⟩|⟨rfl,ap⟩)
  .simp only[bg,Y1,aQ];rw[bn b3.p b3.i rfl ag.range];refine (ya V ah Ω).free.mono ?_;rintro _ aB ⟨aq,rfl,Y⟩;refine⟨⟨k+1,X,congrArg (V2 .i64) (xW I),aa _ _ _ Y aq.b ao.1,ag.ext Y,ah.ext Y⟩,?_⟩;rw[xW I];cases au:(gw b n)[k+1]? with
   |none=>show 0<nk x;rw[te];omega
   |some y=>
    have aC:x<y:=by
     have h1:=(x4.1 I).2;have av:=(x4.1 au).2;rw[<-h1,<-av];exact V0.1 (xT b n) k (k+1) _ _ Ω
    show nk y<nk x;rw[te,te];omega
  .simp only[bg,X4,bO];exact .inr ⟨k,X,ap⟩
theorem Gd {b:Nat}:aj x3 De [h4 b n] w λr w'=>Ext w w'/\ ∃g,r= .func (.func mU) #[] #[Γ g]/\w.heap.size<=g/\ae w' g b3 [.int .u64 (b:Int),Δ (n:Int)]:=by
 refine aA func118 ?_;refine bM λg U V I J=>?_;rw[kj];exact⟨I,g,rfl,Ω,J⟩
end Go.Proofs.YtgbkinibgjmodaaGreatDoor
namespace Go.Proofs.YtgbkinibgjmodaaGreatDoor
open Go Go.Vc Go.RowKit Go.Proofs Go.Proofs.Tryz
set_option maxRecDepth 100000
abbrev dS (s:List Int):Prop:=∀x∈s,1<=x/\x<=32
theorem dS.tail {s:List Int} (h:dS (k::s)):dS s:=λx I=>h x (.tail _ I)
theorem kw {s:List Int} (h:dS s):1<=aL s:=(ow s h).1
theorem nl:∀ (s t:List Int) (m:Int),cq s t m=(cq s t 0).map λn=>n+m*aL s
 |[],[],m=>by simp[cq,aL]
 |k::s,v::t,m=>by
  unfold cq;split
  .rw[nl s t (m*k+v),nl s t (0*k+v)];simp only[Option.map_map,aL];congr 1;funext n;simp only[Function.comp];rw[Int.add_mul,Int.add_mul,<-Int.mul_assoc];simp;omega
  .rfl
 |[],_::_,_=>rfl
 |_::_,[],_=>rfl
theorem tf {L j:Nat} {rest:List (List Int)} (V:rest.length=L):∀ {kn v:Nat},v<kn-> ∀ {x:List Int},rest[j]? =σ x->
  ((X9 kn).flatMap λ(v:Nat)=>rest.map λt=>(v:Int)::t)[v*L+j]? =σ ((v:Int)::x)
 |0,v,h,_,_=>Ω
 |kn+1,v,h,x,J=>by
  have W:=(x4.1 J).1;have U:((X9 kn).flatMap λ(v:Nat)=>rest.map λt=>(v:Int)::t).length=kn*L:=by
   simp only[List.length_flatMap,u5,V];rw[List.map_const',List.length_range,List.sum_replicate_nat]
  rw[List.range_succ,List.flatMap_append];by_cases I:v<kn
  .have:(v+1)*L<=kn*L:=X3 _ I;rw[U2] at this;rw[j0 (by rw[U];omega)];exact tf V I J
  .have I:v=kn:=Ω
   subst I;rw[Z1 (by rw[U];omega),U,show v*L+j-v*L=j by omega];simp[J]
theorem oF:∀ {s:List Int},dS s-> ∀ {i:Nat} {t:List Int},(bu s)[i]? =σ t->cq s t 0=σ (i:Int)
 |[],_,i,t,h=>by
  cases i with
  |zero=>simp[bu] at h;subst h;rfl
  |succ i=>simp[bu] at h
 |k::s,I,i,t,h=>by
  have ab:=I k (.head _);have J:=h2 I.tail;have ac:=kw I.tail;obtain⟨kn,rfl⟩:∃kn:Nat,k=kn:=⟨k.toNat,Ω⟩;have hi:=(x4.1 h).1;rw[h2 I,aL,Int.toNat_mul Ω Ω,<-J,j9] at hi;have X:0<(bu s).length:=Ω
  have U:i / (bu s).length<kn:=Nat.div_lt_of_lt_mul (by rw[Nat.mul_comm];exact hi);have Y:i % (bu s).length<(bu s).length:=Nat.mod_lt _ X;obtain⟨x,V⟩:∃x,(bu s)[i % (bu s).length]? =σ x:=⟨_,y0 Y⟩;have W:=tf (kn:=kn) rfl U V;rw[Nat.mul_comm,Nat.div_add_mod] at W;have h':((X9 ((kn:Int).toNat)).flatMap λ(v:Nat)=>(bu s).map λt=>(v:Int)::t)[i]? =σ t:=h;rw[j9,W] at h';cases h';unfold cq;rw[if_pos ⟨Int.natCast_nonneg _,Int.ofNat_lt.2 U⟩,nl,oF I.tail V];simp only[Y0,Y6,Int.zero_mul,Int.zero_add];have aa:aL s=((bu s).length:Int):=by rw[J];omega
  rw[aa,<-Int.natCast_mul,<-Int.natCast_add];congr 1;rw[Nat.mul_comm,Nat.add_comm,Nat.div_add_mod]
theorem oG:∀ {s:List Int},dS s-> ∀ {t:List Int} {n:Int},cq s t 0=σ n->(bu s)[n.toNat]? =σ t
 |[],_,[],n,h=>by simp[cq] at h;subst h;rfl
 |k::s,I,v::t,n,h=>by
  have Y:=I k (.head _);have V:=h2 I.tail;have aa:=kw I.tail;obtain⟨kn,rfl⟩:∃kn:Nat,k=kn:=⟨k.toNat,Ω⟩;unfold cq at h;split at h
  .rename_i ab;rw[nl] at h;cases U:cq s t 0 with
   |none=>rw[U] at h;cases h
   |some q=>
    rw[U] at h;simp only[Y0,Y6,Int.zero_mul,Int.zero_add] at h;have W:=l0 I.tail U;simp only[Int.zero_mul,Int.zero_add,Int.one_mul] at W;obtain⟨J,rfl⟩:∃J:Nat,v=J:=⟨v.toNat,Ω⟩;have X:=tf (kn:=kn) (v:=J) rfl Ω (oG I.tail U);have e:n.toNat=J*(bu s).length+q.toNat:=by
     rw[<-h,V];have:((J*(aL s).toNat:Nat):Int)=(J:Int)*aL s:=by rw[Int.natCast_mul,Int.toNat_of_nonneg Ω]
     omega
    rw[e];show ((X9 ((kn:Int).toNat)).flatMap λ(v:Nat)=>(bu s).map λt=>(v:Int)::t)[_]? =_;rw[j9];exact X
  .cases h
 |[],_,_::_,_,h=>by cases h
 |_::_,_,[],_,h=>by cases h
theorem yb:∀ (s:List Int),dS s-> ∀ (n c:Int),cH s (n+c*aL s)=cH s n
 |[],_,_,_=>rfl
 |k::s,I,n,c=>by
  have J:=kw I.tail;simp only[cH,aL];rw[<-Int.mul_assoc,yb s I.tail,Int.add_mul_ediv_right _ _ Ω,Int.add_mul_emod_self_right]
theorem oH:∀ {s:List Int},dS s-> ∀ {n:Int},0<=n->n<aL s->cq s (cH s n) 0=σ n
 |[],_,n,J,h1=>by simp[aL] at h1;simp[cH,cq];omega
 |k::s,I,n,J,h1=>by
  have W:=I k (.head _);have X:=kw I.tail;simp only[cH,aL] at h1 ⊢;have U:n / aL s<k:=Int.ediv_lt_of_lt_mul Ω h1;have V:0<=n / aL s:=Int.ediv_nonneg J Ω;have hm:n / aL s % k=n / aL s:=Int.emod_eq_of_lt V U;rw[hm];unfold cq;rw[if_pos ⟨V,U⟩,nl];have e:cH s n=cH s (n % aL s):=by
   have:=yb s I.tail (n % aL s) (n / aL s);rw[<-this];congr 1;have:=Int.emod_add_mul_ediv n (aL s);rw[Int.mul_comm (n / aL s)];omega
  rw[e,oH I.tail (Int.emod_nonneg _ Ω) (Int.emod_lt_of_pos _ Ω)];simp only[Y0,Y6,Int.zero_mul,Int.zero_add];have:=Int.emod_add_mul_ediv n (aL s);rw[Int.mul_comm (n / aL s)];omega
theorem oI {s:List Int} (I:dS s) {i:Nat} (h:(i:Int)<aL s):(bu s)[i]? =σ (cH s i):=by
 have:=oG I (oH I (n:=(i:Int)) Ω h);simpa using this
end Go.Proofs.YtgbkinibgjmodaaGreatDoor
namespace Go.Proofs.YtgbkinibgjmodaaGreatDoor
open Go Go.Vc Go.RowKit Go.Proofs Go.Proofs.Tryz
set_option maxRecDepth 100000
def cW (s cs t:List Int):Int:=match cq s t 0 with
 |some n=>cs.getD n.toNat 0
 |none=>0
def upto {α:Type} (l:List α) (d:α) (i:Nat):List α:=l.take i++o6 (l.length-i) d
theorem oJ {α:Type} (l:List α) (d:α) (i:Nat):(upto l d i).length=l.length:=by simp[upto];omega
theorem nm {α:Type} (l:List α) (d:α):upto l d 0=o6 l.length d:=by simp[upto]
theorem nn {α:Type} (l:List α) (d:α):upto l d l.length=l:=by simp[upto]
theorem np {α:Type} {l:List α} {d x:α} {i:Nat} (h:l[i]? =σ x):(upto l d i).set i x=upto l d (i+1):=by
 have hi:=(x4.1 h).1;unfold upto;rw[U6 _ _ Θ,r9,h];have e:i-(l.take i).length=0:=Θ
 obtain⟨m,hm⟩:∃m,l.length-i=m+1:=⟨l.length-i-1,Ω⟩;rw[e,hm,show l.length-(i+1)=m by omega];simp[List.replicate_succ]
theorem nq {α:Type} {l:List α} {i:Nat} {x:α} (h:l[i]? =σ x):l.set i x=l:=by
 apply X6;intro j;rw[X5];split
 .rename_i I;subst I;rw[if_pos (x4.1 h).1,h]
 .rfl
end Go.Proofs.YtgbkinibgjmodaaGreatDoor
namespace Go.Proofs.YtgbkinibgjmodaaGreatDoor
open Go Go.Vc Go.RowKit Go.Proofs Go.Proofs.Tryz
set_option maxRecDepth 100000
def tg:List Int->Int
 |[]=>0
 |x::l=>l.foldl min x
def yc (P:Int->Prop) (m:Int):Prop:=P m/\ ∀x,P x->m<=x
def c0 (s t:List Int):Prop:=∃n,cq s t 0=σ n
theorem Ge (k v:Int) (s t:List Int):cq (k::s) (v::t) 0=if 0<=v/\v<k then (cq s t 0).map (λn=>n+(0*k+v)*aL s) else ν:=by
 conv=>lhs;unfold cq
 rw[nl]
theorem yd {v:Int} {s t:List Int}:c0 (k::s) (v::t)↔(0<=v/\v<k)/\c0 s t:=by
 unfold c0;rw[Ge];constructor
 .rintro⟨n,h⟩;split at h
  .rename_i I;cases J:cq s t 0 with
   |none=>rw[J] at h;cases h
   |some q=>exact⟨I,q,rfl⟩
  .cases h
 .rintro⟨I,q,J⟩;rw[if_pos I,J];exact⟨_,rfl⟩
theorem ye {t:List Int}:c0 [] t↔t=[]:=by
 cases t with
 |nil=>exact⟨λ_=>rfl,λ_=>⟨0,rfl⟩⟩
 |cons v t=>
  constructor
  .rintro⟨_,h⟩;cases h
  .intro h;cases h
theorem qL {s t:List Int} (h:c0 s t):s.length=t.length:=by
 obtain⟨n,h⟩:=h;rcases Nat.decEq s.length t.length with I|I
 .rw[sT s t 0 I] at h;cases h
 .exact I
theorem yf {s t:List Int} (I:dS s) {n:Int} (h:cq s t 0=σ n):cH s n=t:=by
 have U:=l0 I h;have h1:=oG I h;simp only[Int.zero_mul,Int.zero_add,Int.one_mul] at U;have J:=oI I (i:=n.toNat) Ω;rw[h1] at J;have e:((n.toNat:Nat):Int)=n:=Ω
 rw[e] at J;exact (Z6 J).symm
theorem qM {s cs:List Int} (I:dS s) (J:cs.length=(aL s).toNat):cs=(X9 (aL s).toNat).map λ(q:Nat)=>cW s cs (cH s q):=by
 apply List.ext_getElem
 .simp[J]
 .intro i h1 U;rw[List.getElem_map,List.getElem_range];have V:=kw I;have hi:(i:Int)<aL s:=Ω
  unfold cW;rw[oH I Ω hi];simp only[j9];rw[u4,y0 h1];rfl
theorem th {s:List Int} (I:dS s) {q:Nat} (J:q<(aL s).toNat):c0 s (cH s q):=⟨_,oH I Ω (by have:=kw I;omega)⟩
theorem Gf {s cs J:List Int} (I:dS s) (U:cs.length=(aL s).toNat) (V:J.length=(aL s).toNat) (h:∀t,c0 s t->cW s cs t=cW s J t):cs=J:=by
 rw[qM I U,qM I V];apply List.map_congr_left;intro q W;exact h _ (th I (by simpa using W))
theorem Gg (h:l≠[]):yc (λc=>c∈l) (tg l):=by
 obtain⟨x,r,rfl⟩:∃v r,l=v::r:=by cases l with
  |nil=>exact absurd rfl h
  |cons v r=>exact⟨v,r,rfl⟩
 clear h;show yc (λc=>c∈x::r) (r.foldl min x);induction r generalizing x with
 |nil=>exact⟨.head _,λy U=>by simp at U;simp[U]⟩
 |cons y r V=>
  rw[List.foldl_cons];obtain⟨h1,J⟩:=V (min x y);refine⟨?_,λz I=>?_⟩
  .rcases U9.1 h1 with h1|h1
   .rw[h1];rcases Int.le_total x y with h|h
    .rw[Int.min_eq_left h];exact .head _
    .rw[Int.min_eq_right h];exact .tail _ (.head _)
   .exact .tail _ (.tail _ h1)
  .rcases U9.1 I with rfl|I
   .have:=J _ (.head _);omega
   .rcases U9.1 I with rfl|I
    .have:=J _ (.head _);omega
    .exact J _ (.tail _ I)
end Go.Proofs.YtgbkinibgjmodaaGreatDoor
namespace Go.Proofs.YtgbkinibgjmodaaGreatDoor
open Go Go.Vc Go.RowKit Go.Proofs Go.Proofs.Tryz
set_option maxRecDepth 100000
def nr (m:List Int) (i j:Nat):Prop:=∀ (p q:Nat) (x y:Int),p<q->q<=i->q≠j->m[p]? =σ x->m[q]? =σ y->x<=y
def oK (m:List Int) (i:Nat):Prop:=∀ (p q:Nat) (x y:Int),p<q->q<i->m[p]? =σ x->m[q]? =σ y->x<=y
theorem Gh {m:List Int} {i:Nat} (h:oK m i):nr m i i:=λp q x y h1 U V I J=>h p q x y h1 Ω I J
theorem Gi {m:List Int} {i:Nat} (h:nr m i 0):oK m (i+1):=λp q x y h1 U I J=>h p q x y h1 Ω Ω I J
theorem Gj {m:List Int} {i:Nat} {a b:Int} (h:nr m i j) (aa:0<j) (U:m[j-1]? =σ a) (W:m[j]? =σ b) (X:a<=b):oK m (i+1):=by
 intro p q x y h1 ab I J;by_cases V:q=j
 .subst V;rw[W] at J;cases J;by_cases Y:p=q-1
  .subst Y;rw[U] at I;cases I;exact X
  .have:=h p (q-1) x a Ω Ω Ω I U;omega
 .exact h p q x y h1 Ω V I J
theorem Gk {m:List Int} {i:Nat} {a b:Int} (h:nr m i j) (ae:0<j) (hi:j<=i) (W:m[j-1]? =σ a) (X:m[j]? =σ b) (af:b<a):nr ((m.set j a).set (j-1) b) i (j-1):=by
 intro p q x y h1 V Y I J;have aa:=(x4.1 X).1;have ab:∀ (r:Nat),((m.set j a).set (j-1) b)[r]? =if r=j-1 then σ b else if r=j then σ a else m[r]?:=λr=>by
  by_cases h:r=j-1
  .subst h;rw[V5 Θ,if_pos rfl]
  .rw[W6 (T7 h),if_neg h];by_cases h':r=j
   .subst h';rw[V5 aa,if_pos rfl]
   .rw[W6 (T7 h'),if_neg h']
 rw[ab] at I J;rw[if_neg Y] at J;by_cases U:q=j
 .rw[if_pos U] at J;cases J;split at I
  .cases I;omega
  .split at I
   .omega
   .exact h p (j-1) x a Ω Ω Ω I W
 .rw[if_neg U] at J;split at I
  .cases I;have:=h j q b y;by_cases ac:j<q
   .exact this ac V U X J
   .omega
  .split at I
   .rename_i ad;subst ad;cases I;exact h (p-1) q a y Ω V U W J
   .exact h p q x y h1 V U I J
theorem swap_perm {m:List Int} {i:Nat} {a b:Int} (V:i<j) (J:m[i]? =σ a) (I:m[j]? =σ b):((m.set j a).set i b).Perm m:=by
 induction m generalizing i j with
 |nil=>simp at J
 |cons x m U=>
  cases j with
  |zero=>omega
  |succ j=>
   cases i with
   |zero=>
    simp at J I ⊢;subst J;obtain⟨W,I⟩:=x4.1 I;rw[show m=m.take j++m[j]::m.drop (j+1) by simp];rw[U6 _ _ Θ];have e:j-(m.take j).length=0:=Θ
    rw[e,I];simp only[List.set_cons_zero];refine (List.Perm.cons b (List.perm_middle)).trans ?_;refine (List.Perm.swap x b _).trans ?_;exact List.Perm.cons x List.perm_middle.symm
   |succ i=>
    simp at J I ⊢;exact U Ω J I
theorem Gl {m:List Int} (h:oK m m.length):m.Pairwise (·<= ·):=by
 rw[V0];intro i j hi I J;exact h i j _ _ J I (y0 hi) (y0 I)
end Go.Proofs.YtgbkinibgjmodaaGreatDoor
namespace Go.Proofs.YtgbkinibgjmodaaGreatDoor
open Go Go.Vc Go.RowKit Go.Proofs Go.Proofs.Tryz
set_option maxRecDepth 100000
def Good (o:List Int) (n:Nat):Prop:=o.length=n/\ ∀ (i:Nat) (p:Int),o[i]? =σ p->(0<=p/\p<n)/\ ∀j,j<i->o[j]? ≠σ p
theorem Good.inj {o:List Int} {i:Nat} {p:Int} (h:Good o n) (hi:o[i]? =σ p) (I:o[j]? =σ p):i=j:=by
 rcases Nat.lt_trichotomy i j with h1|h1|h1
 .exact absurd hi ((h.2 j p I).2 i h1)
 .exact h1
 .exact absurd I ((h.2 i p hi).2 j h1)
def yg (m:List Int):Prop:=∀i:Nat,i<m.length->m[i]? =σ (i:Int)
theorem yh {o m:List Int} (h:Good o n) (J:m.Perm o) (I:m.Pairwise (·<= ·)):yg m:=by
 have Y:o.Nodup:=V0.2 λi j hi aa af he=>by
  have:=h.inj (i:=i) (j:=j) (p:=o[j]) (by rw[y0 hi,he]) (y0 aa);omega
 have ab:m.Nodup:=J.nodup_iff.2 Y;have ag:m.length=n:=by rw[J.length_eq,h.1]
 have W:∀x∈m,0<=x/\x<(n:Int):=λx ac=>by
  obtain⟨i,hi,he⟩:=List.getElem_of_mem (J.mem_iff.1 ac);exact (h.2 i x (by rw[y0 hi,he])).1
 have X:∀ (i:Nat) (hi:i+1<m.length),m[i]<m[i+1]:=λi hi=>by
  have h1:=V0.1 I i (i+1) Ω hi Ω;have U:=V0.1 ab i (i+1) Ω hi Ω;omega
 have ad:∀ (i:Nat) (hi:i<m.length),(i:Int)<=m[i]:=by
  intro i;induction i with
  |zero=>intro hi;exact (W _ (R2 hi)).1
  |succ i V=>
   intro hi;have h1:=V Ω;have U:=X i hi;omega
 have ae:∀ (d i:Nat) (hi:i<m.length),i+d+1=m.length->m[i]<=(i:Int):=by
  intro d;induction d with
  |zero=>
   intro i hi he;have:=(W _ (R2 hi)).2;omega
  |succ d V=>
   intro i hi he;have h1:=V (i+1) Ω Ω;have U:=X i Ω;omega
 intro i hi;rw[y0 hi];have h1:=ad i hi;have U:=ae (m.length-i-1) i hi Ω;congr 1;omega
theorem Gm {o m:List Int} (h:yg m) (J:m.Perm o):Good o m.length:=by
 have Y:m.Nodup:=V0.2 λi j hi I ab he=>by
  have h1:=h i hi;have U:=h j I;rw[y0 hi] at h1;rw[y0 I] at U;have h1:=Z6 h1;have U:=Z6 U;omega
 have aa:o.Nodup:=J.nodup_iff.1 Y;refine⟨J.length_eq.symm,λi p hi=>⟨?_,λj I V=>?_⟩⟩
 .obtain⟨k,W,he⟩:=List.getElem_of_mem (J.mem_iff.2 (x6 hi));have h1:=h k W;rw[y0 W,he] at h1;cases h1;omega
 .have X:i<o.length:=(x4.1 hi).1;have:=V0.1 aa j i Ω X I;rw[y0 X] at hi;rw[y0 (show j<o.length by omega)] at V;exact this ((Z6 V).trans (Z6 hi).symm)
theorem Good.yi {o:List Int} {p:Nat} (h:Good o n) (J:p<n):∃j:Nat,o[j]? =σ (p:Int):=by
 let le:Int->Int->Bool:=λa b=>decide (a<=b);have h1:(o.mergeSort le).Perm o:=List.mergeSort_perm o le;have I:(o.mergeSort le).Pairwise (·<= ·):=by
  refine (List.pairwise_mergeSort (le:=le) (λa b c h1 I=>?_) (λa b=>?_) o).imp λh=>by simpa[le] using h
  .simp[le] at*;omega
  .simp[le];omega
 have U:=yh h h1 I p (by rw[h1.length_eq,h.1];exact J);obtain⟨j,V,he⟩:=List.getElem_of_mem (h1.mem_iff.1 (x6 U));exact⟨j,by rw[y0 V,he]⟩
def kx (o x:List Int):List Int:=(X9 o.length).map λ(p:Nat)=>x.getD (o.idxOf (p:Int)) 0
theorem yj (o x:List Int):(kx o x).length=o.length:=by simp[kx]
theorem yk {o x:List Int} {p:Int} (h:Good o n) (W:x.length=n) (I:o[j]? =σ p):(kx o x)[p.toNat]? =x[j]?:=by
 have h1:=(h.2 j p I).1;have X:j<o.length:=(x4.1 I).1;have hm:p∈o:=x6 I;have J:=List.idxOf_lt_length_of_mem hm;have U:o.idxOf p=j:=h.inj (by rw[y0 J,List.getElem_idxOf J]) I;have V:((p.toNat:Nat):Int)=p:=Ω
 have Y:=h.1;unfold kx;rw[x8,List.getElem?_range Ω];simp only[Y0,V,U];rw[u4,y0 (show j<x.length by omega)];rfl
theorem yl {o x y:List Int} (h:Good o n) (U:x.length=n) (X:y.length=n) (V:∀ (j:Nat) (p:Int),o[j]? =σ p->y[p.toNat]? =x[j]?):y=kx o x:=by
 refine X6 λp=>?_;have Y:=h.1;by_cases W:p<n
 .obtain⟨j,I⟩:=h.yi W;have h1:=V j p I;have J:=yk h U I;rw[j9] at h1 J;rw[h1,J]
 .rw[Y4 Ω,Y4 (by rw[yj];omega)]
theorem mb:∀ {s t:List Int},c0 s t↔s.length=t.length/\ ∀ (i:Nat) (a v:Int),s[i]? =σ a->t[i]? =σ v->0<=v/\v<a
 |[],t=>by
  rw[ye];exact⟨λh=>⟨by rw[h],λi a v h _=>by simp at h⟩,λh=>Z2 h.1.symm⟩
 |k::s,[]=>⟨λh=>absurd (qL h) Ξ,λh=>absurd h.1 Ξ⟩
 |k::s,v::t=>by
  rw[yd,mb (s:=s) (t:=t)];refine⟨λ⟨h1,J,U⟩=>⟨by simp[J],λi a u I hu=>?_⟩,λ⟨h1,J⟩=>⟨J 0 k v rfl rfl,by simpa using h1,λi a u I hu=>J (i+1) a u (by simpa using I) (by simpa using hu)⟩⟩;cases i with
  |zero=>simp at I hu;subst I;subst hu;exact h1
  |succ i=>exact U i a u (by simpa using I) (by simpa using hu)
def dM (s o:List Int):List Int:=o.map λp=>s.getD p.toNat 0
theorem qN (s o:List Int):(dM s o).length=o.length:=by simp[dM]
theorem ym {s o:List Int} {p:Int} (h:Good o n) (I:s.length=n) (J:o[j]? =σ p):(dM s o)[j]? =s[p.toNat]?:=by
 have h1:=(h.2 j p J).1;unfold dM;rw[x8,J,Y0,u4,y0 (show p.toNat<s.length by omega)];rfl
theorem Gn {s o:List Int} (h:Good o n) (I:s.length=n) {x:Int} (J:x∈dM s o):x∈s:=by
 obtain⟨p,U,rfl⟩:=Z5.1 J;obtain⟨j,V,he⟩:=List.getElem_of_mem U;have h1:=(h.2 j p (by rw[y0 V,he])).1;rw[u4,y0 (show p.toNat<s.length by omega)];exact R2 _
theorem bR.Gp {s o:List Int} (J:bR s) (h:Good o n) (I:s.length=n):bR (dM s o):=
 ⟨by rw[qN,h.1,<-I];exact J.1,λx U=>J.2 x (Gn h I U)⟩
theorem Gq {s o x:List Int} (h:Good o n) (I:s.length=n) (X:c0 (dM s o) x):c0 s (kx o x):=by
 obtain⟨h1,Y⟩:=mb.1 X;rw[qN,h.1] at h1;refine mb.2 ⟨by rw[yj,h.1,I],λp a v J aa=>?_⟩;have ab:p<n:=by have:=(x4.1 J).1;omega
 obtain⟨j,U⟩:=h.yi ab;have V:=ym h I U;have W:=yk h h1.symm U;rw[j9] at V W;exact Y j a v (by rw[V,J]) (by rw[<-W,aa])
def mc (s cs o:List Int):List Int:=(X9 (aL (dM s o)).toNat).map λ(q:Nat)=>cW s cs (kx o (cH (dM s o) q))
theorem yn (s cs o:List Int):(mc s cs o).length=(aL (dM s o)).toNat:=by simp[mc]
theorem ti {f:Int->Bool} {x:Int}:runN f (x::l)=if f x=true then runN f l+1 else 0:=by
 unfold runN;rw[List.takeWhile_cons];by_cases h:f x=true
 .rw[if_pos h,if_pos h,j5]
 .rw[if_neg h,if_neg h];rfl
theorem tj (f:Int->Bool):∀l:List Int,l.dropWhile f=l.drop (runN f l)
 |[]=>rfl
 |x::l=>by
  rw[List.dropWhile_cons,ti];by_cases h:f x=true
  .rw[if_pos h,if_pos h,tj f l];rfl
  .rw[if_neg h,if_neg h];rfl
theorem yo (f:Int->Bool):∀l:List Int,l.takeWhile f=l.take (runN f l)
 |[]=>rfl
 |x::l=>by
  rw[List.takeWhile_cons,ti];by_cases h:f x=true
  .rw[if_pos h,if_pos h,List.take_succ_cons,yo f l]
  .rw[if_neg h,if_neg h];rfl
theorem yp {f:Int->Bool}:∀ {l:List Int} {b:Int} {q:List Int},l.dropWhile f=b::q->f b=false
 |x::l,b,q,h=>by
  rw[List.dropWhile_cons] at h;by_cases I:f x=true
  .rw[if_pos I] at h;exact yp h
  .rw[if_neg I] at h;have:=(List.cons.inj h).1;subst this;cases J:f x
   .rfl
   .exact absurd J I
theorem tk {p:List Int} {a:Nat} {b:Int} {q:List Int} (h:p.drop a=b::q):p[a]? =σ b:=by
 have:=List.getElem?_drop (xs:=p) (i:=a) (j:=0);rw[h] at this;simpa using this.symm
theorem Gr (p:List Int) (at_:Nat):match ni p at_ with
  | .word a b=>lex (p.drop at_)=(((p.take b).drop a)::(lex (p.drop b)).1,(lex (p.drop b)).2)
  | .none=>lex (p.drop at_)=([],true)
  | .text _=>lex (p.drop at_)=([],false):=by
 have W:(p.drop at_).dropWhile cg=p.drop (fv p at_):=by rw[tj,List.drop_drop];rfl
 have X:(p.drop (fv p at_)).dropWhile bF=p.drop (hC p (fv p at_)):=by rw[tj,List.drop_drop];rfl
 have aa:(p.drop (fv p at_)).takeWhile bF=(p.take (hC p (fv p at_))).drop (fv p at_):=by
  rw[yo,List.drop_take];congr 1;unfold hC;omega
 have V:runN bF (p.drop (fv p at_))=hC p (fv p at_)-fv p at_:=by unfold hC;omega
 have ak:fv p at_<=hC p (fv p at_):=by unfold hC;omega
 unfold ni;generalize fv p at_=a at*;generalize hC p a=b at*;by_cases h1:b<p.length/\(∀c,p[b]? =σ c->cg c=false)
 .rw[if_pos h1];simp only;rw[iT,W];cases J:p.drop a with
  |nil=>
   have:=List.drop_eq_nil_iff.1 J;omega
  |cons x q=>
   simp only;rw[J] at X aa V;by_cases U:bF x=true
   .rw[if_pos U,X];cases Y:p.drop b with
    |nil=>have:=List.drop_eq_nil_iff.1 Y;omega
    |cons c r=>
     simp only;rw[h1.2 c (tk Y)];rfl
   .rw[if_neg U]
 .rw[if_neg h1];by_cases ab:a=b
  .rw[if_pos ab];simp only;subst ab;rw[iT,W];cases J:p.drop a with
   |nil=>rfl
   |cons x q=>
    exfalso;have ac:=tk J;have ag:=(x4.1 ac).1;rw[J] at V;rw[J] at W;have ah:=yp W;refine h1 ⟨ag,λc ad=>?_⟩;rw[ac] at ad;cases ad;exact ah
  .rw[if_neg ab];simp only;rw[iT (p.drop at_),W];cases J:p.drop a with
   |nil=>
    rw[J] at V;have:runN bF []=0:=rfl;omega
   |cons x q=>
    simp only;rw[J] at X aa V;have U:bF x=true:=by
     rw[ti] at V;by_cases U:bF x=true
     .exact U
     .rw[if_neg U] at V;omega
    rw[if_pos U,X,aa];cases Y:p.drop b with
    |nil=>simp only;rw[iT []];rfl
    |cons c r=>
     simp only;have ae:=tk Y;have ai:=(x4.1 ae).1;have aj:cg c=true:=by
      cases I:cg c with
      |true=>rfl
      |false=>exact absurd ⟨ai,λd af=>by rw[ae] at af;cases af;exact I⟩ h1
     rw[if_pos aj]
def gx (w:x2) (g:Nat) (R:Nat->Prop) (toks:List (List Int)) (clean:Bool):Prop:=∃I p at_,kv w g I p at_ (-1)/\(∀r,leads I r->R r)/\lex (p.drop at_)=(toks,clean)
theorem gx.V {g:Nat} {R:Nat->Prop} {toks:List (List Int)} (h:gx w g R toks clean) (I:af S w w') (U:¬S g) (W:∀r,R r->¬S r):gx w' g R toks clean:=by
 obtain⟨X,p,a,⟨h1,Y,aa,ab,ac,ad⟩,J,ae⟩:=h;exact⟨X,p,a,⟨h1,Y,aa,ab.V I U,ac,bb ad I λr ag=>W r (J r ag)⟩,J,ae⟩
theorem gx.words {g:Nat} {R:Nat->Prop} {toks:List (List Int)} (h:gx w g R toks clean):toks.length<=100000/\ ∀t∈toks,Bytes t/\t≠[]/\t.length<=100000:=by
 obtain⟨X,p,a,⟨Y,aa,ab,_⟩,_,J⟩:=h;have ac:(p.drop a).length<=100000:=by rw[R0];omega
 have I:=oy _ (p.drop a) (o8 _);rw[J] at I;refine⟨by show toks.length<=_;have I:toks.length<=_:=I;omega,λt V=>?_⟩;have U:=qE _ (p.drop a) (o8 _) t (by rw[J];exact V);refine⟨λb W=>?_,U.1,Ω⟩;have:=of_decide_eq_true (U.2.1 b W);omega
def Gs (w:x2) (g:Nat) (R:Nat->Prop) (toks:List (List Int)) (clean:Bool) (v:x1) (w':x2):Prop:=af (λr=>r=g) w w'/\match toks with
 |t::l=>gx w' g R l clean/\ ∃n:Int,v= .tuple #[bw t,Δ n,Δ 0]
 |[]=>∃n:Int,v= .tuple #[bw [],Δ n,Δ (if clean then 2 else 11)]
theorem oL {g:Nat} {R:Nat->Prop} {toks:List (List Int)} (h:gx w g R toks clean):aj x3 sG [Γ g] w (Gs w g R toks clean):=by
 obtain⟨ab,p,a,h1,ac,X⟩:=h;refine (FV h1).mono ?_;intro v w' _ hw;have J:=Gr p a;unfold oD at hw;cases Y:ni p a with
 |word x y=>
  rw[Y] at hw J;simp only at hw J;rw[X] at J;obtain⟨rfl,aa,I⟩:=hw;obtain⟨U,W⟩:=Prod.mk.inj J;subst U W;exact⟨aa,⟨ab,p,y,I,ac,rfl⟩,_,rfl⟩
 |none=>
  rw[Y] at hw J;simp only at hw J;rw[X] at J;obtain⟨U,W⟩:=Prod.mk.inj J;subst U W;obtain⟨n,rfl,ad⟩:=hw;exact⟨ad.V _,_,rfl⟩
 |text b=>
  rw[Y] at hw J;simp only at hw J;rw[X] at J;obtain⟨U,W⟩:=Prod.mk.inj J;subst U W;obtain⟨rfl,aa,_⟩:=hw;exact⟨aa,_,rfl⟩
def iW (w:List Int):x1:=match fu w with
 |some n=>.tuple #[Δ n,Δ 0]
 |none=>.tuple #[Δ 0,Δ 4]
theorem yq {i:Nat} {b:Int} (hi:l[i]? =σ b):(l.take (i+1)).all ft=((l.take i).all ft&&ft b):=by
 rw[r9,hi,List.all_append];simp
theorem yr {i:Nat} {b:Int} (hi:l[i]? =σ b):(l.take (i+1)).foldl eD 0=eD ((l.take i).foldl eD 0) b:=by
 rw[r9,hi,List.foldl_append];rfl
theorem ys (I:l≠[]) (h:l.all ft=true):iU l=σ (l.foldl eD 0):=by
 unfold iU;cases l with
 |nil=>exact absurd rfl I
 |cons x l=>simp only[h,if_true]
theorem yt {i:Nat} {b:Int} (hi:l[i]? =σ b) (I:ft b=false):iU l=ν:=by
 unfold iU;cases l with
 |nil=>simp at hi
 |cons x l=>
  simp only;rw[if_neg];intro h;have:=List.all_eq_true.1 h b (x6 hi);rw[I] at this;cases this
def ns (w l:List Int) (s:Int):Prop:=(s=1\/s= -1)/\fu w=(iU l).map λn=>s*n
theorem yu:ns (45::l) l (-1):=⟨.inr rfl,by simp only[fu];congr 1;funext n;omega⟩
theorem yv {w:List Int} (h:∀b,w[0]? =σ b->b≠45):ns w w 1:=⟨.inl rfl,by
 have e:fu w=iU w:=by
  unfold fu;cases w with
  |nil=>rfl
  |cons x l=>
   have:=h x rfl;split
   .rename_i l' he;exact absurd (List.cons.inj he).1 this
   .rfl
 rw[e];cases iU w with
 |none=>rfl
 |some n=>simp⟩
theorem qO {w:List Int} {s:Int} (h:ns w l s) (I:iU l=ν):iW w= .tuple #[Δ 0,Δ 4]:=by
 unfold iW;rw[h.2,I];rfl
theorem yw {w:List Int} {s n:Int} (h:ns w l s) (I:iU l=σ n):iW w= .tuple #[Δ (s*n),Δ 0]:=by
 unfold iW;rw[h.2,I];rfl
theorem Gt (ac:Bytes l) (am:l.length<=100000):aj x3 DV [bw l] w λv w'=>v=iW l/\Ext w w':=by
 refine aA func198 ?_;rw[FE];refine hW (λaz aB U=>Ext w U/\ ∃ (m:List Int) (s:Int),az=bw m/\aB=Δ s/\Bytes m/\m.length<=100000/\ns l m s) ?_ ?_
 .rintro _ _ U ⟨ai,m,s,rfl,rfl,ak,aM,ae⟩;rw[xA ak (λb I=>by cases I),ad];refine⟨λJ=>⟨by rw[qO ae (by rw[J];rfl)],ai⟩,λJ=>?_⟩;refine s9 cK.u cw.u cr.u ak Ω λbv af ap aq _=>?_;rw[aS cw.u aq];refine p0.range m.length (λi _ _ c ag=>Ext af ag/\c=Δ ((m.take i).foldl eD 0)/\(m.take i).all ft=true) Ω ⟨Ext.refl _,rfl,rfl⟩ ?_ ?_
  .rintro i aC t3 _ ag aD hi ⟨V,rfl,W⟩ aE;obtain⟨b,Y⟩:∃b,m[i]? =σ b:=⟨_,y0 hi⟩;have aO:=ak b (x6 Y);rw[ao,ad];refine⟨λ_=>?_,λh=>Ω⟩;refine FF (λ_ _ c ah=>Ext af ah/\c=Δ ((m.take (i+1)).foldl eD 0)/\(m.take (i+1)).all ft=true) ?_ ?_
   .rintro aR aT c ah aF;rw[aN];exact aE _ _ _ _ aF
   intro aG X;rw[bc cw.u cr.i Ψ (aq.ext V) Y];refine aP (λv ah=>ag=ah/\v= .bool (!ft b)) ?_ ?_
   rotate_left
   .intro aH aa;rw[ao,ad];refine⟨λh=>aa _ _ ⟨rfl,by unfold ft;rw[decide_eq_false Ω];rfl⟩,λh=>?_⟩;rw[bP];refine aa _ _ ⟨rfl,?_⟩;unfold ft;congr 1;by_cases au:57<b
    .rw[decide_eq_true au,decide_eq_false Ω];rfl
    .rw[decide_eq_false au,decide_eq_true Ω];rfl
   rintro _ _ ⟨rfl,rfl⟩;cases al:ft b with
   |false=>
    rw[X4,bO];exact⟨by rw[qO ae (yt Y al)],(ai.trans ap).trans V⟩
   |true=>
    rw[Y1,aQ];have aU:=of_decide_eq_true al;have ab:=qF (l:=m.take i) (n:=0) W ⟨Int.le_refl _,Φ⟩;rw[yr Y,yq Y,W,al] at X;generalize (m.take i).foldl eD 0=n at*;have ab:0<=n/\n<=4611686018427387904:=ab;rw[cX,wrap_u8 Ω Ω,eZ cr.u an.u,wrap_i64 (x:=b-48) Ω Ω,cX,wrap_i64 Ω Ω,oq Φ,Int.tdiv_eq_ediv_of_nonneg Ω];rw[wrap_i64 Ω Ω,bP,ad];refine⟨λaI=>X _ _ _ _ ⟨V,?_,rfl⟩,λaI=>?_⟩
    .congr 1;unfold eD av;omega
    .rw[fp,wrap_i64 Ω Ω,aN,wrap_i64 Ω Ω];refine X _ _ _ _ ⟨V,?_,rfl⟩;congr 1;unfold eD av;omega
  .rintro aC t3 _ ag aD ⟨V,rfl,W⟩;rw[o9] at W ⊢;rw[ao,ad];refine⟨λh=>Ω,λ_=>?_⟩;have ab:=qF (l:=m) (n:=0) W ⟨Int.le_refl _,Φ⟩;have ab:0<=m.foldl eD 0/\m.foldl eD 0<=4611686018427387904:=ab;rw[fp];have hw:Y5.wrap (s*m.foldl eD 0)=s*m.foldl eD 0:=by
    rcases ae.1 with rfl|rfl <;> exact wrap_i64 Ω Ω
   rw[hw];exact⟨by rw[yw ae (ys J W)],(ai.trans ap).trans V⟩
 .intro aG X;refine aP (λv af=>w=af/\ ∃c:Bool,v= .bool c/\(c=true↔l[0]? =σ 45)) ?_ ?_
  .rintro _ _ ⟨rfl,c,rfl,aw⟩;rw[bH];refine⟨λaJ=>?_,λax=>?_⟩
   .intro aV aK _ _;have ay:=aw.1 aJ;cases l with
    |nil=>simp at ay
    |cons x r=>
     have aL:x=45:=by simpa using ay
     subst aL;rw[xB (y:=1) (i:=1) rfl cK.u Ξ];exact X _ _ _ ⟨aK,r,-1,rfl,rfl,λb I=>ac b (.tail _ I),by simp at am;omega,yu⟩
   .refine X _ _ _ ⟨Ext.refl _,l,1,rfl,rfl,ac,am,yv λb I he=>?_⟩;subst he;rw[aw.2 I] at ax;cases ax
  .intro aH aa;rw[FJ ac (λb I=>by cases I),ad];refine⟨λJ=>?_,λJ=>aa _ _ ⟨rfl,false,rfl,⟨λh=>(by cases h),λh=>by rw[X2.1 J] at h;simp at h⟩⟩⟩;cases l with
   |nil=>exact absurd rfl J
   |cons x r=>
    rw[oA (y:=0) (i:=0) (b:=x) rfl cK.u ac rfl,bi];exact aa _ _ ⟨rfl,_,rfl,Ξ⟩
theorem qP {s s':aG} {w:List Int} (h:dv s=σ (w,s')):s.toks=w::s'.toks/\s'={s with toks:=s'.toks}:=by
 unfold dv at h;cases I:s.toks with
 |nil=>rw[I] at h;cases h
 |cons x l=>
  rw[I] at h;simp only[Y6,T6] at h;obtain⟨rfl,rfl⟩:=h;exact⟨rfl,rfl⟩
theorem gN {n:Int} {s s':aG} (h:ba lo hi s=σ (n,s')):(lo<=n/\n<=hi)/\(∃w,s.toks=w::s'.toks/\fu w=σ n)/\s'={s with toks:=s'.toks}:=by
 unfold ba at h;cases hw:dv s with
 |none=>rw[hw] at h;cases h
 |some q=>
  obtain⟨w,s1⟩:=q;rw[hw] at h;simp only at h;obtain⟨h1,J⟩:=qP hw;cases I:fu w with
  |none=>rw[I] at h;cases h
  |some m=>
   rw[I] at h;simp only at h;split at h
   .rename_i U;simp only[Y6,T6] at h;obtain⟨rfl,rfl⟩:=h;exact⟨U,⟨w,h1,I⟩,J⟩
   .cases h
def hd (k:Nat) (s s':aG):Prop:=s.toks.length=s'.toks.length+k/\s'={s with toks:=s'.toks}
theorem hd.refl (s:aG):hd 0 s s:=⟨rfl,rfl⟩
theorem hd.trans {a b:Nat} {r s t:aG} (h:hd a r s) (k:hd b s t):hd (a+b) r t:=⟨by have:=h.1;have:=k.1;omega,by rw[k.2,h.2]⟩
theorem dh {n:Int} {s s':aG} (h:ba lo hi s=σ (n,s')):hd 1 s s':=by
 obtain⟨_,⟨w,h1,_⟩,I⟩:=gN h;exact⟨by rw[h1];simp,I⟩
theorem hd.eqs {k:Nat} {s s':aG} (h:hd k s s'):s'.told=s.told/\s'.big=s.big/\s'.shared=s.shared:=by rw[h.2];exact⟨rfl,rfl,rfl⟩
theorem iX {α:Type} {f:List α->aG->Option (α×aG)} (I:List α->aG->Prop) (V:∀acc s a s',I acc s->f acc s=σ (a,s')->I (acc++[a]) s'):
  ∀ (n:Nat) (acc:List α) (s:aG) (l:List α) (s':aG),I acc s->cz f n acc s=σ (l,s')->I l s'/\l.length=acc.length+n
 |0,acc,s,l,s',J,h=>by
  simp only[cz,Y6,T6] at h;obtain⟨rfl,rfl⟩:=h;exact⟨J,Ω⟩
 |n+1,acc,s,l,s',J,h=>by
  simp only[cz] at h;cases U:f acc s with
  |none=>rw[U] at h;cases h
  |some q=>
   obtain⟨a,s1⟩:=q;rw[U] at h;have:=iX I V n _ _ _ _ (V _ _ _ _ J U) h;exact⟨this.1,by rw[this.2];simp;omega⟩
theorem tl {n:Int} {k:Nat} {s s':aG} (h:eE n k s=σ (l,s')):hd l.length s s'/\l.length=k/\l.Nodup/\ ∀v∈l,0<=v/\v<n:=by
 have:=iX (λacc t=>hd acc.length s t/\acc.Nodup/\ ∀v∈acc,0<=v/\v<n) (λacc t a aa ⟨h1,V,W⟩ h=>by
  cases J:ba 0 (n-1) t with
  |none=>rw[J] at h;cases h
  |some q=>
   obtain⟨v,ab⟩:=q;rw[J] at h;simp only at h;split at h
   .cases h
   .rename_i X;simp only[Y6,T6] at h;obtain⟨rfl,rfl⟩:=h;have ac:=(gN J).1;refine⟨by rw[r8];exact h1.trans (dh J),List.nodup_append.2 ⟨V,Ξ,λx I y U he=>?_⟩,λx I=>?_⟩
    .rw[l9] at U;subst U;subst he;exact X I
    .rcases n9.1 I with I|I
     .exact W x I
     .rw[l9.1 I];omega) k [] s l s' ⟨hd.refl s,List.nodup_nil,λv Y=>by cases Y⟩ h
 exact⟨this.1.1,by simpa using this.2,this.1.2.1,this.1.2.2⟩
theorem tm:∀ {ks acc:List Int} {s s':aG} {t:List Int},hB ks acc s=σ (t,s')-> ∃u,t=acc++u/\c0 ks u/\hd u.length s s'
 |[],acc,s,s',t,h=>by
  simp only[hB,Y6,T6] at h;obtain⟨rfl,rfl⟩:=h;exact⟨[],Ξ,ye.2 rfl,hd.refl s⟩
 |k::ks,acc,s,s',t,h=>by
  simp only[hB] at h;cases I:ba 0 (k-1) s with
  |none=>rw[I] at h;cases h
  |some q=>
   obtain⟨v,s1⟩:=q;rw[I] at h;obtain⟨u,rfl,hu,J⟩:=tm h;have U:=(gN I).1;exact⟨v::u,Ξ,yd.2 ⟨Ω,hu⟩,by rw[j5,Nat.add_comm];exact (dh I).trans J⟩
def lf (sizes:List Int) (l:List (List Int×Int)):Prop:=(l.map (·.1)).Nodup/\ ∀p∈l,c0 sizes p.1/\0<=p.2
theorem nt {sizes:List Int} {acc:List (List Int×Int)} {s s':aG} {a:List Int×Int} (h:dw sizes acc s=σ (a,s')):a.1∉acc.map (·.1)/\c0 sizes a.1/\0<=a.2/\hd (a.1.length+1) s s':=by
 unfold dw at h;cases J:hB sizes [] s with
 |none=>rw[J] at h;cases h
 |some q=>
  obtain⟨t,s1⟩:=q;rw[J] at h;simp only at h;obtain⟨u,hu,U,V⟩:=tm J;rw[List.nil_append] at hu;subst hu;cases I:ba 0 av s1 with
  |none=>rw[I] at h;cases h
  |some q=>
   obtain⟨c,X⟩:=q;rw[I] at h;simp only at h;split at h
   .cases h
   .rename_i W;simp only[Y6,T6] at h;obtain⟨rfl,rfl⟩:=h;exact⟨W,U,(gN I).1.1,V.trans (dh I)⟩
structure yx (s s':aG):Prop where
 toks:s'.toks.length<s.toks.length
 big:s.big=true->s'.big=true
theorem Gu {sizes:List Int} {s s':aG} {l:List (List Int×Int)} (ab:∀q∈s.shared,lf q.1 q.2/\q.2.length<=N) (al:s.toks.length<=N) (h:dx sizes s=σ (l,s')):
  lf sizes l/\l.length<=N/\s'.shared=s.shared/\yx s s':=by
 unfold dx at h;cases W:ba (-av) av s with
 |none=>rw[W] at h;cases h
 |some q=>
  obtain⟨n,s1⟩:=q;rw[W] at h;simp only at h;have h1:=dh W;obtain⟨am,ac,X⟩:=h1.eqs;split at h
  .cases I:s1.shared[(-n-1).toNat]? with
   |none=>rw[I] at h;cases h
   |some q=>
    obtain⟨z,l'⟩:=q;rw[I] at h;simp only at h;split at h
    .rename_i af;simp only[Y6,T6] at h;obtain⟨rfl,rfl⟩:=h;subst af;have hm:=x6 I;rw[X] at hm;exact⟨(ab _ hm).1,(ab _ hm).2,X,by have:=h1.1;omega,λU=>by rw[ac];exact U⟩
    .cases h
  .have:=iX (λacc t=>lf sizes acc/\t.shared=s.shared/\t.toks.length+acc.length<=s1.toks.length/\(s.big=true->t.big=true)) (λacc t a an ⟨V,Y,ag,aa⟩ g=>by
    obtain⟨ah,ai,aj,ad⟩:=nt g;obtain⟨f1,f2,f3⟩:=ad.eqs;refine⟨⟨?_,λp J=>?_⟩,by rw[f3,Y],by have:=ad.1;simp only[r8,T1];omega,λU=>by rw[f2];exact aa U⟩
    .rw[Z4];exact List.nodup_append.2 ⟨V.1,Ξ,λx ak y ae he=>by
      simp only[S2,List.map_nil,l9] at ae;subst ae;subst he;exact ah ak⟩
    .rcases n9.1 J with J|J
     .exact V.2 p J
     .rw[l9.1 J];exact⟨ai,aj⟩) n.toNat [] (a1 (decide (16384<min (s1.told+n) av)) {s1 with told:=min (s1.told+n) av}) l s' ⟨⟨Ξ,λp J=>by cases J⟩,X,by simp[a1],λU=>by simp[a1,ac,U]⟩ h
   obtain⟨⟨V,Y,ag,aa⟩,_⟩:=this;have:=h1.1;exact⟨V,Ω,Y,⟨Ω,aa⟩⟩
structure qQ (all:List Int) (N:Nat) (f:cd):Prop where
 scope:f.scope.Nodup/\ ∀v∈f.scope,0<=v/\v<all.length
 sizes:f.sizes=f.scope.map λv=>all.getD v.toNat 0
 other:0<=f.other
 lines:lf f.sizes f.lines
 len:f.lines.length<=N
theorem Gv {all:List Int} {s s':aG} {f:cd} (ac:∀q∈s.shared,lf q.1 q.2/\q.2.length<=N) (az:s.toks.length<=N) (h:cS all s=σ (f,s')):
  qQ all N f/\(∀q∈s'.shared,lf q.1 q.2/\q.2.length<=N)/\yx s s'/\(s'.big=false->f.scope.length<=6/\c6 f.sizes=false):=by
 unfold cS at h;cases ad:ba (-av) av s with
 |none=>rw[ad] at h;cases h
 |some q=>
 obtain⟨a,s1⟩:=q;rw[ad] at h;simp only at h;have t0:=dh ad;obtain⟨aA,an,ao⟩:=t0.eqs;cases h1:eE all.length a.natAbs s1 with
 |none=>rw[h1] at h;cases h
 |some q=>
 obtain⟨sc,W⟩:=q;rw[h1] at h;simp only at h;obtain⟨af,aB,ap,aq⟩:=tl h1;obtain⟨aC,au,aw⟩:=af.eqs;generalize ax:sc.map (λv=>all.getD v.toNat 0)=sizes at h;cases Y:ba 0 av (a1 (decide (6<a.natAbs)||c6 sizes) W) with
 |none=>rw[Y] at h;cases h
 |some q=>
 obtain⟨other,U⟩:=q;rw[Y] at h;simp only at h;have ag:=dh Y;obtain⟨aD,aa,X⟩:=ag.eqs;have X:U.shared=s.shared:=by rw[X];show W.shared=_;rw[aw,ao]
 have aE:U.toks.length<s.toks.length:=by
  have:=t0.1;have:=af.1;have ab:=ag.1;have:(a1 (decide (6<a.natAbs)||c6 sizes) W).toks.length=W.toks.length:=rfl;omega
 cases ab:dx sizes U with
 |none=>rw[ab] at h;cases h
 |some q=>
 obtain⟨lines,J⟩:=q;rw[ab] at h;simp only[Y6,T6] at h;obtain⟨rfl,rfl⟩:=h;obtain⟨ah,ai,aj,ak⟩:=Gu (N:=N) (by rw[X];exact ac) Ω ab;have ay:=ak.big;have aF:=ak.toks;have al:U.big=true-> ∀ae:aG,ae=(if a<0 then {J with shared:=J.shared++[(sizes,lines)]} else J)->ae.big=true:=λV ae he=>by
  rw[he];split <;> exact ay V
 have aa:U.big=(s.big||(decide (6<a.natAbs)||c6 sizes)):=by
  rw[aa];show (W.big||_)=_;rw[au,an]
 refine⟨⟨⟨ap,aq⟩,ax.symm,(gN Y).1.1,ah,ai⟩,λq I=>?_,⟨?_,λV=>al (by rw[aa,V];rfl) _ rfl⟩,λV=>?_⟩
 .split at I
  .rcases n9.1 I with I|I
   .rw[show J.shared=s.shared by rw[aj,X]] at I;exact ac q I
   .rw[l9.1 I];exact⟨ah,ai⟩
  .rw[show J.shared=s.shared by rw[aj,X]] at I;exact ac q I
 .have:(if a<0 then {J with shared:=J.shared++[(sizes,lines)]} else J).toks=J.toks:=by split <;> rfl
  rw[this];omega
 .have am:U.big=false:=by
   cases I:U.big with
   |false=>rfl
   |true=>rw[al I _ rfl] at V;cases V
  rw[aa,S0,S0,decide_eq_false_iff_not] at am;show sc.length<=6/\_;exact⟨Ω,am.2.2⟩
structure eL (N:Nat) (f:bY):Prop where
 name:f.name.length<=64
 k:1<=f.k/\f.k<=2147483648
 sizes:1<=f.sizes.length/\f.sizes.length<=64/\ ∀z∈f.sizes,1<=z/\z<=32
 jD:f.funs.length<=256
 funs:∀x∈f.funs,qQ f.sizes N x/\x.scope.length<=6/\c6 x.sizes=false
theorem oM {b:Bool} {s:aG} (h:(a1 b s).big=false):s.big=false/\b=false:=by
 have h:(s.big||b)=false:=h;exact S0.1 h
theorem Gw {a b:aG} (h:a.big=true->b.big=true) (I:b.big=false):a.big=false:=by
 cases J:a.big with
 |false=>rfl
 |true=>rw[h J] at I;cases I
theorem yy {s s':aG} {f:bY} (I:s.shared=[]) (h:gL s=σ (f,s')) (J:s'.big=false):eL s.toks.length f/\f.name∈s.toks:=by
 unfold gL at h;cases ah:dv s with
 |none=>rw[ah] at h;cases h
 |some q=>
 obtain⟨name,s0⟩:=q;rw[ah] at h;simp only at h;obtain⟨U,az⟩:=qP ah;cases h1:ba 1 av (a1 (decide (64<name.length)) s0) with
 |none=>rw[h1] at h;cases h
 |some q=>
 obtain⟨n,s1⟩:=q;rw[h1] at h;simp only at h;have X:=dh h1;cases ai:ba 1 av (a1 (decide (64<n)) s1) with
 |none=>rw[ai] at h;cases h
 |some q=>
 obtain⟨most,aA⟩:=q;rw[ai] at h;simp only at h;have aj:=dh ai;cases ak:ba 0 av aA with
 |none=>rw[ak] at h;cases h
 |some q=>
 obtain⟨count,ad⟩:=q;rw[ak] at h;simp only at h;have t3:=dh ak;cases ae:ba 1 av (a1 (decide (256<count)) ad) with
 |none=>rw[ae] at h;cases h
 |some q=>
 obtain⟨k,aa⟩:=q;rw[ae] at h;simp only at h;have t4:=dh ae;cases al:cz (fd most) n.toNat [] (a1 (decide (2147483648<k)) aa) with
 |none=>rw[al] at h;cases h
 |some q=>
 obtain⟨sizes,af⟩:=q;rw[al] at h;simp only at h;cases am:cz (λ_ s=>cS sizes s) count.toNat [] af with
 |none=>rw[am] at h;cases h
 |some q=>
 obtain⟨funs,aB⟩:=q;rw[am] at h;simp only[Y6,T6] at h;obtain⟨rfl,rfl⟩:=h;have aC:=iX (λ(acc:List Int) t=>t.shared=[]/\t.toks.length<=s.toks.length/\(t.big=false->aa.big=false/\k<=2147483648/\ ∀z∈acc,1<=z/\z<=32)) (λacc t a aD ⟨an,au,ao⟩ g=>by
  unfold fd at g;cases Y:ba 1 most t with
  |none=>rw[Y] at g;cases g
  |some q=>
   obtain⟨z,X⟩:=q;rw[Y] at g;simp only[Y6,T6] at g;obtain⟨rfl,rfl⟩:=g;have aw:=dh Y;obtain⟨a2,aE,aF⟩:=aw.eqs;have a6:=(gN Y).1;refine⟨by show X.shared=[];rw[aF,an],by show X.toks.length<=_;have:=aw.1;omega,λJ=>?_⟩;obtain⟨V,ab⟩:=oM J;rw[aE] at V;obtain⟨ap,aq,aH⟩:=ao V;refine⟨ap,aq,λy ac=>?_⟩;rcases n9.1 ac with ac|ac
   .exact aH y ac
   .rw[l9.1 ac];have:=of_decide_eq_false ab;omega) n.toNat [] (a1 (decide (2147483648<k)) aa) sizes af ⟨by
     show aa.shared=[];rw[t4.eqs.2.2];show ad.shared=[];rw[t3.eqs.2.2,aj.eqs.2.2];show s1.shared=[];rw[X.eqs.2.2];show s0.shared=[];rw[az];exact I,by
     show aa.toks.length<=_;have aI:=X.1;have aJ:=aj.1;have a3:=t3.1;have a4:=t4.1;have V:(a1 (decide (64<name.length)) s0).toks=s0.toks:=rfl;have ab:(a1 (decide (64<n)) s1).toks=s1.toks:=rfl;have ag:(a1 (decide (256<count)) ad).toks=ad.toks:=rfl;rw[V] at aI;rw[ab] at aJ;rw[ag] at a4;rw[U,j5];omega,λJ=>by
     obtain⟨V,ab⟩:=oM J;have:=of_decide_eq_false ab;exact⟨V,Ω,λz aK=>by cases aK⟩⟩ al
 obtain⟨⟨aL,aM,aN⟩,aO⟩:=aC;have aP:=iX (λ(acc:List cd) t=>(∀q∈t.shared,lf q.1 q.2/\q.2.length<=s.toks.length)/\t.toks.length<=s.toks.length/\(t.big=false->af.big=false/\ ∀x∈acc,qQ sizes s.toks.length x/\x.scope.length<=6/\c6 x.sizes=false)) (λacc t a aD ⟨an,au,ao⟩ g=>by
  obtain⟨aQ,aR,ax,aS⟩:=Gv an au g;refine⟨aR,by have:=ax.toks;omega,λJ=>?_⟩;obtain⟨ap,aq⟩:=ao (Gw ax.big J);refine⟨ap,λx W=>?_⟩;rcases n9.1 W with W|W
  .exact aq x W
  .rw[l9.1 W];exact⟨aQ,aS J⟩) count.toNat [] af funs aB ⟨(by rw[aL];intro q Y;cases Y),aM,λJ=>⟨J,λx W=>by cases W⟩⟩ am
 obtain⟨⟨_,_,d3⟩,d4⟩:=aP;obtain⟨aT,d5⟩:=d3 J;obtain⟨ag,aU,aV⟩:=aN aT;rw[t4.eqs.2.1] at ag;obtain⟨ay,aW⟩:=oM ag;rw[t3.eqs.2.1,aj.eqs.2.1] at ay;obtain⟨V,aX⟩:=oM ay;rw[X.eqs.2.1] at V;obtain⟨_,aY⟩:=oM V;have:=of_decide_eq_false aW;have:=of_decide_eq_false aX;have:=of_decide_eq_false aY;have a7:=(gN h1).1;have aZ:=(gN ae).1;simp only[List.length_nil,V1] at aO d4;exact⟨⟨by show name.length<=64;omega,⟨aZ.1,aU⟩,⟨by show 1<=sizes.length;omega,by show sizes.length<=64;omega,aV⟩,by show funs.length<=256;omega,d5⟩,by rw[U];exact .head _⟩
def ir (x:cd) (k:Int) (t:List Int):Int:=min (match x.lines.find? (λp=>decide (p.1=t)) with
 |some p=>p.2
 |none=>x.other) k
def bh (l:List Int):List Int:=((X9 64).map λ(v:Nat)=>(v:Int)).filter λv=>decide (v∈l)
def bD (sizes scope:List Int):List Int:=scope.map λv=>sizes.getD v.toNat 0
def nu (scope I t:List Int):List Int:=scope.map λv=>t.getD (I.idxOf v) 0
abbrev ct:Type:=List Int×List Int
def gO (sizes:List Int) (k:Int) (x:cd):ct:=(bh x.scope,(bu (bD sizes (bh x.scope))).map λt=>ir x k (nu x.scope (bh x.scope) t))
def dC (k:Int) (a b:List Int):List Int:=List.zipWith (λx y=>min (x+y) k) a b
def hf (k:Int) (acc:List ct) (g:ct):List ct:=if g.1∈acc.map (·.1) then acc.map λh=>if h.1=g.1 then (h.1,dC k h.2 g.2) else h else acc++[g]
def h5:List Int->Int
 |[]=>0
 |x::l=>x*64 ^ l.length+h5 l
def cT (l:List Int):Int:=l.length*64 ^ 6+h5 l
def gy (g:ct):List ct->List ct
 |[]=>[g]
 |h::l=>if cT h.1<cT g.1 then h::gy g l else g::h::l
def e0 (g:ct):Bool:=g.2.any λc=>decide (0<c)
def eR (f:bY):List ct:=(f.funs.map (gO f.sizes f.k)).foldl (hf f.k) []
def e1 (f:bY):List ct:=((eR f).filter e0).foldl (λl g=>gy g l) []
structure aV where
 k:Int
 sizes:List Int
 zero:Int
 unary:List (List Int)
 funs:List ct
deriving DecidableEq
def cC (f:bY):aV:=(e1 f).foldl (λn g=>match g.1 with
 |[]=>{n with zero:=g.2.getD 0 0}
 |[v]=>{n with unary:=n.unary.set v.toNat g.2}
 |_=>{n with funs:=n.funs++[g]}) ⟨f.k,f.sizes,0,f.sizes.map λz=>o6 z.toNat 0,[]⟩
abbrev hD:Type:=Rd (List Int)×Rd (List (List Int×Int))
def bq (g gs:Nat) (A:ai):ai:=λr=>r=g\/r=gs\/A r
def e2 (gs:Nat) (e big I J told:Int) (sv:x1):List x1:=[Γ gs,Δ e,Δ big,Δ I,Δ J,Δ told,sv]
def cn (g gs:Nat) (A:ai) (B:ai):ai:=λr=>¬bq g gs A r/\B r
def jE (w:x2) (g gs:Nat) (A:ai) (B:ai):Prop:=g≠gs/\¬A g/\¬A gs/\(∀r,bq g gs A r->r<w.heap.size)/\ ∀r,B r->r<w.heap.size
def cZ (w:x2) (g gs:Nat) (A:ai) (B:ai) (s:aG) (clean:Bool):Prop:=jE w g gs A B/\gx w gs (cn g gs A B) s.toks clean/\(0<=s.told/\s.told<=av/\s.shared.length+s.toks.length<=100000)/\
 ∃big I J told sv,ae w g b4 (e2 gs 0 big I J told sv)/\((s.big=true↔big≠0)/\(s.big=false->told=s.told))/\bf A (cn g gs A B) w [sv] (show List hD from s.shared)
def eb (w:x2) (g gs:Nat) (A:ai) (B:ai):Prop:=jE w g gs A B/\ ∃ (e big I J told:Int) (sv:x1) (l:List hD),ae w g b4 (e2 gs e big I J told sv)/\(e≠0/\l.length<=100000)/\bf A (cn g gs A B) w [sv] l
theorem jE.V {g:Nat} {A:ai} {B:ai} (h:jE w g gs A B) (J:af S w w'):jE w' g gs A B:=by
 obtain⟨h1,U,W,X,Y⟩:=h;exact⟨h1,U,W,λr I=>Nat.lt_of_lt_of_le (X r I) J.size,λr I=>Nat.lt_of_lt_of_le (Y r I) J.size⟩
theorem yz {g:Nat} {A:ai} {B:ai} (I:∀r,A r->¬S r) (J:∀r,cn g gs A B r->¬S r):∀r,A r\/cn g gs A B r->¬S r:=λr h=>h.elim (I r) (J r)
theorem cZ.V {g:Nat} {A:ai} {B:ai} {s:aG} (h:cZ w g gs A B s clean) (I:af S w w') (J:∀r,bq g gs A r->¬S r) (U:∀r,cn g gs A B r->¬S r):cZ w' g gs A B s clean:=by
 obtain⟨h1,W,X,big,Y,aa,told,sv,ab,ac,ad⟩:=h;exact⟨h1.V I,W.V I (J gs (.inr (.inl rfl))) U,X,big,Y,aa,told,sv,ab.V I (J g (.inl rfl)),ac,ak.V ad I λr _ h=>yz (λr ae=>J r (.inr (.inr ae))) U r h⟩
theorem eb.V {g:Nat} {A:ai} {B:ai} (h:eb w g gs A B) (I:af S w w') (J:∀r,bq g gs A r->¬S r) (U:∀r,cn g gs A B r->¬S r):eb w' g gs A B:=by
 obtain⟨h1,e,big,W,X,told,sv,l,Y,aa,ab⟩:=h;exact⟨h1.V I,e,big,W,X,told,sv,l,Y.V I (J g (.inl rfl)),aa,ak.V ab I λr _ h=>yz (λr ac=>J r (.inr (.inr ac))) U r h⟩
theorem cZ.ext {g:Nat} {A:ai} {B:ai} {s:aG} (h:cZ w g gs A B s clean) (I:Ext w w'):cZ w' g gs A B s clean:=h.V (I.V λ_=>False) (λ_ _ h=>h) (λ_ _ h=>h)
theorem eb.ext {g:Nat} {A:ai} {B:ai} (h:eb w g gs A B) (I:Ext w w'):eb w' g gs A B:=h.V (I.V λ_=>False) (λ_ _ h=>h) (λ_ _ h=>h)
def fe (w:x2) (g gs:Nat) (A:ai) (B:ai) (clean:Bool) (s':Option aG) (w':x2):Prop:=af (bq g gs A) w w'/\match s' with
 |some s'=>cZ w' g gs A B s' clean
 |none=>eb w' g gs A B
theorem tn {g:Nat} {e big I J told:Int} (U:ae w g b4 (e2 gs e big I J told sv)):aj x3 jt [Γ g] w λv w'=>v= .bool (decide (e=0))/\Ext w w':=by
 refine aA func150 ?_;rw[aw,aa b4.p rfl,aa eC.p rfl,ac Ψ (U.cell (o:=0+1+0) rfl),bi];exact⟨rfl,Ext.refl _⟩
theorem nv {g:Nat} {A:ai} {B:ai} {s:aG} (h:cZ w g gs A B s clean):aj x3 jt [Γ g] w λv w'=>v= .bool true/\Ext w w':=by
 obtain⟨_,_,_,big,J,U,told,sv,I,_⟩:=h;exact (tn I).mono λ_ _ _ h=>h
theorem md {g:Nat} {A:ai} {B:ai} (h:eb w g gs A B):aj x3 jt [Γ g] w λv w'=>v= .bool false/\Ext w w':=by
 obtain⟨_,e,big,W,X,told,sv,l,I,J,_⟩:=h;refine (tn I).mono ?_;rintro _ U _ ⟨rfl,V⟩;exact⟨by rw[decide_eq_false J.1],V⟩
theorem qR {g:Nat} {A B:ai} (h:A r\/cn g gs A B r) (I:¬A g):r≠g:=by
 rintro rfl;rcases h with h|h
 .exact I h
 .exact h.1 (.inl rfl)
theorem qS {g:Nat} {A:ai} {B:ai} {big ag J told e:Int} {l:List hD} (I:jE w g gs A B) (ah:ae w g b4 (e2 gs 0 big ag J told sv)) (al:bf A (cn g gs A B) w [sv] l) (he:e≠0) (am:l.length<=100000):
  aj x3 lJ [Γ g,Δ e,Δ at_] w λ_ w'=>af (λr=>r=g) w w'/\eb w' g gs A B:=by
 refine aA func153 ?_;rw[aw,aa b4.p rfl,aa eC.p rfl,ac Ψ (ah.cell (o:=0+1+0) rfl),bi,ad];refine⟨λ_=>?_,λh=>absurd rfl h⟩;rw[aw,aa b4.p rfl,aa eC.p rfl];refine bj (g:=g) (o:=1) eB.i rfl rfl ah (by simp[e2]) λU an au W=>?_;have W:ae U g b4 (e2 gs e big ag J told sv):=W;rw[aw,aa b4.p rfl,aa eC.p rfl];refine bj (g:=g) (o:=3) ab.i rfl rfl W (by simp[e2]) λao ap av X=>?_;have X:ae ao g b4 (e2 gs e big at_ J told sv):=X;have Y:=an.trans ap;exact⟨Y,I.V Y,e,big,at_,J,told,sv,l,X,⟨he,am⟩,ak.V al Y λr _ h aq=>qR h I.2.1 aq⟩
theorem qT {g:Nat} {A:ai} {B:ai} {s:aG} {e:Int} (h:cZ w g gs A B s clean) (he:e≠0):aj x3 lJ [Γ g,Δ e,Δ at_] w λ_ w'=>af (λr=>r=g) w w'/\eb w' g gs A B:=by
 obtain⟨I,_,J,big,W,X,told,sv,U,_,V⟩:=h;exact qS I U V he (by have:=J.2.2;show s.shared.length<=_;omega)
theorem Gx {g:Nat} {A:ai} {B:ai} {e:Int} (h:eb w g gs A B):aj x3 lJ [Γ g,Δ e,Δ at_] w λ_ w'=>Ext w w':=by
 obtain⟨_,J,big,U,V,told,sv,l,h1,I,_⟩:=h;refine aA func153 ?_;rw[aw,aa b4.p rfl,aa eC.p rfl,ac Ψ (h1.cell (o:=0+1+0) rfl),bi,ad];exact⟨λh=>absurd h I.1,λ_=>Ext.refl _⟩
theorem qU {g:Nat} {A:ai} {B:ai} {s:aG} {b:Bool} (h:cZ w g gs A B s clean):aj x3 oj [Γ g,.bool b,Δ at_] w λ_ w'=>af (λr=>r=g) w w'/\cZ w' g gs A B (a1 b s) clean:=by
 obtain⟨I,am,an,big,W,ao,told,sv,X,ap,aq⟩:=id h;refine aA func148 ?_;refine aP (λv U=>w=U/\v= .bool (b&&decide (big=0))) ?_ ?_
 rotate_left
 .intro aD ag;cases b with
  |false=>rw[aQ];exact ag _ _ ⟨rfl,rfl⟩
  |true=>
   rw[bO,aw,aa b4.p rfl,aa eC.p rfl,ac Ψ (X.cell (o:=0+1+1) rfl),bi,ad];refine⟨λJ=>?_,λJ=>ag _ _ ⟨rfl,by rw[decide_eq_false J];rfl⟩⟩;rw[aw,aa b4.p rfl,aa eC.p rfl,ac Ψ (X.cell (o:=0+1+0) rfl),bi];exact ag _ _ ⟨rfl,by rw[decide_eq_true J];rfl⟩
 rintro _ _ ⟨rfl,rfl⟩;rw[bH];refine⟨λau=>?_,λav=>?_⟩
 .obtain⟨rfl,J⟩:=Bool.and_eq_true_iff.1 au;rw[aw,aa b4.p rfl,aa eC.p rfl];refine bj (g:=g) (o:=2) eB.i rfl rfl X (by simp[e2]) λU ax aE ah=>?_;have ah:ae U g b4 (e2 gs 0 5 W ao told sv):=ah;rw[aw,aa b4.p rfl,aa eC.p rfl];refine bj (g:=g) (o:=4) ab.i rfl rfl ah (by simp[e2]) λay az aF al=>?_;have al:ae ay g b4 (e2 gs 0 5 W at_ told sv):=al;have Y:=ax.trans az;exact⟨Y,I.V Y,am.V Y (λhe=>I.1 he.symm) (λr aB he=>aB.1 (.inl he)),an,5,W,at_,told,sv,al,⟨⟨λ_=>Ω,λ_=>by simp[a1]⟩,λh=>by simp[a1] at h⟩,ak.V aq Y λr _ h aC=>qR h I.2.1 aC⟩
 .refine⟨af.refl _ _,I,am,an,big,W,ao,told,sv,X,⟨?_,λh=>ap.2 (by
   have h:(s.big||b)=false:=h;exact (S0.1 h).1)⟩,aq⟩
  show (s.big||b)=true↔big≠0;cases b with
  |false=>rw[Bool.or_false];exact ap.1
  |true=>
   have J:big≠0:=of_decide_eq_false (by simpa using av);simp[J]
theorem yA {g:Nat} {A:ai} {B:ai} {b:Bool} (h:eb w g gs A B):aj x3 oj [Γ g,.bool b,Δ at_] w λ_ w'=>Ext w w':=by
 obtain⟨_,W,big,X,Y,told,sv,l,h1,J,_⟩:=h;refine aA func148 ?_;refine aP (λv U=>w=U/\v= .bool false) ?_ ?_
 .rintro _ _ ⟨rfl,rfl⟩;rw[aQ];exact Ext.refl _
 intro ab I;cases b with
 |false=>rw[aQ];exact I _ _ ⟨rfl,rfl⟩
 |true=>
  rw[bO,aw,aa b4.p rfl,aa eC.p rfl,ac Ψ (h1.cell (o:=0+1+1) rfl),bi,ad];refine⟨λV=>?_,λV=>I _ _ ⟨rfl,rfl⟩⟩;rw[aw,aa b4.p rfl,aa eC.p rfl,ac Ψ (h1.cell (o:=0+1+0) rfl),bi];exact I _ _ ⟨rfl,by rw[decide_eq_false J.1]⟩
theorem cZ.scan {g:Nat} {A:ai} {B:ai} {s:aG} {l:List (List Int)} (h:cZ w g gs A B s clean) (J:af (λr=>r=gs) w w') (I:gx w' gs (cn g gs A B) l clean) (ad:l.length<=s.toks.length):cZ w' g gs A B {s with toks:=l} clean:=by
 obtain⟨h1,_,U,big,X,Y,told,sv,aa,ab,ac⟩:=h;refine⟨h1.V J,I,⟨U.1,U.2.1,by have:=U.2.2;show s.shared.length+l.length<=100000;omega⟩,big,X,Y,told,sv,aa.V J h1.1,ab,ak.V ac J λr _ h W=>?_⟩;have W:r=gs:=W;subst W;rcases h with h|h
 .exact h1.2.2.1 h
 .exact h.1 (.inr (.inl rfl))
theorem yB {g:Nat} {A:ai} {B:ai} {s:aG} (h:cZ w g gs A B s clean):aj x3 wI [Γ g] w λv w'=>fe w g gs A B clean ((dv s).map (·.2)) w'/\ ∃ (t:List Int) (n:Int),v= .tuple #[bw t,Δ n]/\Bytes t/\t.length<=100000/\ ∀q,dv s=σ q->t=q.1:=by
 refine aA func147 ?_;refine (nv h).mono ?_;rintro _ U _ ⟨rfl,ap⟩;rw[bg,Y1,aQ];have h1:=h.ext ap;obtain⟨_,aq,_,big,ax,ay,told,sv,ae,_⟩:=id h1;have az:=aq.words.2;rw[aw,aa b4.p rfl,ac Ψ (ae.cell (o:=0+0) rfl)];refine (oL aq).mono ?_;rintro v W _ ⟨X,ab⟩;have au:af (bq g gs A) w W:=(ap.V _).trans (X.mono λr _ h=>.inr (.inl h));cases J:s.toks with
 |cons t l=>
  rw[J] at ab;obtain⟨aB,n,rfl⟩:=ab;have aC:=h1.scan X aB (by rw[J];simp);have ag:dv s=σ (t,{s with toks:=l}):=by unfold dv;rw[J]
  have av:=az t (by rw[J];exact .head _);rw[aK (v:=bw t) rfl,aK (v:=Δ n) rfl,aK (v:=Δ 0) rfl];refine aP (λv ah=>W=ah/\v=Δ 0) ?_ ?_
  .rintro _ _ ⟨rfl,rfl⟩;refine dt (λY=>W=Y) ?_ ?_
   .rintro _ rfl;rw[ag];exact⟨⟨au,aC⟩,t,n,rfl,av.1,av.2.2,λq al=>by cases al;rfl⟩
   .intro am I;rw[bB,ad];exact⟨λh=>absurd rfl h,λ_=>I _ rfl⟩
  .intro am I;rw[bi,ad];exact⟨λh=>Ω,λ_=>I _ _ ⟨rfl,rfl⟩⟩
 |nil=>
  rw[J] at ab;obtain⟨n,rfl⟩:=ab;have ag:dv s=ν:=by unfold dv;rw[J]
  obtain⟨an,_,aD,big,ax,ay,told,sv,ae,aM,aE⟩:=id h1;have aF:=ae.V X an.1;have aH:=ak.V aE X λr _ h ao=>by
   have ao:r=gs:=ao;subst ao;rcases h with h|h
   .exact an.2.2.1 h
   .exact h.1 (.inr (.inl rfl))
  rw[aK (v:=bw []) rfl,aK (v:=Δ n) rfl,aK (v:=Δ (if clean then 2 else 11)) rfl];refine aP (λv ah=>W=ah/\ ∃e:Int,v=Δ e/\e≠0) ?_ ?_
  .rintro _ _ ⟨rfl,e,rfl,he⟩;refine dt (λY=>af (λr=>r=g) W Y/\eb Y g gs A B) ?_ ?_
   .rintro Y ⟨aI,aJ⟩;rw[ag];exact⟨⟨au.trans (aI.mono λr _ h=>.inl h),aJ⟩,[],n,rfl,λb aL=>(by cases aL),Ξ,λq al=>by cases al⟩
   .intro am I;rw[bB,ad];refine⟨λ_=>?_,λh=>absurd he h⟩;exact (qS (an.V X) aF aH he (by have:=aD.2.2;show s.shared.length<=_;omega)).mono λ_ w' _ h=>I _ h
  .intro am I;rw[bi,ad];cases clean with
   |true=>exact⟨λ_=>I _ _ ⟨rfl,4,rfl,Ω⟩,λh=>absurd rfl h⟩
   |false=>exact⟨λh=>by simp at h,λ_=>I _ _ ⟨rfl,11,rfl,Ω⟩⟩
theorem Gy {g:Nat} {A:ai} {B:ai} (h:eb w g gs A B):aj x3 wI [Γ g] w λv w'=>Ext w w'/\v= .tuple #[bw [],Δ 0]:=by
 refine aA func147 ?_;refine (md h).mono ?_;rintro _ U _ ⟨rfl,I⟩;rw[bg,X4,bO];exact⟨I,rfl⟩
theorem tp {g:Nat} {A:ai} {B:ai} {s:aG} (h:cZ w g gs A B s clean):aj x3 lI [Γ g,Δ lo,Δ hi] w λv w'=>fe w g gs A B clean ((ba lo hi s).map (·.2)) w'/\ ∃n at_:Int,v= .tuple #[Δ n,Δ at_]/\(∀q,ba lo hi s=σ q->n=q.1)/\(ba lo hi s=ν->n=0):=by
 refine aA func149 ?_;refine (yB h).mono ?_;rintro _ U _ ⟨⟨aa,J⟩,t,n,rfl,ah,ak,hw⟩;rw[aK (v:=bw t) rfl,aK (v:=Δ n) rfl];cases W:dv s with
 |none=>
  have I:ba lo hi s=ν:=by unfold ba;rw[W]
  rw[W] at J;have J:eb U g gs A B:=J;refine (md J).mono ?_;rintro _ al _ ⟨rfl,X⟩;rw[bg,X4,bO,I];exact⟨⟨aa.trans (X.V _),J.ext X⟩,0,n,rfl,λq h=>(by cases h),λ_=>rfl⟩
 |some q=>
  obtain⟨au,s1⟩:=q;have:=hw _ W;subst this;rw[W] at J;have J:cZ U g gs A B s1 clean:=J;refine (nv J).mono ?_;rintro _ al _ ⟨rfl,X⟩;rw[bg,Y1,aQ];refine (Gt ah ak).mono ?_;rintro _ ab _ ⟨rfl,ac⟩;have ae:=(J.ext X).ext ac;have ag:af (bq g gs A) w ab:=(aa.trans (X.V _)).trans (ac.V _);obtain⟨m,e,am,hm⟩:∃m e:Int,iW t= .tuple #[Δ m,Δ e]/\((fu t=σ m/\e=0)\/(fu t=ν/\e=4)):=by
   unfold iW;cases av:fu t with
   |none=>exact⟨0,4,rfl,.inr ⟨rfl,rfl⟩⟩
   |some m=>exact⟨m,0,rfl,.inl ⟨rfl,rfl⟩⟩
  rw[am,aK (v:=Δ m) rfl,aK (v:=Δ e) rfl];refine aP (λv an=>ab=an/\v= .bool (ba lo hi s).isNone) ?_ ?_
  .rintro _ _ ⟨rfl,rfl⟩;cases I:ba lo hi s with
   |none=>
    rw[Option.isNone_none,bO];refine (qT ae Ω).mono ?_;rintro _ aw _ ⟨ap,aq⟩;exact⟨⟨ag.trans (ap.mono λr _ h=>.inl h),aq⟩,0,n,rfl,λq h=>(by cases h),λ_=>rfl⟩
   |some q=>
    rw[j6,aQ];unfold ba at I;rw[W] at I;simp only at I;rcases hm with⟨hm,_⟩|⟨hm,_⟩
    .rw[hm] at I;simp only at I;split at I
     .cases I;exact⟨⟨ag,ae⟩,m,n,rfl,λq h=>(by cases h;rfl),λh=>(by cases h)⟩
     .cases I
    .rw[hm] at I;cases I
  .intro ax Y;have I:ba lo hi s=match fu t with
     |none=>ν
     |some n=>if lo<=n/\n<=hi then σ (n,s1) else ν:=by
    unfold ba;rw[W];simp only;cases fu t <;> rfl
   rw[bB,ad];rcases hm with⟨hm,rfl⟩|⟨hm,rfl⟩
   .rw[hm] at I;simp only at I;refine⟨λh=>absurd rfl h,λ_=>?_⟩;rw[ao,ad];refine⟨λh=>Y _ _ ⟨rfl,by rw[I,if_neg Ω];rfl⟩,λh=>?_⟩;rw[bP];refine Y _ _ ⟨rfl,?_⟩;rw[I];by_cases aH:hi<m
    .rw[decide_eq_true aH,if_neg Ω];rfl
    .rw[decide_eq_false aH,if_pos Ω];rfl
   .rw[hm] at I;exact⟨λ_=>Y _ _ ⟨rfl,by rw[I];rfl⟩,λh=>absurd (by omega:(4:Int)≠0) h⟩
theorem Gz {g:Nat} {A:ai} {B:ai} (h:eb w g gs A B):aj x3 lI [Γ g,Δ lo,Δ hi] w λv w'=>Ext w w'/\v= .tuple #[Δ 0,Δ 0]:=by
 refine aA func149 ?_;refine (Gy h).mono ?_;rintro _ U _ ⟨I,rfl⟩;rw[aK (v:=bw []) rfl,aK (v:=Δ 0) rfl];refine (md (h.ext I)).mono ?_;rintro _ V _ ⟨rfl,J⟩;rw[bg,X4,bO];exact⟨I.trans J,rfl⟩
theorem GA {x:Int} (h:aI .i64 w sv l):aj x3 EC [sv,Δ x] w λv w'=>Ext w w'/\ ∃r:Int,v=Δ r/\(0<=r↔x∈l):=by
 refine aA func277 ?_;rw[aS ax.u h];refine bC.range l.length (λi _ U=>Ext w U/\x∉l.take i) h.le ⟨Ext.refl _,Ξ⟩ ?_ ?_
 .rintro i _ U k hi ⟨I,J⟩ W;rw[ao,ad];refine⟨λ_=>?_,λh=>Ω⟩;obtain⟨y,V⟩:∃y,l[i]? =σ y:=⟨_,y0 hi⟩;rw[bc ax.u an.i Ψ (h.ext I) V,bi,ad];refine⟨λhe=>⟨I,i,rfl,⟨λ_=>he▸x6 V,λ_=>Ω⟩⟩,λhe=>?_⟩;rw[aN];refine W _ _ ⟨I,λhm=>?_⟩;rw[r9,V] at hm;rcases n9.1 hm with hm|hm
  .exact J hm
  .simp at hm;exact he hm
 .rintro _ U k ⟨I,J⟩;rw[o9] at J;rw[ao,ad];exact⟨λh=>Ω,λ_=>⟨I,-1,rfl,⟨λh=>Ω,λh=>absurd h J⟩⟩⟩
theorem GB {x:Int} (h:aI .i64 w sv l):aj x3 Ej [sv,Δ x] w λv w'=>v= .bool (decide (x∈l))/\Ext w w':=by
 refine aA func242 ?_;refine (GA h).mono ?_;rintro _ U _ ⟨I,r,rfl,J⟩;rw[cb];exact⟨by congr 1;rw[V8,decide_eq_true_eq,decide_eq_true_eq];exact J,I⟩
theorem qV:∀ {l:List Int},(∀z∈l,1<=z)-> ∀i,aL ((l.take i).map λk=>min k 4097)<=aL (l.map λk=>min k 4097)/\1<=aL ((l.take i).map λk=>min k 4097)
 |[],_,i=>by simp[aL]
 |z::l,h,0=>by
  have I:=qV (l:=l) (λx J=>h x (.tail _ J)) l.length;rw[o9] at I;have U:=h z (.head _);simp only[List.take_zero,List.map_nil,S2,aL];have:=Int.mul_le_mul_of_nonneg_left I.2 (show 0<=min z 4097 by omega);omega
 |z::l,h,i+1=>by
  have I:=qV (l:=l) (λx J=>h x (.tail _ J)) i;have U:=h z (.head _);simp only[List.take_succ_cons,S2,aL];have h1:=Int.mul_le_mul_of_nonneg_left I.1 (show 0<=min z 4097 by omega);have V:=Int.mul_le_mul_of_nonneg_left I.2 (show 0<=min z 4097 by omega);exact⟨h1,Ω⟩
theorem qW (l:List Int) (x:Int):aL (l++[x])=aL l*x:=by
 induction l with
 |nil=>simp[aL]
 |cons a l I=>rw[List.cons_append,aL,I,aL,Int.mul_assoc]
theorem yC (h:aI .i64 w sv l) (h1:∀z∈l,1<=z):aj x3 DW [sv] w λv w'=>v= .bool (c6 l)/\Ext w w':=by
 refine aA func200 ?_;rw[aS ax.u h];refine kX.range l.length (λi _ n U=>Ext w U/\n=Δ (aL ((l.take i).map λk=>min k 4097))/\aL ((l.take i).map λk=>min k 4097)<=4096) h.le ⟨Ext.refl _,by simp[aL],by simp[aL]⟩ ?_ ?_
 .rintro i _ _ U W hi ⟨I,rfl,J⟩ X;rw[ao,ad];refine⟨λ_=>?_,λh=>Ω⟩;obtain⟨z,V⟩:∃z,l[i]? =σ z:=⟨_,y0 hi⟩;have aa:=h1 z (x6 V);have ab:=qV h1 i;have ac:=qV h1 (i+1);have e:aL ((l.take (i+1)).map λk=>min k 4097)=aL ((l.take i).map λk=>min k 4097)*min z 4097:=by
   rw[r9,V,Z9,Z4,S2,List.map_nil,qW]
  rw[bc ax.u an.i Ψ (h.ext I) V,ik,fp,<-e];have ae:aL ((l.take (i+1)).map λk=>min k 4097)<=4096*4097:=by
   rw[e];have af:=Int.mul_le_mul_of_nonneg_right J (show 0<=min z 4097 by omega);have ag:=Int.mul_le_mul_of_nonneg_left (show min z 4097<=4097 by omega) (show (0:Int)<=4096 by omega);omega
  rw[wrap_i64 Ω Ω,bP,ad];refine⟨λY=>⟨?_,I⟩,λY=>?_⟩
  .unfold c6;rw[decide_eq_true];omega
  .rw[aN];exact X _ _ _ ⟨I,rfl,Ω⟩
 .rintro _ _ U W ⟨I,rfl,J⟩;rw[o9] at J;rw[ao,ad];refine⟨λh=>Ω,λ_=>⟨?_,I⟩⟩;unfold c6;rw[decide_eq_false];omega
def iY (n:Int) (acc:List Int) (s:aG):Option (Int×aG):=match ba 0 (n-1) s with
 |none=>ν
 |some (v,s)=>if v∈acc then ν else σ (v,s)
theorem nw {α:Type} {f:List α->aG->Option (α×aG)} {acc:List α} {s:aG} (h:f acc s=ν):cz f (n+1) acc s=ν:=by
 simp only[cz,h]
theorem qX {α:Type} {f:List α->aG->Option (α×aG)} {acc:List α} {s s':aG} {a:α} (h:f acc s=σ (a,s')):cz f (n+1) acc s=cz f n (acc++[a]) s':=by
 simp only[cz,h]
theorem cZ.oN {g:Nat} {A:ai} {B:ai} {s:aG} (h:cZ w g gs A B s clean):(∀r,bq g gs A r->r<w.heap.size)/\(∀r,B r->r<w.heap.size):=⟨h.1.2.2.2.1,h.1.2.2.2.2⟩
theorem GC {g k:Nat} {A B:ai} {s:aG} {m:Int} (h:cZ w g gs A B s clean) (bE:k<=4611686018427387904) (hm:0<=m/\m<=1000000):
  aj x3 wN [Γ g,Δ (k:Int),Δ m] w λv w'=>fe w g gs A B clean ((eE m k s).map (·.2)) w'/\
   ∃I l,aq .i64 an w' I v l/\(∀r,leads v r->w.heap.size<=r)/\l.length<=100001/\ ∀q,eE m k s=σ q->l=q.1:=by
 obtain⟨aL,a2⟩:=h.oN;have a6:=h.2.1.words.1;refine aA func199 ?_;refine⟨λout aB U=>∃i:Nat,aB=Δ (i:Int)/\i<=k/\af (bq g gs A) w U/\ ∃I l,aq .i64 an U I out l/\w.heap.size<=I/\l.length<=100001/\
  ((∃st,cZ U g gs A B st clean/\cz (iY m) (k-i) l st=eE m k s/\l.length+st.toks.length<=100000)\/(eb U g gs A B/\eE m k s=ν)),λ_ aB _=>k-(bL aB).toNat,
  ⟨0,rfl,Y9 _,af.refl _ _,w.heap.size,[],aq.nil _ _ _ _,o8 _,Ξ,.inl ⟨s,h,rfl,by simpa using a6⟩⟩,?_⟩
 rintro out _ U ⟨i,rfl,a7,aM,I,l,aO,bF,bG,aR⟩;have s1:=aM.size;have aC:∀r,leads out r->w.heap.size<=r:=λr ac=>by have:=bA aO ac;omega
 refine aP (λv aa=>Ext U aa/\((v= .bool true/\i<k/\ ∃st,cZ aa g gs A B st clean/\cz (iY m) (k-i) l st=eE m k s/\l.length+st.toks.length<=100000)\/
  (v= .bool false/\((∃st,cZ aa g gs A B st clean/\eE m k s=σ (l,st))\/(eb aa g gs A B/\eE m k s=ν))))) ?_ ?_
 rotate_left
 .intro bH ap;rw[ao,ad];refine⟨λbI=>?_,λbJ=>?_⟩
  .rcases aR with⟨st,ae,ab,aD⟩|⟨ah,aE⟩
   .refine (nv ae).mono ?_;rintro _ aa _ ⟨rfl,ag⟩;exact ap _ _ ⟨ag,.inl ⟨rfl,Ω,st,ae.ext ag,ab,aD⟩⟩
   .refine (md ah).mono ?_;rintro _ aa _ ⟨rfl,ag⟩;exact ap _ _ ⟨ag,.inr ⟨rfl,.inr ⟨ah.ext ag,aE⟩⟩⟩
  .have a8:k-i=0:=Ω
   rcases aR with⟨st,ae,ab,aD⟩|bc
   .rw[a8] at ab;exact ap _ _ ⟨Ext.refl _,.inr ⟨rfl,.inl ⟨st,ae,ab.symm⟩⟩⟩
   .exact ap _ _ ⟨Ext.refl _,.inr ⟨rfl,.inr bc⟩⟩
 rintro _ aa ⟨ag,bd⟩;have aF:af (bq g gs A) w aa:=aM.trans (ag.V _);have au:=aO.ext ag;rcases bd with⟨rfl,a7,st,ae,ab,aD⟩|⟨rfl,be⟩
 rotate_left
 .rw[aQ];rcases be with⟨st,ae,al⟩|⟨ah,al⟩
  .rw[al];exact⟨⟨aF,ae⟩,I,l,au,aC,Ω,λq W=>by cases W;rfl⟩
  .rw[al];exact⟨⟨aF,ah⟩,I,l,au,aC,Ω,λq W=>by cases W⟩
 rw[bO,cX,wrap_i64 Ω Ω];have bf:k-i=(k-(i+1))+1:=Ω
 rw[bf] at ab;refine (tp ae).mono ?_;rintro _ av _ ⟨⟨aw,ay⟩,n,at_,rfl,bg,bK⟩;rw[aK (v:=Δ n) rfl,aK (v:=Δ at_) rfl];have aS:∀r,leads out r->¬bq g gs A r:=λr ac bh=>by have:=aL r bh;have:=aC r ac;omega
 have bM:∀r,g=r->bq g gs A r:=λr h=>.inl h.symm;refine dt (λJ=>af (bq g gs A) aa J/\((∃Y,cZ J g gs A B Y clean/\cz (iY m) (k-(i+1)) (l++[n]) Y=eE m k s/\l.length+1+Y.toks.length<=100000)\/(eb J g gs A B/\eE m k s=ν))/\l.length+1<=100001) ?_ ?_
 .rintro J ⟨aT,bi,aV⟩;have bj:=bb au aT aS;have aW:=aF.trans aT;have bN:=aW.size;refine dJ ax.u an.i rfl λa aU aX bP ak bk=>?_;refine hy ax.u an.i rfl (bj.ext ak) bk.ls Θ Θ λbl bm bn bQ bo aH=>?_;have bR:=ak.size;rw[aN,wrap_i64 Ω Ω];have bp:af (bq g gs A) w bn:=gb (aW.trans (ak.V _)) aH λr ac he=>by have he:r=I:=he;omega
  have aY:∀r,bq g gs A r->¬(λr=>r=I) r:=λr ac he=>by have:=aL r ac;have he:r=I:=he;omega
  have aZ:∀r,cn g gs A B r->¬(λr=>r=I) r:=λr ac he=>by have:=a2 r ac.2;have he:r=I:=he;omega
  refine⟨⟨i+1,rfl,Ω,bp,bm,l++[n],bo,Ω,Θ,?_⟩,by simp only[bL];omega⟩;rcases bi with⟨Y,az,br,bS⟩|⟨bt,aE⟩
  .exact .inl ⟨Y,(az.ext ak).V aH aY aZ,br,Θ⟩
  .exact .inr ⟨(bt.ext ak).V aH aY aZ,aE⟩
 .intro bT aI;cases W:ba 0 (m-1) st with
  |none=>
   rw[W] at ay;have ah:eb av g gs A B:=ay;have am:iY m l st=ν:=by unfold iY;rw[W]
   have al:eE m k s=ν:=by rw[<-ab];exact nw am
   refine aP (λv J=>Ext av J/\v= .bool false) ?_ ?_
   rotate_left
   .intro bu aJ;refine (md ah).mono ?_;rintro _ J _ ⟨rfl,X⟩;rw[aQ];exact aJ _ _ ⟨X,rfl⟩
   rintro _ J ⟨X,rfl⟩;rw[aQ];exact aI _ ⟨aw.trans (X.V _),.inr ⟨ah.ext X,al⟩,Ω⟩
  |some q=>
   obtain⟨bl,Y⟩:=q;have bw:=bg _ W;subst bw;rw[W] at ay;have a1:cZ av g gs A B Y clean:=ay;have bx:=dh W;have aV:l.length+1+Y.toks.length<=100000:=by have:=bx.1;omega
   refine aP (λv J=>Ext av J/\v= .bool (decide (n∈l))) ?_ ?_
   rotate_left
   .intro bu aJ;refine (nv a1).mono ?_;rintro _ J _ ⟨rfl,X⟩;rw[bO];refine (GB ((bb au aw aS).ext X).ls).mono ?_;rintro _ aX _ ⟨rfl,ak⟩;exact aJ _ _ ⟨X.trans ak,rfl⟩
   rintro _ J ⟨X,rfl⟩;have az:=a1.ext X;rw[ad];refine⟨λbz=>?_,λbB=>?_⟩
   .have am:iY m l st=ν:=by unfold iY;rw[W];simp only;rw[if_pos bz]
    refine (qT az Ω).mono ?_;rintro _ aX _ ⟨bC,bD⟩;exact aI _ ⟨(aw.trans (X.V _)).trans (bC.mono λr _ h=>.inl h),.inr ⟨bD,by rw[<-ab];exact nw am⟩,Ω⟩
   .have am:iY m l st=σ (n,Y):=by unfold iY;rw[W];simp only;rw[if_neg bB]
    exact aI _ ⟨aw.trans (X.V _),.inl ⟨Y,az,by rw[<-ab];exact (qX am).symm,aV⟩,Ω⟩
def iZ (k:Int):Option Int->Int
 |none=>0
 |some x=>if x % 5=0 then k else (x / 5) % (k+1)
def hE (s:List Int) (k:Int) (l:List Int):List Int:=(X9 (aL s).toNat).map λi=>iZ k l[i]?
theorem qY (s:List Int) (k:Int) (l:List Int):(hE s k l).length=(aL s).toNat:=by simp[hE]
theorem yD (I:0<=k) (o:Option Int):0<=iZ k o/\iZ k o<=k:=by
 cases o with
 |none=>simp[iZ];exact I
 |some x=>
  simp only[iZ];split
  .omega
  .have h1:=Int.emod_nonneg (x / 5) (show k+1≠0 by omega);have J:=Int.emod_lt_of_pos (x / 5) (show 0<k+1 by omega);omega
theorem yE {aE:x1} {s:List Int} (h:aI .i64 w sv s) (I:bR s) (am:aI .u16 w aE l) (aX:∀x∈l,0<=x/\x<65536) (bh:0<=k/\k<=4294967296):
  aj x3 sz [sv,Δ k,aE] w λv w'=>Ext w w'/\ ∃g aJ,v= .agg #[sv,Δ k,aJ]/\w.heap.size<=g/\aq .i64 an w' g aJ (hE s k l):=by
 have aF:=h.cells;have bk:=prod_bound I;refine aA func88 ?_;refine bt dA.i λaY U bl aG ag=>?_;rw[cR (cs:=#[sv,Δ k,.slice ν 0 0]) (by
  obtain⟨_,_,_,_,_,rfl,_⟩:=h;kernel_rfl)]
 refine bt dA.i λaZ bm bo ap aH=>?_;have s1:=aG.size;have bp:=ap.size;have bq:=ag.lt;have br:=aH.lt;refine bJ (vs:=[sv,Δ k,.slice ν 0 0]) dA.i rfl rfl (by intro u hu;simp at hu;rcases hu with rfl|rfl|rfl;exact aF.2;rfl;rfl) aH λah aK bu aM=>?_;have aO:Ext w ah:=(aG.trans ap).then aK (by rintro r au rfl;omega);have aQ:=(ag.ext ap).V aK Ω;have bw:=aQ.lt;have bx:=aM.lt;have bz:=aO.size;refine bZ.range (aL s).toNat (λi W=>Ext w W/\ah.heap.size<=W.heap.size/\ ∃aJ X,ah.heap.size<=X/\ae W aZ dA [sv,Δ k,aJ]/\
  aq .i64 an W X aJ ((X9 i).map λi=>iZ k l[i]?)/\ae W aY dA [.slice ν 0 0,Δ 0,.slice ν 0 0]) Ω
  ⟨aO,o8 _,_,ah.heap.size,o8 _,aM,aq.nil _ _ _ _,aQ⟩ ?_ ?_
 .rintro i W a1 hi ⟨Y,a2,aJ,X,a6,av,ai,aw⟩ a7;refine (sV (h.ext Y) I).mono ?_;rintro _ aR _ ⟨rfl,J⟩;simp only[ao,ad];refine⟨λ_=>?_,λh=>Ω⟩;have ak:=Y.trans J;have bA:=J.size;refine aP (λc ay=>aR=ay/\c=Δ (iZ k l[i]?)) ?_ ?_
  .rintro _ _ ⟨rfl,rfl⟩;have aT:=av.ext J;rw[aa dA.p rfl,ac Ψ (aT.cell (o:=0+2) rfl)];refine dJ ax.u an.i rfl λa aU ay bB ab a8=>?_;have bC:=ab.size;refine hy ax.u an.i rfl ((ai.ext J).ext ab) a8.ls Θ Θ λba bb bD bE az al=>?_;have bd:=(aT.ext ab).V al Ω;have bF:=al.size;rw[aa dA.p rfl];refine bj ax.i az.ls.cells.1 az.ls.cells.2 bd Ξ λbG aB bH be=>?_;simp only[aN];refine a7 _ ⟨((ak.trans ab).then al (by rintro r au rfl;omega)).then aB (by rintro r au rfl;omega),Ω,ba,bb,Ω,be,?_,(((aw.ext J).ext ab).V al Ω).V aB Ω⟩;rw[List.range_succ,Z4];exact az.V aB Ω
  .intro bI aC;rw[aS k2.u (am.ext ak)];simp only[ao,ad];refine⟨λbK=>?_,λbL=>aC _ _ ⟨rfl,by rw[Y4 Ω];rfl⟩⟩;obtain⟨x,af⟩:∃x,l[i]? =σ x:=⟨_,y0 Ω⟩;have aV:=aX x (x6 af);rw[bc k2.u k4.i Ψ (am.ext ak) af,oq Φ,eZ k4.u an.u];have bf:x.tdiv 5=x / 5:=Int.tdiv_eq_ediv_of_nonneg aV.1;rw[bf,wrap_u16 Ω Ω,wrap_i64 Ω Ω];simp only[aN];rw[wrap_i64 (x:=k+1) Ω Ω,kh Ω,Int.tmod_eq_emod_of_nonneg Ω,
    bc k2.u k4.i Ψ (am.ext ak) af,kh Φ,Int.tmod_eq_emod_of_nonneg aV.1]
   simp only[bi,ad];exact⟨λaD=>aC _ _ ⟨rfl,by rw[af];simp[iZ,aD]⟩,λaD=>aC _ _ ⟨rfl,by rw[af];simp[iZ,aD]⟩⟩
 .rintro W a1 ⟨Y,a2,aJ,X,a6,av,ai,aw⟩;refine (sV (h.ext Y) I).mono ?_;rintro _ aR _ ⟨rfl,J⟩;simp only[ao,ad];refine⟨λh=>Ω,λ_=>?_⟩;have bg:=ai.ls.cells;rw[bn dA.p dA.i rfl (av.ext J).range];refine bJ (vs:=[sv,Δ k,aJ]) dA.i rfl rfl (by intro u hu;simp at hu;rcases hu with rfl|rfl|rfl;exact aF.2;rfl;exact bg.2) (aw.ext J) λay aW bM ag=>?_;rw[eJ dA.p dA.i rfl ag.range];exact⟨(Y.trans J).then aW (by rintro r au rfl;omega),X,aJ,rfl,Ω,(ai.ext J).V aW Ω⟩
theorem GD {s t:List Int} (I:dS s):nj (bu s) t=match cq s t 0 with
  |some n=>n
  |none=>-1:=by
 unfold nj;cases J:(bu s).findIdx? (λx=>decide (x=t)) with
 |none=>
  cases hi:cq s t 0 with
  |none=>rfl
  |some n=>
   have:=oG I hi;rw[List.findIdx?_eq_none_iff] at J;have:=J t (x6 this);simp at this
 |some i=>
  rw[List.findIdx?_eq_some_iff_getElem] at J;obtain⟨hi,h1,_⟩:=J;have h1:(bu s)[i]=t:=by simpa using h1
  have:=oF I (i:=i) (t:=t) (by rw[y0 hi,h1]);rw[this]
theorem GF {a b:Int} (I:0<=a/\a<=4294967296) (J:0<=b/\b<=4294967296):aj x3 C8 [Δ a,Δ b,Δ k] w λv w'=>v=Δ (min (a+b) k)/\Ext w w':=by
 refine aA func81 ?_;simp only[aN,bP,ad];rw[wrap_i64 Ω Ω];exact⟨λh=>⟨by rw[Int.min_eq_right Ω],Ext.refl _⟩,λh=>⟨by rw[Int.min_eq_left Ω],Ext.refl _⟩⟩
def oO (a b k:Int):x1:=if cL a k/\cL b k then .tuple #[Δ (min (a+b) k),Δ 0] else .tuple #[Δ 0,Δ 3]
theorem yF {a b:Int}:aj x3 sy [Δ a,Δ b,Δ k] w λv w'=>v=oO a b k/\Ext w w':=by
 refine aA func80 ?_;refine aP (λv U=>Ext w U/\v= .bool (decide (¬(cL a k/\cL b k)))) ?_ ?_
 .rintro _ U ⟨I,rfl⟩;simp only[ad,aN,ik];refine⟨λh=>⟨by unfold oO;rw[if_neg h],I⟩,λh=>?_⟩;have h:=X2.1 h;obtain⟨⟨h1,Y⟩,aa,ab⟩:=id h;have:=h1.2;rw[wrap_i64 Ω Ω];exact⟨by unfold oO;rw[if_pos h],I⟩
 .intro ac J;refine kq.mono ?_;rintro _ ae _ ⟨rfl,V⟩;simp only[bg,bH];refine⟨λh=>J _ _ ⟨V,?_⟩,λh=>?_⟩
  .have:¬cL a k:=by simpa using h
   rw[decide_eq_true];exact λh=>this h.1
  .have W:cL a k:=by simpa using h
   refine kq.mono ?_;rintro _ af _ ⟨rfl,X⟩;simp only[bg];exact J _ _ ⟨V.trans X,by simp[W]⟩
theorem GG (h:aI .i64 w sv l) (W:l≠[]):
  aj x3 EJ [sv] w λv w'=>v=Δ (tg l)/\Ext w w':=by
 obtain⟨x,l,rfl⟩:∃x r,l=x::r:=by cases l with
  |nil=>exact absurd rfl W
  |cons x r=>exact⟨x,r,rfl⟩
 have X:=h.le;refine aA func295 ?_;refine dt (λU=>w=U) ?_ ?_
 .rintro _ rfl;rw[dZ (y:=0) (i:=0) rfl ax.u an.i Ψ h (by rfl)];refine⟨λm i J=>Ext w J/\ ∃k:Nat,i=Δ (k+1:Nat)/\k<=l.length/\m=Δ ((l.take k).foldl min x),λ_ i _=>l.length+1-(bL i).toNat,⟨Ext.refl _,0,rfl,Y9 _,rfl⟩,?_⟩;rintro _ _ J ⟨I,k,rfl,aa,rfl⟩;rw[aS ax.u (h.ext I)];simp only[j5,ao,ad] at X ⊢;refine⟨λab=>?_,λac=>⟨?_,I⟩⟩
  .obtain⟨y,V⟩:∃y,l[k]? =σ y:=⟨_,y0 Ω⟩;rw[bc ax.u an.i Ψ (h.ext I) (show (x::l)[k+1]? =σ y from V),ik];simp only[aN];rw[wrap_i64 Ω Ω];refine⟨⟨I,k+1,by congr 1,Ω,?_⟩,?_⟩
   .rw[r9,V,List.foldl_append];rfl
   .simp only[bL];omega
  .have:k=l.length:=Ω
   subst this;rw[o9];rfl
 .intro ae Y;rw[aS ax.u h];simp only[ao,ad];exact⟨λh=>by simp at h;omega,λ_=>Y _ rfl⟩
theorem tq {g:Nat} {cs:List Int} (h:cM w g I sv szs k cs):aj x3 sF [Γ g] w λv w'=>v=Δ k/\Ext w w':=by
 obtain⟨⟨aJ,gs,J,hm,U⟩,_⟩:=h;refine aA func139 ?_;rw[cA eg.u];simp only[j6,aQ];rw[aw,aa cQ.p rfl,ac Ψ (J.cell (o:=0+1) rfl)];exact⟨rfl,Ext.refl _⟩
theorem lg {g U:Nat} {cs:List Int} (h:cM w g U sv szs k cs):
  aj x3 DA [Γ g] w λv w'=>Ext w w'/\ ∃J,w.heap.size<=J/\aq .i64 an w' J v cs:=by
 obtain⟨⟨aJ,gs,V,hm,W⟩,⟨_,_,X⟩,I,Y⟩:=h;refine aA func164 ?_;rw[cA eg.u];simp only[j6,aQ];rw[aw,aa cQ.p rfl,ac Ψ (V.cell (o:=0+2) rfl)];exact sW W.ls Ω
theorem me {g V:Nat} {cs:List Int} (h:cM w g V sv szs k cs):
  aj x3 Ds [Γ g] w λv w'=>v= .agg #[sv]/\Ext w w':=by
 obtain⟨⟨aJ,gs,W,hm,ad⟩,_⟩:=h;have X:=hm.ls.cells;refine aA func140 ?_;refine bt bo.i λae U af J Y=>?_;rw[cA eg.u];simp only[j6,aQ];rw[aw,aa cQ.p rfl,bn (cs:=[sv]) bo.p bo.i rfl (l1 (W.ext J) (by
  intro j v I
  match j,I with
  |0,I=>exact I))]
 refine bJ (vs:=[sv]) bo.i rfl rfl (by intro u hu;simp at hu;subst hu;exact X.2) Y λag ab ah ac=>?_;rw[eJ bo.p bo.i rfl ac.range];exact⟨rfl,J.then ab (by rintro r ai rfl;omega)⟩
theorem tr (h:aI .i64 w sv szs) (X:szs.length<=1000):aj x3 wF [.agg #[sv]] w λv w'=>Ext w w'/\ ∃I,w.heap.size<=I/\aq .i64 ab w' I v szs:=by
 refine aA func141 ?_;refine bM λg U Y J V=>?_;rw[aa bo.p rfl,ac Ψ (V.cell (o:=0+0) rfl)];refine (hA (h.ext J) Ω).mono ?_;rintro v ad _ ⟨W,I,ae,hm⟩;have s1:=J.size;exact⟨J.trans W,I,Ω,hm⟩
theorem yG (h:aI .i64 w sv szs):aj x3 EG [.agg #[sv]] w λv w'=>v=Δ szs.length/\Ext w w':=by
 refine aA func284 ?_;refine bM λg U V I J=>?_;rw[aa bo.p rfl,ac Ψ (J.cell (o:=0+0) rfl),aS ah.u (h.ext I)];exact⟨rfl,I⟩
def gP (szs:List Int) (i:Int):Int:=if 0<=i then szs.getD i.toNat 0 else 0
theorem oP {i:Int} (h:aI .i64 w sv szs):aj x3 EH [.agg #[sv],Δ i] w λv w'=>v=Δ (gP szs i)/\Ext w w':=by
 refine aA func285 ?_;refine bM λg U ae I J=>?_;refine aP (λv X=>v= .bool (decide (i<0\/(szs.length:Int)<=i))/\U=X) ?_ ?_
 .rintro _ _ ⟨rfl,rfl⟩;simp only[ad];refine⟨λh=>⟨?_,I⟩,λY=>?_⟩
  .unfold gP;split
   .rw[u4,Y4 Ω];rfl
   .rfl
  .rw[aa bo.p rfl,ac Ψ (J.cell (o:=0+0) rfl)];obtain⟨n,rfl⟩:∃n:Nat,i=n:=⟨i.toNat,Ω⟩;have V:n<szs.length:=Ω
   rw[bc ah.u ab.i Ψ (h.ext I) (y0 V)];refine⟨?_,I⟩;unfold gP;rw[if_pos Ω,u4,j9,y0 V];rfl
 .intro af W;simp only[ao,ad];refine⟨λh=>W _ _ ⟨by rw[decide_eq_true];omega,rfl⟩,λY=>?_⟩;rw[aa bo.p rfl,ac Ψ (J.cell (o:=0+0) rfl),aS ah.u (h.ext I)];simp only[cb];exact W _ _ ⟨by congr 1;simp;omega,rfl⟩
theorem ts {g B0:Nat} (I:bR szs):
  lC x3 ke [Γ g] (aL szs).toNat (λk vs w=>∃aD V,vs=[Δ (k:Int),aD]/\B0<=V/\aq .i64 ab w V aD (cH szs k))
   (λw=>ae w g bo [sv]/\aI .i64 w sv szs/\B0<=w.heap.size):=by
 refine⟨ke.enters,λl aj aE w af _ ak ⟨ag,ah,al⟩ am=>?_⟩;have aF:=prod_bound I;refine om func187 ?_;rw[bn bo.p bo.i rfl ag.range];refine (m9 ah I).free.mono ?_;rintro _ U ⟨an,rfl,W⟩;refine bZ.range (aL szs).toNat (λi J=>aj i J/\ae J g bo [sv]/\aI .i64 J sv szs/\B0<=J.heap.size) Ω ⟨af 0 _ _ W an.b am,ag.ext W,ah.ext W,X0 al W.size⟩ ?_ ?_
 .rintro i J k hi ⟨Y,aa,ac,ai⟩ ap;simp only[ao,ad];refine⟨λ_=>?_,λh=>Ω⟩;rw[bn bo.p bo.i rfl aa.range];refine (Fh ac I Ω Ω).free.mono ?_;rintro _ au ⟨av,X,aD,V,rfl,aw,ax⟩;rw[aK (v:=aD) rfl,aK (v:=Δ 0) rfl];refine⟨rfl,(ak i _ au hi ⟨aa.ext X,ac.ext X,X0 ai X.size⟩ ⟨aD,V,rfl,X0 ai aw,ax⟩ (af _ _ _ X av.b Y)).mono ?_⟩;rintro _ aG (⟨rfl,⟨ay,az,aA⟩,aB⟩|⟨rfl,aC⟩)
  .simp only[bg,Y1,aQ,aN];exact ap _ ⟨aB.1,ay,az,aA⟩
  .simp only[bg,X4,bO];exact .inr ⟨i,hi,aC⟩
 .rintro J k ⟨Y,aa,ac,_⟩;simp only[ao,ad];exact⟨λh=>Ω,λ_=>.inl Y⟩
theorem tt:aj x3 Dg [.agg #[sv]] w λr w'=>Ext w w'/\ ∃g,r= .func (.func ke) #[] #[Γ g]/\w.heap.size<=g/\ae w' g bo [sv]:=by
 refine aA func121 ?_;refine bM λg U V I J=>?_;rw[kj];exact⟨I,g,rfl,Ω,J⟩
end Go.Proofs.YtgbkinibgjmodaaGreatDoor
namespace Go.Vc
open Go Go.RowKit
set_option maxRecDepth 100000
section
variable {P:W5} {w:x2}
theorem az.ds {α:Type} {s:Sem α} {K:α->x2->Prop} (h:az P s w λv w'=>cI w w'->K v w'):az P s w K:=by
 obtain⟨v,w',h1,I,J⟩:=h;exact⟨v,w',h1,I,J I⟩
structure Keys (P:W5) (k:u9) (G:x1->Prop):Prop where
 check:∀ (w:x2) (em:Bool) {v:x1},G v->(Instr.checkKey em 10000 k v).run P w= .ok () w
 find:∀ (w:x2) {x:x1},G x-> ∀es:List MapEntry,(∀e∈es,G e.key)->
  ((Instr.findKey k x es).run P w= .ok ν w/\ ∀e∈es,e.key≠x)\/ ∃j e,(Instr.findKey k x es).run P w= .ok (σ (j,e.val)) w/\es[j]? =σ e/\e.key=x
 stays:∀ (w:x2) {v:x1},G v->(Instr.keyThatStays v v).run P w= .ok v w
theorem Keys.law {k:u9} (K:WideMaps.KeyLaw P k):Keys P k λv=>∃l,keyOf P k v=σ l:=
 ⟨λw I _ ⟨_,h⟩=>K.check w I h,λw _ ⟨_,h⟩ J U=>K.find w h J U,λw _ ⟨_,h⟩=>K.stays w h⟩
theorem Keys.int {k:u9} {I:o5} (J:P.underlying k=σ (.int I)):Keys P k λv=>∃n,v= .int I n:=by
 have key:∀n,MapKept.IsKey (.int I) (.int I n):=λn=>rfl;refine⟨λw V v ⟨n,h⟩=>?_,λw x ⟨n,h⟩ W X=>?_,λw v ⟨n,h⟩=>?_⟩
 .subst h;exact MapKept.run_checkKey J (key n) V 9999
 .subst h;rcases MapKept.findNow_spec (key n) W 0 (λe he=>by obtain⟨m,h⟩:=X e he;rw[h];exact key m) with⟨h1,U⟩|⟨j,e,h1,U,Y⟩
  .exact .inl ⟨MapKept.run_findKey J h1,U⟩
  .exact .inr ⟨j,e,by have:=MapKept.run_findKey (P:=P) (w:=w) J h1;simpa using this,U,Y⟩
 .subst h;exact MapKept.run_keyThatStays (d:=.int I) (key n)
def fL (e:MapEntry):x1×x1:=(e.key,e.val)
def cN (w:x2) (m:Nat) (d:List (x1×x1)):Prop:=∃I J,w.heap[m]? =σ (.map I J)/\MapKept.Stamped I J/\I.toList.map fL=d
theorem cN.ext {d:List (x1×x1)} (h:cN w m d) (I:Ext w w'):cN w' m d:=by
 obtain⟨J,c,h1,U⟩:=h;exact⟨J,c,I.a7 m _ h1 rfl,U⟩
theorem cN.V {d:List (x1×x1)} (h:cN w m d) (I:af S w w') (J:¬S m):cN w' m d:=by
 obtain⟨U,c,h1,W⟩:=h;exact⟨U,c,I.a7 m _ h1 rfl J,W⟩
theorem cN.lt {d:List (x1×x1)} (h:cN w m d):m<w.heap.size:=by
 obtain⟨I,c,h1,J⟩:=h;exact (j4.1 h1).1
theorem cN.nodup {d:List (x1×x1)} (h:cN w m d):(d.map (·.1)).Nodup:=by
 obtain⟨J,c,_,⟨_,_,I⟩,rfl⟩:=h;rw[List.map_map];exact I
theorem i7 {α:Type} {l:List α} (h:l.Nodup) {i:Nat} {x:α} (hi:l[i]? =σ x) (W:l[j]? =σ x):i=j:=by
 have I:=x4.1 hi;have J:=x4.1 W;have V:=V0.1 h;rcases Nat.lt_trichotomy i j with U|rfl|U
 .exact absurd (I.2.trans J.2.symm) (V i j I.1 J.1 U)
 .rfl
 .exact absurd (J.2.trans I.2.symm) (V j i J.1 I.1 U)
theorem lh {α β:Type} (f:α->β):∀ (l:List α) (i:Nat),(l.map f).eraseIdx i=(l.eraseIdx i).map f
 |[],_=>Ξ
 |_::_,0=>rfl
 |x::l,i+1=>by simp[lh f l i]
theorem cN.uniq {d:List (x1×x1)} (h:cN w m d) {i:Nat} {p q:x1×x1} (hi:d[i]? =σ p) (I:d[j]? =σ q) (he:p.1=q.1):i=j:=by
 have J:=h.nodup;have h1:(d.map (·.1))[i]? =σ p.1:=by rw[x8,hi];rfl
 have U:(d.map (·.1))[j]? =σ p.1:=by rw[x8,I,he];rfl
 exact i7 J h1 U
theorem qZ {aa:Array MapEntry} {c:Nat} (W:w.heap[m]? =σ (.map aa c)) (J:Array MapEntry) (U:Nat):
  af (λr=>r=m) w {w with heap:=w.heap.setIfInBounds m (.map J U)}/\cI w {w with heap:=w.heap.setIfInBounds m (.map J U)}/\({w with heap:=w.heap.setIfInBounds m (.map J U)}:x2).heap[m]? =σ (.map J U):=by
 have I:=MapKept.heap_set (o':=.map J U) W;refine⟨⟨Ξ,λr o V X ab=>?_⟩,⟨rfl,.jm,rfl,Ξ,λr o V X=>?_⟩,I.1⟩
 .show (w.heap.setIfInBounds m _)[r]? =σ o;rw[I.2 r ab];exact V
 .show (w.heap.setIfInBounds m _)[r]? =σ o;by_cases Y:r=m
  .subst Y;rw[W] at V;cases V;cases X
  .rw[I.2 r Y];exact V
theorem q0 {K:x1->x2->Prop} (h:∀m w',m=w.heap.size->Ext w w'->cN w' m []->K (.map (σ m)) w'):az P (Instr.makeMap t ν) w K:=by
 refine .of (run_makeMap t w) (mQ w _) (h _ _ rfl (mP w _) ⟨#[],0,?_,MapKept.stamped_empty 0,rfl⟩);exact heap_alloc_new w _
variable {k e:u9} {G:x1->Prop}
theorem oQ {c:Bool} {d:List (x1×x1)} {x:x1} (ab:P.underlying t=σ (.map k e)) (W:Keys P k G) (hm:cN w m d) (ac:∀p∈d,G p.1) (X:G x) (I:d[j]? =σ (x,v)):
  J P (Instr.lookup t (.map (σ m)) x c) w K=K (if c then .tuple #[v,.bool true] else v):=J.of λw' ad=>by
 obtain⟨U,ae,Y,af,rfl⟩:=hm.ext ad;have ag:∀e∈U.toList,G e.key:=λe he=>ac (fL e) (Z5.2 ⟨e,he,rfl⟩);rcases W.find w' X U.toList ag with⟨_,V⟩|⟨i,aa,h1,V,ah⟩
 .rw[x8] at I;obtain⟨ai,aj,ak⟩:=Y8.1 I;exact absurd (congrArg Prod.fst ak) (V ai (x6 aj))
 .have al:aa.val=v:=by
   have hi:(U.toList.map fL)[i]? =σ (fL aa):=by rw[x8,V];rfl
   have am:cN w' m (U.toList.map fL):=⟨U,ae,Y,af,rfl⟩;have:=am.uniq hi I ah;subst this;rw[hi] at I;exact congrArg Prod.snd (Z6 I)
  simp only[Instr.lookup,X8,run_underlying ab,W0,MapKept.run_getObj_map Y,W9,W.check w' _ X,h1,al]
theorem q1 {c:Bool} {d:List (x1×x1)} {x:x1} (aa:P.underlying t=σ (.map k e)) (U:Keys P k G) (I:∃s b,aM P e s b z) (hm:cN w m d) (ab:∀p∈d,G p.1) (V:G x) (ac:∀p∈d,p.1≠x):
  J P (Instr.lookup t (.map (σ m)) x c) w K=K (if c then .tuple #[z,.bool false] else z):=J.of λw' ad=>by
 obtain⟨W,ai,ae,aj,rfl⟩:=hm.ext ad;have af:∀e∈W.toList,G e.key:=λe he=>ab (fL e) (Z5.2 ⟨e,he,rfl⟩);have ag:(zeroValue e).run P w'= .ok z w':=by
  obtain⟨s,b,i,hi,_,_,I⟩:=I;simp[zeroValue,typeInfo,hi,I]
 rcases U.find w' V W.toList af with⟨h1,X⟩|⟨i,Y,h1,X,ah⟩
 .simp only[Instr.lookup,X8,run_underlying aa,W0,MapKept.run_getObj_map ae,W9,U.check w' _ V,h1,ag]
 .exact absurd ah (ac (fL Y) (Z5.2 ⟨Y,x6 X,rfl⟩))
theorem GH {I:Array MapEntry} {J:MapEntry} {f:MapEntry->MapEntry} (h:I[j]? =σ J):(I.modify j f).toList.map fL=(I.toList.map fL).set j (fL (f J)):=by
 refine X6 λi=>?_;simp only[x8,S3,Array.getElem?_modify,X5,u5,Array.length_toList];by_cases U:j=i
 .subst U;have:=(j4.1 h);simp[this.1,this.2]
 .simp[U]
theorem oR {d:List (x1×x1)} {x:x1} {K:Unit->x2->Prop} (ad:P.underlying t=σ (.map k e)) (U:Keys P k G) (hm:cN w m d) (aj:∀p∈d,G p.1) (V:G x)
  (h1:∀j v0 w',d[j]? =σ (x,v0)->cN w' m (d.set j (x,v))->af (λr=>r=m) w w'->K () w')
  (ak:∀w',(∀p∈d,p.1≠x)->cN w' m (d++[(x,v)])->af (λr=>r=m) w w'->K () w'):az P (Instr.mapUpdate t (.map (σ m)) x v) w K:=by
 obtain⟨J,W,I,ae,rfl⟩:=hm;have al:∀e∈J.toList,G e.key:=λe he=>aj (fL e) (Z5.2 ⟨e,he,rfl⟩);rcases U.find w V J.toList al with⟨X,ag⟩|⟨i,ah,X,hi,he⟩
 .obtain⟨Y,aa,ab⟩:=qZ I (J.push {key:=x,val:=v,born:=W}) (W+1);refine .of (v:=()) (w':=_) ?_ aa (ak _ (λp am=>?_) ⟨_,_,ab,MapKept.stamped_push ae ag,by simp[fL]⟩ Y)
  .simp only[Instr.mapUpdate,X8,run_underlying ad,W0,MapKept.run_getObj_map I,U.check w _ V,X,MapKept.run_setObj_map _ I]
  .obtain⟨an,ao,rfl⟩:=Z5.1 am;exact ag an ao
 .have ac:J[i]? =σ ah:=by simpa using hi
  obtain⟨Y,aa,ab⟩:=qZ I (J.modify i λe=>{e with key:=x,val:=v}) W;refine .of (v:=()) (w':=_) ?_ aa (h1 i ah.val _ (by rw[x8,hi];simp[fL,he]) ⟨_,_,ab,MapKept.stamped_modify ae _ _ (λ_ _=>rfl) (λap _ ai=>by rw[ac] at ai;cases ai;exact he.symm),GH ac⟩ Y);simp only[Instr.mapUpdate,X8,run_underlying ad,W0,MapKept.run_getObj_map I,U.check w _ V,X,ac,Y0,S1,he,U.stays w V,MapKept.run_setObj_map _ I]
theorem GI {ae ag:u9} {d:List (x1×x1)} {x:x1} {K:x1->x2->Prop} (ab:P.underlying t=σ (.map k e)) (U:Keys P k G) (hm:cN w m d) (ah:∀p∈d,G p.1) (V:G x)
  (h1:∀j v0 w',d[j]? =σ (x,v0)->cN w' m (d.eraseIdx j)->af (λr=>r=m) w w'->K (.tuple #[]) w')
  (ai:∀w',(∀p∈d,p.1≠x)->cN w' m d->af (λr=>r=m) w w'->K (.tuple #[]) w'):az P (l5.delete_ #[t,ae] ag #[.map (σ m),x]) w K:=by
 obtain⟨J,ac,I,ad,rfl⟩:=hm;have aj:∀e∈J.toList,G e.key:=λe he=>ah (fL e) (Z5.2 ⟨e,he,rfl⟩);rcases U.find w V J.toList aj with⟨W,ak⟩|⟨i,al,W,hi,he⟩
 .obtain⟨X,Y,aa⟩:=qZ I J ac;refine .of (v:=.tuple #[]) (w':=_) ?_ Y (ai _ (λp am=>?_) ⟨_,_,aa,ad,rfl⟩ X)
  .simp only[l5.delete_,List.getElem?_toArray,List.getElem?_cons_zero,List.getElem?_cons_succ,X8,run_underlying ab,W0,MapKept.run_getObj_map I,U.check w _ V,W,MapKept.run_setObj_map _ I,W9]
  .obtain⟨an,ao,rfl⟩:=Z5.1 am;exact ak an ao
 .obtain⟨X,Y,aa⟩:=qZ I (J.eraseIdxIfInBounds i) ac;refine .of (v:=.tuple #[]) (w':=_) ?_ Y (h1 i al.val _ (by rw[x8,hi];simp[fL,he]) ⟨_,_,aa,MapKept.stamped_erase ad _,by rw[lh];simp⟩ X);simp only[l5.delete_,List.getElem?_toArray,List.getElem?_cons_zero,List.getElem?_cons_succ,X8,run_underlying ab,W0,MapKept.run_getObj_map I,U.check w _ V,W,MapKept.run_setObj_map _ I,W9]
theorem GJ {I:u9} {d:List (x1×x1)} (U:P.underlying t=σ (.map k e)) (hm:cN w m d):J P (Y3 #[t] I #[.map (σ m)]) w K=K (Δ d.length):=J.of λw' V=>by
 obtain⟨X,Y,W,aa,rfl⟩:=hm.ext V;simp[Y3,run_underlying U,MapKept.run_getObj_map W,goInt]
def gz (w:x2) (W m:Nat) (d left:List (x1×x1)) (X:Option (x1×x1)):Prop:=∃I J seen U,w.heap[m]? =σ (.map I J)/\MapKept.Stamped I J/\I.toList.map fL=d/\
 w.heap[W]? =σ (.mapIter (σ m) J seen U)/\J<=U/\(leftOf I seen).toList.map fL=left/\ ∀p,X=σ p->U=J/\ ∃V,I.toList.find? (λe=>e.born == seen.back?.getD 0)=σ V/\seen.back? =σ V.born/\fL V=p
theorem gz.map {d left:List (x1×x1)} {J:Option (x1×x1)} (h:gz w I m d left J):cN w m d:=by
 obtain⟨U,c,_,_,h1,V,W,_⟩:=h;exact⟨U,c,h1,V,W⟩
theorem gz.a7 {d left:List (x1×x1)} {J:Option (x1×x1)} (h:gz w I m d left J) (U:af S w w') (hm:¬S m) (hi:eA w w'):gz w' I m d left J:=by
 obtain⟨V,c,s,W,h1,X,Y,aa,ab⟩:=h;exact⟨V,c,s,W,U.a7 m _ h1 rfl hm,X,Y,hi I _ aa rfl,ab⟩
theorem gz.ext {d left:List (x1×x1)} {J:Option (x1×x1)} (h:gz w I m d left J) (U:Ext w w') (hi:eA w w'):gz w' I m d left J:=
 h.a7 (U.V λ_=>False) (λh=>h) hi
theorem GK (I:Array MapEntry):leftOf I #[]=I:=by
 unfold leftOf;exact Array.filter_eq_self.2 λx J=>Ξ
theorem yH {d:List (x1×x1)} {K:x1->x2->Prop} (W:P.underlying t=σ (.map k e)) (hm:cN w m d)
  (h:∀I w',I=w.heap.size->Ext w w'->eA w w'->gz w' I m d d ν->K (Γ I) w'):az P (Instr.range t (.map (σ m))) w K:=by
 obtain⟨U,J,V,X,rfl⟩:=hm;refine .of (run_range_map w t k e m U J W V) (mQ w _) (h _ _ rfl (mP w _) (mQ w _).kQ ⟨U,J,#[],J,(mP w _).a7 m _ V rfl,X,rfl,heap_alloc_new w _,o8 _,by rw[GK],λp Y=>by cases Y⟩)
theorem yI:∀ (l:List MapEntry) (j:Nat) (I:MapEntry),(l.map (·.born)).Nodup->l[j]? =σ I->l.filter (λx=>!(x.born == I.born))=l.eraseIdx j
 |[],j,I,_,h=>by simp at h
 |x::l,0,I,U,h=>by
  simp at h;subst h;have J:=List.nodup_cons.1 (by simpa using U:(x.born::l.map (·.born)).Nodup);simp only[List.filter_cons,beq_self_eq_true,Y1,Bool.false_eq_true,if_false,List.eraseIdx_cons_zero];refine List.filter_eq_self.2 λy V=>?_;have:y.born≠x.born:=λhe=>J.1 (he▸Z5.2 ⟨y,V,rfl⟩);simpa using this
 |x::l,j+1,I,U,h=>by
  simp at h;have J:=List.nodup_cons.1 (by simpa using U:(x.born::l.map (·.born)).Nodup);have W:x.born≠I.born:=λhe=>J.1 (he▸Z5.2 ⟨I,x6 h,rfl⟩);have X:=yI l j I J.2 h;simp only[List.filter_cons,List.eraseIdx_cons_succ,X];simp[W]
theorem yJ {free:eV} {J:Nat} {d left:List (x1×x1)} {ao:Option (x1×x1)} {K:x1->x2->Prop} (h:gz w J m d left ao) (ab:free.1=false->free.2<=J)
  (ap:left=[]->K (.tuple #[.bool false]) w)
  (h1:∀j p w',left[j]? =σ p->Ext w w'->ce J w w'->gz w' J m d (left.eraseIdx j) (σ p)->K (.tuple #[.bool true,p.1,p.2]) w'):pP P free (Instr.next (Γ J) false 0) w K:=by
 obtain⟨W,X,seen,aq,ac,ae,rfl,hi,au,rfl,_⟩:=h;have ai:∀x∈W.toList,x.born<X:=ae.1;have aj:=ae.2.1;have ak:∀x∈(leftOf W seen).toList,x.born<X:=λx aa=>ai x (mem_left aa).1;have av:∀ (U:x2) (o':Obj),U.heap=w.heap->(setObj J o').run P U= .ok () {U with heap:=U.heap.setIfInBounds J o'}:=λU o' he=>by
  simp only[setObj,Sem.run];rw[he,hi]
 unfold pP;simp only[Instr.next,getObj,X8,Sem.run,hi,ac,W0,next_test_false seen W X aq ai au,Bool.false_eq_true,if_false];have aw:Array.filter (λe=>!seen.contains e.born) W=leftOf W seen:=rfl;rw[aw];have ax:((leftOf W seen).toList.map (·.born)).Nodup:=by
  unfold leftOf;rw[Array.toList_filter];exact (List.Sublist.map _ List.filter_sublist).nodup aj
 have ay:∀ad:MapEntry,leftOf W (seen.push ad.born)=(leftOf W seen).filter λx=>!(x.born == ad.born):=λad=>by
  unfold leftOf;rw[Array.filter_filter];congr 1;funext x;rw[contains_push];cases seen.contains x.born <;> cases x.born == ad.born <;> rfl
 generalize az:leftOf W seen=L at*;have aA:L.filter (λx=>decide (x.born<X))=L:=Array.filter_eq_self.2 (λx aa=>by simpa using ak x (by simpa using aa));have aB:L.filter (λx=>decide (x.born≥X))= #[]:=by
  rw[Array.filter_eq_empty_iff];intro x aa;have:=ak x (by simpa using aa);simp;omega
 simp only[aA,aB,Array.append_empty];by_cases al:L.size=0
 .have aC:L= #[]:=Array.eq_empty_of_size_eq_zero al;subst aC;refine⟨.tuple #[.bool false],w,?_,λ_=>ce.refl _ _,ap rfl⟩;simp[choose,Sem.run,Question.forced]
 .have aD:L.isEmpty=false:=by simp[Array.isEmpty,al]
  simp only[aD,Bool.false_eq_true,if_false,Array.empty_append,Array.size_map];have aE:∃ (j:Nat) (n:Nat),j<L.size/\w.drawn<=n/\(choose (Question.mapNext L.size)).run P w= .ok j {w with drawn:=n}:=by
   by_cases ab:L.size<=1
   .exact⟨0,w.drawn,Ω,o8 _,by simp[choose,Sem.run,Question.forced,ab]⟩
   .exact⟨_,w.drawn+1,Nat.mod_lt _ Ω,S5 _,by
     simp only[choose,Sem.run,Question.forced,decide_eq_true_eq,ab,if_false,Question.cut];rfl⟩
  obtain⟨j,n,af,am,aF⟩:=aE;have an:L.toList[j]? =σ L[j]:=by simp[af]
  have aG:L[j]∈W.toList:=(mem_left (seen:=seen) (by rw[az];exact Array.mem_toList_iff.2 (Array.getElem_mem af))).1;refine⟨.tuple #[.bool true,L[j].key,L[j].val],{w with drawn:=n,heap:=w.heap.setIfInBounds J (.mapIter (σ m) X (seen.push L[j].born) X)},?_,?_,?_⟩
  .have I:=av {w with drawn:=n} (.mapIter (σ m) X (seen.push L[j].born) X) rfl;simp only[aF,Array.getElem?_map,Array.getElem?_eq_getElem af,Y0,X8,I,W0,W9]
  .intro aH;have:=ab aH;refine⟨rfl,⟨rfl,am⟩,rfl,Ξ,λr o V ag=>?_,λr o aI V ah=>?_⟩
   .show (w.heap.setIfInBounds J _)[r]? =σ o;by_cases Y:r=J
    .subst Y;rw[hi] at V;cases V;cases ag
    .rw[(MapKept.heap_set hi).2 r Y];exact V
   .show (w.heap.setIfInBounds J _)[r]? =σ o;rw[(MapKept.heap_set hi).2 r Ω];exact V
  .refine h1 j (fL L[j]) _ (by rw[x8,an];rfl) ⟨Ξ,λr o V ah=>?_⟩ ⟨rfl,⟨rfl,am⟩,rfl,Ξ,λr o V ag=>?_,λr o aI V ah=>?_⟩ ⟨W,X,seen.push L[j].born,X,?_,ae,rfl,?_,o8 _,?_,λp aJ=>⟨rfl,L[j],?_,Ξ,Z6 aJ⟩⟩
   .show (w.heap.setIfInBounds J _)[r]? =σ o;by_cases Y:r=J
    .subst Y;rw[hi] at V;cases V;cases ah
    .rw[(MapKept.heap_set hi).2 r Y];exact V
   .show (w.heap.setIfInBounds J _)[r]? =σ o;by_cases Y:r=J
    .subst Y;rw[hi] at V;cases V;cases ag
    .rw[(MapKept.heap_set hi).2 r Y];exact V
   .show (w.heap.setIfInBounds J _)[r]? =σ o;rw[(MapKept.heap_set hi).2 r Ω];exact V
   .show (w.heap.setIfInBounds J _)[m]? =_;rw[(MapKept.heap_set hi).2 m (λhe=>by subst he;rw[hi] at ac;cases ac)];exact ac
   .exact (MapKept.heap_set hi).1
   .rw[ay,Array.toList_filter,yI _ _ _ ax an,lh]
   .simp only[Array.back?_push,S1];exact find_born _ _ aj aG
theorem yK {d left:List (x1×x1)} {p:x1×x1} {K:x1->x2->Prop} (h:gz w I m d left (σ p)) (V:K (.tuple #[p.1,p.2]) w):az P (Instr.entry (Γ I)) w K:=by
 obtain⟨Y,aa,seen,ab,W,ac,rfl,hi,ad,rfl,X⟩:=h;obtain⟨rfl,J,h1,U,rfl⟩:=X p rfl;refine .of (v:=.tuple #[J.key,J.val]) (w':=w) ?_ (cI.refl _) V;rw[U] at h1;simp only[Instr.entry,getObj,X8,Sem.run,hi,W,W0,U,bne_self_eq_false,Bool.false_eq_true,if_false,<-Array.find?_toList];simp only[S1] at h1;rw[h1];rfl
end
end Go.Vc
namespace Go.Proofs.YtgbkinibgjmodaaGreatDoor
open Go Go.Vc Go.RowKit Go.Proofs Go.Proofs.Tryz
set_option maxRecDepth 100000
def dD (ks:List Int):x1:=.agg (ints .i8 ks).toArray
def jF (ks:List Int):Prop:=ks.length=6/\ ∀x∈ks,0<=x/\x<32
theorem GL {b:List Int} (h:dD a=dD b):a=b:=by
 unfold dD at h;have h:ints .i8 a=ints .i8 b:=congrArg Array.toList (x1.agg.inj h);have e:∀l:List Int,(ints .i8 l).map valOf=l:=λl=>by
  unfold ints;rw[List.map_map];exact List.map_id l
 rw[<-e a,<-e b,h]
theorem yL (ks:List Int):(dD ks).cells.toList=ints .i8 ks:=by simp[dD,x1.cells]
theorem GM:WideMaps.ArrKey x3 cm fb 6:=⟨cm.u,Ψ,Ψ,Ψ⟩
theorem keys:Keys x3 cm λv=>∃l,keyOf x3 cm v=σ l:=Keys.law GM.law
theorem tu (h:jF ks):∃l,keyOf x3 cm (dD ks)=σ l:=by
 obtain⟨W,I⟩:=h
 match ks,W with
 |[a,b,c,d,e,f],_=>
  have X:=I a Ξ;have Y:=I b Ξ;have aa:=I c Ξ;have rd:=I d Ξ;have ab:=I e Ξ;have jm:=I f Ξ;have wf:∀x:Int,0<=x/\x<32->(Lit.int .i8 x).wf=true:=λx J=>by
   simp only[Lit.wf,U1,decide_eq_true_eq];have ah:o5.i8.min= -128:=Φ
   have ai:o5.i8.max=127:=Φ
   omega
  have U:decide (0<x3.types.size)=true:=Ψ
  have U:=of_decide_eq_true U;obtain⟨n,ac⟩:∃n,x3.types.size=n+1:=⟨x3.types.size-1,Ω⟩;have one:∀x:Int,0<=x/\x<32->x3.keyLits (n+1) fb [.int .i8 x]=σ [.int .i8 x]:=λx J=>by
   unfold W5.keyLits;rw[fb.u];simp[wf x J]
  unfold keyOf;rw[cm.u];simp only;have ad:x3.keyType cm=true:=Ψ
  have ae:x3.cellsOf fb=1:=Ψ
  have V:x3.cellsOf cm=6:=Ψ
  have af:(dD [a,b,c,d,e,f]).formed x3 cm=true:=by
   unfold dD x1.formed;rw[cm.u,V];rfl
  rw[ad,af,yL,ac];simp only[Bool.and_self,if_true];unfold W5.keyLits;rw[cm.u];simp only[V,ae,ints];have ag:X9 6=[0,1,2,3,4,5]:=Φ
  simp[ag,one a X,one b Y,one c aa,one d rd,one e ab,one f jm]
def pad (t:List Int):List Int:=t++o6 (6-t.length) 0
theorem GN {t:List Int} (U:t.length<=6) (I:∀x∈t,0<=x/\x<32):jF (pad t):=
 ⟨by simp[pad];omega,λx J=>by
  rcases n9.1 J with h|h
  .exact I x h
  .have:=(List.mem_replicate.1 h).2;omega⟩
theorem GO {b:List Int} (I:a.length=b.length) (h:pad a=pad b):a=b:=by
 unfold pad at h;exact (List.append_inj h I).1
theorem yM {t:List Int}:(pad t).take t.length=t:=by simp[pad]
theorem mf {b o:Nat} (I:ks.length=6) (h:w.rangeAt b o (ints .i8 ks)):J x3 (x5 cm (.pointer (σ ⟨b,o,ν⟩))) w K=K (dD ks):=
 w3 cm.u rfl cm.i (by simp[I]) h
theorem GP {b o:Nat} (I:ks.length=6) (h:w.rangeAt b o (ints .i8 ks)):J x3 (do loadVar cm (<-asAddr (.pointer (σ ⟨b,o,ν⟩)))) w K=K (dD ks):=J.of λw' U=>by
 have:=run_loadVar_mid (P:=x3) w' b o cm (ints .i8 ks) (.array 6 fb) (m4 U h) cm.u rfl (by rw[cm.i.size];simp[I]);simp only[asAddr,X8,W9,Result.andThen_ok,this];rfl
theorem oS {g:Nat} {K:Unit->x2->Prop} (I:ks.length=6) (J:cs.length=6) (U:ae w g cm cs)
  (h:∀w',af (λr=>r=g) w w'->w'.heap.size=w.heap.size->ae w' g cm (ints .i8 ks)->K () w'):az x3 (o4 cm (Γ g) (dD ks)) w K:=
 bJ (vs:=ints .i8 ks) cm.i (by simp[I]) J (λv V=>by obtain⟨x,_,rfl⟩:=Z5.1 V;rfl) U h
def q2:List x1:=[.int .i8 0,.int .i8 0,.int .i8 0,.int .i8 0,.int .i8 0,.int .i8 0]
theorem GQ {x:Int}:aj x3 qq [Δ x] w λv w'=>v= .bool (decide (¬gZ x))/\Ext w w':=by
 refine aA func244 ?_;simp only[bx,ao,bP,ad];refine⟨λh=>⟨?_,Ext.refl _⟩,λh=>⟨?_,Ext.refl _⟩⟩
 .rw[decide_eq_true];intro I;have:=I.1;omega
 .congr 1;have:(32<x)=(¬gZ x):=propext ⟨λJ I=>by have:=I.2;omega,λJ=>by
   by_cases U:32<x
   .exact U
   .exact absurd ⟨Ω,Ω⟩ J⟩
  simp only[this]
theorem GR (h:aI .i64 w sv l):
  aj x3 sI [sv,.func (.func qq) #[] #[]] w λv w'=>Ext w w'/\ ∃n:Int,v=Δ n/\((0<=n)=¬∀x∈l,gZ x):=by
 have ae:=h.le;refine aA func170 ?_;rw[aS ah.u h];refine⟨λ_ t U=>Ext w U/\ ∃i:Nat,t=Δ i/\i<=l.length/\ ∀x∈l.take i,gZ x,λ_ t _=>l.length-(bL t).toNat,⟨Ext.refl _,0,rfl,Y9 _,Ξ⟩,?_⟩;rintro _ _ U ⟨J,i,rfl,hi,V⟩;simp only[ao,ad];refine⟨λaf=>?_,λag=>⟨J,-1,rfl,?_⟩⟩
 .obtain⟨x,W⟩:∃x,l[i]? =σ x:=⟨_,y0 Ω⟩;rw[bc ah.u ab.i Ψ (h.ext J) W];show aj x3 qq [Δ x] U _;refine GQ.mono ?_;rintro _ ai _ ⟨rfl,X⟩;simp only[ad,aN];refine⟨λY=>⟨J.trans X,i,rfl,?_⟩,λaa=>?_⟩
  .exact propext ⟨λ_ ac=>Y (ac x (x6 W)),λ_=>Ω⟩
  .rw[wrap_i64 Ω Ω];refine⟨⟨J.trans X,i+1,rfl,Ω,λy I=>?_⟩,?_⟩
   .rw[r9,W] at I;rcases n9.1 I with I|I
    .exact V y I
    .simp at I;subst I;exact X2.1 aa
   .simp only[bL];omega
 .have:i=l.length:=Ω
  rw[this,o9] at V;exact propext ⟨λh=>Ω,λh=>absurd V h⟩
theorem yN (h:aI .i64 w sv l):
  aj x3 qn [sv,.func (.func qq) #[] #[]] w λv w'=>v= .bool (decide (¬∀x∈l,gZ x))/\Ext w w':=by
 refine aA func196 ?_;refine (GR h).mono ?_;rintro _ U _ ⟨I,n,rfl,J⟩;simp only[cb];exact⟨by congr 1;simp only[J],I⟩
abbrev Told:=List (List Int×Int)
def iu (p:List Int×Int):x1×x1:=(dD (pad p.1),Δ p.2)
def eh (w:x2) (g m:Nat) (szs:List Int) (k o:Int) (D:Told):Prop:=
 (∃sv gs,ae w g eY [sv,Δ k,Δ o,.map (σ m)]/\aq .i64 ab w gs sv szs)/\cN w m (D.map iu)/\bR szs/\cL o k/\ ∀p∈D,c0 szs p.1/\cL p.2 k/\p.2≠o
theorem eh.ext {g:Nat} {D:Told} (h:eh w g m szs k o D) (I:Ext w w'):eh w' g m szs k o D:=by
 obtain⟨⟨sv,gs,h1,J⟩,U,V⟩:=h;exact⟨⟨sv,gs,h1.ext I,J.ext I⟩,U.ext I,V⟩
theorem tv {t:List Int} (I:bR szs) (h:c0 szs t):t.length=szs.length/\ ∀x∈t,0<=x/\x<32:=by
 obtain⟨h1,U⟩:=mb.1 h;refine⟨h1.symm,λx V=>?_⟩;obtain⟨i,hi,rfl⟩:=List.getElem_of_mem V;obtain⟨a,J⟩:∃a,szs[i]? =σ a:=⟨_,y0 Ω⟩;have W:=U i a _ J (y0 hi);have X:=(I.2 a (x6 J)).2;omega
theorem oT {t:List Int} (I:bR szs) (h:c0 szs t):jF (pad t):=by
 obtain⟨h1,J⟩:=tv I h;exact GN (by rw[h1];exact I.1) J
theorem eh.nx {g:Nat} {D:Told} (h:eh w g m szs k o D):∀p∈D.map iu,∃l,keyOf x3 cm p.1=σ l:=λp I=>by
 obtain⟨q,J,rfl⟩:=Z5.1 I;exact tu (oT h.2.2.1 (h.2.2.2.2 q J).1)
theorem yO {s t:List Int} (I:c0 szs s) (J:c0 szs t) (h:dD (pad s)=dD (pad t)):s=t:=
 GO ((qL I).symm.trans (qL J)) (GL h)
theorem eh.nodup {g:Nat} {D:Told} (h:eh w g m szs k o D):(D.map (·.1)).Nodup:=by
 have I:=h.2.1.nodup;rw[List.map_map] at I;refine List.Pairwise.of_map (S:=λa b=>a≠b) (λt=>dD (pad t)) (λa b h he=>h (by rw[he])) ?_;rw[List.map_map];exact I
def GS (w:x2) (l:List Int) (k o:Int) (v:x1) (w':x2):Prop:=
 Ext w w'/\(¬bR l->v= .tuple #[.pointer ν,Δ 1])/\(bR l->¬cL o k->v= .tuple #[.pointer ν,Δ 3])/\
  (bR l->cL o k-> ∃g m,v= .tuple #[Γ g,Δ 0]/\w.heap.size<=g/\w.heap.size<=m/\eh w' g m l k o [])
theorem yP (h:aI .i64 w sv l):aj x3 mV [sv,Δ k,Δ o] w (GS w l k o):=by
 refine aA func205 ?_;refine aP (λv U=>Ext w U/\ ∃c,v= .bool c/\(c=true↔¬bR l)) ?_ ?_
 .rintro _ U ⟨V,c,rfl,W⟩;rw[bH];refine⟨λab=>⟨V,λ_=>rfl,λh=>absurd h (W.1 ab),λh=>absurd h (W.1 ab)⟩,λaf=>?_⟩;have I:bR l:=Classical.byContradiction λh=>by have:=W.2 h;rw[af] at this;cases this
  have an:=I.1;refine kq.mono ?_;rintro _ ag _ ⟨rfl,J⟩;by_cases hi:cL o k
  rotate_left
  .simp only[hi,decide_false,bg,X4,bO];exact⟨V.trans J,λh=>absurd I h,λ_ _=>rfl,λ_ h=>absurd h hi⟩
  simp only[hi,decide_true,bg,Y1,aQ];refine (hA ((h.ext V).ext J) Ω).mono ?_;rintro aD ao _ ⟨ac,ai,ap,hm⟩;have aq:=hm.ls.cells;refine q0 λm au av X ak=>?_;rw[cR (cs:=#[aD,Δ k,Δ o,.map (σ m)]) (by obtain⟨_,_,_,_,_,rfl,_⟩:=hm.ls;kernel_rfl)];refine bM λg aw ax Y al=>?_;have s1:=V.size;have ay:=J.size;have az:=ac.size;have aB:=X.size;exact⟨((((V.trans J).trans ac).trans X).trans Y),λh=>absurd I h,λ_ h=>absurd hi h,λ_ _=>⟨g,m,rfl,Ω,Ω,⟨aD,ai,al,(hm.ext X).ext Y⟩,ak.ext Y,I,hi,λp am=>by cases am⟩⟩
 .intro aC ae;rw[aS ah.u h];simp only[bP,ad];refine⟨λaE=>ae _ _ ⟨Ext.refl _,true,rfl,λ_ I=>by have:=I.1;omega,λ_=>rfl⟩,λaF=>?_⟩;refine (yN h).mono ?_;rintro _ ag _ ⟨rfl,J⟩;refine ae _ _ ⟨J,_,rfl,?_⟩;rw[decide_eq_true_eq];exact⟨λaa I=>aa I.2,λaa I=>aa ⟨Ω,I⟩⟩
def hF (t:List Int) (i:Nat):List Int:=t.take i++o6 (6-i) 0
theorem GU {t:List Int} {i:Nat} (hi:i<=t.length) (I:t.length<=6):(hF t i).length=6:=by simp[hF];omega
theorem GV {t:List Int} {i:Nat} {x:Int} (I:t[i]? =σ x) (U:t.length<=6):(hF t i).set i x=hF t (i+1):=by
 have hi:=(x4.1 I).1;unfold hF;have J:(t.take i).length=i:=by rw[o7];omega
 rw[U6 _ _ Ω,J,W7,r9,I];have:6-i=(6-(i+1))+1:=Ω
 rw[this,List.replicate_succ];simp
theorem GW (t:List Int):hF t t.length=pad t:=by simp[hF,pad]
def yQ (w:x2) (szs t:List Int) (v:x1) (w':x2):Prop:=Ext w w'/\ ∃ks e,v= .tuple #[dD ks,Δ e]/\ks.length=6/\(c0 szs t->ks=pad t/\e=0)/\(¬c0 szs t->e=3)
theorem GX {g:Nat} {t:List Int} {D:Told} {aD:x1} (h:eh w g m szs k o D) (au:aI .i64 w aD t):aj x3 Ek [Γ g,aD] w (yQ w szs t):=by
 obtain⟨⟨sv,gs,av,hm⟩,_,I,_⟩:=h;have bg:=I.1;refine aA func245 ?_;refine bt cm.i λag U bh aL an=>?_;refine bt cm.i λam bi bk ax ay=>?_;have ai:=aL.trans ax;have s1:=aL.size;have bl:=ax.size;have bm:=an.lt;have bn:=ay.lt;have bo:=av.lt;have an:=an.ext ax;have aW:=av.ext ai;rw[cA ep.u];simp only[j6,aQ];have aB:∀ {W:x2} {ks:List Int} {e:Int},Ext w W->ae W am cm (ints .i8 ks)->ae W ag cm q2->ks.length=6->(c0 szs t->ks=pad t/\e=0)->(¬c0 szs t->e=3)->
   J x3 (x5 cm (Γ am)) W λaX=>az x3 (o4 cm (Γ ag) aX) W λ(_:Unit) aC=>J x3 (do loadVar cm (<-asAddr (Γ ag))) aC λaY=>yQ w szs t (.tuple #[aY,Δ e]) aC:=by
  intro W ks e X Y ak aq ap aE;rw[mf aq Y.range];refine oS aq rfl ak λaC aZ bp a1=>?_;rw[GP aq a1.range];exact⟨X.then aZ (λr a2 he=>by have he:r=ag:=he;omega),ks,e,rfl,aq,ap,aE⟩
 rw[aS ah.u (au.ext ai),aw,aa eY.p rfl,ac Ψ (aW.cell (o:=0+0) rfl),aS ah.u (hm.ls.ext ai)];simp only[bB,ad];have aM:ints .i8 (hF t 0)=q2:=by simp[hF,q2,ints]
 refine⟨λa6=>aB ai (ks:=hF t 0) (e:=3) (by rw[aM];exact ay) an (by simp[hF]) (λap=>absurd (by rw[qL ap]) a6) (λ_=>rfl),λaO=>?_⟩;have aO:t.length=szs.length:=Ω
 rw[aS ah.u (au.ext ai)];refine bC.range t.length (λi _ W=>Ext w W/\ae W am cm (ints .i8 (hF t i))/\ae W ag cm q2/\ ∀ (j:Nat) (a x:Int),j<i->szs[j]? =σ a->t[j]? =σ x->0<=x/\x<a) Ω
  ⟨ai,by rw[aM];exact ay,an,λj a x a7=>Ω⟩ ?_ ?_
 .rintro i _ W a8 hi ⟨X,Y,ak,aF⟩ ba;simp only[ao,ad];refine⟨λ_=>?_,λh=>Ω⟩;obtain⟨x,af⟩:∃x,t[i]? =σ x:=⟨_,y0 hi⟩;obtain⟨a,al⟩:∃a,szs[i]? =σ a:=⟨_,y0 Ω⟩;have bq:=I.2 a (x6 al);rw[bc ah.u ab.i Ψ (au.ext X) af];have aR:=GU (t:=t) (i:=i) Ω Ω;refine aP (λv bb=>W=bb/\v= .bool (decide (¬(0<=x/\x<a)))) ?_ ?_
  .rintro _ _ ⟨rfl,rfl⟩;simp only[ad];refine⟨λbd=>aB X Y ak aR (λap=>absurd ((mb.1 ap).2 i a x al af) bd) (λ_=>rfl),λaG=>?_⟩;have aG:=X2.1 aG;rw[eZ ab.u fb.u,E0 Ω Ω,sQ cm.u fb.i Ω];refine bj fb.i rfl rfl Y (by simp[aR];omega) λbr aT bu aU=>?_;simp only[aN];refine ba _ _ ⟨X.then aT (λr a2 he=>by have he:r=am:=he;omega),?_,ak.V aT (by show ¬(ag=am);omega),λj a' be a7 aJ aK=>?_⟩
   .have e:(ints .i8 (hF t i)).set (0+i*1) (.int .i8 x)=ints .i8 (hF t (i+1)):=by
     rw[<-GV af Ω];simp[ints,T0]
    rw[e] at aU;exact aU
   .by_cases bf:j=i
    .subst bf;rw[al] at aJ;rw[af] at aK;cases aJ;cases aK;exact aG
    .exact aF j a' be Ω aJ aK
  .intro bw aV;simp only[ao,ad];refine⟨λbx=>aV _ _ ⟨rfl,by rw[decide_eq_true];omega⟩,λbz=>?_⟩;rw[aw,aa eY.p rfl,ac Ψ ((av.ext X).cell (o:=0+0) rfl),bc ah.u ab.i Ψ (hm.ls.ext X) al,cb];refine aV _ _ ⟨rfl,?_⟩;congr 1;exact decide_eq_decide.2 ⟨λh aH=>Ω,λh=>Ω⟩
 .rintro _ W a8 ⟨X,Y,ak,aF⟩;simp only[ao,ad];refine⟨λh=>Ω,λ_=>?_⟩;rw[GW] at Y;exact aB X Y ak (by simp[pad];omega) (λ_=>⟨rfl,rfl⟩) (λaE=>absurd (mb.2 ⟨aO.symm,λj a x al af=>aF j a x (x4.1 af).1 al af⟩) aE)
def hg (D:Told) (o:Int) (t:List Int):Int:=match D.find? (λp=>decide (p.1=t)) with
 |some p=>p.2
 |none=>o
theorem yR {D:Told} (J:(D.map (·.1)).Nodup) {p q:List Int×Int} (U:p∈D) (V:q∈D) (h:p.1=q.1):p=q:=by
 obtain⟨i,hi⟩:=Y7.1 U;obtain⟨j,I⟩:=Y7.1 V;have h1:(D.map (·.1))[i]? =σ p.1:=by rw[x8,hi];rfl
 have W:(D.map (·.1))[j]? =σ p.1:=by rw[x8,I,h];rfl
 have:=i7 J h1 W;subst this;rw[hi] at I;exact Z6 I
theorem oU {D:Told} {t:List Int} (J:(D.map (·.1)).Nodup) (h:(t,c)∈D):hg D o t=c:=by
 unfold hg;cases I:D.find? (λp=>decide (p.1=t)) with
 |none=>
  have:=List.find?_eq_none.1 I _ h;simp at this
 |some p=>
  have h1:=List.find?_some I;have h1:p.1=t:=by simpa using h1
  have:=yR J (List.mem_of_find?_eq_some I) h h1;rw[this]
theorem oV {D:Told} {t:List Int} (h:∀p∈D,p.1≠t):hg D o t=o:=by
 unfold hg;cases I:D.find? (λp=>decide (p.1=t)) with
 |none=>rfl
 |some p=>
  have h1:=List.find?_some I;have h1:p.1=t:=by simpa using h1
  exact absurd h1 (h p (List.mem_of_find?_eq_some I))
def jG (D:Told) (t:List Int) (c o:Int) (I:Told):Prop:=(∀p,p∈I↔(c≠o/\p=(t,c))\/(p∈D/\p.1≠t))/\I.length<=D.length+1
theorem jG.cost {D V:Told} {t:List Int} (h:jG D t c o V) (aa:(D.map (·.1)).Nodup) (W:(V.map (·.1)).Nodup) (s:List Int):hg V o s=if s=t then c else hg D o s:=by
 by_cases I:s=t
 .subst I;rw[if_pos rfl];by_cases X:c=o
  .subst X;exact oV λp J he=>by
    rcases (h.1 p).1 J with U|U
    .exact U.1 rfl
    .exact U.2 he
  .exact oU W ((h.1 _).2 (.inl ⟨X,rfl⟩))
 .rw[if_neg I];by_cases he:∃p∈D,p.1=s
  .obtain⟨p,J,rfl⟩:=he;rw[oU (c:=p.2) aa J];exact oU W ((h.1 _).2 (.inr ⟨J,I⟩))
  .have Y:∀p∈D,p.1≠s:=λp J h=>he ⟨p,J,h⟩;rw[oV Y];exact oV λp J U=>by
    rcases (h.1 p).1 J with⟨_,rfl⟩|⟨ab,_⟩
    .exact I U.symm
    .exact Y p ab U
theorem GY {D:Told} {t:List Int} {v0:Int} (W:(D.map (·.1)).Nodup) (U:D[j]? =σ (t,v0)) (X:c≠o):jG D t c o (D.set j (t,c)):=by
 have V:=(x4.1 U).1;refine⟨λp=>⟨λI=>?_,λI=>?_⟩,Ξ⟩
 .obtain⟨i,hi⟩:=Y7.1 I;by_cases J:j=i
  .subst J;rw[V5 V] at hi;exact .inl ⟨X,(Z6 hi).symm⟩
  .rw[W6 J] at hi;refine .inr ⟨x6 hi,λhe=>J ?_⟩;exact i7 W (x:=t) (by rw[x8,U];rfl) (by rw[x8,hi,Y0,he])
 .rcases I with⟨_,rfl⟩|⟨I,Y⟩
  .exact x6 (V5 V)
  .obtain⟨i,hi⟩:=Y7.1 I;have J:j≠i:=λhe=>by subst he;rw[U] at hi;cases hi;exact Y rfl
   exact x6 (by rw[W6 J];exact hi)
theorem yS {D:Told} {t:List Int} (I:∀p∈D,p.1≠t) (J:c≠o):jG D t c o (D++[(t,c)]):=by
 refine⟨λp=>?_,Ξ⟩;rw[n9,l9];exact⟨λh=>h.elim (λh=>.inr ⟨h,I p h⟩) (λh=>.inl ⟨J,h⟩),λh=>h.elim (λh=>.inr h.2) (λh=>.inl h.1)⟩
theorem GZ {D:Told} {t:List Int} {v0:Int} (U:(D.map (·.1)).Nodup) (J:D[j]? =σ (t,v0)):jG D t o o (D.eraseIdx j):=by
 refine⟨λp=>⟨λI=>?_,λI=>?_⟩,by have:=List.length_eraseIdx_le D j;omega⟩
 .refine .inr ?_;obtain⟨i,V,hi⟩:=List.mem_eraseIdx_iff_getElem?.1 I;refine⟨x6 hi,λhe=>V ?_⟩;exact i7 U (x:=t) (by rw[x8,hi,Y0,he]) (by rw[x8,J];rfl)
 .rcases I with⟨h,_⟩|⟨I,W⟩
  .exact absurd rfl h
  .obtain⟨i,hi⟩:=Y7.1 I;exact List.mem_eraseIdx_iff_getElem?.2 ⟨i,λhe=>by subst he;rw[J] at hi;cases hi;exact W rfl,hi⟩
theorem G0 {D:Told} {t:List Int} (I:∀p∈D,p.1≠t):jG D t o o D:=
 ⟨λp=>⟨λh=>.inr ⟨h,I p h⟩,λh=>h.elim (λh=>absurd rfl h.1) (λh=>h.1)⟩,Ω⟩
theorem yT {g:Nat} {t:List Int} {D:Told} (h:eh w g m szs k o D) (U:c0 szs t) (I:(D.map iu)[j]? =σ (dD (pad t),v)):∃c,D[j]? =σ (t,c)/\v=Δ c:=by
 rw[x8] at I;obtain⟨p,J,he⟩:=Y8.1 I;have h1:=yO (h.2.2.2.2 p (x6 J)).1 U (congrArg Prod.fst he);exact⟨p.2,by rw[J,<-h1],(congrArg Prod.snd he).symm⟩
theorem yU {g:Nat} {t:List Int} {D:Told} (h:eh w g m szs k o D) (I:∀p∈D.map iu,p.1≠dD (pad t)):∀p∈D,p.1≠t:=λp J he=>I (iu p) (Z5.2 ⟨p,J,rfl⟩) (by rw[iu,he])
def G1 (w:x2) (g m:Nat) (szs t:List Int) (k o c:Int) (D:Told) (v:x1) (w':x2):Prop:=
 (¬(c0 szs t/\cL c k)->v=Δ 3/\Ext w w')/\(c0 szs t/\cL c k->v=Δ 0/\af (λr=>r=m) w w'/\ ∃I,jG D t c o I/\eh w' g m szs k o I)
theorem yV {g:Nat} {t:List Int} {D:Told} {aD:x1} (h:eh w g m szs k o D) (aR:aI .i64 w aD t):aj x3 D1 [Γ g,aD,Δ c] w (G1 w g m szs t k o c D):=by
 refine aA func206 ?_;refine (GX h aR).mono ?_;rintro _ U _ ⟨aJ,ks,e,rfl,av,aS,aT⟩;rw[aK (v:=dD ks) rfl,aK (v:=Δ e) rfl];refine bt cm.i λam bf bh aL aM=>?_;refine oS av rfl aM λax aU bj aN=>?_;have s1:=aJ.size;have bk:=aL.size;have bl:=aM.lt;have ao:Ext w ax:=(aJ.trans aL).then aU (λr ay he=>by have he:r=am:=he;omega);refine aP (λv az=>v=Δ 0/\(c0 szs t/\cL c k)/\af (λr=>r=m) w az/\ ∃X,jG D t c o X/\eh az g m szs k o X) ?_ ?_
 .rintro _ az ⟨_,h1,al⟩;exact⟨λh=>absurd h1 h,λ_=>⟨rfl,al⟩⟩
 intro aV aW;simp only[bB,ad];by_cases ah:c0 szs t
 rotate_left
 .have he:=aT ah;subst he;exact⟨λ_=>⟨λ_=>⟨rfl,ao⟩,λh=>absurd h.1 ah⟩,λh=>by simp at h⟩
 obtain⟨rfl,rfl⟩:=aS ah;refine⟨λh=>absurd rfl h,λ_=>?_⟩;have ab:=h.ext ao;obtain⟨⟨sv,gs,ae,hm⟩,ap,I,aX,aY⟩:=id ab;rw[aw,aa eY.p rfl,ac Ψ (ae.cell (o:=0+1) rfl)];refine kq.mono ?_;rintro _ aZ _ ⟨rfl,ag⟩;have a1:=ao.trans ag;by_cases hi:cL c k
 rotate_left
 .simp only[hi,decide_false,bg,X4,bO];exact⟨λ_=>⟨rfl,a1⟩,λh=>absurd h.2 hi⟩
 simp only[hi,decide_true,bg,Y1,aQ];rw[aw,aa eY.p rfl,ac Ψ ((ae.ext ag).cell (o:=0+2) rfl)];simp only[bi,ad,cj];have aO:=tu (oT I ah);have a2:∀ {X:Told},jG D t c o X-> ∀p∈X,c0 szs p.1/\cL p.2 k/\p.2≠o:=λhu p a6=>by
  rcases (hu.1 p).1 a6 with⟨ak,rfl⟩|⟨h1,_⟩
  .exact⟨ah,hi,ak⟩
  .exact aY p h1
 have aq:∀ {an ai:x2} {X:Told},Ext aZ an->af (λr=>r=m) an ai->cN ai m (X.map iu)->jG D t c o X->aV (Δ 0) ai:=by
  intro an ai X J W a7 hu;have a8:g≠m:=λhe=>by
   obtain⟨ba,bc,aH,_⟩:=ap;have ae:ax.heap[g]? =_:=ae;rw[he,aH] at ae;cases ae
  have bd:∀r,leads sv r->r≠m:=λr ay he=>by
   subst he;obtain⟨ba,bc,aH,_⟩:=ap;obtain⟨_,⟨rfl,_⟩|⟨cap,cs,rfl,au,_⟩⟩:=hm
   .obtain⟨a,n,c,h1,_⟩:=ay;cases h1
   .obtain⟨a,n,c,h1,al⟩:=ay;cases h1;have au:ax.heap[gs]? =_:=au;have al:gs=r:=al;rw[al,aH] at au;cases au
  have aB:=ag.trans J;exact aW _ _ ⟨rfl,⟨ah,hi⟩,((ao.trans aB).V _).trans W,X,hu,⟨sv,gs,(ae.ext aB).V W a8,bb (hm.ext aB) W bd⟩,a7,I,aX,a2 hu⟩
 refine⟨λak an J _ _=>?_,λak an J _ _=>?_⟩
 .rw[aw,aa eY.p rfl,ac Ψ (((ae.ext ag).ext J).cell (o:=0+3) rfl),mf av ((aN.ext ag).ext J).range];subst ak;refine GI ht.u keys ((ap.ext ag).ext J) ab.nx aO (λj v0 ai aC Y W=>?_) (λai aE Y W=>?_)
  .obtain⟨be,aF,_⟩:=yT ab ah aC;rw[lh] at Y;exact aq J W Y (GZ ab.nodup aF)
  .exact aq J W Y (G0 (yU ab aE))
 .rw[aw,aa eY.p rfl,ac Ψ (((ae.ext ag).ext J).cell (o:=0+3) rfl),mf av ((aN.ext ag).ext J).range];refine oR ht.u keys ((ap.ext ag).ext J) ab.nx aO (λj v0 ai aC Y W=>?_) (λai aE Y W=>?_)
  .obtain⟨be,aF,_⟩:=yT ab ah aC;have aG:(D.map iu).set j (dD (pad t),Δ c)=(D.set j (t,c)).map iu:=by rw[T0];rfl
   rw[aG] at Y;exact aq J W Y (GY ab.nodup aF ak)
  .have aG:D.map iu++[(dD (pad t),Δ c)]=(D++[(t,c)]).map iu:=by rw[Z4];rfl
   rw[aG] at Y;exact aq J W Y (yS (yU ab aE) ak)
theorem G2 {g:Nat} {t:List Int} {D:Told} {b:Bool} (h:eh w g m szs k o D) (U:c0 szs t)
  (h1:∀c,(t,c)∈D->K (if b then .tuple #[Δ c,.bool true] else Δ c)) (X:(∀p∈D,p.1≠t)->K (if b then .tuple #[Δ 0,.bool false] else Δ 0)):
  J x3 (Instr.lookup ht (.map (σ m)) (dD (pad t)) b) w K:=by
 have V:=tu (oT h.2.2.1 U);by_cases he:∃p∈D,p.1=t
 .obtain⟨p,I,rfl⟩:=he;obtain⟨j,Y⟩:=Y7.1 I;rw[oQ ht.u keys h.2.1 h.nx V (j:=j) (v:=Δ p.2) (by rw[x8,Y];rfl)];exact h1 p.2 I
 .have W:∀p∈D,p.1≠t:=λp I h=>he ⟨p,I,h⟩;rw[q1 ht.u keys ⟨_,_,an.i⟩ h.2.1 h.nx V (λq aa ab=>by
   obtain⟨p,I,rfl⟩:=Z5.1 aa;exact W p I (yO (h.2.2.2.2 p I).1 U ab))]
  exact X W
theorem G3 {g:Nat} {D:Told} (h:eh w g m szs k o D):aj x3 En [Γ g] w λv w'=>v=Δ D.length/\Ext w w':=by
 obtain⟨⟨sv,gs,I,hm⟩,J,_⟩:=h;refine aA func250 ?_;rw[cA ep.u];simp only[j6,aQ];rw[aw,aa eY.p rfl,ac Ψ (I.cell (o:=0+3) rfl),GJ ht.u J];exact⟨Ξ,Ext.refl _⟩
theorem G4 {g:Nat} {D:Told} (h:eh w g m szs k o D):aj x3 EP [Γ g] w λv w'=>v=Δ k/\Ext w w':=by
 obtain⟨⟨sv,gs,I,hm⟩,_⟩:=h;refine aA func303 ?_;rw[cA ep.u];simp only[j6,aQ];rw[aw,aa eY.p rfl,ac Ψ (I.cell (o:=0+1) rfl)];exact⟨rfl,Ext.refl _⟩
theorem tw {g:Nat} {D:Told} (h:eh w g m szs k o D):aj x3 Eo [Γ g] w λv w'=>Ext w w'/\ ∃J,w.heap.size<=J/\aq .i64 ab w' J v szs:=by
 obtain⟨⟨sv,gs,U,hm⟩,_,I,_⟩:=h;have V:=I.1;refine aA func251 ?_;rw[cA ep.u];simp only[j6,aQ];rw[aw,aa eY.p rfl,ac Ψ (U.cell (o:=0+0) rfl)];exact hA hm.ls Ω
theorem G5 {g:Nat} {D:Told} (h:eh w g m szs k o D):aj x3 EQ [Γ g] w λv w'=>v=Δ szs.length/\Ext w w':=by
 refine aA func304 ?_;refine (tw h).mono ?_;rintro v U _ ⟨I,J,_,hm⟩;rw[aS ah.u hm.ls];exact⟨rfl,I⟩
end Go.Proofs.YtgbkinibgjmodaaGreatDoor
namespace Go.Vc
open Go Go.RowKit
set_option maxRecDepth 100000
def leadsTo (v:x1) (r:Nat):Prop:=∃a n c,v= .slice (σ a) n c/\a.block=r
theorem eF (h:leadsTo (.slice ν 0 0) r):False:=by
 obtain⟨a,n,c,h,_⟩:=h;cases h
section
variable {α:Type} {f:α->List x1} {k:Nat}
theorem fw:∀ {L:List α},(∀a∈L,(f a).length=k)->(L.flatMap f).length=L.length*k
 |[],_=>Ξ
 |a::L,h=>by
  rw[V6,r8,h a (.head _),fw λb I=>h b (.tail _ I),j5,U2];omega
theorem oW:∀ {L:List α} (i:Nat),(∀a∈L,(f a).length=k)->(L.flatMap f).take (i*k)=(L.take i).flatMap f
 |[],i,_=>Ξ
 |a::L,0,_=>Ξ
 |a::L,i+1,h=>by
  have I:=h a (.head _);rw[V6,List.take_succ_cons,V6,<-oW i λb J=>h b (.tail _ J),U2,Nat.one_mul,Nat.add_comm,List.take_append,I];congr 1
  .exact Z0 Ω
  .congr 1;omega
theorem q3:∀ {L:List α} (i:Nat),(∀a∈L,(f a).length=k)->(L.flatMap f).drop (i*k)=(L.drop i).flatMap f
 |[],i,_=>Ξ
 |a::L,0,_=>Ξ
 |a::L,i+1,h=>by
  have I:=h a (.head _);rw[V6,List.drop_succ_cons,<-q3 i λb J=>h b (.tail _ J),U2,Nat.one_mul,Nat.add_comm,List.drop_append,I];rw[List.drop_of_length_le Ω,List.nil_append];congr 1;omega
theorem mg {L:List α} {i:Nat} {a:α} (h:∀a∈L,(f a).length=k) (hi:L[i]? =σ a) (I:(f a)[j]? =σ v):(L.flatMap f)[i*k+j]? =σ v:=by
 have U:=(x4.1 I).1;rw[<-List.getElem?_drop,q3 i h];have J:=x4.1 hi;rw[W8 J.1,J.2,V6,j0 U];exact I
theorem tx {L:List α} {i:Nat} {a:α} (h:∀a∈L,(f a).length=k) (I:(f a).length=k) (hi:i<L.length):over (L.flatMap f) (i*k) (f a)=(L.set i a).flatMap f:=by
 have U:=fw h;have J:(i+1)*k<=L.length*k:=X3 _ hi;rw[U2,Nat.one_mul] at J;rw[k6 Ω,I,oW i h,show i*k+k=(i+1)*k by rw[U2,Nat.one_mul],q3 (i+1) h,List.set_eq_take_append_cons_drop,if_pos hi,List.flatMap_append,V6,V9]
theorem q4 {vs:List x1} {o:Nat} (h1:o+vs.length<=m) (I:m<=cs.length):(over cs o vs).take m=over (cs.take m) o vs:=by
 rw[k6 Ω,k6 (by rw[o7];omega),V9,V9,List.take_append,List.take_append,List.take_take,List.take_take,List.drop_take,o7];rw[show min m o=o by omega,show min o m=o by omega,show min o cs.length=o by omega,Z0 (l:=vs) Ω];congr 3;omega
def a6 (f:α->List x1) (k:Nat) (e:u9) (w:x2) (g:Nat) (v:x1) (L:List α):Prop:=bQ w g e k v L.length (L.flatMap f)/\ ∀a∈L,(f a).length=k
variable {P:W5} {w:x2} {e:u9} {g:Nat} {v:x1} {L:List α}
theorem a6.nil (f:α->List x1) (k:Nat) (e:u9) (w:x2) (g:Nat):a6 f k e w g (.slice ν 0 0) []:=⟨bQ.nil w g e k,λa h=>by cases h⟩
theorem a6.leads (h:a6 f k e w g v L) (I:leadsTo v r):r=g/\g<w.heap.size:=by
 obtain⟨_,⟨rfl,_⟩|⟨cap,cs,rfl,J,_⟩⟩:=h.1
 .exact (eF I).elim
 .obtain⟨a,n,c,h1,U⟩:=I;cases h1;exact⟨U.symm,J.lt⟩
theorem a6.V (h:a6 f k e w g v L) (I:af S w w') (J:∀r,leadsTo v r->¬S r):a6 f k e w' g v L:=
 ⟨⟨h.1.1,h.1.2.imp id λ⟨cap,cs,h1,U,W⟩=>⟨cap,cs,h1,U.V I (J g ⟨_,_,_,h1,rfl⟩),W⟩⟩,h.2⟩
theorem a6.ext (h:a6 f k e w g v L) (I:Ext w w'):a6 f k e w' g v L:=h.V (I.V λ_=>False) λ_ _ h=>h
theorem a6.sl (h:a6 f k e w g v L):bT w k v L.length (L.flatMap f):=h.1.sl
theorem a6.le (h:a6 f k e w g v L):L.length<=9223372036854775807:=by
 have:=bT.le h.sl;simpa[maxLen] using this
theorem dc {I:u9} (U:P.underlying t=σ (.slice e)) (h:a6 f k e w g v L):J P (Y3 #[t] I #[v]) w K=K (Δ L.length):=by
 obtain⟨_,_,_,_,_,rfl,_⟩:=h.sl;exact gv U
theorem cO {q:o5} {b:Nat} {i:Nat} (I:y=(i:Int)) (U:P.underlying t=σ (.slice e)) (hi:aM P e k b z) (h:a6 f k e w g v L) (V:i<L.length):
  J P (n0 t v (.int q y)) w K=K (.pointer (σ ⟨g,i*k,ν⟩)):=by
 subst I;obtain⟨_,⟨rfl,W⟩|⟨cap,cs,rfl,X,Y⟩⟩:=h.1
 .omega
 .rw[fc U hi V (λ_=>rfl),V1]
theorem a6.range {i:Nat} {a:α} (h:a6 f k e w g v L) (hi:L[i]? =σ a):w.rangeAt g (i*k) (f a):=λj u hu=>by
 have h1:=mg h.2 hi hu;have V:=(x4.1 hi).1;obtain⟨_,⟨rfl,W⟩|⟨cap,cs,rfl,J,_,_,X,U⟩⟩:=h.1
 .omega
 .have I:=(x4.1 h1).1;rw[fw h.2] at I;rw[<-U,Y2 I] at h1;exact J.cell h1
theorem yW {b:Nat} {i:Nat} {a:α} {K:Unit->x2->Prop} (hi:aM P t k b z) (h:a6 f k e w g v L) (J:(f a).length=k) (h1:∀u∈f a,u.oneCell'=true) (W:i<L.length)
  (aa:∀w',af (λr=>leadsTo v r) w w'->w'.heap.size=w.heap.size->a6 f k e w' g v (L.set i a)->K () w'):az P (o4 t (.pointer (σ ⟨g,i*k,ν⟩)) (.agg (f a).toArray)) w K:=by
 have aj:=fw h.2;have ab:(i+1)*k<=L.length*k:=X3 _ W;rw[U2,Nat.one_mul] at ab;obtain⟨⟨ak,⟨rfl,al⟩|⟨cap,cs,rfl,ac,X,ad,Y,ae⟩⟩,U⟩:=h
 .omega
 .have ag:L.length*k<=cs.length:=by rw[Y];exact X3 _ X
  refine w6 hi J h1 ac Ω λw' ah I ai=>aa w' (ah.mono λr _ he=>⟨_,_,_,rfl,he.symm⟩) I ⟨⟨?_,.inr ⟨cap,_,Ξ,ai,by simpa using X,ad,by rw[km,Y],?_⟩⟩,λb V=>?_⟩
  .rw[fw (L:=L.set i a) λb V=>by
    rcases V3 V with h|rfl
    .exact U b h
    .exact J]
  .rw[X1,<-tx U J W,<-ae,q4 (by rw[J];omega) ag]
  .rcases V3 V with h|rfl
   .exact U b h
   .exact J
theorem ny {b:Nat} {u:x1} {i:Nat} {a a':α} {K:Unit->x2->Prop} (hi:aM P t 1 b z) (hu:u.cells= #[u]) (h1:u.oneCell'=true) (h:a6 f k e w g v L) (U:L[i]? =σ a) (W:f a'=(f a).set j u) (ap:j<k)
  (ag:∀w',af (λr=>leadsTo v r) w w'->w'.heap.size=w.heap.size->a6 f k e w' g v (L.set i a')->K () w'):az P (o4 t (.pointer (σ ⟨g,i*k+j,ν⟩)) u) w K:=by
 have X:=(x4.1 U).1;have aq:=fw h.2;have ah:(i+1)*k<=L.length*k:=X3 _ X;rw[U2,Nat.one_mul] at ah;have ai:(f a).length=k:=h.2 a (x6 U);have J:(f a').length=k:=by rw[W,X1];exact ai
 have aj:(L.flatMap f).set (i*k+j) u=(L.set i a').flatMap f:=by
  rw[<-tx h.2 J X];refine X6 λp=>?_;rw[lS _ _ _ Ω,X5,J];by_cases Y:i*k<=p/\p<i*k+k
  .rw[if_pos Y,W,X5];by_cases aa:i*k+j=p
   .rw[if_pos aa,if_pos Ω,if_pos Ω,if_pos Ω]
   .rw[if_neg aa,if_neg Ω];obtain⟨y,ab⟩:∃y,(f a)[p-i*k]? =σ y:=⟨_,y0 Ω⟩;have:=mg h.2 U ab;rw[show i*k+(p-i*k)=p by omega] at this;rw[this,ab]
  .rw[if_neg Y,if_neg Ω]
 obtain⟨⟨au,⟨rfl,av⟩|⟨cap,cs,rfl,ak,ac,al,ad,am⟩⟩,ae⟩:=h
 .omega
 .have aw:L.length*k<=cs.length:=by rw[ad];exact X3 _ ac
  refine bj hi hu h1 ak Ω λw' an I ao=>ag w' (an.mono λr _ he=>⟨_,_,_,rfl,he.symm⟩) I ⟨⟨?_,.inr ⟨cap,_,Ξ,ao,by simpa using ac,al,by rw[X1,ad],?_⟩⟩,λb V=>?_⟩
  .rw[fw (L:=L.set i a') λb V=>by
    rcases V3 V with h|rfl
    .exact ae b h
    .exact J]
  .rw[X1,<-aj,<-am,List.take_set]
  .rcases V3 V with h|rfl
   .exact ae b h
   .exact J
theorem gd {ai:u9} {b:Nat} {x:x1} {a:α} {K:x1->x2->Prop} (X:P.underlying t=σ (.slice e)) (hi:aM P e k b z) (ae:z.cells.size=k) (h:a6 f k e w g v L) (ac:bT w k x 1 (f a)) (h1:∀u∈f a,u.oneCell'=true)
  (Y:(L.length+1)*b<=140737488355328) (ag:L.length+1<=9223372036854775807)
  (ah:∀I J w',a6 f k e w' J I (L++[a])->(∀r,leadsTo I r->leadsTo v r\/w.heap.size<=r)->af (λr=>leadsTo v r) w w'->K I w'):az P (l7 #[t,t] ai #[v,x]) w K:=by
 have aj:(f a).length=k:=by have:=ac.1;omega
 have aa:∀I J w',bQ w' J e k I (L.length+1) (L.flatMap f++f a)->a6 f k e w' J I (L++[a]):=λI J w' hm=>⟨by simpa using hm,λb Y=>by
  rcases n9.1 Y with h'|h'
  .exact h.2 b h'
  .rw[l9.1 h'];exact aj⟩
 rcases h.1.2 with⟨U,ak⟩|⟨cap,cs,U,al,_⟩
 .have hm:bQ w w.heap.size e k v L.length (L.flatMap f):=⟨h.1.1,.inl ⟨U,ak⟩⟩;subst U;refine lU X X hi ae hm ac h1 (by simpa using Y) (by simpa[maxLen] using ag) λI J w' ab V ad=>ah I J w' (aa _ _ _ V) (λr W=>.inr ?_) (ad.mono λr W h=>Ω);have:=((aa _ _ _ V).leads W).1;omega
 .refine lU X X hi ae h.1 ac h1 (by simpa using Y) (by simpa[maxLen] using ag) λI J w' ab V ad=>ah I J w' (aa _ _ _ V) (λr W=>?_) (ad.mono λr W h=>⟨_,_,_,U,h.symm⟩);have:=((aa _ _ _ V).leads W).1;rcases ab with ab|ab
  .exact .inl ⟨_,_,_,U,by show g=r;omega⟩
  .exact .inr Ω
theorem G6 {J:u9} {b:Nat} {x:x1} {a:α} {K:x1->x2->Prop} (U:P.underlying t=σ (.slice e)) (hi:aM P e k b z) (V:z.cells.size=k) (h:a6 f k e w g v L) (W:bT w k x 1 (f a)) (h1:∀a,∀u∈f a,u.oneCell'=true)
  (X:(L.length+1)*b<=140737488355328) (Y:L.length+1<=9223372036854775807)
  (aa:∀I ab w',a6 f k e w' ab I (L++[a])->(∀r,leadsTo I r->leadsTo v r\/w.heap.size<=r)->af (λr=>leadsTo v r) w w'->K I w'):az P (l7 #[t,t] J #[v,x]) w K:=gd U hi V h W (h1 a) X Y aa
theorem fM {b:Nat} {a:α} {x:x1} {K:x1->x2->Prop} (V:P.underlying t=σ (.slice e)) (hi:aM P e k b z) (ab:k<=100000) (J:x.cells=(f a).toArray) (U:(f a).length=k)
  (W:∀v g w',g=w.heap.size->Ext w w'->a6 f k e w' g v [a]->K v w'):az P (Z7 t 1 #[(0,x)]) w K:=
 il V hi Ω (cs:=x.cells) (xf Ξ (by rw[J];simpa using U)) λg w' X Y I=>by
  have I:ae w' g e (f a):=by rw[J] at I;simpa using I
  exact W _ g w' X Y ⟨by simpa using bQ.full (k:=k) (n:=1) I Ω (by simp[maxLen]),λc aa=>by rw[l9.1 aa];exact U⟩
end
end Go.Vc
namespace Go.Proofs.YtgbkinibgjmodaaGreatDoor
open Go Go.Vc Go.RowKit Go.Proofs Go.Proofs.Tryz
set_option maxRecDepth 100000
theorem tz {α:Type}:∀ {l:List α} {j:Nat} {x:α},l[j]? =σ x->(x::l.eraseIdx j).Perm l
 |[],j,x,h=>by simp at h
 |a::l,0,x,h=>by simp at h;subst h;exact List.Perm.refl _
 |a::l,j+1,x,h=>by
  simp at h;rw[List.eraseIdx_cons_succ];exact (List.Perm.swap a x _).trans ((tz h).cons a)
theorem yX {α:Type} {l:List α} (h:j<l.length):(l.eraseIdx j).length+1=l.length:=by
 rw[List.length_eraseIdx,if_pos h];omega
def nz (w:x2) (I:Nat):Nat:=match w.heap[I]? with
 |some (.mapIter (σ m) _ seen _)=>(match w.heap[m]? with
  |some (.map J _)=>(leftOf J seen).size
  |_=>0)
 |_=>0
theorem q5 {d left:List (x1×x1)} {J:Option (x1×x1)} (h:gz w I m d left J):nz w I=left.length:=by
 obtain⟨V,W,seen,X,h1,_,_,U,_,rfl,_⟩:=h;unfold nz;rw[U];simp only;rw[h1];simp
theorem G7 {w0:x2} {d d0 left:List (x1×x1)} {J:Option (x1×x1)} (h:gz w I m d left J) (hm:cN w0 m d0) (h1:Ext w0 w) (W:Ext w0 w') (hi:eA w w'):gz w' I m d left J:=by
 obtain⟨X,c,s,Y,aa,ab,ac,ad,ae⟩:=h;obtain⟨af,ag,f1,_⟩:=hm;have U:=h1.a7 m _ f1 rfl;have V:=W.a7 m _ f1 rfl;rw[aa] at U;rw[<-U] at V;exact⟨X,c,s,Y,V,ab,ac,hi I _ ad rfl,ae⟩
abbrev mh (w:x2) (g:Nat) (v:x1) (L:List (List Int)):Prop:=a6 (ints .i8) 6 cm w g v L
theorem yY {k:o5}:∀u∈ints k l,u.oneCell'=true:=λu hu=>by
 obtain⟨x,_,rfl⟩:=Z5.1 hu;rfl
theorem keysIter {a8:Nat} {d:List (x1×x1)} {KS:List (List Int)} {w0:x2} (ax:ae w0 a8 ht [.map (σ m)]) (hm:cN w0 m d) (ay:d.map (·.1)=KS.map dD) (aA:∀ks∈KS,ks.length=6):
  mO x3 true kf [Γ a8] ([]:List (List Int)) (λh=>h.Perm KS) (λh vs h' _=>∃ks∈KS,h.length<KS.length/\vs=[dD ks]/\h'=h++[ks]) (λw=>Ext w0 w):=by
 refine⟨kf.enters,λl aB bd w W _ aC X aD=>?_⟩;refine om func299 ?_;rw[ac Ψ ((ax.ext X).cell (o:=0) rfl)];refine az.ds (yH ht.u (hm.ext X) λah U aE Y be aF aG=>?_);refine⟨λI=>∃h J left ai,aB h I/\Ext w0 I/\w.heap.size<=I.heap.size/\gz I ah m d left ai/\left.map (·.1)=J.map dD/\(h++J).Perm KS,λI=>nz I ah,
  ⟨[],KS,d,ν,W _ _ _ Y aG.b aD,X.trans Y,Y.size,aF,ay,List.Perm.refl _⟩,?_⟩
 rintro I ⟨h,J,left,ai,aj,aH,bf,ak,aa,V⟩;have aI:left.length=J.length:=by have:=congrArg S9 aa;simpa using this
 refine yJ ak (λh=>by cases h) (λaJ=>?_) (λj p aL al am aM an=>?_)
 .rw[aK (v:=.bool false) rfl,aQ];subst aJ;have:J=[]:=Z2 (by rw[<-aI];rfl);subst this;rw[V4] at V;exact .inl ⟨h,V,aj⟩
 .rw[aK (v:=.bool true) rfl,bO];refine yK an ?_;obtain⟨ks,ab,aN⟩:∃ks,J[j]? =σ ks/\p.1=dD ks:=by
   have h1:(left.map (·.1))[j]? =σ p.1:=by rw[x8,al];rfl
   rw[aa,x8] at h1;obtain⟨ks,ao,aO⟩:=Y8.1 h1;exact⟨ks,ao,aO.symm⟩
  have ap:ks∈KS:=V.mem_iff.1 (n9.2 (.inr (x6 ab)));have aq:=aA ks ap;rw[aK (v:=p.1) rfl,aN];refine az.ds (bt cm.i λaP bh bi aR aS aT=>?_);refine az.ds (oS aq rfl aS λad aU bj aV aW=>?_);rw[mf aq aV.range];have af:Ext aL ad:=aR.then aU (λr bk he=>by have he:r=aP:=he;omega);have au:=aT.trans aW;have av:Ext w0 ad:=(aH.trans am).trans af;have aX:=W _ _ _ am (by rw[<-aE];exact aM) aj;have aY:=W _ _ _ af au.b aX;have aZ:=an.ext af au.kQ;have a1:h.length<KS.length:=by
   have h1:=V.length_eq;have ao:=(x4.1 ab).1;rw[r8] at h1;omega
  refine⟨rfl,(aC h (h++[ks]) _ ad av ⟨ks,ap,a1,rfl,rfl⟩ aY).mono ?_⟩;rintro _ a2 (⟨rfl,aw,a6,a7⟩|⟨rfl,ba⟩)
  .simp only[bg,Y1,aQ];have ag:=G7 aZ hm av aw (a7 rfl).kQ;have bb:w.heap.size<=a2.heap.size:=by
    obtain⟨_,_,_,_,_,_,_,bc,_⟩:=ag;have:=(j4.1 bc).1;omega
   refine⟨⟨h++[ks],J.eraseIdx j,left.eraseIdx j,σ p,a6,aw,bb,ag,?_,?_⟩,?_⟩
   .rw[<-lh,aa,lh]
   .refine List.Perm.trans ?_ V;rw[V9];exact List.Perm.append_left h (tz ab)
   .rw[q5 ag,q5 ak];have:=yX (x4.1 al).1;omega
  .simp only[bg,X4,bO];exact .inr ⟨h,ba⟩
theorem G8:aj x3 Ez [.map (σ m)] w λr w'=>Ext w w'/\ ∃g,r= .func (.func kf) #[] #[Γ g]/\w.heap.size<=g/\ae w' g ht [.map (σ m)]:=by
 refine aA func267 ?_;refine bM λg U V I J=>?_;rw[kj];exact⟨I,g,rfl,Ω,J⟩
theorem G9 {a8:Nat} {d:List (x1×x1)} {KS:List (List Int)} (aD:ae w a8 ht [.map (σ m)]) (hm:cN w m d) (aE:d.map (·.1)=KS.map dD) (al:∀ks∈KS,ks.length=6) (a7:KS.length<=1000000):
  aj x3 ES [.slice ν 0 0,.func (.func kf) #[] #[Γ a8]] w λv w'=>Ext w w'/\ ∃g L,(∀r,leadsTo v r->w.heap.size<=r)/\L.Perm KS/\mh w' g v L:=by
 refine lL func310 ?_;refine bM λgs U ba am Y=>?_;have Y:ae U gs hY [.slice ν 0 0]:=Y;have bb:=Y.lt;refine oc.old ⟨List (List Int),true,_,_,_,_,_,_,λh w'=>af (λr=>w.heap.size<=r) w w'/\ ∃v g,ae w' gs hY [v]/\(∀r,leadsTo v r->w.heap.size<=r/\r≠gs)/\mh w' g v h,λ_ _ _=>False,rfl,keysIter aD hm aE al,?_,λ_ _ J h=>h.trans J,
  λ_ _ _ J h=>⟨h.1.trans (J.V _),by obtain⟨v,g,h1,aF,aG⟩:=h.2;exact⟨v,g,h1.ext J,aF,aG.ext J⟩⟩,λ_ _ _ _ _ h=>h,am,⟨am.V _,_,0,Y,λr h=>(eF h).elim,a6.nil _ _ _ _ _⟩,?_,?_,λ_ _ h=>h.elim,λ_ _ _ h=>h.elim⟩
 .rintro h _ h' w' ⟨ks,_,_,rfl,_⟩;rfl
 .rintro a h h' an aH ⟨ks,aI,bc,aJ,rfl⟩ ⟨ao,v,g,ad,W,ag⟩;cases aJ;have ah:=al ks aI;have bd:h.length<=1000000:=Ω
  refine az.ds (bt cm.i λaK be bf aL ap aM=>?_);refine az.ds (oS ah rfl ap λaN aO bg aP aQ=>?_);intro bh aq _ aR;have bi:=ap.lt;have aS:Ext an aN:=aL.then aO (λr I he=>by have he:r=aK:=he;omega);have X:=aS.trans aq;rw[ac Ψ ((ad.ext X).cell (o:=0) rfl),mf ah (aP.ext aq).range];refine az.ds (fM (f:=ints .i8) (a:=ks) hY.u cm.i Ω (by simp[dD,x1.cells]) (by simp[ah]) λa aU bk bl aa aT aV=>?_);have au:=aT.sl;rw[V6,List.flatMap_nil,V4] at au;refine az.ds (G6 hY.u cm.i rfl ((ag.ext X).ext aa) au (λa=>yY) Ω Ω λav aW aw ai aX ab aY=>?_);have bm:=ao.size;have bn:=X.size;have bo:=aa.size;have bp:=ad.lt;have ax:∀r,leadsTo av r->w.heap.size<=r/\r≠gs:=λr I=>by
   rcases aX r I with h|h
   .exact W r h
   .omega
  have ak:ae aw gs hY [v]:=((ad.ext X).ext aa).V ab (λh=>(W gs h).2 rfl);refine az.ds (bj hY.i (by obtain⟨_,_,_,_,_,rfl,_⟩:=ai.sl;rfl) (by obtain⟨_,_,_,_,_,rfl,_⟩:=ai.sl;rfl) ak Ξ λay aA bq aZ a1=>?_);have aB:af (λr=>w.heap.size<=r) an ay:=(((X.trans aa).V _).trans (ab.mono λr _ h=>(W r h).1)).trans (aA.mono λr _ h=>by show w.heap.size<=r;omega);refine⟨aH.then aB (λr I h=>by have h:w.heap.size<=r:=h;omega),⟨ao.trans aB,av,aW,aZ,ax,ai.V aA λr I h=>(ax r I).2 h⟩,λ_=>?_⟩;exact ((((aM.kQ.trans aQ.kQ).trans aR).trans aV.kQ).trans aY.kQ).trans a1.kQ
 .rintro h aw a2 ⟨ab,v,g,ak,W,ag⟩;rw[ac Ψ (ak.cell (o:=0) rfl)];intro ay aC _;exact⟨(ab.ext λr I h=>by have:w.heap.size<=r:=h;omega).trans aC,g,h,λr I=>(W r I).1,a2,ag.ext aC⟩
theorem Ha {a8:Nat} {d:List (x1×x1)} {KS:List (List Int)} (I:ae w a8 ht [.map (σ m)]) (hm:cN w m d) (J:d.map (·.1)=KS.map dD) (U:∀ks∈KS,ks.length=6) (V:KS.length<=1000000):
  aj x3 EL [.func (.func kf) #[] #[Γ a8]] w λv w'=>Ext w w'/\ ∃g L,(∀r,leadsTo v r->w.heap.size<=r)/\L.Perm KS/\mh w' g v L:=by
 refine aA func297 ?_;exact (G9 I hm J U V).mono λ_ _ _ h=>h
def fx:List Int->Int
 |[]=>0
 |x::l=>x*32 ^ l.length+fx l
theorem tA (n:Nat):(0:Int)<32 ^ n:=Int.pow_pos Ω
theorem q6:∀ (l:List Int),(∀x∈l,0<=x/\x<32)->0<=fx l/\fx l<32 ^ l.length
 |[],_=>by simp[fx]
 |x::l,h=>by
  have U:=q6 l λy I=>h y (.tail _ I);have J:=h x (.head _);have V:=tA l.length;simp only[fx,j5];have e:(32:Int) ^ (l.length+1)=32*32 ^ l.length:=by rw[Int.pow_succ,Int.mul_comm]
  have h1:x*32 ^ l.length<=31*32 ^ l.length:=Int.mul_le_mul_of_nonneg_right Ω Ω;have W:0<=x*32 ^ l.length:=Int.mul_nonneg J.1 Ω;rw[e];omega
def hh:List Int->List Int->Int
 |x::a,y::b=>if x<y then-1 else if y<x then 1 else hh a b
 |_,_=>0
theorem yZ:∀ (a b:List Int),a.length=b.length->(∀x∈a,0<=x/\x<32)->(∀x∈b,0<=x/\x<32)->(hh a b<0↔fx a<fx b)/\(fx a=fx b->a=b)
 |[],[],_,_,_=>by simp[hh]
 |[],_::_,h,_,_=>by simp at h
 |_::_,[],h,_,_=>by simp at h
 |x::a,y::b,h,Y,aa=>by
  have U:a.length=b.length:=by simpa using h
  have V:∀x∈a,0<=x/\x<32:=λz I=>Y z (.tail _ I);have W:∀x∈b,0<=x/\x<32:=λz I=>aa z (.tail _ I);have X:=yZ a b U V W;have ab:=q6 a V;have ad:=q6 b W;have ae:=tA b.length;simp only[hh,fx];rw[U] at ab ⊢;have step:∀u v:Int,u<v->u*32 ^ b.length+32 ^ b.length<=v*32 ^ b.length:=λu v af=>by
   have:=Int.mul_le_mul_of_nonneg_right (show u+1<=v by omega) (show (0:Int)<=32 ^ b.length by omega);rw[Int.add_mul,Int.one_mul] at this;exact this
  by_cases h1:x<y
  .rw[if_pos h1];have:=step x y h1;exact⟨⟨λ_=>Ω,λ_=>Ω⟩,λh=>Ω⟩
  .rw[if_neg h1];by_cases J:y<x
   .rw[if_pos J];have:=step y x J;exact⟨⟨λh=>Ω,λh=>Ω⟩,λh=>Ω⟩
   .rw[if_neg J];have ac:x=y:=Ω
    subst ac;exact⟨X.1.trans ⟨λh=>Ω,λh=>Ω⟩,λh=>by rw[X.2 Ω]⟩
theorem tB:∀ {a b:List Int} {i:Nat},(∀ (j:Nat) (x y:Int),j<i->a[j]? =σ x->b[j]? =σ y->x=y)->i<=a.length->i<=b.length->hh a b=hh (a.drop i) (b.drop i)
 |_,_,0,_,_,_=>Ξ
 |[],_,i+1,_,h,_=>by simp at h
 |_::_,[],i+1,_,_,h=>by simp at h
 |x::a,y::b,i+1,he,h1,I=>by
  have J:=he 0 x y Ω rfl rfl;subst J;simp only[hh,Int.lt_irrefl,if_false,List.drop_succ_cons];exact tB (λj u v V hu U=>he (j+1) u v Ω hu U) (by simpa using h1) (by simpa using I)
theorem y1 {x:Int}:aj x3 ER [.int .i8 x] w λv w'=>v= .bool false/\Ext w w':=by
 refine aA func309 ?_;simp only[bB];exact⟨Ξ,Ext.refl _⟩
theorem Hb {x:Int}:aj x3 EK [.int .i8 x,.int .i8 y] w λv w'=>v=Δ (if x<y then-1 else if y<x then 1 else 0)/\Ext w w':=by
 refine aA func296 ?_;refine y1.mono ?_;rintro _ U _ ⟨rfl,I⟩;refine y1.mono ?_;rintro _ W _ ⟨rfl,J⟩;simp only[aQ,ao,bP,ad];exact⟨λh=>⟨by rw[if_pos h],I.trans J⟩,λh=>⟨λV=>⟨by rw[if_neg h,if_pos V],I.trans J⟩,λV=>⟨by rw[if_neg h,if_neg V],I.trans J⟩⟩⟩
theorem Hc {db bv:x1} {b:List Int} (W:aI .i8 w db a) (Y:aI .i8 w bv b) (aw:a.length=b.length):aj x3 Ex [db,bv] w λv w'=>v=Δ (hh a b)/\Ext w w':=by
 refine aA func265 ?_;have ax:=W.le;rw[aS jv.u W];refine bC.range a.length (λi _ U=>Ext w U/\ ∀ (j:Nat) (x y:Int),j<i->a[j]? =σ x->b[j]? =σ y->x=y) Ω ⟨Ext.refl _,λj x y ai=>Ω⟩ ?_ ?_
 .rintro i _ U ak hi ⟨I,X⟩ al;simp only[ao,ad];refine⟨λ_=>?_,λh=>Ω⟩;obtain⟨x,aa⟩:∃x,a[i]? =σ x:=⟨_,y0 hi⟩;obtain⟨y,ab⟩:∃y,b[i]? =σ y:=⟨_,y0 Ω⟩;rw[bc jv.u fb.i Ψ (W.ext I) aa,aS jv.u (Y.ext I)];simp only[cb,ad];refine⟨λh=>Ω,λ_=>?_⟩;rw[bc jv.u fb.i Ψ (Y.ext I) ab];refine Hb.mono ?_;rintro _ ay _ ⟨rfl,af⟩;have J:hh a b=hh (a.drop i) (b.drop i):=tB X Ω Ω;have am:a.drop i=x::a.drop (i+1):=by rw[W8 hi,(x4.1 aa).2]
  have an:b.drop i=y::b.drop (i+1):=by rw[W8 Ω,(x4.1 ab).2]
  rw[am,an] at J;simp only[hh] at J;simp only[bB,ad,aN];refine⟨λag=>⟨?_,I.trans af⟩,λap=>al _ _ ⟨I.trans af,λj aq au ai ac ae=>?_⟩⟩
  .rw[J];by_cases h1:x<y
   .rw[if_pos h1,if_pos h1]
   .by_cases V:y<x
    .rw[if_neg h1,if_pos V,if_neg h1,if_pos V]
    .rw[if_neg h1,if_neg V] at ag;exact absurd rfl ag
  .by_cases av:j=i
   .subst av;rw[aa] at ac;rw[ab] at ae;cases ac;cases ae;have ah:=X2.1 ap;by_cases h1:x<y
    .rw[if_pos h1] at ah;omega
    .by_cases V:y<x
     .rw[if_neg h1,if_pos V] at ah;omega
     .omega
   .exact X j aq au Ω ac ae
 .rintro _ U ak ⟨I,X⟩;simp only[ao,show decide ((a.length:Int)<(a.length:Int))=false from decide_eq_false Ω,aQ];rw[aS jv.u (W.ext I),aS jv.u (Y.ext I)];simp only[ao,ad];refine⟨λh=>Ω,λ_=>⟨?_,I⟩⟩;have J:hh a b=hh (a.drop a.length) (b.drop a.length):=tB X Ω Ω;rw[J,List.drop_length];cases b.drop a.length <;> rfl
theorem Hd {b:List Int} (W:jF a) (X:jF b):aj x3 wU [dD a,dD b] w λv w'=>Ext w w'/\v=Δ (hh a b):=by
 have ag:∀ {c:List Int},jF c->(ints .i8 c).length=6:=λh=>by simp[h.1]
 refine aA func264 ?_;refine bM λah U ai ac I=>?_;refine bM λak al am Y J=>?_;rw[yL] at I J;intro aa V _ _;have I:=(I.ext Y).ext V;have J:=J.ext V;rw[qA cm.u fb.i (l:=0) (h:=6) (m:=6) hv hx er Ω Ω Ω,qA cm.u fb.i (l:=0) (h:=6) (m:=6) hv hx er Ω Ω Ω];rw[if_neg Ω,if_neg Ω];have ls:∀ {g:Nat} {c:List Int},jF c->ae aa g cm (ints .i8 c)->aI .i8 aa (.slice (σ ⟨g,0+0*1,ν⟩) (6-0) (6-0)) c:=λ{g c} ab ad=>by
  unfold aI;refine⟨Ξ,g,0,_,6,by rw[ab.1],by rw[ab.1];omega,by simp[maxLen],λ_=>rfl,ad.range⟩
 refine (Hc (ls W I) (ls X J) (by rw[W.1,X.1])).mono ?_;rintro _ an _ ⟨rfl,af⟩;exact⟨((ac.trans Y).trans V).trans af,rfl⟩
end Go.Proofs.YtgbkinibgjmodaaGreatDoor
namespace Go.Vc
open Go Go.RowKit Go.Shelf Go.Proofs Go.Sort
theorem grown_of (W:Ext w w') (J:cI w w'):∃q os,w'=grow (w.drewN q) os:=by
 refine⟨w'.drawn-w.drawn,w'.heap.extract w.heap.size w'.heap.size,?_⟩;have U:∀k,k<w.heap.size->w'.heap[k]? =w.heap[k]?:=λk U=>by
  have V:w.heap[k]? =σ w.heap[k]:=Array.getElem?_eq_getElem U;rw[V];cases I:fW w.heap[k] with
  |true=>exact W.a7 k _ V I
  |false=>exact J.a7 k _ V I
 have aH:w'.heap=w.heap++w'.heap.extract w.heap.size w'.heap.size:=by
  apply Array.ext_getElem?;intro k;rw[Array.getElem?_append];by_cases h:k<w.heap.size
  .rw[if_pos h,U k h]
  .rw[if_neg h,Array.getElem?_extract];have:=W.size;by_cases X:k<w'.heap.size
   .rw[if_pos Ω];congr 1;omega
   .rw[if_neg Ω,Array.getElem?_eq_none Ω]
 have h1:=J.os;have X:=J.tape.1;have Y:=J.output;have aa:w.drawn+(w'.drawn-w.drawn)=w'.drawn:=by have:=J.tape.2;omega
 cases w';simp only[grow,x2.drewN] at*;subst h1 X Y;rw[<-aH,aa]
section
variable {α:Type} [Inhabited α]
theorem y2 (enc:α->List x1) (k:Nat) (I:∀x,(enc x).length=k) (d:Array α):(flatK enc k d).toList=d.toList.flatMap enc:=by
 apply X6;intro t;by_cases h:t<d.size*k
 .have U:0<k:=by
   rcases Nat.eq_zero_or_pos k with J|J
   .rw[J] at h;simp at h
   .exact J
  have V:t / k<d.size:=(Nat.div_lt_iff_lt_mul U).2 h;have W:=Nat.mod_lt t U;have X:(flatK enc k d).toList[t]? =σ ((enc d[t / k]!)[t % k]!):=by
   rw[S3,Array.getElem?_eq_getElem (by simpa using h)];have:=get_flatK enc k d t h;rw[getElem!_pos _ t (by simpa using h)] at this;rw[this]
  have Y:d.toList[t / k]? =σ d[t / k]!:=by
   rw[S3,Array.getElem?_eq_getElem V,getElem!_pos d _ V]
  have aa:(enc d[t / k]!)[t % k]? =σ ((enc d[t / k]!)[t % k]!):=by
   generalize d[t / k]! =z;rw[y0 (by rw[I];exact W),getElem!_pos (enc z) _ (by rw[I];exact W)]
  have:=mg (f:=enc) (k:=k) (λa _=>I a) Y aa;rw[X,<-this];congr 1;rw[Nat.mul_comm];exact Nat.div_add_mod t k
 .rw[Y4 (by simpa using h),Y4];rw[fw (k:=k) λa _=>I a];simpa using h
theorem y3 (enc:α->List x1) (k:Nat) (W:∀x,(enc x).length=k) {g:Nat} {d:Array α} {os:Array Obj} (U:ae w g e cs) (ab:d.size*k<=cs.length):
  ae (sortWorldK enc k w g 0 m d os) g e (d.toList.flatMap enc++cs.drop (d.size*k))/\ ∀r,r<w.heap.size->r≠g->(sortWorldK enc k w g 0 m d os).heap[r]? =w.heap[r]?:=by
 have Y:=U.lt;have X:∀r,r<w.heap.size->(sortWorldK enc k w g 0 m d os).heap[r]? =(w.heap.modify g (onCells (putCells id 0 (flatK enc k d))))[r]?:=λr V=>by
  show ((w.heap.modify g (onCells (putCells id 0 (flatK enc k d))))++os)[r]? =_;rw[Array.getElem?_append_left (by simpa using V)]
 refine⟨?_,λr V aa=>?_⟩
 .unfold ae at U ⊢;rw[X g Y,Array.getElem?_modify,if_pos rfl,U];show σ (Obj.cells (putCells id 0 (flatK enc k d) cs.toArray) e (0,0))=_;refine congrArg σ (congrArg (λc=>Obj.cells c e (0,0)) ?_);apply Array.ext';apply X6;intro t;show _=(d.toList.flatMap enc++cs.drop (d.size*k))[t]?;rw[List.getElem?_append,fw (k:=k) λa _=>W a,S3];unfold putCells;rw[Array.getElem?_mapIdx,List.getElem?_toArray];have I:d.toList.length=d.size:=rfl;by_cases J:t<d.size*k
  .rw[if_pos (by rw[I];exact J),y0 Ω,<-y2 enc k W,S3,Array.getElem?_eq_getElem (by simpa using J)];simp only[Y0,id];rw[if_pos (by simpa using J),Nat.sub_zero,getElem!_pos _ t (by simpa using J)]
  .rw[if_neg (by rw[I];exact J),List.getElem?_drop,I,show d.size*k+(t-d.size*k)=t by omega];cases ac:cs[t]? with
   |none=>rfl
   |some x=>
    simp only[Y0];rw[if_neg Θ]
 .rw[X r V,Array.getElem?_modify,if_neg (T7 aa)]
end
theorem y4 {P:W5} {X:Ren} (an:SlLaysF0.n6 P X) {α:Type} {f:α->List x1} {k:Nat} {G:α->Prop} {num:α->Int} {cf:α->α->Int} {Y:FuncId} {cap:Array x1}
  (aQ:∀w,(isAgg (X.t 24)).run P w= .ok true w) (aR:∀w,(Go.sizeOf (X.t 24)).run P w= .ok k w) (h1:∀a,G a-> ∀u∈f a,u.oneCell'=true) (ao:∀a,G a->(f a).length=k)
  (aS:∀a b,G a->G b->(cf a b<0↔num a<num b)) (aA:Enters P Y) {w:x2} {g:Nat} {v:x1} {L:List α} (h:a6 f k e w g v L) (ab:∀a∈L,G a) (aB:L.length<65536)
  (aT:∀ap a b,af (λr=>r=g) w ap->G a->G b->aj P Y ([.agg (f a).toArray,.agg (f b).toArray]++cap.toList) ap λu aU=>Ext ap aU/\u=Δ (cf a b)):
  aj P (X.f 6) [v,.func (.func Y) #[] cap] w λ_ w'=>af (λr=>leadsTo v r) w w'/\ ∃M,M.Perm L/\(∀ (p q:Nat) (x y:α),p<q->M[p]? =σ x->M[q]? =σ y->num x<=num y)/\a6 f k e w' g v M:=by
 have aC:Enters P (X.f 6):=λargs w=>an.f6.enters rfl args w;obtain⟨⟨bj,aV⟩,bk⟩:=id h;have aD:∀p c,v= .slice p 0 c->L=[]->aj P (X.f 6) [v,.func (.func Y) #[] cap] w λ_ w'=>af (λr=>leadsTo v r) w w'/\ ∃M,M.Perm L/\(∀ (p q:Nat) (x y:α),p<q->M[p]? =σ x->M[q]? =σ y->num x<=num y)/\a6 f k e w' g v M:=λp c ac aB=>by
  refine .code aC ?_;rw[ac];refine (AnyF.slices_SortFunc_none an p c _ w).mono ?_;rintro bl w' ⟨rfl,rfl⟩;refine⟨_,rfl,cI.refl _,af.refl _ _,L,.refl _,λp q x y _ V=>by rw[aB] at V;simp at V,by rw[<-ac];exact h⟩
 rcases aV with⟨rfl,aW⟩|⟨c,cs,rfl,W,aE,hm,aq,aX⟩
 .exact aD _ _ rfl (Z2 aW)
 cases au:L with
 |nil=>subst au;exact aD _ _ rfl rfl
 |cons a0 bm=>
 rw[<-au];let β:={a:α // G a};have:Inhabited β:=⟨⟨a0,ab a0 (by rw[au];exact .head _)⟩⟩;let enc:β->List x1:=λx=>f x.1;let d:Array β:=(L.attach.map λx=>(⟨x.1,ab x.1 x.2⟩:β)).toArray;have aF:d.toList.map Subtype.val=L:=by
  show (L.attach.map λx=>(⟨x.1,ab x.1 x.2⟩:β)).map Subtype.val=L;rw[List.map_map];exact List.attach_map_subtype_val L
 have ah:d.size=L.length:=by simp[d]
 have aa:∀x:β,(enc x).length=k:=λx=>ao x.1 x.2;have aY:d.toList.flatMap enc=L.flatMap f:=by
  have ad:=congrArg (λl=>l.flatMap f) aF;rw[<-ad];exact (List.flatMap_map Subtype.val f d.toList).symm
 have ai:d.size*k<=cs.length:=by rw[ah,aq];exact X3 k aE
 have aZ:HoldsK enc k w g 0 d:=by
  intro j ak;rw[size_flatK] at ak;have aG:j<cs.length:=Ω
  have av:(flatK enc k d)[j]! =cs[j]:=by
   have ad:(flatK enc k d).toList[j]? =σ cs[j]:=by
    rw[y2 enc k aa,aY,<-aX,Y2 (by rw[<-ah];exact ak),y0 aG]
   rw[S3] at ad;rw[getElem!_pos _ j (by simpa using ak)];rw[Array.getElem?_eq_getElem (by simpa using ak)] at ad;exact Z6 ad
  refine⟨?_,?_⟩
  .show w.cell? ⟨g,0+j,ν⟩=σ ((flatK enc k d)[j]!);rw[av];exact W.cell (o:=0+j) (by rw[V1];exact y0 aG)
  .unfold x2.frozen?;unfold ae at W;rw[W];simp
 have al:∀x y:β,ltOf (λx y:β=>cf x.1 y.1) x y=decide (num x.1<num y.1):=λx y=>by
  unfold ltOf;exact decide_eq_decide.2 (aS x.1 y.1 x.2 y.2)
 have a1:SWO (ltOf λx y:β=>cf x.1 y.1):=
  ⟨λx=>by rw[al];simp,λx y z p q=>by rw[al] at*;simp at*;omega,λx y z p q=>by rw[al] at*;simp at*;omega⟩
 have aH:∀m (d2:Array β) os,d2.size=d.size->af (λr=>r=g) w (sortWorldK enc k w g 0 m d2 os)/\cI w (sortWorldK enc k w g 0 m d2 os):=λm d2 os I=>by
  obtain⟨bn,aI⟩:=y3 enc k aa (m:=m) (os:=os) W (d:=d2) (by rw[I];exact ai);have aJ:w.heap.size<=(sortWorldK enc k w g 0 m d2 os).heap.size:=by
   show w.heap.size<=((w.heap.modify g _)++os).size;simp
  refine⟨⟨aJ,λr o U _ aw=>?_⟩,rfl,⟨rfl,Nat.le_add_right _ _⟩,rfl,aJ,λr o U I=>?_⟩
  .rw[aI r (j4.1 U).1 aw];exact U
  .have aw:r≠g:=λhe=>by subst he;unfold ae at W;rw[W] at U;cases U;cases I
   rw[aI r (j4.1 U).1 aw];exact U
 have a2:CmpLays P Y cap enc k (λx y:β=>cf x.1 y.1) g 0 d.size w:=λm os a7 I x y=>by
  have V:=(aT _ x.1 y.1 (aH m a7 os I).1 x.2 y.2).calls aA;have ag:([x1.agg (f x.1).toArray,.agg (f y.1).toArray]++cap.toList).toArray= #[.agg (enc x).toArray,.agg (enc y).toArray]++cap:=by
   apply Array.ext';simp[enc]
  rw[ag] at V;refine V.mono ?_;rintro _ w' ⟨_,rfl,a8,ba,rfl⟩;exact⟨rfl,grown_of ba a8⟩
 have aK:=AnyQ.slices_SortFunc an k aQ aR enc aa (λx=>h1 x.1 x.2) (λx y:β=>cf x.1 y.1) a1 Y cap g 0 c d w (λargs w=>aA args w) a2 aZ W.lt (by rw[ah];omega);rw[ah] at aK;refine .code aC (aK.mono ?_);rintro _ w' ⟨rfl,J,n,os,⟨bb,_,ac⟩,bc,rfl⟩;have ax:J.size=d.size:=bb;obtain⟨bd,be⟩:=aH n J os ax;obtain⟨bf,_⟩:=y3 enc k aa (m:=n) (os:=os) W (d:=J) (by rw[ax];exact ai);have am:(J.toList.map Subtype.val).Perm L:=by
  have av:(J.extract 0 L.length).toList=J.toList:=by rw[show L.length=J.size by omega,Array.extract_size]
  have bg:(d.extract 0 L.length).toList=d.toList:=by rw[show L.length=d.size by omega,Array.extract_size]
  rw[av,bg] at ac;rw[<-aF];exact ac.map _
 have aL:=am.length_eq;refine⟨_,rfl,be,bd.mono λr _ U=>⟨_,_,_,rfl,U.symm⟩,J.toList.map Subtype.val,am,λp q x y bh V aM=>?_,⟨?_,.inr ⟨c,_,by rw[aL],bf,by rw[aL];exact aE,hm,?_,?_⟩⟩,λa ag=>ao a (ab a (am.mem_iff.1 ag))⟩
 .rw[x8,Y8] at V aM;obtain⟨bo,aN,rfl⟩:=V;obtain⟨bp,aO,rfl⟩:=aM;rw[S3] at aN aO;have aP:=(j4.1 aN);have ay:=(j4.1 aO);have:=bc p q (Y9 _) bh (by have:=ay.1;omega);rw[getElem!_pos J p aP.1,getElem!_pos J q ay.1,aP.2,ay.2,al] at this;simpa using this
 .rw[fw (k:=k) λa ag=>ao a (ab a (am.mem_iff.1 ag))]
 .have az:(J.toList.flatMap enc).length=J.size*k:=by rw[fw (k:=k) λa _=>aa a];rfl
  rw[r8,az,R0,ax,aq];rw[aq] at ai;exact Nat.add_sub_cancel' ai
 .have az:(J.toList.flatMap enc).length=J.size*k:=by rw[fw (k:=k) λa _=>aa a];rfl
  have bi:(List.map Subtype.val J.toList).length*k=(J.toList.flatMap enc).length:=by rw[az,u5];rfl
  rw[bi,List.take_left,List.flatMap_map]
end Go.Vc
namespace Go.Proofs
open Go.Shelf
def Tryz.tC:Go.Shelf.Ren:=⟨λ|6=>298|15=>181|14=>311|28=>237|29=>238|20=>326|21=>327|22=>328|23=>329|24=>330|25=>331|26=>332|27=>333|46=>341|47=>273|48=>274|49=>342|50=>343|57=>346|n=>n,λ|22=>365|24=>347|25=>364|3=>3|39=>278|0=>0|53=>340|55=>39|4=>4|46=>333|45=>332|50=>337|5=>5|9=>9|66=>375|70=>379|76=>400|77=>401|n=>n,λ|n=>n⟩
theorem Tryz.He:Go.Proofs.SlLaysF0.n6 Tryz.prog Tryz.tC:={
 mixed:=Ψ,
 f6:=⟨Tryz.f298.name,Φ,Tryz.func298.trans (congrArg σ Ψ)⟩,
 f14:=⟨Tryz.f311.name,Φ,Tryz.func311.trans (congrArg σ Ψ)⟩,
 f15:=Tryz.func181.trans (congrArg σ Ψ),
 f20:=⟨Tryz.f326.name,Φ,Tryz.func326.trans (congrArg σ Ψ)⟩,
 f21:=⟨Tryz.f327.name,Φ,Tryz.func327.trans (congrArg σ Ψ)⟩,
 f22:=⟨Tryz.f328.name,Φ,Tryz.func328.trans (congrArg σ Ψ)⟩,
 f23:=⟨Tryz.f329.name,Φ,Tryz.func329.trans (congrArg σ Ψ)⟩,
 f24:=⟨Tryz.f330.name,Φ,Tryz.func330.trans (congrArg σ Ψ)⟩,
 f25:=⟨Tryz.f331.name,Φ,Tryz.func331.trans (congrArg σ Ψ)⟩,
 f26:=⟨Tryz.f332.name,Φ,Tryz.func332.trans (congrArg σ Ψ)⟩,
 f27:=⟨Tryz.f333.name,Φ,Tryz.func333.trans (congrArg σ Ψ)⟩,
 f28:=Tryz.func237.trans (congrArg σ Ψ),
 f29:=Tryz.func238.trans (congrArg σ Ψ),
 f46:=⟨Tryz.f341.name,Φ,Tryz.func341.trans (congrArg σ Ψ)⟩,
 f47:=Tryz.func273.trans (congrArg σ Ψ),
 f48:=Tryz.func274.trans (congrArg σ Ψ),
 f49:=⟨Tryz.f342.name,Φ,Tryz.func342.trans (congrArg σ Ψ)⟩,
 f50:=⟨Tryz.f343.name,Φ,Tryz.func343.trans (congrArg σ Ψ)⟩,
 f57:=⟨Tryz.f346.name,Φ,Tryz.func346.trans (congrArg σ Ψ)⟩,
 t0:=Tryz.underlying0,
 a0:=Tryz.isAgg0,
 z0:=Tryz.sizeOf0,
 v0:=Tryz.zeroValue0,
 t3:=Tryz.underlying3,
 a3:=Tryz.isAgg3,
 z3:=Tryz.sizeOf3,
 v3:=Tryz.zeroValue3,
 t4:=Tryz.underlying4,
 a4:=Tryz.isAgg4,
 z4:=Tryz.sizeOf4,
 v4:=Tryz.zeroValue4,
 t5:=Tryz.underlying5,
 a5:=Tryz.isAgg5,
 z5:=Tryz.sizeOf5,
 v5:=Tryz.zeroValue5,
 t9:=Tryz.underlying9,
 a9:=Tryz.isAgg9,
 z9:=Tryz.sizeOf9,
 v9:=Tryz.zeroValue9,
 t22:=Tryz.underlying365,
 a22:=Tryz.isAgg365,
 z22:=Tryz.sizeOf365,
 v22:=Tryz.zeroValue365,
 t25:=Tryz.underlying364,
 a25:=Tryz.isAgg364,
 z25:=Tryz.sizeOf364,
 v25:=Tryz.zeroValue364,
 t39:=Tryz.underlying278,
 a39:=Tryz.isAgg278,
 z39:=Tryz.sizeOf278,
 v39:=Tryz.zeroValue278,
 t45:=Tryz.underlying332,
 a45:=Tryz.isAgg332,
 z45:=Tryz.sizeOf332,
 v45:=Tryz.zeroValue332,
 t46:=Tryz.underlying333,
 a46:=Tryz.isAgg333,
 z46:=Tryz.sizeOf333,
 v46:=Tryz.zeroValue333,
 t50:=Tryz.underlying337,
 a50:=Tryz.isAgg337,
 z50:=Tryz.sizeOf337,
 v50:=Tryz.zeroValue337,
 t53:=Tryz.underlying340,
 a53:=Tryz.isAgg340,
 z53:=Tryz.sizeOf340,
 v53:=Tryz.zeroValue340,
 t55:=Tryz.underlying39,
 a55:=Tryz.isAgg39,
 z55:=Tryz.sizeOf39,
 v55:=Tryz.zeroValue39,
 t66:=Tryz.underlying375,
 a66:=Tryz.isAgg375,
 z66:=Tryz.sizeOf375,
 v66:=Tryz.zeroValue375,
 t70:=Tryz.underlying379,
 a70:=Tryz.isAgg379,
 z70:=Tryz.sizeOf379,
 v70:=Tryz.zeroValue379,
 t76:=Tryz.underlying400,
 a76:=Tryz.isAgg400,
 z76:=Tryz.sizeOf400,
 v76:=Tryz.zeroValue400,
 t77:=Tryz.underlying401,
 a77:=Tryz.isAgg401,
 z77:=Tryz.sizeOf401,
 v77:=Tryz.zeroValue401}
def Tryz.tD:Go.Shelf.Ren:=⟨λ|6=>218|15=>181|14=>262|28=>237|29=>238|20=>287|21=>288|22=>289|23=>290|24=>291|25=>292|26=>293|27=>294|46=>306|47=>273|48=>274|49=>307|50=>308|57=>325|n=>n,λ|22=>306|24=>311|25=>318|3=>3|39=>278|0=>0|53=>340|55=>39|4=>4|46=>333|45=>332|50=>337|5=>5|9=>9|66=>375|70=>379|76=>400|77=>401|n=>n,λ|n=>n⟩
theorem Tryz.Hf:Go.Proofs.SlLaysF0.n6 Tryz.prog Tryz.tD:={
 mixed:=Ψ,
 f6:=⟨Tryz.f218.name,Φ,Tryz.func218.trans (congrArg σ Ψ)⟩,
 f14:=⟨Tryz.f262.name,Φ,Tryz.func262.trans (congrArg σ Ψ)⟩,
 f15:=Tryz.func181.trans (congrArg σ Ψ),
 f20:=⟨Tryz.f287.name,Φ,Tryz.func287.trans (congrArg σ Ψ)⟩,
 f21:=⟨Tryz.f288.name,Φ,Tryz.func288.trans (congrArg σ Ψ)⟩,
 f22:=⟨Tryz.f289.name,Φ,Tryz.func289.trans (congrArg σ Ψ)⟩,
 f23:=⟨Tryz.f290.name,Φ,Tryz.func290.trans (congrArg σ Ψ)⟩,
 f24:=⟨Tryz.f291.name,Φ,Tryz.func291.trans (congrArg σ Ψ)⟩,
 f25:=⟨Tryz.f292.name,Φ,Tryz.func292.trans (congrArg σ Ψ)⟩,
 f26:=⟨Tryz.f293.name,Φ,Tryz.func293.trans (congrArg σ Ψ)⟩,
 f27:=⟨Tryz.f294.name,Φ,Tryz.func294.trans (congrArg σ Ψ)⟩,
 f28:=Tryz.func237.trans (congrArg σ Ψ),
 f29:=Tryz.func238.trans (congrArg σ Ψ),
 f46:=⟨Tryz.f306.name,Φ,Tryz.func306.trans (congrArg σ Ψ)⟩,
 f47:=Tryz.func273.trans (congrArg σ Ψ),
 f48:=Tryz.func274.trans (congrArg σ Ψ),
 f49:=⟨Tryz.f307.name,Φ,Tryz.func307.trans (congrArg σ Ψ)⟩,
 f50:=⟨Tryz.f308.name,Φ,Tryz.func308.trans (congrArg σ Ψ)⟩,
 f57:=⟨Tryz.f325.name,Φ,Tryz.func325.trans (congrArg σ Ψ)⟩,
 t0:=Tryz.underlying0,
 a0:=Tryz.isAgg0,
 z0:=Tryz.sizeOf0,
 v0:=Tryz.zeroValue0,
 t3:=Tryz.underlying3,
 a3:=Tryz.isAgg3,
 z3:=Tryz.sizeOf3,
 v3:=Tryz.zeroValue3,
 t4:=Tryz.underlying4,
 a4:=Tryz.isAgg4,
 z4:=Tryz.sizeOf4,
 v4:=Tryz.zeroValue4,
 t5:=Tryz.underlying5,
 a5:=Tryz.isAgg5,
 z5:=Tryz.sizeOf5,
 v5:=Tryz.zeroValue5,
 t9:=Tryz.underlying9,
 a9:=Tryz.isAgg9,
 z9:=Tryz.sizeOf9,
 v9:=Tryz.zeroValue9,
 t22:=Tryz.underlying306,
 a22:=Tryz.isAgg306,
 z22:=Tryz.sizeOf306,
 v22:=Tryz.zeroValue306,
 t25:=Tryz.underlying318,
 a25:=Tryz.isAgg318,
 z25:=Tryz.sizeOf318,
 v25:=Tryz.zeroValue318,
 t39:=Tryz.underlying278,
 a39:=Tryz.isAgg278,
 z39:=Tryz.sizeOf278,
 v39:=Tryz.zeroValue278,
 t45:=Tryz.underlying332,
 a45:=Tryz.isAgg332,
 z45:=Tryz.sizeOf332,
 v45:=Tryz.zeroValue332,
 t46:=Tryz.underlying333,
 a46:=Tryz.isAgg333,
 z46:=Tryz.sizeOf333,
 v46:=Tryz.zeroValue333,
 t50:=Tryz.underlying337,
 a50:=Tryz.isAgg337,
 z50:=Tryz.sizeOf337,
 v50:=Tryz.zeroValue337,
 t53:=Tryz.underlying340,
 a53:=Tryz.isAgg340,
 z53:=Tryz.sizeOf340,
 v53:=Tryz.zeroValue340,
 t55:=Tryz.underlying39,
 a55:=Tryz.isAgg39,
 z55:=Tryz.sizeOf39,
 v55:=Tryz.zeroValue39,
 t66:=Tryz.underlying375,
 a66:=Tryz.isAgg375,
 z66:=Tryz.sizeOf375,
 v66:=Tryz.zeroValue375,
 t70:=Tryz.underlying379,
 a70:=Tryz.isAgg379,
 z70:=Tryz.sizeOf379,
 v70:=Tryz.zeroValue379,
 t76:=Tryz.underlying400,
 a76:=Tryz.isAgg400,
 z76:=Tryz.sizeOf400,
 v76:=Tryz.zeroValue400,
 t77:=Tryz.underlying401,
 a77:=Tryz.isAgg401,
 z77:=Tryz.sizeOf401,
 v77:=Tryz.zeroValue401}
theorem Tryz.Hg (w:x2):(isAgg (Tryz.tC.t 24)).run Tryz.prog w= .ok true w:=Tryz.isAgg347 w
theorem Tryz.Hh (w:x2):(Go.sizeOf (Tryz.tC.t 24)).run Tryz.prog w= .ok 6 w:=Tryz.sizeOf347 w
theorem Tryz.Hi:Tryz.prog.funcs[264]? =σ Tryz.f264:=Tryz.func264
theorem Tryz.Hj (w:x2):(isAgg (Tryz.tD.t 24)).run Tryz.prog w= .ok true w:=Tryz.isAgg311 w
theorem Tryz.Hk (w:x2):(Go.sizeOf (Tryz.tD.t 24)).run Tryz.prog w= .ok 2 w:=Tryz.sizeOf311 w
theorem Tryz.Hl:Tryz.prog.funcs[219]? =σ Tryz.f219:=Tryz.func219
end Go.Proofs
namespace Go.Proofs.YtgbkinibgjmodaaGreatDoor
open Go Go.Vc Go.RowKit Go.Proofs Go.Proofs.Tryz
set_option maxRecDepth 100000
def q7 {α:Type} (f:α->Int) (L:List α) (a i:Nat):Prop:=∀ (p q:Nat) (x y:α),a<=p->p<q->q<i->L[p]? =σ x->L[q]? =σ y->f x<=f y
def nA (L:List (List Int)):Prop:=∀ks∈L,jF ks
theorem nA.perm {L M:List (List Int)} (h:nA L) (I:M.Perm L):nA M:=λks J=>h ks (I.mem_iff.1 J)
theorem Hm {g:Nat} {L:List (List Int)} {i:Nat} (I:y=(i:Int)) (h:mh w g v L) (hi:L[i]? =σ ks):
  J x3 (n0 hY v (Δ y)) w (λp=>J x3 (x5 cm p) w K)=K (dD ks):=by
 have U:ks.length=6:=by have:=h.2 ks (x6 hi);simpa using this
 rw[cO I hY.u cm.i h (x4.1 hi).1,mf U (h.range hi)]
abbrev y5:x1:=.func (.func wU) #[] #[]
theorem q8 {P:W5} {k:o5} {s:ByteArray} {i:Nat} (I:P.underlying t=σ .string) (hi:i<s.size):
  J P (Instr.index t (.string s) (.int k (i:Int))) w K=K (.int .u8 (s[i].toNat:Int)):=J.of λw' _=>by
 simp[Instr.index,asIntOf,run_underlying I,hi]
def dK (n:Nat):Nat:=if n=0 then 0 else Nat.log2 n+1
theorem y6 (h:n<256):dK n<=8:=by
 unfold dK;by_cases I:n=0
 .rw[if_pos I];omega
 .rw[if_neg I];have J:Nat.log2 n<8:=(Nat.log2_lt I).2 Ω;omega
theorem Hn {g:Nat} {L:List (List Int)} (h:mh w g v L) (U:nA L) (V:L.length<65536):
  aj x3 EM [v,y5] w λ_ w'=>af (λr=>leadsTo v r) w w'/\ ∃M,M.Perm L/\q7 fx M 0 M.length/\mh w' g v M:=by
 refine (y4 He (G:=jF) (num:=fx) (cf:=hh) (cap:=#[]) Hg Hh (λa _=>yY) (λa I=>by simp[I.1]) (λa b I J=>(yZ a b (by rw[I.1,J.1]) I.2 J.2).1) (Enters.of x3 Hi rfl Ψ) h U V λac a b _ I J=>Hd I J).mono ?_;rintro _ w' _ ⟨W,M,X,hu,hm⟩;exact⟨W,M,X,λp q x y _ Y _ aa ab=>hu p q x y Y aa ab,hm⟩
end Go.Proofs.YtgbkinibgjmodaaGreatDoor
namespace Go.Vc
open Go Go.RowKit
set_option maxRecDepth 100000
theorem Keys.str {P:W5} {k:u9} (I:P.underlying k=σ .string):Keys P k λv=>∃s,v= .string s:=by
 have key:∀s,MapKept.IsKey .string (.string s):=λs=>trivial;refine⟨λw U v ⟨n,h⟩=>?_,λw x ⟨n,h⟩ V W=>?_,λw v ⟨n,h⟩=>?_⟩
 .subst h;exact MapKept.run_checkKey I (key n) U 9999
 .subst h;rcases MapKept.findNow_spec (key n) V 0 (λe he=>by obtain⟨m,h⟩:=W e he;rw[h];exact key m) with⟨h1,J⟩|⟨j,e,h1,J,X⟩
  .exact .inl ⟨MapKept.run_findKey I h1,J⟩
  .exact .inr ⟨j,e,by have:=MapKept.run_findKey (P:=P) (w:=w) I h1;simpa using this,J,X⟩
 .subst h;exact MapKept.run_keyThatStays (d:=.string) (key n)
section
variable {P:W5} {w:x2}
theorem gA {s:Sem x1} (h:∀K:x1->Prop,J P s w K=K v):bk P s v w:=by
 have h1:J P s w (λu=>u=v):=(h λu=>u=v).mpr rfl;obtain⟨u,hu,rfl⟩:=h1;exact hu
variable {k e:u9} {G:x1->Prop}
end
end Go.Vc
namespace Go.Proofs.YtgbkinibgjmodaaGreatDoor
open Go Go.Vc Go.RowKit Go.Proofs Go.Proofs.Tryz
set_option maxRecDepth 100000
def fN:Nat->Nat->List Int
 |0,_=>[]
 |n+1,u=>fN n (u / 10)++[48+((u % 10:Nat):Int)]
theorem oX:∀ (n u:Nat),(fN n u).length=n
 |0,_=>rfl
 |n+1,u=>by rw[fN,r8,oX n];rfl
theorem Ho (n u:Nat):fN (n+2) u=fN n (u / 100)++[48+((u / 10 % 10:Nat):Int),48+((u % 10:Nat):Int)]:=by
 rw[fN,fN,V9];rw[show u / 10 / 10=u / 100 by omega];rfl
theorem y7:∀ (n u:Nat),10 ^ n<=u->u<10 ^ (n+1)->fN (n+1) u=eQ u
 |0,u,h1,I=>by
  rw[l8,if_pos (by simpa using I)];simp[fN]
 |n+1,u,h1,I=>by
  have J:(10:Nat) ^ (n+1)=10*10 ^ n:=by rw[Nat.pow_succ,Nat.mul_comm]
  have U:(10:Nat) ^ (n+1+1)=10*10 ^ (n+1):=by rw[Nat.pow_succ,Nat.mul_comm]
  have V:1<=10 ^ n:=Nat.one_le_iff_ne_zero.2 Ξ;rw[l8,if_neg Ω,fN,y7 n (u / 10) Ω Ω]
def fy (I C:List Int) (nd u:Nat):Prop:=nd<=I.length/\C.length=I.length/\ ∃t,C.drop nd=t/\I=fN nd u++t
theorem fy.two {I:List Int} {nd u:Nat} (h:fy I C (nd+2) u):fy I ((C.set (nd+1) (48+((u % 10:Nat):Int))).set nd (48+((u / 10 % 10:Nat):Int))) nd (u / 100):=by
 obtain⟨h1,J,t,U,V⟩:=h;refine⟨Ω,by simp[J],_,rfl,?_⟩;rw[V,Ho,V9];congr 1;rw[List.drop_set,if_neg Ω,List.drop_set,if_neg Ω,<-U];have W:nd<C.length:=Ω
 have X:nd+1<C.length:=Ω
 rw[W8 W,W8 X,W7,S8];rfl
theorem fy.one {I:List Int} {u:Nat} (h:fy I C 1 u):C.set 0 (48+((u % 10:Nat):Int))=I:=by
 obtain⟨h1,J,t,U,V⟩:=h;rw[V,fN,fN,List.nil_append,<-U];cases C with
 |nil=>simp at J;omega
 |cons c C=>simp
theorem fy.zero {I:List Int} {u:Nat} (h:fy I C 0 u):C=I:=by
 obtain⟨h1,V,t,J,U⟩:=h;rw[U,fN,List.nil_append,<-J,List.drop_zero]
def iv:ByteArray:=⟨#[48,48,48,49,48,50,48,51,48,52,48,53,48,54,48,55,48,56,48,57,49,48,49,49,49,50,49,51,49,52,49,53,49,54,49,55,49,56,49,57,50,48,50,49,50,50,50,51,50,52,50,53,50,54,50,55,50,56,50,57,51,48,51,49,51,50,51,51,51,52,51,53,51,54,51,55,51,56,51,57,52,48,52,49,52,50,52,51,52,52,52,53,52,54,52,55,52,56,52,57,53,48,53,49,53,50,53,51,53,52,53,53,53,54,53,55,53,56,53,57,54,48,54,49,54,50,54,51,54,52,54,53,54,54,54,55,54,56,54,57,55,48,55,49,55,50,55,51,55,52,55,53,55,54,55,55,55,56,55,57,56,48,56,49,56,50,56,51,56,52,56,53,56,54,56,55,56,56,56,57,57,48,57,49,57,50,57,51,57,52,57,53,57,54,57,55,57,56,57,57]⟩
theorem y8:iv.size=200:=by decide+kernel
theorem Hp:∀q:Fin 100,iv.data.toList[2*q.val]? =σ (UInt8.ofNat (48+q.val / 10))/\iv.data.toList[2*q.val+1]? =σ (UInt8.ofNat (48+q.val % 10)):=by decide+kernel
theorem tE {q:Nat} (J:q<100):(∀h,(iv[2*q]'h).toNat=48+q / 10)/\ ∀h,(iv[2*q+1]'h).toNat=48+q % 10:=by
 obtain⟨h1,U⟩:=Hp ⟨q,J⟩;refine⟨λh=>?_,λh=>?_⟩
 .have I:=(x4.1 h1).2;have:iv[2*q]=UInt8.ofNat (48+q / 10):=I;rw[this,UInt8.toNat_ofNat'];omega
 .have I:=(x4.1 U).2;have:iv[2*q+1]=UInt8.ofNat (48+q % 10):=I;rw[this,UInt8.toNat_ofNat'];omega
theorem wrap_u32 {x:Int} (h1:0<=x) (I:x<4294967296):o5.u32.wrap x=x:=by
 simp[o5.wrap,o5.bits,o5.signed];omega
def iw (w:x2) (g o:Nat) (I C J:List Int):Prop:=ae w g k5 (ints .u8 (I++C++J))/\I.length=o
theorem tF {g o c i:Nat} {I:o5} (U:y=(i:Int)) (hi:i<n):
  J x3 (n0 cw (.slice (σ ⟨g,o,ν⟩) n c) (.int I y)) w K=K (.pointer (σ ⟨g,o+i,ν⟩)):=by
 subst U;rw[fc cw.u cr.i hi (λ_=>rfl),T4]
theorem tG {g o i:Nat} {x:Int} {J U:List Int} {K:Unit->x2->Prop} (V:iw w g o J C U) (hi:i<C.length)
  (X:∀w',af (λr=>r=g) w w'->iw w' g o J (C.set i x) U->K () w'):az x3 (o4 cr (.pointer (σ ⟨g,o+i,ν⟩)) (.int .u8 x)) w K:=by
 obtain⟨V,rfl⟩:=V;refine bj (g:=g) (o:=J.length+i) cr.i rfl rfl V Θ λw' Y I W=>X w' Y ⟨?_,rfl⟩;have e:(ints .u8 (J++C++U)).set (J.length+i) (.int .u8 x)=ints .u8 (J++C.set i x++U):=by
  unfold ints;rw[<-T0,V9,U6 _ _ Ω,S8,List.set_append_left _ _ hi,V9]
 rw[e] at W;exact W
theorem mi {g o c nd q i:Nat} {ae X t:Int} {Y aa:List Int} {K:x2->Prop} (ag:iw w g o Y C aa) (aE:C.length=n) (aF:n<=1000) (aG:nd<=n) (h1:(nd:Int)-ae=((i+1:Nat):Int)) (ak:(nd:Int)-X=(i:Int)) (al:i+1<n) (am:t=((2*q:Nat):Int)) (ac:q<100)
  (an:∀w',af (λr=>r=g) w w'->iw w' g o Y ((C.set (i+1) (48+((q % 10:Nat):Int))).set i (48+((q / 10:Nat):Int))) aa->K w'):
  cj w λU=>
  J x3 (aB .sub ab false true (Δ (nd:Int)) (Δ ae)) U λao=>
  J x3 (aB .sub ab false true (Δ (nd:Int)) (Δ X)) U λah=>
  J x3 (aB .add m3 false true (.int .u32 t) (.int .u32 1)) U λap=>
  J x3 (Instr.index cK (.string iv) ap) U λt50=>
  J x3 (Instr.index cK (.string iv) (.int .u32 t)) U λai=>
  J x3 (n0 cw (.slice (σ ⟨g,o,ν⟩) n c) ao) U λt53=>
  az x3 (o4 cr t53 t50) U λ(_:Unit) W=>
   (Ext U W\/bk x3 (Instr.index cK (.string iv) (.int .u32 t)) ai W/\bk x3 (aB .sub ab false true (Δ (nd:Int)) (Δ X)) ah W/\True)/\
  J x3 (n0 cw (.slice (σ ⟨g,o,ν⟩) n c) ah) W λaq=>
   az x3 (o4 cr aq ai) W λ(_:Unit) ad=>K ad:=by
 subst am;intro U aj _ _;have au:af (λr=>r=g) w U:=aj.V _;have av:iw U g o Y C aa:=⟨ag.1.ext aj,ag.2⟩;rw[cX,wrap_i64 Ω Ω,cX,wrap_i64 Ω Ω,aN,wrap_u32 Ω Ω];rw[show ((2*q:Nat):Int)+1=((2*q+1:Nat):Int) by omega];have I:=y8;rw[q8 cK.u (by rw[I];omega),q8 cK.u (by rw[I];omega)];rw[(tE ac).1,(tE ac).2,tF h1 al];refine tG av Ω λW aw ax=>⟨.inr ⟨gA λK=>?_,gA λK=>?_,trivial⟩,?_⟩
 .rw[q8 cK.u (by rw[I];omega),(tE ac).1]
 .rw[cX,wrap_i64 Ω Ω]
 .rw[tF ak Ω];refine tG ax Θ λad ay aA=>an ad ((au.trans aw).trans ay) ?_;have aC:48+((q % 10:Nat):Int)=((48+q % 10:Nat):Int):=Ω
  have aD:48+((q / 10:Nat):Int)=((48+q / 10:Nat):Int):=Ω
  rw[aC,aD];exact aA
theorem fy.pair {I:List Int} {nd u q:Nat} (h:fy I C (nd+2) u) (J:q=u % 100):fy I ((C.set (nd+1) (48+((q % 10:Nat):Int))).set nd (48+((q / 10:Nat):Int))) nd (u / 100):=by
 have:=h.two;rw[show u % 10=q % 10 by omega,show u / 10 % 10=q / 10 by omega] at this;exact this
theorem mj {k:o5} {a b:Nat} (I:b≠0):J x3 (aB .rem t cx cy (.int k (a:Int)) (.int k (b:Int))) w K=K (.int k ((a % b:Nat):Int)):=by
 rw[kh Ω,Int.tmod_eq_emod_of_nonneg Ω,Int.natCast_emod]
theorem u32_quo {a b:Nat} (I:b≠0) (U:a<4294967296):J x3 (aB .quo t cx cy (.int .u32 (a:Int)) (.int .u32 (b:Int))) w K=K (.int .u32 ((a / b:Nat):Int)):=by
 have:=Nat.div_le_self a b;rw[oq Ω,Int.tdiv_eq_ediv_of_nonneg Ω,<-Int.natCast_ediv];generalize a / b=m at this ⊢;rw[wrap_u32 Ω Ω]
theorem u64_quo {a b:Nat} (I:b≠0) (U:a<18446744073709551616):J x3 (aB .quo t cx cy (.int .u64 (a:Int)) (.int .u64 (b:Int))) w K=K (.int .u64 ((a / b:Nat):Int)):=by
 have:=Nat.div_le_self a b;rw[oq Ω,Int.tdiv_eq_ediv_of_nonneg Ω,<-Int.natCast_ediv];generalize a / b=m at this ⊢;rw[wrap_u64 Ω Ω]
theorem ml {a b:Nat} (I:a*b<4294967296):J x3 (aB .mul t cx cy (.int .u32 (a:Int)) (.int .u32 (b:Int))) w K=K (.int .u32 ((a*b:Nat):Int)):=by
 have e:(a:Int)*(b:Int)=((a*b:Nat):Int):=Ξ
 rw[fp,e];generalize a*b=m at I ⊢;rw[wrap_u32 Ω Ω]
theorem fy.start {u:Nat} (h:C.length=N):fy (fN N u) C N u:=⟨by rw[oX];omega,by rw[oX,h],[],by rw[List.drop_eq_nil_iff];omega,Ξ⟩
theorem Hq {g o c u:Nat} {ah ai:List Int} (aK:iw w g o ah C ai) (aL:C.length=N) (aX:N<=19) (hu:u<10 ^ N):
  aj x3 EV [.slice (σ ⟨g,o,ν⟩) N c,.int .u64 (u:Int)] w λv w'=>v= .tuple #[]/\af (λr=>r=g) w w'/\iw w' g o ah (fN N u) ai:=by
 have aa:=oX N u;refine aA func314 ?_;rw[gv cw.u];refine⟨λaM aw U=>∃I nd:Nat,aM= .int .u64 (I:Int)/\aw=Δ (nd:Int)/\I<10 ^ nd/\nd<=N/\af (λr=>r=g) w U/\ ∃ak,iw U g o ah ak ai/\fy (fN N u) ak nd I,
  λ_ aw _=>(bL aw).toNat,⟨u,N,rfl,rfl,hu,o8 _,af.refl _ _,C,aK,fy.start aL⟩,?_⟩
 rintro _ _ U ⟨I,nd,rfl,rfl,al,ab,ax,ak,ay,aq⟩;have aG:ak.length=N:=by rw[aq.2.1,aa]
 have aY:(10:Nat) ^ nd<=10 ^ 19:=S4 Ω Ω;have aO:I<18446744073709551616:=Ω
 have aZ:(8:Int)=((8:Nat):Int):=rfl;rw[cb,ad];refine⟨λaP=>?_,λaP=>?_⟩
 .obtain⟨m,rfl⟩:∃m,nd=m+8:=⟨nd-8,Ω⟩;have a1:I % 100000000<100000000:=Nat.mod_lt _ Ω;rw[show V2 .u64 100000000=V2 .u64 ((100000000:Nat):Int) from rfl,mj Ω,eZ eo.u m3.u,wrap_u32 Ω Ω,u64_quo Ω aO];rw[show V2 .u32 10000=V2 .u32 ((10000:Nat):Int) from rfl,show V2 .u32 100=V2 .u32 ((100:Nat):Int) from rfl,show V2 .u32 2=V2 .u32 ((2:Nat):Int) from rfl];rw[u32_quo Ω Ω,mj Ω,u32_quo Ω Ω,ml Ω,mj Ω,ml Ω,u32_quo Ω Ω,ml Ω,mj Ω,ml Ω];refine mi (i:=m+6) (q:=I % 100000000 % 10000 % 100) ay aG Ω ab Ω Ω Ω Ω Ω λam ac ae=>?_;have V:=aq.pair (q:=I % 100000000 % 10000 % 100) Ω;have an:=V.2.1.trans aa;refine mi (i:=m+4) (q:=I % 100000000 % 10000 / 100) ae an Ω ab Ω Ω Ω Ω Ω λag X W=>?_;have J:=fy.pair (nd:=m+4) (q:=I % 100000000 % 10000 / 100) V Ω;have aH:=J.2.1.trans aa;refine mi (i:=m+2) (q:=I % 100000000 / 10000 % 100) W aH Ω ab Ω Ω Ω Ω Ω λaQ az au=>?_;have aI:=fy.pair (nd:=m+2) (q:=I % 100000000 / 10000 % 100) J Ω;have aR:=aI.2.1.trans aa;refine mi (i:=m) (q:=I % 100000000 / 10000 / 100) au aR Ω ab Ω Ω Ω Ω Ω λa2 aS aT=>?_;have aJ:=fy.pair (nd:=m) (q:=I % 100000000 / 10000 / 100) aI Ω;rw[cX,wrap_i64 Ω Ω];refine⟨⟨I / 100000000,m,rfl,by congr 1;omega,?_,Ω,(((ax.trans ac).trans X).trans az).trans aS,_,aT,?_⟩,by simp only[bL];omega⟩
  .rw[Nat.pow_add] at al;exact Nat.div_lt_of_lt_mul (by rw[Nat.mul_comm];exact al)
  .rw[show I / 100 / 100 / 100 / 100=I / 100000000 by omega] at aJ;exact aJ
 .have a6:nd<8:=Ω
  have a7:(10:Nat) ^ nd<=10 ^ 7:=S4 Ω Ω;rw[eZ eo.u m3.u,wrap_u32 Ω Ω];refine hW (λa b am=>∃Y m:Nat,a=Δ (m:Int)/\b= .int .u32 (Y:Int)/\Y<10 ^ m/\m<4/\m<=N/\af (λr=>r=g) w am/\ ∃av,iw am g o ah av ai/\fy (fN N u) av m Y) ?_ ?_
  rotate_left
  .intro aU ao;rw[cb,ad];refine⟨λaB=>?_,λaB=>ao _ _ _ ⟨I,nd,rfl,rfl,al,Ω,ab,ax,ak,ay,aq⟩⟩;obtain⟨m,rfl⟩:∃m,nd=m+4:=⟨nd-4,Ω⟩;rw[show V2 .u32 10000=V2 .u32 ((10000:Nat):Int) from rfl,show V2 .u32 100=V2 .u32 ((100:Nat):Int) from rfl,show V2 .u32 2=V2 .u32 ((2:Nat):Int) from rfl];rw[mj Ω,u32_quo Ω Ω,u32_quo Ω Ω,ml Ω,mj Ω,ml Ω];refine mi (i:=m+2) (q:=I % 10000 % 100) ay aG Ω ab Ω Ω Ω Ω Ω λam ac ae=>?_;have V:=aq.pair (q:=I % 10000 % 100) Ω;have an:=V.2.1.trans aa;refine mi (i:=m) (q:=I % 10000 / 100) ae an Ω ab Ω Ω Ω Ω Ω λag X W=>?_;have J:=fy.pair (nd:=m) (q:=I % 10000 / 100) V Ω;rw[cX,wrap_i64 Ω Ω];refine ao _ _ _ ⟨I / 10000,m,by congr 1;omega,rfl,?_,Ω,Ω,(ax.trans ac).trans X,_,W,?_⟩
   .rw[Nat.pow_add] at al;exact Nat.div_lt_of_lt_mul (by rw[Nat.mul_comm];exact al)
   .rw[show I / 100 / 100=I / 10000 by omega] at J;exact J
  rintro _ _ am ⟨Y,m,rfl,rfl,aC,a8,aD,ac,av,ae,V⟩;have an:=V.2.1.trans aa;have ba:(10:Nat) ^ m<=10 ^ 3:=S4 Ω Ω;refine hW (λa b ag=>∃ap m:Nat,a=Δ (m:Int)/\b= .int .u32 (ap:Int)/\ap<10 ^ m/\m<2/\m<=N/\af (λr=>r=g) w ag/\ ∃aE,iw ag g o ah aE ai/\fy (fN N u) aE m ap) ?_ ?_
  rotate_left
  .intro aU ao;rw[cb,ad];refine⟨λaB=>?_,λaB=>ao _ _ _ ⟨Y,m,rfl,rfl,aC,Ω,aD,ac,av,ae,V⟩⟩;obtain⟨m,rfl⟩:∃aV,m=aV+2:=⟨m-2,Ω⟩;rw[show V2 .u32 100=V2 .u32 ((100:Nat):Int) from rfl,show V2 .u32 2=V2 .u32 ((2:Nat):Int) from rfl];rw[mj Ω,ml Ω,u32_quo Ω Ω];refine mi (i:=m) (q:=Y % 100) ae an Ω aD Ω Ω Ω Ω Ω λag X W=>?_;have J:=V.pair (q:=Y % 100) rfl;rw[cX,wrap_i64 Ω Ω];refine ao _ _ _ ⟨Y / 100,m,by congr 1;omega,rfl,?_,Ω,Ω,ac.trans X,_,W,J⟩;rw[Nat.pow_add] at aC;exact Nat.div_lt_of_lt_mul (by rw[Nat.mul_comm];exact aC)
  rintro _ _ ag ⟨ap,m,rfl,rfl,aF,bb,aD,X,aE,W,J⟩;have aH:=J.2.1.trans aa;rw[bP,ad];refine⟨λaW=>?_,λaW=>?_⟩
  .obtain rfl:m=1:=Ω
   have aF:ap<10:=by simpa using aF
   rw[aN,wrap_u32 Ω Ω,eZ m3.u cr.u,wrap_u8 Ω Ω,tF (y:=0) (i:=0) rfl Ω];refine tG W Ω λaQ az au=>?_;have:=J.one;rw[Nat.mod_eq_of_lt aF] at this;rw[this] at au;exact⟨rfl,X.trans az,au⟩
  .obtain rfl:m=0:=Ω
   rw[J.zero] at W;exact⟨rfl,X,W⟩
def oY:List Int:=[1,10,100,1000,10000,100000,1000000,10000000,100000000,1000000000,10000000000,100000000000,1000000000000,10000000000000,100000000000000,1000000000000000,10000000000000000,100000000000000000,1000000000000000000,10000000000000000000]
def eM (w:x2):Prop:=w.rangeAt 1 0 (ints .u64 oY)
theorem eM.ext (h:eM w) (I:Ext w w'):eM w':=m4 I h
theorem Hr:∀k:Nat,k<20->oY[k]? =σ (((10 ^ k:Nat)):Int):=Φ
theorem y9 {s:Nat} (h:2 ^ s<=n):dK n=s+dK (n / 2 ^ s):=by
 have I:=Nat.two_pow_pos s;have h1:n / 2 ^ s≠0:=by have:=Nat.div_pos h I;omega
 have J:n≠0:=Ω
 unfold dK;rw[if_neg J,if_neg h1];have e:Nat.log2 n=Nat.log2 (n / 2 ^ s)+s:=by
  refine (Nat.log2_eq_iff J).2 ⟨?_,?_⟩
  .rw[Nat.pow_add];have:=X3 (2 ^ s) (Nat.log2_self_le h1);have:=Nat.div_mul_le_self n (2 ^ s);omega
  .have U:=Nat.lt_log2_self (n:=n / 2 ^ s);rw[show Nat.log2 (n / 2 ^ s)+s+1=(Nat.log2 (n / 2 ^ s)+1)+s by omega,Nat.pow_add];have:=X3 (2 ^ s) (show n / 2 ^ s+1<=2 ^ (Nat.log2 (n / 2 ^ s)+1) by omega);have V:=Nat.lt_div_mul_add I (a:=n);rw[U2] at this;omega
 omega
def oZ:ByteArray:=⟨#[0,1,2,2,3,3,3,3,4,4,4,4,4,4,4,4,5,5,5,5,5,5,5,5,5,5,5,5,5,5,5,5,6,6,6,6,6,6,6,6,6,6,6,6,6,6,6,6,6,6,6,6,6,6,6,6,6,6,6,6,6,6,6,6,7,7,7,7,7,7,7,7,7,7,7,7,7,7,7,7,7,7,7,7,7,7,7,7,7,7,7,7,7,7,7,7,7,7,7,7,7,7,7,7,7,7,7,7,7,7,7,7,7,7,7,7,7,7,7,7,7,7,7,7,7,7,7,7,8,8,8,8,8,8,8,8,8,8,8,8,8,8,8,8,8,8,8,8,8,8,8,8,8,8,8,8,8,8,8,8,8,8,8,8,8,8,8,8,8,8,8,8,8,8,8,8,8,8,8,8,8,8,8,8,8,8,8,8,8,8,8,8,8,8,8,8,8,8,8,8,8,8,8,8,8,8,8,8,8,8,8,8,8,8,8,8,8,8,8,8,8,8,8,8,8,8,8,8,8,8,8,8,8,8,8,8,8,8,8,8,8,8,8,8,8,8,8,8,8,8,8,8,8,8,8,8]⟩
theorem Hs:oZ.size=256:=by decide+kernel
theorem Ht:∀q:Fin 256,oZ.data.toList[q.val]? =σ (UInt8.ofNat (dK q.val)):=by decide+kernel
theorem Hu {q:Nat} (I:q<256):∀h,(oZ[q]'h).toNat=dK q:=λh=>by
 have h1:=Ht ⟨q,I⟩;have J:=(x4.1 h1).2;have:oZ[q]=UInt8.ofNat (dK q):=J;have U:=y6 I;rw[this,UInt8.toNat_ofNat'];omega
theorem Hv (am:n<18446744073709551616):aj x3 Eg [.int .u64 (n:Int)] w λv w'=>v=Δ (dK n:Int)/\Ext w w':=by
 refine aA func238 ?_;have step:∀ {s x m:Nat} {Y:x1->x1->x2->Prop} {y c:Int},s<64->x<18446744073709551616->m+dK x=dK n->m<=64->y=(2 ^ s:Nat)->c=(s:Int)->2 ^ s<=18446744073709551615->(∀V W:Nat,V<2 ^ s\/(V=x / 2 ^ s/\W=m+s)->V<=x->W+dK V=dK n->W<=m+s->Y (.int .u64 (V:Int)) (Δ (W:Int)) w)->
   J x3 (aB .geq eo false true (.int .u64 (x:Int)) (.int .u64 y)) w λt4=>
    Split t4 (J x3 (aB .shr eo false true (.int .u64 (x:Int)) (.int .u64 c)) w λag=>J x3 (aB .add ab false true (Δ (m:Int)) (Δ c)) w λah=>Y ag ah w) (Y (.int .u64 (x:Int)) (Δ (m:Int)) w):=by
  intro s x m Y y c I aa hm an ai ak ae X;subst ai ak;rw[cb,ad];refine⟨λh=>?_,λh=>X x m (.inl Ω) (o8 _) hm Ω⟩;rw[qJ I,aN,wrap_i64 Ω Ω];have:=y9 (n:=x) (s:=s) Ω;have:=X (x / 2 ^ s) (m+s) (.inr ⟨rfl,rfl⟩) (Nat.div_le_self _ _) Ω Ω;exact this
 refine hW (λx m U=>w=U/\ ∃V W:Nat,x= .int .u64 (V:Int)/\m=Δ (W:Int)/\V<4294967296/\W+dK V=dK n/\W<=32) ?_ ?_
 rotate_left
 .intro Y X;rw[cb,ad];refine⟨λh=>?_,λh=>X _ _ _ ⟨rfl,n,0,rfl,rfl,Ω,Ω,Ω⟩⟩;rw[show V2 .u64 32=V2 .u64 ((32:Nat):Int) from rfl,qJ Ω];have:=y9 (n:=n) (s:=32) Ω;exact X _ _ _ ⟨rfl,n / 2 ^ 32,32,rfl,rfl,Ω,Ω,Ω⟩
 rintro _ _ _ ⟨rfl,x,m,rfl,rfl,aa,hm,af⟩;refine hW (λx m U=>w=U/\ ∃V W:Nat,x= .int .u64 (V:Int)/\m=Δ (W:Int)/\V<65536/\W+dK V=dK n/\W<=48) ?_ ?_
 rotate_left
 .intro Y X;refine step (s:=16) Ω Ω hm Ω Ω Ω Ω λV W h1 ae ac al=>X _ _ _ ⟨rfl,V,W,rfl,rfl,?_,ac,Ω⟩;rcases h1 with h1|⟨h1,_⟩ <;> omega
 rintro _ _ _ ⟨rfl,x,m,rfl,rfl,aa,hm,af⟩;refine hW (λx m U=>w=U/\ ∃V W:Nat,x= .int .u64 (V:Int)/\m=Δ (W:Int)/\V<256/\W+dK V=dK n/\W<=56) ?_ ?_
 rotate_left
 .intro Y X;refine step (s:=8) Ω Ω hm Ω Ω Ω Ω λV W h1 ae ac al=>X _ _ _ ⟨rfl,V,W,rfl,rfl,?_,ac,Ω⟩;rcases h1 with h1|⟨h1,_⟩ <;> omega
 rintro _ _ _ ⟨rfl,x,m,rfl,rfl,aa,hm,af⟩;have I:=Hs;have ao:=y6 aa;rw[eZ eo.u cr.u,wrap_u8 Ω Ω];refine (q8 (s:=oZ) cK.u (by rw[I];omega)).mpr ?_;rw[Hu aa,eZ cr.u ab.u,wrap_i64 Ω Ω,aN,wrap_i64 Ω Ω];exact⟨by congr 1;omega,Ext.refl _⟩
theorem za {k:o5} {a:Nat} (I:n<64):J x3 (aB .shr t cx cy (Δ (a:Int)) (.int k (n:Int))) w K=K (Δ ((a / 2 ^ n:Nat):Int)):=J.of λw' _=>by
 have e:(a:Int).fdiv (2 ^ min n Y5.bits)=((a / 2 ^ n:Nat):Int):=by
  have:min n Y5.bits=n:=T5 (by show n<=64;omega);rw[this,Int.fdiv_eq_ediv_of_nonneg _ (by exact Int.le_of_lt (Int.pow_pos Ω))];simp
 simp only[aB,eqGuard,binOp,Op.shift,j9,e];rfl
theorem Hw:∀L:Fin 64,7<=L.val->2 ^ L.val<=10 ^ (L.val*78913 / 262144+1)/\10 ^ (L.val*78913 / 262144)<=10*2 ^ (L.val-1)/\1<=L.val*78913 / 262144/\L.val*78913 / 262144<19:=by decide+kernel
theorem Hx {d:Nat} (af:eM w) (h1:100<=d) (al:d<9223372036854775808):aj x3 EU [.int .u64 (d:Int)] w λv w'=>Ext w w'/\ ∃n:Nat,v=Δ ((n+1:Nat):Int)/\n<19/\10 ^ n<=d/\d<10 ^ (n+1):=by
 have X:d≠0:=Ω
 have Y:dK d=Nat.log2 d+1:=by unfold dK;rw[if_neg X]
 have am:2 ^ (dK d-1)<=d:=by rw[Y];exact Nat.log2_self_le X
 have an:d<2 ^ dK d:=by rw[Y];exact Nat.lt_log2_self
 have ag:7<=dK d:=by
  by_cases h:7<=dK d
  .exact h
  .have:2 ^ dK d<=2 ^ 6:=S4 Ω Ω;omega
 have ah:dK d<64:=by
  by_cases h:dK d<64
  .exact h
  .have:2 ^ 63<=2 ^ (dK d-1):=S4 Ω Ω;omega
 obtain⟨ai,aa,t3,t4⟩:=Hw ⟨dK d,ah⟩ ag;simp only at ai aa t3 t4;refine aA func313 ?_;refine (Hv Ω).mono ?_;rintro _ U _ ⟨rfl,I⟩;generalize dK d=L at*;refine aj.mono (K:=λv J=>v=Δ ((L*78913 / 262144:Nat):Int)/\Ext U J) ?_ ?_
 .refine aA func334 ?_;rw[fp,wrap_i64 Ω Ω,show V2 .u64 18=V2 .u64 ((18:Nat):Int) from rfl,show (L:Int)*78913=((L*78913:Nat):Int) by omega,za Ω];exact⟨rfl,Ext.refl _⟩
 rintro _ J _ ⟨rfl,V⟩;generalize L*78913 / 262144=t at*;have ak:=Hr t Ω;rw[sQ (t:=qw) qw.u eo.i Ω,ac Ψ (by rw[T4];exact ((af.ext I).ext V) _ _ (jx ak)),cb];refine aj.mono (K:=λv ab=>v=Δ ((if 10 ^ t<=d then 1 else 0:Nat):Int)/\Ext J ab) ?_ ?_
 .refine aA func335 ?_;rw[ad];refine⟨λh=>⟨by rw[if_pos Ω];rfl,Ext.refl _⟩,λh=>⟨by rw[if_neg Ω];rfl,Ext.refl _⟩⟩
 rintro _ ab _ ⟨rfl,ae⟩;rw[aN];by_cases W:10 ^ t<=d
 .rw[if_pos W,wrap_i64 Ω Ω];exact⟨(I.trans V).trans ae,t,by congr 1,t4,W,Ω⟩
 .rw[if_neg W,wrap_i64 Ω Ω];obtain⟨s,rfl⟩:∃s,t=s+1:=⟨t-1,Ω⟩;rw[Nat.pow_succ] at aa;exact⟨(I.trans V).trans ae,s,by congr 1,Ω,Ω,Ω⟩
theorem zb {k I:o5} {x:Int} {i:Nat} {s:ByteArray} (U:x=(i:Int)) (V:y=(j:Int)) (W:x3.underlying t=σ .string) (X:i<=j) (Y:j<=s.size):
  J x3 (W3 t (.string s) (σ (.int k x)) (σ (.int I y)) ν) w K=K (.string (s.extract i j)):=J.of λw' _=>by
 subst U V;have aa:=qz (P:=x3) w' (sl:=false) (n:=s.size) (c:=s.size) (low:=σ (.int k (i:Int))) (high:=σ (.int I (j:Int))) (mx:=ν) (l:=i) (h:=j) (m:=s.size) ⟨k,rfl⟩ ⟨I,rfl⟩ er X Y (o8 _);simp[W3,Instr.slice,run_underlying W,aa]
theorem Hy:∀q:Fin 100,iv.extract (2*q.val) (2*q.val+2)=strOfNums [48+((q.val / 10:Nat):Int),48+((q.val % 10:Nat):Int)]:=by decide+kernel
def zc:ByteArray:=⟨#[48,49,50,51,52,53,54,55,56,57,97,98,99,100,101,102,103,104,105,106,107,108,109,110,111,112,113,114,115,116,117,118,119,120,121,122]⟩
theorem Hz:∀q:Fin 10,zc.extract q.val (q.val+1)=strOfNums [48+(q.val:Int)]:=by decide+kernel
theorem zd (h:n<10):eQ n=[48+(n:Int)]:=by rw[l8,if_pos h,Nat.mod_eq_of_lt h];rfl
theorem HA (h1:10<=n) (I:n<100):eQ n=[48+((n / 10:Nat):Int),48+((n % 10:Nat):Int)]:=by
 rw[l8,if_neg Ω,zd Ω];rfl
theorem HB (I:n<100):aj x3 ET [Δ (n:Int)] w λv w'=>v=bw (eQ n)/\Ext w w':=by
 refine aA func312 ?_;rw[ao,ad];refine⟨λh=>?_,λh=>?_⟩
 .rw[aN,wrap_i64 Ω Ω];refine (zb (s:=zc) (i:=n) (j:=n+1) rfl Ω cK.u Ω (by show n+1<=36;omega)).mpr ?_;rw[Hz ⟨n,Ω⟩,zd Ω];exact⟨rfl,Ext.refl _⟩
 .rw[fp,wrap_i64 Ω Ω,fp,wrap_i64 Ω Ω,aN,wrap_i64 Ω Ω];refine (zb (s:=iv) (i:=2*n) (j:=2*n+2) Ω Ω cK.u Ω (by rw[y8];omega)).mpr ?_;rw[Hy ⟨n,I⟩,HA Ω I];exact⟨rfl,Ext.refl _⟩
theorem HC {g:Nat} {U V:List Int} (I:iw w g 1 U C V) (W:C.length<=23):aI .u8 w (.slice (σ ⟨g,1,ν⟩) C.length 23) C:=by
 obtain⟨I,X⟩:=I;refine⟨Ξ,g,1,_,23,rfl,W,by simp[maxLen],λ_=>rfl,λj v J=>?_⟩;have Y:j<C.length:=by have:=(x4.1 J).1;simpa using this
 refine I.cell ?_;rw[ints,Z4,Z4,j0 Θ,Z1 Θ,u5,X,S8];exact J
theorem ze {g:Nat} (I:y=((m+2:Nat):Int)) (hm:m<=22):
  J x3 (W3 k5 (Γ g) (σ (Δ 1)) (σ (Δ y)) ν) w K=K (.slice (σ ⟨g,1,ν⟩) (m+1) 23):=by
 subst I;have:=qA (w:=w) (b:=g) (o:=0) (low:=σ (Δ 1)) (high:=σ (Δ ((m+2:Nat):Int))) (mx:=ν) (l:=1) (h:=m+2) (m:=24) (K:=K) k5.u cr.i ⟨_,rfl⟩ ⟨_,rfl⟩ er Ω Ω Ω;rw[this,if_neg Ω];rfl
theorem HD (aa:eM w) (ab:n<9223372036854775808):aj x3 EO [Δ (n:Int),Δ 10] w λv w'=>v=bw (eQ n)/\Ext w w':=by
 refine aA func302 ?_;rw[bi];refine (ad).mpr ⟨λ_=>?_,λh=>absurd rfl h⟩;refine aP (λv U=>w=U/\v= .bool (decide (n<100))) ?_ ?_
 rotate_left
 .intro ac J;rw[lN,ad];refine⟨λ_=>?_,λh=>Ω⟩;rw[ao];exact J _ _ ⟨rfl,by congr 1;rw[V8,decide_eq_true_eq,decide_eq_true_eq];omega⟩
 rintro _ _ ⟨rfl,rfl⟩;rw[ad];refine⟨λh=>?_,λh=>?_⟩
 .exact (HB h).mono λ_ _ _ h=>h
 refine bt k5.i λg U al W ae=>?_;rw[eZ an.u eo.u,wrap_u64 Ω Ω];refine aP (λv V=>U=V/\v= .int .u64 (n:Int)) ?_ ?_
 rotate_left
 .intro ac J;rw[ao,ad];exact⟨λh=>Ω,λ_=>J _ _ ⟨rfl,rfl⟩⟩
 rintro _ _ ⟨rfl,rfl⟩;refine (Hx (aa.ext W) Ω ab).mono ?_;rintro _ V _ ⟨X,m,rfl,hm,af,Y⟩;rw[aN,wrap_i64 Ω Ω];rw[ze (m:=m) Ω Ω];have ag:iw V g 1 [0] (o6 (m+1) 0) (o6 (22-m) 0):=by
  refine⟨?_,rfl⟩;have e:[0]++o6 (m+1) (0:Int)++o6 (22-m) 0=o6 24 0:=by
   rw[show[(0:Int)]=o6 1 0 from rfl,List.replicate_append_replicate,List.replicate_append_replicate];congr 1;omega
  rw[e];exact ae.ext X
 refine (Hq (N:=m+1) ag Ξ Ω Y).mono ?_;rintro _ am _ ⟨rfl,ah,ai⟩;rw[ao,ad];refine⟨λh=>Ω,λ_=>?_⟩;rw[aN,wrap_i64 Ω Ω];rw[ze (m:=m) Ω Ω];have ak:=oX (m+1) n;have I:=HC ai Ω;rw[ak] at I;rw[s8 cw.u cr.u cK.u I,y7 m n af Y];refine⟨rfl,(W.trans X).then ah λr ap he=>?_⟩;have he:r=g:=he;omega
theorem HE (I:eM w) (J:n<9223372036854775808):aj x3 sK [Δ (n:Int)] w λv w'=>v=bw (eQ n)/\Ext w w':=by
 refine aA func243 ?_;refine aj.mono (K:=λv w'=>v=bw (eQ n)/\Ext w w') ?_ (λ_ _ _ h=>h);refine aA func278 ?_;exact (HD I J).mono λ_ _ _ h=>h
theorem eM.V (h:eM w) (I:af S w w') (J:¬S 1):eM w':=oo I J h
def c3 (w:x2) (g gs:Nat) (A:ai) (B:ai) (clean:Bool) (s:Option aG):Prop:=match s with
 |some s=>cZ w g gs A B s clean
 |none=>eb w g gs A B
theorem fe.of {g:Nat} {A:ai} {B:ai} {s:Option aG} (h:fe w g gs A B clean s w'):af (bq g gs A) w w'/\c3 w' g gs A B clean s:=h
theorem fe.mk {g:Nat} {A:ai} {B:ai} {s:Option aG} (h:af (bq g gs A) w w') (I:c3 w' g gs A B clean s):fe w g gs A B clean s w':=⟨h,I⟩
theorem c3.V {g:Nat} {A:ai} {B:ai} {s:Option aG} (h:c3 w g gs A B clean s) (I:af S w w') (J:∀r,bq g gs A r->¬S r) (U:∀r,cn g gs A B r->¬S r):c3 w' g gs A B clean s:=by
 cases s with
 |none=>exact eb.V (g:=g) (gs:=gs) (A:=A) (B:=B) h I J U
 |some s=>exact cZ.V (g:=g) (gs:=gs) (A:=A) (B:=B) (s:=s) (clean:=clean) h I J U
theorem c3.ext {g:Nat} {A:ai} {B:ai} {s:Option aG} (h:c3 w g gs A B clean s) (I:Ext w w'):c3 w' g gs A B clean s:=h.V (I.V λ_=>False) (λ_ _ h=>h) λ_ _ h=>h
theorem c3.side {g:Nat} {A:ai} {B:ai} {s:Option aG} (h:c3 w g gs A B clean s):jE w g gs A B:=by
 cases s with
 |none=>exact h.1
 |some s=>exact h.1
def aZ (lo hi:Int) (s:Option aG):Option (Int×aG):=s.bind (ba lo hi)
theorem ky {g:Nat} {A:ai} {B:ai} {s:Option aG} (h:c3 w g gs A B clean s):aj x3 lI [Γ g,Δ lo,Δ hi] w λv w'=>fe w g gs A B clean ((aZ lo hi s).map (·.2)) w'/\ ∃n at_:Int,v= .tuple #[Δ n,Δ at_]/\(∀q,aZ lo hi s=σ q->n=q.1)/\(aZ lo hi s=ν->n=0):=by
 cases s with
 |none=>
  refine (Gz h).mono ?_;rintro _ U _ ⟨I,rfl⟩;exact⟨⟨I.V _,eb.ext (g:=g) (gs:=gs) (A:=A) (B:=B) h I⟩,0,0,rfl,λq h=>(by cases h),λ_=>rfl⟩
 |some s=>exact tp (s:=s) h
theorem nB {g:Nat} {A:ai} {B:ai} {s:Option aG} (h:c3 w g gs A B clean s):aj x3 jt [Γ g] w λv w'=>v= .bool s.isSome/\Ext w w':=by
 cases s with
 |none=>exact md h
 |some s=>exact nv h
theorem HF {g:Nat} {A:ai} {B:ai} {s:Option aG} {e:Int} (h:c3 w g gs A B clean s) (he:e≠0):aj x3 lJ [Γ g,Δ e,Δ at_] w λ_ w'=>fe w g gs A B clean ν w':=by
 cases s with
 |none=>
  refine (Gx h).mono ?_;rintro _ U _ I;exact⟨I.V _,eb.ext (g:=g) (gs:=gs) (A:=A) (B:=B) h I⟩
 |some s=>
  refine (qT (s:=s) h he).mono ?_;rintro _ U _ ⟨J,W⟩;exact⟨J.mono λr _ h=>.inl h,W⟩
theorem o0 {g:Nat} {A:ai} {B:ai} {s:Option aG} {b:Bool} (h:c3 w g gs A B clean s):aj x3 oj [Γ g,.bool b,Δ at_] w λ_ w'=>fe w g gs A B clean (s.map (a1 b)) w':=by
 cases s with
 |none=>
  refine (yA h).mono ?_;rintro _ U _ I;exact⟨I.V _,eb.ext (g:=g) (gs:=gs) (A:=A) (B:=B) h I⟩
 |some s=>
  refine (qU (s:=s) h).mono ?_;rintro _ U _ ⟨J,W⟩;exact⟨J.mono λr _ h=>.inl h,W⟩
theorem li {n:Int} {s:Option aG} {s':aG} (h:aZ lo hi s=σ (n,s')):lo<=n/\n<=hi:=by
 cases s with
 |none=>cases h
 |some s=>exact (gN h).1
def eG (ks acc:List Int) (s:Option aG):Option (List Int×aG):=s.bind (hB ks acc)
theorem zf {acc:List Int} {s:Option aG}:eG (k::ks) acc s=match aZ 0 (k-1) s with
  |none=>ν
  |some (v,s)=>hB ks (acc++[v]) s:=by
 cases s with
 |none=>rfl
 |some s=>
  show hB (k::ks) acc s=_;rw[hB];show _=match ba 0 (k-1) s with|none=>ν|some (v,s)=>hB ks (acc++[v]) s
  cases ba 0 (k-1) s <;> rfl
theorem zg:∀ (t:List Int),(∀x∈t,0<=x/\x<=av)->(dI t).length<=20*t.length
 |[],_=>by simp[dI]
 |x::t,h=>by
  have U:=zg t λy I=>h y (.tail _ I);have J:=h x (.head _);have V:=tb 19 x.toNat (by unfold av at J;omega) Ω;have e:dI (x::t)=eQ x.toNat++[32]++dI t:=by simp[dI]
  rw[e];simp only[r8,j5,List.length_nil];omega
theorem HG {g am:Nat} {A B:ai} {s:Option aG} {sizes:List Int} {aS:x1->x2->Prop}
  (h:c3 w g gs A B clean s) (aT:aI .i64 w sv sizes) (bh:∀r,leads sv r->¬bq g gs A r/\r≠am) (bi:∀z∈sizes,1<=z/\z<=av) (b7:sizes.length<=100001) (bk:eM w) (h1:cn g gs A B 1)
  (aV:ae w am dH [.slice ν 0 0,Δ 0]) (aW:¬bq g gs A am) (aX:¬B am)
  (aY:∀t w' aD I,t.length=sizes.length->(∀x∈t,0<=x/\x<=av)->af (λr=>bq g gs A r\/r=am) w w'->ae w' am dH [aD,Δ 0]->aq .i64 an w' I aD t->w.heap.size<=I->
   c3 w' g gs A B clean ((eG sizes [] s).map (·.2))->(∀q,eG sizes [] s=σ q->t=q.1)->aS (bw (dI t)) w'):
  bC (.string ⟨#[]⟩) (Δ 0) w λkey aL ah bl=>
   J x3 (aB .lss ab false false aL (Δ (sizes.length:Int))) ah λbm=>
   Split bm (J x3 (n0 ax sv aL) ah λbn=>
   J x3 (x5 an bn) ah λbo=>
   J x3 (aB .sub an false true bo (Δ 1)) ah λbp=>
   aj x3 lI [Γ g,(Δ 0),bp] ah λa1 al=>
   J x3 (Z8 a1 0) al λa2=>
   J x3 (Z8 a1 1) al λb8=>
   J x3 (x7 dH (Γ am) 0) al λbr=>
   J x3 (x5 ax br) al λbt=>
   az x3 (Z7 ax 1 #[(0,a2)]) al λbu bx=>
   az x3 (l7 #[ax,ax] ax #[bt,bu]) bx λbz a6=>
   J x3 (x7 dH (Γ am) 0) a6 λbA=>
   az x3 (o4 ax bA bz) a6 λ(_:Unit) bB=>
   aj x3 sK [a2] bB λbD aw=>
   J x3 (aB .add cK false true bD (.string ⟨#[32]⟩)) aw λbE=>
   J x3 (aB .add cK false false key bE) aw λbF=>
   J x3 (aB .add ab false true aL (Δ 1)) aw λbG=>
   bl bF bG aw) (aS key ah):=by
 have b9:=aV.lt;have bH:=h.side;obtain⟨ca,cb,cc,bI,bJ⟩:=bH;refine bC.range sizes.length (λj key U=>∃t aD I s1,key=bw (dI t)/\t.length=j/\(∀x∈t,0<=x/\x<=av)/\af (λr=>bq g gs A r\/r=am) w U/\ae U am dH [aD,Δ 0]/\aq .i64 an U I aD t/\w.heap.size<=I/\
  c3 U g gs A B clean s1/\eG sizes [] s=eG (sizes.drop j) t s1) aT.le ⟨[],_,w.heap.size,s,rfl,rfl,λx Y=>(by cases Y),af.refl _ _,aV,aq.nil _ _ _ _,o8 _,h,rfl⟩ ?_ ?_
 rotate_left
 .rintro _ U bK ⟨t,aD,I,s1,rfl,ay,ap,ak,aA,aC,aM,aE,he⟩;rw[ao,ad];refine⟨λh=>Ω,λ_=>?_⟩;rw[List.drop_length] at he;cases s1 with
  |none=>
   have he:eG sizes [] s=ν:=he;exact aY t U aD I ay ap ak aA aC aM (by rw[he];exact aE) (λq W=>by rw[he] at W;cases W)
  |some s1=>
   have he:eG sizes [] s=σ (t,s1):=he;exact aY t U aD I ay ap ak aA aC aM (by rw[he];exact aE) (λq W=>by rw[he] at W;cases W;rfl)
 rintro j _ U bK a7 ⟨t,aD,I,s1,rfl,ay,ap,ak,aA,aC,aM,aE,he⟩ bL;obtain⟨z,aO⟩:∃z,sizes[j]? =σ z:=⟨_,y0 a7⟩;have bM:=bi z (x6 aO);have cd:z<=4611686018427387904:=bM.2;have bN:aI .i64 U sv sizes:=io aT ak λr X a n c bO bP=>by
  have:=bh r ⟨a,n,c,bO,bP⟩;exact X.elim this.1 this.2
 have ag:∀r,bq g gs A r->r<w.heap.size:=bI;rw[ao,ad];refine⟨λ_=>?_,λh=>Ω⟩;rw[bc ax.u an.i Ψ bN aO,cX,wrap_i64 Ω Ω];refine (ky aE).mono ?_;rintro _ ce _ ⟨bQ,n,at_,rfl,a8,bR⟩;obtain⟨aF,bS⟩:=bQ.of;have ba:0<=n/\n<=av:=by
  cases W:aZ 0 (z-1) s1 with
  |none=>rw[bR W];exact⟨Ω,by unfold av;omega⟩
  |some q=>
   rw[a8 q W];have:=li (s':=q.2) (n:=q.1) W;exact⟨this.1,by unfold av;omega⟩
 rw[aK (v:=Δ n) rfl,aK (v:=Δ at_) rfl];have bb:=aA.V aF aW;have bT:=aC.V aF λ_ bU=>by have:=ag _ bU;omega
 rw[aa dH.p rfl,ac Ψ (bb.cell (o:=0+0) rfl)];refine dJ ax.u an.i rfl λa aU bV cg au bW=>?_;refine hy ax.u an.i rfl (bT.ext au) bW.ls Θ Θ λbd be bX ch aP aH=>?_;have ci:=ak.size;have cj:=aF.size;have z3:=au.size;have z4:=aH.size;rw[aa dH.p rfl];have bY:=(bb.ext au).V aH (λhe=>by have he:am=I:=he;omega);refine bj (g:=am) (o:=0) ax.i aP.ls.cells.1 aP.ls.cells.2 bY Ξ λbf aQ ck aR=>?_;have aR:ae bf am dH [bd,Δ 0]:=aR;have bZ:af (λr=>bq g gs A r\/r=am) w bV:=(ak.trans (aF.mono λr _ h=>.inl h)).trans (au.V _);have b0:af (λr=>bq g gs A r\/r=am) w bX:=gb bZ aH λr X he=>by have he:r=I:=he;omega
 have bg:af (λr=>bq g gs A r\/r=am) w bf:=b0.trans (aQ.mono λr _ h=>.inr h);have b1:¬(λr=>bq g gs A r\/r=am) 1:=λh=>h.elim h1.1 λh=>aX (h▸h1.2);obtain⟨m,rfl⟩:∃m:Nat,n=(m:Int):=⟨n.toNat,Ω⟩;unfold av at ba;refine (HE (bk.V bg b1) Ω).mono ?_;rintro _ cl _ ⟨rfl,aJ⟩;have cm:=tb 19 m Ω Ω;have cp:=zg t ap;rw[show (ByteArray.mk #[32])=strOfNums [32] from rfl,s7 Θ,s7 Θ,aN];refine bL _ _ ⟨t++[(m:Int)],bd,be,(aZ 0 (z-1) s1).map (·.2),?_,by simp[ay],λx Y=>?_,bg.trans (aJ.V _),aR.ext aJ,(aP.V aQ (λ_ he=>by have he:be=am:=he;omega)).ext aJ,Ω,?_,?_⟩
 .rw[FO,j9]
 .rcases n9.1 Y with Y|Y
  .exact ap x Y
  .rw[l9.1 Y];exact ba
 .refine c3.ext ?_ aJ;have b2:=bS.ext au;have b3:∀r,bq g gs A r->¬(λr=>r=I) r:=λr X he=>by have:=ag r X;have he:r=I:=he;omega
  have b4:∀r,cn g gs A B r->¬(λr=>r=I) r:=λr X he=>by have:=bJ r X.2;have he:r=I:=he;omega
  have b5:∀r,bq g gs A r->¬(λr=>r=am) r:=λr X he=>by have he:r=am:=he;exact aW (he▸X)
  have b6:∀r,cn g gs A B r->¬(λr=>r=am) r:=λr X he=>by have he:r=am:=he;exact aX (he▸X.2)
  exact (b2.V aH b3 b4).V aQ b5 b6
 .rw[he,W8 a7,show sizes[j]=z from (x4.1 aO).2,zf];cases W:aZ 0 (z-1) s1 with
  |none=>rfl
  |some q=>
   rw[a8 q W];rfl
def dy (s:aG):Prop:=s.big=false->s.told<=16384
def ix (n:Int) (s:aG):aG:=a1 (decide (16384<min (s.told+n) av)) {s with told:=min (s.told+n) av}
theorem HH (n:Int) (s:aG):dy (ix n s):=λh=>by
 have h:(s.big||decide (16384<min (s.told+n) av))=false:=h;have:=of_decide_eq_false (S0.1 h).2;show min (s.told+n) av<=16384;omega
theorem HI {g:Nat} {A B:ai} {s:Option aG} {n:Int} {K:x2->Prop} (h:c3 w g gs A B clean s) (ay:∀t,s=σ t->0<=n/\n<=av/\dy t)
  (ap:∀w',af (bq g gs A) w w'->c3 w' g gs A B clean (s.map (ix n))->K w'):
  J x3 (aX (Γ g)) w λaA=>
  J x3 (x7 b4 aA 2) w λaC=>
  J x3 (x5 an aC) w λaD=>
  J x3 (aB .add an false false aD (Δ n)) w λaE=>
  J x3 (l5.min_ #[an,an] an #[aE,(Δ 4611686018427387904)]) w λaF=>
  J x3 (aX (Γ g)) w λaH=>
  J x3 (x7 b4 aH 2) w λaI=>
  az x3 (o4 an aI aF) w λ(_:Unit) ab=>
  J x3 (aX (Γ g)) ab λt77=>
  J x3 (x7 b4 t77 2) ab λaJ=>
  J x3 (x5 an aJ) ab λaK=>
  J x3 (aB .gtr an false true aK (Δ 16384)) ab λaL=>
  aj x3 oj [Γ g,aL,Δ at_] ab λ_ aM=>K aM:=by
 cases s with
 |none=>
  obtain⟨I,e,big,ag,ah,told,sv,l,ad,al,am⟩:=id h;rw[aw,aa b4.p rfl,ac Ψ (ad.cell (o:=0+5) rfl),aN,ik,aw,aa b4.p rfl];refine bj (g:=g) (o:=5) an.i rfl rfl ad (by simp[e2]) λU W aO X=>?_;rw[aw,aa b4.p rfl,ac Ψ (X.cell (o:=0+5) rfl),bP];have aq:eb U g gs A B:=⟨I.V W,e,big,ag,ah,_,sv,l,X,al,ak.V am W λr _ h ao=>qR h I.2.1 ao⟩;refine (yA aq).mono ?_;rintro _ aP _ au;exact ap _ ((W.mono λr _ h=>.inl h).trans (au.V _)) (aq.ext au)
 |some s=>
  obtain⟨aW,aQ,hi⟩:=ay s rfl;obtain⟨I,aR,aS,big,ag,ah,told,sv,ad,al,am⟩:=id h;rw[aw,aa b4.p rfl,ac Ψ (ad.cell (o:=0+5) rfl),aN,ik,aw,aa b4.p rfl];refine bj (g:=g) (o:=5) an.i rfl rfl ad (by simp[e2]) λU W aO X=>?_;have X:ae U g b4 (e2 gs 0 big ag ah (min (Y5.wrap (told+n)) 4611686018427387904) sv):=X;rw[aw,aa b4.p rfl,ac Ψ (X.cell (o:=0+5) rfl),bP];have key:s.big=false->min (Y5.wrap (told+n)) 4611686018427387904=min (s.told+n) av:=λY=>by
   rw[al.2 Y];have:=hi Y;unfold av at aQ ⊢;rw[wrap_i64 Ω Ω]
  have aT:cZ U g gs A B {s with told:=min (s.told+n) av} clean:=⟨I.V W,aR.V W (λhe=>I.1 he.symm) (λr aU he=>aU.1 (.inl he)),⟨by show 0<=min _ _;unfold av;omega,by show min _ _<=_;omega,aS.2.2⟩,big,ag,ah,_,sv,X,⟨al.1,key⟩,ak.V am W λr _ h ao=>qR h I.2.1 ao⟩;refine (qU aT).mono ?_;rintro _ aP _ ⟨aV,ax⟩;refine ap _ ((W.trans aV).mono λr _ h=>.inl h) ?_;have e:a1 (decide (16384<min (Y5.wrap (told+n)) 4611686018427387904)) {s with told:=min (s.told+n) av}=ix n s:=by
   cases Y:s.big with
   |false=>rw[key Y,<-Y];rfl
   |true=>simp[ix,a1,Y]
  rw[e] at ax;exact ax
def hG (sizes:List Int) (s:Option aG):Option (List (List Int×Int)×aG):=s.bind (dx sizes)
def jH (w:x2) (m:Nat) (acc:List (List Int×Int)):Prop:=cN w m (acc.map λp=>(bw (dI p.1),Δ 1))
def i9 (w:x2) (m:Nat):Prop:=∃d,cN w m d/\ ∀p∈d,∃ (k:ByteArray) (c:Int),p=(.string k,Δ c)
theorem jH.any {acc:List (List Int×Int)} (h:jH w m acc):i9 w m:=⟨_,h,λp I=>by
 obtain⟨q,_,rfl⟩:=Z5.1 I;exact⟨_,_,rfl⟩⟩
theorem HJ {k:ByteArray} (h:i9 w m) (V:∀c:Int,K (Δ c)):J x3 (Instr.lookup fY (.map (σ m)) (.string k) false) w K:=by
 obtain⟨d,hm,W⟩:=h;have X:=Keys.str cK.u;have Y:∀p∈d,∃s,p.1=x1.string s:=λp I=>by obtain⟨s,c,rfl⟩:=W p I;exact⟨s,rfl⟩
 by_cases he:∃p∈d,p.1=x1.string k
 .obtain⟨p,I,U⟩:=he;obtain⟨j,aa⟩:=Y7.1 I;obtain⟨s,c,rfl⟩:=W p I;have U:x1.string s=x1.string k:=U;rw[U] at aa;rw[oQ fY.u X hm Y ⟨k,rfl⟩ aa];exact V c
 .have ac:∀p∈d,p.1≠x1.string k:=λp I h=>he ⟨p,I,h⟩;rw[q1 fY.u X ⟨_,_,ab.i⟩ hm Y ⟨k,rfl⟩ ac];exact V 0
theorem HK {k:ByteArray} {K:Unit->x2->Prop} (h:i9 w m) (W:∀w',af (λr=>r=m) w w'->i9 w' m->K () w'):az x3 (Instr.mapUpdate fY (.map (σ m)) (.string k) (Δ c)) w K:=by
 obtain⟨d,hm,J⟩:=h;have X:∀p∈d,∃s,p.1=x1.string s:=λp I=>by obtain⟨s,c,rfl⟩:=J p I;exact⟨s,rfl⟩
 refine oR fY.u (Keys.str cK.u) hm X ⟨k,rfl⟩ (λj v0 w' Y U V=>W w' V ⟨_,U,λp I=>?_⟩) (λw' aa U V=>W w' V ⟨_,U,λp I=>?_⟩)
 .rcases V3 I with I|rfl
  .exact J p I
  .exact⟨_,_,rfl⟩
 .rcases n9.1 I with I|I
  .exact J p I
  .rw[l9.1 I];exact⟨_,_,rfl⟩
theorem zh {b:List Int} (I:∀x∈a,0<=x) (J:∀x∈b,0<=x) (h:bw (dI a)=bw (dI b)):a=b:=by
 have h:strOfNums (dI a)=strOfNums (dI b):=x1.string.inj h;exact xJ I J (str_inj (xK a) (xK b) h)
theorem tH {acc:List (List Int×Int)}:∀p∈acc.map λp=>(bw (dI p.1),V2 .i64 1),∃s,p.1=x1.string s:=λp I=>by
 obtain⟨q,_,rfl⟩:=Z5.1 I;exact⟨_,rfl⟩
theorem zi {acc:List (List Int×Int)} {t:List Int} (h:jH w m acc) (W:∀p∈acc,∀x∈p.1,0<=x) (X:∀x∈t,0<=x):
  J x3 (Instr.lookup fY (.map (σ m)) (bw (dI t)) false) w K=K (Δ (if t∈acc.map (·.1) then 1 else 0)):=by
 have U:=Keys.str cK.u;by_cases he:t∈acc.map (·.1)
 .rw[if_pos he];obtain⟨p,I,rfl⟩:=Z5.1 he;obtain⟨j,Y⟩:=Y7.1 I;rw[oQ fY.u U h tH ⟨_,rfl⟩ (j:=j) (v:=Δ 1) (by rw[x8,Y];rfl)];simp
 .rw[if_neg he];rw[q1 fY.u U ⟨_,_,ab.i⟩ h tH ⟨_,rfl⟩ (λp I aa=>?_)]
  .simp
  .obtain⟨q,V,rfl⟩:=Z5.1 I;have:=zh (W q V) X aa;exact he (Z5.2 ⟨q,V,this⟩)
theorem HL {acc:List (List Int×Int)} {t:List Int} {K:Unit->x2->Prop} (h:jH w m acc) (X:∀p∈acc,∀x∈p.1,0<=x) (Y:∀x∈t,0<=x) (aa:t∉acc.map (·.1))
  (ab:∀w',af (λr=>r=m) w w'->jH w' m (acc++[(t,c)])->K () w'):az x3 (Instr.mapUpdate fY (.map (σ m)) (bw (dI t)) (Δ 1)) w K:=by
 refine oR fY.u (Keys.str cK.u) h tH ⟨_,rfl⟩ (λj v0 w' J U V=>?_) (λw' _ U V=>ab w' V ?_)
 .rw[x8] at J;obtain⟨q,W,I⟩:=Y8.1 J;have I:bw (dI q.1)=bw (dI t):=congrArg Prod.fst I;have:=zh (X q (x6 W)) Y I;exact absurd (Z5.2 ⟨q,x6 W,this⟩) aa
 .unfold jH;rw[Z4];exact U
end Go.Proofs.YtgbkinibgjmodaaGreatDoor
