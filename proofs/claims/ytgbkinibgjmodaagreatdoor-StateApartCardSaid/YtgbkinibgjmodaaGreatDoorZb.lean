/- own texts, made small by a tool (wip/ holds them as they were written): no statement of the seat. -/
import Derived.Test.YtgbkinibgjmodaaGreatDoorZa
set_option linter.unusedVariables false
set_option linter.unusedSimpArgs false
set_option linter.unnecessarySimpa false
open Array renaming getElem?_eq_some_iff→j6,getElem?_toList→S4
open BitVec renaming ofInt→U8
open Bool renaming not_true→Y1,not_false→X5,eq_iff_iff→V8,and_eq_true→U4,or_eq_false_iff→S2
open Decidable renaming not_not→X4
open Go renaming Value→x1,World→x2,TypeId→r9,IntKind→o6,Builtin→l7,Program→W7
open Go.Addr renaming add_mid→U7
open Go.Builtin renaming append_→l9,len_→Y3
open Go.Instr renaming loadAt→x6,fieldAt→x7,storeAt→o5,indexAt→n0,buildSlice→Z7,extract→Z9,sliceAt→W6
open Go.IntKind renaming i64→Y6,u64→U6
open Go.Proofs.Tryz renaming prog→x3
open Go.Result renaming andThen→W5
open Go.Sem renaming run_bind→W0,run_pure→V1
open Go.Value renaming int→V4
open Int renaming toNat_natCast→j0
open List renaming getElem?_eq_getElem→y0,getElem?_eq_some_iff→x4,mem_of_getElem?→x5,getElem?_map→x8,length_map→u4,getD_eq_getElem?_getD→u5,length_append→u9,take_add_one→r8,length_take→o4,replicate→o7,take_length→o9,mem_append→n9,take_of_length_le→l5,mem_singleton→j4,length_cons→j5,getElem?_append_left→j9,mem_map→Z1,getElem?_append_right→Z2,map_append→Z3,eq_nil_of_length_eq_zero→Z5,getElem?_take_of_lt→Y2,getElem?_eq_none→Y4,mem_iff_getElem?→Y7,append_assoc→X1,length_set→X2,append_nil→X6,getElem?_set→X7,ext_getElem?→X8,range→W3,getElem?_set_ne→W8,drop_eq_getElem_cons→V0,pairwise_iff_getElem→V2,flatMap_cons→V5,mem_or_eq_of_mem_set→V7,getElem?_set_self→V9,length_singleton→U2,set_append_right→U9,mem_cons→T1,map_set→T2,getElem_mem→T6,map_cons→S3,length→R4,length_drop→R5
open Nat renaming le_refl→o8,mul_le_mul_right→Y5,le_trans→Y9,zero_le→X3,sub_self→W9,zero_add→V3,add_mul→U5,mul_one→T5,min_eq_left→T7,pow_le_pow_right→S5,le_succ→S6,add_assoc→S8,add_sub_cancel_left→R3
open Ne renaming symm→T9
open Option renaming isNone_some→Z0,toList_some→Z4,map_some→Y0,map_eq_some_iff→X0,getD_some→T4
open Option.some renaming inj→Z8,injEq→Y8
open Prod.mk renaming injEq→T8
set_option maxHeartbeats 16000000
open Option renaming some→σ,none→ν
variable {I N gs j m n r:Nat}{e t:r9}{at_ c hi k lo o y:Int}{sv v z:x1}{cs:List x1}{K:x1->Prop}{U:o6}{C a ks l szs:Λ}{w w':x2}{clean cx cy:Bool}{S:Nat->Prop}
namespace Go.Proofs.YtgbkinibgjmodaaGreatDoor
open Go Go.Vc Go.RowKit Go.Proofs Go.Proofs.Tryz
set_option maxRecDepth 100000
structure Cell where
 v:Int
 st:Nat
structure jd where
 i:Nat
 c:Cell
structure mn where
 olds:Nat
 cells:Nat
 st:Nat
structure aD where
 cells:List Cell
 olds:List jd
 marks:List mn
 ever:Nat
def aD.bT (t:aD):Λ:=t.cells.map (·.v)
def aD.set (t:aD) (i:Nat) (x:Int):aD:=match t.cells[i]? with
 |none=>t
 |some c=>match t.marks.getLast? with
  |none=>{t with cells:=t.cells.set i ⟨x,c.st⟩}
  |some m=>if c.st<m.st/\i<m.cells then {t with olds:=t.olds++[⟨i,c⟩],cells:=t.cells.set i ⟨x,m.st⟩} else {t with cells:=t.cells.set i ⟨x,c.st⟩}
def aD.grow (t:aD) (n:Nat):aD:={t with cells:=t.cells++o7 n ⟨0,0⟩}
def aD.mark (t:aD):aD:={t with marks:=t.marks++[⟨t.olds.length,t.cells.length,t.ever+1⟩],ever:=t.ever+1}
def back (os:List jd) (cs:List Cell):List Cell:=os.foldr (λo cs=>cs.set o.i o.c) cs
def aD.gP (t:aD) (m:Nat):aD:=match t.marks[m]? with
 |none=>t
 |some x=>{cells:=(back (t.olds.drop x.olds) t.cells).take x.cells,olds:=t.olds.take x.olds,marks:=t.marks.take m,ever:=t.ever}
theorem mo:∀ (os:List jd) (cs:List Cell),(back os cs).length=cs.length
 |[],_=>rfl
 |o::os,cs=>by
  have:=mo os cs;show ((back os cs).set o.i o.c).length=_;rw[X2,this]
theorem back_append (a b:List jd) (cs:List Cell):back (a++b) cs=back a (back b cs):=by unfold back;rw[List.foldr_append]
theorem tr:∀ {os:List jd} {cs:List Cell} {n:Nat},(back os cs).take n=back (os.filter λo=>decide (o.i<n)) (cs.take n)
 |[],cs,n=>rfl
 |o::os,cs,n=>by
  show ((back os cs).set o.i o.c).take n=_;by_cases h:o.i<n
  .rw[List.filter_cons_of_pos (by simpa using h),List.take_set,tr];rfl
  .rw[List.filter_cons_of_neg (by simpa using h),List.take_set_of_le Ω,tr]
theorem ts {os:List jd} {cs:List Cell} (h:∀o∈os,o.i<n):(back os cs).take n=back os (cs.take n):=by
 rw[tr,List.filter_eq_self.2 λo I=>by simpa using h o I]
theorem xV:∀ {os:List jd} {cs I:List Cell} {i:Nat},cs.length=I.length->(∃o∈os,o.i=i)->(back os cs)[i]? =(back os I)[i]?
 |[],_,_,_,_,⟨_,h,_⟩=>by cases h
 |o::os,cs,I,i,U,hm=>by
  show ((back os cs).set o.i o.c)[i]? =((back os I).set o.i o.c)[i]?;rw[X7,X7];by_cases h:o.i=i
  .rw[if_pos h,if_pos h,mo,mo,U]
  .rw[if_neg h,if_neg h];obtain⟨x,J,he⟩:=hm;rcases T1.1 J with rfl|J
   .exact absurd he h
   .exact xV U ⟨x,J,he⟩
theorem xW:∀ {os:List jd} {cs I:List Cell} {i:Nat},cs[i]? =I[i]? ->cs.length=I.length->(back os cs)[i]? =(back os I)[i]?
 |[],_,_,_,h,_=>h
 |o::os,cs,I,i,h,J=>by
  show ((back os cs).set o.i o.c)[i]? =((back os I).set o.i o.c)[i]?;rw[X7,X7,mo,mo,J,xW h J]
def ds:aD->List aD->Prop
 |t,[]=>t.marks=[]/\t.olds=[]/\ ∀c∈t.cells,c.st<=t.ever
 |t,s::h=>ds s h/\(∀c∈t.cells,c.st<=t.ever)/\ ∃m new,t.marks=s.marks++[m]/\m.olds=s.olds.length/\m.cells=s.cells.length/\t.olds=s.olds++new/\m.cells<=t.cells.length/\(back new t.cells).take m.cells=s.cells/\
   (∀c∈s.cells,c.st<m.st)/\(∀c∈t.cells,c.st<=m.st)/\(∀ (i:Nat) c,i<m.cells->t.cells[i]? =σ c->c.st=m.st-> ∃o∈new,o.i=i)/\(∀o∈new,o.i<m.cells)/\m.st<=t.ever/\s.ever<=t.ever
theorem ds.len:∀ {h:List aD} {t:aD},ds t h->t.marks.length=h.length
 |[],t,I=>by rw[I.1];rfl
 |s::h,t,I=>by
  obtain⟨h1,_,m,new,J,_⟩:=I;rw[J,u9,ds.len h1];rfl
theorem ds.FW {h:List aD} {t:aD} (I:ds t h):∀c∈t.cells,c.st<=t.ever:=by
 cases h with
 |nil=>exact I.2.2
 |cons s h=>exact I.2.1
theorem ds.ever:∀ {h:List aD} {t:aD} {n:Nat},ds t h->t.ever<=n->ds {t with ever:=n} h
 |[],t,n,I,J=>⟨I.1,I.2.1,λc U=>Y9 (I.2.2 c U) J⟩
 |s::h,t,n,I,J=>by
  obtain⟨h1,V,m,new,W,X,a3,a4,a5,Y,aa,ab,a9,ac,ad,ae⟩:=I;exact⟨h1,λc U=>Y9 (V c U) J,m,new,W,X,a3,a4,a5,Y,aa,ab,a9,ac,Y9 ad J,Y9 ae J⟩
theorem ds.mark {h:List aD} {t:aD} (U:ds t h):ds t.mark (t::h):=by
 have I:=U.FW;refine⟨U,λc J=>Y9 (I c J) (S6 _),⟨t.olds.length,t.cells.length,t.ever+1⟩,[],rfl,rfl,rfl,by show t.olds=_;rw[X6],o8 _,?_,λc J=>Nat.lt_succ_of_le (I c J),λc J=>Y9 (I c J) (S6 _),λi c _ hi he=>?_,λo V=>(by cases V),o8 _,S6 _⟩
 .show t.cells.take t.cells.length=_;rw[o9]
 .have:=I c (x5 hi);have he:c.st=t.ever+1:=he;omega
theorem ds.grow {h:List aD} {t:aD} (J:ds t h):ds (t.grow n) h:=by
 cases h with
 |nil=>
  refine⟨J.1,J.2.1,λc I=>?_⟩;rcases n9.1 I with I|I
  .exact J.2.2 c I
  .rw[(List.mem_replicate.1 I).2];exact X3 _
 |cons s h=>
  obtain⟨h1,W,m,new,X,Y,a3,a4,a5,aa,ab,ac,a9,U,ad,ae⟩:=J;have V:∀ {b:Nat},(∀c∈t.cells,c.st<=b)-> ∀c∈(t.grow n).cells,c.st<=b:=λaf c I=>by
   rcases n9.1 I with I|I
   .exact af c I
   .rw[(List.mem_replicate.1 I).2];exact X3 _
  refine⟨h1,V W,m,new,X,Y,a3,a4,by show m.cells<=(t.cells++_).length;rw[u9];omega,?_,ab,V ac,λi c hi I he=>?_,U,ad,ae⟩
  .show (back new (t.cells++_)).take m.cells=_;rw[ts U,List.take_append_of_le_length a5,<-ts U];exact aa
  .have I:(t.cells++o7 n ⟨0,0⟩)[i]? =σ c:=I;rw[j9 Ω] at I;exact a9 i c hi I he
theorem FX {s:aD} {m:mn} {l:List mn} (h:l=s.marks++[m]):l.getLast? =σ m:=by rw[h,List.getLast?_concat]
theorem ds.set {h:List aD} {t:aD} {i:Nat} {x:Int} (ad:ds t h):ds (t.set i x) h:=by
 unfold aD.set;cases W:t.cells[i]? with
 |none=>exact ad
 |some c=>
  have ah:=(x4.1 W).1;have aa:=x5 W;have X:∀ {b st:Nat},(∀c∈t.cells,c.st<=b)->st<=b-> ∀d∈t.cells.set i ⟨x,st⟩,d.st<=b:=λao ae d I=>by
   rcases V7 I with I|rfl
   .exact ao d I
   .exact ae
  cases h with
  |nil=>
   obtain⟨h1,Y,ai⟩:=ad;simp only[h1,List.getLast?_nil];exact⟨rfl,Y,X ai (ai c aa)⟩
  |cons s h=>
   obtain⟨h1,Y,m,new,af,aj,a3,a4,a5,ak,al,ab,a9,am,ag,an⟩:=ad;simp only[FX af];by_cases ac:c.st<m.st/\i<m.cells
   .rw[if_pos ac];refine⟨h1,X Y ag,m,new++[⟨i,c⟩],af,aj,a3,by show t.olds++_=_;rw[a4,X1],by show m.cells<=(t.cells.set i _).length;rw[X2];exact a5,?_,al,X ab (o8 _),λj d J I he=>?_,λo V=>?_,ag,an⟩
    .show (back (new++[⟨i,c⟩]) (t.cells.set i _)).take m.cells=_;rw[back_append];have:back [⟨i,c⟩] (t.cells.set i ⟨x,m.st⟩)=t.cells:=by
      show (t.cells.set i _).set i c=_;rw[List.set_set];refine X8 λj=>?_;rw[X7];by_cases J:i=j
      .subst J;rw[if_pos rfl,if_pos ah,W]
      .rw[if_neg J]
     rw[this];exact ak
    .have I:(t.cells.set i ⟨x,m.st⟩)[j]? =σ d:=I;by_cases U:i=j
     .exact⟨⟨i,c⟩,Ξ,U⟩
     .rw[X7,if_neg U] at I;obtain⟨o,V,he⟩:=a9 j d J I he;exact⟨o,List.mem_append_left _ V,he⟩
    .rcases n9.1 V with V|V
     .exact am o V
     .rw[j4.1 V];exact ac.2
   .rw[if_neg ac];refine⟨h1,X Y (Y c aa),m,new,af,aj,a3,a4,by show m.cells<=(t.cells.set i _).length;rw[X2];exact a5,?_,al,X ab (ab c aa),λj d J I he=>?_,am,ag,an⟩
    .rw[<-ak];show (back new (t.cells.set i _)).take m.cells=_;refine X8 λj=>?_;by_cases J:j<m.cells
     .rw[Y2 J,Y2 J];by_cases U:i=j
      .subst U;have ae:c.st=m.st:=by
        have:=ab c aa;have:¬c.st<m.st:=λaI=>ac ⟨aI,J⟩;omega
       exact xV (by rw[X2]) (a9 i c J W ae)
      .exact xW (by rw[X7,if_neg U]) (by rw[X2])
     .rw[Y4 (by rw[o4];omega),Y4 (by rw[o4];omega)]
    .have I:(t.cells.set i ⟨x,c.st⟩)[j]? =σ d:=I;by_cases U:i=j
     .subst U;rw[X7,if_pos rfl,if_pos ah] at I;cases I;exact a9 i c J W he
     .rw[X7,if_neg U] at I;exact a9 j d J I he
theorem ds.gP:∀ {h:List aD} {t:aD} {m:Nat} {s:aD},ds t h->h.reverse[m]? =σ s->t.gP m={s with ever:=t.ever}/\ ∃x,t.marks[m]? =σ x/\x.olds=s.olds.length/\x.cells=s.cells.length/\s.cells.length<=t.cells.length/\(∃new,t.olds=s.olds++new/\(back new t.cells).take s.cells.length=s.cells/\ ∀o∈new,o.i<t.cells.length)/\s.marks=t.marks.take m/\s.ever<=t.ever
 |[],t,m,s,_,I=>by simp at I
 |s1::h,t,m,s,aj,I=>by
  obtain⟨h1,au,mk,new,Y,ac,a3,a4,a5,ad,av,aw,a9,ae,ax,ak⟩:=aj;have af:=h1.len;have key:∀ {x:mn},t.marks[m]? =σ x->x.olds=s.olds.length->x.cells=s.cells.length->(∃U,t.olds=s.olds++U/\(back U t.cells).take s.cells.length=s.cells)->s.marks=t.marks.take m->t.gP m={s with ever:=t.ever}:=λ{x} V al am ⟨U,aa,W⟩ X=>by
   unfold aD.gP;rw[V];simp only;rw[al,am,aa,List.drop_left,List.take_left,W,<-X]
  rw[List.reverse_cons] at I;by_cases hm:m<h.length
  .rw[j9 (by simpa using hm)] at I;obtain⟨_,x,an,ag,ah,ay,⟨U,ao,ap,ai⟩,aq,az⟩:=ds.gP h1 I;have V:t.marks[m]? =σ x:=by rw[Y,j9 Ω];exact an
   have aa:t.olds=s.olds++(U++new):=by rw[a4,ao,X1]
   have W:(back (U++new) t.cells).take s.cells.length=s.cells:=by
    rw[back_append];have:((back U (back new t.cells)).take mk.cells).take s.cells.length=s.cells:=by
     rw[ts (λo J=>by have:=ai o J;omega),ad];exact ap
    rw[List.take_take,T7 Ω] at this;exact this
   have X:s.marks=t.marks.take m:=by rw[Y,List.take_append_of_le_length Ω];exact aq
   refine⟨key V ag ah ⟨_,aa,W⟩ X,x,V,ag,ah,Ω,⟨_,aa,W,λo J=>?_⟩,X,Ω⟩;rcases n9.1 J with J|J
   .have:=ai o J;omega
   .have:=ae o J;omega
  .have ab:m=h.length:=by
    have:=(x4.1 I).1;simp at this;omega
   rw[Z2 Θ] at I;simp only[List.length_reverse,ab,W9,List.getElem?_cons_zero,Y8] at I;subst I;have V:t.marks[m]? =σ mk:=by rw[Y,Z2 Ω,ab,af,W9];rfl
   have X:s1.marks=t.marks.take m:=by rw[Y,ab,<-af,List.take_left]
   have W:(back new t.cells).take s1.cells.length=s1.cells:=by rw[<-a3];exact ad
   exact⟨key V ac a3 ⟨new,a4,W⟩ X,mk,V,ac,a3,Ω,⟨new,a4,W,λo J=>by have:=ae o J;omega⟩,X,ak⟩
theorem ds.tail:∀ {h:List aD} {t:aD} {m:Nat} {s:aD},ds t h->h.reverse[m]? =σ s->ds s (h.drop (h.length-m))
 |[],t,m,s,_,I=>by simp at I
 |s1::h,t,m,s,U,I=>by
  obtain⟨h1,_⟩:=U;rw[List.reverse_cons] at I;by_cases hm:m<h.length
  .rw[j9 (by simpa using hm)] at I;have:=ds.tail h1 I;rw[j5,show h.length+1-m=(h.length-m)+1 by omega,List.drop_succ_cons];exact this
  .have J:m=h.length:=by
    have:=(x4.1 I).1;simp at this;omega
   rw[Z2 Θ] at I;simp only[List.length_reverse,J,W9,List.getElem?_cons_zero,Y8] at I;subst I;rw[j5,J,show h.length+1-h.length=1 by omega];exact h1
theorem aD.nx {t:aD} {i:Nat} {x:Int}:(t.set i x).bT=t.bT.set i x:=by
 unfold aD.set aD.bT;cases I:t.cells[i]? with
 |none=>rw[List.set_eq_of_length_le (by rw[u4];exact List.getElem?_eq_none_iff.1 I)]
 |some c=>
  simp only;cases t.marks.getLast? with
  |none=>simp only;rw[T2]
  |some m=>simp only;split<;>rw[T2]
theorem aD.FY {t:aD}:(t.grow n).bT=t.bT++o7 n 0:=by
 unfold aD.grow aD.bT;rw[Z3,List.map_replicate]
end Go.Proofs.YtgbkinibgjmodaaGreatDoor
namespace Go.Vc
open Go Go.RowKit
section
variable {P:W7} {w:x2} {m:Bool} {S R:aj}
theorem qW {b k l h:Nat} {low high:Option x1} (W:P.underlying t=σ (.slice e)) (hi:aO P e k b z)
  (I:bW w k v n cs) (h1:ky low l) (X:kz high n h) (U:l<=h) (aI:h<=n) (Y:∀V,bW w k V (h-l) ((cs.drop (l*k)).take ((h-l)*k))->K V):
  J P (W6 t v low high ν) w K:=by
 have aa:=I;obtain⟨_,ab,o,base,cap,rfl,ac,_⟩:=I;rw[fw W hi h1 X ez U Ω (o8 _)];exact Y _ (bW.part aa U aI Ω (o8 _))
theorem FZ {k:o6} {b i:Nat} (V:y=(i:Int)) (W:P.underlying t=σ (.slice e)) (hi:aO P e 1 b z)
  (h:aJ k w v l) (X:i<=l.length) (Y:∀I,aJ k w I (l.drop i)->K I):J P (W6 t v (σ (.int U y)) ν ν) w K:=by
 refine qW W hi h (l8 i y V) hC X (o8 _) λI h'=>Y I (aJ.of (n:=l.length-i) ?_);have aa:((ints k l).drop (i*1)).take ((l.length-i)*1)=ints k (l.drop i):=by
  rw[l5 Ξ,T5,ints,<-List.map_drop]
 rw[aa] at h';exact h'
theorem tt {k:o6} {b i:Nat} (V:y=(i:Int)) (W:P.underlying t=σ (.slice e)) (hi:aO P e 1 b z)
  (h:aJ k w v l) (X:i<=l.length) (Y:∀I,aJ k w I (l.take i)->K I):J P (W6 t v ν (σ (.int U y)) ν) w K:=by
 refine qW W hi h hB (ma i y V) (X3 _) X λI h'=>Y I (aJ.of (n:=i) ?_);have aa:((ints k l).drop (0*1)).take ((i-0)*1)=ints k (l.take i):=by
  simp[ints,List.map_take]
 rw[aa] at h';exact h'
theorem ny {b:Nat} {parts:Array (Nat×x1)} {K:x1->x2->Prop} (I:P.underlying t=σ (.slice e)) (hi:aO P e 1 b (Δ 0)) (aa:n<=100000) (J:l.length=n)
  (U:Instr.fill (λj=>σ (j*1,1)) ((Array.range (n*1)).map ((if n*1=0 then #[] else (V4 .i64 0).cells)[·% (if n*1=0 then #[] else (V4 .i64 0).cells).size]!)) parts.toList=σ (ints .i64 l).toArray)
  (V:∀v g w',g=w.heap.size->Ext w w'->au .i64 e w' g v l->K v w'):aA P (Z7 t n parts) w K:=
 iw I hi Ω U λg w' W X Y=>V _ g w' W X (au.of (n:=n) (bU.full (by simpa using Y) (by simp[J]) (by simp[maxLen];omega)))
end
section
variable {P:W7} {w:x2}
theorem F0 {U V:r9} {W kn:o6} {b k cap:Nat} {base:Option Addr} {xs:List x1} {K:x1->x2->Prop} (aa:y=(k:Int)) (ab:P.underlying t=σ (.slice e)) (ac:P.underlying U=σ (.int kn)) (hi:aO P e 1 b z) (ad:z.cells= #[z])
  (I:bW w 1 (.slice base n cap) n xs) (ae:0<k) (X:cap<n+k) (af:(n+k)*b<=140737488355328) (ag:n+k<=9223372036854775807)
  (ah:∀v g w',g=w.heap.size->Ext w w'->bU w' g e 1 v (n+k) (xs++o7 k z)->K v w'):aA P (l9 #[t,U] V #[.slice base n cap,.int W y]) w K:=by
 subst aa;obtain⟨i,hi,ai,rfl,aj⟩:=hi;obtain⟨J,aw,o,ax,ay,he,ak,az,al,am⟩:=I;cases he;have an:(l7.firstCells i.size n (.slice base n cap)).run P w.drew= .ok xs.toArray w.drew:=by
  rcases Nat.eq_zero_or_pos n with rfl|ao
  .have:xs=[]:=Z5 (by simpa using J);subst this;cases base with
   |none=>exact run_firstCells_none w.drew i.size 0 0 cap
   |some a=>exact run_firstCells_some w.drew i.size 0 a 0 cap [] Ξ Ξ
  .have:=al ao;subst this;refine run_firstCells_some w.drew i.size n _ n cap xs (by rw[ai];exact J) λj u hu=>?_;rw[U7];exact am j u hu
 have ap:k*i.bytes<=281474976710656:=by
  have:k*i.bytes<=(n+k)*i.bytes:=Y5 _ Ω;omega
 have aq:=Lib.run_append_grow_zeros (P:=P) w t U V e i z W kn ab ac hi aj base n cap xs an k ae Ω X Ω ap (growslice_fits X af);have au:n+k<=grownCap w (n+k) cap e:=grownCap_ge w _ _ _;have av:grownCap w (n+k) cap e<=maxLen:=grownCap_le_maxLen w (n+k) cap e (by simpa[maxLen] using ag);have Y:∀m,l7.zeroCells z.cells m=(o7 m z).toArray:=λm=>by
  rw[ad];apply Array.ext
  .simp[size_zeroCells]
  .intro j h1 ak;simp[l7.zeroCells,Nat.mod_one]
 refine .of aq ((ov w _ (S6 _)).trans (ox _ _)) (ah _ w.heap.size _ rfl ((p4 w _).trans (ow _ _)) ⟨by simp at J;simp[J],.inr ⟨_,xs++o7 k z++o7 (grownCap w (n+k) cap e-(n+k)) z,rfl,?_,au,av,?_,?_⟩⟩)
 .rw[Y,Y];have:=heap_alloc_new w.drew (.cells (xs.toArray++(o7 k z).toArray++(o7 (grownCap w (n+k) cap e-(n+k)) z).toArray) e);rw[List.append_toArray,List.append_toArray] at this ⊢;exact this
 .simp at J;simp[J];omega
 .simp at J;rw[List.take_append_of_le_length (by simp[J]),l5 (by simp[J])]
theorem xX {I:r9} {base:Option Addr} {c:Nat} (U:P.underlying t=σ (.slice e)):
  J P (l7.cap_ #[t] I #[.slice base n c]) w K=K (Δ c):=J.of λw' _=>by simp[l7.cap_,run_underlying U,goInt]
theorem F1 {g o k c:Nat} (h:af w g e cs) (W:o+k<=cs.length) (J:k<=c) (U:c<=maxLen):bW w 1 (.slice (σ ⟨g,o,ν⟩) k c) k ((cs.drop o).take k):=by
 refine⟨Θ,g,o,_,c,rfl,J,U,λ_=>rfl,λj v I=>?_⟩;have V:=(x4.1 I).1;simp at V;rw[Y2 Ω,List.getElem?_drop] at I;exact h.cell I
theorem xY {U V:r9} {W g o cap:Nat} {K:x1->x2->Prop} (X:P.underlying t=σ (.slice e)) (hi:aO P e 1 W z) (Y:z.cells= #[z]) (h1:z.oneCell'=true)
  (I:af w g V cs) (ab:0<n) (ai:o+n<=cs.length)
  (ac:∀w',ag (λr=>r=g) w w'->w'.heap.size=w.heap.size->af w' g V (over cs o (o7 n z))->K (.tuple #[]) w'):aA P (l7.clear_ #[t] U #[.slice (σ ⟨g,o,ν⟩) n cap]) w K:=by
 obtain⟨i,hi,aj,rfl,ad⟩:=hi;have ae:=Lib.run_clear_slice (P:=P) w t e U z X (λw=>by simp[zeroValue,typeInfo,hi,ad]) Y h1 g o n cap ab
  (λj ak=>by rw[I.cell (y0 (show o+j<cs.length by omega))];rfl) (λj _=>I.frozen _ _)
 obtain⟨ah,J⟩:=md (o7 n z) cs o w I;exact .of ae (J.dv I) (ac _ J.aa J.size ah)
end
section
variable {P:W7} {w:x2}
theorem gx {I:r9} {k:o6} {i b g:Nat} (V:y=(i:Int)) (W:P.underlying t=σ (.slice e)) (hi:aO P e 1 b z)
  (h:au k I w g v l) (X:i<l.length):J P (n0 t v (.int U y)) w K=K (.pointer (σ ⟨g,i,ν⟩)):=by
 subst V;obtain⟨_,⟨_,Y⟩|⟨cap,cs,rfl,_⟩⟩:=h
 .omega
 .rw[fi W hi X (λ_=>rfl)];simp
theorem qX {k:o6} {i b:Nat} {x:Int} (V:y=(i:Int)) (W:P.underlying t=σ (.slice e)) (hi:aO P e 1 b z)
  (h:aJ k w v l) (I:l[i]? =σ x) (X:∀b o,w.cell? ⟨b,o,ν⟩=σ (.int k x)->K (.pointer (σ ⟨b,o,ν⟩))):J P (n0 t v (.int U y)) w K:=by
 subst V;have Y:=(x4.1 I).1;obtain⟨_,_,_,_,_,rfl,_,_,aa,ab⟩:=h;rw[fi W hi Y aa,T5];exact X _ _ (ab i _ (jJ I))
theorem gy {J:r9} {k:o6} {i b g:Nat} {x:Int} {K:Unit->x2->Prop} (hi:aO P e 1 b z)
  (h:au k J w g v l) (ae:i<l.length) (W:∀w',ag (λr=>r=g) w w'->w'.heap.size=w.heap.size->au k J w' g v (l.set i x)->K () w'):aA P (o5 e (.pointer (σ ⟨g,i,ν⟩)) (.int k x)) w K:=by
 obtain⟨af,⟨_,ah⟩|⟨cap,full,rfl,X,Y,aa,U,V⟩⟩:=h
 .omega
 .have ab:i<full.length:=by simp at U;omega
  refine bh hi rfl rfl X ab λw' ac I ad=>W w' ac I ⟨Ξ,.inr ⟨cap,full.set i (.int k x),Ξ,ad,by simpa using Y,aa,by simpa using U,?_⟩⟩;simp only[X2,T5] at V ⊢;rw[List.take_set,V,ints,ints,T2]
theorem hI {b o:Nat} (I:jI P t=true) (h:w.cell? ⟨b,o,ν⟩=σ v):bl P (x6 t (.pointer (σ ⟨b,o,ν⟩))) v w:=λw' J=>by
 have h':=l3 J h;unfold jI at I;cases hu:P.underlying t with
 |none=>rw[hu] at I;cases I
 |some d=>
  rw[hu] at I;cases d<;>first|(cases I;done)|simp[x6,Instr.sureAddr,loadVar,isAgg,run_underlying hu,h']
theorem iz {k:o6} {S:aj} (h:aJ k w v l) (U:ag S w w') (V:∀r,S r-> ∀a n c,v= .slice (σ a) n c->a.block≠r):aJ k w' v l:=by
 obtain⟨h1,b,o,base,cap,rfl,W,X,I,Y⟩:=h;refine⟨h1,b,o,base,cap,rfl,W,X,I,?_⟩;rcases Nat.eq_zero_or_pos l.length with J|J
 .intro j u hu;have:=(x4.1 hu).1;simp at this;omega
 .have aa:=I J;subst aa;exact nq U (λh=>V _ h _ _ _ rfl rfl) Y
end
end Go.Vc
namespace Go.Vc
open Go Go.RowKit Go.ChangeShapes Go.WideShapes
structure kF (P:W7) (t:r9) (α:Type) [am α] (G:α->Prop):Prop where
 op:∀ {H:Type} {enc:r9×x1->H} {w:x2} {base:Nat} {spare:Nat->Bool} {held:Bool} {fuel:Nat} {cs:List x1} {x:DataW H×List MemPlace},
  DataW.trod enc P w base spare held fuel t cs=σ x-> ∃a:α,Seen ef w cs a/\G a
section
variable {P:W7} {α β:Type} [am α] [am β]
theorem xZ {k:o6} {n:Int} (h:(Lit.int k n).wf=true):k.min<=n/\n<=k.max:=by simpa[Lit.wf] using h
theorem x0 {k:o6} (I:P.underlying t=σ (.int k)):kF P t (c4 k) λn=>k.min<=n.val/\n.val<=k.max:=⟨λh=>by
 obtain⟨n,rfl,_,hw⟩:=DataW.trod_int I h;exact⟨(n:Int),rfl,xZ hw⟩⟩
theorem nz (I:P.underlying t=σ (.int .i64)):kF P t Int λn=>Y6.min<=n/\n<=Y6.max:=⟨λh=>by
 obtain⟨n,rfl,_,hw⟩:=DataW.trod_int I h;exact⟨n,rfl,xZ hw⟩⟩
theorem F2 (I:P.underlying t=σ .bool):kF P t Bool λ_=>True:=⟨λh=>by
 obtain⟨b,rfl,_⟩:=DataW.trod_bool I h;exact⟨b,rfl,trivial⟩⟩
theorem F3 (a:Addr) (m n:Nat):(a.add m).add n=a.add (m+n):=by
 unfold Addr.add;by_cases hm:m=0<;>by_cases I:n=0<;>simp[hm,I,S8]
theorem F4 {base:Nat} {a:Addr} (h:w.cells? base a n=σ cs):cs.length=n/\ ∀j v,cs[j]? =σ v->w.cell? (a.add j)=σ v:=by
 unfold x2.cells? at h;split at h
 .have J:cs.length=n:=by
   have:=mapM_some_length h;simpa using this
  refine⟨J,λj v I=>?_⟩;have U:=(x4.1 I).1;have:=mapM_some_get h j j (List.getElem?_range Ω);rw[this,I]
 .cases h
theorem qY {G:α->Prop} (ah:P.underlying t=σ (.slice e)) (he:kF P e α G) (ai:P.cellsOf e=am.n α) (aq:0<am.n α):kF P t (List α) λl=>∀a∈l,G a:=by
 constructor;intro H enc w base spare held fuel cs x h;rcases DataW.trod_slice ah h with⟨rfl,_⟩|⟨a,len,cap,au,rest,n,_,rfl,rfl,av,aw,hm,ax,aj,_,_⟩
 .exact⟨[],fx,λ_ h=>by cases h⟩
 .
  have af:∀i,i<len-> ∃ (c:List x1) (y:α),c.length=am.n α/\(∀j v,c[j]? =σ v->w.cell? (a.add (i*am.n α+j))=σ v)/\Seen ef w c y/\G y:=by
   intro i hi;have h1:=aj i hi;rw[y0 Ω,ai,Option.bind_eq_some_iff] at h1;obtain⟨c,V,W⟩:=h1;obtain⟨Y,aa⟩:=F4 V;obtain⟨y,ab,ak⟩:=he.op W;exact⟨c,y,Y,λj v U=>by have:=aa j v U;rwa [F3] at this,ab,ak⟩
  have all:∀m,m<=len-> ∃ (vs:List (List x1)) (l:List α),vs.length=m/\l.length=m/\(∀c∈vs,c.length=am.n α)/\(∀ (j:Nat) (v:x1),vs.flatten[j]? =σ v->w.cell? (a.add j)=σ v)/\
    (∀ (i:Nat) (c:List x1) (y:α),vs[i]? =σ c->l[i]? =σ y->Seen ef w c y)/\ ∀y∈l,G y:=by
   intro m;induction m with
   |zero=>exact λ_=>⟨[],[],rfl,rfl,(λ_ h=>by cases h),(λj v h=>by simp at h),(λi c y h=>by simp at h),(λ_ h=>by cases h)⟩
   |succ m al=>
    intro hm;obtain⟨vs,l,h1,V,W,Y,aa,ab⟩:=al Ω;obtain⟨c,y,g1,ac,an,ao⟩:=af m Ω;refine⟨vs++[c],l++[y],by simp[h1],by simp[V],λd I=>?_,λj v U=>?_,λi d z I J=>?_,λz J=>?_⟩
    .rcases n9.1 I with I|I
     .exact W d I
     .simp at I;subst I;exact g1
    .have X:=ja W;rw[h1] at X;rw[List.flatten_append] at U;by_cases ap:j<m*am.n α
     .rw[j9 Ω] at U;exact Y j v U
     .rw[Z2 Ω,X] at U;simp at U;have:=ac _ v U;rwa [show m*am.n α+(j-m*am.n α)=j by omega] at this
    .by_cases hi:i<m
     .rw[j9 Ω] at I J;exact aa i d z I J
     .have ad:=(x4.1 I).1;simp[h1] at ad;have ad:i=m:=Ω
      subst ad;rw[Z2 Ω,h1] at I;rw[Z2 Ω,V] at J;simp at I J;subst I J;exact an
    .rcases n9.1 J with J|J
     .exact ab z J
     .simp at J;subst J;exact ao
  obtain⟨vs,l,h1,V,W,Y,aa,ab⟩:=all len (o8 _);have X:=ja W;rw[h1] at X;have ag:0<len->a=⟨a.block,a.off,ν⟩:=λae=>by
   obtain⟨c,y,g1,ac,_⟩:=af 0 Ω;have:=ac 0 c[0] (y0 Ω);rw[Nat.zero_mul] at this;exact tj this
  refine⟨l,⟨_,rfl,vs,0,λ_ _=>False,⟨λ_ _ h=>h.elim,(λh=>by cases h),(λh=>by cases h)⟩,⟨Ω,aa⟩,⟨by rw[X,V],a.block,a.off,σ a,cap,by rw[V],Ω,hm,λae=>congrArg σ (ag Ω),λ_=>.inr trivial,λj v U=>?_⟩,λh=>by cases h⟩,ab⟩;have:=Y j v U;have ap:=(x4.1 U).1;have ae:0<len:=by
   rcases Nat.eq_zero_or_pos len with h|h
   .rw[h,Nat.zero_mul] at X;omega
   .exact h
  rw[ag ae,U7] at this;exact this
structure qZ (P:W7) (fs:List Field) (off:Nat) (α:Type) [am α] (G:α->Prop):Prop where
 op:∀ {H:Type} {enc:r9×x1->H} {w:x2} {base:Nat} {spare:Nat->Bool} {held:Bool} {n:Nat} {cs:List x1},cs.length=off+am.n α->
  (∀f∈fs,∃x,DataW.trod enc P w base spare held n f.type ((cs.drop f.offset).take (P.cellsOf f.type))=σ x)-> ∃a:α,Seen ef w (cs.drop off) a/\G a
theorem F5 {f:Field} {off:Nat} {G:α->Prop} (h:kF P f.type α G) (I:f.offset=off) (J:P.cellsOf f.type=am.n α):qZ P [f] off α G:=by
 constructor;intro H enc w base spare held n cs X U;obtain⟨x,V⟩:=U f (.head _);obtain⟨a,h1,W⟩:=h.op V;rw[I,J,l5 Θ] at h1;exact⟨a,h1,W⟩
theorem lp {f:Field} {I:List Field} {off:Nat} {G:α->Prop} {J:β->Prop} (h:kF P f.type α G) (V:f.offset=off) (W:P.cellsOf f.type=am.n α) (X:qZ P I (off+am.n α) β J):
  qZ P (f::I) off (α×β) λp=>G p.1/\J p.2:=by
 constructor;intro H enc w base spare held n cs ae U;obtain⟨x,Y⟩:=U f (.head _);obtain⟨a,h1,aa⟩:=h.op Y;rw[V,W] at h1;have af:am.n (α×β)=am.n α+am.n β:=rfl;obtain⟨b,ab,ac⟩:=X.op Ω λg ad=>U g (.tail _ ad);refine⟨(a,b),⟨(cs.drop off).take (am.n α),cs.drop (off+am.n α),λ_=>False,λ_=>False,?_,λ_ h=>h,λ_ h=>h,(λh=>by cases h),h1,ab⟩,aa,ac⟩;rw[<-List.drop_drop,List.take_append_drop]
theorem F6 {I:List Field} {G:α->Prop} (J:P.underlying t=σ (.struct I.toArray)) (U:qZ P I 0 α G) (aa:P.cellsOf t=am.n α):kF P t α G:=by
 constructor;intro H enc w base spare held fuel cs x h;obtain⟨xs,n,_,rfl,ab,V,W⟩:=DataW.trod_struct J h;have:=U.op (enc:=enc) (w:=w) (base:=base) (spare:=spare) (held:=held) (n:=n) (cs:=cs) Ω λf X=>by
  obtain⟨i,hi,rfl⟩:=List.mem_iff_getElem.1 X;have Y:i<xs.length:=by simpa[V] using hi
  have:=W i I[i] (by simp[hi]);rw[y0 Y] at this;exact⟨_,this⟩
 simpa using this
end
end Go.Vc
namespace Go.Vc
open Go Go.RowKit
set_option maxRecDepth 100000
theorem F7:(⟨#[]⟩:ByteArray)=strOfNums []:=rfl
theorem F8 {I:x1->x1->x1->x2->Prop} {B:(x1->x1->x1->x2->Prop)->Prop} (G:x1->x1->x1->x2->Prop) (h1:∀t u v w,G t u v w->I t u v w)
  (U:∀J:x1->x1->x1->x2->Prop,(∀t u v w,G t u v w->J t u v w)->B J):bB I B:=U I h1
theorem tu {I:x1->x1->x1->x1->x2->Prop} {B:(x1->x1->x1->x1->x2->Prop)->Prop} (G:x1->x1->x1->x1->x2->Prop) (h1:∀s t u v w,G s t u v w->I s t u v w)
  (U:∀J:x1->x1->x1->x1->x2->Prop,(∀s t u v w,G s t u v w->J s t u v w)->B J):bB I B:=U I h1
abbrev bz (l:Λ):x1:=.string (strOfNums l)
def Bytes (l:Λ):Prop:=∀b∈l,0<=b/\b<256
theorem lq (l:Λ):(strOfNums l).size=l.length:=strOfNums_size l
theorem F9 (h:Bytes l) {i:Nat} {b:Int} (hi:l[i]? =σ b):(strOfNums l)[i]? =σ (UInt8.ofNat b.toNat)/\((UInt8.ofNat b.toNat).toNat:Int)=b:=by
 have V:=h b (x5 hi);have U:=x4.1 hi;refine⟨?_,by rw[UInt8.toNat_ofNat'];omega⟩;have I:i<(strOfNums l).size:=by rw[lq];exact U.1
 rw[getElem?_pos (strOfNums l) i I];congr 1;show (strOfNums l).data[i]=_;have J:(strOfNums l).data.toList[i]? =σ (UInt8.ofNat b.toNat):=by rw[strOfNums_data,x8,hi];rfl
 rw[S4] at J;exact (j6.1 J).2
theorem str_inj {b:Λ} (I:Bytes a) (J:Bytes b) (h:strOfNums a=strOfNums b):a=b:=by
 have h1:(strOfNums a).data.toList=(strOfNums b).data.toList:=by rw[h]
 rw[strOfNums_data,strOfNums_data] at h1;have key:∀ {l:Λ},Bytes l->(l.map λn=>UInt8.ofNat n.toNat).map (λu=>((u.toNat:Nat):Int))=l:=λ{l} U=>by
  rw[List.map_map]
  conv=>rhs;rw[<-List.map_id l]
  refine List.map_congr_left λx V=>?_;have:=U x V;show (((UInt8.ofNat x.toNat).toNat:Nat):Int)=x;rw[UInt8.toNat_ofNat'];omega
 rw[<-key I,<-key J,h1]
theorem Ga (a b:Λ):strOfNums a++strOfNums b=strOfNums (a++b):=by
 apply ByteArray.ext;rw[ByteArray.data_append];simp[strOfNums]
theorem Gb (l:Λ) (i j:Nat):(strOfNums l).extract i j=strOfNums ((l.take j).drop i):=by
 apply ByteArray.ext;rw[ByteArray.data_extract];apply Array.toList_inj.1;rw[Array.toList_extract];simp[strOfNums,List.extract_eq_take_drop,List.map_drop,List.map_take,List.drop_take]
theorem x9 (l:Λ):(strOfNums l).toList=l.map λn=>UInt8.ofNat n.toNat:=by
 rw[ByteArray.toList_eq];exact strOfNums_data l
theorem ya {b:Λ} (I:Bytes a) (J:Bytes b):((strOfNums a).toList == (strOfNums b).toList)=decide (a=b):=by
 rw[V8,beq_iff_eq,decide_eq_true_eq,x9,x9];refine⟨λh=>str_inj I J ?_,λh=>by rw[h]⟩;unfold strOfNums;rw[h]
section
variable {P:W7} {w:x2}
theorem mp {I:r9} (U:P.underlying t=σ .string):J P (Y3 #[t] I #[bz l]) w K=K (Δ l.length):=J.of λw' _=>by
 simp[Y3,run_underlying U,goInt,lq]
theorem oS {k:o6} {b:Int} {i:Nat} (I:y=(i:Int)) (U:P.underlying t=σ .string) (V:Bytes l) (hi:l[i]? =σ b):J P (Instr.index t (bz l) (.int k y)) w K=K (.int .u8 b):=J.of λw' _=>by
 subst I;obtain⟨h1,W⟩:=F9 V hi;have e:(0:Int)<=(i:Int):=Ω
 simp only[Instr.index,asIntOf,W0,V1,W5,run_underlying U];rw[if_pos e,j0,h1];simp only[V1,W]
theorem tv {b:Λ} (h:a.length+b.length<=9223372036854775807):J P (aC .add t cx cy (bz a) (bz b)) w K=K (bz (a++b)):=J.of λw' _=>by
 have:=run_string_add_sum (P:=P) (w:=w') (strOfNums a) (strOfNums b) (by rw[lq,lq];exact h);simp only[aC,eqGuard,binOp];simp[this,Ga]
theorem yb {b:Λ} (I:Bytes a) (U:Bytes b):J P (aC .eql t cx cy (bz a) (bz b)) w K=K (.bool (decide (a=b))):=J.of λw' _=>by
 simp[aC,eqGuard,binOp,Op.stringOp,ya I U]
theorem Gc {b:Λ} (I:Bytes a) (U:Bytes b):J P (aC .neq t cx cy (bz a) (bz b)) w K=K (.bool (decide (a≠b))):=J.of λw' _=>by
 simp[aC,eqGuard,binOp,Op.stringOp,ya I U]
theorem yc {k:o6} {i:Nat} (I:y=(i:Int)) (U:P.underlying t=σ .string) (hi:i<=l.length):J P (W6 t (bz l) (σ (.int k y)) ν ν) w K=K (bz (l.drop i)):=J.of λw' _=>by
 have V:=qP (P:=P) w' (sl:=false) (n:=(strOfNums l).size) (c:=(strOfNums l).size) (low:=σ (.int k y)) (high:=ν) (mx:=ν) (l:=i) (h:=(strOfNums l).size) (m:=(strOfNums l).size) (l8 i y I) hC ez (by rw[lq];exact hi) (o8 _) (o8 _);have e:(strOfNums l).extract i (strOfNums l).size=strOfNums (l.drop i):=by rw[Gb,lq,o9]
 simp[W6,Instr.slice,run_underlying U,V,e]
theorem tw {s:r9} (I:P.underlying s=σ (.slice e)) (he:P.underlying e=σ (.int .u8)) (U:P.underlying t=σ .string) (h:aJ .u8 w v l):J P (convert s t v) w K=K (bz l):=J.of λw' X=>by
 obtain⟨V,b,o,base,cap,rfl,_,_,Y,aa⟩:=h.ext X;have V:l.length=l.length*1:=by simpa using V
 by_cases ab:0<l.length
 .rw[Y ab];refine run_convert_bytes_arg w' s e I he b o l.length cap l rfl (λi hi=>?_) t U;have W:l[i]? =σ l[i]:=y0 hi;rw[u5,W];exact aa i _ (jJ W)
 .have ac:l=[]:=Z5 Ω;subst ac;cases base with
  |none=>
   rw[run_convert_bytes_nil w' s e I he _ _ t U];rfl
  |some a=>
   rw[run_convert_bytes_string w' s t e _ _ _ I he U];have:=run_bytesToString (P:=P) w' a 0 cap [] (by have:=run_loadCells_list (P:=P) w' a [] (λj v ad=>by simp at ad);simpa using this);simp only[List.length_nil];rw[this];rfl
theorem tx {s:r9} {u:TypeDesc} {K:x1->x2->Prop} (I:P.underlying s=σ u) (Y:P.underlying t=σ (.slice e)) (he:P.underlying e=σ (.int .u8)) (aa:Bytes l) (hm:l.length<=1000000000)
  (ab:∀v w',Ext w w'->aJ .u8 w' v l->(∀r,(∃a n c,v= .slice (σ a) n c/\a.block=r)->w.heap.size<=r)->K v w'):aA P (convert s t (bz l)) w K:=by
 have ac:=Lib.bytesWorld_at_new w e (strOfNums l);have W:=λj J=>Lib.bytesWorld_at_old w e (strOfNums l) j J;have ad:=Lib.bytesWorld_size w e (strOfNums l);refine .of (Lib.run_convert_string_bytes w s t e (strOfNums l) I Y he) ⟨rfl,⟨rfl,S6 _⟩,rfl,Ω,λr o U _=>?_⟩ (ab _ _ ⟨Ω,λr o U _=>?_⟩ ?_ ?_)
 .rw[W r (j6.1 U).1];exact U
 .rw[W r (j6.1 U).1];exact U
 .rw[lq];refine⟨Ξ,w.heap.size,0,_,_,rfl,?_,?_,λ_=>rfl,λj v V=>?_⟩
  .exact grownCap_ge w _ _ _
  .exact grownCap_le_maxLen w _ _ _ (by simp[maxLen];omega)
  .have J:j<l.length:=by have:=(x4.1 V).1;simpa using this
   have X:l[j]? =σ l[j]:=y0 J;rw[V3,Lib.bytesWorld_cell w e (strOfNums l) j (by rw[lq];exact J)];rw[jJ X] at V;rw[<-Z8 V,strOfNums_data,u5,x8,X];have:=aa l[j] (T6 J);simp only[Y0,T4];congr 2;rw[UInt8.toNat_ofNat'];omega
 .rintro r ⟨a,n,c,h1,rfl⟩;cases h1;exact o8 _
end
end Go.Vc
namespace Go.Proofs.YtgbkinibgjmodaaGreatDoor
open Go Go.Vc Go.RowKit Go.Proofs Go.Proofs.Tryz
set_option maxRecDepth 100000
theorem yd {b:Int} (h:cj b=true):bJ b=false:=by
 have h:=of_decide_eq_true h;unfold bJ;rw[decide_eq_false_iff_not];omega
theorem ye {b:Int} {p:Λ} (h:cj b=true):lex (b::p)=lex p:=by
 rw[jb,jb p,List.dropWhile_cons,if_pos h]
theorem Gd {b:Int} {p:Λ} (h:cj b=false) (I:bJ b=false):lex (b::p)=([],false):=by
 rw[jb,List.dropWhile_cons,if_neg (by simp[h])];simp only[I,Bool.false_eq_true,if_false]
theorem yf {b:Int} {p:Λ} (h:bJ b=true):lex (b::p)=match p.dropWhile bJ with
  |[]=>([b::p.takeWhile bJ],true)
  |c::r=>if cj c then ((b::p.takeWhile bJ)::(lex (c::r)).1,(lex (c::r)).2) else ([],false):=by
 have I:cj b=false:=by
  cases J:cj b with
  |false=>rfl
  |true=>rw[yd J] at h;cases h
 rw[jb,List.dropWhile_cons,if_neg (by simp[I])];simp only[h,if_true,List.dropWhile_cons,List.takeWhile_cons]
 all_goals (cases List.dropWhile bJ p<;>rfl)
def hg:Λ->List (Λ)->Λ->Bool->List (Λ)×Bool
 |[],out,w,op=>(if op then out++[w] else out,true)
 |b::p,out,w,op=>
  if cj b then hg p (if op then out++[w] else out) [] false
  else if bJ b then hg p out (if op then w++[b] else[b]) true
  else (out,false)
theorem oT:∀ (p:Λ) (out:List (Λ)) (w:Λ),hg p out w false=(out++(lex p).1,(lex p).2)/\
  hg p out w true=match p.dropWhile bJ with
   |[]=>(out++[w++p.takeWhile bJ],true)
   |c::r=>if cj c then (out++[w++p.takeWhile bJ]++(lex (c::r)).1,(lex (c::r)).2) else (out,false)
 |[],out,w=>by simp[hg,jb []]
 |b::p,out,w=>by
  by_cases I:cj b=true
  .have hw:=yd I;refine⟨?_,?_⟩
   .rw[hg,if_pos I,(oT p _ _).1,ye I];simp
   .rw[hg,if_pos I,if_pos rfl,(oT p _ _).1,List.dropWhile_cons,if_neg (by simp[hw])];simp only[I,if_true,ye I,List.takeWhile_cons,hw,Bool.false_eq_true,if_false,X6]
  .have U:cj b=false:=by cases h:cj b;rfl;exact absurd h I
   by_cases hw:bJ b=true
   .refine⟨?_,?_⟩
    .rw[hg,if_neg I,if_pos hw,if_neg Ξ,(oT p _ _).2,yf hw];cases p.dropWhile bJ with
     |nil=>simp
     |cons c r=>
      simp only;by_cases J:cj c=true
      .simp[J]
      .simp[J]
    .rw[hg,if_neg I,if_pos hw,if_pos rfl,(oT p _ _).2,List.dropWhile_cons,if_pos hw,List.takeWhile_cons,if_pos hw];cases p.dropWhile bJ with
     |nil=>simp
     |cons c r=>
      simp only;by_cases J:cj c=true
      .simp[J]
      .simp[J]
   .have V:bJ b=false:=by cases h:bJ b;rfl;exact absurd h hw
    refine⟨?_,?_⟩
    .rw[hg,if_neg I,if_neg hw,Gd U V];simp
    .rw[hg,if_neg I,if_neg hw,List.dropWhile_cons,if_neg hw];simp[U]
theorem Ge (p:Λ):hg p [] [] false=lex p:=by rw[(oT p [] []).1];simp
def nA:Nat->Nat->Λ
 |0,_=>[]
 |k+1,n=>(if n<10 then[] else nA k (n / 10))++[48+((n % 10:Nat):Int)]
def eU (n:Nat):Λ:=nA (n+1) n
theorem yg:∀ {k m n:Nat},n<k->n<m->nA k n=nA m n
 |k+1,m+1,n,h1,I=>by
  unfold nA;by_cases h:n<10
  .rw[if_pos h,if_pos h]
  .rw[if_neg h,if_neg h,yg (k:=k) (m:=m) (n:=n / 10) Ω Ω]
theorem mq (n:Nat):eU n=(if n<10 then[] else eU (n / 10))++[48+((n % 10:Nat):Int)]:=by
 unfold eU;rw[nA];by_cases h:n<10
 .rw[if_pos h,if_pos h]
 .rw[if_neg h,if_neg h,yg (k:=n) (m:=n / 10+1) Ω Ω]
theorem yh:∀ (k n:Nat),n<k-> ∀b∈eU n,48<=b/\b<=57
 |k+1,n,J,b,I=>by
  rw[mq] at I;rcases n9.1 I with I|I
  .by_cases h:n<10
   .rw[if_pos h] at I;simp at I
   .rw[if_neg h] at I;exact yh k (n / 10) Ω b I
  .rw[j4] at I;omega
theorem yi (n:Nat):∀b∈eU n,48<=b/\b<=57:=yh (n+1) n Ω
def oU (l:Λ):Int:=l.foldl (λn b=>10*n+(b-48)) 0
theorem Gf (l:Λ) (b:Int):oU (l++[b])=10*oU l+(b-48):=by simp[oU]
theorem tz:∀ (k n:Nat),n<k->oU (eU n)=n
 |k+1,n,I=>by
  rw[mq,Gf];by_cases h:n<10
  .rw[if_pos h];have:oU []=0:=rfl;omega
  .rw[if_neg h,tz k (n / 10) Ω];omega
theorem Gg {a b:Nat} (h:eU a=eU b):a=b:=by
 have h1:=tz (a+1) a Ω;have I:=tz (b+1) b Ω;rw[h,I] at h1;omega
theorem tA:∀ (k n:Nat),n<10 ^ k->1<=k->(eU n).length<=k
 |k+1,n,h,_=>by
  rw[mq,u9];by_cases I:n<10
  .rw[if_pos I];simp
  .rw[if_neg I];have J:1<=k:=by
    rcases k with _|k
    .simp at h;omega
    .omega
   have U:(10:Nat) ^ (k+1)=10*10 ^ k:=by rw[Nat.pow_succ,Nat.mul_comm]
   have:=tA k (n / 10) Ω J;simp only[U2];omega
def dM (t:Λ):Λ:=t.flatMap λv=>eU v.toNat++[32]
theorem Gh (t:Λ) (v:Int):dM (t++[v])=dM t++(eU v.toNat++[32]):=by simp[dM]
theorem yj {r:Λ} (I:∀b∈l,b≠32):(l++32::r).takeWhile (λb=>decide (b≠32))=l/\(l++32::r).dropWhile (λb=>decide (b≠32))=32::r:=by
 induction l with
 |nil=>simp
 |cons x l J=>
  have U:=I x (.head _);have:=J λb V=>I b (.tail _ V);simp only[List.cons_append,List.takeWhile_cons,List.dropWhile_cons];simp only[U,ne_eq,not_false_eq_true,decide_true,if_true];exact⟨by rw[this.1],this.2⟩
theorem yk:∀ {a b:Λ},(∀x∈a,0<=x)->(∀x∈b,0<=x)->dM a=dM b->a=b
 |[],[],_,_,_=>rfl
 |[],y::b,_,_,h=>by simp[dM] at h
 |x::a,[],_,_,h=>by simp[dM] at h
 |x::a,y::b,J,U,h=>by
  have e:∀ (z:Int) (l:Λ),dM (z::l)=eU z.toNat++32::dM l:=λz l=>by simp[dM]
  rw[e,e] at h;have d:∀z:Int,∀c∈eU z.toNat,c≠32:=λz c W=>by have:=yi _ c W;omega
  have s1:=yj (r:=dM a) (d x);have V:=yj (r:=dM b) (d y);rw[h] at s1;have X:eU x.toNat=eU y.toNat:=s1.1.symm.trans V.1;have Y:=s1.2.symm.trans V.2;have ab:=J x (.head _);have ac:=U y (.head _);have:=Gg X;have aa:x=y:=Ω
  subst aa;rw[yk (λz I=>J z (.tail _ I)) (λz I=>U z (.tail _ I)) (List.cons.inj Y).2]
theorem yl (t:Λ):Bytes (dM t):=λb I=>by
 obtain⟨v,_,I⟩:=List.mem_flatMap.1 I;rcases n9.1 I with I|I
 .have:=yi _ b I;omega
 .rw[j4] at I;omega
theorem ym {b:Int}:ak x3 Ew [.int .u8 b] w λv w'=>v= .bool (cj b)/\Ext w w':=by
 refine aB func204 ?_;refine aQ (λv U=>v= .bool (cj b)/\Ext w U) (λ_ _ h=>h) λJ I=>?_;rw[bk,ae];refine⟨λh=>I _ _ ⟨by unfold cj;rw[decide_eq_true (.inl h)],Ext.refl _⟩,λh1=>?_⟩;rw[bk,ae];refine⟨λh=>I _ _ ⟨by unfold cj;rw[decide_eq_true (.inr (.inl h))],Ext.refl _⟩,λV=>?_⟩;rw[bk,ae];refine⟨λh=>I _ _ ⟨by unfold cj;rw[decide_eq_true (.inr (.inr (.inl h)))],Ext.refl _⟩,λW=>?_⟩;rw[bk];refine I _ _ ⟨?_,Ext.refl _⟩;congr 1;unfold cj;rw[V8,decide_eq_true_eq,decide_eq_true_eq];omega
theorem Gi {b:Int}:ak x3 Ev [.int .u8 b] w λv w'=>v= .bool (bJ b)/\Ext w w':=by
 refine aB func203 ?_;refine aQ (λv U=>v= .bool (bJ b)/\Ext w U) (λ_ _ h=>h) λJ I=>?_;rw[ce,ae];refine⟨λh=>?_,λh=>I _ _ ⟨by unfold bJ;rw[decide_eq_false Ω],Ext.refl _⟩⟩;rw[l4];refine I _ _ ⟨?_,Ext.refl _⟩;congr 1;unfold bJ;rw[V8,decide_eq_true_eq,decide_eq_true_eq];omega
def kG (w:x2) (g:Nat) (I:x1) (p:Λ) (at_:Nat) (bad:Int):Prop:=Bytes p/\p.length<=100000/\at_<=p.length/\af w g gL [I,Δ (at_:Int),Δ bad]/\ ∃J,au .u8 cv w J I p
theorem kG.ext {g:Nat} {I:x1} {p:Λ} {at_:Nat} {bad:Int} (h:kG w g I p at_ bad) (J:Ext w w'):kG w' g I p at_ bad:=by
 obtain⟨h1,U,V,W,X,Y⟩:=h;exact⟨h1,U,V,W.ext J,X,Y.ext J⟩
theorem Gj (h:aJ .u8 w v l) (ag:l.length<=100000):ak x3 Ep [v] w λJ w'=>Ext w w'/\ ∃g,au .u8 cv w' g J l:=by
 have I:=h;obtain⟨ah,b,o,base,cap,rfl,ai,hm,X,Y⟩:=h;refine aB func197 ?_;rw[qN cB.u,bD];refine⟨λaa=>⟨Ext.refl _,0,?_⟩,λ_=>?_⟩
 .have:l=[]:=by
   cases base with
   |none=>
        by_cases I:0<l.length
        .have:=X I;cases this
        .exact Z5 Ω
   |some a=>cases aa
  subst this;exact au.nil _ _ _ _
 .refine iw (k:=1) (cs:=#[]) cB.u cv.i Ω Ψ λg U aj W ab=>?_;have ac:au .u8 cv U g (.slice (σ ⟨g,0,ν⟩) 0 0) []:=au.of (n:=0) (bU.full (by simpa using ab) rfl Ξ);refine hD cB.u cv.i rfl ac (I.ext W) Θ Θ λJ ad V al ae af=>?_;exact⟨W.then af (λr Y he=>by have he:r=g:=he;omega),ad,by simpa using ae⟩
theorem yn (h:aJ .u8 w v l) (aa:Bytes l) (J:l.length<=100000):ak x3 w9 [v] w λab w'=>Ext w w'/\ ∃g,ab=Γ g/\w.heap.size<=g/\ ∃I,kG w' g I l 0 (-1):=by
 refine aB func146 ?_;refine (Gj h J).mono ?_;rintro I U _ ⟨W,ac,X⟩;rw[cW (cs:=#[I,Δ 0,Δ (-1)]) (by obtain⟨_,_,_,_,_,rfl,_⟩:=X.ls;kernel_rfl)];refine bN λg V ae Y ad=>?_;have s1:=W.size;exact⟨W.trans Y,g,rfl,Ω,I,aa,J,X3 _,ad,ac,X.ext Y⟩
def runN (f:Int->Bool) (p:Λ):Nat:=(p.takeWhile f).length
theorem Gk (f:Int->Bool) (p:Λ):runN f p<=p.length:=(List.takeWhile_sublist f).length_le
theorem yo {f:Int->Bool} {p:Λ} {i:Nat} {b:Int} (hi:p[i]? =σ b) (J:f b=true):i+runN f (p.drop i)=(i+1)+runN f (p.drop (i+1)):=by
 have I:=x4.1 hi;unfold runN;rw[V0 I.1,I.2,List.takeWhile_cons,if_pos J,j5];omega
theorem yp {f:Int->Bool} {p:Λ} {i:Nat} (h:∀b,p[i]? =σ b->f b=false):runN f (p.drop i)=0:=by
 unfold runN;cases I:p[i]? with
 |none=>
  rw[List.drop_of_length_le (List.getElem?_eq_none_iff.1 I)];rfl
 |some b=>
  have J:=x4.1 I;rw[V0 J.1,J.2,List.takeWhile_cons,if_neg (by simp[h b I])];rfl
theorem Gl {g at_:Nat} {ai:x1} {p:Λ} {bad:Int} (h:kG w g ai p at_ bad):ak x3 Eu [Γ g] w λv w'=>v=Δ ((at_+runN cj (p.drop at_):Nat):Int)/\Ext w w':=by
 obtain⟨av,aw,aj,J,ax,Y⟩:=h;refine aB func202 ?_;rw[ay,ac gL.p rfl,ad Ψ (J.Q1 rfl)];refine⟨λv U=>Ext w U/\ ∃i:Nat,v=Δ (i:Int)/\i<=p.length/\i+runN cj (p.drop i)=at_+runN cj (p.drop at_),λv _=>p.length-(bO v).toNat,⟨Ext.refl _,at_,rfl,aj,rfl⟩,?_⟩;rintro _ U ⟨X,i,rfl,hi,he⟩;refine aQ (λv V=>Ext w V/\ ∃c:Bool,v= .bool c/\(c=true↔ ∃b,p[i]? =σ b/\cj b=true)) ?_ ?_
 .rintro _ V ⟨aa,c,rfl,ab⟩;rw[bD];refine⟨λal=>?_,λaf=>?_⟩
  .obtain⟨b,W,am⟩:=ab.1 al;have an:=(x4.1 W).1;rw[aN,wrap_i64 Ω Ω];exact⟨⟨aa,i+1,rfl,an,by rw[<-he,yo W am]⟩,by simp only[bO];omega⟩
  .have ao:=yp (f:=cj) (p:=p) (i:=i) λb J=>by
    cases I:cj b with
    |false=>rfl
    |true=>rw[ab.2 ⟨b,J,I⟩] at af;cases af
   exact⟨by rw[<-he,ao,Nat.add_zero],aa⟩
 .intro az ag;have ah:=J.ext X;rw[ay,ac gL.p rfl,ad Ψ (ah.Q0 rfl),aT cB.u (Y.ext X).ls,aq,ae];refine⟨λaA=>?_,λaC=>ag _ _ ⟨X,false,rfl,⟨λh=>(by cases h),λ⟨b,J,_⟩=>by have:=(x4.1 J).1;omega⟩⟩⟩;have ap:i<p.length:=Ω
  have W:p[i]? =σ p[i]:=y0 ap;rw[ay,ac gL.p rfl,ad Ψ (ah.Q0 rfl),bd cB.u cv.i Ψ (Y.ext X).ls W];refine ym.mono ?_;rintro _ aD _ ⟨rfl,au⟩;exact ag _ _ ⟨X.trans au,_,rfl,⟨λh=>⟨_,W,h⟩,λ⟨b,J,h⟩=>by rw[W] at J;cases J;exact h⟩⟩
inductive Gm where
 |word (from_ to:Nat)
 |none
 |text (at_:Nat)
def fA (p:Λ) (at_:Nat):Nat:=at_+runN cj (p.drop at_)
def hJ (p:Λ) (a:Nat):Nat:=a+runN bJ (p.drop a)
open Classical in
noncomputable def nB (p:Λ) (at_:Nat):Gm:=
 if hJ p (fA p at_)<p.length/\(∀c,p[hJ p (fA p at_)]? =σ c->cj c=false) then .text (hJ p (fA p at_)) else if fA p at_=hJ p (fA p at_) then .none else .word (fA p at_) (hJ p (fA p at_))
def oV (w:x2) (g:Nat) (I:x1) (p:Λ) (at_:Nat) (v:x1) (w':x2):Prop:=
 match nB p at_ with
 | .word a b=>v= .tuple #[bz ((p.take b).drop a),Δ (a:Int),Δ 0]/\ag (λr=>r=g) w w'/\kG w' g I p b (-1)
 | .none=>∃n:Nat,v= .tuple #[bz [],Δ (n:Int),Δ 2]/\Ext w w'
 | .text b=>v= .tuple #[bz [],Δ (b:Int),Δ 11]/\ag (λr=>r=g) w w'/\kG w' g I p at_ (b:Int)
theorem gf {aU:Nat->Prop} {a b c:x2} (h:ag S a b) (k:ag aU b c) (V:∀r,r<a.heap.size->aU r->S r):ag S a c:=
 ⟨Y9 h.size k.size,λr o J I U=>k.a7 r o (h.a7 r o J I U) I λhu=>U (V r (j6.1 J).1 hu)⟩
theorem bX {g J:Nat} {k:o6} {U:r9} (h:au k e w g v l) (V:af w J U cs) (X:e≠U) (W:leads v r):r≠J:=by
 obtain⟨rfl,_⟩:=bA h W;obtain⟨_,⟨rfl,_⟩|⟨_,_,_,I,_⟩⟩:=h
 .obtain⟨a,n,c,h,_⟩:=W;cases h
 .rintro rfl;unfold af at V I;rw[V] at I;injection I with h1;injection h1 with aa Y;exact X Y.symm
theorem Gn {s:r9} {V:o6} {b i:Nat} (W:x3.underlying s=σ (.slice t)) (hi:aO x3 t 1 b z)
  (h:aJ .u8 w v l) (X:i<=j) (Y:j<=l.length) (aa:∀I,aJ .u8 w I ((l.take j).drop i)->K I):J x3 (W6 s v (σ (.int U (i:Int))) (σ (.int V (j:Int))) ν) w K:=by
 refine qW W hi h (l8 i _ rfl) (ma j _ rfl) X Y λI h'=>aa I (aJ.of (n:=j-i) ?_);have ab:((ints .u8 l).drop (i*1)).take ((j-i)*1)=ints .u8 ((l.take j).drop i):=by
  rw[T5,T5,ints,ints,List.map_drop,List.map_take,List.drop_take]
 rw[ab] at h';exact h'
theorem Gp {g at_:Nat} {al:x1} {p:Λ} (h:kG w g al p at_ (-1)):ak x3 s7 [Γ g] w (oV w g al p at_):=by
 obtain⟨aA,aC,aX,J,aD,am⟩:=id h;refine aB func152 ?_;rw[cC qK.u,Z0,aS,ay,ac gL.p rfl,ad Ψ (J.Q2 rfl),ce,ae];refine⟨λh=>Ω,λ_=>?_⟩;refine (Gl h).mono ?_;rintro _ V _ ⟨rfl,aY⟩;obtain⟨a,aE⟩:∃a,a=at_+runN cj (p.drop at_):=⟨_,rfl⟩;rw[<-aE];have aZ:a<=p.length:=by have:=Gk cj (p.drop at_);rw[R5] at this;omega
 refine⟨λv an=>Ext V an/\ ∃i:Nat,v=Δ (i:Int)/\a<=i/\i<=p.length/\i+runN bJ (p.drop i)=a+runN bJ (p.drop a),λv _=>p.length-(bO v).toNat,⟨Ext.refl _,a,rfl,o8 _,aZ,rfl⟩,?_⟩;rintro _ an ⟨aF,i,rfl,a1,hi,he⟩;have ao:=aY.trans aF;have aG:=J.ext ao;have aH:=am.ext ao;refine aQ (λv af=>Ext an af/\ ∃c:Bool,v= .bool c/\(c=true↔ ∃b,p[i]? =σ b/\bJ b=true)) ?_ ?_
 rotate_left
 .intro a2 W;rw[ay,ac gL.p rfl,ad Ψ (aG.Q0 rfl),aT cB.u aH.ls,aq,ae];refine⟨λa6=>?_,λa7=>W _ _ ⟨Ext.refl _,false,rfl,⟨λh=>(by cases h),λ⟨b,J,_⟩=>by have:=(x4.1 J).1;omega⟩⟩⟩;have ag:i<p.length:=Ω
  have U:p[i]? =σ p[i]:=y0 ag;rw[ay,ac gL.p rfl,ad Ψ (aG.Q0 rfl),bd cB.u cv.i Ψ aH.ls U];refine Gi.mono ?_;rintro _ af _ ⟨rfl,ah⟩;exact W _ _ ⟨ah,_,rfl,⟨λh=>⟨_,U,h⟩,λ⟨b,J,h⟩=>by rw[U] at J;cases J;exact h⟩⟩
 rintro _ af ⟨ah,c,rfl,X⟩;have ap:=ao.trans ah;have aI:=J.ext ap;have aJ:=am.ext ap;rw[bD];refine⟨λau=>?_,λaK=>?_⟩
 .obtain⟨b,U,a8⟩:=X.1 au;have ba:=(x4.1 U).1;rw[aN,wrap_i64 Ω Ω];exact⟨⟨aF.trans ah,i+1,rfl,Ω,ba,by rw[<-he,yo U a8]⟩,by simp only[bO];omega⟩
 have bj:=yp (f:=bJ) (p:=p) (i:=i) λb J=>by
  cases I:bJ b with
  |false=>rfl
  |true=>rw[X.2 ⟨b,J,I⟩] at aK;cases aK
 have bb:i=a+runN bJ (p.drop a):=Ω
 refine aQ (λv av=>Ext af av/\ ∃c:Bool,v= .bool c/\(c=true↔i<p.length/\ ∀c,p[i]? =σ c->cj c=false)) ?_ ?_
 rotate_left
 .intro a2 W;rw[ay,ac gL.p rfl,ad Ψ (aI.Q0 rfl),aT cB.u aJ.ls,aq,ae];refine⟨λa6=>?_,λa7=>W _ _ ⟨Ext.refl _,false,rfl,⟨λh=>(by cases h),λh=>Ω⟩⟩⟩;have ag:i<p.length:=Ω
  have U:p[i]? =σ p[i]:=y0 ag;rw[ay,ac gL.p rfl,ad Ψ (aI.Q0 rfl),bd cB.u cv.i Ψ aJ.ls U];refine ym.mono ?_;rintro _ av _ ⟨rfl,aw⟩;rw[bf];refine W _ _ ⟨aw,_,rfl,⟨λh=>⟨ag,λc X=>?_⟩,λh=>by rw[h.2 _ U];rfl⟩⟩;rw[U] at X;cases X;cases I:cj p[i] with
  |false=>rfl
  |true=>rw[I] at h;cases h
 rintro _ av ⟨aw,bl,rfl,aL⟩;have Y:=ap.trans aw;have ai:=J.ext Y;have aj:=am.ext Y;have aM:∀r,leads al r->r≠g:=λr be=>bX aj ai Φ be;have ax:nB p at_=open Classical in if i<p.length/\(∀c,p[i]? =σ c->cj c=false) then .text i else if a=i then .none else .word a i:=by
  unfold nB;rw[show fA p at_=a from aE.symm,show hJ p a=i from bb.symm]
 rw[bD];refine⟨λau=>?_,λaO=>?_⟩
 .rw[ay,ac gL.p rfl];refine bh (g:=g) (o:=2) ab.i rfl rfl ai Ξ λbm aP bn bg=>?_;unfold oV;rw[ax,if_pos (aL.1 au)];exact⟨rfl,(Y.aa _).trans aP,aA,aC,aX,bg,aD,bc aj aP aM⟩
 .have aR:¬(i<p.length/\ ∀c,p[i]? =σ c->cj c=false):=λh=>by rw[aL.2 h] at aO;cases aO
  rw[bk,ae];refine⟨λbo=>?_,λbp=>?_⟩
  .intro bq az _ _;rw[ay,ac gL.p rfl,ad Ψ ((ai.ext az).Q0 rfl),aT cB.u (aj.ext az).ls];unfold oV;rw[ax,if_neg aR,if_pos Ω];exact⟨p.length,rfl,Y.trans az⟩
  .rw[ay,ac gL.p rfl];refine bh (g:=g) (o:=1) ab.i rfl rfl ai Ξ λbr aU bt aV=>?_;have aW:=bc aj aU aM;rw[ay,ac gL.p rfl,ad Ψ (aV.Q0 rfl)];refine Gn (i:=a) (j:=i) cB.u cv.i aW.ls a1 hi λbu bi=>?_;rw[tw cB.u cv.u cP.u bi];unfold oV;rw[ax,if_neg aR,if_neg Ω];exact⟨rfl,(Y.aa _).trans aU,aA,aC,hi,aV,aD,aW⟩
abbrev bu:aj:=λ_=>False
abbrev eA (n:Nat):aj:=λr=>n<=r
theorem yq {b:Λ} {df bv:x1} (J:aJ .i64 w df a) (ac:aJ .i64 w bv b):
  ak x3 DN [df,bv] w λv w'=>v= .bool (decide (a=b))/\Ext w w':=by
 refine aB func124 ?_;rw[aT ai.u J,aT ai.u ac];simp only[bG,ae];refine⟨λX=>⟨?_,Ext.refl _⟩,λad=>?_⟩
 .rw[decide_eq_false];rintro rfl;exact X rfl
 .have ad:a.length=b.length:=Ω
  rw[aT ai.u J];refine bE.range a.length (λi _ U=>Ext w U/\a.take i=b.take i) J.le ⟨Ext.refl _,rfl⟩ ?_ ?_
  .rintro i t4 U k af ⟨I,Y⟩ ag;simp only[aq,ae,cm];refine⟨λ_ V ah _ _=>?_,λh=>Ω⟩;have I:=I.trans ah;obtain⟨x,aa⟩:∃x,a[i]? =σ x:=⟨_,y0 af⟩;obtain⟨y,W⟩:∃y,b[i]? =σ y:=⟨_,y0 Ω⟩;rw[bd ai.u ab.i Ψ (J.ext I) aa,bd ai.u ab.i Ψ (ac.ext I) W];simp only[bG,ae,aN];refine⟨λX=>⟨?_,I⟩,λaj=>ag _ _ ⟨I,ti Y aa W Ω⟩⟩;rw[decide_eq_false];rintro rfl;rw[aa] at W;cases W;exact X rfl
  .rintro _ U k ⟨I,Y⟩;simp only[aq,ae];refine⟨λh=>Ω,λ_=>⟨?_,I⟩⟩;rw[decide_eq_true];rwa [o9,ad,o9] at Y
def h9 (rest:List (Λ)) (i:Nat):List (Λ):=(W3 i).flatMap λ(v:Nat)=>rest.map λt=>(v:Int)::t
theorem Gq (rest:List (Λ)) (i:Nat):h9 rest (i+1)=h9 rest i++rest.map λt=>(i:Int)::t:=by
 simp[h9,List.range_succ]
theorem yr (rest:List (Λ)) (i:Nat):(h9 rest i).length=i*rest.length:=by
 simp only[h9,List.length_flatMap,u4];rw[List.map_const',List.length_range,List.sum_replicate_nat]
theorem oW:∀ (s:Λ) {sv:x1} {w:x2},aJ .i64 w sv s->bS s->
  ak x3 sZ [sv] w λv w'=>Ext w w'/\bi (eA w.heap.size) bu w' [v] (bm s)
 |[],sv,w,h,I=>by
  refine aB func90 ?_;rw[aT ai.u h];simp only[bk,List.length_nil,Int.natCast_zero,decide_true,bQ];refine gN (α:=Λ) (a:=[]) (cs:=[.slice ν 0 0]) (A:=bu) cz.u ai.i Φ rfl fx λv w' ap J _=>⟨ap,am.mono J (λr _ h=>?_) λ_ _ h=>h⟩;exact h.elim False.elim id
 |k::s,sv,w,h,I=>by
  have aP:=prod_bound I;have ac:bS s:=I.drop 1;have aQ:=I.2 k (.head _);have au:=hd ac.2;have aR:=prod_bound ac;obtain⟨kn,rfl⟩:∃kn:Nat,k=kn:=⟨k.toNat,Ω⟩;have aS:kn*(bm s).length<=1073741824:=by
   have e:((kn*(bm s).length:Nat):Int)=aM ((kn:Int)::s):=by
    rw[Int.natCast_mul,au,aM,Int.toNat_of_nonneg Ω]
   omega
  refine aB func90 ?_;rw[aT ai.u h];simp only[bk,ae];refine⟨λav=>by simp at av;omega,λ_=>?_⟩;refine FZ (i:=1) rfl ai.u ab.i h Ξ λaw h'=>?_;refine (oW s h' ac).mono ?_;rintro aU V _ ⟨ad,Y⟩;have aV:=kB Y;refine bE.range kn (λi out U=>Ext V U/\bi (eA V.heap.size) bu U [out] (h9 (bm s) i)) Ω ⟨Ext.refl _,fx⟩ ?_ ?_
  .rintro i out ax ay al ⟨X,J⟩ az;have aA:=bg Y X;rw[dY (y:=0) (i:=0) rfl ai.u ab.i Ψ (h.ext (ad.trans X)) (by rfl)];simp only[aq,ae];refine⟨λ_=>?_,λh=>Ω⟩;rw[eP cz.u aA];refine bE.range (bm s).length (λj out U=>Ext V U/\bi (eA V.heap.size) bu U [out] (h9 (bm s) i++((bm s).take j).map λt=>(i:Int)::t)) Ω ⟨X,by simpa using J⟩ ?_ ?_
   .rintro j out W aC aD ⟨aa,J⟩ aE;simp only[aq,ae];refine⟨λ_=>?_,λh=>Ω⟩;obtain⟨x,af⟩:∃x,(bm s)[j]? =σ x:=⟨_,y0 aD⟩;have aX:x.length<=100:=by
     have:=xL af;have:=ac.1;omega
    refine lm rfl rfl cz.u ai.i Ψ (bg Y aa) af λu hu=>?_;refine dx ai.u ab.i rfl λa aW aY aZ ag aF=>?_;refine hD ai.u ab.i rfl aF (dZ (bg hu ag)) Θ Θ λb a1 aG a2 ah aH=>?_;have a6:=ag.size;have an:Ext W aG:=ag.then aH (by rintro r Y rfl;omega);have a7:=an.size;refine gN (α:=Λ) (a:=(i:Int)::x) (cs:=[b]) (A:=eA W.heap.size) (R:=bu) cz.u ai.i Φ (jK (mi ah (R:=bu))) (am.mono (mi ah) (λr _ h=>by subst h;show W.heap.size<=r;omega) λ_ _ h=>h) λc a8 aj _ aI=>?_;have ao:=an.trans aj;have ba:=aj.size;refine mh (α:=Λ) (a:=(i:Int)::x) (A:=eA W.heap.size) cz.u ai.i rfl (bg (kB J) ao) aI (bg (am.mono (mi ah) (λr _ h=>by subst h;show W.heap.size<=r;omega) λ_ _ h=>h) aj) (λr _ h h'=>?_) ?_ ?_ λaw bb aK aL=>?_
    .rcases h' with h'|h'
     .have:=h.2;have:W.heap.size<=r:=h';omega
     .exact h'
    .have aO:(h9 (bm s) i++((bm s).take j).map λt=>(i:Int)::t).length+1<=kn*(bm s).length:=by
      simp only[u9,yr,u4,o4];have:(i+1)*(bm s).length<=kn*(bm s).length:=Y5 _ al;rw[U5] at this;omega
     omega
    .have aO:(h9 (bm s) i++((bm s).take j).map λt=>(i:Int)::t).length+1<=kn*(bm s).length:=by
      simp only[u9,yr,u4,o4];have:(i+1)*(bm s).length<=kn*(bm s).length:=Y5 _ al;rw[U5] at this;omega
     omega
    .simp only[aN];have bc:=aa.size;refine aE _ _ ⟨(aa.trans ao).then aL (λr Y h=>?_),?_⟩
     .have:=h.1;have:V.heap.size<=r:=this;omega
     .have e:h9 (bm s) i++((bm s).take (j+1)).map (λt=>(i:Int)::t)=(h9 (bm s) i++((bm s).take j).map λt=>(i:Int)::t)++[(i:Int)::x]:=by
       rw[r8,af];simp
      rw[e];refine am.mono aK (λr _ h=>?_) λ_ _ h=>h;show V.heap.size<=r;rcases h with h|h|h
      .exact h.1
      .have:W.heap.size<=r:=h;omega
      .omega
   .rintro out W aC ⟨aa,J⟩;simp only[aq,ae,aN];refine⟨λh=>Ω,λ_=>az _ _ ⟨aa,?_⟩⟩;rw[Gq];simpa using J
  .rintro out ax ay ⟨X,J⟩;rw[dY (y:=0) (i:=0) rfl ai.u ab.i Ψ (h.ext (ad.trans X)) (by rfl)];simp only[aq,ae];refine⟨λh=>Ω,λ_=>⟨ad.trans X,?_⟩⟩;have bd:=ad.size;have e:bm ((kn:Int)::s)=h9 (bm s) kn:=by simp[bm,h9]
   rw[e];exact am.mono J (λr _ h=>by have:V.heap.size<=r:=h;show w.heap.size<=r;omega) λ_ _ h=>h
def nC (l:List (Λ)) (t:Λ):Int:=match l.findIdx? (·=t) with
 |some i=>i
 |none=>-1
theorem Gr {s t:Λ} {aE:x1} (h:aJ .i64 w sv s) (I:bS s) (ad:aJ .i64 w aE t):
  ak x3 Ea [sv,aE] w λv w'=>v=Δ (nC (bm s) t)/\Ext w w':=by
 have al:=hd I.2;have am:=prod_bound I;refine aB func169 ?_;refine (oW s h I).mono ?_;rintro an U _ ⟨Y,ab⟩;rw[eP cz.u ab];refine bE.range (bm s).length (λi _ V=>Ext U V/\ ∀j,j<i->(bm s)[j]? ≠σ t) Ω ⟨Ext.refl _,λj J=>Ω⟩ ?_ ?_
 .rintro i _ V k hi ⟨W,X⟩ af;simp only[aq,ae];refine⟨λ_=>?_,λh=>Ω⟩;obtain⟨x,aa⟩:∃x,(bm s)[i]? =σ x:=⟨_,y0 hi⟩;refine lm rfl rfl cz.u ai.i Ψ (bg ab W) aa λu hu=>?_;refine (yq (dZ hu) (ad.ext (Y.trans W))).mono ?_;rintro _ ao _ ⟨rfl,ac⟩;simp only[ae,aN];refine⟨λhe=>⟨?_,(Y.trans W).trans ac⟩,λag=>af _ _ ⟨W.trans ac,λj J=>?_⟩⟩
  .subst he;have:(bm s).findIdx? (·=x)=σ i:=by
    rw[List.findIdx?_eq_some_iff_getElem];refine⟨hi,by simpa using (x4.1 aa).2,λj J=>?_⟩;have:=X j J;rw[y0 Ω] at this;simpa using this
   unfold nC;rw[this]
  .by_cases ah:j=i
   .subst ah;rw[aa];intro h;exact ag (by simpa using h)
   .exact X j Ω
 .rintro _ V k ⟨W,X⟩;simp only[aq,ae];refine⟨λh=>Ω,λ_=>⟨?_,Y.trans W⟩⟩;have:(bm s).findIdx? (·=t)=ν:=by
   rw[List.findIdx?_eq_none_iff];intro x aj;obtain⟨j,J,rfl⟩:=List.mem_iff_getElem.1 aj;have:=X j J;rw[y0 J] at this;simpa using this
  unfold nC;rw[this]
theorem Gs:∀ (x:Nat),0<x-> ∃k m,x=2 ^ k*(2*m+1):=by
 intro x;induction x using Nat.strongRecOn with
 |_ x I=>
  intro h;by_cases U:x % 2=1
  .exact⟨0,x / 2,Ω⟩
  .obtain⟨k,m,J⟩:=I (x / 2) Ω Ω;refine⟨k+1,m,?_⟩;rw[Nat.pow_succ,Nat.mul_assoc,Nat.mul_comm 2,<-Nat.mul_assoc,<-J];omega
theorem tB {k i:Nat}:(2 ^ k*(2*m+1)).testBit i=(decide (i=k)||decide (k<i)&&m.testBit (i-k-1)):=by
 rw[Nat.testBit_two_pow_mul];by_cases h:k<=i
 .obtain⟨d,rfl⟩:=Nat.exists_eq_add_of_le h;cases d with
  |zero=>simp
  |succ d=>
   have e:(2*m+1).testBit (d+1)=m.testBit d:=by rw[Nat.testBit_succ];congr 1;omega
   simp[e,show k+(d+1)-k=d+1 by omega]
 .simp[h,show i≠k by omega,show ¬k<i by omega]
theorem Gt {k:Nat} (X:2 ^ k*(2*m+1)<2 ^ 64):(2 ^ k*(2*m+1)) &&& (2 ^ 64-2 ^ k*(2*m+1))=2 ^ k:=by
 have Y:0<2 ^ k:=Nat.two_pow_pos k;have J:k<64:=by
  rcases Nat.lt_or_ge k 64 with h|h
  .exact h
  .have:2 ^ 64<=2 ^ k:=S5 Ω h;have:2 ^ k*1<=2 ^ k*(2*m+1):=Nat.mul_le_mul_left _ Ω;omega
 have U:2 ^ k*(2*m+1)=(2 ^ k*(2*m)+(2 ^ k-1))+1:=by rw[Nat.mul_add];omega
 apply Nat.eq_of_testBit_eq;intro i;rw[Nat.testBit_and,tB]
 conv=>lhs;rhs;rw[U]
 rw[Nat.testBit_two_pow_sub_succ Ω,Nat.testBit_two_pow_mul_add _ Ω,Nat.testBit_two_pow];by_cases h1:i=k
 .subst h1;simp[J]
 .by_cases I:k<i
  .have V:(2*m).testBit (i-k)=m.testBit (i-k-1):=by
    obtain⟨d,W⟩:∃d,i-k=d+1:=⟨i-k-1,Ω⟩;rw[W,Nat.testBit_succ];congr 1;omega
   simp[h1,I,show ¬i<k by omega,V,show k≠i by omega];intro h;simp[h]
  .simp[h1,I,show k≠i by omega]
def iA (a c:Nat):Nat:=(BitVec.ofNat 64 a &&& ~~~BitVec.ofNat 64 c).toNat
theorem ys (a c i:Nat):(iA a c).testBit i=(decide (i<64)&&(a.testBit i&& !c.testBit i)):=by
 unfold iA;rw[BitVec.testBit_toNat,BitVec.getLsbD_and,BitVec.getLsbD_not,BitVec.getLsbD_ofNat,BitVec.getLsbD_ofNat];by_cases h:i<64<;>simp[h]
theorem Gu (a c:Nat):iA a c<2 ^ 64:=BitVec.isLt _
theorem Gv {a:Nat} (h:∀i,n<=i->a.testBit i=false):a<2 ^ n:=Nat.lt_pow_two_of_testBit a h
theorem yt {a i:Nat} (h:a<2 ^ n) (hi:n<=i):a.testBit i=false:=Nat.testBit_lt_two_pow (Nat.lt_of_lt_of_le h (S5 Ω hi))
def gg (b n:Nat):List Nat:=(W3 n).filter λi=>b.testBit i
theorem yu (b n:Nat):(gg b n).Pairwise (·< ·):=List.Pairwise.filter _ List.pairwise_lt_range
theorem Gw {b i:Nat}:i∈gg b n↔i<n/\b.testBit i=true:=by simp[gg]
def mr:Option Nat->Int
 |some i=>(i:Int)
 |none=>-1
def iB (b n:Nat) (v:Int):Int:=mr ((W3 n).find? (λi:Nat=>decide (v<(i:Int))&&b.testBit i))
theorem yv:∀ {l:List Nat} {k x:Nat},l.Pairwise (·< ·)->l[k]? =σ x->l.filter (λi=>decide (x<i))=l.drop (k+1)
 |y::l,0,x,h,I=>by
  simp at I;subst I;rw[List.pairwise_cons] at h;simp only[List.drop_succ_cons,List.drop_zero];rw[List.filter_cons_of_neg Ξ,List.filter_eq_self.2 λa J=>by simpa using h.1 a J]
 |y::l,k+1,x,h,I=>by
  simp only[List.getElem?_cons_succ] at I;rw[List.pairwise_cons] at h;have:y<x:=h.1 x (x5 I);rw[List.filter_cons_of_neg Θ,List.drop_succ_cons];exact yv h.2 I
theorem yw (b n:Nat) (v:Int):iB b n v=mr (((gg b n).filter (λi:Nat=>decide (v<i))).head?):=by
 unfold iB gg;rw[<-List.head?_filter,List.filter_filter]
theorem Gx (b n:Nat):iB b n (-1)=mr ((gg b n)[0]?):=by
 rw[yw,List.filter_eq_self.2 (λa _=>Θ),List.head?_eq_getElem?]
theorem yx {b k x:Nat} (h:(gg b n)[k]? =σ x):iB b n x=mr ((gg b n)[k+1]?):=by
 have e:(λi:Nat=>decide ((x:Int)<i))=λi=>decide (x<i):=by funext i;simp
 rw[yw,e,yv (yu b n) h,List.head?_eq_getElem?,List.getElem?_drop]
theorem Gy {b:Nat} {v:Int} (h:(n:Int)-1<=v):iB b n v= -1:=by
 unfold iB;rw[List.find?_eq_none.2 λi hi=>by simp at hi ⊢;omega];rfl
theorem Gz {b k s:Nat} (ab:n<=64) (V:b<2 ^ n) (J:∀i,r.testBit i=(decide (s<=i)&&b.testBit i)) (U:r=2 ^ k*(2*m+1)) {v:Int} (ac:v+1=s):iB b n v=k:=by
 have W:r.testBit k=true:=by rw[U,tB];simp
 have X:∀i,i<k->r.testBit i=false:=λi hi=>by rw[U,tB];simp[show i≠k by omega,show ¬k<i by omega]
 have I:=W;rw[J] at I;simp at I;have Y:k<n:=by
  rcases Nat.lt_or_ge k n with h|h
  .exact h
  .rw[yt V h] at I;cases I.2
 unfold iB;have:(W3 n).find? (λi:Nat=>decide (v<(i:Int))&&b.testBit i)=σ k:=by
  rw[List.find?_range_eq_some];refine⟨by simp[I.2];omega,by simpa using Y,λj aa=>?_⟩;have:=X j aa;rw[J] at this;simp only[Bool.not_eq_true',Bool.and_eq_false_iff,decide_eq_false_iff_not] at this ⊢;rcases this with h|h
  .exact .inl Ω
  .exact .inr h
 rw[this];rfl
theorem GA {b s:Nat} (I:∀i,r.testBit i=(decide (s<=i)&&b.testBit i)) (J:r=0) {v:Int} (U:v+1=s):iB b n v= -1:=by
 unfold iB;rw[List.find?_eq_none.2]
 .rfl
 .intro i hi;have:=I i;rw[J,Nat.zero_testBit] at this;simp at hi this ⊢;intro h;exact this Ω
section
variable {P:W7} {w:x2} {t:r9} {cx cy:Bool} {a b:Nat} {K:x1->Prop}
theorem lr (a:Nat):U8 64 (a:Int)=BitVec.ofNat 64 a:=BitVec.ofInt_natCast _ _
theorem yy (x:BitVec 64):U6.wrap (x.toNat:Int)=(x.toNat:Int):=by
 have:=x.isLt;rw[wrap_u64 Ω Ω]
theorem u64_and (I:a<2 ^ 64) (U:b<2 ^ 64):J P (aC .and t cx cy (.int .u64 a) (.int .u64 b)) w K=K (.int .u64 ((a &&& b:Nat):Int)):=J.of λw' _=>by
 have e:(U8 64 (a:Int) &&& U8 64 (b:Int)).toNat=a &&& b:=by
  rw[lr,lr,BitVec.toNat_and,BitVec.toNat_ofNat,BitVec.toNat_ofNat,Nat.mod_eq_of_lt I,Nat.mod_eq_of_lt U]
 have hw:U6.wrap ((a &&& b:Nat):Int)=((a &&& b:Nat):Int):=by rw[<-e];exact yy _
 have V:(U8 U6.bits (a:Int) &&& U8 U6.bits (b:Int)).toNat=a &&& b:=e;simp only[aC,eqGuard,binOp,Op.intBits,V,hw];rfl
theorem yz:J P (aC .andNot t cx cy (.int .u64 a) (.int .u64 b)) w K=K (.int .u64 (iA a b:Int)):=J.of λw' _=>by
 have e:(U8 64 (a:Int) &&& ~~~U8 64 (b:Int)).toNat=iA a b:=by rw[lr,lr];rfl
 have hw:U6.wrap (iA a b:Int)=(iA a b:Int):=yy _;have I:(U8 U6.bits (a:Int) &&& ~~~U8 U6.bits (b:Int)).toNat=iA a b:=e;simp only[aC,eqGuard,binOp,Op.intBits,I,hw];rfl
theorem q0 {k:o6} (I:n<64):J P (aC .shr t cx cy (.int .u64 (a:Int)) (.int k (n:Int))) w K=K (.int .u64 ((a / 2 ^ n:Nat):Int)):=J.of λw' _=>by
 have e:(a:Int).fdiv (2 ^ min n U6.bits)=((a / 2 ^ n:Nat):Int):=by
  have:min n U6.bits=n:=T7 (by show n<=64;omega);rw[this,Int.fdiv_eq_ediv_of_nonneg _ (by exact Int.le_of_lt (Int.pow_pos Ω))];simp
 simp only[aC,eqGuard,binOp,Op.shift,j0,e];simp[show ¬(n:Int)<0 by omega]
theorem tC {k:o6} (I:n<64):J P (aC .shl t cx cy (.int .u64 1) (.int k (n:Int))) w K=K (.int .u64 ((2 ^ n:Nat):Int)):=by
 rw[xp Ω];have e:min ((n:Int).toNat) U6.bits=n:=T7 (by show n<=64;omega);have U:2 ^ n<2 ^ 64:=Nat.pow_lt_pow_right Ω I;rw[e,Int.one_mul,show ((2:Int) ^ n)=((2 ^ n:Nat):Int) by simp];generalize 2 ^ n=q at U ⊢;rw[wrap_u64 Ω Ω]
end
def q1:Λ:=[0,1,56,2,57,49,28,3,61,58,42,50,38,29,17,4,62,47,59,36,45,43,51,22,53,39,33,30,24,18,12,5,63,55,48,27,60,41,37,16,46,35,44,21,52,32,23,11,54,26,40,15,34,20,31,10,25,14,19,9,13,8,7,6]
def Laid (w:x2):Prop:=w.rangeAt 0 0 (ints .u8 q1)
theorem Laid.ext (h:Laid w) (I:Ext w w'):Laid w':=np I h
theorem GB:∀k:Nat,k<64->q1[(2 ^ k*285870213051353865 % 2 ^ 64) / 2 ^ 58]? =σ (k:Int):=Φ
theorem GC {x k:Nat} (J:Laid w) (U:x=2 ^ k*(2*m+1)) (V:x<2 ^ 64):
  ak x3 EN [.int .u64 (x:Int)] w λv w'=>v=Δ (k:Int)/\Ext w w':=by
 have af:0<2 ^ k:=Nat.two_pow_pos k;have ag:2 ^ k<=x:=by
  have:2 ^ k*1<=2 ^ k*(2*m+1):=Nat.mul_le_mul_left _ Ω;omega
 have W:k<64:=by
  rcases Nat.lt_or_ge k 64 with h|h
  .exact h
  .have:2 ^ 64<=2 ^ k:=S5 Ω h;omega
 refine aB func239 ?_;simp only[bk,ae];refine⟨λh=>Ω,λ_=>?_⟩;rw[kw];have X:U6.wrap (0-(x:Int))=((2 ^ 64-x:Nat):Int):=by
  simp only[o6.wrap,o6.bits,o6.signed];simp;omega
 rw[X,u64_and V Ω,U,Gt Ω];simp only[fv];have Y:U6.wrap (((2 ^ k:Nat):Int)*285870213051353865)=((2 ^ k*285870213051353865 % 2 ^ 64:Nat):Int):=by
  have e:((2 ^ k:Nat):Int)*285870213051353865=((2 ^ k*285870213051353865:Nat):Int):=Ξ
  rw[e];simp only[o6.wrap,o6.bits,o6.signed];simp
 have aa:(58:Int)=((58:Nat):Int):=rfl;rw[Y,aa,q0 Ω];have I:=GB k W;have ac:=(x4.1 I).1;rw[th (t:=qL) qL.u cv.i ac,ad Ψ (by rw[T5];exact J _ _ (jJ I)),e2 cv.u ab.u,wrap_i64 Ω Ω];exact⟨rfl,Ext.refl _⟩
def ia (b n:Nat):x1:=.agg #[.int .u64 (b:Int),Δ (n:Int)]
def lu (b n:Nat):Prop:=n<=32/\b<2 ^ n
theorem yA (s i:Nat):(2 ^ s-1).testBit i=decide (i<s):=Nat.testBit_two_pow_sub_one s i
theorem yB {b:Nat} {v:Int}:ak x3 DA [ia b n,Δ v] w λr w'=>r= .bool (decide (0<=v/\v<n))/\Ext w w':=by
 refine aB func79 ?_;refine bN λg U V I J=>?_;simp only[bB,ce,ae];refine⟨λh=>?_,λh=>⟨?_,I⟩⟩
 .rw[ac b5.p rfl,ad Ψ (J.Q1 rfl)];simp only[aq];exact⟨by simp[h],I⟩
 .rw[decide_eq_false];omega
theorem yC {b:Nat}:ak x3 Dl [ia b n] w λr w'=>r=Δ n/\Ext w w':=by
 refine aB func62 ?_;refine bN λg U V I J=>?_;rw[ac b5.p rfl,ad Ψ (J.Q1 rfl)];exact⟨rfl,I⟩
theorem GD {n:Int}:ak x3 Dx [Δ n] w λr w'=>Ext w w'/\r=(if 1<=n/\n<=32 then .tuple #[ia (2 ^ n.toNat-1) n.toNat,Δ 0] else .tuple #[ia 0 0,Δ 1]):=by
 refine aB func76 ?_;refine bp b5.i λg U ad W X=>?_;refine aQ (λv V=>v= .bool (decide (¬(1<=n/\n<=32)))/\U=V) ?_ ?_
 .rintro _ _ ⟨rfl,rfl⟩;simp only[ae];refine⟨λh=>?_,λh=>?_⟩
  .rw[cW (cs:=#[.int .u64 0,Δ 0]) Ψ];refine bH (vs:=[.int .u64 0,Δ 0]) b5.i rfl rfl (by intro u hu;simp at hu;rcases hu with rfl|rfl<;>rfl) X λaa I ab J=>?_;rw[eO b5.p b5.i rfl J.range,if_neg h];exact⟨W.then I (by rintro r ac rfl;omega),rfl⟩
  .have h:1<=n/\n<=32:=X4.1 h;obtain⟨m,rfl⟩:∃m:Nat,n=m:=⟨n.toNat,Ω⟩;rw[tC Ω];have af:0<2 ^ m:=Nat.two_pow_pos m;have ag:2 ^ m<=2 ^ 32:=S5 Ω Ω;simp only[c3];rw[wrap_u64 Ω Ω,show (((2 ^ m:Nat):Int)-1)=((2 ^ m-1:Nat):Int) by omega];rw[cW (cs:=#[.int .u64 ((2 ^ m-1:Nat):Int),Δ m]) Ψ];refine bH (vs:=[.int .u64 ((2 ^ m-1:Nat):Int),Δ m]) b5.i rfl rfl (by intro u hu;simp at hu;rcases hu with rfl|rfl<;>rfl) X λaa I ab J=>?_;rw[eO b5.p b5.i rfl J.range,if_pos h];exact⟨W.then I (by rintro r ac rfl;omega),rfl⟩
 .intro ah Y;simp only[aq,bR,ae];refine⟨λh=>Y _ _ ⟨?_,rfl⟩,λh=>Y _ _ ⟨?_,rfl⟩⟩
  .rw[decide_eq_true];omega
  .congr 1;simp;omega
theorem yD {b:Nat} {v:Int} (ag:lu b n) (ah:Laid w) (an: -1<=v):ak x3 Ej [ia b n,Δ v] w λr w'=>r=Δ (iB b n v)/\Ext w w':=by
 obtain⟨ao,W⟩:=ag;have X:b<2 ^ 64:=Nat.lt_of_lt_of_le W (S5 Ω Ω);refine aB func186 ?_;refine bN λg U ap J Y=>?_;rw[ac b5.p rfl,ad Ψ (Y.Q1 rfl)];simp only[c3,ce,ae];rw[wrap_i64 Ω Ω];refine⟨λh=>⟨by rw[Gy h],J⟩,λaq=>?_⟩;rw[ac b5.p rfl,ad Ψ (Y.Q0 rfl)];refine aQ (λu V=>U=V/\ ∃r s:Nat,u= .int .u64 (r:Int)/\r<2 ^ 64/\v+1=s/\ ∀i,r.testBit i=(decide (s<=i)&&b.testBit i)) ?_ ?_
 .rintro _ _ ⟨rfl,r,s,rfl,ai,I,aa⟩;simp only[bk,ae];refine⟨λaj=>⟨by rw[GA aa Ω I],J⟩,λaj=>?_⟩;obtain⟨k,m,ab⟩:=Gs r Ω;refine (GC (ah.ext J) ab ai).mono ?_;rintro _ au _ ⟨rfl,al⟩;exact⟨by rw[Gz Ω W aa ab I],J.trans al⟩
 .intro av af;refine⟨λh=>?_,λh=>?_⟩
  .obtain⟨s,rfl⟩:∃s:Nat,v=s:=⟨v.toNat,Ω⟩;have aw:0<2 ^ (s+1):=Nat.two_pow_pos _;have ax:2 ^ (s+1)<=2 ^ 32:=S5 Ω Ω;simp only[aN];rw[wrap_i64 Ω Ω,show ((s:Int)+1)=((s+1:Nat):Int) by omega,tC Ω];simp only[c3];rw[wrap_u64 Ω Ω,show (((2 ^ (s+1):Nat):Int)-1)=((2 ^ (s+1)-1:Nat):Int) by omega,yz];refine af _ _ ⟨rfl,_,s+1,rfl,Gu _ _,Ω,λi=>?_⟩;rw[ys,yA];by_cases am:i<64
   .by_cases hi:s+1<=i
    .simp[am,hi,show ¬i<s+1 by omega]
    .simp[hi,show i<s+1 by omega]
   .rw[yt X Ω];simp
  .exact af _ _ ⟨rfl,b,0,rfl,X,Ω,λi=>Ξ⟩
theorem GF {b:Nat} (J:lu b n) (W:Laid w):ak x3 Ei [ia b n] w λr w'=>r=Δ (iB b n (-1))/\Ext w w':=by
 refine aB func185 ?_;refine bN λg U aa I X=>?_;rw[bn b5.p b5.i rfl X.range];refine (yD J (W.ext I) Ω).mono ?_;rintro _ V _ ⟨rfl,Y⟩;exact⟨rfl,I.trans Y⟩
theorem GG {b:Nat} {v:Int} (ao:lu b n):ak x3 Dz [ia b n,Δ v] w λr w'=>r=ia (if 0<=v/\v<n then iA b (2 ^ v.toNat) else b) n/\Ext w w':=by
 refine aB func78 ?_;refine bN λg U aA ab ag=>?_;refine bp b5.i λap V aC ah ai=>?_;have s1:=ab.size;have aD:=ag.lt;refine di (λJ=>∃W,af J g b5 [.int .u64 ((W:Nat):Int),Δ (n:Int)]/\af J ap b5 [.int .u64 0,Δ 0]/\Ext w J/\W=(if 0<=v/\v<n then iA b (2 ^ v.toNat) else b)) ?_ ?_
 .rintro J ⟨W,aq,au,av,rfl⟩;rw[bn b5.p b5.i rfl aq.range];refine bH (vs:=[_,_]) b5.i rfl rfl (by intro u hu;simp at hu;rcases hu with rfl|rfl<;>rfl) au λaE aw aF ax=>?_;rw[eO b5.p b5.i rfl ax.range];exact⟨rfl,av.then aw (by rintro r ay rfl;omega)⟩
 .intro aG aj;have X:=ag.ext ah;rw[bn b5.p b5.i rfl X.range];refine yB.mono ?_;rintro _ aH _ ⟨rfl,I⟩;have al:=(ab.trans ah).trans I;simp only[ae,cm];refine⟨λh aI Y _ _=>?_,λh=>aj _ ⟨b,X.ext I,ai.ext I,al,by rw[if_neg h]⟩⟩;have am:=(X.ext I).ext Y;rw[ac b5.p rfl,ad Ψ (am.Q0 rfl)];obtain⟨s,rfl⟩:∃s:Nat,v=s:=⟨v.toNat,Ω⟩;have aJ:=ao.1;rw[tC Ω,yz,ac b5.p rfl];refine bh ew.i rfl rfl am (by simp[ia,x1.cells]) λaK an aL az=>?_;refine aj _ ⟨_,az,((ai.ext I).ext Y).aa an Ω,(al.trans Y).then an (by rintro r ay rfl;omega),?_⟩;rw[if_pos h,j0]
def nD (v:Int):Nat:=if v<0 then 0 else 40-v.toNat
theorem tD (x:Nat):nD x=40-x:=by unfold nD;rw[if_neg Ω];omega
theorem tE {b g:Nat} (J:lu b n):
  lU x3 l2 [Γ g] (gg b n).length (λk vs _=>∃v:Nat,(gg b n)[k]? =σ v/\vs=[Δ (v:Int)])
   (λw=>af w g b5 [.int .u64 (b:Int),Δ (n:Int)]/\Laid w):=by
 refine⟨l2.enters,λl ai aw w aa _ aj ⟨ab,ac⟩ ak=>?_⟩;have ax:=J.1;refine oL func184 ?_;rw[bn b5.p b5.i rfl ab.range];refine (GF J ac).free.mono ?_;rintro _ U ⟨al,rfl,W⟩;refine⟨λv V=>∃k,k<=(gg b n).length/\v=Δ (mr (gg b n)[k]?)/\ai k V/\af V g b5 [.int .u64 (b:Int),Δ (n:Int)]/\Laid V,
  λv _=>nD (bO v),⟨0,X3 _,by rw[Gx],aa 0 _ _ W al.b ak,ab.ext W,ac.ext W⟩,?_⟩
 rintro _ V ⟨k,ay,rfl,ad,am,an⟩;cases I:(gg b n)[k]? with
 |none=>
  have:k=(gg b n).length:=by
   have:=List.getElem?_eq_none_iff.1 I;omega
  subst this;simp only[mr,ce,ae];exact⟨λh=>Ω,λ_=>.inl ad⟩
 |some x=>
  have X:=(x4.1 I).1;have az:=(Gw.1 (x5 I)).1;simp only[mr,ce,ae];refine⟨λ_=>?_,λh=>Ω⟩;refine⟨rfl,(aj k _ V X ⟨am,an⟩ ⟨x,I,rfl⟩ ad).mono ?_⟩;rintro _ aA (⟨rfl,⟨ag,ah⟩,ao⟩|⟨rfl,ap⟩)
  .simp only[bf,Y1,aS];rw[bn b5.p b5.i rfl ag.range];refine (yD J ah Ω).free.mono ?_;rintro _ aB ⟨aq,rfl,Y⟩;refine⟨⟨k+1,X,congrArg (V4 .i64) (yx I),aa _ _ _ Y aq.b ao.1,ag.ext Y,ah.ext Y⟩,?_⟩;rw[yx I];cases au:(gg b n)[k+1]? with
   |none=>show 0<nD x;rw[tD];omega
   |some y=>
    have aC:x<y:=by
     have h1:=(x4.1 I).2;have av:=(x4.1 au).2;rw[<-h1,<-av];exact V2.1 (yu b n) k (k+1) _ _ Ω
    show nD y<nD x;rw[tD,tD];omega
  .simp only[bf,X5,bQ];exact .inr ⟨k,X,ap⟩
theorem tF {b:Nat}:ak x3 DH [ia b n] w λr w'=>Ext w w'/\ ∃g,r= .func (.func l2) #[] #[Γ g]/\w.heap.size<=g/\af w' g b5 [.int .u64 (b:Int),Δ (n:Int)]:=by
 refine aB func118 ?_;refine bN λg U V I J=>?_;rw[kx];exact⟨I,g,rfl,Ω,J⟩
abbrev dN (s:Λ):Prop:=∀x∈s,1<=x/\x<=32
theorem dN.tail {s:Λ} (h:dN (k::s)):dN s:=λx I=>h x (.tail _ I)
theorem kH {s:Λ} (h:dN s):1<=aM s:=(oP s h).1
theorem nE:∀ (s t:Λ) (m:Int),ct s t m=(ct s t 0).map λn=>n+m*aM s
 |[],[],m=>by simp[ct,aM]
 |k::s,v::t,m=>by
  unfold ct;split
  .rw[nE s t (m*k+v),nE s t (0*k+v)];simp only[Option.map_map,aM];congr 1;funext n;simp only[Function.comp];rw[Int.add_mul,Int.add_mul,<-Int.mul_assoc];simp;omega
  .rfl
 |[],_::_,_=>rfl
 |_::_,[],_=>rfl
theorem tG {L j:Nat} {rest:List (Λ)} (V:rest.length=L):∀ {kn v:Nat},v<kn-> ∀ {x:Λ},rest[j]? =σ x->
  ((W3 kn).flatMap λ(v:Nat)=>rest.map λt=>(v:Int)::t)[v*L+j]? =σ ((v:Int)::x)
 |0,v,h,_,_=>Ω
 |kn+1,v,h,x,J=>by
  have W:=(x4.1 J).1;have U:((W3 kn).flatMap λ(v:Nat)=>rest.map λt=>(v:Int)::t).length=kn*L:=by
   simp only[List.length_flatMap,u4,V];rw[List.map_const',List.length_range,List.sum_replicate_nat]
  rw[List.range_succ,List.flatMap_append];by_cases I:v<kn
  .have:(v+1)*L<=kn*L:=Y5 _ I;rw[U5] at this;rw[j9 (by rw[U];omega)];exact tG V I J
  .have I:v=kn:=Ω
   subst I;rw[Z2 (by rw[U];omega),U,show v*L+j-v*L=j by omega];simp[J]
theorem nF:∀ {s:Λ},dN s-> ∀ {i:Nat} {t:Λ},(bm s)[i]? =σ t->ct s t 0=σ (i:Int)
 |[],_,i,t,h=>by
  cases i with
  |zero=>simp[bm] at h;subst h;rfl
  |succ i=>simp[bm] at h
 |k::s,I,i,t,h=>by
  have ab:=I k (.head _);have J:=hd I.tail;have ac:=kH I.tail;obtain⟨kn,rfl⟩:∃kn:Nat,k=kn:=⟨k.toNat,Ω⟩;have hi:=(x4.1 h).1;rw[hd I,aM,Int.toNat_mul Ω Ω,<-J,j0] at hi;have X:0<(bm s).length:=Ω
  have U:i / (bm s).length<kn:=Nat.div_lt_of_lt_mul (by rw[Nat.mul_comm];exact hi);have Y:i % (bm s).length<(bm s).length:=Nat.mod_lt _ X;obtain⟨x,V⟩:∃x,(bm s)[i % (bm s).length]? =σ x:=⟨_,y0 Y⟩;have W:=tG (kn:=kn) rfl U V;rw[Nat.mul_comm,Nat.div_add_mod] at W;have h':((W3 ((kn:Int).toNat)).flatMap λ(v:Nat)=>(bm s).map λt=>(v:Int)::t)[i]? =σ t:=h;rw[j0,W] at h';cases h';unfold ct;rw[if_pos ⟨Int.natCast_nonneg _,Int.ofNat_lt.2 U⟩,nE,nF I.tail V];simp only[Y0,Y8,Int.zero_mul,Int.zero_add];have aa:aM s=((bm s).length:Int):=by rw[J];omega
  rw[aa,<-Int.natCast_mul,<-Int.natCast_add];congr 1;rw[Nat.mul_comm,Nat.add_comm,Nat.div_add_mod]
theorem oX:∀ {s:Λ},dN s-> ∀ {t:Λ} {n:Int},ct s t 0=σ n->(bm s)[n.toNat]? =σ t
 |[],_,[],n,h=>by simp[ct] at h;subst h;rfl
 |k::s,I,v::t,n,h=>by
  have Y:=I k (.head _);have V:=hd I.tail;have aa:=kH I.tail;obtain⟨kn,rfl⟩:∃kn:Nat,k=kn:=⟨k.toNat,Ω⟩;unfold ct at h;split at h
  .rename_i ab;rw[nE] at h;cases U:ct s t 0 with
   |none=>rw[U] at h;cases h
   |some q=>
    rw[U] at h;simp only[Y0,Y8,Int.zero_mul,Int.zero_add] at h;have W:=mj I.tail U;simp only[Int.zero_mul,Int.zero_add,Int.one_mul] at W;obtain⟨J,rfl⟩:∃J:Nat,v=J:=⟨v.toNat,Ω⟩;have X:=tG (kn:=kn) (v:=J) rfl Ω (oX I.tail U);have e:n.toNat=J*(bm s).length+q.toNat:=by
     rw[<-h,V];have:((J*(aM s).toNat:Nat):Int)=(J:Int)*aM s:=by rw[Int.natCast_mul,Int.toNat_of_nonneg Ω]
     omega
    rw[e];show ((W3 ((kn:Int).toNat)).flatMap λ(v:Nat)=>(bm s).map λt=>(v:Int)::t)[_]? =_;rw[j0];exact X
  .cases h
 |[],_,_::_,_,h=>by cases h
 |_::_,_,[],_,h=>by cases h
theorem yE:∀ (s:Λ),dN s-> ∀ (n c:Int),cF s (n+c*aM s)=cF s n
 |[],_,_,_=>rfl
 |k::s,I,n,c=>by
  have J:=kH I.tail;simp only[cF,aM];rw[<-Int.mul_assoc,yE s I.tail,Int.add_mul_ediv_right _ _ Ω,Int.add_mul_emod_self_right]
theorem oY:∀ {s:Λ},dN s-> ∀ {n:Int},0<=n->n<aM s->ct s (cF s n) 0=σ n
 |[],_,n,J,h1=>by simp[aM] at h1;simp[cF,ct];omega
 |k::s,I,n,J,h1=>by
  have W:=I k (.head _);have X:=kH I.tail;simp only[cF,aM] at h1 ⊢;have U:n / aM s<k:=Int.ediv_lt_of_lt_mul Ω h1;have V:0<=n / aM s:=Int.ediv_nonneg J Ω;have hm:n / aM s % k=n / aM s:=Int.emod_eq_of_lt V U;rw[hm];unfold ct;rw[if_pos ⟨V,U⟩,nE];have e:cF s n=cF s (n % aM s):=by
   have:=yE s I.tail (n % aM s) (n / aM s);rw[<-this];congr 1;have:=Int.emod_add_mul_ediv n (aM s);rw[Int.mul_comm (n / aM s)];omega
  rw[e,oY I.tail (Int.emod_nonneg _ Ω) (Int.emod_lt_of_pos _ Ω)];simp only[Y0,Y8,Int.zero_mul,Int.zero_add];have:=Int.emod_add_mul_ediv n (aM s);rw[Int.mul_comm (n / aM s)];omega
theorem nG {s:Λ} (I:dN s) {i:Nat} (h:(i:Int)<aM s):(bm s)[i]? =σ (cF s i):=by
 have:=oX I (oY I (n:=(i:Int)) Ω h);simpa using this
def cM (s cs t:Λ):Int:=match ct s t 0 with
 |some n=>cs.getD n.toNat 0
 |none=>0
def upto {α:Type} (l:List α) (d:α) (i:Nat):List α:=l.take i++o7 (l.length-i) d
theorem oZ {α:Type} (l:List α) (d:α) (i:Nat):(upto l d i).length=l.length:=by simp[upto];omega
theorem nH {α:Type} (l:List α) (d:α):upto l d 0=o7 l.length d:=by simp[upto]
theorem nI {α:Type} (l:List α) (d:α):upto l d l.length=l:=by simp[upto]
theorem nJ {α:Type} {l:List α} {d x:α} {i:Nat} (h:l[i]? =σ x):(upto l d i).set i x=upto l d (i+1):=by
 have hi:=(x4.1 h).1;unfold upto;rw[U9 _ _ Θ,r8,h];have e:i-(l.take i).length=0:=Θ
 obtain⟨m,hm⟩:∃m,l.length-i=m+1:=⟨l.length-i-1,Ω⟩;rw[e,hm,show l.length-(i+1)=m by omega];simp[List.replicate_succ]
theorem nK {α:Type} {l:List α} {i:Nat} {x:α} (h:l[i]? =σ x):l.set i x=l:=by
 apply X8;intro j;rw[X7];split
 .rename_i I;subst I;rw[if_pos (x4.1 h).1,h]
 .rfl
def tH:Λ->Int
 |[]=>0
 |x::l=>l.foldl min x
def yF (P:Int->Prop) (m:Int):Prop:=P m/\ ∀x,P x->m<=x
def c6 (s t:Λ):Prop:=∃n,ct s t 0=σ n
theorem GH (k v:Int) (s t:Λ):ct (k::s) (v::t) 0=if 0<=v/\v<k then (ct s t 0).map (λn=>n+(0*k+v)*aM s) else ν:=by
 conv=>lhs;unfold ct
 rw[nE]
theorem yG {v:Int} {s t:Λ}:c6 (k::s) (v::t)↔(0<=v/\v<k)/\c6 s t:=by
 unfold c6;rw[GH];constructor
 .rintro⟨n,h⟩;split at h
  .rename_i I;cases J:ct s t 0 with
   |none=>rw[J] at h;cases h
   |some q=>exact⟨I,q,rfl⟩
  .cases h
 .rintro⟨I,q,J⟩;rw[if_pos I,J];exact⟨_,rfl⟩
theorem yH {t:Λ}:c6 [] t↔t=[]:=by
 cases t with
 |nil=>exact⟨λ_=>rfl,λ_=>⟨0,rfl⟩⟩
 |cons v t=>
  constructor
  .rintro⟨_,h⟩;cases h
  .intro h;cases h
theorem q2 {s t:Λ} (h:c6 s t):s.length=t.length:=by
 obtain⟨n,h⟩:=h;rcases Nat.decEq s.length t.length with I|I
 .rw[tk s t 0 I] at h;cases h
 .exact I
theorem yI {s t:Λ} (I:dN s) {n:Int} (h:ct s t 0=σ n):cF s n=t:=by
 have U:=mj I h;have h1:=oX I h;simp only[Int.zero_mul,Int.zero_add,Int.one_mul] at U;have J:=nG I (i:=n.toNat) Ω;rw[h1] at J;have e:((n.toNat:Nat):Int)=n:=Ω
 rw[e] at J;exact (Z8 J).symm
theorem q3 {s cs:Λ} (I:dN s) (J:cs.length=(aM s).toNat):cs=(W3 (aM s).toNat).map λ(q:Nat)=>cM s cs (cF s q):=by
 apply List.ext_getElem
 .simp[J]
 .intro i h1 U;rw[List.getElem_map,List.getElem_range];have V:=kH I;have hi:(i:Int)<aM s:=Ω
  unfold cM;rw[oY I Ω hi];simp only[j0];rw[u5,y0 h1];rfl
theorem tI {s:Λ} (I:dN s) {q:Nat} (J:q<(aM s).toNat):c6 s (cF s q):=⟨_,oY I Ω (by have:=kH I;omega)⟩
theorem GI {s cs J:Λ} (I:dN s) (U:cs.length=(aM s).toNat) (V:J.length=(aM s).toNat) (h:∀t,c6 s t->cM s cs t=cM s J t):cs=J:=by
 rw[q3 I U,q3 I V];apply List.map_congr_left;intro q W;exact h _ (tI I (by simpa using W))
theorem GJ (h:l≠[]):yF (λc=>c∈l) (tH l):=by
 obtain⟨x,r,rfl⟩:∃v r,l=v::r:=by cases l with
  |nil=>exact absurd rfl h
  |cons v r=>exact⟨v,r,rfl⟩
 clear h;show yF (λc=>c∈x::r) (r.foldl min x);induction r generalizing x with
 |nil=>exact⟨.head _,λy U=>by simp at U;simp[U]⟩
 |cons y r V=>
  rw[List.foldl_cons];obtain⟨h1,J⟩:=V (min x y);refine⟨?_,λz I=>?_⟩
  .rcases T1.1 h1 with h1|h1
   .rw[h1];rcases Int.le_total x y with h|h
    .rw[Int.min_eq_left h];exact .head _
    .rw[Int.min_eq_right h];exact .tail _ (.head _)
   .exact .tail _ (.tail _ h1)
  .rcases T1.1 I with rfl|I
   .have:=J _ (.head _);omega
   .rcases T1.1 I with rfl|I
    .have:=J _ (.head _);omega
    .exact J _ (.tail _ I)
def nL (m:Λ) (i j:Nat):Prop:=∀ (p q:Nat) (x y:Int),p<q->q<=i->q≠j->m[p]? =σ x->m[q]? =σ y->x<=y
def o0 (m:Λ) (i:Nat):Prop:=∀ (p q:Nat) (x y:Int),p<q->q<i->m[p]? =σ x->m[q]? =σ y->x<=y
theorem GK {m:Λ} {i:Nat} (h:o0 m i):nL m i i:=λp q x y h1 U V I J=>h p q x y h1 Ω I J
theorem GL {m:Λ} {i:Nat} (h:nL m i 0):o0 m (i+1):=λp q x y h1 U I J=>h p q x y h1 Ω Ω I J
theorem GM {m:Λ} {i:Nat} {a b:Int} (h:nL m i j) (aa:0<j) (U:m[j-1]? =σ a) (W:m[j]? =σ b) (X:a<=b):o0 m (i+1):=by
 intro p q x y h1 ab I J;by_cases V:q=j
 .subst V;rw[W] at J;cases J;by_cases Y:p=q-1
  .subst Y;rw[U] at I;cases I;exact X
  .have:=h p (q-1) x a Ω Ω Ω I U;omega
 .exact h p q x y h1 Ω V I J
theorem GN {m:Λ} {i:Nat} {a b:Int} (h:nL m i j) (ae:0<j) (hi:j<=i) (W:m[j-1]? =σ a) (X:m[j]? =σ b) (af:b<a):nL ((m.set j a).set (j-1) b) i (j-1):=by
 intro p q x y h1 V Y I J;have aa:=(x4.1 X).1;have ab:∀ (r:Nat),((m.set j a).set (j-1) b)[r]? =if r=j-1 then σ b else if r=j then σ a else m[r]?:=λr=>by
  by_cases h:r=j-1
  .subst h;rw[V9 Θ,if_pos rfl]
  .rw[W8 (T9 h),if_neg h];by_cases h':r=j
   .subst h';rw[V9 aa,if_pos rfl]
   .rw[W8 (T9 h'),if_neg h']
 rw[ab] at I J;rw[if_neg Y] at J;by_cases U:q=j
 .rw[if_pos U] at J;cases J;split at I
  .cases I;omega
  .split at I
   .omega
   .exact h p (j-1) x a Ω Ω Ω I W
 .rw[if_neg U] at J;split at I
  .cases I;have:=h j q b y;by_cases ac:j<q
   .exact this ac V U X J
   .omega
  .split at I
   .rename_i ad;subst ad;cases I;exact h (p-1) q a y Ω V U W J
   .exact h p q x y h1 V U I J
theorem swap_perm {m:Λ} {i:Nat} {a b:Int} (V:i<j) (J:m[i]? =σ a) (I:m[j]? =σ b):((m.set j a).set i b).Perm m:=by
 induction m generalizing i j with
 |nil=>simp at J
 |cons x m U=>
  cases j with
  |zero=>omega
  |succ j=>
   cases i with
   |zero=>
    simp at J I ⊢;subst J;obtain⟨W,I⟩:=x4.1 I;rw[show m=m.take j++m[j]::m.drop (j+1) by simp];rw[U9 _ _ Θ];have e:j-(m.take j).length=0:=Θ
    rw[e,I];simp only[List.set_cons_zero];refine (List.Perm.cons b (List.perm_middle)).trans ?_;refine (List.Perm.swap x b _).trans ?_;exact List.Perm.cons x List.perm_middle.symm
   |succ i=>
    simp at J I ⊢;exact U Ω J I
theorem GO {m:Λ} (h:o0 m m.length):m.Pairwise (·<= ·):=by
 rw[V2];intro i j hi I J;exact h i j _ _ J I (y0 hi) (y0 I)
def Good (o:Λ) (n:Nat):Prop:=o.length=n/\ ∀ (i:Nat) (p:Int),o[i]? =σ p->(0<=p/\p<n)/\ ∀j,j<i->o[j]? ≠σ p
theorem Good.inj {o:Λ} {i:Nat} {p:Int} (h:Good o n) (hi:o[i]? =σ p) (I:o[j]? =σ p):i=j:=by
 rcases Nat.lt_trichotomy i j with h1|h1|h1
 .exact absurd hi ((h.2 j p I).2 i h1)
 .exact h1
 .exact absurd I ((h.2 i p hi).2 j h1)
def yJ (m:Λ):Prop:=∀i:Nat,i<m.length->m[i]? =σ (i:Int)
theorem yK {o m:Λ} (h:Good o n) (J:m.Perm o) (I:m.Pairwise (·<= ·)):yJ m:=by
 have Y:o.Nodup:=V2.2 λi j hi aa af he=>by
  have:=h.inj (i:=i) (j:=j) (p:=o[j]) (by rw[y0 hi,he]) (y0 aa);omega
 have ab:m.Nodup:=J.nodup_iff.2 Y;have ag:m.length=n:=by rw[J.length_eq,h.1]
 have W:∀x∈m,0<=x/\x<(n:Int):=λx ac=>by
  obtain⟨i,hi,he⟩:=List.getElem_of_mem (J.mem_iff.1 ac);exact (h.2 i x (by rw[y0 hi,he])).1
 have X:∀ (i:Nat) (hi:i+1<m.length),m[i]<m[i+1]:=λi hi=>by
  have h1:=V2.1 I i (i+1) Ω hi Ω;have U:=V2.1 ab i (i+1) Ω hi Ω;omega
 have ad:∀ (i:Nat) (hi:i<m.length),(i:Int)<=m[i]:=by
  intro i;induction i with
  |zero=>intro hi;exact (W _ (T6 hi)).1
  |succ i V=>
   intro hi;have h1:=V Ω;have U:=X i hi;omega
 have ae:∀ (d i:Nat) (hi:i<m.length),i+d+1=m.length->m[i]<=(i:Int):=by
  intro d;induction d with
  |zero=>
   intro i hi he;have:=(W _ (T6 hi)).2;omega
  |succ d V=>
   intro i hi he;have h1:=V (i+1) Ω Ω;have U:=X i Ω;omega
 intro i hi;rw[y0 hi];have h1:=ad i hi;have U:=ae (m.length-i-1) i hi Ω;congr 1;omega
theorem GP {o m:Λ} (h:yJ m) (J:m.Perm o):Good o m.length:=by
 have Y:m.Nodup:=V2.2 λi j hi I ab he=>by
  have h1:=h i hi;have U:=h j I;rw[y0 hi] at h1;rw[y0 I] at U;have h1:=Z8 h1;have U:=Z8 U;omega
 have aa:o.Nodup:=J.nodup_iff.1 Y;refine⟨J.length_eq.symm,λi p hi=>⟨?_,λj I V=>?_⟩⟩
 .obtain⟨k,W,he⟩:=List.getElem_of_mem (J.mem_iff.2 (x5 hi));have h1:=h k W;rw[y0 W,he] at h1;cases h1;omega
 .have X:i<o.length:=(x4.1 hi).1;have:=V2.1 aa j i Ω X I;rw[y0 X] at hi;rw[y0 (show j<o.length by omega)] at V;exact this ((Z8 V).trans (Z8 hi).symm)
theorem Good.yL {o:Λ} {p:Nat} (h:Good o n) (J:p<n):∃j:Nat,o[j]? =σ (p:Int):=by
 let le:Int->Int->Bool:=λa b=>decide (a<=b);have h1:(o.mergeSort le).Perm o:=List.mergeSort_perm o le;have I:(o.mergeSort le).Pairwise (·<= ·):=by
  refine (List.pairwise_mergeSort (le:=le) (λa b c h1 I=>?_) (λa b=>?_) o).imp λh=>by simpa[le] using h
  .simp[le] at*;omega
  .simp[le];omega
 have U:=yK h h1 I p (by rw[h1.length_eq,h.1];exact J);obtain⟨j,V,he⟩:=List.getElem_of_mem (h1.mem_iff.1 (x5 U));exact⟨j,by rw[y0 V,he]⟩
def kI (o x:Λ):Λ:=(W3 o.length).map λ(p:Nat)=>x.getD (o.idxOf (p:Int)) 0
theorem yM (o x:Λ):(kI o x).length=o.length:=by simp[kI]
theorem yN {o x:Λ} {p:Int} (h:Good o n) (W:x.length=n) (I:o[j]? =σ p):(kI o x)[p.toNat]? =x[j]?:=by
 have h1:=(h.2 j p I).1;have X:j<o.length:=(x4.1 I).1;have hm:p∈o:=x5 I;have J:=List.idxOf_lt_length_of_mem hm;have U:o.idxOf p=j:=h.inj (by rw[y0 J,List.getElem_idxOf J]) I;have V:((p.toNat:Nat):Int)=p:=Ω
 have Y:=h.1;unfold kI;rw[x8,List.getElem?_range Ω];simp only[Y0,V,U];rw[u5,y0 (show j<x.length by omega)];rfl
theorem yO {o x y:Λ} (h:Good o n) (U:x.length=n) (X:y.length=n) (V:∀ (j:Nat) (p:Int),o[j]? =σ p->y[p.toNat]? =x[j]?):y=kI o x:=by
 refine X8 λp=>?_;have Y:=h.1;by_cases W:p<n
 .obtain⟨j,I⟩:=h.yL W;have h1:=V j p I;have J:=yN h U I;rw[j0] at h1 J;rw[h1,J]
 .rw[Y4 Ω,Y4 (by rw[yM];omega)]
theorem mu:∀ {s t:Λ},c6 s t↔s.length=t.length/\ ∀ (i:Nat) (a v:Int),s[i]? =σ a->t[i]? =σ v->0<=v/\v<a
 |[],t=>by
  rw[yH];exact⟨λh=>⟨by rw[h],λi a v h _=>by simp at h⟩,λh=>Z5 h.1.symm⟩
 |k::s,[]=>⟨λh=>absurd (q2 h) Ξ,λh=>absurd h.1 Ξ⟩
 |k::s,v::t=>by
  rw[yG,mu (s:=s) (t:=t)];refine⟨λ⟨h1,J,U⟩=>⟨by simp[J],λi a u I hu=>?_⟩,λ⟨h1,J⟩=>⟨J 0 k v rfl rfl,by simpa using h1,λi a u I hu=>J (i+1) a u (by simpa using I) (by simpa using hu)⟩⟩;cases i with
  |zero=>simp at I hu;subst I;subst hu;exact h1
  |succ i=>exact U i a u (by simpa using I) (by simpa using hu)
def dS (s o:Λ):Λ:=o.map λp=>s.getD p.toNat 0
theorem q4 (s o:Λ):(dS s o).length=o.length:=by simp[dS]
theorem yP {s o:Λ} {p:Int} (h:Good o n) (I:s.length=n) (J:o[j]? =σ p):(dS s o)[j]? =s[p.toNat]?:=by
 have h1:=(h.2 j p J).1;unfold dS;rw[x8,J,Y0,u5,y0 (show p.toNat<s.length by omega)];rfl
theorem GQ {s o:Λ} (h:Good o n) (I:s.length=n) {x:Int} (J:x∈dS s o):x∈s:=by
 obtain⟨p,U,rfl⟩:=Z1.1 J;obtain⟨j,V,he⟩:=List.getElem_of_mem U;have h1:=(h.2 j p (by rw[y0 V,he])).1;rw[u5,y0 (show p.toNat<s.length by omega)];exact T6 _
theorem bS.GR {s o:Λ} (J:bS s) (h:Good o n) (I:s.length=n):bS (dS s o):=
 ⟨by rw[q4,h.1,<-I];exact J.1,λx U=>J.2 x (GQ h I U)⟩
theorem GS {s o x:Λ} (h:Good o n) (I:s.length=n) (X:c6 (dS s o) x):c6 s (kI o x):=by
 obtain⟨h1,Y⟩:=mu.1 X;rw[q4,h.1] at h1;refine mu.2 ⟨by rw[yM,h.1,I],λp a v J aa=>?_⟩;have ab:p<n:=by have:=(x4.1 J).1;omega
 obtain⟨j,U⟩:=h.yL ab;have V:=yP h I U;have W:=yN h h1.symm U;rw[j0] at V W;exact Y j a v (by rw[V,J]) (by rw[<-W,aa])
def mv (s cs o:Λ):Λ:=(W3 (aM (dS s o)).toNat).map λ(q:Nat)=>cM s cs (kI o (cF (dS s o) q))
theorem yQ (s cs o:Λ):(mv s cs o).length=(aM (dS s o)).toNat:=by simp[mv]
theorem tJ {f:Int->Bool} {x:Int}:runN f (x::l)=if f x=true then runN f l+1 else 0:=by
 unfold runN;rw[List.takeWhile_cons];by_cases h:f x=true
 .rw[if_pos h,if_pos h,j5]
 .rw[if_neg h,if_neg h];rfl
theorem tK (f:Int->Bool):∀l:Λ,l.dropWhile f=l.drop (runN f l)
 |[]=>rfl
 |x::l=>by
  rw[List.dropWhile_cons,tJ];by_cases h:f x=true
  .rw[if_pos h,if_pos h,tK f l];rfl
  .rw[if_neg h,if_neg h];rfl
theorem yR (f:Int->Bool):∀l:Λ,l.takeWhile f=l.take (runN f l)
 |[]=>rfl
 |x::l=>by
  rw[List.takeWhile_cons,tJ];by_cases h:f x=true
  .rw[if_pos h,if_pos h,List.take_succ_cons,yR f l]
  .rw[if_neg h,if_neg h];rfl
theorem yS {f:Int->Bool}:∀ {l:Λ} {b:Int} {q:Λ},l.dropWhile f=b::q->f b=false
 |x::l,b,q,h=>by
  rw[List.dropWhile_cons] at h;by_cases I:f x=true
  .rw[if_pos I] at h;exact yS h
  .rw[if_neg I] at h;have:=(List.cons.inj h).1;subst this;cases J:f x
   .rfl
   .exact absurd J I
theorem tL {p:Λ} {a:Nat} {b:Int} {q:Λ} (h:p.drop a=b::q):p[a]? =σ b:=by
 have:=List.getElem?_drop (xs:=p) (i:=a) (j:=0);rw[h] at this;simpa using this.symm
theorem GU (p:Λ) (at_:Nat):match nB p at_ with
  | .word a b=>lex (p.drop at_)=(((p.take b).drop a)::(lex (p.drop b)).1,(lex (p.drop b)).2)
  | .none=>lex (p.drop at_)=([],true)
  | .text _=>lex (p.drop at_)=([],false):=by
 have W:(p.drop at_).dropWhile cj=p.drop (fA p at_):=by rw[tK,List.drop_drop];rfl
 have X:(p.drop (fA p at_)).dropWhile bJ=p.drop (hJ p (fA p at_)):=by rw[tK,List.drop_drop];rfl
 have aa:(p.drop (fA p at_)).takeWhile bJ=(p.take (hJ p (fA p at_))).drop (fA p at_):=by
  rw[yR,List.drop_take];congr 1;unfold hJ;omega
 have V:runN bJ (p.drop (fA p at_))=hJ p (fA p at_)-fA p at_:=by unfold hJ;omega
 have ak:fA p at_<=hJ p (fA p at_):=by unfold hJ;omega
 unfold nB;generalize fA p at_=a at*;generalize hJ p a=b at*;by_cases h1:b<p.length/\(∀c,p[b]? =σ c->cj c=false)
 .rw[if_pos h1];simp only;rw[jb,W];cases J:p.drop a with
  |nil=>
   have:=List.drop_eq_nil_iff.1 J;omega
  |cons x q=>
   simp only;rw[J] at X aa V;by_cases U:bJ x=true
   .rw[if_pos U,X];cases Y:p.drop b with
    |nil=>have:=List.drop_eq_nil_iff.1 Y;omega
    |cons c r=>
     simp only;rw[h1.2 c (tL Y)];rfl
   .rw[if_neg U]
 .rw[if_neg h1];by_cases ab:a=b
  .rw[if_pos ab];simp only;subst ab;rw[jb,W];cases J:p.drop a with
   |nil=>rfl
   |cons x q=>
    exfalso;have ac:=tL J;have ag:=(x4.1 ac).1;rw[J] at V;rw[J] at W;have ah:=yS W;refine h1 ⟨ag,λc ad=>?_⟩;rw[ac] at ad;cases ad;exact ah
  .rw[if_neg ab];simp only;rw[jb (p.drop at_),W];cases J:p.drop a with
   |nil=>
    rw[J] at V;have:runN bJ []=0:=rfl;omega
   |cons x q=>
    simp only;rw[J] at X aa V;have U:bJ x=true:=by
     rw[tJ] at V;by_cases U:bJ x=true
     .exact U
     .rw[if_neg U] at V;omega
    rw[if_pos U,X,aa];cases Y:p.drop b with
    |nil=>simp only;rw[jb []];rfl
    |cons c r=>
     simp only;have ae:=tL Y;have ai:=(x4.1 ae).1;have aj:cj c=true:=by
      cases I:cj c with
      |true=>rfl
      |false=>exact absurd ⟨ai,λd af=>by rw[ae] at af;cases af;exact I⟩ h1
     rw[if_pos aj]
def gz (w:x2) (g:Nat) (R:Nat->Prop) (toks:List (Λ)) (clean:Bool):Prop:=∃I p at_,kG w g I p at_ (-1)/\(∀r,leads I r->R r)/\lex (p.drop at_)=(toks,clean)
theorem gz.aa {g:Nat} {R:Nat->Prop} {toks:List (Λ)} (h:gz w g R toks clean) (I:ag S w w') (U:¬S g) (V:∀r,R r->¬S r):gz w' g R toks clean:=by
 obtain⟨W,p,a,⟨h1,X,Y,ab,ac,ad⟩,J,ae⟩:=h;exact⟨W,p,a,⟨h1,X,Y,ab.aa I U,ac,bc ad I λr af=>V r (J r af)⟩,J,ae⟩
theorem gz.words {g:Nat} {R:Nat->Prop} {toks:List (Λ)} (h:gz w g R toks clean):toks.length<=100000/\ ∀t∈toks,Bytes t/\t≠[]/\t.length<=100000:=by
 obtain⟨X,p,a,⟨Y,aa,ab,_⟩,_,J⟩:=h;have ac:(p.drop a).length<=100000:=by rw[R5];omega
 have I:=oR _ (p.drop a) (o8 _);rw[J] at I;refine⟨by show toks.length<=_;have I:toks.length<=_:=I;omega,λt V=>?_⟩;have U:=qU _ (p.drop a) (o8 _) t (by rw[J];exact V);refine⟨λb W=>?_,U.1,Ω⟩;have:=of_decide_eq_true (U.2.1 b W);omega
def GV (w:x2) (g:Nat) (R:Nat->Prop) (toks:List (Λ)) (clean:Bool) (v:x1) (w':x2):Prop:=ag (λr=>r=g) w w'/\match toks with
 |t::l=>gz w' g R l clean/\ ∃n:Int,v= .tuple #[bz t,Δ n,Δ 0]
 |[]=>∃n:Int,v= .tuple #[bz [],Δ n,Δ (if clean then 2 else 11)]
theorem o1 {g:Nat} {R:Nat->Prop} {toks:List (Λ)} (h:gz w g R toks clean):ak x3 s7 [Γ g] w (GV w g R toks clean):=by
 obtain⟨ab,p,a,h1,ac,W⟩:=h;refine (Gp h1).mono ?_;intro v w' _ hw;have J:=GU p a;unfold oV at hw;cases X:nB p a with
 |word x y=>
  rw[X] at hw J;simp only at hw J;rw[W] at J;obtain⟨rfl,Y,I⟩:=hw;obtain⟨U,V⟩:=Prod.mk.inj J;subst U V;exact⟨Y,⟨ab,p,y,I,ac,rfl⟩,_,rfl⟩
 |none=>
  rw[X] at hw J;simp only at hw J;rw[W] at J;obtain⟨U,V⟩:=Prod.mk.inj J;subst U V;obtain⟨n,rfl,ad⟩:=hw;exact⟨ad.aa _,_,rfl⟩
 |text b=>
  rw[X] at hw J;simp only at hw J;rw[W] at J;obtain⟨U,V⟩:=Prod.mk.inj J;subst U V;obtain⟨rfl,Y,_⟩:=hw;exact⟨Y,_,rfl⟩
def je (w:Λ):x1:=match fz w with
 |some n=>.tuple #[Δ n,Δ 0]
 |none=>.tuple #[Δ 0,Δ 4]
theorem yT {i:Nat} {b:Int} (hi:l[i]? =σ b):(l.take (i+1)).all fy=((l.take i).all fy&&fy b):=by
 rw[r8,hi,List.all_append];simp
theorem yU {i:Nat} {b:Int} (hi:l[i]? =σ b):(l.take (i+1)).foldl eH 0=eH ((l.take i).foldl eH 0) b:=by
 rw[r8,hi,List.foldl_append];rfl
theorem yV (I:l≠[]) (h:l.all fy=true):jc l=σ (l.foldl eH 0):=by
 unfold jc;cases l with
 |nil=>exact absurd rfl I
 |cons x l=>simp only[h,if_true]
theorem yW {i:Nat} {b:Int} (hi:l[i]? =σ b) (I:fy b=false):jc l=ν:=by
 unfold jc;cases l with
 |nil=>simp at hi
 |cons x l=>
  simp only;rw[if_neg];intro h;have:=List.all_eq_true.1 h b (x5 hi);rw[I] at this;cases this
def nM (w l:Λ) (s:Int):Prop:=(s=1\/s= -1)/\fz w=(jc l).map λn=>s*n
theorem yX:nM (45::l) l (-1):=⟨.inr rfl,by simp only[fz];congr 1;funext n;omega⟩
theorem yY {w:Λ} (h:∀b,w[0]? =σ b->b≠45):nM w w 1:=⟨.inl rfl,by
 have e:fz w=jc w:=by
  unfold fz;cases w with
  |nil=>rfl
  |cons x l=>
   have:=h x rfl;split
   .rename_i l' he;exact absurd (List.cons.inj he).1 this
   .rfl
 rw[e];cases jc w with
 |none=>rfl
 |some n=>simp⟩
theorem q5 {w:Λ} {s:Int} (h:nM w l s) (I:jc l=ν):je w= .tuple #[Δ 0,Δ 4]:=by
 unfold je;rw[h.2,I];rfl
theorem yZ {w:Λ} {s n:Int} (h:nM w l s) (I:jc l=σ n):je w= .tuple #[Δ (s*n),Δ 0]:=by
 unfold je;rw[h.2,I];rfl
theorem GW (ad:Bytes l) (am:l.length<=100000):ak x3 Er [bz l] w λv w'=>v=je l/\Ext w w':=by
 refine aB func198 ?_;rw[F7];refine h4 (λaz aA U=>Ext w U/\ ∃ (m:Λ) (s:Int),az=bz m/\aA=Δ s/\Bytes m/\m.length<=100000/\nM l m s) ?_ ?_
 .rintro _ _ U ⟨ai,m,s,rfl,rfl,aj,aM,af⟩;rw[yb aj (λb I=>by cases I),ae];refine⟨λJ=>⟨by rw[q5 af (by rw[J];rfl)],ai⟩,λJ=>?_⟩;refine tx cP.u cB.u cv.u aj Ω λbv V an ap _=>?_;rw[aT cB.u ap];refine qg.range m.length (λi _ _ c ag=>Ext V ag/\c=Δ ((m.take i).foldl eH 0)/\(m.take i).all fy=true) Ω ⟨Ext.refl _,rfl,rfl⟩ ?_ ?_
  .rintro i aC t3 _ ag aD hi ⟨W,rfl,X⟩ aE;obtain⟨b,aa⟩:∃b,m[i]? =σ b:=⟨_,y0 hi⟩;have aO:=aj b (x5 aa);refine Υ λ_=>?_;refine F8 (λ_ _ c ah=>Ext V ah/\c=Δ ((m.take (i+1)).foldl eH 0)/\(m.take (i+1)).all fy=true) ?_ ?_
   .rintro aP aR c ah aF;rw[aN];exact aE _ _ _ _ aF
   intro aG Y;rw[bd cB.u cv.i Ψ (ap.ext W) aa];refine aQ (λv ah=>ag=ah/\v= .bool (!fy b)) ?_ ?_
   rotate_left
   .intro aH ab;rw[aq,ae];refine⟨λh=>ab _ _ ⟨rfl,by unfold fy;rw[decide_eq_false Ω];rfl⟩,λh=>?_⟩;rw[bR];refine ab _ _ ⟨rfl,?_⟩;unfold fy;congr 1;by_cases au:57<b
    .rw[decide_eq_true au,decide_eq_false Ω];rfl
    .rw[decide_eq_false au,decide_eq_true Ω];rfl
   rintro _ _ ⟨rfl,rfl⟩;cases al:fy b with
   |false=>
    rw[X5,bQ];exact⟨by rw[q5 af (yW aa al)],(ai.trans an).trans W⟩
   |true=>
    rw[Y1,aS];have aU:=of_decide_eq_true al;have ac:=qV (l:=m.take i) (n:=0) X ⟨Int.le_refl _,Φ⟩;rw[yU aa,yT aa,X,al] at Y;generalize (m.take i).foldl eH 0=n at*;have ac:0<=n/\n<=4611686018427387904:=ac;rw[c3,wrap_u8 Ω Ω,e2 cv.u ao.u,wrap_i64 (x:=b-48) Ω Ω,c3,wrap_i64 Ω Ω,oM Φ,Int.tdiv_eq_ediv_of_nonneg Ω];rw[wrap_i64 Ω Ω,bR,ae];refine⟨λaI=>Y _ _ _ _ ⟨W,?_,rfl⟩,λaI=>?_⟩
    .congr 1;unfold eH ax;omega
    .rw[fv,wrap_i64 Ω Ω,aN,wrap_i64 Ω Ω];refine Y _ _ _ _ ⟨W,?_,rfl⟩;congr 1;unfold eH ax;omega
  .rintro aC t3 _ ag aD ⟨W,rfl,X⟩;rw[o9] at X ⊢;rw[aq,ae];refine⟨λh=>Ω,λ_=>?_⟩;have ac:=qV (l:=m) (n:=0) X ⟨Int.le_refl _,Φ⟩;have ac:0<=m.foldl eH 0/\m.foldl eH 0<=4611686018427387904:=ac;rw[fv];have hw:Y6.wrap (s*m.foldl eH 0)=s*m.foldl eH 0:=by
    rcases af.1 with rfl|rfl<;>exact wrap_i64 Ω Ω
   rw[hw];exact⟨by rw[yZ af (yV J X)],(ai.trans an).trans W⟩
 .intro aG Y;refine aQ (λv V=>w=V/\ ∃c:Bool,v= .bool c/\(c=true↔l[0]? =σ 45)) ?_ ?_
  .rintro _ _ ⟨rfl,c,rfl,av⟩;rw[bD];refine⟨λaJ=>?_,λaw=>?_⟩
   .intro aV aK _ _;have ay:=av.1 aJ;cases l with
    |nil=>simp at ay
    |cons x r=>
     have aL:x=45:=by simpa using ay
     subst aL;rw[yc (y:=1) (i:=1) rfl cP.u Ξ];exact Y _ _ _ ⟨aK,r,-1,rfl,rfl,λb I=>ad b (.tail _ I),by simp at am;omega,yX⟩
   .refine Y _ _ _ ⟨Ext.refl _,l,1,rfl,rfl,ad,am,yY λb I he=>?_⟩;subst he;rw[av.2 I] at aw;cases aw
  .intro aH ab;rw[Gc ad (λb I=>by cases I),ae];refine⟨λJ=>?_,λJ=>ab _ _ ⟨rfl,false,rfl,⟨λh=>(by cases h),λh=>by rw[X4.1 J] at h;simp at h⟩⟩⟩;cases l with
   |nil=>exact absurd rfl J
   |cons x r=>
    rw[oS (y:=0) (i:=0) (b:=x) rfl cP.u ad rfl,bk];exact ab _ _ ⟨rfl,_,rfl,Ξ⟩
theorem q6 {s s':aH} {w:Λ} (h:dy s=σ (w,s')):s.toks=w::s'.toks/\s'={s with toks:=s'.toks}:=by
 unfold dy at h;cases I:s.toks with
 |nil=>rw[I] at h;cases h
 |cons x l=>
  rw[I] at h;simp only[Y8,T8] at h;obtain⟨rfl,rfl⟩:=h;exact⟨rfl,rfl⟩
theorem gQ {n:Int} {s s':aH} (h:bb lo hi s=σ (n,s')):(lo<=n/\n<=hi)/\(∃w,s.toks=w::s'.toks/\fz w=σ n)/\s'={s with toks:=s'.toks}:=by
 unfold bb at h;cases hw:dy s with
 |none=>rw[hw] at h;cases h
 |some q=>
  obtain⟨w,s1⟩:=q;rw[hw] at h;simp only at h;obtain⟨h1,J⟩:=q6 hw;cases I:fz w with
  |none=>rw[I] at h;cases h
  |some m=>
   rw[I] at h;simp only at h;split at h
   .rename_i U;simp only[Y8,T8] at h;obtain⟨rfl,rfl⟩:=h;exact⟨U,⟨w,h1,I⟩,J⟩
   .cases h
def hh (k:Nat) (s s':aH):Prop:=s.toks.length=s'.toks.length+k/\s'={s with toks:=s'.toks}
theorem hh.refl (s:aH):hh 0 s s:=⟨rfl,rfl⟩
theorem hh.trans {a b:Nat} {r s t:aH} (h:hh a r s) (k:hh b s t):hh (a+b) r t:=⟨by have:=h.1;have:=k.1;omega,by rw[k.2,h.2]⟩
theorem dl {n:Int} {s s':aH} (h:bb lo hi s=σ (n,s')):hh 1 s s':=by
 obtain⟨_,⟨w,h1,_⟩,I⟩:=gQ h;exact⟨by rw[h1];simp,I⟩
theorem hh.eqs {k:Nat} {s s':aH} (h:hh k s s'):s'.told=s.told/\s'.big=s.big/\s'.shared=s.shared:=by rw[h.2];exact⟨rfl,rfl,rfl⟩
theorem jf {α:Type} {f:List α->aH->Option (α×aH)} (I:List α->aH->Prop) (V:∀acc s a s',I acc s->f acc s=σ (a,s')->I (acc++[a]) s'):
  ∀ (n:Nat) (acc:List α) (s:aH) (l:List α) (s':aH),I acc s->cD f n acc s=σ (l,s')->I l s'/\l.length=acc.length+n
 |0,acc,s,l,s',J,h=>by
  simp only[cD,Y8,T8] at h;obtain⟨rfl,rfl⟩:=h;exact⟨J,Ω⟩
 |n+1,acc,s,l,s',J,h=>by
  simp only[cD] at h;cases U:f acc s with
  |none=>rw[U] at h;cases h
  |some q=>
   obtain⟨a,s1⟩:=q;rw[U] at h;have:=jf I V n _ _ _ _ (V _ _ _ _ J U) h;exact⟨this.1,by rw[this.2];simp;omega⟩
theorem tM {n:Int} {k:Nat} {s s':aH} (h:eI n k s=σ (l,s')):hh l.length s s'/\l.length=k/\l.Nodup/\ ∀v∈l,0<=v/\v<n:=by
 have:=jf (λacc t=>hh acc.length s t/\acc.Nodup/\ ∀v∈acc,0<=v/\v<n) (λacc t a aa ⟨h1,V,W⟩ h=>by
  cases J:bb 0 (n-1) t with
  |none=>rw[J] at h;cases h
  |some q=>
   obtain⟨v,ab⟩:=q;rw[J] at h;simp only at h;split at h
   .cases h
   .rename_i X;simp only[Y8,T8] at h;obtain⟨rfl,rfl⟩:=h;have ac:=(gQ J).1;refine⟨by rw[u9];exact h1.trans (dl J),List.nodup_append.2 ⟨V,Ξ,λx I y U he=>?_⟩,λx I=>?_⟩
    .rw[j4] at U;subst U;subst he;exact X I
    .rcases n9.1 I with I|I
     .exact W x I
     .rw[j4.1 I];omega) k [] s l s' ⟨hh.refl s,List.nodup_nil,λv Y=>by cases Y⟩ h
 exact⟨this.1.1,by simpa using this.2,this.1.2.1,this.1.2.2⟩
theorem tN:∀ {ks acc:Λ} {s s':aH} {t:Λ},hG ks acc s=σ (t,s')-> ∃u,t=acc++u/\c6 ks u/\hh u.length s s'
 |[],acc,s,s',t,h=>by
  simp only[hG,Y8,T8] at h;obtain⟨rfl,rfl⟩:=h;exact⟨[],Ξ,yH.2 rfl,hh.refl s⟩
 |k::ks,acc,s,s',t,h=>by
  simp only[hG] at h;cases I:bb 0 (k-1) s with
  |none=>rw[I] at h;cases h
  |some q=>
   obtain⟨v,s1⟩:=q;rw[I] at h;obtain⟨u,rfl,hu,J⟩:=tN h;have U:=(gQ I).1;exact⟨v::u,Ξ,yG.2 ⟨Ω,hu⟩,by rw[j5,Nat.add_comm];exact (dl I).trans J⟩
def lv (sizes:Λ) (l:List (Λ×Int)):Prop:=(l.map (·.1)).Nodup/\ ∀p∈l,c6 sizes p.1/\0<=p.2
theorem nN {sizes:Λ} {acc:List (Λ×Int)} {s s':aH} {a:Λ×Int} (h:dz sizes acc s=σ (a,s')):a.1∉acc.map (·.1)/\c6 sizes a.1/\0<=a.2/\hh (a.1.length+1) s s':=by
 unfold dz at h;cases J:hG sizes [] s with
 |none=>rw[J] at h;cases h
 |some q=>
  obtain⟨t,s1⟩:=q;rw[J] at h;simp only at h;obtain⟨u,hu,U,V⟩:=tN J;rw[List.nil_append] at hu;subst hu;cases I:bb 0 ax s1 with
  |none=>rw[I] at h;cases h
  |some q=>
   obtain⟨c,X⟩:=q;rw[I] at h;simp only at h;split at h
   .cases h
   .rename_i W;simp only[Y8,T8] at h;obtain⟨rfl,rfl⟩:=h;exact⟨W,U,(gQ I).1.1,V.trans (dl I)⟩
structure y1 (s s':aH):Prop where
 toks:s'.toks.length<s.toks.length
 big:s.big=true->s'.big=true
theorem GX {sizes:Λ} {s s':aH} {l:List (Λ×Int)} (aa:∀q∈s.shared,lv q.1 q.2/\q.2.length<=N) (ak:s.toks.length<=N) (h:dA sizes s=σ (l,s')):
  lv sizes l/\l.length<=N/\s'.shared=s.shared/\y1 s s':=by
 unfold dA at h;cases V:bb (-ax) ax s with
 |none=>rw[V] at h;cases h
 |some q=>
  obtain⟨n,s1⟩:=q;rw[V] at h;simp only at h;have h1:=dl V;obtain⟨al,ab,W⟩:=h1.eqs;split at h
  .cases I:s1.shared[(-n-1).toNat]? with
   |none=>rw[I] at h;cases h
   |some q=>
    obtain⟨z,l'⟩:=q;rw[I] at h;simp only at h;split at h
    .rename_i ae;simp only[Y8,T8] at h;obtain⟨rfl,rfl⟩:=h;subst ae;have hm:=x5 I;rw[W] at hm;exact⟨(aa _ hm).1,(aa _ hm).2,W,by have:=h1.1;omega,λU=>by rw[ab];exact U⟩
    .cases h
  .have:=jf (λacc t=>lv sizes acc/\t.shared=s.shared/\t.toks.length+acc.length<=s1.toks.length/\(s.big=true->t.big=true)) (λacc t a am ⟨g1,X,af,Y⟩ g=>by
    obtain⟨ag,ah,ai,ac⟩:=nN g;obtain⟨f1,f2,f3⟩:=ac.eqs;refine⟨⟨?_,λp J=>?_⟩,by rw[f3,X],by have:=ac.1;simp only[u9,U2];omega,λU=>by rw[f2];exact Y U⟩
    .rw[Z3];exact List.nodup_append.2 ⟨g1.1,Ξ,λx aj y ad he=>by
      simp only[S3,List.map_nil,j4] at ad;subst ad;subst he;exact ag aj⟩
    .rcases n9.1 J with J|J
     .exact g1.2 p J
     .rw[j4.1 J];exact⟨ah,ai⟩) n.toNat [] (a8 (decide (16384<min (s1.told+n) ax)) {s1 with told:=min (s1.told+n) ax}) l s' ⟨⟨Ξ,λp J=>by cases J⟩,W,by simp[a8],λU=>by simp[a8,ab,U]⟩ h
   obtain⟨⟨g1,X,af,Y⟩,_⟩:=this;have:=h1.1;exact⟨g1,Ω,X,⟨Ω,Y⟩⟩
structure q7 (all:Λ) (N:Nat) (f:cg):Prop where
 scope:f.scope.Nodup/\ ∀v∈f.scope,0<=v/\v<all.length
 sizes:f.sizes=f.scope.map λv=>all.getD v.toNat 0
 other:0<=f.other
 lines:lv f.sizes f.lines
 len:f.lines.length<=N
theorem GY {all:Λ} {s s':aH} {f:cg} (ac:∀q∈s.shared,lv q.1 q.2/\q.2.length<=N) (ay:s.toks.length<=N) (h:cX all s=σ (f,s')):
  q7 all N f/\(∀q∈s'.shared,lv q.1 q.2/\q.2.length<=N)/\y1 s s'/\(s'.big=false->f.scope.length<=6/\da f.sizes=false):=by
 unfold cX at h;cases ad:bb (-ax) ax s with
 |none=>rw[ad] at h;cases h
 |some q=>
 obtain⟨a,s1⟩:=q;rw[ad] at h;simp only at h;have t0:=dl ad;obtain⟨az,am,an⟩:=t0.eqs;cases h1:eI all.length a.natAbs s1 with
 |none=>rw[h1] at h;cases h
 |some q=>
 obtain⟨sc,W⟩:=q;rw[h1] at h;simp only at h;obtain⟨af,aA,ao,ap⟩:=tM h1;obtain⟨aB,aq,au⟩:=af.eqs;generalize av:sc.map (λv=>all.getD v.toNat 0)=sizes at h;cases Y:bb 0 ax (a8 (decide (6<a.natAbs)||da sizes) W) with
 |none=>rw[Y] at h;cases h
 |some q=>
 obtain⟨other,U⟩:=q;rw[Y] at h;simp only at h;have ag:=dl Y;obtain⟨aC,aa,X⟩:=ag.eqs;have X:U.shared=s.shared:=by rw[X];show W.shared=_;rw[au,an]
 have aD:U.toks.length<s.toks.length:=by
  have:=t0.1;have:=af.1;have ab:=ag.1;have:(a8 (decide (6<a.natAbs)||da sizes) W).toks.length=W.toks.length:=rfl;omega
 cases ab:dA sizes U with
 |none=>rw[ab] at h;cases h
 |some q=>
 obtain⟨lines,J⟩:=q;rw[ab] at h;simp only[Y8,T8] at h;obtain⟨rfl,rfl⟩:=h;obtain⟨g1,ah,ai,aj⟩:=GX (N:=N) (by rw[X];exact ac) Ω ab;have aw:=aj.big;have aE:=aj.toks;have ak:U.big=true-> ∀ae:aH,ae=(if a<0 then {J with shared:=J.shared++[(sizes,lines)]} else J)->ae.big=true:=λV ae he=>by
  rw[he];split<;>exact aw V
 have aa:U.big=(s.big||(decide (6<a.natAbs)||da sizes)):=by
  rw[aa];show (W.big||_)=_;rw[aq,am]
 refine⟨⟨⟨ao,ap⟩,av.symm,(gQ Y).1.1,g1,ah⟩,λq I=>?_,⟨?_,λV=>ak (by rw[aa,V];rfl) _ rfl⟩,λV=>?_⟩
 .split at I
  .rcases n9.1 I with I|I
   .rw[show J.shared=s.shared by rw[ai,X]] at I;exact ac q I
   .rw[j4.1 I];exact⟨g1,ah⟩
  .rw[show J.shared=s.shared by rw[ai,X]] at I;exact ac q I
 .have:(if a<0 then {J with shared:=J.shared++[(sizes,lines)]} else J).toks=J.toks:=by split<;>rfl
  rw[this];omega
 .have al:U.big=false:=by
   cases I:U.big with
   |false=>rfl
   |true=>rw[ak I _ rfl] at V;cases V
  rw[aa,S2,S2,decide_eq_false_iff_not] at al;show sc.length<=6/\_;exact⟨Ω,al.2.2⟩
structure eQ (N:Nat) (f:b2):Prop where
 name:f.name.length<=64
 k:1<=f.k/\f.k<=2147483648
 sizes:1<=f.sizes.length/\f.sizes.length<=64/\ ∀z∈f.sizes,1<=z/\z<=32
 jP:f.funs.length<=256
 funs:∀x∈f.funs,q7 f.sizes N x/\x.scope.length<=6/\da x.sizes=false
theorem o2 {b:Bool} {s:aH} (h:(a8 b s).big=false):s.big=false/\b=false:=by
 have h:(s.big||b)=false:=h;exact S2.1 h
theorem GZ {a b:aH} (h:a.big=true->b.big=true) (I:b.big=false):a.big=false:=by
 cases J:a.big with
 |false=>rfl
 |true=>rw[h J] at I;cases I
theorem y2 {s s':aH} {f:b2} (I:s.shared=[]) (h:gO s=σ (f,s')) (J:s'.big=false):eQ s.toks.length f/\f.name∈s.toks:=by
 unfold gO at h;cases ai:dy s with
 |none=>rw[ai] at h;cases h
 |some q=>
 obtain⟨name,s0⟩:=q;rw[ai] at h;simp only at h;obtain⟨U,V⟩:=q6 ai;cases h1:bb 1 ax (a8 (decide (64<name.length)) s0) with
 |none=>rw[h1] at h;cases h
 |some q=>
 obtain⟨n,s1⟩:=q;rw[h1] at h;simp only at h;have Y:=dl h1;cases aj:bb 1 ax (a8 (decide (64<n)) s1) with
 |none=>rw[aj] at h;cases h
 |some q=>
 obtain⟨most,az⟩:=q;rw[aj] at h;simp only at h;have ak:=dl aj;cases al:bb 0 ax az with
 |none=>rw[al] at h;cases h
 |some q=>
 obtain⟨count,ae⟩:=q;rw[al] at h;simp only at h;have t3:=dl al;cases af:bb 1 ax (a8 (decide (256<count)) ae) with
 |none=>rw[af] at h;cases h
 |some q=>
 obtain⟨k,ab⟩:=q;rw[af] at h;simp only at h;have t4:=dl af;cases am:cD (fj most) n.toNat [] (a8 (decide (2147483648<k)) ab) with
 |none=>rw[am] at h;cases h
 |some q=>
 obtain⟨sizes,ag⟩:=q;rw[am] at h;simp only at h;cases an:cD (λ_ s=>cX sizes s) count.toNat [] ag with
 |none=>rw[an] at h;cases h
 |some q=>
 obtain⟨funs,aA⟩:=q;rw[an] at h;simp only[Y8,T8] at h;obtain⟨rfl,rfl⟩:=h;have aB:=jf (λ(acc:Λ) t=>t.shared=[]/\t.toks.length<=s.toks.length/\(t.big=false->ab.big=false/\k<=2147483648/\ ∀z∈acc,1<=z/\z<=32)) (λacc t a aC ⟨g1,au,ao⟩ g=>by
  unfold fj at g;cases aa:bb 1 most t with
  |none=>rw[aa] at g;cases g
  |some q=>
   obtain⟨z,Y⟩:=q;rw[aa] at g;simp only[Y8,T8] at g;obtain⟨rfl,rfl⟩:=g;have av:=dl aa;obtain⟨aZ,aD,aE⟩:=av.eqs;have a1:=(gQ aa).1;refine⟨by show Y.shared=[];rw[aE,g1],by show Y.toks.length<=_;have:=av.1;omega,λJ=>?_⟩;obtain⟨W,ac⟩:=o2 J;rw[aD] at W;obtain⟨ap,aq,aF⟩:=ao W;refine⟨ap,aq,λy ad=>?_⟩;rcases n9.1 ad with ad|ad
   .exact aF y ad
   .rw[j4.1 ad];have:=of_decide_eq_false ac;omega) n.toNat [] (a8 (decide (2147483648<k)) ab) sizes ag ⟨by
     show ab.shared=[];rw[t4.eqs.2.2];show ae.shared=[];rw[t3.eqs.2.2,ak.eqs.2.2];show s1.shared=[];rw[Y.eqs.2.2];show s0.shared=[];rw[V];exact I,by
     show ab.toks.length<=_;have aG:=Y.1;have aI:=ak.1;have a3:=t3.1;have a4:=t4.1;have W:(a8 (decide (64<name.length)) s0).toks=s0.toks:=rfl;have ac:(a8 (decide (64<n)) s1).toks=s1.toks:=rfl;have ah:(a8 (decide (256<count)) ae).toks=ae.toks:=rfl;rw[W] at aG;rw[ac] at aI;rw[ah] at a4;rw[U,j5];omega,λJ=>by
     obtain⟨W,ac⟩:=o2 J;have:=of_decide_eq_false ac;exact⟨W,Ω,λz aJ=>by cases aJ⟩⟩ am
 obtain⟨⟨aK,aL,aM⟩,aN⟩:=aB;have aO:=jf (λ(acc:List cg) t=>(∀q∈t.shared,lv q.1 q.2/\q.2.length<=s.toks.length)/\t.toks.length<=s.toks.length/\(t.big=false->ag.big=false/\ ∀x∈acc,q7 sizes s.toks.length x/\x.scope.length<=6/\da x.sizes=false)) (λacc t a aC ⟨g1,au,ao⟩ g=>by
  obtain⟨aP,aQ,aw,aR⟩:=GY g1 au g;refine⟨aQ,by have:=aw.toks;omega,λJ=>?_⟩;obtain⟨ap,aq⟩:=ao (GZ aw.big J);refine⟨ap,λx X=>?_⟩;rcases n9.1 X with X|X
  .exact aq x X
  .rw[j4.1 X];exact⟨aP,aR J⟩) count.toNat [] ag funs aA ⟨(by rw[aK];intro q aa;cases aa),aL,λJ=>⟨J,λx X=>by cases X⟩⟩ an
 obtain⟨⟨_,_,d3⟩,d4⟩:=aO;obtain⟨aS,d5⟩:=d3 J;obtain⟨ah,aT,aU⟩:=aM aS;rw[t4.eqs.2.1] at ah;obtain⟨ay,aV⟩:=o2 ah;rw[t3.eqs.2.1,ak.eqs.2.1] at ay;obtain⟨W,aW⟩:=o2 ay;rw[Y.eqs.2.1] at W;obtain⟨_,aX⟩:=o2 W;have:=of_decide_eq_false aV;have:=of_decide_eq_false aW;have:=of_decide_eq_false aX;have a2:=(gQ h1).1;have aY:=(gQ af).1;simp only[List.length_nil,V3] at aN d4;exact⟨⟨by show name.length<=64;omega,⟨aY.1,aT⟩,⟨by show 1<=sizes.length;omega,by show sizes.length<=64;omega,aU⟩,by show funs.length<=256;omega,d5⟩,by rw[U];exact .head _⟩
def iC (x:cg) (k:Int) (t:Λ):Int:=min (match x.lines.find? (λp=>decide (p.1=t)) with
 |some p=>p.2
 |none=>x.other) k
def bj (l:Λ):Λ:=((W3 64).map λ(v:Nat)=>(v:Int)).filter λv=>decide (v∈l)
def bF (sizes scope:Λ):Λ:=scope.map λv=>sizes.getD v.toNat 0
def nO (scope I t:Λ):Λ:=scope.map λv=>t.getD (I.idxOf v) 0
abbrev cw:Type:=Λ×Λ
def gR (sizes:Λ) (k:Int) (x:cg):cw:=(bj x.scope,(bm (bF sizes (bj x.scope))).map λt=>iC x k (nO x.scope (bj x.scope) t))
def dF (k:Int) (a b:Λ):Λ:=List.zipWith (λx y=>min (x+y) k) a b
def hj (k:Int) (acc:List cw) (g:cw):List cw:=if g.1∈acc.map (·.1) then acc.map λh=>if h.1=g.1 then (h.1,dF k h.2 g.2) else h else acc++[g]
def ib:Λ->Int
 |[]=>0
 |x::l=>x*64 ^ l.length+ib l
def cY (l:Λ):Int:=l.length*64 ^ 6+ib l
def gA (g:cw):List cw->List cw
 |[]=>[g]
 |h::l=>if cY h.1<cY g.1 then h::gA g l else g::h::l
def e3 (g:cw):Bool:=g.2.any λc=>decide (0<c)
def eV (f:b2):List cw:=(f.funs.map (gR f.sizes f.k)).foldl (hj f.k) []
def e4 (f:b2):List cw:=((eV f).filter e3).foldl (λl g=>gA g l) []
structure aV where
 k:Int
 sizes:Λ
 zero:Int
 unary:List (Λ)
 funs:List cw
deriving DecidableEq
def cb (f:b2):aV:=(e4 f).foldl (λn g=>match g.1 with
 |[]=>{n with zero:=g.2.getD 0 0}
 |[v]=>{n with unary:=n.unary.set v.toNat g.2}
 |_=>{n with funs:=n.funs++[g]}) ⟨f.k,f.sizes,0,f.sizes.map λz=>o7 z.toNat 0,[]⟩
abbrev hK:Type:=Rd (Λ)×Rd (List (Λ×Int))
def bw (g gs:Nat) (A:aj):aj:=λr=>r=g\/r=gs\/A r
def e5 (gs:Nat) (e big I J told:Int) (sv:x1):List x1:=[Γ gs,Δ e,Δ big,Δ I,Δ J,Δ told,sv]
def cq (g gs:Nat) (A:aj) (B:aj):aj:=λr=>¬bw g gs A r/\B r
def jQ (w:x2) (g gs:Nat) (A:aj) (B:aj):Prop:=g≠gs/\¬A g/\¬A gs/\(∀r,bw g gs A r->r<w.heap.size)/\ ∀r,B r->r<w.heap.size
def c5 (w:x2) (g gs:Nat) (A:aj) (B:aj) (s:aH) (clean:Bool):Prop:=jQ w g gs A B/\gz w gs (cq g gs A B) s.toks clean/\(0<=s.told/\s.told<=ax/\s.shared.length+s.toks.length<=100000)/\
 ∃big I J told sv,af w g b6 (e5 gs 0 big I J told sv)/\((s.big=true↔big≠0)/\(s.big=false->told=s.told))/\bi A (cq g gs A B) w [sv] (show List hK from s.shared)
def eg (w:x2) (g gs:Nat) (A:aj) (B:aj):Prop:=jQ w g gs A B/\ ∃ (e big I J told:Int) (sv:x1) (l:List hK),af w g b6 (e5 gs e big I J told sv)/\(e≠0/\l.length<=100000)/\bi A (cq g gs A B) w [sv] l
theorem jQ.aa {g:Nat} {A:aj} {B:aj} (h:jQ w g gs A B) (J:ag S w w'):jQ w' g gs A B:=by
 obtain⟨h1,U,V,W,X⟩:=h;exact⟨h1,U,V,λr I=>Nat.lt_of_lt_of_le (W r I) J.size,λr I=>Nat.lt_of_lt_of_le (X r I) J.size⟩
theorem y3 {g:Nat} {A:aj} {B:aj} (I:∀r,A r->¬S r) (J:∀r,cq g gs A B r->¬S r):∀r,A r\/cq g gs A B r->¬S r:=λr h=>h.elim (I r) (J r)
theorem c5.aa {g:Nat} {A:aj} {B:aj} {s:aH} (h:c5 w g gs A B s clean) (I:ag S w w') (J:∀r,bw g gs A r->¬S r) (U:∀r,cq g gs A B r->¬S r):c5 w' g gs A B s clean:=by
 obtain⟨h1,V,W,big,X,Y,told,sv,ab,ac,ad⟩:=h;exact⟨h1.aa I,V.aa I (J gs (.inr (.inl rfl))) U,W,big,X,Y,told,sv,ab.aa I (J g (.inl rfl)),ac,am.aa ad I λr _ h=>y3 (λr ae=>J r (.inr (.inr ae))) U r h⟩
theorem eg.aa {g:Nat} {A:aj} {B:aj} (h:eg w g gs A B) (I:ag S w w') (J:∀r,bw g gs A r->¬S r) (U:∀r,cq g gs A B r->¬S r):eg w' g gs A B:=by
 obtain⟨h1,e,big,V,W,told,sv,l,X,Y,ab⟩:=h;exact⟨h1.aa I,e,big,V,W,told,sv,l,X.aa I (J g (.inl rfl)),Y,am.aa ab I λr _ h=>y3 (λr ac=>J r (.inr (.inr ac))) U r h⟩
theorem c5.ext {g:Nat} {A:aj} {B:aj} {s:aH} (h:c5 w g gs A B s clean) (I:Ext w w'):c5 w' g gs A B s clean:=h.aa (I.aa λ_=>False) (λ_ _ h=>h) (λ_ _ h=>h)
theorem eg.ext {g:Nat} {A:aj} {B:aj} (h:eg w g gs A B) (I:Ext w w'):eg w' g gs A B:=h.aa (I.aa λ_=>False) (λ_ _ h=>h) (λ_ _ h=>h)
def fk (w:x2) (g gs:Nat) (A:aj) (B:aj) (clean:Bool) (s':Option aH) (w':x2):Prop:=ag (bw g gs A) w w'/\match s' with
 |some s'=>c5 w' g gs A B s' clean
 |none=>eg w' g gs A B
theorem tO {g:Nat} {e big I J told:Int} (U:af w g b6 (e5 gs e big I J told sv)):ak x3 jE [Γ g] w λv w'=>v= .bool (decide (e=0))/\Ext w w':=by
 refine aB func150 ?_;rw[ay,ac b6.p rfl,ac eG.p rfl,ad Ψ (U.cell (o:=0+1+0) rfl),bk];exact⟨rfl,Ext.refl _⟩
theorem nP {g:Nat} {A:aj} {B:aj} {s:aH} (h:c5 w g gs A B s clean):ak x3 jE [Γ g] w λv w'=>v= .bool true/\Ext w w':=by
 obtain⟨_,_,_,big,J,U,told,sv,I,_⟩:=h;exact (tO I).mono λ_ _ _ h=>h
theorem mw {g:Nat} {A:aj} {B:aj} (h:eg w g gs A B):ak x3 jE [Γ g] w λv w'=>v= .bool false/\Ext w w':=by
 obtain⟨_,e,big,W,X,told,sv,l,I,J,_⟩:=h;refine (tO I).mono ?_;rintro _ U _ ⟨rfl,V⟩;exact⟨by rw[decide_eq_false J.1],V⟩
theorem q8 {g:Nat} {A B:aj} (h:A r\/cq g gs A B r) (I:¬A g):r≠g:=by
 rintro rfl;rcases h with h|h
 .exact I h
 .exact h.1 (.inl rfl)
theorem q9 {g:Nat} {A:aj} {B:aj} {big ah J told e:Int} {l:List hK} (I:jQ w g gs A B) (ai:af w g b6 (e5 gs 0 big ah J told sv)) (al:bi A (cq g gs A B) w [sv] l) (he:e≠0) (an:l.length<=100000):
  ak x3 l0 [Γ g,Δ e,Δ at_] w λ_ w'=>ag (λr=>r=g) w w'/\eg w' g gs A B:=by
 refine aB func153 ?_;rw[ay,ac b6.p rfl,ac eG.p rfl,ad Ψ (ai.cell (o:=0+1+0) rfl),bk,ae];refine⟨λ_=>?_,λh=>absurd rfl h⟩;rw[ay,ac b6.p rfl,ac eG.p rfl];refine bh (g:=g) (o:=1) eF.i rfl rfl ai (by simp[e5]) λU ao au W=>?_;have W:af U g b6 (e5 gs e big ah J told sv):=W;rw[ay,ac b6.p rfl,ac eG.p rfl];refine bh (g:=g) (o:=3) ab.i rfl rfl W (by simp[e5]) λV ap av X=>?_;have X:af V g b6 (e5 gs e big at_ J told sv):=X;have Y:=ao.trans ap;exact⟨Y,I.aa Y,e,big,at_,J,told,sv,l,X,⟨he,an⟩,am.aa al Y λr _ h aq=>q8 h I.2.1 aq⟩
theorem ra {g:Nat} {A:aj} {B:aj} {s:aH} {e:Int} (h:c5 w g gs A B s clean) (he:e≠0):ak x3 l0 [Γ g,Δ e,Δ at_] w λ_ w'=>ag (λr=>r=g) w w'/\eg w' g gs A B:=by
 obtain⟨I,_,J,big,W,X,told,sv,U,_,V⟩:=h;exact q9 I U V he (by have:=J.2.2;show s.shared.length<=_;omega)
theorem G0 {g:Nat} {A:aj} {B:aj} {e:Int} (h:eg w g gs A B):ak x3 l0 [Γ g,Δ e,Δ at_] w λ_ w'=>Ext w w':=by
 obtain⟨_,J,big,U,V,told,sv,l,h1,I,_⟩:=h;refine aB func153 ?_;rw[ay,ac b6.p rfl,ac eG.p rfl,ad Ψ (h1.cell (o:=0+1+0) rfl),bk,ae];exact⟨λh=>absurd h I.1,λ_=>Ext.refl _⟩
theorem rb {g:Nat} {A:aj} {B:aj} {s:aH} {b:Bool} (h:c5 w g gs A B s clean):ak x3 oJ [Γ g,.bool b,Δ at_] w λ_ w'=>ag (λr=>r=g) w w'/\c5 w' g gs A B (a8 b s) clean:=by
 obtain⟨I,an,ao,big,W,ap,told,sv,X,aq,au⟩:=id h;refine aB func148 ?_;refine aQ (λv U=>w=U/\v= .bool (b&&decide (big=0))) ?_ ?_
 rotate_left
 .intro aD ah;cases b with
  |false=>rw[aS];exact ah _ _ ⟨rfl,rfl⟩
  |true=>
   rw[bQ,ay,ac b6.p rfl,ac eG.p rfl,ad Ψ (X.cell (o:=0+1+1) rfl),bk,ae];refine⟨λJ=>?_,λJ=>ah _ _ ⟨rfl,by rw[decide_eq_false J];rfl⟩⟩;rw[ay,ac b6.p rfl,ac eG.p rfl,ad Ψ (X.cell (o:=0+1+0) rfl),bk];exact ah _ _ ⟨rfl,by rw[decide_eq_true J];rfl⟩
 rintro _ _ ⟨rfl,rfl⟩;rw[bD];refine⟨λav=>?_,λaw=>?_⟩
 .obtain⟨rfl,J⟩:=Bool.and_eq_true_iff.1 av;rw[ay,ac b6.p rfl,ac eG.p rfl];refine bh (g:=g) (o:=2) eF.i rfl rfl X (by simp[e5]) λU ax aE ai=>?_;have ai:af U g b6 (e5 gs 0 5 W ap told sv):=ai;rw[ay,ac b6.p rfl,ac eG.p rfl];refine bh (g:=g) (o:=4) ab.i rfl rfl ai (by simp[e5]) λV az aF al=>?_;have al:af V g b6 (e5 gs 0 5 W at_ told sv):=al;have Y:=ax.trans az;exact⟨Y,I.aa Y,an.aa Y (λhe=>I.1 he.symm) (λr aA he=>aA.1 (.inl he)),ao,5,W,at_,told,sv,al,⟨⟨λ_=>Ω,λ_=>by simp[a8]⟩,λh=>by simp[a8] at h⟩,am.aa au Y λr _ h aC=>q8 h I.2.1 aC⟩
 .refine⟨ag.refl _ _,I,an,ao,big,W,ap,told,sv,X,⟨?_,λh=>aq.2 (by
   have h:(s.big||b)=false:=h;exact (S2.1 h).1)⟩,au⟩
  show (s.big||b)=true↔big≠0;cases b with
  |false=>rw[Bool.or_false];exact aq.1
  |true=>
   have J:big≠0:=of_decide_eq_false (by simpa using aw);simp[J]
theorem y4 {g:Nat} {A:aj} {B:aj} {b:Bool} (h:eg w g gs A B):ak x3 oJ [Γ g,.bool b,Δ at_] w λ_ w'=>Ext w w':=by
 obtain⟨_,W,big,X,Y,told,sv,l,h1,J,_⟩:=h;refine aB func148 ?_;refine aQ (λv U=>w=U/\v= .bool false) ?_ ?_
 .rintro _ _ ⟨rfl,rfl⟩;rw[aS];exact Ext.refl _
 intro aa I;cases b with
 |false=>rw[aS];exact I _ _ ⟨rfl,rfl⟩
 |true=>
  rw[bQ,ay,ac b6.p rfl,ac eG.p rfl,ad Ψ (h1.cell (o:=0+1+1) rfl),bk,ae];refine⟨λV=>?_,λV=>I _ _ ⟨rfl,rfl⟩⟩;rw[ay,ac b6.p rfl,ac eG.p rfl,ad Ψ (h1.cell (o:=0+1+0) rfl),bk];exact I _ _ ⟨rfl,by rw[decide_eq_false J.1]⟩
theorem c5.scan {g:Nat} {A:aj} {B:aj} {s:aH} {l:List (Λ)} (h:c5 w g gs A B s clean) (J:ag (λr=>r=gs) w w') (I:gz w' gs (cq g gs A B) l clean) (ad:l.length<=s.toks.length):c5 w' g gs A B {s with toks:=l} clean:=by
 obtain⟨h1,_,U,big,W,X,told,sv,Y,ab,ac⟩:=h;refine⟨h1.aa J,I,⟨U.1,U.2.1,by have:=U.2.2;show s.shared.length+l.length<=100000;omega⟩,big,W,X,told,sv,Y.aa J h1.1,ab,am.aa ac J λr _ h V=>?_⟩;have V:r=gs:=V;subst V;rcases h with h|h
 .exact h1.2.2.1 h
 .exact h.1 (.inr (.inl rfl))
theorem y5 {g:Nat} {A:aj} {B:aj} {s:aH} (h:c5 w g gs A B s clean):ak x3 xa [Γ g] w λv w'=>fk w g gs A B clean ((dy s).map (·.2)) w'/\ ∃ (t:Λ) (n:Int),v= .tuple #[bz t,Δ n]/\Bytes t/\t.length<=100000/\ ∀q,dy s=σ q->t=q.1:=by
 refine aB func147 ?_;refine (nP h).mono ?_;rintro _ U _ ⟨rfl,ap⟩;rw[bf,Y1,aS];have h1:=h.ext ap;obtain⟨_,aq,_,big,aw,ax,told,sv,ab,_⟩:=id h1;have az:=aq.words.2;rw[ay,ac b6.p rfl,ad Ψ (ab.Q0 rfl)];refine (o1 aq).mono ?_;rintro v V _ ⟨W,Y⟩;have au:ag (bw g gs A) w V:=(ap.aa _).trans (W.mono λr _ h=>.inr (.inl h));cases J:s.toks with
 |cons t l=>
  rw[J] at Y;obtain⟨aA,n,rfl⟩:=Y;have aC:=h1.scan W aA (by rw[J];simp);have af:dy s=σ (t,{s with toks:=l}):=by unfold dy;rw[J]
  have av:=az t (by rw[J];exact .head _);rw[aK (v:=bz t) rfl,aK (v:=Δ n) rfl,aK (v:=Δ 0) rfl];refine aQ (λv ah=>V=ah/\v=Δ 0) ?_ ?_
  .rintro _ _ ⟨rfl,rfl⟩;refine di (λX=>V=X) ?_ ?_
   .rintro _ rfl;rw[af];exact⟨⟨au,aC⟩,t,n,rfl,av.1,av.2.2,λq ai=>by cases ai;rfl⟩
   .intro al I;rw[bG,ae];exact⟨λh=>absurd rfl h,λ_=>I _ rfl⟩
  .intro al I;rw[bk,ae];exact⟨λh=>Ω,λ_=>I _ _ ⟨rfl,rfl⟩⟩
 |nil=>
  rw[J] at Y;obtain⟨n,rfl⟩:=Y;have af:dy s=ν:=by unfold dy;rw[J]
  obtain⟨an,_,aD,big,aw,ax,told,sv,ab,aM,aE⟩:=id h1;have aF:=ab.aa W an.1;have aG:=am.aa aE W λr _ h ao=>by
   have ao:r=gs:=ao;subst ao;rcases h with h|h
   .exact an.2.2.1 h
   .exact h.1 (.inr (.inl rfl))
  rw[aK (v:=bz []) rfl,aK (v:=Δ n) rfl,aK (v:=Δ (if clean then 2 else 11)) rfl];refine aQ (λv ah=>V=ah/\ ∃e:Int,v=Δ e/\e≠0) ?_ ?_
  .rintro _ _ ⟨rfl,e,rfl,he⟩;refine di (λX=>ag (λr=>r=g) V X/\eg X g gs A B) ?_ ?_
   .rintro X ⟨aI,aJ⟩;rw[af];exact⟨⟨au.trans (aI.mono λr _ h=>.inl h),aJ⟩,[],n,rfl,λb aL=>(by cases aL),Ξ,λq ai=>by cases ai⟩
   .intro al I;rw[bG,ae];refine⟨λ_=>?_,λh=>absurd he h⟩;exact (q9 (an.aa W) aF aG he (by have:=aD.2.2;show s.shared.length<=_;omega)).mono λ_ w' _ h=>I _ h
  .intro al I;rw[bk,ae];cases clean with
   |true=>exact⟨λ_=>I _ _ ⟨rfl,4,rfl,Ω⟩,λh=>absurd rfl h⟩
   |false=>exact⟨λh=>by simp at h,λ_=>I _ _ ⟨rfl,11,rfl,Ω⟩⟩
theorem G1 {g:Nat} {A:aj} {B:aj} (h:eg w g gs A B):ak x3 xa [Γ g] w λv w'=>Ext w w'/\v= .tuple #[bz [],Δ 0]:=by
 refine aB func147 ?_;refine (mw h).mono ?_;rintro _ U _ ⟨rfl,I⟩;rw[bf,X5,bQ];exact⟨I,rfl⟩
theorem tP {g:Nat} {A:aj} {B:aj} {s:aH} (h:c5 w g gs A B s clean):ak x3 lZ [Γ g,Δ lo,Δ hi] w λv w'=>fk w g gs A B clean ((bb lo hi s).map (·.2)) w'/\ ∃n at_:Int,v= .tuple #[Δ n,Δ at_]/\(∀q,bb lo hi s=σ q->n=q.1)/\(bb lo hi s=ν->n=0):=by
 refine aB func149 ?_;refine (y5 h).mono ?_;rintro _ U _ ⟨⟨ab,J⟩,t,n,rfl,ai,al,hw⟩;rw[aK (v:=bz t) rfl,aK (v:=Δ n) rfl];cases W:dy s with
 |none=>
  have I:bb lo hi s=ν:=by unfold bb;rw[W]
  rw[W] at J;have J:eg U g gs A B:=J;refine (mw J).mono ?_;rintro _ V _ ⟨rfl,X⟩;rw[bf,X5,bQ,I];exact⟨⟨ab.trans (X.aa _),J.ext X⟩,0,n,rfl,λq h=>(by cases h),λ_=>rfl⟩
 |some q=>
  obtain⟨au,s1⟩:=q;have:=hw _ W;subst this;rw[W] at J;have J:c5 U g gs A B s1 clean:=J;refine (nP J).mono ?_;rintro _ V _ ⟨rfl,X⟩;rw[bf,Y1,aS];refine (GW ai al).mono ?_;rintro _ ac _ ⟨rfl,ad⟩;have af:=(J.ext X).ext ad;have ah:ag (bw g gs A) w ac:=(ab.trans (X.aa _)).trans (ad.aa _);obtain⟨m,e,am,hm⟩:∃m e:Int,je t= .tuple #[Δ m,Δ e]/\((fz t=σ m/\e=0)\/(fz t=ν/\e=4)):=by
   unfold je;cases av:fz t with
   |none=>exact⟨0,4,rfl,.inr ⟨rfl,rfl⟩⟩
   |some m=>exact⟨m,0,rfl,.inl ⟨rfl,rfl⟩⟩
  rw[am,aK (v:=Δ m) rfl,aK (v:=Δ e) rfl];refine aQ (λv an=>ac=an/\v= .bool (bb lo hi s).isNone) ?_ ?_
  .rintro _ _ ⟨rfl,rfl⟩;cases I:bb lo hi s with
   |none=>
    rw[Option.isNone_none,bQ];refine (ra af Ω).mono ?_;rintro _ aw _ ⟨ao,ap⟩;exact⟨⟨ah.trans (ao.mono λr _ h=>.inl h),ap⟩,0,n,rfl,λq h=>(by cases h),λ_=>rfl⟩
   |some q=>
    rw[Z0,aS];unfold bb at I;rw[W] at I;simp only at I;rcases hm with⟨hm,_⟩|⟨hm,_⟩
    .rw[hm] at I;simp only at I;split at I
     .cases I;exact⟨⟨ah,af⟩,m,n,rfl,λq h=>(by cases h;rfl),λh=>(by cases h)⟩
     .cases I
    .rw[hm] at I;cases I
  .intro ax Y;have I:bb lo hi s=match fz t with
     |none=>ν
     |some n=>if lo<=n/\n<=hi then σ (n,s1) else ν:=by
    unfold bb;rw[W];simp only;cases fz t<;>rfl
   rw[bG,ae];rcases hm with⟨hm,rfl⟩|⟨hm,rfl⟩
   .rw[hm] at I;simp only at I;refine⟨λh=>absurd rfl h,λ_=>?_⟩;rw[aq,ae];refine⟨λh=>Y _ _ ⟨rfl,by rw[I,if_neg Ω];rfl⟩,λh=>?_⟩;rw[bR];refine Y _ _ ⟨rfl,?_⟩;rw[I];by_cases aI:hi<m
    .rw[decide_eq_true aI,if_neg Ω];rfl
    .rw[decide_eq_false aI,if_pos Ω];rfl
   .rw[hm] at I;exact⟨λ_=>Y _ _ ⟨rfl,by rw[I];rfl⟩,λh=>absurd (by omega:(4:Int)≠0) h⟩
theorem G2 {g:Nat} {A:aj} {B:aj} (h:eg w g gs A B):ak x3 lZ [Γ g,Δ lo,Δ hi] w λv w'=>Ext w w'/\v= .tuple #[Δ 0,Δ 0]:=by
 refine aB func149 ?_;refine (G1 h).mono ?_;rintro _ U _ ⟨I,rfl⟩;rw[aK (v:=bz []) rfl,aK (v:=Δ 0) rfl];refine (mw (h.ext I)).mono ?_;rintro _ V _ ⟨rfl,J⟩;rw[bf,X5,bQ];exact⟨I.trans J,rfl⟩
theorem G3 {x:Int} (h:aJ .i64 w sv l):ak x3 E7 [sv,Δ x] w λv w'=>Ext w w'/\ ∃r:Int,v=Δ r/\(0<=r↔x∈l):=by
 refine aB func277 ?_;rw[aT aw.u h];refine bE.range l.length (λi _ U=>Ext w U/\x∉l.take i) h.le ⟨Ext.refl _,Ξ⟩ ?_ ?_
 .rintro i _ U k hi ⟨I,J⟩ W;refine Υ λ_=>?_;obtain⟨y,V⟩:∃y,l[i]? =σ y:=⟨_,y0 hi⟩;rw[bd aw.u ao.i Ψ (h.ext I) V,bk,ae];refine⟨λhe=>⟨I,i,rfl,⟨λ_=>he▸x5 V,λ_=>Ω⟩⟩,λhe=>?_⟩;rw[aN];refine W _ _ ⟨I,λhm=>?_⟩;rw[r8,V] at hm;rcases n9.1 hm with hm|hm
  .exact J hm
  .simp at hm;exact he hm
 .rintro _ U k ⟨I,J⟩;rw[o9] at J;rw[aq,ae];exact⟨λh=>Ω,λ_=>⟨I,-1,rfl,⟨λh=>Ω,λh=>absurd h J⟩⟩⟩
theorem G4 {x:Int} (h:aJ .i64 w sv l):ak x3 EP [sv,Δ x] w λv w'=>v= .bool (decide (x∈l))/\Ext w w':=by
 refine aB func242 ?_;refine (G3 h).mono ?_;rintro _ U _ ⟨I,r,rfl,J⟩;rw[ce];exact⟨by congr 1;rw[V8,decide_eq_true_eq,decide_eq_true_eq];exact J,I⟩
theorem re:∀ {l:Λ},(∀z∈l,1<=z)-> ∀i,aM ((l.take i).map λk=>min k 4097)<=aM (l.map λk=>min k 4097)/\1<=aM ((l.take i).map λk=>min k 4097)
 |[],_,i=>by simp[aM]
 |z::l,h,0=>by
  have I:=re (l:=l) (λx J=>h x (.tail _ J)) l.length;rw[o9] at I;have U:=h z (.head _);simp only[List.take_zero,List.map_nil,S3,aM];have:=Int.mul_le_mul_of_nonneg_left I.2 (show 0<=min z 4097 by omega);omega
 |z::l,h,i+1=>by
  have I:=re (l:=l) (λx J=>h x (.tail _ J)) i;have U:=h z (.head _);simp only[List.take_succ_cons,S3,aM];have h1:=Int.mul_le_mul_of_nonneg_left I.1 (show 0<=min z 4097 by omega);have V:=Int.mul_le_mul_of_nonneg_left I.2 (show 0<=min z 4097 by omega);exact⟨h1,Ω⟩
theorem rf (l:Λ) (x:Int):aM (l++[x])=aM l*x:=by
 induction l with
 |nil=>simp[aM]
 |cons a l I=>rw[List.cons_append,aM,I,aM,Int.mul_assoc]
theorem y6 (h:aJ .i64 w sv l) (h1:∀z∈l,1<=z):ak x3 Es [sv] w λv w'=>v= .bool (da l)/\Ext w w':=by
 refine aB func200 ?_;rw[aT aw.u h];refine k7.range l.length (λi _ n U=>Ext w U/\n=Δ (aM ((l.take i).map λk=>min k 4097))/\aM ((l.take i).map λk=>min k 4097)<=4096) h.le ⟨Ext.refl _,by simp[aM],by simp[aM]⟩ ?_ ?_
 .rintro i _ _ U W hi ⟨I,rfl,J⟩ X;refine Υ λ_=>?_;obtain⟨z,V⟩:∃z,l[i]? =σ z:=⟨_,y0 hi⟩;have aa:=h1 z (x5 V);have ab:=re h1 i;have ac:=re h1 (i+1);have e:aM ((l.take (i+1)).map λk=>min k 4097)=aM ((l.take i).map λk=>min k 4097)*min z 4097:=by
   rw[r8,V,Z4,Z3,S3,List.map_nil,rf]
  rw[bd aw.u ao.i Ψ (h.ext I) V,iv,fv,<-e];have ad:aM ((l.take (i+1)).map λk=>min k 4097)<=4096*4097:=by
   rw[e];have af:=Int.mul_le_mul_of_nonneg_right J (show 0<=min z 4097 by omega);have ag:=Int.mul_le_mul_of_nonneg_left (show min z 4097<=4097 by omega) (show (0:Int)<=4096 by omega);omega
  rw[wrap_i64 Ω Ω,bR,ae];refine⟨λY=>⟨?_,I⟩,λY=>?_⟩
  .unfold da;rw[decide_eq_true];omega
  .rw[aN];exact X _ _ _ ⟨I,rfl,Ω⟩
 .rintro _ _ U W ⟨I,rfl,J⟩;rw[o9] at J;rw[aq,ae];refine⟨λh=>Ω,λ_=>⟨?_,I⟩⟩;unfold da;rw[decide_eq_false];omega
def jg (n:Int) (acc:Λ) (s:aH):Option (Int×aH):=match bb 0 (n-1) s with
 |none=>ν
 |some (v,s)=>if v∈acc then ν else σ (v,s)
theorem nQ {α:Type} {f:List α->aH->Option (α×aH)} {acc:List α} {s:aH} (h:f acc s=ν):cD f (n+1) acc s=ν:=by
 simp only[cD,h]
theorem rg {α:Type} {f:List α->aH->Option (α×aH)} {acc:List α} {s s':aH} {a:α} (h:f acc s=σ (a,s')):cD f (n+1) acc s=cD f n (acc++[a]) s':=by
 simp only[cD,h]
theorem c5.o3 {g:Nat} {A:aj} {B:aj} {s:aH} (h:c5 w g gs A B s clean):(∀r,bw g gs A r->r<w.heap.size)/\(∀r,B r->r<w.heap.size):=⟨h.1.2.2.2.1,h.1.2.2.2.2⟩
theorem G5 {g k:Nat} {A B:aj} {s:aH} {m:Int} (h:c5 w g gs A B s clean) (bE:k<=4611686018427387904) (hm:0<=m/\m<=1000000):
  ak x3 xf [Γ g,Δ (k:Int),Δ m] w λv w'=>fk w g gs A B clean ((eI m k s).map (·.2)) w'/\
   ∃I l,au .i64 ao w' I v l/\(∀r,leads v r->w.heap.size<=r)/\l.length<=100001/\ ∀q,eI m k s=σ q->l=q.1:=by
 obtain⟨aL,a2⟩:=h.o3;have a6:=h.2.1.words.1;refine aB func199 ?_;refine⟨λout aA U=>∃i:Nat,aA=Δ (i:Int)/\i<=k/\ag (bw g gs A) w U/\ ∃I l,au .i64 ao U I out l/\w.heap.size<=I/\l.length<=100001/\
  ((∃st,c5 U g gs A B st clean/\cD (jg m) (k-i) l st=eI m k s/\l.length+st.toks.length<=100000)\/(eg U g gs A B/\eI m k s=ν)),λ_ aA _=>k-(bO aA).toNat,
  ⟨0,rfl,X3 _,ag.refl _ _,w.heap.size,[],au.nil _ _ _ _,o8 _,Ξ,.inl ⟨s,h,rfl,by simpa using a6⟩⟩,?_⟩
 rintro out _ U ⟨i,rfl,a7,aM,I,l,aO,bF,bG,aP⟩;have s1:=aM.size;have aC:∀r,leads out r->w.heap.size<=r:=λr ac=>by have:=bA aO ac;omega
 refine aQ (λv V=>Ext U V/\((v= .bool true/\i<k/\ ∃st,c5 V g gs A B st clean/\cD (jg m) (k-i) l st=eI m k s/\l.length+st.toks.length<=100000)\/
  (v= .bool false/\((∃st,c5 V g gs A B st clean/\eI m k s=σ (l,st))\/(eg V g gs A B/\eI m k s=ν))))) ?_ ?_
 rotate_left
 .intro bH an;rw[aq,ae];refine⟨λbI=>?_,λbJ=>?_⟩
  .rcases aP with⟨st,ad,ab,aD⟩|⟨ah,aE⟩
   .refine (nP ad).mono ?_;rintro _ V _ ⟨rfl,af⟩;exact an _ _ ⟨af,.inl ⟨rfl,Ω,st,ad.ext af,ab,aD⟩⟩
   .refine (mw ah).mono ?_;rintro _ V _ ⟨rfl,af⟩;exact an _ _ ⟨af,.inr ⟨rfl,.inr ⟨ah.ext af,aE⟩⟩⟩
  .have a8:k-i=0:=Ω
   rcases aP with⟨st,ad,ab,aD⟩|ba
   .rw[a8] at ab;exact an _ _ ⟨Ext.refl _,.inr ⟨rfl,.inl ⟨st,ad,ab.symm⟩⟩⟩
   .exact an _ _ ⟨Ext.refl _,.inr ⟨rfl,.inr ba⟩⟩
 rintro _ V ⟨af,bd⟩;have aF:ag (bw g gs A) w V:=aM.trans (af.aa _);have ap:=aO.ext af;rcases bd with⟨rfl,a7,st,ad,ab,aD⟩|⟨rfl,be⟩
 rotate_left
 .rw[aS];rcases be with⟨st,ad,al⟩|⟨ah,al⟩
  .rw[al];exact⟨⟨aF,ad⟩,I,l,ap,aC,Ω,λq W=>by cases W;rfl⟩
  .rw[al];exact⟨⟨aF,ah⟩,I,l,ap,aC,Ω,λq W=>by cases W⟩
 rw[bQ,c3,wrap_i64 Ω Ω];have bf:k-i=(k-(i+1))+1:=Ω
 rw[bf] at ab;refine (tP ad).mono ?_;rintro _ av _ ⟨⟨ax,ay⟩,n,at_,rfl,bg,bK⟩;rw[aK (v:=Δ n) rfl,aK (v:=Δ at_) rfl];have aR:∀r,leads out r->¬bw g gs A r:=λr ac bh=>by have:=aL r bh;have:=aC r ac;omega
 have bL:∀r,g=r->bw g gs A r:=λr h=>.inl h.symm;refine di (λJ=>ag (bw g gs A) V J/\((∃Y,c5 J g gs A B Y clean/\cD (jg m) (k-(i+1)) (l++[n]) Y=eI m k s/\l.length+1+Y.toks.length<=100000)\/(eg J g gs A B/\eI m k s=ν))/\l.length+1<=100001) ?_ ?_
 .rintro J ⟨aT,bi,aU⟩;have bj:=bc ap aT aR;have aV:=aF.trans aT;have bM:=aV.size;refine dx aw.u ao.i rfl λa aW aX bN ai bk=>?_;refine hD aw.u ao.i rfl (bj.ext ai) bk.ls Θ Θ λbl bm bn bP bo aG=>?_;have bR:=ai.size;rw[aN,wrap_i64 Ω Ω];have bp:ag (bw g gs A) w bn:=gf (aV.trans (ai.aa _)) aG λr ac he=>by have he:r=I:=he;omega
  have aY:∀r,bw g gs A r->¬(λr=>r=I) r:=λr ac he=>by have:=aL r ac;have he:r=I:=he;omega
  have aZ:∀r,cq g gs A B r->¬(λr=>r=I) r:=λr ac he=>by have:=a2 r ac.2;have he:r=I:=he;omega
  refine⟨⟨i+1,rfl,Ω,bp,bm,l++[n],bo,Ω,Θ,?_⟩,by simp only[bO];omega⟩;rcases bi with⟨Y,az,bq,bS⟩|⟨br,aE⟩
  .exact .inl ⟨Y,(az.ext ai).aa aG aY aZ,bq,Θ⟩
  .exact .inr ⟨(br.ext ai).aa aG aY aZ,aE⟩
 .intro bT aI;cases W:bb 0 (m-1) st with
  |none=>
   rw[W] at ay;have ah:eg av g gs A B:=ay;have am:jg m l st=ν:=by unfold jg;rw[W]
   have al:eI m k s=ν:=by rw[<-ab];exact nQ am
   refine aQ (λv J=>Ext av J/\v= .bool false) ?_ ?_
   rotate_left
   .intro bt aJ;refine (mw ah).mono ?_;rintro _ J _ ⟨rfl,X⟩;rw[aS];exact aJ _ _ ⟨X,rfl⟩
   rintro _ J ⟨X,rfl⟩;rw[aS];exact aI _ ⟨ax.trans (X.aa _),.inr ⟨ah.ext X,al⟩,Ω⟩
  |some q=>
   obtain⟨bl,Y⟩:=q;have bu:=bg _ W;subst bu;rw[W] at ay;have a1:c5 av g gs A B Y clean:=ay;have bx:=dl W;have aU:l.length+1+Y.toks.length<=100000:=by have:=bx.1;omega
   refine aQ (λv J=>Ext av J/\v= .bool (decide (n∈l))) ?_ ?_
   rotate_left
   .intro bt aJ;refine (nP a1).mono ?_;rintro _ J _ ⟨rfl,X⟩;rw[bQ];refine (G4 ((bc ap ax aR).ext X).ls).mono ?_;rintro _ aX _ ⟨rfl,ai⟩;exact aJ _ _ ⟨X.trans ai,rfl⟩
   rintro _ J ⟨X,rfl⟩;have az:=a1.ext X;rw[ae];refine⟨λbz=>?_,λbB=>?_⟩
   .have am:jg m l st=ν:=by unfold jg;rw[W];simp only;rw[if_pos bz]
    refine (ra az Ω).mono ?_;rintro _ aX _ ⟨bC,bD⟩;exact aI _ ⟨(ax.trans (X.aa _)).trans (bC.mono λr _ h=>.inl h),.inr ⟨bD,by rw[<-ab];exact nQ am⟩,Ω⟩
   .have am:jg m l st=σ (n,Y):=by unfold jg;rw[W];simp only;rw[if_neg bB]
    exact aI _ ⟨ax.trans (X.aa _),.inl ⟨Y,az,by rw[<-ab];exact (rg am).symm,aU⟩,Ω⟩
def jh (k:Int):Option Int->Int
 |none=>0
 |some x=>if x % 5=0 then k else (x / 5) % (k+1)
def hL (s:Λ) (k:Int) (l:Λ):Λ:=(W3 (aM s).toNat).map λi=>jh k l[i]?
theorem rh (s:Λ) (k:Int) (l:Λ):(hL s k l).length=(aM s).toNat:=by simp[hL]
theorem y7 (I:0<=k) (o:Option Int):0<=jh k o/\jh k o<=k:=by
 cases o with
 |none=>simp[jh];exact I
 |some x=>
  simp only[jh];split
  .omega
  .have h1:=Int.emod_nonneg (x / 5) (show k+1≠0 by omega);have J:=Int.emod_lt_of_pos (x / 5) (show 0<k+1 by omega);omega
theorem y8 {aF:x1} {s:Λ} (h:aJ .i64 w sv s) (I:bS s) (an:aJ .u16 w aF l) (aY:∀x∈l,0<=x/\x<65536) (bj:0<=k/\k<=4294967296):
  ak x3 sX [sv,Δ k,aF] w λv w'=>Ext w w'/\ ∃g aL,v= .agg #[sv,Δ k,aL]/\w.heap.size<=g/\au .i64 ao w' g aL (hL s k l):=by
 have aG:=h.cells;have bl:=prod_bound I;refine aB func88 ?_;refine bp dD.i λaZ U bm aH ah=>?_;rw[cW (cs:=#[sv,Δ k,.slice ν 0 0]) (by
  obtain⟨_,_,_,_,_,rfl,_⟩:=h;kernel_rfl)]
 refine bp dD.i λa1 V bo ap aI=>?_;have s1:=aH.size;have bq:=ap.size;have br:=ah.lt;have bt:=aI.lt;refine bH (vs:=[sv,Δ k,.slice ν 0 0]) dD.i rfl rfl (by intro u hu;simp at hu;rcases hu with rfl|rfl|rfl;exact aG.2;rfl;rfl) aI λai aK bu aO=>?_;have aP:Ext w ai:=(aH.trans ap).then aK (by rintro r av rfl;omega);have aR:=(ah.ext ap).aa aK Ω;have bw:=aR.lt;have bx:=aO.lt;have bz:=aP.size;refine bP.range (aM s).toNat (λi W=>Ext w W/\ai.heap.size<=W.heap.size/\ ∃aL X,ai.heap.size<=X/\af W a1 dD [sv,Δ k,aL]/\
  au .i64 ao W X aL ((W3 i).map λi=>jh k l[i]?)/\af W aZ dD [.slice ν 0 0,Δ 0,.slice ν 0 0]) Ω
  ⟨aP,o8 _,_,ai.heap.size,o8 _,aO,au.nil _ _ _ _,aR⟩ ?_ ?_
 .rintro i W a2 hi ⟨Y,a6,aL,X,a7,ax,aj,ay⟩ a8;refine (tm (h.ext Y) I).mono ?_;rintro _ aS _ ⟨rfl,J⟩;simp only[aq,ae];refine⟨λ_=>?_,λh=>Ω⟩;have al:=Y.trans J;have bA:=J.size;refine aQ (λc az=>aS=az/\c=Δ (jh k l[i]?)) ?_ ?_
  .rintro _ _ ⟨rfl,rfl⟩;have aU:=ax.ext J;rw[ac dD.p rfl,ad Ψ (aU.Q2 rfl)];refine dx aw.u ao.i rfl λa aW az bB ab ba=>?_;have bC:=ab.size;refine hD aw.u ao.i rfl ((aj.ext J).ext ab) ba.ls Θ Θ λbb bc bD bE aA am=>?_;have be:=(aU.ext ab).aa am Ω;have bF:=am.size;rw[ac dD.p rfl];refine bh aw.i aA.ls.cells.1 aA.ls.cells.2 be Ξ λbG aC bI bf=>?_;simp only[aN];refine a8 _ ⟨((al.trans ab).then am (by rintro r av rfl;omega)).then aC (by rintro r av rfl;omega),Ω,bb,bc,Ω,bf,?_,(((ay.ext J).ext ab).aa am Ω).aa aC Ω⟩;rw[List.range_succ,Z3];exact aA.aa aC Ω
  .intro bJ aD;rw[aT lf.u (an.ext al)];simp only[aq,ae];refine⟨λbK=>?_,λbL=>aD _ _ ⟨rfl,by rw[Y4 Ω];rfl⟩⟩;obtain⟨x,ag⟩:∃x,l[i]? =σ x:=⟨_,y0 Ω⟩;have aV:=aY x (x5 ag);rw[bd lf.u lh.i Ψ (an.ext al) ag,oM Φ,e2 lh.u ao.u];have bg:x.tdiv 5=x / 5:=Int.tdiv_eq_ediv_of_nonneg aV.1;rw[bg,wrap_u16 Ω Ω,wrap_i64 Ω Ω];simp only[aN];rw[wrap_i64 (x:=k+1) Ω Ω,kv Ω,Int.tmod_eq_emod_of_nonneg Ω,
    bd lf.u lh.i Ψ (an.ext al) ag,kv Φ,Int.tmod_eq_emod_of_nonneg aV.1]
   simp only[bk,ae];exact⟨λaE=>aD _ _ ⟨rfl,by rw[ag];simp[jh,aE]⟩,λaE=>aD _ _ ⟨rfl,by rw[ag];simp[jh,aE]⟩⟩
 .rintro W a2 ⟨Y,a6,aL,X,a7,ax,aj,ay⟩;refine (tm (h.ext Y) I).mono ?_;rintro _ aS _ ⟨rfl,J⟩;simp only[aq,ae];refine⟨λh=>Ω,λ_=>?_⟩;have bi:=aj.ls.cells;rw[bn dD.p dD.i rfl (ax.ext J).range];refine bH (vs:=[sv,Δ k,aL]) dD.i rfl rfl (by intro u hu;simp at hu;rcases hu with rfl|rfl|rfl;exact aG.2;rfl;exact bi.2) (ay.ext J) λaz aX bM ah=>?_;rw[eO dD.p dD.i rfl ah.range];exact⟨(Y.trans J).then aX (by rintro r av rfl;omega),X,aL,rfl,Ω,(aj.ext J).aa aX Ω⟩
theorem G6 {s t:Λ} (I:dN s):nC (bm s) t=match ct s t 0 with
  |some n=>n
  |none=>-1:=by
 unfold nC;cases J:(bm s).findIdx? (λx=>decide (x=t)) with
 |none=>
  cases hi:ct s t 0 with
  |none=>rfl
  |some n=>
   have:=oX I hi;rw[List.findIdx?_eq_none_iff] at J;have:=J t (x5 this);simp at this
 |some i=>
  rw[List.findIdx?_eq_some_iff_getElem] at J;obtain⟨hi,h1,_⟩:=J;have h1:(bm s)[i]=t:=by simpa using h1
  have:=nF I (i:=i) (t:=t) (by rw[y0 hi,h1]);rw[this]
theorem G7 {a b:Int} (I:0<=a/\a<=4294967296) (J:0<=b/\b<=4294967296):ak x3 DB [Δ a,Δ b,Δ k] w λv w'=>v=Δ (min (a+b) k)/\Ext w w':=by
 refine aB func81 ?_;simp only[aN,bR,ae];rw[wrap_i64 Ω Ω];exact⟨λh=>⟨by rw[Int.min_eq_right Ω],Ext.refl _⟩,λh=>⟨by rw[Int.min_eq_left Ω],Ext.refl _⟩⟩
def pa (a b k:Int):x1:=if cQ a k/\cQ b k then .tuple #[Δ (min (a+b) k),Δ 0] else .tuple #[Δ 0,Δ 3]
theorem y9 {a b:Int}:ak x3 sW [Δ a,Δ b,Δ k] w λv w'=>v=pa a b k/\Ext w w':=by
 refine aB func80 ?_;refine aQ (λv U=>Ext w U/\v= .bool (decide (¬(cQ a k/\cQ b k)))) ?_ ?_
 .rintro _ U ⟨I,rfl⟩;simp only[ae,aN,iv];refine⟨λh=>⟨by unfold pa;rw[if_neg h],I⟩,λh=>?_⟩;have h:=X4.1 h;obtain⟨⟨h1,aa⟩,ab,ac⟩:=id h;have:=h1.2;rw[wrap_i64 Ω Ω];exact⟨by unfold pa;rw[if_pos h],I⟩
 .intro ad J;refine kD.mono ?_;rintro _ V _ ⟨rfl,W⟩;simp only[bf,bD];refine⟨λh=>J _ _ ⟨W,?_⟩,λh=>?_⟩
  .have:¬cQ a k:=by simpa using h
   rw[decide_eq_true];exact λh=>this h.1
  .have X:cQ a k:=by simpa using h
   refine kD.mono ?_;rintro _ af _ ⟨rfl,Y⟩;simp only[bf];exact J _ _ ⟨W.trans Y,by simp[X]⟩
theorem G8 (h:aJ .i64 w sv l) (W:l≠[]):
  ak x3 Ff [sv] w λv w'=>v=Δ (tH l)/\Ext w w':=by
 obtain⟨x,l,rfl⟩:∃x r,l=x::r:=by cases l with
  |nil=>exact absurd rfl W
  |cons x r=>exact⟨x,r,rfl⟩
 have X:=h.le;refine aB func295 ?_;refine di (λU=>w=U) ?_ ?_
 .rintro _ rfl;rw[dY (y:=0) (i:=0) rfl aw.u ao.i Ψ h (by rfl)];refine⟨λm i V=>Ext w V/\ ∃k:Nat,i=Δ (k+1:Nat)/\k<=l.length/\m=Δ ((l.take k).foldl min x),λ_ i _=>l.length+1-(bO i).toNat,⟨Ext.refl _,0,rfl,X3 _,rfl⟩,?_⟩;rintro _ _ V ⟨I,k,rfl,aa,rfl⟩;rw[aT aw.u (h.ext I)];simp only[j5,aq,ae] at X ⊢;refine⟨λab=>?_,λac=>⟨?_,I⟩⟩
  .obtain⟨y,J⟩:∃y,l[k]? =σ y:=⟨_,y0 Ω⟩;rw[bd aw.u ao.i Ψ (h.ext I) (show (x::l)[k+1]? =σ y from J),iv];simp only[aN];rw[wrap_i64 Ω Ω];refine⟨⟨I,k+1,by congr 1,Ω,?_⟩,?_⟩
   .rw[r8,J,List.foldl_append];rfl
   .simp only[bO];omega
  .have:k=l.length:=Ω
   subst this;rw[o9];rfl
 .intro ad Y;rw[aT aw.u h];simp only[aq,ae];exact⟨λh=>by simp at h;omega,λ_=>Y _ rfl⟩
theorem tQ {g:Nat} {cs:Λ} (h:cR w g I sv szs k cs):ak x3 s6 [Γ g] w λv w'=>v=Δ k/\Ext w w':=by
 obtain⟨⟨aL,gs,J,hm,U⟩,_⟩:=h;refine aB func139 ?_;rw[cC ek.u];simp only[Z0,aS];rw[ay,ac cU.p rfl,ad Ψ (J.Q1 rfl)];exact⟨rfl,Ext.refl _⟩
theorem lx {g U:Nat} {cs:Λ} (h:cR w g U sv szs k cs):
  ak x3 D5 [Γ g] w λv w'=>Ext w w'/\ ∃J,w.heap.size<=J/\au .i64 ao w' J v cs:=by
 obtain⟨⟨aL,gs,V,hm,W⟩,⟨_,_,X⟩,I,Y⟩:=h;refine aB func164 ?_;rw[cC ek.u];simp only[Z0,aS];rw[ay,ac cU.p rfl,ad Ψ (V.Q2 rfl)];exact tn W.ls Ω
theorem my {g V:Nat} {cs:Λ} (h:cR w g V sv szs k cs):
  ak x3 DX [Γ g] w λv w'=>v= .agg #[sv]/\Ext w w':=by
 obtain⟨⟨aL,gs,W,hm,ad⟩,_⟩:=h;have X:=hm.ls.cells;refine aB func140 ?_;refine bp bq.i λae U af J Y=>?_;rw[cC ek.u];simp only[Z0,aS];rw[ay,ac cU.p rfl,bn (cs:=[sv]) bq.p bq.i rfl (ml (W.ext J) (by
  intro j v I
  match j,I with
  |0,I=>exact I))]
 refine bH (vs:=[sv]) bq.i rfl rfl (by intro u hu;simp at hu;subst hu;exact X.2) Y λag aa ah ab=>?_;rw[eO bq.p bq.i rfl ab.range];exact⟨rfl,J.then aa (by rintro r ai rfl;omega)⟩
theorem tR (h:aJ .i64 w sv szs) (Y:szs.length<=1000):ak x3 w7 [.agg #[sv]] w λv w'=>Ext w w'/\ ∃I,w.heap.size<=I/\au .i64 ab w' I v szs:=by
 refine aB func141 ?_;refine bN λg U aa J W=>?_;rw[ac bq.p rfl,ad Ψ (W.Q0 rfl)];refine (hF (h.ext J) Ω).mono ?_;rintro v V _ ⟨X,I,ae,hm⟩;have s1:=J.size;exact⟨J.trans X,I,Ω,hm⟩
theorem za (h:aJ .i64 w sv szs):ak x3 Fb [.agg #[sv]] w λv w'=>v=Δ szs.length/\Ext w w':=by
 refine aB func284 ?_;refine bN λg U V I J=>?_;rw[ac bq.p rfl,ad Ψ (J.Q0 rfl),aT ai.u (h.ext I)];exact⟨rfl,I⟩
def gS (szs:Λ) (i:Int):Int:=if 0<=i then szs.getD i.toNat 0 else 0
theorem pb {i:Int} (h:aJ .i64 w sv szs):ak x3 Fc [.agg #[sv],Δ i] w λv w'=>v=Δ (gS szs i)/\Ext w w':=by
 refine aB func285 ?_;refine bN λg U aa I J=>?_;refine aQ (λv V=>v= .bool (decide (i<0\/(szs.length:Int)<=i))/\U=V) ?_ ?_
 .rintro _ _ ⟨rfl,rfl⟩;simp only[ae];refine⟨λh=>⟨?_,I⟩,λY=>?_⟩
  .unfold gS;split
   .rw[u5,Y4 Ω];rfl
   .rfl
  .rw[ac bq.p rfl,ad Ψ (J.Q0 rfl)];obtain⟨n,rfl⟩:∃n:Nat,i=n:=⟨i.toNat,Ω⟩;have W:n<szs.length:=Ω
   rw[bd ai.u ab.i Ψ (h.ext I) (y0 W)];refine⟨?_,I⟩;unfold gS;rw[if_pos Ω,u5,j0,y0 W];rfl
 .intro af X;simp only[aq,ae];refine⟨λh=>X _ _ ⟨by rw[decide_eq_true];omega,rfl⟩,λY=>?_⟩;rw[ac bq.p rfl,ad Ψ (J.Q0 rfl),aT ai.u (h.ext I)];simp only[ce];exact X _ _ ⟨by congr 1;simp;omega,rfl⟩
theorem ri {g B0:Nat} (I:bS szs):
  lU x3 jF [Γ g] (aM szs).toNat (λk vs w=>∃aE J,vs=[Δ (k:Int),aE]/\B0<=J/\au .i64 ab w J aE (cF szs k))
   (λw=>af w g bq [sv]/\aJ .i64 w sv szs/\B0<=w.heap.size):=by
 refine⟨jF.enters,λl aj aD w ad _ ak ⟨ag,ah,al⟩ am=>?_⟩;have aF:=prod_bound I;refine oL func187 ?_;rw[bn bq.p bq.i rfl ag.range];refine (nt ah I).free.mono ?_;rintro _ U ⟨an,rfl,W⟩;refine bP.range (aM szs).toNat (λi V=>aj i V/\af V g bq [sv]/\aJ .i64 V sv szs/\B0<=V.heap.size) Ω ⟨ad 0 _ _ W an.b am,ag.ext W,ah.ext W,Y9 al W.size⟩ ?_ ?_
 .rintro i V k hi ⟨Y,aa,ac,ai⟩ ao;simp only[aq,ae];refine⟨λ_=>?_,λh=>Ω⟩;rw[bn bq.p bq.i rfl aa.range];refine (FL ac I Ω Ω).free.mono ?_;rintro _ ap ⟨av,X,aE,J,rfl,aw,ax⟩;rw[aK (v:=aE) rfl,aK (v:=Δ 0) rfl];refine⟨rfl,(ak i _ ap hi ⟨aa.ext X,ac.ext X,Y9 ai X.size⟩ ⟨aE,J,rfl,Y9 ai aw,ax⟩ (ad _ _ _ X av.b Y)).mono ?_⟩;rintro _ aG (⟨rfl,⟨ay,az,aA⟩,aB⟩|⟨rfl,aC⟩)
  .simp only[bf,Y1,aS,aN];exact ao _ ⟨aB.1,ay,az,aA⟩
  .simp only[bf,X5,bQ];exact .inr ⟨i,hi,aC⟩
 .rintro V k ⟨Y,aa,ac,_⟩;simp only[aq,ae];exact⟨λh=>Ω,λ_=>.inl Y⟩
theorem rj:ak x3 DK [.agg #[sv]] w λr w'=>Ext w w'/\ ∃g,r= .func (.func jF) #[] #[Γ g]/\w.heap.size<=g/\af w' g bq [sv]:=by
 refine aB func121 ?_;refine bN λg U V I J=>?_;rw[kx];exact⟨I,g,rfl,Ω,J⟩
end Go.Proofs.YtgbkinibgjmodaaGreatDoor
namespace Go.Vc
open Go Go.RowKit
set_option maxRecDepth 100000
section
variable {P:W7} {w:x2}
theorem aA.dv {α:Type} {s:Sem α} {K:α->x2->Prop} (h:aA P s w λv w'=>cN w w'->K v w'):aA P s w K:=by
 obtain⟨v,w',h1,I,J⟩:=h;exact⟨v,w',h1,I,J I⟩
structure Keys (P:W7) (k:r9) (G:x1->Prop):Prop where
 check:∀ (w:x2) (em:Bool) {v:x1},G v->(Instr.checkKey em 10000 k v).run P w= .ok () w
 find:∀ (w:x2) {x:x1},G x-> ∀es:List MapEntry,(∀e∈es,G e.key)->
  ((Instr.findKey k x es).run P w= .ok ν w/\ ∀e∈es,e.key≠x)\/ ∃j e,(Instr.findKey k x es).run P w= .ok (σ (j,e.val)) w/\es[j]? =σ e/\e.key=x
 stays:∀ (w:x2) {v:x1},G v->(Instr.keyThatStays v v).run P w= .ok v w
theorem Keys.law {k:r9} (K:WideMaps.KeyLaw P k):Keys P k λv=>∃l,keyOf P k v=σ l:=
 ⟨λw I _ ⟨_,h⟩=>K.check w I h,λw _ ⟨_,h⟩ J U=>K.find w h J U,λw _ ⟨_,h⟩=>K.stays w h⟩
theorem Keys.int {k:r9} {I:o6} (J:P.underlying k=σ (.int I)):Keys P k λv=>∃n,v= .int I n:=by
 have key:∀n,MapKept.IsKey (.int I) (.int I n):=λn=>rfl;refine⟨λw V v ⟨n,h⟩=>?_,λw x ⟨n,h⟩ W X=>?_,λw v ⟨n,h⟩=>?_⟩
 .subst h;exact MapKept.run_checkKey J (key n) V 9999
 .subst h;rcases MapKept.findNow_spec (key n) W 0 (λe he=>by obtain⟨m,h⟩:=X e he;rw[h];exact key m) with⟨h1,U⟩|⟨j,e,h1,U,Y⟩
  .exact .inl ⟨MapKept.run_findKey J h1,U⟩
  .exact .inr ⟨j,e,by have:=MapKept.run_findKey (P:=P) (w:=w) J h1;simpa using this,U,Y⟩
 .subst h;exact MapKept.run_keyThatStays (d:=.int I) (key n)
def fP (e:MapEntry):x1×x1:=(e.key,e.val)
def cS (w:x2) (m:Nat) (d:List (x1×x1)):Prop:=∃I J,w.heap[m]? =σ (.map I J)/\MapKept.Stamped I J/\I.toList.map fP=d
theorem cS.ext {d:List (x1×x1)} (h:cS w m d) (I:Ext w w'):cS w' m d:=by
 obtain⟨J,c,h1,U⟩:=h;exact⟨J,c,I.a7 m _ h1 rfl,U⟩
theorem cS.aa {d:List (x1×x1)} (h:cS w m d) (I:ag S w w') (J:¬S m):cS w' m d:=by
 obtain⟨U,c,h1,V⟩:=h;exact⟨U,c,I.a7 m _ h1 rfl J,V⟩
theorem cS.lt {d:List (x1×x1)} (h:cS w m d):m<w.heap.size:=by
 obtain⟨I,c,h1,J⟩:=h;exact (j6.1 h1).1
theorem cS.nodup {d:List (x1×x1)} (h:cS w m d):(d.map (·.1)).Nodup:=by
 obtain⟨J,c,_,⟨_,_,I⟩,rfl⟩:=h;rw[List.map_map];exact I
theorem ji {α:Type} {l:List α} (h:l.Nodup) {i:Nat} {x:α} (hi:l[i]? =σ x) (W:l[j]? =σ x):i=j:=by
 have I:=x4.1 hi;have J:=x4.1 W;have V:=V2.1 h;rcases Nat.lt_trichotomy i j with U|rfl|U
 .exact absurd (I.2.trans J.2.symm) (V i j I.1 J.1 U)
 .rfl
 .exact absurd (J.2.trans I.2.symm) (V j i J.1 I.1 U)
theorem ly {α β:Type} (f:α->β):∀ (l:List α) (i:Nat),(l.map f).eraseIdx i=(l.eraseIdx i).map f
 |[],_=>Ξ
 |_::_,0=>rfl
 |x::l,i+1=>by simp[ly f l i]
theorem cS.uniq {d:List (x1×x1)} (h:cS w m d) {i:Nat} {p q:x1×x1} (hi:d[i]? =σ p) (I:d[j]? =σ q) (he:p.1=q.1):i=j:=by
 have J:=h.nodup;have h1:(d.map (·.1))[i]? =σ p.1:=by rw[x8,hi];rfl
 have U:(d.map (·.1))[j]? =σ p.1:=by rw[x8,I,he];rfl
 exact ji J h1 U
theorem rk {aa:Array MapEntry} {c:Nat} (W:w.heap[m]? =σ (.map aa c)) (J:Array MapEntry) (U:Nat):
  ag (λr=>r=m) w {w with heap:=w.heap.setIfInBounds m (.map J U)}/\cN w {w with heap:=w.heap.setIfInBounds m (.map J U)}/\({w with heap:=w.heap.setIfInBounds m (.map J U)}:x2).heap[m]? =σ (.map J U):=by
 have I:=MapKept.heap_set (o':=.map J U) W;refine⟨⟨Ξ,λr o V X ab=>?_⟩,⟨rfl,.jx,rfl,Ξ,λr o V X=>?_⟩,I.1⟩
 .show (w.heap.setIfInBounds m _)[r]? =σ o;rw[I.2 r ab];exact V
 .show (w.heap.setIfInBounds m _)[r]? =σ o;by_cases Y:r=m
  .subst Y;rw[W] at V;cases V;cases X
  .rw[I.2 r Y];exact V
theorem rl {K:x1->x2->Prop} (h:∀m w',m=w.heap.size->Ext w w'->cS w' m []->K (.map (σ m)) w'):aA P (Instr.makeMap t ν) w K:=by
 refine .of (run_makeMap t w) (nc w _) (h _ _ rfl (nb w _) ⟨#[],0,?_,MapKept.stamped_empty 0,rfl⟩);exact heap_alloc_new w _
variable {k e:r9} {G:x1->Prop}
theorem pc {c:Bool} {d:List (x1×x1)} {x:x1} (ab:P.underlying t=σ (.map k e)) (W:Keys P k G) (hm:cS w m d) (ac:∀p∈d,G p.1) (X:G x) (I:d[j]? =σ (x,v)):
  J P (Instr.lookup t (.map (σ m)) x c) w K=K (if c then .tuple #[v,.bool true] else v):=J.of λw' ad=>by
 obtain⟨U,ae,Y,af,rfl⟩:=hm.ext ad;have ag:∀e∈U.toList,G e.key:=λe he=>ac (fP e) (Z1.2 ⟨e,he,rfl⟩);rcases W.find w' X U.toList ag with⟨_,V⟩|⟨i,aa,h1,V,ah⟩
 .rw[x8] at I;obtain⟨ai,aj,ak⟩:=X0.1 I;exact absurd (congrArg Prod.fst ak) (V ai (x5 aj))
 .have al:aa.val=v:=by
   have hi:(U.toList.map fP)[i]? =σ (fP aa):=by rw[x8,V];rfl
   have am:cS w' m (U.toList.map fP):=⟨U,ae,Y,af,rfl⟩;have:=am.uniq hi I ah;subst this;rw[hi] at I;exact congrArg Prod.snd (Z8 I)
  simp only[Instr.lookup,W0,run_underlying ab,W5,MapKept.run_getObj_map Y,V1,W.check w' _ X,h1,al]
theorem rm {c:Bool} {d:List (x1×x1)} {x:x1} (aa:P.underlying t=σ (.map k e)) (U:Keys P k G) (I:∃s b,aO P e s b z) (hm:cS w m d) (ab:∀p∈d,G p.1) (V:G x) (ac:∀p∈d,p.1≠x):
  J P (Instr.lookup t (.map (σ m)) x c) w K=K (if c then .tuple #[z,.bool false] else z):=J.of λw' ad=>by
 obtain⟨W,ai,ae,aj,rfl⟩:=hm.ext ad;have af:∀e∈W.toList,G e.key:=λe he=>ab (fP e) (Z1.2 ⟨e,he,rfl⟩);have ag:(zeroValue e).run P w'= .ok z w':=by
  obtain⟨s,b,i,hi,_,_,I⟩:=I;simp[zeroValue,typeInfo,hi,I]
 rcases U.find w' V W.toList af with⟨h1,X⟩|⟨i,Y,h1,X,ah⟩
 .simp only[Instr.lookup,W0,run_underlying aa,W5,MapKept.run_getObj_map ae,V1,U.check w' _ V,h1,ag]
 .exact absurd ah (ac (fP Y) (Z1.2 ⟨Y,x5 X,rfl⟩))
theorem G9 {I:Array MapEntry} {J:MapEntry} {f:MapEntry->MapEntry} (h:I[j]? =σ J):(I.modify j f).toList.map fP=(I.toList.map fP).set j (fP (f J)):=by
 refine X8 λi=>?_;simp only[x8,S4,Array.getElem?_modify,X7,u4,Array.length_toList];by_cases U:j=i
 .subst U;have:=(j6.1 h);simp[this.1,this.2]
 .simp[U]
theorem pd {d:List (x1×x1)} {x:x1} {K:Unit->x2->Prop} (ad:P.underlying t=σ (.map k e)) (U:Keys P k G) (hm:cS w m d) (aj:∀p∈d,G p.1) (V:G x)
  (h1:∀j v0 w',d[j]? =σ (x,v0)->cS w' m (d.set j (x,v))->ag (λr=>r=m) w w'->K () w')
  (ak:∀w',(∀p∈d,p.1≠x)->cS w' m (d++[(x,v)])->ag (λr=>r=m) w w'->K () w'):aA P (Instr.mapUpdate t (.map (σ m)) x v) w K:=by
 obtain⟨J,W,I,ae,rfl⟩:=hm;have al:∀e∈J.toList,G e.key:=λe he=>aj (fP e) (Z1.2 ⟨e,he,rfl⟩);rcases U.find w V J.toList al with⟨X,af⟩|⟨i,ah,X,hi,he⟩
 .obtain⟨Y,aa,ab⟩:=rk I (J.push {key:=x,val:=v,born:=W}) (W+1);refine .of (v:=()) (w':=_) ?_ aa (ak _ (λp am=>?_) ⟨_,_,ab,MapKept.stamped_push ae af,by simp[fP]⟩ Y)
  .simp only[Instr.mapUpdate,W0,run_underlying ad,W5,MapKept.run_getObj_map I,U.check w _ V,X,MapKept.run_setObj_map _ I]
  .obtain⟨an,ao,rfl⟩:=Z1.1 am;exact af an ao
 .have ac:J[i]? =σ ah:=by simpa using hi
  obtain⟨Y,aa,ab⟩:=rk I (J.modify i λe=>{e with key:=x,val:=v}) W;refine .of (v:=()) (w':=_) ?_ aa (h1 i ah.val _ (by rw[x8,hi];simp[fP,he]) ⟨_,_,ab,MapKept.stamped_modify ae _ _ (λ_ _=>rfl) (λap _ ai=>by rw[ac] at ai;cases ai;exact he.symm),G9 ac⟩ Y);simp only[Instr.mapUpdate,W0,run_underlying ad,W5,MapKept.run_getObj_map I,U.check w _ V,X,ac,Y0,T4,he,U.stays w V,MapKept.run_setObj_map _ I]
theorem Ha {ae af:r9} {d:List (x1×x1)} {x:x1} {K:x1->x2->Prop} (ab:P.underlying t=σ (.map k e)) (U:Keys P k G) (hm:cS w m d) (ah:∀p∈d,G p.1) (V:G x)
  (h1:∀j v0 w',d[j]? =σ (x,v0)->cS w' m (d.eraseIdx j)->ag (λr=>r=m) w w'->K (.tuple #[]) w')
  (ai:∀w',(∀p∈d,p.1≠x)->cS w' m d->ag (λr=>r=m) w w'->K (.tuple #[]) w'):aA P (l7.delete_ #[t,ae] af #[.map (σ m),x]) w K:=by
 obtain⟨J,ac,I,ad,rfl⟩:=hm;have aj:∀e∈J.toList,G e.key:=λe he=>ah (fP e) (Z1.2 ⟨e,he,rfl⟩);rcases U.find w V J.toList aj with⟨W,ak⟩|⟨i,al,W,hi,he⟩
 .obtain⟨X,Y,aa⟩:=rk I J ac;refine .of (v:=.tuple #[]) (w':=_) ?_ Y (ai _ (λp am=>?_) ⟨_,_,aa,ad,rfl⟩ X)
  .simp only[l7.delete_,List.getElem?_toArray,List.getElem?_cons_zero,List.getElem?_cons_succ,W0,run_underlying ab,W5,MapKept.run_getObj_map I,U.check w _ V,W,MapKept.run_setObj_map _ I,V1]
  .obtain⟨an,ao,rfl⟩:=Z1.1 am;exact ak an ao
 .obtain⟨X,Y,aa⟩:=rk I (J.eraseIdxIfInBounds i) ac;refine .of (v:=.tuple #[]) (w':=_) ?_ Y (h1 i al.val _ (by rw[x8,hi];simp[fP,he]) ⟨_,_,aa,MapKept.stamped_erase ad _,by rw[ly];simp⟩ X);simp only[l7.delete_,List.getElem?_toArray,List.getElem?_cons_zero,List.getElem?_cons_succ,W0,run_underlying ab,W5,MapKept.run_getObj_map I,U.check w _ V,W,MapKept.run_setObj_map _ I,V1]
theorem Hb {I:r9} {d:List (x1×x1)} (U:P.underlying t=σ (.map k e)) (hm:cS w m d):J P (Y3 #[t] I #[.map (σ m)]) w K=K (Δ d.length):=J.of λw' V=>by
 obtain⟨X,Y,W,aa,rfl⟩:=hm.ext V;simp[Y3,run_underlying U,MapKept.run_getObj_map W,goInt]
def gB (w:x2) (W m:Nat) (d left:List (x1×x1)) (X:Option (x1×x1)):Prop:=∃I J seen U,w.heap[m]? =σ (.map I J)/\MapKept.Stamped I J/\I.toList.map fP=d/\
 w.heap[W]? =σ (.mapIter (σ m) J seen U)/\J<=U/\(leftOf I seen).toList.map fP=left/\ ∀p,X=σ p->U=J/\ ∃V,I.toList.find? (λe=>e.born == seen.back?.getD 0)=σ V/\seen.back? =σ V.born/\fP V=p
theorem gB.map {d left:List (x1×x1)} {J:Option (x1×x1)} (h:gB w I m d left J):cS w m d:=by
 obtain⟨U,c,_,_,h1,V,W,_⟩:=h;exact⟨U,c,h1,V,W⟩
theorem gB.a7 {d left:List (x1×x1)} {J:Option (x1×x1)} (h:gB w I m d left J) (U:ag S w w') (hm:¬S m) (hi:eE w w'):gB w' I m d left J:=by
 obtain⟨V,c,s,W,h1,X,Y,aa,ab⟩:=h;exact⟨V,c,s,W,U.a7 m _ h1 rfl hm,X,Y,hi I _ aa rfl,ab⟩
theorem gB.ext {d left:List (x1×x1)} {J:Option (x1×x1)} (h:gB w I m d left J) (U:Ext w w') (hi:eE w w'):gB w' I m d left J:=
 h.a7 (U.aa λ_=>False) (λh=>h) hi
theorem Hc (I:Array MapEntry):leftOf I #[]=I:=by
 unfold leftOf;exact Array.filter_eq_self.2 λx J=>Ξ
theorem zb {d:List (x1×x1)} {K:x1->x2->Prop} (W:P.underlying t=σ (.map k e)) (hm:cS w m d)
  (h:∀I w',I=w.heap.size->Ext w w'->eE w w'->gB w' I m d d ν->K (Γ I) w'):aA P (Instr.range t (.map (σ m))) w K:=by
 obtain⟨U,J,V,X,rfl⟩:=hm;refine .of (run_range_map w t k e m U J W V) (nc w _) (h _ _ rfl (nb w _) (nc w _).k0 ⟨U,J,#[],J,(nb w _).a7 m _ V rfl,X,rfl,heap_alloc_new w _,o8 _,by rw[Hc],λp Y=>by cases Y⟩)
theorem zc:∀ (l:List MapEntry) (j:Nat) (I:MapEntry),(l.map (·.born)).Nodup->l[j]? =σ I->l.filter (λx=>!(x.born == I.born))=l.eraseIdx j
 |[],j,I,_,h=>by simp at h
 |x::l,0,I,U,h=>by
  simp at h;subst h;have J:=List.nodup_cons.1 (by simpa using U:(x.born::l.map (·.born)).Nodup);simp only[List.filter_cons,beq_self_eq_true,Y1,Bool.false_eq_true,if_false,List.eraseIdx_cons_zero];refine List.filter_eq_self.2 λy V=>?_;have:y.born≠x.born:=λhe=>J.1 (he▸Z1.2 ⟨y,V,rfl⟩);simpa using this
 |x::l,j+1,I,U,h=>by
  simp at h;have J:=List.nodup_cons.1 (by simpa using U:(x.born::l.map (·.born)).Nodup);have W:x.born≠I.born:=λhe=>J.1 (he▸Z1.2 ⟨I,x5 h,rfl⟩);have X:=zc l j I J.2 h;simp only[List.filter_cons,List.eraseIdx_cons_succ,X];simp[W]
theorem zd {free:eZ} {J:Nat} {d left:List (x1×x1)} {ao:Option (x1×x1)} {K:x1->x2->Prop} (h:gB w J m d left ao) (ab:free.1=false->free.2<=J)
  (ap:left=[]->K (.tuple #[.bool false]) w)
  (h1:∀j p w',left[j]? =σ p->Ext w w'->ch J w w'->gB w' J m d (left.eraseIdx j) (σ p)->K (.tuple #[.bool true,p.1,p.2]) w'):p5 P free (Instr.next (Γ J) false 0) w K:=by
 obtain⟨W,X,seen,aq,ac,ae,rfl,hi,au,rfl,_⟩:=h;have ai:∀x∈W.toList,x.born<X:=ae.1;have aj:=ae.2.1;have ak:∀x∈(leftOf W seen).toList,x.born<X:=λx aa=>ai x (mem_left aa).1;have av:∀ (U:x2) (o':Obj),U.heap=w.heap->(setObj J o').run P U= .ok () {U with heap:=U.heap.setIfInBounds J o'}:=λU o' he=>by
  simp only[setObj,Sem.run];rw[he,hi]
 unfold p5;simp only[Instr.next,getObj,W0,Sem.run,hi,ac,W5,next_test_false seen W X aq ai au,Bool.false_eq_true,if_false];have aw:Array.filter (λe=>!seen.contains e.born) W=leftOf W seen:=rfl;rw[aw];have ax:((leftOf W seen).toList.map (·.born)).Nodup:=by
  unfold leftOf;rw[Array.toList_filter];exact (List.Sublist.map _ List.filter_sublist).nodup aj
 have ay:∀ad:MapEntry,leftOf W (seen.push ad.born)=(leftOf W seen).filter λx=>!(x.born == ad.born):=λad=>by
  unfold leftOf;rw[Array.filter_filter];congr 1;funext x;rw[contains_push];cases seen.contains x.born<;>cases x.born == ad.born<;>rfl
 generalize az:leftOf W seen=L at*;have aA:L.filter (λx=>decide (x.born<X))=L:=Array.filter_eq_self.2 (λx aa=>by simpa using ak x (by simpa using aa));have aB:L.filter (λx=>decide (x.born≥X))= #[]:=by
  rw[Array.filter_eq_empty_iff];intro x aa;have:=ak x (by simpa using aa);simp;omega
 simp only[aA,aB,Array.append_empty];by_cases al:L.size=0
 .have aC:L= #[]:=Array.eq_empty_of_size_eq_zero al;subst aC;refine⟨.tuple #[.bool false],w,?_,λ_=>ch.refl _ _,ap rfl⟩;simp[choose,Sem.run,Question.forced]
 .have aD:L.isEmpty=false:=by simp[Array.isEmpty,al]
  simp only[aD,Bool.false_eq_true,if_false,Array.empty_append,Array.size_map];have aE:∃ (j:Nat) (n:Nat),j<L.size/\w.drawn<=n/\(choose (Question.mapNext L.size)).run P w= .ok j {w with drawn:=n}:=by
   by_cases ab:L.size<=1
   .exact⟨0,w.drawn,Ω,o8 _,by simp[choose,Sem.run,Question.forced,ab]⟩
   .exact⟨_,w.drawn+1,Nat.mod_lt _ Ω,S6 _,by
     simp only[choose,Sem.run,Question.forced,decide_eq_true_eq,ab,if_false,Question.cut];rfl⟩
  obtain⟨j,n,af,am,aF⟩:=aE;have an:L.toList[j]? =σ L[j]:=by simp[af]
  have aG:L[j]∈W.toList:=(mem_left (seen:=seen) (by rw[az];exact Array.mem_toList_iff.2 (Array.getElem_mem af))).1;refine⟨.tuple #[.bool true,L[j].key,L[j].val],{w with drawn:=n,heap:=w.heap.setIfInBounds J (.mapIter (σ m) X (seen.push L[j].born) X)},?_,?_,?_⟩
  .have I:=av {w with drawn:=n} (.mapIter (σ m) X (seen.push L[j].born) X) rfl;simp only[aF,Array.getElem?_map,Array.getElem?_eq_getElem af,Y0,W0,I,W5,V1]
  .intro aH;have:=ab aH;refine⟨rfl,⟨rfl,am⟩,rfl,Ξ,λr o V ag=>?_,λr o aI V ah=>?_⟩
   .show (w.heap.setIfInBounds J _)[r]? =σ o;by_cases Y:r=J
    .subst Y;rw[hi] at V;cases V;cases ag
    .rw[(MapKept.heap_set hi).2 r Y];exact V
   .show (w.heap.setIfInBounds J _)[r]? =σ o;rw[(MapKept.heap_set hi).2 r Ω];exact V
  .refine h1 j (fP L[j]) _ (by rw[x8,an];rfl) ⟨Ξ,λr o V ah=>?_⟩ ⟨rfl,⟨rfl,am⟩,rfl,Ξ,λr o V ag=>?_,λr o aI V ah=>?_⟩ ⟨W,X,seen.push L[j].born,X,?_,ae,rfl,?_,o8 _,?_,λp aJ=>⟨rfl,L[j],?_,Ξ,Z8 aJ⟩⟩
   .show (w.heap.setIfInBounds J _)[r]? =σ o;by_cases Y:r=J
    .subst Y;rw[hi] at V;cases V;cases ah
    .rw[(MapKept.heap_set hi).2 r Y];exact V
   .show (w.heap.setIfInBounds J _)[r]? =σ o;by_cases Y:r=J
    .subst Y;rw[hi] at V;cases V;cases ag
    .rw[(MapKept.heap_set hi).2 r Y];exact V
   .show (w.heap.setIfInBounds J _)[r]? =σ o;rw[(MapKept.heap_set hi).2 r Ω];exact V
   .show (w.heap.setIfInBounds J _)[m]? =_;rw[(MapKept.heap_set hi).2 m (λhe=>by subst he;rw[hi] at ac;cases ac)];exact ac
   .exact (MapKept.heap_set hi).1
   .rw[ay,Array.toList_filter,zc _ _ _ ax an,ly]
   .simp only[Array.back?_push,T4];exact find_born _ _ aj aG
theorem ze {d left:List (x1×x1)} {p:x1×x1} {K:x1->x2->Prop} (h:gB w I m d left (σ p)) (V:K (.tuple #[p.1,p.2]) w):aA P (Instr.entry (Γ I)) w K:=by
 obtain⟨Y,aa,seen,ab,W,ac,rfl,hi,ad,rfl,X⟩:=h;obtain⟨rfl,J,h1,U,rfl⟩:=X p rfl;refine .of (v:=.tuple #[J.key,J.val]) (w':=w) ?_ (cN.refl _) V;rw[U] at h1;simp only[Instr.entry,getObj,W0,Sem.run,hi,W,W5,U,bne_self_eq_false,Bool.false_eq_true,if_false,<-Array.find?_toList];simp only[T4] at h1;rw[h1];rfl
end
end Go.Vc
namespace Go.Proofs.YtgbkinibgjmodaaGreatDoor
open Go Go.Vc Go.RowKit Go.Proofs Go.Proofs.Tryz
set_option maxRecDepth 100000
def dG (ks:Λ):x1:=.agg (ints .i8 ks).toArray
def jR (ks:Λ):Prop:=ks.length=6/\ ∀x∈ks,0<=x/\x<32
theorem Hd {b:Λ} (h:dG a=dG b):a=b:=by
 unfold dG at h;have h:ints .i8 a=ints .i8 b:=congrArg Array.toList (x1.agg.inj h);have e:∀l:Λ,(ints .i8 l).map valOf=l:=λl=>by
  unfold ints;rw[List.map_map];exact List.map_id l
 rw[<-e a,<-e b,h]
theorem zf (ks:Λ):(dG ks).cells.toList=ints .i8 ks:=by simp[dG,x1.cells]
theorem He:WideMaps.ArrKey x3 cp fh 6:=⟨cp.u,Ψ,Ψ,Ψ⟩
theorem keys:Keys x3 cp λv=>∃l,keyOf x3 cp v=σ l:=Keys.law He.law
theorem tS (h:jR ks):∃l,keyOf x3 cp (dG ks)=σ l:=by
 obtain⟨W,I⟩:=h
 match ks,W with
 |[a,b,c,d,e,f],_=>
  have X:=I a Ξ;have Y:=I b Ξ;have aa:=I c Ξ;have rd:=I d Ξ;have ab:=I e Ξ;have jx:=I f Ξ;have wf:∀x:Int,0<=x/\x<32->(Lit.int .i8 x).wf=true:=λx J=>by
   simp only[Lit.wf,U4,decide_eq_true_eq];have ah:o6.i8.min= -128:=Φ
   have ai:o6.i8.max=127:=Φ
   omega
  have U:decide (0<x3.types.size)=true:=Ψ
  have U:=of_decide_eq_true U;obtain⟨n,ac⟩:∃n,x3.types.size=n+1:=⟨x3.types.size-1,Ω⟩;have one:∀x:Int,0<=x/\x<32->x3.keyLits (n+1) fh [.int .i8 x]=σ [.int .i8 x]:=λx J=>by
   unfold W7.keyLits;rw[fh.u];simp[wf x J]
  unfold keyOf;rw[cp.u];simp only;have ad:x3.keyType cp=true:=Ψ
  have ae:x3.cellsOf fh=1:=Ψ
  have V:x3.cellsOf cp=6:=Ψ
  have af:(dG [a,b,c,d,e,f]).formed x3 cp=true:=by
   unfold dG x1.formed;rw[cp.u,V];rfl
  rw[ad,af,zf,ac];simp only[Bool.and_self,if_true];unfold W7.keyLits;rw[cp.u];simp only[V,ae,ints];have ag:W3 6=[0,1,2,3,4,5]:=Φ
  simp[ag,one a X,one b Y,one c aa,one d rd,one e ab,one f jx]
def pad (t:Λ):Λ:=t++o7 (6-t.length) 0
theorem Hf {t:Λ} (U:t.length<=6) (I:∀x∈t,0<=x/\x<32):jR (pad t):=
 ⟨by simp[pad];omega,λx J=>by
  rcases n9.1 J with h|h
  .exact I x h
  .have:=(List.mem_replicate.1 h).2;omega⟩
theorem Hg {b:Λ} (I:a.length=b.length) (h:pad a=pad b):a=b:=by
 unfold pad at h;exact (List.append_inj h I).1
theorem zg {t:Λ}:(pad t).take t.length=t:=by simp[pad]
theorem mz {b o:Nat} (I:ks.length=6) (h:w.rangeAt b o (ints .i8 ks)):J x3 (x6 cp (.pointer (σ ⟨b,o,ν⟩))) w K=K (dG ks):=
 xv cp.u rfl cp.i (by simp[I]) h
theorem Hh {b o:Nat} (I:ks.length=6) (h:w.rangeAt b o (ints .i8 ks)):J x3 (do loadVar cp (<-asAddr (.pointer (σ ⟨b,o,ν⟩)))) w K=K (dG ks):=J.of λw' U=>by
 have:=run_loadVar_mid (P:=x3) w' b o cp (ints .i8 ks) (.array 6 fh) (np U h) cp.u rfl (by rw[cp.i.size];simp[I]);simp only[asAddr,W0,V1,Result.andThen_ok,this];rfl
theorem pe {g:Nat} {K:Unit->x2->Prop} (I:ks.length=6) (J:cs.length=6) (U:af w g cp cs)
  (h:∀w',ag (λr=>r=g) w w'->w'.heap.size=w.heap.size->af w' g cp (ints .i8 ks)->K () w'):aA x3 (o5 cp (Γ g) (dG ks)) w K:=
 bH (vs:=ints .i8 ks) cp.i (by simp[I]) J (λv V=>by obtain⟨x,_,rfl⟩:=Z1.1 V;rfl) U h
def rn:List x1:=[.int .i8 0,.int .i8 0,.int .i8 0,.int .i8 0,.int .i8 0,.int .i8 0]
theorem Hi {x:Int}:ak x3 qH [Δ x] w λv w'=>v= .bool (decide (¬hf x))/\Ext w w':=by
 refine aB func244 ?_;simp only[bB,aq,bR,ae];refine⟨λh=>⟨?_,Ext.refl _⟩,λh=>⟨?_,Ext.refl _⟩⟩
 .rw[decide_eq_true];intro I;have:=I.1;omega
 .congr 1;have:(32<x)=(¬hf x):=propext ⟨λJ I=>by have:=I.2;omega,λJ=>by
   by_cases U:32<x
   .exact U
   .exact absurd ⟨Ω,Ω⟩ J⟩
  simp only[this]
theorem Hj (h:aJ .i64 w sv l):
  ak x3 s9 [sv,.func (.func qH) #[] #[]] w λv w'=>Ext w w'/\ ∃n:Int,v=Δ n/\((0<=n)=¬∀x∈l,hf x):=by
 have af:=h.le;refine aB func170 ?_;rw[aT ai.u h];refine⟨λ_ t U=>Ext w U/\ ∃i:Nat,t=Δ i/\i<=l.length/\ ∀x∈l.take i,hf x,λ_ t _=>l.length-(bO t).toNat,⟨Ext.refl _,0,rfl,X3 _,Ξ⟩,?_⟩;rintro _ _ U ⟨J,i,rfl,hi,W⟩;simp only[aq,ae];refine⟨λag=>?_,λah=>⟨J,-1,rfl,?_⟩⟩
 .obtain⟨x,X⟩:∃x,l[i]? =σ x:=⟨_,y0 Ω⟩;rw[bd ai.u ab.i Ψ (h.ext J) X];show ak x3 qH [Δ x] U _;refine Hi.mono ?_;rintro _ V _ ⟨rfl,Y⟩;simp only[ae,aN];refine⟨λaa=>⟨J.trans Y,i,rfl,?_⟩,λac=>?_⟩
  .exact propext ⟨λ_ ad=>aa (ad x (x5 X)),λ_=>Ω⟩
  .rw[wrap_i64 Ω Ω];refine⟨⟨J.trans Y,i+1,rfl,Ω,λy I=>?_⟩,?_⟩
   .rw[r8,X] at I;rcases n9.1 I with I|I
    .exact W y I
    .simp at I;subst I;exact X4.1 ac
   .simp only[bO];omega
 .have:i=l.length:=Ω
  rw[this,o9] at W;exact propext ⟨λh=>Ω,λh=>absurd W h⟩
theorem zh (h:aJ .i64 w sv l):
  ak x3 qE [sv,.func (.func qH) #[] #[]] w λv w'=>v= .bool (decide (¬∀x∈l,hf x))/\Ext w w':=by
 refine aB func196 ?_;refine (Hj h).mono ?_;rintro _ U _ ⟨I,n,rfl,J⟩;simp only[ce];exact⟨by congr 1;simp only[J],I⟩
abbrev Told:=List (Λ×Int)
def iD (p:Λ×Int):x1×x1:=(dG (pad p.1),Δ p.2)
def en (w:x2) (g m:Nat) (szs:Λ) (k o:Int) (D:Told):Prop:=
 (∃sv gs,af w g e1 [sv,Δ k,Δ o,.map (σ m)]/\au .i64 ab w gs sv szs)/\cS w m (D.map iD)/\bS szs/\cQ o k/\ ∀p∈D,c6 szs p.1/\cQ p.2 k/\p.2≠o
theorem en.ext {g:Nat} {D:Told} (h:en w g m szs k o D) (I:Ext w w'):en w' g m szs k o D:=by
 obtain⟨⟨sv,gs,h1,J⟩,U,V⟩:=h;exact⟨⟨sv,gs,h1.ext I,J.ext I⟩,U.ext I,V⟩
theorem tT {t:Λ} (I:bS szs) (h:c6 szs t):t.length=szs.length/\ ∀x∈t,0<=x/\x<32:=by
 obtain⟨h1,U⟩:=mu.1 h;refine⟨h1.symm,λx V=>?_⟩;obtain⟨i,hi,rfl⟩:=List.getElem_of_mem V;obtain⟨a,J⟩:∃a,szs[i]? =σ a:=⟨_,y0 Ω⟩;have W:=U i a _ J (y0 hi);have X:=(I.2 a (x5 J)).2;omega
theorem pf {t:Λ} (I:bS szs) (h:c6 szs t):jR (pad t):=by
 obtain⟨h1,J⟩:=tT I h;exact Hf (by rw[h1];exact I.1) J
theorem en.nR {g:Nat} {D:Told} (h:en w g m szs k o D):∀p∈D.map iD,∃l,keyOf x3 cp p.1=σ l:=λp I=>by
 obtain⟨q,J,rfl⟩:=Z1.1 I;exact tS (pf h.2.2.1 (h.2.2.2.2 q J).1)
theorem zi {s t:Λ} (I:c6 szs s) (J:c6 szs t) (h:dG (pad s)=dG (pad t)):s=t:=
 Hg ((q2 I).symm.trans (q2 J)) (Hd h)
theorem en.nodup {g:Nat} {D:Told} (h:en w g m szs k o D):(D.map (·.1)).Nodup:=by
 have I:=h.2.1.nodup;rw[List.map_map] at I;refine List.Pairwise.of_map (S:=λa b=>a≠b) (λt=>dG (pad t)) (λa b h he=>h (by rw[he])) ?_;rw[List.map_map];exact I
def Hk (w:x2) (l:Λ) (k o:Int) (v:x1) (w':x2):Prop:=
 Ext w w'/\(¬bS l->v= .tuple #[.pointer ν,Δ 1])/\(bS l->¬cQ o k->v= .tuple #[.pointer ν,Δ 3])/\
  (bS l->cQ o k-> ∃g m,v= .tuple #[Γ g,Δ 0]/\w.heap.size<=g/\w.heap.size<=m/\en w' g m l k o [])
theorem zj (h:aJ .i64 w sv l):ak x3 ni [sv,Δ k,Δ o] w (Hk w l k o):=by
 refine aB func205 ?_;refine aQ (λv U=>Ext w U/\ ∃c,v= .bool c/\(c=true↔¬bS l)) ?_ ?_
 .rintro _ U ⟨W,c,rfl,X⟩;rw[bD];refine⟨λac=>⟨W,λ_=>rfl,λh=>absurd h (X.1 ac),λh=>absurd h (X.1 ac)⟩,λag=>?_⟩;have I:bS l:=Classical.byContradiction λh=>by have:=X.2 h;rw[ag] at this;cases this
  have an:=I.1;refine kD.mono ?_;rintro _ V _ ⟨rfl,J⟩;by_cases hi:cQ o k
  rotate_left
  .simp only[hi,decide_false,bf,X5,bQ];exact⟨W.trans J,λh=>absurd I h,λ_ _=>rfl,λ_ h=>absurd h hi⟩
  simp only[hi,decide_true,bf,Y1,aS];refine (hF ((h.ext W).ext J) Ω).mono ?_;rintro aE ao _ ⟨ad,ah,ap,hm⟩;have aq:=hm.ls.cells;refine rl λm au av Y aj=>?_;rw[cW (cs:=#[aE,Δ k,Δ o,.map (σ m)]) (by obtain⟨_,_,_,_,_,rfl,_⟩:=hm.ls;kernel_rfl)];refine bN λg aw ax aa al=>?_;have s1:=W.size;have ay:=J.size;have az:=ad.size;have aA:=Y.size;exact⟨((((W.trans J).trans ad).trans Y).trans aa),λh=>absurd I h,λ_ h=>absurd hi h,λ_ _=>⟨g,m,rfl,Ω,Ω,⟨aE,ah,al,(hm.ext Y).ext aa⟩,aj.ext aa,I,hi,λp am=>by cases am⟩⟩
 .intro aC af;rw[aT ai.u h];simp only[bR,ae];refine⟨λaD=>af _ _ ⟨Ext.refl _,true,rfl,λ_ I=>by have:=I.1;omega,λ_=>rfl⟩,λaF=>?_⟩;refine (zh h).mono ?_;rintro _ V _ ⟨rfl,J⟩;refine af _ _ ⟨J,_,rfl,?_⟩;rw[decide_eq_true_eq];exact⟨λab I=>ab I.2,λab I=>ab ⟨Ω,I⟩⟩
def hM (t:Λ) (i:Nat):Λ:=t.take i++o7 (6-i) 0
theorem Hl {t:Λ} {i:Nat} (hi:i<=t.length) (I:t.length<=6):(hM t i).length=6:=by simp[hM];omega
theorem Hm {t:Λ} {i:Nat} {x:Int} (I:t[i]? =σ x) (U:t.length<=6):(hM t i).set i x=hM t (i+1):=by
 have hi:=(x4.1 I).1;unfold hM;have J:(t.take i).length=i:=by rw[o4];omega
 rw[U9 _ _ Ω,J,W9,r8,I];have:6-i=(6-(i+1))+1:=Ω
 rw[this,List.replicate_succ];simp
theorem Hn (t:Λ):hM t t.length=pad t:=by simp[hM,pad]
def zk (w:x2) (szs t:Λ) (v:x1) (w':x2):Prop:=Ext w w'/\ ∃ks e,v= .tuple #[dG ks,Δ e]/\ks.length=6/\(c6 szs t->ks=pad t/\e=0)/\(¬c6 szs t->e=3)
theorem Ho {g:Nat} {t:Λ} {D:Told} {aE:x1} (h:en w g m szs k o D) (av:aJ .i64 w aE t):ak x3 EQ [Γ g,aE] w (zk w szs t):=by
 obtain⟨⟨sv,gs,aw,hm⟩,_,I,_⟩:=h;have bi:=I.1;refine aB func245 ?_;refine bp cp.i λah U bj aM ao=>?_;refine bp cp.i λan V bk ax az=>?_;have aj:=aM.trans ax;have s1:=aM.size;have bl:=ax.size;have bm:=ao.lt;have bn:=az.lt;have bo:=aw.lt;have ao:=ao.ext ax;have aX:=aw.ext aj;rw[cC ey.u];simp only[Z0,aS];have aC:∀ {W:x2} {ks:Λ} {e:Int},Ext w W->af W an cp (ints .i8 ks)->af W ah cp rn->ks.length=6->(c6 szs t->ks=pad t/\e=0)->(¬c6 szs t->e=3)->
   J x3 (x6 cp (Γ an)) W λaY=>aA x3 (o5 cp (Γ ah) aY) W λ(_:Unit) aD=>J x3 (do loadVar cp (<-asAddr (Γ ah))) aD λaZ=>zk w szs t (.tuple #[aZ,Δ e]) aD:=by
  intro W ks e X Y al au ap aF;rw[mz au Y.range];refine pe au rfl al λaD a1 bq a2=>?_;rw[Hh au a2.range];exact⟨X.then a1 (λr a6 he=>by have he:r=ah:=he;omega),ks,e,rfl,au,ap,aF⟩
 rw[aT ai.u (av.ext aj),ay,ac e1.p rfl,ad Ψ (aX.Q0 rfl),aT ai.u (hm.ls.ext aj)];simp only[bG,ae];have aO:ints .i8 (hM t 0)=rn:=by simp[hM,rn,ints]
 refine⟨λa7=>aC aj (ks:=hM t 0) (e:=3) (by rw[aO];exact az) ao (by simp[hM]) (λap=>absurd (by rw[q2 ap]) a7) (λ_=>rfl),λaP=>?_⟩;have aP:t.length=szs.length:=Ω
 rw[aT ai.u (av.ext aj)];refine bE.range t.length (λi _ W=>Ext w W/\af W an cp (ints .i8 (hM t i))/\af W ah cp rn/\ ∀ (j:Nat) (a x:Int),j<i->szs[j]? =σ a->t[j]? =σ x->0<=x/\x<a) Ω
  ⟨aj,by rw[aO];exact az,ao,λj a x a8=>Ω⟩ ?_ ?_
 .rintro i _ W ba hi ⟨X,Y,al,aG⟩ bb;simp only[aq,ae];refine⟨λ_=>?_,λh=>Ω⟩;obtain⟨x,ag⟩:∃x,t[i]? =σ x:=⟨_,y0 hi⟩;obtain⟨a,am⟩:∃a,szs[i]? =σ a:=⟨_,y0 Ω⟩;have br:=I.2 a (x5 am);rw[bd ai.u ab.i Ψ (av.ext X) ag];have aR:=Hl (t:=t) (i:=i) Ω Ω;refine aQ (λv bc=>W=bc/\v= .bool (decide (¬(0<=x/\x<a)))) ?_ ?_
  .rintro _ _ ⟨rfl,rfl⟩;simp only[ae];refine⟨λbe=>aC X Y al aR (λap=>absurd ((mu.1 ap).2 i a x am ag) be) (λ_=>rfl),λaH=>?_⟩;have aH:=X4.1 aH;rw[e2 ab.u fh.u,Fx Ω Ω,th cp.u fh.i Ω];refine bh fh.i rfl rfl Y (by simp[aR];omega) λbt aU bu aV=>?_;simp only[aN];refine bb _ _ ⟨X.then aU (λr a6 he=>by have he:r=an:=he;omega),?_,al.aa aU (by show ¬(ah=an);omega),λj a' bf a8 aK aL=>?_⟩
   .have e:(ints .i8 (hM t i)).set (0+i*1) (.int .i8 x)=ints .i8 (hM t (i+1)):=by
     rw[<-Hm ag Ω];simp[ints,T2]
    rw[e] at aV;exact aV
   .by_cases bg:j=i
    .subst bg;rw[am] at aK;rw[ag] at aL;cases aK;cases aL;exact aH
    .exact aG j a' bf Ω aK aL
  .intro bw aW;simp only[aq,ae];refine⟨λbx=>aW _ _ ⟨rfl,by rw[decide_eq_true];omega⟩,λbz=>?_⟩;rw[ay,ac e1.p rfl,ad Ψ ((aw.ext X).Q0 rfl),bd ai.u ab.i Ψ (hm.ls.ext X) am,ce];refine aW _ _ ⟨rfl,?_⟩;congr 1;exact decide_eq_decide.2 ⟨λh aI=>Ω,λh=>Ω⟩
 .rintro _ W ba ⟨X,Y,al,aG⟩;simp only[aq,ae];refine⟨λh=>Ω,λ_=>?_⟩;rw[Hn] at Y;exact aC X Y al (by simp[pad];omega) (λ_=>⟨rfl,rfl⟩) (λaF=>absurd (mu.2 ⟨aP.symm,λj a x am ag=>aG j a x (x4.1 ag).1 am ag⟩) aF)
def hl (D:Told) (o:Int) (t:Λ):Int:=match D.find? (λp=>decide (p.1=t)) with
 |some p=>p.2
 |none=>o
theorem zl {D:Told} (J:(D.map (·.1)).Nodup) {p q:Λ×Int} (U:p∈D) (V:q∈D) (h:p.1=q.1):p=q:=by
 obtain⟨i,hi⟩:=Y7.1 U;obtain⟨j,I⟩:=Y7.1 V;have h1:(D.map (·.1))[i]? =σ p.1:=by rw[x8,hi];rfl
 have W:(D.map (·.1))[j]? =σ p.1:=by rw[x8,I,h];rfl
 have:=ji J h1 W;subst this;rw[hi] at I;exact Z8 I
theorem pg {D:Told} {t:Λ} (J:(D.map (·.1)).Nodup) (h:(t,c)∈D):hl D o t=c:=by
 unfold hl;cases I:D.find? (λp=>decide (p.1=t)) with
 |none=>
  have:=List.find?_eq_none.1 I _ h;simp at this
 |some p=>
  have h1:=List.find?_some I;have h1:p.1=t:=by simpa using h1
  have:=zl J (List.mem_of_find?_eq_some I) h h1;rw[this]
theorem ph {D:Told} {t:Λ} (h:∀p∈D,p.1≠t):hl D o t=o:=by
 unfold hl;cases I:D.find? (λp=>decide (p.1=t)) with
 |none=>rfl
 |some p=>
  have h1:=List.find?_some I;have h1:p.1=t:=by simpa using h1
  exact absurd h1 (h p (List.mem_of_find?_eq_some I))
def jS (D:Told) (t:Λ) (c o:Int) (I:Told):Prop:=(∀p,p∈I↔(c≠o/\p=(t,c))\/(p∈D/\p.1≠t))/\I.length<=D.length+1
theorem jS.cost {D V:Told} {t:Λ} (h:jS D t c o V) (aa:(D.map (·.1)).Nodup) (W:(V.map (·.1)).Nodup) (s:Λ):hl V o s=if s=t then c else hl D o s:=by
 by_cases I:s=t
 .subst I;rw[if_pos rfl];by_cases X:c=o
  .subst X;exact ph λp J he=>by
    rcases (h.1 p).1 J with U|U
    .exact U.1 rfl
    .exact U.2 he
  .exact pg W ((h.1 _).2 (.inl ⟨X,rfl⟩))
 .rw[if_neg I];by_cases he:∃p∈D,p.1=s
  .obtain⟨p,J,rfl⟩:=he;rw[pg (c:=p.2) aa J];exact pg W ((h.1 _).2 (.inr ⟨J,I⟩))
  .have Y:∀p∈D,p.1≠s:=λp J h=>he ⟨p,J,h⟩;rw[ph Y];exact ph λp J U=>by
    rcases (h.1 p).1 J with⟨_,rfl⟩|⟨ab,_⟩
    .exact I U.symm
    .exact Y p ab U
theorem Hp {D:Told} {t:Λ} {v0:Int} (W:(D.map (·.1)).Nodup) (U:D[j]? =σ (t,v0)) (X:c≠o):jS D t c o (D.set j (t,c)):=by
 have V:=(x4.1 U).1;refine⟨λp=>⟨λI=>?_,λI=>?_⟩,Ξ⟩
 .obtain⟨i,hi⟩:=Y7.1 I;by_cases J:j=i
  .subst J;rw[V9 V] at hi;exact .inl ⟨X,(Z8 hi).symm⟩
  .rw[W8 J] at hi;refine .inr ⟨x5 hi,λhe=>J ?_⟩;exact ji W (x:=t) (by rw[x8,U];rfl) (by rw[x8,hi,Y0,he])
 .rcases I with⟨_,rfl⟩|⟨I,Y⟩
  .exact x5 (V9 V)
  .obtain⟨i,hi⟩:=Y7.1 I;have J:j≠i:=λhe=>by subst he;rw[U] at hi;cases hi;exact Y rfl
   exact x5 (by rw[W8 J];exact hi)
theorem zm {D:Told} {t:Λ} (I:∀p∈D,p.1≠t) (J:c≠o):jS D t c o (D++[(t,c)]):=by
 refine⟨λp=>?_,Ξ⟩;rw[n9,j4];exact⟨λh=>h.elim (λh=>.inr ⟨h,I p h⟩) (λh=>.inl ⟨J,h⟩),λh=>h.elim (λh=>.inr h.2) (λh=>.inl h.1)⟩
theorem Hq {D:Told} {t:Λ} {v0:Int} (U:(D.map (·.1)).Nodup) (J:D[j]? =σ (t,v0)):jS D t o o (D.eraseIdx j):=by
 refine⟨λp=>⟨λI=>?_,λI=>?_⟩,by have:=List.length_eraseIdx_le D j;omega⟩
 .refine .inr ?_;obtain⟨i,V,hi⟩:=List.mem_eraseIdx_iff_getElem?.1 I;refine⟨x5 hi,λhe=>V ?_⟩;exact ji U (x:=t) (by rw[x8,hi,Y0,he]) (by rw[x8,J];rfl)
 .rcases I with⟨h,_⟩|⟨I,W⟩
  .exact absurd rfl h
  .obtain⟨i,hi⟩:=Y7.1 I;exact List.mem_eraseIdx_iff_getElem?.2 ⟨i,λhe=>by subst he;rw[J] at hi;cases hi;exact W rfl,hi⟩
theorem Hr {D:Told} {t:Λ} (I:∀p∈D,p.1≠t):jS D t o o D:=
 ⟨λp=>⟨λh=>.inr ⟨h,I p h⟩,λh=>h.elim (λh=>absurd rfl h.1) (λh=>h.1)⟩,Ω⟩
theorem zn {g:Nat} {t:Λ} {D:Told} (h:en w g m szs k o D) (U:c6 szs t) (I:(D.map iD)[j]? =σ (dG (pad t),v)):∃c,D[j]? =σ (t,c)/\v=Δ c:=by
 rw[x8] at I;obtain⟨p,J,he⟩:=X0.1 I;have h1:=zi (h.2.2.2.2 p (x5 J)).1 U (congrArg Prod.fst he);exact⟨p.2,by rw[J,<-h1],(congrArg Prod.snd he).symm⟩
theorem zo {g:Nat} {t:Λ} {D:Told} (h:en w g m szs k o D) (I:∀p∈D.map iD,p.1≠dG (pad t)):∀p∈D,p.1≠t:=λp J he=>I (iD p) (Z1.2 ⟨p,J,rfl⟩) (by rw[iD,he])
def Hs (w:x2) (g m:Nat) (szs t:Λ) (k o c:Int) (D:Told) (v:x1) (w':x2):Prop:=
 (¬(c6 szs t/\cQ c k)->v=Δ 3/\Ext w w')/\(c6 szs t/\cQ c k->v=Δ 0/\ag (λr=>r=m) w w'/\ ∃I,jS D t c o I/\en w' g m szs k o I)
theorem zp {g:Nat} {t:Λ} {D:Told} {aE:x1} (h:en w g m szs k o D) (aR:aJ .i64 w aE t):ak x3 Ex [Γ g,aE,Δ c] w (Hs w g m szs t k o c D):=by
 refine aB func206 ?_;refine (Ho h aR).mono ?_;rintro _ U _ ⟨aL,ks,e,rfl,aw,aT,aU⟩;rw[aK (v:=dG ks) rfl,aK (v:=Δ e) rfl];refine bp cp.i λan V bh aM aN=>?_;refine pe aw rfl aN λax aV bi aO=>?_;have s1:=aL.size;have bj:=aM.size;have bl:=aN.lt;have ap:Ext w ax:=(aL.trans aM).then aV (λr az he=>by have he:r=an:=he;omega);refine aQ (λv aA=>v=Δ 0/\(c6 szs t/\cQ c k)/\ag (λr=>r=m) w aA/\ ∃X,jS D t c o X/\en aA g m szs k o X) ?_ ?_
 .rintro _ aA ⟨_,h1,am⟩;exact⟨λh=>absurd h1 h,λ_=>⟨rfl,am⟩⟩
 intro aW aX;simp only[bG,ae];by_cases ai:c6 szs t
 rotate_left
 .have he:=aU ai;subst he;exact⟨λ_=>⟨λ_=>⟨rfl,ap⟩,λh=>absurd h.1 ai⟩,λh=>by simp at h⟩
 obtain⟨rfl,rfl⟩:=aT ai;refine⟨λh=>absurd rfl h,λ_=>?_⟩;have ab:=h.ext ap;obtain⟨⟨sv,gs,af,hm⟩,aq,I,aY,aZ⟩:=id ab;rw[ay,ac e1.p rfl,ad Ψ (af.Q1 rfl)];refine kD.mono ?_;rintro _ a1 _ ⟨rfl,ah⟩;have a2:=ap.trans ah;by_cases hi:cQ c k
 rotate_left
 .simp only[hi,decide_false,bf,X5,bQ];exact⟨λ_=>⟨rfl,a2⟩,λh=>absurd h.2 hi⟩
 simp only[hi,decide_true,bf,Y1,aS];rw[ay,ac e1.p rfl,ad Ψ ((af.ext ah).Q2 rfl)];simp only[bk,ae,cm];have aP:=tS (pf I ai);have a6:∀ {X:Told},jS D t c o X-> ∀p∈X,c6 szs p.1/\cQ p.2 k/\p.2≠o:=λhu p a7=>by
  rcases (hu.1 p).1 a7 with⟨al,rfl⟩|⟨h1,_⟩
  .exact⟨ai,hi,al⟩
  .exact aZ p h1
 have au:∀ {ao aj:x2} {X:Told},Ext a1 ao->ag (λr=>r=m) ao aj->cS aj m (X.map iD)->jS D t c o X->aW (Δ 0) aj:=by
  intro ao aj X J W a8 hu;have ba:g≠m:=λhe=>by
   obtain⟨bb,bd,aI,_⟩:=aq;have af:ax.heap[g]? =_:=af;rw[he,aI] at af;cases af
  have be:∀r,leads sv r->r≠m:=λr az he=>by
   subst he;obtain⟨bb,bd,aI,_⟩:=aq;obtain⟨_,⟨rfl,_⟩|⟨cap,cs,rfl,av,_⟩⟩:=hm
   .obtain⟨a,n,c,h1,_⟩:=az;cases h1
   .obtain⟨a,n,c,h1,am⟩:=az;cases h1;have av:ax.heap[gs]? =_:=av;have am:gs=r:=am;rw[am,aI] at av;cases av
  have aC:=ah.trans J;exact aX _ _ ⟨rfl,⟨ai,hi⟩,((ap.trans aC).aa _).trans W,X,hu,⟨sv,gs,(af.ext aC).aa W ba,bc (hm.ext aC) W be⟩,a8,I,aY,a6 hu⟩
 refine⟨λal ao J _ _=>?_,λal ao J _ _=>?_⟩
 .rw[ay,ac e1.p rfl,ad Ψ (((af.ext ah).ext J).Q3 rfl),mz aw ((aO.ext ah).ext J).range];subst al;refine Ha hA.u keys ((aq.ext ah).ext J) ab.nR aP (λj v0 aj aD Y W=>?_) (λaj aF Y W=>?_)
  .obtain⟨bg,aG,_⟩:=zn ab ai aD;rw[ly] at Y;exact au J W Y (Hq ab.nodup aG)
  .exact au J W Y (Hr (zo ab aF))
 .rw[ay,ac e1.p rfl,ad Ψ (((af.ext ah).ext J).Q3 rfl),mz aw ((aO.ext ah).ext J).range];refine pd hA.u keys ((aq.ext ah).ext J) ab.nR aP (λj v0 aj aD Y W=>?_) (λaj aF Y W=>?_)
  .obtain⟨bg,aG,_⟩:=zn ab ai aD;have aH:(D.map iD).set j (dG (pad t),Δ c)=(D.set j (t,c)).map iD:=by rw[T2];rfl
   rw[aH] at Y;exact au J W Y (Hp ab.nodup aG al)
  .have aH:D.map iD++[(dG (pad t),Δ c)]=(D++[(t,c)]).map iD:=by rw[Z3];rfl
   rw[aH] at Y;exact au J W Y (zm (zo ab aF) al)
theorem Ht {g:Nat} {t:Λ} {D:Told} {b:Bool} (h:en w g m szs k o D) (U:c6 szs t)
  (h1:∀c,(t,c)∈D->K (if b then .tuple #[Δ c,.bool true] else Δ c)) (X:(∀p∈D,p.1≠t)->K (if b then .tuple #[Δ 0,.bool false] else Δ 0)):
  J x3 (Instr.lookup hA (.map (σ m)) (dG (pad t)) b) w K:=by
 have V:=tS (pf h.2.2.1 U);by_cases he:∃p∈D,p.1=t
 .obtain⟨p,I,rfl⟩:=he;obtain⟨j,Y⟩:=Y7.1 I;rw[pc hA.u keys h.2.1 h.nR V (j:=j) (v:=Δ p.2) (by rw[x8,Y];rfl)];exact h1 p.2 I
 .have W:∀p∈D,p.1≠t:=λp I h=>he ⟨p,I,h⟩;rw[rm hA.u keys ⟨_,_,ao.i⟩ h.2.1 h.nR V (λq aa ab=>by
   obtain⟨p,I,rfl⟩:=Z1.1 aa;exact W p I (zi (h.2.2.2.2 p I).1 U ab))]
  exact X W
theorem Hu {g:Nat} {D:Told} (h:en w g m szs k o D):ak x3 ET [Γ g] w λv w'=>v=Δ D.length/\Ext w w':=by
 obtain⟨⟨sv,gs,I,hm⟩,J,_⟩:=h;refine aB func250 ?_;rw[cC ey.u];simp only[Z0,aS];rw[ay,ac e1.p rfl,ad Ψ (I.Q3 rfl),Hb hA.u J];exact⟨Ξ,Ext.refl _⟩
theorem Hv {g:Nat} {D:Told} (h:en w g m szs k o D):ak x3 Fl [Γ g] w λv w'=>v=Δ k/\Ext w w':=by
 obtain⟨⟨sv,gs,I,hm⟩,_⟩:=h;refine aB func303 ?_;rw[cC ey.u];simp only[Z0,aS];rw[ay,ac e1.p rfl,ad Ψ (I.Q1 rfl)];exact⟨rfl,Ext.refl _⟩
theorem tU {g:Nat} {D:Told} (h:en w g m szs k o D):ak x3 EU [Γ g] w λv w'=>Ext w w'/\ ∃J,w.heap.size<=J/\au .i64 ab w' J v szs:=by
 obtain⟨⟨sv,gs,U,hm⟩,_,I,_⟩:=h;have V:=I.1;refine aB func251 ?_;rw[cC ey.u];simp only[Z0,aS];rw[ay,ac e1.p rfl,ad Ψ (U.Q0 rfl)];exact hF hm.ls Ω
theorem Hw {g:Nat} {D:Told} (h:en w g m szs k o D):ak x3 Fm [Γ g] w λv w'=>v=Δ szs.length/\Ext w w':=by
 refine aB func304 ?_;refine (tU h).mono ?_;rintro v U _ ⟨I,J,_,hm⟩;rw[aT ai.u hm.ls];exact⟨rfl,I⟩
end Go.Proofs.YtgbkinibgjmodaaGreatDoor
namespace Go.Vc
open Go Go.RowKit
set_option maxRecDepth 100000
def leadsTo (v:x1) (r:Nat):Prop:=∃a n c,v= .slice (σ a) n c/\a.block=r
theorem eJ (h:leadsTo (.slice ν 0 0) r):False:=by
 obtain⟨a,n,c,h,_⟩:=h;cases h
section
variable {α:Type} {f:α->List x1} {k:Nat}
theorem fB:∀ {L:List α},(∀a∈L,(f a).length=k)->(L.flatMap f).length=L.length*k
 |[],_=>Ξ
 |a::L,h=>by
  rw[V5,u9,h a (.head _),fB λb I=>h b (.tail _ I),j5,U5];omega
theorem pi:∀ {L:List α} (i:Nat),(∀a∈L,(f a).length=k)->(L.flatMap f).take (i*k)=(L.take i).flatMap f
 |[],i,_=>Ξ
 |a::L,0,_=>Ξ
 |a::L,i+1,h=>by
  have I:=h a (.head _);rw[V5,List.take_succ_cons,V5,<-pi i λb J=>h b (.tail _ J),U5,Nat.one_mul,Nat.add_comm,List.take_append,I];congr 1
  .exact l5 Ω
  .congr 1;omega
theorem rp:∀ {L:List α} (i:Nat),(∀a∈L,(f a).length=k)->(L.flatMap f).drop (i*k)=(L.drop i).flatMap f
 |[],i,_=>Ξ
 |a::L,0,_=>Ξ
 |a::L,i+1,h=>by
  have I:=h a (.head _);rw[V5,List.drop_succ_cons,<-rp i λb J=>h b (.tail _ J),U5,Nat.one_mul,Nat.add_comm,List.drop_append,I];rw[List.drop_of_length_le Ω,List.nil_append];congr 1;omega
theorem mA {L:List α} {i:Nat} {a:α} (h:∀a∈L,(f a).length=k) (hi:L[i]? =σ a) (I:(f a)[j]? =σ v):(L.flatMap f)[i*k+j]? =σ v:=by
 have U:=(x4.1 I).1;rw[<-List.getElem?_drop,rp i h];have J:=x4.1 hi;rw[V0 J.1,J.2,V5,j9 U];exact I
theorem tV {L:List α} {i:Nat} {a:α} (h:∀a∈L,(f a).length=k) (I:(f a).length=k) (hi:i<L.length):over (L.flatMap f) (i*k) (f a)=(L.set i a).flatMap f:=by
 have U:=fB h;have J:(i+1)*k<=L.length*k:=Y5 _ hi;rw[U5,Nat.one_mul] at J;rw[ll Ω,I,pi i h,show i*k+k=(i+1)*k by rw[U5,Nat.one_mul],rp (i+1) h,List.set_eq_take_append_cons_drop,if_pos hi,List.flatMap_append,V5,X1]
theorem rq {vs:List x1} {o:Nat} (h1:o+vs.length<=m) (I:m<=cs.length):(over cs o vs).take m=over (cs.take m) o vs:=by
 rw[ll Ω,ll (by rw[o4];omega),X1,X1,List.take_append,List.take_append,List.take_take,List.take_take,List.drop_take,o4];rw[show min m o=o by omega,show min o m=o by omega,show min o cs.length=o by omega,l5 (l:=vs) Ω];congr 3;omega
def a6 (f:α->List x1) (k:Nat) (e:r9) (w:x2) (g:Nat) (v:x1) (L:List α):Prop:=bU w g e k v L.length (L.flatMap f)/\ ∀a∈L,(f a).length=k
variable {P:W7} {w:x2} {e:r9} {g:Nat} {v:x1} {L:List α}
theorem a6.nil (f:α->List x1) (k:Nat) (e:r9) (w:x2) (g:Nat):a6 f k e w g (.slice ν 0 0) []:=⟨bU.nil w g e k,λa h=>by cases h⟩
theorem a6.leads (h:a6 f k e w g v L) (I:leadsTo v r):r=g/\g<w.heap.size:=by
 obtain⟨_,⟨rfl,_⟩|⟨cap,cs,rfl,J,_⟩⟩:=h.1
 .exact (eJ I).elim
 .obtain⟨a,n,c,h1,U⟩:=I;cases h1;exact⟨U.symm,J.lt⟩
theorem a6.aa (h:a6 f k e w g v L) (I:ag S w w') (J:∀r,leadsTo v r->¬S r):a6 f k e w' g v L:=
 ⟨⟨h.1.1,h.1.2.imp id λ⟨cap,cs,h1,U,V⟩=>⟨cap,cs,h1,U.aa I (J g ⟨_,_,_,h1,rfl⟩),V⟩⟩,h.2⟩
theorem a6.ext (h:a6 f k e w g v L) (I:Ext w w'):a6 f k e w' g v L:=h.aa (I.aa λ_=>False) λ_ _ h=>h
theorem a6.sl (h:a6 f k e w g v L):bW w k v L.length (L.flatMap f):=h.1.sl
theorem a6.le (h:a6 f k e w g v L):L.length<=9223372036854775807:=by
 have:=bW.le h.sl;simpa[maxLen] using this
theorem c9 {I:r9} (U:P.underlying t=σ (.slice e)) (h:a6 f k e w g v L):J P (Y3 #[t] I #[v]) w K=K (Δ L.length):=by
 obtain⟨_,_,_,_,_,rfl,_⟩:=h.sl;exact gw U
theorem cG {q:o6} {b:Nat} {i:Nat} (I:y=(i:Int)) (U:P.underlying t=σ (.slice e)) (hi:aO P e k b z) (h:a6 f k e w g v L) (V:i<L.length):
  J P (n0 t v (.int q y)) w K=K (.pointer (σ ⟨g,i*k,ν⟩)):=by
 subst I;obtain⟨_,⟨rfl,W⟩|⟨cap,cs,rfl,X,Y⟩⟩:=h.1
 .omega
 .rw[fi U hi V (λ_=>rfl),V3]
theorem a6.range {i:Nat} {a:α} (h:a6 f k e w g v L) (hi:L[i]? =σ a):w.rangeAt g (i*k) (f a):=λj u hu=>by
 have h1:=mA h.2 hi hu;have V:=(x4.1 hi).1;obtain⟨_,⟨rfl,W⟩|⟨cap,cs,rfl,J,_,_,X,U⟩⟩:=h.1
 .omega
 .have I:=(x4.1 h1).1;rw[fB h.2] at I;rw[<-U,Y2 I] at h1;exact J.cell h1
theorem zq {b:Nat} {i:Nat} {a:α} {K:Unit->x2->Prop} (hi:aO P t k b z) (h:a6 f k e w g v L) (J:(f a).length=k) (h1:∀u∈f a,u.oneCell'=true) (W:i<L.length)
  (aa:∀w',ag (λr=>leadsTo v r) w w'->w'.heap.size=w.heap.size->a6 f k e w' g v (L.set i a)->K () w'):aA P (o5 t (.pointer (σ ⟨g,i*k,ν⟩)) (.agg (f a).toArray)) w K:=by
 have aj:=fB h.2;have ab:(i+1)*k<=L.length*k:=Y5 _ W;rw[U5,Nat.one_mul] at ab;obtain⟨⟨ak,⟨rfl,al⟩|⟨cap,cs,rfl,ac,X,ad,Y,ae⟩⟩,U⟩:=h
 .omega
 .have af:L.length*k<=cs.length:=by rw[Y];exact Y5 _ X
  refine xy hi J h1 ac Ω λw' ah I ai=>aa w' (ah.mono λr _ he=>⟨_,_,_,rfl,he.symm⟩) I ⟨⟨?_,.inr ⟨cap,_,Ξ,ai,by simpa using X,ad,by rw[kA,Y],?_⟩⟩,λb V=>?_⟩
  .rw[fB (L:=L.set i a) λb V=>by
    rcases V7 V with h|rfl
    .exact U b h
    .exact J]
  .rw[X2,<-tV U J W,<-ae,rq (by rw[J];omega) af]
  .rcases V7 V with h|rfl
   .exact U b h
   .exact J
theorem mB {b:Nat} {u:x1} {i:Nat} {a a':α} {K:Unit->x2->Prop} (hi:aO P t 1 b z) (hu:u.cells= #[u]) (h1:u.oneCell'=true) (h:a6 f k e w g v L) (U:L[i]? =σ a) (W:f a'=(f a).set j u) (ap:j<k)
  (af:∀w',ag (λr=>leadsTo v r) w w'->w'.heap.size=w.heap.size->a6 f k e w' g v (L.set i a')->K () w'):aA P (o5 t (.pointer (σ ⟨g,i*k+j,ν⟩)) u) w K:=by
 have X:=(x4.1 U).1;have aq:=fB h.2;have ah:(i+1)*k<=L.length*k:=Y5 _ X;rw[U5,Nat.one_mul] at ah;have ai:(f a).length=k:=h.2 a (x5 U);have J:(f a').length=k:=by rw[W,X2];exact ai
 have aj:(L.flatMap f).set (i*k+j) u=(L.set i a').flatMap f:=by
  rw[<-tV h.2 J X];refine X8 λp=>?_;rw[mc _ _ _ Ω,X7,J];by_cases Y:i*k<=p/\p<i*k+k
  .rw[if_pos Y,W,X7];by_cases aa:i*k+j=p
   .rw[if_pos aa,if_pos Ω,if_pos Ω,if_pos Ω]
   .rw[if_neg aa,if_neg Ω];obtain⟨y,ab⟩:∃y,(f a)[p-i*k]? =σ y:=⟨_,y0 Ω⟩;have:=mA h.2 U ab;rw[show i*k+(p-i*k)=p by omega] at this;rw[this,ab]
  .rw[if_neg Y,if_neg Ω]
 obtain⟨⟨au,⟨rfl,av⟩|⟨cap,cs,rfl,ak,ac,al,ad,am⟩⟩,ae⟩:=h
 .omega
 .have aw:L.length*k<=cs.length:=by rw[ad];exact Y5 _ ac
  refine bh hi hu h1 ak Ω λw' an I ao=>af w' (an.mono λr _ he=>⟨_,_,_,rfl,he.symm⟩) I ⟨⟨?_,.inr ⟨cap,_,Ξ,ao,by simpa using ac,al,by rw[X2,ad],?_⟩⟩,λb V=>?_⟩
  .rw[fB (L:=L.set i a') λb V=>by
    rcases V7 V with h|rfl
    .exact ae b h
    .exact J]
  .rw[X2,<-aj,<-am,List.take_set]
  .rcases V7 V with h|rfl
   .exact ae b h
   .exact J
theorem gh {ai:r9} {b:Nat} {x:x1} {a:α} {K:x1->x2->Prop} (X:P.underlying t=σ (.slice e)) (hi:aO P e k b z) (ae:z.cells.size=k) (h:a6 f k e w g v L) (ac:bW w k x 1 (f a)) (h1:∀u∈f a,u.oneCell'=true)
  (Y:(L.length+1)*b<=140737488355328) (af:L.length+1<=9223372036854775807)
  (ah:∀I J w',a6 f k e w' J I (L++[a])->(∀r,leadsTo I r->leadsTo v r\/w.heap.size<=r)->ag (λr=>leadsTo v r) w w'->K I w'):aA P (l9 #[t,t] ai #[v,x]) w K:=by
 have aj:(f a).length=k:=by have:=ac.1;omega
 have aa:∀I J w',bU w' J e k I (L.length+1) (L.flatMap f++f a)->a6 f k e w' J I (L++[a]):=λI J w' hm=>⟨by simpa using hm,λb Y=>by
  rcases n9.1 Y with h'|h'
  .exact h.2 b h'
  .rw[j4.1 h'];exact aj⟩
 rcases h.1.2 with⟨U,ak⟩|⟨cap,cs,U,al,_⟩
 .have hm:bU w w.heap.size e k v L.length (L.flatMap f):=⟨h.1.1,.inl ⟨U,ak⟩⟩;subst U;refine me X X hi ae hm ac h1 (by simpa using Y) (by simpa[maxLen] using af) λI J w' ab V ad=>ah I J w' (aa _ _ _ V) (λr W=>.inr ?_) (ad.mono λr W h=>Ω);have:=((aa _ _ _ V).leads W).1;omega
 .refine me X X hi ae h.1 ac h1 (by simpa using Y) (by simpa[maxLen] using af) λI J w' ab V ad=>ah I J w' (aa _ _ _ V) (λr W=>?_) (ad.mono λr W h=>⟨_,_,_,U,h.symm⟩);have:=((aa _ _ _ V).leads W).1;rcases ab with ab|ab
  .exact .inl ⟨_,_,_,U,by show g=r;omega⟩
  .exact .inr Ω
theorem Hx {J:r9} {b:Nat} {x:x1} {a:α} {K:x1->x2->Prop} (U:P.underlying t=σ (.slice e)) (hi:aO P e k b z) (V:z.cells.size=k) (h:a6 f k e w g v L) (W:bW w k x 1 (f a)) (h1:∀a,∀u∈f a,u.oneCell'=true)
  (X:(L.length+1)*b<=140737488355328) (Y:L.length+1<=9223372036854775807)
  (aa:∀I ab w',a6 f k e w' ab I (L++[a])->(∀r,leadsTo I r->leadsTo v r\/w.heap.size<=r)->ag (λr=>leadsTo v r) w w'->K I w'):aA P (l9 #[t,t] J #[v,x]) w K:=gh U hi V h W (h1 a) X Y aa
theorem fQ {b:Nat} {a:α} {x:x1} {K:x1->x2->Prop} (V:P.underlying t=σ (.slice e)) (hi:aO P e k b z) (ab:k<=100000) (J:x.cells=(f a).toArray) (U:(f a).length=k)
  (W:∀v g w',g=w.heap.size->Ext w w'->a6 f k e w' g v [a]->K v w'):aA P (Z7 t 1 #[(0,x)]) w K:=
 iw V hi Ω (cs:=x.cells) (xH Ξ (by rw[J];simpa using U)) λg w' X Y I=>by
  have I:af w' g e (f a):=by rw[J] at I;simpa using I
  exact W _ g w' X Y ⟨by simpa using bU.full (k:=k) (n:=1) I Ω (by simp[maxLen]),λc aa=>by rw[j4.1 aa];exact U⟩
end
end Go.Vc
namespace Go.Proofs.YtgbkinibgjmodaaGreatDoor
open Go Go.Vc Go.RowKit Go.Proofs Go.Proofs.Tryz
set_option maxRecDepth 100000
theorem tW {α:Type}:∀ {l:List α} {j:Nat} {x:α},l[j]? =σ x->(x::l.eraseIdx j).Perm l
 |[],j,x,h=>by simp at h
 |a::l,0,x,h=>by simp at h;subst h;exact List.Perm.refl _
 |a::l,j+1,x,h=>by
  simp at h;rw[List.eraseIdx_cons_succ];exact (List.Perm.swap a x _).trans ((tW h).cons a)
theorem zr {α:Type} {l:List α} (h:j<l.length):(l.eraseIdx j).length+1=l.length:=by
 rw[List.length_eraseIdx,if_pos h];omega
def nS (w:x2) (I:Nat):Nat:=match w.heap[I]? with
 |some (.mapIter (σ m) _ seen _)=>(match w.heap[m]? with
  |some (.map J _)=>(leftOf J seen).size
  |_=>0)
 |_=>0
theorem rr {d left:List (x1×x1)} {J:Option (x1×x1)} (h:gB w I m d left J):nS w I=left.length:=by
 obtain⟨V,W,seen,X,h1,_,_,U,_,rfl,_⟩:=h;unfold nS;rw[U];simp only;rw[h1];simp
theorem Hy {w0:x2} {d d0 left:List (x1×x1)} {J:Option (x1×x1)} (h:gB w I m d left J) (hm:cS w0 m d0) (h1:Ext w0 w) (V:Ext w0 w') (hi:eE w w'):gB w' I m d left J:=by
 obtain⟨W,c,s,X,Y,aa,ab,ac,ad⟩:=h;obtain⟨ae,af,f1,_⟩:=hm;have g1:=h1.a7 m _ f1 rfl;have U:=V.a7 m _ f1 rfl;rw[Y] at g1;rw[<-g1] at U;exact⟨W,c,s,X,U,aa,ab,hi I _ ac rfl,ad⟩
abbrev mC (w:x2) (g:Nat) (v:x1) (L:List (Λ)):Prop:=a6 (ints .i8) 6 cp w g v L
theorem zs {k:o6}:∀u∈ints k l,u.oneCell'=true:=λu hu=>by
 obtain⟨x,_,rfl⟩:=Z1.1 hu;rfl
theorem keysIter {ba:Nat} {d:List (x1×x1)} {KS:List (Λ)} {w0:x2} (ax:af w0 ba hA [.map (σ m)]) (hm:cS w0 m d) (ay:d.map (·.1)=KS.map dG) (az:∀ks∈KS,ks.length=6):
  m9 x3 true kt [Γ ba] ([]:List (Λ)) (λh=>h.Perm KS) (λh vs h' _=>∃ks∈KS,h.length<KS.length/\vs=[dG ks]/\h'=h++[ks]) (λw=>Ext w0 w):=by
 refine⟨kt.enters,λl aB bd w W _ aC X aD=>?_⟩;refine oL func299 ?_;rw[ad Ψ ((ax.ext X).Qz rfl)];refine aA.dv (zb hA.u (hm.ext X) λah U aE Y be aF aG=>?_);refine⟨λV=>∃h I left ai,aB h V/\Ext w0 V/\w.heap.size<=V.heap.size/\gB V ah m d left ai/\left.map (·.1)=I.map dG/\(h++I).Perm KS,λV=>nS V ah,
  ⟨[],KS,d,ν,W _ _ _ Y aG.b aD,X.trans Y,Y.size,aF,ay,List.Perm.refl _⟩,?_⟩
 rintro V ⟨h,I,left,ai,aj,aH,bg,ak,aa,J⟩;have aI:left.length=I.length:=by have:=congrArg R4 aa;simpa using this
 refine zd ak (λh=>by cases h) (λaJ=>?_) (λj p aL al am aM an=>?_)
 .rw[aK (v:=.bool false) rfl,aS];subst aJ;have:I=[]:=Z5 (by rw[<-aI];rfl);subst this;rw[X6] at J;exact .inl ⟨h,J,aj⟩
 .rw[aK (v:=.bool true) rfl,bQ];refine ze an ?_;obtain⟨ks,ab,aN⟩:∃ks,I[j]? =σ ks/\p.1=dG ks:=by
   have h1:(left.map (·.1))[j]? =σ p.1:=by rw[x8,al];rfl
   rw[aa,x8] at h1;obtain⟨ks,ao,aO⟩:=X0.1 h1;exact⟨ks,ao,aO.symm⟩
  have ap:ks∈KS:=J.mem_iff.1 (n9.2 (.inr (x5 ab)));have aq:=az ks ap;rw[aK (v:=p.1) rfl,aN];refine aA.dv (bp cp.i λaP bh bi aQ aR aT=>?_);refine aA.dv (pe aq rfl aR λac aU bj aV aW=>?_);rw[mz aq aV.range];have ae:Ext aL ac:=aQ.then aU (λr bk he=>by have he:r=aP:=he;omega);have au:=aT.trans aW;have av:Ext w0 ac:=(aH.trans am).trans ae;have aX:=W _ _ _ am (by rw[<-aE];exact aM) aj;have aY:=W _ _ _ ae au.b aX;have aZ:=an.ext ae au.k0;have a1:h.length<KS.length:=by
   have h1:=J.length_eq;have ao:=(x4.1 ab).1;rw[u9] at h1;omega
  refine⟨rfl,(aC h (h++[ks]) _ ac av ⟨ks,ap,a1,rfl,rfl⟩ aY).mono ?_⟩;rintro _ a2 (⟨rfl,aw,a6,a7⟩|⟨rfl,a8⟩)
  .simp only[bf,Y1,aS];have ag:=Hy aZ hm av aw (a7 rfl).k0;have bb:w.heap.size<=a2.heap.size:=by
    obtain⟨_,_,_,_,_,_,_,bc,_⟩:=ag;have:=(j6.1 bc).1;omega
   refine⟨⟨h++[ks],I.eraseIdx j,left.eraseIdx j,σ p,a6,aw,bb,ag,?_,?_⟩,?_⟩
   .rw[<-ly,aa,ly]
   .refine List.Perm.trans ?_ J;rw[X1];exact List.Perm.append_left h (tW ab)
   .rw[rr ag,rr ak];have:=zr (x4.1 al).1;omega
  .simp only[bf,X5,bQ];exact .inr ⟨h,a8⟩
theorem Hz:ak x3 E4 [.map (σ m)] w λr w'=>Ext w w'/\ ∃g,r= .func (.func kt) #[] #[Γ g]/\w.heap.size<=g/\af w' g hA [.map (σ m)]:=by
 refine aB func267 ?_;refine bN λg U V I J=>?_;rw[kx];exact⟨I,g,rfl,Ω,J⟩
theorem HA {ba:Nat} {d:List (x1×x1)} {KS:List (Λ)} (aD:af w ba hA [.map (σ m)]) (hm:cS w m d) (aE:d.map (·.1)=KS.map dG) (am:∀ks∈KS,ks.length=6) (a7:KS.length<=1000000):
  ak x3 Fp [.slice ν 0 0,.func (.func kt) #[] #[Γ ba]] w λv w'=>Ext w w'/\ ∃g L,(∀r,leadsTo v r->w.heap.size<=r)/\L.Perm KS/\mC w' g v L:=by
 refine lk func310 ?_;refine bN λgs U a8 an Y=>?_;have Y:af U gs h6 [.slice ν 0 0]:=Y;have bb:=Y.lt;refine na.old ⟨List (Λ),true,_,_,_,_,_,_,λh w'=>ag (λr=>w.heap.size<=r) w w'/\ ∃v g,af w' gs h6 [v]/\(∀r,leadsTo v r->w.heap.size<=r/\r≠gs)/\mC w' g v h,λ_ _ _=>False,rfl,keysIter aD hm aE am,?_,λ_ _ J h=>h.trans J,
  λ_ _ _ J h=>⟨h.1.trans (J.aa _),by obtain⟨v,g,h1,aF,aG⟩:=h.2;exact⟨v,g,h1.ext J,aF,aG.ext J⟩⟩,λ_ _ _ _ _ h=>h,an,⟨an.aa _,_,0,Y,λr h=>(eJ h).elim,a6.nil _ _ _ _ _⟩,?_,?_,λ_ _ h=>h.elim,λ_ _ _ h=>h.elim⟩
 .rintro h _ h' w' ⟨ks,_,_,rfl,_⟩;rfl
 .rintro a h h' V aH ⟨ks,aI,bc,aJ,rfl⟩ ⟨ao,v,g,ae,W,ah⟩;cases aJ;have ai:=am ks aI;have bd:h.length<=1000000:=Ω
  refine aA.dv (bp cp.i λaK be bf aL ap aM=>?_);refine aA.dv (pe ai rfl ap λaN aO bg aP aQ=>?_);intro bi aq _ aR;have bj:=ap.lt;have aS:Ext V aN:=aL.then aO (λr I he=>by have he:r=aK:=he;omega);have X:=aS.trans aq;rw[ad Ψ ((ae.ext X).Qz rfl),mz ai (aP.ext aq).range];refine aA.dv (fQ (f:=ints .i8) (a:=ks) h6.u cp.i Ω (by simp[dG,x1.cells]) (by simp[ai]) λa aW bk bl ab aT aU=>?_);have au:=aT.sl;rw[V5,List.flatMap_nil,X6] at au;refine aA.dv (Hx h6.u cp.i rfl ((ah.ext X).ext ab) au (λa=>zs) Ω Ω λav aV aw aj aX ac aY=>?_);have bm:=ao.size;have bn:=X.size;have bo:=ab.size;have bq:=ae.lt;have ax:∀r,leadsTo av r->w.heap.size<=r/\r≠gs:=λr I=>by
   rcases aX r I with h|h
   .exact W r h
   .omega
  have al:af aw gs h6 [v]:=((ae.ext X).ext ab).aa ac (λh=>(W gs h).2 rfl);refine aA.dv (bh h6.i (by obtain⟨_,_,_,_,_,rfl,_⟩:=aj.sl;rfl) (by obtain⟨_,_,_,_,_,rfl,_⟩:=aj.sl;rfl) al Ξ λay az br aZ a1=>?_);have aB:ag (λr=>w.heap.size<=r) V ay:=(((X.trans ab).aa _).trans (ac.mono λr _ h=>(W r h).1)).trans (az.mono λr _ h=>by show w.heap.size<=r;omega);refine⟨aH.then aB (λr I h=>by have h:w.heap.size<=r:=h;omega),⟨ao.trans aB,av,aV,aZ,ax,aj.aa az λr I h=>(ax r I).2 h⟩,λ_=>?_⟩;exact ((((aM.k0.trans aQ.k0).trans aR).trans aU.k0).trans aY.k0).trans a1.k0
 .rintro h aw a2 ⟨ac,v,g,al,W,ah⟩;rw[ad Ψ (al.Qz rfl)];intro ay aC _;exact⟨(ac.ext λr I h=>by have:w.heap.size<=r:=h;omega).trans aC,g,h,λr I=>(W r I).1,a2,ah.ext aC⟩
theorem HB {ba:Nat} {d:List (x1×x1)} {KS:List (Λ)} (I:af w ba hA [.map (σ m)]) (hm:cS w m d) (J:d.map (·.1)=KS.map dG) (U:∀ks∈KS,ks.length=6) (V:KS.length<=1000000):
  ak x3 Fh [.func (.func kt) #[] #[Γ ba]] w λv w'=>Ext w w'/\ ∃g L,(∀r,leadsTo v r->w.heap.size<=r)/\L.Perm KS/\mC w' g v L:=by
 refine aB func297 ?_;exact (HA I hm J U V).mono λ_ _ _ h=>h
def fC:Λ->Int
 |[]=>0
 |x::l=>x*32 ^ l.length+fC l
theorem tX (n:Nat):(0:Int)<32 ^ n:=Int.pow_pos Ω
theorem rt:∀ (l:Λ),(∀x∈l,0<=x/\x<32)->0<=fC l/\fC l<32 ^ l.length
 |[],_=>by simp[fC]
 |x::l,h=>by
  have U:=rt l λy I=>h y (.tail _ I);have J:=h x (.head _);have V:=tX l.length;simp only[fC,j5];have e:(32:Int) ^ (l.length+1)=32*32 ^ l.length:=by rw[Int.pow_succ,Int.mul_comm]
  have h1:x*32 ^ l.length<=31*32 ^ l.length:=Int.mul_le_mul_of_nonneg_right Ω Ω;have W:0<=x*32 ^ l.length:=Int.mul_nonneg J.1 Ω;rw[e];omega
def hn:Λ->Λ->Int
 |x::a,y::b=>if x<y then-1 else if y<x then 1 else hn a b
 |_,_=>0
theorem zt:∀ (a b:Λ),a.length=b.length->(∀x∈a,0<=x/\x<32)->(∀x∈b,0<=x/\x<32)->(hn a b<0↔fC a<fC b)/\(fC a=fC b->a=b)
 |[],[],_,_,_=>by simp[hn]
 |[],_::_,h,_,_=>by simp at h
 |_::_,[],h,_,_=>by simp at h
 |x::a,y::b,h,Y,aa=>by
  have U:a.length=b.length:=by simpa using h
  have V:∀x∈a,0<=x/\x<32:=λz I=>Y z (.tail _ I);have W:∀x∈b,0<=x/\x<32:=λz I=>aa z (.tail _ I);have X:=zt a b U V W;have ab:=rt a V;have ad:=rt b W;have ae:=tX b.length;simp only[hn,fC];rw[U] at ab ⊢;have step:∀u v:Int,u<v->u*32 ^ b.length+32 ^ b.length<=v*32 ^ b.length:=λu v af=>by
   have:=Int.mul_le_mul_of_nonneg_right (show u+1<=v by omega) (show (0:Int)<=32 ^ b.length by omega);rw[Int.add_mul,Int.one_mul] at this;exact this
  by_cases h1:x<y
  .rw[if_pos h1];have:=step x y h1;exact⟨⟨λ_=>Ω,λ_=>Ω⟩,λh=>Ω⟩
  .rw[if_neg h1];by_cases J:y<x
   .rw[if_pos J];have:=step y x J;exact⟨⟨λh=>Ω,λh=>Ω⟩,λh=>Ω⟩
   .rw[if_neg J];have ac:x=y:=Ω
    subst ac;exact⟨X.1.trans ⟨λh=>Ω,λh=>Ω⟩,λh=>by rw[X.2 Ω]⟩
theorem tY:∀ {a b:Λ} {i:Nat},(∀ (j:Nat) (x y:Int),j<i->a[j]? =σ x->b[j]? =σ y->x=y)->i<=a.length->i<=b.length->hn a b=hn (a.drop i) (b.drop i)
 |_,_,0,_,_,_=>Ξ
 |[],_,i+1,_,h,_=>by simp at h
 |_::_,[],i+1,_,_,h=>by simp at h
 |x::a,y::b,i+1,he,h1,I=>by
  have J:=he 0 x y Ω rfl rfl;subst J;simp only[hn,Int.lt_irrefl,if_false,List.drop_succ_cons];exact tY (λj u v V hu U=>he (j+1) u v Ω hu U) (by simpa using h1) (by simpa using I)
theorem zu {x:Int}:ak x3 Fo [.int .i8 x] w λv w'=>v= .bool false/\Ext w w':=by
 refine aB func309 ?_;simp only[bG];exact⟨Ξ,Ext.refl _⟩
theorem HC {x:Int}:ak x3 Fg [.int .i8 x,.int .i8 y] w λv w'=>v=Δ (if x<y then-1 else if y<x then 1 else 0)/\Ext w w':=by
 refine aB func296 ?_;refine zu.mono ?_;rintro _ U _ ⟨rfl,I⟩;refine zu.mono ?_;rintro _ V _ ⟨rfl,J⟩;simp only[aS,aq,bR,ae];exact⟨λh=>⟨by rw[if_pos h],I.trans J⟩,λh=>⟨λW=>⟨by rw[if_neg h,if_pos W],I.trans J⟩,λW=>⟨by rw[if_neg h,if_neg W],I.trans J⟩⟩⟩
theorem HD {df bv:x1} {b:Λ} (X:aJ .i8 w df a) (aa:aJ .i8 w bv b) (ax:a.length=b.length):ak x3 E2 [df,bv] w λv w'=>v=Δ (hn a b)/\Ext w w':=by
 refine aB func265 ?_;have ay:=X.le;rw[aT jH.u X];refine bE.range a.length (λi _ U=>Ext w U/\ ∀ (j:Nat) (x y:Int),j<i->a[j]? =σ x->b[j]? =σ y->x=y) Ω ⟨Ext.refl _,λj x y aj=>Ω⟩ ?_ ?_
 .rintro i _ U al hi ⟨I,Y⟩ am;simp only[aq,ae];refine⟨λ_=>?_,λh=>Ω⟩;obtain⟨x,ab⟩:∃x,a[i]? =σ x:=⟨_,y0 hi⟩;obtain⟨y,ac⟩:∃y,b[i]? =σ y:=⟨_,y0 Ω⟩;rw[bd jH.u fh.i Ψ (X.ext I) ab,aT jH.u (aa.ext I)];simp only[ce,ae];refine⟨λh=>Ω,λ_=>?_⟩;rw[bd jH.u fh.i Ψ (aa.ext I) ac];refine HC.mono ?_;rintro _ V _ ⟨rfl,ag⟩;have J:hn a b=hn (a.drop i) (b.drop i):=tY Y Ω Ω;have an:a.drop i=x::a.drop (i+1):=by rw[V0 hi,(x4.1 ab).2]
  have ao:b.drop i=y::b.drop (i+1):=by rw[V0 Ω,(x4.1 ac).2]
  rw[an,ao] at J;simp only[hn] at J;simp only[bG,ae,aN];refine⟨λah=>⟨?_,I.trans ag⟩,λap=>am _ _ ⟨I.trans ag,λj au av aj ad af=>?_⟩⟩
  .rw[J];by_cases h1:x<y
   .rw[if_pos h1,if_pos h1]
   .by_cases W:y<x
    .rw[if_neg h1,if_pos W,if_neg h1,if_pos W]
    .rw[if_neg h1,if_neg W] at ah;exact absurd rfl ah
  .by_cases aw:j=i
   .subst aw;rw[ab] at ad;rw[ac] at af;cases ad;cases af;have ai:=X4.1 ap;by_cases h1:x<y
    .rw[if_pos h1] at ai;omega
    .by_cases W:y<x
     .rw[if_neg h1,if_pos W] at ai;omega
     .omega
   .exact Y j au av Ω ad af
 .rintro _ U al ⟨I,Y⟩;simp only[aq,show decide ((a.length:Int)<(a.length:Int))=false from decide_eq_false Ω,aS];rw[aT jH.u (X.ext I),aT jH.u (aa.ext I)];simp only[aq,ae];refine⟨λh=>Ω,λ_=>⟨?_,I⟩⟩;have J:hn a b=hn (a.drop a.length) (b.drop a.length):=tY Y Ω Ω;rw[J,List.drop_length];cases b.drop a.length<;>rfl
theorem HE {b:Λ} (X:jR a) (Y:jR b):ak x3 xm [dG a,dG b] w λv w'=>Ext w w'/\v=Δ (hn a b):=by
 have ah:∀ {c:Λ},jR c->(ints .i8 c).length=6:=λh=>by simp[h.1]
 refine aB func264 ?_;refine bN λg1 U ai ad I=>?_;refine bN λaj V al aa J=>?_;rw[zf] at I J;intro ab W _ _;have I:=(I.ext aa).ext W;have J:=J.ext W;rw[qQ cp.u fh.i (l:=0) (h:=6) (m:=6) hB hC ez Ω Ω Ω,qQ cp.u fh.i (l:=0) (h:=6) (m:=6) hB hC ez Ω Ω Ω];rw[if_neg Ω,if_neg Ω];have ls:∀ {g:Nat} {c:Λ},jR c->af ab g cp (ints .i8 c)->aJ .i8 ab (.slice (σ ⟨g,0+0*1,ν⟩) (6-0) (6-0)) c:=λ{g c} ac ae=>by
  unfold aJ;refine⟨Ξ,g,0,_,6,by rw[ac.1],by rw[ac.1];omega,by simp[maxLen],λ_=>rfl,ae.range⟩
 refine (HD (ls X I) (ls Y J) (by rw[X.1,Y.1])).mono ?_;rintro _ am _ ⟨rfl,ag⟩;exact⟨((ad.trans aa).trans W).trans ag,rfl⟩
end Go.Proofs.YtgbkinibgjmodaaGreatDoor
namespace Go.Vc
open Go Go.RowKit Go.Shelf Go.Proofs Go.Sort
theorem grown_of (W:Ext w w') (J:cN w w'):∃q os,w'=grow (w.drewN q) os:=by
 refine⟨w'.drawn-w.drawn,w'.heap.extract w.heap.size w'.heap.size,?_⟩;have U:∀k,k<w.heap.size->w'.heap[k]? =w.heap[k]?:=λk U=>by
  have V:w.heap[k]? =σ w.heap[k]:=Array.getElem?_eq_getElem U;rw[V];cases I:fK w.heap[k] with
  |true=>exact W.a7 k _ V I
  |false=>exact J.a7 k _ V I
 have aI:w'.heap=w.heap++w'.heap.extract w.heap.size w'.heap.size:=by
  apply Array.ext_getElem?;intro k;rw[Array.getElem?_append];by_cases h:k<w.heap.size
  .rw[if_pos h,U k h]
  .rw[if_neg h,Array.getElem?_extract];have:=W.size;by_cases X:k<w'.heap.size
   .rw[if_pos Ω];congr 1;omega
   .rw[if_neg Ω,Array.getElem?_eq_none Ω]
 have h1:=J.os;have X:=J.tape.1;have Y:=J.output;have aa:w.drawn+(w'.drawn-w.drawn)=w'.drawn:=by have:=J.tape.2;omega
 cases w';simp only[grow,x2.drewN] at*;subst h1 X Y;rw[<-aI,aa]
section
variable {α:Type} [Inhabited α]
theorem zv (enc:α->List x1) (k:Nat) (I:∀x,(enc x).length=k) (d:Array α):(flatK enc k d).toList=d.toList.flatMap enc:=by
 apply X8;intro t;by_cases h:t<d.size*k
 .have U:0<k:=by
   rcases Nat.eq_zero_or_pos k with J|J
   .rw[J] at h;simp at h
   .exact J
  have V:t / k<d.size:=(Nat.div_lt_iff_lt_mul U).2 h;have W:=Nat.mod_lt t U;have X:(flatK enc k d).toList[t]? =σ ((enc d[t / k]!)[t % k]!):=by
   rw[S4,Array.getElem?_eq_getElem (by simpa using h)];have:=get_flatK enc k d t h;rw[getElem!_pos _ t (by simpa using h)] at this;rw[this]
  have Y:d.toList[t / k]? =σ d[t / k]!:=by
   rw[S4,Array.getElem?_eq_getElem V,getElem!_pos d _ V]
  have aa:(enc d[t / k]!)[t % k]? =σ ((enc d[t / k]!)[t % k]!):=by
   generalize d[t / k]! =z;rw[y0 (by rw[I];exact W),getElem!_pos (enc z) _ (by rw[I];exact W)]
  have:=mA (f:=enc) (k:=k) (λa _=>I a) Y aa;rw[X,<-this];congr 1;rw[Nat.mul_comm];exact Nat.div_add_mod t k
 .rw[Y4 (by simpa using h),Y4];rw[fB (k:=k) λa _=>I a];simpa using h
theorem zw (enc:α->List x1) (k:Nat) (W:∀x,(enc x).length=k) {g:Nat} {d:Array α} {os:Array Obj} (U:af w g e cs) (ab:d.size*k<=cs.length):
  af (sortWorldK enc k w g 0 m d os) g e (d.toList.flatMap enc++cs.drop (d.size*k))/\ ∀r,r<w.heap.size->r≠g->(sortWorldK enc k w g 0 m d os).heap[r]? =w.heap[r]?:=by
 have Y:=U.lt;have X:∀r,r<w.heap.size->(sortWorldK enc k w g 0 m d os).heap[r]? =(w.heap.modify g (onCells (putCells id 0 (flatK enc k d))))[r]?:=λr V=>by
  show ((w.heap.modify g (onCells (putCells id 0 (flatK enc k d))))++os)[r]? =_;rw[Array.getElem?_append_left (by simpa using V)]
 refine⟨?_,λr V aa=>?_⟩
 .unfold af at U ⊢;rw[X g Y,Array.getElem?_modify,if_pos rfl,U];show σ (Obj.cells (putCells id 0 (flatK enc k d) cs.toArray) e (0,0))=_;refine congrArg σ (congrArg (λc=>Obj.cells c e (0,0)) ?_);apply Array.ext';apply X8;intro t;show _=(d.toList.flatMap enc++cs.drop (d.size*k))[t]?;rw[List.getElem?_append,fB (k:=k) λa _=>W a,S4];unfold putCells;rw[Array.getElem?_mapIdx,List.getElem?_toArray];have I:d.toList.length=d.size:=rfl;by_cases J:t<d.size*k
  .rw[if_pos (by rw[I];exact J),y0 Ω,<-zv enc k W,S4,Array.getElem?_eq_getElem (by simpa using J)];simp only[Y0,id];rw[if_pos (by simpa using J),Nat.sub_zero,getElem!_pos _ t (by simpa using J)]
  .rw[if_neg (by rw[I];exact J),List.getElem?_drop,I,show d.size*k+(t-d.size*k)=t by omega];cases ac:cs[t]? with
   |none=>rfl
   |some x=>
    simp only[Y0];rw[if_neg Θ]
 .rw[X r V,Array.getElem?_modify,if_neg (T9 aa)]
end
theorem zx {P:W7} {X:Ren} (an:SlLaysF0.n6 P X) {α:Type} {f:α->List x1} {k:Nat} {G:α->Prop} {num:α->Int} {cf:α->α->Int} {Y:FuncId} {cap:Array x1}
  (aQ:∀w,(isAgg (X.t 24)).run P w= .ok true w) (aR:∀w,(Go.sizeOf (X.t 24)).run P w= .ok k w) (h1:∀a,G a-> ∀u∈f a,u.oneCell'=true) (ao:∀a,G a->(f a).length=k)
  (aS:∀a b,G a->G b->(cf a b<0↔num a<num b)) (aA:Enters P Y) {w:x2} {g:Nat} {v:x1} {L:List α} (h:a6 f k e w g v L) (ab:∀a∈L,G a) (aB:L.length<65536)
  (aT:∀ap a b,ag (λr=>r=g) w ap->G a->G b->ak P Y ([.agg (f a).toArray,.agg (f b).toArray]++cap.toList) ap λu aU=>Ext ap aU/\u=Δ (cf a b)):
  ak P (X.f 6) [v,.func (.func Y) #[] cap] w λ_ w'=>ag (λr=>leadsTo v r) w w'/\ ∃M,M.Perm L/\(∀ (p q:Nat) (x y:α),p<q->M[p]? =σ x->M[q]? =σ y->num x<=num y)/\a6 f k e w' g v M:=by
 have aC:Enters P (X.f 6):=λargs w=>an.f6.enters rfl args w;obtain⟨⟨bj,aV⟩,bk⟩:=id h;have aD:∀p c,v= .slice p 0 c->L=[]->ak P (X.f 6) [v,.func (.func Y) #[] cap] w λ_ w'=>ag (λr=>leadsTo v r) w w'/\ ∃M,M.Perm L/\(∀ (p q:Nat) (x y:α),p<q->M[p]? =σ x->M[q]? =σ y->num x<=num y)/\a6 f k e w' g v M:=λp c ac aB=>by
  refine .code aC ?_;rw[ac];refine (AnyF.slices_SortFunc_none an p c _ w).mono ?_;rintro bl w' ⟨rfl,rfl⟩;refine⟨_,rfl,cN.refl _,ag.refl _ _,L,.refl _,λp q x y _ V=>by rw[aB] at V;simp at V,by rw[<-ac];exact h⟩
 rcases aV with⟨rfl,aW⟩|⟨c,cs,rfl,W,aE,hm,aq,aX⟩
 .exact aD _ _ rfl (Z5 aW)
 cases au:L with
 |nil=>subst au;exact aD _ _ rfl rfl
 |cons a0 bm=>
 rw[<-au];let β:={a:α // G a};have:Inhabited β:=⟨⟨a0,ab a0 (by rw[au];exact .head _)⟩⟩;let enc:β->List x1:=λx=>f x.1;let d:Array β:=(L.attach.map λx=>(⟨x.1,ab x.1 x.2⟩:β)).toArray;have aF:d.toList.map Subtype.val=L:=by
  show (L.attach.map λx=>(⟨x.1,ab x.1 x.2⟩:β)).map Subtype.val=L;rw[List.map_map];exact List.attach_map_subtype_val L
 have ah:d.size=L.length:=by simp[d]
 have aa:∀x:β,(enc x).length=k:=λx=>ao x.1 x.2;have aY:d.toList.flatMap enc=L.flatMap f:=by
  have ad:=congrArg (λl=>l.flatMap f) aF;rw[<-ad];exact (List.flatMap_map Subtype.val f d.toList).symm
 have ai:d.size*k<=cs.length:=by rw[ah,aq];exact Y5 k aE
 have aZ:HoldsK enc k w g 0 d:=by
  intro j aj;rw[size_flatK] at aj;have aG:j<cs.length:=Ω
  have av:(flatK enc k d)[j]! =cs[j]:=by
   have ad:(flatK enc k d).toList[j]? =σ cs[j]:=by
    rw[zv enc k aa,aY,<-aX,Y2 (by rw[<-ah];exact aj),y0 aG]
   rw[S4] at ad;rw[getElem!_pos _ j (by simpa using aj)];rw[Array.getElem?_eq_getElem (by simpa using aj)] at ad;exact Z8 ad
  refine⟨?_,?_⟩
  .show w.cell? ⟨g,0+j,ν⟩=σ ((flatK enc k d)[j]!);rw[av];exact W.cell (o:=0+j) (by rw[V3];exact y0 aG)
  .unfold x2.frozen?;unfold af at W;rw[W];simp
 have al:∀x y:β,ltOf (λx y:β=>cf x.1 y.1) x y=decide (num x.1<num y.1):=λx y=>by
  unfold ltOf;exact decide_eq_decide.2 (aS x.1 y.1 x.2 y.2)
 have a1:SWO (ltOf λx y:β=>cf x.1 y.1):=
  ⟨λx=>by rw[al];simp,λx y z p q=>by rw[al] at*;simp at*;omega,λx y z p q=>by rw[al] at*;simp at*;omega⟩
 have aH:∀m (d2:Array β) os,d2.size=d.size->ag (λr=>r=g) w (sortWorldK enc k w g 0 m d2 os)/\cN w (sortWorldK enc k w g 0 m d2 os):=λm d2 os I=>by
  obtain⟨bn,aI⟩:=zw enc k aa (m:=m) (os:=os) W (d:=d2) (by rw[I];exact ai);have aJ:w.heap.size<=(sortWorldK enc k w g 0 m d2 os).heap.size:=by
   show w.heap.size<=((w.heap.modify g _)++os).size;simp
  refine⟨⟨aJ,λr o U _ aw=>?_⟩,rfl,⟨rfl,Nat.le_add_right _ _⟩,rfl,aJ,λr o U I=>?_⟩
  .rw[aI r (j6.1 U).1 aw];exact U
  .have aw:r≠g:=λhe=>by subst he;unfold af at W;rw[W] at U;cases U;cases I
   rw[aI r (j6.1 U).1 aw];exact U
 have a2:CmpLays P Y cap enc k (λx y:β=>cf x.1 y.1) g 0 d.size w:=λm os a7 I x y=>by
  have V:=(aT _ x.1 y.1 (aH m a7 os I).1 x.2 y.2).calls aA;have ae:([x1.agg (f x.1).toArray,.agg (f y.1).toArray]++cap.toList).toArray= #[.agg (enc x).toArray,.agg (enc y).toArray]++cap:=by
   apply Array.ext';simp[enc]
  rw[ae] at V;refine V.mono ?_;rintro _ w' ⟨_,rfl,a8,ba,rfl⟩;exact⟨rfl,grown_of ba a8⟩
 have aK:=AnyQ.slices_SortFunc an k aQ aR enc aa (λx=>h1 x.1 x.2) (λx y:β=>cf x.1 y.1) a1 Y cap g 0 c d w (λargs w=>aA args w) a2 aZ W.lt (by rw[ah];omega);rw[ah] at aK;refine .code aC (aK.mono ?_);rintro _ w' ⟨rfl,J,n,os,⟨bb,_,ac⟩,bc,rfl⟩;have ax:J.size=d.size:=bb;obtain⟨bd,be⟩:=aH n J os ax;obtain⟨bf,_⟩:=zw enc k aa (m:=n) (os:=os) W (d:=J) (by rw[ax];exact ai);have am:(J.toList.map Subtype.val).Perm L:=by
  have av:(J.extract 0 L.length).toList=J.toList:=by rw[show L.length=J.size by omega,Array.extract_size]
  have bg:(d.extract 0 L.length).toList=d.toList:=by rw[show L.length=d.size by omega,Array.extract_size]
  rw[av,bg] at ac;rw[<-aF];exact ac.map _
 have aL:=am.length_eq;refine⟨_,rfl,be,bd.mono λr _ U=>⟨_,_,_,rfl,U.symm⟩,J.toList.map Subtype.val,am,λp q x y bh V aM=>?_,⟨?_,.inr ⟨c,_,by rw[aL],bf,by rw[aL];exact aE,hm,?_,?_⟩⟩,λa ae=>ao a (ab a (am.mem_iff.1 ae))⟩
 .rw[x8,X0] at V aM;obtain⟨bo,aN,rfl⟩:=V;obtain⟨bp,aO,rfl⟩:=aM;rw[S4] at aN aO;have aP:=(j6.1 aN);have ay:=(j6.1 aO);have:=bc p q (X3 _) bh (by have:=ay.1;omega);rw[getElem!_pos J p aP.1,getElem!_pos J q ay.1,aP.2,ay.2,al] at this;simpa using this
 .rw[fB (k:=k) λa ae=>ao a (ab a (am.mem_iff.1 ae))]
 .have az:(J.toList.flatMap enc).length=J.size*k:=by rw[fB (k:=k) λa _=>aa a];rfl
  rw[u9,az,R5,ax,aq];rw[aq] at ai;exact Nat.add_sub_cancel' ai
 .have az:(J.toList.flatMap enc).length=J.size*k:=by rw[fB (k:=k) λa _=>aa a];rfl
  have bi:(List.map Subtype.val J.toList).length*k=(J.toList.flatMap enc).length:=by rw[az,u4];rfl
  rw[bi,List.take_left,List.flatMap_map]
end Go.Vc
namespace Go.Proofs
open Go.Shelf
def Tryz.tZ:Go.Shelf.Ren:=⟨λ|6=>298|15=>181|14=>311|28=>237|29=>238|20=>326|21=>327|22=>328|23=>329|24=>330|25=>331|26=>332|27=>333|46=>341|47=>273|48=>274|49=>342|50=>343|57=>346|n=>n,λ|22=>365|24=>347|25=>364|3=>3|39=>278|0=>0|53=>340|55=>39|4=>4|46=>333|45=>332|50=>337|5=>5|9=>9|66=>375|70=>379|76=>400|77=>401|n=>n,λ|n=>n⟩
theorem Tryz.HF:Go.Proofs.SlLaysF0.n6 Tryz.prog Tryz.tZ:={
 mixed:=Ψ,
 f6:=⟨Tryz.f298.name,Φ,Tryz.func298.trans (congrArg σ Ψ)⟩,
 f14:=⟨Tryz.f311.name,Φ,Tryz.func311.trans (congrArg σ Ψ)⟩,
 f15:=Tryz.func181.trans (congrArg σ Ψ),
 f20:=⟨Tryz.f326.name,Φ,Tryz.func326.trans (congrArg σ Ψ)⟩,
 f21:=⟨Tryz.f327.name,Φ,Tryz.func327.trans (congrArg σ Ψ)⟩,
 f22:=⟨Tryz.f328.name,Φ,Tryz.func328.trans (congrArg σ Ψ)⟩,
 f23:=⟨Tryz.f329.name,Φ,Tryz.func329.trans (congrArg σ Ψ)⟩,
 f24:=⟨Tryz.f330.name,Φ,Tryz.func330.trans (congrArg σ Ψ)⟩,
 f25:=⟨Tryz.f331.name,Φ,Tryz.func331.trans (congrArg σ Ψ)⟩,
 f26:=⟨Tryz.f332.name,Φ,Tryz.func332.trans (congrArg σ Ψ)⟩,
 f27:=⟨Tryz.f333.name,Φ,Tryz.func333.trans (congrArg σ Ψ)⟩,
 f28:=Tryz.func237.trans (congrArg σ Ψ),
 f29:=Tryz.func238.trans (congrArg σ Ψ),
 f46:=⟨Tryz.f341.name,Φ,Tryz.func341.trans (congrArg σ Ψ)⟩,
 f47:=Tryz.func273.trans (congrArg σ Ψ),
 f48:=Tryz.func274.trans (congrArg σ Ψ),
 f49:=⟨Tryz.f342.name,Φ,Tryz.func342.trans (congrArg σ Ψ)⟩,
 f50:=⟨Tryz.f343.name,Φ,Tryz.func343.trans (congrArg σ Ψ)⟩,
 f57:=⟨Tryz.f346.name,Φ,Tryz.func346.trans (congrArg σ Ψ)⟩,
 t0:=Tryz.underlying0,
 a0:=Tryz.isAgg0,
 z0:=Tryz.sizeOf0,
 v0:=Tryz.zeroValue0,
 t3:=Tryz.underlying3,
 a3:=Tryz.isAgg3,
 z3:=Tryz.sizeOf3,
 v3:=Tryz.zeroValue3,
 t4:=Tryz.underlying4,
 a4:=Tryz.isAgg4,
 z4:=Tryz.sizeOf4,
 v4:=Tryz.zeroValue4,
 t5:=Tryz.underlying5,
 a5:=Tryz.isAgg5,
 z5:=Tryz.sizeOf5,
 v5:=Tryz.zeroValue5,
 t9:=Tryz.underlying9,
 a9:=Tryz.isAgg9,
 z9:=Tryz.sizeOf9,
 v9:=Tryz.zeroValue9,
 t22:=Tryz.underlying365,
 a22:=Tryz.isAgg365,
 z22:=Tryz.sizeOf365,
 v22:=Tryz.zeroValue365,
 t25:=Tryz.underlying364,
 a25:=Tryz.isAgg364,
 z25:=Tryz.sizeOf364,
 v25:=Tryz.zeroValue364,
 t39:=Tryz.underlying278,
 a39:=Tryz.isAgg278,
 z39:=Tryz.sizeOf278,
 v39:=Tryz.zeroValue278,
 t45:=Tryz.underlying332,
 a45:=Tryz.isAgg332,
 z45:=Tryz.sizeOf332,
 v45:=Tryz.zeroValue332,
 t46:=Tryz.underlying333,
 a46:=Tryz.isAgg333,
 z46:=Tryz.sizeOf333,
 v46:=Tryz.zeroValue333,
 t50:=Tryz.underlying337,
 a50:=Tryz.isAgg337,
 z50:=Tryz.sizeOf337,
 v50:=Tryz.zeroValue337,
 t53:=Tryz.underlying340,
 a53:=Tryz.isAgg340,
 z53:=Tryz.sizeOf340,
 v53:=Tryz.zeroValue340,
 t55:=Tryz.underlying39,
 a55:=Tryz.isAgg39,
 z55:=Tryz.sizeOf39,
 v55:=Tryz.zeroValue39,
 t66:=Tryz.underlying375,
 a66:=Tryz.isAgg375,
 z66:=Tryz.sizeOf375,
 v66:=Tryz.zeroValue375,
 t70:=Tryz.underlying379,
 a70:=Tryz.isAgg379,
 z70:=Tryz.sizeOf379,
 v70:=Tryz.zeroValue379,
 t76:=Tryz.underlying400,
 a76:=Tryz.isAgg400,
 z76:=Tryz.sizeOf400,
 v76:=Tryz.zeroValue400,
 t77:=Tryz.underlying401,
 a77:=Tryz.isAgg401,
 z77:=Tryz.sizeOf401,
 v77:=Tryz.zeroValue401}
def Tryz.ua:Go.Shelf.Ren:=⟨λ|6=>218|15=>181|14=>262|28=>237|29=>238|20=>287|21=>288|22=>289|23=>290|24=>291|25=>292|26=>293|27=>294|46=>306|47=>273|48=>274|49=>307|50=>308|57=>325|n=>n,λ|22=>306|24=>311|25=>318|3=>3|39=>278|0=>0|53=>340|55=>39|4=>4|46=>333|45=>332|50=>337|5=>5|9=>9|66=>375|70=>379|76=>400|77=>401|n=>n,λ|n=>n⟩
theorem Tryz.HG:Go.Proofs.SlLaysF0.n6 Tryz.prog Tryz.ua:={
 mixed:=Ψ,
 f6:=⟨Tryz.f218.name,Φ,Tryz.func218.trans (congrArg σ Ψ)⟩,
 f14:=⟨Tryz.f262.name,Φ,Tryz.func262.trans (congrArg σ Ψ)⟩,
 f15:=Tryz.func181.trans (congrArg σ Ψ),
 f20:=⟨Tryz.f287.name,Φ,Tryz.func287.trans (congrArg σ Ψ)⟩,
 f21:=⟨Tryz.f288.name,Φ,Tryz.func288.trans (congrArg σ Ψ)⟩,
 f22:=⟨Tryz.f289.name,Φ,Tryz.func289.trans (congrArg σ Ψ)⟩,
 f23:=⟨Tryz.f290.name,Φ,Tryz.func290.trans (congrArg σ Ψ)⟩,
 f24:=⟨Tryz.f291.name,Φ,Tryz.func291.trans (congrArg σ Ψ)⟩,
 f25:=⟨Tryz.f292.name,Φ,Tryz.func292.trans (congrArg σ Ψ)⟩,
 f26:=⟨Tryz.f293.name,Φ,Tryz.func293.trans (congrArg σ Ψ)⟩,
 f27:=⟨Tryz.f294.name,Φ,Tryz.func294.trans (congrArg σ Ψ)⟩,
 f28:=Tryz.func237.trans (congrArg σ Ψ),
 f29:=Tryz.func238.trans (congrArg σ Ψ),
 f46:=⟨Tryz.f306.name,Φ,Tryz.func306.trans (congrArg σ Ψ)⟩,
 f47:=Tryz.func273.trans (congrArg σ Ψ),
 f48:=Tryz.func274.trans (congrArg σ Ψ),
 f49:=⟨Tryz.f307.name,Φ,Tryz.func307.trans (congrArg σ Ψ)⟩,
 f50:=⟨Tryz.f308.name,Φ,Tryz.func308.trans (congrArg σ Ψ)⟩,
 f57:=⟨Tryz.f325.name,Φ,Tryz.func325.trans (congrArg σ Ψ)⟩,
 t0:=Tryz.underlying0,
 a0:=Tryz.isAgg0,
 z0:=Tryz.sizeOf0,
 v0:=Tryz.zeroValue0,
 t3:=Tryz.underlying3,
 a3:=Tryz.isAgg3,
 z3:=Tryz.sizeOf3,
 v3:=Tryz.zeroValue3,
 t4:=Tryz.underlying4,
 a4:=Tryz.isAgg4,
 z4:=Tryz.sizeOf4,
 v4:=Tryz.zeroValue4,
 t5:=Tryz.underlying5,
 a5:=Tryz.isAgg5,
 z5:=Tryz.sizeOf5,
 v5:=Tryz.zeroValue5,
 t9:=Tryz.underlying9,
 a9:=Tryz.isAgg9,
 z9:=Tryz.sizeOf9,
 v9:=Tryz.zeroValue9,
 t22:=Tryz.underlying306,
 a22:=Tryz.isAgg306,
 z22:=Tryz.sizeOf306,
 v22:=Tryz.zeroValue306,
 t25:=Tryz.underlying318,
 a25:=Tryz.isAgg318,
 z25:=Tryz.sizeOf318,
 v25:=Tryz.zeroValue318,
 t39:=Tryz.underlying278,
 a39:=Tryz.isAgg278,
 z39:=Tryz.sizeOf278,
 v39:=Tryz.zeroValue278,
 t45:=Tryz.underlying332,
 a45:=Tryz.isAgg332,
 z45:=Tryz.sizeOf332,
 v45:=Tryz.zeroValue332,
 t46:=Tryz.underlying333,
 a46:=Tryz.isAgg333,
 z46:=Tryz.sizeOf333,
 v46:=Tryz.zeroValue333,
 t50:=Tryz.underlying337,
 a50:=Tryz.isAgg337,
 z50:=Tryz.sizeOf337,
 v50:=Tryz.zeroValue337,
 t53:=Tryz.underlying340,
 a53:=Tryz.isAgg340,
 z53:=Tryz.sizeOf340,
 v53:=Tryz.zeroValue340,
 t55:=Tryz.underlying39,
 a55:=Tryz.isAgg39,
 z55:=Tryz.sizeOf39,
 v55:=Tryz.zeroValue39,
 t66:=Tryz.underlying375,
 a66:=Tryz.isAgg375,
 z66:=Tryz.sizeOf375,
 v66:=Tryz.zeroValue375,
 t70:=Tryz.underlying379,
 a70:=Tryz.isAgg379,
 z70:=Tryz.sizeOf379,
 v70:=Tryz.zeroValue379,
 t76:=Tryz.underlying400,
 a76:=Tryz.isAgg400,
 z76:=Tryz.sizeOf400,
 v76:=Tryz.zeroValue400,
 t77:=Tryz.underlying401,
 a77:=Tryz.isAgg401,
 z77:=Tryz.sizeOf401,
 v77:=Tryz.zeroValue401}
theorem Tryz.HH (w:x2):(isAgg (Tryz.tZ.t 24)).run Tryz.prog w= .ok true w:=Tryz.isAgg347 w
theorem Tryz.HI (w:x2):(Go.sizeOf (Tryz.tZ.t 24)).run Tryz.prog w= .ok 6 w:=Tryz.sizeOf347 w
theorem Tryz.HJ:Tryz.prog.funcs[264]? =σ Tryz.f264:=Tryz.func264
theorem Tryz.HK (w:x2):(isAgg (Tryz.ua.t 24)).run Tryz.prog w= .ok true w:=Tryz.isAgg311 w
theorem Tryz.HL (w:x2):(Go.sizeOf (Tryz.ua.t 24)).run Tryz.prog w= .ok 2 w:=Tryz.sizeOf311 w
theorem Tryz.HM:Tryz.prog.funcs[219]? =σ Tryz.f219:=Tryz.func219
end Go.Proofs
namespace Go.Proofs.YtgbkinibgjmodaaGreatDoor
open Go Go.Vc Go.RowKit Go.Proofs Go.Proofs.Tryz
set_option maxRecDepth 100000
def ru {α:Type} (f:α->Int) (L:List α) (a i:Nat):Prop:=∀ (p q:Nat) (x y:α),a<=p->p<q->q<i->L[p]? =σ x->L[q]? =σ y->f x<=f y
def nT (L:List (Λ)):Prop:=∀ks∈L,jR ks
theorem nT.perm {L M:List (Λ)} (h:nT L) (I:M.Perm L):nT M:=λks J=>h ks (I.mem_iff.1 J)
theorem HN {g:Nat} {L:List (Λ)} {i:Nat} (I:y=(i:Int)) (h:mC w g v L) (hi:L[i]? =σ ks):
  J x3 (n0 h6 v (Δ y)) w (λp=>J x3 (x6 cp p) w K)=K (dG ks):=by
 have U:ks.length=6:=by have:=h.2 ks (x5 hi);simpa using this
 rw[cG I h6.u cp.i h (x4.1 hi).1,mz U (h.range hi)]
abbrev zy:x1:=.func (.func xm) #[] #[]
theorem rv {P:W7} {k:o6} {s:ByteArray} {i:Nat} (I:P.underlying t=σ .string) (hi:i<s.size):
  J P (Instr.index t (.string s) (.int k (i:Int))) w K=K (.int .u8 (s[i].toNat:Int)):=J.of λw' _=>by
 simp[Instr.index,asIntOf,run_underlying I,hi]
def dO (n:Nat):Nat:=if n=0 then 0 else Nat.log2 n+1
theorem zz (h:n<256):dO n<=8:=by
 unfold dO;by_cases I:n=0
 .rw[if_pos I];omega
 .rw[if_neg I];have J:Nat.log2 n<8:=(Nat.log2_lt I).2 Ω;omega
theorem HO {g:Nat} {L:List (Λ)} (h:mC w g v L) (U:nT L) (V:L.length<65536):
  ak x3 Fi [v,zy] w λ_ w'=>ag (λr=>leadsTo v r) w w'/\ ∃M,M.Perm L/\ru fC M 0 M.length/\mC w' g v M:=by
 refine (zx HF (G:=jR) (num:=fC) (cf:=hn) (cap:=#[]) HH HI (λa _=>zs) (λa I=>by simp[I.1]) (λa b I J=>(zt a b (by rw[I.1,J.1]) I.2 J.2).1) (Enters.of x3 HJ rfl Ψ) h U V λac a b _ I J=>HE I J).mono ?_;rintro _ w' _ ⟨W,M,X,hu,hm⟩;exact⟨W,M,X,λp q x y _ Y _ aa ab=>hu p q x y Y aa ab,hm⟩
end Go.Proofs.YtgbkinibgjmodaaGreatDoor
namespace Go.Vc
open Go Go.RowKit
set_option maxRecDepth 100000
theorem Keys.str {P:W7} {k:r9} (I:P.underlying k=σ .string):Keys P k λv=>∃s,v= .string s:=by
 have key:∀s,MapKept.IsKey .string (.string s):=λs=>trivial;refine⟨λw U v ⟨n,h⟩=>?_,λw x ⟨n,h⟩ V W=>?_,λw v ⟨n,h⟩=>?_⟩
 .subst h;exact MapKept.run_checkKey I (key n) U 9999
 .subst h;rcases MapKept.findNow_spec (key n) V 0 (λe he=>by obtain⟨m,h⟩:=W e he;rw[h];exact key m) with⟨h1,J⟩|⟨j,e,h1,J,X⟩
  .exact .inl ⟨MapKept.run_findKey I h1,J⟩
  .exact .inr ⟨j,e,by have:=MapKept.run_findKey (P:=P) (w:=w) I h1;simpa using this,J,X⟩
 .subst h;exact MapKept.run_keyThatStays (d:=.string) (key n)
section
variable {P:W7} {w:x2}
theorem fD {s:Sem x1} (h:∀K:x1->Prop,J P s w K=K v):bl P s v w:=by
 have h1:J P s w (λu=>u=v):=(h λu=>u=v).mpr rfl;obtain⟨u,hu,rfl⟩:=h1;exact hu
variable {k e:r9} {G:x1->Prop}
end
end Go.Vc
namespace Go.Proofs.YtgbkinibgjmodaaGreatDoor
open Go Go.Vc Go.RowKit Go.Proofs Go.Proofs.Tryz
set_option maxRecDepth 100000
def fR:Nat->Nat->Λ
 |0,_=>[]
 |n+1,u=>fR n (u / 10)++[48+((u % 10:Nat):Int)]
theorem pj:∀ (n u:Nat),(fR n u).length=n
 |0,_=>rfl
 |n+1,u=>by rw[fR,u9,pj n];rfl
theorem HP (n u:Nat):fR (n+2) u=fR n (u / 100)++[48+((u / 10 % 10:Nat):Int),48+((u % 10:Nat):Int)]:=by
 rw[fR,fR,X1];rw[show u / 10 / 10=u / 100 by omega];rfl
theorem zA:∀ (n u:Nat),10 ^ n<=u->u<10 ^ (n+1)->fR (n+1) u=eU u
 |0,u,h1,I=>by
  rw[mq,if_pos (by simpa using I)];simp[fR]
 |n+1,u,h1,I=>by
  have J:(10:Nat) ^ (n+1)=10*10 ^ n:=by rw[Nat.pow_succ,Nat.mul_comm]
  have U:(10:Nat) ^ (n+1+1)=10*10 ^ (n+1):=by rw[Nat.pow_succ,Nat.mul_comm]
  have V:1<=10 ^ n:=Nat.one_le_iff_ne_zero.2 Ξ;rw[mq,if_neg Ω,fR,zA n (u / 10) Ω Ω]
def fE (I C:Λ) (nd u:Nat):Prop:=nd<=I.length/\C.length=I.length/\ ∃t,C.drop nd=t/\I=fR nd u++t
theorem fE.two {I:Λ} {nd u:Nat} (h:fE I C (nd+2) u):fE I ((C.set (nd+1) (48+((u % 10:Nat):Int))).set nd (48+((u / 10 % 10:Nat):Int))) nd (u / 100):=by
 obtain⟨h1,J,t,U,V⟩:=h;refine⟨Ω,by simp[J],_,rfl,?_⟩;rw[V,HP,X1];congr 1;rw[List.drop_set,if_neg Ω,List.drop_set,if_neg Ω,<-U];have W:nd<C.length:=Ω
 have X:nd+1<C.length:=Ω
 rw[V0 W,V0 X,W9,R3];rfl
theorem fE.one {I:Λ} {u:Nat} (h:fE I C 1 u):C.set 0 (48+((u % 10:Nat):Int))=I:=by
 obtain⟨h1,J,t,U,V⟩:=h;rw[V,fR,fR,List.nil_append,<-U];cases C with
 |nil=>simp at J;omega
 |cons c C=>simp
theorem fE.zero {I:Λ} {u:Nat} (h:fE I C 0 u):C=I:=by
 obtain⟨h1,V,t,J,U⟩:=h;rw[U,fR,List.nil_append,<-J,List.drop_zero]
def iE:ByteArray:=⟨#[48,48,48,49,48,50,48,51,48,52,48,53,48,54,48,55,48,56,48,57,49,48,49,49,49,50,49,51,49,52,49,53,49,54,49,55,49,56,49,57,50,48,50,49,50,50,50,51,50,52,50,53,50,54,50,55,50,56,50,57,51,48,51,49,51,50,51,51,51,52,51,53,51,54,51,55,51,56,51,57,52,48,52,49,52,50,52,51,52,52,52,53,52,54,52,55,52,56,52,57,53,48,53,49,53,50,53,51,53,52,53,53,53,54,53,55,53,56,53,57,54,48,54,49,54,50,54,51,54,52,54,53,54,54,54,55,54,56,54,57,55,48,55,49,55,50,55,51,55,52,55,53,55,54,55,55,55,56,55,57,56,48,56,49,56,50,56,51,56,52,56,53,56,54,56,55,56,56,56,57,57,48,57,49,57,50,57,51,57,52,57,53,57,54,57,55,57,56,57,57]⟩
theorem zB:iE.size=200:=by decide+kernel
theorem HQ:∀q:Fin 100,iE.data.toList[2*q.val]? =σ (UInt8.ofNat (48+q.val / 10))/\iE.data.toList[2*q.val+1]? =σ (UInt8.ofNat (48+q.val % 10)):=by decide+kernel
theorem ub {q:Nat} (J:q<100):(∀h,(iE[2*q]'h).toNat=48+q / 10)/\ ∀h,(iE[2*q+1]'h).toNat=48+q % 10:=by
 obtain⟨h1,U⟩:=HQ ⟨q,J⟩;refine⟨λh=>?_,λh=>?_⟩
 .have I:=(x4.1 h1).2;have:iE[2*q]=UInt8.ofNat (48+q / 10):=I;rw[this,UInt8.toNat_ofNat'];omega
 .have I:=(x4.1 U).2;have:iE[2*q+1]=UInt8.ofNat (48+q % 10):=I;rw[this,UInt8.toNat_ofNat'];omega
theorem wrap_u32 {x:Int} (h1:0<=x) (I:x<4294967296):o6.u32.wrap x=x:=by
 simp[o6.wrap,o6.bits,o6.signed];omega
def iF (w:x2) (g o:Nat) (I C J:Λ):Prop:=af w g lj (ints .u8 (I++C++J))/\I.length=o
theorem uc {g o c i:Nat} {I:o6} (U:y=(i:Int)) (hi:i<n):
  J x3 (n0 cB (.slice (σ ⟨g,o,ν⟩) n c) (.int I y)) w K=K (.pointer (σ ⟨g,o+i,ν⟩)):=by
 subst U;rw[fi cB.u cv.i hi (λ_=>rfl),T5]
theorem ud {g o i:Nat} {x:Int} {J U:Λ} {K:Unit->x2->Prop} (V:iF w g o J C U) (hi:i<C.length)
  (X:∀w',ag (λr=>r=g) w w'->iF w' g o J (C.set i x) U->K () w'):aA x3 (o5 cv (.pointer (σ ⟨g,o+i,ν⟩)) (.int .u8 x)) w K:=by
 obtain⟨V,rfl⟩:=V;refine bh (g:=g) (o:=J.length+i) cv.i rfl rfl V Θ λw' Y I W=>X w' Y ⟨?_,rfl⟩;have e:(ints .u8 (J++C++U)).set (J.length+i) (.int .u8 x)=ints .u8 (J++C.set i x++U):=by
  unfold ints;rw[<-T2,X1,U9 _ _ Ω,R3,List.set_append_left _ _ hi,X1]
 rw[e] at W;exact W
theorem mD {g o c nd q i:Nat} {ae W t:Int} {X Y:Λ} {K:x2->Prop} (af:iF w g o X C Y) (aE:C.length=n) (aF:n<=1000) (aG:nd<=n) (h1:(nd:Int)-ae=((i+1:Nat):Int)) (ak:(nd:Int)-W=(i:Int)) (al:i+1<n) (am:t=((2*q:Nat):Int)) (ac:q<100)
  (an:∀w',ag (λr=>r=g) w w'->iF w' g o X ((C.set (i+1) (48+((q % 10:Nat):Int))).set i (48+((q / 10:Nat):Int))) Y->K w'):
  cm w λV=>
  J x3 (aC .sub ab false true (Δ (nd:Int)) (Δ ae)) V λao=>
  J x3 (aC .sub ab false true (Δ (nd:Int)) (Δ W)) V λah=>
  J x3 (aC .add nn false true (.int .u32 t) (.int .u32 1)) V λap=>
  J x3 (Instr.index cP (.string iE) ap) V λt50=>
  J x3 (Instr.index cP (.string iE) (.int .u32 t)) V λai=>
  J x3 (n0 cB (.slice (σ ⟨g,o,ν⟩) n c) ao) V λt53=>
  aA x3 (o5 cv t53 t50) V λ(_:Unit) U=>
   (Ext V U\/bl x3 (Instr.index cP (.string iE) (.int .u32 t)) ai U/\bl x3 (aC .sub ab false true (Δ (nd:Int)) (Δ W)) ah U/\True)/\
  J x3 (n0 cB (.slice (σ ⟨g,o,ν⟩) n c) ah) U λaq=>
   aA x3 (o5 cv aq ai) U λ(_:Unit) ad=>K ad:=by
 subst am;intro V aj _ _;have au:ag (λr=>r=g) w V:=aj.aa _;have av:iF V g o X C Y:=⟨af.1.ext aj,af.2⟩;rw[c3,wrap_i64 Ω Ω,c3,wrap_i64 Ω Ω,aN,wrap_u32 Ω Ω];rw[show ((2*q:Nat):Int)+1=((2*q+1:Nat):Int) by omega];have I:=zB;rw[rv cP.u (by rw[I];omega),rv cP.u (by rw[I];omega)];rw[(ub ac).1,(ub ac).2,uc h1 al];refine ud av Ω λU aw ax=>⟨.inr ⟨fD λK=>?_,fD λK=>?_,trivial⟩,?_⟩
 .rw[rv cP.u (by rw[I];omega),(ub ac).1]
 .rw[c3,wrap_i64 Ω Ω]
 .rw[uc ak Ω];refine ud ax Θ λad ay az=>an ad ((au.trans aw).trans ay) ?_;have aB:48+((q % 10:Nat):Int)=((48+q % 10:Nat):Int):=Ω
  have aD:48+((q / 10:Nat):Int)=((48+q / 10:Nat):Int):=Ω
  rw[aB,aD];exact az
theorem fE.pair {I:Λ} {nd u q:Nat} (h:fE I C (nd+2) u) (J:q=u % 100):fE I ((C.set (nd+1) (48+((q % 10:Nat):Int))).set nd (48+((q / 10:Nat):Int))) nd (u / 100):=by
 have:=h.two;rw[show u % 10=q % 10 by omega,show u / 10 % 10=q / 10 by omega] at this;exact this
theorem mE {k:o6} {a b:Nat} (I:b≠0):J x3 (aC .rem t cx cy (.int k (a:Int)) (.int k (b:Int))) w K=K (.int k ((a % b:Nat):Int)):=by
 rw[kv Ω,Int.tmod_eq_emod_of_nonneg Ω,Int.natCast_emod]
theorem u32_quo {a b:Nat} (I:b≠0) (U:a<4294967296):J x3 (aC .quo t cx cy (.int .u32 (a:Int)) (.int .u32 (b:Int))) w K=K (.int .u32 ((a / b:Nat):Int)):=by
 have:=Nat.div_le_self a b;rw[oM Ω,Int.tdiv_eq_ediv_of_nonneg Ω,<-Int.natCast_ediv];generalize a / b=m at this ⊢;rw[wrap_u32 Ω Ω]
theorem u64_quo {a b:Nat} (I:b≠0) (U:a<18446744073709551616):J x3 (aC .quo t cx cy (.int .u64 (a:Int)) (.int .u64 (b:Int))) w K=K (.int .u64 ((a / b:Nat):Int)):=by
 have:=Nat.div_le_self a b;rw[oM Ω,Int.tdiv_eq_ediv_of_nonneg Ω,<-Int.natCast_ediv];generalize a / b=m at this ⊢;rw[wrap_u64 Ω Ω]
theorem mF {a b:Nat} (I:a*b<4294967296):J x3 (aC .mul t cx cy (.int .u32 (a:Int)) (.int .u32 (b:Int))) w K=K (.int .u32 ((a*b:Nat):Int)):=by
 have e:(a:Int)*(b:Int)=((a*b:Nat):Int):=Ξ
 rw[fv,e];generalize a*b=m at I ⊢;rw[wrap_u32 Ω Ω]
theorem fE.start {u:Nat} (h:C.length=N):fE (fR N u) C N u:=⟨by rw[pj];omega,by rw[pj,h],[],by rw[List.drop_eq_nil_iff];omega,Ξ⟩
theorem HR {g o c u:Nat} {ai aj:Λ} (aK:iF w g o ai C aj) (aL:C.length=N) (aX:N<=19) (hu:u<10 ^ N):
  ak x3 Fs [.slice (σ ⟨g,o,ν⟩) N c,.int .u64 (u:Int)] w λv w'=>v= .tuple #[]/\ag (λr=>r=g) w w'/\iF w' g o ai (fR N u) aj:=by
 have ab:=pj N u;refine aB func314 ?_;rw[gw cB.u];refine⟨λaM aw U=>∃I nd:Nat,aM= .int .u64 (I:Int)/\aw=Δ (nd:Int)/\I<10 ^ nd/\nd<=N/\ag (λr=>r=g) w U/\ ∃al,iF U g o ai al aj/\fE (fR N u) al nd I,
  λ_ aw _=>(bO aw).toNat,⟨u,N,rfl,rfl,hu,o8 _,ag.refl _ _,C,aK,fE.start aL⟩,?_⟩
 rintro _ _ U ⟨I,nd,rfl,rfl,am,ac,ax,al,ay,aq⟩;have aG:al.length=N:=by rw[aq.2.1,ab]
 have aY:(10:Nat) ^ nd<=10 ^ 19:=S5 Ω Ω;have aO:I<18446744073709551616:=Ω
 have aZ:(8:Int)=((8:Nat):Int):=rfl;rw[ce,ae];refine⟨λaP=>?_,λaP=>?_⟩
 .obtain⟨m,rfl⟩:∃m,nd=m+8:=⟨nd-8,Ω⟩;have a1:I % 100000000<100000000:=Nat.mod_lt _ Ω;rw[show V4 .u64 100000000=V4 .u64 ((100000000:Nat):Int) from rfl,mE Ω,e2 ew.u nn.u,wrap_u32 Ω Ω,u64_quo Ω aO];rw[show V4 .u32 10000=V4 .u32 ((10000:Nat):Int) from rfl,show V4 .u32 100=V4 .u32 ((100:Nat):Int) from rfl,show V4 .u32 2=V4 .u32 ((2:Nat):Int) from rfl];rw[u32_quo Ω Ω,mE Ω,u32_quo Ω Ω,mF Ω,mE Ω,mF Ω,u32_quo Ω Ω,mF Ω,mE Ω,mF Ω];refine mD (i:=m+6) (q:=I % 100000000 % 10000 % 100) ay aG Ω ac Ω Ω Ω Ω Ω λV ad af=>?_;have W:=aq.pair (q:=I % 100000000 % 10000 % 100) Ω;have an:=W.2.1.trans ab;refine mD (i:=m+4) (q:=I % 100000000 % 10000 / 100) af an Ω ac Ω Ω Ω Ω Ω λah Y X=>?_;have J:=fE.pair (nd:=m+4) (q:=I % 100000000 % 10000 / 100) W Ω;have aH:=J.2.1.trans ab;refine mD (i:=m+2) (q:=I % 100000000 / 10000 % 100) X aH Ω ac Ω Ω Ω Ω Ω λaQ az au=>?_;have aI:=fE.pair (nd:=m+2) (q:=I % 100000000 / 10000 % 100) J Ω;have aR:=aI.2.1.trans ab;refine mD (i:=m) (q:=I % 100000000 / 10000 / 100) au aR Ω ac Ω Ω Ω Ω Ω λa2 aS aT=>?_;have aJ:=fE.pair (nd:=m) (q:=I % 100000000 / 10000 / 100) aI Ω;rw[c3,wrap_i64 Ω Ω];refine⟨⟨I / 100000000,m,rfl,by congr 1;omega,?_,Ω,(((ax.trans ad).trans Y).trans az).trans aS,_,aT,?_⟩,by simp only[bO];omega⟩
  .rw[Nat.pow_add] at am;exact Nat.div_lt_of_lt_mul (by rw[Nat.mul_comm];exact am)
  .rw[show I / 100 / 100 / 100 / 100=I / 100000000 by omega] at aJ;exact aJ
 .have a6:nd<8:=Ω
  have a7:(10:Nat) ^ nd<=10 ^ 7:=S5 Ω Ω;rw[e2 ew.u nn.u,wrap_u32 Ω Ω];refine h4 (λa b V=>∃aa m:Nat,a=Δ (m:Int)/\b= .int .u32 (aa:Int)/\aa<10 ^ m/\m<4/\m<=N/\ag (λr=>r=g) w V/\ ∃av,iF V g o ai av aj/\fE (fR N u) av m aa) ?_ ?_
  rotate_left
  .intro aU ao;rw[ce,ae];refine⟨λaA=>?_,λaA=>ao _ _ _ ⟨I,nd,rfl,rfl,am,Ω,ac,ax,al,ay,aq⟩⟩;obtain⟨m,rfl⟩:∃m,nd=m+4:=⟨nd-4,Ω⟩;rw[show V4 .u32 10000=V4 .u32 ((10000:Nat):Int) from rfl,show V4 .u32 100=V4 .u32 ((100:Nat):Int) from rfl,show V4 .u32 2=V4 .u32 ((2:Nat):Int) from rfl];rw[mE Ω,u32_quo Ω Ω,u32_quo Ω Ω,mF Ω,mE Ω,mF Ω];refine mD (i:=m+2) (q:=I % 10000 % 100) ay aG Ω ac Ω Ω Ω Ω Ω λV ad af=>?_;have W:=aq.pair (q:=I % 10000 % 100) Ω;have an:=W.2.1.trans ab;refine mD (i:=m) (q:=I % 10000 / 100) af an Ω ac Ω Ω Ω Ω Ω λah Y X=>?_;have J:=fE.pair (nd:=m) (q:=I % 10000 / 100) W Ω;rw[c3,wrap_i64 Ω Ω];refine ao _ _ _ ⟨I / 10000,m,by congr 1;omega,rfl,?_,Ω,Ω,(ax.trans ad).trans Y,_,X,?_⟩
   .rw[Nat.pow_add] at am;exact Nat.div_lt_of_lt_mul (by rw[Nat.mul_comm];exact am)
   .rw[show I / 100 / 100=I / 10000 by omega] at J;exact J
  rintro _ _ V ⟨aa,m,rfl,rfl,aC,a8,aD,ad,av,af,W⟩;have an:=W.2.1.trans ab;have ba:(10:Nat) ^ m<=10 ^ 3:=S5 Ω Ω;refine h4 (λa b ah=>∃ap m:Nat,a=Δ (m:Int)/\b= .int .u32 (ap:Int)/\ap<10 ^ m/\m<2/\m<=N/\ag (λr=>r=g) w ah/\ ∃aE,iF ah g o ai aE aj/\fE (fR N u) aE m ap) ?_ ?_
  rotate_left
  .intro aU ao;rw[ce,ae];refine⟨λaA=>?_,λaA=>ao _ _ _ ⟨aa,m,rfl,rfl,aC,Ω,aD,ad,av,af,W⟩⟩;obtain⟨m,rfl⟩:∃aV,m=aV+2:=⟨m-2,Ω⟩;rw[show V4 .u32 100=V4 .u32 ((100:Nat):Int) from rfl,show V4 .u32 2=V4 .u32 ((2:Nat):Int) from rfl];rw[mE Ω,mF Ω,u32_quo Ω Ω];refine mD (i:=m) (q:=aa % 100) af an Ω aD Ω Ω Ω Ω Ω λah Y X=>?_;have J:=W.pair (q:=aa % 100) rfl;rw[c3,wrap_i64 Ω Ω];refine ao _ _ _ ⟨aa / 100,m,by congr 1;omega,rfl,?_,Ω,Ω,ad.trans Y,_,X,J⟩;rw[Nat.pow_add] at aC;exact Nat.div_lt_of_lt_mul (by rw[Nat.mul_comm];exact aC)
  rintro _ _ ah ⟨ap,m,rfl,rfl,aF,bb,aD,Y,aE,X,J⟩;have aH:=J.2.1.trans ab;rw[bR,ae];refine⟨λaW=>?_,λaW=>?_⟩
  .obtain rfl:m=1:=Ω
   have aF:ap<10:=by simpa using aF
   rw[aN,wrap_u32 Ω Ω,e2 nn.u cv.u,wrap_u8 Ω Ω,uc (y:=0) (i:=0) rfl Ω];refine ud X Ω λaQ az au=>?_;have:=J.one;rw[Nat.mod_eq_of_lt aF] at this;rw[this] at au;exact⟨rfl,Y.trans az,au⟩
  .obtain rfl:m=0:=Ω
   rw[J.zero] at X;exact⟨rfl,Y,X⟩
def pk:Λ:=[1,10,100,1000,10000,100000,1000000,10000000,100000000,1000000000,10000000000,100000000000,1000000000000,10000000000000,100000000000000,1000000000000000,10000000000000000,100000000000000000,1000000000000000000,10000000000000000000]
def eR (w:x2):Prop:=w.rangeAt 1 0 (ints .u64 pk)
theorem eR.ext (h:eR w) (I:Ext w w'):eR w':=np I h
theorem HS:∀k:Nat,k<20->pk[k]? =σ (((10 ^ k:Nat)):Int):=Φ
theorem zC {s:Nat} (h:2 ^ s<=n):dO n=s+dO (n / 2 ^ s):=by
 have I:=Nat.two_pow_pos s;have h1:n / 2 ^ s≠0:=by have:=Nat.div_pos h I;omega
 have J:n≠0:=Ω
 unfold dO;rw[if_neg J,if_neg h1];have e:Nat.log2 n=Nat.log2 (n / 2 ^ s)+s:=by
  refine (Nat.log2_eq_iff J).2 ⟨?_,?_⟩
  .rw[Nat.pow_add];have:=Y5 (2 ^ s) (Nat.log2_self_le h1);have:=Nat.div_mul_le_self n (2 ^ s);omega
  .have U:=Nat.lt_log2_self (n:=n / 2 ^ s);rw[show Nat.log2 (n / 2 ^ s)+s+1=(Nat.log2 (n / 2 ^ s)+1)+s by omega,Nat.pow_add];have:=Y5 (2 ^ s) (show n / 2 ^ s+1<=2 ^ (Nat.log2 (n / 2 ^ s)+1) by omega);have V:=Nat.lt_div_mul_add I (a:=n);rw[U5] at this;omega
 omega
def pm:ByteArray:=⟨#[0,1,2,2,3,3,3,3,4,4,4,4,4,4,4,4,5,5,5,5,5,5,5,5,5,5,5,5,5,5,5,5,6,6,6,6,6,6,6,6,6,6,6,6,6,6,6,6,6,6,6,6,6,6,6,6,6,6,6,6,6,6,6,6,7,7,7,7,7,7,7,7,7,7,7,7,7,7,7,7,7,7,7,7,7,7,7,7,7,7,7,7,7,7,7,7,7,7,7,7,7,7,7,7,7,7,7,7,7,7,7,7,7,7,7,7,7,7,7,7,7,7,7,7,7,7,7,7,8,8,8,8,8,8,8,8,8,8,8,8,8,8,8,8,8,8,8,8,8,8,8,8,8,8,8,8,8,8,8,8,8,8,8,8,8,8,8,8,8,8,8,8,8,8,8,8,8,8,8,8,8,8,8,8,8,8,8,8,8,8,8,8,8,8,8,8,8,8,8,8,8,8,8,8,8,8,8,8,8,8,8,8,8,8,8,8,8,8,8,8,8,8,8,8,8,8,8,8,8,8,8,8,8,8,8,8,8,8,8,8,8,8,8,8,8,8,8,8,8,8,8,8,8,8,8,8]⟩
theorem HT:pm.size=256:=by decide+kernel
theorem HU:∀q:Fin 256,pm.data.toList[q.val]? =σ (UInt8.ofNat (dO q.val)):=by decide+kernel
theorem HV {q:Nat} (I:q<256):∀h,(pm[q]'h).toNat=dO q:=λh=>by
 have h1:=HU ⟨q,I⟩;have J:=(x4.1 h1).2;have:pm[q]=UInt8.ofNat (dO q):=J;have U:=zz I;rw[this,UInt8.toNat_ofNat'];omega
theorem HW (am:n<18446744073709551616):ak x3 EM [.int .u64 (n:Int)] w λv w'=>v=Δ (dO n:Int)/\Ext w w':=by
 refine aB func238 ?_;have step:∀ {s x m:Nat} {Y:x1->x1->x2->Prop} {y c:Int},s<64->x<18446744073709551616->m+dO x=dO n->m<=64->y=(2 ^ s:Nat)->c=(s:Int)->2 ^ s<=18446744073709551615->(∀V W:Nat,V<2 ^ s\/(V=x / 2 ^ s/\W=m+s)->V<=x->W+dO V=dO n->W<=m+s->Y (.int .u64 (V:Int)) (Δ (W:Int)) w)->
   J x3 (aC .geq ew false true (.int .u64 (x:Int)) (.int .u64 y)) w λt4=>
    Split t4 (J x3 (aC .shr ew false true (.int .u64 (x:Int)) (.int .u64 c)) w λag=>J x3 (aC .add ab false true (Δ (m:Int)) (Δ c)) w λah=>Y ag ah w) (Y (.int .u64 (x:Int)) (Δ (m:Int)) w):=by
  intro s x m Y y c I aa hm an ai aj ad X;subst ai aj;rw[ce,ae];refine⟨λh=>?_,λh=>X x m (.inl Ω) (o8 _) hm Ω⟩;rw[q0 I,aN,wrap_i64 Ω Ω];have:=zC (n:=x) (s:=s) Ω;have:=X (x / 2 ^ s) (m+s) (.inr ⟨rfl,rfl⟩) (Nat.div_le_self _ _) Ω Ω;exact this
 refine h4 (λx m U=>w=U/\ ∃V W:Nat,x= .int .u64 (V:Int)/\m=Δ (W:Int)/\V<4294967296/\W+dO V=dO n/\W<=32) ?_ ?_
 rotate_left
 .intro Y X;rw[ce,ae];refine⟨λh=>?_,λh=>X _ _ _ ⟨rfl,n,0,rfl,rfl,Ω,Ω,Ω⟩⟩;rw[show V4 .u64 32=V4 .u64 ((32:Nat):Int) from rfl,q0 Ω];have:=zC (n:=n) (s:=32) Ω;exact X _ _ _ ⟨rfl,n / 2 ^ 32,32,rfl,rfl,Ω,Ω,Ω⟩
 rintro _ _ _ ⟨rfl,x,m,rfl,rfl,aa,hm,af⟩;refine h4 (λx m U=>w=U/\ ∃V W:Nat,x= .int .u64 (V:Int)/\m=Δ (W:Int)/\V<65536/\W+dO V=dO n/\W<=48) ?_ ?_
 rotate_left
 .intro Y X;refine step (s:=16) Ω Ω hm Ω Ω Ω Ω λV W h1 ad ac al=>X _ _ _ ⟨rfl,V,W,rfl,rfl,?_,ac,Ω⟩;rcases h1 with h1|⟨h1,_⟩<;>omega
 rintro _ _ _ ⟨rfl,x,m,rfl,rfl,aa,hm,af⟩;refine h4 (λx m U=>w=U/\ ∃V W:Nat,x= .int .u64 (V:Int)/\m=Δ (W:Int)/\V<256/\W+dO V=dO n/\W<=56) ?_ ?_
 rotate_left
 .intro Y X;refine step (s:=8) Ω Ω hm Ω Ω Ω Ω λV W h1 ad ac al=>X _ _ _ ⟨rfl,V,W,rfl,rfl,?_,ac,Ω⟩;rcases h1 with h1|⟨h1,_⟩<;>omega
 rintro _ _ _ ⟨rfl,x,m,rfl,rfl,aa,hm,af⟩;have I:=HT;have ao:=zz aa;rw[e2 ew.u cv.u,wrap_u8 Ω Ω];refine (rv (s:=pm) cP.u (by rw[I];omega)).mpr ?_;rw[HV aa,e2 cv.u ab.u,wrap_i64 Ω Ω,aN,wrap_i64 Ω Ω];exact⟨by congr 1;omega,Ext.refl _⟩
theorem zD {k:o6} {a:Nat} (I:n<64):J x3 (aC .shr t cx cy (Δ (a:Int)) (.int k (n:Int))) w K=K (Δ ((a / 2 ^ n:Nat):Int)):=J.of λw' _=>by
 have e:(a:Int).fdiv (2 ^ min n Y6.bits)=((a / 2 ^ n:Nat):Int):=by
  have:min n Y6.bits=n:=T7 (by show n<=64;omega);rw[this,Int.fdiv_eq_ediv_of_nonneg _ (by exact Int.le_of_lt (Int.pow_pos Ω))];simp
 simp only[aC,eqGuard,binOp,Op.shift,j0,e];rfl
theorem HX:∀L:Fin 64,7<=L.val->2 ^ L.val<=10 ^ (L.val*78913 / 262144+1)/\10 ^ (L.val*78913 / 262144)<=10*2 ^ (L.val-1)/\1<=L.val*78913 / 262144/\L.val*78913 / 262144<19:=by decide+kernel
theorem HY {d:Nat} (af:eR w) (h1:100<=d) (al:d<9223372036854775808):ak x3 Fr [.int .u64 (d:Int)] w λv w'=>Ext w w'/\ ∃n:Nat,v=Δ ((n+1:Nat):Int)/\n<19/\10 ^ n<=d/\d<10 ^ (n+1):=by
 have X:d≠0:=Ω
 have Y:dO d=Nat.log2 d+1:=by unfold dO;rw[if_neg X]
 have am:2 ^ (dO d-1)<=d:=by rw[Y];exact Nat.log2_self_le X
 have an:d<2 ^ dO d:=by rw[Y];exact Nat.lt_log2_self
 have ag:7<=dO d:=by
  by_cases h:7<=dO d
  .exact h
  .have:2 ^ dO d<=2 ^ 6:=S5 Ω Ω;omega
 have ah:dO d<64:=by
  by_cases h:dO d<64
  .exact h
  .have:2 ^ 63<=2 ^ (dO d-1):=S5 Ω Ω;omega
 obtain⟨ai,aa,t3,t4⟩:=HX ⟨dO d,ah⟩ ag;simp only at ai aa t3 t4;refine aB func313 ?_;refine (HW Ω).mono ?_;rintro _ U _ ⟨rfl,I⟩;generalize dO d=L at*;refine ak.mono (K:=λv V=>v=Δ ((L*78913 / 262144:Nat):Int)/\Ext U V) ?_ ?_
 .refine aB func334 ?_;rw[fv,wrap_i64 Ω Ω,show V4 .u64 18=V4 .u64 ((18:Nat):Int) from rfl,show (L:Int)*78913=((L*78913:Nat):Int) by omega,zD Ω];exact⟨rfl,Ext.refl _⟩
 rintro _ V _ ⟨rfl,J⟩;generalize L*78913 / 262144=t at*;have aj:=HS t Ω;rw[th (t:=qM) qM.u ew.i Ω,ad Ψ (by rw[T5];exact ((af.ext I).ext J) _ _ (jJ aj)),ce];refine ak.mono (K:=λv ab=>v=Δ ((if 10 ^ t<=d then 1 else 0:Nat):Int)/\Ext V ab) ?_ ?_
 .refine aB func335 ?_;rw[ae];refine⟨λh=>⟨by rw[if_pos Ω];rfl,Ext.refl _⟩,λh=>⟨by rw[if_neg Ω];rfl,Ext.refl _⟩⟩
 rintro _ ab _ ⟨rfl,ac⟩;rw[aN];by_cases W:10 ^ t<=d
 .rw[if_pos W,wrap_i64 Ω Ω];exact⟨(I.trans J).trans ac,t,by congr 1,t4,W,Ω⟩
 .rw[if_neg W,wrap_i64 Ω Ω];obtain⟨s,rfl⟩:∃s,t=s+1:=⟨t-1,Ω⟩;rw[Nat.pow_succ] at aa;exact⟨(I.trans J).trans ac,s,by congr 1,Ω,Ω,Ω⟩
theorem zE {k I:o6} {x:Int} {i:Nat} {s:ByteArray} (U:x=(i:Int)) (V:y=(j:Int)) (W:x3.underlying t=σ .string) (X:i<=j) (Y:j<=s.size):
  J x3 (W6 t (.string s) (σ (.int k x)) (σ (.int I y)) ν) w K=K (.string (s.extract i j)):=J.of λw' _=>by
 subst U V;have aa:=qP (P:=x3) w' (sl:=false) (n:=s.size) (c:=s.size) (low:=σ (.int k (i:Int))) (high:=σ (.int I (j:Int))) (mx:=ν) (l:=i) (h:=j) (m:=s.size) ⟨k,rfl⟩ ⟨I,rfl⟩ ez X Y (o8 _);simp[W6,Instr.slice,run_underlying W,aa]
theorem HZ:∀q:Fin 100,iE.extract (2*q.val) (2*q.val+2)=strOfNums [48+((q.val / 10:Nat):Int),48+((q.val % 10:Nat):Int)]:=by decide+kernel
def zF:ByteArray:=⟨#[48,49,50,51,52,53,54,55,56,57,97,98,99,100,101,102,103,104,105,106,107,108,109,110,111,112,113,114,115,116,117,118,119,120,121,122]⟩
theorem H0:∀q:Fin 10,zF.extract q.val (q.val+1)=strOfNums [48+(q.val:Int)]:=by decide+kernel
theorem zG (h:n<10):eU n=[48+(n:Int)]:=by rw[mq,if_pos h,Nat.mod_eq_of_lt h];rfl
theorem H1 (h1:10<=n) (I:n<100):eU n=[48+((n / 10:Nat):Int),48+((n % 10:Nat):Int)]:=by
 rw[mq,if_neg Ω,zG Ω];rfl
theorem H2 (I:n<100):ak x3 Fq [Δ (n:Int)] w λv w'=>v=bz (eU n)/\Ext w w':=by
 refine aB func312 ?_;rw[aq,ae];refine⟨λh=>?_,λh=>?_⟩
 .rw[aN,wrap_i64 Ω Ω];refine (zE (s:=zF) (i:=n) (j:=n+1) rfl Ω cP.u Ω (by show n+1<=36;omega)).mpr ?_;rw[H0 ⟨n,Ω⟩,zG Ω];exact⟨rfl,Ext.refl _⟩
 .rw[fv,wrap_i64 Ω Ω,fv,wrap_i64 Ω Ω,aN,wrap_i64 Ω Ω];refine (zE (s:=iE) (i:=2*n) (j:=2*n+2) Ω Ω cP.u Ω (by rw[zB];omega)).mpr ?_;rw[HZ ⟨n,I⟩,H1 Ω I];exact⟨rfl,Ext.refl _⟩
theorem H3 {g:Nat} {U V:Λ} (I:iF w g 1 U C V) (W:C.length<=23):aJ .u8 w (.slice (σ ⟨g,1,ν⟩) C.length 23) C:=by
 obtain⟨I,X⟩:=I;refine⟨Ξ,g,1,_,23,rfl,W,by simp[maxLen],λ_=>rfl,λj v J=>?_⟩;have Y:j<C.length:=by have:=(x4.1 J).1;simpa using this
 refine I.cell ?_;rw[ints,Z3,Z3,j9 Θ,Z2 Θ,u4,X,R3];exact J
theorem zH {g:Nat} (I:y=((m+2:Nat):Int)) (hm:m<=22):
  J x3 (W6 lj (Γ g) (σ (Δ 1)) (σ (Δ y)) ν) w K=K (.slice (σ ⟨g,1,ν⟩) (m+1) 23):=by
 subst I;have:=qQ (w:=w) (b:=g) (o:=0) (low:=σ (Δ 1)) (high:=σ (Δ ((m+2:Nat):Int))) (mx:=ν) (l:=1) (h:=m+2) (m:=24) (K:=K) lj.u cv.i ⟨_,rfl⟩ ⟨_,rfl⟩ ez Ω Ω Ω;rw[this,if_neg Ω];rfl
theorem H4 (aa:eR w) (ab:n<9223372036854775808):ak x3 Fk [Δ (n:Int),Δ 10] w λv w'=>v=bz (eU n)/\Ext w w':=by
 refine aB func302 ?_;rw[bk];refine (ae).mpr ⟨λ_=>?_,λh=>absurd rfl h⟩;refine aQ (λv U=>w=U/\v= .bool (decide (n<100))) ?_ ?_
 rotate_left
 .intro ac J;rw[l4,ae];refine⟨λ_=>?_,λh=>Ω⟩;rw[aq];exact J _ _ ⟨rfl,by congr 1;rw[V8,decide_eq_true_eq,decide_eq_true_eq];omega⟩
 rintro _ _ ⟨rfl,rfl⟩;rw[ae];refine⟨λh=>?_,λh=>?_⟩
 .exact (H2 h).mono λ_ _ _ h=>h
 refine bp lj.i λg U al W ad=>?_;rw[e2 ao.u ew.u,wrap_u64 Ω Ω];refine aQ (λv V=>U=V/\v= .int .u64 (n:Int)) ?_ ?_
 rotate_left
 .intro ac J;rw[aq,ae];exact⟨λh=>Ω,λ_=>J _ _ ⟨rfl,rfl⟩⟩
 rintro _ _ ⟨rfl,rfl⟩;refine (HY (aa.ext W) Ω ab).mono ?_;rintro _ V _ ⟨X,m,rfl,hm,af,Y⟩;rw[aN,wrap_i64 Ω Ω];rw[zH (m:=m) Ω Ω];have ag:iF V g 1 [0] (o7 (m+1) 0) (o7 (22-m) 0):=by
  refine⟨?_,rfl⟩;have e:[0]++o7 (m+1) (0:Int)++o7 (22-m) 0=o7 24 0:=by
   rw[show[(0:Int)]=o7 1 0 from rfl,List.replicate_append_replicate,List.replicate_append_replicate];congr 1;omega
  rw[e];exact ad.ext X
 refine (HR (N:=m+1) ag Ξ Ω Y).mono ?_;rintro _ am _ ⟨rfl,ah,ai⟩;rw[aq,ae];refine⟨λh=>Ω,λ_=>?_⟩;rw[aN,wrap_i64 Ω Ω];rw[zH (m:=m) Ω Ω];have aj:=pj (m+1) n;have I:=H3 ai Ω;rw[aj] at I;rw[tw cB.u cv.u cP.u I,zA m n af Y];refine⟨rfl,(W.trans X).then ah λr an he=>?_⟩;have he:r=g:=he;omega
theorem H5 (I:eR w) (J:n<9223372036854775808):ak x3 tb [Δ (n:Int)] w λv w'=>v=bz (eU n)/\Ext w w':=by
 refine aB func243 ?_;refine ak.mono (K:=λv w'=>v=bz (eU n)/\Ext w w') ?_ (λ_ _ _ h=>h);refine aB func278 ?_;exact (H4 I J).mono λ_ _ _ h=>h
theorem eR.aa (h:eR w) (I:ag S w w') (J:¬S 1):eR w':=nq I J h
def c7 (w:x2) (g gs:Nat) (A:aj) (B:aj) (clean:Bool) (s:Option aH):Prop:=match s with
 |some s=>c5 w g gs A B s clean
 |none=>eg w g gs A B
theorem fk.of {g:Nat} {A:aj} {B:aj} {s:Option aH} (h:fk w g gs A B clean s w'):ag (bw g gs A) w w'/\c7 w' g gs A B clean s:=h
theorem fk.mk {g:Nat} {A:aj} {B:aj} {s:Option aH} (h:ag (bw g gs A) w w') (I:c7 w' g gs A B clean s):fk w g gs A B clean s w':=⟨h,I⟩
theorem c7.aa {g:Nat} {A:aj} {B:aj} {s:Option aH} (h:c7 w g gs A B clean s) (I:ag S w w') (J:∀r,bw g gs A r->¬S r) (U:∀r,cq g gs A B r->¬S r):c7 w' g gs A B clean s:=by
 cases s with
 |none=>exact eg.aa (g:=g) (gs:=gs) (A:=A) (B:=B) h I J U
 |some s=>exact c5.aa (g:=g) (gs:=gs) (A:=A) (B:=B) (s:=s) (clean:=clean) h I J U
theorem c7.ext {g:Nat} {A:aj} {B:aj} {s:Option aH} (h:c7 w g gs A B clean s) (I:Ext w w'):c7 w' g gs A B clean s:=h.aa (I.aa λ_=>False) (λ_ _ h=>h) λ_ _ h=>h
theorem c7.side {g:Nat} {A:aj} {B:aj} {s:Option aH} (h:c7 w g gs A B clean s):jQ w g gs A B:=by
 cases s with
 |none=>exact h.1
 |some s=>exact h.1
def a1 (lo hi:Int) (s:Option aH):Option (Int×aH):=s.bind (bb lo hi)
theorem kJ {g:Nat} {A:aj} {B:aj} {s:Option aH} (h:c7 w g gs A B clean s):ak x3 lZ [Γ g,Δ lo,Δ hi] w λv w'=>fk w g gs A B clean ((a1 lo hi s).map (·.2)) w'/\ ∃n at_:Int,v= .tuple #[Δ n,Δ at_]/\(∀q,a1 lo hi s=σ q->n=q.1)/\(a1 lo hi s=ν->n=0):=by
 cases s with
 |none=>
  refine (G2 h).mono ?_;rintro _ U _ ⟨I,rfl⟩;exact⟨⟨I.aa _,eg.ext (g:=g) (gs:=gs) (A:=A) (B:=B) h I⟩,0,0,rfl,λq h=>(by cases h),λ_=>rfl⟩
 |some s=>exact tP (s:=s) h
theorem nU {g:Nat} {A:aj} {B:aj} {s:Option aH} (h:c7 w g gs A B clean s):ak x3 jE [Γ g] w λv w'=>v= .bool s.isSome/\Ext w w':=by
 cases s with
 |none=>exact mw h
 |some s=>exact nP h
theorem H6 {g:Nat} {A:aj} {B:aj} {s:Option aH} {e:Int} (h:c7 w g gs A B clean s) (he:e≠0):ak x3 l0 [Γ g,Δ e,Δ at_] w λ_ w'=>fk w g gs A B clean ν w':=by
 cases s with
 |none=>
  refine (G0 h).mono ?_;rintro _ U _ I;exact⟨I.aa _,eg.ext (g:=g) (gs:=gs) (A:=A) (B:=B) h I⟩
 |some s=>
  refine (ra (s:=s) h he).mono ?_;rintro _ U _ ⟨J,V⟩;exact⟨J.mono λr _ h=>.inl h,V⟩
theorem pn {g:Nat} {A:aj} {B:aj} {s:Option aH} {b:Bool} (h:c7 w g gs A B clean s):ak x3 oJ [Γ g,.bool b,Δ at_] w λ_ w'=>fk w g gs A B clean (s.map (a8 b)) w':=by
 cases s with
 |none=>
  refine (y4 h).mono ?_;rintro _ U _ I;exact⟨I.aa _,eg.ext (g:=g) (gs:=gs) (A:=A) (B:=B) h I⟩
 |some s=>
  refine (rb (s:=s) h).mono ?_;rintro _ U _ ⟨J,V⟩;exact⟨J.mono λr _ h=>.inl h,V⟩
theorem lz {n:Int} {s:Option aH} {s':aH} (h:a1 lo hi s=σ (n,s')):lo<=n/\n<=hi:=by
 cases s with
 |none=>cases h
 |some s=>exact (gQ h).1
def eK (ks acc:Λ) (s:Option aH):Option (Λ×aH):=s.bind (hG ks acc)
theorem zI {acc:Λ} {s:Option aH}:eK (k::ks) acc s=match a1 0 (k-1) s with
  |none=>ν
  |some (v,s)=>hG ks (acc++[v]) s:=by
 cases s with
 |none=>rfl
 |some s=>
  show hG (k::ks) acc s=_;rw[hG];show _=match bb 0 (k-1) s with|none=>ν|some (v,s)=>hG ks (acc++[v]) s
  cases bb 0 (k-1) s<;>rfl
theorem zJ:∀ (t:Λ),(∀x∈t,0<=x/\x<=ax)->(dM t).length<=20*t.length
 |[],_=>by simp[dM]
 |x::t,h=>by
  have U:=zJ t λy I=>h y (.tail _ I);have J:=h x (.head _);have V:=tA 19 x.toNat (by unfold ax at J;omega) Ω;have e:dM (x::t)=eU x.toNat++[32]++dM t:=by simp[dM]
  rw[e];simp only[u9,j5,List.length_nil];omega
theorem H7 {g an:Nat} {A B:aj} {s:Option aH} {sizes:Λ} {aT:x1->x2->Prop}
  (h:c7 w g gs A B clean s) (aU:aJ .i64 w sv sizes) (bj:∀r,leads sv r->¬bw g gs A r/\r≠an) (bk:∀z∈sizes,1<=z/\z<=ax) (b8:sizes.length<=100001) (bl:eR w) (h1:cq g gs A B 1)
  (aV:af w an dL [.slice ν 0 0,Δ 0]) (aX:¬bw g gs A an) (aY:¬B an)
  (aZ:∀t w' aE I,t.length=sizes.length->(∀x∈t,0<=x/\x<=ax)->ag (λr=>bw g gs A r\/r=an) w w'->af w' an dL [aE,Δ 0]->au .i64 ao w' I aE t->w.heap.size<=I->
   c7 w' g gs A B clean ((eK sizes [] s).map (·.2))->(∀q,eK sizes [] s=σ q->t=q.1)->aT (bz (dM t)) w'):
  bE (.string ⟨#[]⟩) (Δ 0) w λkey aM ai bm=>
   J x3 (aC .lss ab false false aM (Δ (sizes.length:Int))) ai λbn=>
   Split bn (J x3 (n0 aw sv aM) ai λbo=>
   J x3 (x6 ao bo) ai λbp=>
   J x3 (aC .sub ao false true bp (Δ 1)) ai λbq=>
   ak x3 lZ [Γ g,(Δ 0),bq] ai λa2 am=>
   J x3 (Z9 a2 0) am λa6=>
   J x3 (Z9 a2 1) am λb9=>
   J x3 (x7 dL (Γ an) 0) am λbr=>
   J x3 (x6 aw br) am λbt=>
   aA x3 (Z7 aw 1 #[(0,a6)]) am λbu bx=>
   aA x3 (l9 #[aw,aw] aw #[bt,bu]) bx λbA a7=>
   J x3 (x7 dL (Γ an) 0) a7 λbB=>
   aA x3 (o5 aw bB bA) a7 λ(_:Unit) bC=>
   ak x3 tb [a6] bC λbD ay=>
   J x3 (aC .add cP false true bD (.string ⟨#[32]⟩)) ay λbF=>
   J x3 (aC .add cP false false key bF) ay λbG=>
   J x3 (aC .add ab false true aM (Δ 1)) ay λbH=>
   bm bG bH ay) (aT key ai):=by
 have ca:=aV.lt;have bI:=h.side;obtain⟨cb,cc,cd,bJ,bK⟩:=bI;refine bE.range sizes.length (λj key U=>∃t aE I s1,key=bz (dM t)/\t.length=j/\(∀x∈t,0<=x/\x<=ax)/\ag (λr=>bw g gs A r\/r=an) w U/\af U an dL [aE,Δ 0]/\au .i64 ao U I aE t/\w.heap.size<=I/\
  c7 U g gs A B clean s1/\eK sizes [] s=eK (sizes.drop j) t s1) aU.le ⟨[],_,w.heap.size,s,rfl,rfl,λx Y=>(by cases Y),ag.refl _ _,aV,au.nil _ _ _ _,o8 _,h,rfl⟩ ?_ ?_
 rotate_left
 .rintro _ U bL ⟨t,aE,I,s1,rfl,az,ap,al,aB,aD,aO,aF,he⟩;rw[aq,ae];refine⟨λh=>Ω,λ_=>?_⟩;rw[List.drop_length] at he;cases s1 with
  |none=>
   have he:eK sizes [] s=ν:=he;exact aZ t U aE I az ap al aB aD aO (by rw[he];exact aF) (λq W=>by rw[he] at W;cases W)
  |some s1=>
   have he:eK sizes [] s=σ (t,s1):=he;exact aZ t U aE I az ap al aB aD aO (by rw[he];exact aF) (λq W=>by rw[he] at W;cases W;rfl)
 rintro j _ U bL a8 ⟨t,aE,I,s1,rfl,az,ap,al,aB,aD,aO,aF,he⟩ bM;obtain⟨z,aP⟩:∃z,sizes[j]? =σ z:=⟨_,y0 a8⟩;have bN:=bk z (x5 aP);have ce:z<=4611686018427387904:=bN.2;have bO:aJ .i64 U sv sizes:=iz aU al λr X a n c bP bQ=>by
  have:=bj r ⟨a,n,c,bP,bQ⟩;exact X.elim this.1 this.2
 have ah:∀r,bw g gs A r->r<w.heap.size:=bJ;refine Υ λ_=>?_;rw[bd aw.u ao.i Ψ bO aP,c3,wrap_i64 Ω Ω];refine (kJ aF).mono ?_;rintro _ V _ ⟨bR,n,at_,rfl,ba,bS⟩;obtain⟨aG,bT⟩:=bR.of;have bb:0<=n/\n<=ax:=by
  cases W:a1 0 (z-1) s1 with
  |none=>rw[bS W];exact⟨Ω,by unfold ax;omega⟩
  |some q=>
   rw[ba q W];have:=lz (s':=q.2) (n:=q.1) W;exact⟨this.1,by unfold ax;omega⟩
 rw[aK (v:=Δ n) rfl,aK (v:=Δ at_) rfl];have bc:=aB.aa aG aX;have bU:=aD.aa aG λ_ bV=>by have:=ah _ bV;omega
 rw[ac dL.p rfl,ad Ψ (bc.Q0 rfl)];refine dx aw.u ao.i rfl λa aW bW cg av bX=>?_;refine hD aw.u ao.i rfl (bU.ext av) bX.ls Θ Θ λbe bf bY ch aQ aI=>?_;have ci:=al.size;have cj:=aG.size;have z3:=av.size;have z4:=aI.size;rw[ac dL.p rfl];have bZ:=(bc.ext av).aa aI (λhe=>by have he:an=I:=he;omega);refine bh (g:=an) (o:=0) aw.i aQ.ls.cells.1 aQ.ls.cells.2 bZ Ξ λbg aR ck aS=>?_;have aS:af bg an dL [be,Δ 0]:=aS;have b0:ag (λr=>bw g gs A r\/r=an) w bW:=(al.trans (aG.mono λr _ h=>.inl h)).trans (av.aa _);have b1:ag (λr=>bw g gs A r\/r=an) w bY:=gf b0 aI λr X he=>by have he:r=I:=he;omega
 have bi:ag (λr=>bw g gs A r\/r=an) w bg:=b1.trans (aR.mono λr _ h=>.inr h);have b2:¬(λr=>bw g gs A r\/r=an) 1:=λh=>h.elim h1.1 λh=>aY (h▸h1.2);obtain⟨m,rfl⟩:∃m:Nat,n=(m:Int):=⟨n.toNat,Ω⟩;unfold ax at bb;refine (H5 (bl.aa bi b2) Ω).mono ?_;rintro _ cl _ ⟨rfl,aL⟩;have cm:=tA 19 m Ω Ω;have cn:=zJ t ap;rw[show (ByteArray.mk #[32])=strOfNums [32] from rfl,tv Θ,tv Θ,aN];refine bM _ _ ⟨t++[(m:Int)],be,bf,(a1 0 (z-1) s1).map (·.2),?_,by simp[az],λx Y=>?_,bi.trans (aL.aa _),aS.ext aL,(aQ.aa aR (λ_ he=>by have he:bf=an:=he;omega)).ext aL,Ω,?_,?_⟩
 .rw[Gh,j0]
 .rcases n9.1 Y with Y|Y
  .exact ap x Y
  .rw[j4.1 Y];exact bb
 .refine c7.ext ?_ aL;have b3:=bT.ext av;have b4:∀r,bw g gs A r->¬(λr=>r=I) r:=λr X he=>by have:=ah r X;have he:r=I:=he;omega
  have b5:∀r,cq g gs A B r->¬(λr=>r=I) r:=λr X he=>by have:=bK r X.2;have he:r=I:=he;omega
  have b6:∀r,bw g gs A r->¬(λr=>r=an) r:=λr X he=>by have he:r=an:=he;exact aX (he▸X)
  have b7:∀r,cq g gs A B r->¬(λr=>r=an) r:=λr X he=>by have he:r=an:=he;exact aY (he▸X.2)
  exact (b3.aa aI b4 b5).aa aR b6 b7
 .rw[he,V0 a8,show sizes[j]=z from (x4.1 aP).2,zI];cases W:a1 0 (z-1) s1 with
  |none=>rfl
  |some q=>
   rw[ba q W];rfl
def dB (s:aH):Prop:=s.big=false->s.told<=16384
def iG (n:Int) (s:aH):aH:=a8 (decide (16384<min (s.told+n) ax)) {s with told:=min (s.told+n) ax}
theorem H8 (n:Int) (s:aH):dB (iG n s):=λh=>by
 have h:(s.big||decide (16384<min (s.told+n) ax))=false:=h;have:=of_decide_eq_false (S2.1 h).2;show min (s.told+n) ax<=16384;omega
theorem H9 {g:Nat} {A B:aj} {s:Option aH} {n:Int} {K:x2->Prop} (h:c7 w g gs A B clean s) (az:∀t,s=σ t->0<=n/\n<=ax/\dB t)
  (aq:∀w',ag (bw g gs A) w w'->c7 w' g gs A B clean (s.map (iG n))->K w'):
  J x3 (aY (Γ g)) w λaB=>
  J x3 (x7 b6 aB 2) w λaD=>
  J x3 (x6 ao aD) w λaE=>
  J x3 (aC .add ao false false aE (Δ n)) w λaF=>
  J x3 (l7.min_ #[ao,ao] ao #[aF,(Δ 4611686018427387904)]) w λaG=>
  J x3 (aY (Γ g)) w λaI=>
  J x3 (x7 b6 aI 2) w λaJ=>
  aA x3 (o5 ao aJ aG) w λ(_:Unit) ab=>
  J x3 (aY (Γ g)) ab λt77=>
  J x3 (x7 b6 t77 2) ab λaK=>
  J x3 (x6 ao aK) ab λaL=>
  J x3 (aC .gtr ao false true aL (Δ 16384)) ab λaM=>
  ak x3 oJ [Γ g,aM,Δ at_] ab λ_ aO=>K aO:=by
 cases s with
 |none=>
  obtain⟨I,e,big,ah,ai,told,sv,l,ae,al,an⟩:=id h;rw[ay,ac b6.p rfl,ad Ψ (ae.Q5 rfl),aN,iv,ay,ac b6.p rfl];refine bh (g:=g) (o:=5) ao.i rfl rfl ae (by simp[e5]) λU W aP X=>?_;rw[ay,ac b6.p rfl,ad Ψ (X.Q5 rfl),bR];have au:eg U g gs A B:=⟨I.aa W,e,big,ah,ai,_,sv,l,X,al,am.aa an W λr _ h ap=>q8 h I.2.1 ap⟩;refine (y4 au).mono ?_;rintro _ V _ av;exact aq _ ((W.mono λr _ h=>.inl h).trans (av.aa _)) (au.ext av)
 |some s=>
  obtain⟨aW,aQ,hi⟩:=az s rfl;obtain⟨I,aR,aS,big,ah,ai,told,sv,ae,al,an⟩:=id h;rw[ay,ac b6.p rfl,ad Ψ (ae.Q5 rfl),aN,iv,ay,ac b6.p rfl];refine bh (g:=g) (o:=5) ao.i rfl rfl ae (by simp[e5]) λU W aP X=>?_;have X:af U g b6 (e5 gs 0 big ah ai (min (Y6.wrap (told+n)) 4611686018427387904) sv):=X;rw[ay,ac b6.p rfl,ad Ψ (X.Q5 rfl),bR];have key:s.big=false->min (Y6.wrap (told+n)) 4611686018427387904=min (s.told+n) ax:=λY=>by
   rw[al.2 Y];have:=hi Y;unfold ax at aQ ⊢;rw[wrap_i64 Ω Ω]
  have aT:c5 U g gs A B {s with told:=min (s.told+n) ax} clean:=⟨I.aa W,aR.aa W (λhe=>I.1 he.symm) (λr aU he=>aU.1 (.inl he)),⟨by show 0<=min _ _;unfold ax;omega,by show min _ _<=_;omega,aS.2.2⟩,big,ah,ai,_,sv,X,⟨al.1,key⟩,am.aa an W λr _ h ap=>q8 h I.2.1 ap⟩;refine (rb aT).mono ?_;rintro _ V _ ⟨aV,aw⟩;refine aq _ ((W.trans aV).mono λr _ h=>.inl h) ?_;have e:a8 (decide (16384<min (Y6.wrap (told+n)) 4611686018427387904)) {s with told:=min (s.told+n) ax}=iG n s:=by
   cases Y:s.big with
   |false=>rw[key Y,<-Y];rfl
   |true=>simp[iG,a8,Y]
  rw[e] at aw;exact aw
def hN (sizes:Λ) (s:Option aH):Option (List (Λ×Int)×aH):=s.bind (dA sizes)
def jT (w:x2) (m:Nat) (acc:List (Λ×Int)):Prop:=cS w m (acc.map λp=>(bz (dM p.1),Δ 1))
def jj (w:x2) (m:Nat):Prop:=∃d,cS w m d/\ ∀p∈d,∃ (k:ByteArray) (c:Int),p=(.string k,Δ c)
theorem jT.any {acc:List (Λ×Int)} (h:jT w m acc):jj w m:=⟨_,h,λp I=>by
 obtain⟨q,_,rfl⟩:=Z1.1 I;exact⟨_,_,rfl⟩⟩
theorem Ia {k:ByteArray} (h:jj w m) (V:∀c:Int,K (Δ c)):J x3 (Instr.lookup ga (.map (σ m)) (.string k) false) w K:=by
 obtain⟨d,hm,W⟩:=h;have X:=Keys.str cP.u;have Y:∀p∈d,∃s,p.1=x1.string s:=λp I=>by obtain⟨s,c,rfl⟩:=W p I;exact⟨s,rfl⟩
 by_cases he:∃p∈d,p.1=x1.string k
 .obtain⟨p,I,U⟩:=he;obtain⟨j,aa⟩:=Y7.1 I;obtain⟨s,c,rfl⟩:=W p I;have U:x1.string s=x1.string k:=U;rw[U] at aa;rw[pc ga.u X hm Y ⟨k,rfl⟩ aa];exact V c
 .have ac:∀p∈d,p.1≠x1.string k:=λp I h=>he ⟨p,I,h⟩;rw[rm ga.u X ⟨_,_,ab.i⟩ hm Y ⟨k,rfl⟩ ac];exact V 0
theorem Ib {k:ByteArray} {K:Unit->x2->Prop} (h:jj w m) (W:∀w',ag (λr=>r=m) w w'->jj w' m->K () w'):aA x3 (Instr.mapUpdate ga (.map (σ m)) (.string k) (Δ c)) w K:=by
 obtain⟨d,hm,J⟩:=h;have X:∀p∈d,∃s,p.1=x1.string s:=λp I=>by obtain⟨s,c,rfl⟩:=J p I;exact⟨s,rfl⟩
 refine pd ga.u (Keys.str cP.u) hm X ⟨k,rfl⟩ (λj v0 w' Y U V=>W w' V ⟨_,U,λp I=>?_⟩) (λw' aa U V=>W w' V ⟨_,U,λp I=>?_⟩)
 .rcases V7 I with I|rfl
  .exact J p I
  .exact⟨_,_,rfl⟩
 .rcases n9.1 I with I|I
  .exact J p I
  .rw[j4.1 I];exact⟨_,_,rfl⟩
theorem zK {b:Λ} (I:∀x∈a,0<=x) (J:∀x∈b,0<=x) (h:bz (dM a)=bz (dM b)):a=b:=by
 have h:strOfNums (dM a)=strOfNums (dM b):=x1.string.inj h;exact yk I J (str_inj (yl a) (yl b) h)
theorem ue {acc:List (Λ×Int)}:∀p∈acc.map λp=>(bz (dM p.1),V4 .i64 1),∃s,p.1=x1.string s:=λp I=>by
 obtain⟨q,_,rfl⟩:=Z1.1 I;exact⟨_,rfl⟩
theorem zL {acc:List (Λ×Int)} {t:Λ} (h:jT w m acc) (W:∀p∈acc,∀x∈p.1,0<=x) (X:∀x∈t,0<=x):
  J x3 (Instr.lookup ga (.map (σ m)) (bz (dM t)) false) w K=K (Δ (if t∈acc.map (·.1) then 1 else 0)):=by
 have U:=Keys.str cP.u;by_cases he:t∈acc.map (·.1)
 .rw[if_pos he];obtain⟨p,I,rfl⟩:=Z1.1 he;obtain⟨j,Y⟩:=Y7.1 I;rw[pc ga.u U h ue ⟨_,rfl⟩ (j:=j) (v:=Δ 1) (by rw[x8,Y];rfl)];simp
 .rw[if_neg he];rw[rm ga.u U ⟨_,_,ab.i⟩ h ue ⟨_,rfl⟩ (λp I aa=>?_)]
  .simp
  .obtain⟨q,V,rfl⟩:=Z1.1 I;have:=zK (W q V) X aa;exact he (Z1.2 ⟨q,V,this⟩)
theorem Ic {acc:List (Λ×Int)} {t:Λ} {K:Unit->x2->Prop} (h:jT w m acc) (X:∀p∈acc,∀x∈p.1,0<=x) (Y:∀x∈t,0<=x) (aa:t∉acc.map (·.1))
  (ab:∀w',ag (λr=>r=m) w w'->jT w' m (acc++[(t,c)])->K () w'):aA x3 (Instr.mapUpdate ga (.map (σ m)) (bz (dM t)) (Δ 1)) w K:=by
 refine pd ga.u (Keys.str cP.u) h ue ⟨_,rfl⟩ (λj v0 w' J U V=>?_) (λw' _ U V=>ab w' V ?_)
 .rw[x8] at J;obtain⟨q,W,I⟩:=X0.1 J;have I:bz (dM q.1)=bz (dM t):=congrArg Prod.fst I;have:=zK (X q (x5 W)) Y I;exact absurd (Z1.2 ⟨q,x5 W,this⟩) aa
 .unfold jT;rw[Z3];exact U
end Go.Proofs.YtgbkinibgjmodaaGreatDoor
