/- own texts, made small by a tool (wip/ holds them as they were written): no statement of the seat. -/
import Derived.Test.YthjegppepbbojaaGreatDoorZa
set_option linter.unusedVariables false
set_option linter.unusedSimpArgs false
set_option linter.unnecessarySimpa false
open Array renaming getElem?_eq_some_iff→Z1,getElem?_toList→R4
open BitVec renaming ofInt→T4
open Bool renaming not_true→Y6,not_false→W6,eq_iff_iff→U4,and_eq_true→U8,or_eq_false_iff→R3
open Decidable renaming not_not→X9
open Go renaming Value→y0,World→x2,TypeId→o4,IntKind→o6,Builtin→j5,Program→V2
open Go.Addr renaming add_mid→T3
open Go.Builtin renaming append_→j4,len_→X0
open Go.Instr renaming loadAt→x7,fieldAt→x8,storeAt→o7,indexAt→l7,extract→Y0,buildSlice→Y1,sliceAt→V5
open Go.IntKind renaming i64→X2,u64→T0
open Go.Proofs.Tryz renaming prog→x3
open Go.Result renaming andThen→V1
open Go.Sem renaming run_bind→W9,run_pure→V7
open Go.Value renaming int→U1
open Int renaming toNat_natCast→j0
open List renaming getElem?_eq_some_iff→x4,mem_of_getElem?→x5,getElem?_eq_getElem→x6,getElem?_map→u4,length_map→u5,getD_eq_getElem?_getD→u9,length_append→r8,take_add_one→r9,length_take→o5,replicate→o8,take_length→o9,take_of_length_le→n0,mem_append→l5,mem_singleton→l9,map_append→j9,append_assoc→Z4,length_cons→Z5,mem_map→Z6,eq_nil_of_length_eq_zero→Z8,getElem?_append_left→Y3,getElem?_append_right→Y5,getElem?_take_of_lt→Y7,getElem?_eq_none→Y9,flatMap_cons→X3,mem_iff_getElem?→X4,append_nil→X6,length_set→W0,getElem?_set→W3,ext_getElem?→W5,mem_or_eq_of_mem_set→W8,range→V0,getElem?_set_ne→V3,drop_eq_getElem_cons→V4,length_singleton→U2,pairwise_iff_getElem→U3,getElem?_set_self→U5,mem_cons→T1,map_cons→T2,set_append_right→T6,map_set→T8,length→T9,getElem_mem→S3,length_drop→Q2
open Nat renaming le_refl→n9,mul_le_mul_right→X1,zero_le→X7,le_trans→X8,zero_add→V8,sub_self→V9,add_mul→U7,mul_one→S2,min_eq_left→S4,pow_le_pow_right→R5,le_succ→R6,add_assoc→Q0,add_sub_cancel_left→Q1
open Ne renaming symm→S6
open Option renaming toList_some→j6,isNone_some→Z7,map_some→Y4,map_eq_some_iff→X5,getD_some→S1
open Option.some renaming inj→Z9,injEq→Y8
open Prod renaming mk→R8
open Prod.mk renaming injEq→T5
set_option maxHeartbeats 16000000
open Option renaming some→σ,none→ν
variable {J N gs j m n r:Nat}{e t:o4}{at_ c hi k lo o y:Int}{sv v z:y0}{cs:List y0}{K:y0->Prop}{V:o6}{C a ks l szs:Λ}{w w':x2}{clean cx cy:Bool}{S:Nat->Prop}
namespace Go.Proofs.YthjegppepbbojaaGreatDoor
open Go Go.Vc Go.RowKit Go.Proofs Go.Proofs.Tryz
set_option maxRecDepth 100000
structure Cell where
 v:Int
 st:Nat
structure jB where
 i:Nat
 c:Cell
structure mO where
 olds:Nat
 cells:Nat
 st:Nat
structure aC where
 cells:List Cell
 olds:List jB
 marks:List mO
 ever:Nat
def aC.b3 (t:aC):Λ:=t.cells.map (·.v)
def aC.set (t:aC) (i:Nat) (x:Int):aC:=match t.cells[i]? with
 |none=>t
 |some c=>match t.marks.getLast? with
  |none=>{t with cells:=t.cells.set i ⟨x,c.st⟩}
  |some m=>if c.st<m.st/\i<m.cells then {t with olds:=t.olds++[⟨i,c⟩],cells:=t.cells.set i ⟨x,m.st⟩} else {t with cells:=t.cells.set i ⟨x,c.st⟩}
def aC.grow (t:aC) (n:Nat):aC:={t with cells:=t.cells++o8 n ⟨0,0⟩}
def aC.mark (t:aC):aC:={t with marks:=t.marks++[⟨t.olds.length,t.cells.length,t.ever+1⟩],ever:=t.ever+1}
def back (os:List jB) (cs:List Cell):List Cell:=os.foldr (λo cs=>cs.set o.i o.c) cs
def aC.iE (t:aC) (m:Nat):aC:=match t.marks[m]? with
 |none=>t
 |some x=>{cells:=(back (t.olds.drop x.olds) t.cells).take x.cells,olds:=t.olds.take x.olds,marks:=t.marks.take m,ever:=t.ever}
theorem mP:∀ (os:List jB) (cs:List Cell),(back os cs).length=cs.length
 |[],_=>rfl
 |o::os,cs=>by
  have:=mP os cs;show ((back os cs).set o.i o.c).length=_;rw[W0,this]
theorem back_append (a b:List jB) (cs:List Cell):back (a++b) cs=back a (back b cs):=by unfold back;rw[List.foldr_append]
theorem ul:∀ {os:List jB} {cs:List Cell} {n:Nat},(back os cs).take n=back (os.filter λo=>decide (o.i<n)) (cs.take n)
 |[],cs,n=>rfl
 |o::os,cs,n=>by
  show ((back os cs).set o.i o.c).take n=_;by_cases h:o.i<n
  .rw[List.filter_cons_of_pos (by simpa using h),List.take_set,ul];rfl
  .rw[List.filter_cons_of_neg (by simpa using h),List.take_set_of_le Ω,ul]
theorem um {os:List jB} {cs:List Cell} (h:∀o∈os,o.i<n):(back os cs).take n=back os (cs.take n):=by
 rw[ul,List.filter_eq_self.2 λo J=>by simpa using h o J]
theorem yS:∀ {os:List jB} {cs J:List Cell} {i:Nat},cs.length=J.length->(∃o∈os,o.i=i)->(back os cs)[i]? =(back os J)[i]?
 |[],_,_,_,_,⟨_,h,_⟩=>by cases h
 |o::os,cs,J,i,V,hm=>by
  show ((back os cs).set o.i o.c)[i]? =((back os J).set o.i o.c)[i]?;rw[W3,W3];by_cases h:o.i=i
  .rw[if_pos h,if_pos h,mP,mP,V]
  .rw[if_neg h,if_neg h];obtain⟨x,U,he⟩:=hm;rcases T1.1 U with rfl|U
   .exact absurd he h
   .exact yS V ⟨x,U,he⟩
theorem yT:∀ {os:List jB} {cs J:List Cell} {i:Nat},cs[i]? =J[i]? ->cs.length=J.length->(back os cs)[i]? =(back os J)[i]?
 |[],_,_,_,h,_=>h
 |o::os,cs,J,i,h,U=>by
  show ((back os cs).set o.i o.c)[i]? =((back os J).set o.i o.c)[i]?;rw[W3,W3,mP,mP,U,yT h U]
def eC:aC->List aC->Prop
 |t,[]=>t.marks=[]/\t.olds=[]/\ ∀c∈t.cells,c.st<=t.ever
 |t,s::h=>eC s h/\(∀c∈t.cells,c.st<=t.ever)/\ ∃m new,t.marks=s.marks++[m]/\m.olds=s.olds.length/\m.cells=s.cells.length/\t.olds=s.olds++new/\m.cells<=t.cells.length/\(back new t.cells).take m.cells=s.cells/\
   (∀c∈s.cells,c.st<m.st)/\(∀c∈t.cells,c.st<=m.st)/\(∀ (i:Nat) c,i<m.cells->t.cells[i]? =σ c->c.st=m.st-> ∃o∈new,o.i=i)/\(∀o∈new,o.i<m.cells)/\m.st<=t.ever/\s.ever<=t.ever
theorem eC.len:∀ {h:List aC} {t:aC},eC t h->t.marks.length=h.length
 |[],t,hk=>by rw[hk.1];rfl
 |s::h,t,hk=>by
  obtain⟨h1,_,m,new,J,_⟩:=hk;rw[J,r8,eC.len h1];rfl
theorem eC.GZ {h:List aC} {t:aC} (hk:eC t h):∀c∈t.cells,c.st<=t.ever:=by
 cases h with
 |nil=>exact hk.2.2
 |cons s h=>exact hk.2.1
theorem eC.mark {h:List aC} {t:aC} (hk:eC t h):eC t.mark (t::h):=by
 have J:=hk.GZ;refine⟨hk,λc U=>X8 (J c U) (R6 _),⟨t.olds.length,t.cells.length,t.ever+1⟩,[],rfl,rfl,rfl,by show t.olds=_;rw[X6],n9 _,?_,λc U=>Nat.lt_succ_of_le (J c U),λc U=>X8 (J c U) (R6 _),λi c _ hi he=>?_,λo V=>(by cases V),n9 _,R6 _⟩
 .show t.cells.take t.cells.length=_;rw[o9]
 .have:=J c (x5 hi);have he:c.st=t.ever+1:=he;omega
theorem eC.grow {h:List aC} {t:aC} (hk:eC t h):eC (t.grow n) h:=by
 cases h with
 |nil=>
  refine⟨hk.1,hk.2.1,λc J=>?_⟩;rcases l5.1 J with J|J
  .exact hk.2.2 c J
  .rw[(List.mem_replicate.1 J).2];exact X7 _
 |cons s h=>
  obtain⟨h1,W,m,new,X,Y,a3,a4,a5,aa,ab,ac,a9,U,ad,ae⟩:=hk;have V:∀ {b:Nat},(∀c∈t.cells,c.st<=b)-> ∀c∈(t.grow n).cells,c.st<=b:=λaf c J=>by
   rcases l5.1 J with J|J
   .exact af c J
   .rw[(List.mem_replicate.1 J).2];exact X7 _
  refine⟨h1,V W,m,new,X,Y,a3,a4,by show m.cells<=(t.cells++_).length;rw[r8];omega,?_,ab,V ac,λi c hi J he=>?_,U,ad,ae⟩
  .show (back new (t.cells++_)).take m.cells=_;rw[um U,List.take_append_of_le_length a5,<-um U];exact aa
  .have J:(t.cells++o8 n ⟨0,0⟩)[i]? =σ c:=J;rw[Y3 Ω] at J;exact a9 i c hi J he
theorem G0 {s:aC} {m:mO} {l:List mO} (h:l=s.marks++[m]):l.getLast? =σ m:=by rw[h,List.getLast?_concat]
theorem eC.set {h:List aC} {t:aC} {i:Nat} {x:Int} (hk:eC t h):eC (t.set i x) h:=by
 unfold aC.set;cases X:t.cells[i]? with
 |none=>exact hk
 |some c=>
  have ah:=(x4.1 X).1;have ab:=x5 X;have Y:∀ {b st:Nat},(∀c∈t.cells,c.st<=b)->st<=b-> ∀d∈t.cells.set i ⟨x,st⟩,d.st<=b:=λao ae d J=>by
   rcases W8 J with J|rfl
   .exact ao d J
   .exact ae
  cases h with
  |nil=>
   obtain⟨h1,aa,ai⟩:=hk;simp only[h1,List.getLast?_nil];exact⟨rfl,aa,Y ai (ai c ab)⟩
  |cons s h=>
   obtain⟨h1,aa,m,new,af,aj,a3,a4,a5,ak,al,ac,a9,am,ag,an⟩:=hk;simp only[G0 af];by_cases ad:c.st<m.st/\i<m.cells
   .rw[if_pos ad];refine⟨h1,Y aa ag,m,new++[⟨i,c⟩],af,aj,a3,by show t.olds++_=_;rw[a4,Z4],by show m.cells<=(t.cells.set i _).length;rw[W0];exact a5,?_,al,Y ac (n9 _),λj d U J he=>?_,λo W=>?_,ag,an⟩
    .show (back (new++[⟨i,c⟩]) (t.cells.set i _)).take m.cells=_;rw[back_append];have:back [⟨i,c⟩] (t.cells.set i ⟨x,m.st⟩)=t.cells:=by
      show (t.cells.set i _).set i c=_;rw[List.set_set];refine W5 λj=>?_;rw[W3];by_cases U:i=j
      .subst U;rw[if_pos rfl,if_pos ah,X]
      .rw[if_neg U]
     rw[this];exact ak
    .have J:(t.cells.set i ⟨x,m.st⟩)[j]? =σ d:=J;by_cases V:i=j
     .exact⟨⟨i,c⟩,Ξ,V⟩
     .rw[W3,if_neg V] at J;obtain⟨o,W,he⟩:=a9 j d U J he;exact⟨o,List.mem_append_left _ W,he⟩
    .rcases l5.1 W with W|W
     .exact am o W
     .rw[l9.1 W];exact ad.2
   .rw[if_neg ad];refine⟨h1,Y aa (aa c ab),m,new,af,aj,a3,a4,by show m.cells<=(t.cells.set i _).length;rw[W0];exact a5,?_,al,Y ac (ac c ab),λj d U J he=>?_,am,ag,an⟩
    .rw[<-ak];show (back new (t.cells.set i _)).take m.cells=_;refine W5 λj=>?_;by_cases U:j<m.cells
     .rw[Y7 U,Y7 U];by_cases V:i=j
      .subst V;have ae:c.st=m.st:=by
        have:=ac c ab;have:¬c.st<m.st:=λaw=>ad ⟨aw,U⟩;omega
       exact yS (by rw[W0]) (a9 i c U X ae)
      .exact yT (by rw[W3,if_neg V]) (by rw[W0])
     .rw[Y9 (by rw[o5];omega),Y9 (by rw[o5];omega)]
    .have J:(t.cells.set i ⟨x,c.st⟩)[j]? =σ d:=J;by_cases V:i=j
     .subst V;rw[W3,if_pos rfl,if_pos ah] at J;cases J;exact a9 i c U X he
     .rw[W3,if_neg V] at J;exact a9 j d U J he
theorem eC.iE:∀ {h:List aC} {t:aC} {m:Nat} {s:aC},eC t h->h.reverse[m]? =σ s->t.iE m={s with ever:=t.ever}/\ ∃x,t.marks[m]? =σ x/\x.olds=s.olds.length/\x.cells=s.cells.length/\s.cells.length<=t.cells.length/\(∃new,t.olds=s.olds++new/\(back new t.cells).take s.cells.length=s.cells/\ ∀o∈new,o.i<t.cells.length)/\s.marks=t.marks.take m/\s.ever<=t.ever
 |[],t,m,s,_,J=>by simp at J
 |s1::h,t,m,s,hk,J=>by
  obtain⟨h1,au,mk,new,aa,ad,a3,a4,a5,ae,av,aw,a9,af,ax,ak⟩:=hk;have ag:=h1.len;have key:∀ {x:mO},t.marks[m]? =σ x->x.olds=s.olds.length->x.cells=s.cells.length->(∃V,t.olds=s.olds++V/\(back V t.cells).take s.cells.length=s.cells)->s.marks=t.marks.take m->t.iE m={s with ever:=t.ever}:=λ{x} W al am ⟨V,ab,X⟩ Y=>by
   unfold aC.iE;rw[W];simp only;rw[al,am,ab,List.drop_left,List.take_left,X,<-Y]
  rw[List.reverse_cons] at J;by_cases hm:m<h.length
  .rw[Y3 (by simpa using hm)] at J;obtain⟨_,x,an,ah,ai,ay,⟨V,ao,ap,aj⟩,aq,az⟩:=eC.iE h1 J;have W:t.marks[m]? =σ x:=by rw[aa,Y3 Ω];exact an
   have ab:t.olds=s.olds++(V++new):=by rw[a4,ao,Z4]
   have X:(back (V++new) t.cells).take s.cells.length=s.cells:=by
    rw[back_append];have:((back V (back new t.cells)).take mk.cells).take s.cells.length=s.cells:=by
     rw[um (λo U=>by have:=aj o U;omega),ae];exact ap
    rw[List.take_take,S4 Ω] at this;exact this
   have Y:s.marks=t.marks.take m:=by rw[aa,List.take_append_of_le_length Ω];exact aq
   refine⟨key W ah ai ⟨_,ab,X⟩ Y,x,W,ah,ai,Ω,⟨_,ab,X,λo U=>?_⟩,Y,Ω⟩;rcases l5.1 U with U|U
   .have:=aj o U;omega
   .have:=af o U;omega
  .have ac:m=h.length:=by
    have:=(x4.1 J).1;simp at this;omega
   rw[Y5 Θ] at J;simp only[List.length_reverse,ac,V9,List.getElem?_cons_zero,Y8] at J;subst J;have W:t.marks[m]? =σ mk:=by rw[aa,Y5 Ω,ac,ag,V9];rfl
   have Y:s1.marks=t.marks.take m:=by rw[aa,ac,<-ag,List.take_left]
   have X:(back new t.cells).take s1.cells.length=s1.cells:=by rw[<-a3];exact ae
   exact⟨key W ad a3 ⟨new,a4,X⟩ Y,mk,W,ad,a3,Ω,⟨new,a4,X,λo U=>by have:=af o U;omega⟩,Y,ak⟩
theorem aC.n7 {t:aC} {i:Nat} {x:Int}:(t.set i x).b3=t.b3.set i x:=by
 unfold aC.set aC.b3;cases J:t.cells[i]? with
 |none=>rw[List.set_eq_of_length_le (by rw[u5];exact List.getElem?_eq_none_iff.1 J)]
 |some c=>
  simp only;cases t.marks.getLast? with
  |none=>simp only;rw[T8]
  |some m=>simp only;split<;>rw[T8]
theorem aC.G1 {t:aC}:(t.grow n).b3=t.b3++o8 n 0:=by
 unfold aC.grow aC.b3;rw[j9,List.map_replicate]
end Go.Proofs.YthjegppepbbojaaGreatDoor
namespace Go.Vc
open Go Go.RowKit
section
variable {P:V2} {w:x2} {m:Bool} {S R:ah}
theorem rD {b k l h:Nat} {low high:Option y0} (X:P.underlying t=σ (.slice e)) (hi:aO P e k b z)
  (J:b6 w k v n cs) (h1:kY low l) (Y:kZ high n h) (V:l<=h) (aw:h<=n) (aa:∀W,b6 w k W (h-l) ((cs.drop (l*k)).take ((h-l)*k))->K W):
  U P (V5 t v low high ν) w K:=by
 have ab:=J;obtain⟨_,ac,o,base,cap,rfl,ad,_⟩:=J;rw[fM X hi h1 Y eJ V Ω (n9 _)];exact aa _ (b6.part ab V aw Ω (n9 _))
theorem G2 {k:o6} {b i:Nat} (W:y=(i:Int)) (X:P.underlying t=σ (.slice e)) (hi:aO P e 1 b z)
  (h:aH k w v l) (Y:i<=l.length) (aa:∀J,aH k w J (l.drop i)->K J):U P (V5 t v (σ (.int V y)) ν ν) w K:=by
 refine rD X hi h (mB i y W) h5 Y (n9 _) λJ h'=>aa J (aH.of (n:=l.length-i) ?_);have ab:((ints k l).drop (i*1)).take ((l.length-i)*1)=ints k (l.drop i):=by
  rw[n0 Ξ,S2,ints,<-List.map_drop]
 rw[ab] at h';exact h'
theorem uo {k:o6} {b i:Nat} (W:y=(i:Int)) (X:P.underlying t=σ (.slice e)) (hi:aO P e 1 b z)
  (h:aH k w v l) (Y:i<=l.length) (aa:∀J,aH k w J (l.take i)->K J):U P (V5 t v ν (σ (.int V y)) ν) w K:=by
 refine rD X hi h h4 (mC i y W) (X7 _) Y λJ h'=>aa J (aH.of (n:=i) ?_);have ab:((ints k l).drop (0*1)).take ((i-0)*1)=ints k (l.take i):=by
  simp[ints,List.map_take]
 rw[ab] at h';exact h'
theorem n8 {b:Nat} {parts:Array (Nat×y0)} {K:y0->x2->Prop} (J:P.underlying t=σ (.slice e)) (hi:aO P e 1 b (Δ 0)) (ab:n<=100000) (U:l.length=n)
  (V:Instr.fill (λj=>σ (j*1,1)) ((Array.range (n*1)).map ((if n*1=0 then #[] else (U1 .i64 0).cells)[·% (if n*1=0 then #[] else (U1 .i64 0).cells).size]!)) parts.toList=σ (ints .i64 l).toArray)
  (W:∀v g w',g=w.heap.size->Ext w w'->ao .i64 e w' g v l->K v w'):ay P (Y1 t n parts) w K:=
 iX J hi Ω V λg w' X Y aa=>W _ g w' X Y (ao.of (n:=n) (b1.full (by simpa using aa) (by simp[U]) (by simp[maxLen];omega)))
end
section
variable {P:V2} {w:x2}
theorem G3 {V W:o4} {X kn:o6} {b k cap:Nat} {base:Option Addr} {xs:List y0} {K:y0->x2->Prop} (ab:y=(k:Int)) (ac:P.underlying t=σ (.slice e)) (ad:P.underlying V=σ (.int kn)) (hi:aO P e 1 b z) (ae:z.cells= #[z])
  (J:b6 w 1 (.slice base n cap) n xs) (af:0<k) (Y:cap<n+k) (ag:(n+k)*b<=140737488355328) (ah:n+k<=9223372036854775807)
  (ai:∀v g w',g=w.heap.size->Ext w w'->b1 w' g e 1 v (n+k) (xs++o8 k z)->K v w'):ay P (j4 #[t,V] W #[.slice base n cap,.int X y]) w K:=by
 subst ab;obtain⟨i,hi,aj,rfl,ak⟩:=hi;obtain⟨U,ax,o,az,aA,he,al,aB,am,an⟩:=J;cases he;have ao:(j5.firstCells i.size n (.slice base n cap)).run P w.drew= .ok xs.toArray w.drew:=by
  rcases Nat.eq_zero_or_pos n with rfl|ap
  .have:xs=[]:=Z8 (by simpa using U);subst this;cases base with
   |none=>exact run_firstCells_none w.drew i.size 0 0 cap
   |some a=>exact run_firstCells_some w.drew i.size 0 a 0 cap [] Ξ Ξ
  .have:=am ap;subst this;refine run_firstCells_some w.drew i.size n _ n cap xs (by rw[aj];exact U) λj u hu=>?_;rw[T3];exact an j u hu
 have aq:k*i.bytes<=281474976710656:=by
  have:k*i.bytes<=(n+k)*i.bytes:=X1 _ Ω;omega
 have au:=Lib.run_append_grow_zeros (P:=P) w t V W e i z X kn ac ad hi ak base n cap xs ao k af Ω Y Ω aq (growslice_fits Y ag);have av:n+k<=grownCap w (n+k) cap e:=grownCap_ge w _ _ _;have aw:grownCap w (n+k) cap e<=maxLen:=grownCap_le_maxLen w (n+k) cap e (by simpa[maxLen] using ah);have aa:∀m,j5.zeroCells z.cells m=(o8 m z).toArray:=λm=>by
  rw[ae];apply Array.ext
  .simp[size_zeroCells]
  .intro j h1 al;simp[j5.zeroCells,Nat.mod_one]
 refine .of au ((o3 w _ (R6 _)).trans (pb _ _)) (ai _ w.heap.size _ rfl ((qI w _).trans (pa _ _)) ⟨by simp at U;simp[U],.inr ⟨_,xs++o8 k z++o8 (grownCap w (n+k) cap e-(n+k)) z,rfl,?_,av,aw,?_,?_⟩⟩)
 .rw[aa,aa];have:=heap_alloc_new w.drew (.cells (xs.toArray++(o8 k z).toArray++(o8 (grownCap w (n+k) cap e-(n+k)) z).toArray) e);rw[List.append_toArray,List.append_toArray] at this ⊢;exact this
 .simp at U;simp[U];omega
 .simp at U;rw[List.take_append_of_le_length (by simp[U]),n0 (by simp[U])]
theorem yU {J:o4} {base:Option Addr} {c:Nat} (V:P.underlying t=σ (.slice e)):
  U P (j5.cap_ #[t] J #[.slice base n c]) w K=K (Δ c):=U.of λw' _=>by simp[j5.cap_,run_underlying V,goInt]
theorem G4 {g o k c:Nat} (h:ad w g e cs) (hk:o+k<=cs.length) (U:k<=c) (V:c<=maxLen):b6 w 1 (.slice (σ ⟨g,o,ν⟩) k c) k ((cs.drop o).take k):=by
 refine⟨Θ,g,o,_,c,rfl,U,V,λ_=>rfl,λj v J=>?_⟩;have W:=(x4.1 J).1;simp at W;rw[Y7 Ω,List.getElem?_drop] at J;exact h.cell J
theorem yV {V W:o4} {X g o cap:Nat} {K:y0->x2->Prop} (Y:P.underlying t=σ (.slice e)) (hi:aO P e 1 X z) (aa:z.cells= #[z]) (h1:z.oneCell'=true)
  (J:ad w g W cs) (ac:0<n) (aj:o+n<=cs.length)
  (af:∀w',ae (λr=>r=g) w w'->w'.heap.size=w.heap.size->ad w' g W (over cs o (o8 n z))->K (.tuple #[]) w'):ay P (j5.clear_ #[t] V #[.slice (σ ⟨g,o,ν⟩) n cap]) w K:=by
 obtain⟨i,hi,ak,rfl,ag⟩:=hi;have ah:=Lib.run_clear_slice (P:=P) w t e V z Y (λw=>by simp[zeroValue,typeInfo,hi,ag]) aa h1 g o n cap ac
  (λj al=>by rw[J.cell (x6 (show o+j<cs.length by omega))];rfl) (λj _=>J.frozen _ _)
 obtain⟨ai,U⟩:=mF (o8 n z) cs o w J;exact .of ah (U.dc J) (af _ U.ab U.size ai)
end
section
variable {P:V2} {w:x2}
theorem hI {J:o4} {k:o6} {i b g:Nat} (W:y=(i:Int)) (X:P.underlying t=σ (.slice e)) (hi:aO P e 1 b z)
  (h:ao k J w g v l) (Y:i<l.length):U P (l7 t v (.int V y)) w K=K (.pointer (σ ⟨g,i,ν⟩)):=by
 subst W;obtain⟨_,⟨_,aa⟩|⟨cap,cs,rfl,_⟩⟩:=h
 .omega
 .rw[fz X hi Y (λ_=>rfl)];simp
theorem rE {k:o6} {i b:Nat} {x:Int} (W:y=(i:Int)) (X:P.underlying t=σ (.slice e)) (hi:aO P e 1 b z)
  (h:aH k w v l) (J:l[i]? =σ x) (Y:∀b o,w.cell? ⟨b,o,ν⟩=σ (.int k x)->K (.pointer (σ ⟨b,o,ν⟩))):U P (l7 t v (.int V y)) w K:=by
 subst W;have aa:=(x4.1 J).1;obtain⟨_,_,_,_,_,rfl,_,_,ab,ac⟩:=h;rw[fz X hi aa ab,S2];exact Y _ _ (ac i _ (ke J))
theorem hJ {U:o4} {k:o6} {i b g:Nat} {x:Int} {K:Unit->x2->Prop} (hi:aO P e 1 b z)
  (h:ao k U w g v l) (ag:i<l.length) (X:∀w',ae (λr=>r=g) w w'->w'.heap.size=w.heap.size->ao k U w' g v (l.set i x)->K () w'):ay P (o7 e (.pointer (σ ⟨g,i,ν⟩)) (.int k x)) w K:=by
 obtain⟨ah,⟨_,ai⟩|⟨cap,full,rfl,Y,aa,ab,V,W⟩⟩:=h
 .omega
 .have ac:i<full.length:=by simp at V;omega
  refine bj hi rfl rfl Y ac λw' ad J af=>X w' ad J ⟨Ξ,.inr ⟨cap,full.set i (.int k x),Ξ,af,by simpa using aa,ab,by simpa using V,?_⟩⟩;simp only[W0,S2] at W ⊢;rw[List.take_set,W,ints,ints,T8]
theorem iF {b o:Nat} (J:kd P t=true) (h:w.cell? ⟨b,o,ν⟩=σ v):bw P (x7 t (.pointer (σ ⟨b,o,ν⟩))) v w:=λw' U=>by
 have h':=my U h;unfold kd at J;cases hu:P.underlying t with
 |none=>rw[hu] at J;cases J
 |some d=>
  rw[hu] at J;cases d<;>first|(cases J;done)|simp[x7,Instr.sureAddr,loadVar,isAgg,run_underlying hu,h']
theorem iZ {k:o6} {S:ah} (h:aH k w v l) (V:ae S w w') (W:∀r,S r-> ∀a n c,v= .slice (σ a) n c->a.block≠r):aH k w' v l:=by
 obtain⟨h1,b,o,base,cap,rfl,X,Y,J,aa⟩:=h;refine⟨h1,b,o,base,cap,rfl,X,Y,J,?_⟩;rcases Nat.eq_zero_or_pos l.length with U|U
 .intro j u hu;have:=(x4.1 hu).1;simp at this;omega
 .have ab:=J U;subst ab;exact nY V (λh=>W _ h _ _ _ rfl rfl) aa
end
end Go.Vc
namespace Go.Vc
open Go Go.RowKit Go.ChangeShapes Go.WideShapes
structure k5 (P:V2) (t:o4) (α:Type) [al α] (G:α->Prop):Prop where
 op:∀ {H:Type} {enc:o4×y0->H} {w:x2} {base:Nat} {spare:Nat->Bool} {held:Bool} {fuel:Nat} {cs:List y0} {x:DataW H×List MemPlace},
  DataW.trod enc P w base spare held fuel t cs=σ x-> ∃a:α,Seen dr w cs a/\G a
section
variable {P:V2} {α β:Type} [al α] [al β]
theorem yW {k:o6} {n:Int} (h:(Lit.int k n).wf=true):k.min<=n/\n<=k.max:=by simpa[Lit.wf] using h
theorem yX {k:o6} (J:P.underlying t=σ (.int k)):k5 P t (eR k) λn=>k.min<=n.val/\n.val<=k.max:=⟨λh=>by
 obtain⟨n,rfl,_,hw⟩:=DataW.trod_int J h;exact⟨(n:Int),rfl,yW hw⟩⟩
theorem oa (J:P.underlying t=σ (.int .i64)):k5 P t Int λn=>X2.min<=n/\n<=X2.max:=⟨λh=>by
 obtain⟨n,rfl,_,hw⟩:=DataW.trod_int J h;exact⟨n,rfl,yW hw⟩⟩
theorem G5 (J:P.underlying t=σ .bool):k5 P t Bool λ_=>True:=⟨λh=>by
 obtain⟨b,rfl,_⟩:=DataW.trod_bool J h;exact⟨b,rfl,trivial⟩⟩
theorem G6 (a:Addr) (m n:Nat):(a.add m).add n=a.add (m+n):=by
 unfold Addr.add;by_cases hm:m=0<;>by_cases J:n=0<;>simp[hm,J,Q0]
theorem G7 {base:Nat} {a:Addr} (h:w.cells? base a n=σ cs):cs.length=n/\ ∀j v,cs[j]? =σ v->w.cell? (a.add j)=σ v:=by
 unfold x2.cells? at h;split at h
 .have U:cs.length=n:=by
   have:=mapM_some_length h;simpa using this
  refine⟨U,λj v J=>?_⟩;have V:=(x4.1 J).1;have:=mapM_some_get h j j (List.getElem?_range Ω);rw[this,J]
 .cases h
theorem rF {G:α->Prop} (ai:P.underlying t=σ (.slice e)) (he:k5 P e α G) (aj:P.cellsOf e=al.n α) (au:0<al.n α):k5 P t (List α) λl=>∀a∈l,G a:=by
 constructor;intro H enc w base spare held fuel cs x h;rcases DataW.trod_slice ai h with⟨rfl,_⟩|⟨a,len,cap,av,rest,n,_,rfl,rfl,aw,ax,hm,ay,ak,_,_⟩
 .exact⟨[],fN,λ_ h=>by cases h⟩
 .
  have ag:∀i,i<len-> ∃ (c:List y0) (y:α),c.length=al.n α/\(∀j v,c[j]? =σ v->w.cell? (a.add (i*al.n α+j))=σ v)/\Seen dr w c y/\G y:=by
   intro i hi;have h1:=ak i hi;rw[x6 Ω,aj,Option.bind_eq_some_iff] at h1;obtain⟨c,W,X⟩:=h1;obtain⟨aa,ab⟩:=G7 W;obtain⟨y,ac,am⟩:=he.op X;exact⟨c,y,aa,λj v V=>by have:=ab j v V;rwa [G6] at this,ac,am⟩
  have all:∀m,m<=len-> ∃ (vs:List (List y0)) (l:List α),vs.length=m/\l.length=m/\(∀c∈vs,c.length=al.n α)/\(∀ (j:Nat) (v:y0),vs.flatten[j]? =σ v->w.cell? (a.add j)=σ v)/\
    (∀ (i:Nat) (c:List y0) (y:α),vs[i]? =σ c->l[i]? =σ y->Seen dr w c y)/\ ∀y∈l,G y:=by
   intro m;induction m with
   |zero=>exact λ_=>⟨[],[],rfl,rfl,(λ_ h=>by cases h),(λj v h=>by simp at h),(λi c y h=>by simp at h),(λ_ h=>by cases h)⟩
   |succ m an=>
    intro hm;obtain⟨vs,l,h1,W,X,aa,ab,ac⟩:=an Ω;obtain⟨c,y,g1,ad,ao,ap⟩:=ag m Ω;refine⟨vs++[c],l++[y],by simp[h1],by simp[W],λd J=>?_,λj v V=>?_,λi d z J U=>?_,λz U=>?_⟩
    .rcases l5.1 J with J|J
     .exact X d J
     .simp at J;subst J;exact g1
    .have Y:=jy X;rw[h1] at Y;rw[List.flatten_append] at V;by_cases aq:j<m*al.n α
     .rw[Y3 Ω] at V;exact aa j v V
     .rw[Y5 Ω,Y] at V;simp at V;have:=ad _ v V;rwa [show m*al.n α+(j-m*al.n α)=j by omega] at this
    .by_cases hi:i<m
     .rw[Y3 Ω] at J U;exact ab i d z J U
     .have ae:=(x4.1 J).1;simp[h1] at ae;have ae:i=m:=Ω
      subst ae;rw[Y5 Ω,h1] at J;rw[Y5 Ω,W] at U;simp at J U;subst J U;exact ao
    .rcases l5.1 U with U|U
     .exact ac z U
     .simp at U;subst U;exact ap
  obtain⟨vs,l,h1,W,X,aa,ab,ac⟩:=all len (n9 _);have Y:=jy X;rw[h1] at Y;have ah:0<len->a=⟨a.block,a.off,ν⟩:=λaf=>by
   obtain⟨c,y,g1,ad,_⟩:=ag 0 Ω;have:=ad 0 c[0] (x6 Ω);rw[Nat.zero_mul] at this;exact ud this
  refine⟨l,⟨_,rfl,vs,0,λ_ _=>False,⟨λ_ _ h=>h.elim,(λh=>by cases h),(λh=>by cases h)⟩,⟨Ω,ab⟩,⟨by rw[Y,W],a.block,a.off,σ a,cap,by rw[W],Ω,hm,λaf=>congrArg σ (ah Ω),λ_=>.inr trivial,λj v V=>?_⟩,λh=>by cases h⟩,ac⟩;have:=aa j v V;have aq:=(x4.1 V).1;have af:0<len:=by
   rcases Nat.eq_zero_or_pos len with h|h
   .rw[h,Nat.zero_mul] at Y;omega
   .exact h
  rw[ah af,T3] at this;exact this
structure rG (P:V2) (fs:List Field) (off:Nat) (α:Type) [al α] (G:α->Prop):Prop where
 op:∀ {H:Type} {enc:o4×y0->H} {w:x2} {base:Nat} {spare:Nat->Bool} {held:Bool} {n:Nat} {cs:List y0},cs.length=off+al.n α->
  (∀f∈fs,∃x,DataW.trod enc P w base spare held n f.type ((cs.drop f.offset).take (P.cellsOf f.type))=σ x)-> ∃a:α,Seen dr w (cs.drop off) a/\G a
theorem G8 {f:Field} {off:Nat} {G:α->Prop} (h:k5 P f.type α G) (J:f.offset=off) (U:P.cellsOf f.type=al.n α):rG P [f] off α G:=by
 constructor;intro H enc w base spare held n cs Y V;obtain⟨x,W⟩:=V f (.head _);obtain⟨a,h1,X⟩:=h.op W;rw[J,U,n0 Θ] at h1;exact⟨a,h1,X⟩
theorem lT {f:Field} {J:List Field} {off:Nat} {G:α->Prop} {U:β->Prop} (h:k5 P f.type α G) (W:f.offset=off) (X:P.cellsOf f.type=al.n α) (Y:rG P J (off+al.n α) β U):
  rG P (f::J) off (α×β) λp=>G p.1/\U p.2:=by
 constructor;intro H enc w base spare held n cs af V;obtain⟨x,aa⟩:=V f (.head _);obtain⟨a,h1,ab⟩:=h.op aa;rw[W,X] at h1;have ag:al.n (α×β)=al.n α+al.n β:=rfl;obtain⟨b,ac,ad⟩:=Y.op Ω λg ae=>V g (.tail _ ae);refine⟨(a,b),⟨(cs.drop off).take (al.n α),cs.drop (off+al.n α),λ_=>False,λ_=>False,?_,λ_ h=>h,λ_ h=>h,(λh=>by cases h),h1,ac⟩,ab,ad⟩;rw[<-List.drop_drop,List.take_append_drop]
theorem G9 {J:List Field} {G:α->Prop} (U:P.underlying t=σ (.struct J.toArray)) (V:rG P J 0 α G) (ab:P.cellsOf t=al.n α):k5 P t α G:=by
 constructor;intro H enc w base spare held fuel cs x h;obtain⟨xs,n,_,rfl,ac,W,X⟩:=DataW.trod_struct U h;have:=V.op (enc:=enc) (w:=w) (base:=base) (spare:=spare) (held:=held) (n:=n) (cs:=cs) Ω λf Y=>by
  obtain⟨i,hi,rfl⟩:=List.mem_iff_getElem.1 Y;have aa:i<xs.length:=by simpa[W] using hi
  have:=X i J[i] (by simp[hi]);rw[x6 aa] at this;exact⟨_,this⟩
 simpa using this
end
end Go.Vc
namespace Go.Vc
open Go Go.RowKit
set_option maxRecDepth 100000
theorem Ha:(⟨#[]⟩:ByteArray)=strOfNums []:=rfl
theorem Hb {J:y0->y0->y0->x2->Prop} {B:(y0->y0->y0->x2->Prop)->Prop} (G:y0->y0->y0->x2->Prop) (h1:∀t u v w,G t u v w->J t u v w)
  (V:∀U:y0->y0->y0->x2->Prop,(∀t u v w,G t u v w->U t u v w)->B U):bJ J B:=V J h1
theorem uq {J:y0->y0->y0->y0->x2->Prop} {B:(y0->y0->y0->y0->x2->Prop)->Prop} (G:y0->y0->y0->y0->x2->Prop) (h1:∀s t u v w,G s t u v w->J s t u v w)
  (V:∀U:y0->y0->y0->y0->x2->Prop,(∀s t u v w,G s t u v w->U s t u v w)->B U):bJ J B:=V J h1
abbrev bU (l:Λ):y0:=.string (strOfNums l)
def Bytes (l:Λ):Prop:=∀b∈l,0<=b/\b<256
theorem lU (l:Λ):(strOfNums l).size=l.length:=strOfNums_size l
theorem Hc (h:Bytes l) {i:Nat} {b:Int} (hi:l[i]? =σ b):(strOfNums l)[i]? =σ (UInt8.ofNat b.toNat)/\((UInt8.ofNat b.toNat).toNat:Int)=b:=by
 have W:=h b (x5 hi);have V:=x4.1 hi;refine⟨?_,by rw[UInt8.toNat_ofNat'];omega⟩;have J:i<(strOfNums l).size:=by rw[lU];exact V.1
 rw[getElem?_pos (strOfNums l) i J];congr 1;show (strOfNums l).data[i]=_;have U:(strOfNums l).data.toList[i]? =σ (UInt8.ofNat b.toNat):=by rw[strOfNums_data,u4,hi];rfl
 rw[R4] at U;exact (Z1.1 U).2
theorem str_inj {b:Λ} (J:Bytes a) (U:Bytes b) (h:strOfNums a=strOfNums b):a=b:=by
 have h1:(strOfNums a).data.toList=(strOfNums b).data.toList:=by rw[h]
 rw[strOfNums_data,strOfNums_data] at h1;have key:∀ {l:Λ},Bytes l->(l.map λn=>UInt8.ofNat n.toNat).map (λu=>((u.toNat:Nat):Int))=l:=λ{l} V=>by
  rw[List.map_map]
  conv=>rhs;rw[<-List.map_id l]
  refine List.map_congr_left λx W=>?_;have:=V x W;show (((UInt8.ofNat x.toNat).toNat:Nat):Int)=x;rw[UInt8.toNat_ofNat'];omega
 rw[<-key J,<-key U,h1]
theorem Hd (a b:Λ):strOfNums a++strOfNums b=strOfNums (a++b):=by
 apply ByteArray.ext;rw[ByteArray.data_append];simp[strOfNums]
theorem He (l:Λ) (i j:Nat):(strOfNums l).extract i j=strOfNums ((l.take j).drop i):=by
 apply ByteArray.ext;rw[ByteArray.data_extract];apply Array.toList_inj.1;rw[Array.toList_extract];simp[strOfNums,List.extract_eq_take_drop,List.map_drop,List.map_take,List.drop_take]
theorem yY (l:Λ):(strOfNums l).toList=l.map λn=>UInt8.ofNat n.toNat:=by
 rw[ByteArray.toList_eq];exact strOfNums_data l
theorem yZ {b:Λ} (J:Bytes a) (U:Bytes b):((strOfNums a).toList == (strOfNums b).toList)=decide (a=b):=by
 rw[U4,beq_iff_eq,decide_eq_true_eq,yY,yY];refine⟨λh=>str_inj J U ?_,λh=>by rw[h]⟩;unfold strOfNums;rw[h]
section
variable {P:V2} {w:x2}
theorem mQ {J:o4} (V:P.underlying t=σ .string):U P (X0 #[t] J #[bU l]) w K=K (Δ l.length):=U.of λw' _=>by
 simp[X0,run_underlying V,goInt,lU]
theorem pw {k:o6} {b:Int} {i:Nat} (J:y=(i:Int)) (V:P.underlying t=σ .string) (W:Bytes l) (hi:l[i]? =σ b):U P (Instr.index t (bU l) (.int k y)) w K=K (.int .u8 b):=U.of λw' _=>by
 subst J;obtain⟨h1,X⟩:=Hc W hi;have e:(0:Int)<=(i:Int):=Ω
 simp only[Instr.index,asIntOf,W9,V7,V1,run_underlying V];rw[if_pos e,j0,h1];simp only[V7,X]
theorem ur {b:Λ} (h:a.length+b.length<=9223372036854775807):U P (aA .add t cx cy (bU a) (bU b)) w K=K (bU (a++b)):=U.of λw' _=>by
 have:=run_string_add_sum (P:=P) (w:=w') (strOfNums a) (strOfNums b) (by rw[lU,lU];exact h);simp only[aA,eqGuard,binOp];simp[this,Hd]
theorem y1 {b:Λ} (J:Bytes a) (V:Bytes b):U P (aA .eql t cx cy (bU a) (bU b)) w K=K (.bool (decide (a=b))):=U.of λw' _=>by
 simp[aA,eqGuard,binOp,Op.stringOp,yZ J V]
theorem Hf {b:Λ} (J:Bytes a) (V:Bytes b):U P (aA .neq t cx cy (bU a) (bU b)) w K=K (.bool (decide (a≠b))):=U.of λw' _=>by
 simp[aA,eqGuard,binOp,Op.stringOp,yZ J V]
theorem y2 {k:o6} {i:Nat} (J:y=(i:Int)) (V:P.underlying t=σ .string) (hi:i<=l.length):U P (V5 t (bU l) (σ (.int k y)) ν ν) w K=K (bU (l.drop i)):=U.of λw' _=>by
 have W:=rv (P:=P) w' (sl:=false) (n:=(strOfNums l).size) (c:=(strOfNums l).size) (low:=σ (.int k y)) (high:=ν) (mx:=ν) (l:=i) (h:=(strOfNums l).size) (m:=(strOfNums l).size) (mB i y J) h5 eJ (by rw[lU];exact hi) (n9 _) (n9 _);have e:(strOfNums l).extract i (strOfNums l).size=strOfNums (l.drop i):=by rw[He,lU,o9]
 simp[V5,Instr.slice,run_underlying V,W,e]
theorem uu {s:o4} (J:P.underlying s=σ (.slice e)) (he:P.underlying e=σ (.int .u8)) (V:P.underlying t=σ .string) (h:aH .u8 w v l):U P (convert s t v) w K=K (bU l):=U.of λw' Y=>by
 obtain⟨W,b,o,base,cap,rfl,_,_,aa,ab⟩:=h.ext Y;have W:l.length=l.length*1:=by simpa using W
 by_cases ac:0<l.length
 .rw[aa ac];refine run_convert_bytes_arg w' s e J he b o l.length cap l rfl (λi hi=>?_) t V;have X:l[i]? =σ l[i]:=x6 hi;rw[u9,X];exact ab i _ (ke X)
 .have ad:l=[]:=Z8 Ω;subst ad;cases base with
  |none=>
   rw[run_convert_bytes_nil w' s e J he _ _ t V];rfl
  |some a=>
   rw[run_convert_bytes_string w' s t e _ _ _ J he V];have:=run_bytesToString (P:=P) w' a 0 cap [] (by have:=run_loadCells_list (P:=P) w' a [] (λj v ae=>by simp at ae);simpa using this);simp only[List.length_nil];rw[this];rfl
theorem uv {s:o4} {u:TypeDesc} {K:y0->x2->Prop} (J:P.underlying s=σ u) (aa:P.underlying t=σ (.slice e)) (he:P.underlying e=σ (.int .u8)) (ab:Bytes l) (hm:l.length<=1000000000)
  (ac:∀v w',Ext w w'->aH .u8 w' v l->(∀r,(∃a n c,v= .slice (σ a) n c/\a.block=r)->w.heap.size<=r)->K v w'):ay P (convert s t (bU l)) w K:=by
 have ad:=Lib.bytesWorld_at_new w e (strOfNums l);have X:=λj U=>Lib.bytesWorld_at_old w e (strOfNums l) j U;have ae:=Lib.bytesWorld_size w e (strOfNums l);refine .of (Lib.run_convert_string_bytes w s t e (strOfNums l) J aa he) ⟨rfl,⟨rfl,R6 _⟩,rfl,Ω,λr o V _=>?_⟩ (ac _ _ ⟨Ω,λr o V _=>?_⟩ ?_ ?_)
 .rw[X r (Z1.1 V).1];exact V
 .rw[X r (Z1.1 V).1];exact V
 .rw[lU];refine⟨Ξ,w.heap.size,0,_,_,rfl,?_,?_,λ_=>rfl,λj v W=>?_⟩
  .exact grownCap_ge w _ _ _
  .exact grownCap_le_maxLen w _ _ _ (by simp[maxLen];omega)
  .have U:j<l.length:=by have:=(x4.1 W).1;simpa using this
   have Y:l[j]? =σ l[j]:=x6 U;rw[V8,Lib.bytesWorld_cell w e (strOfNums l) j (by rw[lU];exact U)];rw[ke Y] at W;rw[<-Z9 W,strOfNums_data,u9,u4,Y];have:=ab l[j] (S3 U);simp only[Y4,S1];congr 2;rw[UInt8.toNat_ofNat'];omega
 .rintro r ⟨a,n,c,h1,rfl⟩;cases h1;exact n9 _
end
end Go.Vc
namespace Go.Proofs.YthjegppepbbojaaGreatDoor
open Go Go.Vc Go.RowKit Go.Proofs Go.Proofs.Tryz
set_option maxRecDepth 100000
theorem y3 {b:Int} (h:ct b=true):bQ b=false:=by
 have h:=of_decide_eq_true h;unfold bQ;rw[decide_eq_false_iff_not];omega
theorem y4 {b:Int} {p:Λ} (h:ct b=true):lex (b::p)=lex p:=by
 rw[jz,jz p,List.dropWhile_cons,if_pos h]
theorem Hg {b:Int} {p:Λ} (h:ct b=false) (J:bQ b=false):lex (b::p)=([],false):=by
 rw[jz,List.dropWhile_cons,if_neg (by simp[h])];simp only[J,Bool.false_eq_true,if_false]
theorem y5 {b:Int} {p:Λ} (h:bQ b=true):lex (b::p)=match p.dropWhile bQ with
  |[]=>([b::p.takeWhile bQ],true)
  |c::r=>if ct c then ((b::p.takeWhile bQ)::(lex (c::r)).1,(lex (c::r)).2) else ([],false):=by
 have J:ct b=false:=by
  cases U:ct b with
  |false=>rfl
  |true=>rw[y3 U] at h;cases h
 rw[jz,List.dropWhile_cons,if_neg (by simp[J])];simp only[h,if_true,List.dropWhile_cons,List.takeWhile_cons]
 all_goals (cases List.dropWhile bQ p<;>rfl)
def hK:Λ->List (Λ)->Λ->Bool->List (Λ)×Bool
 |[],out,w,op=>(if op then out++[w] else out,true)
 |b::p,out,w,op=>
  if ct b then hK p (if op then out++[w] else out) [] false
  else if bQ b then hK p out (if op then w++[b] else[b]) true
  else (out,false)
theorem px:∀ (p:Λ) (out:List (Λ)) (w:Λ),hK p out w false=(out++(lex p).1,(lex p).2)/\
  hK p out w true=match p.dropWhile bQ with
   |[]=>(out++[w++p.takeWhile bQ],true)
   |c::r=>if ct c then (out++[w++p.takeWhile bQ]++(lex (c::r)).1,(lex (c::r)).2) else (out,false)
 |[],out,w=>by simp[hK,jz []]
 |b::p,out,w=>by
  by_cases J:ct b=true
  .have hw:=y3 J;refine⟨?_,?_⟩
   .rw[hK,if_pos J,(px p _ _).1,y4 J];simp
   .rw[hK,if_pos J,if_pos rfl,(px p _ _).1,List.dropWhile_cons,if_neg (by simp[hw])];simp only[J,if_true,y4 J,List.takeWhile_cons,hw,Bool.false_eq_true,if_false,X6]
  .have V:ct b=false:=by cases h:ct b;rfl;exact absurd h J
   by_cases hw:bQ b=true
   .refine⟨?_,?_⟩
    .rw[hK,if_neg J,if_pos hw,if_neg Ξ,(px p _ _).2,y5 hw];cases p.dropWhile bQ with
     |nil=>simp
     |cons c r=>
      simp only;by_cases U:ct c=true
      .simp[U]
      .simp[U]
    .rw[hK,if_neg J,if_pos hw,if_pos rfl,(px p _ _).2,List.dropWhile_cons,if_pos hw,List.takeWhile_cons,if_pos hw];cases p.dropWhile bQ with
     |nil=>simp
     |cons c r=>
      simp only;by_cases U:ct c=true
      .simp[U]
      .simp[U]
   .have W:bQ b=false:=by cases h:bQ b;rfl;exact absurd h hw
    refine⟨?_,?_⟩
    .rw[hK,if_neg J,if_neg hw,Hg V W];simp
    .rw[hK,if_neg J,if_neg hw,List.dropWhile_cons,if_neg hw];simp[V]
theorem Hh (p:Λ):hK p [] [] false=lex p:=by rw[(px p [] []).1];simp
def ob:Nat->Nat->Λ
 |0,_=>[]
 |k+1,n=>(if n<10 then[] else ob k (n / 10))++[48+((n % 10:Nat):Int)]
def e8 (n:Nat):Λ:=ob (n+1) n
theorem y6:∀ {k m n:Nat},n<k->n<m->ob k n=ob m n
 |k+1,m+1,n,h1,J=>by
  unfold ob;by_cases h:n<10
  .rw[if_pos h,if_pos h]
  .rw[if_neg h,if_neg h,y6 (k:=k) (m:=m) (n:=n / 10) Ω Ω]
theorem mR (n:Nat):e8 n=(if n<10 then[] else e8 (n / 10))++[48+((n % 10:Nat):Int)]:=by
 unfold e8;rw[ob];by_cases h:n<10
 .rw[if_pos h,if_pos h]
 .rw[if_neg h,if_neg h,y6 (k:=n) (m:=n / 10+1) Ω Ω]
theorem y7:∀ (k n:Nat),n<k-> ∀b∈e8 n,48<=b/\b<=57
 |k+1,n,hk,b,J=>by
  rw[mR] at J;rcases l5.1 J with J|J
  .by_cases h:n<10
   .rw[if_pos h] at J;simp at J
   .rw[if_neg h] at J;exact y7 k (n / 10) Ω b J
  .rw[l9] at J;omega
theorem y8 (n:Nat):∀b∈e8 n,48<=b/\b<=57:=y7 (n+1) n Ω
def py (l:Λ):Int:=l.foldl (λn b=>10*n+(b-48)) 0
theorem Hi (l:Λ) (b:Int):py (l++[b])=10*py l+(b-48):=by simp[py]
theorem uw:∀ (k n:Nat),n<k->py (e8 n)=n
 |k+1,n,hk=>by
  rw[mR,Hi];by_cases h:n<10
  .rw[if_pos h];have:py []=0:=rfl;omega
  .rw[if_neg h,uw k (n / 10) Ω];omega
theorem Hj {a b:Nat} (h:e8 a=e8 b):a=b:=by
 have h1:=uw (a+1) a Ω;have J:=uw (b+1) b Ω;rw[h,J] at h1;omega
theorem ux:∀ (k n:Nat),n<10 ^ k->1<=k->(e8 n).length<=k
 |k+1,n,h,_=>by
  rw[mR,r8];by_cases J:n<10
  .rw[if_pos J];simp
  .rw[if_neg J];have hk:1<=k:=by
    rcases k with _|k
    .simp at h;omega
    .omega
   have U:(10:Nat) ^ (k+1)=10*10 ^ k:=by rw[Nat.pow_succ,Nat.mul_comm]
   have:=ux k (n / 10) Ω hk;simp only[U2];omega
def dV (t:Λ):Λ:=t.flatMap λv=>e8 v.toNat++[32]
theorem Hk (t:Λ) (v:Int):dV (t++[v])=dV t++(e8 v.toNat++[32]):=by simp[dV]
theorem y9 {r:Λ} (J:∀b∈l,b≠32):(l++32::r).takeWhile (λb=>decide (b≠32))=l/\(l++32::r).dropWhile (λb=>decide (b≠32))=32::r:=by
 induction l with
 |nil=>simp
 |cons x l U=>
  have V:=J x (.head _);have:=U λb W=>J b (.tail _ W);simp only[List.cons_append,List.takeWhile_cons,List.dropWhile_cons];simp only[V,ne_eq,not_false_eq_true,decide_true,if_true];exact⟨by rw[this.1],this.2⟩
theorem za:∀ {a b:Λ},(∀x∈a,0<=x)->(∀x∈b,0<=x)->dV a=dV b->a=b
 |[],[],_,_,_=>rfl
 |[],y::b,_,_,h=>by simp[dV] at h
 |x::a,[],_,_,h=>by simp[dV] at h
 |x::a,y::b,U,V,h=>by
  have e:∀ (z:Int) (l:Λ),dV (z::l)=e8 z.toNat++32::dV l:=λz l=>by simp[dV]
  rw[e,e] at h;have d:∀z:Int,∀c∈e8 z.toNat,c≠32:=λz c X=>by have:=y8 _ c X;omega
  have s1:=y9 (r:=dV a) (d x);have W:=y9 (r:=dV b) (d y);rw[h] at s1;have Y:e8 x.toNat=e8 y.toNat:=s1.1.symm.trans W.1;have aa:=s1.2.symm.trans W.2;have ac:=U x (.head _);have ad:=V y (.head _);have:=Hj Y;have ab:x=y:=Ω
  subst ab;rw[za (λz J=>U z (.tail _ J)) (λz J=>V z (.tail _ J)) (List.cons.inj aa).2]
theorem zb (t:Λ):Bytes (dV t):=λb J=>by
 obtain⟨v,_,J⟩:=List.mem_flatMap.1 J;rcases l5.1 J with J|J
 .have:=y8 _ b J;omega
 .rw[l9] at J;omega
theorem zc {b:Int}:ai x3 Fs [.int .u8 b] w λv w'=>v= .bool (ct b)/\Ext w w':=by
 refine az func168 ?_;refine aR (λv V=>v= .bool (ct b)/\Ext w V) (λ_ _ h=>h) λU J=>?_;rw[bn,ak];refine⟨λh=>J _ _ ⟨by unfold ct;rw[decide_eq_true (.inl h)],Ext.refl _⟩,λh1=>?_⟩;rw[bn,ak];refine⟨λh=>J _ _ ⟨by unfold ct;rw[decide_eq_true (.inr (.inl h))],Ext.refl _⟩,λW=>?_⟩;rw[bn,ak];refine⟨λh=>J _ _ ⟨by unfold ct;rw[decide_eq_true (.inr (.inr (.inl h)))],Ext.refl _⟩,λX=>?_⟩;rw[bn];refine J _ _ ⟨?_,Ext.refl _⟩;congr 1;unfold ct;rw[U4,decide_eq_true_eq,decide_eq_true_eq];omega
theorem Hl {b:Int}:ai x3 Fr [.int .u8 b] w λv w'=>v= .bool (bQ b)/\Ext w w':=by
 refine az func167 ?_;refine aR (λv V=>v= .bool (bQ b)/\Ext w V) (λ_ _ h=>h) λU J=>?_;rw[cr,ak];refine⟨λh=>?_,λh=>J _ _ ⟨by unfold bQ;rw[decide_eq_false Ω],Ext.refl _⟩⟩;rw[mz];refine J _ _ ⟨?_,Ext.refl _⟩;congr 1;unfold bQ;rw[U4,decide_eq_true_eq,decide_eq_true_eq];omega
def k6 (w:x2) (g:Nat) (J:y0) (p:Λ) (at_:Nat) (bad:Int):Prop:=Bytes p/\p.length<=100000/\at_<=p.length/\ad w g hh [J,Δ (at_:Int),Δ bad]/\ ∃U,ao .u8 cq w U J p
theorem k6.ext {g:Nat} {J:y0} {p:Λ} {at_:Nat} {bad:Int} (h:k6 w g J p at_ bad) (U:Ext w w'):k6 w' g J p at_ bad:=by
 obtain⟨h1,V,W,X,Y,aa⟩:=h;exact⟨h1,V,W,X.ext U,Y,aa.ext U⟩
theorem Hm (h:aH .u8 w v l) (ag:l.length<=100000):ai x3 Fl [v] w λU w'=>Ext w w'/\ ∃g,ao .u8 cq w' g U l:=by
 have J:=h;obtain⟨ah,b,o,base,cap,rfl,aj,hm,X,ak⟩:=h;refine az func161 ?_;rw[rt cH.u,bt];refine⟨λY=>⟨Ext.refl _,0,?_⟩,λ_=>?_⟩
 .have:l=[]:=by
   cases base with
   |none=>
        by_cases J:0<l.length
        .have:=X J;cases this
        .exact Z8 Ω
   |some a=>cases Y
  subst this;exact ao.nil _ _ _ _
 .refine iX (k:=1) (cs:=#[]) cH.u cq.i Ω Ψ λg V al W ab=>?_;have ac:ao .u8 cq V g (.slice (σ ⟨g,0,ν⟩) 0 0) []:=ao.of (n:=0) (b1.full (by simpa using ab) rfl Ξ);refine h6 cH.u cq.i rfl ac (J.ext W) Θ Θ λU ad aa am ae af=>?_;exact⟨W.put af Ω,ad,by simpa using ae⟩
theorem zd (h:aH .u8 w v l) (ab:Bytes l) (U:l.length<=100000):ai x3 xW [v] w λac w'=>Ext w w'/\ ∃g,ac=Γ g/\w.heap.size<=g/\ ∃J,k6 w' g J l 0 (-1):=by
 refine az func86 ?_;refine (Hm h U).mono ?_;rintro J V _ ⟨W,ad,X⟩;rw[c8 (cs:=#[J,Δ 0,Δ (-1)]) (by obtain⟨_,_,_,_,_,rfl,_⟩:=X.ls;kernel_rfl)];refine bP λg aa af Y ae=>?_;have s1:=W.size;exact⟨W.trans Y,g,rfl,Ω,J,ab,U,X7 _,ae,ad,X.ext Y⟩
def runN (f:Int->Bool) (p:Λ):Nat:=(p.takeWhile f).length
theorem Hn (f:Int->Bool) (p:Λ):runN f p<=p.length:=(List.takeWhile_sublist f).length_le
theorem ze {f:Int->Bool} {p:Λ} {i:Nat} {b:Int} (hi:p[i]? =σ b) (U:f b=true):i+runN f (p.drop i)=(i+1)+runN f (p.drop (i+1)):=by
 have J:=x4.1 hi;unfold runN;rw[V4 J.1,J.2,List.takeWhile_cons,if_pos U,Z5];omega
theorem zf {f:Int->Bool} {p:Λ} {i:Nat} (h:∀b,p[i]? =σ b->f b=false):runN f (p.drop i)=0:=by
 unfold runN;cases J:p[i]? with
 |none=>
  rw[List.drop_of_length_le (List.getElem?_eq_none_iff.1 J)];rfl
 |some b=>
  have U:=x4.1 J;rw[V4 U.1,U.2,List.takeWhile_cons,if_neg (by simp[h b J])];rfl
theorem Ho {g at_:Nat} {ag:y0} {p:Λ} {bad:Int} (h:k6 w g ag p at_ bad):ai x3 Fq [Γ g] w λv w'=>v=Δ ((at_+runN ct (p.drop at_):Nat):Int)/\Ext w w':=by
 obtain⟨aq,au,ah,U,av,Y⟩:=h;refine az func166 ?_;rw[aK hh.p 1 U rfl];refine⟨λv V=>Ext w V/\ ∃i:Nat,v=Δ (i:Int)/\i<=p.length/\i+runN ct (p.drop i)=at_+runN ct (p.drop at_),λv _=>p.length-(bS v).toNat,⟨Ext.refl _,at_,rfl,ah,rfl⟩,?_⟩;rintro _ V ⟨X,i,rfl,hi,he⟩;refine aR (λv aa=>Ext w aa/\ ∃c:Bool,v= .bool c/\(c=true↔ ∃b,p[i]? =σ b/\ct b=true)) ?_ ?_
 .rintro _ aa ⟨ab,c,rfl,ac⟩;rw[bt];refine⟨λaj=>?_,λad=>?_⟩
  .obtain⟨b,W,al⟩:=ac.1 aj;have am:=(x4.1 W).1;rw[aL,wrap_i64 Ω Ω];exact⟨⟨ab,i+1,rfl,am,by rw[<-he,ze W al]⟩,by simp only[bS];omega⟩
  .have an:=zf (f:=ct) (p:=p) (i:=i) λb U=>by
    cases J:ct b with
    |false=>rfl
    |true=>rw[ac.2 ⟨b,U,J⟩] at ad;cases ad
   exact⟨by rw[<-he,an,Nat.add_zero],ab⟩
 .intro aw ae;have af:=U.ext X;rw[aK hh.p 0 af rfl,aU cH.u (Y.ext X).ls,aQ,ak];refine⟨λax=>?_,λay=>ae _ _ ⟨X,false,rfl,⟨λh=>(by cases h),λ⟨b,U,_⟩=>by have:=(x4.1 U).1;omega⟩⟩⟩;have ao:i<p.length:=Ω
  have W:p[i]? =σ p[i]:=x6 ao;rw[aK hh.p 0 af rfl,bf cH.u cq.i Ψ (Y.ext X).ls W];refine zc.mono ?_;rintro _ aA _ ⟨rfl,ap⟩;exact ae _ _ ⟨X.trans ap,_,rfl,⟨λh=>⟨_,W,h⟩,λ⟨b,U,h⟩=>by rw[W] at U;cases U;exact h⟩⟩
inductive Hp where
 |word (from_ to:Nat)
 |none
 |text (at_:Nat)
def fQ (p:Λ) (at_:Nat):Nat:=at_+runN ct (p.drop at_)
def h9 (p:Λ) (a:Nat):Nat:=a+runN bQ (p.drop a)
open Classical in
noncomputable def oc (p:Λ) (at_:Nat):Hp:=
 if h9 p (fQ p at_)<p.length/\(∀c,p[h9 p (fQ p at_)]? =σ c->ct c=false) then .text (h9 p (fQ p at_)) else if fQ p at_=h9 p (fQ p at_) then .none else .word (fQ p at_) (h9 p (fQ p at_))
def pz (w:x2) (g:Nat) (J:y0) (p:Λ) (at_:Nat) (v:y0) (w':x2):Prop:=
 match oc p at_ with
 | .word a b=>v= .tuple #[bU ((p.take b).drop a),Δ (a:Int),Δ 0]/\ae (λr=>r=g) w w'/\k6 w' g J p b (-1)
 | .none=>∃n:Nat,v= .tuple #[bU [],Δ (n:Int),Δ 2]/\Ext w w'
 | .text b=>v= .tuple #[bU [],Δ (b:Int),Δ 11]/\ae (λr=>r=g) w w'/\k6 w' g J p at_ (b:Int)
theorem gy {aV:Nat->Prop} {a b c:x2} (h:ae S a b) (k:ae aV b c) (W:∀r,r<a.heap.size->aV r->S r):ae S a c:=
 ⟨X8 h.size k.size,λr o U J V=>k.bc r o (h.bc r o U J V) J λhu=>V (W r (Z1.1 U).1 hu)⟩
theorem b5 {g U:Nat} {k:o6} {V:o4} (h:ao k e w g v l) (W:ad w U V cs) (Y:e≠V) (X:leads v r):r≠U:=by
 obtain⟨rfl,_⟩:=bz h X;obtain⟨_,⟨rfl,_⟩|⟨_,_,_,J,_⟩⟩:=h
 .obtain⟨a,n,c,h,_⟩:=X;cases h
 .rintro rfl;unfold ad at W J;rw[W] at J;injection J with h1;injection h1 with ab aa;exact Y aa.symm
theorem Hq {s:o4} {W:o6} {b i:Nat} (X:x3.underlying s=σ (.slice t)) (hi:aO x3 t 1 b z)
  (h:aH .u8 w v l) (Y:i<=j) (aa:j<=l.length) (ab:∀J,aH .u8 w J ((l.take j).drop i)->K J):U x3 (V5 s v (σ (.int V (i:Int))) (σ (.int W (j:Int))) ν) w K:=by
 refine rD X hi h (mB i _ rfl) (mC j _ rfl) Y aa λJ h'=>ab J (aH.of (n:=j-i) ?_);have ac:((ints .u8 l).drop (i*1)).take ((j-i)*1)=ints .u8 ((l.take j).drop i):=by
  rw[S2,S2,ints,ints,List.map_drop,List.map_take,List.drop_take]
 rw[ac] at h';exact h'
theorem Hr {g at_:Nat} {aj:y0} {p:Λ} (h:k6 w g aj p at_ (-1)):ai x3 tO [Γ g] w (pz w g aj p at_):=by
 obtain⟨ax,ay,aX,U,aA,al⟩:=id h;refine az func92 ?_;rw[cR rp.u,Z7,aT,aK hh.p 2 U rfl,cr,ak];refine⟨λh=>Ω,λ_=>?_⟩;refine (Ho h).mono ?_;rintro _ aa _ ⟨rfl,aY⟩;obtain⟨a,aB⟩:∃a,a=at_+runN ct (p.drop at_):=⟨_,rfl⟩;rw[<-aB];have aZ:a<=p.length:=by have:=Hn ct (p.drop at_);rw[Q2] at this;omega
 refine⟨λv am=>Ext aa am/\ ∃i:Nat,v=Δ (i:Int)/\a<=i/\i<=p.length/\i+runN bQ (p.drop i)=a+runN bQ (p.drop a),λv _=>p.length-(bS v).toNat,⟨Ext.refl _,a,rfl,n9 _,aZ,rfl⟩,?_⟩;rintro _ am ⟨aC,i,rfl,a1,hi,he⟩;have an:=aY.trans aC;have aD:=U.ext an;have aE:=al.ext an;refine aR (λv ad=>Ext am ad/\ ∃c:Bool,v= .bool c/\(c=true↔ ∃b,p[i]? =σ b/\bQ b=true)) ?_ ?_
 rotate_left
 .intro a2 W;rw[aK hh.p 0 aD rfl,aU cH.u aE.ls,aQ,ak];refine⟨λa6=>?_,λa7=>W _ _ ⟨Ext.refl _,false,rfl,⟨λh=>(by cases h),λ⟨b,U,_⟩=>by have:=(x4.1 U).1;omega⟩⟩⟩;have ae:i<p.length:=Ω
  have V:p[i]? =σ p[i]:=x6 ae;rw[aK hh.p 0 aD rfl,bf cH.u cq.i Ψ aE.ls V];refine Hl.mono ?_;rintro _ ad _ ⟨rfl,af⟩;exact W _ _ ⟨af,_,rfl,⟨λh=>⟨_,V,h⟩,λ⟨b,U,h⟩=>by rw[V] at U;cases U;exact h⟩⟩
 rintro _ ad ⟨af,c,rfl,X⟩;have ao:=an.trans af;have aF:=U.ext ao;have aG:=al.ext ao;rw[bt];refine⟨λap=>?_,λaH=>?_⟩
 .obtain⟨b,V,a8⟩:=X.1 ap;have ba:=(x4.1 V).1;rw[aL,wrap_i64 Ω Ω];exact⟨⟨aC.trans af,i+1,rfl,Ω,ba,by rw[<-he,ze V a8]⟩,by simp only[bS];omega⟩
 have bi:=zf (f:=bQ) (p:=p) (i:=i) λb U=>by
  cases J:bQ b with
  |false=>rfl
  |true=>rw[X.2 ⟨b,U,J⟩] at aH;cases aH
 have bb:i=a+runN bQ (p.drop a):=Ω
 refine aR (λv aq=>Ext ad aq/\ ∃c:Bool,v= .bool c/\(c=true↔i<p.length/\ ∀c,p[i]? =σ c->ct c=false)) ?_ ?_
 rotate_left
 .intro a2 W;rw[aK hh.p 0 aF rfl,aU cH.u aG.ls,aQ,ak];refine⟨λa6=>?_,λa7=>W _ _ ⟨Ext.refl _,false,rfl,⟨λh=>(by cases h),λh=>Ω⟩⟩⟩;have ae:i<p.length:=Ω
  have V:p[i]? =σ p[i]:=x6 ae;rw[aK hh.p 0 aF rfl,bf cH.u cq.i Ψ aG.ls V];refine zc.mono ?_;rintro _ aq _ ⟨rfl,au⟩;rw[bg];refine W _ _ ⟨au,_,rfl,⟨λh=>⟨ae,λc X=>?_⟩,λh=>by rw[h.2 _ V];rfl⟩⟩;rw[V] at X;cases X;cases J:ct p[i] with
  |false=>rfl
  |true=>rw[J] at h;cases h
 rintro _ aq ⟨au,bk,rfl,aI⟩;have Y:=ao.trans au;have ag:=U.ext Y;have ah:=al.ext Y;have aJ:∀r,leads aj r->r≠g:=λr bc=>b5 ah ag Φ bc;have av:oc p at_=open Classical in if i<p.length/\(∀c,p[i]? =σ c->ct c=false) then .text i else if a=i then .none else .word a i:=by
  unfold oc;rw[show fQ p at_=a from aB.symm,show h9 p a=i from bb.symm]
 rw[bt];refine⟨λap=>?_,λaN=>?_⟩
 .rw[bu,aM hh.p rfl];refine bj (g:=g) (o:=2) ac.i rfl rfl ag Ξ λbl aO bm bd=>?_;unfold pz;rw[av,if_pos (aI.1 ap)];exact⟨rfl,(Y.ab _).trans aO,ax,ay,aX,bd,aA,be ah aO aJ⟩
 .have aP:¬(i<p.length/\ ∀c,p[i]? =σ c->ct c=false):=λh=>by rw[aI.2 h] at aN;cases aN
  rw[bn,ak];refine⟨λbo=>?_,λbp=>?_⟩
  .intro bq aw _ _;rw[aK hh.p 0 (ag.ext aw) rfl,aU cH.u (ah.ext aw).ls];unfold pz;rw[av,if_neg aP,if_pos Ω];exact⟨p.length,rfl,Y.trans aw⟩
  .rw[bu,aM hh.p rfl];refine bj (g:=g) (o:=1) ac.i rfl rfl ag Ξ λbr aS bw aV=>?_;have aW:=be ah aS aJ;rw[aK hh.p 0 aV rfl];refine Hq (i:=a) (j:=i) cH.u cq.i aW.ls a1 hi λbx bh=>?_;rw[uu cH.u cq.u c3.u bh];unfold pz;rw[av,if_neg aP,if_neg Ω];exact⟨rfl,(Y.ab _).trans aS,ax,ay,hi,aV,aA,aW⟩
abbrev bC:ah:=λ_=>False
abbrev eL (n:Nat):ah:=λr=>n<=r
theorem od {b:Λ} {dk bv:y0} (U:aH .i64 w dk a) (ad:aH .i64 w bv b):
  ai x3 Eu [dk,bv] w λv w'=>v= .bool (decide (a=b))/\Ext w w':=by
 refine az func73 ?_;rw[aU af.u U,aU af.u ad];simp only[bH,ak];refine⟨λX=>⟨?_,Ext.refl _⟩,λae=>?_⟩
 .rw[decide_eq_false];rintro rfl;exact X rfl
 .have ae:a.length=b.length:=Ω
  rw[aU af.u U];refine bA.range a.length (λi _ V=>Ext w V/\a.take i=b.take i) U.le ⟨Ext.refl _,rfl⟩ ?_ ?_
  .rintro i t4 V k ag ⟨J,Y⟩ hk;simp only[aQ,ak,cK];refine⟨λ_ aa ah _ _=>?_,λh=>Ω⟩;have J:=J.trans ah;obtain⟨x,ab⟩:=aN (l:=a) ag;obtain⟨y,W⟩:=aN (l:=b) (i:=i) Ω;rw[bf af.u ac.i Ψ (U.ext J) ab,bf af.u ac.i Ψ (ad.ext J) W];simp only[bH,ak,aL];refine⟨λX=>⟨?_,J⟩,λaj=>hk _ _ ⟨J,uc Y ab W Ω⟩⟩;rw[decide_eq_false];rintro rfl;rw[ab] at W;cases W;exact X rfl
  .rintro _ V k ⟨J,Y⟩;simp only[aQ,ak];refine⟨λh=>Ω,λ_=>⟨?_,J⟩⟩;rw[decide_eq_true];rwa [o9,ae,o9] at Y
def iG (rest:List (Λ)) (i:Nat):List (Λ):=(V0 i).flatMap λ(v:Nat)=>rest.map λt=>(v:Int)::t
theorem Hs (rest:List (Λ)) (i:Nat):iG rest (i+1)=iG rest i++rest.map λt=>(i:Int)::t:=by
 simp[iG,List.range_succ]
theorem zg (rest:List (Λ)) (i:Nat):(iG rest i).length=i*rest.length:=by
 simp only[iG,List.length_flatMap,u5];rw[List.map_const',List.length_range,List.sum_replicate_nat]
theorem oe:∀ (s:Λ) {sv:y0} {w:x2},aH .i64 w sv s->bZ s->
  ai x3 tK [sv] w λv w'=>Ext w w'/\bi (eL w.heap.size) bC w' [v] (bh s)
 |[],sv,w,h,J=>by
  refine az func52 ?_;rw[aU af.u h];simp only[bn,List.length_nil,Int.natCast_zero,decide_true,bX];refine hp (α:=Λ) (a:=[]) (cs:=[.slice ν 0 0]) (A:=bC) cj.u af.i Φ rfl fN λv w' aq U _=>⟨aq,al.mono U (λr _ h=>?_) λ_ _ h=>h⟩;exact h.elim False.elim id
 |k::s,sv,w,h,J=>by
  have aR:=prod_bound J;have ad:bZ s:=J.drop 1;have hk:=J.2 k (.head _);have au:=hq ad.2;have aS:=prod_bound ad;obtain⟨kn,rfl⟩:∃kn:Nat,k=kn:=⟨k.toNat,Ω⟩;have aT:kn*(bh s).length<=1073741824:=by
   have e:((kn*(bh s).length:Nat):Int)=aJ ((kn:Int)::s):=by
    rw[Int.natCast_mul,au,aJ,Int.toNat_of_nonneg Ω]
   omega
  refine az func52 ?_;rw[aU af.u h];simp only[bn,ak];refine⟨λav=>by simp at av;omega,λ_=>?_⟩;refine G2 (i:=1) rfl af.u ac.i h Ξ λaw h'=>?_;refine (oe s h' ad).mono ?_;rintro aV aa _ ⟨ae,Y⟩;have aW:=k1 Y;refine bA.range kn (λi out V=>Ext aa V/\bi (eL aa.heap.size) bC V [out] (iG (bh s) i)) Ω ⟨Ext.refl _,fN⟩ ?_ ?_
  .rintro i out ax ay an ⟨X,U⟩ aA;have aB:=a7 Y X;rw[dY (y:=0) (i:=0) rfl af.u ac.i Ψ (h.ext (ae.trans X)) (by rfl)];simp only[aQ,ak];refine⟨λ_=>?_,λh=>Ω⟩;rw[eh cj.u aB];refine bA.range (bh s).length (λj out V=>Ext aa V/\bi (eL aa.heap.size) bC V [out] (iG (bh s) i++((bh s).take j).map λt=>(i:Int)::t)) Ω ⟨X,by simpa using U⟩ ?_ ?_
   .rintro j out W aC aD ⟨ab,U⟩ aE;simp only[aQ,ak];refine⟨λ_=>?_,λh=>Ω⟩;obtain⟨x,ag⟩:=aN (l:=(bh s)) aD;have aX:x.length<=100:=by
     have:=ug ag;have:=ad.1;omega
    refine hE rfl rfl cj.u af.i Ψ (a7 Y ab) ag λu hu=>?_;refine dJ af.u ac.i rfl λa aZ aY a1 ah aF=>?_;refine h6 af.u ac.i rfl aF (c4 (a7 hu ah)) Θ Θ λb a2 aG a6 aj aI=>?_;have a8:=ah.size;have ao:Ext W aG:=ah.then aI (by rintro r Y rfl;omega);have ba:=ao.size;refine hp (α:=Λ) (a:=(i:Int)::x) (cs:=[b]) (A:=eL W.heap.size) (R:=bC) cj.u af.i Φ (kf (mK aj (R:=bC))) (al.mono (mK aj) (λr _ h=>by subst h;show W.heap.size<=r;omega) λ_ _ h=>h) λc bb am _ aK=>?_;have ap:=ao.trans am;have bc:=am.size;refine mJ (α:=Λ) (a:=(i:Int)::x) (A:=eL W.heap.size) cj.u af.i rfl (a7 (k1 U) ap) aK (a7 (al.mono (mK aj) (λr _ h=>by subst h;show W.heap.size<=r;omega) λ_ _ h=>h) am) (λr _ h h'=>?_) ?_ ?_ λaw bd aM aO=>?_
    .rcases h' with h'|h'
     .have:=h.2;have:W.heap.size<=r:=h';omega
     .exact h'
    .have aP:(iG (bh s) i++((bh s).take j).map λt=>(i:Int)::t).length+1<=kn*(bh s).length:=by
      simp only[r8,zg,u5,o5];have:(i+1)*(bh s).length<=kn*(bh s).length:=X1 _ an;rw[U7] at this;omega
     omega
    .have aP:(iG (bh s) i++((bh s).take j).map λt=>(i:Int)::t).length+1<=kn*(bh s).length:=by
      simp only[r8,zg,u5,o5];have:(i+1)*(bh s).length<=kn*(bh s).length:=X1 _ an;rw[U7] at this;omega
     omega
    .simp only[aL];have be:=ab.size;refine aE _ _ ⟨(ab.trans ap).then aO (λr Y h=>?_),?_⟩
     .have:=h.1;have:aa.heap.size<=r:=this;omega
     .have e:iG (bh s) i++((bh s).take (j+1)).map (λt=>(i:Int)::t)=(iG (bh s) i++((bh s).take j).map λt=>(i:Int)::t)++[(i:Int)::x]:=by
       rw[r9,ag];simp
      rw[e];refine al.mono aM (λr _ h=>?_) λ_ _ h=>h;show aa.heap.size<=r;rcases h with h|h|h
      .exact h.1
      .have:W.heap.size<=r:=h;omega
      .omega
   .rintro out W aC ⟨ab,U⟩;simp only[aQ,ak,aL];refine⟨λh=>Ω,λ_=>aA _ _ ⟨ab,?_⟩⟩;rw[Hs];simpa using U
  .rintro out ax ay ⟨X,U⟩;rw[dY (y:=0) (i:=0) rfl af.u ac.i Ψ (h.ext (ae.trans X)) (by rfl)];simp only[aQ,ak];refine⟨λh=>Ω,λ_=>⟨ae.trans X,?_⟩⟩;have bf:=ae.size;have e:bh ((kn:Int)::s)=iG (bh s) kn:=by simp[bh,iG]
   rw[e];exact al.mono U (λr _ h=>by have:aa.heap.size<=r:=h;show w.heap.size<=r;omega) λ_ _ h=>h
def og (l:List (Λ)) (t:Λ):Int:=match l.findIdx? (·=t) with
 |some i=>i
 |none=>-1
theorem Ht {s t:Λ} {aF:y0} (h:aH .i64 w sv s) (J:bZ s) (ae:aH .i64 w aF t):
  ai x3 EW [sv,aF] w λv w'=>v=Δ (og (bh s) t)/\Ext w w':=by
 have al:=hq J.2;have am:=prod_bound J;refine az func129 ?_;refine (oe s h J).mono ?_;rintro an V _ ⟨Y,ac⟩;rw[eh cj.u ac];refine bA.range (bh s).length (λi _ aa=>Ext V aa/\ ∀j,j<i->(bh s)[j]? ≠σ t) Ω ⟨Ext.refl _,λj U=>Ω⟩ ?_ ?_
 .rintro i _ aa k hi ⟨W,X⟩ hk;simp only[aQ,ak];refine⟨λ_=>?_,λh=>Ω⟩;obtain⟨x,ab⟩:=aN (l:=(bh s)) hi;refine hE rfl rfl cj.u af.i Ψ (a7 ac W) ab λu hu=>?_;refine (od (c4 hu) (ae.ext (Y.trans W))).mono ?_;rintro _ ao _ ⟨rfl,ad⟩;simp only[ak,aL];refine⟨λhe=>⟨?_,(Y.trans W).trans ad⟩,λag=>hk _ _ ⟨W.trans ad,λj U=>?_⟩⟩
  .subst he;have:(bh s).findIdx? (·=x)=σ i:=by
    rw[List.findIdx?_eq_some_iff_getElem];refine⟨hi,by simpa using (x4.1 ab).2,λj U=>?_⟩;have:=X j U;rw[x6 Ω] at this;simpa using this
   unfold og;rw[this]
  .by_cases ah:j=i
   .subst ah;rw[ab];intro h;exact ag (by simpa using h)
   .exact X j Ω
 .rintro _ aa k ⟨W,X⟩;simp only[aQ,ak];refine⟨λh=>Ω,λ_=>⟨?_,Y.trans W⟩⟩;have:(bh s).findIdx? (·=t)=ν:=by
   rw[List.findIdx?_eq_none_iff];intro x aj;obtain⟨j,U,rfl⟩:=List.mem_iff_getElem.1 aj;have:=X j U;rw[x6 U] at this;simpa using this
  unfold og;rw[this]
theorem Hu:∀ (x:Nat),0<x-> ∃k m,x=2 ^ k*(2*m+1):=by
 intro x;induction x using Nat.strongRecOn with
 |_ x J=>
  intro h;by_cases U:x % 2=1
  .exact⟨0,x / 2,Ω⟩
  .obtain⟨k,m,hk⟩:=J (x / 2) Ω Ω;refine⟨k+1,m,?_⟩;rw[Nat.pow_succ,Nat.mul_assoc,Nat.mul_comm 2,<-Nat.mul_assoc,<-hk];omega
theorem uy {k i:Nat}:(2 ^ k*(2*m+1)).testBit i=(decide (i=k)||decide (k<i)&&m.testBit (i-k-1)):=by
 rw[Nat.testBit_two_pow_mul];by_cases h:k<=i
 .obtain⟨d,rfl⟩:=Nat.exists_eq_add_of_le h;cases d with
  |zero=>simp
  |succ d=>
   have e:(2*m+1).testBit (d+1)=m.testBit d:=by rw[Nat.testBit_succ];congr 1;omega
   simp[e,show k+(d+1)-k=d+1 by omega]
 .simp[h,show i≠k by omega,show ¬k<i by omega]
theorem Hv {k:Nat} (X:2 ^ k*(2*m+1)<2 ^ 64):(2 ^ k*(2*m+1)) &&& (2 ^ 64-2 ^ k*(2*m+1))=2 ^ k:=by
 have Y:0<2 ^ k:=Nat.two_pow_pos k;have hk:k<64:=by
  rcases Nat.lt_or_ge k 64 with h|h
  .exact h
  .have:2 ^ 64<=2 ^ k:=R5 Ω h;have:2 ^ k*1<=2 ^ k*(2*m+1):=Nat.mul_le_mul_left _ Ω;omega
 have U:2 ^ k*(2*m+1)=(2 ^ k*(2*m)+(2 ^ k-1))+1:=by rw[Nat.mul_add];omega
 apply Nat.eq_of_testBit_eq;intro i;rw[Nat.testBit_and,uy]
 conv=>lhs;rhs;rw[U]
 rw[Nat.testBit_two_pow_sub_succ Ω,Nat.testBit_two_pow_mul_add _ Ω,Nat.testBit_two_pow];by_cases h1:i=k
 .subst h1;simp[hk]
 .by_cases J:k<i
  .have V:(2*m).testBit (i-k)=m.testBit (i-k-1):=by
    obtain⟨d,W⟩:∃d,i-k=d+1:=⟨i-k-1,Ω⟩;rw[W,Nat.testBit_succ];congr 1;omega
   simp[h1,J,show ¬i<k by omega,V,show k≠i by omega];intro h;simp[h]
  .simp[h1,J,show k≠i by omega]
def i7 (a c:Nat):Nat:=(BitVec.ofNat 64 a &&& ~~~BitVec.ofNat 64 c).toNat
theorem zh (a c i:Nat):(i7 a c).testBit i=(decide (i<64)&&(a.testBit i&& !c.testBit i)):=by
 unfold i7;rw[BitVec.testBit_toNat,BitVec.getLsbD_and,BitVec.getLsbD_not,BitVec.getLsbD_ofNat,BitVec.getLsbD_ofNat];by_cases h:i<64<;>simp[h]
theorem Hw (a c:Nat):i7 a c<2 ^ 64:=BitVec.isLt _
theorem Hx {a:Nat} (h:∀i,n<=i->a.testBit i=false):a<2 ^ n:=Nat.lt_pow_two_of_testBit a h
theorem zi {a i:Nat} (h:a<2 ^ n) (hi:n<=i):a.testBit i=false:=Nat.testBit_lt_two_pow (Nat.lt_of_lt_of_le h (R5 Ω hi))
def gA (b n:Nat):List Nat:=(V0 n).filter λi=>b.testBit i
theorem zj (b n:Nat):(gA b n).Pairwise (·< ·):=List.Pairwise.filter _ List.pairwise_lt_range
theorem Hy {b i:Nat}:i∈gA b n↔i<n/\b.testBit i=true:=by simp[gA]
def mS:Option Nat->Int
 |some i=>(i:Int)
 |none=>-1
def i9 (b n:Nat) (v:Int):Int:=mS ((V0 n).find? (λi:Nat=>decide (v<(i:Int))&&b.testBit i))
theorem zk:∀ {l:List Nat} {k x:Nat},l.Pairwise (·< ·)->l[k]? =σ x->l.filter (λi=>decide (x<i))=l.drop (k+1)
 |y::l,0,x,h,hk=>by
  simp at hk;subst hk;rw[List.pairwise_cons] at h;simp only[List.drop_succ_cons,List.drop_zero];rw[List.filter_cons_of_neg Ξ,List.filter_eq_self.2 λa J=>by simpa using h.1 a J]
 |y::l,k+1,x,h,hk=>by
  simp only[List.getElem?_cons_succ] at hk;rw[List.pairwise_cons] at h;have:y<x:=h.1 x (x5 hk);rw[List.filter_cons_of_neg Θ,List.drop_succ_cons];exact zk h.2 hk
theorem zl (b n:Nat) (v:Int):i9 b n v=mS (((gA b n).filter (λi:Nat=>decide (v<i))).head?):=by
 unfold i9 gA;rw[<-List.head?_filter,List.filter_filter]
theorem Hz (b n:Nat):i9 b n (-1)=mS ((gA b n)[0]?):=by
 rw[zl,List.filter_eq_self.2 (λa _=>Θ),List.head?_eq_getElem?]
theorem zm {b k x:Nat} (h:(gA b n)[k]? =σ x):i9 b n x=mS ((gA b n)[k+1]?):=by
 have e:(λi:Nat=>decide ((x:Int)<i))=λi=>decide (x<i):=by funext i;simp
 rw[zl,e,zk (zj b n) h,List.head?_eq_getElem?,List.getElem?_drop]
theorem HA {b:Nat} {v:Int} (h:(n:Int)-1<=v):i9 b n v= -1:=by
 unfold i9;rw[List.find?_eq_none.2 λi hi=>by simp at hi ⊢;omega];rfl
theorem HB {b k s:Nat} (ab:n<=64) (V:b<2 ^ n) (U:∀i,r.testBit i=(decide (s<=i)&&b.testBit i)) (hk:r=2 ^ k*(2*m+1)) {v:Int} (ac:v+1=s):i9 b n v=k:=by
 have W:r.testBit k=true:=by rw[hk,uy];simp
 have X:∀i,i<k->r.testBit i=false:=λi hi=>by rw[hk,uy];simp[show i≠k by omega,show ¬k<i by omega]
 have J:=W;rw[U] at J;simp at J;have Y:k<n:=by
  rcases Nat.lt_or_ge k n with h|h
  .exact h
  .rw[zi V h] at J;cases J.2
 unfold i9;have:(V0 n).find? (λi:Nat=>decide (v<(i:Int))&&b.testBit i)=σ k:=by
  rw[List.find?_range_eq_some];refine⟨by simp[J.2];omega,by simpa using Y,λj aa=>?_⟩;have:=X j aa;rw[U] at this;simp only[Bool.not_eq_true',Bool.and_eq_false_iff,decide_eq_false_iff_not] at this ⊢;rcases this with h|h
  .exact .inl Ω
  .exact .inr h
 rw[this];rfl
theorem HC {b s:Nat} (J:∀i,r.testBit i=(decide (s<=i)&&b.testBit i)) (hk:r=0) {v:Int} (U:v+1=s):i9 b n v= -1:=by
 unfold i9;rw[List.find?_eq_none.2]
 .rfl
 .intro i hi;have:=J i;rw[hk,Nat.zero_testBit] at this;simp at hi this ⊢;intro h;exact this Ω
section
variable {P:V2} {w:x2} {t:o4} {cx cy:Bool} {a b:Nat} {K:y0->Prop}
theorem lV (a:Nat):T4 64 (a:Int)=BitVec.ofNat 64 a:=BitVec.ofInt_natCast _ _
theorem zn (x:BitVec 64):T0.wrap (x.toNat:Int)=(x.toNat:Int):=by
 have:=x.isLt;rw[wrap_u64 Ω Ω]
theorem u64_and (J:a<2 ^ 64) (V:b<2 ^ 64):U P (aA .and t cx cy (.int .u64 a) (.int .u64 b)) w K=K (.int .u64 ((a &&& b:Nat):Int)):=U.of λw' _=>by
 have e:(T4 64 (a:Int) &&& T4 64 (b:Int)).toNat=a &&& b:=by
  rw[lV,lV,BitVec.toNat_and,BitVec.toNat_ofNat,BitVec.toNat_ofNat,Nat.mod_eq_of_lt J,Nat.mod_eq_of_lt V]
 have hw:T0.wrap ((a &&& b:Nat):Int)=((a &&& b:Nat):Int):=by rw[<-e];exact zn _
 have W:(T4 T0.bits (a:Int) &&& T4 T0.bits (b:Int)).toNat=a &&& b:=e;simp only[aA,eqGuard,binOp,Op.intBits,W,hw];rfl
theorem zo:U P (aA .andNot t cx cy (.int .u64 a) (.int .u64 b)) w K=K (.int .u64 (i7 a b:Int)):=U.of λw' _=>by
 have e:(T4 64 (a:Int) &&& ~~~T4 64 (b:Int)).toNat=i7 a b:=by rw[lV,lV];rfl
 have hw:T0.wrap (i7 a b:Int)=(i7 a b:Int):=zn _;have J:(T4 T0.bits (a:Int) &&& ~~~T4 T0.bits (b:Int)).toNat=i7 a b:=e;simp only[aA,eqGuard,binOp,Op.intBits,J,hw];rfl
theorem rH {k:o6} (J:n<64):U P (aA .shr t cx cy (.int .u64 (a:Int)) (.int k (n:Int))) w K=K (.int .u64 ((a / 2 ^ n:Nat):Int)):=U.of λw' _=>by
 have e:(a:Int).fdiv (2 ^ min n T0.bits)=((a / 2 ^ n:Nat):Int):=by
  have:min n T0.bits=n:=S4 (by show n<=64;omega);rw[this,Int.fdiv_eq_ediv_of_nonneg _ (by exact Int.le_of_lt (Int.pow_pos Ω))];simp
 simp only[aA,eqGuard,binOp,Op.shift,j0,e];simp[show ¬(n:Int)<0 by omega]
theorem uz {k:o6} (J:n<64):U P (aA .shl t cx cy (.int .u64 1) (.int k (n:Int))) w K=K (.int .u64 ((2 ^ n:Nat):Int)):=by
 rw[yp Ω];have e:min ((n:Int).toNat) T0.bits=n:=S4 (by show n<=64;omega);have V:2 ^ n<2 ^ 64:=Nat.pow_lt_pow_right Ω J;rw[e,Int.one_mul,show ((2:Int) ^ n)=((2 ^ n:Nat):Int) by simp];generalize 2 ^ n=q at V ⊢;rw[wrap_u64 Ω Ω]
end
def rI:Λ:=[0,1,56,2,57,49,28,3,61,58,42,50,38,29,17,4,62,47,59,36,45,43,51,22,53,39,33,30,24,18,12,5,63,55,48,27,60,41,37,16,46,35,44,21,52,32,23,11,54,26,40,15,34,20,31,10,25,14,19,9,13,8,7,6]
def Laid (w:x2):Prop:=w.rangeAt 0 0 (ints .u8 rI)
theorem Laid.ext (h:Laid w) (J:Ext w w'):Laid w':=nX J h
theorem HD:∀k:Nat,k<64->rI[(2 ^ k*285870213051353865 % 2 ^ 64) / 2 ^ 58]? =σ (k:Int):=Φ
theorem HE {x k:Nat} (U:Laid w) (V:x=2 ^ k*(2*m+1)) (W:x<2 ^ 64):
  ai x3 FO [.int .u64 (x:Int)] w λv w'=>v=Δ (k:Int)/\Ext w w':=by
 have ad:0<2 ^ k:=Nat.two_pow_pos k;have ae:2 ^ k<=x:=by
  have:2 ^ k*1<=2 ^ k*(2*m+1):=Nat.mul_le_mul_left _ Ω;omega
 have hk:k<64:=by
  rcases Nat.lt_or_ge k 64 with h|h
  .exact h
  .have:2 ^ 64<=2 ^ k:=R5 Ω h;omega
 refine az func221 ?_;simp only[bn,ak];refine⟨λh=>Ω,λ_=>?_⟩;rw[kW];have X:T0.wrap (0-(x:Int))=((2 ^ 64-x:Nat):Int):=by
  simp only[o6.wrap,o6.bits,o6.signed];simp;omega
 rw[X,u64_and W Ω,V,Hv Ω];simp only[fL];have Y:T0.wrap (((2 ^ k:Nat):Int)*285870213051353865)=((2 ^ k*285870213051353865 % 2 ^ 64:Nat):Int):=by
  have e:((2 ^ k:Nat):Int)*285870213051353865=((2 ^ k*285870213051353865:Nat):Int):=Ξ
  rw[e];simp only[o6.wrap,o6.bits,o6.signed];simp
 have aa:(58:Int)=((58:Nat):Int):=rfl;rw[Y,aa,rH Ω];have J:=HD k hk;have ab:=(x4.1 J).1;rw[ub (t:=rq) rq.u cq.i ab,aS Ψ (by rw[S2];exact U _ _ (ke J)),fi cq.u ac.u,wrap_i64 Ω Ω];exact⟨rfl,Ext.refl _⟩
def ja (b n:Nat):y0:=.agg #[.int .u64 (b:Int),Δ (n:Int)]
def lW (b n:Nat):Prop:=n<=32/\b<2 ^ n
theorem zp (s i:Nat):(2 ^ s-1).testBit i=decide (i<s):=Nat.testBit_two_pow_sub_one s i
theorem zq {b:Nat} {v:Int}:ai x3 FJ [ja b n,Δ v] w λr w'=>r= .bool (decide (0<=v/\v<n))/\Ext w w':=by
 refine az func213 ?_;refine bP λg V W J U=>?_;simp only[bJ,cr,ak];refine⟨λh=>?_,λh=>⟨?_,J⟩⟩
 .rw[av cc.p 1 U rfl];simp only[aQ];exact⟨by simp[h],J⟩
 .rw[decide_eq_false];omega
theorem zr {b:Nat}:ai x3 Ez [ja b n] w λr w'=>r=Δ n/\Ext w w':=by
 refine az func80 ?_;refine bP λg V W J U=>?_;rw[av cc.p 1 U rfl];exact⟨rfl,J⟩
theorem HF {n:Int}:ai x3 Fc [Δ n] w λr w'=>Ext w w'/\r=(if 1<=n/\n<=32 then .tuple #[ja (2 ^ n.toNat-1) n.toNat,Δ 0] else .tuple #[ja 0 0,Δ 1]):=by
 refine az func149 ?_;refine bp cc.i λg V ae W X=>?_;refine aR (λv aa=>v= .bool (decide (¬(1<=n/\n<=32)))/\V=aa) ?_ ?_
 .rintro _ _ ⟨rfl,rfl⟩;simp only[ak];refine⟨λh=>?_,λh=>?_⟩
  .rw[c8 (cs:=#[.int .u64 0,Δ 0]) Ψ];refine bK (vs:=[.int .u64 0,Δ 0]) cc.i rfl rfl (by intro u hu;simp at hu;rcases hu with rfl|rfl<;>rfl) X λab J ac U=>?_;rw[eZ cc.p cc.i rfl U.range,if_neg h];exact⟨W.then J (by rintro r ad rfl;omega),rfl⟩
  .have h:1<=n/\n<=32:=X9.1 h;obtain⟨m,rfl⟩:∃m:Nat,n=m:=⟨n.toNat,Ω⟩;rw[uz Ω];have af:0<2 ^ m:=Nat.two_pow_pos m;have ag:2 ^ m<=2 ^ 32:=R5 Ω Ω;simp only[dj];rw[wrap_u64 Ω Ω,show (((2 ^ m:Nat):Int)-1)=((2 ^ m-1:Nat):Int) by omega];rw[c8 (cs:=#[.int .u64 ((2 ^ m-1:Nat):Int),Δ m]) Ψ];refine bK (vs:=[.int .u64 ((2 ^ m-1:Nat):Int),Δ m]) cc.i rfl rfl (by intro u hu;simp at hu;rcases hu with rfl|rfl<;>rfl) X λab J ac U=>?_;rw[eZ cc.p cc.i rfl U.range,if_pos h];exact⟨W.then J (by rintro r ad rfl;omega),rfl⟩
 .intro ah Y;simp only[aQ,bY,ak];refine⟨λh=>Y _ _ ⟨?_,rfl⟩,λh=>Y _ _ ⟨?_,rfl⟩⟩
  .rw[decide_eq_true];omega
  .congr 1;simp;omega
theorem zs {b:Nat} {v:Int} (ad:lW b n) (ae:Laid w) (al: -1<=v):ai x3 Fh [ja b n,Δ v] w λr w'=>r=Δ (i9 b n v)/\Ext w w':=by
 obtain⟨am,W⟩:=ad;have X:b<2 ^ 64:=Nat.lt_of_lt_of_le W (R5 Ω Ω);refine az func154 ?_;refine bP λg V an U Y=>?_;rw[av cc.p 1 Y rfl];simp only[dj,cr,ak];rw[wrap_i64 Ω Ω];refine⟨λh=>⟨by rw[HA h],U⟩,λao=>?_⟩;rw[av cc.p 0 Y rfl];refine aR (λu aa=>V=aa/\ ∃r s:Nat,u= .int .u64 (r:Int)/\r<2 ^ 64/\v+1=s/\ ∀i,r.testBit i=(decide (s<=i)&&b.testBit i)) ?_ ?_
 .rintro _ _ ⟨rfl,r,s,rfl,af,J,ab⟩;simp only[bn,ak];refine⟨λag=>⟨by rw[HC ab Ω J],U⟩,λag=>?_⟩;obtain⟨k,m,hk⟩:=Hu r Ω;refine (HE (ae.ext U) hk af).mono ?_;rintro _ ap _ ⟨rfl,ah⟩;exact⟨by rw[HB Ω W ab hk J],U.trans ah⟩
 .intro aq ac;refine⟨λh=>?_,λh=>?_⟩
  .obtain⟨s,rfl⟩:∃s:Nat,v=s:=⟨v.toNat,Ω⟩;have au:0<2 ^ (s+1):=Nat.two_pow_pos _;have aw:2 ^ (s+1)<=2 ^ 32:=R5 Ω Ω;simp only[aL];rw[wrap_i64 Ω Ω,show ((s:Int)+1)=((s+1:Nat):Int) by omega,uz Ω];simp only[dj];rw[wrap_u64 Ω Ω,show (((2 ^ (s+1):Nat):Int)-1)=((2 ^ (s+1)-1:Nat):Int) by omega,zo];refine ac _ _ ⟨rfl,_,s+1,rfl,Hw _ _,Ω,λi=>?_⟩;rw[zh,zp];by_cases aj:i<64
   .by_cases hi:s+1<=i
    .simp[aj,hi,show ¬i<s+1 by omega]
    .simp[hi,show i<s+1 by omega]
   .rw[zi X Ω];simp
  .exact ac _ _ ⟨rfl,b,0,rfl,X,Ω,λi=>Ξ⟩
theorem HG {b:Nat} (U:lW b n) (W:Laid w):ai x3 Fg [ja b n] w λr w'=>r=Δ (i9 b n (-1))/\Ext w w':=by
 refine az func153 ?_;refine bP λg V ab J X=>?_;rw[br cc.p cc.i rfl X.range];refine (zs U (W.ext J) Ω).mono ?_;rintro _ aa _ ⟨rfl,Y⟩;exact⟨rfl,J.trans Y⟩
theorem HH {b:Nat} {v:Int} (an:lW b n):ai x3 Ff [ja b n,Δ v] w λr w'=>r=ja (if 0<=v/\v<n then i7 b (2 ^ v.toNat) else b) n/\Ext w w':=by
 refine az func151 ?_;refine bP λg V aB ac ae=>?_;refine bp cc.i λao aa aC af ag=>?_;have s1:=ac.size;have aD:=ae.lt;refine dv (λU=>∃W,ad U g cc [.int .u64 ((W:Nat):Int),Δ (n:Int)]/\ad U ao cc [.int .u64 0,Δ 0]/\Ext w U/\W=(if 0<=v/\v<n then i7 b (2 ^ v.toNat) else b)) ?_ ?_
 .rintro U ⟨W,ap,aq,au,rfl⟩;rw[br cc.p cc.i rfl ap.range];refine bK (vs:=[_,_]) cc.i rfl rfl (by intro u hu;simp at hu;rcases hu with rfl|rfl<;>rfl) aq λaE aw aF ax=>?_;rw[eZ cc.p cc.i rfl ax.range];exact⟨rfl,au.then aw (by rintro r ay rfl;omega)⟩
 .intro aG ah;have X:=ae.ext af;rw[br cc.p cc.i rfl X.range];refine zq.mono ?_;rintro _ aH _ ⟨rfl,J⟩;have aj:=(ac.trans af).trans J;simp only[ak,cK];refine⟨λh aI Y _ _=>?_,λh=>ah _ ⟨b,X.ext J,ag.ext J,aj,by rw[if_neg h]⟩⟩;have al:=(X.ext J).ext Y;rw[av cc.p 0 al rfl];obtain⟨s,rfl⟩:∃s:Nat,v=s:=⟨v.toNat,Ω⟩;have aJ:=an.1;rw[uz Ω,zo,aM cc.p rfl];refine bj eH.i rfl rfl al (by simp[ja,y0.cells]) λaK am aL aA=>?_;refine ah _ ⟨_,aA,((ag.ext J).ext Y).ab am Ω,(aj.trans Y).then am (by rintro r ay rfl;omega),?_⟩;rw[if_pos h,j0]
def oh (v:Int):Nat:=if v<0 then 0 else 40-v.toNat
theorem uA (x:Nat):oh x=40-x:=by unfold oh;rw[if_neg Ω];omega
theorem uB {b g:Nat} (U:lW b n):
  ml x3 mv [Γ g] (gA b n).length (λk vs _=>∃v:Nat,(gA b n)[k]? =σ v/\vs=[Δ (v:Int)])
   (λw=>ad w g cc [.int .u64 (b:Int),Δ (n:Int)]/\Laid w):=by
 refine⟨mv.enters,λl ai ax w ab _ aj ⟨ac,ae⟩ al=>?_⟩;have ay:=U.1;refine pq func152 ?_;rw[br cc.p cc.i rfl ac.range];refine (HG U ae).free.mono ?_;rintro _ V ⟨am,rfl,W⟩;refine⟨λv aa=>∃k,k<=(gA b n).length/\v=Δ (mS (gA b n)[k]?)/\ai k aa/\ad aa g cc [.int .u64 (b:Int),Δ (n:Int)]/\Laid aa,
  λv _=>oh (bS v),⟨0,X7 _,by rw[Hz],ab 0 _ _ W am.b al,ac.ext W,ae.ext W⟩,?_⟩
 rintro _ aa ⟨k,hk,rfl,af,an,ao⟩;cases J:(gA b n)[k]? with
 |none=>
  have:k=(gA b n).length:=by
   have:=List.getElem?_eq_none_iff.1 J;omega
  subst this;simp only[mS,cr,ak];exact⟨λh=>Ω,λ_=>.inl af⟩
 |some x=>
  have X:=(x4.1 J).1;have az:=(Hy.1 (x5 J)).1;simp only[mS,cr,ak];refine⟨λ_=>?_,λh=>Ω⟩;refine⟨rfl,(aj k _ aa X ⟨an,ao⟩ ⟨x,J,rfl⟩ af).mono ?_⟩;rintro _ aA (⟨rfl,⟨ag,ah⟩,ap⟩|⟨rfl,aq⟩)
  .simp only[bg,Y6,aT];rw[br cc.p cc.i rfl ag.range];refine (zs U ah Ω).free.mono ?_;rintro _ aB ⟨au,rfl,Y⟩;refine⟨⟨k+1,X,congrArg (U1 .i64) (zm J),ab _ _ _ Y au.b ap.1,ag.ext Y,ah.ext Y⟩,?_⟩;rw[zm J];cases av:(gA b n)[k+1]? with
   |none=>show 0<oh x;rw[uA];omega
   |some y=>
    have aC:x<y:=by
     have h1:=(x4.1 J).2;have aw:=(x4.1 av).2;rw[<-h1,<-aw];exact U3.1 (zj b n) k (k+1) _ _ Ω
    show oh y<oh x;rw[uA,uA];omega
  .simp only[bg,W6,bX];exact .inr ⟨k,X,aq⟩
theorem uC {b:Nat}:ai x3 El [ja b n] w λr w'=>Ext w w'/\ ∃g,r= .func (.func mv) #[] #[Γ g]/\w.heap.size<=g/\ad w' g cc [.int .u64 (b:Int),Δ (n:Int)]:=by
 refine az func65 ?_;refine bP λg V W J U=>?_;rw[kX];exact⟨J,g,rfl,Ω,U⟩
abbrev dW (s:Λ):Prop:=∀x∈s,1<=x/\x<=32
theorem dW.tail {s:Λ} (h:dW (k::s)):dW s:=λx J=>h x (.tail _ J)
theorem k7 {s:Λ} (h:dW s):1<=aJ s:=(pt s h).1
theorem oi:∀ (s t:Λ) (m:Int),cB s t m=(cB s t 0).map λn=>n+m*aJ s
 |[],[],m=>by simp[cB,aJ]
 |k::s,v::t,m=>by
  unfold cB;split
  .rw[oi s t (m*k+v),oi s t (0*k+v)];simp only[Option.map_map,aJ];congr 1;funext n;simp only[Function.comp];rw[Int.add_mul,Int.add_mul,<-Int.mul_assoc];simp;omega
  .rfl
 |[],_::_,_=>rfl
 |_::_,[],_=>rfl
theorem uD {L j:Nat} {rest:List (Λ)} (W:rest.length=L):∀ {kn v:Nat},v<kn-> ∀ {x:Λ},rest[j]? =σ x->
  ((V0 kn).flatMap λ(v:Nat)=>rest.map λt=>(v:Int)::t)[v*L+j]? =σ ((v:Int)::x)
 |0,v,h,_,_=>Ω
 |kn+1,v,h,x,U=>by
  have X:=(x4.1 U).1;have V:((V0 kn).flatMap λ(v:Nat)=>rest.map λt=>(v:Int)::t).length=kn*L:=by
   simp only[List.length_flatMap,u5,W];rw[List.map_const',List.length_range,List.sum_replicate_nat]
  rw[List.range_succ,List.flatMap_append];by_cases J:v<kn
  .have:(v+1)*L<=kn*L:=X1 _ J;rw[U7] at this;rw[Y3 (by rw[V];omega)];exact uD W J U
  .have J:v=kn:=Ω
   subst J;rw[Y5 (by rw[V];omega),V,show v*L+j-v*L=j by omega];simp[U]
theorem mT:∀ {s:Λ},dW s-> ∀ {i:Nat} {t:Λ},(bh s)[i]? =σ t->cB s t 0=σ (i:Int)
 |[],_,i,t,h=>by
  cases i with
  |zero=>simp[bh] at h;subst h;rfl
  |succ i=>simp[bh] at h
 |k::s,J,i,t,h=>by
  have hk:=J k (.head _);have U:=hq J.tail;have ac:=k7 J.tail;obtain⟨kn,rfl⟩:∃kn:Nat,k=kn:=⟨k.toNat,Ω⟩;have hi:=(x4.1 h).1;rw[hq J,aJ,Int.toNat_mul Ω Ω,<-U,j0] at hi;have Y:0<(bh s).length:=Ω
  have V:i / (bh s).length<kn:=Nat.div_lt_of_lt_mul (by rw[Nat.mul_comm];exact hi);have aa:i % (bh s).length<(bh s).length:=Nat.mod_lt _ Y;obtain⟨x,W⟩:∃x,(bh s)[i % (bh s).length]? =σ x:=⟨_,x6 aa⟩;have X:=uD (kn:=kn) rfl V W;rw[Nat.mul_comm,Nat.div_add_mod] at X;have h':((V0 ((kn:Int).toNat)).flatMap λ(v:Nat)=>(bh s).map λt=>(v:Int)::t)[i]? =σ t:=h;rw[j0,X] at h';cases h';unfold cB;rw[if_pos ⟨Int.natCast_nonneg _,Int.ofNat_lt.2 V⟩,oi,mT J.tail W];simp only[Y4,Y8,Int.zero_mul,Int.zero_add];have ab:aJ s=((bh s).length:Int):=by rw[U];omega
  rw[ab,<-Int.natCast_mul,<-Int.natCast_add];congr 1;rw[Nat.mul_comm,Nat.add_comm,Nat.div_add_mod]
theorem pA:∀ {s:Λ},dW s-> ∀ {t:Λ} {n:Int},cB s t 0=σ n->(bh s)[n.toNat]? =σ t
 |[],_,[],n,h=>by simp[cB] at h;subst h;rfl
 |k::s,J,v::t,n,h=>by
  have hk:=J k (.head _);have W:=hq J.tail;have aa:=k7 J.tail;obtain⟨kn,rfl⟩:∃kn:Nat,k=kn:=⟨k.toNat,Ω⟩;unfold cB at h;split at h
  .rename_i ab;rw[oi] at h;cases V:cB s t 0 with
   |none=>rw[V] at h;cases h
   |some q=>
    rw[V] at h;simp only[Y4,Y8,Int.zero_mul,Int.zero_add] at h;have X:=mL J.tail V;simp only[Int.zero_mul,Int.zero_add,Int.one_mul] at X;obtain⟨U,rfl⟩:∃U:Nat,v=U:=⟨v.toNat,Ω⟩;have Y:=uD (kn:=kn) (v:=U) rfl Ω (pA J.tail V);have e:n.toNat=U*(bh s).length+q.toNat:=by
     rw[<-h,W];have:((U*(aJ s).toNat:Nat):Int)=(U:Int)*aJ s:=by rw[Int.natCast_mul,Int.toNat_of_nonneg Ω]
     omega
    rw[e];show ((V0 ((kn:Int).toNat)).flatMap λ(v:Nat)=>(bh s).map λt=>(v:Int)::t)[_]? =_;rw[j0];exact Y
  .cases h
 |[],_,_::_,_,h=>by cases h
 |_::_,_,[],_,h=>by cases h
theorem zt:∀ (s:Λ),dW s-> ∀ (n c:Int),cF s (n+c*aJ s)=cF s n
 |[],_,_,_=>rfl
 |k::s,J,n,c=>by
  have U:=k7 J.tail;simp only[cF,aJ];rw[<-Int.mul_assoc,zt s J.tail,Int.add_mul_ediv_right _ _ Ω,Int.add_mul_emod_self_right]
theorem pB:∀ {s:Λ},dW s-> ∀ {n:Int},0<=n->n<aJ s->cB s (cF s n) 0=σ n
 |[],_,n,U,h1=>by simp[aJ] at h1;simp[cF,cB];omega
 |k::s,J,n,U,h1=>by
  have hk:=J k (.head _);have X:=k7 J.tail;simp only[cF,aJ] at h1 ⊢;have V:n / aJ s<k:=Int.ediv_lt_of_lt_mul Ω h1;have W:0<=n / aJ s:=Int.ediv_nonneg U Ω;have hm:n / aJ s % k=n / aJ s:=Int.emod_eq_of_lt W V;rw[hm];unfold cB;rw[if_pos ⟨W,V⟩,oi];have e:cF s n=cF s (n % aJ s):=by
   have:=zt s J.tail (n % aJ s) (n / aJ s);rw[<-this];congr 1;have:=Int.emod_add_mul_ediv n (aJ s);rw[Int.mul_comm (n / aJ s)];omega
  rw[e,pB J.tail (Int.emod_nonneg _ Ω) (Int.emod_lt_of_pos _ Ω)];simp only[Y4,Y8,Int.zero_mul,Int.zero_add];have:=Int.emod_add_mul_ediv n (aJ s);rw[Int.mul_comm (n / aJ s)];omega
theorem mU {s:Λ} (J:dW s) {i:Nat} (h:(i:Int)<aJ s):(bh s)[i]? =σ (cF s i):=by
 have:=pA J (pB J (n:=(i:Int)) Ω h);simpa using this
def ch (s cs t:Λ):Int:=match cB s t 0 with
 |some n=>cs.getD n.toNat 0
 |none=>0
def upto {α:Type} (l:List α) (d:α) (i:Nat):List α:=l.take i++o8 (l.length-i) d
theorem pC {α:Type} (l:List α) (d:α) (i:Nat):(upto l d i).length=l.length:=by simp[upto];omega
theorem oj {α:Type} (l:List α) (d:α):upto l d 0=o8 l.length d:=by simp[upto]
theorem ol {α:Type} (l:List α) (d:α):upto l d l.length=l:=by simp[upto]
theorem om {α:Type} {l:List α} {d x:α} {i:Nat} (h:l[i]? =σ x):(upto l d i).set i x=upto l d (i+1):=by
 have hi:=(x4.1 h).1;unfold upto;rw[T6 _ _ Θ,r9,h];have e:i-(l.take i).length=0:=Θ
 obtain⟨m,hm⟩:∃m,l.length-i=m+1:=⟨l.length-i-1,Ω⟩;rw[e,hm,show l.length-(i+1)=m by omega];simp[List.replicate_succ]
theorem oo {α:Type} {l:List α} {i:Nat} {x:α} (h:l[i]? =σ x):l.set i x=l:=by
 apply W5;intro j;rw[W3];split
 .rename_i J;subst J;rw[if_pos (x4.1 h).1,h]
 .rfl
def uE:Λ->Int
 |[]=>0
 |x::l=>l.foldl min x
def zu (P:Int->Prop) (m:Int):Prop:=P m/\ ∀x,P x->m<=x
def dg (s t:Λ):Prop:=∃n,cB s t 0=σ n
theorem HI (k v:Int) (s t:Λ):cB (k::s) (v::t) 0=if 0<=v/\v<k then (cB s t 0).map (λn=>n+(0*k+v)*aJ s) else ν:=by
 conv=>lhs;unfold cB
 rw[oi]
theorem zv {v:Int} {s t:Λ}:dg (k::s) (v::t)↔(0<=v/\v<k)/\dg s t:=by
 unfold dg;rw[HI];constructor
 .rintro⟨n,h⟩;split at h
  .rename_i J;cases U:cB s t 0 with
   |none=>rw[U] at h;cases h
   |some q=>exact⟨J,q,rfl⟩
  .cases h
 .rintro⟨J,q,U⟩;rw[if_pos J,U];exact⟨_,rfl⟩
theorem zw {t:Λ}:dg [] t↔t=[]:=by
 cases t with
 |nil=>exact⟨λ_=>rfl,λ_=>⟨0,rfl⟩⟩
 |cons v t=>
  constructor
  .rintro⟨_,h⟩;cases h
  .intro h;cases h
theorem rJ {s t:Λ} (h:dg s t):s.length=t.length:=by
 obtain⟨n,h⟩:=h;rcases Nat.decEq s.length t.length with J|J
 .rw[ue s t 0 J] at h;cases h
 .exact J
theorem zx {s t:Λ} (J:dW s) {n:Int} (h:cB s t 0=σ n):cF s n=t:=by
 have V:=mL J h;have h1:=pA J h;simp only[Int.zero_mul,Int.zero_add,Int.one_mul] at V;have U:=mU J (i:=n.toNat) Ω;rw[h1] at U;have e:((n.toNat:Nat):Int)=n:=Ω
 rw[e] at U;exact (Z9 U).symm
theorem rK {s cs:Λ} (J:dW s) (U:cs.length=(aJ s).toNat):cs=(V0 (aJ s).toNat).map λ(q:Nat)=>ch s cs (cF s q):=by
 apply List.ext_getElem
 .simp[U]
 .intro i h1 V;rw[List.getElem_map,List.getElem_range];have W:=k7 J;have hi:(i:Int)<aJ s:=Ω
  unfold ch;rw[pB J Ω hi];simp only[j0];rw[u9,x6 h1];rfl
theorem uF {s:Λ} (J:dW s) {q:Nat} (U:q<(aJ s).toNat):dg s (cF s q):=⟨_,pB J Ω (by have:=k7 J;omega)⟩
theorem HJ {s cs U:Λ} (J:dW s) (V:cs.length=(aJ s).toNat) (W:U.length=(aJ s).toNat) (h:∀t,dg s t->ch s cs t=ch s U t):cs=U:=by
 rw[rK J V,rK J W];apply List.map_congr_left;intro q X;exact h _ (uF J (by simpa using X))
theorem HK (h:l≠[]):zu (λc=>c∈l) (uE l):=by
 obtain⟨x,r,rfl⟩:∃v r,l=v::r:=by cases l with
  |nil=>exact absurd rfl h
  |cons v r=>exact⟨v,r,rfl⟩
 clear h;show zu (λc=>c∈x::r) (r.foldl min x);induction r generalizing x with
 |nil=>exact⟨.head _,λy V=>by simp at V;simp[V]⟩
 |cons y r W=>
  rw[List.foldl_cons];obtain⟨h1,U⟩:=W (min x y);refine⟨?_,λz J=>?_⟩
  .rcases T1.1 h1 with h1|h1
   .rw[h1];rcases Int.le_total x y with h|h
    .rw[Int.min_eq_left h];exact .head _
    .rw[Int.min_eq_right h];exact .tail _ (.head _)
   .exact .tail _ (.tail _ h1)
  .rcases T1.1 J with rfl|J
   .have:=U _ (.head _);omega
   .rcases T1.1 J with rfl|J
    .have:=U _ (.head _);omega
    .exact U _ (.tail _ J)
def oq (m:Λ) (i j:Nat):Prop:=∀ (p q:Nat) (x y:Int),p<q->q<=i->q≠j->m[p]? =σ x->m[q]? =σ y->x<=y
def pD (m:Λ) (i:Nat):Prop:=∀ (p q:Nat) (x y:Int),p<q->q<i->m[p]? =σ x->m[q]? =σ y->x<=y
theorem HL {m:Λ} {i:Nat} (h:pD m i):oq m i i:=λp q x y h1 V W J U=>h p q x y h1 Ω J U
theorem HM {m:Λ} {i:Nat} (h:oq m i 0):pD m (i+1):=λp q x y h1 V J U=>h p q x y h1 Ω Ω J U
theorem HN {m:Λ} {i:Nat} {a b:Int} (h:oq m i j) (ab:0<j) (V:m[j-1]? =σ a) (X:m[j]? =σ b) (Y:a<=b):pD m (i+1):=by
 intro p q x y h1 ac J U;by_cases W:q=j
 .subst W;rw[X] at U;cases U;by_cases aa:p=q-1
  .subst aa;rw[V] at J;cases J;exact Y
  .have:=h p (q-1) x a Ω Ω Ω J V;omega
 .exact h p q x y h1 Ω W J U
theorem HO {m:Λ} {i:Nat} {a b:Int} (h:oq m i j) (af:0<j) (hi:j<=i) (X:m[j-1]? =σ a) (Y:m[j]? =σ b) (ag:b<a):oq ((m.set j a).set (j-1) b) i (j-1):=by
 intro p q x y h1 W aa J U;have ab:=(x4.1 Y).1;have ac:∀ (r:Nat),((m.set j a).set (j-1) b)[r]? =if r=j-1 then σ b else if r=j then σ a else m[r]?:=λr=>by
  by_cases h:r=j-1
  .subst h;rw[U5 Θ,if_pos rfl]
  .rw[V3 (S6 h),if_neg h];by_cases h':r=j
   .subst h';rw[U5 ab,if_pos rfl]
   .rw[V3 (S6 h'),if_neg h']
 rw[ac] at J U;rw[if_neg aa] at U;by_cases V:q=j
 .rw[if_pos V] at U;cases U;split at J
  .cases J;omega
  .split at J
   .omega
   .exact h p (j-1) x a Ω Ω Ω J X
 .rw[if_neg V] at U;split at J
  .cases J;have:=h j q b y;by_cases ad:j<q
   .exact this ad W V Y U
   .omega
  .split at J
   .rename_i ae;subst ae;cases J;exact h (p-1) q a y Ω W V X U
   .exact h p q x y h1 W V J U
theorem swap_perm {m:Λ} {i:Nat} {a b:Int} (W:i<j) (U:m[i]? =σ a) (J:m[j]? =σ b):((m.set j a).set i b).Perm m:=by
 induction m generalizing i j with
 |nil=>simp at U
 |cons x m V=>
  cases j with
  |zero=>omega
  |succ j=>
   cases i with
   |zero=>
    simp at U J ⊢;subst U;obtain⟨X,J⟩:=x4.1 J;rw[show m=m.take j++m[j]::m.drop (j+1) by simp];rw[T6 _ _ Θ];have e:j-(m.take j).length=0:=Θ
    rw[e,J];simp only[List.set_cons_zero];refine (List.Perm.cons b (List.perm_middle)).trans ?_;refine (List.Perm.swap x b _).trans ?_;exact List.Perm.cons x List.perm_middle.symm
   |succ i=>
    simp at U J ⊢;exact V Ω U J
theorem HP {m:Λ} (h:pD m m.length):m.Pairwise (·<= ·):=by
 rw[U3];intro i j hi J U;exact h i j _ _ U J (x6 hi) (x6 J)
def Good (o:Λ) (n:Nat):Prop:=o.length=n/\ ∀ (i:Nat) (p:Int),o[i]? =σ p->(0<=p/\p<n)/\ ∀j,j<i->o[j]? ≠σ p
theorem Good.inj {o:Λ} {i:Nat} {p:Int} (h:Good o n) (hi:o[i]? =σ p) (J:o[j]? =σ p):i=j:=by
 rcases Nat.lt_trichotomy i j with h1|h1|h1
 .exact absurd hi ((h.2 j p J).2 i h1)
 .exact h1
 .exact absurd J ((h.2 i p hi).2 j h1)
def zy (m:Λ):Prop:=∀i:Nat,i<m.length->m[i]? =σ (i:Int)
theorem zz {o m:Λ} (h:Good o n) (U:m.Perm o) (J:m.Pairwise (·<= ·)):zy m:=by
 have aa:o.Nodup:=U3.2 λi j hi ab ag he=>by
  have:=h.inj (i:=i) (j:=j) (p:=o[j]) (by rw[x6 hi,he]) (x6 ab);omega
 have ac:m.Nodup:=U.nodup_iff.2 aa;have ah:m.length=n:=by rw[U.length_eq,h.1]
 have X:∀x∈m,0<=x/\x<(n:Int):=λx ad=>by
  obtain⟨i,hi,he⟩:=List.getElem_of_mem (U.mem_iff.1 ad);exact (h.2 i x (by rw[x6 hi,he])).1
 have Y:∀ (i:Nat) (hi:i+1<m.length),m[i]<m[i+1]:=λi hi=>by
  have h1:=U3.1 J i (i+1) Ω hi Ω;have V:=U3.1 ac i (i+1) Ω hi Ω;omega
 have ae:∀ (i:Nat) (hi:i<m.length),(i:Int)<=m[i]:=by
  intro i;induction i with
  |zero=>intro hi;exact (X _ (S3 hi)).1
  |succ i W=>
   intro hi;have h1:=W Ω;have V:=Y i hi;omega
 have af:∀ (d i:Nat) (hi:i<m.length),i+d+1=m.length->m[i]<=(i:Int):=by
  intro d;induction d with
  |zero=>
   intro i hi he;have:=(X _ (S3 hi)).2;omega
  |succ d W=>
   intro i hi he;have h1:=W (i+1) Ω Ω;have V:=Y i Ω;omega
 intro i hi;rw[x6 hi];have h1:=ae i hi;have V:=af (m.length-i-1) i hi Ω;congr 1;omega
theorem HQ {o m:Λ} (h:zy m) (U:m.Perm o):Good o m.length:=by
 have Y:m.Nodup:=U3.2 λi j hi J ab he=>by
  have h1:=h i hi;have V:=h j J;rw[x6 hi] at h1;rw[x6 J] at V;have h1:=Z9 h1;have V:=Z9 V;omega
 have aa:o.Nodup:=U.nodup_iff.1 Y;refine⟨U.length_eq.symm,λi p hi=>⟨?_,λj J W=>?_⟩⟩
 .obtain⟨k,hk,he⟩:=List.getElem_of_mem (U.mem_iff.2 (x5 hi));have h1:=h k hk;rw[x6 hk,he] at h1;cases h1;omega
 .have X:i<o.length:=(x4.1 hi).1;have:=U3.1 aa j i Ω X J;rw[x6 X] at hi;rw[x6 (show j<o.length by omega)] at W;exact this ((Z9 W).trans (Z9 hi).symm)
theorem Good.zA {o:Λ} {p:Nat} (h:Good o n) (U:p<n):∃j:Nat,o[j]? =σ (p:Int):=by
 let le:Int->Int->Bool:=λa b=>decide (a<=b);have h1:(o.mergeSort le).Perm o:=List.mergeSort_perm o le;have J:(o.mergeSort le).Pairwise (·<= ·):=by
  refine (List.pairwise_mergeSort (le:=le) (λa b c h1 J=>?_) (λa b=>?_) o).imp λh=>by simpa[le] using h
  .simp[le] at*;omega
  .simp[le];omega
 have V:=zz h h1 J p (by rw[h1.length_eq,h.1];exact U);obtain⟨j,W,he⟩:=List.getElem_of_mem (h1.mem_iff.1 (x5 V));exact⟨j,by rw[x6 W,he]⟩
def k8 (o x:Λ):Λ:=(V0 o.length).map λ(p:Nat)=>x.getD (o.idxOf (p:Int)) 0
theorem zB (o x:Λ):(k8 o x).length=o.length:=by simp[k8]
theorem zC {o x:Λ} {p:Int} (h:Good o n) (X:x.length=n) (J:o[j]? =σ p):(k8 o x)[p.toNat]? =x[j]?:=by
 have h1:=(h.2 j p J).1;have Y:j<o.length:=(x4.1 J).1;have hm:p∈o:=x5 J;have U:=List.idxOf_lt_length_of_mem hm;have V:o.idxOf p=j:=h.inj (by rw[x6 U,List.getElem_idxOf U]) J;have W:((p.toNat:Nat):Int)=p:=Ω
 have aa:=h.1;unfold k8;rw[u4,List.getElem?_range Ω];simp only[Y4,W,V];rw[u9,x6 (show j<x.length by omega)];rfl
theorem zD {o x y:Λ} (h:Good o n) (V:x.length=n) (Y:y.length=n) (W:∀ (j:Nat) (p:Int),o[j]? =σ p->y[p.toNat]? =x[j]?):y=k8 o x:=by
 refine W5 λp=>?_;have aa:=h.1;by_cases X:p<n
 .obtain⟨j,J⟩:=h.zA X;have h1:=W j p J;have U:=zC h V J;rw[j0] at h1 U;rw[h1,U]
 .rw[Y9 Ω,Y9 (by rw[zB];omega)]
theorem mV:∀ {s t:Λ},dg s t↔s.length=t.length/\ ∀ (i:Nat) (a v:Int),s[i]? =σ a->t[i]? =σ v->0<=v/\v<a
 |[],t=>by
  rw[zw];exact⟨λh=>⟨by rw[h],λi a v h _=>by simp at h⟩,λh=>Z8 h.1.symm⟩
 |k::s,[]=>⟨λh=>absurd (rJ h) Ξ,λh=>absurd h.1 Ξ⟩
 |k::s,v::t=>by
  rw[zv,mV (s:=s) (t:=t)];refine⟨λ⟨h1,U,V⟩=>⟨by simp[U],λi a u J hu=>?_⟩,λ⟨h1,U⟩=>⟨U 0 k v rfl rfl,by simpa using h1,λi a u J hu=>U (i+1) a u (by simpa using J) (by simpa using hu)⟩⟩;cases i with
  |zero=>simp at J hu;subst J;subst hu;exact h1
  |succ i=>exact V i a u (by simpa using J) (by simpa using hu)
def ee (s o:Λ):Λ:=o.map λp=>s.getD p.toNat 0
theorem rL (s o:Λ):(ee s o).length=o.length:=by simp[ee]
theorem zE {s o:Λ} {p:Int} (h:Good o n) (J:s.length=n) (U:o[j]? =σ p):(ee s o)[j]? =s[p.toNat]?:=by
 have h1:=(h.2 j p U).1;unfold ee;rw[u4,U,Y4,u9,x6 (show p.toNat<s.length by omega)];rfl
theorem HR {s o:Λ} (h:Good o n) (J:s.length=n) {x:Int} (U:x∈ee s o):x∈s:=by
 obtain⟨p,V,rfl⟩:=Z6.1 U;obtain⟨j,W,he⟩:=List.getElem_of_mem V;have h1:=(h.2 j p (by rw[x6 W,he])).1;rw[u9,x6 (show p.toNat<s.length by omega)];exact S3 _
theorem bZ.HS {s o:Λ} (U:bZ s) (h:Good o n) (J:s.length=n):bZ (ee s o):=
 ⟨by rw[rL,h.1,<-J];exact U.1,λx V=>U.2 x (HR h J V)⟩
theorem HT {s o x:Λ} (h:Good o n) (J:s.length=n) (Y:dg (ee s o) x):dg s (k8 o x):=by
 obtain⟨h1,aa⟩:=mV.1 Y;rw[rL,h.1] at h1;refine mV.2 ⟨by rw[zB,h.1,J],λp a v U ab=>?_⟩;have ac:p<n:=by have:=(x4.1 U).1;omega
 obtain⟨j,V⟩:=h.zA ac;have W:=zE h J V;have X:=zC h h1.symm V;rw[j0] at W X;exact aa j a v (by rw[W,U]) (by rw[<-X,ab])
def mW (s cs o:Λ):Λ:=(V0 (aJ (ee s o)).toNat).map λ(q:Nat)=>ch s cs (k8 o (cF (ee s o) q))
theorem zF (s cs o:Λ):(mW s cs o).length=(aJ (ee s o)).toNat:=by simp[mW]
theorem uG {f:Int->Bool} {x:Int}:runN f (x::l)=if f x=true then runN f l+1 else 0:=by
 unfold runN;rw[List.takeWhile_cons];by_cases h:f x=true
 .rw[if_pos h,if_pos h,Z5]
 .rw[if_neg h,if_neg h];rfl
theorem uH (f:Int->Bool):∀l:Λ,l.dropWhile f=l.drop (runN f l)
 |[]=>rfl
 |x::l=>by
  rw[List.dropWhile_cons,uG];by_cases h:f x=true
  .rw[if_pos h,if_pos h,uH f l];rfl
  .rw[if_neg h,if_neg h];rfl
theorem zG (f:Int->Bool):∀l:Λ,l.takeWhile f=l.take (runN f l)
 |[]=>rfl
 |x::l=>by
  rw[List.takeWhile_cons,uG];by_cases h:f x=true
  .rw[if_pos h,if_pos h,List.take_succ_cons,zG f l]
  .rw[if_neg h,if_neg h];rfl
theorem zH {f:Int->Bool}:∀ {l:Λ} {b:Int} {q:Λ},l.dropWhile f=b::q->f b=false
 |x::l,b,q,h=>by
  rw[List.dropWhile_cons] at h;by_cases J:f x=true
  .rw[if_pos J] at h;exact zH h
  .rw[if_neg J] at h;have:=(List.cons.inj h).1;subst this;cases U:f x
   .rfl
   .exact absurd U J
theorem uI {p:Λ} {a:Nat} {b:Int} {q:Λ} (h:p.drop a=b::q):p[a]? =σ b:=by
 have:=List.getElem?_drop (xs:=p) (i:=a) (j:=0);rw[h] at this;simpa using this.symm
theorem HU (p:Λ) (at_:Nat):match oc p at_ with
  | .word a b=>lex (p.drop at_)=(((p.take b).drop a)::(lex (p.drop b)).1,(lex (p.drop b)).2)
  | .none=>lex (p.drop at_)=([],true)
  | .text _=>lex (p.drop at_)=([],false):=by
 have X:(p.drop at_).dropWhile ct=p.drop (fQ p at_):=by rw[uH,List.drop_drop];rfl
 have Y:(p.drop (fQ p at_)).dropWhile bQ=p.drop (h9 p (fQ p at_)):=by rw[uH,List.drop_drop];rfl
 have ab:(p.drop (fQ p at_)).takeWhile bQ=(p.take (h9 p (fQ p at_))).drop (fQ p at_):=by
  rw[zG,List.drop_take];congr 1;unfold h9;omega
 have W:runN bQ (p.drop (fQ p at_))=h9 p (fQ p at_)-fQ p at_:=by unfold h9;omega
 have al:fQ p at_<=h9 p (fQ p at_):=by unfold h9;omega
 unfold oc;generalize fQ p at_=a at*;generalize h9 p a=b at*;by_cases h1:b<p.length/\(∀c,p[b]? =σ c->ct c=false)
 .rw[if_pos h1];simp only;rw[jz,X];cases U:p.drop a with
  |nil=>
   have:=List.drop_eq_nil_iff.1 U;omega
  |cons x q=>
   simp only;rw[U] at Y ab W;by_cases V:bQ x=true
   .rw[if_pos V,Y];cases aa:p.drop b with
    |nil=>have:=List.drop_eq_nil_iff.1 aa;omega
    |cons c r=>
     simp only;rw[h1.2 c (uI aa)];rfl
   .rw[if_neg V]
 .rw[if_neg h1];by_cases ac:a=b
  .rw[if_pos ac];simp only;subst ac;rw[jz,X];cases U:p.drop a with
   |nil=>rfl
   |cons x q=>
    exfalso;have ad:=uI U;have ah:=(x4.1 ad).1;rw[U] at W;rw[U] at X;have ai:=zH X;refine h1 ⟨ah,λc ae=>?_⟩;rw[ad] at ae;cases ae;exact ai
  .rw[if_neg ac];simp only;rw[jz (p.drop at_),X];cases U:p.drop a with
   |nil=>
    rw[U] at W;have:runN bQ []=0:=rfl;omega
   |cons x q=>
    simp only;rw[U] at Y ab W;have V:bQ x=true:=by
     rw[uG] at W;by_cases V:bQ x=true
     .exact V
     .rw[if_neg V] at W;omega
    rw[if_pos V,Y,ab];cases aa:p.drop b with
    |nil=>simp only;rw[jz []];rfl
    |cons c r=>
     simp only;have af:=uI aa;have aj:=(x4.1 af).1;have ak:ct c=true:=by
      cases J:ct c with
      |true=>rfl
      |false=>exact absurd ⟨aj,λd ag=>by rw[af] at ag;cases ag;exact J⟩ h1
     rw[if_pos ak]
def gR (w:x2) (g:Nat) (R:Nat->Prop) (toks:List (Λ)) (clean:Bool):Prop:=∃J p at_,k6 w g J p at_ (-1)/\(∀r,leads J r->R r)/\lex (p.drop at_)=(toks,clean)
theorem gR.ab {g:Nat} {R:Nat->Prop} {toks:List (Λ)} (h:gR w g R toks clean) (J:ae S w w') (V:¬S g) (W:∀r,R r->¬S r):gR w' g R toks clean:=by
 obtain⟨X,p,a,⟨h1,Y,aa,ac,ad,af⟩,U,ag⟩:=h;exact⟨X,p,a,⟨h1,Y,aa,ac.ab J V,ad,be af J λr ah=>W r (U r ah)⟩,U,ag⟩
theorem gR.words {g:Nat} {R:Nat->Prop} {toks:List (Λ)} (h:gR w g R toks clean):toks.length<=100000/\ ∀t∈toks,Bytes t/\t≠[]/\t.length<=100000:=by
 obtain⟨Y,p,a,⟨aa,ab,ac,_⟩,_,U⟩:=h;have ad:(p.drop a).length<=100000:=by rw[Q2];omega
 have J:=n5 _ (p.drop a) (n9 _);rw[U] at J;refine⟨by show toks.length<=_;have J:toks.length<=_:=J;omega,λt W=>?_⟩;have V:=rB _ (p.drop a) (n9 _) t (by rw[U];exact W);refine⟨λb X=>?_,V.1,Ω⟩;have:=of_decide_eq_true (V.2.1 b X);omega
def HV (w:x2) (g:Nat) (R:Nat->Prop) (toks:List (Λ)) (clean:Bool) (v:y0) (w':x2):Prop:=ae (λr=>r=g) w w'/\match toks with
 |t::l=>gR w' g R l clean/\ ∃n:Int,v= .tuple #[bU t,Δ n,Δ 0]
 |[]=>∃n:Int,v= .tuple #[bU [],Δ n,Δ (if clean then 2 else 11)]
theorem pE {g:Nat} {R:Nat->Prop} {toks:List (Λ)} (h:gR w g R toks clean):ai x3 tO [Γ g] w (HV w g R toks clean):=by
 obtain⟨ac,p,a,h1,ad,X⟩:=h;refine (Hr h1).mono ?_;intro v w' _ hw;have U:=HU p a;unfold pz at hw;cases Y:oc p a with
 |word x y=>
  rw[Y] at hw U;simp only at hw U;rw[X] at U;obtain⟨rfl,aa,J⟩:=hw;obtain⟨V,W⟩:=R8.inj U;subst V W;exact⟨aa,⟨ac,p,y,J,ad,rfl⟩,_,rfl⟩
 |none=>
  rw[Y] at hw U;simp only at hw U;rw[X] at U;obtain⟨V,W⟩:=R8.inj U;subst V W;obtain⟨n,rfl,ae⟩:=hw;exact⟨ae.ab _,_,rfl⟩
 |text b=>
  rw[Y] at hw U;simp only at hw U;rw[X] at U;obtain⟨V,W⟩:=R8.inj U;subst V W;obtain⟨rfl,aa,_⟩:=hw;exact⟨aa,_,rfl⟩
def jC (w:Λ):y0:=match fP w with
 |some n=>.tuple #[Δ n,Δ 0]
 |none=>.tuple #[Δ 0,Δ 4]
theorem zI {i:Nat} {b:Int} (hi:l[i]? =σ b):(l.take (i+1)).all fO=((l.take i).all fO&&fO b):=by
 rw[r9,hi,List.all_append];simp
theorem zJ {i:Nat} {b:Int} (hi:l[i]? =σ b):(l.take (i+1)).foldl eS 0=eS ((l.take i).foldl eS 0) b:=by
 rw[r9,hi,List.foldl_append];rfl
theorem zK (J:l≠[]) (h:l.all fO=true):jA l=σ (l.foldl eS 0):=by
 unfold jA;cases l with
 |nil=>exact absurd rfl J
 |cons x l=>simp only[h,if_true]
theorem zL {i:Nat} {b:Int} (hi:l[i]? =σ b) (J:fO b=false):jA l=ν:=by
 unfold jA;cases l with
 |nil=>simp at hi
 |cons x l=>
  simp only;rw[if_neg];intro h;have:=List.all_eq_true.1 h b (x5 hi);rw[J] at this;cases this
def ot (w l:Λ) (s:Int):Prop:=(s=1\/s= -1)/\fP w=(jA l).map λn=>s*n
theorem zM:ot (45::l) l (-1):=⟨.inr rfl,by simp only[fP];congr 1;funext n;omega⟩
theorem zN {w:Λ} (h:∀b,w[0]? =σ b->b≠45):ot w w 1:=⟨.inl rfl,by
 have e:fP w=jA w:=by
  unfold fP;cases w with
  |nil=>rfl
  |cons x l=>
   have:=h x rfl;split
   .rename_i l' he;exact absurd (List.cons.inj he).1 this
   .rfl
 rw[e];cases jA w with
 |none=>rfl
 |some n=>simp⟩
theorem rM {w:Λ} {s:Int} (h:ot w l s) (J:jA l=ν):jC w= .tuple #[Δ 0,Δ 4]:=by
 unfold jC;rw[h.2,J];rfl
theorem zO {w:Λ} {s n:Int} (h:ot w l s) (J:jA l=σ n):jC w= .tuple #[Δ (s*n),Δ 0]:=by
 unfold jC;rw[h.2,J];rfl
theorem HW (ae:Bytes l) (ao:l.length<=100000):ai x3 Fm [bU l] w λv w'=>v=jC l/\Ext w w':=by
 refine az func162 ?_;rw[Ha];refine iy (λaA aB V=>Ext w V/\ ∃ (m:Λ) (s:Int),aA=bU m/\aB=Δ s/\Bytes m/\m.length<=100000/\ot l m s) ?_ ?_
 .rintro _ _ V ⟨aj,m,s,rfl,rfl,al,aO,af⟩;rw[y1 al (λb J=>by cases J),ak];refine⟨λU=>⟨by rw[rM af (by rw[U];rfl)],aj⟩,λU=>?_⟩;refine uv c3.u cH.u cq.u al Ω λbv aa ap au _=>?_;rw[aU cH.u au];refine qU.range m.length (λi _ _ c ag=>Ext aa ag/\c=Δ ((m.take i).foldl eS 0)/\(m.take i).all fO=true) Ω ⟨Ext.refl _,rfl,rfl⟩ ?_ ?_
  .rintro i aC t3 _ ag aD hi ⟨W,rfl,X⟩ aE;obtain⟨b,ab⟩:=aN (l:=m) hi;have aP:=al b (x5 ab);refine bk Ω ?_;refine Hb (λ_ _ c ah=>Ext aa ah/\c=Δ ((m.take (i+1)).foldl eS 0)/\(m.take (i+1)).all fO=true) ?_ ?_
   .rintro aS aV c ah aF;rw[aL];exact aE _ _ _ _ aF
   intro aG Y;rw[bf cH.u cq.i Ψ (au.ext W) ab];refine aR (λv ah=>ag=ah/\v= .bool (!fO b)) ?_ ?_
   rotate_left
   .intro aH ac;rw[aQ,ak];refine⟨λh=>ac _ _ ⟨rfl,by unfold fO;rw[decide_eq_false Ω];rfl⟩,λh=>?_⟩;rw[bY];refine ac _ _ ⟨rfl,?_⟩;unfold fO;congr 1;by_cases av:57<b
    .rw[decide_eq_true av,decide_eq_false Ω];rfl
    .rw[decide_eq_false av,decide_eq_true Ω];rfl
   rintro _ _ ⟨rfl,rfl⟩;cases am:fO b with
   |false=>
    rw[W6,bX];exact⟨by rw[rM af (zL ab am)],(aj.trans ap).trans W⟩
   |true=>
    rw[Y6,aT];have aW:=of_decide_eq_true am;have ad:=rC (l:=m.take i) (n:=0) X ⟨Int.le_refl _,Φ⟩;rw[zJ ab,zI ab,X,am] at Y;generalize (m.take i).foldl eS 0=n at*;have ad:0<=n/\n<=4611686018427387904:=ad;rw[dj,wrap_u8 Ω Ω,fi cq.u an.u,wrap_i64 (x:=b-48) Ω Ω,dj,wrap_i64 Ω Ω,pr Φ,Int.tdiv_eq_ediv_of_nonneg Ω];rw[wrap_i64 Ω Ω,bY,ak];refine⟨λaI=>Y _ _ _ _ ⟨W,?_,rfl⟩,λaI=>?_⟩
    .congr 1;unfold eS aq;omega
    .rw[fL,wrap_i64 Ω Ω,aL,wrap_i64 Ω Ω];refine Y _ _ _ _ ⟨W,?_,rfl⟩;congr 1;unfold eS aq;omega
  .rintro aC t3 _ ag aD ⟨W,rfl,X⟩;rw[o9] at X ⊢;refine b2 Ω ?_;have ad:=rC (l:=m) (n:=0) X ⟨Int.le_refl _,Φ⟩;have ad:0<=m.foldl eS 0/\m.foldl eS 0<=4611686018427387904:=ad;rw[fL];have hw:X2.wrap (s*m.foldl eS 0)=s*m.foldl eS 0:=by
    rcases af.1 with rfl|rfl<;>exact wrap_i64 Ω Ω
   rw[hw];exact⟨by rw[zO af (zK U X)],(aj.trans ap).trans W⟩
 .intro aG Y;refine aR (λv aa=>w=aa/\ ∃c:Bool,v= .bool c/\(c=true↔l[0]? =σ 45)) ?_ ?_
  .rintro _ _ ⟨rfl,c,rfl,aw⟩;rw[bt];refine⟨λaJ=>?_,λax=>?_⟩
   .intro aX aK _ _;have ay:=aw.1 aJ;cases l with
    |nil=>simp at ay
    |cons x r=>
     have aM:x=45:=by simpa using ay
     subst aM;rw[y2 (y:=1) (i:=1) rfl c3.u Ξ];exact Y _ _ _ ⟨aK,r,-1,rfl,rfl,λb J=>ae b (.tail _ J),by simp at ao;omega,zM⟩
   .refine Y _ _ _ ⟨Ext.refl _,l,1,rfl,rfl,ae,ao,zN λb J he=>?_⟩;subst he;rw[aw.2 J] at ax;cases ax
  .intro aH ac;rw[Hf ae (λb J=>by cases J),ak];refine⟨λU=>?_,λU=>ac _ _ ⟨rfl,false,rfl,⟨λh=>(by cases h),λh=>by rw[X9.1 U] at h;simp at h⟩⟩⟩;cases l with
   |nil=>exact absurd rfl U
   |cons x r=>
    rw[pw (y:=0) (i:=0) (b:=x) rfl c3.u ae rfl,bn];exact ac _ _ ⟨rfl,_,rfl,Ξ⟩
theorem pF {s s':aE} {w:Λ} (h:dD s=σ (w,s')):s.toks=w::s'.toks/\s'={s with toks:=s'.toks}:=by
 unfold dD at h;cases J:s.toks with
 |nil=>rw[J] at h;cases h
 |cons x l=>
  rw[J] at h;simp only[Y8,T5] at h;obtain⟨rfl,rfl⟩:=h;exact⟨rfl,rfl⟩
theorem hr {n:Int} {s s':aE} (h:ba lo hi s=σ (n,s')):(lo<=n/\n<=hi)/\(∃w,s.toks=w::s'.toks/\fP w=σ n)/\s'={s with toks:=s'.toks}:=by
 unfold ba at h;cases hw:dD s with
 |none=>rw[hw] at h;cases h
 |some q=>
  obtain⟨w,s1⟩:=q;rw[hw] at h;simp only at h;obtain⟨h1,U⟩:=pF hw;cases J:fP w with
  |none=>rw[J] at h;cases h
  |some m=>
   rw[J] at h;simp only at h;split at h
   .rename_i V;simp only[Y8,T5] at h;obtain⟨rfl,rfl⟩:=h;exact⟨V,⟨w,h1,J⟩,U⟩
   .cases h
def hL (k:Nat) (s s':aE):Prop:=s.toks.length=s'.toks.length+k/\s'={s with toks:=s'.toks}
theorem hL.refl (s:aE):hL 0 s s:=⟨rfl,rfl⟩
theorem hL.trans {a b:Nat} {r s t:aE} (h:hL a r s) (k:hL b s t):hL (a+b) r t:=⟨by have:=h.1;have:=k.1;omega,by rw[k.2,h.2]⟩
theorem db {n:Int} {s s':aE} (h:ba lo hi s=σ (n,s')):hL 1 s s':=by
 obtain⟨_,⟨w,h1,_⟩,J⟩:=hr h;exact⟨by rw[h1];simp,J⟩
theorem hL.eqs {k:Nat} {s s':aE} (h:hL k s s'):s'.told=s.told/\s'.big=s.big/\s'.shared=s.shared:=by rw[h.2];exact⟨rfl,rfl,rfl⟩
theorem ia {α:Type} {f:List α->aE->Option (α×aE)} (I:List α->aE->Prop) (V:∀acc s a s',I acc s->f acc s=σ (a,s')->I (acc++[a]) s'):
  ∀ (n:Nat) (acc:List α) (s:aE) (l:List α) (s':aE),I acc s->cD f n acc s=σ (l,s')->I l s'/\l.length=acc.length+n
 |0,acc,s,l,s',J,h=>by
  simp only[cD,Y8,T5] at h;obtain⟨rfl,rfl⟩:=h;exact⟨J,Ω⟩
 |n+1,acc,s,l,s',J,h=>by
  simp only[cD] at h;cases U:f acc s with
  |none=>rw[U] at h;cases h
  |some q=>
   obtain⟨a,s1⟩:=q;rw[U] at h;have:=ia I V n _ _ _ _ (V _ _ _ _ J U) h;exact⟨this.1,by rw[this.2];simp;omega⟩
theorem rN {n:Int} {k:Nat} {s s':aE} (h:eK n k s=σ (l,s')):hL l.length s s'/\l.length=k/\l.Nodup/\ ∀v∈l,0<=v/\v<n:=by
 have:=ia (λacc t=>hL acc.length s t/\acc.Nodup/\ ∀v∈acc,0<=v/\v<n) (λacc t a bD ⟨h1,W,X⟩ h=>by
  cases U:ba 0 (n-1) t with
  |none=>rw[U] at h;cases h
  |some q=>
   obtain⟨v,ab⟩:=q;rw[U] at h;simp only at h;split at h
   .cases h
   .rename_i Y;simp only[Y8,T5] at h;obtain⟨rfl,rfl⟩:=h;have ac:=(hr U).1;refine⟨by rw[r8];exact h1.trans (db U),List.nodup_append.2 ⟨W,Ξ,λx J y V he=>?_⟩,λx J=>?_⟩
    .rw[l9] at V;subst V;subst he;exact Y J
    .rcases l5.1 J with J|J
     .exact X x J
     .rw[l9.1 J];omega) k [] s l s' ⟨hL.refl s,List.nodup_nil,λv aa=>by cases aa⟩ h
 exact⟨this.1.1,by simpa using this.2,this.1.2.1,this.1.2.2⟩
theorem uJ:∀ {ks acc:Λ} {s s':aE} {t:Λ},h8 ks acc s=σ (t,s')-> ∃u,t=acc++u/\dg ks u/\hL u.length s s'
 |[],acc,s,s',t,h=>by
  simp only[h8,Y8,T5] at h;obtain⟨rfl,rfl⟩:=h;exact⟨[],Ξ,zw.2 rfl,hL.refl s⟩
 |k::ks,acc,s,s',t,h=>by
  simp only[h8] at h;cases J:ba 0 (k-1) s with
  |none=>rw[J] at h;cases h
  |some q=>
   obtain⟨v,s1⟩:=q;rw[J] at h;obtain⟨u,rfl,hu,U⟩:=uJ h;have V:=(hr J).1;exact⟨v::u,Ξ,zv.2 ⟨Ω,hu⟩,by rw[Z5,Nat.add_comm];exact (db J).trans U⟩
def lX (sizes:Λ) (l:List (Λ×Int)):Prop:=(l.map (·.1)).Nodup/\ ∀p∈l,dg sizes p.1/\0<=p.2
theorem mX {sizes:Λ} {acc:List (Λ×Int)} {s s':aE} {a:Λ×Int} (h:dK sizes acc s=σ (a,s')):a.1∉acc.map (·.1)/\dg sizes a.1/\0<=a.2/\hL (a.1.length+1) s s':=by
 unfold dK at h;cases U:h8 sizes [] s with
 |none=>rw[U] at h;cases h
 |some q=>
  obtain⟨t,s1⟩:=q;rw[U] at h;simp only at h;obtain⟨u,hu,V,W⟩:=uJ U;rw[List.nil_append] at hu;subst hu;cases J:ba 0 aq s1 with
  |none=>rw[J] at h;cases h
  |some q=>
   obtain⟨c,Y⟩:=q;rw[J] at h;simp only at h;split at h
   .cases h
   .rename_i X;simp only[Y8,T5] at h;obtain⟨rfl,rfl⟩:=h;exact⟨X,V,(hr J).1.1,W.trans (db J)⟩
structure zP (s s':aE):Prop where
 toks:s'.toks.length<s.toks.length
 big:s.big=true->s'.big=true
theorem HX {sizes:Λ} {s s':aE} {l:List (Λ×Int)} (ab:∀q∈s.shared,lX q.1 q.2/\q.2.length<=N) (al:s.toks.length<=N) (h:ds sizes s=σ (l,s')):
  lX sizes l/\l.length<=N/\s'.shared=s.shared/\zP s s':=by
 unfold ds at h;cases W:ba (-aq) aq s with
 |none=>rw[W] at h;cases h
 |some q=>
  obtain⟨n,s1⟩:=q;rw[W] at h;simp only at h;have h1:=db W;obtain⟨am,ac,X⟩:=h1.eqs;split at h
  .cases J:s1.shared[(-n-1).toNat]? with
   |none=>rw[J] at h;cases h
   |some q=>
    obtain⟨z,l'⟩:=q;rw[J] at h;simp only at h;split at h
    .rename_i af;simp only[Y8,T5] at h;obtain⟨rfl,rfl⟩:=h;subst af;have hm:=x5 J;rw[X] at hm;exact⟨(ab _ hm).1,(ab _ hm).2,X,by have:=h1.1;omega,λV=>by rw[ac];exact V⟩
    .cases h
  .have:=ia (λacc t=>lX sizes acc/\t.shared=s.shared/\t.toks.length+acc.length<=s1.toks.length/\(s.big=true->t.big=true)) (λacc t a bD ⟨g1,Y,ag,aa⟩ g=>by
    obtain⟨ah,ai,aj,ad⟩:=mX g;obtain⟨f1,f2,f3⟩:=ad.eqs;refine⟨⟨?_,λp U=>?_⟩,by rw[f3,Y],by have:=ad.1;simp only[r8,U2];omega,λV=>by rw[f2];exact aa V⟩
    .rw[j9];exact List.nodup_append.2 ⟨g1.1,Ξ,λx ak y ae he=>by
      simp only[T2,List.map_nil,l9] at ae;subst ae;subst he;exact ah ak⟩
    .rcases l5.1 U with U|U
     .exact g1.2 p U
     .rw[l9.1 U];exact⟨ai,aj⟩) n.toNat [] (a6 (decide (16384<min (s1.told+n) aq)) {s1 with told:=min (s1.told+n) aq}) l s' ⟨⟨Ξ,λp U=>by cases U⟩,X,by simp[a6],λV=>by simp[a6,ac,V]⟩ h
   obtain⟨⟨g1,Y,ag,aa⟩,_⟩:=this;have:=h1.1;exact⟨g1,Ω,Y,⟨Ω,aa⟩⟩
structure rO (all:Λ) (N:Nat) (f:ce):Prop where
 scope:f.scope.Nodup/\ ∀v∈f.scope,0<=v/\v<all.length
 sizes:f.sizes=f.scope.map λv=>all.getD v.toNat 0
 other:0<=f.other
 lines:lX f.sizes f.lines
 len:f.lines.length<=N
theorem HY {all:Λ} {s s':aE} {f:ce} (ad:∀q∈s.shared,lX q.1 q.2/\q.2.length<=N) (az:s.toks.length<=N) (h:cW all s=σ (f,s')):
  rO all N f/\(∀q∈s'.shared,lX q.1 q.2/\q.2.length<=N)/\zP s s'/\(s'.big=false->f.scope.length<=6/\df f.sizes=false):=by
 unfold cW at h;cases ae:ba (-aq) aq s with
 |none=>rw[ae] at h;cases h
 |some q=>
 obtain⟨a,s1⟩:=q;rw[ae] at h;simp only at h;have t0:=db ae;obtain⟨aA,an,ao⟩:=t0.eqs;cases h1:eK all.length a.natAbs s1 with
 |none=>rw[h1] at h;cases h
 |some q=>
 obtain⟨sc,X⟩:=q;rw[h1] at h;simp only at h;obtain⟨ag,aB,ap,au⟩:=rN h1;obtain⟨aC,av,aw⟩:=ag.eqs;generalize ax:sc.map (λv=>all.getD v.toNat 0)=sizes at h;cases aa:ba 0 aq (a6 (decide (6<a.natAbs)||df sizes) X) with
 |none=>rw[aa] at h;cases h
 |some q=>
 obtain⟨other,V⟩:=q;rw[aa] at h;simp only at h;have ah:=db aa;obtain⟨aD,ab,Y⟩:=ah.eqs;have Y:V.shared=s.shared:=by rw[Y];show X.shared=_;rw[aw,ao]
 have aF:V.toks.length<s.toks.length:=by
  have:=t0.1;have:=ag.1;have ac:=ah.1;have:(a6 (decide (6<a.natAbs)||df sizes) X).toks.length=X.toks.length:=rfl;omega
 cases ac:ds sizes V with
 |none=>rw[ac] at h;cases h
 |some q=>
 obtain⟨lines,U⟩:=q;rw[ac] at h;simp only[Y8,T5] at h;obtain⟨rfl,rfl⟩:=h;obtain⟨g1,ai,aj,ak⟩:=HX (N:=N) (by rw[Y];exact ad) Ω ac;have ay:=ak.big;have aG:=ak.toks;have al:V.big=true-> ∀af:aE,af=(if a<0 then {U with shared:=U.shared++[(sizes,lines)]} else U)->af.big=true:=λW af he=>by
  rw[he];split<;>exact ay W
 have ab:V.big=(s.big||(decide (6<a.natAbs)||df sizes)):=by
  rw[ab];show (X.big||_)=_;rw[av,an]
 refine⟨⟨⟨ap,au⟩,ax.symm,(hr aa).1.1,g1,ai⟩,λq J=>?_,⟨?_,λW=>al (by rw[ab,W];rfl) _ rfl⟩,λW=>?_⟩
 .split at J
  .rcases l5.1 J with J|J
   .rw[show U.shared=s.shared by rw[aj,Y]] at J;exact ad q J
   .rw[l9.1 J];exact⟨g1,ai⟩
  .rw[show U.shared=s.shared by rw[aj,Y]] at J;exact ad q J
 .have:(if a<0 then {U with shared:=U.shared++[(sizes,lines)]} else U).toks=U.toks:=by split<;>rfl
  rw[this];omega
 .have am:V.big=false:=by
   cases J:V.big with
   |false=>rfl
   |true=>rw[al J _ rfl] at W;cases W
  rw[ab,R3,R3,decide_eq_false_iff_not] at am;show sc.length<=6/\_;exact⟨Ω,am.2.2⟩
structure e1 (N:Nat) (f:b4):Prop where
 name:f.name.length<=64
 k:1<=f.k/\f.k<=2147483648
 sizes:1<=f.sizes.length/\f.sizes.length<=64/\ ∀z∈f.sizes,1<=z/\z<=32
 ki:f.funs.length<=256
 funs:∀x∈f.funs,rO f.sizes N x/\x.scope.length<=6/\df x.sizes=false
theorem pG {b:Bool} {s:aE} (h:(a6 b s).big=false):s.big=false/\b=false:=by
 have h:(s.big||b)=false:=h;exact R3.1 h
theorem HZ {a b:aE} (h:a.big=true->b.big=true) (J:b.big=false):a.big=false:=by
 cases U:a.big with
 |false=>rfl
 |true=>rw[h U] at J;cases J
theorem zQ {s s':aE} {f:b4} (J:s.shared=[]) (h:gx s=σ (f,s')) (U:s'.big=false):e1 s.toks.length f/\f.name∈s.toks:=by
 unfold gx at h;cases aj:dD s with
 |none=>rw[aj] at h;cases h
 |some q=>
 obtain⟨name,s0⟩:=q;rw[aj] at h;simp only at h;obtain⟨V,aa⟩:=pF aj;cases h1:ba 1 aq (a6 (decide (64<name.length)) s0) with
 |none=>rw[h1] at h;cases h
 |some q=>
 obtain⟨n,s1⟩:=q;rw[h1] at h;simp only at h;have Y:=db h1;cases ak:ba 1 aq (a6 (decide (64<n)) s1) with
 |none=>rw[ak] at h;cases h
 |some q=>
 obtain⟨most,aA⟩:=q;rw[ak] at h;simp only at h;have al:=db ak;cases am:ba 0 aq aA with
 |none=>rw[am] at h;cases h
 |some q=>
 obtain⟨count,af⟩:=q;rw[am] at h;simp only at h;have t3:=db am;cases ag:ba 1 aq (a6 (decide (256<count)) af) with
 |none=>rw[ag] at h;cases h
 |some q=>
 obtain⟨k,ac⟩:=q;rw[ag] at h;simp only at h;have t4:=db ag;cases an:cD (e0 most) n.toNat [] (a6 (decide (2147483648<k)) ac) with
 |none=>rw[an] at h;cases h
 |some q=>
 obtain⟨sizes,ah⟩:=q;rw[an] at h;simp only at h;cases ao:cD (λ_ s=>cW sizes s) count.toNat [] ah with
 |none=>rw[ao] at h;cases h
 |some q=>
 obtain⟨funs,aB⟩:=q;rw[ao] at h;simp only[Y8,T5] at h;obtain⟨rfl,rfl⟩:=h;have aC:=ia (λ(acc:Λ) t=>t.shared=[]/\t.toks.length<=s.toks.length/\(t.big=false->ac.big=false/\k<=2147483648/\ ∀z∈acc,1<=z/\z<=32)) (λacc t a bD ⟨g1,aw,ap⟩ g=>by
  unfold e0 at g;cases ab:ba 1 most t with
  |none=>rw[ab] at g;cases g
  |some q=>
   obtain⟨z,Y⟩:=q;rw[ab] at g;simp only[Y8,T5] at g;obtain⟨rfl,rfl⟩:=g;have ax:=db ab;obtain⟨aY,aD,aF⟩:=ax.eqs;have aZ:=(hr ab).1;refine⟨by show Y.shared=[];rw[aF,g1],by show Y.toks.length<=_;have:=ax.1;omega,λU=>?_⟩;obtain⟨W,ad⟩:=pG U;rw[aD] at W;obtain⟨au,av,aG⟩:=ap W;refine⟨au,av,λy ae=>?_⟩;rcases l5.1 ae with ae|ae
   .exact aG y ae
   .rw[l9.1 ae];have:=of_decide_eq_false ad;omega) n.toNat [] (a6 (decide (2147483648<k)) ac) sizes ah ⟨by
     show ac.shared=[];rw[t4.eqs.2.2];show af.shared=[];rw[t3.eqs.2.2,al.eqs.2.2];show s1.shared=[];rw[Y.eqs.2.2];show s0.shared=[];rw[aa];exact J,by
     show ac.toks.length<=_;have aH:=Y.1;have aI:=al.1;have a3:=t3.1;have a4:=t4.1;have W:(a6 (decide (64<name.length)) s0).toks=s0.toks:=rfl;have ad:(a6 (decide (64<n)) s1).toks=s1.toks:=rfl;have ai:(a6 (decide (256<count)) af).toks=af.toks:=rfl;rw[W] at aH;rw[ad] at aI;rw[ai] at a4;rw[V,Z5];omega,λU=>by
     obtain⟨W,ad⟩:=pG U;have:=of_decide_eq_false ad;exact⟨W,Ω,λz aJ=>by cases aJ⟩⟩ an
 obtain⟨⟨aK,aL,aM⟩,aN⟩:=aC;have aO:=ia (λ(acc:List ce) t=>(∀q∈t.shared,lX q.1 q.2/\q.2.length<=s.toks.length)/\t.toks.length<=s.toks.length/\(t.big=false->ah.big=false/\ ∀x∈acc,rO sizes s.toks.length x/\x.scope.length<=6/\df x.sizes=false)) (λacc t a bD ⟨g1,aw,ap⟩ g=>by
  obtain⟨aP,aQ,ay,aR⟩:=HY g1 aw g;refine⟨aQ,by have:=ay.toks;omega,λU=>?_⟩;obtain⟨au,av⟩:=ap (HZ ay.big U);refine⟨au,λx X=>?_⟩;rcases l5.1 X with X|X
  .exact av x X
  .rw[l9.1 X];exact⟨aP,aR U⟩) count.toNat [] ah funs aB ⟨(by rw[aK];intro q ab;cases ab),aL,λU=>⟨U,λx X=>by cases X⟩⟩ ao
 obtain⟨⟨_,_,d3⟩,d4⟩:=aO;obtain⟨aS,d5⟩:=d3 U;obtain⟨ai,aT,aU⟩:=aM aS;rw[t4.eqs.2.1] at ai;obtain⟨az,aV⟩:=pG ai;rw[t3.eqs.2.1,al.eqs.2.1] at az;obtain⟨W,aW⟩:=pG az;rw[Y.eqs.2.1] at W;obtain⟨_,aX⟩:=pG W;have:=of_decide_eq_false aV;have:=of_decide_eq_false aW;have:=of_decide_eq_false aX;have a1:=(hr h1).1;have hk:=(hr ag).1;simp only[List.length_nil,V8] at aN d4;exact⟨⟨by show name.length<=64;omega,⟨hk.1,aT⟩,⟨by show 1<=sizes.length;omega,by show sizes.length<=64;omega,aU⟩,by show funs.length<=256;omega,d5⟩,by rw[V];exact .head _⟩
def jb (x:ce) (k:Int) (t:Λ):Int:=min (match x.lines.find? (λp=>decide (p.1=t)) with
 |some p=>p.2
 |none=>x.other) k
def bl (l:Λ):Λ:=((V0 64).map λ(v:Nat)=>(v:Int)).filter λv=>decide (v∈l)
def bI (sizes scope:Λ):Λ:=scope.map λv=>sizes.getD v.toNat 0
def ou (scope J t:Λ):Λ:=scope.map λv=>t.getD (J.idxOf v) 0
abbrev cu:Type:=Λ×Λ
def hs (sizes:Λ) (k:Int) (x:ce):cu:=(bl x.scope,(bh (bI sizes (bl x.scope))).map λt=>jb x k (ou x.scope (bl x.scope) t))
def dQ (k:Int) (a b:Λ):Λ:=List.zipWith (λx y=>min (x+y) k) a b
def hM (k:Int) (acc:List cu) (g:cu):List cu:=if g.1∈acc.map (·.1) then acc.map λh=>if h.1=g.1 then (h.1,dQ k h.2 g.2) else h else acc++[g]
def iH:Λ->Int
 |[]=>0
 |x::l=>x*64 ^ l.length+iH l
def c9 (l:Λ):Int:=l.length*64 ^ 6+iH l
def gS (g:cu):List cu->List cu
 |[]=>[g]
 |h::l=>if c9 h.1<c9 g.1 then h::gS g l else g::h::l
def fk (g:cu):Bool:=g.2.any λc=>decide (0<c)
def e9 (f:b4):List cu:=(f.funs.map (hs f.sizes f.k)).foldl (hM f.k) []
def fl (f:b4):List cu:=((e9 f).filter fk).foldl (λl g=>gS g l) []
structure aY where
 k:Int
 sizes:Λ
 zero:Int
 unary:List (Λ)
 funs:List cu
deriving DecidableEq
def cM (f:b4):aY:=(fl f).foldl (λn g=>match g.1 with
 |[]=>{n with zero:=g.2.getD 0 0}
 |[v]=>{n with unary:=n.unary.set v.toNat g.2}
 |_=>{n with funs:=n.funs++[g]}) ⟨f.k,f.sizes,0,f.sizes.map λz=>o8 z.toNat 0,[]⟩
abbrev ib:Type:=Rd (Λ)×Rd (List (Λ×Int))
def bE (g gs:Nat) (A:ah):ah:=λr=>r=g\/r=gs\/A r
def fm (gs:Nat) (e big J U told:Int) (sv:y0):List y0:=[Γ gs,Δ e,Δ big,Δ J,Δ U,Δ told,sv]
def cA (g gs:Nat) (A:ah) (B:ah):ah:=λr=>¬bE g gs A r/\B r
def kj (w:x2) (g gs:Nat) (A:ah) (B:ah):Prop:=g≠gs/\¬A g/\¬A gs/\(∀r,bE g gs A r->r<w.heap.size)/\ ∀r,B r->r<w.heap.size
def dd (w:x2) (g gs:Nat) (A:ah) (B:ah) (s:aE) (clean:Bool):Prop:=kj w g gs A B/\gR w gs (cA g gs A B) s.toks clean/\(0<=s.told/\s.told<=aq/\s.shared.length+s.toks.length<=100000)/\
 ∃big J U told sv,ad w g cd (fm gs 0 big J U told sv)/\((s.big=true↔big≠0)/\(s.big=false->told=s.told))/\bi A (cA g gs A B) w [sv] (show List ib from s.shared)
def eu (w:x2) (g gs:Nat) (A:ah) (B:ah):Prop:=kj w g gs A B/\ ∃ (e big J U told:Int) (sv:y0) (l:List ib),ad w g cd (fm gs e big J U told sv)/\(e≠0/\l.length<=100000)/\bi A (cA g gs A B) w [sv] l
theorem kj.ab {g:Nat} {A:ah} {B:ah} (h:kj w g gs A B) (U:ae S w w'):kj w' g gs A B:=by
 obtain⟨h1,V,W,X,Y⟩:=h;exact⟨h1,V,W,λr J=>Nat.lt_of_lt_of_le (X r J) U.size,λr J=>Nat.lt_of_lt_of_le (Y r J) U.size⟩
theorem zR {g:Nat} {A:ah} {B:ah} (J:∀r,A r->¬S r) (U:∀r,cA g gs A B r->¬S r):∀r,A r\/cA g gs A B r->¬S r:=λr h=>h.elim (J r) (U r)
theorem dd.ab {g:Nat} {A:ah} {B:ah} {s:aE} (h:dd w g gs A B s clean) (J:ae S w w') (U:∀r,bE g gs A r->¬S r) (V:∀r,cA g gs A B r->¬S r):dd w' g gs A B s clean:=by
 obtain⟨h1,W,X,big,Y,aa,told,sv,ac,ad,af⟩:=h;exact⟨h1.ab J,W.ab J (U gs (.inr (.inl rfl))) V,X,big,Y,aa,told,sv,ac.ab J (U g (.inl rfl)),ad,al.ab af J λr _ h=>zR (λr ag=>U r (.inr (.inr ag))) V r h⟩
theorem eu.ab {g:Nat} {A:ah} {B:ah} (h:eu w g gs A B) (J:ae S w w') (U:∀r,bE g gs A r->¬S r) (V:∀r,cA g gs A B r->¬S r):eu w' g gs A B:=by
 obtain⟨h1,e,big,W,X,told,sv,l,Y,aa,ac⟩:=h;exact⟨h1.ab J,e,big,W,X,told,sv,l,Y.ab J (U g (.inl rfl)),aa,al.ab ac J λr _ h=>zR (λr ad=>U r (.inr (.inr ad))) V r h⟩
theorem dd.ext {g:Nat} {A:ah} {B:ah} {s:aE} (h:dd w g gs A B s clean) (J:Ext w w'):dd w' g gs A B s clean:=h.ab (J.ab λ_=>False) (λ_ _ h=>h) (λ_ _ h=>h)
theorem eu.ext {g:Nat} {A:ah} {B:ah} (h:eu w g gs A B) (J:Ext w w'):eu w' g gs A B:=h.ab (J.ab λ_=>False) (λ_ _ h=>h) (λ_ _ h=>h)
def fA (w:x2) (g gs:Nat) (A:ah) (B:ah) (clean:Bool) (s':Option aE) (w':x2):Prop:=ae (bE g gs A) w w'/\match s' with
 |some s'=>dd w' g gs A B s' clean
 |none=>eu w' g gs A B
theorem uK {g:Nat} {e big J U told:Int} (V:ad w g cd (fm gs e big J U told sv)):ai x3 j3 [Γ g] w λv w'=>v= .bool (decide (e=0))/\Ext w w':=by
 refine az func90 ?_;rw[bu,aM cd.p rfl,aM eQ.p rfl,aS Ψ (V.cell (o:=0+1+0) rfl),bn];exact⟨rfl,Ext.refl _⟩
theorem ov {g:Nat} {A:ah} {B:ah} {s:aE} (h:dd w g gs A B s clean):ai x3 j3 [Γ g] w λv w'=>v= .bool true/\Ext w w':=by
 obtain⟨_,_,_,big,U,V,told,sv,J,_⟩:=h;exact (uK J).mono λ_ _ _ h=>h
theorem mY {g:Nat} {A:ah} {B:ah} (h:eu w g gs A B):ai x3 j3 [Γ g] w λv w'=>v= .bool false/\Ext w w':=by
 obtain⟨_,e,big,X,Y,told,sv,l,J,U,_⟩:=h;refine (uK J).mono ?_;rintro _ V _ ⟨rfl,W⟩;exact⟨by rw[decide_eq_false U.1],W⟩
theorem rP {g:Nat} {A B:ah} (h:A r\/cA g gs A B r) (J:¬A g):r≠g:=by
 rintro rfl;rcases h with h|h
 .exact J h
 .exact h.1 (.inl rfl)
theorem rQ {g:Nat} {A:ah} {B:ah} {big af U told e:Int} {l:List ib} (J:kj w g gs A B) (ag:ad w g cd (fm gs 0 big af U told sv)) (aj:bi A (cA g gs A B) w [sv] l) (he:e≠0) (am:l.length<=100000):
  ai x3 mr [Γ g,Δ e,Δ at_] w λ_ w'=>ae (λr=>r=g) w w'/\eu w' g gs A B:=by
 refine az func93 ?_;rw[bu,aM cd.p rfl,aM eQ.p rfl,aS Ψ (ag.cell (o:=0+1+0) rfl),bn,ak];refine⟨λ_=>?_,λh=>absurd rfl h⟩;rw[bu,aM cd.p rfl,aM eQ.p rfl];refine bj (g:=g) (o:=1) e5.i rfl rfl ag (by simp[fm]) λV an aq W=>?_;have W:ad V g cd (fm gs e big af U told sv):=W;rw[bu,aM cd.p rfl,aM eQ.p rfl];refine bj (g:=g) (o:=3) ac.i rfl rfl W (by simp[fm]) λaa ao au X=>?_;have X:ad aa g cd (fm gs e big at_ U told sv):=X;have Y:=an.trans ao;exact⟨Y,J.ab Y,e,big,at_,U,told,sv,l,X,⟨he,am⟩,al.ab aj Y λr _ h ap=>rP h J.2.1 ap⟩
theorem rR {g:Nat} {A:ah} {B:ah} {s:aE} {e:Int} (h:dd w g gs A B s clean) (he:e≠0):ai x3 mr [Γ g,Δ e,Δ at_] w λ_ w'=>ae (λr=>r=g) w w'/\eu w' g gs A B:=by
 obtain⟨J,_,U,big,X,Y,told,sv,V,_,W⟩:=h;exact rQ J V W he (by have:=U.2.2;show s.shared.length<=_;omega)
theorem H0 {g:Nat} {A:ah} {B:ah} {e:Int} (h:eu w g gs A B):ai x3 mr [Γ g,Δ e,Δ at_] w λ_ w'=>Ext w w':=by
 obtain⟨_,U,big,V,W,told,sv,l,h1,J,_⟩:=h;refine az func93 ?_;rw[bu,aM cd.p rfl,aM eQ.p rfl,aS Ψ (h1.cell (o:=0+1+0) rfl),bn,ak];exact⟨λh=>absurd h J.1,λ_=>Ext.refl _⟩
theorem rS {g:Nat} {A:ah} {B:ah} {s:aE} {b:Bool} (h:dd w g gs A B s clean):ai x3 po [Γ g,.bool b,Δ at_] w λ_ w'=>ae (λr=>r=g) w w'/\dd w' g gs A B (a6 b s) clean:=by
 obtain⟨J,am,an,big,W,ao,told,sv,X,ap,aq⟩:=id h;refine az func88 ?_;refine aR (λv V=>w=V/\v= .bool (b&&decide (big=0))) ?_ ?_
 rotate_left
 .intro aB af;cases b with
  |false=>rw[aT];exact af _ _ ⟨rfl,rfl⟩
  |true=>
   rw[bX,bu,aM cd.p rfl,aM eQ.p rfl,aS Ψ (X.cell (o:=0+1+1) rfl),bn,ak];refine⟨λU=>?_,λU=>af _ _ ⟨rfl,by rw[decide_eq_false U];rfl⟩⟩;rw[bu,aM cd.p rfl,aM eQ.p rfl,aS Ψ (X.cell (o:=0+1+0) rfl),bn];exact af _ _ ⟨rfl,by rw[decide_eq_true U];rfl⟩
 rintro _ _ ⟨rfl,rfl⟩;rw[bt];refine⟨λau=>?_,λav=>?_⟩
 .obtain⟨rfl,U⟩:=Bool.and_eq_true_iff.1 au;rw[bu,aM cd.p rfl,aM eQ.p rfl];refine bj (g:=g) (o:=2) e5.i rfl rfl X (by simp[fm]) λV aw aC ag=>?_;have ag:ad V g cd (fm gs 0 5 W ao told sv):=ag;rw[bu,aM cd.p rfl,aM eQ.p rfl];refine bj (g:=g) (o:=4) ac.i rfl rfl ag (by simp[fm]) λaa ax aD aj=>?_;have aj:ad aa g cd (fm gs 0 5 W at_ told sv):=aj;have Y:=aw.trans ax;exact⟨Y,J.ab Y,am.ab Y (λhe=>J.1 he.symm) (λr ay he=>ay.1 (.inl he)),an,5,W,at_,told,sv,aj,⟨⟨λ_=>Ω,λ_=>by simp[a6]⟩,λh=>by simp[a6] at h⟩,al.ab aq Y λr _ h aA=>rP h J.2.1 aA⟩
 .refine⟨ae.refl _ _,J,am,an,big,W,ao,told,sv,X,⟨?_,λh=>ap.2 (by
   have h:(s.big||b)=false:=h;exact (R3.1 h).1)⟩,aq⟩
  show (s.big||b)=true↔big≠0;cases b with
  |false=>rw[Bool.or_false];exact ap.1
  |true=>
   have U:big≠0:=of_decide_eq_false (by simpa using av);simp[U]
theorem zS {g:Nat} {A:ah} {B:ah} {b:Bool} (h:eu w g gs A B):ai x3 po [Γ g,.bool b,Δ at_] w λ_ w'=>Ext w w':=by
 obtain⟨_,X,big,Y,aa,told,sv,l,h1,U,_⟩:=h;refine az func88 ?_;refine aR (λv V=>w=V/\v= .bool false) ?_ ?_
 .rintro _ _ ⟨rfl,rfl⟩;rw[aT];exact Ext.refl _
 intro ab J;cases b with
 |false=>rw[aT];exact J _ _ ⟨rfl,rfl⟩
 |true=>
  rw[bX,bu,aM cd.p rfl,aM eQ.p rfl,aS Ψ (h1.cell (o:=0+1+1) rfl),bn,ak];refine⟨λW=>?_,λW=>J _ _ ⟨rfl,rfl⟩⟩;rw[bu,aM cd.p rfl,aM eQ.p rfl,aS Ψ (h1.cell (o:=0+1+0) rfl),bn];exact J _ _ ⟨rfl,by rw[decide_eq_false U.1]⟩
theorem dd.scan {g:Nat} {A:ah} {B:ah} {s:aE} {l:List (Λ)} (h:dd w g gs A B s clean) (U:ae (λr=>r=gs) w w') (J:gR w' gs (cA g gs A B) l clean) (af:l.length<=s.toks.length):dd w' g gs A B {s with toks:=l} clean:=by
 obtain⟨h1,_,V,big,X,Y,told,sv,aa,ac,ad⟩:=h;refine⟨h1.ab U,J,⟨V.1,V.2.1,by have:=V.2.2;show s.shared.length+l.length<=100000;omega⟩,big,X,Y,told,sv,aa.ab U h1.1,ac,al.ab ad U λr _ h W=>?_⟩;have W:r=gs:=W;subst W;rcases h with h|h
 .exact h1.2.2.1 h
 .exact h.1 (.inr (.inl rfl))
theorem zT {g:Nat} {A:ah} {B:ah} {s:aE} (h:dd w g gs A B s clean):ai x3 xX [Γ g] w λv w'=>fA w g gs A B clean ((dD s).map (·.2)) w'/\ ∃ (t:Λ) (n:Int),v= .tuple #[bU t,Δ n]/\Bytes t/\t.length<=100000/\ ∀q,dD s=σ q->t=q.1:=by
 refine az func87 ?_;refine (ov h).mono ?_;rintro _ V _ ⟨rfl,ao⟩;rw[bg,Y6,aT];have h1:=h.ext ao;obtain⟨_,ap,_,big,av,aw,told,sv,ac,_⟩:=id h1;have ax:=ap.words.2;rw[aK cd.p 0 ac rfl];refine (pE ap).mono ?_;rintro v aa _ ⟨W,Y⟩;have aq:ae (bE g gs A) w aa:=(ao.ab _).trans (W.mono λr _ h=>.inr (.inl h));cases U:s.toks with
 |cons t l=>
  rw[U] at Y;obtain⟨ay,n,rfl⟩:=Y;have aA:=h1.scan W ay (by rw[U];simp);have ad:dD s=σ (t,{s with toks:=l}):=by unfold dD;rw[U]
  have au:=ax t (by rw[U];exact .head _);rw[hj,hl,hn];refine aR (λv af=>aa=af/\v=Δ 0) ?_ ?_
  .rintro _ _ ⟨rfl,rfl⟩;refine dv (λX=>aa=X) ?_ ?_
   .rintro _ rfl;rw[ad];exact⟨⟨aq,aA⟩,t,n,rfl,au.1,au.2.2,λq ag=>by cases ag;rfl⟩
   .intro aj J;rw[bH,ak];exact⟨λh=>absurd rfl h,λ_=>J _ rfl⟩
  .intro aj J;rw[bn,ak];exact⟨λh=>Ω,λ_=>J _ _ ⟨rfl,rfl⟩⟩
 |nil=>
  rw[U] at Y;obtain⟨n,rfl⟩:=Y;have ad:dD s=ν:=by unfold dD;rw[U]
  obtain⟨am,_,aB,big,av,aw,told,sv,ac,aJ,aC⟩:=id h1;have aD:=ac.ab W am.1;have aF:=al.ab aC W λr _ h an=>by
   have an:r=gs:=an;subst an;rcases h with h|h
   .exact am.2.2.1 h
   .exact h.1 (.inr (.inl rfl))
  rw[hj,hl,hn];refine aR (λv af=>aa=af/\ ∃e:Int,v=Δ e/\e≠0) ?_ ?_
  .rintro _ _ ⟨rfl,e,rfl,he⟩;refine dv (λX=>ae (λr=>r=g) aa X/\eu X g gs A B) ?_ ?_
   .rintro X ⟨aG,aH⟩;rw[ad];exact⟨⟨aq.trans (aG.mono λr _ h=>.inl h),aH⟩,[],n,rfl,λb aI=>(by cases aI),Ξ,λq ag=>by cases ag⟩
   .intro aj J;rw[bH,ak];refine⟨λ_=>?_,λh=>absurd he h⟩;exact (rQ (am.ab W) aD aF he (by have:=aB.2.2;show s.shared.length<=_;omega)).mono λ_ w' _ h=>J _ h
  .intro aj J;rw[bn,ak];cases clean with
   |true=>exact⟨λ_=>J _ _ ⟨rfl,4,rfl,Ω⟩,λh=>absurd rfl h⟩
   |false=>exact⟨λh=>by simp at h,λ_=>J _ _ ⟨rfl,11,rfl,Ω⟩⟩
theorem H1 {g:Nat} {A:ah} {B:ah} (h:eu w g gs A B):ai x3 xX [Γ g] w λv w'=>Ext w w'/\v= .tuple #[bU [],Δ 0]:=by
 refine az func87 ?_;refine (mY h).mono ?_;rintro _ V _ ⟨rfl,J⟩;rw[bg,W6,bX];exact⟨J,rfl⟩
theorem uL {g:Nat} {A:ah} {B:ah} {s:aE} (h:dd w g gs A B s clean):ai x3 mq [Γ g,Δ lo,Δ hi] w λv w'=>fA w g gs A B clean ((ba lo hi s).map (·.2)) w'/\ ∃n at_:Int,v= .tuple #[Δ n,Δ at_]/\(∀q,ba lo hi s=σ q->n=q.1)/\(ba lo hi s=ν->n=0):=by
 refine az func89 ?_;refine (zT h).mono ?_;rintro _ V _ ⟨⟨ac,U⟩,t,n,rfl,al,am,hw⟩;rw[bL,bM];cases W:dD s with
 |none=>
  have J:ba lo hi s=ν:=by unfold ba;rw[W]
  rw[W] at U;have U:eu V g gs A B:=U;refine (mY U).mono ?_;rintro _ aa _ ⟨rfl,X⟩;rw[bg,W6,bX,J];exact⟨⟨ac.trans (X.ab _),U.ext X⟩,0,n,rfl,λq h=>(by cases h),λ_=>rfl⟩
 |some q=>
  obtain⟨bD,s1⟩:=q;have:=hw _ W;subst this;rw[W] at U;have U:dd V g gs A B s1 clean:=U;refine (ov U).mono ?_;rintro _ aa _ ⟨rfl,X⟩;rw[bg,Y6,aT];refine (HW al am).mono ?_;rintro _ ad _ ⟨rfl,af⟩;have ag:=(U.ext X).ext af;have aj:ae (bE g gs A) w ad:=(ac.trans (X.ab _)).trans (af.ab _);obtain⟨m,e,an,hm⟩:∃m e:Int,jC t= .tuple #[Δ m,Δ e]/\((fP t=σ m/\e=0)\/(fP t=ν/\e=4)):=by
   unfold jC;cases au:fP t with
   |none=>exact⟨0,4,rfl,.inr ⟨rfl,rfl⟩⟩
   |some m=>exact⟨m,0,rfl,.inl ⟨rfl,rfl⟩⟩
  rw[an,bL,bM];refine aR (λv ao=>ad=ao/\v= .bool (ba lo hi s).isNone) ?_ ?_
  .rintro _ _ ⟨rfl,rfl⟩;cases J:ba lo hi s with
   |none=>
    rw[Option.isNone_none,bX];refine (rR ag Ω).mono ?_;rintro _ av _ ⟨ap,aq⟩;exact⟨⟨aj.trans (ap.mono λr _ h=>.inl h),aq⟩,0,n,rfl,λq h=>(by cases h),λ_=>rfl⟩
   |some q=>
    rw[Z7,aT];unfold ba at J;rw[W] at J;simp only at J;rcases hm with⟨hm,_⟩|⟨hm,_⟩
    .rw[hm] at J;simp only at J;split at J
     .cases J;exact⟨⟨aj,ag⟩,m,n,rfl,λq h=>(by cases h;rfl),λh=>(by cases h)⟩
     .cases J
    .rw[hm] at J;cases J
  .intro ax Y;have J:ba lo hi s=match fP t with
     |none=>ν
     |some n=>if lo<=n/\n<=hi then σ (n,s1) else ν:=by
    unfold ba;rw[W];simp only;cases fP t<;>rfl
   rw[bH,ak];rcases hm with⟨hm,rfl⟩|⟨hm,rfl⟩
   .rw[hm] at J;simp only at J;refine⟨λh=>absurd rfl h,λ_=>?_⟩;rw[aQ,ak];refine⟨λh=>Y _ _ ⟨rfl,by rw[J,if_neg Ω];rfl⟩,λh=>?_⟩;rw[bY];refine Y _ _ ⟨rfl,?_⟩;rw[J];by_cases aw:hi<m
    .rw[decide_eq_true aw,if_neg Ω];rfl
    .rw[decide_eq_false aw,if_pos Ω];rfl
   .rw[hm] at J;exact⟨λ_=>Y _ _ ⟨rfl,by rw[J];rfl⟩,λh=>absurd (by omega:(4:Int)≠0) h⟩
theorem H2 {g:Nat} {A:ah} {B:ah} (h:eu w g gs A B):ai x3 mq [Γ g,Δ lo,Δ hi] w λv w'=>Ext w w'/\v= .tuple #[Δ 0,Δ 0]:=by
 refine az func89 ?_;refine (H1 h).mono ?_;rintro _ V _ ⟨J,rfl⟩;rw[bL,bM];refine (mY (h.ext J)).mono ?_;rintro _ aa _ ⟨rfl,U⟩;rw[bg,W6,bX];exact⟨J.trans U,rfl⟩
theorem H3 {x:Int} (h:aH .i64 w sv l):ai x3 F9 [sv,Δ x] w λv w'=>Ext w w'/\ ∃r:Int,v=Δ r/\(0<=r↔x∈l):=by
 refine az func262 ?_;rw[aU au.u h];refine bA.range l.length (λi _ V=>Ext w V/\x∉l.take i) h.le ⟨Ext.refl _,Ξ⟩ ?_ ?_
 .rintro i _ V k hi ⟨J,U⟩ hk;refine bk Ω ?_;obtain⟨y,W⟩:=aN (l:=l) hi;rw[bf au.u an.i Ψ (h.ext J) W,bn,ak];refine⟨λhe=>⟨J,i,rfl,⟨λ_=>he▸x5 W,λ_=>Ω⟩⟩,λhe=>?_⟩;rw[aL];refine hk _ _ ⟨J,λhm=>?_⟩;rw[r9,W] at hm;rcases l5.1 hm with hm|hm
  .exact U hm
  .simp at hm;exact he hm
 .rintro _ V k ⟨J,U⟩;rw[o9] at U;rw[aQ,ak];exact⟨λh=>Ω,λ_=>⟨J,-1,rfl,⟨λh=>Ω,λh=>absurd h U⟩⟩⟩
theorem H4 {x:Int} (h:aH .i64 w sv l):ai x3 FR [sv,Δ x] w λv w'=>v= .bool (decide (x∈l))/\Ext w w':=by
 refine az func225 ?_;refine (H3 h).mono ?_;rintro _ V _ ⟨J,r,rfl,U⟩;rw[cr];exact⟨by congr 1;rw[U4,decide_eq_true_eq,decide_eq_true_eq];exact U,J⟩
theorem rT:∀ {l:Λ},(∀z∈l,1<=z)-> ∀i,aJ ((l.take i).map λk=>min k 4097)<=aJ (l.map λk=>min k 4097)/\1<=aJ ((l.take i).map λk=>min k 4097)
 |[],_,i=>by simp[aJ]
 |z::l,h,0=>by
  have J:=rT (l:=l) (λx U=>h x (.tail _ U)) l.length;rw[o9] at J;have V:=h z (.head _);simp only[List.take_zero,List.map_nil,T2,aJ];have:=Int.mul_le_mul_of_nonneg_left J.2 (show 0<=min z 4097 by omega);omega
 |z::l,h,i+1=>by
  have J:=rT (l:=l) (λx U=>h x (.tail _ U)) i;have V:=h z (.head _);simp only[List.take_succ_cons,T2,aJ];have h1:=Int.mul_le_mul_of_nonneg_left J.1 (show 0<=min z 4097 by omega);have W:=Int.mul_le_mul_of_nonneg_left J.2 (show 0<=min z 4097 by omega);exact⟨h1,Ω⟩
theorem rU (l:Λ) (x:Int):aJ (l++[x])=aJ l*x:=by
 induction l with
 |nil=>simp[aJ]
 |cons a l J=>rw[List.cons_append,aJ,J,aJ,Int.mul_assoc]
theorem zU (h:aH .i64 w sv l) (h1:∀z∈l,1<=z):ai x3 Fo [sv] w λv w'=>v= .bool (df l)/\Ext w w':=by
 refine az func164 ?_;rw[aU au.u h];refine lF.range l.length (λi _ n V=>Ext w V/\n=Δ (aJ ((l.take i).map λk=>min k 4097))/\aJ ((l.take i).map λk=>min k 4097)<=4096) h.le ⟨Ext.refl _,by simp[aJ],by simp[aJ]⟩ ?_ ?_
 .rintro i _ _ V X hi ⟨J,rfl,U⟩ Y;refine bk Ω ?_;obtain⟨z,W⟩:=aN (l:=l) hi;have ab:=h1 z (x5 W);have ac:=rT h1 i;have ad:=rT h1 (i+1);have e:aJ ((l.take (i+1)).map λk=>min k 4097)=aJ ((l.take i).map λk=>min k 4097)*min z 4097:=by
   rw[r9,W,j6,j9,T2,List.map_nil,rU]
  rw[bf au.u an.i Ψ (h.ext J) W,iW,fL,<-e];have ae:aJ ((l.take (i+1)).map λk=>min k 4097)<=4096*4097:=by
   rw[e];have af:=Int.mul_le_mul_of_nonneg_right U (show 0<=min z 4097 by omega);have ag:=Int.mul_le_mul_of_nonneg_left (show min z 4097<=4097 by omega) (show (0:Int)<=4096 by omega);omega
  rw[wrap_i64 Ω Ω,bY,ak];refine⟨λaa=>⟨?_,J⟩,λaa=>?_⟩
  .unfold df;rw[decide_eq_true];omega
  .rw[aL];exact Y _ _ _ ⟨J,rfl,Ω⟩
 .rintro _ _ V X ⟨J,rfl,U⟩;rw[o9] at U;rw[aQ,ak];refine⟨λh=>Ω,λ_=>⟨?_,J⟩⟩;unfold df;rw[decide_eq_false];omega
def jD (n:Int) (acc:Λ) (s:aE):Option (Int×aE):=match ba 0 (n-1) s with
 |none=>ν
 |some (v,s)=>if v∈acc then ν else σ (v,s)
theorem ow {α:Type} {f:List α->aE->Option (α×aE)} {acc:List α} {s:aE} (h:f acc s=ν):cD f (n+1) acc s=ν:=by
 simp only[cD,h]
theorem rV {α:Type} {f:List α->aE->Option (α×aE)} {acc:List α} {s s':aE} {a:α} (h:f acc s=σ (a,s')):cD f (n+1) acc s=cD f n (acc++[a]) s':=by
 simp only[cD,h]
theorem dd.pH {g:Nat} {A:ah} {B:ah} {s:aE} (h:dd w g gs A B s clean):(∀r,bE g gs A r->r<w.heap.size)/\(∀r,B r->r<w.heap.size):=⟨h.1.2.2.2.1,h.1.2.2.2.2⟩
theorem H5 {g k:Nat} {A B:ah} {s:aE} {m:Int} (h:dd w g gs A B s clean) (hk:k<=4611686018427387904) (hm:0<=m/\m<=1000000):
  ai x3 ye [Γ g,Δ (k:Int),Δ m] w λv w'=>fA w g gs A B clean ((eK m k s).map (·.2)) w'/\
   ∃gr l,ao .i64 an w' gr v l/\(∀r,leads v r->w.heap.size<=r)/\l.length<=100001/\ ∀q,eK m k s=σ q->l=q.1:=by
 obtain⟨aJ,a1⟩:=h.pH;have a2:=h.2.1.words.1;refine az func163 ?_;refine⟨λout aA V=>∃i:Nat,aA=Δ (i:Int)/\i<=k/\ae (bE g gs A) w V/\ ∃gr l,ao .i64 an V gr out l/\w.heap.size<=gr/\l.length<=100001/\
  ((∃st,dd V g gs A B st clean/\cD (jD m) (k-i) l st=eK m k s/\l.length+st.toks.length<=100000)\/(eu V g gs A B/\eK m k s=ν)),λ_ aA _=>k-(bS aA).toNat,
  ⟨0,rfl,X7 _,ae.refl _ _,w.heap.size,[],ao.nil _ _ _ _,n9 _,Ξ,.inl ⟨s,h,rfl,by simpa using a2⟩⟩,?_⟩
 rintro out _ V ⟨i,rfl,a6,aK,gr,l,aM,bC,bD,aN⟩;have s1:=aK.size;have aB:∀r,leads out r->w.heap.size<=r:=λr ac=>by have:=bz aM ac;omega
 refine aR (λv aa=>Ext V aa/\((v= .bool true/\i<k/\ ∃st,dd aa g gs A B st clean/\cD (jD m) (k-i) l st=eK m k s/\l.length+st.toks.length<=100000)\/
  (v= .bool false/\((∃st,dd aa g gs A B st clean/\eK m k s=σ (l,st))\/(eu aa g gs A B/\eK m k s=ν))))) ?_ ?_
 rotate_left
 .intro bF ap;rw[aQ,ak];refine⟨λbG=>?_,λbH=>?_⟩
  .rcases aN with⟨st,ad,Y,aC⟩|⟨ag,aD⟩
   .refine (ov ad).mono ?_;rintro _ aa _ ⟨rfl,af⟩;exact ap _ _ ⟨af,.inl ⟨rfl,Ω,st,ad.ext af,Y,aC⟩⟩
   .refine (mY ag).mono ?_;rintro _ aa _ ⟨rfl,af⟩;exact ap _ _ ⟨af,.inr ⟨rfl,.inr ⟨ag.ext af,aD⟩⟩⟩
  .have a7:k-i=0:=Ω
   rcases aN with⟨st,ad,Y,aC⟩|a8
   .rw[a7] at Y;exact ap _ _ ⟨Ext.refl _,.inr ⟨rfl,.inl ⟨st,ad,Y.symm⟩⟩⟩
   .exact ap _ _ ⟨Ext.refl _,.inr ⟨rfl,.inr a8⟩⟩
 rintro _ aa ⟨af,bb⟩;have aF:ae (bE g gs A) w aa:=aK.trans (af.ab _);have aq:=aM.ext af;rcases bb with⟨rfl,a6,st,ad,Y,aC⟩|⟨rfl,bc⟩
 rotate_left
 .rw[aT];rcases bc with⟨st,ad,al⟩|⟨ag,al⟩
  .rw[al];exact⟨⟨aF,ad⟩,gr,l,aq,aB,Ω,λq U=>by cases U;rfl⟩
  .rw[al];exact⟨⟨aF,ag⟩,gr,l,aq,aB,Ω,λq U=>by cases U⟩
 rw[bX,dj,wrap_i64 Ω Ω];have bd:k-i=(k-(i+1))+1:=Ω
 rw[bd] at Y;refine (uL ad).mono ?_;rintro _ av _ ⟨⟨aw,ax⟩,n,at_,rfl,bf,bI⟩;rw[bL,bM];have aO:∀r,leads out r->¬bE g gs A r:=λr ac bg=>by have:=aJ r bg;have:=aB r ac;omega
 have bJ:∀r,g=r->bE g gs A r:=λr h=>.inl h.symm;refine dv (λJ=>ae (bE g gs A) aa J/\((∃X,dd J g gs A B X clean/\cD (jD m) (k-(i+1)) (l++[n]) X=eK m k s/\l.length+1+X.toks.length<=100000)\/(eu J g gs A B/\eK m k s=ν))/\l.length+1<=100001) ?_ ?_
 .rintro J ⟨aP,bh,aS⟩;have bi:=be aq aP aO;have aU:=aF.trans aP;have bK:=aU.size;refine dJ au.u an.i rfl λa aZ aV bN aj bj=>?_;refine h6 au.u an.i rfl (bi.ext aj) bj.ls Θ Θ λbk bl bm bO bn aG=>?_;have bP:=aj.size;rw[aL,wrap_i64 Ω Ω];have bo:ae (bE g gs A) w bm:=gy (aU.trans (aj.ab _)) aG λr ac he=>by have he:r=gr:=he;omega
  have aW:∀r,bE g gs A r->¬(λr=>r=gr) r:=λr ac he=>by have:=aJ r ac;have he:r=gr:=he;omega
  have aX:∀r,cA g gs A B r->¬(λr=>r=gr) r:=λr ac he=>by have:=a1 r ac.2;have he:r=gr:=he;omega
  refine⟨⟨i+1,rfl,Ω,bo,bl,l++[n],bn,Ω,Θ,?_⟩,by simp only[bS];omega⟩;rcases bh with⟨X,ay,bp,bQ⟩|⟨bq,aD⟩
  .exact .inl ⟨X,(ay.ext aj).ab aG aW aX,bp,Θ⟩
  .exact .inr ⟨(bq.ext aj).ab aG aW aX,aD⟩
 .intro bR aH;cases U:ba 0 (m-1) st with
  |none=>
   rw[U] at ax;have ag:eu av g gs A B:=ax;have am:jD m l st=ν:=by unfold jD;rw[U]
   have al:eK m k s=ν:=by rw[<-Y];exact ow am
   refine aR (λv J=>Ext av J/\v= .bool false) ?_ ?_
   rotate_left
   .intro br aI;refine (mY ag).mono ?_;rintro _ J _ ⟨rfl,W⟩;rw[aT];exact aI _ _ ⟨W,rfl⟩
   rintro _ J ⟨W,rfl⟩;rw[aT];exact aH _ ⟨aw.trans (W.ab _),.inr ⟨ag.ext W,al⟩,Ω⟩
  |some q=>
   obtain⟨bk,X⟩:=q;have bt:=bf _ U;subst bt;rw[U] at ax;have aY:dd av g gs A B X clean:=ax;have bu:=db U;have aS:l.length+1+X.toks.length<=100000:=by have:=bu.1;omega
   refine aR (λv J=>Ext av J/\v= .bool (decide (n∈l))) ?_ ?_
   rotate_left
   .intro br aI;refine (ov aY).mono ?_;rintro _ J _ ⟨rfl,W⟩;rw[bX];refine (H4 ((be aq aw aO).ext W).ls).mono ?_;rintro _ aV _ ⟨rfl,aj⟩;exact aI _ _ ⟨W.trans aj,rfl⟩
   rintro _ J ⟨W,rfl⟩;have ay:=aY.ext W;rw[ak];refine⟨λbw=>?_,λbx=>?_⟩
   .have am:jD m l st=ν:=by unfold jD;rw[U];simp only;rw[if_pos bw]
    refine (rR ay Ω).mono ?_;rintro _ aV _ ⟨bA,bB⟩;exact aH _ ⟨(aw.trans (W.ab _)).trans (bA.mono λr _ h=>.inl h),.inr ⟨bB,by rw[<-Y];exact ow am⟩,Ω⟩
   .have am:jD m l st=σ (n,X):=by unfold jD;rw[U];simp only;rw[if_neg bx]
    exact aH _ ⟨aw.trans (W.ab _),.inl ⟨X,ay,by rw[<-Y];exact (rV am).symm,aS⟩,Ω⟩
def jE (k:Int):Option Int->Int
 |none=>0
 |some x=>if x % 5=0 then k else (x / 5) % (k+1)
def ic (s:Λ) (k:Int) (l:Λ):Λ:=(V0 (aJ s).toNat).map λi=>jE k l[i]?
theorem rW (s:Λ) (k:Int) (l:Λ):(ic s k l).length=(aJ s).toNat:=by simp[ic]
theorem zV (hk:0<=k) (o:Option Int):0<=jE k o/\jE k o<=k:=by
 cases o with
 |none=>simp[jE];exact hk
 |some x=>
  simp only[jE];split
  .omega
  .have h1:=Int.emod_nonneg (x / 5) (show k+1≠0 by omega);have J:=Int.emod_lt_of_pos (x / 5) (show 0<k+1 by omega);omega
theorem zW {aE:y0} {s:Λ} (h:aH .i64 w sv s) (J:bZ s) (am:aH .u16 w aE l) (a1:∀x∈l,0<=x/\x<65536) (hk:0<=k/\k<=4294967296):
  ai x3 tI [sv,Δ k,aE] w λv w'=>Ext w w'/\ ∃g aI,v= .agg #[sv,Δ k,aI]/\w.heap.size<=g/\ao .i64 an w' g aI (ic s k l):=by
 have aF:=h.cells;have bl:=prod_bound J;refine az func50 ?_;refine bp dO.i λa2 V bm aG af=>?_;rw[c8 (cs:=#[sv,Δ k,.slice ν 0 0]) (by
  obtain⟨_,_,_,_,_,rfl,_⟩:=h;kernel_rfl)]
 refine bp dO.i λa6 aa bo ap aK=>?_;have s1:=aG.size;have bq:=ap.size;have bt:=af.lt;have bu:=aK.lt;refine bK (vs:=[sv,Δ k,.slice ν 0 0]) dO.i rfl rfl (by intro u hu;simp at hu;rcases hu with rfl|rfl|rfl;exact aF.2;rfl;rfl) aK λag aO bw aP=>?_;have aS:Ext w ag:=(aG.trans ap).then aO (by rintro r aq rfl;omega);have aT:=(af.ext ap).ab aO Ω;have bx:=aT.lt;have bz:=aP.lt;have bA:=aS.size;refine b0.range (aJ s).toNat (λi W=>Ext w W/\ag.heap.size<=W.heap.size/\ ∃aI X,ag.heap.size<=X/\ad W a6 dO [sv,Δ k,aI]/\
  ao .i64 an W X aI ((V0 i).map λi=>jE k l[i]?)/\ad W a2 dO [.slice ν 0 0,Δ 0,.slice ν 0 0]) Ω
  ⟨aS,n9 _,_,ag.heap.size,n9 _,aP,ao.nil _ _ _ _,aT⟩ ?_ ?_
 .rintro i W a7 hi ⟨Y,a8,aI,X,ba,aw,ah,ax⟩ bb;refine (uh (h.ext Y) J).mono ?_;rintro _ aV _ ⟨rfl,U⟩;simp only[aQ,ak];refine⟨λ_=>?_,λh=>Ω⟩;have aj:=Y.trans U;have bB:=U.size;refine aR (λc ay=>aV=ay/\c=Δ (jE k l[i]?)) ?_ ?_
  .rintro _ _ ⟨rfl,rfl⟩;have aW:=aw.ext U;rw[av dO.p 2 aW rfl];refine dJ au.u an.i rfl λa aZ ay bC ac bc=>?_;have bD:=ac.size;refine h6 au.u an.i rfl ((ah.ext U).ext ac) bc.ls Θ Θ λbd be bE bF aA al=>?_;have bg:=(aW.ext ac).ab al Ω;have bG:=al.size;rw[aM dO.p rfl];refine bj au.i aA.ls.cells.1 aA.ls.cells.2 bg Ξ λbH aB bI bh=>?_;simp only[aL];refine bb _ ⟨((aj.trans ac).then al (by rintro r aq rfl;omega)).then aB (by rintro r aq rfl;omega),Ω,bd,be,Ω,bh,?_,(((ax.ext U).ext ac).ab al Ω).ab aB Ω⟩;rw[List.range_succ,j9];exact aA.ab aB Ω
  .intro bJ aC;rw[aU lL.u (am.ext aj)];simp only[aQ,ak];refine⟨λbL=>?_,λbM=>aC _ _ ⟨rfl,by rw[Y9 Ω];rfl⟩⟩;obtain⟨x,ae⟩:=aN (l:=l) (i:=i) Ω;have aX:=a1 x (x5 ae);rw[bf lL.u lN.i Ψ (am.ext aj) ae,pr Φ,fi lN.u an.u];have bi:x.tdiv 5=x / 5:=Int.tdiv_eq_ediv_of_nonneg aX.1;rw[bi,wrap_u16 Ω Ω,wrap_i64 Ω Ω];simp only[aL];rw[wrap_i64 (x:=k+1) Ω Ω,kc Ω,Int.tmod_eq_emod_of_nonneg Ω,
    bf lL.u lN.i Ψ (am.ext aj) ae,kc Φ,Int.tmod_eq_emod_of_nonneg aX.1]
   simp only[bn,ak];exact⟨λaD=>aC _ _ ⟨rfl,by rw[ae];simp[jE,aD]⟩,λaD=>aC _ _ ⟨rfl,by rw[ae];simp[jE,aD]⟩⟩
 .rintro W a7 ⟨Y,a8,aI,X,ba,aw,ah,ax⟩;refine (uh (h.ext Y) J).mono ?_;rintro _ aV _ ⟨rfl,U⟩;simp only[aQ,ak];refine⟨λh=>Ω,λ_=>?_⟩;have bk:=ah.ls.cells;rw[br dO.p dO.i rfl (aw.ext U).range];refine bK (vs:=[sv,Δ k,aI]) dO.i rfl rfl (by intro u hu;simp at hu;rcases hu with rfl|rfl|rfl;exact aF.2;rfl;exact bk.2) (ax.ext U) λay aY bN af=>?_;rw[eZ dO.p dO.i rfl af.range];exact⟨(Y.trans U).then aY (by rintro r aq rfl;omega),X,aI,rfl,Ω,(ah.ext U).ab aY Ω⟩
theorem H6 {s t:Λ} (J:dW s):og (bh s) t=match cB s t 0 with
  |some n=>n
  |none=>-1:=by
 unfold og;cases U:(bh s).findIdx? (λx=>decide (x=t)) with
 |none=>
  cases hi:cB s t 0 with
  |none=>rfl
  |some n=>
   have:=pA J hi;rw[List.findIdx?_eq_none_iff] at U;have:=U t (x5 this);simp at this
 |some i=>
  rw[List.findIdx?_eq_some_iff_getElem] at U;obtain⟨hi,h1,_⟩:=U;have h1:(bh s)[i]=t:=by simpa using h1
  have:=mT J (i:=i) (t:=t) (by rw[x6 hi,h1]);rw[this]
theorem H7 {a b:Int} (J:0<=a/\a<=4294967296) (U:0<=b/\b<=4294967296):ai x3 FH [Δ a,Δ b,Δ k] w λv w'=>v=Δ (min (a+b) k)/\Ext w w':=by
 refine az func191 ?_;simp only[aL,bY,ak];rw[wrap_i64 Ω Ω];exact⟨λh=>⟨by rw[Int.min_eq_right Ω],Ext.refl _⟩,λh=>⟨by rw[Int.min_eq_left Ω],Ext.refl _⟩⟩
def pI (a b k:Int):y0:=if c5 a k/\c5 b k then .tuple #[Δ (min (a+b) k),Δ 0] else .tuple #[Δ 0,Δ 3]
theorem zX {a b:Int}:ai x3 tQ [Δ a,Δ b,Δ k] w λv w'=>v=pI a b k/\Ext w w':=by
 refine az func117 ?_;refine aR (λv V=>Ext w V/\v= .bool (decide (¬(c5 a k/\c5 b k)))) ?_ ?_
 .rintro _ V ⟨J,rfl⟩;simp only[ak,aL,iW];refine⟨λh=>⟨by unfold pI;rw[if_neg h],J⟩,λh=>?_⟩;have h:=X9.1 h;obtain⟨⟨h1,ab⟩,ac,ad⟩:=id h;have:=h1.2;rw[wrap_i64 Ω Ω];exact⟨by unfold pI;rw[if_pos h],J⟩
 .intro ae U;refine k3.mono ?_;rintro _ aa _ ⟨rfl,W⟩;simp only[bg,bt];refine⟨λh=>U _ _ ⟨W,?_⟩,λh=>?_⟩
  .have:¬c5 a k:=by simpa using h
   rw[decide_eq_true];exact λh=>this h.1
  .have X:c5 a k:=by simpa using h
   refine k3.mono ?_;rintro _ af _ ⟨rfl,Y⟩;simp only[bg];exact U _ _ ⟨W.trans Y,by simp[X]⟩
theorem H8 (h:aH .i64 w sv l) (W:l≠[]):
  ai x3 Gg [sv] w λv w'=>v=Δ (uE l)/\Ext w w':=by
 obtain⟨x,l,rfl⟩:∃x r,l=x::r:=by cases l with
  |nil=>exact absurd rfl W
  |cons x r=>exact⟨x,r,rfl⟩
 have X:=h.le;refine az func280 ?_;refine dv (λV=>w=V) ?_ ?_
 .rintro _ rfl;rw[dY (y:=0) (i:=0) rfl au.u an.i Ψ h (by rfl)];refine⟨λm i aa=>Ext w aa/\ ∃k:Nat,i=Δ (k+1:Nat)/\k<=l.length/\m=Δ ((l.take k).foldl min x),λ_ i _=>l.length+1-(bS i).toNat,⟨Ext.refl _,0,rfl,X7 _,rfl⟩,?_⟩;rintro _ _ aa ⟨J,k,rfl,hk,rfl⟩;rw[aU au.u (h.ext J)];simp only[Z5,aQ,ak] at X ⊢;refine⟨λab=>?_,λac=>⟨?_,J⟩⟩
  .obtain⟨y,U⟩:=aN (l:=l) (i:=k) Ω;rw[bf au.u an.i Ψ (h.ext J) (show (x::l)[k+1]? =σ y from U),iW];simp only[aL];rw[wrap_i64 Ω Ω];refine⟨⟨J,k+1,by congr 1,Ω,?_⟩,?_⟩
   .rw[r9,U,List.foldl_append];rfl
   .simp only[bS];omega
  .have:k=l.length:=Ω
   subst this;rw[o9];rfl
 .intro ad Y;rw[aU au.u h];simp only[aQ,ak];exact⟨λh=>by simp at h;omega,λ_=>Y _ rfl⟩
theorem uM {g:Nat} {cs:Λ} (h:cV w g J sv szs k cs):ai x3 tS [Γ g] w λv w'=>v=Δ k/\Ext w w':=by
 obtain⟨⟨aI,gs,U,hm,V⟩,_⟩:=h;refine az func138 ?_;rw[cR eB.u];simp only[Z7,aT];rw[aK cT.p 1 U rfl];exact⟨rfl,Ext.refl _⟩
theorem lY {g V:Nat} {cs:Λ} (h:cV w g V sv szs k cs):
  ai x3 EJ [Γ g] w λv w'=>Ext w w'/\ ∃U,w.heap.size<=U/\ao .i64 an w' U v cs:=by
 obtain⟨⟨aI,gs,W,hm,X⟩,⟨_,_,Y⟩,J,aa⟩:=h;refine az func104 ?_;rw[cR eB.u];simp only[Z7,aT];rw[aK cT.p 2 W rfl];exact ui X.ls Ω
theorem mZ {g W:Nat} {cs:Λ} (h:cV w g W sv szs k cs):
  ai x3 E3 [Γ g] w λv w'=>v= .agg #[sv]/\Ext w w':=by
 obtain⟨⟨aI,gs,X,hm,ad⟩,_⟩:=h;have Y:=hm.ls.cells;refine az func139 ?_;refine bp bx.i λae V af U aa=>?_;rw[cR eB.u];simp only[Z7,aT];rw[bu,aM cT.p rfl,br (cs:=[sv]) bx.p bx.i rfl (mM (X.ext U) (by
  intro j v J
  match j,J with
  |0,J=>exact J))]
 refine bK (vs:=[sv]) bx.i rfl rfl (by intro u hu;simp at hu;subst hu;exact Y.2) aa λag ab ah ac=>?_;rw[eZ bx.p bx.i rfl ac.range];exact⟨rfl,U.then ab (by rintro r aj rfl;omega)⟩
theorem uN (h:aH .i64 w sv szs) (Y:szs.length<=1000):ai x3 yd [.agg #[sv]] w λv w'=>Ext w w'/\ ∃J,w.heap.size<=J/\ao .i64 ac w' J v szs:=by
 refine az func140 ?_;refine bP λg V ab U W=>?_;rw[av bx.p 0 W rfl];refine (h7 (h.ext U) Ω).mono ?_;rintro v aa _ ⟨X,J,ad,hm⟩;have s1:=U.size;exact⟨U.trans X,J,Ω,hm⟩
theorem zY (h:aH .i64 w sv szs):ai x3 Gd [.agg #[sv]] w λv w'=>v=Δ szs.length/\Ext w w':=by
 refine az func269 ?_;refine bP λg V W J U=>?_;rw[av bx.p 0 U rfl,aU af.u (h.ext J)];exact⟨rfl,J⟩
def ht (szs:Λ) (i:Int):Int:=if 0<=i then szs.getD i.toNat 0 else 0
theorem pJ {i:Int} (h:aH .i64 w sv szs):ai x3 Ge [.agg #[sv],Δ i] w λv w'=>v=Δ (ht szs i)/\Ext w w':=by
 refine az func270 ?_;refine bP λg V ab J U=>?_;refine aR (λv aa=>v= .bool (decide (i<0\/(szs.length:Int)<=i))/\V=aa) ?_ ?_
 .rintro _ _ ⟨rfl,rfl⟩;simp only[ak];refine⟨λh=>⟨?_,J⟩,λY=>?_⟩
  .unfold ht;split
   .rw[u9,Y9 Ω];rfl
   .rfl
  .rw[av bx.p 0 U rfl];obtain⟨n,rfl⟩:∃n:Nat,i=n:=⟨i.toNat,Ω⟩;have W:n<szs.length:=Ω
   rw[bf af.u ac.i Ψ (h.ext J) (x6 W)];refine⟨?_,J⟩;unfold ht;rw[if_pos Ω,u9,j0,x6 W];rfl
 .intro ad X;simp only[aQ,ak];refine⟨λh=>X _ _ ⟨by rw[decide_eq_true];omega,rfl⟩,λY=>?_⟩;rw[av bx.p 0 U rfl,aU af.u (h.ext J)];simp only[cr];exact X _ _ ⟨by congr 1;simp;omega,rfl⟩
theorem rX {g B0:Nat} (J:bZ szs):
  ml x3 j7 [Γ g] (aJ szs).toNat (λk vs w=>∃aF U,vs=[Δ (k:Int),aF]/\B0<=U/\ao .i64 ac w U aF (cF szs k))
   (λw=>ad w g bx [sv]/\aH .i64 w sv szs/\B0<=w.heap.size):=by
 refine⟨j7.enters,λl aj aC w af _ al ⟨ag,ah,am⟩ an=>?_⟩;have aD:=prod_bound J;refine pq func155 ?_;rw[br bx.p bx.i rfl ag.range];refine (n1 ah J).free.mono ?_;rintro _ V ⟨ap,rfl,W⟩;refine b0.range (aJ szs).toNat (λi aa=>aj i aa/\ad aa g bx [sv]/\aH .i64 aa sv szs/\B0<=aa.heap.size) Ω ⟨af 0 _ _ W ap.b an,ag.ext W,ah.ext W,X8 am W.size⟩ ?_ ?_
 .rintro i aa k hi ⟨Y,ab,ae,ai⟩ hk;simp only[aQ,ak];refine⟨λ_=>?_,λh=>Ω⟩;rw[br bx.p bx.i rfl ab.range];refine (GN ae J Ω Ω).free.mono ?_;rintro _ aq ⟨au,X,aF,U,rfl,av,aw⟩;rw[bL,bM];refine⟨rfl,(al i _ aq hi ⟨ab.ext X,ae.ext X,X8 ai X.size⟩ ⟨aF,U,rfl,X8 ai av,aw⟩ (af _ _ _ X au.b Y)).mono ?_⟩;rintro _ aE (⟨rfl,⟨ax,ay,az⟩,aA⟩|⟨rfl,aB⟩)
  .simp only[bg,Y6,aT,aL];exact hk _ ⟨aA.1,ax,ay,az⟩
  .simp only[bg,W6,bX];exact .inr ⟨i,hi,aB⟩
 .rintro aa k ⟨Y,ab,ae,_⟩;simp only[aQ,ak];exact⟨λh=>Ω,λ_=>.inl Y⟩
theorem rY:ai x3 Ep [.agg #[sv]] w λr w'=>Ext w w'/\ ∃g,r= .func (.func j7) #[] #[Γ g]/\w.heap.size<=g/\ad w' g bx [sv]:=by
 refine az func69 ?_;refine bP λg V W J U=>?_;rw[kX];exact⟨J,g,rfl,Ω,U⟩
end Go.Proofs.YthjegppepbbojaaGreatDoor
namespace Go.Vc
open Go Go.RowKit
set_option maxRecDepth 100000
section
variable {P:V2} {w:x2}
theorem ay.dc {α:Type} {s:Sem α} {K:α->x2->Prop} (h:ay P s w λv w'=>cY w w'->K v w'):ay P s w K:=by
 obtain⟨v,w',h1,J,U⟩:=h;exact⟨v,w',h1,J,U J⟩
structure Keys (P:V2) (k:o4) (G:y0->Prop):Prop where
 check:∀ (w:x2) (em:Bool) {v:y0},G v->(Instr.checkKey em 10000 k v).run P w= .ok () w
 find:∀ (w:x2) {x:y0},G x-> ∀es:List MapEntry,(∀e∈es,G e.key)->
  ((Instr.findKey k x es).run P w= .ok ν w/\ ∀e∈es,e.key≠x)\/ ∃j e,(Instr.findKey k x es).run P w= .ok (σ (j,e.val)) w/\es[j]? =σ e/\e.key=x
 stays:∀ (w:x2) {v:y0},G v->(Instr.keyThatStays v v).run P w= .ok v w
theorem Keys.law {k:o4} (K:WideMaps.KeyLaw P k):Keys P k λv=>∃l,keyOf P k v=σ l:=
 ⟨λw J _ ⟨_,h⟩=>K.check w J h,λw _ ⟨_,h⟩ U V=>K.find w h U V,λw _ ⟨_,h⟩=>K.stays w h⟩
theorem Keys.int {k:o4} {J:o6} (hk:P.underlying k=σ (.int J)):Keys P k λv=>∃n,v= .int J n:=by
 have key:∀n,MapKept.IsKey (.int J) (.int J n):=λn=>rfl;refine⟨λw V v ⟨n,h⟩=>?_,λw x ⟨n,h⟩ W X=>?_,λw v ⟨n,h⟩=>?_⟩
 .subst h;exact MapKept.run_checkKey hk (key n) V 9999
 .subst h;rcases MapKept.findNow_spec (key n) W 0 (λe he=>by obtain⟨m,h⟩:=X e he;rw[h];exact key m) with⟨h1,U⟩|⟨j,e,h1,U,Y⟩
  .exact .inl ⟨MapKept.run_findKey hk h1,U⟩
  .exact .inr ⟨j,e,by have:=MapKept.run_findKey (P:=P) (w:=w) hk h1;simpa using this,U,Y⟩
 .subst h;exact MapKept.run_keyThatStays (d:=.int J) (key n)
def gf (e:MapEntry):y0×y0:=(e.key,e.val)
def c6 (w:x2) (m:Nat) (d:List (y0×y0)):Prop:=∃J U,w.heap[m]? =σ (.map J U)/\MapKept.Stamped J U/\J.toList.map gf=d
theorem c6.ext {d:List (y0×y0)} (h:c6 w m d) (J:Ext w w'):c6 w' m d:=by
 obtain⟨U,c,h1,V⟩:=h;exact⟨U,c,J.bc m _ h1 rfl,V⟩
theorem c6.ab {d:List (y0×y0)} (h:c6 w m d) (J:ae S w w') (U:¬S m):c6 w' m d:=by
 obtain⟨V,c,h1,W⟩:=h;exact⟨V,c,J.bc m _ h1 rfl U,W⟩
theorem c6.lt {d:List (y0×y0)} (h:c6 w m d):m<w.heap.size:=by
 obtain⟨J,c,h1,U⟩:=h;exact (Z1.1 h1).1
theorem c6.nodup {d:List (y0×y0)} (h:c6 w m d):(d.map (·.1)).Nodup:=by
 obtain⟨U,c,_,⟨_,_,J⟩,rfl⟩:=h;rw[List.map_map];exact J
theorem jF {α:Type} {l:List α} (h:l.Nodup) {i:Nat} {x:α} (hi:l[i]? =σ x) (X:l[j]? =σ x):i=j:=by
 have J:=x4.1 hi;have U:=x4.1 X;have W:=U3.1 h;rcases Nat.lt_trichotomy i j with V|rfl|V
 .exact absurd (J.2.trans U.2.symm) (W i j J.1 U.1 V)
 .rfl
 .exact absurd (U.2.trans J.2.symm) (W j i U.1 J.1 V)
theorem lZ {α β:Type} (f:α->β):∀ (l:List α) (i:Nat),(l.map f).eraseIdx i=(l.eraseIdx i).map f
 |[],_=>Ξ
 |_::_,0=>rfl
 |x::l,i+1=>by simp[lZ f l i]
theorem c6.uniq {d:List (y0×y0)} (h:c6 w m d) {i:Nat} {p q:y0×y0} (hi:d[i]? =σ p) (J:d[j]? =σ q) (he:p.1=q.1):i=j:=by
 have U:=h.nodup;have h1:(d.map (·.1))[i]? =σ p.1:=by rw[u4,hi];rfl
 have V:(d.map (·.1))[j]? =σ p.1:=by rw[u4,J,he];rfl
 exact jF U h1 V
theorem rZ {ab:Array MapEntry} {c:Nat} (X:w.heap[m]? =σ (.map ab c)) (U:Array MapEntry) (V:Nat):
  ae (λr=>r=m) w {w with heap:=w.heap.setIfInBounds m (.map U V)}/\cY w {w with heap:=w.heap.setIfInBounds m (.map U V)}/\({w with heap:=w.heap.setIfInBounds m (.map U V)}:x2).heap[m]? =σ (.map U V):=by
 have J:=MapKept.heap_set (o':=.map U V) X;refine⟨⟨Ξ,λr o W Y ac=>?_⟩,⟨rfl,.jV,rfl,Ξ,λr o W Y=>?_⟩,J.1⟩
 .show (w.heap.setIfInBounds m _)[r]? =σ o;rw[J.2 r ac];exact W
 .show (w.heap.setIfInBounds m _)[r]? =σ o;by_cases aa:r=m
  .subst aa;rw[X] at W;cases W;cases Y
  .rw[J.2 r aa];exact W
theorem r0 {K:y0->x2->Prop} (h:∀m w',m=w.heap.size->Ext w w'->c6 w' m []->K (.map (σ m)) w'):ay P (Instr.makeMap t ν) w K:=by
 refine .of (run_makeMap t w) (nM w _) (h _ _ rfl (nL w _) ⟨#[],0,?_,MapKept.stamped_empty 0,rfl⟩);exact heap_alloc_new w _
variable {k e:o4} {G:y0->Prop}
theorem pK {c:Bool} {d:List (y0×y0)} {x:y0} (ab:P.underlying t=σ (.map k e)) (hk:Keys P k G) (hm:c6 w m d) (ac:∀p∈d,G p.1) (X:G x) (J:d[j]? =σ (x,v)):
  U P (Instr.lookup t (.map (σ m)) x c) w K=K (if c then .tuple #[v,.bool true] else v):=U.of λw' ad=>by
 obtain⟨V,ae,Y,af,rfl⟩:=hm.ext ad;have ag:∀e∈V.toList,G e.key:=λe he=>ac (gf e) (Z6.2 ⟨e,he,rfl⟩);rcases hk.find w' X V.toList ag with⟨_,W⟩|⟨i,aa,h1,W,ah⟩
 .rw[u4] at J;obtain⟨ai,aj,ak⟩:=X5.1 J;exact absurd (congrArg Prod.fst ak) (W ai (x5 aj))
 .have al:aa.val=v:=by
   have hi:(V.toList.map gf)[i]? =σ (gf aa):=by rw[u4,W];rfl
   have am:c6 w' m (V.toList.map gf):=⟨V,ae,Y,af,rfl⟩;have:=am.uniq hi J ah;subst this;rw[hi] at J;exact congrArg Prod.snd (Z9 J)
  simp only[Instr.lookup,W9,run_underlying ab,V1,MapKept.run_getObj_map Y,V7,hk.check w' _ X,h1,al]
theorem r1 {c:Bool} {d:List (y0×y0)} {x:y0} (aa:P.underlying t=σ (.map k e)) (hk:Keys P k G) (J:∃s b,aO P e s b z) (hm:c6 w m d) (ab:∀p∈d,G p.1) (V:G x) (ac:∀p∈d,p.1≠x):
  U P (Instr.lookup t (.map (σ m)) x c) w K=K (if c then .tuple #[z,.bool false] else z):=U.of λw' ad=>by
 obtain⟨W,ai,ae,aj,rfl⟩:=hm.ext ad;have af:∀e∈W.toList,G e.key:=λe he=>ab (gf e) (Z6.2 ⟨e,he,rfl⟩);have ag:(zeroValue e).run P w'= .ok z w':=by
  obtain⟨s,b,i,hi,_,_,J⟩:=J;simp[zeroValue,typeInfo,hi,J]
 rcases hk.find w' V W.toList af with⟨h1,X⟩|⟨i,Y,h1,X,ah⟩
 .simp only[Instr.lookup,W9,run_underlying aa,V1,MapKept.run_getObj_map ae,V7,hk.check w' _ V,h1,ag]
 .exact absurd ah (ac (gf Y) (Z6.2 ⟨Y,x5 X,rfl⟩))
theorem H9 {J:Array MapEntry} {U:MapEntry} {f:MapEntry->MapEntry} (h:J[j]? =σ U):(J.modify j f).toList.map gf=(J.toList.map gf).set j (gf (f U)):=by
 refine W5 λi=>?_;simp only[u4,R4,Array.getElem?_modify,W3,u5,Array.length_toList];by_cases V:j=i
 .subst V;have:=(Z1.1 h);simp[this.1,this.2]
 .simp[V]
theorem pL {d:List (y0×y0)} {x:y0} {K:Unit->x2->Prop} (ad:P.underlying t=σ (.map k e)) (hk:Keys P k G) (hm:c6 w m d) (aj:∀p∈d,G p.1) (V:G x)
  (h1:∀j v0 w',d[j]? =σ (x,v0)->c6 w' m (d.set j (x,v))->ae (λr=>r=m) w w'->K () w')
  (ak:∀w',(∀p∈d,p.1≠x)->c6 w' m (d++[(x,v)])->ae (λr=>r=m) w w'->K () w'):ay P (Instr.mapUpdate t (.map (σ m)) x v) w K:=by
 obtain⟨U,W,J,af,rfl⟩:=hm;have al:∀e∈U.toList,G e.key:=λe he=>aj (gf e) (Z6.2 ⟨e,he,rfl⟩);rcases hk.find w V U.toList al with⟨X,ag⟩|⟨i,ah,X,hi,he⟩
 .obtain⟨Y,aa,ab⟩:=rZ J (U.push {key:=x,val:=v,born:=W}) (W+1);refine .of (v:=()) (w':=_) ?_ aa (ak _ (λp am=>?_) ⟨_,_,ab,MapKept.stamped_push af ag,by simp[gf]⟩ Y)
  .simp only[Instr.mapUpdate,W9,run_underlying ad,V1,MapKept.run_getObj_map J,hk.check w _ V,X,MapKept.run_setObj_map _ J]
  .obtain⟨an,ao,rfl⟩:=Z6.1 am;exact ag an ao
 .have ac:U[i]? =σ ah:=by simpa using hi
  obtain⟨Y,aa,ab⟩:=rZ J (U.modify i λe=>{e with key:=x,val:=v}) W;refine .of (v:=()) (w':=_) ?_ aa (h1 i ah.val _ (by rw[u4,hi];simp[gf,he]) ⟨_,_,ab,MapKept.stamped_modify af _ _ (λ_ _=>rfl) (λap _ ai=>by rw[ac] at ai;cases ai;exact he.symm),H9 ac⟩ Y);simp only[Instr.mapUpdate,W9,run_underlying ad,V1,MapKept.run_getObj_map J,hk.check w _ V,X,ac,Y4,S1,he,hk.stays w V,MapKept.run_setObj_map _ J]
theorem Ia {af ag:o4} {d:List (y0×y0)} {x:y0} {K:y0->x2->Prop} (ab:P.underlying t=σ (.map k e)) (hk:Keys P k G) (hm:c6 w m d) (ah:∀p∈d,G p.1) (V:G x)
  (h1:∀j v0 w',d[j]? =σ (x,v0)->c6 w' m (d.eraseIdx j)->ae (λr=>r=m) w w'->K (.tuple #[]) w')
  (ai:∀w',(∀p∈d,p.1≠x)->c6 w' m d->ae (λr=>r=m) w w'->K (.tuple #[]) w'):ay P (j5.delete_ #[t,af] ag #[.map (σ m),x]) w K:=by
 obtain⟨U,ac,J,ad,rfl⟩:=hm;have aj:∀e∈U.toList,G e.key:=λe he=>ah (gf e) (Z6.2 ⟨e,he,rfl⟩);rcases hk.find w V U.toList aj with⟨W,ak⟩|⟨i,al,W,hi,he⟩
 .obtain⟨X,Y,aa⟩:=rZ J U ac;refine .of (v:=.tuple #[]) (w':=_) ?_ Y (ai _ (λp am=>?_) ⟨_,_,aa,ad,rfl⟩ X)
  .simp only[j5.delete_,List.getElem?_toArray,List.getElem?_cons_zero,List.getElem?_cons_succ,W9,run_underlying ab,V1,MapKept.run_getObj_map J,hk.check w _ V,W,MapKept.run_setObj_map _ J,V7]
  .obtain⟨an,ao,rfl⟩:=Z6.1 am;exact ak an ao
 .obtain⟨X,Y,aa⟩:=rZ J (U.eraseIdxIfInBounds i) ac;refine .of (v:=.tuple #[]) (w':=_) ?_ Y (h1 i al.val _ (by rw[u4,hi];simp[gf,he]) ⟨_,_,aa,MapKept.stamped_erase ad _,by rw[lZ];simp⟩ X);simp only[j5.delete_,List.getElem?_toArray,List.getElem?_cons_zero,List.getElem?_cons_succ,W9,run_underlying ab,V1,MapKept.run_getObj_map J,hk.check w _ V,W,MapKept.run_setObj_map _ J,V7]
theorem Ib {J:o4} {d:List (y0×y0)} (V:P.underlying t=σ (.map k e)) (hm:c6 w m d):U P (X0 #[t] J #[.map (σ m)]) w K=K (Δ d.length):=U.of λw' W=>by
 obtain⟨Y,aa,X,ab,rfl⟩:=hm.ext W;simp[X0,run_underlying V,MapKept.run_getObj_map X,goInt]
def gT (w:x2) (W m:Nat) (d left:List (y0×y0)) (X:Option (y0×y0)):Prop:=∃J U seen c0,w.heap[m]? =σ (.map J U)/\MapKept.Stamped J U/\J.toList.map gf=d/\
 w.heap[W]? =σ (.mapIter (σ m) U seen c0)/\U<=c0/\(leftOf J seen).toList.map gf=left/\ ∀p,X=σ p->c0=U/\ ∃V,J.toList.find? (λe=>e.born == seen.back?.getD 0)=σ V/\seen.back? =σ V.born/\gf V=p
theorem gT.map {d left:List (y0×y0)} {U:Option (y0×y0)} (h:gT w J m d left U):c6 w m d:=by
 obtain⟨V,c,_,_,h1,W,X,_⟩:=h;exact⟨V,c,h1,W,X⟩
theorem gT.bc {d left:List (y0×y0)} {U:Option (y0×y0)} (h:gT w J m d left U) (V:ae S w w') (hm:¬S m) (hi:eP w w'):gT w' J m d left U:=by
 obtain⟨W,c,s,c0,h1,X,Y,aa,ab⟩:=h;exact⟨W,c,s,c0,V.bc m _ h1 rfl hm,X,Y,hi J _ aa rfl,ab⟩
theorem gT.ext {d left:List (y0×y0)} {U:Option (y0×y0)} (h:gT w J m d left U) (V:Ext w w') (hi:eP w w'):gT w' J m d left U:=
 h.bc (V.ab λ_=>False) (λh=>h) hi
theorem Ic (J:Array MapEntry):leftOf J #[]=J:=by
 unfold leftOf;exact Array.filter_eq_self.2 λx U=>Ξ
theorem zZ {d:List (y0×y0)} {K:y0->x2->Prop} (X:P.underlying t=σ (.map k e)) (hm:c6 w m d)
  (h:∀J w',J=w.heap.size->Ext w w'->eP w w'->gT w' J m d d ν->K (Γ J) w'):ay P (Instr.range t (.map (σ m))) w K:=by
 obtain⟨V,U,W,Y,rfl⟩:=hm;refine .of (run_range_map w t k e m V U X W) (nM w _) (h _ _ rfl (nL w _) (nM w _).ly ⟨V,U,#[],U,(nL w _).bc m _ W rfl,Y,rfl,heap_alloc_new w _,n9 _,by rw[Ic],λp aa=>by cases aa⟩)
theorem z1:∀ (l:List MapEntry) (j:Nat) (J:MapEntry),(l.map (·.born)).Nodup->l[j]? =σ J->l.filter (λx=>!(x.born == J.born))=l.eraseIdx j
 |[],j,J,_,h=>by simp at h
 |x::l,0,J,V,h=>by
  simp at h;subst h;have U:=List.nodup_cons.1 (by simpa using V:(x.born::l.map (·.born)).Nodup);simp only[List.filter_cons,beq_self_eq_true,Y6,Bool.false_eq_true,if_false,List.eraseIdx_cons_zero];refine List.filter_eq_self.2 λy W=>?_;have:y.born≠x.born:=λhe=>U.1 (he▸Z6.2 ⟨y,W,rfl⟩);simpa using this
 |x::l,j+1,J,V,h=>by
  simp at h;have U:=List.nodup_cons.1 (by simpa using V:(x.born::l.map (·.born)).Nodup);have X:x.born≠J.born:=λhe=>U.1 (he▸Z6.2 ⟨J,x5 h,rfl⟩);have Y:=z1 l j J U.2 h;simp only[List.filter_cons,List.eraseIdx_cons_succ,Y];simp[X]
theorem z6 {free:ff} {U:Nat} {d left:List (y0×y0)} {ap:Option (y0×y0)} {K:y0->x2->Prop} (h:gT w U m d left ap) (ac:free.1=false->free.2<=U)
  (aq:left=[]->K (.tuple #[.bool false]) w)
  (h1:∀j p w',left[j]? =σ p->Ext w w'->cp U w w'->gT w' U m d (left.eraseIdx j) (σ p)->K (.tuple #[.bool true,p.1,p.2]) w'):qJ P free (Instr.next (Γ U) false 0) w K:=by
 obtain⟨X,Y,seen,c0,ad,af,rfl,hi,au,rfl,_⟩:=h;have aj:∀x∈X.toList,x.born<Y:=af.1;have ak:=af.2.1;have al:∀x∈(leftOf X seen).toList,x.born<Y:=λx ab=>aj x (mem_left ab).1;have av:∀ (V:x2) (o':Obj),V.heap=w.heap->(setObj U o').run P V= .ok () {V with heap:=V.heap.setIfInBounds U o'}:=λV o' he=>by
  simp only[setObj,Sem.run];rw[he,hi]
 unfold qJ;simp only[Instr.next,getObj,W9,Sem.run,hi,ad,V1,next_test_false seen X Y c0 aj au,Bool.false_eq_true,if_false];have aw:Array.filter (λe=>!seen.contains e.born) X=leftOf X seen:=rfl;rw[aw];have ax:((leftOf X seen).toList.map (·.born)).Nodup:=by
  unfold leftOf;rw[Array.toList_filter];exact (List.Sublist.map _ List.filter_sublist).nodup ak
 have ay:∀ae:MapEntry,leftOf X (seen.push ae.born)=(leftOf X seen).filter λx=>!(x.born == ae.born):=λae=>by
  unfold leftOf;rw[Array.filter_filter];congr 1;funext x;rw[contains_push];cases seen.contains x.born<;>cases x.born == ae.born<;>rfl
 generalize az:leftOf X seen=L at*;have aA:L.filter (λx=>decide (x.born<Y))=L:=Array.filter_eq_self.2 (λx ab=>by simpa using al x (by simpa using ab));have aB:L.filter (λx=>decide (x.born≥Y))= #[]:=by
  rw[Array.filter_eq_empty_iff];intro x ab;have:=al x (by simpa using ab);simp;omega
 simp only[aA,aB,Array.append_empty];by_cases am:L.size=0
 .have aC:L= #[]:=Array.eq_empty_of_size_eq_zero am;subst aC;refine⟨.tuple #[.bool false],w,?_,λ_=>cp.refl _ _,aq rfl⟩;simp[choose,Sem.run,Question.forced]
 .have aD:L.isEmpty=false:=by simp[Array.isEmpty,am]
  simp only[aD,Bool.false_eq_true,if_false,Array.empty_append,Array.size_map];have aE:∃ (j:Nat) (n:Nat),j<L.size/\w.drawn<=n/\(choose (Question.mapNext L.size)).run P w= .ok j {w with drawn:=n}:=by
   by_cases ac:L.size<=1
   .exact⟨0,w.drawn,Ω,n9 _,by simp[choose,Sem.run,Question.forced,ac]⟩
   .exact⟨_,w.drawn+1,Nat.mod_lt _ Ω,R6 _,by
     simp only[choose,Sem.run,Question.forced,decide_eq_true_eq,ac,if_false,Question.cut];rfl⟩
  obtain⟨j,n,ag,an,aF⟩:=aE;have ao:L.toList[j]? =σ L[j]:=by simp[ag]
  have aG:L[j]∈X.toList:=(mem_left (seen:=seen) (by rw[az];exact Array.mem_toList_iff.2 (Array.getElem_mem ag))).1;refine⟨.tuple #[.bool true,L[j].key,L[j].val],{w with drawn:=n,heap:=w.heap.setIfInBounds U (.mapIter (σ m) Y (seen.push L[j].born) Y)},?_,?_,?_⟩
  .have J:=av {w with drawn:=n} (.mapIter (σ m) Y (seen.push L[j].born) Y) rfl;simp only[aF,Array.getElem?_map,Array.getElem?_eq_getElem ag,Y4,W9,J,V1,V7]
  .intro aH;have:=ac aH;refine⟨rfl,⟨rfl,an⟩,rfl,Ξ,λr o W ah=>?_,λr o aI W ai=>?_⟩
   .show (w.heap.setIfInBounds U _)[r]? =σ o;by_cases aa:r=U
    .subst aa;rw[hi] at W;cases W;cases ah
    .rw[(MapKept.heap_set hi).2 r aa];exact W
   .show (w.heap.setIfInBounds U _)[r]? =σ o;rw[(MapKept.heap_set hi).2 r Ω];exact W
  .refine h1 j (gf L[j]) _ (by rw[u4,ao];rfl) ⟨Ξ,λr o W ai=>?_⟩ ⟨rfl,⟨rfl,an⟩,rfl,Ξ,λr o W ah=>?_,λr o aI W ai=>?_⟩ ⟨X,Y,seen.push L[j].born,Y,?_,af,rfl,?_,n9 _,?_,λp aJ=>⟨rfl,L[j],?_,Ξ,Z9 aJ⟩⟩
   .show (w.heap.setIfInBounds U _)[r]? =σ o;by_cases aa:r=U
    .subst aa;rw[hi] at W;cases W;cases ai
    .rw[(MapKept.heap_set hi).2 r aa];exact W
   .show (w.heap.setIfInBounds U _)[r]? =σ o;by_cases aa:r=U
    .subst aa;rw[hi] at W;cases W;cases ah
    .rw[(MapKept.heap_set hi).2 r aa];exact W
   .show (w.heap.setIfInBounds U _)[r]? =σ o;rw[(MapKept.heap_set hi).2 r Ω];exact W
   .show (w.heap.setIfInBounds U _)[m]? =_;rw[(MapKept.heap_set hi).2 m (λhe=>by subst he;rw[hi] at ad;cases ad)];exact ad
   .exact (MapKept.heap_set hi).1
   .rw[ay,Array.toList_filter,z1 _ _ _ ax ao,lZ]
   .simp only[Array.back?_push,S1];exact find_born _ _ ak aG
theorem z7 {d left:List (y0×y0)} {p:y0×y0} {K:y0->x2->Prop} (h:gT w J m d left (σ p)) (W:K (.tuple #[p.1,p.2]) w):ay P (Instr.entry (Γ J)) w K:=by
 obtain⟨aa,ab,seen,c0,X,ac,rfl,hi,ad,rfl,Y⟩:=h;obtain⟨rfl,U,h1,V,rfl⟩:=Y p rfl;refine .of (v:=.tuple #[U.key,U.val]) (w':=w) ?_ (cY.refl _) W;rw[V] at h1;simp only[Instr.entry,getObj,W9,Sem.run,hi,X,V1,V,bne_self_eq_false,Bool.false_eq_true,if_false,<-Array.find?_toList];simp only[S1] at h1;rw[h1];rfl
end
end Go.Vc
namespace Go.Proofs.YthjegppepbbojaaGreatDoor
open Go Go.Vc Go.RowKit Go.Proofs Go.Proofs.Tryz
set_option maxRecDepth 100000
def dX (ks:Λ):y0:=.agg (ints .i8 ks).toArray
def kk (ks:Λ):Prop:=ks.length=6/\ ∀x∈ks,0<=x/\x<32
theorem Ie {b:Λ} (h:dX a=dX b):a=b:=by
 unfold dX at h;have h:ints .i8 a=ints .i8 b:=congrArg Array.toList (y0.agg.inj h);have e:∀l:Λ,(ints .i8 l).map valOf=l:=λl=>by
  unfold ints;rw[List.map_map];exact List.map_id l
 rw[<-e a,<-e b,h]
theorem z8 (ks:Λ):(dX ks).cells.toList=ints .i8 ks:=by simp[dX,y0.cells]
theorem If:WideMaps.ArrKey x3 cz fy 6:=⟨cz.u,Ψ,Ψ,Ψ⟩
theorem keys:Keys x3 cz λv=>∃l,keyOf x3 cz v=σ l:=Keys.law If.law
theorem uO (h:kk ks):∃l,keyOf x3 cz (dX ks)=σ l:=by
 obtain⟨X,J⟩:=h
 match ks,X with
 |[a,b,c,d,e,f],_=>
  have Y:=J a Ξ;have aa:=J b Ξ;have ab:=J c Ξ;have rd:=J d Ξ;have ac:=J e Ξ;have jV:=J f Ξ;have wf:∀x:Int,0<=x/\x<32->(Lit.int .i8 x).wf=true:=λx U=>by
   simp only[Lit.wf,U8,decide_eq_true_eq];have ai:o6.i8.min= -128:=Φ
   have aj:o6.i8.max=127:=Φ
   omega
  have V:decide (0<x3.types.size)=true:=Ψ
  have V:=of_decide_eq_true V;obtain⟨n,ad⟩:∃n,x3.types.size=n+1:=⟨x3.types.size-1,Ω⟩;have one:∀x:Int,0<=x/\x<32->x3.keyLits (n+1) fy [.int .i8 x]=σ [.int .i8 x]:=λx U=>by
   unfold V2.keyLits;rw[fy.u];simp[wf x U]
  unfold keyOf;rw[cz.u];simp only;have ae:x3.keyType cz=true:=Ψ
  have af:x3.cellsOf fy=1:=Ψ
  have W:x3.cellsOf cz=6:=Ψ
  have ag:(dX [a,b,c,d,e,f]).formed x3 cz=true:=by
   unfold dX y0.formed;rw[cz.u,W];rfl
  rw[ae,ag,z8,ad];simp only[Bool.and_self,if_true];unfold V2.keyLits;rw[cz.u];simp only[W,af,ints];have ah:V0 6=[0,1,2,3,4,5]:=Φ
  simp[ah,one a Y,one b aa,one c ab,one d rd,one e ac,one f jV]
def pad (t:Λ):Λ:=t++o8 (6-t.length) 0
theorem Ig {t:Λ} (V:t.length<=6) (J:∀x∈t,0<=x/\x<32):kk (pad t):=
 ⟨by simp[pad];omega,λx U=>by
  rcases l5.1 U with h|h
  .exact J x h
  .have:=(List.mem_replicate.1 h).2;omega⟩
theorem Ih {b:Λ} (J:a.length=b.length) (h:pad a=pad b):a=b:=by
 unfold pad at h;exact (List.append_inj h J).1
theorem Aa {t:Λ}:(pad t).take t.length=t:=by simp[pad]
theorem m4 {b o:Nat} (J:ks.length=6) (h:w.rangeAt b o (ints .i8 ks)):U x3 (x7 cz (.pointer (σ ⟨b,o,ν⟩))) w K=K (dX ks):=
 yu cz.u rfl cz.i (by simp[J]) h
theorem Ii {b o:Nat} (J:ks.length=6) (h:w.rangeAt b o (ints .i8 ks)):U x3 (do loadVar cz (<-asAddr (.pointer (σ ⟨b,o,ν⟩)))) w K=K (dX ks):=U.of λw' V=>by
 have:=run_loadVar_mid (P:=x3) w' b o cz (ints .i8 ks) (.array 6 fy) (nX V h) cz.u rfl (by rw[cz.i.size];simp[J]);simp only[asAddr,W9,V7,Result.andThen_ok,this];rfl
theorem pM {g:Nat} {K:Unit->x2->Prop} (J:ks.length=6) (U:cs.length=6) (V:ad w g cz cs)
  (h:∀w',ae (λr=>r=g) w w'->w'.heap.size=w.heap.size->ad w' g cz (ints .i8 ks)->K () w'):ay x3 (o7 cz (Γ g) (dX ks)) w K:=
 bK (vs:=ints .i8 ks) cz.i (by simp[J]) U (λv W=>by obtain⟨x,_,rfl⟩:=Z6.1 W;rfl) V h
def r2:List y0:=[.int .i8 0,.int .i8 0,.int .i8 0,.int .i8 0,.int .i8 0,.int .i8 0]
theorem Ij {x:Int}:ai x3 rl [Δ x] w λv w'=>v= .bool (decide (¬hG x))/\Ext w w':=by
 refine az func227 ?_;simp only[bJ,aQ,bY,ak];refine⟨λh=>⟨?_,Ext.refl _⟩,λh=>⟨?_,Ext.refl _⟩⟩
 .rw[decide_eq_true];intro J;have:=J.1;omega
 .congr 1;have:(32<x)=(¬hG x):=propext ⟨λU J=>by have:=J.2;omega,λU=>by
   by_cases V:32<x
   .exact V
   .exact absurd ⟨Ω,Ω⟩ U⟩
  simp only[this]
theorem Ik (h:aH .i64 w sv l):
  ai x3 tR [sv,.func (.func rl) #[] #[]] w λv w'=>Ext w w'/\ ∃n:Int,v=Δ n/\((0<=n)=¬∀x∈l,hG x):=by
 have ag:=h.le;refine az func131 ?_;rw[aU af.u h];refine⟨λ_ t V=>Ext w V/\ ∃i:Nat,t=Δ i/\i<=l.length/\ ∀x∈l.take i,hG x,λ_ t _=>l.length-(bS t).toNat,⟨Ext.refl _,0,rfl,X7 _,Ξ⟩,?_⟩;rintro _ _ V ⟨U,i,rfl,hi,W⟩;simp only[aQ,ak];refine⟨λah=>?_,λaj=>⟨U,-1,rfl,?_⟩⟩
 .obtain⟨x,X⟩:=aN (l:=l) (i:=i) Ω;rw[bf af.u ac.i Ψ (h.ext U) X];show ai x3 rl [Δ x] V _;refine Ij.mono ?_;rintro _ aa _ ⟨rfl,Y⟩;simp only[ak,aL];refine⟨λab=>⟨U.trans Y,i,rfl,?_⟩,λad=>?_⟩
  .exact propext ⟨λ_ ae=>ab (ae x (x5 X)),λ_=>Ω⟩
  .rw[wrap_i64 Ω Ω];refine⟨⟨U.trans Y,i+1,rfl,Ω,λy J=>?_⟩,?_⟩
   .rw[r9,X] at J;rcases l5.1 J with J|J
    .exact W y J
    .simp at J;subst J;exact X9.1 ad
   .simp only[bS];omega
 .have:i=l.length:=Ω
  rw[this,o9] at W;exact propext ⟨λh=>Ω,λh=>absurd W h⟩
theorem Ab (h:aH .i64 w sv l):
  ai x3 rk [sv,.func (.func rl) #[] #[]] w λv w'=>v= .bool (decide (¬∀x∈l,hG x))/\Ext w w':=by
 refine az func216 ?_;refine (Ik h).mono ?_;rintro _ V _ ⟨J,n,rfl,U⟩;simp only[cr];exact⟨by congr 1;simp only[U],J⟩
abbrev Told:=List (Λ×Int)
def jc (p:Λ×Int):y0×y0:=(dX (pad p.1),Δ p.2)
def eD (w:x2) (g m:Nat) (szs:Λ) (k o:Int) (D:Told):Prop:=
 (∃sv gs,ad w g fh [sv,Δ k,Δ o,.map (σ m)]/\ao .i64 ac w gs sv szs)/\c6 w m (D.map jc)/\bZ szs/\c5 o k/\ ∀p∈D,dg szs p.1/\c5 p.2 k/\p.2≠o
theorem eD.ext {g:Nat} {D:Told} (h:eD w g m szs k o D) (J:Ext w w'):eD w' g m szs k o D:=by
 obtain⟨⟨sv,gs,h1,U⟩,V,W⟩:=h;exact⟨⟨sv,gs,h1.ext J,U.ext J⟩,V.ext J,W⟩
theorem uP {t:Λ} (J:bZ szs) (h:dg szs t):t.length=szs.length/\ ∀x∈t,0<=x/\x<32:=by
 obtain⟨h1,V⟩:=mV.1 h;refine⟨h1.symm,λx W=>?_⟩;obtain⟨i,hi,rfl⟩:=List.getElem_of_mem W;obtain⟨a,U⟩:=aN (l:=szs) (i:=i) Ω;have X:=V i a _ U (x6 hi);have Y:=(J.2 a (x5 U)).2;omega
theorem pN {t:Λ} (J:bZ szs) (h:dg szs t):kk (pad t):=by
 obtain⟨h1,U⟩:=uP J h;exact Ig (by rw[h1];exact J.1) U
theorem eD.ox {g:Nat} {D:Told} (h:eD w g m szs k o D):∀p∈D.map jc,∃l,keyOf x3 cz p.1=σ l:=λp J=>by
 obtain⟨q,U,rfl⟩:=Z6.1 J;exact uO (pN h.2.2.1 (h.2.2.2.2 q U).1)
theorem Ac {s t:Λ} (J:dg szs s) (U:dg szs t) (h:dX (pad s)=dX (pad t)):s=t:=
 Ih ((rJ J).symm.trans (rJ U)) (Ie h)
theorem eD.nodup {g:Nat} {D:Told} (h:eD w g m szs k o D):(D.map (·.1)).Nodup:=by
 have J:=h.2.1.nodup;rw[List.map_map] at J;refine List.Pairwise.of_map (S:=λa b=>a≠b) (λt=>dX (pad t)) (λa b h he=>h (by rw[he])) ?_;rw[List.map_map];exact J
def Il (w:x2) (l:Λ) (k o:Int) (v:y0) (w':x2):Prop:=
 Ext w w'/\(¬bZ l->v= .tuple #[.pointer ν,Δ 1])/\(bZ l->¬c5 o k->v= .tuple #[.pointer ν,Δ 3])/\
  (bZ l->c5 o k-> ∃g m,v= .tuple #[Γ g,Δ 0]/\w.heap.size<=g/\w.heap.size<=m/\eD w' g m l k o [])
theorem Ad (h:aH .i64 w sv l):ai x3 nQ [sv,Δ k,Δ o] w (Il w l k o):=by
 refine az func169 ?_;refine aR (λv V=>Ext w V/\ ∃c,v= .bool c/\(c=true↔¬bZ l)) ?_ ?_
 .rintro _ V ⟨W,c,rfl,X⟩;rw[bt];refine⟨λad=>⟨W,λ_=>rfl,λh=>absurd h (X.1 ad),λh=>absurd h (X.1 ad)⟩,λah=>?_⟩;have J:bZ l:=Classical.byContradiction λh=>by have:=X.2 h;rw[ah] at this;cases this
  have ao:=J.1;refine k3.mono ?_;rintro _ aa _ ⟨rfl,U⟩;by_cases hi:c5 o k
  rotate_left
  .simp only[hi,decide_false,bg,W6,bX];exact⟨W.trans U,λh=>absurd J h,λ_ _=>rfl,λ_ h=>absurd h hi⟩
  simp only[hi,decide_true,bg,Y6,aT];refine (h7 ((h.ext W).ext U) Ω).mono ?_;rintro aF ap _ ⟨ae,aj,aq,hm⟩;have au:=hm.ls.cells;refine r0 λm av aw Y al=>?_;rw[c8 (cs:=#[aF,Δ k,Δ o,.map (σ m)]) (by obtain⟨_,_,_,_,_,rfl,_⟩:=hm.ls;kernel_rfl)];refine bP λg ax ay ab am=>?_;have s1:=W.size;have aA:=U.size;have aB:=ae.size;have aC:=Y.size;exact⟨((((W.trans U).trans ae).trans Y).trans ab),λh=>absurd J h,λ_ h=>absurd hi h,λ_ _=>⟨g,m,rfl,Ω,Ω,⟨aF,aj,am,(hm.ext Y).ext ab⟩,al.ext ab,J,hi,λp an=>by cases an⟩⟩
 .intro aD ag;rw[aU af.u h];simp only[bY,ak];refine⟨λaE=>ag _ _ ⟨Ext.refl _,true,rfl,λ_ J=>by have:=J.1;omega,λ_=>rfl⟩,λaG=>?_⟩;refine (Ab h).mono ?_;rintro _ aa _ ⟨rfl,U⟩;refine ag _ _ ⟨U,_,rfl,?_⟩;rw[decide_eq_true_eq];exact⟨λac J=>ac J.2,λac J=>ac ⟨Ω,J⟩⟩
def ie (t:Λ) (i:Nat):Λ:=t.take i++o8 (6-i) 0
theorem Im {t:Λ} {i:Nat} (hi:i<=t.length) (J:t.length<=6):(ie t i).length=6:=by simp[ie];omega
theorem In {t:Λ} {i:Nat} {x:Int} (J:t[i]? =σ x) (V:t.length<=6):(ie t i).set i x=ie t (i+1):=by
 have hi:=(x4.1 J).1;unfold ie;have U:(t.take i).length=i:=by rw[o5];omega
 rw[T6 _ _ Ω,U,V9,r9,J];have:6-i=(6-(i+1))+1:=Ω
 rw[this,List.replicate_succ];simp
theorem Io (t:Λ):ie t t.length=pad t:=by simp[ie,pad]
def Ae (w:x2) (szs t:Λ) (v:y0) (w':x2):Prop:=Ext w w'/\ ∃ks e,v= .tuple #[dX ks,Δ e]/\ks.length=6/\(dg szs t->ks=pad t/\e=0)/\(¬dg szs t->e=3)
theorem Ip {g:Nat} {t:Λ} {D:Told} {aF:y0} (h:eD w g m szs k o D) (aq:aH .i64 w aF t):ai x3 FS [Γ g,aF] w (Ae w szs t):=by
 obtain⟨⟨sv,gs,au,hm⟩,_,J,_⟩:=h;have bg:=J.1;refine az func228 ?_;refine bp cz.i λal V bh aJ an=>?_;refine bp cz.i λam aa bi av ax=>?_;have ag:=aJ.trans av;have s1:=aJ.size;have bk:=av.size;have bl:=an.lt;have bm:=ax.lt;have bn:=au.lt;have an:=an.ext av;have aX:=au.ext ag;rw[cR eI.u];simp only[Z7,aT];have aA:∀ {W:x2} {ks:Λ} {e:Int},Ext w W->ad W am cz (ints .i8 ks)->ad W al cz r2->ks.length=6->(dg szs t->ks=pad t/\e=0)->(¬dg szs t->e=3)->
   U x3 (x7 cz (Γ am)) W λaY=>ay x3 (o7 cz (Γ al) aY) W λ(_:Unit) aB=>U x3 (do loadVar cz (<-asAddr (Γ al))) aB λaZ=>Ae w szs t (.tuple #[aZ,Δ e]) aB:=by
  intro W ks e X Y ah ap ao aC;rw[m4 ap Y.range];refine pM ap rfl ah λaB a1 bo a2=>?_;rw[Ii ap a2.range];exact⟨X.put a1 Ω,ks,e,rfl,ap,ao,aC⟩
 rw[aU af.u (aq.ext ag),aK fh.p 0 aX rfl,aU af.u (hm.ls.ext ag)];simp only[bH,ak];have aM:ints .i8 (ie t 0)=r2:=by simp[ie,r2,ints]
 refine⟨λa6=>aA ag (ks:=ie t 0) (e:=3) (by rw[aM];exact ax) an (by simp[ie]) (λao=>absurd (by rw[rJ ao]) a6) (λ_=>rfl),λaO=>?_⟩;have aO:t.length=szs.length:=Ω
 rw[aU af.u (aq.ext ag)];refine bA.range t.length (λi _ W=>Ext w W/\ad W am cz (ints .i8 (ie t i))/\ad W al cz r2/\ ∀ (j:Nat) (a x:Int),j<i->szs[j]? =σ a->t[j]? =σ x->0<=x/\x<a) Ω
  ⟨ag,by rw[aM];exact ax,an,λj a x a7=>Ω⟩ ?_ ?_
 .rintro i _ W a8 hi ⟨X,Y,ah,aD⟩ ba;simp only[aQ,ak];refine⟨λ_=>?_,λh=>Ω⟩;obtain⟨x,ae⟩:=aN (l:=t) hi;obtain⟨a,aj⟩:=aN (l:=szs) (i:=i) Ω;have bq:=J.2 a (x5 aj);rw[bf af.u ac.i Ψ (aq.ext X) ae];have aP:=Im (t:=t) (i:=i) Ω Ω;refine aR (λv bb=>W=bb/\v= .bool (decide (¬(0<=x/\x<a)))) ?_ ?_
  .rintro _ _ ⟨rfl,rfl⟩;simp only[ak];refine⟨λbc=>aA X Y ah aP (λao=>absurd ((mV.1 ao).2 i a x aj ae) bc) (λ_=>rfl),λaE=>?_⟩;have aE:=X9.1 aE;rw[fi ac.u fy.u,Gy Ω Ω,ub cz.u fy.i Ω];refine bj fy.i rfl rfl Y (by simp[aP];omega) λbr aS bt aV=>?_;simp only[aL];refine ba _ _ ⟨X.put aS Ω,?_,ah.ab aS (by show ¬(al=am);omega),λj a' bd a7 aG aI=>?_⟩
   .have e:(ints .i8 (ie t i)).set (0+i*1) (.int .i8 x)=ints .i8 (ie t (i+1)):=by
     rw[<-In ae Ω];simp[ints,T8]
    rw[e] at aV;exact aV
   .by_cases be:j=i
    .subst be;rw[aj] at aG;rw[ae] at aI;cases aG;cases aI;exact aE
    .exact aD j a' bd Ω aG aI
  .intro bu aW;simp only[aQ,ak];refine⟨λbw=>aW _ _ ⟨rfl,by rw[decide_eq_true];omega⟩,λbx=>?_⟩;rw[aK fh.p 0 (au.ext X) rfl,bf af.u ac.i Ψ (hm.ls.ext X) aj,cr];refine aW _ _ ⟨rfl,?_⟩;congr 1;exact decide_eq_decide.2 ⟨λh aw=>Ω,λh=>Ω⟩
 .rintro _ W a8 ⟨X,Y,ah,aD⟩;simp only[aQ,ak];refine⟨λh=>Ω,λ_=>?_⟩;rw[Io] at Y;exact aA X Y ah (by simp[pad];omega) (λ_=>⟨rfl,rfl⟩) (λaC=>absurd (mV.2 ⟨aO.symm,λj a x aj ae=>aD j a x (x4.1 ae).1 aj ae⟩) aC)
def hN (D:Told) (o:Int) (t:Λ):Int:=match D.find? (λp=>decide (p.1=t)) with
 |some p=>p.2
 |none=>o
theorem Af {D:Told} (U:(D.map (·.1)).Nodup) {p q:Λ×Int} (V:p∈D) (W:q∈D) (h:p.1=q.1):p=q:=by
 obtain⟨i,hi⟩:=X4.1 V;obtain⟨j,J⟩:=X4.1 W;have h1:(D.map (·.1))[i]? =σ p.1:=by rw[u4,hi];rfl
 have X:(D.map (·.1))[j]? =σ p.1:=by rw[u4,J,h];rfl
 have:=jF U h1 X;subst this;rw[hi] at J;exact Z9 J
theorem pO {D:Told} {t:Λ} (U:(D.map (·.1)).Nodup) (h:(t,c)∈D):hN D o t=c:=by
 unfold hN;cases J:D.find? (λp=>decide (p.1=t)) with
 |none=>
  have:=List.find?_eq_none.1 J _ h;simp at this
 |some p=>
  have h1:=List.find?_some J;have h1:p.1=t:=by simpa using h1
  have:=Af U (List.mem_of_find?_eq_some J) h h1;rw[this]
theorem pP {D:Told} {t:Λ} (h:∀p∈D,p.1≠t):hN D o t=o:=by
 unfold hN;cases J:D.find? (λp=>decide (p.1=t)) with
 |none=>rfl
 |some p=>
  have h1:=List.find?_some J;have h1:p.1=t:=by simpa using h1
  exact absurd h1 (h p (List.mem_of_find?_eq_some J))
def kl (D:Told) (t:Λ) (c o:Int) (J:Told):Prop:=(∀p,p∈J↔(c≠o/\p=(t,c))\/(p∈D/\p.1≠t))/\J.length<=D.length+1
theorem kl.cost {D W:Told} {t:Λ} (h:kl D t c o W) (ab:(D.map (·.1)).Nodup) (X:(W.map (·.1)).Nodup) (s:Λ):hN W o s=if s=t then c else hN D o s:=by
 by_cases J:s=t
 .subst J;rw[if_pos rfl];by_cases Y:c=o
  .subst Y;exact pP λp U he=>by
    rcases (h.1 p).1 U with V|V
    .exact V.1 rfl
    .exact V.2 he
  .exact pO X ((h.1 _).2 (.inl ⟨Y,rfl⟩))
 .rw[if_neg J];by_cases he:∃p∈D,p.1=s
  .obtain⟨p,U,rfl⟩:=he;rw[pO (c:=p.2) ab U];exact pO X ((h.1 _).2 (.inr ⟨U,J⟩))
  .have aa:∀p∈D,p.1≠s:=λp U h=>he ⟨p,U,h⟩;rw[pP aa];exact pP λp U V=>by
    rcases (h.1 p).1 U with⟨_,rfl⟩|⟨ac,_⟩
    .exact J V.symm
    .exact aa p ac V
theorem Iq {D:Told} {t:Λ} {v0:Int} (X:(D.map (·.1)).Nodup) (V:D[j]? =σ (t,v0)) (Y:c≠o):kl D t c o (D.set j (t,c)):=by
 have W:=(x4.1 V).1;refine⟨λp=>⟨λJ=>?_,λJ=>?_⟩,Ξ⟩
 .obtain⟨i,hi⟩:=X4.1 J;by_cases U:j=i
  .subst U;rw[U5 W] at hi;exact .inl ⟨Y,(Z9 hi).symm⟩
  .rw[V3 U] at hi;refine .inr ⟨x5 hi,λhe=>U ?_⟩;exact jF X (x:=t) (by rw[u4,V];rfl) (by rw[u4,hi,Y4,he])
 .rcases J with⟨_,rfl⟩|⟨J,aa⟩
  .exact x5 (U5 W)
  .obtain⟨i,hi⟩:=X4.1 J;have U:j≠i:=λhe=>by subst he;rw[V] at hi;cases hi;exact aa rfl
   exact x5 (by rw[V3 U];exact hi)
theorem Ag {D:Told} {t:Λ} (J:∀p∈D,p.1≠t) (U:c≠o):kl D t c o (D++[(t,c)]):=by
 refine⟨λp=>?_,Ξ⟩;rw[l5,l9];exact⟨λh=>h.elim (λh=>.inr ⟨h,J p h⟩) (λh=>.inl ⟨U,h⟩),λh=>h.elim (λh=>.inr h.2) (λh=>.inl h.1)⟩
theorem Ir {D:Told} {t:Λ} {v0:Int} (V:(D.map (·.1)).Nodup) (U:D[j]? =σ (t,v0)):kl D t o o (D.eraseIdx j):=by
 refine⟨λp=>⟨λJ=>?_,λJ=>?_⟩,by have:=List.length_eraseIdx_le D j;omega⟩
 .refine .inr ?_;obtain⟨i,W,hi⟩:=List.mem_eraseIdx_iff_getElem?.1 J;refine⟨x5 hi,λhe=>W ?_⟩;exact jF V (x:=t) (by rw[u4,hi,Y4,he]) (by rw[u4,U];rfl)
 .rcases J with⟨h,_⟩|⟨J,X⟩
  .exact absurd rfl h
  .obtain⟨i,hi⟩:=X4.1 J;exact List.mem_eraseIdx_iff_getElem?.2 ⟨i,λhe=>by subst he;rw[U] at hi;cases hi;exact X rfl,hi⟩
theorem Is {D:Told} {t:Λ} (J:∀p∈D,p.1≠t):kl D t o o D:=
 ⟨λp=>⟨λh=>.inr ⟨h,J p h⟩,λh=>h.elim (λh=>absurd rfl h.1) (λh=>h.1)⟩,Ω⟩
theorem Ah {g:Nat} {t:Λ} {D:Told} (h:eD w g m szs k o D) (V:dg szs t) (J:(D.map jc)[j]? =σ (dX (pad t),v)):∃c,D[j]? =σ (t,c)/\v=Δ c:=by
 rw[u4] at J;obtain⟨p,U,he⟩:=X5.1 J;have h1:=Ac (h.2.2.2.2 p (x5 U)).1 V (congrArg Prod.fst he);exact⟨p.2,by rw[U,<-h1],(congrArg Prod.snd he).symm⟩
theorem Ai {g:Nat} {t:Λ} {D:Told} (h:eD w g m szs k o D) (J:∀p∈D.map jc,p.1≠dX (pad t)):∀p∈D,p.1≠t:=λp U he=>J (jc p) (Z6.2 ⟨p,U,rfl⟩) (by rw[jc,he])
def It (w:x2) (g m:Nat) (szs t:Λ) (k o c:Int) (D:Told) (v:y0) (w':x2):Prop:=
 (¬(dg szs t/\c5 c k)->v=Δ 3/\Ext w w')/\(dg szs t/\c5 c k->v=Δ 0/\ae (λr=>r=m) w w'/\ ∃J,kl D t c o J/\eD w' g m szs k o J)
theorem Aj {g:Nat} {t:Λ} {D:Told} {aF:y0} (h:eD w g m szs k o D) (aO:aH .i64 w aF t):ai x3 Ft [Γ g,aF,Δ c] w (It w g m szs t k o c D):=by
 refine az func170 ?_;refine (Ip h aO).mono ?_;rintro _ V _ ⟨aG,ks,e,rfl,av,aP,aQ⟩;rw[bL,bM];refine bp cz.i λam aa bc aI aJ=>?_;refine pM av rfl aJ λax aS bd aL=>?_;have s1:=aG.size;have bf:=aI.size;have bh:=aJ.lt;have ao:Ext w ax:=(aG.trans aI).put aS Ω;refine aR (λv ay=>v=Δ 0/\(dg szs t/\c5 c k)/\ae (λr=>r=m) w ay/\ ∃X,kl D t c o X/\eD ay g m szs k o X) ?_ ?_
 .rintro _ ay ⟨_,h1,al⟩;exact⟨λh=>absurd h1 h,λ_=>⟨rfl,al⟩⟩
 intro aU aV;simp only[bH,ak];by_cases ag:dg szs t
 rotate_left
 .have he:=aQ ag;subst he;exact⟨λ_=>⟨λ_=>⟨rfl,ao⟩,λh=>absurd h.1 ag⟩,λh=>by simp at h⟩
 obtain⟨rfl,rfl⟩:=aP ag;refine⟨λh=>absurd rfl h,λ_=>?_⟩;have ac:=h.ext ao;obtain⟨⟨sv,gs,ad,hm⟩,ap,J,aW,aX⟩:=id ac;rw[aK fh.p 1 ad rfl];refine k3.mono ?_;rintro _ aY _ ⟨rfl,af⟩;have aZ:=ao.trans af;by_cases hi:c5 c k
 rotate_left
 .simp only[hi,decide_false,bg,W6,bX];exact⟨λ_=>⟨rfl,aZ⟩,λh=>absurd h.2 hi⟩
 simp only[hi,decide_true,bg,Y6,aT];rw[aK fh.p 2 (ad.ext af) rfl];simp only[bn,ak,cK];have aM:=uO (pN J ag);have a1:∀ {X:Told},kl D t c o X-> ∀p∈X,dg szs p.1/\c5 p.2 k/\p.2≠o:=λhu p a2=>by
  rcases (hu.1 p).1 a2 with⟨aj,rfl⟩|⟨h1,_⟩
  .exact⟨ag,hi,aj⟩
  .exact aX p h1
 have aq:∀ {an ah:x2} {X:Told},Ext aY an->ae (λr=>r=m) an ah->c6 ah m (X.map jc)->kl D t c o X->aU (Δ 0) ah:=by
  intro an ah X U W a6 hu;have a7:g≠m:=λhe=>by
   obtain⟨a8,ba,aw,_⟩:=ap;have ad:ax.heap[g]? =_:=ad;rw[he,aw] at ad;cases ad
  have bb:∀r,leads sv r->r≠m:=λr aN he=>by
   subst he;obtain⟨a8,ba,aw,_⟩:=ap;obtain⟨_,⟨rfl,_⟩|⟨cap,cs,rfl,au,_⟩⟩:=hm
   .obtain⟨a,n,c,h1,_⟩:=aN;cases h1
   .obtain⟨a,n,c,h1,al⟩:=aN;cases h1;have au:ax.heap[gs]? =_:=au;have al:gs=r:=al;rw[al,aw] at au;cases au
  have aA:=af.trans U;exact aV _ _ ⟨rfl,⟨ag,hi⟩,((ao.trans aA).ab _).trans W,X,hu,⟨sv,gs,(ad.ext aA).ab W a7,be (hm.ext aA) W bb⟩,a6,J,aW,a1 hu⟩
 refine⟨λaj an U _ _=>?_,λaj an U _ _=>?_⟩
 .rw[aK fh.p 3 ((ad.ext af).ext U) rfl,m4 av ((aL.ext af).ext U).range];subst aj;refine Ia h2.u keys ((ap.ext af).ext U) ac.ox aM (λj v0 ah aB Y W=>?_) (λah aC Y W=>?_)
  .obtain⟨c0,aD,_⟩:=Ah ac ag aB;rw[lZ] at Y;exact aq U W Y (Ir ac.nodup aD)
  .exact aq U W Y (Is (Ai ac aC))
 .rw[aK fh.p 3 ((ad.ext af).ext U) rfl,m4 av ((aL.ext af).ext U).range];refine pL h2.u keys ((ap.ext af).ext U) ac.ox aM (λj v0 ah aB Y W=>?_) (λah aC Y W=>?_)
  .obtain⟨c0,aD,_⟩:=Ah ac ag aB;have aE:(D.map jc).set j (dX (pad t),Δ c)=(D.set j (t,c)).map jc:=by rw[T8];rfl
   rw[aE] at Y;exact aq U W Y (Iq ac.nodup aD aj)
  .have aE:D.map jc++[(dX (pad t),Δ c)]=(D++[(t,c)]).map jc:=by rw[j9];rfl
   rw[aE] at Y;exact aq U W Y (Ag (Ai ac aC) aj)
theorem Iu {g:Nat} {t:Λ} {D:Told} {b:Bool} (h:eD w g m szs k o D) (V:dg szs t)
  (h1:∀c,(t,c)∈D->K (if b then .tuple #[Δ c,.bool true] else Δ c)) (Y:(∀p∈D,p.1≠t)->K (if b then .tuple #[Δ 0,.bool false] else Δ 0)):
  U x3 (Instr.lookup h2 (.map (σ m)) (dX (pad t)) b) w K:=by
 have W:=uO (pN h.2.2.1 V);by_cases he:∃p∈D,p.1=t
 .obtain⟨p,J,rfl⟩:=he;obtain⟨j,aa⟩:=X4.1 J;rw[pK h2.u keys h.2.1 h.ox W (j:=j) (v:=Δ p.2) (by rw[u4,aa];rfl)];exact h1 p.2 J
 .have X:∀p∈D,p.1≠t:=λp J h=>he ⟨p,J,h⟩;rw[r1 h2.u keys ⟨_,_,an.i⟩ h.2.1 h.ox W (λq ab hk=>by
   obtain⟨p,J,rfl⟩:=Z6.1 ab;exact X p J (Ac (h.2.2.2.2 p J).1 V hk))]
  exact Y X
theorem Iv {g:Nat} {D:Told} (h:eD w g m szs k o D):ai x3 FV [Γ g] w λv w'=>v=Δ D.length/\Ext w w':=by
 obtain⟨⟨sv,gs,J,hm⟩,U,_⟩:=h;refine az func233 ?_;rw[cR eI.u];simp only[Z7,aT];rw[aK fh.p 3 J rfl,Ib h2.u U];exact⟨Ξ,Ext.refl _⟩
theorem Iw {g:Nat} {D:Told} (h:eD w g m szs k o D):ai x3 Gm [Γ g] w λv w'=>v=Δ k/\Ext w w':=by
 obtain⟨⟨sv,gs,J,hm⟩,_⟩:=h;refine az func288 ?_;rw[cR eI.u];simp only[Z7,aT];rw[aK fh.p 1 J rfl];exact⟨rfl,Ext.refl _⟩
theorem uQ {g:Nat} {D:Told} (h:eD w g m szs k o D):ai x3 FW [Γ g] w λv w'=>Ext w w'/\ ∃U,w.heap.size<=U/\ao .i64 ac w' U v szs:=by
 obtain⟨⟨sv,gs,V,hm⟩,_,J,_⟩:=h;have W:=J.1;refine az func234 ?_;rw[cR eI.u];simp only[Z7,aT];rw[aK fh.p 0 V rfl];exact h7 hm.ls Ω
theorem Ix {g:Nat} {D:Told} (h:eD w g m szs k o D):ai x3 Gn [Γ g] w λv w'=>v=Δ szs.length/\Ext w w':=by
 refine az func289 ?_;refine (uQ h).mono ?_;rintro v V _ ⟨J,U,_,hm⟩;rw[aU af.u hm.ls];exact⟨rfl,J⟩
end Go.Proofs.YthjegppepbbojaaGreatDoor
namespace Go.Vc
open Go Go.RowKit
set_option maxRecDepth 100000
def leadsTo (v:y0) (r:Nat):Prop:=∃a n c,v= .slice (σ a) n c/\a.block=r
theorem eT (h:leadsTo (.slice ν 0 0) r):False:=by
 obtain⟨a,n,c,h,_⟩:=h;cases h
section
variable {α:Type} {f:α->List y0} {k:Nat}
theorem fR:∀ {L:List α},(∀a∈L,(f a).length=k)->(L.flatMap f).length=L.length*k
 |[],_=>Ξ
 |a::L,h=>by
  rw[X3,r8,h a (.head _),fR λb J=>h b (.tail _ J),Z5,U7];omega
theorem pQ:∀ {L:List α} (i:Nat),(∀a∈L,(f a).length=k)->(L.flatMap f).take (i*k)=(L.take i).flatMap f
 |[],i,_=>Ξ
 |a::L,0,_=>Ξ
 |a::L,i+1,h=>by
  have J:=h a (.head _);rw[X3,List.take_succ_cons,X3,<-pQ i λb U=>h b (.tail _ U),U7,Nat.one_mul,Nat.add_comm,List.take_append,J];congr 1
  .exact n0 Ω
  .congr 1;omega
theorem r3:∀ {L:List α} (i:Nat),(∀a∈L,(f a).length=k)->(L.flatMap f).drop (i*k)=(L.drop i).flatMap f
 |[],i,_=>Ξ
 |a::L,0,_=>Ξ
 |a::L,i+1,h=>by
  have J:=h a (.head _);rw[X3,List.drop_succ_cons,<-r3 i λb U=>h b (.tail _ U),U7,Nat.one_mul,Nat.add_comm,List.drop_append,J];rw[List.drop_of_length_le Ω,List.nil_append];congr 1;omega
theorem m8 {L:List α} {i:Nat} {a:α} (h:∀a∈L,(f a).length=k) (hi:L[i]? =σ a) (J:(f a)[j]? =σ v):(L.flatMap f)[i*k+j]? =σ v:=by
 have V:=(x4.1 J).1;rw[<-List.getElem?_drop,r3 i h];have U:=x4.1 hi;rw[V4 U.1,U.2,X3,Y3 V];exact J
theorem uR {L:List α} {i:Nat} {a:α} (h:∀a∈L,(f a).length=k) (J:(f a).length=k) (hi:i<L.length):over (L.flatMap f) (i*k) (f a)=(L.set i a).flatMap f:=by
 have V:=fR h;have U:(i+1)*k<=L.length*k:=X1 _ hi;rw[U7,Nat.one_mul] at U;rw[lP Ω,J,pQ i h,show i*k+k=(i+1)*k by rw[U7,Nat.one_mul],r3 (i+1) h,List.set_eq_take_append_cons_drop,if_pos hi,List.flatMap_append,X3,Z4]
theorem r4 {vs:List y0} {o:Nat} (h1:o+vs.length<=m) (J:m<=cs.length):(over cs o vs).take m=over (cs.take m) o vs:=by
 rw[lP Ω,lP (by rw[o5];omega),Z4,Z4,List.take_append,List.take_append,List.take_take,List.take_take,List.drop_take,o5];rw[show min m o=o by omega,show min o m=o by omega,show min o cs.length=o by omega,n0 (l:=vs) Ω];congr 3;omega
def bb (f:α->List y0) (k:Nat) (e:o4) (w:x2) (g:Nat) (v:y0) (L:List α):Prop:=b1 w g e k v L.length (L.flatMap f)/\ ∀a∈L,(f a).length=k
variable {P:V2} {w:x2} {e:o4} {g:Nat} {v:y0} {L:List α}
theorem bb.nil (f:α->List y0) (k:Nat) (e:o4) (w:x2) (g:Nat):bb f k e w g (.slice ν 0 0) []:=⟨b1.nil w g e k,λa h=>by cases h⟩
theorem bb.leads (h:bb f k e w g v L) (J:leadsTo v r):r=g/\g<w.heap.size:=by
 obtain⟨_,⟨rfl,_⟩|⟨cap,cs,rfl,U,_⟩⟩:=h.1
 .exact (eT J).elim
 .obtain⟨a,n,c,h1,V⟩:=J;cases h1;exact⟨V.symm,U.lt⟩
theorem bb.ab (h:bb f k e w g v L) (J:ae S w w') (U:∀r,leadsTo v r->¬S r):bb f k e w' g v L:=
 ⟨⟨h.1.1,h.1.2.imp id λ⟨cap,cs,h1,V,W⟩=>⟨cap,cs,h1,V.ab J (U g ⟨_,_,_,h1,rfl⟩),W⟩⟩,h.2⟩
theorem bb.ext (h:bb f k e w g v L) (J:Ext w w'):bb f k e w' g v L:=h.ab (J.ab λ_=>False) λ_ _ h=>h
theorem bb.sl (h:bb f k e w g v L):b6 w k v L.length (L.flatMap f):=h.1.sl
theorem bb.le (h:bb f k e w g v L):L.length<=9223372036854775807:=by
 have:=b6.le h.sl;simpa[maxLen] using this
theorem dt {J:o4} (V:P.underlying t=σ (.slice e)) (h:bb f k e w g v L):U P (X0 #[t] J #[v]) w K=K (Δ L.length):=by
 obtain⟨_,_,_,_,_,rfl,_⟩:=h.sl;exact gP V
theorem cE {q:o6} {b:Nat} {i:Nat} (J:y=(i:Int)) (V:P.underlying t=σ (.slice e)) (hi:aO P e k b z) (h:bb f k e w g v L) (W:i<L.length):
  U P (l7 t v (.int q y)) w K=K (.pointer (σ ⟨g,i*k,ν⟩)):=by
 subst J;obtain⟨_,⟨rfl,X⟩|⟨cap,cs,rfl,Y,aa⟩⟩:=h.1
 .omega
 .rw[fz V hi W (λ_=>rfl),V8]
theorem bb.range {i:Nat} {a:α} (h:bb f k e w g v L) (hi:L[i]? =σ a):w.rangeAt g (i*k) (f a):=λj u hu=>by
 have h1:=m8 h.2 hi hu;have W:=(x4.1 hi).1;obtain⟨_,⟨rfl,X⟩|⟨cap,cs,rfl,U,_,_,Y,V⟩⟩:=h.1
 .omega
 .have J:=(x4.1 h1).1;rw[fR h.2] at J;rw[<-V,Y7 J] at h1;exact U.cell h1
theorem Ak {b:Nat} {i:Nat} {a:α} {K:Unit->x2->Prop} (hi:aO P t k b z) (h:bb f k e w g v L) (U:(f a).length=k) (h1:∀u∈f a,u.oneCell'=true) (X:i<L.length)
  (ab:∀w',ae (λr=>leadsTo v r) w w'->w'.heap.size=w.heap.size->bb f k e w' g v (L.set i a)->K () w'):ay P (o7 t (.pointer (σ ⟨g,i*k,ν⟩)) (.agg (f a).toArray)) w K:=by
 have ak:=fR h.2;have ac:(i+1)*k<=L.length*k:=X1 _ X;rw[U7,Nat.one_mul] at ac;obtain⟨⟨al,⟨rfl,am⟩|⟨cap,cs,rfl,ad,Y,af,aa,ag⟩⟩,V⟩:=h
 .omega
 .have ah:L.length*k<=cs.length:=by rw[aa];exact X1 _ Y
  refine yx hi U h1 ad Ω λw' ai J aj=>ab w' (ai.mono λr _ he=>⟨_,_,_,rfl,he.symm⟩) J ⟨⟨?_,.inr ⟨cap,_,Ξ,aj,by simpa using Y,af,by rw[k0,aa],?_⟩⟩,λb W=>?_⟩
  .rw[fR (L:=L.set i a) λb W=>by
    rcases W8 W with h|rfl
    .exact V b h
    .exact U]
  .rw[W0,<-uR V U X,<-ag,r4 (by rw[U];omega) ah]
  .rcases W8 W with h|rfl
   .exact V b h
   .exact U
theorem oy {b:Nat} {u:y0} {i:Nat} {a a':α} {K:Unit->x2->Prop} (hi:aO P t 1 b z) (hu:u.cells= #[u]) (h1:u.oneCell'=true) (h:bb f k e w g v L) (V:L[i]? =σ a) (X:f a'=(f a).set j u) (aq:j<k)
  (ah:∀w',ae (λr=>leadsTo v r) w w'->w'.heap.size=w.heap.size->bb f k e w' g v (L.set i a')->K () w'):ay P (o7 t (.pointer (σ ⟨g,i*k+j,ν⟩)) u) w K:=by
 have Y:=(x4.1 V).1;have au:=fR h.2;have ai:(i+1)*k<=L.length*k:=X1 _ Y;rw[U7,Nat.one_mul] at ai;have aj:(f a).length=k:=h.2 a (x5 V);have U:(f a').length=k:=by rw[X,W0];exact aj
 have ak:(L.flatMap f).set (i*k+j) u=(L.set i a').flatMap f:=by
  rw[<-uR h.2 U Y];refine W5 λp=>?_;rw[mE _ _ _ Ω,W3,U];by_cases aa:i*k<=p/\p<i*k+k
  .rw[if_pos aa,X,W3];by_cases ab:i*k+j=p
   .rw[if_pos ab,if_pos Ω,if_pos Ω,if_pos Ω]
   .rw[if_neg ab,if_neg Ω];obtain⟨y,ac⟩:∃y,(f a)[p-i*k]? =σ y:=⟨_,x6 Ω⟩;have:=m8 h.2 V ac;rw[show i*k+(p-i*k)=p by omega] at this;rw[this,ac]
  .rw[if_neg aa,if_neg Ω]
 obtain⟨⟨av,⟨rfl,aw⟩|⟨cap,cs,rfl,al,ad,am,af,an⟩⟩,ag⟩:=h
 .omega
 .have ax:L.length*k<=cs.length:=by rw[af];exact X1 _ ad
  refine bj hi hu h1 al Ω λw' ao J ap=>ah w' (ao.mono λr _ he=>⟨_,_,_,rfl,he.symm⟩) J ⟨⟨?_,.inr ⟨cap,_,Ξ,ap,by simpa using ad,am,by rw[W0,af],?_⟩⟩,λb W=>?_⟩
  .rw[fR (L:=L.set i a') λb W=>by
    rcases W8 W with h|rfl
    .exact ag b h
    .exact U]
  .rw[W0,<-ak,<-an,List.take_set]
  .rcases W8 W with h|rfl
   .exact ag b h
   .exact U
theorem gB {aj:o4} {b:Nat} {x:y0} {a:α} {K:y0->x2->Prop} (Y:P.underlying t=σ (.slice e)) (hi:aO P e k b z) (ag:z.cells.size=k) (h:bb f k e w g v L) (ad:b6 w k x 1 (f a)) (h1:∀u∈f a,u.oneCell'=true)
  (aa:(L.length+1)*b<=140737488355328) (ah:L.length+1<=9223372036854775807)
  (ai:∀J U w',bb f k e w' U J (L++[a])->(∀r,leadsTo J r->leadsTo v r\/w.heap.size<=r)->ae (λr=>leadsTo v r) w w'->K J w'):ay P (j4 #[t,t] aj #[v,x]) w K:=by
 have ak:(f a).length=k:=by have:=ad.1;omega
 have ab:∀J U w',b1 w' U e k J (L.length+1) (L.flatMap f++f a)->bb f k e w' U J (L++[a]):=λJ U w' hm=>⟨by simpa using hm,λb aa=>by
  rcases l5.1 aa with h'|h'
  .exact h.2 b h'
  .rw[l9.1 h'];exact ak⟩
 rcases h.1.2 with⟨V,al⟩|⟨cap,cs,V,am,_⟩
 .have hm:b1 w w.heap.size e k v L.length (L.flatMap f):=⟨h.1.1,.inl ⟨V,al⟩⟩;subst V;refine mG Y Y hi ag hm ad h1 (by simpa using aa) (by simpa[maxLen] using ah) λJ U w' ac W af=>ai J U w' (ab _ _ _ W) (λr X=>.inr ?_) (af.mono λr X h=>Ω);have:=((ab _ _ _ W).leads X).1;omega
 .refine mG Y Y hi ag h.1 ad h1 (by simpa using aa) (by simpa[maxLen] using ah) λJ U w' ac W af=>ai J U w' (ab _ _ _ W) (λr X=>?_) (af.mono λr X h=>⟨_,_,_,V,h.symm⟩);have:=((ab _ _ _ W).leads X).1;rcases ac with ac|ac
  .exact .inl ⟨_,_,_,V,by show g=r;omega⟩
  .exact .inr Ω
theorem Iy {U:o4} {b:Nat} {x:y0} {a:α} {K:y0->x2->Prop} (V:P.underlying t=σ (.slice e)) (hi:aO P e k b z) (W:z.cells.size=k) (h:bb f k e w g v L) (X:b6 w k x 1 (f a)) (h1:∀a,∀u∈f a,u.oneCell'=true)
  (Y:(L.length+1)*b<=140737488355328) (aa:L.length+1<=9223372036854775807)
  (ab:∀J ac w',bb f k e w' ac J (L++[a])->(∀r,leadsTo J r->leadsTo v r\/w.heap.size<=r)->ae (λr=>leadsTo v r) w w'->K J w'):ay P (j4 #[t,t] U #[v,x]) w K:=gB V hi W h X (h1 a) Y aa ab
theorem gg {b:Nat} {a:α} {x:y0} {K:y0->x2->Prop} (W:P.underlying t=σ (.slice e)) (hi:aO P e k b z) (ac:k<=100000) (U:x.cells=(f a).toArray) (V:(f a).length=k)
  (X:∀v g w',g=w.heap.size->Ext w w'->bb f k e w' g v [a]->K v w'):ay P (Y1 t 1 #[(0,x)]) w K:=
 iX W hi Ω (cs:=x.cells) (yG Ξ (by rw[U];simpa using V)) λg w' Y aa J=>by
  have J:ad w' g e (f a):=by rw[U] at J;simpa using J
  exact X _ g w' Y aa ⟨by simpa using b1.full (k:=k) (n:=1) J Ω (by simp[maxLen]),λc ab=>by rw[l9.1 ab];exact V⟩
end
end Go.Vc
namespace Go.Proofs.YthjegppepbbojaaGreatDoor
open Go Go.Vc Go.RowKit Go.Proofs Go.Proofs.Tryz
set_option maxRecDepth 100000
theorem uS {α:Type}:∀ {l:List α} {j:Nat} {x:α},l[j]? =σ x->(x::l.eraseIdx j).Perm l
 |[],j,x,h=>by simp at h
 |a::l,0,x,h=>by simp at h;subst h;exact List.Perm.refl _
 |a::l,j+1,x,h=>by
  simp at h;rw[List.eraseIdx_cons_succ];exact (List.Perm.swap a x _).trans ((uS h).cons a)
theorem Al {α:Type} {l:List α} (h:j<l.length):(l.eraseIdx j).length+1=l.length:=by
 rw[List.length_eraseIdx,if_pos h];omega
def oz (w:x2) (J:Nat):Nat:=match w.heap[J]? with
 |some (.mapIter (σ m) _ seen _)=>(match w.heap[m]? with
  |some (.map U _)=>(leftOf U seen).size
  |_=>0)
 |_=>0
theorem r5 {d left:List (y0×y0)} {U:Option (y0×y0)} (h:gT w J m d left U):oz w J=left.length:=by
 obtain⟨W,X,seen,c0,h1,_,_,V,_,rfl,_⟩:=h;unfold oz;rw[V];simp only;rw[h1];simp
theorem Iz {w0:x2} {d d0 left:List (y0×y0)} {U:Option (y0×y0)} (h:gT w J m d left U) (hm:c6 w0 m d0) (h1:Ext w0 w) (W:Ext w0 w') (hi:eP w w'):gT w' J m d left U:=by
 obtain⟨X,c,s,c0,Y,aa,ab,ac,ad⟩:=h;obtain⟨ae,af,f1,_⟩:=hm;have g1:=h1.bc m _ f1 rfl;have V:=W.bc m _ f1 rfl;rw[Y] at g1;rw[<-g1] at V;exact⟨X,c,s,c0,V,aa,ab,hi J _ ac rfl,ad⟩
abbrev m9 (w:x2) (g:Nat) (v:y0) (L:List (Λ)):Prop:=bb (ints .i8) 6 cz w g v L
theorem Am {k:o6}:∀u∈ints k l,u.oneCell'=true:=λu hu=>by
 obtain⟨x,_,rfl⟩:=Z6.1 hu;rfl
theorem keysIter {cN:Nat} {d:List (y0×y0)} {KS:List (Λ)} {w0:x2} (ax:ad w0 cN h2 [.map (σ m)]) (hm:c6 w0 m d) (az:d.map (·.1)=KS.map dX) (aA:∀ks∈KS,ks.length=6):
  nJ x3 true kU [Γ cN] ([]:List (Λ)) (λh=>h.Perm KS) (λh vs h' _=>∃ks∈KS,h.length<KS.length/\vs=[dX ks]/\h'=h++[ks]) (λw=>Ext w0 w):=by
 refine⟨kU.enters,λl aB bb w W _ aC X aD=>?_⟩;refine pq func284 ?_;rw[aS Ψ ((ax.ext X).Qz rfl)];refine ay.dc (zZ h2.u (hm.ext X) λah V aE Y bc aF aG=>?_);refine⟨λaa=>∃h J left ai,aB h aa/\Ext w0 aa/\w.heap.size<=aa.heap.size/\gT aa ah m d left ai/\left.map (·.1)=J.map dX/\(h++J).Perm KS,λaa=>oz aa ah,
  ⟨[],KS,d,ν,W _ _ _ Y aG.b aD,X.trans Y,Y.size,aF,az,List.Perm.refl _⟩,?_⟩
 rintro aa ⟨h,J,left,ai,aj,aH,bd,ak,ab,U⟩;have aI:left.length=J.length:=by have:=congrArg T9 ab;simpa using this
 refine z6 ak (λh=>by cases h) (λaJ=>?_) (λj p aK al am aL an=>?_)
 .rw[h3 (v:=.bool false) rfl,aT];subst aJ;have:J=[]:=Z8 (by rw[<-aI];rfl);subst this;rw[X6] at U;exact .inl ⟨h,U,aj⟩
 .rw[h3 (v:=.bool true) rfl,bX];refine z7 an ?_;obtain⟨ks,ac,aM⟩:∃ks,J[j]? =σ ks/\p.1=dX ks:=by
   have h1:(left.map (·.1))[j]? =σ p.1:=by rw[u4,al];rfl
   rw[ab,u4] at h1;obtain⟨ks,ao,aN⟩:=X5.1 h1;exact⟨ks,ao,aN.symm⟩
  have ap:ks∈KS:=U.mem_iff.1 (l5.2 (.inr (x5 ac)));have aq:=aA ks ap;rw[h3 (v:=p.1) rfl,aM];refine ay.dc (bp cz.i λbe bf bh aO aP aQ=>?_);refine ay.dc (pM aq rfl aP λae aR bi aU aV=>?_);rw[m4 aq aU.range];have af:Ext aK ae:=aO.put aR Ω;have au:=aQ.trans aV;have av:Ext w0 ae:=(aH.trans am).trans af;have aW:=W _ _ _ am (by rw[<-aE];exact aL) aj;have aX:=W _ _ _ af au.b aW;have aY:=an.ext af au.ly;have aZ:h.length<KS.length:=by
   have h1:=U.length_eq;have ao:=(x4.1 ac).1;rw[r8] at h1;omega
  refine⟨rfl,(aC h (h++[ks]) _ ae av ⟨ks,ap,aZ,rfl,rfl⟩ aX).mono ?_⟩;rintro _ a1 (⟨rfl,aw,a2,a6⟩|⟨rfl,a7⟩)
  .simp only[bg,Y6,aT];have ag:=Iz aY hm av aw (a6 rfl).ly;have a8:w.heap.size<=a1.heap.size:=by
    obtain⟨_,_,_,_,_,_,_,ba,_⟩:=ag;have:=(Z1.1 ba).1;omega
   refine⟨⟨h++[ks],J.eraseIdx j,left.eraseIdx j,σ p,a2,aw,a8,ag,?_,?_⟩,?_⟩
   .rw[<-lZ,ab,lZ]
   .refine List.Perm.trans ?_ U;rw[Z4];exact List.Perm.append_left h (uS ac)
   .rw[r5 ag,r5 ak];have:=Al (x4.1 al).1;omega
  .simp only[bg,W6,bX];exact .inr ⟨h,a7⟩
theorem IA:ai x3 F6 [.map (σ m)] w λr w'=>Ext w w'/\ ∃g,r= .func (.func kU) #[] #[Γ g]/\w.heap.size<=g/\ad w' g h2 [.map (σ m)]:=by
 refine az func250 ?_;refine bP λg V W J U=>?_;rw[kX];exact⟨J,g,rfl,Ω,U⟩
theorem IB {cN:Nat} {d:List (y0×y0)} {KS:List (Λ)} (aD:ad w cN h2 [.map (σ m)]) (hm:c6 w m d) (aE:d.map (·.1)=KS.map dX) (am:∀ks∈KS,ks.length=6) (a6:KS.length<=1000000):
  ai x3 Gq [.slice ν 0 0,.func (.func kU) #[] #[Γ cN]] w λv w'=>Ext w w'/\ ∃g L,(∀r,leadsTo v r->w.heap.size<=r)/\L.Perm KS/\m9 w' g v L:=by
 refine mw func295 ?_;refine bP λgs V a7 an Y=>?_;have Y:ad V gs iA [.slice ν 0 0]:=Y;have a8:=Y.lt;refine nK.old ⟨List (Λ),true,_,_,_,_,_,_,λh w'=>ae (λr=>w.heap.size<=r) w w'/\ ∃v g,ad w' gs iA [v]/\(∀r,leadsTo v r->w.heap.size<=r/\r≠gs)/\m9 w' g v h,λ_ _ _=>False,rfl,keysIter aD hm aE am,?_,λ_ _ U h=>h.trans U,
  λ_ _ _ U h=>⟨h.1.trans (U.ab _),by obtain⟨v,g,h1,aF,aG⟩:=h.2;exact⟨v,g,h1.ext U,aF,aG.ext U⟩⟩,λ_ _ _ _ _ h=>h,an,⟨an.ab _,_,0,Y,λr h=>(eT h).elim,bb.nil _ _ _ _ _⟩,?_,?_,λ_ _ h=>h.elim,λ_ _ _ h=>h.elim⟩
 .rintro h _ h' w' ⟨ks,_,_,rfl,_⟩;rfl
 .rintro a h h' aa aH ⟨ks,aI,ba,aJ,rfl⟩ ⟨ao,v,g,ag,W,ah⟩;cases aJ;have aj:=am ks aI;have bc:h.length<=1000000:=Ω
  refine ay.dc (bp cz.i λbd be bf aK ap aL=>?_);refine ay.dc (pM aj rfl ap λaM aN bg aO aP=>?_);intro bh aq _ aQ;have bi:=ap.lt;have aR:Ext aa aM:=aK.put aN Ω;have X:=aR.trans aq;rw[aS Ψ ((ag.ext X).Qz rfl),m4 aj (aO.ext aq).range];refine ay.dc (gg (f:=ints .i8) (a:=ks) iA.u cz.i Ω (by simp[dX,y0.cells]) (by simp[aj]) λa aZ bk bl ac aT aU=>?_);have au:=aT.sl;rw[X3,List.flatMap_nil,X6] at au;refine ay.dc (Iy iA.u cz.i rfl ((ah.ext X).ext ac) au (λa=>Am) Ω Ω λav aV aw ak aW af aX=>?_);have bm:=ao.size;have bn:=X.size;have bo:=ac.size;have bq:=ag.lt;have ax:∀r,leadsTo av r->w.heap.size<=r/\r≠gs:=λr J=>by
   rcases aW r J with h|h
   .exact W r h
   .omega
  have al:ad aw gs iA [v]:=((ag.ext X).ext ac).ab af (λh=>(W gs h).2 rfl);refine ay.dc (bj iA.i (by obtain⟨_,_,_,_,_,rfl,_⟩:=ak.sl;rfl) (by obtain⟨_,_,_,_,_,rfl,_⟩:=ak.sl;rfl) al Ξ λaz aA br aY a1=>?_);have aB:ae (λr=>w.heap.size<=r) aa az:=(((X.trans ac).ab _).trans (af.mono λr _ h=>(W r h).1)).trans (aA.mono λr _ h=>by show w.heap.size<=r;omega);refine⟨aH.then aB (λr J h=>by have h:w.heap.size<=r:=h;omega),⟨ao.trans aB,av,aV,aY,ax,ak.ab aA λr J h=>(ax r J).2 h⟩,λ_=>?_⟩;exact ((((aL.ly.trans aP.ly).trans aQ).trans aU.ly).trans aX.ly).trans a1.ly
 .rintro h aw a2 ⟨af,v,g,al,W,ah⟩;rw[aS Ψ (al.Qz rfl)];intro az aC _;exact⟨(af.ext λr J h=>by have:w.heap.size<=r:=h;omega).trans aC,g,h,λr J=>(W r J).1,a2,ah.ext aC⟩
theorem IC {cN:Nat} {d:List (y0×y0)} {KS:List (Λ)} (J:ad w cN h2 [.map (σ m)]) (hm:c6 w m d) (U:d.map (·.1)=KS.map dX) (V:∀ks∈KS,ks.length=6) (W:KS.length<=1000000):
  ai x3 Gi [.func (.func kU) #[] #[Γ cN]] w λv w'=>Ext w w'/\ ∃g L,(∀r,leadsTo v r->w.heap.size<=r)/\L.Perm KS/\m9 w' g v L:=by
 refine az func282 ?_;exact (IB J hm U V W).mono λ_ _ _ h=>h
def fS:Λ->Int
 |[]=>0
 |x::l=>x*32 ^ l.length+fS l
theorem uT (n:Nat):(0:Int)<32 ^ n:=Int.pow_pos Ω
theorem r6:∀ (l:Λ),(∀x∈l,0<=x/\x<32)->0<=fS l/\fS l<32 ^ l.length
 |[],_=>by simp[fS]
 |x::l,h=>by
  have V:=r6 l λy J=>h y (.tail _ J);have U:=h x (.head _);have W:=uT l.length;simp only[fS,Z5];have e:(32:Int) ^ (l.length+1)=32*32 ^ l.length:=by rw[Int.pow_succ,Int.mul_comm]
  have h1:x*32 ^ l.length<=31*32 ^ l.length:=Int.mul_le_mul_of_nonneg_right Ω Ω;have X:0<=x*32 ^ l.length:=Int.mul_nonneg U.1 Ω;rw[e];omega
def hP:Λ->Λ->Int
 |x::a,y::b=>if x<y then-1 else if y<x then 1 else hP a b
 |_,_=>0
theorem An:∀ (a b:Λ),a.length=b.length->(∀x∈a,0<=x/\x<32)->(∀x∈b,0<=x/\x<32)->(hP a b<0↔fS a<fS b)/\(fS a=fS b->a=b)
 |[],[],_,_,_=>by simp[hP]
 |[],_::_,h,_,_=>by simp at h
 |_::_,[],h,_,_=>by simp at h
 |x::a,y::b,h,aa,ab=>by
  have V:a.length=b.length:=by simpa using h
  have W:∀x∈a,0<=x/\x<32:=λz J=>aa z (.tail _ J);have X:∀x∈b,0<=x/\x<32:=λz J=>ab z (.tail _ J);have Y:=An a b V W X;have ac:=r6 a W;have ae:=r6 b X;have af:=uT b.length;simp only[hP,fS];rw[V] at ac ⊢;have step:∀u v:Int,u<v->u*32 ^ b.length+32 ^ b.length<=v*32 ^ b.length:=λu v ag=>by
   have:=Int.mul_le_mul_of_nonneg_right (show u+1<=v by omega) (show (0:Int)<=32 ^ b.length by omega);rw[Int.add_mul,Int.one_mul] at this;exact this
  by_cases h1:x<y
  .rw[if_pos h1];have:=step x y h1;exact⟨⟨λ_=>Ω,λ_=>Ω⟩,λh=>Ω⟩
  .rw[if_neg h1];by_cases U:y<x
   .rw[if_pos U];have:=step y x U;exact⟨⟨λh=>Ω,λh=>Ω⟩,λh=>Ω⟩
   .rw[if_neg U];have ad:x=y:=Ω
    subst ad;exact⟨Y.1.trans ⟨λh=>Ω,λh=>Ω⟩,λh=>by rw[Y.2 Ω]⟩
theorem uU:∀ {a b:Λ} {i:Nat},(∀ (j:Nat) (x y:Int),j<i->a[j]? =σ x->b[j]? =σ y->x=y)->i<=a.length->i<=b.length->hP a b=hP (a.drop i) (b.drop i)
 |_,_,0,_,_,_=>Ξ
 |[],_,i+1,_,h,_=>by simp at h
 |_::_,[],i+1,_,_,h=>by simp at h
 |x::a,y::b,i+1,he,h1,J=>by
  have U:=he 0 x y Ω rfl rfl;subst U;simp only[hP,Int.lt_irrefl,if_false,List.drop_succ_cons];exact uU (λj u v W hu V=>he (j+1) u v Ω hu V) (by simpa using h1) (by simpa using J)
theorem Ao {x:Int}:ai x3 Gp [.int .i8 x] w λv w'=>v= .bool false/\Ext w w':=by
 refine az func294 ?_;simp only[bH];exact⟨Ξ,Ext.refl _⟩
theorem ID {x:Int}:ai x3 Gh [.int .i8 x,.int .i8 y] w λv w'=>v=Δ (if x<y then-1 else if y<x then 1 else 0)/\Ext w w':=by
 refine az func281 ?_;refine Ao.mono ?_;rintro _ V _ ⟨rfl,J⟩;refine Ao.mono ?_;rintro _ aa _ ⟨rfl,U⟩;simp only[aT,aQ,bY,ak];exact⟨λh=>⟨by rw[if_pos h],J.trans U⟩,λh=>⟨λW=>⟨by rw[if_neg h,if_pos W],J.trans U⟩,λW=>⟨by rw[if_neg h,if_neg W],J.trans U⟩⟩⟩
theorem IE {dk bv:y0} {b:Λ} (X:aH .i8 w dk a) (ab:aH .i8 w bv b) (ax:a.length=b.length):ai x3 F4 [dk,bv] w λv w'=>v=Δ (hP a b)/\Ext w w':=by
 refine az func248 ?_;have ay:=X.le;rw[aU kb.u X];refine bA.range a.length (λi _ V=>Ext w V/\ ∀ (j:Nat) (x y:Int),j<i->a[j]? =σ x->b[j]? =σ y->x=y) Ω ⟨Ext.refl _,λj x y al=>Ω⟩ ?_ ?_
 .rintro i _ V am hi ⟨J,Y⟩ an;simp only[aQ,ak];refine⟨λ_=>?_,λh=>Ω⟩;obtain⟨x,ac⟩:=aN (l:=a) hi;obtain⟨y,ad⟩:=aN (l:=b) (i:=i) Ω;rw[bf kb.u fy.i Ψ (X.ext J) ac,aU kb.u (ab.ext J)];simp only[cr,ak];refine⟨λh=>Ω,λ_=>?_⟩;rw[bf kb.u fy.i Ψ (ab.ext J) ad];refine ID.mono ?_;rintro _ aa _ ⟨rfl,ag⟩;have U:hP a b=hP (a.drop i) (b.drop i):=uU Y Ω Ω;have ao:a.drop i=x::a.drop (i+1):=by rw[V4 hi,(x4.1 ac).2]
  have ap:b.drop i=y::b.drop (i+1):=by rw[V4 Ω,(x4.1 ad).2]
  rw[ao,ap] at U;simp only[hP] at U;simp only[bH,ak,aL];refine⟨λah=>⟨?_,J.trans ag⟩,λaq=>an _ _ ⟨J.trans ag,λj au av al ae af=>?_⟩⟩
  .rw[U];by_cases h1:x<y
   .rw[if_pos h1,if_pos h1]
   .by_cases W:y<x
    .rw[if_neg h1,if_pos W,if_neg h1,if_pos W]
    .rw[if_neg h1,if_neg W] at ah;exact absurd rfl ah
  .by_cases aw:j=i
   .subst aw;rw[ac] at ae;rw[ad] at af;cases ae;cases af;have aj:=X9.1 aq;by_cases h1:x<y
    .rw[if_pos h1] at aj;omega
    .by_cases W:y<x
     .rw[if_neg h1,if_pos W] at aj;omega
     .omega
   .exact Y j au av Ω ae af
 .rintro _ V am ⟨J,Y⟩;simp only[aQ,show decide ((a.length:Int)<(a.length:Int))=false from decide_eq_false Ω,aT];rw[aU kb.u (X.ext J),aU kb.u (ab.ext J)];simp only[aQ,ak];refine⟨λh=>Ω,λ_=>⟨?_,J⟩⟩;have U:hP a b=hP (a.drop a.length) (b.drop a.length):=uU Y Ω Ω;rw[U,List.drop_length];cases b.drop a.length<;>rfl
theorem IF {b:Λ} (X:kk a) (Y:kk b):ai x3 ym [dX a,dX b] w λv w'=>Ext w w'/\v=Δ (hP a b):=by
 have aj:∀ {c:Λ},kk c->(ints .i8 c).length=6:=λh=>by simp[h.1]
 refine az func247 ?_;refine bP λg1 V ak af J=>?_;refine bP λal aa am ab U=>?_;rw[z8] at J U;intro ac W _ _;have J:=(J.ext ab).ext W;have U:=U.ext W;rw[rx cz.u fy.i (l:=0) (h:=6) (m:=6) h4 h5 eJ Ω Ω Ω,rx cz.u fy.i (l:=0) (h:=6) (m:=6) h4 h5 eJ Ω Ω Ω];rw[if_neg Ω,if_neg Ω];have ls:∀ {g:Nat} {c:Λ},kk c->ad ac g cz (ints .i8 c)->aH .i8 ac (.slice (σ ⟨g,0+0*1,ν⟩) (6-0) (6-0)) c:=λ{g c} ae ag=>by
  unfold aH;refine⟨Ξ,g,0,_,6,by rw[ae.1],by rw[ae.1];omega,by simp[maxLen],λ_=>rfl,ag.range⟩
 refine (IE (ls X J) (ls Y U) (by rw[X.1,Y.1])).mono ?_;rintro _ an _ ⟨rfl,ah⟩;exact⟨((af.trans ab).trans W).trans ah,rfl⟩
end Go.Proofs.YthjegppepbbojaaGreatDoor
namespace Go.Vc
open Go Go.RowKit Go.Shelf Go.Proofs Go.Sort
theorem grown_of (W:Ext w w') (U:cY w w'):∃q os,w'=grow (w.drewN q) os:=by
 refine⟨w'.drawn-w.drawn,w'.heap.extract w.heap.size w'.heap.size,?_⟩;have hk:∀k,k<w.heap.size->w'.heap[k]? =w.heap[k]?:=λk hk=>by
  have V:w.heap[k]? =σ w.heap[k]:=Array.getElem?_eq_getElem hk;rw[V];cases J:fw w.heap[k] with
  |true=>exact W.bc k _ V J
  |false=>exact U.bc k _ V J
 have aw:w'.heap=w.heap++w'.heap.extract w.heap.size w'.heap.size:=by
  apply Array.ext_getElem?;intro k;rw[Array.getElem?_append];by_cases h:k<w.heap.size
  .rw[if_pos h,hk k h]
  .rw[if_neg h,Array.getElem?_extract];have:=W.size;by_cases X:k<w'.heap.size
   .rw[if_pos Ω];congr 1;omega
   .rw[if_neg Ω,Array.getElem?_eq_none Ω]
 have h1:=U.os;have X:=U.tape.1;have Y:=U.output;have aa:w.drawn+(w'.drawn-w.drawn)=w'.drawn:=by have:=U.tape.2;omega
 cases w';simp only[grow,x2.drewN] at*;subst h1 X Y;rw[<-aw,aa]
section
variable {α:Type} [Inhabited α]
theorem Ap (enc:α->List y0) (k:Nat) (hk:∀x,(enc x).length=k) (d:Array α):(flatK enc k d).toList=d.toList.flatMap enc:=by
 apply W5;intro t;by_cases h:t<d.size*k
 .have U:0<k:=by
   rcases Nat.eq_zero_or_pos k with J|J
   .rw[J] at h;simp at h
   .exact J
  have V:t / k<d.size:=(Nat.div_lt_iff_lt_mul U).2 h;have W:=Nat.mod_lt t U;have X:(flatK enc k d).toList[t]? =σ ((enc d[t / k]!)[t % k]!):=by
   rw[R4,Array.getElem?_eq_getElem (by simpa using h)];have:=get_flatK enc k d t h;rw[getElem!_pos _ t (by simpa using h)] at this;rw[this]
  have Y:d.toList[t / k]? =σ d[t / k]!:=by
   rw[R4,Array.getElem?_eq_getElem V,getElem!_pos d _ V]
  have aa:(enc d[t / k]!)[t % k]? =σ ((enc d[t / k]!)[t % k]!):=by
   generalize d[t / k]! =z;rw[x6 (by rw[hk];exact W),getElem!_pos (enc z) _ (by rw[hk];exact W)]
  have:=m8 (f:=enc) (k:=k) (λa _=>hk a) Y aa;rw[X,<-this];congr 1;rw[Nat.mul_comm];exact Nat.div_add_mod t k
 .rw[Y9 (by simpa using h),Y9];rw[fR (k:=k) λa _=>hk a];simpa using h
theorem Aq (enc:α->List y0) (k:Nat) (hk:∀x,(enc x).length=k) {g:Nat} {d:Array α} {os:Array Obj} (V:ad w g e cs) (ab:d.size*k<=cs.length):
  ad (sortWorldK enc k w g 0 m d os) g e (d.toList.flatMap enc++cs.drop (d.size*k))/\ ∀r,r<w.heap.size->r≠g->(sortWorldK enc k w g 0 m d os).heap[r]? =w.heap[r]?:=by
 have Y:=V.lt;have X:∀r,r<w.heap.size->(sortWorldK enc k w g 0 m d os).heap[r]? =(w.heap.modify g (onCells (putCells id 0 (flatK enc k d))))[r]?:=λr W=>by
  show ((w.heap.modify g (onCells (putCells id 0 (flatK enc k d))))++os)[r]? =_;rw[Array.getElem?_append_left (by simpa using W)]
 refine⟨?_,λr W aa=>?_⟩
 .unfold ad at V ⊢;rw[X g Y,Array.getElem?_modify,if_pos rfl,V];show σ (Obj.cells (putCells id 0 (flatK enc k d) cs.toArray) e (0,0))=_;refine congrArg σ (congrArg (λc=>Obj.cells c e (0,0)) ?_);apply Array.ext';apply W5;intro t;show _=(d.toList.flatMap enc++cs.drop (d.size*k))[t]?;rw[List.getElem?_append,fR (k:=k) λa _=>hk a,R4];unfold putCells;rw[Array.getElem?_mapIdx,List.getElem?_toArray];have J:d.toList.length=d.size:=rfl;by_cases U:t<d.size*k
  .rw[if_pos (by rw[J];exact U),x6 Ω,<-Ap enc k hk,R4,Array.getElem?_eq_getElem (by simpa using U)];simp only[Y4,id];rw[if_pos (by simpa using U),Nat.sub_zero,getElem!_pos _ t (by simpa using U)]
  .rw[if_neg (by rw[J];exact U),List.getElem?_drop,J,show d.size*k+(t-d.size*k)=t by omega];cases ac:cs[t]? with
   |none=>rfl
   |some x=>
    simp only[Y4];rw[if_neg Θ]
 .rw[X r W,Array.getElem?_modify,if_neg (S6 aa)]
end
theorem Ar {P:V2} {Y:Ren} (ao:SlLaysF0.n6 P Y) {α:Type} {f:α->List y0} {k:Nat} {G:α->Prop} {num:α->Int} {cf:α->α->Int} {aa:FuncId} {cap:Array y0}
  (aQ:∀w,(isAgg (Y.t 24)).run P w= .ok true w) (aR:∀w,(Go.sizeOf (Y.t 24)).run P w= .ok k w) (h1:∀a,G a-> ∀u∈f a,u.oneCell'=true) (hk:∀a,G a->(f a).length=k)
  (aS:∀a b,G a->G b->(cf a b<0↔num a<num b)) (aA:Enters P aa) {w:x2} {g:Nat} {v:y0} {L:List α} (h:bb f k e w g v L) (ac:∀a∈L,G a) (aB:L.length<65536)
  (aT:∀ap a b,ae (λr=>r=g) w ap->G a->G b->ai P aa ([.agg (f a).toArray,.agg (f b).toArray]++cap.toList) ap λu aU=>Ext ap aU/\u=Δ (cf a b)):
  ai P (Y.f 6) [v,.func (.func aa) #[] cap] w λ_ w'=>ae (λr=>leadsTo v r) w w'/\ ∃M,M.Perm L/\(∀ (p q:Nat) (x y:α),p<q->M[p]? =σ x->M[q]? =σ y->num x<=num y)/\bb f k e w' g v M:=by
 have aC:Enters P (Y.f 6):=λargs w=>ao.f6.enters rfl args w;obtain⟨⟨bj,aV⟩,bk⟩:=id h;have aD:∀p c,v= .slice p 0 c->L=[]->ai P (Y.f 6) [v,.func (.func aa) #[] cap] w λ_ w'=>ae (λr=>leadsTo v r) w w'/\ ∃M,M.Perm L/\(∀ (p q:Nat) (x y:α),p<q->M[p]? =σ x->M[q]? =σ y->num x<=num y)/\bb f k e w' g v M:=λp c af aB=>by
  refine .code aC ?_;rw[af];refine (AnyF.slices_SortFunc_none ao p c _ w).mono ?_;rintro bl w' ⟨rfl,rfl⟩;refine⟨_,rfl,cY.refl _,ae.refl _ _,L,.refl _,λp q x y _ W=>by rw[aB] at W;simp at W,by rw[<-af];exact h⟩
 rcases aV with⟨rfl,aW⟩|⟨c,cs,rfl,X,aE,hm,aq,aX⟩
 .exact aD _ _ rfl (Z8 aW)
 cases au:L with
 |nil=>subst au;exact aD _ _ rfl rfl
 |cons a0 bm=>
 rw[<-au];let β:={a:α // G a};have:Inhabited β:=⟨⟨a0,ac a0 (by rw[au];exact .head _)⟩⟩;let enc:β->List y0:=λx=>f x.1;let d:Array β:=(L.attach.map λx=>(⟨x.1,ac x.1 x.2⟩:β)).toArray;have aF:d.toList.map Subtype.val=L:=by
  show (L.attach.map λx=>(⟨x.1,ac x.1 x.2⟩:β)).map Subtype.val=L;rw[List.map_map];exact List.attach_map_subtype_val L
 have aj:d.size=L.length:=by simp[d]
 have ab:∀x:β,(enc x).length=k:=λx=>hk x.1 x.2;have aY:d.toList.flatMap enc=L.flatMap f:=by
  have ag:=congrArg (λl=>l.flatMap f) aF;rw[<-ag];exact (List.flatMap_map Subtype.val f d.toList).symm
 have ak:d.size*k<=cs.length:=by rw[aj,aq];exact X1 k aE
 have aZ:HoldsK enc k w g 0 d:=by
  intro j al;rw[size_flatK] at al;have aG:j<cs.length:=Ω
  have av:(flatK enc k d)[j]! =cs[j]:=by
   have ag:(flatK enc k d).toList[j]? =σ cs[j]:=by
    rw[Ap enc k ab,aY,<-aX,Y7 (by rw[<-aj];exact al),x6 aG]
   rw[R4] at ag;rw[getElem!_pos _ j (by simpa using al)];rw[Array.getElem?_eq_getElem (by simpa using al)] at ag;exact Z9 ag
  refine⟨?_,?_⟩
  .show w.cell? ⟨g,0+j,ν⟩=σ ((flatK enc k d)[j]!);rw[av];exact X.cell (o:=0+j) (by rw[V8];exact x6 aG)
  .unfold x2.frozen?;unfold ad at X;rw[X];simp
 have am:∀x y:β,ltOf (λx y:β=>cf x.1 y.1) x y=decide (num x.1<num y.1):=λx y=>by
  unfold ltOf;exact decide_eq_decide.2 (aS x.1 y.1 x.2 y.2)
 have a1:SWO (ltOf λx y:β=>cf x.1 y.1):=
  ⟨λx=>by rw[am];simp,λx y z p q=>by rw[am] at*;simp at*;omega,λx y z p q=>by rw[am] at*;simp at*;omega⟩
 have aH:∀m (d2:Array β) os,d2.size=d.size->ae (λr=>r=g) w (sortWorldK enc k w g 0 m d2 os)/\cY w (sortWorldK enc k w g 0 m d2 os):=λm d2 os J=>by
  obtain⟨bn,aI⟩:=Aq enc k ab (m:=m) (os:=os) X (d:=d2) (by rw[J];exact ak);have aJ:w.heap.size<=(sortWorldK enc k w g 0 m d2 os).heap.size:=by
   show w.heap.size<=((w.heap.modify g _)++os).size;simp
  refine⟨⟨aJ,λr o V _ aw=>?_⟩,rfl,⟨rfl,Nat.le_add_right _ _⟩,rfl,aJ,λr o V J=>?_⟩
  .rw[aI r (Z1.1 V).1 aw];exact V
  .have aw:r≠g:=λhe=>by subst he;unfold ad at X;rw[X] at V;cases V;cases J
   rw[aI r (Z1.1 V).1 aw];exact V
 have a2:CmpLays P aa cap enc k (λx y:β=>cf x.1 y.1) g 0 d.size w:=λm os a6 J x y=>by
  have W:=(aT _ x.1 y.1 (aH m a6 os J).1 x.2 y.2).calls aA;have ah:([y0.agg (f x.1).toArray,.agg (f y.1).toArray]++cap.toList).toArray= #[.agg (enc x).toArray,.agg (enc y).toArray]++cap:=by
   apply Array.ext';simp[enc]
  rw[ah] at W;refine W.mono ?_;rintro _ w' ⟨_,rfl,a7,a8,rfl⟩;exact⟨rfl,grown_of a8 a7⟩
 have aK:=AnyQ.slices_SortFunc ao k aQ aR enc ab (λx=>h1 x.1 x.2) (λx y:β=>cf x.1 y.1) a1 aa cap g 0 c d w (λargs w=>aA args w) a2 aZ X.lt (by rw[aj];omega);rw[aj] at aK;refine .code aC (aK.mono ?_);rintro _ w' ⟨rfl,U,n,os,⟨ba,_,af⟩,bc,rfl⟩;have ax:U.size=d.size:=ba;obtain⟨bd,be⟩:=aH n U os ax;obtain⟨bf,_⟩:=Aq enc k ab (m:=n) (os:=os) X (d:=U) (by rw[ax];exact ak);have an:(U.toList.map Subtype.val).Perm L:=by
  have av:(U.extract 0 L.length).toList=U.toList:=by rw[show L.length=U.size by omega,Array.extract_size]
  have bg:(d.extract 0 L.length).toList=d.toList:=by rw[show L.length=d.size by omega,Array.extract_size]
  rw[av,bg] at af;rw[<-aF];exact af.map _
 have aL:=an.length_eq;refine⟨_,rfl,be,bd.mono λr _ V=>⟨_,_,_,rfl,V.symm⟩,U.toList.map Subtype.val,an,λp q x y bh W aM=>?_,⟨?_,.inr ⟨c,_,by rw[aL],bf,by rw[aL];exact aE,hm,?_,?_⟩⟩,λa ah=>hk a (ac a (an.mem_iff.1 ah))⟩
 .rw[u4,X5] at W aM;obtain⟨bo,aN,rfl⟩:=W;obtain⟨bp,aO,rfl⟩:=aM;rw[R4] at aN aO;have aP:=(Z1.1 aN);have ay:=(Z1.1 aO);have:=bc p q (X7 _) bh (by have:=ay.1;omega);rw[getElem!_pos U p aP.1,getElem!_pos U q ay.1,aP.2,ay.2,am] at this;simpa using this
 .rw[fR (k:=k) λa ah=>hk a (ac a (an.mem_iff.1 ah))]
 .have az:(U.toList.flatMap enc).length=U.size*k:=by rw[fR (k:=k) λa _=>ab a];rfl
  rw[r8,az,Q2,ax,aq];rw[aq] at ak;exact Nat.add_sub_cancel' ak
 .have az:(U.toList.flatMap enc).length=U.size*k:=by rw[fR (k:=k) λa _=>ab a];rfl
  have bi:(List.map Subtype.val U.toList).length*k=(U.toList.flatMap enc).length:=by rw[az,u5];rfl
  rw[bi,List.take_left,List.flatMap_map]
end Go.Vc
namespace Go.Proofs
open Go.Shelf
def Tryz.uV:Go.Shelf.Ren:=⟨λ|6=>283|15=>123|14=>296|28=>211|29=>212|20=>311|21=>312|22=>313|23=>314|24=>315|25=>316|26=>317|27=>318|46=>326|47=>256|48=>257|49=>327|50=>328|57=>331|n=>n,λ|22=>354|24=>336|25=>353|3=>3|39=>225|0=>0|53=>325|55=>92|4=>4|46=>318|45=>317|50=>322|5=>5|9=>9|66=>360|70=>364|76=>389|77=>390|n=>n,λ|n=>n⟩
theorem Tryz.IG:Go.Proofs.SlLaysF0.n6 Tryz.prog Tryz.uV:={
 mixed:=Ψ,
 f6:=⟨Tryz.f283.name,Φ,Tryz.func283.trans (congrArg σ Ψ)⟩,
 f14:=⟨Tryz.f296.name,Φ,Tryz.func296.trans (congrArg σ Ψ)⟩,
 f15:=Tryz.func123.trans (congrArg σ Ψ),
 f20:=⟨Tryz.f311.name,Φ,Tryz.func311.trans (congrArg σ Ψ)⟩,
 f21:=⟨Tryz.f312.name,Φ,Tryz.func312.trans (congrArg σ Ψ)⟩,
 f22:=⟨Tryz.f313.name,Φ,Tryz.func313.trans (congrArg σ Ψ)⟩,
 f23:=⟨Tryz.f314.name,Φ,Tryz.func314.trans (congrArg σ Ψ)⟩,
 f24:=⟨Tryz.f315.name,Φ,Tryz.func315.trans (congrArg σ Ψ)⟩,
 f25:=⟨Tryz.f316.name,Φ,Tryz.func316.trans (congrArg σ Ψ)⟩,
 f26:=⟨Tryz.f317.name,Φ,Tryz.func317.trans (congrArg σ Ψ)⟩,
 f27:=⟨Tryz.f318.name,Φ,Tryz.func318.trans (congrArg σ Ψ)⟩,
 f28:=Tryz.func211.trans (congrArg σ Ψ),
 f29:=Tryz.func212.trans (congrArg σ Ψ),
 f46:=⟨Tryz.f326.name,Φ,Tryz.func326.trans (congrArg σ Ψ)⟩,
 f47:=Tryz.func256.trans (congrArg σ Ψ),
 f48:=Tryz.func257.trans (congrArg σ Ψ),
 f49:=⟨Tryz.f327.name,Φ,Tryz.func327.trans (congrArg σ Ψ)⟩,
 f50:=⟨Tryz.f328.name,Φ,Tryz.func328.trans (congrArg σ Ψ)⟩,
 f57:=⟨Tryz.f331.name,Φ,Tryz.func331.trans (congrArg σ Ψ)⟩,
 t0:=Tryz.underlying0,
 a0:=Tryz.isAgg0,
 z0:=Tryz.sizeOf0,
 v0:=Tryz.zeroValue0,
 t3:=Tryz.underlying3,
 a3:=Tryz.isAgg3,
 z3:=Tryz.sizeOf3,
 v3:=Tryz.zeroValue3,
 t4:=Tryz.underlying4,
 a4:=Tryz.isAgg4,
 z4:=Tryz.sizeOf4,
 v4:=Tryz.zeroValue4,
 t5:=Tryz.underlying5,
 a5:=Tryz.isAgg5,
 z5:=Tryz.sizeOf5,
 v5:=Tryz.zeroValue5,
 t9:=Tryz.underlying9,
 a9:=Tryz.isAgg9,
 z9:=Tryz.sizeOf9,
 v9:=Tryz.zeroValue9,
 t22:=Tryz.underlying354,
 a22:=Tryz.isAgg354,
 z22:=Tryz.sizeOf354,
 v22:=Tryz.zeroValue354,
 t25:=Tryz.underlying353,
 a25:=Tryz.isAgg353,
 z25:=Tryz.sizeOf353,
 v25:=Tryz.zeroValue353,
 t39:=Tryz.underlying225,
 a39:=Tryz.isAgg225,
 z39:=Tryz.sizeOf225,
 v39:=Tryz.zeroValue225,
 t45:=Tryz.underlying317,
 a45:=Tryz.isAgg317,
 z45:=Tryz.sizeOf317,
 v45:=Tryz.zeroValue317,
 t46:=Tryz.underlying318,
 a46:=Tryz.isAgg318,
 z46:=Tryz.sizeOf318,
 v46:=Tryz.zeroValue318,
 t50:=Tryz.underlying322,
 a50:=Tryz.isAgg322,
 z50:=Tryz.sizeOf322,
 v50:=Tryz.zeroValue322,
 t53:=Tryz.underlying325,
 a53:=Tryz.isAgg325,
 z53:=Tryz.sizeOf325,
 v53:=Tryz.zeroValue325,
 t55:=Tryz.underlying92,
 a55:=Tryz.isAgg92,
 z55:=Tryz.sizeOf92,
 v55:=Tryz.zeroValue92,
 t66:=Tryz.underlying360,
 a66:=Tryz.isAgg360,
 z66:=Tryz.sizeOf360,
 v66:=Tryz.zeroValue360,
 t70:=Tryz.underlying364,
 a70:=Tryz.isAgg364,
 z70:=Tryz.sizeOf364,
 v70:=Tryz.zeroValue364,
 t76:=Tryz.underlying389,
 a76:=Tryz.isAgg389,
 z76:=Tryz.sizeOf389,
 v76:=Tryz.zeroValue389,
 t77:=Tryz.underlying390,
 a77:=Tryz.isAgg390,
 z77:=Tryz.sizeOf390,
 v77:=Tryz.zeroValue390}
def Tryz.uW:Go.Shelf.Ren:=⟨λ|6=>182|15=>123|14=>245|28=>211|29=>212|20=>272|21=>273|22=>274|23=>275|24=>276|25=>277|26=>278|27=>279|46=>291|47=>256|48=>257|49=>292|50=>293|57=>310|n=>n,λ|22=>283|24=>288|25=>295|3=>3|39=>225|0=>0|53=>325|55=>92|4=>4|46=>318|45=>317|50=>322|5=>5|9=>9|66=>360|70=>364|76=>389|77=>390|n=>n,λ|n=>n⟩
theorem Tryz.IH:Go.Proofs.SlLaysF0.n6 Tryz.prog Tryz.uW:={
 mixed:=Ψ,
 f6:=⟨Tryz.f182.name,Φ,Tryz.func182.trans (congrArg σ Ψ)⟩,
 f14:=⟨Tryz.f245.name,Φ,Tryz.func245.trans (congrArg σ Ψ)⟩,
 f15:=Tryz.func123.trans (congrArg σ Ψ),
 f20:=⟨Tryz.f272.name,Φ,Tryz.func272.trans (congrArg σ Ψ)⟩,
 f21:=⟨Tryz.f273.name,Φ,Tryz.func273.trans (congrArg σ Ψ)⟩,
 f22:=⟨Tryz.f274.name,Φ,Tryz.func274.trans (congrArg σ Ψ)⟩,
 f23:=⟨Tryz.f275.name,Φ,Tryz.func275.trans (congrArg σ Ψ)⟩,
 f24:=⟨Tryz.f276.name,Φ,Tryz.func276.trans (congrArg σ Ψ)⟩,
 f25:=⟨Tryz.f277.name,Φ,Tryz.func277.trans (congrArg σ Ψ)⟩,
 f26:=⟨Tryz.f278.name,Φ,Tryz.func278.trans (congrArg σ Ψ)⟩,
 f27:=⟨Tryz.f279.name,Φ,Tryz.func279.trans (congrArg σ Ψ)⟩,
 f28:=Tryz.func211.trans (congrArg σ Ψ),
 f29:=Tryz.func212.trans (congrArg σ Ψ),
 f46:=⟨Tryz.f291.name,Φ,Tryz.func291.trans (congrArg σ Ψ)⟩,
 f47:=Tryz.func256.trans (congrArg σ Ψ),
 f48:=Tryz.func257.trans (congrArg σ Ψ),
 f49:=⟨Tryz.f292.name,Φ,Tryz.func292.trans (congrArg σ Ψ)⟩,
 f50:=⟨Tryz.f293.name,Φ,Tryz.func293.trans (congrArg σ Ψ)⟩,
 f57:=⟨Tryz.f310.name,Φ,Tryz.func310.trans (congrArg σ Ψ)⟩,
 t0:=Tryz.underlying0,
 a0:=Tryz.isAgg0,
 z0:=Tryz.sizeOf0,
 v0:=Tryz.zeroValue0,
 t3:=Tryz.underlying3,
 a3:=Tryz.isAgg3,
 z3:=Tryz.sizeOf3,
 v3:=Tryz.zeroValue3,
 t4:=Tryz.underlying4,
 a4:=Tryz.isAgg4,
 z4:=Tryz.sizeOf4,
 v4:=Tryz.zeroValue4,
 t5:=Tryz.underlying5,
 a5:=Tryz.isAgg5,
 z5:=Tryz.sizeOf5,
 v5:=Tryz.zeroValue5,
 t9:=Tryz.underlying9,
 a9:=Tryz.isAgg9,
 z9:=Tryz.sizeOf9,
 v9:=Tryz.zeroValue9,
 t22:=Tryz.underlying283,
 a22:=Tryz.isAgg283,
 z22:=Tryz.sizeOf283,
 v22:=Tryz.zeroValue283,
 t25:=Tryz.underlying295,
 a25:=Tryz.isAgg295,
 z25:=Tryz.sizeOf295,
 v25:=Tryz.zeroValue295,
 t39:=Tryz.underlying225,
 a39:=Tryz.isAgg225,
 z39:=Tryz.sizeOf225,
 v39:=Tryz.zeroValue225,
 t45:=Tryz.underlying317,
 a45:=Tryz.isAgg317,
 z45:=Tryz.sizeOf317,
 v45:=Tryz.zeroValue317,
 t46:=Tryz.underlying318,
 a46:=Tryz.isAgg318,
 z46:=Tryz.sizeOf318,
 v46:=Tryz.zeroValue318,
 t50:=Tryz.underlying322,
 a50:=Tryz.isAgg322,
 z50:=Tryz.sizeOf322,
 v50:=Tryz.zeroValue322,
 t53:=Tryz.underlying325,
 a53:=Tryz.isAgg325,
 z53:=Tryz.sizeOf325,
 v53:=Tryz.zeroValue325,
 t55:=Tryz.underlying92,
 a55:=Tryz.isAgg92,
 z55:=Tryz.sizeOf92,
 v55:=Tryz.zeroValue92,
 t66:=Tryz.underlying360,
 a66:=Tryz.isAgg360,
 z66:=Tryz.sizeOf360,
 v66:=Tryz.zeroValue360,
 t70:=Tryz.underlying364,
 a70:=Tryz.isAgg364,
 z70:=Tryz.sizeOf364,
 v70:=Tryz.zeroValue364,
 t76:=Tryz.underlying389,
 a76:=Tryz.isAgg389,
 z76:=Tryz.sizeOf389,
 v76:=Tryz.zeroValue389,
 t77:=Tryz.underlying390,
 a77:=Tryz.isAgg390,
 z77:=Tryz.sizeOf390,
 v77:=Tryz.zeroValue390}
theorem Tryz.II (w:x2):(isAgg (Tryz.uV.t 24)).run Tryz.prog w= .ok true w:=Tryz.isAgg336 w
theorem Tryz.IJ (w:x2):(Go.sizeOf (Tryz.uV.t 24)).run Tryz.prog w= .ok 6 w:=Tryz.sizeOf336 w
theorem Tryz.IK:Tryz.prog.funcs[247]? =σ Tryz.f247:=Tryz.func247
theorem Tryz.IL (w:x2):(isAgg (Tryz.uW.t 24)).run Tryz.prog w= .ok true w:=Tryz.isAgg288 w
theorem Tryz.IM (w:x2):(Go.sizeOf (Tryz.uW.t 24)).run Tryz.prog w= .ok 2 w:=Tryz.sizeOf288 w
theorem Tryz.IN:Tryz.prog.funcs[183]? =σ Tryz.f183:=Tryz.func183
end Go.Proofs
namespace Go.Proofs.YthjegppepbbojaaGreatDoor
open Go Go.Vc Go.RowKit Go.Proofs Go.Proofs.Tryz
set_option maxRecDepth 100000
def r7 {α:Type} (f:α->Int) (L:List α) (a i:Nat):Prop:=∀ (p q:Nat) (x y:α),a<=p->p<q->q<i->L[p]? =σ x->L[q]? =σ y->f x<=f y
def oA (L:List (Λ)):Prop:=∀ks∈L,kk ks
theorem oA.perm {L M:List (Λ)} (h:oA L) (J:M.Perm L):oA M:=λks hk=>h ks (J.mem_iff.1 hk)
theorem IP {g:Nat} {L:List (Λ)} {i:Nat} (J:y=(i:Int)) (h:m9 w g v L) (hi:L[i]? =σ ks):
  U x3 (l7 iA v (Δ y)) w (λp=>U x3 (x7 cz p) w K)=K (dX ks):=by
 have V:ks.length=6:=by have:=h.2 ks (x5 hi);simpa using this
 rw[cE J iA.u cz.i h (x4.1 hi).1,m4 V (h.range hi)]
abbrev As:y0:=.func (.func ym) #[] #[]
theorem sa {P:V2} {k:o6} {s:ByteArray} {i:Nat} (J:P.underlying t=σ .string) (hi:i<s.size):
  U P (Instr.index t (.string s) (.int k (i:Int))) w K=K (.int .u8 (s[i].toNat:Int)):=U.of λw' _=>by
 simp[Instr.index,asIntOf,run_underlying J,hi]
def dZ (n:Nat):Nat:=if n=0 then 0 else Nat.log2 n+1
theorem Au (h:n<256):dZ n<=8:=by
 unfold dZ;by_cases J:n=0
 .rw[if_pos J];omega
 .rw[if_neg J];have U:Nat.log2 n<8:=(Nat.log2_lt J).2 Ω;omega
theorem IQ {g:Nat} {L:List (Λ)} (h:m9 w g v L) (V:oA L) (W:L.length<65536):
  ai x3 Gj [v,As] w λ_ w'=>ae (λr=>leadsTo v r) w w'/\ ∃M,M.Perm L/\r7 fS M 0 M.length/\m9 w' g v M:=by
 refine (Ar IG (G:=kk) (num:=fS) (cf:=hP) (cap:=#[]) II IJ (λa _=>Am) (λa J=>by simp[J.1]) (λa b J U=>(An a b (by rw[J.1,U.1]) J.2 U.2).1) (Enters.of x3 IK rfl Ψ) h V W λad a b _ J U=>IF J U).mono ?_;rintro _ w' _ ⟨X,M,Y,hu,hm⟩;exact⟨X,M,Y,λp q x y _ aa _ ab ac=>hu p q x y aa ab ac,hm⟩
end Go.Proofs.YthjegppepbbojaaGreatDoor
namespace Go.Vc
open Go Go.RowKit
set_option maxRecDepth 100000
theorem Keys.str {P:V2} {k:o4} (hk:P.underlying k=σ .string):Keys P k λv=>∃s,v= .string s:=by
 have key:∀s,MapKept.IsKey .string (.string s):=λs=>trivial;refine⟨λw U v ⟨n,h⟩=>?_,λw x ⟨n,h⟩ V W=>?_,λw v ⟨n,h⟩=>?_⟩
 .subst h;exact MapKept.run_checkKey hk (key n) U 9999
 .subst h;rcases MapKept.findNow_spec (key n) V 0 (λe he=>by obtain⟨m,h⟩:=W e he;rw[h];exact key m) with⟨h1,J⟩|⟨j,e,h1,J,X⟩
  .exact .inl ⟨MapKept.run_findKey hk h1,J⟩
  .exact .inr ⟨j,e,by have:=MapKept.run_findKey (P:=P) (w:=w) hk h1;simpa using this,J,X⟩
 .subst h;exact MapKept.run_keyThatStays (d:=.string) (key n)
section
variable {P:V2} {w:x2}
theorem gU {s:Sem y0} (h:∀K:y0->Prop,U P s w K=K v):bw P s v w:=by
 have h1:U P s w (λu=>u=v):=(h λu=>u=v).mpr rfl;obtain⟨u,hu,rfl⟩:=h1;exact hu
variable {k e:o4} {G:y0->Prop}
end
end Go.Vc
namespace Go.Proofs.YthjegppepbbojaaGreatDoor
open Go Go.Vc Go.RowKit Go.Proofs Go.Proofs.Tryz
set_option maxRecDepth 100000
def gh:Nat->Nat->Λ
 |0,_=>[]
 |n+1,u=>gh n (u / 10)++[48+((u % 10:Nat):Int)]
theorem pR:∀ (n u:Nat),(gh n u).length=n
 |0,_=>rfl
 |n+1,u=>by rw[gh,r8,pR n];rfl
theorem IR (n u:Nat):gh (n+2) u=gh n (u / 100)++[48+((u / 10 % 10:Nat):Int),48+((u % 10:Nat):Int)]:=by
 rw[gh,gh,Z4];rw[show u / 10 / 10=u / 100 by omega];rfl
theorem Av:∀ (n u:Nat),10 ^ n<=u->u<10 ^ (n+1)->gh (n+1) u=e8 u
 |0,u,h1,J=>by
  rw[mR,if_pos (by simpa using J)];simp[gh]
 |n+1,u,h1,J=>by
  have U:(10:Nat) ^ (n+1)=10*10 ^ n:=by rw[Nat.pow_succ,Nat.mul_comm]
  have V:(10:Nat) ^ (n+1+1)=10*10 ^ (n+1):=by rw[Nat.pow_succ,Nat.mul_comm]
  have W:1<=10 ^ n:=Nat.one_le_iff_ne_zero.2 Ξ;rw[mR,if_neg Ω,gh,Av n (u / 10) Ω Ω]
def fT (J C:Λ) (nd u:Nat):Prop:=nd<=J.length/\C.length=J.length/\ ∃t,C.drop nd=t/\J=gh nd u++t
theorem fT.two {J:Λ} {nd u:Nat} (h:fT J C (nd+2) u):fT J ((C.set (nd+1) (48+((u % 10:Nat):Int))).set nd (48+((u / 10 % 10:Nat):Int))) nd (u / 100):=by
 obtain⟨h1,U,t,V,W⟩:=h;refine⟨Ω,by simp[U],_,rfl,?_⟩;rw[W,IR,Z4];congr 1;rw[List.drop_set,if_neg Ω,List.drop_set,if_neg Ω,<-V];have X:nd<C.length:=Ω
 have Y:nd+1<C.length:=Ω
 rw[V4 X,V4 Y,V9,Q1];rfl
theorem fT.one {J:Λ} {u:Nat} (h:fT J C 1 u):C.set 0 (48+((u % 10:Nat):Int))=J:=by
 obtain⟨h1,U,t,V,W⟩:=h;rw[W,gh,gh,List.nil_append,<-V];cases C with
 |nil=>simp at U;omega
 |cons c C=>simp
theorem fT.zero {J:Λ} {u:Nat} (h:fT J C 0 u):C=J:=by
 obtain⟨h1,W,t,U,V⟩:=h;rw[V,gh,List.nil_append,<-U,List.drop_zero]
def jd:ByteArray:=⟨#[48,48,48,49,48,50,48,51,48,52,48,53,48,54,48,55,48,56,48,57,49,48,49,49,49,50,49,51,49,52,49,53,49,54,49,55,49,56,49,57,50,48,50,49,50,50,50,51,50,52,50,53,50,54,50,55,50,56,50,57,51,48,51,49,51,50,51,51,51,52,51,53,51,54,51,55,51,56,51,57,52,48,52,49,52,50,52,51,52,52,52,53,52,54,52,55,52,56,52,57,53,48,53,49,53,50,53,51,53,52,53,53,53,54,53,55,53,56,53,57,54,48,54,49,54,50,54,51,54,52,54,53,54,54,54,55,54,56,54,57,55,48,55,49,55,50,55,51,55,52,55,53,55,54,55,55,55,56,55,57,56,48,56,49,56,50,56,51,56,52,56,53,56,54,56,55,56,56,56,57,57,48,57,49,57,50,57,51,57,52,57,53,57,54,57,55,57,56,57,57]⟩
theorem Aw:jd.size=200:=by decide+kernel
theorem IS:∀q:Fin 100,jd.data.toList[2*q.val]? =σ (UInt8.ofNat (48+q.val / 10))/\jd.data.toList[2*q.val+1]? =σ (UInt8.ofNat (48+q.val % 10)):=by decide+kernel
theorem uX {q:Nat} (U:q<100):(∀h,(jd[2*q]'h).toNat=48+q / 10)/\ ∀h,(jd[2*q+1]'h).toNat=48+q % 10:=by
 obtain⟨h1,V⟩:=IS ⟨q,U⟩;refine⟨λh=>?_,λh=>?_⟩
 .have J:=(x4.1 h1).2;have:jd[2*q]=UInt8.ofNat (48+q / 10):=J;rw[this,UInt8.toNat_ofNat'];omega
 .have J:=(x4.1 V).2;have:jd[2*q+1]=UInt8.ofNat (48+q % 10):=J;rw[this,UInt8.toNat_ofNat'];omega
theorem wrap_u32 {x:Int} (h1:0<=x) (J:x<4294967296):o6.u32.wrap x=x:=by
 simp[o6.wrap,o6.bits,o6.signed];omega
def je (w:x2) (g o:Nat) (J C U:Λ):Prop:=ad w g lO (ints .u8 (J++C++U))/\J.length=o
theorem uY {g o c i:Nat} {J:o6} (V:y=(i:Int)) (hi:i<n):
  U x3 (l7 cH (.slice (σ ⟨g,o,ν⟩) n c) (.int J y)) w K=K (.pointer (σ ⟨g,o+i,ν⟩)):=by
 subst V;rw[fz cH.u cq.i hi (λ_=>rfl),S2]
theorem uZ {g o i:Nat} {x:Int} {U V:Λ} {K:Unit->x2->Prop} (W:je w g o U C V) (hi:i<C.length)
  (Y:∀w',ae (λr=>r=g) w w'->je w' g o U (C.set i x) V->K () w'):ay x3 (o7 cq (.pointer (σ ⟨g,o+i,ν⟩)) (.int .u8 x)) w K:=by
 obtain⟨W,rfl⟩:=W;refine bj (g:=g) (o:=U.length+i) cq.i rfl rfl W Θ λw' aa J X=>Y w' aa ⟨?_,rfl⟩;have e:(ints .u8 (U++C++V)).set (U.length+i) (.int .u8 x)=ints .u8 (U++C.set i x++V):=by
  unfold ints;rw[<-T8,Z4,T6 _ _ Ω,Q1,List.set_append_left _ _ hi,Z4]
 rw[e] at X;exact X
theorem na {g o c nd q i:Nat} {ag W t:Int} {X Y:Λ} {K:x2->Prop} (ah:je w g o X C Y) (aF:C.length=n) (aG:n<=1000) (aH:nd<=n) (h1:(nd:Int)-ag=((i+1:Nat):Int)) (al:(nd:Int)-W=(i:Int)) (am:i+1<n) (an:t=((2*q:Nat):Int)) (ad:q<100)
  (ao:∀w',ae (λr=>r=g) w w'->je w' g o X ((C.set (i+1) (48+((q % 10:Nat):Int))).set i (48+((q / 10:Nat):Int))) Y->K w'):
  cK w λaa=>
  U x3 (aA .sub ac false true (Δ (nd:Int)) (Δ ag)) aa λap=>
  U x3 (aA .sub ac false true (Δ (nd:Int)) (Δ W)) aa λai=>
  U x3 (aA .add nW false true (.int .u32 t) (.int .u32 1)) aa λaq=>
  U x3 (Instr.index c3 (.string jd) aq) aa λt50=>
  U x3 (Instr.index c3 (.string jd) (.int .u32 t)) aa λaj=>
  U x3 (l7 cH (.slice (σ ⟨g,o,ν⟩) n c) ap) aa λt53=>
  ay x3 (o7 cq t53 t50) aa λ(_:Unit) V=>
   (Ext aa V\/bw x3 (Instr.index c3 (.string jd) (.int .u32 t)) aj V/\bw x3 (aA .sub ac false true (Δ (nd:Int)) (Δ W)) ai V/\True)/\
  U x3 (l7 cH (.slice (σ ⟨g,o,ν⟩) n c) ai) V λau=>
   ay x3 (o7 cq au aj) V λ(_:Unit) af=>K af:=by
 subst an;intro aa ak _ _;have av:ae (λr=>r=g) w aa:=ak.ab _;have aw:je aa g o X C Y:=⟨ah.1.ext ak,ah.2⟩;rw[dj,wrap_i64 Ω Ω,dj,wrap_i64 Ω Ω,aL,wrap_u32 Ω Ω];rw[show ((2*q:Nat):Int)+1=((2*q+1:Nat):Int) by omega];have J:=Aw;rw[sa c3.u (by rw[J];omega),sa c3.u (by rw[J];omega)];rw[(uX ad).1,(uX ad).2,uY h1 am];refine uZ aw Ω λV ax az=>⟨.inr ⟨gU λK=>?_,gU λK=>?_,trivial⟩,?_⟩
 .rw[sa c3.u (by rw[J];omega),(uX ad).1]
 .rw[dj,wrap_i64 Ω Ω]
 .rw[uY al Ω];refine uZ az Θ λaf aB aC=>ao af ((av.trans ax).trans aB) ?_;have aD:48+((q % 10:Nat):Int)=((48+q % 10:Nat):Int):=Ω
  have aE:48+((q / 10:Nat):Int)=((48+q / 10:Nat):Int):=Ω
  rw[aD,aE];exact aC
theorem fT.pair {J:Λ} {nd u q:Nat} (h:fT J C (nd+2) u) (U:q=u % 100):fT J ((C.set (nd+1) (48+((q % 10:Nat):Int))).set nd (48+((q / 10:Nat):Int))) nd (u / 100):=by
 have:=h.two;rw[show u % 10=q % 10 by omega,show u / 10 % 10=q / 10 by omega] at this;exact this
theorem nb {k:o6} {a b:Nat} (J:b≠0):U x3 (aA .rem t cx cy (.int k (a:Int)) (.int k (b:Int))) w K=K (.int k ((a % b:Nat):Int)):=by
 rw[kc Ω,Int.tmod_eq_emod_of_nonneg Ω,Int.natCast_emod]
theorem u32_quo {a b:Nat} (J:b≠0) (V:a<4294967296):U x3 (aA .quo t cx cy (.int .u32 (a:Int)) (.int .u32 (b:Int))) w K=K (.int .u32 ((a / b:Nat):Int)):=by
 have:=Nat.div_le_self a b;rw[pr Ω,Int.tdiv_eq_ediv_of_nonneg Ω,<-Int.natCast_ediv];generalize a / b=m at this ⊢;rw[wrap_u32 Ω Ω]
theorem u64_quo {a b:Nat} (J:b≠0) (V:a<18446744073709551616):U x3 (aA .quo t cx cy (.int .u64 (a:Int)) (.int .u64 (b:Int))) w K=K (.int .u64 ((a / b:Nat):Int)):=by
 have:=Nat.div_le_self a b;rw[pr Ω,Int.tdiv_eq_ediv_of_nonneg Ω,<-Int.natCast_ediv];generalize a / b=m at this ⊢;rw[wrap_u64 Ω Ω]
theorem nc {a b:Nat} (J:a*b<4294967296):U x3 (aA .mul t cx cy (.int .u32 (a:Int)) (.int .u32 (b:Int))) w K=K (.int .u32 ((a*b:Nat):Int)):=by
 have e:(a:Int)*(b:Int)=((a*b:Nat):Int):=Ξ
 rw[fL,e];generalize a*b=m at J ⊢;rw[wrap_u32 Ω Ω]
theorem fT.start {u:Nat} (h:C.length=N):fT (gh N u) C N u:=⟨by rw[pR];omega,by rw[pR,h],[],by rw[List.drop_eq_nil_iff];omega,Ξ⟩
theorem IT {g o c u:Nat} {aj al:Λ} (aM:je w g o aj C al) (aN:C.length=N) (aX:N<=19) (hu:u<10 ^ N):
  ai x3 Gt [.slice (σ ⟨g,o,ν⟩) N c,.int .u64 (u:Int)] w λv w'=>v= .tuple #[]/\ae (λr=>r=g) w w'/\je w' g o aj (gh N u) al:=by
 have ac:=pR N u;refine az func299 ?_;rw[gP cH.u];refine⟨λaO ax V=>∃J nd:Nat,aO= .int .u64 (J:Int)/\ax=Δ (nd:Int)/\J<10 ^ nd/\nd<=N/\ae (λr=>r=g) w V/\ ∃am,je V g o aj am al/\fT (gh N u) am nd J,
  λ_ ax _=>(bS ax).toNat,⟨u,N,rfl,rfl,hu,n9 _,ae.refl _ _,C,aM,fT.start aN⟩,?_⟩
 rintro _ _ V ⟨J,nd,rfl,rfl,an,ad,ay,am,aA,au⟩;have aH:am.length=N:=by rw[au.2.1,ac]
 have aY:(10:Nat) ^ nd<=10 ^ 19:=R5 Ω Ω;have aP:J<18446744073709551616:=Ω
 have aZ:(8:Int)=((8:Nat):Int):=rfl;rw[cr,ak];refine⟨λaQ=>?_,λaQ=>?_⟩
 .obtain⟨m,rfl⟩:∃m,nd=m+8:=⟨nd-8,Ω⟩;have a1:J % 100000000<100000000:=Nat.mod_lt _ Ω;rw[show U1 .u64 100000000=U1 .u64 ((100000000:Nat):Int) from rfl,nb Ω,fi eH.u nW.u,wrap_u32 Ω Ω,u64_quo Ω aP];rw[show U1 .u32 10000=U1 .u32 ((10000:Nat):Int) from rfl,show U1 .u32 100=U1 .u32 ((100:Nat):Int) from rfl,show U1 .u32 2=U1 .u32 ((2:Nat):Int) from rfl];rw[u32_quo Ω Ω,nb Ω,u32_quo Ω Ω,nc Ω,nb Ω,nc Ω,u32_quo Ω Ω,nc Ω,nb Ω,nc Ω];refine na (i:=m+6) (q:=J % 100000000 % 10000 % 100) aA aH Ω ad Ω Ω Ω Ω Ω λaa af ag=>?_;have W:=au.pair (q:=J % 100000000 % 10000 % 100) Ω;have ao:=W.2.1.trans ac;refine na (i:=m+4) (q:=J % 100000000 % 10000 / 100) ag ao Ω ad Ω Ω Ω Ω Ω λah Y X=>?_;have U:=fT.pair (nd:=m+4) (q:=J % 100000000 % 10000 / 100) W Ω;have aI:=U.2.1.trans ac;refine na (i:=m+2) (q:=J % 100000000 / 10000 % 100) X aI Ω ad Ω Ω Ω Ω Ω λaR aB av=>?_;have aJ:=fT.pair (nd:=m+2) (q:=J % 100000000 / 10000 % 100) U Ω;have aS:=aJ.2.1.trans ac;refine na (i:=m) (q:=J % 100000000 / 10000 / 100) av aS Ω ad Ω Ω Ω Ω Ω λa2 aT aU=>?_;have aK:=fT.pair (nd:=m) (q:=J % 100000000 / 10000 / 100) aJ Ω;rw[dj,wrap_i64 Ω Ω];refine⟨⟨J / 100000000,m,rfl,by congr 1;omega,?_,Ω,(((ay.trans af).trans Y).trans aB).trans aT,_,aU,?_⟩,by simp only[bS];omega⟩
  .rw[Nat.pow_add] at an;exact Nat.div_lt_of_lt_mul (by rw[Nat.mul_comm];exact an)
  .rw[show J / 100 / 100 / 100 / 100=J / 100000000 by omega] at aK;exact aK
 .have a6:nd<8:=Ω
  have a7:(10:Nat) ^ nd<=10 ^ 7:=R5 Ω Ω;rw[fi eH.u nW.u,wrap_u32 Ω Ω];refine iy (λa b aa=>∃ab m:Nat,a=Δ (m:Int)/\b= .int .u32 (ab:Int)/\ab<10 ^ m/\m<4/\m<=N/\ae (λr=>r=g) w aa/\ ∃aw,je aa g o aj aw al/\fT (gh N u) aw m ab) ?_ ?_
  rotate_left
  .intro aV ap;rw[cr,ak];refine⟨λaC=>?_,λaC=>ap _ _ _ ⟨J,nd,rfl,rfl,an,Ω,ad,ay,am,aA,au⟩⟩;obtain⟨m,rfl⟩:∃m,nd=m+4:=⟨nd-4,Ω⟩;rw[show U1 .u32 10000=U1 .u32 ((10000:Nat):Int) from rfl,show U1 .u32 100=U1 .u32 ((100:Nat):Int) from rfl,show U1 .u32 2=U1 .u32 ((2:Nat):Int) from rfl];rw[nb Ω,u32_quo Ω Ω,u32_quo Ω Ω,nc Ω,nb Ω,nc Ω];refine na (i:=m+2) (q:=J % 10000 % 100) aA aH Ω ad Ω Ω Ω Ω Ω λaa af ag=>?_;have W:=au.pair (q:=J % 10000 % 100) Ω;have ao:=W.2.1.trans ac;refine na (i:=m) (q:=J % 10000 / 100) ag ao Ω ad Ω Ω Ω Ω Ω λah Y X=>?_;have U:=fT.pair (nd:=m) (q:=J % 10000 / 100) W Ω;rw[dj,wrap_i64 Ω Ω];refine ap _ _ _ ⟨J / 10000,m,by congr 1;omega,rfl,?_,Ω,Ω,(ay.trans af).trans Y,_,X,?_⟩
   .rw[Nat.pow_add] at an;exact Nat.div_lt_of_lt_mul (by rw[Nat.mul_comm];exact an)
   .rw[show J / 100 / 100=J / 10000 by omega] at U;exact U
  rintro _ _ aa ⟨ab,m,rfl,rfl,aD,a8,aE,af,aw,ag,W⟩;have ao:=W.2.1.trans ac;have ba:(10:Nat) ^ m<=10 ^ 3:=R5 Ω Ω;refine iy (λa b ah=>∃aq m:Nat,a=Δ (m:Int)/\b= .int .u32 (aq:Int)/\aq<10 ^ m/\m<2/\m<=N/\ae (λr=>r=g) w ah/\ ∃aF,je ah g o aj aF al/\fT (gh N u) aF m aq) ?_ ?_
  rotate_left
  .intro aV ap;rw[cr,ak];refine⟨λaC=>?_,λaC=>ap _ _ _ ⟨ab,m,rfl,rfl,aD,Ω,aE,af,aw,ag,W⟩⟩;obtain⟨m,rfl⟩:∃c7,m=c7+2:=⟨m-2,Ω⟩;rw[show U1 .u32 100=U1 .u32 ((100:Nat):Int) from rfl,show U1 .u32 2=U1 .u32 ((2:Nat):Int) from rfl];rw[nb Ω,nc Ω,u32_quo Ω Ω];refine na (i:=m) (q:=ab % 100) ag ao Ω aE Ω Ω Ω Ω Ω λah Y X=>?_;have U:=W.pair (q:=ab % 100) rfl;rw[dj,wrap_i64 Ω Ω];refine ap _ _ _ ⟨ab / 100,m,by congr 1;omega,rfl,?_,Ω,Ω,af.trans Y,_,X,U⟩;rw[Nat.pow_add] at aD;exact Nat.div_lt_of_lt_mul (by rw[Nat.mul_comm];exact aD)
  rintro _ _ ah ⟨aq,m,rfl,rfl,aG,bb,aE,Y,aF,X,U⟩;have aI:=U.2.1.trans ac;rw[bY,ak];refine⟨λaW=>?_,λaW=>?_⟩
  .obtain rfl:m=1:=Ω
   have aG:aq<10:=by simpa using aG
   rw[aL,wrap_u32 Ω Ω,fi nW.u cq.u,wrap_u8 Ω Ω,uY (y:=0) (i:=0) rfl Ω];refine uZ X Ω λaR aB av=>?_;have:=U.one;rw[Nat.mod_eq_of_lt aG] at this;rw[this] at av;exact⟨rfl,Y.trans aB,av⟩
  .obtain rfl:m=0:=Ω
   rw[U.zero] at X;exact⟨rfl,Y,X⟩
def pS:Λ:=[1,10,100,1000,10000,100000,1000000,10000000,100000000,1000000000,10000000000,100000000000,1000000000000,10000000000000,100000000000000,1000000000000000,10000000000000000,100000000000000000,1000000000000000000,10000000000000000000]
def e2 (w:x2):Prop:=w.rangeAt 1 0 (ints .u64 pS)
theorem e2.ext (h:e2 w) (J:Ext w w'):e2 w':=nX J h
theorem IU:∀k:Nat,k<20->pS[k]? =σ (((10 ^ k:Nat)):Int):=Φ
theorem Ax {s:Nat} (h:2 ^ s<=n):dZ n=s+dZ (n / 2 ^ s):=by
 have J:=Nat.two_pow_pos s;have h1:n / 2 ^ s≠0:=by have:=Nat.div_pos h J;omega
 have U:n≠0:=Ω
 unfold dZ;rw[if_neg U,if_neg h1];have e:Nat.log2 n=Nat.log2 (n / 2 ^ s)+s:=by
  refine (Nat.log2_eq_iff U).2 ⟨?_,?_⟩
  .rw[Nat.pow_add];have:=X1 (2 ^ s) (Nat.log2_self_le h1);have:=Nat.div_mul_le_self n (2 ^ s);omega
  .have V:=Nat.lt_log2_self (n:=n / 2 ^ s);rw[show Nat.log2 (n / 2 ^ s)+s+1=(Nat.log2 (n / 2 ^ s)+1)+s by omega,Nat.pow_add];have:=X1 (2 ^ s) (show n / 2 ^ s+1<=2 ^ (Nat.log2 (n / 2 ^ s)+1) by omega);have W:=Nat.lt_div_mul_add J (a:=n);rw[U7] at this;omega
 omega
def pT:ByteArray:=⟨#[0,1,2,2,3,3,3,3,4,4,4,4,4,4,4,4,5,5,5,5,5,5,5,5,5,5,5,5,5,5,5,5,6,6,6,6,6,6,6,6,6,6,6,6,6,6,6,6,6,6,6,6,6,6,6,6,6,6,6,6,6,6,6,6,7,7,7,7,7,7,7,7,7,7,7,7,7,7,7,7,7,7,7,7,7,7,7,7,7,7,7,7,7,7,7,7,7,7,7,7,7,7,7,7,7,7,7,7,7,7,7,7,7,7,7,7,7,7,7,7,7,7,7,7,7,7,7,7,8,8,8,8,8,8,8,8,8,8,8,8,8,8,8,8,8,8,8,8,8,8,8,8,8,8,8,8,8,8,8,8,8,8,8,8,8,8,8,8,8,8,8,8,8,8,8,8,8,8,8,8,8,8,8,8,8,8,8,8,8,8,8,8,8,8,8,8,8,8,8,8,8,8,8,8,8,8,8,8,8,8,8,8,8,8,8,8,8,8,8,8,8,8,8,8,8,8,8,8,8,8,8,8,8,8,8,8,8,8,8,8,8,8,8,8,8,8,8,8,8,8,8,8,8,8,8,8]⟩
theorem IV:pT.size=256:=by decide+kernel
theorem IW:∀q:Fin 256,pT.data.toList[q.val]? =σ (UInt8.ofNat (dZ q.val)):=by decide+kernel
theorem IX {q:Nat} (J:q<256):∀h,(pT[q]'h).toNat=dZ q:=λh=>by
 have h1:=IW ⟨q,J⟩;have U:=(x4.1 h1).2;have:pT[q]=UInt8.ofNat (dZ q):=U;have V:=Au J;rw[this,UInt8.toNat_ofNat'];omega
theorem IY (am:n<18446744073709551616):ai x3 FI [.int .u64 (n:Int)] w λv w'=>v=Δ (dZ n:Int)/\Ext w w':=by
 refine az func212 ?_;have step:∀ {s x m:Nat} {Y:y0->y0->x2->Prop} {y c:Int},s<64->x<18446744073709551616->m+dZ x=dZ n->m<=64->y=(2 ^ s:Nat)->c=(s:Int)->2 ^ s<=18446744073709551615->(∀W c7:Nat,W<2 ^ s\/(W=x / 2 ^ s/\c7=m+s)->W<=x->c7+dZ W=dZ n->c7<=m+s->Y (.int .u64 (W:Int)) (Δ (c7:Int)) w)->
   U x3 (aA .geq eH false true (.int .u64 (x:Int)) (.int .u64 y)) w λt4=>
    Split t4 (U x3 (aA .shr eH false true (.int .u64 (x:Int)) (.int .u64 c)) w λaf=>U x3 (aA .add ac false true (Δ (m:Int)) (Δ c)) w λag=>Y af ag w) (Y (.int .u64 (x:Int)) (Δ (m:Int)) w):=by
  intro s x m Y y c J aa hm an ah aj ad X;subst ah aj;rw[cr,ak];refine⟨λh=>?_,λh=>X x m (.inl Ω) (n9 _) hm Ω⟩;rw[rH J,aL,wrap_i64 Ω Ω];have:=Ax (n:=x) (s:=s) Ω;have:=X (x / 2 ^ s) (m+s) (.inr ⟨rfl,rfl⟩) (Nat.div_le_self _ _) Ω Ω;exact this
 refine iy (λx m V=>w=V/\ ∃W c7:Nat,x= .int .u64 (W:Int)/\m=Δ (c7:Int)/\W<4294967296/\c7+dZ W=dZ n/\c7<=32) ?_ ?_
 rotate_left
 .intro Y X;rw[cr,ak];refine⟨λh=>?_,λh=>X _ _ _ ⟨rfl,n,0,rfl,rfl,Ω,Ω,Ω⟩⟩;rw[show U1 .u64 32=U1 .u64 ((32:Nat):Int) from rfl,rH Ω];have:=Ax (n:=n) (s:=32) Ω;exact X _ _ _ ⟨rfl,n / 2 ^ 32,32,rfl,rfl,Ω,Ω,Ω⟩
 rintro _ _ _ ⟨rfl,x,m,rfl,rfl,aa,hm,ae⟩;refine iy (λx m V=>w=V/\ ∃W c7:Nat,x= .int .u64 (W:Int)/\m=Δ (c7:Int)/\W<65536/\c7+dZ W=dZ n/\c7<=48) ?_ ?_
 rotate_left
 .intro Y X;refine step (s:=16) Ω Ω hm Ω Ω Ω Ω λW c7 h1 ad ab al=>X _ _ _ ⟨rfl,W,c7,rfl,rfl,?_,ab,Ω⟩;rcases h1 with h1|⟨h1,_⟩<;>omega
 rintro _ _ _ ⟨rfl,x,m,rfl,rfl,aa,hm,ae⟩;refine iy (λx m V=>w=V/\ ∃W c7:Nat,x= .int .u64 (W:Int)/\m=Δ (c7:Int)/\W<256/\c7+dZ W=dZ n/\c7<=56) ?_ ?_
 rotate_left
 .intro Y X;refine step (s:=8) Ω Ω hm Ω Ω Ω Ω λW c7 h1 ad ab al=>X _ _ _ ⟨rfl,W,c7,rfl,rfl,?_,ab,Ω⟩;rcases h1 with h1|⟨h1,_⟩<;>omega
 rintro _ _ _ ⟨rfl,x,m,rfl,rfl,aa,hm,ae⟩;have J:=IV;have ao:=Au aa;rw[fi eH.u cq.u,wrap_u8 Ω Ω];refine (sa (s:=pT) c3.u (by rw[J];omega)).mpr ?_;rw[IX aa,fi cq.u ac.u,wrap_i64 Ω Ω,aL,wrap_i64 Ω Ω];exact⟨by congr 1;omega,Ext.refl _⟩
theorem Ay {k:o6} {a:Nat} (J:n<64):U x3 (aA .shr t cx cy (Δ (a:Int)) (.int k (n:Int))) w K=K (Δ ((a / 2 ^ n:Nat):Int)):=U.of λw' _=>by
 have e:(a:Int).fdiv (2 ^ min n X2.bits)=((a / 2 ^ n:Nat):Int):=by
  have:min n X2.bits=n:=S4 (by show n<=64;omega);rw[this,Int.fdiv_eq_ediv_of_nonneg _ (by exact Int.le_of_lt (Int.pow_pos Ω))];simp
 simp only[aA,eqGuard,binOp,Op.shift,j0,e];rfl
theorem IZ:∀L:Fin 64,7<=L.val->2 ^ L.val<=10 ^ (L.val*78913 / 262144+1)/\10 ^ (L.val*78913 / 262144)<=10*2 ^ (L.val-1)/\1<=L.val*78913 / 262144/\L.val*78913 / 262144<19:=by decide+kernel
theorem I0 {d:Nat} (ae:e2 w) (h1:100<=d) (al:d<9223372036854775808):ai x3 Gs [.int .u64 (d:Int)] w λv w'=>Ext w w'/\ ∃n:Nat,v=Δ ((n+1:Nat):Int)/\n<19/\10 ^ n<=d/\d<10 ^ (n+1):=by
 have X:d≠0:=Ω
 have Y:dZ d=Nat.log2 d+1:=by unfold dZ;rw[if_neg X]
 have am:2 ^ (dZ d-1)<=d:=by rw[Y];exact Nat.log2_self_le X
 have an:d<2 ^ dZ d:=by rw[Y];exact Nat.lt_log2_self
 have af:7<=dZ d:=by
  by_cases h:7<=dZ d
  .exact h
  .have:2 ^ dZ d<=2 ^ 6:=R5 Ω Ω;omega
 have ag:dZ d<64:=by
  by_cases h:dZ d<64
  .exact h
  .have:2 ^ 63<=2 ^ (dZ d-1):=R5 Ω Ω;omega
 obtain⟨ah,ab,t3,t4⟩:=IZ ⟨dZ d,ag⟩ af;simp only at ah ab t3 t4;refine az func298 ?_;refine (IY Ω).mono ?_;rintro _ V _ ⟨rfl,J⟩;generalize dZ d=L at*;refine ai.mono (K:=λv aa=>v=Δ ((L*78913 / 262144:Nat):Int)/\Ext V aa) ?_ ?_
 .refine az func319 ?_;rw[fL,wrap_i64 Ω Ω,show U1 .u64 18=U1 .u64 ((18:Nat):Int) from rfl,show (L:Int)*78913=((L*78913:Nat):Int) by omega,Ay Ω];exact⟨rfl,Ext.refl _⟩
 rintro _ aa _ ⟨rfl,U⟩;generalize L*78913 / 262144=t at*;have aj:=IU t Ω;rw[ub (t:=rr) rr.u eH.i Ω,aS Ψ (by rw[S2];exact ((ae.ext J).ext U) _ _ (ke aj)),cr];refine ai.mono (K:=λv ac=>v=Δ ((if 10 ^ t<=d then 1 else 0:Nat):Int)/\Ext aa ac) ?_ ?_
 .refine az func320 ?_;rw[ak];refine⟨λh=>⟨by rw[if_pos Ω];rfl,Ext.refl _⟩,λh=>⟨by rw[if_neg Ω];rfl,Ext.refl _⟩⟩
 rintro _ ac _ ⟨rfl,ad⟩;rw[aL];by_cases W:10 ^ t<=d
 .rw[if_pos W,wrap_i64 Ω Ω];exact⟨(J.trans U).trans ad,t,by congr 1,t4,W,Ω⟩
 .rw[if_neg W,wrap_i64 Ω Ω];obtain⟨s,rfl⟩:∃s,t=s+1:=⟨t-1,Ω⟩;rw[Nat.pow_succ] at ab;exact⟨(J.trans U).trans ad,s,by congr 1,Ω,Ω,Ω⟩
theorem Az {k J:o6} {x:Int} {i:Nat} {s:ByteArray} (V:x=(i:Int)) (W:y=(j:Int)) (X:x3.underlying t=σ .string) (Y:i<=j) (aa:j<=s.size):
  U x3 (V5 t (.string s) (σ (.int k x)) (σ (.int J y)) ν) w K=K (.string (s.extract i j)):=U.of λw' _=>by
 subst V W;have ab:=rv (P:=x3) w' (sl:=false) (n:=s.size) (c:=s.size) (low:=σ (.int k (i:Int))) (high:=σ (.int J (j:Int))) (mx:=ν) (l:=i) (h:=j) (m:=s.size) ⟨k,rfl⟩ ⟨J,rfl⟩ eJ Y aa (n9 _);simp[V5,Instr.slice,run_underlying X,ab]
theorem I1:∀q:Fin 100,jd.extract (2*q.val) (2*q.val+2)=strOfNums [48+((q.val / 10:Nat):Int),48+((q.val % 10:Nat):Int)]:=by decide+kernel
def AA:ByteArray:=⟨#[48,49,50,51,52,53,54,55,56,57,97,98,99,100,101,102,103,104,105,106,107,108,109,110,111,112,113,114,115,116,117,118,119,120,121,122]⟩
theorem I2:∀q:Fin 10,AA.extract q.val (q.val+1)=strOfNums [48+(q.val:Int)]:=by decide+kernel
theorem AB (h:n<10):e8 n=[48+(n:Int)]:=by rw[mR,if_pos h,Nat.mod_eq_of_lt h];rfl
theorem I3 (h1:10<=n) (J:n<100):e8 n=[48+((n / 10:Nat):Int),48+((n % 10:Nat):Int)]:=by
 rw[mR,if_neg Ω,AB Ω];rfl
theorem I4 (J:n<100):ai x3 Gr [Δ (n:Int)] w λv w'=>v=bU (e8 n)/\Ext w w':=by
 refine az func297 ?_;rw[aQ,ak];refine⟨λh=>?_,λh=>?_⟩
 .rw[aL,wrap_i64 Ω Ω];refine (Az (s:=AA) (i:=n) (j:=n+1) rfl Ω c3.u Ω (by show n+1<=36;omega)).mpr ?_;rw[I2 ⟨n,Ω⟩,AB Ω];exact⟨rfl,Ext.refl _⟩
 .rw[fL,wrap_i64 Ω Ω,fL,wrap_i64 Ω Ω,aL,wrap_i64 Ω Ω];refine (Az (s:=jd) (i:=2*n) (j:=2*n+2) Ω Ω c3.u Ω (by rw[Aw];omega)).mpr ?_;rw[I1 ⟨n,J⟩,I3 Ω J];exact⟨rfl,Ext.refl _⟩
theorem I5 {g:Nat} {V W:Λ} (J:je w g 1 V C W) (X:C.length<=23):aH .u8 w (.slice (σ ⟨g,1,ν⟩) C.length 23) C:=by
 obtain⟨J,Y⟩:=J;refine⟨Ξ,g,1,_,23,rfl,X,by simp[maxLen],λ_=>rfl,λj v U=>?_⟩;have aa:j<C.length:=by have:=(x4.1 U).1;simpa using this
 refine J.cell ?_;rw[ints,j9,j9,Y3 Θ,Y5 Θ,u5,Y,Q1];exact U
theorem AC {g:Nat} (J:y=((m+2:Nat):Int)) (hm:m<=22):
  U x3 (V5 lO (Γ g) (σ (Δ 1)) (σ (Δ y)) ν) w K=K (.slice (σ ⟨g,1,ν⟩) (m+1) 23):=by
 subst J;have:=rx (w:=w) (b:=g) (o:=0) (low:=σ (Δ 1)) (high:=σ (Δ ((m+2:Nat):Int))) (mx:=ν) (l:=1) (h:=m+2) (m:=24) (K:=K) lO.u cq.i ⟨_,rfl⟩ ⟨_,rfl⟩ eJ Ω Ω Ω;rw[this,if_neg Ω];rfl
theorem I6 (ab:e2 w) (ac:n<9223372036854775808):ai x3 Gl [Δ (n:Int),Δ 10] w λv w'=>v=bU (e8 n)/\Ext w w':=by
 refine az func287 ?_;rw[bn];refine (ak).mpr ⟨λ_=>?_,λh=>absurd rfl h⟩;refine aR (λv V=>w=V/\v= .bool (decide (n<100))) ?_ ?_
 rotate_left
 .intro ad U;rw[mz,ak];refine⟨λ_=>?_,λh=>Ω⟩;rw[aQ];exact U _ _ ⟨rfl,by congr 1;rw[U4,decide_eq_true_eq,decide_eq_true_eq];omega⟩
 rintro _ _ ⟨rfl,rfl⟩;rw[ak];refine⟨λh=>?_,λh=>?_⟩
 .exact (I4 h).mono λ_ _ _ h=>h
 refine bp lO.i λg V am W ae=>?_;rw[fi an.u eH.u,wrap_u64 Ω Ω];refine aR (λv aa=>V=aa/\v= .int .u64 (n:Int)) ?_ ?_
 rotate_left
 .intro ad U;rw[aQ,ak];exact⟨λh=>Ω,λ_=>U _ _ ⟨rfl,rfl⟩⟩
 rintro _ _ ⟨rfl,rfl⟩;refine (I0 (ab.ext W) Ω ac).mono ?_;rintro _ aa _ ⟨X,m,rfl,hm,af,Y⟩;rw[aL,wrap_i64 Ω Ω];rw[AC (m:=m) Ω Ω];have ag:je aa g 1 [0] (o8 (m+1) 0) (o8 (22-m) 0):=by
  refine⟨?_,rfl⟩;have e:[0]++o8 (m+1) (0:Int)++o8 (22-m) 0=o8 24 0:=by
   rw[show[(0:Int)]=o8 1 0 from rfl,List.replicate_append_replicate,List.replicate_append_replicate];congr 1;omega
  rw[e];exact ae.ext X
 refine (IT (N:=m+1) ag Ξ Ω Y).mono ?_;rintro _ ao _ ⟨rfl,ah,aj⟩;refine b2 Ω ?_;rw[aL,wrap_i64 Ω Ω];rw[AC (m:=m) Ω Ω];have al:=pR (m+1) n;have J:=I5 aj Ω;rw[al] at J;rw[uu cH.u cq.u c3.u J,Av m n af Y];refine⟨rfl,(W.trans X).then ah λr ap he=>?_⟩;have he:r=g:=he;omega
theorem I7 (J:e2 w) (U:n<9223372036854775808):ai x3 tV [Δ (n:Int)] w λv w'=>v=bU (e8 n)/\Ext w w':=by
 refine az func226 ?_;refine ai.mono (K:=λv w'=>v=bU (e8 n)/\Ext w w') ?_ (λ_ _ _ h=>h);refine az func263 ?_;exact (I6 J U).mono λ_ _ _ h=>h
theorem e2.ab (h:e2 w) (J:ae S w w') (U:¬S 1):e2 w':=nY J U h
def dh (w:x2) (g gs:Nat) (A:ah) (B:ah) (clean:Bool) (s:Option aE):Prop:=match s with
 |some s=>dd w g gs A B s clean
 |none=>eu w g gs A B
theorem fA.of {g:Nat} {A:ah} {B:ah} {s:Option aE} (h:fA w g gs A B clean s w'):ae (bE g gs A) w w'/\dh w' g gs A B clean s:=h
theorem fA.mk {g:Nat} {A:ah} {B:ah} {s:Option aE} (h:ae (bE g gs A) w w') (J:dh w' g gs A B clean s):fA w g gs A B clean s w':=⟨h,J⟩
theorem dh.ab {g:Nat} {A:ah} {B:ah} {s:Option aE} (h:dh w g gs A B clean s) (J:ae S w w') (U:∀r,bE g gs A r->¬S r) (V:∀r,cA g gs A B r->¬S r):dh w' g gs A B clean s:=by
 cases s with
 |none=>exact eu.ab (g:=g) (gs:=gs) (A:=A) (B:=B) h J U V
 |some s=>exact dd.ab (g:=g) (gs:=gs) (A:=A) (B:=B) (s:=s) (clean:=clean) h J U V
theorem dh.ext {g:Nat} {A:ah} {B:ah} {s:Option aE} (h:dh w g gs A B clean s) (J:Ext w w'):dh w' g gs A B clean s:=h.ab (J.ab λ_=>False) (λ_ _ h=>h) λ_ _ h=>h
theorem dh.side {g:Nat} {A:ah} {B:ah} {s:Option aE} (h:dh w g gs A B clean s):kj w g gs A B:=by
 cases s with
 |none=>exact h.1
 |some s=>exact h.1
def a8 (lo hi:Int) (s:Option aE):Option (Int×aE):=s.bind (ba lo hi)
theorem k9 {g:Nat} {A:ah} {B:ah} {s:Option aE} (h:dh w g gs A B clean s):ai x3 mq [Γ g,Δ lo,Δ hi] w λv w'=>fA w g gs A B clean ((a8 lo hi s).map (·.2)) w'/\ ∃n at_:Int,v= .tuple #[Δ n,Δ at_]/\(∀q,a8 lo hi s=σ q->n=q.1)/\(a8 lo hi s=ν->n=0):=by
 cases s with
 |none=>
  refine (H2 h).mono ?_;rintro _ V _ ⟨J,rfl⟩;exact⟨⟨J.ab _,eu.ext (g:=g) (gs:=gs) (A:=A) (B:=B) h J⟩,0,0,rfl,λq h=>(by cases h),λ_=>rfl⟩
 |some s=>exact uL (s:=s) h
theorem oB {g:Nat} {A:ah} {B:ah} {s:Option aE} (h:dh w g gs A B clean s):ai x3 j3 [Γ g] w λv w'=>v= .bool s.isSome/\Ext w w':=by
 cases s with
 |none=>exact mY h
 |some s=>exact ov h
theorem I8 {g:Nat} {A:ah} {B:ah} {s:Option aE} {e:Int} (h:dh w g gs A B clean s) (he:e≠0):ai x3 mr [Γ g,Δ e,Δ at_] w λ_ w'=>fA w g gs A B clean ν w':=by
 cases s with
 |none=>
  refine (H0 h).mono ?_;rintro _ V _ J;exact⟨J.ab _,eu.ext (g:=g) (gs:=gs) (A:=A) (B:=B) h J⟩
 |some s=>
  refine (rR (s:=s) h he).mono ?_;rintro _ V _ ⟨U,W⟩;exact⟨U.mono λr _ h=>.inl h,W⟩
theorem pU {g:Nat} {A:ah} {B:ah} {s:Option aE} {b:Bool} (h:dh w g gs A B clean s):ai x3 po [Γ g,.bool b,Δ at_] w λ_ w'=>fA w g gs A B clean (s.map (a6 b)) w':=by
 cases s with
 |none=>
  refine (zS h).mono ?_;rintro _ V _ J;exact⟨J.ab _,eu.ext (g:=g) (gs:=gs) (A:=A) (B:=B) h J⟩
 |some s=>
  refine (rS (s:=s) h).mono ?_;rintro _ V _ ⟨U,W⟩;exact⟨U.mono λr _ h=>.inl h,W⟩
theorem l0 {n:Int} {s:Option aE} {s':aE} (h:a8 lo hi s=σ (n,s')):lo<=n/\n<=hi:=by
 cases s with
 |none=>cases h
 |some s=>exact (hr h).1
def eU (ks acc:Λ) (s:Option aE):Option (Λ×aE):=s.bind (h8 ks acc)
theorem AD {acc:Λ} {s:Option aE}:eU (k::ks) acc s=match a8 0 (k-1) s with
  |none=>ν
  |some (v,s)=>h8 ks (acc++[v]) s:=by
 cases s with
 |none=>rfl
 |some s=>
  show h8 (k::ks) acc s=_;rw[h8];show _=match ba 0 (k-1) s with|none=>ν|some (v,s)=>h8 ks (acc++[v]) s
  cases ba 0 (k-1) s<;>rfl
theorem AE:∀ (t:Λ),(∀x∈t,0<=x/\x<=aq)->(dV t).length<=20*t.length
 |[],_=>by simp[dV]
 |x::t,h=>by
  have V:=AE t λy J=>h y (.tail _ J);have U:=h x (.head _);have W:=ux 19 x.toNat (by unfold aq at U;omega) Ω;have e:dV (x::t)=e8 x.toNat++[32]++dV t:=by simp[dV]
  rw[e];simp only[r8,Z5,List.length_nil];omega
theorem I9 {g am:Nat} {A B:ah} {s:Option aE} {sizes:Λ} {aS:y0->x2->Prop}
  (h:dh w g gs A B clean s) (aT:aH .i64 w sv sizes) (bh:∀r,leads sv r->¬bE g gs A r/\r≠am) (bi:∀z∈sizes,1<=z/\z<=aq) (cb:sizes.length<=100001) (bl:e2 w) (h1:cA g gs A B 1)
  (aU:ad w am dU [.slice ν 0 0,Δ 0]) (aV:¬bE g gs A am) (aW:¬B am)
  (aX:∀t w' aF J,t.length=sizes.length->(∀x∈t,0<=x/\x<=aq)->ae (λr=>bE g gs A r\/r=am) w w'->ad w' am dU [aF,Δ 0]->ao .i64 an w' J aF t->w.heap.size<=J->
   dh w' g gs A B clean ((eU sizes [] s).map (·.2))->(∀q,eU sizes [] s=σ q->t=q.1)->aS (bU (dV t)) w'):
  bA (.string ⟨#[]⟩) (Δ 0) w λkey aJ af bm=>
   U x3 (aA .lss ac false false aJ (Δ (sizes.length:Int))) af λbn=>
   Split bn (U x3 (l7 au sv aJ) af λbo=>
   U x3 (x7 an bo) af λbp=>
   U x3 (aA .sub an false true bp (Δ 1)) af λbq=>
   ai x3 mq [Γ g,(Δ 0),bq] af λaY ak=>
   U x3 (Y0 aY 0) ak λa1=>
   U x3 (Y0 aY 1) ak λcc=>
   U x3 (x8 dU (Γ am) 0) ak λbr=>
   U x3 (x7 au br) ak λbt=>
   ay x3 (Y1 au 1 #[(0,a1)]) ak λbu bw=>
   ay x3 (j4 #[au,au] au #[bt,bu]) bw λbx a2=>
   U x3 (x8 dU (Γ am) 0) a2 λbz=>
   ay x3 (o7 au bz bx) a2 λ(_:Unit) bB=>
   ai x3 tV [a1] bB λbC aw=>
   U x3 (aA .add c3 false true bC (.string ⟨#[32]⟩)) aw λbD=>
   U x3 (aA .add c3 false false key bD) aw λbF=>
   U x3 (aA .add ac false true aJ (Δ 1)) aw λbG=>
   bm bF bG aw) (aS key af):=by
 have cd:=aU.lt;have bH:=h.side;obtain⟨ce,cg,ch,bI,bJ⟩:=bH;refine bA.range sizes.length (λj key V=>∃t aF J s1,key=bU (dV t)/\t.length=j/\(∀x∈t,0<=x/\x<=aq)/\ae (λr=>bE g gs A r\/r=am) w V/\ad V am dU [aF,Δ 0]/\ao .i64 an V J aF t/\w.heap.size<=J/\
  dh V g gs A B clean s1/\eU sizes [] s=eU (sizes.drop j) t s1) aT.le ⟨[],_,w.heap.size,s,rfl,rfl,λx Y=>(by cases Y),ae.refl _ _,aU,ao.nil _ _ _ _,n9 _,h,rfl⟩ ?_ ?_
 rotate_left
 .rintro _ V bK ⟨t,aF,J,s1,rfl,ax,al,aj,az,aB,aK,aC,he⟩;refine b2 Ω ?_;rw[List.drop_length] at he;cases s1 with
  |none=>
   have he:eU sizes [] s=ν:=he;exact aX t V aF J ax al aj az aB aK (by rw[he];exact aC) (λq W=>by rw[he] at W;cases W)
  |some s1=>
   have he:eU sizes [] s=σ (t,s1):=he;exact aX t V aF J ax al aj az aB aK (by rw[he];exact aC) (λq W=>by rw[he] at W;cases W;rfl)
 rintro j _ V bK a6 ⟨t,aF,J,s1,rfl,ax,al,aj,az,aB,aK,aC,he⟩ bN;obtain⟨z,aO⟩:=aN (l:=sizes) a6;have bO:=bi z (x5 aO);have ci:z<=4611686018427387904:=bO.2;have bP:aH .i64 V sv sizes:=iZ aT aj λr X a n c bQ bR=>by
  have:=bh r ⟨a,n,c,bQ,bR⟩;exact X.elim this.1 this.2
 have ag:∀r,bE g gs A r->r<w.heap.size:=bI;refine bk Ω ?_;rw[bf au.u an.i Ψ bP aO,dj,wrap_i64 Ω Ω];refine (k9 aC).mono ?_;rintro _ aa _ ⟨bS,n,at_,rfl,a7,bT⟩;obtain⟨aD,bV⟩:=bS.of;have ba:0<=n/\n<=aq:=by
  cases W:a8 0 (z-1) s1 with
  |none=>rw[bT W];exact⟨Ω,by unfold aq;omega⟩
  |some q=>
   rw[a7 q W];have:=l0 (s':=q.2) (n:=q.1) W;exact⟨this.1,by unfold aq;omega⟩
 rw[bL,bM];have bb:=az.ab aD aV;have bW:=aB.ab aD λ_ bX=>by have:=ag _ bX;omega
 rw[av dU.p 0 bb rfl];refine dJ au.u an.i rfl λa aZ bY cj ap bZ=>?_;refine h6 au.u an.i rfl (bW.ext ap) bZ.ls Θ Θ λbc bd b0 ck aP aG=>?_;have cl:=aj.size;have cm:=aD.size;have z3:=ap.size;have z4:=aG.size;rw[aM dU.p rfl];have b1:=(bb.ext ap).ab aG (λhe=>by have he:am=J:=he;omega);refine bj (g:=am) (o:=0) au.i aP.ls.cells.1 aP.ls.cells.2 b1 Ξ λbe aQ cn aR=>?_;have aR:ad be am dU [bc,Δ 0]:=aR;have b3:ae (λr=>bE g gs A r\/r=am) w bY:=(aj.trans (aD.mono λr _ h=>.inl h)).trans (ap.ab _);have b4:ae (λr=>bE g gs A r\/r=am) w b0:=gy b3 aG λr X he=>by have he:r=J:=he;omega
 have bg:ae (λr=>bE g gs A r\/r=am) w be:=b4.trans (aQ.mono λr _ h=>.inr h);have b5:¬(λr=>bE g gs A r\/r=am) 1:=λh=>h.elim h1.1 λh=>aW (h▸h1.2);obtain⟨m,rfl⟩:∃m:Nat,n=(m:Int):=⟨n.toNat,Ω⟩;unfold aq at ba;refine (I7 (bl.ab bg b5) Ω).mono ?_;rintro _ cp _ ⟨rfl,aI⟩;have cq:=ux 19 m Ω Ω;have cr:=AE t al;rw[show (ByteArray.mk #[32])=strOfNums [32] from rfl,ur Θ,ur Θ,aL];refine bN _ _ ⟨t++[(m:Int)],bc,bd,(a8 0 (z-1) s1).map (·.2),?_,by simp[ax],λx Y=>?_,bg.trans (aI.ab _),aR.ext aI,(aP.ab aQ (λ_ he=>by have he:bd=am:=he;omega)).ext aI,Ω,?_,?_⟩
 .rw[Hk,j0]
 .rcases l5.1 Y with Y|Y
  .exact al x Y
  .rw[l9.1 Y];exact ba
 .refine dh.ext ?_ aI;have b6:=bV.ext ap;have b7:∀r,bE g gs A r->¬(λr=>r=J) r:=λr X he=>by have:=ag r X;have he:r=J:=he;omega
  have b8:∀r,cA g gs A B r->¬(λr=>r=J) r:=λr X he=>by have:=bJ r X.2;have he:r=J:=he;omega
  have b9:∀r,bE g gs A r->¬(λr=>r=am) r:=λr X he=>by have he:r=am:=he;exact aV (he▸X)
  have ca:∀r,cA g gs A B r->¬(λr=>r=am) r:=λr X he=>by have he:r=am:=he;exact aW (he▸X.2)
  exact (b6.ab aG b7 b8).ab aQ b9 ca
 .rw[he,V4 a6,show sizes[j]=z from (x4.1 aO).2,AD];cases W:a8 0 (z-1) s1 with
  |none=>rfl
  |some q=>
   rw[a7 q W];rfl
def dL (s:aE):Prop:=s.big=false->s.told<=16384
def jf (n:Int) (s:aE):aE:=a6 (decide (16384<min (s.told+n) aq)) {s with told:=min (s.told+n) aq}
theorem Ja (n:Int) (s:aE):dL (jf n s):=λh=>by
 have h:(s.big||decide (16384<min (s.told+n) aq))=false:=h;have:=of_decide_eq_false (R3.1 h).2;show min (s.told+n) aq<=16384;omega
theorem Jb {g:Nat} {A B:ah} {s:Option aE} {n:Int} {K:x2->Prop} (h:dh w g gs A B clean s) (ax:∀t,s=σ t->0<=n/\n<=aq/\dL t)
  (ap:∀w',ae (bE g gs A) w w'->dh w' g gs A B clean (s.map (jf n))->K w'):
  U x3 (bd (Γ g)) w λaz=>
  U x3 (x8 cd az 2) w λaB=>
  U x3 (x7 an aB) w λaC=>
  U x3 (aA .add an false false aC (Δ n)) w λaD=>
  U x3 (j5.min_ #[an,an] an #[aD,(Δ 4611686018427387904)]) w λaF=>
  U x3 (bd (Γ g)) w λaG=>
  U x3 (x8 cd aG 2) w λaH=>
  ay x3 (o7 an aH aF) w λ(_:Unit) ac=>
  U x3 (bd (Γ g)) ac λt77=>
  U x3 (x8 cd t77 2) ac λaI=>
  U x3 (x7 an aI) ac λaJ=>
  U x3 (aA .gtr an false true aJ (Δ 16384)) ac λaN=>
  ai x3 po [Γ g,aN,Δ at_] ac λ_ aO=>K aO:=by
 cases s with
 |none=>
  obtain⟨J,e,big,ag,aj,told,sv,l,af,ak,am⟩:=id h;rw[aK cd.p 2 af rfl,aL,iW,bu,aM cd.p rfl];refine bj (g:=g) (o:=5) an.i rfl rfl af (by simp[fm]) λV W aP X=>?_;rw[aK cd.p 2 X rfl,bY];have au:eu V g gs A B:=⟨J.ab W,e,big,ag,aj,_,sv,l,X,ak,al.ab am W λr _ h ao=>rP h J.2.1 ao⟩;refine (zS au).mono ?_;rintro _ aa _ av;exact ap _ ((W.mono λr _ h=>.inl h).trans (av.ab _)) (au.ext av)
 |some s=>
  obtain⟨aW,aQ,hi⟩:=ax s rfl;obtain⟨J,aR,aS,big,ag,aj,told,sv,af,ak,am⟩:=id h;rw[aK cd.p 2 af rfl,aL,iW,bu,aM cd.p rfl];refine bj (g:=g) (o:=5) an.i rfl rfl af (by simp[fm]) λV W aP X=>?_;have X:ad V g cd (fm gs 0 big ag aj (min (X2.wrap (told+n)) 4611686018427387904) sv):=X;rw[aK cd.p 2 X rfl,bY];have key:s.big=false->min (X2.wrap (told+n)) 4611686018427387904=min (s.told+n) aq:=λY=>by
   rw[ak.2 Y];have:=hi Y;unfold aq at aQ ⊢;rw[wrap_i64 Ω Ω]
  have aT:dd V g gs A B {s with told:=min (s.told+n) aq} clean:=⟨J.ab W,aR.ab W (λhe=>J.1 he.symm) (λr aU he=>aU.1 (.inl he)),⟨by show 0<=min _ _;unfold aq;omega,by show min _ _<=_;omega,aS.2.2⟩,big,ag,aj,_,sv,X,⟨ak.1,key⟩,al.ab am W λr _ h ao=>rP h J.2.1 ao⟩;refine (rS aT).mono ?_;rintro _ aa _ ⟨aV,aw⟩;refine ap _ ((W.trans aV).mono λr _ h=>.inl h) ?_;have e:a6 (decide (16384<min (X2.wrap (told+n)) 4611686018427387904)) {s with told:=min (s.told+n) aq}=jf n s:=by
   cases Y:s.big with
   |false=>rw[key Y,<-Y];rfl
   |true=>simp[jf,a6,Y]
  rw[e] at aw;exact aw
def ig (sizes:Λ) (s:Option aE):Option (List (Λ×Int)×aE):=s.bind (ds sizes)
def km (w:x2) (m:Nat) (acc:List (Λ×Int)):Prop:=c6 w m (acc.map λp=>(bU (dV p.1),Δ 1))
def jG (w:x2) (m:Nat):Prop:=∃d,c6 w m d/\ ∀p∈d,∃ (k:ByteArray) (c:Int),p=(.string k,Δ c)
theorem km.any {acc:List (Λ×Int)} (h:km w m acc):jG w m:=⟨_,h,λp J=>by
 obtain⟨q,_,rfl⟩:=Z6.1 J;exact⟨_,_,rfl⟩⟩
theorem Jc {k:ByteArray} (h:jG w m) (W:∀c:Int,K (Δ c)):U x3 (Instr.lookup gv (.map (σ m)) (.string k) false) w K:=by
 obtain⟨d,hm,X⟩:=h;have hk:=Keys.str c3.u;have Y:∀p∈d,∃s,p.1=y0.string s:=λp J=>by obtain⟨s,c,rfl⟩:=X p J;exact⟨s,rfl⟩
 by_cases he:∃p∈d,p.1=y0.string k
 .obtain⟨p,J,V⟩:=he;obtain⟨j,aa⟩:=X4.1 J;obtain⟨s,c,rfl⟩:=X p J;have V:y0.string s=y0.string k:=V;rw[V] at aa;rw[pK gv.u hk hm Y ⟨k,rfl⟩ aa];exact W c
 .have ab:∀p∈d,p.1≠y0.string k:=λp J h=>he ⟨p,J,h⟩;rw[r1 gv.u hk ⟨_,_,ac.i⟩ hm Y ⟨k,rfl⟩ ab];exact W 0
theorem Jd {k:ByteArray} {K:Unit->x2->Prop} (h:jG w m) (X:∀w',ae (λr=>r=m) w w'->jG w' m->K () w'):ay x3 (Instr.mapUpdate gv (.map (σ m)) (.string k) (Δ c)) w K:=by
 obtain⟨d,hm,U⟩:=h;have Y:∀p∈d,∃s,p.1=y0.string s:=λp J=>by obtain⟨s,c,rfl⟩:=U p J;exact⟨s,rfl⟩
 refine pL gv.u (Keys.str c3.u) hm Y ⟨k,rfl⟩ (λj v0 w' aa V W=>X w' W ⟨_,V,λp J=>?_⟩) (λw' ab V W=>X w' W ⟨_,V,λp J=>?_⟩)
 .rcases W8 J with J|rfl
  .exact U p J
  .exact⟨_,_,rfl⟩
 .rcases l5.1 J with J|J
  .exact U p J
  .rw[l9.1 J];exact⟨_,_,rfl⟩
theorem AF {b:Λ} (J:∀x∈a,0<=x) (U:∀x∈b,0<=x) (h:bU (dV a)=bU (dV b)):a=b:=by
 have h:strOfNums (dV a)=strOfNums (dV b):=y0.string.inj h;exact za J U (str_inj (zb a) (zb b) h)
theorem u0 {acc:List (Λ×Int)}:∀p∈acc.map λp=>(bU (dV p.1),U1 .i64 1),∃s,p.1=y0.string s:=λp J=>by
 obtain⟨q,_,rfl⟩:=Z6.1 J;exact⟨_,rfl⟩
theorem AG {acc:List (Λ×Int)} {t:Λ} (h:km w m acc) (W:∀p∈acc,∀x∈p.1,0<=x) (X:∀x∈t,0<=x):
  U x3 (Instr.lookup gv (.map (σ m)) (bU (dV t)) false) w K=K (Δ (if t∈acc.map (·.1) then 1 else 0)):=by
 have hk:=Keys.str c3.u;by_cases he:t∈acc.map (·.1)
 .rw[if_pos he];obtain⟨p,J,rfl⟩:=Z6.1 he;obtain⟨j,Y⟩:=X4.1 J;rw[pK gv.u hk h u0 ⟨_,rfl⟩ (j:=j) (v:=Δ 1) (by rw[u4,Y];rfl)];simp
 .rw[if_neg he];rw[r1 gv.u hk ⟨_,_,ac.i⟩ h u0 ⟨_,rfl⟩ (λp J aa=>?_)]
  .simp
  .obtain⟨q,V,rfl⟩:=Z6.1 J;have:=AF (W q V) X aa;exact he (Z6.2 ⟨q,V,this⟩)
theorem Je {acc:List (Λ×Int)} {t:Λ} {K:Unit->x2->Prop} (h:km w m acc) (Y:∀p∈acc,∀x∈p.1,0<=x) (aa:∀x∈t,0<=x) (ab:t∉acc.map (·.1))
  (ac:∀w',ae (λr=>r=m) w w'->km w' m (acc++[(t,c)])->K () w'):ay x3 (Instr.mapUpdate gv (.map (σ m)) (bU (dV t)) (Δ 1)) w K:=by
 refine pL gv.u (Keys.str c3.u) h u0 ⟨_,rfl⟩ (λj v0 w' U V W=>?_) (λw' _ V W=>ac w' W ?_)
 .rw[u4] at U;obtain⟨q,X,J⟩:=X5.1 U;have J:bU (dV q.1)=bU (dV t):=congrArg Prod.fst J;have:=AF (Y q (x5 X)) aa J;exact absurd (Z6.2 ⟨q,x5 X,this⟩) ab
 .unfold km;rw[j9];exact V
end Go.Proofs.YthjegppepbbojaaGreatDoor
