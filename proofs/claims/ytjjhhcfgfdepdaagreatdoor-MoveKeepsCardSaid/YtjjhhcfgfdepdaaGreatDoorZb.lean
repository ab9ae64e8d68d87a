/- own texts, made small by a tool (wip/ holds them as they were written): no statement of the seat. -/
import Derived.Test.YtjjhhcfgfdepdaaGreatDoorZa
set_option linter.unusedVariables false
set_option linter.unusedSimpArgs false
set_option linter.unnecessarySimpa false
open Array renaming getElem?_eq_some_iff→o9,getElem?_toList→T8
open BitVec renaming ofInt→U3
open Bool renaming not_true→Z8,not_false→X3,eq_iff_iff→V5,and_eq_true→U2,or_eq_false_iff→T7
open Decidable renaming not_not→Y4
open Go renaming Value→x1,World→x3,TypeId→r9,IntKind→o4,Builtin→Z0,Program→W0,FuncId→S6
open Go.Addr renaming add_mid→T2
open Go.Builtin renaming append_→b8,len_→W3
open Go.Instr renaming loadAt→u5,fieldAt→u6,storeAt→o7,indexAt→j5,extract→Z1,buildSlice→Z9,sliceAt→V3,alloc→R2
open Go.IntKind renaming i64→Y9,u64→V9
open Go.Proofs.Tryz renaming prog→x7
open Go.Result renaming andThen→X9
open Go.Sem renaming run_bind→X8,run_pure→W8
open Go.Value renaming int→V1
open Int renaming toNat_natCast→u9
open List renaming getElem?_eq_some_iff→x4,mem_of_getElem?→x5,getElem?_eq_getElem→x6,getElem?_map→x8,getD_eq_getElem?_getD→u4,length_map→u7,take_add_one→r8,replicate→p8,length_append→o5,take_length→o6,mem_map→o8,mem_singleton→n9,mem_append→l7,length_take→j0,take_of_length_le→j6,eq_nil_of_length_eq_zero→j9,getElem?_set_self→c7,map_append→c8,length_cons→b9,length_set→Z4,getElem?_eq_none→Z5,getElem?_append_left→Y0,getElem?_append_right→Y1,getElem?_take_of_lt→Y3,getElem?_set_ne→Y5,ext_getElem?→Y8,getElem?_set→X0,mem_iff_getElem?→X4,mem_or_eq_of_mem_set→X6,drop_eq_getElem_cons→X7,range→W7,flatMap_cons→W9,mem_cons→V0,pairwise_iff_getElem→V2,map_set→U1,map_cons→U4,append_nil→U5,append_assoc→U8,set_append_right→U9,map_map→S1,length_singleton→S4,length→S9,getElem_mem→R5
open Nat renaming le_refl→p9,le_trans→Y7,zero_add→X1,zero_le→X2,mul_le_mul_right→X5,sub_self→V7,add_mul→V8,mul_one→U6,pow_le_pow_right→T3,add_assoc→S2,add_sub_cancel_left→S5,lt_of_lt_of_le→R3,eq_zero_or_pos→R4
open Option renaming toList_some→l9,map_some→Z2,isNone_some→Z3,map_eq_some_iff→Y2,getD_some→V4,map→V6
open Option.some renaming inj→c9,injEq→Y6
open Prod.mk renaming injEq→T4
set_option maxHeartbeats 16000000
open Option renaming some→σ,none→ν
variable {I N gs j m n r:Nat}{e t:r9}{at_ c hi k lo y:Int}{sv v z:x1}{cs:List x1}{K:x1->Prop}{J:o4}{C a af ks l sizes:Λ}{w w':x3}{clean cx cy:Bool}{S:Nat->Prop}
namespace Go.Proofs.YtjjhhcfgfdepdaaGreatDoor
open Go Go.Vc Go.RowKit Go.Proofs Go.Proofs.Tryz
set_option maxRecDepth 100000
structure Cell where
 v:Int
 st:Nat
structure kK where
 i:Nat
 c:Cell
structure rK where
 olds:Nat
 cells:Nat
 st:Nat
structure ay where
 cells:List Cell
 olds:List kK
 marks:List rK
 il:Nat
def ay.bL (t:ay):Λ:=t.cells.map (·.v)
def ay.set (t:ay) (i:Nat) (x:Int):ay:=match t.cells[i]? with
 |none=>t
 |some c=>match t.marks.getLast? with
  |none=>{t with cells:=t.cells.set i ⟨x,c.st⟩}
  |some m=>if c.st<m.st/\i<m.cells then {t with olds:=t.olds++[⟨i,c⟩],cells:=t.cells.set i ⟨x,m.st⟩} else {t with cells:=t.cells.set i ⟨x,c.st⟩}
def ay.grow (t:ay) (n:Nat):ay:={t with cells:=t.cells++p8 n ⟨0,0⟩}
def back (os:List kK) (cs:List Cell):List Cell:=os.foldr (λo cs=>cs.set o.i o.c) cs
theorem pz:∀ (os:List kK) (cs:List Cell),(back os cs).length=cs.length
 |[],_=>rfl
 |o::os,cs=>by
  have:=pz os cs;show ((back os cs).set o.i o.c).length=_;rw[Z4,this]
theorem back_append (a b:List kK) (cs:List Cell):back (a++b) cs=back a (back b cs):=by unfold back;rw[List.foldr_append]
theorem uQ:∀ {os:List kK} {cs:List Cell} {n:Nat},(back os cs).take n=back (os.filter λo=>decide (o.i<n)) (cs.take n)
 |[],cs,n=>rfl
 |o::os,cs,n=>by
  show ((back os cs).set o.i o.c).take n=_;by_cases h:o.i<n
  .rw[List.filter_cons_of_pos (by simpa using h),List.take_set,uQ];rfl
  .rw[List.filter_cons_of_neg (by simpa using h),List.take_set_of_le Ω,uQ]
theorem zC {os:List kK} {cs:List Cell} (h:∀o∈os,o.i<n):(back os cs).take n=back os (cs.take n):=by
 rw[uQ,List.filter_eq_self.2 λo I=>by simpa using h o I]
theorem zD:∀ {os:List kK} {cs I:List Cell} {i:Nat},cs.length=I.length->(∃o∈os,o.i=i)->(back os cs)[i]? =(back os I)[i]?
 |[],_,_,_,_,⟨_,h,_⟩=>by cases h
 |o::os,cs,I,i,U,hm=>by
  show ((back os cs).set o.i o.c)[i]? =((back os I).set o.i o.c)[i]?;rw[X0,X0];by_cases h:o.i=i
  .rw[if_pos h,if_pos h,pz,pz,U]
  .rw[if_neg h,if_neg h];obtain⟨x,J,he⟩:=hm;rcases V0.1 J with rfl|J
   .exact absurd he h
   .exact zD U ⟨x,J,he⟩
theorem zE:∀ {os:List kK} {cs I:List Cell} {i:Nat},cs[i]? =I[i]? ->cs.length=I.length->(back os cs)[i]? =(back os I)[i]?
 |[],_,_,_,h,_=>h
 |o::os,cs,I,i,h,J=>by
  show ((back os cs).set o.i o.c)[i]? =((back os I).set o.i o.c)[i]?;rw[X0,X0,pz,pz,J,zE h J]
def ee:ay->List ay->Prop
 |t,[]=>t.marks=[]/\t.olds=[]/\ ∀c∈t.cells,c.st<=t.il
 |t,s::h=>ee s h/\(∀c∈t.cells,c.st<=t.il)/\ ∃m new,t.marks=s.marks++[m]/\m.olds=s.olds.length/\m.cells=s.cells.length/\t.olds=s.olds++new/\m.cells<=t.cells.length/\(back new t.cells).take m.cells=s.cells/\
   (∀c∈s.cells,c.st<m.st)/\(∀c∈t.cells,c.st<=m.st)/\(∀ (i:Nat) c,i<m.cells->t.cells[i]? =σ c->c.st=m.st-> ∃o∈new,o.i=i)/\(∀o∈new,o.i<m.cells)/\m.st<=t.il/\s.il<=t.il
theorem ee.grow {h:List ay} {t:ay} (hk:ee t h):ee (t.grow n) h:=by
 cases h with
 |nil=>
  refine⟨hk.1,hk.2.1,λc I=>?_⟩;rcases l7.1 I with I|I
  .exact hk.2.2 c I
  .rw[(List.mem_replicate.1 I).2];exact X2 _
 |cons s h=>
  obtain⟨h1,V,m,new,W,X,a3,a4,a5,Y,aa,ab,a9,J,ac,ad⟩:=hk;have U:∀ {b:Nat},(∀c∈t.cells,c.st<=b)-> ∀c∈(t.grow n).cells,c.st<=b:=λae c I=>by
   rcases l7.1 I with I|I
   .exact ae c I
   .rw[(List.mem_replicate.1 I).2];exact X2 _
  refine⟨h1,U V,m,new,W,X,a3,a4,by show m.cells<=(t.cells++_).length;rw[o5];omega,?_,aa,U ab,λi c hi I he=>?_,J,ac,ad⟩
  .show (back new (t.cells++_)).take m.cells=_;rw[zC J,List.take_append_of_le_length a5,<-zC J];exact Y
  .have I:(t.cells++p8 n ⟨0,0⟩)[i]? =σ c:=I;rw[Y0 Ω] at I;exact a9 i c hi I he
theorem H9 {s:ay} {m:rK} {l:List rK} (h:l=s.marks++[m]):l.getLast? =σ m:=by rw[h,List.getLast?_concat]
theorem ee.set {h:List ay} {t:ay} {i:Nat} {x:Int} (hk:ee t h):ee (t.set i x) h:=by
 unfold ay.set;cases W:t.cells[i]? with
 |none=>exact hk
 |some c=>
  have ag:=(x4.1 W).1;have aa:=x5 W;have X:∀ {b st:Nat},(∀c∈t.cells,c.st<=b)->st<=b-> ∀d∈t.cells.set i ⟨x,st⟩,d.st<=b:=λan ad d I=>by
   rcases X6 I with I|rfl
   .exact an d I
   .exact ad
  cases h with
  |nil=>
   obtain⟨h1,Y,ah⟩:=hk;simp only[h1,List.getLast?_nil];exact⟨rfl,Y,X ah (ah c aa)⟩
  |cons s h=>
   obtain⟨h1,Y,m,new,ae,ai,a3,a4,a5,aj,ak,ab,a9,al,af,am⟩:=hk;simp only[H9 ae];by_cases ac:c.st<m.st/\i<m.cells
   .rw[if_pos ac];refine⟨h1,X Y af,m,new++[⟨i,c⟩],ae,ai,a3,by show t.olds++_=_;rw[a4,U8],by show m.cells<=(t.cells.set i _).length;rw[Z4];exact a5,?_,ak,X ab (p9 _),λj d J I he=>?_,λo V=>?_,af,am⟩
    .show (back (new++[⟨i,c⟩]) (t.cells.set i _)).take m.cells=_;rw[back_append];have:back [⟨i,c⟩] (t.cells.set i ⟨x,m.st⟩)=t.cells:=by
      show (t.cells.set i _).set i c=_;rw[List.set_set];refine Y8 λj=>?_;rw[X0];by_cases J:i=j
      .subst J;rw[if_pos rfl,if_pos ag,W]
      .rw[if_neg J]
     rw[this];exact aj
    .have I:(t.cells.set i ⟨x,m.st⟩)[j]? =σ d:=I;by_cases U:i=j
     .exact⟨⟨i,c⟩,Ξ,U⟩
     .rw[X0,if_neg U] at I;obtain⟨o,V,he⟩:=a9 j d J I he;exact⟨o,List.mem_append_left _ V,he⟩
    .rcases l7.1 V with V|V
     .exact al o V
     .rw[n9.1 V];exact ac.2
   .rw[if_neg ac];refine⟨h1,X Y (Y c aa),m,new,ae,ai,a3,a4,by show m.cells<=(t.cells.set i _).length;rw[Z4];exact a5,?_,ak,X ab (ab c aa),λj d J I he=>?_,al,af,am⟩
    .rw[<-aj];show (back new (t.cells.set i _)).take m.cells=_;refine Y8 λj=>?_;by_cases J:j<m.cells
     .rw[Y3 J,Y3 J];by_cases U:i=j
      .subst U;have ad:c.st=m.st:=by
        have:=ab c aa;have:¬c.st<m.st:=λaC=>ac ⟨aC,J⟩;omega
       exact zD (by rw[Z4]) (a9 i c J W ad)
      .exact zE (by rw[X0,if_neg U]) (by rw[Z4])
     .rw[Z5 (by rw[j0];omega),Z5 (by rw[j0];omega)]
    .have I:(t.cells.set i ⟨x,c.st⟩)[j]? =σ d:=I;by_cases U:i=j
     .subst U;rw[X0,if_pos rfl,if_pos ag] at I;cases I;exact a9 i c J W he
     .rw[X0,if_neg U] at I;exact a9 j d J I he
theorem ay.pA {t:ay} {i:Nat} {x:Int}:(t.set i x).bL=t.bL.set i x:=by
 unfold ay.set ay.bL;cases I:t.cells[i]? with
 |none=>rw[List.set_eq_of_length_le (by rw[u7];exact List.getElem?_eq_none_iff.1 I)]
 |some c=>
  simp only;cases t.marks.getLast? with
  |none=>simp only;rw[U1]
  |some m=>simp only;split<;>rw[U1]
theorem ay.Ia {t:ay}:(t.grow n).bL=t.bL++p8 n 0:=by
 unfold ay.grow ay.bL;rw[c8,List.map_replicate]
end Go.Proofs.YtjjhhcfgfdepdaaGreatDoor
namespace Go.Vc
open Go Go.RowKit
section
variable {P:W0} {w:x3} {m:Bool} {S R:ah}
theorem rL {b k l h:Nat} {low high:Option x1} (W:P.underlying t=σ (.slice e)) (hi:aO P e k b z)
  (I:b5 w k v n cs) (h1:lv low l) (X:lx high n h) (J:l<=h) (aC:h<=n) (Y:∀V,b5 w k V (h-l) ((cs.drop (l*k)).take ((h-l)*k))->K V):
  U P (V3 t v low high ν) w K:=by
 have aa:=I;obtain⟨_,ab,o,base,cap,rfl,ac,_⟩:=I;rw[ii W hi h1 X fO J Ω (p9 _)];exact Y _ (b5.part aa J aC Ω (p9 _))
theorem Ib {k:o4} {b i:Nat} (V:y=(i:Int)) (W:P.underlying t=σ (.slice e)) (hi:aO P e 1 b z)
  (h:aB k w v l) (X:i<=l.length) (Y:∀I,aB k w I (l.drop i)->K I):U P (V3 t v (σ (.int J y)) ν ν) w K:=by
 refine rL W hi h (mV i y V) jS X (p9 _) λI h'=>Y I (aB.of (n:=l.length-i) ?_);have aa:((ints k l).drop (i*1)).take ((l.length-i)*1)=ints k (l.drop i):=by
  rw[j6 Ξ,U6,ints,<-List.map_drop]
 rw[aa] at h';exact h'
theorem Ic {k:o4} {b i:Nat} (V:y=(i:Int)) (W:P.underlying t=σ (.slice e)) (hi:aO P e 1 b z)
  (h:aB k w v l) (X:i<=l.length) (Y:∀I,aB k w I (l.take i)->K I):U P (V3 t v ν (σ (.int J y)) ν) w K:=by
 refine rL W hi h jR (mW i y V) (X2 _) X λI h'=>Y I (aB.of (n:=i) ?_);have aa:((ints k l).drop (0*1)).take ((i-0)*1)=ints k (l.take i):=by
  simp[ints,List.map_take]
 rw[aa] at h';exact h'
theorem rM {b:Nat} {parts:Array (Nat×x1)} {K:x1->x3->Prop} (I:P.underlying t=σ (.slice e)) (hi:aO P e 1 b (Δ 0)) (aa:n<=100000) (J:l.length=n)
  (U:Instr.fill (λj=>σ (j*1,1)) ((Array.range (n*1)).map ((if n*1=0 then #[] else (V1 .i64 0).cells)[·% (if n*1=0 then #[] else (V1 .i64 0).cells).size]!)) parts.toList=σ (ints .i64 l).toArray)
  (V:∀v g w',g=w.heap.size->Ext w w'->ap .i64 e w' g v l->K v w'):ax P (Z9 t n parts) w K:=
 jT I hi Ω U λg w' W X Y=>V _ g w' W X (ap.of (n:=n) (bT.full (by simpa using Y) (by simp[J]) (by simp[maxLen];omega)))
end
section
variable {P:W0} {w:x3}
theorem Ie {U V:r9} {W kn:o4} {b k cap:Nat} {base:Option Addr} {xs:List x1} {K:x1->x3->Prop} (aa:y=(k:Int)) (ab:P.underlying t=σ (.slice e)) (ac:P.underlying U=σ (.int kn)) (hi:aO P e 1 b z) (ad:z.cells= #[z])
  (I:b5 w 1 (.slice base n cap) n xs) (ae:0<k) (X:cap<n+k) (af:(n+k)*b<=140737488355328) (ag:n+k<=9223372036854775807)
  (ah:∀v g w',g=w.heap.size->Ext w w'->bT w' g e 1 v (n+k) (xs++p8 k z)->K v w'):ax P (b8 #[t,U] V #[.slice base n cap,.int W y]) w K:=by
 subst aa;obtain⟨i,hi,ai,rfl,aj⟩:=hi;obtain⟨J,aw,o,ay,az,he,ak,aA,al,am⟩:=I;cases he;have an:(Z0.firstCells i.size n (.slice base n cap)).run P w.drew= .ok xs.toArray w.drew:=by
  rcases R4 n with rfl|ao
  .have:xs=[]:=j9 (by simpa using J);subst this;cases base with
   |none=>exact run_firstCells_none w.drew i.size 0 0 cap
   |some a=>exact run_firstCells_some w.drew i.size 0 a 0 cap [] Ξ Ξ
  .have:=al ao;subst this;refine run_firstCells_some w.drew i.size n _ n cap xs (by rw[ai];exact J) λj u hu=>?_;rw[T2];exact am j u hu
 have ap:k*i.bytes<=281474976710656:=by
  have:k*i.bytes<=(n+k)*i.bytes:=X5 _ Ω;omega
 have aq:=Lib.run_append_grow_zeros (P:=P) w t U V e i z W kn ab ac hi aj base n cap xs an k ae Ω X Ω ap (growslice_fits X af);have au:n+k<=grownCap w (n+k) cap e:=grownCap_ge w _ _ _;have av:grownCap w (n+k) cap e<=maxLen:=grownCap_le_maxLen w (n+k) cap e (by simpa[maxLen] using ag);have Y:∀m,Z0.zeroCells z.cells m=(p8 m z).toArray:=λm=>by
  rw[ad];apply Array.ext
  .simp[size_zeroCells]
  .intro j h1 ak;simp[Z0.zeroCells,Nat.mod_one]
 refine .of aq ((pa w _ (Nat.le_succ _)).trans (pc _ _)) (ah _ w.heap.size _ rfl ((qQ w _).trans (pb _ _)) ⟨by simp at J;simp[J],.inr ⟨_,xs++p8 k z++p8 (grownCap w (n+k) cap e-(n+k)) z,rfl,?_,au,av,?_,?_⟩⟩)
 .rw[Y,Y];have:=heap_alloc_new w.drew (.cells (xs.toArray++(p8 k z).toArray++(p8 (grownCap w (n+k) cap e-(n+k)) z).toArray) e);rw[List.append_toArray,List.append_toArray] at this ⊢;exact this
 .simp at J;simp[J];omega
 .simp at J;rw[List.take_append_of_le_length (by simp[J]),j6 (by simp[J])]
theorem zF {I:r9} {base:Option Addr} {c:Nat} (J:P.underlying t=σ (.slice e)):
  U P (Z0.cap_ #[t] I #[.slice base n c]) w K=K (Δ c):=U.of λw' _=>by simp[Z0.cap_,run_underlying J,goInt]
theorem If {g o k c:Nat} (h:ac w g e cs) (hk:o+k<=cs.length) (J:k<=c) (U:c<=maxLen):b5 w 1 (.slice (σ ⟨g,o,ν⟩) k c) k ((cs.drop o).take k):=by
 refine⟨Θ,g,o,_,c,rfl,J,U,λ_=>rfl,λj v I=>?_⟩;have V:=(x4.1 I).1;simp at V;rw[Y3 Ω,List.getElem?_drop] at I;exact h.cell I
theorem Ig {U V:r9} {W g o cap:Nat} {K:x1->x3->Prop} (X:P.underlying t=σ (.slice e)) (hi:aO P e 1 W z) (Y:z.cells= #[z]) (h1:z.oneCell'=true)
  (I:ac w g V cs) (ab:0<n) (ai:o+n<=cs.length)
  (ad:∀w',ae (λr=>r=g) w w'->w'.heap.size=w.heap.size->ac w' g V (over cs o (p8 n z))->K (.tuple #[]) w'):ax P (Z0.clear_ #[t] U #[.slice (σ ⟨g,o,ν⟩) n cap]) w K:=by
 obtain⟨i,hi,aj,rfl,af⟩:=hi;have ag:=Lib.run_clear_slice (P:=P) w t e U z X (λw=>by simp[zeroValue,typeInfo,hi,af]) Y h1 g o n cap ab
  (λj ak=>by rw[I.cell (x6 (show o+j<cs.length by omega))];rfl) (λj _=>I.frozen _ _)
 obtain⟨ah,J⟩:=mX (p8 n z) cs o w I;exact .of ag (J.ck I) (ad _ J.aa J.size ah)
end
section
variable {P:W0} {w:x3}
theorem hs {I:r9} {k:o4} {i b g:Nat} (V:y=(i:Int)) (W:P.underlying t=σ (.slice e)) (hi:aO P e 1 b z)
  (h:ap k I w g v l) (X:i<l.length):U P (j5 t v (.int J y)) w K=K (.pointer (σ ⟨g,i,ν⟩)):=by
 subst V;obtain⟨_,⟨_,Y⟩|⟨cap,cs,rfl,_⟩⟩:=h
 .omega
 .rw[fm W hi X (λ_=>rfl)];simp
theorem rN {k:o4} {i b:Nat} {x:Int} (V:y=(i:Int)) (W:P.underlying t=σ (.slice e)) (hi:aO P e 1 b z)
  (h:aB k w v l) (I:l[i]? =σ x) (X:∀b o,w.cell? ⟨b,o,ν⟩=σ (.int k x)->K (.pointer (σ ⟨b,o,ν⟩))):U P (j5 t v (.int J y)) w K:=by
 subst V;have Y:=(x4.1 I).1;obtain⟨_,_,_,_,_,rfl,_,_,aa,ab⟩:=h;rw[fm W hi Y aa,U6];exact X _ _ (ab i _ (kF I))
theorem ht {J:r9} {k:o4} {i b g:Nat} {x:Int} {K:Unit->x3->Prop} (hi:aO P e 1 b z)
  (h:ap k J w g v l) (af:i<l.length) (W:∀w',ae (λr=>r=g) w w'->w'.heap.size=w.heap.size->ap k J w' g v (l.set i x)->K () w'):ax P (o7 e (.pointer (σ ⟨g,i,ν⟩)) (.int k x)) w K:=by
 obtain⟨ag,⟨_,ah⟩|⟨cap,full,rfl,X,Y,aa,U,V⟩⟩:=h
 .omega
 .have ab:i<full.length:=by simp at U;omega
  refine bz hi rfl rfl X ab λw' ac I ad=>W w' ac I ⟨Ξ,.inr ⟨cap,full.set i (.int k x),Ξ,ad,by simpa using Y,aa,by simpa using U,?_⟩⟩;simp only[Z4,U6] at V ⊢;rw[List.take_set,V,ints,ints,U1]
theorem zG {b o:Nat} (I:jl P t=true) (h:w.cell? ⟨b,o,ν⟩=σ v):ct P (u5 t (.pointer (σ ⟨b,o,ν⟩))) v w:=λw' J=>by
 have h':=ig J h;unfold jl at I;cases hu:P.underlying t with
 |none=>rw[hu] at I;cases I
 |some d=>
  rw[hu] at I;cases d<;>first|(cases I;done)|simp[u5,Instr.sureAddr,loadVar,isAgg,run_underlying hu,h']
theorem hv {k:o4} {S:ah} (h:aB k w v l) (U:ae S w w') (V:∀r,S r-> ∀a n c,v= .slice (σ a) n c->a.block≠r):aB k w' v l:=by
 obtain⟨h1,b,o,base,cap,rfl,W,X,I,Y⟩:=h;refine⟨h1,b,o,base,cap,rfl,W,X,I,?_⟩;rcases R4 l.length with J|J
 .intro j u hu;have:=(x4.1 hu).1;simp at this;omega
 .have aa:=I J;subst aa;exact jQ U (λh=>V _ h _ _ _ rfl rfl) Y
end
end Go.Vc
namespace Go.Vc
open Go Go.RowKit Go.ChangeShapes Go.WideShapes
structure jY (P:W0) (t:r9) (α:Type) [ak α] (G:α->Prop):Prop where
 op:∀ {H:Type} {enc:r9×x1->H} {w:x3} {base:Nat} {spare:Nat->Bool} {held:Bool} {fuel:Nat} {cs:List x1} {x:DataW H×List MemPlace},
  DataW.trod enc P w base spare held fuel t cs=σ x-> ∃a:α,Seen dY w cs a/\G a
section
variable {P:W0} {α β:Type} [ak α] [ak β]
theorem zH {k:o4} {n:Int} (h:(Lit.int k n).wf=true):k.min<=n/\n<=k.max:=by simpa[Lit.wf] using h
theorem uR {k:o4} (I:P.underlying t=σ (.int k)):jY P t (gT k) λn=>k.min<=n.val/\n.val<=k.max:=⟨λh=>by
 obtain⟨n,rfl,_,hw⟩:=DataW.trod_int I h;exact⟨(n:Int),rfl,zH hw⟩⟩
theorem jo (I:P.underlying t=σ (.int .i64)):jY P t Int λn=>Y9.min<=n/\n<=Y9.max:=⟨λh=>by
 obtain⟨n,rfl,_,hw⟩:=DataW.trod_int I h;exact⟨n,rfl,zH hw⟩⟩
theorem uS (I:P.underlying t=σ .bool):jY P t Bool λ_=>True:=⟨λh=>by
 obtain⟨b,rfl,_⟩:=DataW.trod_bool I h;exact⟨b,rfl,trivial⟩⟩
theorem Ih (a:Addr) (m n:Nat):(a.add m).add n=a.add (m+n):=by
 unfold Addr.add;by_cases hm:m=0<;>by_cases I:n=0<;>simp[hm,I,S2]
theorem Ii {base:Nat} {a:Addr} (h:w.cells? base a n=σ cs):cs.length=n/\ ∀j v,cs[j]? =σ v->w.cell? (a.add j)=σ v:=by
 unfold x3.cells? at h;split at h
 .have J:cs.length=n:=by
   have:=mapM_some_length h;simpa using this
  refine⟨J,λj v I=>?_⟩;have U:=(x4.1 I).1;have:=mapM_some_get h j j (List.getElem?_range Ω);rw[this,I]
 .cases h
theorem uT {G:α->Prop} (ah:P.underlying t=σ (.slice e)) (he:jY P e α G) (ai:P.cellsOf e=ak.n α) (aq:0<ak.n α):jY P t (List α) λl=>∀a∈l,G a:=by
 constructor;intro H enc w base spare held fuel cs x h;rcases DataW.trod_slice ah h with⟨rfl,_⟩|⟨a,len,cap,au,rest,n,_,rfl,rfl,av,aw,hm,ax,aj,_,_⟩
 .exact⟨[],gB,λ_ h=>by cases h⟩
 .
  have af:∀i,i<len-> ∃ (c:List x1) (y:α),c.length=ak.n α/\(∀j v,c[j]? =σ v->w.cell? (a.add (i*ak.n α+j))=σ v)/\Seen dY w c y/\G y:=by
   intro i hi;have h1:=aj i hi;rw[x6 Ω,ai,Option.bind_eq_some_iff] at h1;obtain⟨c,V,W⟩:=h1;obtain⟨Y,aa⟩:=Ii V;obtain⟨y,ab,al⟩:=he.op W;exact⟨c,y,Y,λj v U=>by have:=aa j v U;rwa [Ih] at this,ab,al⟩
  have all:∀m,m<=len-> ∃ (vs:List (List x1)) (l:List α),vs.length=m/\l.length=m/\(∀c∈vs,c.length=ak.n α)/\(∀ (j:Nat) (v:x1),vs.flatten[j]? =σ v->w.cell? (a.add j)=σ v)/\
    (∀ (i:Nat) (c:List x1) (y:α),vs[i]? =σ c->l[i]? =σ y->Seen dY w c y)/\ ∀y∈l,G y:=by
   intro m;induction m with
   |zero=>exact λ_=>⟨[],[],rfl,rfl,(λ_ h=>by cases h),(λj v h=>by simp at h),(λi c y h=>by simp at h),(λ_ h=>by cases h)⟩
   |succ m am=>
    intro hm;obtain⟨vs,l,h1,V,W,Y,aa,ab⟩:=am Ω;obtain⟨c,y,g1,ac,an,ao⟩:=af m Ω;refine⟨vs++[c],l++[y],by simp[h1],by simp[V],λd I=>?_,λj v U=>?_,λi d z I J=>?_,λz J=>?_⟩
    .rcases l7.1 I with I|I
     .exact W d I
     .simp at I;subst I;exact g1
    .have X:=pw W;rw[h1] at X;rw[List.flatten_append] at U;by_cases ap:j<m*ak.n α
     .rw[Y0 Ω] at U;exact Y j v U
     .rw[Y1 Ω,X] at U;simp at U;have:=ac _ v U;rwa [show m*ak.n α+(j-m*ak.n α)=j by omega] at this
    .by_cases hi:i<m
     .rw[Y0 Ω] at I J;exact aa i d z I J
     .have ad:=(x4.1 I).1;simp[h1] at ad;have ad:i=m:=Ω
      subst ad;rw[Y1 Ω,h1] at I;rw[Y1 Ω,V] at J;simp at I J;subst I J;exact an
    .rcases l7.1 J with J|J
     .exact ab z J
     .simp at J;subst J;exact ao
  obtain⟨vs,l,h1,V,W,Y,aa,ab⟩:=all len (p9 _);have X:=pw W;rw[h1] at X;have ag:0<len->a=⟨a.block,a.off,ν⟩:=λae=>by
   obtain⟨c,y,g1,ac,_⟩:=af 0 Ω;have:=ac 0 c[0] (x6 Ω);rw[Nat.zero_mul] at this;exact uJ this
  refine⟨l,⟨_,rfl,vs,0,λ_ _=>False,⟨λ_ _ h=>h.elim,(λh=>by cases h),(λh=>by cases h)⟩,⟨Ω,aa⟩,⟨by rw[X,V],a.block,a.off,σ a,cap,by rw[V],Ω,hm,λae=>congrArg σ (ag Ω),λ_=>.inr trivial,λj v U=>?_⟩,λh=>by cases h⟩,ab⟩;have:=Y j v U;have ap:=(x4.1 U).1;have ae:0<len:=by
   rcases R4 len with h|h
   .rw[h,Nat.zero_mul] at X;omega
   .exact h
  rw[ag ae,T2] at this;exact this
structure rO (P:W0) (fs:List Field) (off:Nat) (α:Type) [ak α] (G:α->Prop):Prop where
 op:∀ {H:Type} {enc:r9×x1->H} {w:x3} {base:Nat} {spare:Nat->Bool} {held:Bool} {n:Nat} {cs:List x1},cs.length=off+ak.n α->
  (∀f∈fs,∃x,DataW.trod enc P w base spare held n f.type ((cs.drop f.offset).take (P.cellsOf f.type))=σ x)-> ∃a:α,Seen dY w (cs.drop off) a/\G a
theorem uU {f:Field} {off:Nat} {G:α->Prop} (h:jY P f.type α G) (I:f.offset=off) (J:P.cellsOf f.type=ak.n α):rO P [f] off α G:=by
 constructor;intro H enc w base spare held n cs X U;obtain⟨x,V⟩:=U f (.head _);obtain⟨a,h1,W⟩:=h.op V;rw[I,J,j6 Θ] at h1;exact⟨a,h1,W⟩
theorem hR {f:Field} {I:List Field} {off:Nat} {G:α->Prop} {J:β->Prop} (h:jY P f.type α G) (V:f.offset=off) (W:P.cellsOf f.type=ak.n α) (X:rO P I (off+ak.n α) β J):
  rO P (f::I) off (α×β) λp=>G p.1/\J p.2:=by
 constructor;intro H enc w base spare held n cs ae U;obtain⟨x,Y⟩:=U f (.head _);obtain⟨a,h1,aa⟩:=h.op Y;rw[V,W] at h1;have af:ak.n (α×β)=ak.n α+ak.n β:=rfl;obtain⟨b,ab,ac⟩:=X.op Ω λg ad=>U g (.tail _ ad);refine⟨(a,b),⟨(cs.drop off).take (ak.n α),cs.drop (off+ak.n α),λ_=>False,λ_=>False,?_,λ_ h=>h,λ_ h=>h,(λh=>by cases h),h1,ab⟩,aa,ac⟩;rw[<-List.drop_drop,List.take_append_drop]
theorem uV {I:List Field} {G:α->Prop} (J:P.underlying t=σ (.struct I.toArray)) (U:rO P I 0 α G) (aa:P.cellsOf t=ak.n α):jY P t α G:=by
 constructor;intro H enc w base spare held fuel cs x h;obtain⟨xs,n,_,rfl,ab,V,W⟩:=DataW.trod_struct J h;have:=U.op (enc:=enc) (w:=w) (base:=base) (spare:=spare) (held:=held) (n:=n) (cs:=cs) Ω λf X=>by
  obtain⟨i,hi,rfl⟩:=List.mem_iff_getElem.1 X;have Y:i<xs.length:=by simpa[V] using hi
  have:=W i I[i] (by simp[hi]);rw[x6 Y] at this;exact⟨_,this⟩
 simpa using this
end
end Go.Vc
namespace Go.Vc
open Go Go.RowKit
set_option maxRecDepth 100000
theorem Ij:(⟨#[]⟩:ByteArray)=strOfNums []:=rfl
theorem Ik {av:x1->x1->x1->x3->Prop} {B:(x1->x1->x1->x3->Prop)->Prop} (G:x1->x1->x1->x3->Prop) (h1:∀t u v w,G t u v w->av t u v w)
  (J:∀I:x1->x1->x1->x3->Prop,(∀t u v w,G t u v w->I t u v w)->B I):cg av B:=J av h1
theorem uW {av:x1->x1->x1->x1->x3->Prop} {B:(x1->x1->x1->x1->x3->Prop)->Prop} (G:x1->x1->x1->x1->x3->Prop) (h1:∀s t u v w,G s t u v w->av s t u v w)
  (J:∀I:x1->x1->x1->x1->x3->Prop,(∀s t u v w,G s t u v w->I s t u v w)->B I):cg av B:=J av h1
abbrev bO (l:Λ):x1:=.string (strOfNums l)
def Bytes (l:Λ):Prop:=∀b∈l,0<=b/\b<256
theorem l6 (l:Λ):(strOfNums l).size=l.length:=strOfNums_size l
theorem Il (h:Bytes l) {i:Nat} {b:Int} (hi:l[i]? =σ b):(strOfNums l)[i]? =σ (UInt8.ofNat b.toNat)/\((UInt8.ofNat b.toNat).toNat:Int)=b:=by
 have V:=h b (x5 hi);have U:=x4.1 hi;refine⟨?_,by rw[UInt8.toNat_ofNat'];omega⟩;have I:i<(strOfNums l).size:=by rw[l6];exact U.1
 rw[getElem?_pos (strOfNums l) i I];congr 1;show (strOfNums l).data[i]=_;have J:(strOfNums l).data.toList[i]? =σ (UInt8.ofNat b.toNat):=by rw[strOfNums_data,x8,hi];rfl
 rw[T8] at J;exact (o9.1 J).2
theorem str_inj {b:Λ} (I:Bytes a) (J:Bytes b) (h:strOfNums a=strOfNums b):a=b:=by
 have h1:(strOfNums a).data.toList=(strOfNums b).data.toList:=by rw[h]
 rw[strOfNums_data,strOfNums_data] at h1;have key:∀ {l:Λ},Bytes l->(l.map λn=>UInt8.ofNat n.toNat).map (λu=>((u.toNat:Nat):Int))=l:=λ{l} U=>by
  rw[S1]
  conv=>rhs;rw[<-List.map_id l]
  refine List.map_congr_left λx V=>?_;have:=U x V;show (((UInt8.ofNat x.toNat).toNat:Nat):Int)=x;rw[UInt8.toNat_ofNat'];omega
 rw[<-key I,<-key J,h1]
theorem Im (a b:Λ):strOfNums a++strOfNums b=strOfNums (a++b):=by
 apply ByteArray.ext;rw[ByteArray.data_append];simp[strOfNums]
theorem In (l:Λ) (i j:Nat):(strOfNums l).extract i j=strOfNums ((l.take j).drop i):=by
 apply ByteArray.ext;rw[ByteArray.data_extract];apply Array.toList_inj.1;rw[Array.toList_extract];simp[strOfNums,List.extract_eq_take_drop,List.map_drop,List.map_take,List.drop_take]
theorem zI (l:Λ):(strOfNums l).toList=l.map λn=>UInt8.ofNat n.toNat:=by
 rw[ByteArray.toList_eq];exact strOfNums_data l
theorem zJ {b:Λ} (I:Bytes a) (J:Bytes b):((strOfNums a).toList == (strOfNums b).toList)=decide (a=b):=by
 rw[V5,beq_iff_eq,decide_eq_true_eq,zI,zI];refine⟨λh=>str_inj I J ?_,λh=>by rw[h]⟩;unfold strOfNums;rw[h]
section
variable {P:W0} {w:x3}
theorem m9 {I:r9} (J:P.underlying t=σ .string):U P (W3 #[t] I #[bO l]) w K=K (Δ l.length):=U.of λw' _=>by
 simp[W3,run_underlying J,goInt,l6]
theorem pB {k:o4} {b:Int} {i:Nat} (I:y=(i:Int)) (J:P.underlying t=σ .string) (V:Bytes l) (hi:l[i]? =σ b):U P (Instr.index t (bO l) (.int k y)) w K=K (.int .u8 b):=U.of λw' _=>by
 subst I;obtain⟨h1,W⟩:=Il V hi;have e:(0:Int)<=(i:Int):=Ω
 simp only[Instr.index,asIntOf,X8,W8,X9,run_underlying J];rw[if_pos e,u9,h1];simp only[W8,W]
theorem uX {b:Λ} (h:a.length+b.length<=9223372036854775807):U P (aE .add t cx cy (bO a) (bO b)) w K=K (bO (a++b)):=U.of λw' _=>by
 have:=run_string_add_sum (P:=P) (w:=w') (strOfNums a) (strOfNums b) (by rw[l6,l6];exact h);simp only[aE,eqGuard,binOp];simp[this,Im]
theorem zK {b:Λ} (I:Bytes a) (J:Bytes b):U P (aE .eql t cx cy (bO a) (bO b)) w K=K (.bool (decide (a=b))):=U.of λw' _=>by
 simp[aE,eqGuard,binOp,Op.stringOp,zJ I J]
theorem Io {b:Λ} (I:Bytes a) (J:Bytes b):U P (aE .neq t cx cy (bO a) (bO b)) w K=K (.bool (decide (a≠b))):=U.of λw' _=>by
 simp[aE,eqGuard,binOp,Op.stringOp,zJ I J]
theorem zL {k:o4} {i:Nat} (I:y=(i:Int)) (J:P.underlying t=σ .string) (hi:i<=l.length):U P (V3 t (bO l) (σ (.int k y)) ν ν) w K=K (bO (l.drop i)):=U.of λw' _=>by
 have V:=rC (P:=P) w' (sl:=false) (n:=(strOfNums l).size) (c:=(strOfNums l).size) (low:=σ (.int k y)) (high:=ν) (mx:=ν) (l:=i) (h:=(strOfNums l).size) (m:=(strOfNums l).size) (mV i y I) jS fO (by rw[l6];exact hi) (p9 _) (p9 _);have e:(strOfNums l).extract i (strOfNums l).size=strOfNums (l.drop i):=by rw[In,l6,o6]
 simp[V3,Instr.slice,run_underlying J,V,e]
theorem uY {s:r9} (I:P.underlying s=σ (.slice e)) (he:P.underlying e=σ (.int .u8)) (J:P.underlying t=σ .string) (h:aB .u8 w v l):U P (convert s t v) w K=K (bO l):=U.of λw' X=>by
 obtain⟨V,b,o,base,cap,rfl,_,_,Y,aa⟩:=h.ext X;have V:l.length=l.length*1:=by simpa using V
 by_cases ab:0<l.length
 .rw[Y ab];refine run_convert_bytes_arg w' s e I he b o l.length cap l rfl (λi hi=>?_) t J;have W:l[i]? =σ l[i]:=x6 hi;rw[u4,W];exact aa i _ (kF W)
 .have ac:l=[]:=j9 Ω;subst ac;cases base with
  |none=>
   rw[run_convert_bytes_nil w' s e I he _ _ t J];rfl
  |some a=>
   rw[run_convert_bytes_string w' s t e _ _ _ I he J];have:=run_bytesToString (P:=P) w' a 0 cap [] (by have:=run_loadCells_list (P:=P) w' a [] (λj v ad=>by simp at ad);simpa using this);simp only[List.length_nil];rw[this];rfl
theorem uZ {s:r9} {u:TypeDesc} {K:x1->x3->Prop} (I:P.underlying s=σ u) (Y:P.underlying t=σ (.slice e)) (he:P.underlying e=σ (.int .u8)) (aa:Bytes l) (hm:l.length<=1000000000)
  (ab:∀v w',Ext w w'->aB .u8 w' v l->(∀r,(∃a n c,v= .slice (σ a) n c/\a.block=r)->w.heap.size<=r)->K v w'):ax P (convert s t (bO l)) w K:=by
 have ac:=Lib.bytesWorld_at_new w e (strOfNums l);have W:=λj J=>Lib.bytesWorld_at_old w e (strOfNums l) j J;have ad:=Lib.bytesWorld_size w e (strOfNums l);refine .of (Lib.run_convert_string_bytes w s t e (strOfNums l) I Y he) ⟨rfl,⟨rfl,Nat.le_succ _⟩,rfl,Ω,λr o U _=>?_⟩ (ab _ _ ⟨Ω,λr o U _=>?_⟩ ?_ ?_)
 .rw[W r (o9.1 U).1];exact U
 .rw[W r (o9.1 U).1];exact U
 .rw[l6];refine⟨Ξ,w.heap.size,0,_,_,rfl,?_,?_,λ_=>rfl,λj v V=>?_⟩
  .exact grownCap_ge w _ _ _
  .exact grownCap_le_maxLen w _ _ _ (by simp[maxLen];omega)
  .have J:j<l.length:=by have:=(x4.1 V).1;simpa using this
   have X:l[j]? =σ l[j]:=x6 J;rw[X1,Lib.bytesWorld_cell w e (strOfNums l) j (by rw[l6];exact J)];rw[kF X] at V;rw[<-c9 V,strOfNums_data,u4,x8,X];have:=aa l[j] (R5 J);simp only[Z2,V4];congr 2;rw[UInt8.toNat_ofNat'];omega
 .rintro r ⟨a,n,c,h1,rfl⟩;cases h1;exact p9 _
end
end Go.Vc
namespace Go.Proofs.YtjjhhcfgfdepdaaGreatDoor
open Go Go.Vc Go.RowKit Go.Proofs Go.Proofs.Tryz
set_option maxRecDepth 100000
theorem zM {b:Int} (h:cp b=true):bE b=false:=by
 have h:=of_decide_eq_true h;unfold bE;rw[decide_eq_false_iff_not];omega
theorem zN {b:Int} {p:Λ} (h:cp b=true):lex (b::p)=lex p:=by
 rw[jW,jW p,List.dropWhile_cons,if_pos h]
theorem Ip {b:Int} {p:Λ} (h:cp b=false) (I:bE b=false):lex (b::p)=([],false):=by
 rw[jW,List.dropWhile_cons,if_neg (by simp[h])];simp only[I,Bool.false_eq_true,if_false]
theorem zO {b:Int} {p:Λ} (h:bE b=true):lex (b::p)=match p.dropWhile bE with
  |[]=>([b::p.takeWhile bE],true)
  |c::r=>if cp c then ((b::p.takeWhile bE)::(lex (c::r)).1,(lex (c::r)).2) else ([],false):=by
 have I:cp b=false:=by
  cases J:cp b with
  |false=>rfl
  |true=>rw[zM J] at h;cases h
 rw[jW,List.dropWhile_cons,if_neg (by simp[I])];simp only[h,if_true,List.dropWhile_cons,List.takeWhile_cons]
 all_goals (cases List.dropWhile bE p<;>rfl)
def hS:Λ->List (Λ)->Λ->Bool->List (Λ)×Bool
 |[],out,w,op=>(if op then out++[w] else out,true)
 |b::p,out,w,op=>
  if cp b then hS p (if op then out++[w] else out) [] false
  else if bE b then hS p out (if op then w++[b] else[b]) true
  else (out,false)
theorem pC:∀ (p:Λ) (out:List (Λ)) (w:Λ),hS p out w false=(out++(lex p).1,(lex p).2)/\
  hS p out w true=match p.dropWhile bE with
   |[]=>(out++[w++p.takeWhile bE],true)
   |c::r=>if cp c then (out++[w++p.takeWhile bE]++(lex (c::r)).1,(lex (c::r)).2) else (out,false)
 |[],out,w=>by simp[hS,jW []]
 |b::p,out,w=>by
  by_cases I:cp b=true
  .have hw:=zM I;refine⟨?_,?_⟩
   .rw[hS,if_pos I,(pC p _ _).1,zN I];simp
   .rw[hS,if_pos I,if_pos rfl,(pC p _ _).1,List.dropWhile_cons,if_neg (by simp[hw])];simp only[I,if_true,zN I,List.takeWhile_cons,hw,Bool.false_eq_true,if_false,U5]
  .have U:cp b=false:=by cases h:cp b;rfl;exact absurd h I
   by_cases hw:bE b=true
   .refine⟨?_,?_⟩
    .rw[hS,if_neg I,if_pos hw,if_neg Ξ,(pC p _ _).2,zO hw];cases p.dropWhile bE with
     |nil=>simp
     |cons c r=>
      simp only;by_cases J:cp c=true
      .simp[J]
      .simp[J]
    .rw[hS,if_neg I,if_pos hw,if_pos rfl,(pC p _ _).2,List.dropWhile_cons,if_pos hw,List.takeWhile_cons,if_pos hw];cases p.dropWhile bE with
     |nil=>simp
     |cons c r=>
      simp only;by_cases J:cp c=true
      .simp[J]
      .simp[J]
   .have V:bE b=false:=by cases h:bE b;rfl;exact absurd h hw
    refine⟨?_,?_⟩
    .rw[hS,if_neg I,if_neg hw,Ip U V];simp
    .rw[hS,if_neg I,if_neg hw,List.dropWhile_cons,if_neg hw];simp[U]
theorem Iq (p:Λ):hS p [] [] false=lex p:=by rw[(pC p [] []).1];simp
def oj:Nat->Nat->Λ
 |0,_=>[]
 |k+1,n=>(if n<10 then[] else oj k (n / 10))++[48+((n % 10:Nat):Int)]
def e8 (n:Nat):Λ:=oj (n+1) n
theorem zP:∀ {k m n:Nat},n<k->n<m->oj k n=oj m n
 |k+1,m+1,n,h1,I=>by
  unfold oj;by_cases h:n<10
  .rw[if_pos h,if_pos h]
  .rw[if_neg h,if_neg h,zP (k:=k) (m:=m) (n:=n / 10) Ω Ω]
theorem na (n:Nat):e8 n=(if n<10 then[] else e8 (n / 10))++[48+((n % 10:Nat):Int)]:=by
 unfold e8;rw[oj];by_cases h:n<10
 .rw[if_pos h,if_pos h]
 .rw[if_neg h,if_neg h,zP (k:=n) (m:=n / 10+1) Ω Ω]
theorem zQ:∀ (k n:Nat),n<k-> ∀b∈e8 n,48<=b/\b<=57
 |k+1,n,hk,b,I=>by
  rw[na] at I;rcases l7.1 I with I|I
  .by_cases h:n<10
   .rw[if_pos h] at I;simp at I
   .rw[if_neg h] at I;exact zQ k (n / 10) Ω b I
  .rw[n9] at I;omega
theorem zR (n:Nat):∀b∈e8 n,48<=b/\b<=57:=zQ (n+1) n Ω
def pD (l:Λ):Int:=l.foldl (λn b=>10*n+(b-48)) 0
theorem Ir (l:Λ) (b:Int):pD (l++[b])=10*pD l+(b-48):=by simp[pD]
theorem u0:∀ (k n:Nat),n<k->pD (e8 n)=n
 |k+1,n,hk=>by
  rw[na,Ir];by_cases h:n<10
  .rw[if_pos h];have:pD []=0:=rfl;omega
  .rw[if_neg h,u0 k (n / 10) Ω];omega
theorem Is {a b:Nat} (h:e8 a=e8 b):a=b:=by
 have h1:=u0 (a+1) a Ω;have I:=u0 (b+1) b Ω;rw[h,I] at h1;omega
theorem u1:∀ (k n:Nat),n<10 ^ k->1<=k->(e8 n).length<=k
 |k+1,n,h,_=>by
  rw[na,o5];by_cases I:n<10
  .rw[if_pos I];simp
  .rw[if_neg I];have hk:1<=k:=by
    rcases k with _|k
    .simp at h;omega
    .omega
   have J:(10:Nat) ^ (k+1)=10*10 ^ k:=by rw[Nat.pow_succ,Nat.mul_comm]
   have:=u1 k (n / 10) Ω hk;simp only[S4];omega
def dT (t:Λ):Λ:=t.flatMap λv=>e8 v.toNat++[32]
theorem It (t:Λ) (v:Int):dT (t++[v])=dT t++(e8 v.toNat++[32]):=by simp[dT]
theorem zS {r:Λ} (I:∀b∈l,b≠32):(l++32::r).takeWhile (λb=>decide (b≠32))=l/\(l++32::r).dropWhile (λb=>decide (b≠32))=32::r:=by
 induction l with
 |nil=>simp
 |cons x l J=>
  have U:=I x (.head _);have:=J λb V=>I b (.tail _ V);simp only[List.cons_append,List.takeWhile_cons,List.dropWhile_cons];simp only[U,ne_eq,not_false_eq_true,decide_true,if_true];exact⟨by rw[this.1],this.2⟩
theorem zT:∀ {a b:Λ},(∀x∈a,0<=x)->(∀x∈b,0<=x)->dT a=dT b->a=b
 |[],[],_,_,_=>rfl
 |[],y::b,_,_,h=>by simp[dT] at h
 |x::a,[],_,_,h=>by simp[dT] at h
 |x::a,y::b,U,V,h=>by
  have e:∀ (z:Int) (l:Λ),dT (z::l)=e8 z.toNat++32::dT l:=λz l=>by simp[dT]
  rw[e,e] at h;have d:∀z:Int,∀c∈e8 z.toNat,c≠32:=λz c X=>by have:=zR _ c X;omega
  have I:=zS (r:=dT a) (d x);have W:=zS (r:=dT b) (d y);rw[h] at I;have Y:e8 x.toNat=e8 y.toNat:=I.1.symm.trans W.1;have aa:=I.2.symm.trans W.2;have ac:=U x (.head _);have ad:=V y (.head _);have:=Is Y;have ab:x=y:=Ω
  subst ab;rw[zT (λz J=>U z (.tail _ J)) (λz J=>V z (.tail _ J)) (List.cons.inj aa).2]
theorem zU (t:Λ):Bytes (dT t):=λb I=>by
 obtain⟨v,_,I⟩:=List.mem_flatMap.1 I;rcases l7.1 I with I|I
 .have:=zR _ b I;omega
 .rw[n9] at I;omega
theorem zV {b:Int}:aj x7 Gy [.int .u8 b] w λv w'=>v= .bool (cp b)/\Ext w w':=by
 refine aw func145 ?_;refine aR (λv J=>v= .bool (cp b)/\Ext w J) (λ_ _ h=>h) λav I=>?_;rw[be,ai];refine⟨λh=>I _ _ ⟨by unfold cp;rw[decide_eq_true (.inl h)],Ext.refl _⟩,λh1=>?_⟩;rw[be,ai];refine⟨λh=>I _ _ ⟨by unfold cp;rw[decide_eq_true (.inr (.inl h))],Ext.refl _⟩,λU=>?_⟩;rw[be,ai];refine⟨λh=>I _ _ ⟨by unfold cp;rw[decide_eq_true (.inr (.inr (.inl h)))],Ext.refl _⟩,λV=>?_⟩;rw[be];refine I _ _ ⟨?_,Ext.refl _⟩;congr 1;unfold cp;rw[V5,decide_eq_true_eq,decide_eq_true_eq];omega
theorem Iu {b:Int}:aj x7 Gx [.int .u8 b] w λv w'=>v= .bool (bE b)/\Ext w w':=by
 refine aw func144 ?_;refine aR (λv J=>v= .bool (bE b)/\Ext w J) (λ_ _ h=>h) λav I=>?_;rw[cK,ai];refine⟨λh=>?_,λh=>I _ _ ⟨by unfold bE;rw[decide_eq_false Ω],Ext.refl _⟩⟩;rw[lr];refine I _ _ ⟨?_,Ext.refl _⟩;congr 1;unfold bE;rw[V5,decide_eq_true_eq,decide_eq_true_eq];omega
def lz (w:x3) (g:Nat) (I:x1) (p:Λ) (at_:Nat) (bad:Int):Prop:=Bytes p/\p.length<=100000/\at_<=p.length/\ac w g hn [I,Δ (at_:Int),Δ bad]/\ ∃bk,ap .u8 cE w bk I p
theorem lz.ext {g:Nat} {I:x1} {p:Λ} {at_:Nat} {bad:Int} (h:lz w g I p at_ bad) (J:Ext w w'):lz w' g I p at_ bad:=by
 obtain⟨h1,U,V,W,bk,X⟩:=h;exact⟨h1,U,V,W.ext J,bk,X.ext J⟩
theorem Iv (h:aB .u8 w v l) (af:l.length<=100000):aj x7 Gs [v] w λU w'=>Ext w w'/\ ∃g,ap .u8 cE w' g U l:=by
 have I:=h;obtain⟨ag,b,o,base,cap,rfl,ah,hm,X,ai⟩:=h;refine aw func138 ?_;rw[rz cH.u,cz];refine⟨λY=>⟨Ext.refl _,0,?_⟩,λ_=>?_⟩
 .have:l=[]:=by
   cases base with
   |none=>
        by_cases I:0<l.length
        .have:=X I;cases this
        .exact j9 Ω
   |some a=>cases Y
  subst this;exact ap.nil _ _ _ _
 .refine jT (k:=1) (cs:=#[]) cH.u cE.i Ω Ψ λg J ak W aa=>?_;have ab:ap .u8 cE J g (.slice (σ ⟨g,0,ν⟩) 0 0) []:=ap.of (n:=0) (bT.full (by simpa using aa) rfl Ξ);refine iQ cH.u cE.i rfl ab (I.ext W) Θ Θ λU ac V al ad ae=>?_;exact⟨W.put ae Ω,ac,by simpa using ad⟩
theorem zW (h:aB .u8 w v l) (aa:Bytes l) (U:l.length<=100000):aj x7 yI [v] w λab w'=>Ext w w'/\ ∃g,ab=Γ g/\w.heap.size<=g/\ ∃I,lz w' g I l 0 (-1):=by
 refine aw func77 ?_;refine (Iv h U).mono ?_;rintro I J _ ⟨W,bk,X⟩;rw[dc (cs:=#[I,Δ 0,Δ (-1)]) (by obtain⟨_,_,_,_,_,rfl,_⟩:=X.ls;kernel_rfl)];refine bm λg V ad Y ac=>?_;have ae:=W.size;exact⟨W.trans Y,g,rfl,Ω,I,aa,U,X2 _,ac,bk,X.ext Y⟩
def runN (f:Int->Bool) (p:Λ):Nat:=(p.takeWhile f).length
theorem Iw (f:Int->Bool) (p:Λ):runN f p<=p.length:=(List.takeWhile_sublist f).length_le
theorem zX {f:Int->Bool} {p:Λ} {i:Nat} {b:Int} (hi:p[i]? =σ b) (J:f b=true):i+runN f (p.drop i)=(i+1)+runN f (p.drop (i+1)):=by
 have I:=x4.1 hi;unfold runN;rw[X7 I.1,I.2,List.takeWhile_cons,if_pos J,b9];omega
theorem zY {f:Int->Bool} {p:Λ} {i:Nat} (h:∀b,p[i]? =σ b->f b=false):runN f (p.drop i)=0:=by
 unfold runN;cases I:p[i]? with
 |none=>
  rw[List.drop_of_length_le (List.getElem?_eq_none_iff.1 I)];rfl
 |some b=>
  have J:=x4.1 I;rw[X7 J.1,J.2,List.takeWhile_cons,if_neg (by simp[h b I])];rfl
theorem Ix {g at_:Nat} {af:x1} {p:Λ} {bad:Int} (h:lz w g af p at_ bad):aj x7 Gw [Γ g] w λv w'=>v=Δ ((at_+runN cp (p.drop at_):Nat):Int)/\Ext w w':=by
 obtain⟨ap,aq,ag,U,bk,Y⟩:=h;refine aw func143 ?_;rw[aM hn.p 1 U rfl];refine⟨λv J=>Ext w J/\ ∃i:Nat,v=Δ (i:Int)/\i<=p.length/\i+runN cp (p.drop i)=at_+runN cp (p.drop at_),λv _=>p.length-(bV v).toNat,⟨Ext.refl _,at_,rfl,ag,rfl⟩,?_⟩;rintro _ J ⟨X,i,rfl,hi,he⟩;refine aR (λv V=>Ext w V/\ ∃c:Bool,v= .bool c/\(c=true↔ ∃b,p[i]? =σ b/\cp b=true)) ?_ ?_
 .rintro _ V ⟨aa,c,rfl,ab⟩;rw[cz];refine⟨λah=>?_,λac=>?_⟩
  .obtain⟨b,W,ak⟩:=ab.1 ah;have al:=(x4.1 W).1;rw[aL,wrap_i64 Ω Ω];exact⟨⟨aa,i+1,rfl,al,by rw[<-he,zX W ak]⟩,by simp only[bV];omega⟩
  .have am:=zY (f:=cp) (p:=p) (i:=i) λb U=>by
    cases I:cp b with
    |false=>rfl
    |true=>rw[ab.2 ⟨b,U,I⟩] at ac;cases ac
   exact⟨by rw[<-he,am,Nat.add_zero],aa⟩
 .intro av ad;have ae:=U.ext X;rw[aM hn.p 0 ae rfl,aV cH.u (Y.ext X).ls,aP,ai];refine⟨λau=>?_,λax=>ad _ _ ⟨X,false,rfl,⟨λh=>(by cases h),λ⟨b,U,_⟩=>by have:=(x4.1 U).1;omega⟩⟩⟩;have an:i<p.length:=Ω
  have W:p[i]? =σ p[i]:=x6 an;rw[aM hn.p 0 ae rfl,ba cH.u cE.i Ψ (Y.ext X).ls W];refine zV.mono ?_;rintro _ ay _ ⟨rfl,ao⟩;exact ad _ _ ⟨X.trans ao,_,rfl,⟨λh=>⟨_,W,h⟩,λ⟨b,U,h⟩=>by rw[W] at U;cases U;exact h⟩⟩
inductive Iy where
 |word (from_ to:Nat)
 |none
 |text (at_:Nat)
def fT (p:Λ) (at_:Nat):Nat:=at_+runN cp (p.drop at_)
def im (p:Λ) (a:Nat):Nat:=a+runN bE (p.drop a)
open Classical in
noncomputable def ol (p:Λ) (at_:Nat):Iy:=
 if im p (fT p at_)<p.length/\(∀c,p[im p (fT p at_)]? =σ c->cp c=false) then .text (im p (fT p at_)) else if fT p at_=im p (fT p at_) then .none else .word (fT p at_) (im p (fT p at_))
def pE (w:x3) (g:Nat) (I:x1) (p:Λ) (at_:Nat) (v:x1) (w':x3):Prop:=
 match ol p at_ with
 | .word a b=>v= .tuple #[bO ((p.take b).drop a),Δ (a:Int),Δ 0]/\ae (λr=>r=g) w w'/\lz w' g I p b (-1)
 | .none=>∃n:Nat,v= .tuple #[bO [],Δ (n:Int),Δ 2]/\Ext w w'
 | .text b=>v= .tuple #[bO [],Δ (b:Int),Δ 11]/\ae (λr=>r=g) w w'/\lz w' g I p at_ (b:Int)
theorem gU {aU:Nat->Prop} {a b c:x3} (h:ae S a b) (k:ae aU b c) (V:∀r,r<a.heap.size->aU r->S r):ae S a c:=
 ⟨Y7 h.size k.size,λr o J I U=>k.aX r o (h.aX r o J I U) I λhu=>U (V r (o9.1 J).1 hu)⟩
theorem b3 {g J:Nat} {k:o4} {U:r9} (h:ap k e w g v l) (V:ac w J U cs) (X:e≠U) (W:leads v r):r≠J:=by
 obtain⟨rfl,_⟩:=bR h W;obtain⟨_,⟨rfl,_⟩|⟨_,_,_,I,_⟩⟩:=h
 .obtain⟨a,n,c,h,_⟩:=W;cases h
 .rintro rfl;unfold ac at V I;rw[V] at I;injection I with h1;injection h1 with aa Y;exact X Y.symm
theorem Iz {s:r9} {V:o4} {b i:Nat} (W:x7.underlying s=σ (.slice t)) (hi:aO x7 t 1 b z)
  (h:aB .u8 w v l) (X:i<=j) (Y:j<=l.length) (aa:∀I,aB .u8 w I ((l.take j).drop i)->K I):U x7 (V3 s v (σ (.int J (i:Int))) (σ (.int V (j:Int))) ν) w K:=by
 refine rL W hi h (mV i _ rfl) (mW j _ rfl) X Y λI h'=>aa I (aB.of (n:=j-i) ?_);have ab:((ints .u8 l).drop (i*1)).take ((j-i)*1)=ints .u8 ((l.take j).drop i):=by
  rw[U6,U6,ints,ints,List.map_drop,List.map_take,List.drop_take]
 rw[ab] at h';exact h'
theorem IA {g at_:Nat} {ah:x1} {p:Λ} (h:lz w g ah p at_ (-1)):aj x7 ut [Γ g] w (pE w g ah p at_):=by
 obtain⟨ay,az,aW,J,bk,ak⟩:=id h;refine aw func83 ?_;rw[cV ru.u,Z3,aS,aM hn.p 2 J rfl,cK,ai];refine⟨λh=>Ω,λ_=>?_⟩;refine (Ix h).mono ?_;rintro _ V _ ⟨rfl,aX⟩;obtain⟨a,aA⟩:∃a,a=at_+runN cp (p.drop at_):=⟨_,rfl⟩;rw[<-aA];have aY:a<=p.length:=by have:=Iw cp (p.drop at_);rw[List.length_drop] at this;omega
 refine⟨λv al=>Ext V al/\ ∃i:Nat,v=Δ (i:Int)/\a<=i/\i<=p.length/\i+runN bE (p.drop i)=a+runN bE (p.drop a),λv _=>p.length-(bV v).toNat,⟨Ext.refl _,a,rfl,p9 _,aY,rfl⟩,?_⟩;rintro _ al ⟨aB,i,rfl,aZ,hi,he⟩;have am:=aX.trans aB;have aC:=J.ext am;have aD:=ak.ext am;refine aR (λv ab=>Ext al ab/\ ∃c:Bool,v= .bool c/\(c=true↔ ∃b,p[i]? =σ b/\bE b=true)) ?_ ?_
 rotate_left
 .intro av W;rw[aM hn.p 0 aC rfl,aV cH.u aD.ls,aP,ai];refine⟨λa1=>?_,λa2=>W _ _ ⟨Ext.refl _,false,rfl,⟨λh=>(by cases h),λ⟨b,J,_⟩=>by have:=(x4.1 J).1;omega⟩⟩⟩;have ac:i<p.length:=Ω
  have U:p[i]? =σ p[i]:=x6 ac;rw[aM hn.p 0 aC rfl,ba cH.u cE.i Ψ aD.ls U];refine Iu.mono ?_;rintro _ ab _ ⟨rfl,ad⟩;exact W _ _ ⟨ad,_,rfl,⟨λh=>⟨_,U,h⟩,λ⟨b,J,h⟩=>by rw[U] at J;cases J;exact h⟩⟩
 rintro _ ab ⟨ad,c,rfl,X⟩;have an:=am.trans ad;have aE:=J.ext an;have aF:=ak.ext an;rw[cz];refine⟨λao=>?_,λaG=>?_⟩
 .obtain⟨b,U,a6⟩:=X.1 ao;have a7:=(x4.1 U).1;rw[aL,wrap_i64 Ω Ω];exact⟨⟨aB.trans ad,i+1,rfl,Ω,a7,by rw[<-he,zX U a6]⟩,by simp only[bV];omega⟩
 have bf:=zY (f:=bE) (p:=p) (i:=i) λb J=>by
  cases I:bE b with
  |false=>rfl
  |true=>rw[X.2 ⟨b,J,I⟩] at aG;cases aG
 have a8:i=a+runN bE (p.drop a):=Ω
 refine aR (λv ap=>Ext ab ap/\ ∃c:Bool,v= .bool c/\(c=true↔i<p.length/\ ∀c,p[i]? =σ c->cp c=false)) ?_ ?_
 rotate_left
 .intro av W;rw[aM hn.p 0 aE rfl,aV cH.u aF.ls,aP,ai];refine⟨λa1=>?_,λa2=>W _ _ ⟨Ext.refl _,false,rfl,⟨λh=>(by cases h),λh=>Ω⟩⟩⟩;have ac:i<p.length:=Ω
  have U:p[i]? =σ p[i]:=x6 ac;rw[aM hn.p 0 aE rfl,ba cH.u cE.i Ψ aF.ls U];refine zV.mono ?_;rintro _ ap _ ⟨rfl,aq⟩;rw[bu];refine W _ _ ⟨aq,_,rfl,⟨λh=>⟨ac,λc X=>?_⟩,λh=>by rw[h.2 _ U];rfl⟩⟩;rw[U] at X;cases X;cases I:cp p[i] with
  |false=>rfl
  |true=>rw[I] at h;cases h
 rintro _ ap ⟨aq,bg,rfl,aH⟩;have Y:=an.trans aq;have ae:=J.ext Y;have af:=ak.ext Y;have aI:∀r,leads ah r->r≠g:=λr bb=>b3 af ae Φ bb;have au:ol p at_=open Classical in if i<p.length/\(∀c,p[i]? =σ c->cp c=false) then .text i else if a=i then .none else .word a i:=by
  unfold ol;rw[show fT p at_=a from aA.symm,show im p a=i from a8.symm]
 rw[cz];refine⟨λao=>?_,λaJ=>?_⟩
 .rw[bQ,aT hn.p rfl];refine bz (g:=g) (o:=2) ag.i rfl rfl ae Ξ λbh aK bi bc=>?_;unfold pE;rw[au,if_pos (aH.1 ao)];exact⟨rfl,(Y.aa _).trans aK,ay,az,aW,bc,bk,bn af aK aI⟩
 .have aN:¬(i<p.length/\ ∀c,p[i]? =σ c->cp c=false):=λh=>by rw[aH.2 h] at aJ;cases aJ
  rw[be,ai];refine⟨λbj=>?_,λbl=>?_⟩
  .intro bm ax _ _;rw[aM hn.p 0 (ae.ext ax) rfl,aV cH.u (af.ext ax).ls];unfold pE;rw[au,if_neg aN,if_pos Ω];exact⟨p.length,rfl,Y.trans ax⟩
  .rw[bQ,aT hn.p rfl];refine bz (g:=g) (o:=1) ag.i rfl rfl ae Ξ λbo aO bp aQ=>?_;have aU:=bn af aO aI;rw[aM hn.p 0 aQ rfl];refine Iz (i:=a) (j:=i) cH.u cE.i aU.ls aZ hi λbq bd=>?_;rw[uY cH.u cE.u cU.u bd];unfold pE;rw[au,if_neg aN,if_neg Ω];exact⟨rfl,(Y.aa _).trans aO,ay,az,hi,aQ,bk,aU⟩
abbrev bo:ah:=λ_=>False
abbrev dZ (n:Nat):ah:=λr=>n<=r
theorem IB {b:Λ} {bb bv:x1} (U:aB .i64 w bb a) (ab:aB .i64 w bv b):
  aj x7 FH [bb,bv] w λv w'=>v= .bool (decide (a=b))/\Ext w w':=by
 refine aw func72 ?_;rw[aV am.u U,aV am.u ab];simp only[bh,ai];refine⟨λX=>⟨?_,Ext.refl _⟩,λac=>?_⟩
 .rw[decide_eq_false];rintro rfl;exact X rfl
 .have ac:a.length=b.length:=Ω
  rw[aV am.u U];refine bU.range a.length (λi _ J=>Ext w J/\a.take i=b.take i) U.le ⟨Ext.refl _,rfl⟩ ?_ ?_
  .rintro i t4 J k ad ⟨I,Y⟩ hk;simp only[aP,ai,eh];refine⟨λ_ V ae _ _=>?_,λh=>Ω⟩;have I:=I.trans ae;obtain⟨x,aa⟩:=aF (l:=a) ad;obtain⟨y,W⟩:=aF (l:=b) (i:=i) Ω;rw[ba am.u ag.i Ψ (U.ext I) aa,ba am.u ag.i Ψ (ab.ext I) W];simp only[bh,ai,aL];refine⟨λX=>⟨?_,I⟩,λaf=>hk _ _ ⟨I,uH Y aa W Ω⟩⟩;rw[decide_eq_false];rintro rfl;rw[aa] at W;cases W;exact X rfl
  .rintro _ J k ⟨I,Y⟩;simp only[aP,ai];refine⟨λh=>Ω,λ_=>⟨?_,I⟩⟩;rw[decide_eq_true];rwa [o6,ac,o6] at Y
def iU (rest:List (Λ)) (i:Nat):List (Λ):=(W7 i).flatMap λ(v:Nat)=>rest.map λt=>(v:Int)::t
theorem IC (rest:List (Λ)) (i:Nat):iU rest (i+1)=iU rest i++rest.map λt=>(i:Int)::t:=by
 simp[iU,List.range_succ]
theorem zZ (rest:List (Λ)) (i:Nat):(iU rest i).length=i*rest.length:=by
 simp only[iU,List.length_flatMap,u7];rw[List.map_const',List.length_range,List.sum_replicate_nat]
def om (l:Λ):Prop:=l.length<=90/\(∀x∈l,1<=x/\x<=32)/\aG l<=1073741824
theorem bX.p (h:bX l):om l:=⟨by have:=h.1;omega,h.2,(prod_bound h).2⟩
theorem om.tail {s:Λ} (h:om (k::s)):om s:=by
 have h1:=h.2.1 k (.head _);have J:=(kH s λx I=>h.2.1 x (.tail _ I)).1;have U:k*aG s<=1073741824:=h.2.2;have V:=Int.mul_le_mul_of_nonneg_right h1.1 (show 0<=aG s by omega);refine⟨?_,λx I=>h.2.1 x (.tail _ I),Ω⟩;have:=h.1;rw[b9] at this;omega
theorem u2:∀ (s:Λ) {sv:x1} {w:x3},aB .i64 w sv s->om s->
  aj x7 yC [sv] w λv w'=>Ext w w'/\bx (dZ w.heap.size) bo w' [v] (bi s)
 |[],sv,w,h,I=>by
  refine aw func46 ?_;rw[aV am.u h];simp only[be,List.length_nil,Int.natCast_zero,decide_true,bA];refine jm (α:=Λ) (a:=[]) (cs:=[.slice ν 0 0]) (A:=bo) cO.u am.i Φ rfl gB λv w' ap U _=>⟨ap,ak.mono U (λr _ h=>?_) λ_ _ h=>h⟩;exact h.elim False.elim id
 |k::s,sv,w,h,I=>by
  have aQ:1<=aG (k::s)/\aG (k::s)<=1073741824:=⟨(kH _ I.2.1).1,I.2.2⟩;have Y:om s:=I.tail;have hk:=I.2.1 k (.head _);have aq:=ij Y.2.1;have aR:1<=aG s/\aG s<=1073741824:=⟨(kH _ Y.2.1).1,Y.2.2⟩;obtain⟨kn,rfl⟩:∃kn:Nat,k=kn:=⟨k.toNat,Ω⟩;have aS:kn*(bi s).length<=1073741824:=by
   have e:((kn*(bi s).length:Nat):Int)=aG ((kn:Int)::s):=by
    rw[Int.natCast_mul,aq,aG,Int.toNat_of_nonneg Ω]
   omega
  refine aw func46 ?_;rw[aV am.u h];simp only[be,ai];refine⟨λau=>by simp at au;omega,λ_=>?_⟩;refine Ib (i:=1) rfl am.u ag.i h Ξ λav h'=>?_;refine (u2 s h' Y).mono ?_;rintro aT V _ ⟨ac,aa⟩;have aU:=ly aa;refine bU.range kn (λi out J=>Ext V J/\bx (dZ V.heap.size) bo J [out] (iU (bi s) i)) Ω ⟨Ext.refl _,gB⟩ ?_ ?_
  .rintro i out ax ay al ⟨X,U⟩ az;have aA:=bq aa X;rw[fP (y:=0) (i:=0) rfl am.u ag.i Ψ (h.ext (ac.trans X)) (by rfl)];simp only[aP,ai];refine⟨λ_=>?_,λh=>Ω⟩;rw[gj cO.u aA];refine bU.range (bi s).length (λj out J=>Ext V J/\bx (dZ V.heap.size) bo J [out] (iU (bi s) i++((bi s).take j).map λt=>(i:Int)::t)) Ω ⟨X,by simpa using U⟩ ?_ ?_
   .rintro j out W aC aD ⟨ab,U⟩ aE;simp only[aP,ai];refine⟨λ_=>?_,λh=>Ω⟩;obtain⟨x,ad⟩:=aF (l:=(bi s)) aD;have aW:x.length<=100:=by
     have:=zt ad;have:=Y.1;omega
    refine hq rfl rfl cO.u am.i Ψ (bq aa ab) ad λu hu=>?_;refine en am.u ag.i rfl λa ga aX aY ae aH=>?_;refine iQ am.u ag.i rfl aH (dp (bq hu ae)) Θ Θ λb aZ aI a1 af aJ=>?_;have a2:=ae.size;have an:Ext W aI:=ae.then aJ (by rintro r aa rfl;omega);have a6:=an.size;refine jm (α:=Λ) (a:=(i:Int)::x) (cs:=[b]) (A:=dZ W.heap.size) (R:=bo) cO.u am.i Φ (oc (kG af (R:=bo))) (ak.mono (kG af) (λr _ h=>by subst h;show W.heap.size<=r;omega) λ_ _ h=>h) λc a7 ah _ aK=>?_;have ao:=an.trans ah;have a8:=ah.size;refine l4 (α:=Λ) (a:=(i:Int)::x) (A:=dZ W.heap.size) cO.u am.i rfl (bq (ly U) ao) aK (bq (ak.mono (kG af) (λr _ h=>by subst h;show W.heap.size<=r;omega) λ_ _ h=>h) ah) (λr _ h h'=>?_) ?_ ?_ λav ba aM aN=>?_
    .rcases h' with h'|h'
     .have:=h.2;have:W.heap.size<=r:=h';omega
     .exact h'
    .have aO:(iU (bi s) i++((bi s).take j).map λt=>(i:Int)::t).length+1<=kn*(bi s).length:=by
      simp only[o5,zZ,u7,j0];have:(i+1)*(bi s).length<=kn*(bi s).length:=X5 _ al;rw[V8] at this;omega
     omega
    .have aO:(iU (bi s) i++((bi s).take j).map λt=>(i:Int)::t).length+1<=kn*(bi s).length:=by
      simp only[o5,zZ,u7,j0];have:(i+1)*(bi s).length<=kn*(bi s).length:=X5 _ al;rw[V8] at this;omega
     omega
    .simp only[aL];have bb:=ab.size;refine aE _ _ ⟨(ab.trans ao).then aN (λr aa h=>?_),?_⟩
     .have:=h.1;have:V.heap.size<=r:=this;omega
     .have e:iU (bi s) i++((bi s).take (j+1)).map (λt=>(i:Int)::t)=(iU (bi s) i++((bi s).take j).map λt=>(i:Int)::t)++[(i:Int)::x]:=by
       rw[r8,ad];simp
      rw[e];refine ak.mono aM (λr _ h=>?_) λ_ _ h=>h;show V.heap.size<=r;rcases h with h|h|h
      .exact h.1
      .have:W.heap.size<=r:=h;omega
      .omega
   .rintro out W aC ⟨ab,U⟩;simp only[aP,ai,aL];refine⟨λh=>Ω,λ_=>az _ _ ⟨ab,?_⟩⟩;rw[IC];simpa using U
  .rintro out ax ay ⟨X,U⟩;rw[fP (y:=0) (i:=0) rfl am.u ag.i Ψ (h.ext (ac.trans X)) (by rfl)];simp only[aP,ai];refine⟨λh=>Ω,λ_=>⟨ac.trans X,?_⟩⟩;have bc:=ac.size;have e:bi ((kn:Int)::s)=iU (bi s) kn:=by simp[bi,iU]
   rw[e];exact ak.mono U (λr _ h=>by have:V.heap.size<=r:=h;show w.heap.size<=r;omega) λ_ _ h=>h
theorem u3 (s:Λ) (h:aB .i64 w sv s) (I:bX s):aj x7 yC [sv] w λv w'=>Ext w w'/\bx (dZ w.heap.size) bo w' [v] (bi s):=u2 s h I.p
theorem ID:∀ (x:Nat),0<x-> ∃k m,x=2 ^ k*(2*m+1):=by
 intro x;induction x using Nat.strongRecOn with
 |_ x I=>
  intro h;by_cases J:x % 2=1
  .exact⟨0,x / 2,Ω⟩
  .obtain⟨k,m,hk⟩:=I (x / 2) Ω Ω;refine⟨k+1,m,?_⟩;rw[Nat.pow_succ,Nat.mul_assoc,Nat.mul_comm 2,<-Nat.mul_assoc,<-hk];omega
theorem va {k i:Nat}:(2 ^ k*(2*m+1)).testBit i=(decide (i=k)||decide (k<i)&&m.testBit (i-k-1)):=by
 rw[Nat.testBit_two_pow_mul];by_cases h:k<=i
 .obtain⟨d,rfl⟩:=Nat.exists_eq_add_of_le h;cases d with
  |zero=>simp
  |succ d=>
   have e:(2*m+1).testBit (d+1)=m.testBit d:=by rw[Nat.testBit_succ];congr 1;omega
   simp[e,show k+(d+1)-k=d+1 by omega]
 .simp[h,show i≠k by omega,show ¬k<i by omega]
theorem IE {k:Nat} (W:2 ^ k*(2*m+1)<2 ^ 64):(2 ^ k*(2*m+1)) &&& (2 ^ 64-2 ^ k*(2*m+1))=2 ^ k:=by
 have X:0<2 ^ k:=Nat.two_pow_pos k;have hk:k<64:=by
  rcases Nat.lt_or_ge k 64 with h|h
  .exact h
  .have:2 ^ 64<=2 ^ k:=T3 Ω h;have:2 ^ k*1<=2 ^ k*(2*m+1):=Nat.mul_le_mul_left _ Ω;omega
 have J:2 ^ k*(2*m+1)=(2 ^ k*(2*m)+(2 ^ k-1))+1:=by rw[Nat.mul_add];omega
 apply Nat.eq_of_testBit_eq;intro i;rw[Nat.testBit_and,va]
 conv=>lhs;rhs;rw[J]
 rw[Nat.testBit_two_pow_sub_succ Ω,Nat.testBit_two_pow_mul_add _ Ω,Nat.testBit_two_pow];by_cases h1:i=k
 .subst h1;simp[hk]
 .by_cases I:k<i
  .have U:(2*m).testBit (i-k)=m.testBit (i-k-1):=by
    obtain⟨d,V⟩:∃d,i-k=d+1:=⟨i-k-1,Ω⟩;rw[V,Nat.testBit_succ];congr 1;omega
   simp[h1,I,show ¬i<k by omega,U,show k≠i by omega];intro h;simp[h]
  .simp[h1,I,show k≠i by omega]
def jp (a c:Nat):Nat:=(BitVec.ofNat 64 a &&& ~~~BitVec.ofNat 64 c).toNat
theorem z1 (a c i:Nat):(jp a c).testBit i=(decide (i<64)&&(a.testBit i&& !c.testBit i)):=by
 unfold jp;rw[BitVec.testBit_toNat,BitVec.getLsbD_and,BitVec.getLsbD_not,BitVec.getLsbD_ofNat,BitVec.getLsbD_ofNat];by_cases h:i<64<;>simp[h]
theorem IF (a c:Nat):jp a c<2 ^ 64:=BitVec.isLt _
theorem IG {a:Nat} (h:∀i,n<=i->a.testBit i=false):a<2 ^ n:=Nat.lt_pow_two_of_testBit a h
theorem z6 {a i:Nat} (h:a<2 ^ n) (hi:n<=i):a.testBit i=false:=Nat.testBit_lt_two_pow (R3 h (T3 Ω hi))
def gk (b n:Nat):List Nat:=(W7 n).filter λi=>b.testBit i
theorem z7 (b n:Nat):(gk b n).Pairwise (·< ·):=List.Pairwise.filter _ List.pairwise_lt_range
theorem vb {b i:Nat}:i∈gk b n↔i<n/\b.testBit i=true:=by simp[gk]
def nb:Option Nat->Int
 |some i=>(i:Int)
 |none=>-1
def jq (b n:Nat) (v:Int):Int:=nb ((W7 n).find? (λi:Nat=>decide (v<(i:Int))&&b.testBit i))
theorem z8:∀ {l:List Nat} {k x:Nat},l.Pairwise (·< ·)->l[k]? =σ x->l.filter (λi=>decide (x<i))=l.drop (k+1)
 |y::l,0,x,h,hk=>by
  simp at hk;subst hk;rw[List.pairwise_cons] at h;simp only[List.drop_succ_cons,List.drop_zero];rw[List.filter_cons_of_neg Ξ,List.filter_eq_self.2 λa I=>by simpa using h.1 a I]
 |y::l,k+1,x,h,hk=>by
  simp only[List.getElem?_cons_succ] at hk;rw[List.pairwise_cons] at h;have:y<x:=h.1 x (x5 hk);rw[List.filter_cons_of_neg Θ,List.drop_succ_cons];exact z8 h.2 hk
theorem Aa (b n:Nat) (v:Int):jq b n v=nb (((gk b n).filter (λi:Nat=>decide (v<i))).head?):=by
 unfold jq gk;rw[<-List.head?_filter,List.filter_filter]
theorem IH (b n:Nat):jq b n (-1)=nb ((gk b n)[0]?):=by
 rw[Aa,List.filter_eq_self.2 (λa _=>Θ),List.head?_eq_getElem?]
theorem Ab {b k x:Nat} (h:(gk b n)[k]? =σ x):jq b n x=nb ((gk b n)[k+1]?):=by
 have e:(λi:Nat=>decide ((x:Int)<i))=λi=>decide (x<i):=by funext i;simp
 rw[Aa,e,z8 (z7 b n) h,List.head?_eq_getElem?,List.getElem?_drop]
theorem II {b:Nat} {v:Int} (h:(n:Int)-1<=v):jq b n v= -1:=by
 unfold jq;rw[List.find?_eq_none.2 λi hi=>by simp at hi ⊢;omega];rfl
theorem IJ {b k s:Nat} (aa:n<=64) (U:b<2 ^ n) (J:∀i,r.testBit i=(decide (s<=i)&&b.testBit i)) (hk:r=2 ^ k*(2*m+1)) {v:Int} (ab:v+1=s):jq b n v=k:=by
 have V:r.testBit k=true:=by rw[hk,va];simp
 have W:∀i,i<k->r.testBit i=false:=λi hi=>by rw[hk,va];simp[show i≠k by omega,show ¬k<i by omega]
 have I:=V;rw[J] at I;simp at I;have X:k<n:=by
  rcases Nat.lt_or_ge k n with h|h
  .exact h
  .rw[z6 U h] at I;cases I.2
 unfold jq;have:(W7 n).find? (λi:Nat=>decide (v<(i:Int))&&b.testBit i)=σ k:=by
  rw[List.find?_range_eq_some];refine⟨by simp[I.2];omega,by simpa using X,λj Y=>?_⟩;have:=W j Y;rw[J] at this;simp only[Bool.not_eq_true',Bool.and_eq_false_iff,decide_eq_false_iff_not] at this ⊢;rcases this with h|h
  .exact .inl Ω
  .exact .inr h
 rw[this];rfl
theorem IK {b s:Nat} (I:∀i,r.testBit i=(decide (s<=i)&&b.testBit i)) (hk:r=0) {v:Int} (J:v+1=s):jq b n v= -1:=by
 unfold jq;rw[List.find?_eq_none.2]
 .rfl
 .intro i hi;have:=I i;rw[hk,Nat.zero_testBit] at this;simp at hi this ⊢;intro h;exact this Ω
section
variable {P:W0} {w:x3} {t:r9} {cx cy:Bool} {a b:Nat} {K:x1->Prop}
theorem l8 (a:Nat):U3 64 (a:Int)=BitVec.ofNat 64 a:=BitVec.ofInt_natCast _ _
theorem Ac (x:BitVec 64):V9.wrap (x.toNat:Int)=(x.toNat:Int):=by
 have:=x.isLt;rw[wrap_u64 Ω Ω]
theorem u64_and (I:a<2 ^ 64) (J:b<2 ^ 64):U P (aE .and t cx cy (.int .u64 a) (.int .u64 b)) w K=K (.int .u64 ((a &&& b:Nat):Int)):=U.of λw' _=>by
 have e:(U3 64 (a:Int) &&& U3 64 (b:Int)).toNat=a &&& b:=by
  rw[l8,l8,BitVec.toNat_and,BitVec.toNat_ofNat,BitVec.toNat_ofNat,Nat.mod_eq_of_lt I,Nat.mod_eq_of_lt J]
 have hw:V9.wrap ((a &&& b:Nat):Int)=((a &&& b:Nat):Int):=by rw[<-e];exact Ac _
 have V:(U3 V9.bits (a:Int) &&& U3 V9.bits (b:Int)).toNat=a &&& b:=e;simp only[aE,eqGuard,binOp,Op.intBits,V,hw];rfl
theorem Ad:U P (aE .andNot t cx cy (.int .u64 a) (.int .u64 b)) w K=K (.int .u64 (jp a b:Int)):=U.of λw' _=>by
 have e:(U3 64 (a:Int) &&& ~~~U3 64 (b:Int)).toNat=jp a b:=by rw[l8,l8];rfl
 have hw:V9.wrap (jp a b:Int)=(jp a b:Int):=Ac _;have I:(U3 V9.bits (a:Int) &&& ~~~U3 V9.bits (b:Int)).toNat=jp a b:=e;simp only[aE,eqGuard,binOp,Op.intBits,I,hw];rfl
theorem kL {k:o4} (I:n<64):U P (aE .shr t cx cy (.int .u64 (a:Int)) (.int k (n:Int))) w K=K (.int .u64 ((a / 2 ^ n:Nat):Int)):=U.of λw' _=>by
 have e:(a:Int).fdiv (2 ^ min n V9.bits)=((a / 2 ^ n:Nat):Int):=by
  have:min n V9.bits=n:=Nat.min_eq_left (by show n<=64;omega);rw[this,Int.fdiv_eq_ediv_of_nonneg _ (by exact Int.le_of_lt (Int.pow_pos Ω))];simp
 simp only[aE,eqGuard,binOp,Op.shift,u9,e];simp[show ¬(n:Int)<0 by omega]
theorem vc {k:o4} (I:n<64):U P (aE .shl t cx cy (.int .u64 1) (.int k (n:Int))) w K=K (.int .u64 ((2 ^ n:Nat):Int)):=by
 rw[y8 Ω];have e:min ((n:Int).toNat) V9.bits=n:=Nat.min_eq_left (by show n<=64;omega);have J:2 ^ n<2 ^ 64:=Nat.pow_lt_pow_right Ω I;rw[e,Int.one_mul,show ((2:Int) ^ n)=((2 ^ n:Nat):Int) by simp];generalize 2 ^ n=q at J ⊢;rw[wrap_u64 Ω Ω]
end
def ma:Λ:=[0,1,56,2,57,49,28,3,61,58,42,50,38,29,17,4,62,47,59,36,45,43,51,22,53,39,33,30,24,18,12,5,63,55,48,27,60,41,37,16,46,35,44,21,52,32,23,11,54,26,40,15,34,20,31,10,25,14,19,9,13,8,7,6]
def Laid (w:x3):Prop:=w.rangeAt 0 0 (ints .u8 ma)
theorem Laid.ext (h:Laid w) (I:Ext w w'):Laid w':=mU I h
theorem IL:∀k:Nat,k<64->ma[(2 ^ k*285870213051353865 % 2 ^ 64) / 2 ^ 58]? =σ (k:Int):=Φ
theorem IM {x k:Nat} (J:Laid w) (U:x=2 ^ k*(2*m+1)) (V:x<2 ^ 64):
  aj x7 GW [.int .u64 (x:Int)] w λv w'=>v=Δ (k:Int)/\Ext w w':=by
 have ab:0<2 ^ k:=Nat.two_pow_pos k;have ac:2 ^ k<=x:=by
  have:2 ^ k*1<=2 ^ k*(2*m+1):=Nat.mul_le_mul_left _ Ω;omega
 have hk:k<64:=by
  rcases Nat.lt_or_ge k 64 with h|h
  .exact h
  .have:2 ^ 64<=2 ^ k:=T3 Ω h;omega
 refine aw func177 ?_;simp only[be,ai];refine⟨λh=>Ω,λ_=>?_⟩;rw[lu];have W:V9.wrap (0-(x:Int))=((2 ^ 64-x:Nat):Int):=by
  simp only[o4.wrap,o4.bits,o4.signed];simp;omega
 rw[W,u64_and V Ω,U,IE Ω];simp only[gh];have X:V9.wrap (((2 ^ k:Nat):Int)*285870213051353865)=((2 ^ k*285870213051353865 % 2 ^ 64:Nat):Int):=by
  have e:((2 ^ k:Nat):Int)*285870213051353865=((2 ^ k*285870213051353865:Nat):Int):=Ξ
  rw[e];simp only[o4.wrap,o4.bits,o4.signed];simp
 have Y:(58:Int)=((58:Nat):Int):=rfl;rw[X,Y,kL Ω];have I:=IL k hk;have aa:=(x4.1 I).1;rw[uG (t:=rx) rx.u cE.i aa,aA Ψ (by rw[U6];exact J _ _ (kF I)),e7 cE.u ag.u,wrap_i64 Ω Ω];exact⟨rfl,Ext.refl _⟩
def iV (b n:Nat):x1:=.agg #[.int .u64 (b:Int),Δ (n:Int)]
def lA (b n:Nat):Prop:=n<=32/\b<2 ^ n
theorem Ae (s i:Nat):(2 ^ s-1).testBit i=decide (i<s):=Nat.testBit_two_pow_sub_one s i
theorem Af {b:Nat} {v:Int}:aj x7 Gl [iV b n,Δ v] w λr w'=>r= .bool (decide (0<=v/\v<n))/\Ext w w':=by
 refine aw func131 ?_;refine bm λg J V I U=>?_;simp only[cg,cK,ai];refine⟨λh=>?_,λh=>⟨?_,I⟩⟩
 .rw[aD b1.p 1 U rfl];simp only[aP];exact⟨by simp[h],I⟩
 .rw[decide_eq_false];omega
theorem Ag {b:Nat}:aj x7 F8 [iV b n] w λr w'=>r=Δ n/\Ext w w':=by
 refine aw func115 ?_;refine bm λg J V I U=>?_;rw[aD b1.p 1 U rfl];exact⟨rfl,I⟩
theorem IN {n:Int}:aj x7 F6 [Δ n] w λr w'=>Ext w w'/\r=(if 1<=n/\n<=32 then .tuple #[iV (2 ^ n.toNat-1) n.toNat,Δ 0] else .tuple #[iV 0 0,Δ 1]):=by
 refine aw func113 ?_;refine bN b1.i λg J ad W X=>?_;refine aR (λv V=>v= .bool (decide (¬(1<=n/\n<=32)))/\J=V) ?_ ?_
 .rintro _ _ ⟨rfl,rfl⟩;simp only[ai];refine⟨λh=>?_,λh=>?_⟩
  .rw[dc (cs:=#[.int .u64 0,Δ 0]) Ψ];refine cc (vs:=[.int .u64 0,Δ 0]) b1.i rfl rfl (by intro u hu;simp at hu;rcases hu with rfl|rfl<;>rfl) X λaa I ab U=>?_;rw[fB b1.p b1.i rfl U.range,if_neg h];exact⟨W.then I (by rintro r ac rfl;omega),rfl⟩
  .have h:1<=n/\n<=32:=Y4.1 h;obtain⟨m,rfl⟩:∃m:Nat,n=m:=⟨n.toNat,Ω⟩;rw[vc Ω];have ae:0<2 ^ m:=Nat.two_pow_pos m;have af:2 ^ m<=2 ^ 32:=T3 Ω Ω;simp only[dP];rw[wrap_u64 Ω Ω,show (((2 ^ m:Nat):Int)-1)=((2 ^ m-1:Nat):Int) by omega];rw[dc (cs:=#[.int .u64 ((2 ^ m-1:Nat):Int),Δ m]) Ψ];refine cc (vs:=[.int .u64 ((2 ^ m-1:Nat):Int),Δ m]) b1.i rfl rfl (by intro u hu;simp at hu;rcases hu with rfl|rfl<;>rfl) X λaa I ab U=>?_;rw[fB b1.p b1.i rfl U.range,if_pos h];exact⟨W.then I (by rintro r ac rfl;omega),rfl⟩
 .intro av Y;simp only[aP,bM,ai];refine⟨λh=>Y _ _ ⟨?_,rfl⟩,λh=>Y _ _ ⟨?_,rfl⟩⟩
  .rw[decide_eq_true];omega
  .congr 1;simp;omega
theorem Ah {b:Nat} {v:Int} (ac:lA b n) (ad:Laid w) (ak: -1<=v):aj x7 Gb [iV b n,Δ v] w λr w'=>r=Δ (jq b n v)/\Ext w w':=by
 obtain⟨al,W⟩:=ac;have X:b<2 ^ 64:=R3 W (T3 Ω Ω);refine aw func119 ?_;refine bm λg J am U Y=>?_;rw[aD b1.p 1 Y rfl];simp only[dP,cK,ai];rw[wrap_i64 Ω Ω];refine⟨λh=>⟨by rw[II h],U⟩,λan=>?_⟩;rw[aD b1.p 0 Y rfl];refine aR (λu V=>J=V/\ ∃r s:Nat,u= .int .u64 (r:Int)/\r<2 ^ 64/\v+1=s/\ ∀i,r.testBit i=(decide (s<=i)&&b.testBit i)) ?_ ?_
 .rintro _ _ ⟨rfl,r,s,rfl,ae,I,aa⟩;simp only[be,ai];refine⟨λaf=>⟨by rw[IK aa Ω I],U⟩,λaf=>?_⟩;obtain⟨k,m,hk⟩:=ID r Ω;refine (IM (ad.ext U) hk ae).mono ?_;rintro _ ao _ ⟨rfl,ag⟩;exact⟨by rw[IJ Ω W aa hk I],U.trans ag⟩
 .intro av ab;refine⟨λh=>?_,λh=>?_⟩
  .obtain⟨s,rfl⟩:∃s:Nat,v=s:=⟨v.toNat,Ω⟩;have ap:0<2 ^ (s+1):=Nat.two_pow_pos _;have aq:2 ^ (s+1)<=2 ^ 32:=T3 Ω Ω;simp only[aL];rw[wrap_i64 Ω Ω,show ((s:Int)+1)=((s+1:Nat):Int) by omega,vc Ω];simp only[dP];rw[wrap_u64 Ω Ω,show (((2 ^ (s+1):Nat):Int)-1)=((2 ^ (s+1)-1:Nat):Int) by omega,Ad];refine ab _ _ ⟨rfl,_,s+1,rfl,IF _ _,Ω,λi=>?_⟩;rw[z1,Ae];by_cases ah:i<64
   .by_cases hi:s+1<=i
    .simp[ah,hi,show ¬i<s+1 by omega]
    .simp[hi,show i<s+1 by omega]
   .rw[z6 X Ω];simp
  .exact ab _ _ ⟨rfl,b,0,rfl,X,Ω,λi=>Ξ⟩
theorem IP {b:Nat} (U:lA b n) (W:Laid w):aj x7 Ga [iV b n] w λr w'=>r=Δ (jq b n (-1))/\Ext w w':=by
 refine aw func118 ?_;refine bm λg J aa I X=>?_;rw[bI b1.p b1.i rfl X.range];refine (Ah U (W.ext I) Ω).mono ?_;rintro _ V _ ⟨rfl,Y⟩;exact⟨rfl,I.trans Y⟩
theorem IQ {b:Nat} {v:Int} (am:lA b n):aj x7 F9 [iV b n,Δ v] w λr w'=>r=iV (if 0<=v/\v<n then jp b (2 ^ v.toNat) else b) n/\Ext w w':=by
 refine aw func116 ?_;refine bm λg J aA ab ad=>?_;refine bN b1.i λan V aB ae af=>?_;have aC:=ab.size;have aE:=ad.lt;refine db (λU=>∃W,ac U g b1 [.int .u64 ((W:Nat):Int),Δ (n:Int)]/\ac U an b1 [.int .u64 0,Δ 0]/\Ext w U/\W=(if 0<=v/\v<n then jp b (2 ^ v.toNat) else b)) ?_ ?_
 .rintro U ⟨W,ao,ap,aq,rfl⟩;rw[bI b1.p b1.i rfl ao.range];refine cc (vs:=[_,_]) b1.i rfl rfl (by intro u hu;simp at hu;rcases hu with rfl|rfl<;>rfl) ap λaF au aG ax=>?_;rw[fB b1.p b1.i rfl ax.range];exact⟨rfl,aq.then au (by rintro r ay rfl;omega)⟩
 .intro av ag;have X:=ad.ext ae;rw[bI b1.p b1.i rfl X.range];refine Af.mono ?_;rintro _ aH _ ⟨rfl,I⟩;have ah:=(ab.trans ae).trans I;simp only[ai,eh];refine⟨λh aI Y _ _=>?_,λh=>ag _ ⟨b,X.ext I,af.ext I,ah,by rw[if_neg h]⟩⟩;have ak:=(X.ext I).ext Y;rw[aD b1.p 0 ak rfl];obtain⟨s,rfl⟩:∃s:Nat,v=s:=⟨v.toNat,Ω⟩;have aJ:=am.1;rw[vc Ω,Ad,aT b1.p rfl];refine bz fi.i rfl rfl ak (by simp[iV,x1.cells]) λaK al aL az=>?_;refine ag _ ⟨_,az,((af.ext I).ext Y).aa al Ω,(ah.trans Y).then al (by rintro r ay rfl;omega),?_⟩;rw[if_pos h,u9]
def oo (v:Int):Nat:=if v<0 then 0 else 40-v.toNat
theorem vd (x:Nat):oo x=40-x:=by unfold oo;rw[if_neg Ω];omega
theorem pF {b g:Nat} (U:lA b n):
  nU x7 kA [Γ g] (gk b n).length (λk vs _=>∃v:Nat,(gk b n)[k]? =σ v/\vs=[Δ (v:Int)])
   (λw=>ac w g b1 [.int .u64 (b:Int),Δ (n:Int)]/\Laid w):=by
 refine⟨kA.enters,λl av aw w aa _ ah ⟨ab,ad⟩ aj=>?_⟩;have ax:=U.1;refine pt func117 ?_;rw[bI b1.p b1.i rfl ab.range];refine (IP U ad).free.mono ?_;rintro _ J ⟨ak,rfl,W⟩;refine⟨λv V=>∃k,k<=(gk b n).length/\v=Δ (nb (gk b n)[k]?)/\av k V/\ac V g b1 [.int .u64 (b:Int),Δ (n:Int)]/\Laid V,
  λv _=>oo (bV v),⟨0,X2 _,by rw[IH],aa 0 _ _ W ak.b aj,ab.ext W,ad.ext W⟩,?_⟩
 rintro _ V ⟨k,hk,rfl,ae,al,am⟩;cases I:(gk b n)[k]? with
 |none=>
  have:k=(gk b n).length:=by
   have:=List.getElem?_eq_none_iff.1 I;omega
  subst this;simp only[nb,cK,ai];exact⟨λh=>Ω,λ_=>.inl ae⟩
 |some x=>
  have X:=(x4.1 I).1;have ay:=(vb.1 (x5 I)).1;simp only[nb,cK,ai];refine⟨λ_=>?_,λh=>Ω⟩;refine⟨rfl,(ah k _ V X ⟨al,am⟩ ⟨x,I,rfl⟩ ae).mono ?_⟩;rintro _ az (⟨rfl,⟨af,ag⟩,an⟩|⟨rfl,ao⟩)
  .simp only[bu,Z8,aS];rw[bI b1.p b1.i rfl af.range];refine (Ah U ag Ω).free.mono ?_;rintro _ aA ⟨ap,rfl,Y⟩;refine⟨⟨k+1,X,congrArg (V1 .i64) (Ab I),aa _ _ _ Y ap.b an.1,af.ext Y,ag.ext Y⟩,?_⟩;rw[Ab I];cases aq:(gk b n)[k+1]? with
   |none=>show 0<oo x;rw[vd];omega
   |some y=>
    have aB:x<y:=by
     have h1:=(x4.1 I).2;have au:=(x4.1 aq).2;rw[<-h1,<-au];exact V2.1 (z7 b n) k (k+1) _ _ Ω
    show oo y<oo x;rw[vd,vd];omega
  .simp only[bu,X3,bA];exact .inr ⟨k,X,ao⟩
theorem pG {b:Nat}:aj x7 Fr [iV b n] w λr w'=>Ext w w'/\ ∃g,r= .func (.func kA) #[] #[Γ g]/\w.heap.size<=g/\ac w' g b1 [.int .u64 (b:Int),Δ (n:Int)]:=by
 refine aw func45 ?_;refine bm λg J V I U=>?_;rw[lZ];exact⟨I,g,rfl,Ω,U⟩
abbrev dz (s:Λ):Prop:=∀x∈s,1<=x/\x<=32
theorem dz.tail {s:Λ} (h:dz (k::s)):dz s:=λx I=>h x (.tail _ I)
theorem lB {s:Λ} (h:dz s):1<=aG s:=(kH s h).1
theorem oq:∀ (s t:Λ) (m:Int),cC s t m=(cC s t 0).map λn=>n+m*aG s
 |[],[],m=>by simp[cC,aG]
 |k::s,v::t,m=>by
  unfold cC;split
  .rw[oq s t (m*k+v),oq s t (0*k+v)];simp only[Option.map_map,aG];congr 1;funext n;simp only[Function.comp];rw[Int.add_mul,Int.add_mul,<-Int.mul_assoc];simp;omega
  .rfl
 |[],_::_,_=>rfl
 |_::_,[],_=>rfl
theorem ve {L j:Nat} {rest:List (Λ)} (V:rest.length=L):∀ {kn v:Nat},v<kn-> ∀ {x:Λ},rest[j]? =σ x->
  ((W7 kn).flatMap λ(v:Nat)=>rest.map λt=>(v:Int)::t)[v*L+j]? =σ ((v:Int)::x)
 |0,v,h,_,_=>Ω
 |kn+1,v,h,x,J=>by
  have W:=(x4.1 J).1;have U:((W7 kn).flatMap λ(v:Nat)=>rest.map λt=>(v:Int)::t).length=kn*L:=by
   simp only[List.length_flatMap,u7,V];rw[List.map_const',List.length_range,List.sum_replicate_nat]
  rw[List.range_succ,List.flatMap_append];by_cases I:v<kn
  .have:(v+1)*L<=kn*L:=X5 _ I;rw[V8] at this;rw[Y0 (by rw[U];omega)];exact ve V I J
  .have I:v=kn:=Ω
   subst I;rw[Y1 (by rw[U];omega),U,show v*L+j-v*L=j by omega];simp[J]
theorem iW:∀ {s:Λ},dz s-> ∀ {i:Nat} {t:Λ},(bi s)[i]? =σ t->cC s t 0=σ (i:Int)
 |[],_,i,t,h=>by
  cases i with
  |zero=>simp[bi] at h;subst h;rfl
  |succ i=>simp[bi] at h
 |k::s,I,i,t,h=>by
  have hk:=I k (.head _);have J:=ij I.tail;have ab:=lB I.tail;obtain⟨kn,rfl⟩:∃kn:Nat,k=kn:=⟨k.toNat,Ω⟩;have hi:=(x4.1 h).1;rw[ij I,aG,Int.toNat_mul Ω Ω,<-J,u9] at hi;have X:0<(bi s).length:=Ω
  have U:i / (bi s).length<kn:=Nat.div_lt_of_lt_mul (by rw[Nat.mul_comm];exact hi);have Y:i % (bi s).length<(bi s).length:=Nat.mod_lt _ X;obtain⟨x,V⟩:∃x,(bi s)[i % (bi s).length]? =σ x:=⟨_,x6 Y⟩;have W:=ve (kn:=kn) rfl U V;rw[Nat.mul_comm,Nat.div_add_mod] at W;have h':((W7 ((kn:Int).toNat)).flatMap λ(v:Nat)=>(bi s).map λt=>(v:Int)::t)[i]? =σ t:=h;rw[u9,W] at h';cases h';unfold cC;rw[if_pos ⟨Int.natCast_nonneg _,Int.ofNat_lt.2 U⟩,oq,iW I.tail V];simp only[Z2,Y6,Int.zero_mul,Int.zero_add];have aa:aG s=((bi s).length:Int):=by rw[J];omega
  rw[aa,<-Int.natCast_mul,<-Int.natCast_add];congr 1;rw[Nat.mul_comm,Nat.add_comm,Nat.div_add_mod]
theorem mb:∀ {s:Λ},dz s-> ∀ {t:Λ} {n:Int},cC s t 0=σ n->(bi s)[n.toNat]? =σ t
 |[],_,[],n,h=>by simp[cC] at h;subst h;rfl
 |k::s,I,v::t,n,h=>by
  have hk:=I k (.head _);have V:=ij I.tail;have Y:=lB I.tail;obtain⟨kn,rfl⟩:∃kn:Nat,k=kn:=⟨k.toNat,Ω⟩;unfold cC at h;split at h
  .rename_i aa;rw[oq] at h;cases U:cC s t 0 with
   |none=>rw[U] at h;cases h
   |some q=>
    rw[U] at h;simp only[Z2,Y6,Int.zero_mul,Int.zero_add] at h;have W:=m4 I.tail U;simp only[Int.zero_mul,Int.zero_add,Int.one_mul] at W;obtain⟨J,rfl⟩:∃J:Nat,v=J:=⟨v.toNat,Ω⟩;have X:=ve (kn:=kn) (v:=J) rfl Ω (mb I.tail U);have e:n.toNat=J*(bi s).length+q.toNat:=by
     rw[<-h,V];have:((J*(aG s).toNat:Nat):Int)=(J:Int)*aG s:=by rw[Int.natCast_mul,Int.toNat_of_nonneg Ω]
     omega
    rw[e];show ((W7 ((kn:Int).toNat)).flatMap λ(v:Nat)=>(bi s).map λt=>(v:Int)::t)[_]? =_;rw[u9];exact X
  .cases h
 |[],_,_::_,_,h=>by cases h
 |_::_,_,[],_,h=>by cases h
theorem Ai:∀ (s:Λ),dz s-> ∀ (n c:Int),cM s (n+c*aG s)=cM s n
 |[],_,_,_=>rfl
 |k::s,I,n,c=>by
  have J:=lB I.tail;simp only[cM,aG];rw[<-Int.mul_assoc,Ai s I.tail,Int.add_mul_ediv_right _ _ Ω,Int.add_mul_emod_self_right]
theorem rP:∀ {s:Λ},dz s-> ∀ {n:Int},0<=n->n<aG s->cC s (cM s n) 0=σ n
 |[],_,n,J,h1=>by simp[aG] at h1;simp[cM,cC];omega
 |k::s,I,n,J,h1=>by
  have hk:=I k (.head _);have W:=lB I.tail;simp only[cM,aG] at h1 ⊢;have U:n / aG s<k:=Int.ediv_lt_of_lt_mul Ω h1;have V:0<=n / aG s:=Int.ediv_nonneg J Ω;have hm:n / aG s % k=n / aG s:=Int.emod_eq_of_lt V U;rw[hm];unfold cC;rw[if_pos ⟨V,U⟩,oq];have e:cM s n=cM s (n % aG s):=by
   have:=Ai s I.tail (n % aG s) (n / aG s);rw[<-this];congr 1;have:=Int.emod_add_mul_ediv n (aG s);rw[Int.mul_comm (n / aG s)];omega
  rw[e,rP I.tail (Int.emod_nonneg _ Ω) (Int.emod_lt_of_pos _ Ω)];simp only[Z2,Y6,Int.zero_mul,Int.zero_add];have:=Int.emod_add_mul_ediv n (aG s);rw[Int.mul_comm (n / aG s)];omega
theorem pH {s:Λ} (I:dz s) {i:Nat} (h:(i:Int)<aG s):(bi s)[i]? =σ (cM s i):=by
 have:=mb I (rP I (n:=(i:Int)) Ω h);simpa using this
def bl (s cs t:Λ):Int:=match cC s t 0 with
 |some n=>cs.getD n.toNat 0
 |none=>0
def upto {α:Type} (l:List α) (d:α) (i:Nat):List α:=l.take i++p8 (l.length-i) d
theorem nc {α:Type} (l:List α) (d:α) (i:Nat):(upto l d i).length=l.length:=by simp[upto];omega
theorem ot {α:Type} (l:List α) (d:α):upto l d 0=p8 l.length d:=by simp[upto]
theorem ou {α:Type} (l:List α) (d:α):upto l d l.length=l:=by simp[upto]
theorem ov {α:Type} {l:List α} {d x:α} {i:Nat} (h:l[i]? =σ x):(upto l d i).set i x=upto l d (i+1):=by
 have hi:=(x4.1 h).1;unfold upto;rw[U9 _ _ Θ,r8,h];have e:i-(l.take i).length=0:=Θ
 obtain⟨m,hm⟩:∃m,l.length-i=m+1:=⟨l.length-i-1,Ω⟩;rw[e,hm,show l.length-(i+1)=m by omega];simp[List.replicate_succ]
theorem pI {α:Type} {l:List α} {i:Nat} {x:α} (h:l[i]? =σ x):l.set i x=l:=by
 apply Y8;intro j;rw[X0];split
 .rename_i I;subst I;rw[if_pos (x4.1 h).1,h]
 .rfl
def vf:Λ->Int
 |[]=>0
 |x::l=>l.foldl min x
def Aj (P:Int->Prop) (m:Int):Prop:=P m/\ ∀x,P x->m<=x
def c5 (s t:Λ):Prop:=∃n,cC s t 0=σ n
theorem IR (k v:Int) (s t:Λ):cC (k::s) (v::t) 0=if 0<=v/\v<k then (cC s t 0).map (λn=>n+(0*k+v)*aG s) else ν:=by
 conv=>lhs;unfold cC
 rw[oq]
theorem Ak {v:Int} {s t:Λ}:c5 (k::s) (v::t)↔(0<=v/\v<k)/\c5 s t:=by
 unfold c5;rw[IR];constructor
 .rintro⟨n,h⟩;split at h
  .rename_i I;cases J:cC s t 0 with
   |none=>rw[J] at h;cases h
   |some q=>exact⟨I,q,rfl⟩
  .cases h
 .rintro⟨I,q,J⟩;rw[if_pos I,J];exact⟨_,rfl⟩
theorem Al {t:Λ}:c5 [] t↔t=[]:=by
 cases t with
 |nil=>exact⟨λ_=>rfl,λ_=>⟨0,rfl⟩⟩
 |cons v t=>
  constructor
  .rintro⟨_,h⟩;cases h
  .intro h;cases h
theorem rQ {s t:Λ} (h:c5 s t):s.length=t.length:=by
 obtain⟨n,h⟩:=h;rcases Nat.decEq s.length t.length with I|I
 .rw[uL s t 0 I] at h;cases h
 .exact I
theorem Am {s t:Λ} (I:dz s) {n:Int} (h:cC s t 0=σ n):cM s n=t:=by
 have U:=m4 I h;have h1:=mb I h;simp only[Int.zero_mul,Int.zero_add,Int.one_mul] at U;have J:=pH I (i:=n.toNat) Ω;rw[h1] at J;have e:((n.toNat:Nat):Int)=n:=Ω
 rw[e] at J;exact (c9 J).symm
theorem rR {s cs:Λ} (I:dz s) (J:cs.length=(aG s).toNat):cs=(W7 (aG s).toNat).map λ(q:Nat)=>bl s cs (cM s q):=by
 apply List.ext_getElem
 .simp[J]
 .intro i h1 U;rw[List.getElem_map,List.getElem_range];have V:=lB I;have hi:(i:Int)<aG s:=Ω
  unfold bl;rw[rP I Ω hi];simp only[u9];rw[u4,x6 h1];rfl
theorem vg {s:Λ} (I:dz s) {q:Nat} (J:q<(aG s).toNat):c5 s (cM s q):=⟨_,rP I Ω (by have:=lB I;omega)⟩
theorem IS {s cs J:Λ} (I:dz s) (U:cs.length=(aG s).toNat) (V:J.length=(aG s).toNat) (h:∀t,c5 s t->bl s cs t=bl s J t):cs=J:=by
 rw[rR I U,rR I V];apply List.map_congr_left;intro q W;exact h _ (vg I (by simpa using W))
theorem IT (h:l≠[]):Aj (λc=>c∈l) (vf l):=by
 obtain⟨x,r,rfl⟩:∃v r,l=v::r:=by cases l with
  |nil=>exact absurd rfl h
  |cons v r=>exact⟨v,r,rfl⟩
 clear h;show Aj (λc=>c∈x::r) (r.foldl min x);induction r generalizing x with
 |nil=>exact⟨.head _,λy U=>by simp at U;simp[U]⟩
 |cons y r V=>
  rw[List.foldl_cons];obtain⟨h1,J⟩:=V (min x y);refine⟨?_,λz I=>?_⟩
  .rcases V0.1 h1 with h1|h1
   .rw[h1];rcases Int.le_total x y with h|h
    .rw[Int.min_eq_left h];exact .head _
    .rw[Int.min_eq_right h];exact .tail _ (.head _)
   .exact .tail _ (.tail _ h1)
  .rcases V0.1 I with rfl|I
   .have:=J _ (.head _);omega
   .rcases V0.1 I with rfl|I
    .have:=J _ (.head _);omega
    .exact J _ (.tail _ I)
def ow (m:Λ) (i j:Nat):Prop:=∀ (p q:Nat) (x y:Int),p<q->q<=i->q≠j->m[p]? =σ x->m[q]? =σ y->x<=y
def pJ (m:Λ) (i:Nat):Prop:=∀ (p q:Nat) (x y:Int),p<q->q<i->m[p]? =σ x->m[q]? =σ y->x<=y
theorem IU {m:Λ} {i:Nat} (h:pJ m i):ow m i i:=λp q x y h1 U V I J=>h p q x y h1 Ω I J
theorem IV {m:Λ} {i:Nat} (h:ow m i 0):pJ m (i+1):=λp q x y h1 U I J=>h p q x y h1 Ω Ω I J
theorem IW {m:Λ} {i:Nat} {a b:Int} (h:ow m i j) (aa:0<j) (U:m[j-1]? =σ a) (W:m[j]? =σ b) (X:a<=b):pJ m (i+1):=by
 intro p q x y h1 ab I J;by_cases V:q=j
 .subst V;rw[W] at J;cases J;by_cases Y:p=q-1
  .subst Y;rw[U] at I;cases I;exact X
  .have:=h p (q-1) x a Ω Ω Ω I U;omega
 .exact h p q x y h1 Ω V I J
theorem IX {m:Λ} {i:Nat} {a b:Int} (h:ow m i j) (ae:0<j) (hi:j<=i) (W:m[j-1]? =σ a) (X:m[j]? =σ b) (af:b<a):ow ((m.set j a).set (j-1) b) i (j-1):=by
 intro p q x y h1 V Y I J;have aa:=(x4.1 X).1;have ab:∀ (r:Nat),((m.set j a).set (j-1) b)[r]? =if r=j-1 then σ b else if r=j then σ a else m[r]?:=λr=>by
  by_cases h:r=j-1
  .subst h;rw[c7 Θ,if_pos rfl]
  .rw[Y5 (Ne.symm h),if_neg h];by_cases h':r=j
   .subst h';rw[c7 aa,if_pos rfl]
   .rw[Y5 (Ne.symm h'),if_neg h']
 rw[ab] at I J;rw[if_neg Y] at J;by_cases U:q=j
 .rw[if_pos U] at J;cases J;split at I
  .cases I;omega
  .split at I
   .omega
   .exact h p (j-1) x a Ω Ω Ω I W
 .rw[if_neg U] at J;split at I
  .cases I;have:=h j q b y;by_cases ac:j<q
   .exact this ac V U X J
   .omega
  .split at I
   .rename_i ad;subst ad;cases I;exact h (p-1) q a y Ω V U W J
   .exact h p q x y h1 V U I J
theorem swap_perm {m:Λ} {i:Nat} {a b:Int} (V:i<j) (J:m[i]? =σ a) (I:m[j]? =σ b):((m.set j a).set i b).Perm m:=by
 induction m generalizing i j with
 |nil=>simp at J
 |cons x m U=>
  cases j with
  |zero=>omega
  |succ j=>
   cases i with
   |zero=>
    simp at J I ⊢;subst J;obtain⟨W,I⟩:=x4.1 I;rw[show m=m.take j++m[j]::m.drop (j+1) by simp];rw[U9 _ _ Θ];have e:j-(m.take j).length=0:=Θ
    rw[e,I];simp only[List.set_cons_zero];refine (List.Perm.cons b (List.perm_middle)).trans ?_;refine (List.Perm.swap x b _).trans ?_;exact List.Perm.cons x List.perm_middle.symm
   |succ i=>
    simp at J I ⊢;exact U Ω J I
theorem IY {m:Λ} (h:pJ m m.length):m.Pairwise (·<= ·):=by
 rw[V2];intro i j hi I J;exact h i j _ _ J I (x6 hi) (x6 I)
def Good (o:Λ) (n:Nat):Prop:=o.length=n/\ ∀ (i:Nat) (p:Int),o[i]? =σ p->(0<=p/\p<n)/\ ∀j,j<i->o[j]? ≠σ p
theorem Good.inj {o:Λ} {i:Nat} {p:Int} (h:Good o n) (hi:o[i]? =σ p) (I:o[j]? =σ p):i=j:=by
 rcases Nat.lt_trichotomy i j with h1|h1|h1
 .exact absurd hi ((h.2 j p I).2 i h1)
 .exact h1
 .exact absurd I ((h.2 i p hi).2 j h1)
def An (m:Λ):Prop:=∀i:Nat,i<m.length->m[i]? =σ (i:Int)
theorem Ao {o m:Λ} (h:Good o n) (J:m.Perm o) (I:m.Pairwise (·<= ·)):An m:=by
 have Y:o.Nodup:=V2.2 λi j hi aa af he=>by
  have:=h.inj (i:=i) (j:=j) (p:=o[j]) (by rw[x6 hi,he]) (x6 aa);omega
 have ab:m.Nodup:=J.nodup_iff.2 Y;have ag:m.length=n:=by rw[J.length_eq,h.1]
 have W:∀x∈m,0<=x/\x<(n:Int):=λx ac=>by
  obtain⟨i,hi,he⟩:=List.getElem_of_mem (J.mem_iff.1 ac);exact (h.2 i x (by rw[x6 hi,he])).1
 have X:∀ (i:Nat) (hi:i+1<m.length),m[i]<m[i+1]:=λi hi=>by
  have h1:=V2.1 I i (i+1) Ω hi Ω;have U:=V2.1 ab i (i+1) Ω hi Ω;omega
 have ad:∀ (i:Nat) (hi:i<m.length),(i:Int)<=m[i]:=by
  intro i;induction i with
  |zero=>intro hi;exact (W _ (R5 hi)).1
  |succ i V=>
   intro hi;have h1:=V Ω;have U:=X i hi;omega
 have ae:∀ (d i:Nat) (hi:i<m.length),i+d+1=m.length->m[i]<=(i:Int):=by
  intro d;induction d with
  |zero=>
   intro i hi he;have:=(W _ (R5 hi)).2;omega
  |succ d V=>
   intro i hi he;have h1:=V (i+1) Ω Ω;have U:=X i Ω;omega
 intro i hi;rw[x6 hi];have h1:=ad i hi;have U:=ae (m.length-i-1) i hi Ω;congr 1;omega
theorem IZ {o m:Λ} (h:An m) (J:m.Perm o):Good o m.length:=by
 have X:m.Nodup:=V2.2 λi j hi I aa he=>by
  have h1:=h i hi;have U:=h j I;rw[x6 hi] at h1;rw[x6 I] at U;have h1:=c9 h1;have U:=c9 U;omega
 have Y:o.Nodup:=J.nodup_iff.1 X;refine⟨J.length_eq.symm,λi p hi=>⟨?_,λj I V=>?_⟩⟩
 .obtain⟨k,hk,he⟩:=List.getElem_of_mem (J.mem_iff.2 (x5 hi));have h1:=h k hk;rw[x6 hk,he] at h1;cases h1;omega
 .have W:i<o.length:=(x4.1 hi).1;have:=V2.1 Y j i Ω W I;rw[x6 W] at hi;rw[x6 (show j<o.length by omega)] at V;exact this ((c9 V).trans (c9 hi).symm)
theorem Good.Ap {o:Λ} {p:Nat} (h:Good o n) (J:p<n):∃j:Nat,o[j]? =σ (p:Int):=by
 let le:Int->Int->Bool:=λa b=>decide (a<=b);have h1:(o.mergeSort le).Perm o:=List.mergeSort_perm o le;have I:(o.mergeSort le).Pairwise (·<= ·):=by
  refine (List.pairwise_mergeSort (le:=le) (λa b c h1 I=>?_) (λa b=>?_) o).imp λh=>by simpa[le] using h
  .simp[le] at*;omega
  .simp[le];omega
 have U:=Ao h h1 I p (by rw[h1.length_eq,h.1];exact J);obtain⟨j,V,he⟩:=List.getElem_of_mem (h1.mem_iff.1 (x5 U));exact⟨j,by rw[x6 V,he]⟩
def lC (o x:Λ):Λ:=(W7 o.length).map λ(p:Nat)=>x.getD (o.idxOf (p:Int)) 0
theorem Aq (o x:Λ):(lC o x).length=o.length:=by simp[lC]
theorem Ar {o x:Λ} {p:Int} (h:Good o n) (W:x.length=n) (I:o[j]? =σ p):(lC o x)[p.toNat]? =x[j]?:=by
 have h1:=(h.2 j p I).1;have X:j<o.length:=(x4.1 I).1;have hm:p∈o:=x5 I;have J:=List.idxOf_lt_length_of_mem hm;have U:o.idxOf p=j:=h.inj (by rw[x6 J,List.getElem_idxOf J]) I;have V:((p.toNat:Nat):Int)=p:=Ω
 have Y:=h.1;unfold lC;rw[x8,List.getElem?_range Ω];simp only[Z2,V,U];rw[u4,x6 (show j<x.length by omega)];rfl
theorem As {o x y:Λ} (h:Good o n) (U:x.length=n) (X:y.length=n) (V:∀ (j:Nat) (p:Int),o[j]? =σ p->y[p.toNat]? =x[j]?):y=lC o x:=by
 refine Y8 λp=>?_;have Y:=h.1;by_cases W:p<n
 .obtain⟨j,I⟩:=h.Ap W;have h1:=V j p I;have J:=Ar h U I;rw[u9] at h1 J;rw[h1,J]
 .rw[Z5 Ω,Z5 (by rw[Aq];omega)]
theorem ne:∀ {s t:Λ},c5 s t↔s.length=t.length/\ ∀ (i:Nat) (a v:Int),s[i]? =σ a->t[i]? =σ v->0<=v/\v<a
 |[],t=>by
  rw[Al];exact⟨λh=>⟨by rw[h],λi a v h _=>by simp at h⟩,λh=>j9 h.1.symm⟩
 |k::s,[]=>⟨λh=>absurd (rQ h) Ξ,λh=>absurd h.1 Ξ⟩
 |k::s,v::t=>by
  rw[Ak,ne (s:=s) (t:=t)];refine⟨λ⟨h1,J,U⟩=>⟨by simp[J],λi a u I hu=>?_⟩,λ⟨h1,J⟩=>⟨J 0 k v rfl rfl,by simpa using h1,λi a u I hu=>J (i+1) a u (by simpa using I) (by simpa using hu)⟩⟩;cases i with
  |zero=>simp at I hu;subst I;subst hu;exact h1
  |succ i=>exact U i a u (by simpa using I) (by simpa using hu)
def ef (s o:Λ):Λ:=o.map λp=>s.getD p.toNat 0
theorem rS (s o:Λ):(ef s o).length=o.length:=by simp[ef]
theorem Au {s o:Λ} {p:Int} (h:Good o n) (I:s.length=n) (J:o[j]? =σ p):(ef s o)[j]? =s[p.toNat]?:=by
 have h1:=(h.2 j p J).1;unfold ef;rw[x8,J,Z2,u4,x6 (show p.toNat<s.length by omega)];rfl
theorem I0 {s o:Λ} (h:Good o n) (I:s.length=n) {x:Int} (J:x∈ef s o):x∈s:=by
 obtain⟨p,U,rfl⟩:=o8.1 J;obtain⟨j,V,he⟩:=List.getElem_of_mem U;have h1:=(h.2 j p (by rw[x6 V,he])).1;rw[u4,x6 (show p.toNat<s.length by omega)];exact R5 _
theorem bX.I1 {s o:Λ} (J:bX s) (h:Good o n) (I:s.length=n):bX (ef s o):=
 ⟨by rw[rS,h.1,<-I];exact J.1,λx U=>J.2 x (I0 h I U)⟩
theorem I2 {s o x:Λ} (h:Good o n) (I:s.length=n) (X:c5 (ef s o) x):c5 s (lC o x):=by
 obtain⟨h1,Y⟩:=ne.1 X;rw[rS,h.1] at h1;refine ne.2 ⟨by rw[Aq,h.1,I],λp a v J aa=>?_⟩;have ab:p<n:=by have:=(x4.1 J).1;omega
 obtain⟨j,U⟩:=h.Ap ab;have V:=Au h I U;have W:=Ar h h1.symm U;rw[u9] at V W;exact Y j a v (by rw[V,J]) (by rw[<-W,aa])
def nf (s cs o:Λ):Λ:=(W7 (aG (ef s o)).toNat).map λ(q:Nat)=>bl s cs (lC o (cM (ef s o) q))
theorem Av (s cs o:Λ):(nf s cs o).length=(aG (ef s o)).toNat:=by simp[nf]
theorem vh {f:Int->Bool} {x:Int}:runN f (x::l)=if f x=true then runN f l+1 else 0:=by
 unfold runN;rw[List.takeWhile_cons];by_cases h:f x=true
 .rw[if_pos h,if_pos h,b9]
 .rw[if_neg h,if_neg h];rfl
theorem vi (f:Int->Bool):∀l:Λ,l.dropWhile f=l.drop (runN f l)
 |[]=>rfl
 |x::l=>by
  rw[List.dropWhile_cons,vh];by_cases h:f x=true
  .rw[if_pos h,if_pos h,vi f l];rfl
  .rw[if_neg h,if_neg h];rfl
theorem Aw (f:Int->Bool):∀l:Λ,l.takeWhile f=l.take (runN f l)
 |[]=>rfl
 |x::l=>by
  rw[List.takeWhile_cons,vh];by_cases h:f x=true
  .rw[if_pos h,if_pos h,List.take_succ_cons,Aw f l]
  .rw[if_neg h,if_neg h];rfl
theorem Ax {f:Int->Bool}:∀ {l:Λ} {b:Int} {q:Λ},l.dropWhile f=b::q->f b=false
 |x::l,b,q,h=>by
  rw[List.dropWhile_cons] at h;by_cases I:f x=true
  .rw[if_pos I] at h;exact Ax h
  .rw[if_neg I] at h;have:=(List.cons.inj h).1;subst this;cases J:f x
   .rfl
   .exact absurd J I
theorem vj {p:Λ} {a:Nat} {b:Int} {q:Λ} (h:p.drop a=b::q):p[a]? =σ b:=by
 have:=List.getElem?_drop (xs:=p) (i:=a) (j:=0);rw[h] at this;simpa using this.symm
theorem I3 (p:Λ) (at_:Nat):match ol p at_ with
  | .word a b=>lex (p.drop at_)=(((p.take b).drop a)::(lex (p.drop b)).1,(lex (p.drop b)).2)
  | .none=>lex (p.drop at_)=([],true)
  | .text _=>lex (p.drop at_)=([],false):=by
 have W:(p.drop at_).dropWhile cp=p.drop (fT p at_):=by rw[vi,List.drop_drop];rfl
 have X:(p.drop (fT p at_)).dropWhile bE=p.drop (im p (fT p at_)):=by rw[vi,List.drop_drop];rfl
 have aa:(p.drop (fT p at_)).takeWhile bE=(p.take (im p (fT p at_))).drop (fT p at_):=by
  rw[Aw,List.drop_take];congr 1;unfold im;omega
 have V:runN bE (p.drop (fT p at_))=im p (fT p at_)-fT p at_:=by unfold im;omega
 have ak:fT p at_<=im p (fT p at_):=by unfold im;omega
 unfold ol;generalize fT p at_=a at*;generalize im p a=b at*;by_cases h1:b<p.length/\(∀c,p[b]? =σ c->cp c=false)
 .rw[if_pos h1];simp only;rw[jW,W];cases J:p.drop a with
  |nil=>
   have:=List.drop_eq_nil_iff.1 J;omega
  |cons x q=>
   simp only;rw[J] at X aa V;by_cases U:bE x=true
   .rw[if_pos U,X];cases Y:p.drop b with
    |nil=>have:=List.drop_eq_nil_iff.1 Y;omega
    |cons c r=>
     simp only;rw[h1.2 c (vj Y)];rfl
   .rw[if_neg U]
 .rw[if_neg h1];by_cases ab:a=b
  .rw[if_pos ab];simp only;subst ab;rw[jW,W];cases J:p.drop a with
   |nil=>rfl
   |cons x q=>
    exfalso;have ac:=vj J;have ag:=(x4.1 ac).1;rw[J] at V;rw[J] at W;have ah:=Ax W;refine h1 ⟨ag,λc ad=>?_⟩;rw[ac] at ad;cases ad;exact ah
  .rw[if_neg ab];simp only;rw[jW (p.drop at_),W];cases J:p.drop a with
   |nil=>
    rw[J] at V;have:runN bE []=0:=rfl;omega
   |cons x q=>
    simp only;rw[J] at X aa V;have U:bE x=true:=by
     rw[vh] at V;by_cases U:bE x=true
     .exact U
     .rw[if_neg U] at V;omega
    rw[if_pos U,X,aa];cases Y:p.drop b with
    |nil=>simp only;rw[jW []];rfl
    |cons c r=>
     simp only;have ae:=vj Y;have ai:=(x4.1 ae).1;have aj:cp c=true:=by
      cases I:cp c with
      |true=>rfl
      |false=>exact absurd ⟨ai,λd af=>by rw[ae] at af;cases af;exact I⟩ h1
     rw[if_pos aj]
def gV (w:x3) (g:Nat) (R:Nat->Prop) (toks:List (Λ)) (clean:Bool):Prop:=∃I p at_,lz w g I p at_ (-1)/\(∀r,leads I r->R r)/\lex (p.drop at_)=(toks,clean)
theorem gV.aa {g:Nat} {R:Nat->Prop} {toks:List (Λ)} (h:gV w g R toks clean) (I:ae S w w') (U:¬S g) (V:∀r,R r->¬S r):gV w' g R toks clean:=by
 obtain⟨W,p,a,⟨h1,X,Y,ab,bk,ac⟩,J,ad⟩:=h;exact⟨W,p,a,⟨h1,X,Y,ab.aa I U,bk,bn ac I λr af=>V r (J r af)⟩,J,ad⟩
theorem gV.words {g:Nat} {R:Nat->Prop} {toks:List (Λ)} (h:gV w g R toks clean):toks.length<=100000/\ ∀t∈toks,Bytes t/\t≠[]/\t.length<=100000:=by
 obtain⟨X,p,a,⟨Y,aa,ab,_⟩,_,J⟩:=h;have ac:(p.drop a).length<=100000:=by rw[List.length_drop];omega
 have I:=py _ (p.drop a) (p9 _);rw[J] at I;refine⟨by show toks.length<=_;have I:toks.length<=_:=I;omega,λt V=>?_⟩;have U:=rI _ (p.drop a) (p9 _) t (by rw[J];exact V);refine⟨λb W=>?_,U.1,Ω⟩;have:=of_decide_eq_true (U.2.1 b W);omega
def I4 (w:x3) (g:Nat) (R:Nat->Prop) (toks:List (Λ)) (clean:Bool) (v:x1) (w':x3):Prop:=ae (λr=>r=g) w w'/\match toks with
 |t::l=>gV w' g R l clean/\ ∃n:Int,v= .tuple #[bO t,Δ n,Δ 0]
 |[]=>∃n:Int,v= .tuple #[bO [],Δ n,Δ (if clean then 2 else 11)]
theorem pK {g:Nat} {R:Nat->Prop} {toks:List (Λ)} (h:gV w g R toks clean):aj x7 ut [Γ g] w (I4 w g R toks clean):=by
 obtain⟨ab,p,a,h1,ac,W⟩:=h;refine (IA h1).mono ?_;intro v w' _ hw;have J:=I3 p a;unfold pE at hw;cases X:ol p a with
 |word x y=>
  rw[X] at hw J;simp only at hw J;rw[W] at J;obtain⟨rfl,Y,I⟩:=hw;obtain⟨U,V⟩:=Prod.mk.inj J;subst U V;exact⟨Y,⟨ab,p,y,I,ac,rfl⟩,_,rfl⟩
 |none=>
  rw[X] at hw J;simp only at hw J;rw[W] at J;obtain⟨U,V⟩:=Prod.mk.inj J;subst U V;obtain⟨n,rfl,ad⟩:=hw;exact⟨ad.aa _,_,rfl⟩
 |text b=>
  rw[X] at hw J;simp only at hw J;rw[W] at J;obtain⟨U,V⟩:=Prod.mk.inj J;subst U V;obtain⟨rfl,Y,_⟩:=hw;exact⟨Y,_,rfl⟩
def jZ (w:Λ):x1:=match fR w with
 |some n=>.tuple #[Δ n,Δ 0]
 |none=>.tuple #[Δ 0,Δ 4]
theorem Ay {i:Nat} {b:Int} (hi:l[i]? =σ b):(l.take (i+1)).all fQ=((l.take i).all fQ&&fQ b):=by
 rw[r8,hi,List.all_append];simp
theorem Az {i:Nat} {b:Int} (hi:l[i]? =σ b):(l.take (i+1)).foldl eP 0=eP ((l.take i).foldl eP 0) b:=by
 rw[r8,hi,List.foldl_append];rfl
theorem AA (I:l≠[]) (h:l.all fQ=true):jX l=σ (l.foldl eP 0):=by
 unfold jX;cases l with
 |nil=>exact absurd rfl I
 |cons x l=>simp only[h,if_true]
theorem AB {i:Nat} {b:Int} (hi:l[i]? =σ b) (I:fQ b=false):jX l=ν:=by
 unfold jX;cases l with
 |nil=>simp at hi
 |cons x l=>
  simp only;rw[if_neg];intro h;have:=List.all_eq_true.1 h b (x5 hi);rw[I] at this;cases this
def ox (w l:Λ) (s:Int):Prop:=(s=1\/s= -1)/\fR w=(jX l).map λn=>s*n
theorem AC:ox (45::l) l (-1):=⟨.inr rfl,by simp only[fR];congr 1;funext n;omega⟩
theorem AD {w:Λ} (h:∀b,w[0]? =σ b->b≠45):ox w w 1:=⟨.inl rfl,by
 have e:fR w=jX w:=by
  unfold fR;cases w with
  |nil=>rfl
  |cons x l=>
   have:=h x rfl;split
   .rename_i l' he;exact absurd (List.cons.inj he).1 this
   .rfl
 rw[e];cases jX w with
 |none=>rfl
 |some n=>simp⟩
theorem rT {w:Λ} {s:Int} (h:ox w l s) (I:jX l=ν):jZ w= .tuple #[Δ 0,Δ 4]:=by
 unfold jZ;rw[h.2,I];rfl
theorem AE {w:Λ} {s n:Int} (h:ox w l s) (I:jX l=σ n):jZ w= .tuple #[Δ (s*n),Δ 0]:=by
 unfold jZ;rw[h.2,I];rfl
theorem I5 (ad:Bytes l) (an:l.length<=100000):aj x7 Gt [bO l] w λv w'=>v=jZ l/\Ext w w':=by
 refine aw func139 ?_;rw[Ij];refine iM (λaA aB J=>Ext w J/\ ∃ (m:Λ) (s:Int),aA=bO m/\aB=Δ s/\Bytes m/\m.length<=100000/\ox l m s) ?_ ?_
 .rintro _ _ J ⟨ah,m,s,rfl,rfl,ak,aN,ae⟩;rw[zK ak (λb I=>by cases I),ai];refine⟨λU=>⟨by rw[rT ae (by rw[U];rfl)],ah⟩,λU=>?_⟩;refine uZ cU.u cH.u cE.u ak Ω λbv V ap aq _=>?_;rw[aV cH.u aq];refine q2.range m.length (λi _ _ c af=>Ext V af/\c=Δ ((m.take i).foldl eP 0)/\(m.take i).all fQ=true) Ω ⟨Ext.refl _,rfl,rfl⟩ ?_ ?_
  .rintro i aC t3 _ af aD hi ⟨W,rfl,X⟩ aE;obtain⟨b,aa⟩:=aF (l:=m) hi;have aO:=ak b (x5 aa);refine bB Ω ?_;refine Ik (λ_ _ c ag=>Ext V ag/\c=Δ ((m.take (i+1)).foldl eP 0)/\(m.take (i+1)).all fQ=true) ?_ ?_
   .rintro aQ aT c ag aG;rw[aL];exact aE _ _ _ _ aG
   intro av Y;rw[ba cH.u cE.i Ψ (aq.ext W) aa];refine aR (λv ag=>af=ag/\v= .bool (!fQ b)) ?_ ?_
   rotate_left
   .intro aH ab;rw[aP,ai];refine⟨λh=>ab _ _ ⟨rfl,by unfold fQ;rw[decide_eq_false Ω];rfl⟩,λh=>?_⟩;rw[bM];refine ab _ _ ⟨rfl,?_⟩;unfold fQ;congr 1;by_cases au:57<b
    .rw[decide_eq_true au,decide_eq_false Ω];rfl
    .rw[decide_eq_false au,decide_eq_true Ω];rfl
   rintro _ _ ⟨rfl,rfl⟩;cases am:fQ b with
   |false=>
    rw[X3,bA];exact⟨by rw[rT ae (AB aa am)],(ah.trans ap).trans W⟩
   |true=>
    rw[Z8,aS];have aU:=of_decide_eq_true am;have ac:=rJ (l:=m.take i) (n:=0) X ⟨Int.le_refl _,Φ⟩;rw[Az aa,Ay aa,X,am] at Y;generalize (m.take i).foldl eP 0=n at*;have ac:0<=n/\n<=4611686018427387904:=ac;rw[dP,wrap_u8 Ω Ω,e7 cE.u al.u,wrap_i64 (x:=b-48) Ω Ω,dP,wrap_i64 Ω Ω,pu Φ,Int.tdiv_eq_ediv_of_nonneg Ω];rw[wrap_i64 Ω Ω,bM,ai];refine⟨λaI=>Y _ _ _ _ ⟨W,?_,rfl⟩,λaI=>?_⟩
    .congr 1;unfold eP ao;omega
    .rw[gh,wrap_i64 Ω Ω,aL,wrap_i64 Ω Ω];refine Y _ _ _ _ ⟨W,?_,rfl⟩;congr 1;unfold eP ao;omega
  .rintro aC t3 _ af aD ⟨W,rfl,X⟩;rw[o6] at X ⊢;refine b6 Ω ?_;have ac:=rJ (l:=m) (n:=0) X ⟨Int.le_refl _,Φ⟩;have ac:0<=m.foldl eP 0/\m.foldl eP 0<=4611686018427387904:=ac;rw[gh];have hw:Y9.wrap (s*m.foldl eP 0)=s*m.foldl eP 0:=by
    rcases ae.1 with rfl|rfl<;>exact wrap_i64 Ω Ω
   rw[hw];exact⟨by rw[AE ae (AA U X)],(ah.trans ap).trans W⟩
 .intro av Y;refine aR (λv V=>w=V/\ ∃c:Bool,v= .bool c/\(c=true↔l[0]? =σ 45)) ?_ ?_
  .rintro _ _ ⟨rfl,c,rfl,ax⟩;rw[cz];refine⟨λaJ=>?_,λay=>?_⟩
   .intro aW aK _ _;have az:=ax.1 aJ;cases l with
    |nil=>simp at az
    |cons x r=>
     have aM:x=45:=by simpa using az
     subst aM;rw[zL (y:=1) (i:=1) rfl cU.u Ξ];exact Y _ _ _ ⟨aK,r,-1,rfl,rfl,λb I=>ad b (.tail _ I),by simp at an;omega,AC⟩
   .refine Y _ _ _ ⟨Ext.refl _,l,1,rfl,rfl,ad,an,AD λb I he=>?_⟩;subst he;rw[ax.2 I] at ay;cases ay
  .intro aH ab;rw[Io ad (λb I=>by cases I),ai];refine⟨λU=>?_,λU=>ab _ _ ⟨rfl,false,rfl,⟨λh=>(by cases h),λh=>by rw[Y4.1 U] at h;simp at h⟩⟩⟩;cases l with
   |nil=>exact absurd rfl U
   |cons x r=>
    rw[pB (y:=0) (i:=0) (b:=x) rfl cU.u ad rfl,be];exact ab _ _ ⟨rfl,_,rfl,Ξ⟩
theorem rU {s s':az} {w:Λ} (h:dJ s=σ (w,s')):s.toks=w::s'.toks/\s'={s with toks:=s'.toks}:=by
 unfold dJ at h;cases I:s.toks with
 |nil=>rw[I] at h;cases h
 |cons x l=>
  rw[I] at h;simp only[Y6,T4] at h;obtain⟨rfl,rfl⟩:=h;exact⟨rfl,rfl⟩
theorem hx {n:Int} {s s':az} (h:bc lo hi s=σ (n,s')):(lo<=n/\n<=hi)/\(∃w,s.toks=w::s'.toks/\fR w=σ n)/\s'={s with toks:=s'.toks}:=by
 unfold bc at h;cases hw:dJ s with
 |none=>rw[hw] at h;cases h
 |some q=>
  obtain⟨w,V⟩:=q;rw[hw] at h;simp only at h;obtain⟨h1,J⟩:=rU hw;cases I:fR w with
  |none=>rw[I] at h;cases h
  |some m=>
   rw[I] at h;simp only at h;split at h
   .rename_i U;simp only[Y6,T4] at h;obtain⟨rfl,rfl⟩:=h;exact⟨U,⟨w,h1,I⟩,J⟩
   .cases h
def hT (k:Nat) (s s':az):Prop:=s.toks.length=s'.toks.length+k/\s'={s with toks:=s'.toks}
theorem hT.refl (s:az):hT 0 s s:=⟨rfl,rfl⟩
theorem hT.trans {a b:Nat} {r s t:az} (h:hT a r s) (k:hT b s t):hT (a+b) r t:=⟨by have:=h.1;have:=k.1;omega,by rw[k.2,h.2]⟩
theorem dw {n:Int} {s s':az} (h:bc lo hi s=σ (n,s')):hT 1 s s':=by
 obtain⟨_,⟨w,h1,_⟩,I⟩:=hx h;exact⟨by rw[h1];simp,I⟩
theorem hT.eqs {k:Nat} {s s':az} (h:hT k s s'):s'.told=s.told/\s'.big=s.big/\s'.shared=s.shared:=by rw[h.2];exact⟨rfl,rfl,rfl⟩
theorem j1 {α:Type} {f:List α->az->Option (α×az)} (I:List α->az->Prop) (V:∀acc s a s',I acc s->f acc s=σ (a,s')->I (acc++[a]) s'):
  ∀ (n:Nat) (acc:List α) (s:az) (l:List α) (s':az),I acc s->cI f n acc s=σ (l,s')->I l s'/\l.length=acc.length+n
 |0,acc,s,l,s',J,h=>by
  simp only[cI,Y6,T4] at h;obtain⟨rfl,rfl⟩:=h;exact⟨J,Ω⟩
 |n+1,acc,s,l,s',J,h=>by
  simp only[cI] at h;cases U:f acc s with
  |none=>rw[U] at h;cases h
  |some q=>
   obtain⟨a,W⟩:=q;rw[U] at h;have:=j1 I V n _ _ _ _ (V _ _ _ _ J U) h;exact⟨this.1,by rw[this.2];simp;omega⟩
theorem vk {n:Int} {k:Nat} {s s':az} (h:eQ n k s=σ (l,s')):hT l.length s s'/\l.length=k/\l.Nodup/\ ∀v∈l,0<=v/\v<n:=by
 have:=j1 (λacc t=>hT acc.length s t/\acc.Nodup/\ ∀v∈acc,0<=v/\v<n) (λacc t a bp ⟨h1,V,W⟩ h=>by
  cases J:bc 0 (n-1) t with
  |none=>rw[J] at h;cases h
  |some q=>
   obtain⟨v,aa⟩:=q;rw[J] at h;simp only at h;split at h
   .cases h
   .rename_i X;simp only[Y6,T4] at h;obtain⟨rfl,rfl⟩:=h;have ab:=(hx J).1;refine⟨by rw[o5];exact h1.trans (dw J),List.nodup_append.2 ⟨V,Ξ,λx I y U he=>?_⟩,λx I=>?_⟩
    .rw[n9] at U;subst U;subst he;exact X I
    .rcases l7.1 I with I|I
     .exact W x I
     .rw[n9.1 I];omega) k [] s l s' ⟨hT.refl s,List.nodup_nil,λv Y=>by cases Y⟩ h
 exact⟨this.1.1,by simpa using this.2,this.1.2.1,this.1.2.2⟩
theorem vl:∀ {ks acc:Λ} {s s':az} {t:Λ},ik ks acc s=σ (t,s')-> ∃u,t=acc++u/\c5 ks u/\hT u.length s s'
 |[],acc,s,s',t,h=>by
  simp only[ik,Y6,T4] at h;obtain⟨rfl,rfl⟩:=h;exact⟨[],Ξ,Al.2 rfl,hT.refl s⟩
 |k::ks,acc,s,s',t,h=>by
  simp only[ik] at h;cases I:bc 0 (k-1) s with
  |none=>rw[I] at h;cases h
  |some q=>
   obtain⟨v,U⟩:=q;rw[I] at h;obtain⟨u,rfl,hu,J⟩:=vl h;have V:=(hx I).1;exact⟨v::u,Ξ,Ak.2 ⟨Ω,hu⟩,by rw[b9,Nat.add_comm];exact (dw I).trans J⟩
def mc (sizes:Λ) (l:List (Λ×Int)):Prop:=(l.map (·.1)).Nodup/\ ∀p∈l,c5 sizes p.1/\0<=p.2
theorem oy {acc:List (Λ×Int)} {s s':az} {a:Λ×Int} (h:dK sizes acc s=σ (a,s')):a.1∉acc.map (·.1)/\c5 sizes a.1/\0<=a.2/\hT (a.1.length+1) s s':=by
 unfold dK at h;cases J:ik sizes [] s with
 |none=>rw[J] at h;cases h
 |some q=>
  obtain⟨t,U⟩:=q;rw[J] at h;simp only at h;obtain⟨u,hu,V,W⟩:=vl J;rw[List.nil_append] at hu;subst hu;cases I:bc 0 ao U with
  |none=>rw[I] at h;cases h
  |some q=>
   obtain⟨c,Y⟩:=q;rw[I] at h;simp only at h;split at h
   .cases h
   .rename_i X;simp only[Y6,T4] at h;obtain⟨rfl,rfl⟩:=h;exact⟨X,V,(hx I).1.1,W.trans (dw I)⟩
structure AF (s s':az):Prop where
 toks:s'.toks.length<s.toks.length
 big:s.big=true->s'.big=true
theorem I6 {s s':az} {l:List (Λ×Int)} (ab:∀q∈s.shared,mc q.1 q.2/\q.2.length<=N) (al:s.toks.length<=N) (h:dL sizes s=σ (l,s')):
  mc sizes l/\l.length<=N/\s'.shared=s.shared/\AF s s':=by
 unfold dL at h;cases W:bc (-ao) ao s with
 |none=>rw[W] at h;cases h
 |some q=>
  obtain⟨n,U⟩:=q;rw[W] at h;simp only at h;have h1:=dw W;obtain⟨am,ac,X⟩:=h1.eqs;split at h
  .cases I:U.shared[(-n-1).toNat]? with
   |none=>rw[I] at h;cases h
   |some q=>
    obtain⟨z,l'⟩:=q;rw[I] at h;simp only at h;split at h
    .rename_i af;simp only[Y6,T4] at h;obtain⟨rfl,rfl⟩:=h;subst af;have hm:=x5 I;rw[X] at hm;exact⟨(ab _ hm).1,(ab _ hm).2,X,by have:=h1.1;omega,λV=>by rw[ac];exact V⟩
    .cases h
  .have:=j1 (λacc t=>mc sizes acc/\t.shared=s.shared/\t.toks.length+acc.length<=U.toks.length/\(s.big=true->t.big=true)) (λacc t a bp ⟨g1,Y,ag,aa⟩ g=>by
    obtain⟨ah,ai,aj,ad⟩:=oy g;obtain⟨f1,f2,f3⟩:=ad.eqs;refine⟨⟨?_,λp J=>?_⟩,by rw[f3,Y],by have:=ad.1;simp only[o5,S4];omega,λV=>by rw[f2];exact aa V⟩
    .rw[c8];exact List.nodup_append.2 ⟨g1.1,Ξ,λx ak y ae he=>by
      simp only[U4,List.map_nil,n9] at ae;subst ae;subst he;exact ah ak⟩
    .rcases l7.1 J with J|J
     .exact g1.2 p J
     .rw[n9.1 J];exact⟨ai,aj⟩) n.toNat [] (a8 (decide (16384<min (U.told+n) ao)) {U with told:=min (U.told+n) ao}) l s' ⟨⟨Ξ,λp J=>by cases J⟩,X,by simp[a8],λV=>by simp[a8,ac,V]⟩ h
   obtain⟨⟨g1,Y,ag,aa⟩,_⟩:=this;have:=h1.1;exact⟨g1,Ω,Y,⟨Ω,aa⟩⟩
structure rV (all:Λ) (N:Nat) (f:cm):Prop where
 scope:f.scope.Nodup/\ ∀v∈f.scope,0<=v/\v<all.length
 sizes:f.sizes=f.scope.map λv=>all.getD v.toNat 0
 other:0<=f.other
 lines:mc f.sizes f.lines
 len:f.lines.length<=N
theorem I7 {all:Λ} {s s':az} {f:cm} (ac:∀q∈s.shared,mc q.1 q.2/\q.2.length<=N) (aA:s.toks.length<=N) (h:cX all s=σ (f,s')):
  rV all N f/\(∀q∈s'.shared,mc q.1 q.2/\q.2.length<=N)/\AF s s'/\(s'.big=false->f.scope.length<=6/\de f.sizes=false):=by
 unfold cX at h;cases ad:bc (-ao) ao s with
 |none=>rw[ad] at h;cases h
 |some q=>
 obtain⟨a,am⟩:=q;rw[ad] at h;simp only at h;have t0:=dw ad;obtain⟨aB,an,ap⟩:=t0.eqs;cases h1:eQ all.length a.natAbs am with
 |none=>rw[h1] at h;cases h
 |some q=>
 obtain⟨sc,W⟩:=q;rw[h1] at h;simp only at h;obtain⟨af,aC,aq,au⟩:=vk h1;obtain⟨aD,av,aw⟩:=af.eqs;generalize ax:sc.map (λv=>all.getD v.toNat 0)=sizes at h;cases Y:bc 0 ao (a8 (decide (6<a.natAbs)||de sizes) W) with
 |none=>rw[Y] at h;cases h
 |some q=>
 obtain⟨other,U⟩:=q;rw[Y] at h;simp only at h;have ag:=dw Y;obtain⟨aE,aa,X⟩:=ag.eqs;have X:U.shared=s.shared:=by rw[X];show W.shared=_;rw[aw,ap]
 have aF:U.toks.length<s.toks.length:=by
  have:=t0.1;have:=af.1;have ab:=ag.1;have:(a8 (decide (6<a.natAbs)||de sizes) W).toks.length=W.toks.length:=rfl;omega
 cases ab:dL sizes U with
 |none=>rw[ab] at h;cases h
 |some q=>
 obtain⟨lines,J⟩:=q;rw[ab] at h;simp only[Y6,T4] at h;obtain⟨rfl,rfl⟩:=h;obtain⟨g1,ah,ai,aj⟩:=I6 (N:=N) (by rw[X];exact ac) Ω ab;have ay:=aj.big;have gt:=aj.toks;have ak:U.big=true-> ∀ae:az,ae=(if a<0 then {J with shared:=J.shared++[(sizes,lines)]} else J)->ae.big=true:=λV ae he=>by
  rw[he];split<;>exact ay V
 have aa:U.big=(s.big||(decide (6<a.natAbs)||de sizes)):=by
  rw[aa];show (W.big||_)=_;rw[av,an]
 refine⟨⟨⟨aq,au⟩,ax.symm,(hx Y).1.1,g1,ah⟩,λq I=>?_,⟨?_,λV=>ak (by rw[aa,V];rfl) _ rfl⟩,λV=>?_⟩
 .split at I
  .rcases l7.1 I with I|I
   .rw[show J.shared=s.shared by rw[ai,X]] at I;exact ac q I
   .rw[n9.1 I];exact⟨g1,ah⟩
  .rw[show J.shared=s.shared by rw[ai,X]] at I;exact ac q I
 .have:(if a<0 then {J with shared:=J.shared++[(sizes,lines)]} else J).toks=J.toks:=by split<;>rfl
  rw[this];omega
 .have al:U.big=false:=by
   cases I:U.big with
   |false=>rfl
   |true=>rw[ak I _ rfl] at V;cases V
  rw[aa,T7,T7,decide_eq_false_iff_not] at al;show sc.length<=6/\_;exact⟨Ω,al.2.2⟩
structure eX (N:Nat) (f:bY):Prop where
 name:f.name.length<=64
 k:1<=f.k/\f.k<=2147483648
 sizes:1<=f.sizes.length/\f.sizes.length<=64/\ ∀z∈f.sizes,1<=z/\z<=32
 kM:f.funs.length<=256
 funs:∀x∈f.funs,rV f.sizes N x/\x.scope.length<=6/\de x.sizes=false
theorem pL {b:Bool} {s:az} (h:(a8 b s).big=false):s.big=false/\b=false:=by
 have h:(s.big||b)=false:=h;exact T7.1 h
theorem I8 {a b:az} (h:a.big=true->b.big=true) (I:b.big=false):a.big=false:=by
 cases J:a.big with
 |false=>rfl
 |true=>rw[h J] at I;cases I
theorem AG {s s':az} {f:bY} (I:s.shared=[]) (h:hr s=σ (f,s')) (U:s'.big=false):eX s.toks.length f/\f.name∈s.toks:=by
 unfold hr at h;cases ak:dJ s with
 |none=>rw[ak] at h;cases h
 |some q=>
 obtain⟨name,s0⟩:=q;rw[ak] at h;simp only at h;obtain⟨J,V⟩:=rU ak;cases h1:bc 1 ao (a8 (decide (64<name.length)) s0) with
 |none=>rw[h1] at h;cases h
 |some q=>
 obtain⟨n,ae⟩:=q;rw[h1] at h;simp only at h;have Y:=dw h1;cases al:bc 1 ao (a8 (decide (64<n)) ae) with
 |none=>rw[al] at h;cases h
 |some q=>
 obtain⟨most,aC⟩:=q;rw[al] at h;simp only at h;have am:=dw al;cases an:bc 0 ao aC with
 |none=>rw[an] at h;cases h
 |some q=>
 obtain⟨af,ag⟩:=q;rw[an] at h;simp only at h;have t3:=dw an;cases ah:bc 1 ao (a8 (decide (256<af)) ag) with
 |none=>rw[ah] at h;cases h
 |some q=>
 obtain⟨k,ab⟩:=q;rw[ah] at h;simp only at h;have t4:=dw ah;cases ap:cI (fC most) n.toNat [] (a8 (decide (2147483648<k)) ab) with
 |none=>rw[ap] at h;cases h
 |some q=>
 obtain⟨sizes,ai⟩:=q;rw[ap] at h;simp only at h;cases aq:cI (λ_ s=>cX sizes s) af.toNat [] ai with
 |none=>rw[aq] at h;cases h
 |some q=>
 obtain⟨funs,aD⟩:=q;rw[aq] at h;simp only[Y6,T4] at h;obtain⟨rfl,rfl⟩:=h;have aE:=j1 (λ(acc:Λ) t=>t.shared=[]/\t.toks.length<=s.toks.length/\(t.big=false->ab.big=false/\k<=2147483648/\ ∀z∈acc,1<=z/\z<=32)) (λacc t a bp ⟨g1,ax,au⟩ g=>by
  unfold fC at g;cases aa:bc 1 most t with
  |none=>rw[aa] at g;cases g
  |some q=>
   obtain⟨z,Y⟩:=q;rw[aa] at g;simp only[Y6,T4] at g;obtain⟨rfl,rfl⟩:=g;have ay:=dw aa;obtain⟨aZ,aF,aG⟩:=ay.eqs;have a1:=(hx aa).1;refine⟨by show Y.shared=[];rw[aG,g1],by show Y.toks.length<=_;have:=ay.1;omega,λU=>?_⟩;obtain⟨W,ac⟩:=pL U;rw[aF] at W;obtain⟨av,aw,aH⟩:=au W;refine⟨av,aw,λy ad=>?_⟩;rcases l7.1 ad with ad|ad
   .exact aH y ad
   .rw[n9.1 ad];have:=of_decide_eq_false ac;omega) n.toNat [] (a8 (decide (2147483648<k)) ab) sizes ai ⟨by
     show ab.shared=[];rw[t4.eqs.2.2];show ag.shared=[];rw[t3.eqs.2.2,am.eqs.2.2];show ae.shared=[];rw[Y.eqs.2.2];show s0.shared=[];rw[V];exact I,by
     show ab.toks.length<=_;have aI:=Y.1;have aJ:=am.1;have a3:=t3.1;have a4:=t4.1;have W:(a8 (decide (64<name.length)) s0).toks=s0.toks:=rfl;have ac:(a8 (decide (64<n)) ae).toks=ae.toks:=rfl;have aj:(a8 (decide (256<af)) ag).toks=ag.toks:=rfl;rw[W] at aI;rw[ac] at aJ;rw[aj] at a4;rw[J,b9];omega,λU=>by
     obtain⟨W,ac⟩:=pL U;have:=of_decide_eq_false ac;exact⟨W,Ω,λz aK=>by cases aK⟩⟩ ap
 obtain⟨⟨aL,aM,aN⟩,aO⟩:=aE;have aP:=j1 (λ(acc:List cm) t=>(∀q∈t.shared,mc q.1 q.2/\q.2.length<=s.toks.length)/\t.toks.length<=s.toks.length/\(t.big=false->ai.big=false/\ ∀x∈acc,rV sizes s.toks.length x/\x.scope.length<=6/\de x.sizes=false)) (λacc t a bp ⟨g1,ax,au⟩ g=>by
  obtain⟨aQ,aR,aA,aS⟩:=I7 g1 ax g;refine⟨aR,by have:=aA.toks;omega,λU=>?_⟩;obtain⟨av,aw⟩:=au (I8 aA.big U);refine⟨av,λx X=>?_⟩;rcases l7.1 X with X|X
  .exact aw x X
  .rw[n9.1 X];exact⟨aQ,aS U⟩) af.toNat [] ai funs aD ⟨(by rw[aL];intro q aa;cases aa),aM,λU=>⟨U,λx X=>by cases X⟩⟩ aq
 obtain⟨⟨_,_,d3⟩,d4⟩:=aP;obtain⟨aT,d5⟩:=d3 U;obtain⟨aj,aU,aV⟩:=aN aT;rw[t4.eqs.2.1] at aj;obtain⟨aB,aW⟩:=pL aj;rw[t3.eqs.2.1,am.eqs.2.1] at aB;obtain⟨W,aX⟩:=pL aB;rw[Y.eqs.2.1] at W;obtain⟨_,aY⟩:=pL W;have:=of_decide_eq_false aW;have:=of_decide_eq_false aX;have:=of_decide_eq_false aY;have a2:=(hx h1).1;have hk:=(hx ah).1;simp only[List.length_nil,X1] at aO d4;exact⟨⟨by show name.length<=64;omega,⟨hk.1,aU⟩,⟨by show 1<=sizes.length;omega,by show sizes.length<=64;omega,aV⟩,by show funs.length<=256;omega,d5⟩,by rw[J];exact .head _⟩
def jr (x:cm) (k:Int) (t:Λ):Int:=min (match x.lines.find? (λp=>decide (p.1=t)) with
 |some p=>p.2
 |none=>x.other) k
def bj (l:Λ):Λ:=((W7 64).map λ(v:Nat)=>(v:Int)).filter λv=>decide (v∈l)
def bS (sizes scope:Λ):Λ:=scope.map λv=>sizes.getD v.toNat 0
def oz (scope I t:Λ):Λ:=scope.map λv=>t.getD (I.idxOf v) 0
abbrev cF:Type:=Λ×Λ
def hy (sizes:Λ) (k:Int) (x:cm):cF:=(bj x.scope,(bi (bS sizes (bj x.scope))).map λt=>jr x k (oz x.scope (bj x.scope) t))
def dQ (k:Int) (a b:Λ):Λ:=List.zipWith (λx y=>min (x+y) k) a b
def hU (k:Int) (acc:List cF) (g:cF):List cF:=if g.1∈acc.map (·.1) then acc.map λh=>if h.1=g.1 then (h.1,dQ k h.2 g.2) else h else acc++[g]
def iX:Λ->Int
 |[]=>0
 |x::l=>x*64 ^ l.length+iX l
def cY (l:Λ):Int:=l.length*64 ^ 6+iX l
def gW (g:cF):List cF->List cF
 |[]=>[g]
 |h::l=>if cY h.1<cY g.1 then h::gW g l else g::h::l
def fo (g:cF):Bool:=g.2.any λc=>decide (0<c)
def e9 (f:bY):List cF:=(f.funs.map (hy f.sizes f.k)).foldl (hU f.k) []
def fp (f:bY):List cF:=((e9 f).filter fo).foldl (λl g=>gW g l) []
structure aQ where
 k:Int
 sizes:Λ
 zero:Int
 unary:List (Λ)
 funs:List cF
deriving DecidableEq
def cd (f:bY):aQ:=(fp f).foldl (λn g=>match g.1 with
 |[]=>{n with zero:=g.2.getD 0 0}
 |[v]=>{n with unary:=n.unary.set v.toNat g.2}
 |_=>{n with funs:=n.funs++[g]}) ⟨f.k,f.sizes,0,f.sizes.map λz=>p8 z.toNat 0,[]⟩
abbrev io:Type:=Rd (Λ)×Rd (List (Λ×Int))
def bw (g gs:Nat) (A:ah):ah:=λr=>r=g\/r=gs\/A r
def fq (gs:Nat) (e big I J told:Int) (sv:x1):List x1:=[Γ gs,Δ e,Δ big,Δ I,Δ J,Δ told,sv]
def cA (g gs:Nat) (A:ah) (B:ah):ah:=λr=>¬bw g gs A r/\B r
def kN (w:x3) (g gs:Nat) (A:ah) (B:ah):Prop:=g≠gs/\¬A g/\¬A gs/\(∀r,bw g gs A r->r<w.heap.size)/\ ∀r,B r->r<w.heap.size
def c4 (w:x3) (g gs:Nat) (A:ah) (B:ah) (s:az) (clean:Bool):Prop:=kN w g gs A B/\gV w gs (cA g gs A B) s.toks clean/\(0<=s.told/\s.told<=ao/\s.shared.length+s.toks.length<=100000)/\
 ∃big I J told sv,ac w g b4 (fq gs 0 big I J told sv)/\((s.big=true↔big≠0)/\(s.big=false->told=s.told))/\bx A (cA g gs A B) w [sv] (show List io from s.shared)
def eo (w:x3) (g gs:Nat) (A:ah) (B:ah):Prop:=kN w g gs A B/\ ∃ (e big I J told:Int) (sv:x1) (l:List io),ac w g b4 (fq gs e big I J told sv)/\(e≠0/\l.length<=100000)/\bx A (cA g gs A B) w [sv] l
theorem kN.aa {g:Nat} {A:ah} {B:ah} (h:kN w g gs A B) (J:ae S w w'):kN w' g gs A B:=by
 obtain⟨h1,U,V,W,X⟩:=h;exact⟨h1,U,V,λr I=>R3 (W r I) J.size,λr I=>R3 (X r I) J.size⟩
theorem AH {g:Nat} {A:ah} {B:ah} (I:∀r,A r->¬S r) (J:∀r,cA g gs A B r->¬S r):∀r,A r\/cA g gs A B r->¬S r:=λr h=>h.elim (I r) (J r)
theorem c4.aa {g:Nat} {A:ah} {B:ah} {s:az} (h:c4 w g gs A B s clean) (I:ae S w w') (J:∀r,bw g gs A r->¬S r) (U:∀r,cA g gs A B r->¬S r):c4 w' g gs A B s clean:=by
 obtain⟨h1,V,W,big,X,Y,told,sv,ab,ac,ad⟩:=h;exact⟨h1.aa I,V.aa I (J gs (.inr (.inl rfl))) U,W,big,X,Y,told,sv,ab.aa I (J g (.inl rfl)),ac,ak.aa ad I λr _ h=>AH (λr af=>J r (.inr (.inr af))) U r h⟩
theorem eo.aa {g:Nat} {A:ah} {B:ah} (h:eo w g gs A B) (I:ae S w w') (J:∀r,bw g gs A r->¬S r) (U:∀r,cA g gs A B r->¬S r):eo w' g gs A B:=by
 obtain⟨h1,e,big,V,W,told,sv,l,X,Y,ab⟩:=h;exact⟨h1.aa I,e,big,V,W,told,sv,l,X.aa I (J g (.inl rfl)),Y,ak.aa ab I λr _ h=>AH (λr ac=>J r (.inr (.inr ac))) U r h⟩
theorem c4.ext {g:Nat} {A:ah} {B:ah} {s:az} (h:c4 w g gs A B s clean) (I:Ext w w'):c4 w' g gs A B s clean:=h.aa (I.aa λ_=>False) (λ_ _ h=>h) (λ_ _ h=>h)
theorem eo.ext {g:Nat} {A:ah} {B:ah} (h:eo w g gs A B) (I:Ext w w'):eo w' g gs A B:=h.aa (I.aa λ_=>False) (λ_ _ h=>h) (λ_ _ h=>h)
def fD (w:x3) (g gs:Nat) (A:ah) (B:ah) (clean:Bool) (s':Option az) (w':x3):Prop:=ae (bw g gs A) w w'/\match s' with
 |some s'=>c4 w' g gs A B s' clean
 |none=>eo w' g gs A B
theorem vm {g:Nat} {e big I J told:Int} (U:ac w g b4 (fq gs e big I J told sv)):aj x7 kz [Γ g] w λv w'=>v= .bool (decide (e=0))/\Ext w w':=by
 refine aw func81 ?_;rw[bQ,aT b4.p rfl,aT eO.p rfl,aA Ψ (U.cell (o:=0+1+0) rfl),be];exact⟨rfl,Ext.refl _⟩
theorem oA {g:Nat} {A:ah} {B:ah} {s:az} (h:c4 w g gs A B s clean):aj x7 kz [Γ g] w λv w'=>v= .bool true/\Ext w w':=by
 obtain⟨_,_,_,big,J,U,told,sv,I,_⟩:=h;exact (vm I).mono λ_ _ _ h=>h
theorem ng {g:Nat} {A:ah} {B:ah} (h:eo w g gs A B):aj x7 kz [Γ g] w λv w'=>v= .bool false/\Ext w w':=by
 obtain⟨_,e,big,W,X,told,sv,l,I,U,_⟩:=h;refine (vm I).mono ?_;rintro _ J _ ⟨rfl,V⟩;exact⟨by rw[decide_eq_false U.1],V⟩
theorem rW {g:Nat} {A B:ah} (h:A r\/cA g gs A B r) (I:¬A g):r≠g:=by
 rintro rfl;rcases h with h|h
 .exact I h
 .exact h.1 (.inl rfl)
theorem rX {g:Nat} {A:ah} {B:ah} {big ab U told e:Int} {l:List io} (I:kN w g gs A B) (ad:ac w g b4 (fq gs 0 big ab U told sv)) (af:bx A (cA g gs A B) w [sv] l) (he:e≠0) (al:l.length<=100000):
  aj x7 mR [Γ g,Δ e,Δ at_] w λ_ w'=>ae (λr=>r=g) w w'/\eo w' g gs A B:=by
 refine aw func84 ?_;rw[bQ,aT b4.p rfl,aT eO.p rfl,aA Ψ (ad.cell (o:=0+1+0) rfl),be,ai];refine⟨λ_=>?_,λh=>absurd rfl h⟩;rw[bQ,aT b4.p rfl,aT eO.p rfl];refine bz (g:=g) (o:=1) gg.i rfl rfl ad (by simp[fq]) λJ am ap W=>?_;have W:ac J g b4 (fq gs e big ab U told sv):=W;rw[bQ,aT b4.p rfl,aT eO.p rfl];refine bz (g:=g) (o:=3) ag.i rfl rfl W (by simp[fq]) λV an aq X=>?_;have X:ac V g b4 (fq gs e big at_ U told sv):=X;have Y:=am.trans an;exact⟨Y,I.aa Y,e,big,at_,U,told,sv,l,X,⟨he,al⟩,ak.aa af Y λr _ h ao=>rW h I.2.1 ao⟩
theorem rY {g:Nat} {A:ah} {B:ah} {s:az} {e:Int} (h:c4 w g gs A B s clean) (he:e≠0):aj x7 mR [Γ g,Δ e,Δ at_] w λ_ w'=>ae (λr=>r=g) w w'/\eo w' g gs A B:=by
 obtain⟨I,_,J,big,W,X,told,sv,U,_,V⟩:=h;exact rX I U V he (by have:=J.2.2;show s.shared.length<=_;omega)
theorem I9 {g:Nat} {A:ah} {B:ah} {e:Int} (h:eo w g gs A B):aj x7 mR [Γ g,Δ e,Δ at_] w λ_ w'=>Ext w w':=by
 obtain⟨_,J,big,U,V,told,sv,l,h1,I,_⟩:=h;refine aw func84 ?_;rw[bQ,aT b4.p rfl,aT eO.p rfl,aA Ψ (h1.cell (o:=0+1+0) rfl),be,ai];exact⟨λh=>absurd h I.1,λ_=>Ext.refl _⟩
theorem rZ {g:Nat} {A:ah} {B:ah} {s:az} {b:Bool} (h:c4 w g gs A B s clean):aj x7 pp [Γ g,.bool b,Δ at_] w λ_ w'=>ae (λr=>r=g) w w'/\c4 w' g gs A B (a8 b s) clean:=by
 obtain⟨I,al,am,big,W,an,told,sv,X,ao,ap⟩:=id h;refine aw func79 ?_;refine aR (λv J=>w=J/\v= .bool (b&&decide (big=0))) ?_ ?_
 rotate_left
 .intro av ab;cases b with
  |false=>rw[aS];exact ab _ _ ⟨rfl,rfl⟩
  |true=>
   rw[bA,bQ,aT b4.p rfl,aT eO.p rfl,aA Ψ (X.cell (o:=0+1+1) rfl),be,ai];refine⟨λU=>?_,λU=>ab _ _ ⟨rfl,by rw[decide_eq_false U];rfl⟩⟩;rw[bQ,aT b4.p rfl,aT eO.p rfl,aA Ψ (X.cell (o:=0+1+0) rfl),be];exact ab _ _ ⟨rfl,by rw[decide_eq_true U];rfl⟩
 rintro _ _ ⟨rfl,rfl⟩;rw[cz];refine⟨λaq=>?_,λau=>?_⟩
 .obtain⟨rfl,U⟩:=Bool.and_eq_true_iff.1 aq;rw[bQ,aT b4.p rfl,aT eO.p rfl];refine bz (g:=g) (o:=2) gg.i rfl rfl X (by simp[fq]) λJ ax aD ad=>?_;have ad:ac J g b4 (fq gs 0 5 W an told sv):=ad;rw[bQ,aT b4.p rfl,aT eO.p rfl];refine bz (g:=g) (o:=4) ag.i rfl rfl ad (by simp[fq]) λV ay aE af=>?_;have af:ac V g b4 (fq gs 0 5 W at_ told sv):=af;have Y:=ax.trans ay;exact⟨Y,I.aa Y,al.aa Y (λhe=>I.1 he.symm) (λr aB he=>aB.1 (.inl he)),am,5,W,at_,told,sv,af,⟨⟨λ_=>Ω,λ_=>by simp[a8]⟩,λh=>by simp[a8] at h⟩,ak.aa ap Y λr _ h aC=>rW h I.2.1 aC⟩
 .refine⟨ae.refl _ _,I,al,am,big,W,an,told,sv,X,⟨?_,λh=>ao.2 (by
   have h:(s.big||b)=false:=h;exact (T7.1 h).1)⟩,ap⟩
  show (s.big||b)=true↔big≠0;cases b with
  |false=>rw[Bool.or_false];exact ao.1
  |true=>
   have U:big≠0:=of_decide_eq_false (by simpa using au);simp[U]
theorem AI {g:Nat} {A:ah} {B:ah} {b:Bool} (h:eo w g gs A B):aj x7 pp [Γ g,.bool b,Δ at_] w λ_ w'=>Ext w w':=by
 obtain⟨_,W,big,X,Y,told,sv,l,h1,U,_⟩:=h;refine aw func79 ?_;refine aR (λv J=>w=J/\v= .bool false) ?_ ?_
 .rintro _ _ ⟨rfl,rfl⟩;rw[aS];exact Ext.refl _
 intro av I;cases b with
 |false=>rw[aS];exact I _ _ ⟨rfl,rfl⟩
 |true=>
  rw[bA,bQ,aT b4.p rfl,aT eO.p rfl,aA Ψ (h1.cell (o:=0+1+1) rfl),be,ai];refine⟨λV=>?_,λV=>I _ _ ⟨rfl,rfl⟩⟩;rw[bQ,aT b4.p rfl,aT eO.p rfl,aA Ψ (h1.cell (o:=0+1+0) rfl),be];exact I _ _ ⟨rfl,by rw[decide_eq_false U.1]⟩
theorem c4.scan {g:Nat} {A:ah} {B:ah} {s:az} {l:List (Λ)} (h:c4 w g gs A B s clean) (J:ae (λr=>r=gs) w w') (I:gV w' gs (cA g gs A B) l clean) (ad:l.length<=s.toks.length):c4 w' g gs A B {s with toks:=l} clean:=by
 obtain⟨h1,_,U,big,W,X,told,sv,Y,ab,ac⟩:=h;refine⟨h1.aa J,I,⟨U.1,U.2.1,by have:=U.2.2;show s.shared.length+l.length<=100000;omega⟩,big,W,X,told,sv,Y.aa J h1.1,ab,ak.aa ac J λr _ h V=>?_⟩;have V:r=gs:=V;subst V;rcases h with h|h
 .exact h1.2.2.1 h
 .exact h.1 (.inr (.inl rfl))
theorem AJ {g:Nat} {A:ah} {B:ah} {s:az} (h:c4 w g gs A B s clean):aj x7 yJ [Γ g] w λv w'=>fD w g gs A B clean ((dJ s).map (·.2)) w'/\ ∃ (t:Λ) (n:Int),v= .tuple #[bO t,Δ n]/\Bytes t/\t.length<=100000/\ ∀q,dJ s=σ q->t=q.1:=by
 refine aw func78 ?_;refine (oA h).mono ?_;rintro _ J _ ⟨rfl,am⟩;rw[bu,Z8,aS];have h1:=h.ext am;obtain⟨_,an,_,big,aq,au,told,sv,ab,_⟩:=id h1;have ax:=an.words.2;rw[aM b4.p 0 ab rfl];refine (pK an).mono ?_;rintro v V _ ⟨W,Y⟩;have ao:ae (bw g gs A) w V:=(am.aa _).trans (W.mono λr _ h=>.inr (.inl h));cases U:s.toks with
 |cons t l=>
  rw[U] at Y;obtain⟨ay,n,rfl⟩:=Y;have aA:=h1.scan W ay (by rw[U];simp);have ac:dJ s=σ (t,{s with toks:=l}):=by unfold dJ;rw[U]
  have ap:=ax t (by rw[U];exact .head _);rw[hM,hN,hP];refine aR (λv ad=>V=ad/\v=Δ 0) ?_ ?_
  .rintro _ _ ⟨rfl,rfl⟩;refine db (λX=>V=X) ?_ ?_
   .rintro _ rfl;rw[ac];exact⟨⟨ao,aA⟩,t,n,rfl,ap.1,ap.2.2,λq af=>by cases af;rfl⟩
   .intro av I;rw[bh,ai];exact⟨λh=>absurd rfl h,λ_=>I _ rfl⟩
  .intro av I;rw[be,ai];exact⟨λh=>Ω,λ_=>I _ _ ⟨rfl,rfl⟩⟩
 |nil=>
  rw[U] at Y;obtain⟨n,rfl⟩:=Y;have ac:dJ s=ν:=by unfold dJ;rw[U]
  obtain⟨ag,_,aB,big,aq,au,told,sv,ab,aI,aC⟩:=id h1;have aD:=ab.aa W ag.1;have aE:=ak.aa aC W λr _ h al=>by
   have al:r=gs:=al;subst al;rcases h with h|h
   .exact ag.2.2.1 h
   .exact h.1 (.inr (.inl rfl))
  rw[hM,hN,hP];refine aR (λv ad=>V=ad/\ ∃e:Int,v=Δ e/\e≠0) ?_ ?_
  .rintro _ _ ⟨rfl,e,rfl,he⟩;refine db (λX=>ae (λr=>r=g) V X/\eo X g gs A B) ?_ ?_
   .rintro X ⟨aF,aG⟩;rw[ac];exact⟨⟨ao.trans (aF.mono λr _ h=>.inl h),aG⟩,[],n,rfl,λb aH=>(by cases aH),Ξ,λq af=>by cases af⟩
   .intro av I;rw[bh,ai];refine⟨λ_=>?_,λh=>absurd he h⟩;exact (rX (ag.aa W) aD aE he (by have:=aB.2.2;show s.shared.length<=_;omega)).mono λ_ w' _ h=>I _ h
  .intro av I;rw[be,ai];cases clean with
   |true=>exact⟨λ_=>I _ _ ⟨rfl,4,rfl,Ω⟩,λh=>absurd rfl h⟩
   |false=>exact⟨λh=>by simp at h,λ_=>I _ _ ⟨rfl,11,rfl,Ω⟩⟩
theorem Ja {g:Nat} {A:ah} {B:ah} (h:eo w g gs A B):aj x7 yJ [Γ g] w λv w'=>Ext w w'/\v= .tuple #[bO [],Δ 0]:=by
 refine aw func78 ?_;refine (ng h).mono ?_;rintro _ J _ ⟨rfl,I⟩;rw[bu,X3,bA];exact⟨I,rfl⟩
theorem vn {g:Nat} {A:ah} {B:ah} {s:az} (h:c4 w g gs A B s clean):aj x7 mQ [Γ g,Δ lo,Δ hi] w λv w'=>fD w g gs A B clean ((bc lo hi s).map (·.2)) w'/\ ∃n at_:Int,v= .tuple #[Δ n,Δ at_]/\(∀q,bc lo hi s=σ q->n=q.1)/\(bc lo hi s=ν->n=0):=by
 refine aw func80 ?_;refine (AJ h).mono ?_;rintro _ J _ ⟨⟨ab,U⟩,t,n,rfl,al,am,hw⟩;rw[bf,bg];cases W:dJ s with
 |none=>
  have I:bc lo hi s=ν:=by unfold bc;rw[W]
  rw[W] at U;have U:eo J g gs A B:=U;refine (ng U).mono ?_;rintro _ V _ ⟨rfl,X⟩;rw[bu,X3,bA,I];exact⟨⟨ab.trans (X.aa _),U.ext X⟩,0,n,rfl,λq h=>(by cases h),λ_=>rfl⟩
 |some q=>
  obtain⟨bp,ac⟩:=q;have:=hw _ W;subst this;rw[W] at U;have U:c4 J g gs A B ac clean:=U;refine (oA U).mono ?_;rintro _ V _ ⟨rfl,X⟩;rw[bu,Z8,aS];refine (I5 al am).mono ?_;rintro _ ad _ ⟨rfl,af⟩;have ag:=(U.ext X).ext af;have ak:ae (bw g gs A) w ad:=(ab.trans (X.aa _)).trans (af.aa _);obtain⟨m,e,an,hm⟩:∃m e:Int,jZ t= .tuple #[Δ m,Δ e]/\((fR t=σ m/\e=0)\/(fR t=ν/\e=4)):=by
   unfold jZ;cases au:fR t with
   |none=>exact⟨0,4,rfl,.inr ⟨rfl,rfl⟩⟩
   |some m=>exact⟨m,0,rfl,.inl ⟨rfl,rfl⟩⟩
  rw[an,bf,bg];refine aR (λv ao=>ad=ao/\v= .bool (bc lo hi s).isNone) ?_ ?_
  .rintro _ _ ⟨rfl,rfl⟩;cases I:bc lo hi s with
   |none=>
    rw[Option.isNone_none,bA];refine (rY ag Ω).mono ?_;rintro _ ax _ ⟨ap,aq⟩;exact⟨⟨ak.trans (ap.mono λr _ h=>.inl h),aq⟩,0,n,rfl,λq h=>(by cases h),λ_=>rfl⟩
   |some q=>
    rw[Z3,aS];unfold bc at I;rw[W] at I;simp only at I;rcases hm with⟨hm,_⟩|⟨hm,_⟩
    .rw[hm] at I;simp only at I;split at I
     .cases I;exact⟨⟨ak,ag⟩,m,n,rfl,λq h=>(by cases h;rfl),λh=>(by cases h)⟩
     .cases I
    .rw[hm] at I;cases I
  .intro av Y;have I:bc lo hi s=match fR t with
     |none=>ν
     |some n=>if lo<=n/\n<=hi then σ (n,ac) else ν:=by
    unfold bc;rw[W];simp only;cases fR t<;>rfl
   rw[bh,ai];rcases hm with⟨hm,rfl⟩|⟨hm,rfl⟩
   .rw[hm] at I;simp only at I;refine⟨λh=>absurd rfl h,λ_=>?_⟩;rw[aP,ai];refine⟨λh=>Y _ _ ⟨rfl,by rw[I,if_neg Ω];rfl⟩,λh=>?_⟩;rw[bM];refine Y _ _ ⟨rfl,?_⟩;rw[I];by_cases aC:hi<m
    .rw[decide_eq_true aC,if_neg Ω];rfl
    .rw[decide_eq_false aC,if_pos Ω];rfl
   .rw[hm] at I;exact⟨λ_=>Y _ _ ⟨rfl,by rw[I];rfl⟩,λh=>absurd (by omega:(4:Int)≠0) h⟩
theorem Jb {g:Nat} {A:ah} {B:ah} (h:eo w g gs A B):aj x7 mQ [Γ g,Δ lo,Δ hi] w λv w'=>Ext w w'/\v= .tuple #[Δ 0,Δ 0]:=by
 refine aw func80 ?_;refine (Ja h).mono ?_;rintro _ J _ ⟨I,rfl⟩;rw[bf,bg];refine (ng (h.ext I)).mono ?_;rintro _ V _ ⟨rfl,U⟩;rw[bu,X3,bA];exact⟨I.trans U,rfl⟩
theorem Jc {x:Int} (h:aB .i64 w sv l):aj x7 FI [sv,Δ x] w λv w'=>Ext w w'/\ ∃r:Int,v=Δ r/\(0<=r↔x∈l):=by
 refine aw func74 ?_;rw[aV aq.u h];refine bU.range l.length (λi _ J=>Ext w J/\x∉l.take i) h.le ⟨Ext.refl _,Ξ⟩ ?_ ?_
 .rintro i _ J k hi ⟨I,U⟩ hk;refine bB Ω ?_;obtain⟨y,V⟩:=aF (l:=l) hi;rw[ba aq.u al.i Ψ (h.ext I) V,be,ai];refine⟨λhe=>⟨I,i,rfl,⟨λ_=>he▸x5 V,λ_=>Ω⟩⟩,λhe=>?_⟩;rw[aL];refine hk _ _ ⟨I,λhm=>?_⟩;rw[r8,V] at hm;rcases l7.1 hm with hm|hm
  .exact U hm
  .simp at hm;exact he hm
 .rintro _ J k ⟨I,U⟩;rw[o6] at U;rw[aP,ai];exact⟨λh=>Ω,λ_=>⟨I,-1,rfl,⟨λh=>Ω,λh=>absurd h U⟩⟩⟩
theorem Jd {x:Int} (h:aB .i64 w sv l):aj x7 Fe [sv,Δ x] w λv w'=>v= .bool (decide (x∈l))/\Ext w w':=by
 refine aw func30 ?_;refine (Jc h).mono ?_;rintro _ J _ ⟨I,r,rfl,U⟩;rw[cK];exact⟨by congr 1;rw[V5,decide_eq_true_eq,decide_eq_true_eq];exact U,I⟩
theorem r0:∀ {l:Λ},(∀z∈l,1<=z)-> ∀i,aG ((l.take i).map λk=>min k 4097)<=aG (l.map λk=>min k 4097)/\1<=aG ((l.take i).map λk=>min k 4097)
 |[],_,i=>by simp[aG]
 |z::l,h,0=>by
  have I:=r0 (l:=l) (λx J=>h x (.tail _ J)) l.length;rw[o6] at I;have U:=h z (.head _);simp only[List.take_zero,List.map_nil,U4,aG];have:=Int.mul_le_mul_of_nonneg_left I.2 (show 0<=min z 4097 by omega);omega
 |z::l,h,i+1=>by
  have I:=r0 (l:=l) (λx J=>h x (.tail _ J)) i;have U:=h z (.head _);simp only[List.take_succ_cons,U4,aG];have h1:=Int.mul_le_mul_of_nonneg_left I.1 (show 0<=min z 4097 by omega);have V:=Int.mul_le_mul_of_nonneg_left I.2 (show 0<=min z 4097 by omega);exact⟨h1,Ω⟩
theorem AK (l:Λ) (x:Int):aG (l++[x])=aG l*x:=by
 induction l with
 |nil=>simp[aG]
 |cons a l I=>rw[List.cons_append,aG,I,aG,Int.mul_assoc]
theorem AL (h:aB .i64 w sv l) (h1:∀z∈l,1<=z):aj x7 Gu [sv] w λv w'=>v= .bool (de l)/\Ext w w':=by
 refine aw func141 ?_;rw[aV aq.u h];refine nR.range l.length (λi _ n J=>Ext w J/\n=Δ (aG ((l.take i).map λk=>min k 4097))/\aG ((l.take i).map λk=>min k 4097)<=4096) h.le ⟨Ext.refl _,by simp[aG],by simp[aG]⟩ ?_ ?_
 .rintro i _ _ J W hi ⟨I,rfl,U⟩ X;refine bB Ω ?_;obtain⟨z,V⟩:=aF (l:=l) hi;have aa:=h1 z (x5 V);have ab:=r0 h1 i;have ac:=r0 h1 (i+1);have e:aG ((l.take (i+1)).map λk=>min k 4097)=aG ((l.take i).map λk=>min k 4097)*min z 4097:=by
   rw[r8,V,l9,c8,U4,List.map_nil,AK]
  rw[ba aq.u al.i Ψ (h.ext I) V,kE,gh,<-e];have ad:aG ((l.take (i+1)).map λk=>min k 4097)<=4096*4097:=by
   rw[e];have ae:=Int.mul_le_mul_of_nonneg_right U (show 0<=min z 4097 by omega);have af:=Int.mul_le_mul_of_nonneg_left (show min z 4097<=4097 by omega) (show (0:Int)<=4096 by omega);omega
  rw[wrap_i64 Ω Ω,bM,ai];refine⟨λY=>⟨?_,I⟩,λY=>?_⟩
  .unfold de;rw[decide_eq_true];omega
  .rw[aL];exact X _ _ _ ⟨I,rfl,Ω⟩
 .rintro _ _ J W ⟨I,rfl,U⟩;rw[o6] at U;rw[aP,ai];refine⟨λh=>Ω,λ_=>⟨?_,I⟩⟩;unfold de;rw[decide_eq_false];omega
def j2 (n:Int) (acc:Λ) (s:az):Option (Int×az):=match bc 0 (n-1) s with
 |none=>ν
 |some (v,s)=>if v∈acc then ν else σ (v,s)
theorem oB {α:Type} {f:List α->az->Option (α×az)} {acc:List α} {s:az} (h:f acc s=ν):cI f (n+1) acc s=ν:=by
 simp only[cI,h]
theorem r1 {α:Type} {f:List α->az->Option (α×az)} {acc:List α} {s s':az} {a:α} (h:f acc s=σ (a,s')):cI f (n+1) acc s=cI f n (acc++[a]) s':=by
 simp only[cI,h]
theorem c4.pM {g:Nat} {A:ah} {B:ah} {s:az} (h:c4 w g gs A B s clean):(∀r,bw g gs A r->r<w.heap.size)/\(∀r,B r->r<w.heap.size):=⟨h.1.2.2.2.1,h.1.2.2.2.2⟩
theorem Je {g k:Nat} {A B:ah} {s:az} {m:Int} (h:c4 w g gs A B s clean) (hk:k<=4611686018427387904) (hm:0<=m/\m<=1000000):
  aj x7 yR [Γ g,Δ (k:Int),Δ m] w λv w'=>fD w g gs A B clean ((eQ m k s).map (·.2)) w'/\
   ∃gr l,ap .i64 al w' gr v l/\(∀r,leads v r->w.heap.size<=r)/\l.length<=100001/\ ∀q,eQ m k s=σ q->l=q.1:=by
 obtain⟨aJ,aZ⟩:=h.pM;have a1:=h.2.1.words.1;refine aw func140 ?_;refine⟨λout aB J=>∃i:Nat,aB=Δ (i:Int)/\i<=k/\ae (bw g gs A) w J/\ ∃gr l,ap .i64 al J gr out l/\w.heap.size<=gr/\l.length<=100001/\
  ((∃st,c4 J g gs A B st clean/\cI (j2 m) (k-i) l st=eQ m k s/\l.length+st.toks.length<=100000)\/(eo J g gs A B/\eQ m k s=ν)),λ_ aB _=>k-(bV aB).toNat,
  ⟨0,rfl,X2 _,ae.refl _ _,w.heap.size,[],ap.nil _ _ _ _,p9 _,Ξ,.inl ⟨s,h,rfl,by simpa using a1⟩⟩,?_⟩
 rintro out _ J ⟨i,rfl,a2,aK,gr,l,aM,bE,bF,aN⟩;have bG:=aK.size;have aC:∀r,leads out r->w.heap.size<=r:=λr ab=>by have:=bR aM ab;omega
 refine aR (λv V=>Ext J V/\((v= .bool true/\i<k/\ ∃st,c4 V g gs A B st clean/\cI (j2 m) (k-i) l st=eQ m k s/\l.length+st.toks.length<=100000)\/
  (v= .bool false/\((∃st,c4 V g gs A B st clean/\eQ m k s=σ (l,st))\/(eo V g gs A B/\eQ m k s=ν))))) ?_ ?_
 rotate_left
 .intro av an;rw[aP,ai];refine⟨λbH=>?_,λbI=>?_⟩
  .rcases aN with⟨st,ac,Y,aD⟩|⟨af,aE⟩
   .refine (oA ac).mono ?_;rintro _ V _ ⟨rfl,ad⟩;exact an _ _ ⟨ad,.inl ⟨rfl,Ω,st,ac.ext ad,Y,aD⟩⟩
   .refine (ng af).mono ?_;rintro _ V _ ⟨rfl,ad⟩;exact an _ _ ⟨ad,.inr ⟨rfl,.inr ⟨af.ext ad,aE⟩⟩⟩
  .have a6:k-i=0:=Ω
   rcases aN with⟨st,ac,Y,aD⟩|a7
   .rw[a6] at Y;exact an _ _ ⟨Ext.refl _,.inr ⟨rfl,.inl ⟨st,ac,Y.symm⟩⟩⟩
   .exact an _ _ ⟨Ext.refl _,.inr ⟨rfl,.inr a7⟩⟩
 rintro _ V ⟨ad,a8⟩;have aF:ae (bw g gs A) w V:=aK.trans (ad.aa _);have ao:=aM.ext ad;rcases a8 with⟨rfl,a2,st,ac,Y,aD⟩|⟨rfl,ba⟩
 rotate_left
 .rw[aS];rcases ba with⟨st,ac,ak⟩|⟨af,ak⟩
  .rw[ak];exact⟨⟨aF,ac⟩,gr,l,ao,aC,Ω,λq U=>by cases U;rfl⟩
  .rw[ak];exact⟨⟨aF,af⟩,gr,l,ao,aC,Ω,λq U=>by cases U⟩
 rw[bA,dP,wrap_i64 Ω Ω];have bb:k-i=(k-(i+1))+1:=Ω
 rw[bb] at Y;refine (vn ac).mono ?_;rintro _ au _ ⟨⟨ax,ay⟩,n,at_,rfl,bd,bJ⟩;rw[bf,bg];have aO:∀r,leads out r->¬bw g gs A r:=λr ab be=>by have:=aJ r be;have:=aC r ab;omega
 have bK:∀r,g=r->bw g gs A r:=λr h=>.inl h.symm;refine db (λI=>ae (bw g gs A) V I/\((∃X,c4 I g gs A B X clean/\cI (j2 m) (k-(i+1)) (l++[n]) X=eQ m k s/\l.length+1+X.toks.length<=100000)\/(eo I g gs A B/\eQ m k s=ν))/\l.length+1<=100001) ?_ ?_
 .rintro I ⟨aQ,bh,aT⟩;have bi:=bn ao aQ aO;have aU:=aF.trans aQ;have bL:=aU.size;refine en aq.u al.i rfl λa ga aV bM ag bj=>?_;refine iQ aq.u al.i rfl (bi.ext ag) bj.ls Θ Θ λbk bl bm bN bo aG=>?_;have bO:=ag.size;rw[aL,wrap_i64 Ω Ω];have bp:ae (bw g gs A) w bm:=gU (aU.trans (ag.aa _)) aG λr ab he=>by have he:r=gr:=he;omega
  have aW:∀r,bw g gs A r->¬(λr=>r=gr) r:=λr ab he=>by have:=aJ r ab;have he:r=gr:=he;omega
  have aX:∀r,cA g gs A B r->¬(λr=>r=gr) r:=λr ab he=>by have:=aZ r ab.2;have he:r=gr:=he;omega
  refine⟨⟨i+1,rfl,Ω,bp,bl,l++[n],bo,Ω,Θ,?_⟩,by simp only[bV];omega⟩;rcases bh with⟨X,aA,bq,bP⟩|⟨br,aE⟩
  .exact .inl ⟨X,(aA.ext ag).aa aG aW aX,bq,Θ⟩
  .exact .inr ⟨(br.ext ag).aa aG aW aX,aE⟩
 .intro bQ aH;cases U:bc 0 (m-1) st with
  |none=>
   rw[U] at ay;have af:eo au g gs A B:=ay;have am:j2 m l st=ν:=by unfold j2;rw[U]
   have ak:eQ m k s=ν:=by rw[<-Y];exact oB am
   refine aR (λv I=>Ext au I/\v= .bool false) ?_ ?_
   rotate_left
   .intro bt aI;refine (ng af).mono ?_;rintro _ I _ ⟨rfl,W⟩;rw[aS];exact aI _ _ ⟨W,rfl⟩
   rintro _ I ⟨W,rfl⟩;rw[aS];exact aH _ ⟨ax.trans (W.aa _),.inr ⟨af.ext W,ak⟩,Ω⟩
  |some q=>
   obtain⟨bk,X⟩:=q;have bu:=bd _ U;subst bu;rw[U] at ay;have aY:c4 au g gs A B X clean:=ay;have bx:=dw U;have aT:l.length+1+X.toks.length<=100000:=by have:=bx.1;omega
   refine aR (λv I=>Ext au I/\v= .bool (decide (n∈l))) ?_ ?_
   rotate_left
   .intro bt aI;refine (oA aY).mono ?_;rintro _ I _ ⟨rfl,W⟩;rw[bA];refine (Jd ((bn ao ax aO).ext W).ls).mono ?_;rintro _ aV _ ⟨rfl,ag⟩;exact aI _ _ ⟨W.trans ag,rfl⟩
   rintro _ I ⟨W,rfl⟩;have aA:=aY.ext W;rw[ai];refine⟨λbz=>?_,λbB=>?_⟩
   .have am:j2 m l st=ν:=by unfold j2;rw[U];simp only;rw[if_pos bz]
    refine (rY aA Ω).mono ?_;rintro _ aV _ ⟨bC,bD⟩;exact aH _ ⟨(ax.trans (W.aa _)).trans (bC.mono λr _ h=>.inl h),.inr ⟨bD,by rw[<-Y];exact oB am⟩,Ω⟩
   .have am:j2 m l st=σ (n,X):=by unfold j2;rw[U];simp only;rw[if_neg bB]
    exact aH _ ⟨ax.trans (W.aa _),.inl ⟨X,aA,by rw[<-Y];exact (r1 am).symm,aT⟩,Ω⟩
theorem oC {a b:Int} (I:0<=a/\a<=4294967296) (J:0<=b/\b<=4294967296):aj x7 F0 [Δ a,Δ b,Δ k] w λv w'=>v=Δ (min (a+b) k)/\Ext w w':=by
 refine aw func109 ?_;simp only[aL,bM,ai];rw[wrap_i64 Ω Ω];exact⟨λh=>⟨by rw[Int.min_eq_right Ω],Ext.refl _⟩,λh=>⟨by rw[Int.min_eq_left Ω],Ext.refl _⟩⟩
def pN (a b k:Int):x1:=if cn a k/\cn b k then .tuple #[Δ (min (a+b) k),Δ 0] else .tuple #[Δ 0,Δ 3]
theorem AM {a b:Int}:aj x7 ur [Δ a,Δ b,Δ k] w λv w'=>v=pN a b k/\Ext w w':=by
 refine aw func66 ?_;refine aR (λv J=>Ext w J/\v= .bool (decide (¬(cn a k/\cn b k)))) ?_ ?_
 .rintro _ J ⟨I,rfl⟩;simp only[ai,aL,kE];refine⟨λh=>⟨by unfold pN;rw[if_neg h],I⟩,λh=>?_⟩;have h:=Y4.1 h;obtain⟨⟨h1,aa⟩,ab,ac⟩:=id h;have:=h1.2;rw[wrap_i64 Ω Ω];exact⟨by unfold pN;rw[if_pos h],I⟩
 .intro av U;refine jn.mono ?_;rintro _ V _ ⟨rfl,W⟩;simp only[bu,cz];refine⟨λh=>U _ _ ⟨W,?_⟩,λh=>?_⟩
  .have:¬cn a k:=by simpa using h
   rw[decide_eq_true];exact λh=>this h.1
  .have X:cn a k:=by simpa using h
   refine jn.mono ?_;rintro _ ad _ ⟨rfl,Y⟩;simp only[bu];exact U _ _ ⟨W.trans Y,by simp[X]⟩
theorem Jf (h:aB .i64 w sv l) (W:l≠[]):
  aj x7 Hs [sv] w λv w'=>v=Δ (vf l)/\Ext w w':=by
 obtain⟨x,l,rfl⟩:∃x r,l=x::r:=by cases l with
  |nil=>exact absurd rfl W
  |cons x r=>exact⟨x,r,rfl⟩
 have X:=h.le;refine aw func240 ?_;refine db (λJ=>w=J) ?_ ?_
 .rintro _ rfl;rw[fP (y:=0) (i:=0) rfl aq.u al.i Ψ h (by rfl)];refine⟨λm i V=>Ext w V/\ ∃k:Nat,i=Δ (k+1:Nat)/\k<=l.length/\m=Δ ((l.take k).foldl min x),λ_ i _=>l.length+1-(bV i).toNat,⟨Ext.refl _,0,rfl,X2 _,rfl⟩,?_⟩;rintro _ _ V ⟨I,k,rfl,hk,rfl⟩;rw[aV aq.u (h.ext I)];simp only[b9,aP,ai] at X ⊢;refine⟨λaa=>?_,λab=>⟨?_,I⟩⟩
  .obtain⟨y,U⟩:=aF (l:=l) (i:=k) Ω;rw[ba aq.u al.i Ψ (h.ext I) (show (x::l)[k+1]? =σ y from U),kE];simp only[aL];rw[wrap_i64 Ω Ω];refine⟨⟨I,k+1,by congr 1,Ω,?_⟩,?_⟩
   .rw[r8,U,List.foldl_append];rfl
   .simp only[bV];omega
  .have:k=l.length:=Ω
   subst this;rw[o6];rfl
 .intro av Y;rw[aV aq.u h];simp only[aP,ai];exact⟨λh=>by simp at h;omega,λ_=>Y _ rfl⟩
theorem AN {g:Nat} {cs:Λ} (h:c0 w g I sv af k cs):aj x7 uA [Γ g] w λv w'=>v=Δ k/\Ext w w':=by
 obtain⟨⟨aW,gs,J,hm,U⟩,_⟩:=h;refine aw func209 ?_;rw[cV eH.u];simp only[Z3,aS];rw[aM cR.p 1 J rfl];exact⟨rfl,Ext.refl _⟩
theorem md {g U:Nat} {cs:Λ} (h:c0 w g U sv af k cs):
  aj x7 FP [Γ g] w λv w'=>Ext w w'/\ ∃J,w.heap.size<=J/\ap .i64 al w' J v cs:=by
 obtain⟨⟨aW,gs,V,hm,W⟩,⟨_,_,X⟩,I,Y⟩:=h;refine aw func95 ?_;rw[cV eH.u];simp only[Z3,aS];rw[aM cR.p 2 V rfl];exact uM W.ls Ω
theorem oD {g V:Nat} {cs:Λ} (h:c0 w g V sv af k cs):
  aj x7 GQ [Γ g] w λv w'=>v= .agg #[sv]/\Ext w w':=by
 obtain⟨⟨aW,gs,W,hm,ac⟩,_⟩:=h;have X:=hm.ls.cells;refine aw func171 ?_;refine bN bt.i λad J ae U Y=>?_;rw[cV eH.u];simp only[Z3,aS];rw[bQ,aT cR.p rfl,bI (cs:=[sv]) bt.p bt.i rfl (m7 (W.ext U) (by
  intro j v I
  match j,I with
  |0,I=>exact I))]
 refine cc (vs:=[sv]) bt.i rfl rfl (by intro u hu;simp at hu;subst hu;exact X.2) Y λag aa ah ab=>?_;rw[fB bt.p bt.i rfl ab.range];exact⟨rfl,U.then aa (by rintro r ai rfl;omega)⟩
theorem AO (h:aB .i64 w sv af) (Y:af.length<=1000):aj x7 y2 [.agg #[sv]] w λv w'=>Ext w w'/\ ∃I,w.heap.size<=I/\ap .i64 ag w' I v af:=by
 refine aw func208 ?_;refine bm λg J aa U W=>?_;rw[aD bt.p 0 W rfl];refine (kJ (h.ext U) Ω).mono ?_;rintro v V _ ⟨X,I,ab,hm⟩;have ac:=U.size;exact⟨U.trans X,I,Ω,hm⟩
theorem AP (h:aB .i64 w sv af):aj x7 Ho [.agg #[sv]] w λv w'=>v=Δ af.length/\Ext w w':=by
 refine aw func227 ?_;refine bm λg J V I U=>?_;rw[aD bt.p 0 U rfl,aV am.u (h.ext I)];exact⟨rfl,I⟩
def hz (af:Λ) (i:Int):Int:=if 0<=i then af.getD i.toNat 0 else 0
theorem pO {i:Int} (h:aB .i64 w sv af):aj x7 Hp [.agg #[sv],Δ i] w λv w'=>v=Δ (hz af i)/\Ext w w':=by
 refine aw func228 ?_;refine bm λg J aa I U=>?_;refine aR (λv V=>v= .bool (decide (i<0\/(af.length:Int)<=i))/\J=V) ?_ ?_
 .rintro _ _ ⟨rfl,rfl⟩;simp only[ai];refine⟨λh=>⟨?_,I⟩,λY=>?_⟩
  .unfold hz;split
   .rw[u4,Z5 Ω];rfl
   .rfl
  .rw[aD bt.p 0 U rfl];obtain⟨n,rfl⟩:∃n:Nat,i=n:=⟨i.toNat,Ω⟩;have W:n<af.length:=Ω
   rw[ba am.u ag.i Ψ (h.ext I) (x6 W)];refine⟨?_,I⟩;unfold hz;rw[if_pos Ω,u4,u9,x6 W];rfl
 .intro av X;simp only[aP,ai];refine⟨λh=>X _ _ ⟨by rw[decide_eq_true];omega,rfl⟩,λY=>?_⟩;rw[aD bt.p 0 U rfl,aV am.u (h.ext I)];simp only[cK];exact X _ _ ⟨by congr 1;simp;omega,rfl⟩
theorem vo {g B0:Nat} (I:bX af):
  nU x7 lj [Γ g] (aG af).toNat (λk vs w=>∃aI gt,vs=[Δ (k:Int),aI]/\B0<=gt/\ap .i64 ag w gt aI (cM af k))
   (λw=>ac w g bt [sv]/\aB .i64 w sv af/\B0<=w.heap.size):=by
 refine⟨lj.enters,λl av aC w ab _ aj ⟨ad,ae,ak⟩ al=>?_⟩;have aD:=prod_bound I;refine pt func134 ?_;rw[bI bt.p bt.i rfl ad.range];refine (og ae I).free.mono ?_;rintro _ J ⟨am,rfl,U⟩;refine ce.range (aG af).toNat (λi V=>av i V/\ac V g bt [sv]/\aB .i64 V sv af/\B0<=V.heap.size) Ω ⟨ab 0 _ _ U am.b al,ad.ext U,ae.ext U,Y7 ak U.size⟩ ?_ ?_
 .rintro i V k hi ⟨X,Y,aa,ah⟩ hk;simp only[aP,ai];refine⟨λ_=>?_,λh=>Ω⟩;rw[bI bt.p bt.i rfl Y.range];refine (HX aa I Ω Ω).free.mono ?_;rintro _ an ⟨ao,W,aI,gt,rfl,aq,au⟩;rw[bf,bg];refine⟨rfl,(aj i _ an hi ⟨Y.ext W,aa.ext W,Y7 ah W.size⟩ ⟨aI,gt,rfl,Y7 ah aq,au⟩ (ab _ _ _ W ao.b X)).mono ?_⟩;rintro _ aE (⟨rfl,⟨aw,ax,ay⟩,az⟩|⟨rfl,aA⟩)
  .simp only[bu,Z8,aS,aL];exact hk _ ⟨az.1,aw,ax,ay⟩
  .simp only[bu,X3,bA];exact .inr ⟨i,hi,aA⟩
 .rintro V k ⟨X,Y,aa,_⟩;simp only[aP,ai];exact⟨λh=>Ω,λ_=>.inl X⟩
theorem vp:aj x7 FG [.agg #[sv]] w λr w'=>Ext w w'/\ ∃g,r= .func (.func lj) #[] #[Γ g]/\w.heap.size<=g/\ac w' g bt [sv]:=by
 refine aw func70 ?_;refine bm λg J V I U=>?_;rw[lZ];exact⟨I,g,rfl,Ω,U⟩
end Go.Proofs.YtjjhhcfgfdepdaaGreatDoor
namespace Go.Vc
open Go Go.RowKit
set_option maxRecDepth 100000
section
variable {P:W0} {w:x3}
theorem ax.ck {α:Type} {s:Sem α} {K:α->x3->Prop} (h:ax P s w λv w'=>cG w w'->K v w'):ax P s w K:=by
 obtain⟨v,w',h1,I,J⟩:=h;exact⟨v,w',h1,I,J I⟩
structure Keys (P:W0) (k:r9) (G:x1->Prop):Prop where
 check:∀ (w:x3) (em:Bool) {v:x1},G v->(Instr.checkKey em 10000 k v).run P w= .ok () w
 find:∀ (w:x3) {x:x1},G x-> ∀es:List MapEntry,(∀e∈es,G e.key)->
  ((Instr.findKey k x es).run P w= .ok ν w/\ ∀e∈es,e.key≠x)\/ ∃j e,(Instr.findKey k x es).run P w= .ok (σ (j,e.val)) w/\es[j]? =σ e/\e.key=x
 stays:∀ (w:x3) {v:x1},G v->(Instr.keyThatStays v v).run P w= .ok v w
theorem Keys.law {k:r9} (K:WideMaps.KeyLaw P k):Keys P k λv=>∃l,keyOf P k v=σ l:=
 ⟨λw I _ ⟨_,h⟩=>K.check w I h,λw _ ⟨_,h⟩ J U=>K.find w h J U,λw _ ⟨_,h⟩=>K.stays w h⟩
theorem Keys.int {k:r9} {I:o4} (hk:P.underlying k=σ (.int I)):Keys P k λv=>∃n,v= .int I n:=by
 have key:∀n,MapKept.IsKey (.int I) (.int I n):=λn=>rfl;refine⟨λw U v ⟨n,h⟩=>?_,λw x ⟨n,h⟩ V W=>?_,λw v ⟨n,h⟩=>?_⟩
 .subst h;exact MapKept.run_checkKey hk (key n) U 9999
 .subst h;rcases MapKept.findNow_spec (key n) V 0 (λe he=>by obtain⟨m,h⟩:=W e he;rw[h];exact key m) with⟨h1,J⟩|⟨j,e,h1,J,X⟩
  .exact .inl ⟨MapKept.run_findKey hk h1,J⟩
  .exact .inr ⟨j,e,by have:=MapKept.run_findKey (P:=P) (w:=w) hk h1;simpa using this,J,X⟩
 .subst h;exact MapKept.run_keyThatStays (d:=.int I) (key n)
def gl (e:MapEntry):x1×x1:=(e.key,e.val)
def cW (w:x3) (m:Nat) (d:List (x1×x1)):Prop:=∃I J,w.heap[m]? =σ (.map I J)/\MapKept.Stamped I J/\I.toList.map gl=d
theorem cW.ext {d:List (x1×x1)} (h:cW w m d) (I:Ext w w'):cW w' m d:=by
 obtain⟨J,c,h1,U⟩:=h;exact⟨J,c,I.aX m _ h1 rfl,U⟩
theorem cW.aa {d:List (x1×x1)} (h:cW w m d) (I:ae S w w') (J:¬S m):cW w' m d:=by
 obtain⟨U,c,h1,V⟩:=h;exact⟨U,c,I.aX m _ h1 rfl J,V⟩
theorem cW.lt {d:List (x1×x1)} (h:cW w m d):m<w.heap.size:=by
 obtain⟨I,c,h1,J⟩:=h;exact (o9.1 h1).1
theorem cW.nodup {d:List (x1×x1)} (h:cW w m d):(d.map (·.1)).Nodup:=by
 obtain⟨J,c,_,⟨_,_,I⟩,rfl⟩:=h;rw[S1];exact I
theorem j3 {α:Type} {l:List α} (h:l.Nodup) {i:Nat} {x:α} (hi:l[i]? =σ x) (W:l[j]? =σ x):i=j:=by
 have I:=x4.1 hi;have J:=x4.1 W;have V:=V2.1 h;rcases Nat.lt_trichotomy i j with U|rfl|U
 .exact absurd (I.2.trans J.2.symm) (V i j I.1 J.1 U)
 .rfl
 .exact absurd (J.2.trans I.2.symm) (V j i J.1 I.1 U)
theorem me {α β:Type} (f:α->β):∀ (l:List α) (i:Nat),(l.map f).eraseIdx i=(l.eraseIdx i).map f
 |[],_=>Ξ
 |_::_,0=>rfl
 |x::l,i+1=>by simp[me f l i]
theorem cW.uniq {d:List (x1×x1)} (h:cW w m d) {i:Nat} {p q:x1×x1} (hi:d[i]? =σ p) (I:d[j]? =σ q) (he:p.1=q.1):i=j:=by
 have J:=h.nodup;have h1:(d.map (·.1))[i]? =σ p.1:=by rw[x8,hi];rfl
 have U:(d.map (·.1))[j]? =σ p.1:=by rw[x8,I,he];rfl
 exact j3 J h1 U
theorem r2 {aa:Array MapEntry} {c:Nat} (W:w.heap[m]? =σ (.map aa c)) (J:Array MapEntry) (U:Nat):
  ae (λr=>r=m) w {w with heap:=w.heap.setIfInBounds m (.map J U)}/\cG w {w with heap:=w.heap.setIfInBounds m (.map J U)}/\({w with heap:=w.heap.setIfInBounds m (.map J U)}:x3).heap[m]? =σ (.map J U):=by
 have I:=MapKept.heap_set (o':=.map J U) W;refine⟨⟨Ξ,λr o V X ab=>?_⟩,⟨rfl,.jI,rfl,Ξ,λr o V X=>?_⟩,I.1⟩
 .show (w.heap.setIfInBounds m _)[r]? =σ o;rw[I.2 r ab];exact V
 .show (w.heap.setIfInBounds m _)[r]? =σ o;by_cases Y:r=m
  .subst Y;rw[W] at V;cases V;cases X
  .rw[I.2 r Y];exact V
theorem r3 {K:x1->x3->Prop} (h:∀m w',m=w.heap.size->Ext w w'->cW w' m []->K (.map (σ m)) w'):ax P (Instr.makeMap t ν) w K:=by
 refine .of (run_makeMap t w) (nX w _) (h _ _ rfl (nW w _) ⟨#[],0,?_,MapKept.stamped_empty 0,rfl⟩);exact heap_alloc_new w _
variable {k e:r9} {G:x1->Prop}
theorem pP {c:Bool} {d:List (x1×x1)} {x:x1} (aa:P.underlying t=σ (.map k e)) (hk:Keys P k G) (hm:cW w m d) (ab:∀p∈d,G p.1) (W:G x) (I:d[j]? =σ (x,v)):
  U P (Instr.lookup t (.map (σ m)) x c) w K=K (if c then .tuple #[v,.bool true] else v):=U.of λw' ac=>by
 obtain⟨J,ad,X,ae,rfl⟩:=hm.ext ac;have af:∀e∈J.toList,G e.key:=λe he=>ab (gl e) (o8.2 ⟨e,he,rfl⟩);rcases hk.find w' W J.toList af with⟨_,V⟩|⟨i,Y,h1,V,ag⟩
 .rw[x8] at I;obtain⟨ah,ai,aj⟩:=Y2.1 I;exact absurd (congrArg Prod.fst aj) (V ah (x5 ai))
 .have ak:Y.val=v:=by
   have hi:(J.toList.map gl)[i]? =σ (gl Y):=by rw[x8,V];rfl
   have al:cW w' m (J.toList.map gl):=⟨J,ad,X,ae,rfl⟩;have:=al.uniq hi I ag;subst this;rw[hi] at I;exact congrArg Prod.snd (c9 I)
  simp only[Instr.lookup,X8,run_underlying aa,X9,MapKept.run_getObj_map X,W8,hk.check w' _ W,h1,ak]
theorem r4 {c:Bool} {d:List (x1×x1)} {x:x1} (Y:P.underlying t=σ (.map k e)) (hk:Keys P k G) (I:∃s b,aO P e s b z) (hm:cW w m d) (aa:∀p∈d,G p.1) (J:G x) (ab:∀p∈d,p.1≠x):
  U P (Instr.lookup t (.map (σ m)) x c) w K=K (if c then .tuple #[z,.bool false] else z):=U.of λw' ac=>by
 obtain⟨V,ah,ad,ai,rfl⟩:=hm.ext ac;have ae:∀e∈V.toList,G e.key:=λe he=>aa (gl e) (o8.2 ⟨e,he,rfl⟩);have af:(zeroValue e).run P w'= .ok z w':=by
  obtain⟨s,b,i,hi,_,_,I⟩:=I;simp[zeroValue,typeInfo,hi,I]
 rcases hk.find w' J V.toList ae with⟨h1,W⟩|⟨i,X,h1,W,ag⟩
 .simp only[Instr.lookup,X8,run_underlying Y,X9,MapKept.run_getObj_map ad,W8,hk.check w' _ J,h1,af]
 .exact absurd ag (ab (gl X) (o8.2 ⟨X,x5 W,rfl⟩))
theorem Jg {I:Array MapEntry} {J:MapEntry} {f:MapEntry->MapEntry} (h:I[j]? =σ J):(I.modify j f).toList.map gl=(I.toList.map gl).set j (gl (f J)):=by
 refine Y8 λi=>?_;simp only[x8,T8,Array.getElem?_modify,X0,u7,Array.length_toList];by_cases U:j=i
 .subst U;have:=(o9.1 h);simp[this.1,this.2]
 .simp[U]
theorem pQ {d:List (x1×x1)} {x:x1} {K:Unit->x3->Prop} (ac:P.underlying t=σ (.map k e)) (hk:Keys P k G) (hm:cW w m d) (ai:∀p∈d,G p.1) (U:G x)
  (h1:∀j v0 w',d[j]? =σ (x,v0)->cW w' m (d.set j (x,v))->ae (λr=>r=m) w w'->K () w')
  (aj:∀w',(∀p∈d,p.1≠x)->cW w' m (d++[(x,v)])->ae (λr=>r=m) w w'->K () w'):ax P (Instr.mapUpdate t (.map (σ m)) x v) w K:=by
 obtain⟨J,V,I,ad,rfl⟩:=hm;have ak:∀e∈J.toList,G e.key:=λe he=>ai (gl e) (o8.2 ⟨e,he,rfl⟩);rcases hk.find w U J.toList ak with⟨W,af⟩|⟨i,ag,W,hi,he⟩
 .obtain⟨X,Y,aa⟩:=r2 I (J.push {key:=x,val:=v,born:=V}) (V+1);refine .of (v:=()) (w':=_) ?_ Y (aj _ (λp al=>?_) ⟨_,_,aa,MapKept.stamped_push ad af,by simp[gl]⟩ X)
  .simp only[Instr.mapUpdate,X8,run_underlying ac,X9,MapKept.run_getObj_map I,hk.check w _ U,W,MapKept.run_setObj_map _ I]
  .obtain⟨am,an,rfl⟩:=o8.1 al;exact af am an
 .have ab:J[i]? =σ ag:=by simpa using hi
  obtain⟨X,Y,aa⟩:=r2 I (J.modify i λe=>{e with key:=x,val:=v}) V;refine .of (v:=()) (w':=_) ?_ Y (h1 i ag.val _ (by rw[x8,hi];simp[gl,he]) ⟨_,_,aa,MapKept.stamped_modify ad _ _ (λ_ _=>rfl) (λao _ ah=>by rw[ab] at ah;cases ah;exact he.symm),Jg ab⟩ X);simp only[Instr.mapUpdate,X8,run_underlying ac,X9,MapKept.run_getObj_map I,hk.check w _ U,W,ab,Z2,V4,he,hk.stays w U,MapKept.run_setObj_map _ I]
theorem Jh {ad af:r9} {d:List (x1×x1)} {x:x1} {K:x1->x3->Prop} (aa:P.underlying t=σ (.map k e)) (hk:Keys P k G) (hm:cW w m d) (ag:∀p∈d,G p.1) (U:G x)
  (h1:∀j v0 w',d[j]? =σ (x,v0)->cW w' m (d.eraseIdx j)->ae (λr=>r=m) w w'->K (.tuple #[]) w')
  (ah:∀w',(∀p∈d,p.1≠x)->cW w' m d->ae (λr=>r=m) w w'->K (.tuple #[]) w'):ax P (Z0.delete_ #[t,ad] af #[.map (σ m),x]) w K:=by
 obtain⟨J,ab,I,ac,rfl⟩:=hm;have ai:∀e∈J.toList,G e.key:=λe he=>ag (gl e) (o8.2 ⟨e,he,rfl⟩);rcases hk.find w U J.toList ai with⟨V,aj⟩|⟨i,ak,V,hi,he⟩
 .obtain⟨W,X,Y⟩:=r2 I J ab;refine .of (v:=.tuple #[]) (w':=_) ?_ X (ah _ (λp al=>?_) ⟨_,_,Y,ac,rfl⟩ W)
  .simp only[Z0.delete_,List.getElem?_toArray,List.getElem?_cons_zero,List.getElem?_cons_succ,X8,run_underlying aa,X9,MapKept.run_getObj_map I,hk.check w _ U,V,MapKept.run_setObj_map _ I,W8]
  .obtain⟨am,an,rfl⟩:=o8.1 al;exact aj am an
 .obtain⟨W,X,Y⟩:=r2 I (J.eraseIdxIfInBounds i) ab;refine .of (v:=.tuple #[]) (w':=_) ?_ X (h1 i ak.val _ (by rw[x8,hi];simp[gl,he]) ⟨_,_,Y,MapKept.stamped_erase ac _,by rw[me];simp⟩ W);simp only[Z0.delete_,List.getElem?_toArray,List.getElem?_cons_zero,List.getElem?_cons_succ,X8,run_underlying aa,X9,MapKept.run_getObj_map I,hk.check w _ U,V,MapKept.run_setObj_map _ I,W8]
theorem Ji {I:r9} {d:List (x1×x1)} (J:P.underlying t=σ (.map k e)) (hm:cW w m d):U P (W3 #[t] I #[.map (σ m)]) w K=K (Δ d.length):=U.of λw' V=>by
 obtain⟨X,Y,W,aa,rfl⟩:=hm.ext V;simp[W3,run_underlying J,MapKept.run_getObj_map W,goInt]
def gX (w:x3) (V m:Nat) (d left:List (x1×x1)) (W:Option (x1×x1)):Prop:=∃I J seen gA,w.heap[m]? =σ (.map I J)/\MapKept.Stamped I J/\I.toList.map gl=d/\
 w.heap[V]? =σ (.mapIter (σ m) J seen gA)/\J<=gA/\(leftOf I seen).toList.map gl=left/\ ∀p,W=σ p->gA=J/\ ∃U,I.toList.find? (λe=>e.born == seen.back?.getD 0)=σ U/\seen.back? =σ U.born/\gl U=p
theorem gX.map {d left:List (x1×x1)} {J:Option (x1×x1)} (h:gX w I m d left J):cW w m d:=by
 obtain⟨U,c,_,_,h1,V,W,_⟩:=h;exact⟨U,c,h1,V,W⟩
theorem gX.aX {d left:List (x1×x1)} {J:Option (x1×x1)} (h:gX w I m d left J) (U:ae S w w') (hm:¬S m) (hi:eN w w'):gX w' I m d left J:=by
 obtain⟨V,c,s,gA,h1,W,X,Y,aa⟩:=h;exact⟨V,c,s,gA,U.aX m _ h1 rfl hm,W,X,hi I _ Y rfl,aa⟩
theorem gX.ext {d left:List (x1×x1)} {J:Option (x1×x1)} (h:gX w I m d left J) (U:Ext w w') (hi:eN w w'):gX w' I m d left J:=
 h.aX (U.aa λ_=>False) (λh=>h) hi
theorem Jj (I:Array MapEntry):leftOf I #[]=I:=by
 unfold leftOf;exact Array.filter_eq_self.2 λx J=>Ξ
theorem AQ {d:List (x1×x1)} {K:x1->x3->Prop} (W:P.underlying t=σ (.map k e)) (hm:cW w m d)
  (h:∀I w',I=w.heap.size->Ext w w'->eN w w'->gX w' I m d d ν->K (Γ I) w'):ax P (Instr.range t (.map (σ m))) w K:=by
 obtain⟨U,J,V,X,rfl⟩:=hm;refine .of (run_range_map w t k e m U J W V) (nX w _) (h _ _ rfl (nW w _) (nX w _).jJ ⟨U,J,#[],J,(nW w _).aX m _ V rfl,X,rfl,heap_alloc_new w _,p9 _,by rw[Jj],λp Y=>by cases Y⟩)
theorem AR:∀ (l:List MapEntry) (j:Nat) (I:MapEntry),(l.map (·.born)).Nodup->l[j]? =σ I->l.filter (λx=>!(x.born == I.born))=l.eraseIdx j
 |[],j,I,_,h=>by simp at h
 |x::l,0,I,U,h=>by
  simp at h;subst h;have J:=List.nodup_cons.1 (by simpa using U:(x.born::l.map (·.born)).Nodup);simp only[List.filter_cons,beq_self_eq_true,Z8,Bool.false_eq_true,if_false,List.eraseIdx_cons_zero];refine List.filter_eq_self.2 λy V=>?_;have:y.born≠x.born:=λhe=>J.1 (he▸o8.2 ⟨y,V,rfl⟩);simpa using this
 |x::l,j+1,I,U,h=>by
  simp at h;have J:=List.nodup_cons.1 (by simpa using U:(x.born::l.map (·.born)).Nodup);have W:x.born≠I.born:=λhe=>J.1 (he▸o8.2 ⟨I,x5 h,rfl⟩);have X:=AR l j I J.2 h;simp only[List.filter_cons,List.eraseIdx_cons_succ,X];simp[W]
theorem AS {free:fh} {U:Nat} {d left:List (x1×x1)} {ao:Option (x1×x1)} {K:x1->x3->Prop} (h:gX w U m d left ao) (ab:free.1=false->free.2<=U)
  (ap:left=[]->K (.tuple #[.bool false]) w)
  (h1:∀j p w',left[j]? =σ p->Ext w w'->cr U w w'->gX w' U m d (left.eraseIdx j) (σ p)->K (.tuple #[.bool true,p.1,p.2]) w'):qR P free (Instr.next (Γ U) false 0) w K:=by
 obtain⟨W,X,seen,gA,ac,ae,rfl,hi,aq,rfl,_⟩:=h;have ai:∀x∈W.toList,x.born<X:=ae.1;have aj:=ae.2.1;have ak:∀x∈(leftOf W seen).toList,x.born<X:=λx aa=>ai x (mem_left aa).1;have au:∀ (J:x3) (o':Obj),J.heap=w.heap->(setObj U o').run P J= .ok () {J with heap:=J.heap.setIfInBounds U o'}:=λJ o' he=>by
  simp only[setObj,Sem.run];rw[he,hi]
 unfold qR;simp only[Instr.next,getObj,X8,Sem.run,hi,ac,X9,next_test_false seen W X gA ai aq,Bool.false_eq_true,if_false];have av:Array.filter (λe=>!seen.contains e.born) W=leftOf W seen:=rfl;rw[av];have aw:((leftOf W seen).toList.map (·.born)).Nodup:=by
  unfold leftOf;rw[Array.toList_filter];exact (List.Sublist.map _ List.filter_sublist).nodup aj
 have ax:∀ad:MapEntry,leftOf W (seen.push ad.born)=(leftOf W seen).filter λx=>!(x.born == ad.born):=λad=>by
  unfold leftOf;rw[Array.filter_filter];congr 1;funext x;rw[contains_push];cases seen.contains x.born<;>cases x.born == ad.born<;>rfl
 generalize ay:leftOf W seen=L at*;have az:L.filter (λx=>decide (x.born<X))=L:=Array.filter_eq_self.2 (λx aa=>by simpa using ak x (by simpa using aa));have aA:L.filter (λx=>decide (x.born≥X))= #[]:=by
  rw[Array.filter_eq_empty_iff];intro x aa;have:=ak x (by simpa using aa);simp;omega
 simp only[az,aA,Array.append_empty];by_cases al:L.size=0
 .have aB:L= #[]:=Array.eq_empty_of_size_eq_zero al;subst aB;refine⟨.tuple #[.bool false],w,?_,λ_=>cr.refl _ _,ap rfl⟩;simp[choose,Sem.run,Question.forced]
 .have aC:L.isEmpty=false:=by simp[Array.isEmpty,al]
  simp only[aC,Bool.false_eq_true,if_false,Array.empty_append,Array.size_map];have aD:∃ (j:Nat) (n:Nat),j<L.size/\w.drawn<=n/\(choose (Question.mapNext L.size)).run P w= .ok j {w with drawn:=n}:=by
   by_cases ab:L.size<=1
   .exact⟨0,w.drawn,Ω,p9 _,by simp[choose,Sem.run,Question.forced,ab]⟩
   .exact⟨_,w.drawn+1,Nat.mod_lt _ Ω,Nat.le_succ _,by
     simp only[choose,Sem.run,Question.forced,decide_eq_true_eq,ab,if_false,Question.cut];rfl⟩
  obtain⟨j,n,af,am,aE⟩:=aD;have an:L.toList[j]? =σ L[j]:=by simp[af]
  have aF:L[j]∈W.toList:=(mem_left (seen:=seen) (by rw[ay];exact Array.mem_toList_iff.2 (Array.getElem_mem af))).1;refine⟨.tuple #[.bool true,L[j].key,L[j].val],{w with drawn:=n,heap:=w.heap.setIfInBounds U (.mapIter (σ m) X (seen.push L[j].born) X)},?_,?_,?_⟩
  .have I:=au {w with drawn:=n} (.mapIter (σ m) X (seen.push L[j].born) X) rfl;simp only[aE,Array.getElem?_map,Array.getElem?_eq_getElem af,Z2,X8,I,X9,W8]
  .intro aG;have:=ab aG;refine⟨rfl,⟨rfl,am⟩,rfl,Ξ,λr o V ag=>?_,λr o aH V ah=>?_⟩
   .show (w.heap.setIfInBounds U _)[r]? =σ o;by_cases Y:r=U
    .subst Y;rw[hi] at V;cases V;cases ag
    .rw[(MapKept.heap_set hi).2 r Y];exact V
   .show (w.heap.setIfInBounds U _)[r]? =σ o;rw[(MapKept.heap_set hi).2 r Ω];exact V
  .refine h1 j (gl L[j]) _ (by rw[x8,an];rfl) ⟨Ξ,λr o V ah=>?_⟩ ⟨rfl,⟨rfl,am⟩,rfl,Ξ,λr o V ag=>?_,λr o aH V ah=>?_⟩ ⟨W,X,seen.push L[j].born,X,?_,ae,rfl,?_,p9 _,?_,λp aI=>⟨rfl,L[j],?_,Ξ,c9 aI⟩⟩
   .show (w.heap.setIfInBounds U _)[r]? =σ o;by_cases Y:r=U
    .subst Y;rw[hi] at V;cases V;cases ah
    .rw[(MapKept.heap_set hi).2 r Y];exact V
   .show (w.heap.setIfInBounds U _)[r]? =σ o;by_cases Y:r=U
    .subst Y;rw[hi] at V;cases V;cases ag
    .rw[(MapKept.heap_set hi).2 r Y];exact V
   .show (w.heap.setIfInBounds U _)[r]? =σ o;rw[(MapKept.heap_set hi).2 r Ω];exact V
   .show (w.heap.setIfInBounds U _)[m]? =_;rw[(MapKept.heap_set hi).2 m (λhe=>by subst he;rw[hi] at ac;cases ac)];exact ac
   .exact (MapKept.heap_set hi).1
   .rw[ax,Array.toList_filter,AR _ _ _ aw an,me]
   .simp only[Array.back?_push,V4];exact find_born _ _ aj aF
theorem AT {d left:List (x1×x1)} {p:x1×x1} {K:x1->x3->Prop} (h:gX w I m d left (σ p)) (V:K (.tuple #[p.1,p.2]) w):ax P (Instr.entry (Γ I)) w K:=by
 obtain⟨Y,aa,seen,gA,W,ab,rfl,hi,ac,rfl,X⟩:=h;obtain⟨rfl,J,h1,U,rfl⟩:=X p rfl;refine .of (v:=.tuple #[J.key,J.val]) (w':=w) ?_ (cG.refl _) V;rw[U] at h1;simp only[Instr.entry,getObj,X8,Sem.run,hi,W,X9,U,bne_self_eq_false,Bool.false_eq_true,if_false,<-Array.find?_toList];simp only[V4] at h1;rw[h1];rfl
end
end Go.Vc
namespace Go.Proofs.YtjjhhcfgfdepdaaGreatDoor
open Go Go.Vc Go.RowKit Go.Proofs Go.Proofs.Tryz
set_option maxRecDepth 100000
def dU (ks:Λ):x1:=.agg (ints .i8 ks).toArray
def kO (ks:Λ):Prop:=ks.length=6/\ ∀x∈ks,0<=x/\x<32
theorem Jk {b:Λ} (h:dU a=dU b):a=b:=by
 unfold dU at h;have h:ints .i8 a=ints .i8 b:=congrArg Array.toList (x1.agg.inj h);have e:∀l:Λ,(ints .i8 l).map valOf=l:=λl=>by
  unfold ints;rw[S1];exact List.map_id l
 rw[<-e a,<-e b,h]
theorem AU (ks:Λ):(dU ks).cells.toList=ints .i8 ks:=by simp[dU,x1.cells]
theorem Jl:WideMaps.ArrKey x7 cw fA 6:=⟨cw.u,Ψ,Ψ,Ψ⟩
theorem keys:Keys x7 cw λv=>∃l,keyOf x7 cw v=σ l:=Keys.law Jl.law
theorem vq (h:kO ks):∃l,keyOf x7 cw (dU ks)=σ l:=by
 obtain⟨W,I⟩:=h
 match ks,W with
 |[a,b,c,d,e,f],_=>
  have X:=I a Ξ;have Y:=I b Ξ;have aa:=I c Ξ;have rd:=I d Ξ;have ab:=I e Ξ;have jI:=I f Ξ;have wf:∀x:Int,0<=x/\x<32->(Lit.int .i8 x).wf=true:=λx J=>by
   simp only[Lit.wf,U2,decide_eq_true_eq];have ah:o4.i8.min= -128:=Φ
   have ai:o4.i8.max=127:=Φ
   omega
  have U:decide (0<x7.types.size)=true:=Ψ
  have U:=of_decide_eq_true U;obtain⟨n,ac⟩:∃n,x7.types.size=n+1:=⟨x7.types.size-1,Ω⟩;have one:∀x:Int,0<=x/\x<32->x7.keyLits (n+1) fA [.int .i8 x]=σ [.int .i8 x]:=λx J=>by
   unfold W0.keyLits;rw[fA.u];simp[wf x J]
  unfold keyOf;rw[cw.u];simp only;have ad:x7.keyType cw=true:=Ψ
  have ae:x7.cellsOf fA=1:=Ψ
  have V:x7.cellsOf cw=6:=Ψ
  have af:(dU [a,b,c,d,e,f]).formed x7 cw=true:=by
   unfold dU x1.formed;rw[cw.u,V];rfl
  rw[ad,af,AU,ac];simp only[Bool.and_self,if_true];unfold W0.keyLits;rw[cw.u];simp only[V,ae,ints];have ag:W7 6=[0,1,2,3,4,5]:=Φ
  simp[ag,one a X,one b Y,one c aa,one d rd,one e ab,one f jI]
def pad (t:Λ):Λ:=t++p8 (6-t.length) 0
theorem Jm {t:Λ} (U:t.length<=6) (I:∀x∈t,0<=x/\x<32):kO (pad t):=
 ⟨by simp[pad];omega,λx J=>by
  rcases l7.1 J with h|h
  .exact I x h
  .have:=(List.mem_replicate.1 h).2;omega⟩
theorem Jn {b:Λ} (I:a.length=b.length) (h:pad a=pad b):a=b:=by
 unfold pad at h;exact (List.append_inj h I).1
theorem AV {t:Λ}:(pad t).take t.length=t:=by simp[pad]
theorem nh {b o:Nat} (I:ks.length=6) (h:w.rangeAt b o (ints .i8 ks)):U x7 (u5 cw (.pointer (σ ⟨b,o,ν⟩))) w K=K (dU ks):=
 zd cw.u rfl cw.i (by simp[I]) h
theorem Jo {b o:Nat} (I:ks.length=6) (h:w.rangeAt b o (ints .i8 ks)):U x7 (do loadVar cw (<-asAddr (.pointer (σ ⟨b,o,ν⟩)))) w K=K (dU ks):=U.of λw' J=>by
 have:=run_loadVar_mid (P:=x7) w' b o cw (ints .i8 ks) (.array 6 fA) (mU J h) cw.u rfl (by rw[cw.i.size];simp[I]);simp only[asAddr,X8,W8,Result.andThen_ok,this];rfl
theorem pR {g:Nat} {K:Unit->x3->Prop} (I:ks.length=6) (J:cs.length=6) (U:ac w g cw cs)
  (h:∀w',ae (λr=>r=g) w w'->w'.heap.size=w.heap.size->ac w' g cw (ints .i8 ks)->K () w'):ax x7 (o7 cw (Γ g) (dU ks)) w K:=
 cc (vs:=ints .i8 ks) cw.i (by simp[I]) J (λv V=>by obtain⟨x,_,rfl⟩:=o8.1 V;rfl) U h
def r5:List x1:=[.int .i8 0,.int .i8 0,.int .i8 0,.int .i8 0,.int .i8 0,.int .i8 0]
theorem Jp {x:Int}:aj x7 rq [Δ x] w λv w'=>v= .bool (decide (¬hQ x))/\Ext w w':=by
 refine aw func185 ?_;simp only[cg,aP,bM,ai];refine⟨λh=>⟨?_,Ext.refl _⟩,λh=>⟨?_,Ext.refl _⟩⟩
 .rw[decide_eq_true];intro I;have:=I.1;omega
 .congr 1;have:(32<x)=(¬hQ x):=propext ⟨λJ I=>by have:=I.2;omega,λJ=>by
   by_cases U:32<x
   .exact U
   .exact absurd ⟨Ω,Ω⟩ J⟩
  simp only[this]
theorem Jq (h:aB .i64 w sv l):
  aj x7 y4 [sv,.func (.func rq) #[] #[]] w λv w'=>Ext w w'/\ ∃n:Int,v=Δ n/\((0<=n)=¬∀x∈l,hQ x):=by
 have ad:=h.le;refine aw func221 ?_;rw[aV am.u h];refine⟨λ_ t J=>Ext w J/\ ∃i:Nat,t=Δ i/\i<=l.length/\ ∀x∈l.take i,hQ x,λ_ t _=>l.length-(bV t).toNat,⟨Ext.refl _,0,rfl,X2 _,Ξ⟩,?_⟩;rintro _ _ J ⟨U,i,rfl,hi,W⟩;simp only[aP,ai];refine⟨λae=>?_,λaf=>⟨U,-1,rfl,?_⟩⟩
 .obtain⟨x,X⟩:=aF (l:=l) (i:=i) Ω;rw[ba am.u ag.i Ψ (h.ext U) X];show aj x7 rq [Δ x] J _;refine Jp.mono ?_;rintro _ V _ ⟨rfl,Y⟩;simp only[ai,aL];refine⟨λaa=>⟨U.trans Y,i,rfl,?_⟩,λab=>?_⟩
  .exact propext ⟨λ_ ac=>aa (ac x (x5 X)),λ_=>Ω⟩
  .rw[wrap_i64 Ω Ω];refine⟨⟨U.trans Y,i+1,rfl,Ω,λy I=>?_⟩,?_⟩
   .rw[r8,X] at I;rcases l7.1 I with I|I
    .exact W y I
    .simp at I;subst I;exact Y4.1 ab
   .simp only[bV];omega
 .have:i=l.length:=Ω
  rw[this,o6] at W;exact propext ⟨λh=>Ω,λh=>absurd W h⟩
theorem AW (h:aB .i64 w sv l):
  aj x7 ux [sv,.func (.func rq) #[] #[]] w λv w'=>v= .bool (decide (¬∀x∈l,hQ x))/\Ext w w':=by
 refine aw func186 ?_;refine (Jq h).mono ?_;rintro _ J _ ⟨I,n,rfl,U⟩;simp only[cK];exact⟨by congr 1;simp only[U],I⟩
abbrev Told:=List (Λ×Int)
def js (p:Λ×Int):x1×x1:=(dU (pad p.1),Δ p.2)
def eA (w:x3) (g m:Nat) (af:Λ) (k o:Int) (D:Told):Prop:=
 (∃sv gs,ac w g fl [sv,Δ k,Δ o,.map (σ m)]/\ap .i64 ag w gs sv af)/\cW w m (D.map js)/\bX af/\cn o k/\ ∀p∈D,c5 af p.1/\cn p.2 k/\p.2≠o
theorem eA.ext {g:Nat} {o:Int} {D:Told} (h:eA w g m af k o D) (I:Ext w w'):eA w' g m af k o D:=by
 obtain⟨⟨sv,gs,h1,J⟩,U,V⟩:=h;exact⟨⟨sv,gs,h1.ext I,J.ext I⟩,U.ext I,V⟩
theorem vr {t:Λ} (I:bX af) (h:c5 af t):t.length=af.length/\ ∀x∈t,0<=x/\x<32:=by
 obtain⟨h1,U⟩:=ne.1 h;refine⟨h1.symm,λx V=>?_⟩;obtain⟨i,hi,rfl⟩:=List.getElem_of_mem V;obtain⟨a,J⟩:=aF (l:=af) (i:=i) Ω;have W:=U i a _ J (x6 hi);have X:=(I.2 a (x5 J)).2;omega
theorem pS {t:Λ} (I:bX af) (h:c5 af t):kO (pad t):=by
 obtain⟨h1,J⟩:=vr I h;exact Jm (by rw[h1];exact I.1) J
theorem eA.oE {g:Nat} {o:Int} {D:Told} (h:eA w g m af k o D):∀p∈D.map js,∃l,keyOf x7 cw p.1=σ l:=λp I=>by
 obtain⟨q,J,rfl⟩:=o8.1 I;exact vq (pS h.2.2.1 (h.2.2.2.2 q J).1)
theorem AX {s t:Λ} (I:c5 af s) (J:c5 af t) (h:dU (pad s)=dU (pad t)):s=t:=
 Jn ((rQ I).symm.trans (rQ J)) (Jk h)
theorem eA.nodup {g:Nat} {o:Int} {D:Told} (h:eA w g m af k o D):(D.map (·.1)).Nodup:=by
 have I:=h.2.1.nodup;rw[S1] at I;refine List.Pairwise.of_map (S:=λa b=>a≠b) (λt=>dU (pad t)) (λa b h he=>h (by rw[he])) ?_;rw[S1];exact I
def Jr (w:x3) (l:Λ) (k o:Int) (v:x1) (w':x3):Prop:=
 Ext w w'/\(¬bX l->v= .tuple #[.pointer ν,Δ 1])/\(bX l->¬cn o k->v= .tuple #[.pointer ν,Δ 3])/\
  (bX l->cn o k-> ∃g m,v= .tuple #[Γ g,Δ 0]/\w.heap.size<=g/\w.heap.size<=m/\eA w' g m l k o [])
theorem AY {o:Int} (h:aB .i64 w sv l):aj x7 n0 [sv,Δ k,Δ o] w (Jr w l k o):=by
 refine aw func146 ?_;refine aR (λv J=>Ext w J/\ ∃c,v= .bool c/\(c=true↔¬bX l)) ?_ ?_
 .rintro _ J ⟨W,c,rfl,X⟩;rw[cz];refine⟨λac=>⟨W,λ_=>rfl,λh=>absurd h (X.1 ac),λh=>absurd h (X.1 ac)⟩,λaf=>?_⟩;have I:bX l:=Classical.byContradiction λh=>by have:=X.2 h;rw[af] at this;cases this
  have an:=I.1;refine jn.mono ?_;rintro _ V _ ⟨rfl,U⟩;by_cases hi:cn o k
  rotate_left
  .simp only[hi,decide_false,bu,X3,bA];exact⟨W.trans U,λh=>absurd I h,λ_ _=>rfl,λ_ h=>absurd h hi⟩
  simp only[hi,decide_true,bu,Z8,aS];refine (kJ ((h.ext W).ext U) Ω).mono ?_;rintro aI ao _ ⟨ad,ag,ap,hm⟩;have aq:=hm.ls.cells;refine r3 λm au ax Y ah=>?_;rw[dc (cs:=#[aI,Δ k,Δ o,.map (σ m)]) (by obtain⟨_,_,_,_,_,rfl,_⟩:=hm.ls;kernel_rfl)];refine bm λg ay az aa ak=>?_;have aA:=W.size;have aC:=U.size;have aD:=ad.size;have aE:=Y.size;exact⟨((((W.trans U).trans ad).trans Y).trans aa),λh=>absurd I h,λ_ h=>absurd hi h,λ_ _=>⟨g,m,rfl,Ω,Ω,⟨aI,ag,ak,(hm.ext Y).ext aa⟩,ah.ext aa,I,hi,λp al=>by cases al⟩⟩
 .intro av ae;rw[aV am.u h];simp only[bM,ai];refine⟨λaF=>ae _ _ ⟨Ext.refl _,true,rfl,λ_ I=>by have:=I.1;omega,λ_=>rfl⟩,λaG=>?_⟩;refine (AW h).mono ?_;rintro _ V _ ⟨rfl,U⟩;refine ae _ _ ⟨U,_,rfl,?_⟩;rw[decide_eq_true_eq];exact⟨λab I=>ab I.2,λab I=>ab ⟨Ω,I⟩⟩
def ip (t:Λ) (i:Nat):Λ:=t.take i++p8 (6-i) 0
theorem Js {t:Λ} {i:Nat} (hi:i<=t.length) (I:t.length<=6):(ip t i).length=6:=by simp[ip];omega
theorem Jt {t:Λ} {i:Nat} {x:Int} (I:t[i]? =σ x) (U:t.length<=6):(ip t i).set i x=ip t (i+1):=by
 have hi:=(x4.1 I).1;unfold ip;have J:(t.take i).length=i:=by rw[j0];omega
 rw[U9 _ _ Ω,J,V7,r8,I];have:6-i=(6-(i+1))+1:=Ω
 rw[this,List.replicate_succ];simp
theorem Ju (t:Λ):ip t t.length=pad t:=by simp[ip,pad]
def AZ (w:x3) (af t:Λ) (v:x1) (w':x3):Prop:=Ext w w'/\ ∃ks e,v= .tuple #[dU ks,Δ e]/\ks.length=6/\(c5 af t->ks=pad t/\e=0)/\(¬c5 af t->e=3)
theorem Jv {g:Nat} {t:Λ} {o:Int} {D:Told} {aI:x1} (h:eA w g m af k o D) (aq:aB .i64 w aI t):aj x7 G0 [Γ g,aI] w (AZ w af t):=by
 obtain⟨⟨sv,gs,au,hm⟩,_,I,_⟩:=h;have bi:=I.1;refine aw func187 ?_;refine bN cw.i λak J bj aN al=>?_;refine bN cw.i λan V bk ay az=>?_;have ad:=aN.trans ay;have bl:=aN.size;have bm:=ay.size;have bn:=al.lt;have bo:=az.lt;have bp:=au.lt;have al:=al.ext ay;have aY:=au.ext ad;rw[cV eG.u];simp only[Z3,aS];have aA:∀ {W:x3} {ks:Λ} {e:Int},Ext w W->ac W an cw (ints .i8 ks)->ac W ak cw r5->ks.length=6->(c5 af t->ks=pad t/\e=0)->(¬c5 af t->e=3)->
   U x7 (u5 cw (Γ an)) W λaZ=>ax x7 (o7 cw (Γ ak) aZ) W λ(_:Unit) aD=>U x7 (do loadVar cw (<-asAddr (Γ ak))) aD λa1=>AZ w af t (.tuple #[a1,Δ e]) aD:=by
  intro W ks e X Y ae ap ao aE;rw[nh ap Y.range];refine pR ap rfl ae λaD a2 bq a6=>?_;rw[Jo ap a6.range];exact⟨X.put a2 Ω,ks,e,rfl,ap,ao,aE⟩
 rw[aV am.u (aq.ext ad),aM fl.p 0 aY rfl,aV am.u (hm.ls.ext ad)];simp only[bh,ai];have aO:ints .i8 (ip t 0)=r5:=by simp[ip,r5,ints]
 refine⟨λa7=>aA ad (ks:=ip t 0) (e:=3) (by rw[aO];exact az) al (by simp[ip]) (λao=>absurd (by rw[rQ ao]) a7) (λ_=>rfl),λaQ=>?_⟩;have aQ:t.length=af.length:=Ω
 rw[aV am.u (aq.ext ad)];refine bU.range t.length (λi _ W=>Ext w W/\ac W an cw (ints .i8 (ip t i))/\ac W ak cw r5/\ ∀ (j:Nat) (a x:Int),j<i->af[j]? =σ a->t[j]? =σ x->0<=x/\x<a) Ω
  ⟨ad,by rw[aO];exact az,al,λj a x a8=>Ω⟩ ?_ ?_
 .rintro i _ W bb hi ⟨X,Y,ae,aG⟩ bc;simp only[aP,ai];refine⟨λ_=>?_,λh=>Ω⟩;obtain⟨x,ab⟩:=aF (l:=t) hi;obtain⟨a,ah⟩:=aF (l:=af) (i:=i) Ω;have br:=I.2 a (x5 ah);rw[ba am.u ag.i Ψ (aq.ext X) ab];have aT:=Js (t:=t) (i:=i) Ω Ω;refine aR (λv bd=>W=bd/\v= .bool (decide (¬(0<=x/\x<a)))) ?_ ?_
  .rintro _ _ ⟨rfl,rfl⟩;simp only[ai];refine⟨λbe=>aA X Y ae aT (λao=>absurd ((ne.1 ao).2 i a x ah ab) be) (λ_=>rfl),λaH=>?_⟩;have aH:=Y4.1 aH;rw[e7 ag.u fA.u,HK Ω Ω,uG cw.u fA.i Ω];refine bz fA.i rfl rfl Y (by simp[aT];omega) λbt aU bu aW=>?_;simp only[aL];refine bc _ _ ⟨X.put aU Ω,?_,ae.aa aU (by show ¬(ak=an);omega),λj a' bf a8 aJ aK=>?_⟩
   .have e:(ints .i8 (ip t i)).set (0+i*1) (.int .i8 x)=ints .i8 (ip t (i+1)):=by
     rw[<-Jt ab Ω];simp[ints,U1]
    rw[e] at aW;exact aW
   .by_cases bg:j=i
    .subst bg;rw[ah] at aJ;rw[ab] at aK;cases aJ;cases aK;exact aH
    .exact aG j a' bf Ω aJ aK
  .intro av aX;simp only[aP,ai];refine⟨λbw=>aX _ _ ⟨rfl,by rw[decide_eq_true];omega⟩,λbx=>?_⟩;rw[aM fl.p 0 (au.ext X) rfl,ba am.u ag.i Ψ (hm.ls.ext X) ah,cK];refine aX _ _ ⟨rfl,?_⟩;congr 1;exact decide_eq_decide.2 ⟨λh aC=>Ω,λh=>Ω⟩
 .rintro _ W bb ⟨X,Y,ae,aG⟩;simp only[aP,ai];refine⟨λh=>Ω,λ_=>?_⟩;rw[Ju] at Y;exact aA X Y ae (by simp[pad];omega) (λ_=>⟨rfl,rfl⟩) (λaE=>absurd (ne.2 ⟨aQ.symm,λj a x ah ab=>aG j a x (x4.1 ab).1 ah ab⟩) aE)
def hV (D:Told) (o:Int) (t:Λ):Int:=match D.find? (λp=>decide (p.1=t)) with
 |some p=>p.2
 |none=>o
theorem A0 {D:Told} (J:(D.map (·.1)).Nodup) {p q:Λ×Int} (U:p∈D) (V:q∈D) (h:p.1=q.1):p=q:=by
 obtain⟨i,hi⟩:=X4.1 U;obtain⟨j,I⟩:=X4.1 V;have h1:(D.map (·.1))[i]? =σ p.1:=by rw[x8,hi];rfl
 have W:(D.map (·.1))[j]? =σ p.1:=by rw[x8,I,h];rfl
 have:=j3 J h1 W;subst this;rw[hi] at I;exact c9 I
theorem pT {D:Told} {o:Int} {t:Λ} (J:(D.map (·.1)).Nodup) (h:(t,c)∈D):hV D o t=c:=by
 unfold hV;cases I:D.find? (λp=>decide (p.1=t)) with
 |none=>
  have:=List.find?_eq_none.1 I _ h;simp at this
 |some p=>
  have h1:=List.find?_some I;have h1:p.1=t:=by simpa using h1
  have:=A0 J (List.mem_of_find?_eq_some I) h h1;rw[this]
theorem pU {D:Told} {o:Int} {t:Λ} (h:∀p∈D,p.1≠t):hV D o t=o:=by
 unfold hV;cases I:D.find? (λp=>decide (p.1=t)) with
 |none=>rfl
 |some p=>
  have h1:=List.find?_some I;have h1:p.1=t:=by simpa using h1
  exact absurd h1 (h p (List.mem_of_find?_eq_some I))
def kP (D:Told) (t:Λ) (c o:Int) (D':Told):Prop:=(∀p,p∈D'↔(c≠o/\p=(t,c))\/(p∈D/\p.1≠t))/\D'.length<=D.length+1
theorem kP.cost {D D':Told} {t:Λ} {o:Int} (h:kP D t c o D') (Y:(D.map (·.1)).Nodup) (V:(D'.map (·.1)).Nodup) (s:Λ):hV D' o s=if s=t then c else hV D o s:=by
 by_cases I:s=t
 .subst I;rw[if_pos rfl];by_cases W:c=o
  .subst W;exact pU λp J he=>by
    rcases (h.1 p).1 J with U|U
    .exact U.1 rfl
    .exact U.2 he
  .exact pT V ((h.1 _).2 (.inl ⟨W,rfl⟩))
 .rw[if_neg I];by_cases he:∃p∈D,p.1=s
  .obtain⟨p,J,rfl⟩:=he;rw[pT (c:=p.2) Y J];exact pT V ((h.1 _).2 (.inr ⟨J,I⟩))
  .have X:∀p∈D,p.1≠s:=λp J h=>he ⟨p,J,h⟩;rw[pU X];exact pU λp J U=>by
    rcases (h.1 p).1 J with⟨_,rfl⟩|⟨aa,_⟩
    .exact I U.symm
    .exact X p aa U
theorem Jw {D:Told} {t:Λ} {o v0:Int} (W:(D.map (·.1)).Nodup) (U:D[j]? =σ (t,v0)) (X:c≠o):kP D t c o (D.set j (t,c)):=by
 have V:=(x4.1 U).1;refine⟨λp=>⟨λI=>?_,λI=>?_⟩,Ξ⟩
 .obtain⟨i,hi⟩:=X4.1 I;by_cases J:j=i
  .subst J;rw[c7 V] at hi;exact .inl ⟨X,(c9 hi).symm⟩
  .rw[Y5 J] at hi;refine .inr ⟨x5 hi,λhe=>J ?_⟩;exact j3 W (x:=t) (by rw[x8,U];rfl) (by rw[x8,hi,Z2,he])
 .rcases I with⟨_,rfl⟩|⟨I,Y⟩
  .exact x5 (c7 V)
  .obtain⟨i,hi⟩:=X4.1 I;have J:j≠i:=λhe=>by subst he;rw[U] at hi;cases hi;exact Y rfl
   exact x5 (by rw[Y5 J];exact hi)
theorem A1 {D:Told} {t:Λ} {o:Int} (I:∀p∈D,p.1≠t) (J:c≠o):kP D t c o (D++[(t,c)]):=by
 refine⟨λp=>?_,Ξ⟩;rw[l7,n9];exact⟨λh=>h.elim (λh=>.inr ⟨h,I p h⟩) (λh=>.inl ⟨J,h⟩),λh=>h.elim (λh=>.inr h.2) (λh=>.inl h.1)⟩
theorem Jx {D:Told} {t:Λ} {o v0:Int} (U:(D.map (·.1)).Nodup) (J:D[j]? =σ (t,v0)):kP D t o o (D.eraseIdx j):=by
 refine⟨λp=>⟨λI=>?_,λI=>?_⟩,by have:=List.length_eraseIdx_le D j;omega⟩
 .refine .inr ?_;obtain⟨i,V,hi⟩:=List.mem_eraseIdx_iff_getElem?.1 I;refine⟨x5 hi,λhe=>V ?_⟩;exact j3 U (x:=t) (by rw[x8,hi,Z2,he]) (by rw[x8,J];rfl)
 .rcases I with⟨h,_⟩|⟨I,W⟩
  .exact absurd rfl h
  .obtain⟨i,hi⟩:=X4.1 I;exact List.mem_eraseIdx_iff_getElem?.2 ⟨i,λhe=>by subst he;rw[J] at hi;cases hi;exact W rfl,hi⟩
theorem Jy {D:Told} {t:Λ} {o:Int} (I:∀p∈D,p.1≠t):kP D t o o D:=
 ⟨λp=>⟨λh=>.inr ⟨h,I p h⟩,λh=>h.elim (λh=>absurd rfl h.1) (λh=>h.1)⟩,Ω⟩
theorem A2 {g:Nat} {t:Λ} {o:Int} {D:Told} (h:eA w g m af k o D) (U:c5 af t) (I:(D.map js)[j]? =σ (dU (pad t),v)):∃c,D[j]? =σ (t,c)/\v=Δ c:=by
 rw[x8] at I;obtain⟨p,J,he⟩:=Y2.1 I;have h1:=AX (h.2.2.2.2 p (x5 J)).1 U (congrArg Prod.fst he);exact⟨p.2,by rw[J,<-h1],(congrArg Prod.snd he).symm⟩
theorem A3 {g:Nat} {t:Λ} {o:Int} {D:Told} (h:eA w g m af k o D) (I:∀p∈D.map js,p.1≠dU (pad t)):∀p∈D,p.1≠t:=λp J he=>I (js p) (o8.2 ⟨p,J,rfl⟩) (by rw[js,he])
def Jz (w:x3) (g m:Nat) (af t:Λ) (k o c:Int) (D:Told) (v:x1) (w':x3):Prop:=
 (¬(c5 af t/\cn c k)->v=Δ 3/\Ext w w')/\(c5 af t/\cn c k->v=Δ 0/\ae (λr=>r=m) w w'/\ ∃D',kP D t c o D'/\eA w' g m af k o D')
theorem A4 {g:Nat} {t:Λ} {o:Int} {D:Told} {aI:x1} (h:eA w g m af k o D) (aO:aB .i64 w aI t):aj x7 Gz [Γ g,aI,Δ c] w (Jz w g m af t k o c D):=by
 refine aw func147 ?_;refine (Jv h aO).mono ?_;rintro _ J _ ⟨aG,ks,e,rfl,au,aP,aQ⟩;rw[bf,bg];refine bN cw.i λan V bb aH aJ=>?_;refine pR au rfl aJ λax aT bc aK=>?_;have bd:=aG.size;have bi:=aH.size;have bj:=aJ.lt;have am:Ext w ax:=(aG.trans aH).put aT Ω;refine aR (λv ay=>v=Δ 0/\(c5 af t/\cn c k)/\ae (λr=>r=m) w ay/\ ∃D',kP D t c o D'/\eA ay g m af k o D') ?_ ?_
 .rintro _ ay ⟨_,h1,ak⟩;exact⟨λh=>absurd h1 h,λ_=>⟨rfl,ak⟩⟩
 intro av aU;simp only[bh,ai];by_cases ad:c5 af t
 rotate_left
 .have he:=aQ ad;subst he;exact⟨λ_=>⟨λ_=>⟨rfl,am⟩,λh=>absurd h.1 ad⟩,λh=>by simp at h⟩
 obtain⟨rfl,rfl⟩:=aP ad;refine⟨λh=>absurd rfl h,λ_=>?_⟩;have Y:=h.ext am;obtain⟨⟨sv,gs,ab,hm⟩,ao,I,aV,aW⟩:=id Y;rw[aM fl.p 1 ab rfl];refine jn.mono ?_;rintro _ aX _ ⟨rfl,ac⟩;have aY:=am.trans ac;by_cases hi:cn c k
 rotate_left
 .simp only[hi,decide_false,bu,X3,bA];exact⟨λ_=>⟨rfl,aY⟩,λh=>absurd h.2 hi⟩
 simp only[hi,decide_true,bu,Z8,aS];rw[aM fl.p 2 (ab.ext ac) rfl];simp only[be,ai,eh];have aL:=vq (pS I ad);have aZ:∀ {D':Told},kP D t c o D'-> ∀p∈D',c5 af p.1/\cn p.2 k/\p.2≠o:=λhu p a1=>by
  rcases (hu.1 p).1 a1 with⟨ah,rfl⟩|⟨h1,_⟩
  .exact⟨ad,hi,ah⟩
  .exact aW p h1
 have ap:∀ {al ag:x3} {D':Told},Ext aX al->ae (λr=>r=m) al ag->cW ag m (D'.map js)->kP D t c o D'->av (Δ 0) ag:=by
  intro al ag D' U W a2 hu;have a6:g≠m:=λhe=>by
   obtain⟨a7,a8,aC,_⟩:=ao;have ab:ax.heap[g]? =_:=ab;rw[he,aC] at ab;cases ab
  have ba:∀r,leads sv r->r≠m:=λr aN he=>by
   subst he;obtain⟨a7,a8,aC,_⟩:=ao;obtain⟨_,⟨rfl,_⟩|⟨cap,cs,rfl,aq,_⟩⟩:=hm
   .obtain⟨a,n,c,h1,_⟩:=aN;cases h1
   .obtain⟨a,n,c,h1,ak⟩:=aN;cases h1;have aq:ax.heap[gs]? =_:=aq;have ak:gs=r:=ak;rw[ak,aC] at aq;cases aq
  have az:=ac.trans U;exact aU _ _ ⟨rfl,⟨ad,hi⟩,((am.trans az).aa _).trans W,D',hu,⟨sv,gs,(ab.ext az).aa W a6,bn (hm.ext az) W ba⟩,a2,I,aV,aZ hu⟩
 refine⟨λah al U _ _=>?_,λah al U _ _=>?_⟩
 .rw[aM fl.p 3 ((ab.ext ac).ext U) rfl,nh au ((aK.ext ac).ext U).range];subst ah;refine Jh ic.u keys ((ao.ext ac).ext U) Y.oE aL (λj v0 ag aA X W=>?_) (λag aD X W=>?_)
  .obtain⟨gA,aE,_⟩:=A2 Y ad aA;rw[me] at X;exact ap U W X (Jx Y.nodup aE)
  .exact ap U W X (Jy (A3 Y aD))
 .rw[aM fl.p 3 ((ab.ext ac).ext U) rfl,nh au ((aK.ext ac).ext U).range];refine pQ ic.u keys ((ao.ext ac).ext U) Y.oE aL (λj v0 ag aA X W=>?_) (λag aD X W=>?_)
  .obtain⟨gA,aE,_⟩:=A2 Y ad aA;have aF:(D.map js).set j (dU (pad t),Δ c)=(D.set j (t,c)).map js:=by rw[U1];rfl
   rw[aF] at X;exact ap U W X (Jw Y.nodup aE ah)
  .have aF:D.map js++[(dU (pad t),Δ c)]=(D++[(t,c)]).map js:=by rw[c8];rfl
   rw[aF] at X;exact ap U W X (A1 (A3 Y aD) ah)
theorem JA {g:Nat} {t:Λ} {o:Int} {D:Told} {b:Bool} (h:eA w g m af k o D) (J:c5 af t)
  (h1:∀c,(t,c)∈D->K (if b then .tuple #[Δ c,.bool true] else Δ c)) (X:(∀p∈D,p.1≠t)->K (if b then .tuple #[Δ 0,.bool false] else Δ 0)):
  U x7 (Instr.lookup ic (.map (σ m)) (dU (pad t)) b) w K:=by
 have V:=vq (pS h.2.2.1 J);by_cases he:∃p∈D,p.1=t
 .obtain⟨p,I,rfl⟩:=he;obtain⟨j,Y⟩:=X4.1 I;rw[pP ic.u keys h.2.1 h.oE V (j:=j) (v:=Δ p.2) (by rw[x8,Y];rfl)];exact h1 p.2 I
 .have W:∀p∈D,p.1≠t:=λp I h=>he ⟨p,I,h⟩;rw[r4 ic.u keys ⟨_,_,al.i⟩ h.2.1 h.oE V (λq aa hk=>by
   obtain⟨p,I,rfl⟩:=o8.1 aa;exact W p I (AX (h.2.2.2.2 p I).1 J hk))]
  exact X W
theorem JB {g:Nat} {o:Int} {D:Told} (h:eA w g m af k o D):aj x7 G3 [Γ g] w λv w'=>v=Δ D.length/\Ext w w':=by
 obtain⟨⟨sv,gs,I,hm⟩,J,_⟩:=h;refine aw func192 ?_;rw[cV eG.u];simp only[Z3,aS];rw[aM fl.p 3 I rfl,Ji ic.u J];exact⟨Ξ,Ext.refl _⟩
theorem JC {g:Nat} {o:Int} {D:Told} (h:eA w g m af k o D):aj x7 Hy [Γ g] w λv w'=>v=Δ k/\Ext w w':=by
 obtain⟨⟨sv,gs,I,hm⟩,_⟩:=h;refine aw func248 ?_;rw[cV eG.u];simp only[Z3,aS];rw[aM fl.p 1 I rfl];exact⟨rfl,Ext.refl _⟩
theorem vt {g:Nat} {o:Int} {D:Told} (h:eA w g m af k o D):aj x7 G4 [Γ g] w λv w'=>Ext w w'/\ ∃J,w.heap.size<=J/\ap .i64 ag w' J v af:=by
 obtain⟨⟨sv,gs,U,hm⟩,_,I,_⟩:=h;have V:=I.1;refine aw func193 ?_;rw[cV eG.u];simp only[Z3,aS];rw[aM fl.p 0 U rfl];exact kJ hm.ls Ω
theorem JD {g:Nat} {o:Int} {D:Told} (h:eA w g m af k o D):aj x7 Hz [Γ g] w λv w'=>v=Δ af.length/\Ext w w':=by
 refine aw func249 ?_;refine (vt h).mono ?_;rintro v J _ ⟨I,U,_,hm⟩;rw[aV am.u hm.ls];exact⟨rfl,I⟩
end Go.Proofs.YtjjhhcfgfdepdaaGreatDoor
namespace Go.Vc
open Go Go.RowKit
set_option maxRecDepth 100000
def leadsTo (v:x1) (r:Nat):Prop:=∃a n c,v= .slice (σ a) n c/\a.block=r
theorem fa (h:leadsTo (.slice ν 0 0) r):False:=by
 obtain⟨a,n,c,h,_⟩:=h;cases h
section
variable {α:Type} {f:α->List x1} {k:Nat}
theorem hW:∀ {L:List α},(∀a∈L,(f a).length=k)->(L.flatMap f).length=L.length*k
 |[],_=>Ξ
 |a::L,h=>by
  rw[W9,o5,h a (.head _),hW λb I=>h b (.tail _ I),b9,V8];omega
theorem pV:∀ {L:List α} (i:Nat),(∀a∈L,(f a).length=k)->(L.flatMap f).take (i*k)=(L.take i).flatMap f
 |[],i,_=>Ξ
 |a::L,0,_=>Ξ
 |a::L,i+1,h=>by
  have I:=h a (.head _);rw[W9,List.take_succ_cons,W9,<-pV i λb J=>h b (.tail _ J),V8,Nat.one_mul,Nat.add_comm,List.take_append,I];congr 1
  .exact j6 Ω
  .congr 1;omega
theorem r6:∀ {L:List α} (i:Nat),(∀a∈L,(f a).length=k)->(L.flatMap f).drop (i*k)=(L.drop i).flatMap f
 |[],i,_=>Ξ
 |a::L,0,_=>Ξ
 |a::L,i+1,h=>by
  have I:=h a (.head _);rw[W9,List.drop_succ_cons,<-r6 i λb J=>h b (.tail _ J),V8,Nat.one_mul,Nat.add_comm,List.drop_append,I];rw[List.drop_of_length_le Ω,List.nil_append];congr 1;omega
theorem oF {L:List α} {i:Nat} {a:α} (h:∀a∈L,(f a).length=k) (hi:L[i]? =σ a) (I:(f a)[j]? =σ v):(L.flatMap f)[i*k+j]? =σ v:=by
 have U:=(x4.1 I).1;rw[<-List.getElem?_drop,r6 i h];have J:=x4.1 hi;rw[X7 J.1,J.2,W9,Y0 U];exact I
theorem vu {L:List α} {i:Nat} {a:α} (h:∀a∈L,(f a).length=k) (I:(f a).length=k) (hi:i<L.length):over (L.flatMap f) (i*k) (f a)=(L.set i a).flatMap f:=by
 have U:=hW h;have J:(i+1)*k<=L.length*k:=X5 _ hi;rw[V8,Nat.one_mul] at J;rw[l1 Ω,I,pV i h,show i*k+k=(i+1)*k by rw[V8,Nat.one_mul],r6 (i+1) h,List.set_eq_take_append_cons_drop,if_pos hi,List.flatMap_append,W9,U8]
theorem r7 {vs:List x1} {o:Nat} (h1:o+vs.length<=m) (I:m<=cs.length):(over cs o vs).take m=over (cs.take m) o vs:=by
 rw[l1 Ω,l1 (by rw[j0];omega),U8,U8,List.take_append,List.take_append,List.take_take,List.take_take,List.drop_take,j0];rw[show min m o=o by omega,show min o m=o by omega,show min o cs.length=o by omega,j6 (l:=vs) Ω];congr 3;omega
def bd (f:α->List x1) (k:Nat) (e:r9) (w:x3) (g:Nat) (v:x1) (L:List α):Prop:=bT w g e k v L.length (L.flatMap f)/\ ∀a∈L,(f a).length=k
variable {P:W0} {w:x3} {e:r9} {g:Nat} {v:x1} {L:List α}
theorem bd.nil (f:α->List x1) (k:Nat) (e:r9) (w:x3) (g:Nat):bd f k e w g (.slice ν 0 0) []:=⟨bT.nil w g e k,λa h=>by cases h⟩
theorem bd.leads (h:bd f k e w g v L) (I:leadsTo v r):r=g/\g<w.heap.size:=by
 obtain⟨_,⟨rfl,_⟩|⟨cap,cs,rfl,J,_⟩⟩:=h.1
 .exact (fa I).elim
 .obtain⟨a,n,c,h1,U⟩:=I;cases h1;exact⟨U.symm,J.lt⟩
theorem bd.aa (h:bd f k e w g v L) (I:ae S w w') (J:∀r,leadsTo v r->¬S r):bd f k e w' g v L:=
 ⟨⟨h.1.1,h.1.2.imp id λ⟨cap,cs,h1,U,V⟩=>⟨cap,cs,h1,U.aa I (J g ⟨_,_,_,h1,rfl⟩),V⟩⟩,h.2⟩
theorem bd.ext (h:bd f k e w g v L) (I:Ext w w'):bd f k e w' g v L:=h.aa (I.aa λ_=>False) λ_ _ h=>h
theorem bd.sl (h:bd f k e w g v L):b5 w k v L.length (L.flatMap f):=h.1.sl
theorem bd.le (h:bd f k e w g v L):L.length<=9223372036854775807:=by
 have:=b5.le h.sl;simpa[maxLen] using this
theorem eY {I:r9} (J:P.underlying t=σ (.slice e)) (h:bd f k e w g v L):U P (W3 #[t] I #[v]) w K=K (Δ L.length):=by
 obtain⟨_,_,_,_,_,rfl,_⟩:=h.sl;exact hL J
theorem dq {q:o4} {b:Nat} {i:Nat} (I:y=(i:Int)) (J:P.underlying t=σ (.slice e)) (hi:aO P e k b z) (h:bd f k e w g v L) (V:i<L.length):
  U P (j5 t v (.int q y)) w K=K (.pointer (σ ⟨g,i*k,ν⟩)):=by
 subst I;obtain⟨_,⟨rfl,W⟩|⟨cap,cs,rfl,X,Y⟩⟩:=h.1
 .omega
 .rw[fm J hi V (λ_=>rfl),X1]
theorem bd.range {i:Nat} {a:α} (h:bd f k e w g v L) (hi:L[i]? =σ a):w.rangeAt g (i*k) (f a):=λj u hu=>by
 have h1:=oF h.2 hi hu;have V:=(x4.1 hi).1;obtain⟨_,⟨rfl,W⟩|⟨cap,cs,rfl,J,_,_,X,U⟩⟩:=h.1
 .omega
 .have I:=(x4.1 h1).1;rw[hW h.2] at I;rw[<-U,Y3 I] at h1;exact J.cell h1
theorem JE {b:Nat} {i:Nat} {a:α} {K:Unit->x3->Prop} (hi:aO P t k b z) (h:bd f k e w g v L) (J:(f a).length=k) (h1:∀u∈f a,u.oneCell'=true) (W:i<L.length)
  (aa:∀w',ae (λr=>leadsTo v r) w w'->w'.heap.size=w.heap.size->bd f k e w' g v (L.set i a)->K () w'):ax P (o7 t (.pointer (σ ⟨g,i*k,ν⟩)) (.agg (f a).toArray)) w K:=by
 have aj:=hW h.2;have ab:(i+1)*k<=L.length*k:=X5 _ W;rw[V8,Nat.one_mul] at ab;obtain⟨⟨ak,⟨rfl,al⟩|⟨cap,cs,rfl,ac,X,ad,Y,af⟩⟩,U⟩:=h
 .omega
 .have ag:L.length*k<=cs.length:=by rw[Y];exact X5 _ X
  refine zg hi J h1 ac Ω λw' ah I ai=>aa w' (ah.mono λr _ he=>⟨_,_,_,rfl,he.symm⟩) I ⟨⟨?_,.inr ⟨cap,_,Ξ,ai,by simpa using X,ad,by rw[l0,Y],?_⟩⟩,λb V=>?_⟩
  .rw[hW (L:=L.set i a) λb V=>by
    rcases X6 V with h|rfl
    .exact U b h
    .exact J]
  .rw[Z4,<-vu U J W,<-af,r7 (by rw[J];omega) ag]
  .rcases X6 V with h|rfl
   .exact U b h
   .exact J
theorem oG {b:Nat} {u:x1} {i:Nat} {a a':α} {K:Unit->x3->Prop} (hi:aO P t 1 b z) (hu:u.cells= #[u]) (h1:u.oneCell'=true) (h:bd f k e w g v L) (U:L[i]? =σ a) (W:f a'=(f a).set j u) (ap:j<k)
  (ag:∀w',ae (λr=>leadsTo v r) w w'->w'.heap.size=w.heap.size->bd f k e w' g v (L.set i a')->K () w'):ax P (o7 t (.pointer (σ ⟨g,i*k+j,ν⟩)) u) w K:=by
 have X:=(x4.1 U).1;have aq:=hW h.2;have ah:(i+1)*k<=L.length*k:=X5 _ X;rw[V8,Nat.one_mul] at ah;have ai:(f a).length=k:=h.2 a (x5 U);have J:(f a').length=k:=by rw[W,Z4];exact ai
 have aj:(L.flatMap f).set (i*k+j) u=(L.set i a').flatMap f:=by
  rw[<-vu h.2 J X];refine Y8 λp=>?_;rw[n8 _ _ _ Ω,X0,J];by_cases Y:i*k<=p/\p<i*k+k
  .rw[if_pos Y,W,X0];by_cases aa:i*k+j=p
   .rw[if_pos aa,if_pos Ω,if_pos Ω,if_pos Ω]
   .rw[if_neg aa,if_neg Ω];obtain⟨y,ab⟩:∃y,(f a)[p-i*k]? =σ y:=⟨_,x6 Ω⟩;have:=oF h.2 U ab;rw[show i*k+(p-i*k)=p by omega] at this;rw[this,ab]
  .rw[if_neg Y,if_neg Ω]
 obtain⟨⟨au,⟨rfl,av⟩|⟨cap,cs,rfl,ak,ac,al,ad,am⟩⟩,af⟩:=h
 .omega
 .have aw:L.length*k<=cs.length:=by rw[ad];exact X5 _ ac
  refine bz hi hu h1 ak Ω λw' an I ao=>ag w' (an.mono λr _ he=>⟨_,_,_,rfl,he.symm⟩) I ⟨⟨?_,.inr ⟨cap,_,Ξ,ao,by simpa using ac,al,by rw[Z4,ad],?_⟩⟩,λb V=>?_⟩
  .rw[hW (L:=L.set i a') λb V=>by
    rcases X6 V with h|rfl
    .exact af b h
    .exact J]
  .rw[Z4,<-aj,<-am,List.take_set]
  .rcases X6 V with h|rfl
   .exact af b h
   .exact J
theorem iq {ai:r9} {b:Nat} {x:x1} {a:α} {K:x1->x3->Prop} (X:P.underlying t=σ (.slice e)) (hi:aO P e k b z) (af:z.cells.size=k) (h:bd f k e w g v L) (ac:b5 w k x 1 (f a)) (h1:∀u∈f a,u.oneCell'=true)
  (Y:(L.length+1)*b<=140737488355328) (ag:L.length+1<=9223372036854775807)
  (ah:∀I J w',bd f k e w' J I (L++[a])->(∀r,leadsTo I r->leadsTo v r\/w.heap.size<=r)->ae (λr=>leadsTo v r) w w'->K I w'):ax P (b8 #[t,t] ai #[v,x]) w K:=by
 have aj:(f a).length=k:=by have:=ac.1;omega
 have aa:∀I J w',bT w' J e k I (L.length+1) (L.flatMap f++f a)->bd f k e w' J I (L++[a]):=λI J w' hm=>⟨by simpa using hm,λb Y=>by
  rcases l7.1 Y with h'|h'
  .exact h.2 b h'
  .rw[n9.1 h'];exact aj⟩
 rcases h.1.2 with⟨U,ak⟩|⟨cap,cs,U,al,_⟩
 .have hm:bT w w.heap.size e k v L.length (L.flatMap f):=⟨h.1.1,.inl ⟨U,ak⟩⟩;subst U;refine mY X X hi af hm ac h1 (by simpa using Y) (by simpa[maxLen] using ag) λI J w' ab V ad=>ah I J w' (aa _ _ _ V) (λr W=>.inr ?_) (ad.mono λr W h=>Ω);have:=((aa _ _ _ V).leads W).1;omega
 .refine mY X X hi af h.1 ac h1 (by simpa using Y) (by simpa[maxLen] using ag) λI J w' ab V ad=>ah I J w' (aa _ _ _ V) (λr W=>?_) (ad.mono λr W h=>⟨_,_,_,U,h.symm⟩);have:=((aa _ _ _ V).leads W).1;rcases ab with ab|ab
  .exact .inl ⟨_,_,_,U,by show g=r;omega⟩
  .exact .inr Ω
theorem JF {J:r9} {b:Nat} {x:x1} {a:α} {K:x1->x3->Prop} (U:P.underlying t=σ (.slice e)) (hi:aO P e k b z) (V:z.cells.size=k) (h:bd f k e w g v L) (W:b5 w k x 1 (f a)) (h1:∀a,∀u∈f a,u.oneCell'=true)
  (X:(L.length+1)*b<=140737488355328) (Y:L.length+1<=9223372036854775807)
  (aa:∀I ab w',bd f k e w' ab I (L++[a])->(∀r,leadsTo I r->leadsTo v r\/w.heap.size<=r)->ae (λr=>leadsTo v r) w w'->K I w'):ax P (b8 #[t,t] J #[v,x]) w K:=iq U hi V h W (h1 a) X Y aa
theorem hX {b:Nat} {a:α} {x:x1} {K:x1->x3->Prop} (V:P.underlying t=σ (.slice e)) (hi:aO P e k b z) (ab:k<=100000) (J:x.cells=(f a).toArray) (U:(f a).length=k)
  (W:∀v g w',g=w.heap.size->Ext w w'->bd f k e w' g v [a]->K v w'):ax P (Z9 t 1 #[(0,x)]) w K:=
 jT V hi Ω (cs:=x.cells) (zo Ξ (by rw[J];simpa using U)) λg w' X Y I=>by
  have I:ac w' g e (f a):=by rw[J] at I;simpa using I
  exact W _ g w' X Y ⟨by simpa using bT.full (k:=k) (n:=1) I Ω (by simp[maxLen]),λc aa=>by rw[n9.1 aa];exact U⟩
end
end Go.Vc
namespace Go.Proofs.YtjjhhcfgfdepdaaGreatDoor
open Go Go.Vc Go.RowKit Go.Proofs Go.Proofs.Tryz
set_option maxRecDepth 100000
theorem vv {α:Type}:∀ {l:List α} {j:Nat} {x:α},l[j]? =σ x->(x::l.eraseIdx j).Perm l
 |[],j,x,h=>by simp at h
 |a::l,0,x,h=>by simp at h;subst h;exact List.Perm.refl _
 |a::l,j+1,x,h=>by
  simp at h;rw[List.eraseIdx_cons_succ];exact (List.Perm.swap a x _).trans ((vv h).cons a)
theorem A5 {α:Type} {l:List α} (h:j<l.length):(l.eraseIdx j).length+1=l.length:=by
 rw[List.length_eraseIdx,if_pos h];omega
def oH (w:x3) (I:Nat):Nat:=match w.heap[I]? with
 |some (.mapIter (σ m) _ seen _)=>(match w.heap[m]? with
  |some (.map J _)=>(leftOf J seen).size
  |_=>0)
 |_=>0
theorem sa {d left:List (x1×x1)} {J:Option (x1×x1)} (h:gX w I m d left J):oH w I=left.length:=by
 obtain⟨V,W,seen,gA,h1,_,_,U,_,rfl,_⟩:=h;unfold oH;rw[U];simp only;rw[h1];simp
theorem JG {w0:x3} {d d0 left:List (x1×x1)} {J:Option (x1×x1)} (h:gX w I m d left J) (hm:cW w0 m d0) (h1:Ext w0 w) (V:Ext w0 w') (hi:eN w w'):gX w' I m d left J:=by
 obtain⟨W,c,s,gA,X,Y,aa,ab,ac⟩:=h;obtain⟨ad,ae,f1,_⟩:=hm;have g1:=h1.aX m _ f1 rfl;have U:=V.aX m _ f1 rfl;rw[X] at g1;rw[<-g1] at U;exact⟨W,c,s,gA,U,Y,aa,hi I _ ab rfl,ac⟩
abbrev ni (w:x3) (g:Nat) (v:x1) (L:List (Λ)):Prop:=bd (ints .i8) 6 cw w g v L
theorem A6 {k:o4}:∀u∈ints k l,u.oneCell'=true:=λu hu=>by
 obtain⟨x,_,rfl⟩:=o8.1 hu;rfl
theorem keysIter {c3:Nat} {d:List (x1×x1)} {KS:List (Λ)} {w0:x3} (ay:ac w0 c3 ic [.map (σ m)]) (hm:cW w0 m d) (az:d.map (·.1)=KS.map dU) (aB:∀ks∈KS,ks.length=6):
  nT x7 true ln [Γ c3] ([]:List (Λ)) (λh=>h.Perm KS) (λh vs h' _=>∃ks∈KS,h.length<KS.length/\vs=[dU ks]/\h'=h++[ks]) (λw=>Ext w0 w):=by
 refine⟨ln.enters,λl av ba w W _ aC X aD=>?_⟩;refine pt func246 ?_;rw[aA Ψ ((ay.ext X).Qz rfl)];refine ax.ck (AQ ic.u (hm.ext X) λag J aE Y bb aF aG=>?_);refine⟨λV=>∃h I left ah,av h V/\Ext w0 V/\w.heap.size<=V.heap.size/\gX V ag m d left ah/\left.map (·.1)=I.map dU/\(h++I).Perm KS,λV=>oH V ag,
  ⟨[],KS,d,ν,W _ _ _ Y aG.b aD,X.trans Y,Y.size,aF,az,List.Perm.refl _⟩,?_⟩
 rintro V ⟨h,I,left,ah,ai,aH,bc,aj,aa,U⟩;have aI:left.length=I.length:=by have:=congrArg S9 aa;simpa using this
 refine AS aj (λh=>by cases h) (λaJ=>?_) (λj p aK ak al aL am=>?_)
 .rw[ih (v:=.bool false) rfl,aS];subst aJ;have:I=[]:=j9 (by rw[<-aI];rfl);subst this;rw[U5] at U;exact .inl ⟨h,U,ai⟩
 .rw[ih (v:=.bool true) rfl,bA];refine AT am ?_;obtain⟨ks,ab,aM⟩:∃ks,I[j]? =σ ks/\p.1=dU ks:=by
   have h1:(left.map (·.1))[j]? =σ p.1:=by rw[x8,ak];rfl
   rw[aa,x8] at h1;obtain⟨ks,an,aN⟩:=Y2.1 h1;exact⟨ks,an,aN.symm⟩
  have ao:ks∈KS:=U.mem_iff.1 (l7.2 (.inr (x5 ab)));have ap:=aB ks ao;rw[ih (v:=p.1) rfl,aM];refine ax.ck (bN cw.i λbd be bf aO aP aQ=>?_);refine ax.ck (pR ap rfl aP λad aR bg aT aU=>?_);rw[nh ap aT.range];have ae:Ext aK ad:=aO.put aR Ω;have aq:=aQ.trans aU;have au:Ext w0 ad:=(aH.trans al).trans ae;have aV:=W _ _ _ al (by rw[<-aE];exact aL) ai;have aW:=W _ _ _ ae aq.b aV;have aX:=am.ext ae aq.jJ;have aY:h.length<KS.length:=by
   have h1:=U.length_eq;have an:=(x4.1 ab).1;rw[o5] at h1;omega
  refine⟨rfl,(aC h (h++[ks]) _ ad au ⟨ks,ao,aY,rfl,rfl⟩ aW).mono ?_⟩;rintro _ aZ (⟨rfl,aw,a1,a2⟩|⟨rfl,a6⟩)
  .simp only[bu,Z8,aS];have af:=JG aX hm au aw (a2 rfl).jJ;have a7:w.heap.size<=aZ.heap.size:=by
    obtain⟨_,_,_,_,_,_,_,a8,_⟩:=af;have:=(o9.1 a8).1;omega
   refine⟨⟨h++[ks],I.eraseIdx j,left.eraseIdx j,σ p,a1,aw,a7,af,?_,?_⟩,?_⟩
   .rw[<-me,aa,me]
   .refine List.Perm.trans ?_ U;rw[U8];exact List.Perm.append_left h (vv ab)
   .rw[sa af,sa aj];have:=A5 (x4.1 ak).1;omega
  .simp only[bu,X3,bA];exact .inr ⟨h,a6⟩
theorem JH:aj x7 Hh [.map (σ m)] w λr w'=>Ext w w'/\ ∃g,r= .func (.func ln) #[] #[Γ g]/\w.heap.size<=g/\ac w' g ic [.map (σ m)]:=by
 refine aw func216 ?_;refine bm λg J V I U=>?_;rw[lZ];exact⟨I,g,rfl,Ω,U⟩
theorem JI {c3:Nat} {d:List (x1×x1)} {KS:List (Λ)} (aD:ac w c3 ic [.map (σ m)]) (hm:cW w m d) (aE:d.map (·.1)=KS.map dU) (al:∀ks∈KS,ks.length=6) (a1:KS.length<=1000000):
  aj x7 HB [.slice ν 0 0,.func (.func ln) #[] #[Γ c3]] w λv w'=>Ext w w'/\ ∃g L,(∀r,leadsTo v r->w.heap.size<=r)/\L.Perm KS/\ni w' g v L:=by
 refine ie func259 ?_;refine bm λgs J a2 am Y=>?_;have Y:ac J gs iO [.slice ν 0 0]:=Y;have a6:=Y.lt;refine lS.old ⟨List (Λ),true,_,_,_,_,_,_,λh w'=>ae (λr=>w.heap.size<=r) w w'/\ ∃v g,ac w' gs iO [v]/\(∀r,leadsTo v r->w.heap.size<=r/\r≠gs)/\ni w' g v h,λ_ _ _=>False,rfl,keysIter aD hm aE al,?_,λ_ _ U h=>h.trans U,
  λ_ _ _ U h=>⟨h.1.trans (U.aa _),by obtain⟨v,g,h1,aF,aG⟩:=h.2;exact⟨v,g,h1.ext U,aF,aG.ext U⟩⟩,λ_ _ _ _ _ h=>h,am,⟨am.aa _,_,0,Y,λr h=>(fa h).elim,bd.nil _ _ _ _ _⟩,?_,?_,λ_ _ h=>h.elim,λ_ _ _ h=>h.elim⟩
 .rintro h _ h' w' ⟨ks,_,_,rfl,_⟩;rfl
 .rintro a h h' V aH ⟨ks,aI,a7,aJ,rfl⟩ ⟨an,v,g,af,W,ag⟩;cases aJ;have ah:=al ks aI;have a8:h.length<=1000000:=Ω
  refine ax.ck (bN cw.i λba bb bc aK ao aL=>?_);refine ax.ck (pR ah rfl ao λaM aN be aO aP=>?_);intro bf ap _ aQ;have bg:=ao.lt;have aR:Ext V aM:=aK.put aN Ω;have X:=aR.trans ap;rw[aA Ψ ((af.ext X).Qz rfl),nh ah (aO.ext ap).range];refine ax.ck (hX (f:=ints .i8) (a:=ks) iO.u cw.i Ω (by simp[dU,x1.cells]) (by simp[ah]) λa ga bh bi ab aS aT=>?_);have aq:=aS.sl;rw[W9,List.flatMap_nil,U5] at aq;refine ax.ck (JF iO.u cw.i rfl ((ag.ext X).ext ab) aq (λa=>A6) Ω Ω λau aU av ai aV ad aW=>?_);have bj:=an.size;have bk:=X.size;have bl:=ab.size;have bn:=af.lt;have aw:∀r,leadsTo au r->w.heap.size<=r/\r≠gs:=λr I=>by
   rcases aV r I with h|h
   .exact W r h
   .omega
  have ak:ac av gs iO [v]:=((af.ext X).ext ab).aa ad (λh=>(W gs h).2 rfl);refine ax.ck (bz iO.i (by obtain⟨_,_,_,_,_,rfl,_⟩:=ai.sl;rfl) (by obtain⟨_,_,_,_,_,rfl,_⟩:=ai.sl;rfl) ak Ξ λay az bo aX aY=>?_);have aB:ae (λr=>w.heap.size<=r) V ay:=(((X.trans ab).aa _).trans (ad.mono λr _ h=>(W r h).1)).trans (az.mono λr _ h=>by show w.heap.size<=r;omega);refine⟨aH.then aB (λr I h=>by have h:w.heap.size<=r:=h;omega),⟨an.trans aB,au,aU,aX,aw,ai.aa az λr I h=>(aw r I).2 h⟩,λ_=>?_⟩;exact ((((aL.jJ.trans aP.jJ).trans aQ).trans aT.jJ).trans aW.jJ).trans aY.jJ
 .rintro h av aZ ⟨ad,v,g,ak,W,ag⟩;rw[aA Ψ (ak.Qz rfl)];intro ay aC _;exact⟨(ad.ext λr I h=>by have:w.heap.size<=r:=h;omega).trans aC,g,h,λr I=>(W r I).1,aZ,ag.ext aC⟩
theorem JJ {c3:Nat} {d:List (x1×x1)} {KS:List (Λ)} (I:ac w c3 ic [.map (σ m)]) (hm:cW w m d) (J:d.map (·.1)=KS.map dU) (U:∀ks∈KS,ks.length=6) (V:KS.length<=1000000):
  aj x7 Hv [.func (.func ln) #[] #[Γ c3]] w λv w'=>Ext w w'/\ ∃g L,(∀r,leadsTo v r->w.heap.size<=r)/\L.Perm KS/\ni w' g v L:=by
 refine aw func244 ?_;exact (JI I hm J U V).mono λ_ _ _ h=>h
def fU:Λ->Int
 |[]=>0
 |x::l=>x*32 ^ l.length+fU l
theorem vw (n:Nat):(0:Int)<32 ^ n:=Int.pow_pos Ω
theorem sb:∀ (l:Λ),(∀x∈l,0<=x/\x<32)->0<=fU l/\fU l<32 ^ l.length
 |[],_=>by simp[fU]
 |x::l,h=>by
  have U:=sb l λy I=>h y (.tail _ I);have J:=h x (.head _);have V:=vw l.length;simp only[fU,b9];have e:(32:Int) ^ (l.length+1)=32*32 ^ l.length:=by rw[Int.pow_succ,Int.mul_comm]
  have h1:x*32 ^ l.length<=31*32 ^ l.length:=Int.mul_le_mul_of_nonneg_right Ω Ω;have W:0<=x*32 ^ l.length:=Int.mul_nonneg J.1 Ω;rw[e];omega
def hY:Λ->Λ->Int
 |x::a,y::b=>if x<y then-1 else if y<x then 1 else hY a b
 |_,_=>0
theorem A7:∀ (a b:Λ),a.length=b.length->(∀x∈a,0<=x/\x<32)->(∀x∈b,0<=x/\x<32)->(hY a b<0↔fU a<fU b)/\(fU a=fU b->a=b)
 |[],[],_,_,_=>by simp[hY]
 |[],_::_,h,_,_=>by simp at h
 |_::_,[],h,_,_=>by simp at h
 |x::a,y::b,h,Y,aa=>by
  have U:a.length=b.length:=by simpa using h
  have V:∀x∈a,0<=x/\x<32:=λz I=>Y z (.tail _ I);have W:∀x∈b,0<=x/\x<32:=λz I=>aa z (.tail _ I);have X:=A7 a b U V W;have ab:=sb a V;have ad:=sb b W;have ae:=vw b.length;simp only[hY,fU];rw[U] at ab ⊢;have step:∀u v:Int,u<v->u*32 ^ b.length+32 ^ b.length<=v*32 ^ b.length:=λu v af=>by
   have:=Int.mul_le_mul_of_nonneg_right (show u+1<=v by omega) (show (0:Int)<=32 ^ b.length by omega);rw[Int.add_mul,Int.one_mul] at this;exact this
  by_cases h1:x<y
  .rw[if_pos h1];have:=step x y h1;exact⟨⟨λ_=>Ω,λ_=>Ω⟩,λh=>Ω⟩
  .rw[if_neg h1];by_cases J:y<x
   .rw[if_pos J];have:=step y x J;exact⟨⟨λh=>Ω,λh=>Ω⟩,λh=>Ω⟩
   .rw[if_neg J];have ac:x=y:=Ω
    subst ac;exact⟨X.1.trans ⟨λh=>Ω,λh=>Ω⟩,λh=>by rw[X.2 Ω]⟩
theorem vx:∀ {a b:Λ} {i:Nat},(∀ (j:Nat) (x y:Int),j<i->a[j]? =σ x->b[j]? =σ y->x=y)->i<=a.length->i<=b.length->hY a b=hY (a.drop i) (b.drop i)
 |_,_,0,_,_,_=>Ξ
 |[],_,i+1,_,h,_=>by simp at h
 |_::_,[],i+1,_,_,h=>by simp at h
 |x::a,y::b,i+1,he,h1,I=>by
  have J:=he 0 x y Ω rfl rfl;subst J;simp only[hY,Int.lt_irrefl,if_false,List.drop_succ_cons];exact vx (λj u v V hu U=>he (j+1) u v Ω hu U) (by simpa using h1) (by simpa using I)
theorem A8 {x:Int}:aj x7 HA [.int .i8 x] w λv w'=>v= .bool false/\Ext w w':=by
 refine aw func258 ?_;simp only[bh];exact⟨Ξ,Ext.refl _⟩
theorem JK {x:Int}:aj x7 Hu [.int .i8 x,.int .i8 y] w λv w'=>v=Δ (if x<y then-1 else if y<x then 1 else 0)/\Ext w w':=by
 refine aw func243 ?_;refine A8.mono ?_;rintro _ J _ ⟨rfl,I⟩;refine A8.mono ?_;rintro _ V _ ⟨rfl,U⟩;simp only[aS,aP,bM,ai];exact⟨λh=>⟨by rw[if_pos h],I.trans U⟩,λh=>⟨λW=>⟨by rw[if_neg h,if_pos W],I.trans U⟩,λW=>⟨by rw[if_neg h,if_neg W],I.trans U⟩⟩⟩
theorem JL {bb bv:x1} {b:Λ} (X:aB .i8 w bb a) (aa:aB .i8 w bv b) (ax:a.length=b.length):aj x7 Hf [bb,bv] w λv w'=>v=Δ (hY a b)/\Ext w w':=by
 refine aw func214 ?_;have ay:=X.le;rw[aV kD.u X];refine bU.range a.length (λi _ J=>Ext w J/\ ∀ (j:Nat) (x y:Int),j<i->a[j]? =σ x->b[j]? =σ y->x=y) Ω ⟨Ext.refl _,λj x y ak=>Ω⟩ ?_ ?_
 .rintro i _ J al hi ⟨I,Y⟩ am;simp only[aP,ai];refine⟨λ_=>?_,λh=>Ω⟩;obtain⟨x,ab⟩:=aF (l:=a) hi;obtain⟨y,ac⟩:=aF (l:=b) (i:=i) Ω;rw[ba kD.u fA.i Ψ (X.ext I) ab,aV kD.u (aa.ext I)];simp only[cK,ai];refine⟨λh=>Ω,λ_=>?_⟩;rw[ba kD.u fA.i Ψ (aa.ext I) ac];refine JK.mono ?_;rintro _ V _ ⟨rfl,af⟩;have U:hY a b=hY (a.drop i) (b.drop i):=vx Y Ω Ω;have an:a.drop i=x::a.drop (i+1):=by rw[X7 hi,(x4.1 ab).2]
  have ao:b.drop i=y::b.drop (i+1):=by rw[X7 Ω,(x4.1 ac).2]
  rw[an,ao] at U;simp only[hY] at U;simp only[bh,ai,aL];refine⟨λag=>⟨?_,I.trans af⟩,λap=>am _ _ ⟨I.trans af,λj aq au ak ad ae=>?_⟩⟩
  .rw[U];by_cases h1:x<y
   .rw[if_pos h1,if_pos h1]
   .by_cases W:y<x
    .rw[if_neg h1,if_pos W,if_neg h1,if_pos W]
    .rw[if_neg h1,if_neg W] at ag;exact absurd rfl ag
  .by_cases av:j=i
   .subst av;rw[ab] at ad;rw[ac] at ae;cases ad;cases ae;have ah:=Y4.1 ap;by_cases h1:x<y
    .rw[if_pos h1] at ah;omega
    .by_cases W:y<x
     .rw[if_neg h1,if_pos W] at ah;omega
     .omega
   .exact Y j aq au Ω ad ae
 .rintro _ J al ⟨I,Y⟩;simp only[aP,show decide ((a.length:Int)<(a.length:Int))=false from decide_eq_false Ω,aS];rw[aV kD.u (X.ext I),aV kD.u (aa.ext I)];simp only[aP,ai];refine⟨λh=>Ω,λ_=>⟨?_,I⟩⟩;have U:hY a b=hY (a.drop a.length) (b.drop a.length):=vx Y Ω Ω;rw[U,List.drop_length];cases b.drop a.length<;>rfl
theorem JM {b:Λ} (X:kO a) (Y:kO b):aj x7 y3 [dU a,dU b] w λv w'=>Ext w w'/\v=Δ (hY a b):=by
 have ah:∀ {c:Λ},kO c->(ints .i8 c).length=6:=λh=>by simp[h.1]
 refine aw func213 ?_;refine bm λg1 J ai ae I=>?_;refine bm λak V al aa U=>?_;rw[AU] at I U;intro ab W _ _;have I:=(I.ext aa).ext W;have U:=U.ext W;rw[rD cw.u fA.i (l:=0) (h:=6) (m:=6) jR jS fO Ω Ω Ω,rD cw.u fA.i (l:=0) (h:=6) (m:=6) jR jS fO Ω Ω Ω];rw[if_neg Ω,if_neg Ω];have ls:∀ {g:Nat} {c:Λ},kO c->ac ab g cw (ints .i8 c)->aB .i8 ab (.slice (σ ⟨g,0+0*1,ν⟩) (6-0) (6-0)) c:=λ{g c} ad af=>by
  unfold aB;refine⟨Ξ,g,0,_,6,by rw[ad.1],by rw[ad.1];omega,by simp[maxLen],λ_=>rfl,af.range⟩
 refine (JL (ls X I) (ls Y U) (by rw[X.1,Y.1])).mono ?_;rintro _ am _ ⟨rfl,ag⟩;exact⟨((ae.trans aa).trans W).trans ag,rfl⟩
end Go.Proofs.YtjjhhcfgfdepdaaGreatDoor
namespace Go.Vc
open Go Go.RowKit Go.Shelf Go.Proofs Go.Sort
theorem grown_of (V:Ext w w') (J:cG w w'):∃q os,w'=grow (w.drewN q) os:=by
 refine⟨w'.drawn-w.drawn,w'.heap.extract w.heap.size w'.heap.size,?_⟩;have hk:∀k,k<w.heap.size->w'.heap[k]? =w.heap[k]?:=λk hk=>by
  have U:w.heap[k]? =σ w.heap[k]:=Array.getElem?_eq_getElem hk;rw[U];cases I:ff w.heap[k] with
  |true=>exact V.aX k _ U I
  |false=>exact J.aX k _ U I
 have aC:w'.heap=w.heap++w'.heap.extract w.heap.size w'.heap.size:=by
  apply Array.ext_getElem?;intro k;rw[Array.getElem?_append];by_cases h:k<w.heap.size
  .rw[if_pos h,hk k h]
  .rw[if_neg h,Array.getElem?_extract];have:=V.size;by_cases W:k<w'.heap.size
   .rw[if_pos Ω];congr 1;omega
   .rw[if_neg Ω,Array.getElem?_eq_none Ω]
 have h1:=J.os;have W:=J.tape.1;have X:=J.output;have Y:w.drawn+(w'.drawn-w.drawn)=w'.drawn:=by have:=J.tape.2;omega
 cases w';simp only[grow,x3.drewN] at*;subst h1 W X;rw[<-aC,Y]
section
variable {α:Type} [Inhabited α]
theorem Ba (enc:α->List x1) (k:Nat) (hk:∀x,(enc x).length=k) (d:Array α):(flatK enc k d).toList=d.toList.flatMap enc:=by
 apply Y8;intro t;by_cases h:t<d.size*k
 .have J:0<k:=by
   rcases R4 k with I|I
   .rw[I] at h;simp at h
   .exact I
  have U:t / k<d.size:=(Nat.div_lt_iff_lt_mul J).2 h;have V:=Nat.mod_lt t J;have W:(flatK enc k d).toList[t]? =σ ((enc d[t / k]!)[t % k]!):=by
   rw[T8,Array.getElem?_eq_getElem (by simpa using h)];have:=get_flatK enc k d t h;rw[getElem!_pos _ t (by simpa using h)] at this;rw[this]
  have X:d.toList[t / k]? =σ d[t / k]!:=by
   rw[T8,Array.getElem?_eq_getElem U,getElem!_pos d _ U]
  have Y:(enc d[t / k]!)[t % k]? =σ ((enc d[t / k]!)[t % k]!):=by
   generalize d[t / k]! =z;rw[x6 (by rw[hk];exact V),getElem!_pos (enc z) _ (by rw[hk];exact V)]
  have:=oF (f:=enc) (k:=k) (λa _=>hk a) X Y;rw[W,<-this];congr 1;rw[Nat.mul_comm];exact Nat.div_add_mod t k
 .rw[Z5 (by simpa using h),Z5];rw[hW (k:=k) λa _=>hk a];simpa using h
theorem Bb (enc:α->List x1) (k:Nat) (hk:∀x,(enc x).length=k) {g:Nat} {d:Array α} {os:Array Obj} (U:ac w g e cs) (aa:d.size*k<=cs.length):
  ac (sortWorldK enc k w g 0 m d os) g e (d.toList.flatMap enc++cs.drop (d.size*k))/\ ∀r,r<w.heap.size->r≠g->(sortWorldK enc k w g 0 m d os).heap[r]? =w.heap[r]?:=by
 have X:=U.lt;have W:∀r,r<w.heap.size->(sortWorldK enc k w g 0 m d os).heap[r]? =(w.heap.modify g (onCells (putCells id 0 (flatK enc k d))))[r]?:=λr V=>by
  show ((w.heap.modify g (onCells (putCells id 0 (flatK enc k d))))++os)[r]? =_;rw[Array.getElem?_append_left (by simpa using V)]
 refine⟨?_,λr V Y=>?_⟩
 .unfold ac at U ⊢;rw[W g X,Array.getElem?_modify,if_pos rfl,U];show σ (Obj.cells (putCells id 0 (flatK enc k d) cs.toArray) e (0,0))=_;refine congrArg σ (congrArg (λc=>Obj.cells c e (0,0)) ?_);apply Array.ext';apply Y8;intro t;show _=(d.toList.flatMap enc++cs.drop (d.size*k))[t]?;rw[List.getElem?_append,hW (k:=k) λa _=>hk a,T8];unfold putCells;rw[Array.getElem?_mapIdx,List.getElem?_toArray];have I:d.toList.length=d.size:=rfl;by_cases J:t<d.size*k
  .rw[if_pos (by rw[I];exact J),x6 Ω,<-Ba enc k hk,T8,Array.getElem?_eq_getElem (by simpa using J)];simp only[Z2,id];rw[if_pos (by simpa using J),Nat.sub_zero,getElem!_pos _ t (by simpa using J)]
  .rw[if_neg (by rw[I];exact J),List.getElem?_drop,I,show d.size*k+(t-d.size*k)=t by omega];cases ab:cs[t]? with
   |none=>rfl
   |some x=>
    simp only[Z2];rw[if_neg Θ]
 .rw[W r V,Array.getElem?_modify,if_neg (Ne.symm Y)]
end
theorem Bc {P:W0} {X:Ren} (an:SlLaysF0.n6 P X) {α:Type} {f:α->List x1} {k:Nat} {G:α->Prop} {num:α->Int} {cf:α->α->Int} {Y:S6} {cap:Array x1}
  (aP:∀w,(isAgg (X.t 24)).run P w= .ok true w) (aQ:∀w,(Go.sizeOf (X.t 24)).run P w= .ok k w) (h1:∀a,G a-> ∀u∈f a,u.oneCell'=true) (hk:∀a,G a->(f a).length=k)
  (aR:∀a b,G a->G b->(cf a b<0↔num a<num b)) (az:Enters P Y) {w:x3} {g:Nat} {v:x1} {L:List α} (h:bd f k e w g v L) (ab:∀a∈L,G a) (aA:L.length<65536)
  (aS:∀ao a b,ae (λr=>r=g) w ao->G a->G b->aj P Y ([.agg (f a).toArray,.agg (f b).toArray]++cap.toList) ao λu aT=>Ext ao aT/\u=Δ (cf a b)):
  aj P (X.f 6) [v,.func (.func Y) #[] cap] w λ_ w'=>ae (λr=>leadsTo v r) w w'/\ ∃M,M.Perm L/\(∀ (p q:Nat) (x y:α),p<q->M[p]? =σ x->M[q]? =σ y->num x<=num y)/\bd f k e w' g v M:=by
 have aB:Enters P (X.f 6):=λargs w=>an.f6.enters rfl args w;obtain⟨⟨bi,aU⟩,bj⟩:=id h;have aC:∀p c,v= .slice p 0 c->L=[]->aj P (X.f 6) [v,.func (.func Y) #[] cap] w λ_ w'=>ae (λr=>leadsTo v r) w w'/\ ∃M,M.Perm L/\(∀ (p q:Nat) (x y:α),p<q->M[p]? =σ x->M[q]? =σ y->num x<=num y)/\bd f k e w' g v M:=λp c ad aA=>by
  refine .code aB ?_;rw[ad];refine (AnyF.slices_SortFunc_none an p c _ w).mono ?_;rintro bk w' ⟨rfl,rfl⟩;refine⟨_,rfl,cG.refl _,ae.refl _ _,L,.refl _,λp q x y _ V=>by rw[aA] at V;simp at V,by rw[<-ad];exact h⟩
 rcases aU with⟨rfl,aV⟩|⟨c,cs,rfl,W,aD,hm,ap,aW⟩
 .exact aC _ _ rfl (j9 aV)
 cases aq:L with
 |nil=>subst aq;exact aC _ _ rfl rfl
 |cons a0 bl=>
 rw[<-aq];let β:={a:α // G a};have:Inhabited β:=⟨⟨a0,ab a0 (by rw[aq];exact .head _)⟩⟩;let enc:β->List x1:=λx=>f x.1;let d:Array β:=(L.attach.map λx=>(⟨x.1,ab x.1 x.2⟩:β)).toArray;have aE:d.toList.map Subtype.val=L:=by
  show (L.attach.map λx=>(⟨x.1,ab x.1 x.2⟩:β)).map Subtype.val=L;rw[S1];exact List.attach_map_subtype_val L
 have ah:d.size=L.length:=by simp[d]
 have aa:∀x:β,(enc x).length=k:=λx=>hk x.1 x.2;have aX:d.toList.flatMap enc=L.flatMap f:=by
  have af:=congrArg (λl=>l.flatMap f) aE;rw[<-af];exact (List.flatMap_map Subtype.val f d.toList).symm
 have ai:d.size*k<=cs.length:=by rw[ah,ap];exact X5 k aD
 have aY:HoldsK enc k w g 0 d:=by
  intro j ak;rw[size_flatK] at ak;have aF:j<cs.length:=Ω
  have au:(flatK enc k d)[j]! =cs[j]:=by
   have af:(flatK enc k d).toList[j]? =σ cs[j]:=by
    rw[Ba enc k aa,aX,<-aW,Y3 (by rw[<-ah];exact ak),x6 aF]
   rw[T8] at af;rw[getElem!_pos _ j (by simpa using ak)];rw[Array.getElem?_eq_getElem (by simpa using ak)] at af;exact c9 af
  refine⟨?_,?_⟩
  .show w.cell? ⟨g,0+j,ν⟩=σ ((flatK enc k d)[j]!);rw[au];exact W.cell (o:=0+j) (by rw[X1];exact x6 aF)
  .unfold x3.frozen?;unfold ac at W;rw[W];simp
 have al:∀x y:β,ltOf (λx y:β=>cf x.1 y.1) x y=decide (num x.1<num y.1):=λx y=>by
  unfold ltOf;exact decide_eq_decide.2 (aR x.1 y.1 x.2 y.2)
 have aZ:SWO (ltOf λx y:β=>cf x.1 y.1):=
  ⟨λx=>by rw[al];simp,λx y z p q=>by rw[al] at*;simp at*;omega,λx y z p q=>by rw[al] at*;simp at*;omega⟩
 have aG:∀m (d2:Array β) os,d2.size=d.size->ae (λr=>r=g) w (sortWorldK enc k w g 0 m d2 os)/\cG w (sortWorldK enc k w g 0 m d2 os):=λm d2 os I=>by
  obtain⟨bm,aH⟩:=Bb enc k aa (m:=m) (os:=os) W (d:=d2) (by rw[I];exact ai);have aI:w.heap.size<=(sortWorldK enc k w g 0 m d2 os).heap.size:=by
   show w.heap.size<=((w.heap.modify g _)++os).size;simp
  refine⟨⟨aI,λr o U _ av=>?_⟩,rfl,⟨rfl,Nat.le_add_right _ _⟩,rfl,aI,λr o U I=>?_⟩
  .rw[aH r (o9.1 U).1 av];exact U
  .have av:r≠g:=λhe=>by subst he;unfold ac at W;rw[W] at U;cases U;cases I
   rw[aH r (o9.1 U).1 av];exact U
 have a1:CmpLays P Y cap enc k (λx y:β=>cf x.1 y.1) g 0 d.size w:=λm os a2 I x y=>by
  have V:=(aS _ x.1 y.1 (aG m a2 os I).1 x.2 y.2).calls az;have ag:([x1.agg (f x.1).toArray,.agg (f y.1).toArray]++cap.toList).toArray= #[.agg (enc x).toArray,.agg (enc y).toArray]++cap:=by
   apply Array.ext';simp[enc]
  rw[ag] at V;refine V.mono ?_;rintro _ w' ⟨_,rfl,a6,a7,rfl⟩;exact⟨rfl,grown_of a7 a6⟩
 have aJ:=AnyQ.slices_SortFunc an k aP aQ enc aa (λx=>h1 x.1 x.2) (λx y:β=>cf x.1 y.1) aZ Y cap g 0 c d w (λargs w=>az args w) a1 aY W.lt (by rw[ah];omega);rw[ah] at aJ;refine .code aB (aJ.mono ?_);rintro _ w' ⟨rfl,J,n,os,⟨a8,_,ad⟩,ba,rfl⟩;have aw:J.size=d.size:=a8;obtain⟨bb,bc⟩:=aG n J os aw;obtain⟨be,_⟩:=Bb enc k aa (m:=n) (os:=os) W (d:=J) (by rw[aw];exact ai);have am:(J.toList.map Subtype.val).Perm L:=by
  have au:(J.extract 0 L.length).toList=J.toList:=by rw[show L.length=J.size by omega,Array.extract_size]
  have bf:(d.extract 0 L.length).toList=d.toList:=by rw[show L.length=d.size by omega,Array.extract_size]
  rw[au,bf] at ad;rw[<-aE];exact ad.map _
 have aK:=am.length_eq;refine⟨_,rfl,bc,bb.mono λr _ U=>⟨_,_,_,rfl,U.symm⟩,J.toList.map Subtype.val,am,λp q x y bg V aL=>?_,⟨?_,.inr ⟨c,_,by rw[aK],be,by rw[aK];exact aD,hm,?_,?_⟩⟩,λa ag=>hk a (ab a (am.mem_iff.1 ag))⟩
 .rw[x8,Y2] at V aL;obtain⟨bn,aM,rfl⟩:=V;obtain⟨bo,aN,rfl⟩:=aL;rw[T8] at aM aN;have aO:=(o9.1 aM);have ax:=(o9.1 aN);have:=ba p q (X2 _) bg (by have:=ax.1;omega);rw[getElem!_pos J p aO.1,getElem!_pos J q ax.1,aO.2,ax.2,al] at this;simpa using this
 .rw[hW (k:=k) λa ag=>hk a (ab a (am.mem_iff.1 ag))]
 .have ay:(J.toList.flatMap enc).length=J.size*k:=by rw[hW (k:=k) λa _=>aa a];rfl
  rw[o5,ay,List.length_drop,aw,ap];rw[ap] at ai;exact Nat.add_sub_cancel' ai
 .have ay:(J.toList.flatMap enc).length=J.size*k:=by rw[hW (k:=k) λa _=>aa a];rfl
  have bh:(List.map Subtype.val J.toList).length*k=(J.toList.flatMap enc).length:=by rw[ay,u7];rfl
  rw[bh,List.take_left,List.flatMap_map]
end Go.Vc
namespace Go.Proofs
open Go.Shelf
def Tryz.vy:Go.Shelf.Ren:=⟨λ|6=>245|15=>206|14=>260|28=>238|29=>239|20=>275|21=>276|22=>277|23=>278|24=>279|25=>280|26=>281|27=>282|46=>290|47=>252|48=>253|49=>291|50=>292|57=>295|n=>n,λ|22=>319|24=>295|25=>318|3=>3|39=>289|0=>0|53=>340|55=>94|4=>4|46=>334|45=>333|50=>111|5=>5|9=>9|66=>349|70=>353|76=>373|77=>374|n=>n,λ|n=>n⟩
theorem Tryz.JN:Go.Proofs.SlLaysF0.n6 Tryz.prog Tryz.vy:={
 mixed:=Ψ,
 f6:=⟨Tryz.f245.name,Φ,Tryz.func245.trans (congrArg σ Ψ)⟩,
 f14:=⟨Tryz.f260.name,Φ,Tryz.func260.trans (congrArg σ Ψ)⟩,
 f15:=Tryz.func206.trans (congrArg σ Ψ),
 f20:=⟨Tryz.f275.name,Φ,Tryz.func275.trans (congrArg σ Ψ)⟩,
 f21:=⟨Tryz.f276.name,Φ,Tryz.func276.trans (congrArg σ Ψ)⟩,
 f22:=⟨Tryz.f277.name,Φ,Tryz.func277.trans (congrArg σ Ψ)⟩,
 f23:=⟨Tryz.f278.name,Φ,Tryz.func278.trans (congrArg σ Ψ)⟩,
 f24:=⟨Tryz.f279.name,Φ,Tryz.func279.trans (congrArg σ Ψ)⟩,
 f25:=⟨Tryz.f280.name,Φ,Tryz.func280.trans (congrArg σ Ψ)⟩,
 f26:=⟨Tryz.f281.name,Φ,Tryz.func281.trans (congrArg σ Ψ)⟩,
 f27:=⟨Tryz.f282.name,Φ,Tryz.func282.trans (congrArg σ Ψ)⟩,
 f28:=Tryz.func238.trans (congrArg σ Ψ),
 f29:=Tryz.func239.trans (congrArg σ Ψ),
 f46:=⟨Tryz.f290.name,Φ,Tryz.func290.trans (congrArg σ Ψ)⟩,
 f47:=Tryz.func252.trans (congrArg σ Ψ),
 f48:=Tryz.func253.trans (congrArg σ Ψ),
 f49:=⟨Tryz.f291.name,Φ,Tryz.func291.trans (congrArg σ Ψ)⟩,
 f50:=⟨Tryz.f292.name,Φ,Tryz.func292.trans (congrArg σ Ψ)⟩,
 f57:=⟨Tryz.f295.name,Φ,Tryz.func295.trans (congrArg σ Ψ)⟩,
 t0:=Tryz.underlying0,
 a0:=Tryz.isAgg0,
 z0:=Tryz.sizeOf0,
 v0:=Tryz.zeroValue0,
 t3:=Tryz.underlying3,
 a3:=Tryz.isAgg3,
 z3:=Tryz.sizeOf3,
 v3:=Tryz.zeroValue3,
 t4:=Tryz.underlying4,
 a4:=Tryz.isAgg4,
 z4:=Tryz.sizeOf4,
 v4:=Tryz.zeroValue4,
 t5:=Tryz.underlying5,
 a5:=Tryz.isAgg5,
 z5:=Tryz.sizeOf5,
 v5:=Tryz.zeroValue5,
 t9:=Tryz.underlying9,
 a9:=Tryz.isAgg9,
 z9:=Tryz.sizeOf9,
 v9:=Tryz.zeroValue9,
 t22:=Tryz.underlying319,
 a22:=Tryz.isAgg319,
 z22:=Tryz.sizeOf319,
 v22:=Tryz.zeroValue319,
 t25:=Tryz.underlying318,
 a25:=Tryz.isAgg318,
 z25:=Tryz.sizeOf318,
 v25:=Tryz.zeroValue318,
 t39:=Tryz.underlying289,
 a39:=Tryz.isAgg289,
 z39:=Tryz.sizeOf289,
 v39:=Tryz.zeroValue289,
 t45:=Tryz.underlying333,
 a45:=Tryz.isAgg333,
 z45:=Tryz.sizeOf333,
 v45:=Tryz.zeroValue333,
 t46:=Tryz.underlying334,
 a46:=Tryz.isAgg334,
 z46:=Tryz.sizeOf334,
 v46:=Tryz.zeroValue334,
 t50:=Tryz.underlying111,
 a50:=Tryz.isAgg111,
 z50:=Tryz.sizeOf111,
 v50:=Tryz.zeroValue111,
 t53:=Tryz.underlying340,
 a53:=Tryz.isAgg340,
 z53:=Tryz.sizeOf340,
 v53:=Tryz.zeroValue340,
 t55:=Tryz.underlying94,
 a55:=Tryz.isAgg94,
 z55:=Tryz.sizeOf94,
 v55:=Tryz.zeroValue94,
 t66:=Tryz.underlying349,
 a66:=Tryz.isAgg349,
 z66:=Tryz.sizeOf349,
 v66:=Tryz.zeroValue349,
 t70:=Tryz.underlying353,
 a70:=Tryz.isAgg353,
 z70:=Tryz.sizeOf353,
 v70:=Tryz.zeroValue353,
 t76:=Tryz.underlying373,
 a76:=Tryz.isAgg373,
 z76:=Tryz.sizeOf373,
 v76:=Tryz.zeroValue373,
 t77:=Tryz.underlying374,
 a77:=Tryz.isAgg374,
 z77:=Tryz.sizeOf374,
 v77:=Tryz.zeroValue374}
def Tryz.vz:Go.Shelf.Ren:=⟨λ|6=>159|15=>206|14=>205|28=>238|29=>239|20=>230|21=>231|22=>232|23=>233|24=>234|25=>235|26=>236|27=>237|46=>251|47=>252|48=>253|49=>254|50=>255|57=>274|n=>n,λ|22=>250|24=>255|25=>265|3=>3|39=>289|0=>0|53=>340|55=>94|4=>4|46=>334|45=>333|50=>111|5=>5|9=>9|66=>349|70=>353|76=>373|77=>374|n=>n,λ|n=>n⟩
theorem Tryz.JO:Go.Proofs.SlLaysF0.n6 Tryz.prog Tryz.vz:={
 mixed:=Ψ,
 f6:=⟨Tryz.f159.name,Φ,Tryz.func159.trans (congrArg σ Ψ)⟩,
 f14:=⟨Tryz.f205.name,Φ,Tryz.func205.trans (congrArg σ Ψ)⟩,
 f15:=Tryz.func206.trans (congrArg σ Ψ),
 f20:=⟨Tryz.f230.name,Φ,Tryz.func230.trans (congrArg σ Ψ)⟩,
 f21:=⟨Tryz.f231.name,Φ,Tryz.func231.trans (congrArg σ Ψ)⟩,
 f22:=⟨Tryz.f232.name,Φ,Tryz.func232.trans (congrArg σ Ψ)⟩,
 f23:=⟨Tryz.f233.name,Φ,Tryz.func233.trans (congrArg σ Ψ)⟩,
 f24:=⟨Tryz.f234.name,Φ,Tryz.func234.trans (congrArg σ Ψ)⟩,
 f25:=⟨Tryz.f235.name,Φ,Tryz.func235.trans (congrArg σ Ψ)⟩,
 f26:=⟨Tryz.f236.name,Φ,Tryz.func236.trans (congrArg σ Ψ)⟩,
 f27:=⟨Tryz.f237.name,Φ,Tryz.func237.trans (congrArg σ Ψ)⟩,
 f28:=Tryz.func238.trans (congrArg σ Ψ),
 f29:=Tryz.func239.trans (congrArg σ Ψ),
 f46:=⟨Tryz.f251.name,Φ,Tryz.func251.trans (congrArg σ Ψ)⟩,
 f47:=Tryz.func252.trans (congrArg σ Ψ),
 f48:=Tryz.func253.trans (congrArg σ Ψ),
 f49:=⟨Tryz.f254.name,Φ,Tryz.func254.trans (congrArg σ Ψ)⟩,
 f50:=⟨Tryz.f255.name,Φ,Tryz.func255.trans (congrArg σ Ψ)⟩,
 f57:=⟨Tryz.f274.name,Φ,Tryz.func274.trans (congrArg σ Ψ)⟩,
 t0:=Tryz.underlying0,
 a0:=Tryz.isAgg0,
 z0:=Tryz.sizeOf0,
 v0:=Tryz.zeroValue0,
 t3:=Tryz.underlying3,
 a3:=Tryz.isAgg3,
 z3:=Tryz.sizeOf3,
 v3:=Tryz.zeroValue3,
 t4:=Tryz.underlying4,
 a4:=Tryz.isAgg4,
 z4:=Tryz.sizeOf4,
 v4:=Tryz.zeroValue4,
 t5:=Tryz.underlying5,
 a5:=Tryz.isAgg5,
 z5:=Tryz.sizeOf5,
 v5:=Tryz.zeroValue5,
 t9:=Tryz.underlying9,
 a9:=Tryz.isAgg9,
 z9:=Tryz.sizeOf9,
 v9:=Tryz.zeroValue9,
 t22:=Tryz.underlying250,
 a22:=Tryz.isAgg250,
 z22:=Tryz.sizeOf250,
 v22:=Tryz.zeroValue250,
 t25:=Tryz.underlying265,
 a25:=Tryz.isAgg265,
 z25:=Tryz.sizeOf265,
 v25:=Tryz.zeroValue265,
 t39:=Tryz.underlying289,
 a39:=Tryz.isAgg289,
 z39:=Tryz.sizeOf289,
 v39:=Tryz.zeroValue289,
 t45:=Tryz.underlying333,
 a45:=Tryz.isAgg333,
 z45:=Tryz.sizeOf333,
 v45:=Tryz.zeroValue333,
 t46:=Tryz.underlying334,
 a46:=Tryz.isAgg334,
 z46:=Tryz.sizeOf334,
 v46:=Tryz.zeroValue334,
 t50:=Tryz.underlying111,
 a50:=Tryz.isAgg111,
 z50:=Tryz.sizeOf111,
 v50:=Tryz.zeroValue111,
 t53:=Tryz.underlying340,
 a53:=Tryz.isAgg340,
 z53:=Tryz.sizeOf340,
 v53:=Tryz.zeroValue340,
 t55:=Tryz.underlying94,
 a55:=Tryz.isAgg94,
 z55:=Tryz.sizeOf94,
 v55:=Tryz.zeroValue94,
 t66:=Tryz.underlying349,
 a66:=Tryz.isAgg349,
 z66:=Tryz.sizeOf349,
 v66:=Tryz.zeroValue349,
 t70:=Tryz.underlying353,
 a70:=Tryz.isAgg353,
 z70:=Tryz.sizeOf353,
 v70:=Tryz.zeroValue353,
 t76:=Tryz.underlying373,
 a76:=Tryz.isAgg373,
 z76:=Tryz.sizeOf373,
 v76:=Tryz.zeroValue373,
 t77:=Tryz.underlying374,
 a77:=Tryz.isAgg374,
 z77:=Tryz.sizeOf374,
 v77:=Tryz.zeroValue374}
theorem Tryz.JP (w:x3):(isAgg (Tryz.vy.t 24)).run Tryz.prog w= .ok true w:=Tryz.isAgg295 w
theorem Tryz.JQ (w:x3):(Go.sizeOf (Tryz.vy.t 24)).run Tryz.prog w= .ok 6 w:=Tryz.sizeOf295 w
theorem Tryz.JR:Tryz.prog.funcs[213]? =σ Tryz.f213:=Tryz.func213
theorem Tryz.JS (w:x3):(isAgg (Tryz.vz.t 24)).run Tryz.prog w= .ok true w:=Tryz.isAgg255 w
theorem Tryz.JT (w:x3):(Go.sizeOf (Tryz.vz.t 24)).run Tryz.prog w= .ok 2 w:=Tryz.sizeOf255 w
theorem Tryz.JU:Tryz.prog.funcs[160]? =σ Tryz.f160:=Tryz.func160
end Go.Proofs
namespace Go.Proofs.YtjjhhcfgfdepdaaGreatDoor
open Go Go.Vc Go.RowKit Go.Proofs Go.Proofs.Tryz
set_option maxRecDepth 100000
def sd {α:Type} (f:α->Int) (L:List α) (a i:Nat):Prop:=∀ (p q:Nat) (x y:α),a<=p->p<q->q<i->L[p]? =σ x->L[q]? =σ y->f x<=f y
def oI (L:List (Λ)):Prop:=∀ks∈L,kO ks
theorem oI.perm {L M:List (Λ)} (h:oI L) (I:M.Perm L):oI M:=λks hk=>h ks (I.mem_iff.1 hk)
theorem JV {g:Nat} {L:List (Λ)} {i:Nat} (I:y=(i:Int)) (h:ni w g v L) (hi:L[i]? =σ ks):
  U x7 (j5 iO v (Δ y)) w (λp=>U x7 (u5 cw p) w K)=K (dU ks):=by
 have J:ks.length=6:=by have:=h.2 ks (x5 hi);simpa using this
 rw[dq I iO.u cw.i h (x4.1 hi).1,nh J (h.range hi)]
abbrev Bd:x1:=.func (.func y3) #[] #[]
theorem se {P:W0} {k:o4} {s:ByteArray} {i:Nat} (I:P.underlying t=σ .string) (hi:i<s.size):
  U P (Instr.index t (.string s) (.int k (i:Int))) w K=K (.int .u8 (s[i].toNat:Int)):=U.of λw' _=>by
 simp[Instr.index,asIntOf,run_underlying I,hi]
def ea (n:Nat):Nat:=if n=0 then 0 else Nat.log2 n+1
theorem Be (h:n<256):ea n<=8:=by
 unfold ea;by_cases I:n=0
 .rw[if_pos I];omega
 .rw[if_neg I];have J:Nat.log2 n<8:=(Nat.log2_lt I).2 Ω;omega
theorem JW {g:Nat} {L:List (Λ)} (h:ni w g v L) (U:oI L) (V:L.length<65536):
  aj x7 Hw [v,Bd] w λ_ w'=>ae (λr=>leadsTo v r) w w'/\ ∃M,M.Perm L/\sd fU M 0 M.length/\ni w' g v M:=by
 refine (Bc JN (G:=kO) (num:=fU) (cf:=hY) (cap:=#[]) JP JQ (λa _=>A6) (λa I=>by simp[I.1]) (λa b I J=>(A7 a b (by rw[I.1,J.1]) I.2 J.2).1) (Enters.of x7 JR rfl Ψ) h U V λac a b _ I J=>JM I J).mono ?_;rintro _ w' _ ⟨W,M,X,hu,hm⟩;exact⟨W,M,X,λp q x y _ Y _ aa ab=>hu p q x y Y aa ab,hm⟩
end Go.Proofs.YtjjhhcfgfdepdaaGreatDoor
namespace Go.Vc
open Go Go.RowKit
set_option maxRecDepth 100000
theorem Keys.str {P:W0} {k:r9} (hk:P.underlying k=σ .string):Keys P k λv=>∃s,v= .string s:=by
 have key:∀s,MapKept.IsKey .string (.string s):=λs=>trivial;refine⟨λw J v ⟨n,h⟩=>?_,λw x ⟨n,h⟩ U V=>?_,λw v ⟨n,h⟩=>?_⟩
 .subst h;exact MapKept.run_checkKey hk (key n) J 9999
 .subst h;rcases MapKept.findNow_spec (key n) U 0 (λe he=>by obtain⟨m,h⟩:=V e he;rw[h];exact key m) with⟨h1,I⟩|⟨j,e,h1,I,W⟩
  .exact .inl ⟨MapKept.run_findKey hk h1,I⟩
  .exact .inr ⟨j,e,by have:=MapKept.run_findKey (P:=P) (w:=w) hk h1;simpa using this,I,W⟩
 .subst h;exact MapKept.run_keyThatStays (d:=.string) (key n)
section
variable {P:W0} {w:x3}
theorem nj {s:Sem x1} (h:∀K:x1->Prop,U P s w K=K v):ct P s v w:=by
 have h1:U P s w (λu=>u=v):=(h λu=>u=v).mpr rfl;obtain⟨u,hu,rfl⟩:=h1;exact hu
variable {k e:r9} {G:x1->Prop}
end
end Go.Vc
namespace Go.Proofs.YtjjhhcfgfdepdaaGreatDoor
open Go Go.Vc Go.RowKit Go.Proofs Go.Proofs.Tryz
set_option maxRecDepth 100000
def gm:Nat->Nat->Λ
 |0,_=>[]
 |n+1,u=>gm n (u / 10)++[48+((u % 10:Nat):Int)]
theorem pW:∀ (n u:Nat),(gm n u).length=n
 |0,_=>rfl
 |n+1,u=>by rw[gm,o5,pW n];rfl
theorem JX (n u:Nat):gm (n+2) u=gm n (u / 100)++[48+((u / 10 % 10:Nat):Int),48+((u % 10:Nat):Int)]:=by
 rw[gm,gm,U8];rw[show u / 10 / 10=u / 100 by omega];rfl
theorem Bf:∀ (n u:Nat),10 ^ n<=u->u<10 ^ (n+1)->gm (n+1) u=e8 u
 |0,u,h1,I=>by
  rw[na,if_pos (by simpa using I)];simp[gm]
 |n+1,u,h1,I=>by
  have J:(10:Nat) ^ (n+1)=10*10 ^ n:=by rw[Nat.pow_succ,Nat.mul_comm]
  have U:(10:Nat) ^ (n+1+1)=10*10 ^ (n+1):=by rw[Nat.pow_succ,Nat.mul_comm]
  have V:1<=10 ^ n:=Nat.one_le_iff_ne_zero.2 Ξ;rw[na,if_neg Ω,gm,Bf n (u / 10) Ω Ω]
def fV (I C:Λ) (nd u:Nat):Prop:=nd<=I.length/\C.length=I.length/\ ∃t,C.drop nd=t/\I=gm nd u++t
theorem fV.two {I:Λ} {nd u:Nat} (h:fV I C (nd+2) u):fV I ((C.set (nd+1) (48+((u % 10:Nat):Int))).set nd (48+((u / 10 % 10:Nat):Int))) nd (u / 100):=by
 obtain⟨h1,J,t,U,V⟩:=h;refine⟨Ω,by simp[J],_,rfl,?_⟩;rw[V,JX,U8];congr 1;rw[List.drop_set,if_neg Ω,List.drop_set,if_neg Ω,<-U];have W:nd<C.length:=Ω
 have X:nd+1<C.length:=Ω
 rw[X7 W,X7 X,V7,S5];rfl
theorem fV.one {I:Λ} {u:Nat} (h:fV I C 1 u):C.set 0 (48+((u % 10:Nat):Int))=I:=by
 obtain⟨h1,J,t,U,V⟩:=h;rw[V,gm,gm,List.nil_append,<-U];cases C with
 |nil=>simp at J;omega
 |cons c C=>simp
theorem fV.zero {I:Λ} {u:Nat} (h:fV I C 0 u):C=I:=by
 obtain⟨h1,V,t,J,U⟩:=h;rw[U,gm,List.nil_append,<-J,List.drop_zero]
def jt:ByteArray:=⟨#[48,48,48,49,48,50,48,51,48,52,48,53,48,54,48,55,48,56,48,57,49,48,49,49,49,50,49,51,49,52,49,53,49,54,49,55,49,56,49,57,50,48,50,49,50,50,50,51,50,52,50,53,50,54,50,55,50,56,50,57,51,48,51,49,51,50,51,51,51,52,51,53,51,54,51,55,51,56,51,57,52,48,52,49,52,50,52,51,52,52,52,53,52,54,52,55,52,56,52,57,53,48,53,49,53,50,53,51,53,52,53,53,53,54,53,55,53,56,53,57,54,48,54,49,54,50,54,51,54,52,54,53,54,54,54,55,54,56,54,57,55,48,55,49,55,50,55,51,55,52,55,53,55,54,55,55,55,56,55,57,56,48,56,49,56,50,56,51,56,52,56,53,56,54,56,55,56,56,56,57,57,48,57,49,57,50,57,51,57,52,57,53,57,54,57,55,57,56,57,57]⟩
theorem Bg:jt.size=200:=by decide+kernel
theorem JY:∀q:Fin 100,jt.data.toList[2*q.val]? =σ (UInt8.ofNat (48+q.val / 10))/\jt.data.toList[2*q.val+1]? =σ (UInt8.ofNat (48+q.val % 10)):=by decide+kernel
theorem vA {q:Nat} (J:q<100):(∀h,(jt[2*q]'h).toNat=48+q / 10)/\ ∀h,(jt[2*q+1]'h).toNat=48+q % 10:=by
 obtain⟨h1,U⟩:=JY ⟨q,J⟩;refine⟨λh=>?_,λh=>?_⟩
 .have I:=(x4.1 h1).2;have:jt[2*q]=UInt8.ofNat (48+q / 10):=I;rw[this,UInt8.toNat_ofNat'];omega
 .have I:=(x4.1 U).2;have:jt[2*q+1]=UInt8.ofNat (48+q % 10):=I;rw[this,UInt8.toNat_ofNat'];omega
theorem wrap_u32 {x:Int} (h1:0<=x) (I:x<4294967296):o4.u32.wrap x=x:=by
 simp[o4.wrap,o4.bits,o4.signed];omega
def ju (w:x3) (g o:Nat) (I C J:Λ):Prop:=ac w g lY (ints .u8 (I++C++J))/\I.length=o
theorem vB {g o c i:Nat} {I:o4} (J:y=(i:Int)) (hi:i<n):
  U x7 (j5 cH (.slice (σ ⟨g,o,ν⟩) n c) (.int I y)) w K=K (.pointer (σ ⟨g,o+i,ν⟩)):=by
 subst J;rw[fm cH.u cE.i hi (λ_=>rfl),U6]
theorem vC {g o i:Nat} {x:Int} {J U:Λ} {K:Unit->x3->Prop} (V:ju w g o J C U) (hi:i<C.length)
  (X:∀w',ae (λr=>r=g) w w'->ju w' g o J (C.set i x) U->K () w'):ax x7 (o7 cE (.pointer (σ ⟨g,o+i,ν⟩)) (.int .u8 x)) w K:=by
 obtain⟨V,rfl⟩:=V;refine bz (g:=g) (o:=J.length+i) cE.i rfl rfl V Θ λw' Y I W=>X w' Y ⟨?_,rfl⟩;have e:(ints .u8 (J++C++U)).set (J.length+i) (.int .u8 x)=ints .u8 (J++C.set i x++U):=by
  unfold ints;rw[<-U1,U8,U9 _ _ Ω,S5,List.set_append_left _ _ hi,U8]
 rw[e] at W;exact W
theorem nk {g o c nd q i:Nat} {ad W t:Int} {X Y:Λ} {K:x3->Prop} (af:ju w g o X C Y) (aD:C.length=n) (aF:n<=1000) (aG:nd<=n) (h1:(nd:Int)-ad=((i+1:Nat):Int)) (ak:(nd:Int)-W=(i:Int)) (al:i+1<n) (am:t=((2*q:Nat):Int)) (ab:q<100)
  (an:∀w',ae (λr=>r=g) w w'->ju w' g o X ((C.set (i+1) (48+((q % 10:Nat):Int))).set i (48+((q / 10:Nat):Int))) Y->K w'):
  eh w λV=>
  U x7 (aE .sub ag false true (Δ (nd:Int)) (Δ ad)) V λao=>
  U x7 (aE .sub ag false true (Δ (nd:Int)) (Δ W)) V λah=>
  U x7 (aE .add n5 false true (.int .u32 t) (.int .u32 1)) V λap=>
  U x7 (Instr.index cU (.string jt) ap) V λt50=>
  U x7 (Instr.index cU (.string jt) (.int .u32 t)) V λai=>
  U x7 (j5 cH (.slice (σ ⟨g,o,ν⟩) n c) ao) V λt53=>
  ax x7 (o7 cE t53 t50) V λ(_:Unit) J=>
   (Ext V J\/ct x7 (Instr.index cU (.string jt) (.int .u32 t)) ai J/\ct x7 (aE .sub ag false true (Δ (nd:Int)) (Δ W)) ah J/\True)/\
  U x7 (j5 cH (.slice (σ ⟨g,o,ν⟩) n c) ah) J λaq=>
   ax x7 (o7 cE aq ai) J λ(_:Unit) ac=>K ac:=by
 subst am;intro V aj _ _;have au:ae (λr=>r=g) w V:=aj.aa _;have av:ju V g o X C Y:=⟨af.1.ext aj,af.2⟩;rw[dP,wrap_i64 Ω Ω,dP,wrap_i64 Ω Ω,aL,wrap_u32 Ω Ω];rw[show ((2*q:Nat):Int)+1=((2*q+1:Nat):Int) by omega];have I:=Bg;rw[se cU.u (by rw[I];omega),se cU.u (by rw[I];omega)];rw[(vA ab).1,(vA ab).2,vB h1 al];refine vC av Ω λJ aw ay=>⟨.inr ⟨nj λK=>?_,nj λK=>?_,trivial⟩,?_⟩
 .rw[se cU.u (by rw[I];omega),(vA ab).1]
 .rw[dP,wrap_i64 Ω Ω]
 .rw[vB ak Ω];refine vC ay Θ λac az aA=>an ac ((au.trans aw).trans az) ?_;have aB:48+((q % 10:Nat):Int)=((48+q % 10:Nat):Int):=Ω
  have aC:48+((q / 10:Nat):Int)=((48+q / 10:Nat):Int):=Ω
  rw[aB,aC];exact aA
theorem fV.pair {I:Λ} {nd u q:Nat} (h:fV I C (nd+2) u) (J:q=u % 100):fV I ((C.set (nd+1) (48+((q % 10:Nat):Int))).set nd (48+((q / 10:Nat):Int))) nd (u / 100):=by
 have:=h.two;rw[show u % 10=q % 10 by omega,show u / 10 % 10=q / 10 by omega] at this;exact this
theorem nl {k:o4} {a b:Nat} (I:b≠0):U x7 (aE .rem t cx cy (.int k (a:Int)) (.int k (b:Int))) w K=K (.int k ((a % b:Nat):Int)):=by
 rw[n7 Ω,Int.tmod_eq_emod_of_nonneg Ω,Int.natCast_emod]
theorem u32_quo {a b:Nat} (I:b≠0) (J:a<4294967296):U x7 (aE .quo t cx cy (.int .u32 (a:Int)) (.int .u32 (b:Int))) w K=K (.int .u32 ((a / b:Nat):Int)):=by
 have:=Nat.div_le_self a b;rw[pu Ω,Int.tdiv_eq_ediv_of_nonneg Ω,<-Int.natCast_ediv];generalize a / b=m at this ⊢;rw[wrap_u32 Ω Ω]
theorem u64_quo {a b:Nat} (I:b≠0) (J:a<18446744073709551616):U x7 (aE .quo t cx cy (.int .u64 (a:Int)) (.int .u64 (b:Int))) w K=K (.int .u64 ((a / b:Nat):Int)):=by
 have:=Nat.div_le_self a b;rw[pu Ω,Int.tdiv_eq_ediv_of_nonneg Ω,<-Int.natCast_ediv];generalize a / b=m at this ⊢;rw[wrap_u64 Ω Ω]
theorem nn {a b:Nat} (I:a*b<4294967296):U x7 (aE .mul t cx cy (.int .u32 (a:Int)) (.int .u32 (b:Int))) w K=K (.int .u32 ((a*b:Nat):Int)):=by
 have e:(a:Int)*(b:Int)=((a*b:Nat):Int):=Ξ
 rw[gh,e];generalize a*b=m at I ⊢;rw[wrap_u32 Ω Ω]
theorem fV.start {u:Nat} (h:C.length=N):fV (gm N u) C N u:=⟨by rw[pW];omega,by rw[pW,h],[],by rw[List.drop_eq_nil_iff];omega,Ξ⟩
theorem JZ {g o c u:Nat} {ag:Λ} (aJ:ju w g o af C ag) (aK:C.length=N) (aU:N<=19) (hu:u<10 ^ N):
  aj x7 HE [.slice (σ ⟨g,o,ν⟩) N c,.int .u64 (u:Int)] w λv w'=>v= .tuple #[]/\ae (λr=>r=g) w w'/\ju w' g o af (gm N u) ag:=by
 have Y:=pW N u;refine aw func263 ?_;rw[hL cH.u];refine⟨λaM au J=>∃eI nd:Nat,aM= .int .u64 (eI:Int)/\au=Δ (nd:Int)/\eI<10 ^ nd/\nd<=N/\ae (λr=>r=g) w J/\ ∃ah,ju J g o af ah ag/\fV (gm N u) ah nd eI,
  λ_ au _=>(bV au).toNat,⟨u,N,rfl,rfl,hu,p9 _,ae.refl _ _,C,aJ,fV.start aK⟩,?_⟩
 rintro _ _ J ⟨eI,nd,rfl,rfl,ak,aa,ax,ah,ay,ao⟩;have aF:ah.length=N:=by rw[ao.2.1,Y]
 have aV:(10:Nat) ^ nd<=10 ^ 19:=T3 Ω Ω;have aN:eI<18446744073709551616:=Ω
 have aW:(8:Int)=((8:Nat):Int):=rfl;rw[cK,ai];refine⟨λaO=>?_,λaO=>?_⟩
 .obtain⟨m,rfl⟩:∃m,nd=m+8:=⟨nd-8,Ω⟩;have aX:eI % 100000000<100000000:=Nat.mod_lt _ Ω;rw[show V1 .u64 100000000=V1 .u64 ((100000000:Nat):Int) from rfl,nl Ω,e7 fi.u n5.u,wrap_u32 Ω Ω,u64_quo Ω aN];rw[show V1 .u32 10000=V1 .u32 ((10000:Nat):Int) from rfl,show V1 .u32 100=V1 .u32 ((100:Nat):Int) from rfl,show V1 .u32 2=V1 .u32 ((2:Nat):Int) from rfl];rw[u32_quo Ω Ω,nl Ω,u32_quo Ω Ω,nn Ω,nl Ω,nn Ω,u32_quo Ω Ω,nn Ω,nl Ω,nn Ω];refine nk (i:=m+6) (q:=eI % 100000000 % 10000 % 100) ay aF Ω aa Ω Ω Ω Ω Ω λV ab ac=>?_;have U:=ao.pair (q:=eI % 100000000 % 10000 % 100) Ω;have al:=U.2.1.trans Y;refine nk (i:=m+4) (q:=eI % 100000000 % 10000 / 100) ac al Ω aa Ω Ω Ω Ω Ω λad X W=>?_;have I:=fV.pair (nd:=m+4) (q:=eI % 100000000 % 10000 / 100) U Ω;have aG:=I.2.1.trans Y;refine nk (i:=m+2) (q:=eI % 100000000 / 10000 % 100) W aG Ω aa Ω Ω Ω Ω Ω λaP az ap=>?_;have aH:=fV.pair (nd:=m+2) (q:=eI % 100000000 / 10000 % 100) I Ω;have aQ:=aH.2.1.trans Y;refine nk (i:=m) (q:=eI % 100000000 / 10000 / 100) ap aQ Ω aa Ω Ω Ω Ω Ω λaY aR aS=>?_;have aI:=fV.pair (nd:=m) (q:=eI % 100000000 / 10000 / 100) aH Ω;rw[dP,wrap_i64 Ω Ω];refine⟨⟨eI / 100000000,m,rfl,by congr 1;omega,?_,Ω,(((ax.trans ab).trans X).trans az).trans aR,_,aS,?_⟩,by simp only[bV];omega⟩
  .rw[Nat.pow_add] at ak;exact Nat.div_lt_of_lt_mul (by rw[Nat.mul_comm];exact ak)
  .rw[show eI / 100 / 100 / 100 / 100=eI / 100000000 by omega] at aI;exact aI
 .have aZ:nd<8:=Ω
  have a1:(10:Nat) ^ nd<=10 ^ 7:=T3 Ω Ω;rw[e7 fi.u n5.u,wrap_u32 Ω Ω];refine iM (λa b V=>∃eJ m:Nat,a=Δ (m:Int)/\b= .int .u32 (eJ:Int)/\eJ<10 ^ m/\m<4/\m<=N/\ae (λr=>r=g) w V/\ ∃aq,ju V g o af aq ag/\fV (gm N u) aq m eJ) ?_ ?_
  rotate_left
  .intro av am;rw[cK,ai];refine⟨λaA=>?_,λaA=>am _ _ _ ⟨eI,nd,rfl,rfl,ak,Ω,aa,ax,ah,ay,ao⟩⟩;obtain⟨m,rfl⟩:∃m,nd=m+4:=⟨nd-4,Ω⟩;rw[show V1 .u32 10000=V1 .u32 ((10000:Nat):Int) from rfl,show V1 .u32 100=V1 .u32 ((100:Nat):Int) from rfl,show V1 .u32 2=V1 .u32 ((2:Nat):Int) from rfl];rw[nl Ω,u32_quo Ω Ω,u32_quo Ω Ω,nn Ω,nl Ω,nn Ω];refine nk (i:=m+2) (q:=eI % 10000 % 100) ay aF Ω aa Ω Ω Ω Ω Ω λV ab ac=>?_;have U:=ao.pair (q:=eI % 10000 % 100) Ω;have al:=U.2.1.trans Y;refine nk (i:=m) (q:=eI % 10000 / 100) ac al Ω aa Ω Ω Ω Ω Ω λad X W=>?_;have I:=fV.pair (nd:=m) (q:=eI % 10000 / 100) U Ω;rw[dP,wrap_i64 Ω Ω];refine am _ _ _ ⟨eI / 10000,m,by congr 1;omega,rfl,?_,Ω,Ω,(ax.trans ab).trans X,_,W,?_⟩
   .rw[Nat.pow_add] at ak;exact Nat.div_lt_of_lt_mul (by rw[Nat.mul_comm];exact ak)
   .rw[show eI / 100 / 100=eI / 10000 by omega] at I;exact I
  rintro _ _ V ⟨eJ,m,rfl,rfl,aB,a2,aC,ab,aq,ac,U⟩;have al:=U.2.1.trans Y;have a6:(10:Nat) ^ m<=10 ^ 3:=T3 Ω Ω;refine iM (λa b ad=>∃an m:Nat,a=Δ (m:Int)/\b= .int .u32 (an:Int)/\an<10 ^ m/\m<2/\m<=N/\ae (λr=>r=g) w ad/\ ∃aD,ju ad g o af aD ag/\fV (gm N u) aD m an) ?_ ?_
  rotate_left
  .intro av am;rw[cK,ai];refine⟨λaA=>?_,λaA=>am _ _ _ ⟨eJ,m,rfl,rfl,aB,Ω,aC,ab,aq,ac,U⟩⟩;obtain⟨m,rfl⟩:∃ch,m=ch+2:=⟨m-2,Ω⟩;rw[show V1 .u32 100=V1 .u32 ((100:Nat):Int) from rfl,show V1 .u32 2=V1 .u32 ((2:Nat):Int) from rfl];rw[nl Ω,nn Ω,u32_quo Ω Ω];refine nk (i:=m) (q:=eJ % 100) ac al Ω aC Ω Ω Ω Ω Ω λad X W=>?_;have I:=U.pair (q:=eJ % 100) rfl;rw[dP,wrap_i64 Ω Ω];refine am _ _ _ ⟨eJ / 100,m,by congr 1;omega,rfl,?_,Ω,Ω,ab.trans X,_,W,I⟩;rw[Nat.pow_add] at aB;exact Nat.div_lt_of_lt_mul (by rw[Nat.mul_comm];exact aB)
  rintro _ _ ad ⟨an,m,rfl,rfl,aE,a7,aC,X,aD,W,I⟩;have aG:=I.2.1.trans Y;rw[bM,ai];refine⟨λaT=>?_,λaT=>?_⟩
  .obtain rfl:m=1:=Ω
   have aE:an<10:=by simpa using aE
   rw[aL,wrap_u32 Ω Ω,e7 n5.u cE.u,wrap_u8 Ω Ω,vB (y:=0) (i:=0) rfl Ω];refine vC W Ω λaP az ap=>?_;have:=I.one;rw[Nat.mod_eq_of_lt aE] at this;rw[this] at ap;exact⟨rfl,X.trans az,ap⟩
  .obtain rfl:m=0:=Ω
   rw[I.zero] at W;exact⟨rfl,X,W⟩
def j7:Λ:=[1,10,100,1000,10000,100000,1000000,10000000,100000000,1000000000,10000000000,100000000000,1000000000000,10000000000000,100000000000000,1000000000000000,10000000000000000,100000000000000000,1000000000000000000,10000000000000000000]
def dA (w:x3):Prop:=w.rangeAt 1 0 (ints .u64 j7)
theorem dA.ext (h:dA w) (I:Ext w w'):dA w':=mU I h
theorem J0:∀k:Nat,k<20->j7[k]? =σ (((10 ^ k:Nat)):Int):=Φ
theorem Bh {s:Nat} (h:2 ^ s<=n):ea n=s+ea (n / 2 ^ s):=by
 have I:=Nat.two_pow_pos s;have h1:n / 2 ^ s≠0:=by have:=Nat.div_pos h I;omega
 have J:n≠0:=Ω
 unfold ea;rw[if_neg J,if_neg h1];have e:Nat.log2 n=Nat.log2 (n / 2 ^ s)+s:=by
  refine (Nat.log2_eq_iff J).2 ⟨?_,?_⟩
  .rw[Nat.pow_add];have:=X5 (2 ^ s) (Nat.log2_self_le h1);have:=Nat.div_mul_le_self n (2 ^ s);omega
  .have U:=Nat.lt_log2_self (n:=n / 2 ^ s);rw[show Nat.log2 (n / 2 ^ s)+s+1=(Nat.log2 (n / 2 ^ s)+1)+s by omega,Nat.pow_add];have:=X5 (2 ^ s) (show n / 2 ^ s+1<=2 ^ (Nat.log2 (n / 2 ^ s)+1) by omega);have V:=Nat.lt_div_mul_add I (a:=n);rw[V8] at this;omega
 omega
def pX:ByteArray:=⟨#[0,1,2,2,3,3,3,3,4,4,4,4,4,4,4,4,5,5,5,5,5,5,5,5,5,5,5,5,5,5,5,5,6,6,6,6,6,6,6,6,6,6,6,6,6,6,6,6,6,6,6,6,6,6,6,6,6,6,6,6,6,6,6,6,7,7,7,7,7,7,7,7,7,7,7,7,7,7,7,7,7,7,7,7,7,7,7,7,7,7,7,7,7,7,7,7,7,7,7,7,7,7,7,7,7,7,7,7,7,7,7,7,7,7,7,7,7,7,7,7,7,7,7,7,7,7,7,7,8,8,8,8,8,8,8,8,8,8,8,8,8,8,8,8,8,8,8,8,8,8,8,8,8,8,8,8,8,8,8,8,8,8,8,8,8,8,8,8,8,8,8,8,8,8,8,8,8,8,8,8,8,8,8,8,8,8,8,8,8,8,8,8,8,8,8,8,8,8,8,8,8,8,8,8,8,8,8,8,8,8,8,8,8,8,8,8,8,8,8,8,8,8,8,8,8,8,8,8,8,8,8,8,8,8,8,8,8,8,8,8,8,8,8,8,8,8,8,8,8,8,8,8,8,8,8,8]⟩
theorem J1:pX.size=256:=by decide+kernel
theorem J2:∀q:Fin 256,pX.data.toList[q.val]? =σ (UInt8.ofNat (ea q.val)):=by decide+kernel
theorem J3 {q:Nat} (I:q<256):∀h,(pX[q]'h).toNat=ea q:=λh=>by
 have h1:=J2 ⟨q,I⟩;have J:=(x4.1 h1).2;have:pX[q]=UInt8.ofNat (ea q):=J;have U:=Be I;rw[this,UInt8.toNat_ofNat'];omega
theorem J4 (ak:n<18446744073709551616):aj x7 Hr [.int .u64 (n:Int)] w λv w'=>v=Δ (ea n:Int)/\Ext w w':=by
 refine aw func239 ?_;have step:∀ {s x m:Nat} {av:x1->x1->x3->Prop} {y c:Int},s<64->x<18446744073709551616->m+ea x=ea n->m<=64->y=(2 ^ s:Nat)->c=(s:Int)->2 ^ s<=18446744073709551615->(∀V ch:Nat,V<2 ^ s\/(V=x / 2 ^ s/\ch=m+s)->V<=x->ch+ea V=ea n->ch<=m+s->av (.int .u64 (V:Int)) (Δ (ch:Int)) w)->
   U x7 (aE .geq fi false true (.int .u64 (x:Int)) (.int .u64 y)) w λt4=>
    Split t4 (U x7 (aE .shr fi false true (.int .u64 (x:Int)) (.int .u64 c)) w λac=>U x7 (aE .add ag false true (Δ (m:Int)) (Δ c)) w λad=>av ac ad w) (av (.int .u64 (x:Int)) (Δ (m:Int)) w):=by
  intro s x m av y c I X hm al ae af aa W;subst ae af;rw[cK,ai];refine⟨λh=>?_,λh=>W x m (.inl Ω) (p9 _) hm Ω⟩;rw[kL I,aL,wrap_i64 Ω Ω];have:=Bh (n:=x) (s:=s) Ω;have:=W (x / 2 ^ s) (m+s) (.inr ⟨rfl,rfl⟩) (Nat.div_le_self _ _) Ω Ω;exact this
 refine iM (λx m J=>w=J/\ ∃V ch:Nat,x= .int .u64 (V:Int)/\m=Δ (ch:Int)/\V<4294967296/\ch+ea V=ea n/\ch<=32) ?_ ?_
 rotate_left
 .intro av W;rw[cK,ai];refine⟨λh=>?_,λh=>W _ _ _ ⟨rfl,n,0,rfl,rfl,Ω,Ω,Ω⟩⟩;rw[show V1 .u64 32=V1 .u64 ((32:Nat):Int) from rfl,kL Ω];have:=Bh (n:=n) (s:=32) Ω;exact W _ _ _ ⟨rfl,n / 2 ^ 32,32,rfl,rfl,Ω,Ω,Ω⟩
 rintro _ _ _ ⟨rfl,x,m,rfl,rfl,X,hm,ab⟩;refine iM (λx m J=>w=J/\ ∃V ch:Nat,x= .int .u64 (V:Int)/\m=Δ (ch:Int)/\V<65536/\ch+ea V=ea n/\ch<=48) ?_ ?_
 rotate_left
 .intro av W;refine step (s:=16) Ω Ω hm Ω Ω Ω Ω λV ch h1 aa Y ah=>W _ _ _ ⟨rfl,V,ch,rfl,rfl,?_,Y,Ω⟩;rcases h1 with h1|⟨h1,_⟩<;>omega
 rintro _ _ _ ⟨rfl,x,m,rfl,rfl,X,hm,ab⟩;refine iM (λx m J=>w=J/\ ∃V ch:Nat,x= .int .u64 (V:Int)/\m=Δ (ch:Int)/\V<256/\ch+ea V=ea n/\ch<=56) ?_ ?_
 rotate_left
 .intro av W;refine step (s:=8) Ω Ω hm Ω Ω Ω Ω λV ch h1 aa Y ah=>W _ _ _ ⟨rfl,V,ch,rfl,rfl,?_,Y,Ω⟩;rcases h1 with h1|⟨h1,_⟩<;>omega
 rintro _ _ _ ⟨rfl,x,m,rfl,rfl,X,hm,ab⟩;have I:=J1;have am:=Be X;rw[e7 fi.u cE.u,wrap_u8 Ω Ω];refine (se (s:=pX) cU.u (by rw[I];omega)).mpr ?_;rw[J3 X,e7 cE.u ag.u,wrap_i64 Ω Ω,aL,wrap_i64 Ω Ω];exact⟨by congr 1;omega,Ext.refl _⟩
theorem Bi {k:o4} {a:Nat} (I:n<64):U x7 (aE .shr t cx cy (Δ (a:Int)) (.int k (n:Int))) w K=K (Δ ((a / 2 ^ n:Nat):Int)):=U.of λw' _=>by
 have e:(a:Int).fdiv (2 ^ min n Y9.bits)=((a / 2 ^ n:Nat):Int):=by
  have:min n Y9.bits=n:=Nat.min_eq_left (by show n<=64;omega);rw[this,Int.fdiv_eq_ediv_of_nonneg _ (by exact Int.le_of_lt (Int.pow_pos Ω))];simp
 simp only[aE,eqGuard,binOp,Op.shift,u9,e];rfl
theorem J5:∀L:Fin 64,7<=L.val->2 ^ L.val<=10 ^ (L.val*78913 / 262144+1)/\10 ^ (L.val*78913 / 262144)<=10*2 ^ (L.val-1)/\1<=L.val*78913 / 262144/\L.val*78913 / 262144<19:=by decide+kernel
theorem J6 {d:Nat} (ad:dA w) (h1:100<=d) (ak:d<9223372036854775808):aj x7 HD [.int .u64 (d:Int)] w λv w'=>Ext w w'/\ ∃n:Nat,v=Δ ((n+1:Nat):Int)/\n<19/\10 ^ n<=d/\d<10 ^ (n+1):=by
 have X:d≠0:=Ω
 have Y:ea d=Nat.log2 d+1:=by unfold ea;rw[if_neg X]
 have al:2 ^ (ea d-1)<=d:=by rw[Y];exact Nat.log2_self_le X
 have am:d<2 ^ ea d:=by rw[Y];exact Nat.lt_log2_self
 have ae:7<=ea d:=by
  by_cases h:7<=ea d
  .exact h
  .have:2 ^ ea d<=2 ^ 6:=T3 Ω Ω;omega
 have af:ea d<64:=by
  by_cases h:ea d<64
  .exact h
  .have:2 ^ 63<=2 ^ (ea d-1):=T3 Ω Ω;omega
 obtain⟨ag,aa,t3,t4⟩:=J5 ⟨ea d,af⟩ ae;simp only at ag aa t3 t4;refine aw func262 ?_;refine (J4 Ω).mono ?_;rintro _ J _ ⟨rfl,I⟩;generalize ea d=L at*;refine aj.mono (K:=λv V=>v=Δ ((L*78913 / 262144:Nat):Int)/\Ext J V) ?_ ?_
 .refine aw func283 ?_;rw[gh,wrap_i64 Ω Ω,show V1 .u64 18=V1 .u64 ((18:Nat):Int) from rfl,show (L:Int)*78913=((L*78913:Nat):Int) by omega,Bi Ω];exact⟨rfl,Ext.refl _⟩
 rintro _ V _ ⟨rfl,U⟩;generalize L*78913 / 262144=t at*;have ah:=J0 t Ω;rw[uG (t:=ry) ry.u fi.i Ω,aA Ψ (by rw[U6];exact ((ad.ext I).ext U) _ _ (kF ah)),cK];refine aj.mono (K:=λv ab=>v=Δ ((if 10 ^ t<=d then 1 else 0:Nat):Int)/\Ext V ab) ?_ ?_
 .refine aw func284 ?_;rw[ai];refine⟨λh=>⟨by rw[if_pos Ω];rfl,Ext.refl _⟩,λh=>⟨by rw[if_neg Ω];rfl,Ext.refl _⟩⟩
 rintro _ ab _ ⟨rfl,ac⟩;rw[aL];by_cases W:10 ^ t<=d
 .rw[if_pos W,wrap_i64 Ω Ω];exact⟨(I.trans U).trans ac,t,by congr 1,t4,W,Ω⟩
 .rw[if_neg W,wrap_i64 Ω Ω];obtain⟨s,rfl⟩:∃s,t=s+1:=⟨t-1,Ω⟩;rw[Nat.pow_succ] at aa;exact⟨(I.trans U).trans ac,s,by congr 1,Ω,Ω,Ω⟩
theorem Bj {k I:o4} {x:Int} {i:Nat} {s:ByteArray} (J:x=(i:Int)) (V:y=(j:Int)) (W:x7.underlying t=σ .string) (X:i<=j) (Y:j<=s.size):
  U x7 (V3 t (.string s) (σ (.int k x)) (σ (.int I y)) ν) w K=K (.string (s.extract i j)):=U.of λw' _=>by
 subst J V;have aa:=rC (P:=x7) w' (sl:=false) (n:=s.size) (c:=s.size) (low:=σ (.int k (i:Int))) (high:=σ (.int I (j:Int))) (mx:=ν) (l:=i) (h:=j) (m:=s.size) ⟨k,rfl⟩ ⟨I,rfl⟩ fO X Y (p9 _);simp[V3,Instr.slice,run_underlying W,aa]
theorem J7:∀q:Fin 100,jt.extract (2*q.val) (2*q.val+2)=strOfNums [48+((q.val / 10:Nat):Int),48+((q.val % 10:Nat):Int)]:=by decide+kernel
def Bk:ByteArray:=⟨#[48,49,50,51,52,53,54,55,56,57,97,98,99,100,101,102,103,104,105,106,107,108,109,110,111,112,113,114,115,116,117,118,119,120,121,122]⟩
theorem J8:∀q:Fin 10,Bk.extract q.val (q.val+1)=strOfNums [48+(q.val:Int)]:=by decide+kernel
theorem Bl (h:n<10):e8 n=[48+(n:Int)]:=by rw[na,if_pos h,Nat.mod_eq_of_lt h];rfl
theorem J9 (h1:10<=n) (I:n<100):e8 n=[48+((n / 10:Nat):Int),48+((n % 10:Nat):Int)]:=by
 rw[na,if_neg Ω,Bl Ω];rfl
theorem Ka (I:n<100):aj x7 HC [Δ (n:Int)] w λv w'=>v=bO (e8 n)/\Ext w w':=by
 refine aw func261 ?_;rw[aP,ai];refine⟨λh=>?_,λh=>?_⟩
 .rw[aL,wrap_i64 Ω Ω];refine (Bj (s:=Bk) (i:=n) (j:=n+1) rfl Ω cU.u Ω (by show n+1<=36;omega)).mpr ?_;rw[J8 ⟨n,Ω⟩,Bl Ω];exact⟨rfl,Ext.refl _⟩
 .rw[gh,wrap_i64 Ω Ω,gh,wrap_i64 Ω Ω,aL,wrap_i64 Ω Ω];refine (Bj (s:=jt) (i:=2*n) (j:=2*n+2) Ω Ω cU.u Ω (by rw[Bg];omega)).mpr ?_;rw[J7 ⟨n,I⟩,J9 Ω I];exact⟨rfl,Ext.refl _⟩
theorem Kb {g:Nat} {U V:Λ} (I:ju w g 1 U C V) (W:C.length<=23):aB .u8 w (.slice (σ ⟨g,1,ν⟩) C.length 23) C:=by
 obtain⟨I,X⟩:=I;refine⟨Ξ,g,1,_,23,rfl,W,by simp[maxLen],λ_=>rfl,λj v J=>?_⟩;have Y:j<C.length:=by have:=(x4.1 J).1;simpa using this
 refine I.cell ?_;rw[ints,c8,c8,Y0 Θ,Y1 Θ,u7,X,S5];exact J
theorem Bm {g:Nat} (I:y=((m+2:Nat):Int)) (hm:m<=22):
  U x7 (V3 lY (Γ g) (σ (Δ 1)) (σ (Δ y)) ν) w K=K (.slice (σ ⟨g,1,ν⟩) (m+1) 23):=by
 subst I;have:=rD (w:=w) (b:=g) (o:=0) (low:=σ (Δ 1)) (high:=σ (Δ ((m+2:Nat):Int))) (mx:=ν) (l:=1) (h:=m+2) (m:=24) (K:=K) lY.u cE.i ⟨_,rfl⟩ ⟨_,rfl⟩ fO Ω Ω Ω;rw[this,if_neg Ω];rfl
theorem Kc (aa:dA w) (ab:n<9223372036854775808):aj x7 Hx [Δ (n:Int),Δ 10] w λv w'=>v=bO (e8 n)/\Ext w w':=by
 refine aw func247 ?_;rw[be];refine (ai).mpr ⟨λ_=>?_,λh=>absurd rfl h⟩;refine aR (λv J=>w=J/\v= .bool (decide (n<100))) ?_ ?_
 rotate_left
 .intro av U;rw[lr,ai];refine⟨λ_=>?_,λh=>Ω⟩;rw[aP];exact U _ _ ⟨rfl,by congr 1;rw[V5,decide_eq_true_eq,decide_eq_true_eq];omega⟩
 rintro _ _ ⟨rfl,rfl⟩;rw[ai];refine⟨λh=>?_,λh=>?_⟩
 .exact (Ka h).mono λ_ _ _ h=>h
 refine bN lY.i λg J ak W ac=>?_;rw[e7 al.u fi.u,wrap_u64 Ω Ω];refine aR (λv V=>J=V/\v= .int .u64 (n:Int)) ?_ ?_
 rotate_left
 .intro av U;rw[aP,ai];exact⟨λh=>Ω,λ_=>U _ _ ⟨rfl,rfl⟩⟩
 rintro _ _ ⟨rfl,rfl⟩;refine (J6 (aa.ext W) Ω ab).mono ?_;rintro _ V _ ⟨X,m,rfl,hm,ad,Y⟩;rw[aL,wrap_i64 Ω Ω];rw[Bm (m:=m) Ω Ω];have ae:ju V g 1 [0] (p8 (m+1) 0) (p8 (22-m) 0):=by
  refine⟨?_,rfl⟩;have e:[0]++p8 (m+1) (0:Int)++p8 (22-m) 0=p8 24 0:=by
   rw[show[(0:Int)]=p8 1 0 from rfl,List.replicate_append_replicate,List.replicate_append_replicate];congr 1;omega
  rw[e];exact ac.ext X
 refine (JZ (N:=m+1) ae Ξ Ω Y).mono ?_;rintro _ am _ ⟨rfl,af,ag⟩;refine b6 Ω ?_;rw[aL,wrap_i64 Ω Ω];rw[Bm (m:=m) Ω Ω];have ah:=pW (m+1) n;have I:=Kb ag Ω;rw[ah] at I;rw[uY cH.u cE.u cU.u I,Bf m n ad Y];refine⟨rfl,(W.trans X).then af λr an he=>?_⟩;have he:r=g:=he;omega
theorem Kd (I:dA w) (J:n<9223372036854775808):aj x7 uw [Δ (n:Int)] w λv w'=>v=bO (e8 n)/\Ext w w':=by
 refine aw func184 ?_;refine aj.mono (K:=λv w'=>v=bO (e8 n)/\Ext w w') ?_ (λ_ _ _ h=>h);refine aw func220 ?_;exact (Kc I J).mono λ_ _ _ h=>h
theorem dA.aa (h:dA w) (I:ae S w w') (J:¬S 1):dA w':=jQ I J h
def c6 (w:x3) (g gs:Nat) (A:ah) (B:ah) (clean:Bool) (s:Option az):Prop:=match s with
 |some s=>c4 w g gs A B s clean
 |none=>eo w g gs A B
theorem fD.of {g:Nat} {A:ah} {B:ah} {s:Option az} (h:fD w g gs A B clean s w'):ae (bw g gs A) w w'/\c6 w' g gs A B clean s:=h
theorem fD.mk {g:Nat} {A:ah} {B:ah} {s:Option az} (h:ae (bw g gs A) w w') (I:c6 w' g gs A B clean s):fD w g gs A B clean s w':=⟨h,I⟩
theorem c6.aa {g:Nat} {A:ah} {B:ah} {s:Option az} (h:c6 w g gs A B clean s) (I:ae S w w') (J:∀r,bw g gs A r->¬S r) (U:∀r,cA g gs A B r->¬S r):c6 w' g gs A B clean s:=by
 cases s with
 |none=>exact eo.aa (g:=g) (gs:=gs) (A:=A) (B:=B) h I J U
 |some s=>exact c4.aa (g:=g) (gs:=gs) (A:=A) (B:=B) (s:=s) (clean:=clean) h I J U
theorem c6.ext {g:Nat} {A:ah} {B:ah} {s:Option az} (h:c6 w g gs A B clean s) (I:Ext w w'):c6 w' g gs A B clean s:=h.aa (I.aa λ_=>False) (λ_ _ h=>h) λ_ _ h=>h
theorem c6.side {g:Nat} {A:ah} {B:ah} {s:Option az} (h:c6 w g gs A B clean s):kN w g gs A B:=by
 cases s with
 |none=>exact h.1
 |some s=>exact h.1
def a7 (lo hi:Int) (s:Option az):Option (Int×az):=s.bind (bc lo hi)
theorem lD {g:Nat} {A:ah} {B:ah} {s:Option az} (h:c6 w g gs A B clean s):aj x7 mQ [Γ g,Δ lo,Δ hi] w λv w'=>fD w g gs A B clean ((a7 lo hi s).map (·.2)) w'/\ ∃n at_:Int,v= .tuple #[Δ n,Δ at_]/\(∀q,a7 lo hi s=σ q->n=q.1)/\(a7 lo hi s=ν->n=0):=by
 cases s with
 |none=>
  refine (Jb h).mono ?_;rintro _ J _ ⟨I,rfl⟩;exact⟨⟨I.aa _,eo.ext (g:=g) (gs:=gs) (A:=A) (B:=B) h I⟩,0,0,rfl,λq h=>(by cases h),λ_=>rfl⟩
 |some s=>exact vn (s:=s) h
theorem oJ {g:Nat} {A:ah} {B:ah} {s:Option az} (h:c6 w g gs A B clean s):aj x7 kz [Γ g] w λv w'=>v= .bool s.isSome/\Ext w w':=by
 cases s with
 |none=>exact ng h
 |some s=>exact oA h
theorem Ke {g:Nat} {A:ah} {B:ah} {s:Option az} {e:Int} (h:c6 w g gs A B clean s) (he:e≠0):aj x7 mR [Γ g,Δ e,Δ at_] w λ_ w'=>fD w g gs A B clean ν w':=by
 cases s with
 |none=>
  refine (I9 h).mono ?_;rintro _ J _ I;exact⟨I.aa _,eo.ext (g:=g) (gs:=gs) (A:=A) (B:=B) h I⟩
 |some s=>
  refine (rY (s:=s) h he).mono ?_;rintro _ J _ ⟨U,V⟩;exact⟨U.mono λr _ h=>.inl h,V⟩
theorem pY {g:Nat} {A:ah} {B:ah} {s:Option az} {b:Bool} (h:c6 w g gs A B clean s):aj x7 pp [Γ g,.bool b,Δ at_] w λ_ w'=>fD w g gs A B clean (s.map (a8 b)) w':=by
 cases s with
 |none=>
  refine (AI h).mono ?_;rintro _ J _ I;exact⟨I.aa _,eo.ext (g:=g) (gs:=gs) (A:=A) (B:=B) h I⟩
 |some s=>
  refine (rZ (s:=s) h).mono ?_;rintro _ J _ ⟨U,V⟩;exact⟨U.mono λr _ h=>.inl h,V⟩
theorem mf {n:Int} {s:Option az} {s':az} (h:a7 lo hi s=σ (n,s')):lo<=n/\n<=hi:=by
 cases s with
 |none=>cases h
 |some s=>exact (hx h).1
def eR (ks acc:Λ) (s:Option az):Option (Λ×az):=s.bind (ik ks acc)
theorem Bn {acc:Λ} {s:Option az}:eR (k::ks) acc s=match a7 0 (k-1) s with
  |none=>ν
  |some (v,s)=>ik ks (acc++[v]) s:=by
 cases s with
 |none=>rfl
 |some s=>
  show ik (k::ks) acc s=_;rw[ik];show _=match bc 0 (k-1) s with|none=>ν|some (v,s)=>ik ks (acc++[v]) s
  cases bc 0 (k-1) s<;>rfl
theorem Bo:∀ (t:Λ),(∀x∈t,0<=x/\x<=ao)->(dT t).length<=20*t.length
 |[],_=>by simp[dT]
 |x::t,h=>by
  have U:=Bo t λy I=>h y (.tail _ I);have J:=h x (.head _);have V:=u1 19 x.toNat (by unfold ao at J;omega) Ω;have e:dT (x::t)=e8 x.toNat++[32]++dT t:=by simp[dT]
  rw[e];simp only[o5,b9,List.length_nil];omega
theorem Kf {g an:Nat} {A B:ah} {s:Option az} {aQ:x1->x3->Prop}
  (h:c6 w g gs A B clean s) (aR:aB .i64 w sv sizes) (bh:∀r,leads sv r->¬bw g gs A r/\r≠an) (bi:∀z∈sizes,1<=z/\z<=ao) (ca:sizes.length<=100001) (bj:dA w) (h1:cA g gs A B 1)
  (aS:ac w an dS [.slice ν 0 0,Δ 0]) (aU:¬bw g gs A an) (aV:¬B an)
  (aW:∀t w' aI gt,t.length=sizes.length->(∀x∈t,0<=x/\x<=ao)->ae (λr=>bw g gs A r\/r=an) w w'->ac w' an dS [aI,Δ 0]->ap .i64 al w' gt aI t->w.heap.size<=gt->
   c6 w' g gs A B clean ((eR sizes [] s).map (·.2))->(∀q,eR sizes [] s=σ q->t=q.1)->aQ (bO (dT t)) w'):
  bU (.string ⟨#[]⟩) (Δ 0) w λkey aJ ab bk=>
   U x7 (aE .lss ag false false aJ (Δ (sizes.length:Int))) ab λbl=>
   Split bl (U x7 (j5 aq sv aJ) ab λbm=>
   U x7 (u5 al bm) ab λbn=>
   U x7 (aE .sub al false true bn (Δ 1)) ab λbo=>
   aj x7 mQ [Γ g,(Δ 0),bo] ab λaX ai=>
   U x7 (Z1 aX 0) ai λaY=>
   U x7 (Z1 aX 1) ai λcb=>
   U x7 (u6 dS (Γ an) 0) ai λbp=>
   U x7 (u5 aq bp) ai λbq=>
   ax x7 (Z9 aq 1 #[(0,aY)]) ai λbr bt=>
   ax x7 (b8 #[aq,aq] aq #[bq,br]) bt λbu aZ=>
   U x7 (u6 dS (Γ an) 0) aZ λbx=>
   ax x7 (o7 aq bx bu) aZ λ(_:Unit) bA=>
   aj x7 uw [aY] bA λbC au=>
   U x7 (aE .add cU false true bC (.string ⟨#[32]⟩)) au λbD=>
   U x7 (aE .add cU false false key bD) au λbE=>
   U x7 (aE .add ag false true aJ (Δ 1)) au λbF=>
   bk bE bF au) (aQ key ab):=by
 have cc:=aS.lt;have bG:=h.side;obtain⟨cd,ce,cg,bH,bI⟩:=bG;refine bU.range sizes.length (λj key J=>∃t aI gt W,key=bO (dT t)/\t.length=j/\(∀x∈t,0<=x/\x<=ao)/\ae (λr=>bw g gs A r\/r=an) w J/\ac J an dS [aI,Δ 0]/\ap .i64 al J gt aI t/\w.heap.size<=gt/\
  c6 J g gs A B clean W/\eR sizes [] s=eR (sizes.drop j) t W) aR.le ⟨[],_,w.heap.size,s,rfl,rfl,λx Y=>(by cases Y),ae.refl _ _,aS,ap.nil _ _ _ _,p9 _,h,rfl⟩ ?_ ?_
 rotate_left
 .rintro _ J bJ ⟨t,aI,gt,W,rfl,av,ak,af,aw,ay,aK,aA,he⟩;refine b6 Ω ?_;rw[List.drop_length] at he;cases W with
  |none=>
   have he:eR sizes [] s=ν:=he;exact aW t J aI gt av ak af aw ay aK (by rw[he];exact aA) (λq I=>by rw[he] at I;cases I)
  |some W=>
   have he:eR sizes [] s=σ (t,W):=he;exact aW t J aI gt av ak af aw ay aK (by rw[he];exact aA) (λq I=>by rw[he] at I;cases I;rfl)
 rintro j _ J bJ a1 ⟨t,aI,gt,W,rfl,av,ak,af,aw,ay,aK,aA,he⟩ bK;obtain⟨z,aM⟩:=aF (l:=sizes) a1;have bL:=bi z (x5 aM);have ch:z<=4611686018427387904:=bL.2;have bM:aB .i64 J sv sizes:=hv aR af λr X a n c bN bP=>by
  have:=bh r ⟨a,n,c,bN,bP⟩;exact X.elim this.1 this.2
 have ad:∀r,bw g gs A r->r<w.heap.size:=bH;refine bB Ω ?_;rw[ba aq.u al.i Ψ bM aM,dP,wrap_i64 Ω Ω];refine (lD aA).mono ?_;rintro _ V _ ⟨bQ,n,at_,rfl,a2,bR⟩;obtain⟨aC,bS⟩:=bQ.of;have a6:0<=n/\n<=ao:=by
  cases I:a7 0 (z-1) W with
  |none=>rw[bR I];exact⟨Ω,by unfold ao;omega⟩
  |some q=>
   rw[a2 q I];have:=mf (s':=q.2) (n:=q.1) I;exact⟨this.1,by unfold ao;omega⟩
 rw[bf,bg];have a8:=aw.aa aC aU;have bT:=ay.aa aC λ_ bV=>by have:=ad _ bV;omega
 rw[aD dS.p 0 a8 rfl];refine en aq.u al.i rfl λa ga bW ci am bX=>?_;refine iQ aq.u al.i rfl (bT.ext am) bX.ls Θ Θ λbb bc bY cj aN aG=>?_;have ck:=af.size;have cl:=aC.size;have z3:=am.size;have z4:=aG.size;rw[aT dS.p rfl];have bZ:=(a8.ext am).aa aG (λhe=>by have he:an=gt:=he;omega);refine bz (g:=an) (o:=0) aq.i aN.ls.cells.1 aN.ls.cells.2 bZ Ξ λbd aO cm aP=>?_;have aP:ac bd an dS [bb,Δ 0]:=aP;have b0:ae (λr=>bw g gs A r\/r=an) w bW:=(af.trans (aC.mono λr _ h=>.inl h)).trans (am.aa _);have b1:ae (λr=>bw g gs A r\/r=an) w bY:=gU b0 aG λr X he=>by have he:r=gt:=he;omega
 have be:ae (λr=>bw g gs A r\/r=an) w bd:=b1.trans (aO.mono λr _ h=>.inr h);have b2:¬(λr=>bw g gs A r\/r=an) 1:=λh=>h.elim h1.1 λh=>aV (h▸h1.2);obtain⟨m,rfl⟩:∃m:Nat,n=(m:Int):=⟨n.toNat,Ω⟩;unfold ao at a6;refine (Kd (bj.aa be b2) Ω).mono ?_;rintro _ cn _ ⟨rfl,aH⟩;have cp:=u1 19 m Ω Ω;have cq:=Bo t ak;rw[show (ByteArray.mk #[32])=strOfNums [32] from rfl,uX Θ,uX Θ,aL];refine bK _ _ ⟨t++[(m:Int)],bb,bc,(a7 0 (z-1) W).map (·.2),?_,by simp[av],λx Y=>?_,be.trans (aH.aa _),aP.ext aH,(aN.aa aO (λ_ he=>by have he:bc=an:=he;omega)).ext aH,Ω,?_,?_⟩
 .rw[It,u9]
 .rcases l7.1 Y with Y|Y
  .exact ak x Y
  .rw[n9.1 Y];exact a6
 .refine c6.ext ?_ aH;have b3:=bS.ext am;have b4:∀r,bw g gs A r->¬(λr=>r=gt) r:=λr X he=>by have:=ad r X;have he:r=gt:=he;omega
  have b5:∀r,cA g gs A B r->¬(λr=>r=gt) r:=λr X he=>by have:=bI r X.2;have he:r=gt:=he;omega
  have b7:∀r,bw g gs A r->¬(λr=>r=an) r:=λr X he=>by have he:r=an:=he;exact aU (he▸X)
  have b9:∀r,cA g gs A B r->¬(λr=>r=an) r:=λr X he=>by have he:r=an:=he;exact aV (he▸X.2)
  exact (b3.aa aG b4 b5).aa aO b7 b9
 .rw[he,X7 a1,show sizes[j]=z from (x4.1 aM).2,Bn];cases I:a7 0 (z-1) W with
  |none=>rfl
  |some q=>
   rw[a2 q I];rfl
def dM (s:az):Prop:=s.big=false->s.told<=16384
def jv (n:Int) (s:az):az:=a8 (decide (16384<min (s.told+n) ao)) {s with told:=min (s.told+n) ao}
theorem Kg (n:Int) (s:az):dM (jv n s):=λh=>by
 have h:(s.big||decide (16384<min (s.told+n) ao))=false:=h;have:=of_decide_eq_false (T7.1 h).2;show min (s.told+n) ao<=16384;omega
theorem Kh {g:Nat} {A B:ah} {s:Option az} {n:Int} {K:x3->Prop} (h:c6 w g gs A B clean s) (aw:∀t,s=σ t->0<=n/\n<=ao/\dM t)
  (ap:∀w',ae (bw g gs A) w w'->c6 w' g gs A B clean (s.map (jv n))->K w'):
  U x7 (bF (Γ g)) w λay=>
  U x7 (u6 b4 ay 2) w λaA=>
  U x7 (u5 al aA) w λaB=>
  U x7 (aE .add al false false aB (Δ n)) w λaC=>
  U x7 (Z0.min_ #[al,al] al #[aC,(Δ 4611686018427387904)]) w λaD=>
  U x7 (bF (Γ g)) w λaF=>
  U x7 (u6 b4 aF 2) w λaG=>
  ax x7 (o7 al aG aD) w λ(_:Unit) ab=>
  U x7 (bF (Γ g)) ab λt77=>
  U x7 (u6 b4 t77 2) ab λaH=>
  U x7 (u5 al aH) ab λaI=>
  U x7 (aE .gtr al false true aI (Δ 16384)) ab λaJ=>
  aj x7 pp [Γ g,aJ,Δ at_] ab λ_ aK=>K aK:=by
 cases s with
 |none=>
  obtain⟨I,e,big,af,ag,told,sv,l,ad,ai,am⟩:=id h;rw[aM b4.p 2 ad rfl,aL,kE,bQ,aT b4.p rfl];refine bz (g:=g) (o:=5) al.i rfl rfl ad (by simp[fq]) λJ W aN X=>?_;rw[aM b4.p 2 X rfl,bM];have aq:eo J g gs A B:=⟨I.aa W,e,big,af,ag,_,sv,l,X,ai,ak.aa am W λr _ h an=>rW h I.2.1 an⟩;refine (AI aq).mono ?_;rintro _ V _ au;exact ap _ ((W.mono λr _ h=>.inl h).trans (au.aa _)) (aq.ext au)
 |some s=>
  obtain⟨aV,aO,hi⟩:=aw s rfl;obtain⟨I,aP,aQ,big,af,ag,told,sv,ad,ai,am⟩:=id h;rw[aM b4.p 2 ad rfl,aL,kE,bQ,aT b4.p rfl];refine bz (g:=g) (o:=5) al.i rfl rfl ad (by simp[fq]) λJ W aN X=>?_;have X:ac J g b4 (fq gs 0 big af ag (min (Y9.wrap (told+n)) 4611686018427387904) sv):=X;rw[aM b4.p 2 X rfl,bM];have key:s.big=false->min (Y9.wrap (told+n)) 4611686018427387904=min (s.told+n) ao:=λY=>by
   rw[ai.2 Y];have:=hi Y;unfold ao at aO ⊢;rw[wrap_i64 Ω Ω]
  have aR:c4 J g gs A B {s with told:=min (s.told+n) ao} clean:=⟨I.aa W,aP.aa W (λhe=>I.1 he.symm) (λr aS he=>aS.1 (.inl he)),⟨by show 0<=min _ _;unfold ao;omega,by show min _ _<=_;omega,aQ.2.2⟩,big,af,ag,_,sv,X,⟨ai.1,key⟩,ak.aa am W λr _ h an=>rW h I.2.1 an⟩;refine (rZ aR).mono ?_;rintro _ V _ ⟨aU,av⟩;refine ap _ ((W.trans aU).mono λr _ h=>.inl h) ?_;have e:a8 (decide (16384<min (Y9.wrap (told+n)) 4611686018427387904)) {s with told:=min (s.told+n) ao}=jv n s:=by
   cases Y:s.big with
   |false=>rw[key Y,<-Y];rfl
   |true=>simp[jv,a8,Y]
  rw[e] at av;exact av
def ir (sizes:Λ) (s:Option az):Option (List (Λ×Int)×az):=s.bind (dL sizes)
def kQ (w:x3) (m:Nat) (acc:List (Λ×Int)):Prop:=cW w m (acc.map λp=>(bO (dT p.1),Δ 1))
def j8 (w:x3) (m:Nat):Prop:=∃d,cW w m d/\ ∀p∈d,∃ (k:ByteArray) (c:Int),p=(.string k,Δ c)
theorem kQ.any {acc:List (Λ×Int)} (h:kQ w m acc):j8 w m:=⟨_,h,λp I=>by
 obtain⟨q,_,rfl⟩:=o8.1 I;exact⟨_,_,rfl⟩⟩
theorem Ki {k:ByteArray} (h:j8 w m) (V:∀c:Int,K (Δ c)):U x7 (Instr.lookup gx (.map (σ m)) (.string k) false) w K:=by
 obtain⟨d,hm,W⟩:=h;have hk:=Keys.str cU.u;have X:∀p∈d,∃s,p.1=x1.string s:=λp I=>by obtain⟨s,c,rfl⟩:=W p I;exact⟨s,rfl⟩
 by_cases he:∃p∈d,p.1=x1.string k
 .obtain⟨p,I,J⟩:=he;obtain⟨j,Y⟩:=X4.1 I;obtain⟨s,c,rfl⟩:=W p I;have J:x1.string s=x1.string k:=J;rw[J] at Y;rw[pP gx.u hk hm X ⟨k,rfl⟩ Y];exact V c
 .have aa:∀p∈d,p.1≠x1.string k:=λp I h=>he ⟨p,I,h⟩;rw[r4 gx.u hk ⟨_,_,ag.i⟩ hm X ⟨k,rfl⟩ aa];exact V 0
theorem Kj {k:ByteArray} {K:Unit->x3->Prop} (h:j8 w m) (W:∀w',ae (λr=>r=m) w w'->j8 w' m->K () w'):ax x7 (Instr.mapUpdate gx (.map (σ m)) (.string k) (Δ c)) w K:=by
 obtain⟨d,hm,J⟩:=h;have X:∀p∈d,∃s,p.1=x1.string s:=λp I=>by obtain⟨s,c,rfl⟩:=J p I;exact⟨s,rfl⟩
 refine pQ gx.u (Keys.str cU.u) hm X ⟨k,rfl⟩ (λj v0 w' Y U V=>W w' V ⟨_,U,λp I=>?_⟩) (λw' aa U V=>W w' V ⟨_,U,λp I=>?_⟩)
 .rcases X6 I with I|rfl
  .exact J p I
  .exact⟨_,_,rfl⟩
 .rcases l7.1 I with I|I
  .exact J p I
  .rw[n9.1 I];exact⟨_,_,rfl⟩
theorem Bp {b:Λ} (I:∀x∈a,0<=x) (J:∀x∈b,0<=x) (h:bO (dT a)=bO (dT b)):a=b:=by
 have h:strOfNums (dT a)=strOfNums (dT b):=x1.string.inj h;exact zT I J (str_inj (zU a) (zU b) h)
theorem vD {acc:List (Λ×Int)}:∀p∈acc.map λp=>(bO (dT p.1),V1 .i64 1),∃s,p.1=x1.string s:=λp I=>by
 obtain⟨q,_,rfl⟩:=o8.1 I;exact⟨_,rfl⟩
theorem Bq {acc:List (Λ×Int)} {t:Λ} (h:kQ w m acc) (V:∀p∈acc,∀x∈p.1,0<=x) (W:∀x∈t,0<=x):
  U x7 (Instr.lookup gx (.map (σ m)) (bO (dT t)) false) w K=K (Δ (if t∈acc.map (·.1) then 1 else 0)):=by
 have hk:=Keys.str cU.u;by_cases he:t∈acc.map (·.1)
 .rw[if_pos he];obtain⟨p,I,rfl⟩:=o8.1 he;obtain⟨j,X⟩:=X4.1 I;rw[pP gx.u hk h vD ⟨_,rfl⟩ (j:=j) (v:=Δ 1) (by rw[x8,X];rfl)];simp
 .rw[if_neg he];rw[r4 gx.u hk ⟨_,_,ag.i⟩ h vD ⟨_,rfl⟩ (λp I Y=>?_)]
  .simp
  .obtain⟨q,J,rfl⟩:=o8.1 I;have:=Bp (V q J) W Y;exact he (o8.2 ⟨q,J,this⟩)
theorem Kk {acc:List (Λ×Int)} {t:Λ} {K:Unit->x3->Prop} (h:kQ w m acc) (X:∀p∈acc,∀x∈p.1,0<=x) (Y:∀x∈t,0<=x) (aa:t∉acc.map (·.1))
  (ab:∀w',ae (λr=>r=m) w w'->kQ w' m (acc++[(t,c)])->K () w'):ax x7 (Instr.mapUpdate gx (.map (σ m)) (bO (dT t)) (Δ 1)) w K:=by
 refine pQ gx.u (Keys.str cU.u) h vD ⟨_,rfl⟩ (λj v0 w' J U V=>?_) (λw' _ U V=>ab w' V ?_)
 .rw[x8] at J;obtain⟨q,W,I⟩:=Y2.1 J;have I:bO (dT q.1)=bO (dT t):=congrArg Prod.fst I;have:=Bp (X q (x5 W)) Y I;exact absurd (o8.2 ⟨q,x5 W,this⟩) aa
 .unfold kQ;rw[c8];exact U
theorem Kl {acc:List (Λ×Int)} {t:Λ} {ok:Prop} {K:Unit->x3->Prop} (V:j8 w m) (ac:ok->kQ w m acc/\(∀p∈acc,∀x∈p.1,0<=x)/\(∀x∈t,0<=x)/\t∉acc.map (·.1))
  (W:∀w',ae (λr=>r=m) w w'->j8 w' m->(ok->kQ w' m (acc++[(t,c)]))->K () w'):
  U x7 (Instr.lookup gx (.map (σ m)) (bO (dT t)) false) w λad=>
  U x7 (aE .add ag false true ad (Δ 1)) w λaf=>
  ax x7 (Instr.mapUpdate gx (.map (σ m)) (bO (dT t)) af) w K:=by
 by_cases X:ok
 .obtain⟨h1,Y,aa,ab⟩:=ac X;rw[Bq h1 Y aa,if_neg ab,aL,wrap_i64 Ω Ω];exact Kk (c:=c) h1 Y aa ab λw' J I=>W w' J I.any λ_=>I
 .refine Ki V λgA=>?_;rw[aL];exact Kj V λw' J I=>W w' J I λh=>absurd h X
def fb {α:Type} (f:List α->az->Option (α×az)) (n:Nat) (acc:List α) (o:Option az):Option (List α×az):=o.bind (cI f n acc)
theorem j8.aa (h:j8 w m) (I:ae S w w') (J:¬S m):j8 w' m:=by
 obtain⟨d,h1,U⟩:=h;exact⟨d,h1.aa I J,U⟩
theorem c6.words {g:Nat} {A:ah} {B:ah} {s:az} (h:c6 w g gs A B clean (σ s)):s.toks.length<=100000:=by
 have h:c4 w g gs A B s clean:=h;exact h.2.1.words.1
theorem Br {acc:List (Λ×Int)} {st:az} {t:Λ} (U:∀q,eR sizes [] (σ st)=σ q->t=q.1) (I:∀q,a7 0 ao ((eR sizes [] (σ st)).map (·.2))=σ q->c=q.1):
  (a7 0 ao ((eR sizes [] (σ st)).map (·.2))=ν->dK sizes acc st=ν)/\ ∀q,a7 0 ao ((eR sizes [] (σ st)).map (·.2))=σ q->dK sizes acc st=if t∈acc.map (·.1) then ν else σ ((t,c),q.2):=by
 have e:eR sizes [] (σ st)=ik sizes [] st:=rfl;rw[e] at U I ⊢;unfold dK;cases h1:ik sizes [] st with
 |none=>exact⟨λ_=>rfl,λq J=>(by cases J)⟩
 |some q=>
  obtain⟨bp,V⟩:=q;rw[h1] at U I;have:=U _ rfl;subst this;have W:a7 0 ao ((σ (t,V)).map (·.2))=bc 0 ao V:=rfl;rw[W] at I ⊢;simp only;cases X:bc 0 ao V with
  |none=>exact⟨λ_=>rfl,λq J=>(by cases J)⟩
  |some q=>
   obtain⟨Y,aa⟩:=q;rw[X] at I;have:=I _ rfl;subst this;exact⟨λh=>(by cases h),λq J=>(by cases J;rfl)⟩
theorem Km {g:Nat} {A B:ah} {s:Option az} {Q:x1->x3->Prop}
  (h:c6 w g gs A B clean s) (cd:aB .i64 w sv sizes) (bi:∀r,leads sv r->¬bw g gs A r/\r<w.heap.size) (ce:∀z∈sizes,1<=z/\z<=ao) (ch:sizes.length<=100001) (ci:dA w) (h1:cA g gs A B 1) (cj:(N:Int)<=ao)
  (bO:∀v w' l,fD w g gs A B clean ((fb (dK sizes) N [] s).map (·.2)) w'->bx (dZ w.heap.size) bo w' [v] (show List (Λ×Int) from l)->(∀q,fb (dK sizes) N [] s=σ q->l=q.1)->Q v w'):
  ax x7 (Instr.makeMap gx ν) w λbj V=>
 bU (.slice ν 0 0) (Δ 0) V λout i ab k=>
  cg (α:=x1->x3->Prop) (λ(ck:x1) (aD:x3)=>
   Split ck (ax x7 (R2 dS true (.tuple #[])) aD λx J=>
  U x7 (W3 #[aq] ag #[sv]) J λcl=>
  bU (.string ⟨#[]⟩) (Δ 0) J λkey bk aF cm=>
   U x7 (aE .lss ag false false bk cl) aF λcn=>
   Split cn (U x7 (j5 aq sv bk) aF λcp=>
   U x7 (u5 al cp) aF λcq=>
   U x7 (aE .sub al false true cq (Δ 1)) aF λcr=>
   aj x7 mQ [Γ g,(Δ 0),cr] aF λbP aK=>
   U x7 (Z1 bP 0) aK λbQ=>
   U x7 (Z1 bP 1) aK λdL=>
   U x7 (u6 dS x 0) aK λct=>
   U x7 (u5 aq ct) aK λcu=>
   ax x7 (Z9 aq 1 #[(0,bQ)]) aK λcw af=>
   ax x7 (b8 #[aq,aq] aq #[cu,cw]) af λcz bR=>
   U x7 (u6 dS x 0) bR λcB=>
   ax x7 (o7 aq cB cz) bR λ(_:Unit) cC=>
   aj x7 uw [bQ] cC λcD a1=>
   U x7 (aE .add cU false true cD (.string ⟨#[32]⟩)) a1 λcE=>
   U x7 (aE .add cU false false key cE) a1 λcF=>
   U x7 (aE .add ag false true bk (Δ 1)) a1 λcG=>
   cm cF cG a1)
    (aj x7 mQ [Γ g,(Δ 0),(Δ 4611686018427387904)] aF λbS a2=>
  U x7 (Z1 bS 0) a2 λcH=>
  U x7 (Z1 bS 1) a2 λcI=>
  U x7 (u6 dS x 1) a2 λcJ=>
  ax x7 (o7 al cJ cH) a2 λ(_:Unit) cK=>
  cg (α:=x3->Prop) (λ(aG:x3)=>
   U x7 (Instr.lookup gx bj key false) aG λcL=>
   U x7 (aE .add ag false true cL (Δ 1)) aG λcM=>
   ax x7 (Instr.mapUpdate gx bj key cM) aG λ(_:Unit) aM=>
   U x7 (u5 dS x) aM λcN=>
   ax x7 (Z9 ib 1 #[(0,cN)]) aM λcO aW=>
   ax x7 (b8 #[ib,ib] ib #[out,cO]) aW λcP a6=>
   U x7 (aE .add al false true i (Δ 1)) a6 λcQ=>
  k cP cQ a6) λbT=>
  cg (α:=x1->x3->Prop) (λ(cR:x1) (ay:x3)=>
   Split cR (aj x7 mR [Γ g,(Δ 4),cI] ay λdM bW=>
    bT bW)
    (bT ay)) λbX=>
  aj x7 kz [Γ g] cK λcS aN=>
  Split cS (U x7 (Instr.lookup gx bj key false) aN λcT=>
  U x7 (aE .gtr ag false true cT (Δ 0)) aN λcV=>
  bX cV aN)
   (bX (.bool false) aN)))
    (Q out aD)) λbY=>
  U x7 (aE .lss al false false i (Δ (N:Int))) ab λcX=>
  Split cX (aj x7 kz [Γ g] ab λcY cZ=>
  bY cY cZ)
   (bY (.bool false) ab):=by
 obtain⟨dN,dO,dP,c0,a8⟩:=h.side;have ad:∀r,bw g gs A r->r<w.heap.size:=c0;unfold ao at cj;refine r3 λW V dQ bl bm=>?_;have dR:=bl.size;have dT:=bm.lt;generalize X:fb (dK sizes) N [] s=bZ at bO;refine⟨λout bn ab=>∃ (i:Nat) (acc:List (Λ×Int)) (so:Option az),bn=Δ (i:Int)/\i<=N/\ae (bw g gs A) w ab/\V.heap.size<=ab.heap.size/\bx (dZ V.heap.size) bo ab [out] acc/\c6 ab g gs A B clean so/\
   bZ=fb (dK sizes) (N-i) acc so/\j8 ab W/\acc.length<=100001/\ ∀st,so=σ st->kQ ab W acc/\(∀p∈acc,∀x∈p.1,0<=x)/\acc.length+st.toks.length<=100000,
  λ_ bn _=>N-(bV bn).toNat,⟨0,[],s,rfl,X2 _,bl.aa _,p9 _,gB,h.ext bl,X.symm,⟨[],bm,λp aw=>(by cases aw)⟩,Ξ,λst c1=>⟨bm,λp aw=>(by cases aw),?_⟩⟩,?_⟩
 .subst c1;have:=h.words;simpa using this
 rintro out _ ab ⟨i,acc,so,rfl,dU,b0,z9,b1,bp,ba,c2,dV,br⟩;refine aR (λv aD=>Ext ab aD/\((v= .bool true/\i<N/\ ∃st,so=σ st)\/(v= .bool false/\(so=ν\/i=N)))) ?_ ?_
 rotate_left
 .intro av bt;rw[aP,ai];refine⟨λc3=>?_,λdW=>bt _ _ ⟨Ext.refl _,.inr ⟨rfl,.inr Ω⟩⟩⟩;refine (oJ bp).mono ?_;rintro _ aD _ ⟨rfl,aA⟩;cases so with
  |none=>exact bt _ _ ⟨aA,.inr ⟨rfl,.inl rfl⟩⟩
  |some st=>exact bt _ _ ⟨aA,.inl ⟨rfl,Ω,st,rfl⟩⟩
 rintro _ aD ⟨aA,c4⟩;rcases c4 with⟨rfl,c3,st,rfl⟩|⟨rfl,c5⟩
 rotate_left
 .rw[aS];have b2:bZ=so.map λst=>(acc,st):=by
   rcases c5 with rfl|rfl
   .exact ba
   .rw[V7] at ba;rw[ba];cases so<;>rfl
  refine bO out aD acc (fD.mk (b0.trans (aA.aa _)) ?_) (bq (ak.mono b1 (λr _ h=>by have h:V.heap.size<=r:=h;show w.heap.size<=r;omega) λ_ _ h=>h) aA) (λq am=>?_)
  .rw[b2,Option.map_map];have e:V6 ((λx=>x.2)∘λst=>(acc,st)) so=so:=by cases so<;>rfl
   rw[e];exact bp.ext aA
  .rw[b2] at am;cases so with
   |none=>cases am
   |some st=>cases am;rfl
 rw[bA];obtain⟨br,bu,dX⟩:=br st rfl;have dY:=aA.size;refine bN dS.i λan J ea b3 b4=>?_;have aX:=aA.trans b3;have bB:ae (bw g gs A) w J:=b0.trans (aX.aa _);have b5:aB .i64 J sv sizes:=hv cd bB λr I a n c c7 c8=>(bi r ⟨a,n,c,c7,c8⟩).1 I;rw[aV aq.u b5];have bb:¬bw g gs A an:=λX=>by have:=ad _ X;omega
 refine Kf (s:=σ st) (bp.ext aX) b5 (λr I=>⟨(bi r I).1,by have:=(bi r I).2;omega⟩) ce ch (ci.aa bB h1.1) h1 b4 bb (λc9=>by have:=a8 _ c9;omega) λt aF aI gt eb da b6 dc dd de df dg=>?_;have ec:=b3.size;have z12:=b6.size;have ed:=b4.lt;have bC:∀x∈t,0<=x:=λx dh=>(da x dh).1;refine (lD df).mono ?_;rintro _ aK _ ⟨bD,c,ee,rfl,di,ef⟩;obtain⟨bc,dj⟩:=bD.of;have eg:=bc.size;rw[bf,bg,aT dS.p rfl];refine bz (g:=an) (o:=1) al.i rfl rfl (dc.aa bc bb) Ξ λaf bd eh bE=>?_;have bE:ac af an dS [aI,Δ c]:=bE;have dk:ap .i64 al af gt aI t:=(dd.aa bc (λ_ X=>by have:=ad _ X;omega)).aa bd (λ_ he=>by have he:gt=an:=he;omega);have bF:ae (λr=>bw g gs A r\/r=an) J af:=(b6.trans (bc.mono λr _ h=>.inl h)).trans (bd.mono λr _ h=>.inr h);have aH:c6 af g gs A B clean ((a7 0 ao ((eR sizes [] (σ st)).map (·.2))).map (·.2)):=dj.aa bd (λr I he=>by have he:r=an:=he;exact bb (he▸I)) (λr I he=>by have:=a8 r I.2;have he:r=an:=he;omega);have b7:¬(λr=>bw g gs A r\/r=an) W:=λh=>h.elim (λh=>by have:=ad _ h;omega) (λh=>Ω);have dl:j8 af W:=(c2.aa (aX.aa (λ_=>False)) (λh=>h)).aa bF b7;have b9:kQ af W acc:=(cW.ext br aX).aa bF b7;obtain⟨bG,bH⟩:=Br (acc:=acc) dg di;refine db (λaG=>ae (bw g gs A) af aG/\c6 aG g gs A B clean ((dK sizes acc st).map (·.2))) ?_ ?_
 .rintro aG ⟨aO,dm⟩;have bJ:¬bw g gs A W:=λh=>by have:=ad _ h;omega
  have ei:=bd.size;have ej:=aO.size;refine Kl (acc:=acc) (t:=t) (c:=c) (ok:=∃q,dK sizes acc st=σ q) (dl.aa aO bJ) (λ⟨q,am⟩=>⟨cW.aa b9 aO bJ,bu,bC,λaC=>?_⟩) λaM aY dn dp=>?_
  .cases au:a7 0 ao ((eR sizes [] (σ st)).map (·.2)) with
   |none=>rw[bG au] at am;cases am
   |some aQ=>rw[bH aQ au,if_pos aC] at am;cases am
  have ek:=aY.size;have dq:ac aM an dS [aI,Δ c]:=(bE.aa aO bb).aa aY (λhe=>by have he:an=W:=he;omega);have dr:ap .i64 al aM gt aI t:=(dk.aa aO (λ_ X=>by have:=ad _ X;omega)).aa aY (λ_ he=>by have he:gt=W:=he;omega);rw[bI dS.p dS.i rfl dq.range];have ca:bx (dZ J.heap.size) bo aM [aI,Δ c] (t,c):=⟨[aI],[Δ c],dZ J.heap.size,bo,rfl,λ_ h=>h,λ_ h=>h.elim,λ_ _ _ h=>h,ak.mono (kG dr) (λr _ h=>by subst h;exact de) (λ_ _ h=>h),rfl⟩;refine jm (α:=Λ×Int) (a:=(t,c)) (cs:=[aI,Δ c]) (A:=dZ J.heap.size) (R:=bo) ib.u dS.i Φ rfl ca λu aW aU _ ds=>?_;have z22:=aU.size;have dt:bx (λr=>dZ V.heap.size r/\r<J.heap.size/\r≠an) bo J [out] acc:=bq (ak.mono (ly b1) (λr _ h=>⟨h.1,by have:=h.2;omega,by have:=h.2;omega⟩) λ_ _ h=>h) aX;have cb:ae (λr=>bw g gs A r\/r=an\/r=W) J aW:=(((bF.mono λr _ h=>h.elim .inl λh=>.inr (.inl h)).trans (aO.mono λr _ h=>.inl h)).trans (aY.mono λr _ h=>.inr (.inr h))).trans (aU.aa _);have du:=ak.aa dt cb λr I h X=>by
   rcases h with h|h
   .have be:V.heap.size<=r:=h.1;rcases X with X|X|X
    .have:=ad _ X;omega
    .exact h.2.2 X
    .omega
   .exact h
  refine l4 (α:=Λ×Int) (a:=(t,c)) (A:=dZ J.heap.size) ib.u dS.i rfl du ds (bq ca aU) (λr _ h h'=>?_) Ω Ω λem a6 dv aZ=>?_
  .rcases h' with h'|h'
   .have:=h.2;have:J.heap.size<=r:=h';omega
   .exact h'
  have en:=aZ.size;rw[aL,wrap_i64 Ω Ω];have dw:ae (bw g gs A) w aW:=gU bB cb λr I h=>by
   rcases h with h|h|h
   .exact h
   .omega
   .omega
  have dx:ae (bw g gs A) w a6:=gU dw aZ λr I h=>by have be:V.heap.size<=r:=h.1;omega
  have dy:c6 aW g gs A B clean ((dK sizes acc st).map (·.2)):=(dm.aa aY (λr I he=>by have he:r=W:=he;exact bJ (he▸I)) (λr I he=>by have:=a8 r I.2;have he:r=W:=he;omega)).ext aU;have dz:∀r,bw g gs A r->¬(dZ V.heap.size r/\r<J.heap.size/\r≠an):=λr I he=>by have:=ad _ I;have be:V.heap.size<=r:=he.1;omega
  have dC:∀r,cA g gs A B r->¬(dZ V.heap.size r/\r<J.heap.size/\r≠an):=λr I he=>by have:=a8 r I.2;have be:V.heap.size<=r:=he.1;omega
  have cc:¬(dZ V.heap.size W/\W<J.heap.size/\W≠an):=λhe=>by have be:V.heap.size<=W:=he.1;omega
  refine⟨⟨i+1,acc++[(t,c)],(dK sizes acc st).map (·.2),rfl,Ω,dx,Ω,?_,dy.aa aZ dz dC,?_,(dn.aa (aU.aa (λ_=>False)) (λh=>h)).aa aZ cc,Θ,λdD dE=>?_⟩,by simp only[bV];omega⟩
  .refine ak.mono dv (λr _ h=>?_) λ_ _ h=>h;show V.heap.size<=r;rcases h with h|h|h
   .exact h.1
   .have h:J.heap.size<=r:=h;omega
   .omega
  .rw[ba,show N-i=(N-(i+1))+1 by omega];cases Y:dK sizes acc st with
   |none=>exact oB Y
   |some q=>
    obtain⟨a,dD⟩:=q;have dF:a=(t,c):=by
     cases au:a7 0 ao ((eR sizes [] (σ st)).map (·.2)) with
     |none=>rw[bG au] at Y;cases Y
     |some aQ=>
      rw[bH aQ au] at Y;split at Y
      .cases Y
      .cases Y;rfl
    subst dF;exact r1 Y
  .obtain⟨q,am,rfl⟩:=Y2.1 dE;have eo:=(oy am).2.2.2.1;refine⟨cW.aa ((cW.ext (dp ⟨q,am⟩) aU)) aZ cc,λp aw=>?_,by simp only[o5,S4];omega⟩;rcases l7.1 aw with aw|aw
   .exact bu p aw
   .rw[n9.1 aw];exact bC
 .intro ep bK;cases au:a7 0 ao ((eR sizes [] (σ st)).map (·.2)) with
  |none=>
   rw[au] at aH;have Y:=bG au;refine aR (λv ay=>Ext af ay/\v= .bool false) ?_ ?_
   .rintro _ ay ⟨aJ,rfl⟩;rw[aS];exact bK _ ⟨aJ.aa _,by rw[Y];exact aH.ext aJ⟩
   .intro dG bL;refine (oJ aH).mono ?_;rintro _ aN _ ⟨rfl,bh⟩;rw[show ((ν:Option (Int×az)).map (·.2)).isSome=false from rfl,aS];exact bL _ _ ⟨bh,rfl⟩
  |some aQ=>
   rw[au] at aH;have Y:=bH aQ au;refine aR (λv ay=>Ext af ay/\v= .bool (decide (t∈acc.map (·.1)))) ?_ ?_
   .rintro _ ay ⟨aJ,rfl⟩;rw[ai];refine⟨λaC=>?_,λdH=>?_⟩
    .refine (Ke (aH.ext aJ) Ω).mono ?_;rintro _ bW _ bD;obtain⟨dI,dJ⟩:=bD.of;exact bK _ ⟨(aJ.aa _).trans dI,by rw[Y,if_pos aC];exact dJ⟩
    .exact bK _ ⟨aJ.aa _,by rw[Y,if_neg dH];exact aH.ext aJ⟩
   .intro dG bL;refine (oJ aH).mono ?_;rintro _ aN _ ⟨rfl,bh⟩;rw[show ((σ aQ:Option (Int×az)).map (·.2)).isSome=true from rfl,bA,Bq (cW.ext b9 bh) bu bC,bM];refine bL _ _ ⟨bh,?_⟩;congr 1;by_cases aC:t∈acc.map (·.1)
    .rw[if_pos aC,decide_eq_true aC];rfl
    .rw[if_neg aC,decide_eq_false aC];rfl
end Go.Proofs.YtjjhhcfgfdepdaaGreatDoor
