/- own texts, made small by a tool (wip/ holds them as they were written): no statement of the seat. -/
import Derived.Test.YtgbkinibgjmodaaGreatDoorZb
set_option linter.unusedVariables false
set_option linter.unusedSimpArgs false
set_option linter.unnecessarySimpa false
open Array renaming getElem?_eq_some_iff→l7,getElem?_toList→U7
open BitVec renaming ofInt→W6
open Bool renaming not_true→Y1,not_false→X0,eq_iff_iff→X8,and_eq_true→U1,or_eq_false_iff→U5
open Decidable renaming not_not→X2
open Go renaming Value→x4,World→x5,Builtin→u7,TypeId→o6,IntKind→o8,Program→X1,Oper→U8
open Go.Addr renaming add_mid→V9
open Go.Builtin renaming len_→u6,append_→r9
open Go.Instr renaming loadAt→x1,fieldAt→x2,indexAt→x7,storeAt→x8,extract→u5,buildSlice→u9,alloc→n9,sliceAt→c7,build→Z0,box→Z2,index→Y0,lookup→V3,makeSlice→V8
open Go.IntKind renaming i64→Y9,u64→V0
open Go.Op renaming unary→Z5
open Go.Proofs.Tryz renaming prog→y0
open Go.Result renaming andThen→Y4
open Go.Sem renaming run_bind→Y2,run_pure→Y6
open Go.Sort renaming Holds→U4
open Go.Value renaming int→X4
open Int renaming toNat_natCast→c9
open List renaming getElem?_eq_getElem→x3,getElem?_eq_some_iff→x6,mem_of_getElem?→u4,getElem?_map→r8,getD_eq_getElem?_getD→p8,replicate→p9,take_add_one→o3,length_map→o4,length_append→o5,mem_singleton→o9,mem_append→n0,take_length→l5,length_take→l6,mem_map→l9,take_of_length_le→j0,map_append→j4,eq_nil_of_length_eq_zero→j9,length_cons→c8,getElem?_append_left→Z1,getElem?_append_right→Z4,getElem?_take_of_lt→Z6,getElem?_eq_none→Z8,mem_iff_getElem?→Y5,getElem?_set→Y7,drop_eq_getElem_cons→Y8,flatMap_cons→X5,ext_getElem?→X6,range→X7,length_set→W0,pairwise_iff_getElem→W5,length→W8,append_assoc→W9,mem_or_eq_of_mem_set→V1,set_append_right→V2,length_eq_one_iff→V6,getElem?_set_self→V7,append_nil→U3,mem_cons→U6,length_singleton→T0,getElem_mem→T1
open Nat renaming le_refl→o7,zero_le→Z9,le_trans→Y3,mul_le_mul_right→X3,sub_self→W3,add_mul→W7,zero_add→V5,mul_one→U9
open Option renaming toList_some→j5,some→j6,map_some→b6,isNone_some→b8,map_eq_some_iff→Z3,map→X9,getD_some→V4
open Option.some renaming inj→b9,injEq→Z7
open Prod.mk renaming injEq→U2
namespace Go.Proofs.YtgbkinibgjmodaaGreatDoor
open Go Go.Vc Go.RowKit Go.Proofs Go.Proofs.Tryz
set_option maxRecDepth 100000
theorem vX {b:Int} {w:x5}:O y0 mu [.int .u8 b] w fun v w'=>v= .bool (cc b)∧Ext w w':=by
 apply mu.enter;refine aZ (fun v I=>v= .bool (cc b)∧Ext w I) (fun _ _ h=>h) fun J E=>?_;rw[bQ,ag];refine⟨fun h=>E _ _ ⟨by unfold cc;rw[decide_eq_true (.inl h)],Ext.refl _⟩,fun h1=>?_⟩;rw[bQ,ag];refine⟨fun h=>E _ _ ⟨by unfold cc;rw[decide_eq_true (.inr (.inl h))],Ext.refl _⟩,fun U=>?_⟩;rw[bQ,ag];refine⟨fun h=>E _ _ ⟨by unfold cc;rw[decide_eq_true (.inr (.inr (.inl h)))],Ext.refl _⟩,fun V=>?_⟩;rw[bQ];refine E _ _ ⟨?_,Ext.refl _⟩;congr 1;unfold cc;rw[X8,decide_eq_true_eq,decide_eq_true_eq];omega
theorem Bn {b:Int} {w:x5}:O y0 ow [.int .u8 b] w fun v w'=>v= .bool (bC b)∧Ext w w':=by
 apply ow.enter;refine aZ (fun v I=>v= .bool (bC b)∧Ext w I) (fun _ _ h=>h) fun J E=>?_;rw[cV,ag];refine⟨fun h=>?_,fun h=>E _ _ ⟨by unfold bC;rw[decide_eq_false (by omega)],Ext.refl _⟩⟩;rw[pk];refine E _ _ ⟨?_,Ext.refl _⟩;congr 1;unfold bC;rw[X8,decide_eq_true_eq,decide_eq_true_eq];omega
def jw (w:x5) (g:Nat) (E:x4) (p:List Int) (at_:Nat) (bad:Int):Prop:=Bytes p∧p.length≤100000∧at_≤p.length∧ak w g du [E,.int .i64 (at_:Int),.int .i64 bad]∧ ∃ I,aq .u8 bb w I E p
theorem jw.ext {w w':x5} {g:Nat} {E:x4} {p:List Int} {at_:Nat} {bad:Int} (h:jw w g E p at_ bad) (I:Ext w w'):jw w' g E p at_ bad:=by
 obtain⟨h1,J,O,U,V,W⟩:=h;exact⟨h1,J,O,U.ext I,V,W.ext I⟩
theorem Bo {v:x4} {l:List Int} {w:x5} (h:aH .u8 w v l) (ad:l.length≤100000):O y0 oq [v] w fun I w'=>Ext w w'∧ ∃ g,aq .u8 bb w' g I l:=by
 have E:=h;obtain⟨ae,b,o,base,cap,rfl,af,hm,U,V⟩:=h;apply oq.enter;rw[qN aV.u,cE];refine⟨fun W=>⟨Ext.refl _,0,?_⟩,fun _=>?_⟩
 ·have:l=[]:=by
   cases base with
   |none=>
        by_cases E:0<l.length
        ·have:=U E;cases this
        ·exact j9 (by omega)
   |some a=>cases W
  subst this;exact aq.nil _ _ _ _
 ·refine h5 (k:=1) (cs:=#[]) aV.u bb.i (by omega) (by kernel_rfl) fun g X ag J Y=>?_;have Z:aq .u8 bb X g (.slice (some ⟨g,0,none⟩) 0 0) []:=aq.of (n:=0) (bL.full (by simpa using Y) rfl (by simp));refine hb aV.u bb.i rfl Z (E.ext J) (by simp;omega) (by simp;omega) fun I aa ah ai ab ac=>?_;exact⟨J.then ac (fun r V he=>by have he:r=g:=he;omega),aa,by simpa using ab⟩
theorem vY {v:x4} {l:List Int} {w:x5} (h:aH .u8 w v l) (W:Bytes l) (I:l.length≤100000):O y0 jV [v] w fun X w'=>Ext w w'∧ ∃ g,X= .pointer (some ⟨g,0,none⟩)∧w.heap.size≤g∧ ∃ E,jw w' g E l 0 (-1):=by
 apply jV.enter;refine (Bo h I).mono ?_;rintro E aa _ ⟨J,Y,U⟩;rw[cW (cs:=#[E,.int .i64 0,.int .i64 (-1)]) (by obtain⟨_,_,_,_,_,rfl,_⟩:=U.ls;kernel_rfl)];refine ce fun g ab ac V Z=>?_;have ad:=J.size;exact⟨J.trans V,g,rfl,by omega,E,W,I,Z9 _,Z,Y,U.ext V⟩
def runN (f:Int→Bool) (p:List Int):Nat:=(p.takeWhile f).length
theorem Bp (f:Int→Bool) (p:List Int):runN f p≤p.length:=(List.takeWhile_sublist f).length_le
theorem vZ {f:Int→Bool} {p:List Int} {i:Nat} {b:Int} (hi:p[i]? =some b) (I:f b=true):i+runN f (p.drop i)=(i+1)+runN f (p.drop (i+1)):=by
 have E:=x6.1 hi;unfold runN;rw[Y8 E.1,E.2,List.takeWhile_cons,if_pos I,c8];omega
theorem v7 {f:Int→Bool} {p:List Int} {i:Nat} (h:∀ b,p[i]? =some b→f b=false):runN f (p.drop i)=0:=by
 unfold runN;cases E:p[i]? with
 |none=>
  rw[List.drop_of_length_le (List.getElem?_eq_none_iff.1 E)];rfl
 |some b=>
  have I:=x6.1 E;rw[Y8 I.1,I.2,List.takeWhile_cons,if_neg (by simp[h b E])];rfl
theorem Bq {w:x5} {g at_:Nat} {ac:x4} {p:List Int} {bad:Int} (h:jw w g ac p at_ bad):O y0 ov [.pointer (some ⟨g,0,none⟩)] w fun v w'=>v= .int .i64 ((at_+runN cc (p.drop at_):Nat):Int)∧Ext w w':=by
 obtain⟨ap,aq,ad,E,av,U⟩:=h;apply ov.enter;rw[az,ah du.p rfl,ai (by kernel_rfl) (E.cell (o:=0+1) rfl)];refine⟨fun v V=>Ext w V∧ ∃ i:Nat,v= .int .i64 (i:Int)∧i≤p.length∧i+runN cc (p.drop i)=at_+runN cc (p.drop at_),fun v _=>p.length-(bM v).toNat,⟨Ext.refl _,at_,rfl,ad,rfl⟩,?_⟩;rintro _ V ⟨J,i,rfl,hi,he⟩;refine aZ (fun v W=>Ext w W∧ ∃ c:Bool,v= .bool c∧(c=true↔ ∃ b,p[i]? =some b∧cc b=true)) ?_ ?_
 ·rintro _ W ⟨X,c,rfl,Y⟩;rw[cE];refine⟨fun ae=>?_,fun Z=>?_⟩
  ·obtain⟨b,I,af⟩:=Y.1 ae;have aj:=(x6.1 I).1;rw[aK,wrap_i64 (by omega) (by omega)];exact⟨⟨X,i+1,rfl,aj,by rw[←he,vZ I af]⟩,by simp only[bM];omega⟩
  ·have ak:=v7 (f:=cc) (p:=p) (i:=i) fun b E=>by
    cases al:cc b with
    |false=>rfl
    |true=>rw[Y.2 ⟨b,E,al⟩] at Z;cases Z
   exact⟨by rw[←he,ak,Nat.add_zero],X⟩
 ·intro aw aa;have ab:=E.ext J;rw[az,ah du.p rfl,ai (by kernel_rfl) (ab.cell (o:=0+0) rfl),aO aV.u (U.ext J).ls,au,ag];refine⟨fun ax=>?_,fun ay=>aa _ _ ⟨J,false,rfl,⟨fun h=>(by cases h),fun⟨b,E,_⟩=>by have:=(x6.1 E).1;omega⟩⟩⟩;have am:i<p.length:=by omega
  have I:p[i]? =some p[i]:=x3 am;rw[az,ah du.p rfl,ai (by kernel_rfl) (ab.cell (o:=0+0) rfl),bm aV.u bb.i (by kernel_rfl) (U.ext J).ls I];refine vX.mono ?_;rintro _ aA _ ⟨rfl,ao⟩;exact aa _ _ ⟨J.trans ao,_,rfl,⟨fun h=>⟨_,I,h⟩,fun⟨b,E,h⟩=>by rw[I] at E;cases E;exact h⟩⟩
inductive Br where
 |word (from_ to:Nat)
 |none
 |text (at_:Nat)
def e1 (p:List Int) (at_:Nat):Nat:=at_+runN cc (p.drop at_)
def gD (p:List Int) (a:Nat):Nat:=a+runN bC (p.drop a)
open Classical in
noncomputable def mZ (p:List Int) (at_:Nat):Br:=
 if gD p (e1 p at_)<p.length∧(∀ c,p[gD p (e1 p at_)]? =some c→cc c=false) then .text (gD p (e1 p at_)) else if e1 p at_=gD p (e1 p at_) then .none else .word (e1 p at_) (gD p (e1 p at_))
def py (w:x5) (g:Nat) (E:x4) (p:List Int) (at_:Nat) (v:x4) (w':x5):Prop:=
 match mZ p at_ with
 | .word a b=>v= .tuple #[bu ((p.take b).drop a),.int .i64 (a:Int),.int .i64 0]∧aj (fun r=>r=g) w w'∧jw w' g E p b (-1)
 | .none=>∃ n:Nat,v= .tuple #[bu [],.int .i64 (n:Int),.int .i64 2]∧Ext w w'
 | .text b=>v= .tuple #[bu [],.int .i64 (b:Int),.int .i64 11]∧aj (fun r=>r=g) w w'∧jw w' g E p at_ (b:Int)
theorem fB {S E:Nat→Prop} {a b c:x5} (h:aj S a b) (k:aj E b c) (U:∀ r,r<a.heap.size→E r→S r):aj S a c:=
 ⟨Y3 h.size k.size,fun r o I J O=>k.bw r o (h.bw r o I J O) J fun hu=>O (U r (l7.1 I).1 hu)⟩
theorem bW {w:x5} {g I:Nat} {k:o8} {e J:o6} {v:x4} {l:List Int} {cs:List x4} (h:aq k e w g v l) (O:ak w I J cs) (V:e≠J) {r:Nat} (U:leads v r):r≠I:=by
 obtain⟨rfl,_⟩:=bX h U;obtain⟨_,⟨rfl,_⟩|⟨_,_,_,E,_⟩⟩:=h
 ·obtain⟨a,n,c,h,_⟩:=U;cases h
 ·rintro rfl;unfold ak at O E;rw[O] at E;injection E with h1;injection h1 with X W;exact V W.symm
theorem Bs {s t:o6} {J O:o8} {b i j:Nat} {z v:x4} {l:List Int} {w:x5} {K:x4→Prop} (U:y0.underlying s=some (.slice t)) (hi:aI y0 t 1 b z)
  (h:aH .u8 w v l) (V:i≤j) (W:j≤l.length) (X:∀ E,aH .u8 w E ((l.take j).drop i)→K E):I y0 (c7 s v (some (.int J (i:Int))) (some (.int O (j:Int))) none) w K:=by
 refine q2 U hi h (lg i _ rfl) (lh j _ rfl) V W fun E h'=>X E (aH.of (n:=j-i) ?_);have Y:((ints .u8 l).drop (i*1)).take ((j-i)*1)=ints .u8 ((l.take j).drop i):=by
  rw[U9,U9,ints,ints,List.map_drop,List.map_take,List.drop_take]
 rw[Y] at h';exact h'
set_option maxHeartbeats 1000000 in
theorem Bt {w:x5} {g at_:Nat} {ac:x4} {p:List Int} (h:jw w g ac p at_ (-1)):O y0 iI [.pointer (some ⟨g,0,none⟩)] w (py w g ac p at_):=by
 obtain⟨aw,ax,aR,E,ay,ae⟩:=id h;apply iI.enter;rw[cZ k5.u,b8,aT,az,ah du.p rfl,ai (by kernel_rfl) (E.cell (o:=0+2) rfl),cV,ag];refine⟨fun h=>by omega,fun _=>?_⟩;refine (Bq h).mono ?_;rintro _ aS _ ⟨rfl,aU⟩;obtain⟨a,aA⟩:∃ a,a=at_+runN cc (p.drop at_):=⟨_,rfl⟩;rw[←aA];have aW:a≤p.length:=by have:=Bp cc (p.drop at_);rw[List.length_drop] at this;omega
 refine⟨fun v af=>Ext aS af∧ ∃ i:Nat,v= .int .i64 (i:Int)∧a≤i∧i≤p.length∧i+runN bC (p.drop i)=a+runN bC (p.drop a),fun v _=>p.length-(bM v).toNat,⟨Ext.refl _,a,rfl,o7 _,aW,rfl⟩,?_⟩;rintro _ af ⟨aB,i,rfl,aX,hi,he⟩;have aj:=aU.trans aB;have aC:=E.ext aj;have aD:=ae.ext aj;refine aZ (fun v X=>Ext af X∧ ∃ c:Bool,v= .bool c∧(c=true↔ ∃ b,p[i]? =some b∧bC b=true)) ?_ ?_
 rotate_left
 ·intro aY U;rw[az,ah du.p rfl,ai (by kernel_rfl) (aC.cell (o:=0+0) rfl),aO aV.u aD.ls,au,ag];refine⟨fun a2=>?_,fun a6=>U _ _ ⟨Ext.refl _,false,rfl,⟨fun h=>(by cases h),fun⟨b,E,_⟩=>by have:=(x6.1 E).1;omega⟩⟩⟩;have Y:i<p.length:=by omega
  have I:p[i]? =some p[i]:=x3 Y;rw[az,ah du.p rfl,ai (by kernel_rfl) (aC.cell (o:=0+0) rfl),bm aV.u bb.i (by kernel_rfl) aD.ls I];refine Bn.mono ?_;rintro _ X _ ⟨rfl,Z⟩;exact U _ _ ⟨Z,_,rfl,⟨fun h=>⟨_,I,h⟩,fun⟨b,E,h⟩=>by rw[I] at E;cases E;exact h⟩⟩
 rintro _ X ⟨Z,c,rfl,V⟩;have ak:=aj.trans Z;have aE:=E.ext ak;have aF:=ae.ext ak;rw[cE];refine⟨fun al=>?_,fun aG=>?_⟩
 ·obtain⟨b,I,a7⟩:=V.1 al;have a8:=(x6.1 I).1;rw[aK,wrap_i64 (by omega) (by omega)];exact⟨⟨aB.trans Z,i+1,rfl,by omega,a8,by rw[←he,vZ I a7]⟩,by simp only[bM];omega⟩
 have bf:=v7 (f:=bC) (p:=p) (i:=i) fun b E=>by
  cases am:bC b with
  |false=>rfl
  |true=>rw[V.2 ⟨b,E,am⟩] at aG;cases aG
 have ba:i=a+runN bC (p.drop a):=by omega
 refine aZ (fun v ao=>Ext X ao∧ ∃ c:Bool,v= .bool c∧(c=true↔i<p.length∧ ∀ c,p[i]? =some c→cc c=false)) ?_ ?_
 rotate_left
 ·intro aY U;rw[az,ah du.p rfl,ai (by kernel_rfl) (aE.cell (o:=0+0) rfl),aO aV.u aF.ls,au,ag];refine⟨fun a2=>?_,fun a6=>U _ _ ⟨Ext.refl _,false,rfl,⟨fun h=>(by cases h),fun h=>by omega⟩⟩⟩;have Y:i<p.length:=by omega
  have I:p[i]? =some p[i]:=x3 Y;rw[az,ah du.p rfl,ai (by kernel_rfl) (aE.cell (o:=0+0) rfl),bm aV.u bb.i (by kernel_rfl) aF.ls I];refine vX.mono ?_;rintro _ ao _ ⟨rfl,ap⟩;rw[b3];refine U _ _ ⟨ap,_,rfl,⟨fun h=>⟨Y,fun c V=>?_⟩,fun h=>by rw[h.2 _ I];rfl⟩⟩;rw[I] at V;cases V;cases am:cc p[i] with
  |false=>rfl
  |true=>rw[am] at h;cases h
 rintro _ ao ⟨ap,bg,rfl,aH⟩;have W:=ak.trans ap;have aa:=E.ext W;have ab:=ae.ext W;have aI:∀ r,leads ac r→r≠g:=fun r bc=>bW ab aa (by decide) bc;have aq:mZ p at_=open Classical in if i<p.length∧(∀ c,p[i]? =some c→cc c=false) then .text i else if a=i then .none else .word a i:=by
  unfold mZ;rw[show e1 p at_=a from aA.symm,show gD p a=i from ba.symm]
 rw[cE];refine⟨fun al=>?_,fun aJ=>?_⟩
 ·rw[az,ah du.p rfl];refine bE (g:=g) (o:=2) J.i rfl rfl aa (by simp) fun bh aL bi bd=>?_;unfold py;rw[aq,if_pos (aH.1 al)];exact⟨rfl,(W.ad _).trans aL,aw,ax,aR,bd,ay,bp ab aL aI⟩
 ·have aM:¬(i<p.length∧ ∀ c,p[i]? =some c→cc c=false):=fun h=>by rw[aH.2 h] at aJ;cases aJ
  rw[bQ,ag];refine⟨fun bj=>?_,fun bk=>?_⟩
  ·intro bl av _ _;rw[az,ah du.p rfl,ai (by kernel_rfl) ((aa.ext av).cell (o:=0+0) rfl),aO aV.u (ab.ext av).ls];unfold py;rw[aq,if_neg aM,if_pos (by omega)];exact⟨p.length,rfl,W.trans av⟩
  ·rw[az,ah du.p rfl];refine bE (g:=g) (o:=1) J.i rfl rfl aa (by simp) fun bn aN bo aP=>?_;have aQ:=bp ab aN aI;rw[az,ah du.p rfl,ai (by kernel_rfl) (aP.cell (o:=0+0) rfl)];refine Bs (i:=a) (j:=i) aV.u bb.i aQ.ls aX hi fun bq be=>?_;rw[sZ aV.u bb.u a1.u be];unfold py;rw[aq,if_neg aM,if_neg (by omega)];exact⟨rfl,(W.ad _).trans aN,aw,ax,hi,aP,ay,aQ⟩
abbrev br:av:=fun _=>False
abbrev dS (n:Nat):av:=fun r=>n≤r
theorem Bu {a b:List Int} {Z bv:x4} {w:x5} (I:aH .i64 w Z a) (aa:aH .i64 w bv b):
  O y0 n4 [Z,bv] w fun v w'=>v= .bool (decide (a=b))∧Ext w w':=by
 apply n4.enter;rw[aO ab.u I,aO ab.u aa];simp only[bN,ag];refine⟨fun V=>⟨?_,Ext.refl _⟩,fun ac=>?_⟩
 ·rw[decide_eq_false];rintro rfl;exact V rfl
 ·have ac:a.length=b.length:=by omega
  rw[aO ab.u I];refine a8.range a.length (fun i _ W=>Ext w W∧a.take i=b.take i) I.le ⟨Ext.refl _,rfl⟩ ?_ ?_
  ·rintro i t4 W k ad ⟨E,X⟩ ae;simp only[au,ag,aQ];refine⟨fun _ ah af _ _=>?_,fun h=>by omega⟩;have E:=E.trans af;obtain⟨x,Y⟩:∃ x,a[i]? =some x:=⟨_,x3 ad⟩;obtain⟨y,U⟩:∃ y,b[i]? =some y:=⟨_,x3 (by omega)⟩;rw[bm ab.u J.i (by kernel_rfl) (I.ext E) Y,bm ab.u J.i (by kernel_rfl) (aa.ext E) U];simp only[bN,ag,aK];refine⟨fun V=>⟨?_,E⟩,fun ai=>ae _ _ ⟨E,sL X Y U (by omega)⟩⟩;rw[decide_eq_false];rintro rfl;rw[Y] at U;cases U;exact V rfl
  ·rintro _ W k ⟨E,X⟩;simp only[au,ag];refine⟨fun h=>by omega,fun _=>⟨?_,E⟩⟩;rw[decide_eq_true];rwa [l5,ac,l5] at X
def hd (rest:List (List Int)) (i:Nat):List (List Int):=(X7 i).flatMap fun(v:Nat)=>rest.map fun t=>(v:Int)::t
theorem Bv (rest:List (List Int)) (i:Nat):hd rest (i+1)=hd rest i++rest.map fun t=>(i:Int)::t:=by
 simp[hd,List.range_succ]
theorem v8 (rest:List (List Int)) (i:Nat):(hd rest i).length=i*rest.length:=by
 simp only[hd,List.length_flatMap,o4];rw[List.map_const',List.length_range,List.sum_replicate_nat]
theorem wa:∀ (s:List Int) {sv:x4} {w:x5},aH .i64 w sv s→bR s→
  O y0 kT [sv] w fun v w'=>Ext w w'∧dv (dS w.heap.size) br w' [v] (bG s)
 |[],sv,w,h,Z=>by
  apply kT.enter;rw[aO ab.u h];simp only[bQ,List.length_nil,Int.natCast_zero,decide_true,bP];refine lm (α:=List Int) (a:=[]) (cs:=[.slice none 0 0]) (A:=br) cq.u ab.i (by decide) rfl h8 fun v w' al E _=>⟨al,ax.mono E (fun r _ h=>?_) fun _ _ h=>h⟩;exact h.elim False.elim id
 |k::s,sv,w,h,Z=>by
  have aM:=prod_bound Z;have aa:bR s:=Z.drop 1;have aN:=Z.2 k (.head _);have am:=iN aa.2;have aP:=prod_bound aa;obtain⟨kn,rfl⟩:∃ kn:Nat,k=kn:=⟨k.toNat,by omega⟩;have aQ:kn*(bG s).length≤1073741824:=by
   have e:((kn*(bG s).length:Nat):Int)=aG ((kn:Int)::s):=by
    rw[Int.natCast_mul,am,aG,Int.toNat_of_nonneg (by omega)]
   omega
  apply kT.enter;rw[aO ab.u h];simp only[bQ,ag];refine⟨fun ao=>by simp at ao;omega,fun _=>?_⟩;refine A1 (i:=1) rfl ab.u J.i h (by simp) fun ap h'=>?_;refine (wa s h' aa).mono ?_;rintro aR U _ ⟨ac,W⟩;have aS:=ke W;refine a8.range kn (fun i out X=>Ext U X∧dv (dS U.heap.size) br X [out] (hd (bG s) i)) (by omega) ⟨Ext.refl _,h8⟩ ?_ ?_
  ·rintro i out aq av ai ⟨V,E⟩ aw;have ay:=c0 W V;rw[eE (y:=0) (i:=0) rfl ab.u J.i (by kernel_rfl) (h.ext (ac.trans V)) (by rfl)];simp only[au,ag];refine⟨fun _=>?_,fun h=>by omega⟩;rw[h9 cq.u ay];refine a8.range (bG s).length (fun j out X=>Ext U X∧dv (dS U.heap.size) br X [out] (hd (bG s) i++((bG s).take j).map fun t=>(i:Int)::t)) (by omega) ⟨V,by simpa using E⟩ ?_ ?_
   ·rintro j out I az aA ⟨Y,E⟩ aB;simp only[au,ag];refine⟨fun _=>?_,fun h=>by omega⟩;obtain⟨x,ad⟩:∃ x,(bG s)[j]? =some x:=⟨_,x3 aA⟩;have aT:x.length≤100:=by
     have:=AF ad;have:=aa.1;omega
    refine vr rfl rfl cq.u ab.i (by kernel_rfl) (c0 W Y) ad fun u hu=>?_;refine dW ab.u J.i rfl fun a aU aV aW ae aC=>?_;refine hb ab.u J.i rfl aC (kh (c0 hu ae)) (by simp;omega) (by simp;omega) fun b aX aD aY af aE=>?_;have aZ:=ae.size;have aj:Ext I aD:=ae.then aE (by rintro r W rfl;omega);have a1:=aj.size;refine lm (α:=List Int) (a:=(i:Int)::x) (cs:=[b]) (A:=dS I.heap.size) (R:=br) cq.u ab.i (by decide) (qU (mT af (R:=br))) (ax.mono (mT af) (fun r _ h=>by subst h;show I.heap.size≤r;omega) fun _ _ h=>h) fun c a2 ah _ aF=>?_;have ak:=aj.trans ah;have a6:=ah.size;refine mS (α:=List Int) (a:=(i:Int)::x) (A:=dS I.heap.size) cq.u ab.i rfl (c0 (ke E) ak) aF (c0 (ax.mono (mT af) (fun r _ h=>by subst h;show I.heap.size≤r;omega) fun _ _ h=>h) ah) (fun r _ h h'=>?_) ?_ ?_ fun ap a7 aI aJ=>?_
    ·rcases h' with h'|h'
     ·have:=h.2;have:I.heap.size≤r:=h';omega
     ·exact h'
    ·have aL:(hd (bG s) i++((bG s).take j).map fun t=>(i:Int)::t).length+1≤kn*(bG s).length:=by
      simp only[o5,v8,o4,l6];have:(i+1)*(bG s).length≤kn*(bG s).length:=X3 _ ai;rw[W7] at this;omega
     omega
    ·have aL:(hd (bG s) i++((bG s).take j).map fun t=>(i:Int)::t).length+1≤kn*(bG s).length:=by
      simp only[o5,v8,o4,l6];have:(i+1)*(bG s).length≤kn*(bG s).length:=X3 _ ai;rw[W7] at this;omega
     omega
    ·simp only[aK];have ba:=Y.size;refine aB _ _ ⟨(Y.trans ak).then aJ (fun r W h=>?_),?_⟩
     ·have:=h.1;have:U.heap.size≤r:=this;omega
     ·have e:hd (bG s) i++((bG s).take (j+1)).map (fun t=>(i:Int)::t)=(hd (bG s) i++((bG s).take j).map fun t=>(i:Int)::t)++[(i:Int)::x]:=by
       rw[o3,ad];simp
      rw[e];refine ax.mono aI (fun r _ h=>?_) fun _ _ h=>h;show U.heap.size≤r;rcases h with h|h|h
      ·exact h.1
      ·have:I.heap.size≤r:=h;omega
      ·omega
   ·rintro out I az ⟨Y,E⟩;simp only[au,ag,aK];refine⟨fun h=>by omega,fun _=>aw _ _ ⟨Y,?_⟩⟩;rw[Bv];simpa using E
  ·rintro out aq av ⟨V,E⟩;rw[eE (y:=0) (i:=0) rfl ab.u J.i (by kernel_rfl) (h.ext (ac.trans V)) (by rfl)];simp only[au,ag];refine⟨fun h=>by omega,fun _=>⟨ac.trans V,?_⟩⟩;have bb:=ac.size;have e:bG ((kn:Int)::s)=hd (bG s) kn:=by simp[bG,hd]
   rw[e];exact ax.mono E (fun r _ h=>by have:U.heap.size≤r:=h;show w.heap.size≤r;omega) fun _ _ h=>h
end Go.Proofs.YtgbkinibgjmodaaGreatDoor
namespace Go.Proofs.YtgbkinibgjmodaaGreatDoor
open Go Go.Vc Go.RowKit Go.Proofs Go.Proofs.Tryz
set_option maxRecDepth 100000
def ic (a c:Nat):Nat:=(BitVec.ofNat 64 a &&& ~~~BitVec.ofNat 64 c).toNat
theorem Bw (a c i:Nat):(ic a c).testBit i=(decide (i<64)&&(a.testBit i&& !c.testBit i)):=by
 unfold ic;rw[BitVec.testBit_toNat,BitVec.getLsbD_and,BitVec.getLsbD_not,BitVec.getLsbD_ofNat,BitVec.getLsbD_ofNat];by_cases h:i<64 <;> simp[h]
theorem Bx {a n:Nat} (h:∀ i,n≤i→a.testBit i=false):a<2 ^ n:=Nat.lt_pow_two_of_testBit a h
end Go.Proofs.YtgbkinibgjmodaaGreatDoor
namespace Go.Proofs.YtgbkinibgjmodaaGreatDoor
open Go Go.Vc Go.RowKit Go.Proofs Go.Proofs.Tryz
set_option maxRecDepth 100000
section
variable {P:X1} {w:x5} {t:o6} {cx cy:Bool} {a b:Nat} {K:x4→Prop}
theorem kl (a:Nat):W6 64 (a:Int)=BitVec.ofNat 64 a:=BitVec.ofInt_natCast _ _
theorem wb (x:BitVec 64):V0.wrap (x.toNat:Int)=(x.toNat:Int):=by
 have:=x.isLt;rw[wrap_u64 (by omega) (by omega)]
theorem u64_and (E:a<2 ^ 64) (J:b<2 ^ 64):I P (U .and t cx cy (.int .u64 a) (.int .u64 b)) w K=K (.int .u64 ((a &&& b:Nat):Int)):=I.of fun w' _=>by
 have e:(W6 64 (a:Int) &&& W6 64 (b:Int)).toNat=a &&& b:=by
  rw[kl,kl,BitVec.toNat_and,BitVec.toNat_ofNat,BitVec.toNat_ofNat,Nat.mod_eq_of_lt E,Nat.mod_eq_of_lt J]
 have hw:V0.wrap ((a &&& b:Nat):Int)=((a &&& b:Nat):Int):=by rw[←e];exact wb _
 have O:(W6 V0.bits (a:Int) &&& W6 V0.bits (b:Int)).toNat=a &&& b:=e;simp only[U,eqGuard,binOp,Op.intBits,O,hw];rfl
theorem By:I P (U .andNot t cx cy (.int .u64 a) (.int .u64 b)) w K=K (.int .u64 (ic a b:Int)):=I.of fun w' _=>by
 have e:(W6 64 (a:Int) &&& ~~~W6 64 (b:Int)).toNat=ic a b:=by rw[kl,kl];rfl
 have hw:V0.wrap (ic a b:Int)=(ic a b:Int):=wb _;have E:(W6 V0.bits (a:Int) &&& ~~~W6 V0.bits (b:Int)).toNat=ic a b:=e;simp only[U,eqGuard,binOp,Op.intBits,E,hw];rfl
theorem s6 {k:o8} {n:Nat} (E:n<64):I P (U .shr t cx cy (.int .u64 (a:Int)) (.int k (n:Int))) w K=K (.int .u64 ((a / 2 ^ n:Nat):Int)):=I.of fun w' _=>by
 have e:(a:Int).fdiv (2 ^ min n V0.bits)=((a / 2 ^ n:Nat):Int):=by
  have:min n V0.bits=n:=Nat.min_eq_left (by show n≤64;omega);rw[this,Int.fdiv_eq_ediv_of_nonneg _ (by exact Int.le_of_lt (Int.pow_pos (by omega)))];simp
 simp only[U,eqGuard,binOp,Op.shift,c9,e];simp[show ¬(n:Int)<0 by omega]
theorem wc {k:o8} {n:Nat} (E:n<64):I P (U .shl t cx cy (.int .u64 1) (.int k (n:Int))) w K=K (.int .u64 ((2 ^ n:Nat):Int)):=by
 rw[ve (by omega)];have e:min ((n:Int).toNat) V0.bits=n:=Nat.min_eq_left (by show n≤64;omega);have J:2 ^ n<2 ^ 64:=Nat.pow_lt_pow_right (by omega) E;rw[e,Int.one_mul,show ((2:Int) ^ n)=((2 ^ n:Nat):Int) by simp];generalize 2 ^ n=q at J ⊢;rw[wrap_u64 (by omega) (by omega)]
end
def iQ (b n:Nat):x4:=.agg #[.int .u64 (b:Int),.int .i64 (n:Int)]
def pz (b n:Nat):Prop:=n≤32∧b<2 ^ n
theorem Bz (s i:Nat):(2 ^ s-1).testBit i=decide (i<s):=Nat.testBit_two_pow_sub_one s i
theorem we {b n:Nat} {v:Int} {w:x5}:O y0 mc [iQ b n,.int .i64 v] w fun r w'=>r= .bool (decide (0≤v∧v<n))∧Ext w w':=by
 apply mc.enter;refine ce fun g J U E I=>?_;simp only[aB,cV,ag];refine⟨fun h=>?_,fun h=>⟨?_,E⟩⟩
 ·rw[ah bl.p rfl,ai (by kernel_rfl) (I.cell (o:=0+1) rfl)];simp only[au];exact⟨by simp[h],E⟩
 ·rw[decide_eq_false];omega
theorem BA {b n:Nat} {w:x5}:O y0 nP [iQ b n] w fun r w'=>r= .int .i64 n∧Ext w w':=by
 apply nP.enter;refine ce fun g J U E I=>?_;rw[ah bl.p rfl,ai (by kernel_rfl) (I.cell (o:=0+1) rfl)];exact⟨rfl,E⟩
theorem BB {n:Int} {w:x5}:O y0 nX [.int .i64 n] w fun r w'=>Ext w w'∧r=(if 1≤n∧n≤32 then .tuple #[iQ (2 ^ n.toNat-1) n.toNat,.int .i64 0] else .tuple #[iQ 0 0,.int .i64 1]):=by
 apply nX.enter;refine bO bl.i fun g W ab J U=>?_;refine aZ (fun v X=>v= .bool (decide (¬(1≤n∧n≤32)))∧W=X) ?_ ?_
 ·rintro _ _ ⟨rfl,rfl⟩;simp only[ag];refine⟨fun h=>?_,fun h=>?_⟩
  ·rw[cW (cs:=#[.int .u64 0,.int .i64 0]) (by kernel_rfl)];refine b4 (vs:=[.int .u64 0,.int .i64 0]) bl.i rfl rfl (by intro u hu;simp at hu;rcases hu with rfl|rfl <;> rfl) U fun Y E Z I=>?_;rw[eN bl.p bl.i rfl I.range,if_neg h];exact⟨J.then E (by rintro r aa rfl;omega),rfl⟩
  ·have h:1≤n∧n≤32:=X2.1 h;obtain⟨m,rfl⟩:∃ m:Nat,n=m:=⟨n.toNat,by omega⟩;rw[wc (by omega)];have ac:0<2 ^ m:=Nat.two_pow_pos m;have ad:2 ^ m≤2 ^ 32:=Nat.pow_le_pow_right (by omega) (by omega);simp only[dD];rw[wrap_u64 (by omega) (by omega),show (((2 ^ m:Nat):Int)-1)=((2 ^ m-1:Nat):Int) by omega];rw[cW (cs:=#[.int .u64 ((2 ^ m-1:Nat):Int),.int .i64 m]) (by kernel_rfl)];refine b4 (vs:=[.int .u64 ((2 ^ m-1:Nat):Int),.int .i64 m]) bl.i rfl rfl (by intro u hu;simp at hu;rcases hu with rfl|rfl <;> rfl) U fun Y E Z I=>?_;rw[eN bl.p bl.i rfl I.range,if_pos h];exact⟨J.then E (by rintro r aa rfl;omega),rfl⟩
 ·intro ae V;simp only[au,bV,ag];refine⟨fun h=>V _ _ ⟨?_,rfl⟩,fun h=>V _ _ ⟨?_,rfl⟩⟩
  ·rw[decide_eq_true];omega
  ·congr 1;simp;omega
theorem BC {b n:Nat} {v:Int} {w:x5} (af:pz b n):O y0 nY [iQ b n,.int .i64 v] w fun r w'=>r=iQ (if 0≤v∧v<n then ic b (2 ^ v.toNat) else b) n∧Ext w w':=by
 apply nY.enter;refine ce fun g aw ax W X=>?_;refine bO bl.i fun aj ay az Y Z=>?_;have aA:=W.size;have aB:=X.lt;refine dF (fun I=>∃ J,ak I g bl [.int .u64 ((J:Nat):Int),.int .i64 (n:Int)]∧ak I aj bl [.int .u64 0,.int .i64 0]∧Ext w I∧J=(if 0≤v∧v<n then ic b (2 ^ v.toNat) else b)) ?_ ?_
 ·rintro I ⟨J,al,am,ao,rfl⟩;rw[bI bl.p bl.i rfl al.range];refine b4 (vs:=[_,_]) bl.i rfl rfl (by intro u hu;simp at hu;rcases hu with rfl|rfl <;> rfl) am fun aC ap aD aq=>?_;rw[eN bl.p bl.i rfl aq.range];exact⟨rfl,ao.then ap (by rintro r au rfl;omega)⟩
 ·intro aE aa;have U:=X.ext Y;rw[bI bl.p bl.i rfl U.range];refine we.mono ?_;rintro _ aF _ ⟨rfl,E⟩;have ab:=(W.trans Y).trans E;simp only[ag,aQ];refine⟨fun h aG V _ _=>?_,fun h=>aa _ ⟨b,U.ext E,Z.ext E,ab,by rw[if_neg h]⟩⟩;have ac:=(U.ext E).ext V;rw[ah bl.p rfl,ai (by kernel_rfl) (ac.cell (o:=0+0) rfl)];obtain⟨s,rfl⟩:∃ s:Nat,v=s:=⟨v.toNat,by omega⟩;have aH:=af.1;rw[wc (by omega),By,ah bl.p rfl];refine bE bD.i rfl rfl ac (by simp[iQ,x4.cells]) fun aI ae aJ av=>?_;refine aa _ ⟨_,av,((Z.ext E).ext V).ad ae (by omega),(ab.trans V).then ae (by rintro r au rfl;omega),?_⟩;rw[if_pos h,c9]
end Go.Proofs.YtgbkinibgjmodaaGreatDoor
namespace Go.Proofs.YtgbkinibgjmodaaGreatDoor
open Go Go.Vc Go.RowKit Go.Proofs Go.Proofs.Tryz
set_option maxRecDepth 100000
abbrev dG (s:List Int):Prop:=∀ x∈s,1≤x∧x≤32
theorem dG.tail {k:Int} {s:List Int} (h:dG (k::s)):dG s:=fun x E=>h x (.tail _ E)
theorem jx {s:List Int} (h:dG s):1≤aG s:=(pq s h).1
theorem m3:∀ (s t:List Int) (m:Int),cg s t m=(cg s t 0).map fun n=>n+m*aG s
 |[],[],m=>by simp[cg,aG]
 |k::s,v::t,m=>by
  unfold cg;split
  ·rw[m3 s t (m*k+v),m3 s t (0*k+v)];simp only[Option.map_map,aG];congr 1;funext n;simp only[Function.comp];rw[Int.add_mul,Int.add_mul,←Int.mul_assoc];simp;omega
  ·rfl
 |[],_::_,_=>rfl
 |_::_,[],_=>rfl
theorem s7 {L j:Nat} {rest:List (List Int)} (O:rest.length=L):∀ {kn v:Nat},v<kn→ ∀ {x:List Int},rest[j]? =some x→
  ((X7 kn).flatMap fun(v:Nat)=>rest.map fun t=>(v:Int)::t)[v*L+j]? =some ((v:Int)::x)
 |0,v,h,_,_=>by omega
 |kn+1,v,h,x,I=>by
  have U:=(x6.1 I).1;have J:((X7 kn).flatMap fun(v:Nat)=>rest.map fun t=>(v:Int)::t).length=kn*L:=by
   simp only[List.length_flatMap,o4,O];rw[List.map_const',List.length_range,List.sum_replicate_nat]
  rw[List.range_succ,List.flatMap_append];by_cases E:v<kn
  ·have:(v+1)*L≤kn*L:=X3 _ E;rw[W7] at this;rw[Z1 (by rw[J];omega)];exact s7 O E I
  ·have E:v=kn:=by omega
   subst E;rw[Z4 (by rw[J];omega),J,show v*L+j-v*L=j by omega];simp[I]
theorem s8:∀ {s:List Int},dG s→ ∀ {i:Nat} {t:List Int},(bG s)[i]? =some t→cg s t 0=some (i:Int)
 |[],_,i,t,h=>by
  cases i with
  |zero=>simp[bG] at h;subst h;rfl
  |succ i=>simp[bG] at h
 |k::s,E,i,t,h=>by
  have Y:=E k (.head _);have I:=iN E.tail;have Z:=jx E.tail;obtain⟨kn,rfl⟩:∃ kn:Nat,k=kn:=⟨k.toNat,by omega⟩;have hi:=(x6.1 h).1;rw[iN E,aG,Int.toNat_mul (by omega) (by omega),←I,c9] at hi;have V:0<(bG s).length:=by omega
  have J:i / (bG s).length<kn:=Nat.div_lt_of_lt_mul (by rw[Nat.mul_comm];exact hi);have W:i % (bG s).length<(bG s).length:=Nat.mod_lt _ V;obtain⟨x,O⟩:∃ x,(bG s)[i % (bG s).length]? =some x:=⟨_,x3 W⟩;have U:=s7 (kn:=kn) rfl J O;rw[Nat.mul_comm,Nat.div_add_mod] at U;have h':((X7 ((kn:Int).toNat)).flatMap fun(v:Nat)=>(bG s).map fun t=>(v:Int)::t)[i]? =some t:=h;rw[c9,U] at h';cases h';unfold cg;rw[if_pos ⟨Int.natCast_nonneg _,Int.ofNat_lt.2 J⟩,m3,s8 E.tail O];simp only[b6,Z7,Int.zero_mul,Int.zero_add];have X:aG s=((bG s).length:Int):=by rw[I];omega
  rw[X,←Int.natCast_mul,←Int.natCast_add];congr 1;rw[Nat.mul_comm,Nat.add_comm,Nat.div_add_mod]
theorem q5:∀ {s:List Int},dG s→ ∀ {t:List Int} {n:Int},cg s t 0=some n→(bG s)[n.toNat]? =some t
 |[],_,[],n,h=>by simp[cg] at h;subst h;rfl
 |k::s,I,v::t,n,h=>by
  have W:=I k (.head _);have O:=iN I.tail;have X:=jx I.tail;obtain⟨kn,rfl⟩:∃ kn:Nat,k=kn:=⟨k.toNat,by omega⟩;unfold cg at h;split at h
  ·rename_i Y;rw[m3] at h;cases J:cg s t 0 with
   |none=>rw[J] at h;cases h
   |some q=>
    rw[J] at h;simp only[b6,Z7,Int.zero_mul,Int.zero_add] at h;have U:=iM I.tail J;simp only[Int.zero_mul,Int.zero_add,Int.one_mul] at U;obtain⟨E,rfl⟩:∃ E:Nat,v=E:=⟨v.toNat,by omega⟩;have V:=s7 (kn:=kn) (v:=E) rfl (by omega) (q5 I.tail J);have e:n.toNat=E*(bG s).length+q.toNat:=by
     rw[←h,O];have:((E*(aG s).toNat:Nat):Int)=(E:Int)*aG s:=by rw[Int.natCast_mul,Int.toNat_of_nonneg (by omega)]
     omega
    rw[e];show ((X7 ((kn:Int).toNat)).flatMap fun(v:Nat)=>(bG s).map fun t=>(v:Int)::t)[_]? =_;rw[c9];exact V
  ·cases h
 |[],_,_::_,_,h=>by cases h
 |_::_,_,[],_,h=>by cases h
theorem wg:∀ (s:List Int),dG s→ ∀ (n c:Int),cv s (n+c*aG s)=cv s n
 |[],_,_,_=>rfl
 |k::s,E,n,c=>by
  have I:=jx E.tail;simp only[cv,aG];rw[←Int.mul_assoc,wg s E.tail,Int.add_mul_ediv_right _ _ (by omega),Int.add_mul_emod_self_right]
theorem q6:∀ {s:List Int},dG s→ ∀ {n:Int},0≤n→n<aG s→cg s (cv s n) 0=some n
 |[],_,n,I,h1=>by simp[aG] at h1;simp[cv,cg];omega
 |k::s,E,n,I,h1=>by
  have U:=E k (.head _);have V:=jx E.tail;simp only[cv,aG] at h1 ⊢;have J:n / aG s<k:=Int.ediv_lt_of_lt_mul (by omega) h1;have O:0≤n / aG s:=Int.ediv_nonneg I (by omega);have hm:n / aG s % k=n / aG s:=Int.emod_eq_of_lt O J;rw[hm];unfold cg;rw[if_pos ⟨O,J⟩,m3];have e:cv s n=cv s (n % aG s):=by
   have:=wg s E.tail (n % aG s) (n / aG s);rw[←this];congr 1;have:=Int.emod_add_mul_ediv n (aG s);rw[Int.mul_comm (n / aG s)];omega
  rw[e,q6 E.tail (Int.emod_nonneg _ (by omega)) (Int.emod_lt_of_pos _ (by omega))];simp only[b6,Z7,Int.zero_mul,Int.zero_add];have:=Int.emod_add_mul_ediv n (aG s);rw[Int.mul_comm (n / aG s)];omega
theorem q7 {s:List Int} (E:dG s) {i:Nat} (h:(i:Int)<aG s):(bG s)[i]? =some (cv s i):=by
 have:=q5 E (q6 E (n:=(i:Int)) (by omega) h);simpa using this
end Go.Proofs.YtgbkinibgjmodaaGreatDoor
namespace Go.Proofs.YtgbkinibgjmodaaGreatDoor
open Go Go.Vc Go.RowKit Go.Proofs Go.Proofs.Tryz
set_option maxRecDepth 100000
def cn (s cs t:List Int):Int:=match cg s t 0 with
 |some n=>cs.getD n.toNat 0
 |none=>0
def upto {α:Type} (l:List α) (d:α) (i:Nat):List α:=l.take i++p9 (l.length-i) d
theorem pA {α:Type} (l:List α) (d:α) (i:Nat):(upto l d i).length=l.length:=by simp[upto];omega
theorem pB {α:Type} (l:List α) (d:α):upto l d 0=p9 l.length d:=by simp[upto]
theorem pC {α:Type} (l:List α) (d:α):upto l d l.length=l:=by simp[upto]
theorem pD {α:Type} {l:List α} {d x:α} {i:Nat} (h:l[i]? =some x):(upto l d i).set i x=upto l d (i+1):=by
 have hi:=(x6.1 h).1;unfold upto;rw[V2 _ _ (by simp;omega),o3,h];have e:i-(l.take i).length=0:=by simp;omega
 obtain⟨m,hm⟩:∃ m,l.length-i=m+1:=⟨l.length-i-1,by omega⟩;rw[e,hm,show l.length-(i+1)=m by omega];simp[List.replicate_succ]
theorem BD {α:Type} {l:List α} {i:Nat} {x:α} (h:l[i]? =some x):l.set i x=l:=by
 apply X6;intro j;rw[Y7];split
 ·rename_i E;subst E;rw[if_pos (x6.1 h).1,h]
 ·rfl
end Go.Proofs.YtgbkinibgjmodaaGreatDoor
namespace Go.Proofs.YtgbkinibgjmodaaGreatDoor
open Go Go.Vc Go.RowKit Go.Proofs Go.Proofs.Tryz
set_option maxRecDepth 100000
def s9:List Int→Int
 |[]=>0
 |x::l=>l.foldl min x
def wh (P:Int→Prop) (m:Int):Prop:=P m∧ ∀ x,P x→m≤x
def cM (s t:List Int):Prop:=∃ n,cg s t 0=some n
theorem BE (k v:Int) (s t:List Int):cg (k::s) (v::t) 0=if 0≤v∧v<k then (cg s t 0).map (fun n=>n+(0*k+v)*aG s) else none:=by
 conv=>lhs;unfold cg
 rw[m3]
theorem wi {k v:Int} {s t:List Int}:cM (k::s) (v::t)↔(0≤v∧v<k)∧cM s t:=by
 unfold cM;rw[BE];constructor
 ·rintro⟨n,h⟩;split at h
  ·rename_i E;cases I:cg s t 0 with
   |none=>rw[I] at h;cases h
   |some q=>exact⟨E,q,rfl⟩
  ·cases h
 ·rintro⟨E,q,I⟩;rw[if_pos E,I];exact⟨_,rfl⟩
theorem wj {t:List Int}:cM [] t↔t=[]:=by
 cases t with
 |nil=>exact⟨fun _=>rfl,fun _=>⟨0,rfl⟩⟩
 |cons v t=>
  constructor
  ·rintro⟨_,h⟩;cases h
  ·intro h;cases h
theorem q8 {s t:List Int} (h:cM s t):s.length=t.length:=by
 obtain⟨n,h⟩:=h;rcases Nat.decEq s.length t.length with E|E
 ·rw[sQ s t 0 E] at h;cases h
 ·exact E
theorem wk {s t:List Int} (E:dG s) {n:Int} (h:cg s t 0=some n):cv s n=t:=by
 have J:=iM E h;have h1:=q5 E h;simp only[Int.zero_mul,Int.zero_add,Int.one_mul] at J;have I:=q7 E (i:=n.toNat) (by omega);rw[h1] at I;have e:((n.toNat:Nat):Int)=n:=by omega
 rw[e] at I;exact (b9 I).symm
theorem q9 {s cs:List Int} (E:dG s) (I:cs.length=(aG s).toNat):cs=(X7 (aG s).toNat).map fun(q:Nat)=>cn s cs (cv s q):=by
 apply List.ext_getElem
 ·simp[I]
 ·intro i h1 J;rw[List.getElem_map,List.getElem_range];have O:=jx E;have hi:(i:Int)<aG s:=by omega
  unfold cn;rw[q6 E (by omega) hi];simp only[c9];rw[p8,x3 h1];rfl
theorem ta {s:List Int} (E:dG s) {q:Nat} (I:q<(aG s).toNat):cM s (cv s q):=⟨_,q6 E (by omega) (by have:=jx E;omega)⟩
theorem BF {s cs E:List Int} (I:dG s) (J:cs.length=(aG s).toNat) (O:E.length=(aG s).toNat) (h:∀ t,cM s t→cn s cs t=cn s E t):cs=E:=by
 rw[q9 I J,q9 I O];apply List.map_congr_left;intro q U;exact h _ (ta I (by simpa using U))
theorem BG {l:List Int} (h:l≠[]):wh (fun c=>c∈l) (s9 l):=by
 obtain⟨x,r,rfl⟩:∃ v r,l=v::r:=by cases l with
  |nil=>exact absurd rfl h
  |cons v r=>exact⟨v,r,rfl⟩
 clear h;show wh (fun c=>c∈x::r) (r.foldl min x);induction r generalizing x with
 |nil=>exact⟨.head _,fun y J=>by simp at J;simp[J]⟩
 |cons y r O=>
  rw[List.foldl_cons];obtain⟨h1,I⟩:=O (min x y);refine⟨?_,fun z E=>?_⟩
  ·rcases U6.1 h1 with h1|h1
   ·rw[h1];rcases Int.le_total x y with h|h
    ·rw[Int.min_eq_left h];exact .head _
    ·rw[Int.min_eq_right h];exact .tail _ (.head _)
   ·exact .tail _ (.tail _ h1)
  ·rcases U6.1 E with rfl|E
   ·have:=I _ (.head _);omega
   ·rcases U6.1 E with rfl|E
    ·have:=I _ (.head _);omega
    ·exact I _ (.tail _ E)
end Go.Proofs.YtgbkinibgjmodaaGreatDoor
namespace Go.Proofs.YtgbkinibgjmodaaGreatDoor
open Go Go.Vc Go.RowKit Go.Proofs Go.Proofs.Tryz
set_option maxRecDepth 100000
def m4 (m:List Int) (i j:Nat):Prop:=∀ (p q:Nat) (x y:Int),p<q→q≤i→q≠j→m[p]? =some x→m[q]? =some y→x≤y
def pE (m:List Int) (i:Nat):Prop:=∀ (p q:Nat) (x y:Int),p<q→q<i→m[p]? =some x→m[q]? =some y→x≤y
theorem BH {m:List Int} {i:Nat} (h:pE m i):m4 m i i:=fun p q x y h1 J O E I=>h p q x y h1 (by omega) E I
theorem BI {m:List Int} {i:Nat} (h:m4 m i 0):pE m (i+1):=fun p q x y h1 J E I=>h p q x y h1 (by omega) (by omega) E I
theorem BJ {m:List Int} {i j:Nat} {a b:Int} (h:m4 m i j) (X:0<j) (J:m[j-1]? =some a) (U:m[j]? =some b) (V:a≤b):pE m (i+1):=by
 intro p q x y h1 Y E I;by_cases O:q=j
 ·subst O;rw[U] at I;cases I;by_cases W:p=q-1
  ·subst W;rw[J] at E;cases E;exact V
  ·have:=h p (q-1) x a (by omega) (by omega) (by omega) E J;omega
 ·exact h p q x y h1 (by omega) O E I
theorem BK {m:List Int} {i j:Nat} {a b:Int} (h:m4 m i j) (ab:0<j) (hi:j≤i) (U:m[j-1]? =some a) (V:m[j]? =some b) (ac:b<a):m4 ((m.set j a).set (j-1) b) i (j-1):=by
 intro p q x y h1 O W E I;have X:=(x6.1 V).1;have Y:∀ (r:Nat),((m.set j a).set (j-1) b)[r]? =if r=j-1 then some b else if r=j then some a else m[r]?:=fun r=>by
  by_cases h:r=j-1
  ·subst h;rw[V7 (by simp;omega),if_pos rfl]
  ·rw[List.getElem?_set_ne (Ne.symm h),if_neg h];by_cases h':r=j
   ·subst h';rw[V7 X,if_pos rfl]
   ·rw[List.getElem?_set_ne (Ne.symm h'),if_neg h']
 rw[Y] at E I;rw[if_neg W] at I;by_cases J:q=j
 ·rw[if_pos J] at I;cases I;split at E
  ·cases E;omega
  ·split at E
   ·omega
   ·exact h p (j-1) x a (by omega) (by omega) (by omega) E U
 ·rw[if_neg J] at I;split at E
  ·cases E;have:=h j q b y;by_cases Z:j<q
   ·exact this Z O J V I
   ·omega
  ·split at E
   ·rename_i aa;subst aa;cases E;exact h (p-1) q a y (by omega) O J U I
   ·exact h p q x y h1 O J E I
theorem swap_perm {m:List Int} {i j:Nat} {a b:Int} (O:i<j) (I:m[i]? =some a) (E:m[j]? =some b):((m.set j a).set i b).Perm m:=by
 induction m generalizing i j with
 |nil=>simp at I
 |cons x m J=>
  cases j with
  |zero=>omega
  |succ j=>
   cases i with
   |zero=>
    simp at I E ⊢;subst I;obtain⟨U,E⟩:=x6.1 E;rw[show m=m.take j++m[j]::m.drop (j+1) by simp];rw[V2 _ _ (by simp;omega)];have e:j-(m.take j).length=0:=by simp;omega
    rw[e,E];simp only[List.set_cons_zero];refine (List.Perm.cons b (List.perm_middle)).trans ?_;refine (List.Perm.swap x b _).trans ?_;exact List.Perm.cons x List.perm_middle.symm
   |succ i=>
    simp at I E ⊢;exact J (by omega) I E
theorem BL {m:List Int} (h:pE m m.length):m.Pairwise (·≤ ·):=by
 rw[W5];intro i j hi E I;exact h i j _ _ I E (x3 hi) (x3 E)
end Go.Proofs.YtgbkinibgjmodaaGreatDoor
namespace Go.Proofs.YtgbkinibgjmodaaGreatDoor
open Go Go.Vc Go.RowKit Go.Proofs Go.Proofs.Tryz
set_option maxRecDepth 100000
def Good (o:List Int) (n:Nat):Prop:=o.length=n∧ ∀ (i:Nat) (p:Int),o[i]? =some p→(0≤p∧p<n)∧ ∀ j,j<i→o[j]? ≠some p
theorem Good.inj {o:List Int} {n i j:Nat} {p:Int} (h:Good o n) (hi:o[i]? =some p) (E:o[j]? =some p):i=j:=by
 rcases Nat.lt_trichotomy i j with h1|h1|h1
 ·exact absurd hi ((h.2 j p E).2 i h1)
 ·exact h1
 ·exact absurd E ((h.2 i p hi).2 j h1)
def wm (m:List Int):Prop:=∀ i:Nat,i<m.length→m[i]? =some (i:Int)
theorem wn {o m:List Int} {n:Nat} (h:Good o n) (E:m.Perm o) (V:m.Pairwise (·≤ ·)):wm m:=by
 have W:o.Nodup:=W5.2 fun i j hi X ac he=>by
  have:=h.inj (i:=i) (j:=j) (p:=o[j]) (by rw[x3 hi,he]) (x3 X);omega
 have Y:m.Nodup:=E.nodup_iff.2 W;have ad:m.length=n:=by rw[E.length_eq,h.1]
 have O:∀ x∈m,0≤x∧x<(n:Int):=fun x Z=>by
  obtain⟨i,hi,he⟩:=List.getElem_of_mem (E.mem_iff.1 Z);exact (h.2 i x (by rw[x3 hi,he])).1
 have U:∀ (i:Nat) (hi:i+1<m.length),m[i]<m[i+1]:=fun i hi=>by
  have h1:=W5.1 V i (i+1) (by omega) hi (by omega);have I:=W5.1 Y i (i+1) (by omega) hi (by omega);omega
 have aa:∀ (i:Nat) (hi:i<m.length),(i:Int)≤m[i]:=by
  intro i;induction i with
  |zero=>intro hi;exact (O _ (T1 hi)).1
  |succ i J=>
   intro hi;have h1:=J (by omega);have I:=U i hi;omega
 have ab:∀ (d i:Nat) (hi:i<m.length),i+d+1=m.length→m[i]≤(i:Int):=by
  intro d;induction d with
  |zero=>
   intro i hi he;have:=(O _ (T1 hi)).2;omega
  |succ d J=>
   intro i hi he;have h1:=J (i+1) (by omega) (by omega);have I:=U i (by omega);omega
 intro i hi;rw[x3 hi];have h1:=aa i hi;have I:=ab (m.length-i-1) i hi (by omega);congr 1;omega
theorem BM {o m:List Int} (h:wm m) (I:m.Perm o):Good o m.length:=by
 have W:m.Nodup:=W5.2 fun i j hi E Y he=>by
  have h1:=h i hi;have J:=h j E;rw[x3 hi] at h1;rw[x3 E] at J;have h1:=b9 h1;have J:=b9 J;omega
 have X:o.Nodup:=I.nodup_iff.1 W;refine⟨I.length_eq.symm,fun i p hi=>⟨?_,fun j E O=>?_⟩⟩
 ·obtain⟨k,U,he⟩:=List.getElem_of_mem (I.mem_iff.2 (u4 hi));have h1:=h k U;rw[x3 U,he] at h1;cases h1;omega
 ·have V:i<o.length:=(x6.1 hi).1;have:=W5.1 X j i (by omega) V E;rw[x3 V] at hi;rw[x3 (show j<o.length by omega)] at O;exact this ((b9 O).trans (b9 hi).symm)
theorem Good.wo {o:List Int} {n p:Nat} (h:Good o n) (I:p<n):∃ j:Nat,o[j]? =some (p:Int):=by
 let le:Int→Int→Bool:=fun a b=>decide (a≤b);have h1:(o.mergeSort le).Perm o:=List.mergeSort_perm o le;have E:(o.mergeSort le).Pairwise (·≤ ·):=by
  refine (List.pairwise_mergeSort (le:=le) (fun a b c h1 E=>?_) (fun a b=>?_) o).imp fun h=>by simpa[le] using h
  ·simp[le] at*;omega
  ·simp[le];omega
 have J:=wn h h1 E p (by rw[h1.length_eq,h.1];exact I);obtain⟨j,O,he⟩:=List.getElem_of_mem (h1.mem_iff.1 (u4 J));exact⟨j,by rw[x3 O,he]⟩
def jy (o x:List Int):List Int:=(X7 o.length).map fun(p:Nat)=>x.getD (o.idxOf (p:Int)) 0
theorem wp (o x:List Int):(jy o x).length=o.length:=by simp[jy]
theorem wq {o x:List Int} {n j:Nat} {p:Int} (h:Good o n) (U:x.length=n) (E:o[j]? =some p):(jy o x)[p.toNat]? =x[j]?:=by
 have h1:=(h.2 j p E).1;have V:j<o.length:=(x6.1 E).1;have hm:p∈o:=u4 E;have I:=List.idxOf_lt_length_of_mem hm;have J:o.idxOf p=j:=h.inj (by rw[x3 I,List.getElem_idxOf I]) E;have O:((p.toNat:Nat):Int)=p:=by omega
 have W:=h.1;unfold jy;rw[r8,List.getElem?_range (by omega)];simp only[b6,O,J];rw[p8,x3 (show j<x.length by omega)];rfl
theorem wr {o x y:List Int} {n:Nat} (h:Good o n) (J:x.length=n) (V:y.length=n) (O:∀ (j:Nat) (p:Int),o[j]? =some p→y[p.toNat]? =x[j]?):y=jy o x:=by
 refine X6 fun p=>?_;have W:=h.1;by_cases U:p<n
 ·obtain⟨j,E⟩:=h.wo U;have h1:=O j p E;have I:=wq h J E;rw[c9] at h1 I;rw[h1,I]
 ·rw[Z8 (by omega),Z8 (by rw[wp];omega)]
theorem lv:∀ {s t:List Int},cM s t↔s.length=t.length∧ ∀ (i:Nat) (a v:Int),s[i]? =some a→t[i]? =some v→0≤v∧v<a
 |[],t=>by
  rw[wj];exact⟨fun h=>⟨by rw[h],fun i a v h _=>by simp at h⟩,fun h=>j9 h.1.symm⟩
 |k::s,[]=>⟨fun h=>absurd (q8 h) (by simp),fun h=>absurd h.1 (by simp)⟩
 |k::s,v::t=>by
  rw[wi,lv (s:=s) (t:=t)];refine⟨fun⟨h1,I,J⟩=>⟨by simp[I],fun i a u E hu=>?_⟩,fun⟨h1,I⟩=>⟨I 0 k v rfl rfl,by simpa using h1,fun i a u E hu=>I (i+1) a u (by simpa using E) (by simpa using hu)⟩⟩;cases i with
  |zero=>simp at E hu;subst E;subst hu;exact h1
  |succ i=>exact J i a u (by simpa using E) (by simpa using hu)
def dA (s o:List Int):List Int:=o.map fun p=>s.getD p.toNat 0
theorem ra (s o:List Int):(dA s o).length=o.length:=by simp[dA]
theorem ws {s o:List Int} {n j:Nat} {p:Int} (h:Good o n) (I:s.length=n) (E:o[j]? =some p):(dA s o)[j]? =s[p.toNat]?:=by
 have h1:=(h.2 j p E).1;unfold dA;rw[r8,E,b6,p8,x3 (show p.toNat<s.length by omega)];rfl
theorem BN {s o:List Int} {n:Nat} (h:Good o n) (O:s.length=n) {x:Int} (E:x∈dA s o):x∈s:=by
 obtain⟨p,I,rfl⟩:=l9.1 E;obtain⟨j,J,he⟩:=List.getElem_of_mem I;have h1:=(h.2 j p (by rw[x3 J,he])).1;rw[p8,x3 (show p.toNat<s.length by omega)];exact T1 _
theorem bR.BO {s o:List Int} {n:Nat} (E:bR s) (h:Good o n) (I:s.length=n):bR (dA s o):=
 ⟨by rw[ra,h.1,←I];exact E.1,fun x J=>E.2 x (BN h I J)⟩
theorem BP {s o x:List Int} {n:Nat} (h:Good o n) (E:s.length=n) (V:cM (dA s o) x):cM s (jy o x):=by
 obtain⟨h1,W⟩:=lv.1 V;rw[ra,h.1] at h1;refine lv.2 ⟨by rw[wp,h.1,E],fun p a v I X=>?_⟩;have Y:p<n:=by have:=(x6.1 I).1;omega
 obtain⟨j,J⟩:=h.wo Y;have O:=ws h E J;have U:=wq h h1.symm J;rw[c9] at O U;exact W j a v (by rw[O,I]) (by rw[←U,X])
def lw (s cs o:List Int):List Int:=(X7 (aG (dA s o)).toNat).map fun(q:Nat)=>cn s cs (jy o (cv (dA s o) q))
theorem wu (s cs o:List Int):(lw s cs o).length=(aG (dA s o)).toNat:=by simp[lw]
theorem tb {f:Int→Bool} {x:Int} {l:List Int}:runN f (x::l)=if f x=true then runN f l+1 else 0:=by
 unfold runN;rw[List.takeWhile_cons];by_cases h:f x=true
 ·rw[if_pos h,if_pos h,c8]
 ·rw[if_neg h,if_neg h];rfl
theorem tc (f:Int→Bool):∀ l:List Int,l.dropWhile f=l.drop (runN f l)
 |[]=>rfl
 |x::l=>by
  rw[List.dropWhile_cons,tb];by_cases h:f x=true
  ·rw[if_pos h,if_pos h,tc f l];rfl
  ·rw[if_neg h,if_neg h];rfl
theorem wv (f:Int→Bool):∀ l:List Int,l.takeWhile f=l.take (runN f l)
 |[]=>rfl
 |x::l=>by
  rw[List.takeWhile_cons,tb];by_cases h:f x=true
  ·rw[if_pos h,if_pos h,List.take_succ_cons,wv f l]
  ·rw[if_neg h,if_neg h];rfl
theorem wx {f:Int→Bool}:∀ {l:List Int} {b:Int} {q:List Int},l.dropWhile f=b::q→f b=false
 |x::l,b,q,h=>by
  rw[List.dropWhile_cons] at h;by_cases E:f x=true
  ·rw[if_pos E] at h;exact wx h
  ·rw[if_neg E] at h;have:=(List.cons.inj h).1;subst this;cases I:f x
   ·rfl
   ·exact absurd I E
theorem td {p:List Int} {a:Nat} {b:Int} {q:List Int} (h:p.drop a=b::q):p[a]? =some b:=by
 have:=List.getElem?_drop (xs:=p) (i:=a) (j:=0);rw[h] at this;simpa using this.symm
theorem BQ (p:List Int) (at_:Nat):match mZ p at_ with
  | .word a b=>lex (p.drop at_)=(((p.take b).drop a)::(lex (p.drop b)).1,(lex (p.drop b)).2)
  | .none=>lex (p.drop at_)=([],true)
  | .text _=>lex (p.drop at_)=([],false):=by
 have O:(p.drop at_).dropWhile cc=p.drop (e1 p at_):=by rw[tc,List.drop_drop];rfl
 have U:(p.drop (e1 p at_)).dropWhile bC=p.drop (gD p (e1 p at_)):=by rw[tc,List.drop_drop];rfl
 have W:(p.drop (e1 p at_)).takeWhile bC=(p.take (gD p (e1 p at_))).drop (e1 p at_):=by
  rw[wv,List.drop_take];congr 1;unfold gD;omega
 have J:runN bC (p.drop (e1 p at_))=gD p (e1 p at_)-e1 p at_:=by unfold gD;omega
 have ah:e1 p at_≤gD p (e1 p at_):=by unfold gD;omega
 unfold mZ;generalize e1 p at_=a at*;generalize gD p a=b at*;by_cases h1:b<p.length∧(∀ c,p[b]? =some c→cc c=false)
 ·rw[if_pos h1];simp only;rw[ia,O];cases E:p.drop a with
  |nil=>
   have:=List.drop_eq_nil_iff.1 E;omega
  |cons x q=>
   simp only;rw[E] at U W J;by_cases I:bC x=true
   ·rw[if_pos I,U];cases V:p.drop b with
    |nil=>have:=List.drop_eq_nil_iff.1 V;omega
    |cons c r=>
     simp only;rw[h1.2 c (td V)];rfl
   ·rw[if_neg I]
 ·rw[if_neg h1];by_cases X:a=b
  ·rw[if_pos X];simp only;subst X;rw[ia,O];cases E:p.drop a with
   |nil=>rfl
   |cons x q=>
    exfalso;have Y:=td E;have ac:=(x6.1 Y).1;rw[E] at J;rw[E] at O;have ad:=wx O;refine h1 ⟨ac,fun c Z=>?_⟩;rw[Y] at Z;cases Z;exact ad
  ·rw[if_neg X];simp only;rw[ia (p.drop at_),O];cases E:p.drop a with
   |nil=>
    rw[E] at J;have:runN bC []=0:=rfl;omega
   |cons x q=>
    simp only;rw[E] at U W J;have I:bC x=true:=by
     rw[tb] at J;by_cases I:bC x=true
     ·exact I
     ·rw[if_neg I] at J;omega
    rw[if_pos I,U,W];cases V:p.drop b with
    |nil=>simp only;rw[ia []];rfl
    |cons c r=>
     simp only;have aa:=td V;have ae:=(x6.1 aa).1;have af:cc c=true:=by
      cases ag:cc c with
      |true=>rfl
      |false=>exact absurd ⟨ae,fun d ab=>by rw[aa] at ab;cases ab;exact ag⟩ h1
     rw[if_pos af]
def fC (w:x5) (g:Nat) (R:Nat→Prop) (toks:List (List Int)) (clean:Bool):Prop:=∃ E p at_,jw w g E p at_ (-1)∧(∀ r,leads E r→R r)∧lex (p.drop at_)=(toks,clean)
theorem fC.ad {S:Nat→Prop} {w w':x5} {g:Nat} {R:Nat→Prop} {toks:List (List Int)} {clean:Bool} (h:fC w g R toks clean) (E:aj S w w') (J:¬S g) (O:∀ r,R r→¬S r):fC w' g R toks clean:=by
 obtain⟨U,p,a,⟨h1,V,W,X,Y,Z⟩,I,aa⟩:=h;exact⟨U,p,a,⟨h1,V,W,X.ad E J,Y,bp Z E fun r ab=>O r (I r ab)⟩,I,aa⟩
theorem fC.words {w:x5} {g:Nat} {R:Nat→Prop} {toks:List (List Int)} {clean:Bool} (h:fC w g R toks clean):toks.length≤100000∧ ∀ t∈toks,Bytes t∧t≠[]∧t.length≤100000:=by
 obtain⟨V,p,a,⟨W,X,Y,_⟩,_,I⟩:=h;have Z:(p.drop a).length≤100000:=by rw[List.length_drop];omega
 have E:=ps _ (p.drop a) (o7 _);rw[I] at E;refine⟨by show toks.length≤_;have E:toks.length≤_:=E;omega,fun t O=>?_⟩;have J:=qZ _ (p.drop a) (o7 _) t (by rw[I];exact O);refine⟨fun b U=>?_,J.1,by omega⟩;have:=of_decide_eq_true (J.2.1 b U);omega
def BR (w:x5) (g:Nat) (R:Nat→Prop) (toks:List (List Int)) (clean:Bool) (v:x4) (w':x5):Prop:=aj (fun r=>r=g) w w'∧match toks with
 |t::l=>fC w' g R l clean∧ ∃ n:Int,v= .tuple #[bu t,.int .i64 n,.int .i64 0]
 |[]=>∃ n:Int,v= .tuple #[bu [],.int .i64 n,.int .i64 (if clean then 2 else 11)]
theorem pF {w:x5} {g:Nat} {R:Nat→Prop} {toks:List (List Int)} {clean:Bool} (h:fC w g R toks clean):O y0 iI [.pointer (some ⟨g,0,none⟩)] w (BR w g R toks clean):=by
 obtain⟨X,p,a,h1,Y,U⟩:=h;refine (Bt h1).mono ?_;intro v w' _ hw;have E:=BQ p a;unfold py at hw;cases V:mZ p a with
 |word x y=>
  rw[V] at hw E;simp only at hw E;rw[U] at E;obtain⟨rfl,W,Z⟩:=hw;obtain⟨I,J⟩:=Prod.mk.inj E;subst I J;exact⟨W,⟨X,p,y,Z,Y,rfl⟩,_,rfl⟩
 |none=>
  rw[V] at hw E;simp only at hw E;rw[U] at E;obtain⟨I,J⟩:=Prod.mk.inj E;subst I J;obtain⟨n,rfl,aa⟩:=hw;exact⟨aa.ad _,_,rfl⟩
 |text b=>
  rw[V] at hw E;simp only at hw E;rw[U] at E;obtain⟨I,J⟩:=Prod.mk.inj E;subst I J;obtain⟨rfl,W,_⟩:=hw;exact⟨W,_,rfl⟩
def ie (w:List Int):x4:=match e0 w with
 |some n=>.tuple #[.int .i64 n,.int .i64 0]
 |none=>.tuple #[.int .i64 0,.int .i64 4]
theorem wy {l:List Int} {i:Nat} {b:Int} (hi:l[i]? =some b):(l.take (i+1)).all eZ=((l.take i).all eZ&&eZ b):=by
 rw[o3,hi,List.all_append];simp
theorem wz {l:List Int} {i:Nat} {b:Int} (hi:l[i]? =some b):(l.take (i+1)).foldl dX 0=dX ((l.take i).foldl dX 0) b:=by
 rw[o3,hi,List.foldl_append];rfl
theorem wA {l:List Int} (E:l≠[]) (h:l.all eZ=true):ib l=some (l.foldl dX 0):=by
 unfold ib;cases l with
 |nil=>exact absurd rfl E
 |cons x l=>simp only[h,if_true]
theorem wB {l:List Int} {i:Nat} {b:Int} (hi:l[i]? =some b) (E:eZ b=false):ib l=none:=by
 unfold ib;cases l with
 |nil=>simp at hi
 |cons x l=>
  simp only;rw[if_neg];intro h;have:=List.all_eq_true.1 h b (u4 hi);rw[E] at this;cases this
def m7 (w l:List Int) (s:Int):Prop:=(s=1∨s= -1)∧e0 w=(ib l).map fun n=>s*n
theorem wC {l:List Int}:m7 (45::l) l (-1):=⟨.inr rfl,by simp only[e0];congr 1;funext n;omega⟩
theorem wD {w:List Int} (h:∀ b,w[0]? =some b→b≠45):m7 w w 1:=⟨.inl rfl,by
 have e:e0 w=ib w:=by
  unfold e0;cases w with
  |nil=>rfl
  |cons x l=>
   have:=h x rfl;split
   ·rename_i l' he;exact absurd (List.cons.inj he).1 this
   ·rfl
 rw[e];cases ib w with
 |none=>rfl
 |some n=>simp⟩
theorem rb {w l:List Int} {s:Int} (h:m7 w l s) (E:ib l=none):ie w= .tuple #[.int .i64 0,.int .i64 4]:=by
 unfold ie;rw[h.2,E];rfl
theorem wE {w l:List Int} {s n:Int} (h:m7 w l s) (E:ib l=some n):ie w= .tuple #[.int .i64 (s*n),.int .i64 0]:=by
 unfold ie;rw[h.2,E];rfl
set_option maxHeartbeats 1000000 in
theorem BS {l:List Int} {w:x5} (Z:Bytes l) (aj:l.length≤100000):O y0 ot [bu l] w fun v w'=>v=ie l∧Ext w w':=by
 apply ot.enter;rw[Bc];refine h6 (fun ax ay ak=>Ext w ak∧ ∃ (m:List Int) (s:Int),ax=bu m∧ay= .int .i64 s∧Bytes m∧m.length≤100000∧m7 l m s) ?_ ?_
 ·rintro _ _ ak ⟨af,m,s,rfl,rfl,ah,aJ,aa⟩;rw[vM ah (fun b E=>by cases E),ag];refine⟨fun I=>⟨by rw[rb aa (by rw[I];rfl)],af⟩,fun I=>?_⟩;refine s3 a1.u aV.u bb.u ah (by omega) fun bv ab al am _=>?_;rw[aO aV.u am];refine lW.range m.length (fun i _ _ c ac=>Ext ab ac∧c= .int .i64 ((m.take i).foldl dX 0)∧(m.take i).all eZ=true) (by omega) ⟨Ext.refl _,rfl,rfl⟩ ?_ ?_
  ·rintro i az t3 _ ac aA hi ⟨J,rfl,U⟩ aB;obtain⟨b,W⟩:∃ b,m[i]? =some b:=⟨_,x3 hi⟩;have aL:=ah b (u4 W);rw[au,ag];refine⟨fun _=>?_,fun h=>by omega⟩;refine Bd (fun _ _ c ad=>Ext ab ad∧c= .int .i64 ((m.take (i+1)).foldl dX 0)∧(m.take (i+1)).all eZ=true) ?_ ?_
   ·rintro aM aN c ad aC;rw[aK];exact aB _ _ _ _ aC
   intro aD V;rw[bm aV.u bb.i (by kernel_rfl) (am.ext J) W];refine aZ (fun v ad=>ac=ad∧v= .bool (!eZ b)) ?_ ?_
   rotate_left
   ·intro aE X;rw[au,ag];refine⟨fun h=>X _ _ ⟨rfl,by unfold eZ;rw[decide_eq_false (by omega)];rfl⟩,fun h=>?_⟩;rw[bV];refine X _ _ ⟨rfl,?_⟩;unfold eZ;congr 1;by_cases ao:57<b
    ·rw[decide_eq_true ao,decide_eq_false (by omega)];rfl
    ·rw[decide_eq_false ao,decide_eq_true (by omega)];rfl
   rintro _ _ ⟨rfl,rfl⟩;cases ai:eZ b with
   |false=>
    rw[X0,bP];exact⟨by rw[rb aa (wB W ai)],(af.trans al).trans J⟩
   |true=>
    rw[Y1,aT];have aP:=of_decide_eq_true ai;have Y:=q0 (l:=m.take i) (n:=0) U ⟨Int.le_refl _,by decide⟩;rw[wz W,wy W,U,ai] at V;generalize (m.take i).foldl dX 0=n at*;have Y:0≤n∧n≤4611686018427387904:=Y;rw[dD,wrap_u8 (by omega) (by omega),fc bb.u ae.u,wrap_i64 (x:=b-48) (by omega) (by omega),dD,wrap_i64 (by omega) (by omega),qM (by decide),Int.tdiv_eq_ediv_of_nonneg (by omega)];rw[wrap_i64 (by omega) (by omega),bV,ag];refine⟨fun aF=>V _ _ _ _ ⟨J,?_,rfl⟩,fun aF=>?_⟩
    ·congr 1;unfold dX ap;omega
    ·rw[fA,wrap_i64 (by omega) (by omega),aK,wrap_i64 (by omega) (by omega)];refine V _ _ _ _ ⟨J,?_,rfl⟩;congr 1;unfold dX ap;omega
  ·rintro az t3 _ ac aA ⟨J,rfl,U⟩;rw[l5] at U ⊢;rw[au,ag];refine⟨fun h=>by omega,fun _=>?_⟩;have Y:=q0 (l:=m) (n:=0) U ⟨Int.le_refl _,by decide⟩;have Y:0≤m.foldl dX 0∧m.foldl dX 0≤4611686018427387904:=Y;rw[fA];have hw:Y9.wrap (s*m.foldl dX 0)=s*m.foldl dX 0:=by
    rcases aa.1 with rfl|rfl <;> exact wrap_i64 (by omega) (by omega)
   rw[hw];exact⟨by rw[wE aa (wA I U)],(af.trans al).trans J⟩
 ·intro aD V;refine aZ (fun v ab=>w=ab∧ ∃ c:Bool,v= .bool c∧(c=true↔l[0]? =some 45)) ?_ ?_
  ·rintro _ _ ⟨rfl,c,rfl,aq⟩;rw[cE];refine⟨fun aG=>?_,fun av=>?_⟩
   ·intro aQ aH _ _;have aw:=aq.1 aG;cases l with
    |nil=>simp at aw
    |cons x r=>
     have aI:x=45:=by simpa using aw
     subst aI;rw[vN (y:=1) (i:=1) rfl a1.u (by simp)];exact V _ _ _ ⟨aH,r,-1,rfl,rfl,fun b E=>Z b (.tail _ E),by simp at aj;omega,wC⟩
   ·refine V _ _ _ ⟨Ext.refl _,l,1,rfl,rfl,Z,aj,wD fun b E he=>?_⟩;subst he;rw[aq.2 E] at av;cases av
  ·intro aE X;rw[Bh Z (fun b E=>by cases E),ag];refine⟨fun I=>?_,fun I=>X _ _ ⟨rfl,false,rfl,⟨fun h=>(by cases h),fun h=>by rw[X2.1 I] at h;simp at h⟩⟩⟩;cases l with
   |nil=>exact absurd rfl I
   |cons x r=>
    rw[pv (y:=0) (i:=0) (b:=x) rfl a1.u Z rfl,bQ];exact X _ _ ⟨rfl,_,rfl,by simp⟩
theorem re {s s':aA} {w:List Int} (h:de s=some (w,s')):s.toks=w::s'.toks∧s'={s with toks:=s'.toks}:=by
 unfold de at h;cases E:s.toks with
 |nil=>rw[E] at h;cases h
 |cons x l=>
  rw[E] at h;simp only[Z7,U2] at h;obtain⟨rfl,rfl⟩:=h;exact⟨rfl,rfl⟩
theorem fQ {lo hi n:Int} {s s':aA} (h:a7 lo hi s=some (n,s')):(lo≤n∧n≤hi)∧(∃ w,s.toks=w::s'.toks∧e0 w=some n)∧s'={s with toks:=s'.toks}:=by
 unfold a7 at h;cases hw:de s with
 |none=>rw[hw] at h;cases h
 |some q=>
  obtain⟨w,O⟩:=q;rw[hw] at h;simp only at h;obtain⟨h1,I⟩:=re hw;cases E:e0 w with
  |none=>rw[E] at h;cases h
  |some m=>
   rw[E] at h;simp only at h;split at h
   ·rename_i J;simp only[Z7,U2] at h;obtain⟨rfl,rfl⟩:=h;exact⟨J,⟨w,h1,E⟩,I⟩
   ·cases h
def gi (k:Nat) (s s':aA):Prop:=s.toks.length=s'.toks.length+k∧s'={s with toks:=s'.toks}
theorem gi.refl (s:aA):gi 0 s s:=⟨rfl,rfl⟩
theorem gi.trans {a b:Nat} {r s t:aA} (h:gi a r s) (k:gi b s t):gi (a+b) r t:=⟨by have:=h.1;have:=k.1;omega,by rw[k.2,h.2]⟩
theorem c3 {lo hi n:Int} {s s':aA} (h:a7 lo hi s=some (n,s')):gi 1 s s':=by
 obtain⟨_,⟨w,h1,_⟩,E⟩:=fQ h;exact⟨by rw[h1];simp,E⟩
theorem gi.eqs {k:Nat} {s s':aA} (h:gi k s s'):s'.told=s.told∧s'.big=s.big∧s'.shared=s.shared:=by rw[h.2];exact⟨rfl,rfl,rfl⟩
theorem ig {α:Type} {f:List α→aA→Option (α×aA)} (E:List α→aA→Prop) (O:∀ acc s a s',E acc s→f acc s=some (a,s')→E (acc++[a]) s'):
  ∀ (n:Nat) (acc:List α) (s:aA) (l:List α) (s':aA),E acc s→ck f n acc s=some (l,s')→E l s'∧l.length=acc.length+n
 |0,acc,s,l,s',I,h=>by
  simp only[ck,Z7,U2] at h;obtain⟨rfl,rfl⟩:=h;exact⟨I,by omega⟩
 |n+1,acc,s,l,s',I,h=>by
  simp only[ck] at h;cases J:f acc s with
  |none=>rw[J] at h;cases h
  |some q=>
   obtain⟨a,U⟩:=q;rw[J] at h;have:=ig E O n _ _ _ _ (O _ _ _ _ I J) h;exact⟨this.1,by rw[this.2];simp;omega⟩
theorem te {n:Int} {k:Nat} {s s':aA} {l:List Int} (h:dY n k s=some (l,s')):gi l.length s s'∧l.length=k∧l.Nodup∧ ∀ v∈l,0≤v∧v<n:=by
 have:=ig (fun acc t=>gi acc.length s t∧acc.Nodup∧ ∀ v∈acc,0≤v∧v<n) (fun acc t a X ⟨h1,O,U⟩ h=>by
  cases I:a7 0 (n-1) t with
  |none=>rw[I] at h;cases h
  |some q=>
   obtain⟨v,Y⟩:=q;rw[I] at h;simp only at h;split at h
   ·cases h
   ·rename_i V;simp only[Z7,U2] at h;obtain⟨rfl,rfl⟩:=h;have Z:=(fQ I).1;refine⟨by rw[o5];exact h1.trans (c3 I),List.nodup_append.2 ⟨O,by simp,fun x E y J he=>?_⟩,fun x E=>?_⟩
    ·rw[o9] at J;subst J;subst he;exact V E
    ·rcases n0.1 E with E|E
     ·exact U x E
     ·rw[o9.1 E];omega) k [] s l s' ⟨gi.refl s,List.nodup_nil,fun v W=>by cases W⟩ h
 exact⟨this.1.1,by simpa using this.2,this.1.2.1,this.1.2.2⟩
theorem tf:∀ {ks acc:List Int} {s s':aA} {t:List Int},gA ks acc s=some (t,s')→ ∃ u,t=acc++u∧cM ks u∧gi u.length s s'
 |[],acc,s,s',t,h=>by
  simp only[gA,Z7,U2] at h;obtain⟨rfl,rfl⟩:=h;exact⟨[],by simp,wj.2 rfl,gi.refl s⟩
 |k::ks,acc,s,s',t,h=>by
  simp only[gA] at h;cases E:a7 0 (k-1) s with
  |none=>rw[E] at h;cases h
  |some q=>
   obtain⟨v,J⟩:=q;rw[E] at h;obtain⟨u,rfl,hu,I⟩:=tf h;have O:=(fQ E).1;exact⟨v::u,by simp,wi.2 ⟨by omega,hu⟩,by rw[c8,Nat.add_comm];exact (c3 E).trans I⟩
def km (sizes:List Int) (l:List (List Int×Int)):Prop:=(l.map (·.1)).Nodup∧ ∀ p∈l,cM sizes p.1∧0≤p.2
theorem m8 {sizes:List Int} {acc:List (List Int×Int)} {s s':aA} {a:List Int×Int} (h:df sizes acc s=some (a,s')):a.1∉acc.map (·.1)∧cM sizes a.1∧0≤a.2∧gi (a.1.length+1) s s':=by
 unfold df at h;cases I:gA sizes [] s with
 |none=>rw[I] at h;cases h
 |some q=>
  obtain⟨t,J⟩:=q;rw[I] at h;simp only at h;obtain⟨u,hu,O,U⟩:=tf I;rw[List.nil_append] at hu;subst hu;cases E:a7 0 ap J with
  |none=>rw[E] at h;cases h
  |some q=>
   obtain⟨c,W⟩:=q;rw[E] at h;simp only at h;split at h
   ·cases h
   ·rename_i V;simp only[Z7,U2] at h;obtain⟨rfl,rfl⟩:=h;exact⟨V,O,(fQ E).1.1,U.trans (c3 E)⟩
structure wF (s s':aA):Prop where
 toks:s'.toks.length<s.toks.length
 big:s.big=true→s'.big=true
theorem BT {N:Nat} {sizes:List Int} {s s':aA} {l:List (List Int×Int)} (Z:∀ q∈s.shared,km q.1 q.2∧q.2.length≤N) (aj:s.toks.length≤N) (h:dg sizes s=some (l,s')):
  km sizes l∧l.length≤N∧s'.shared=s.shared∧wF s s':=by
 unfold dg at h;cases U:a7 (-ap) ap s with
 |none=>rw[U] at h;cases h
 |some q=>
  obtain⟨n,I⟩:=q;rw[U] at h;simp only at h;have h1:=c3 U;obtain⟨ak,aa,V⟩:=h1.eqs;split at h
  ·cases W:I.shared[(-n-1).toNat]? with
   |none=>rw[W] at h;cases h
   |some q=>
    obtain⟨z,l'⟩:=q;rw[W] at h;simp only at h;split at h
    ·rename_i ad;simp only[Z7,U2] at h;obtain⟨rfl,rfl⟩:=h;subst ad;have hm:=u4 W;rw[V] at hm;exact⟨(Z _ hm).1,(Z _ hm).2,V,by have:=h1.1;omega,fun J=>by rw[aa];exact J⟩
    ·cases h
  ·have:=ig (fun acc t=>km sizes acc∧t.shared=s.shared∧t.toks.length+acc.length≤I.toks.length∧(s.big=true→t.big=true)) (fun acc t a al ⟨O,X,ae,Y⟩ g=>by
    obtain⟨af,ag,ah,ab⟩:=m8 g;obtain⟨f1,f2,f3⟩:=ab.eqs;refine⟨⟨?_,fun p E=>?_⟩,by rw[f3,X],by have:=ab.1;simp only[o5,T0];omega,fun J=>by rw[f2];exact Y J⟩
    ·rw[j4];exact List.nodup_append.2 ⟨O.1,by simp,fun x ai y ac he=>by
      simp only[List.map_cons,List.map_nil,o9] at ac;subst ac;subst he;exact af ai⟩
    ·rcases n0.1 E with E|E
     ·exact O.2 p E
     ·rw[o9.1 E];exact⟨ag,ah⟩) n.toNat [] (aY (decide (16384<min (I.told+n) ap)) {I with told:=min (I.told+n) ap}) l s' ⟨⟨by simp,fun p E=>by cases E⟩,V,by simp[aY],fun J=>by simp[aY,aa,J]⟩ h
   obtain⟨⟨O,X,ae,Y⟩,_⟩:=this;have:=h1.1;exact⟨O,by omega,X,⟨by omega,Y⟩⟩
structure rf (all:List Int) (N:Nat) (f:ca):Prop where
 scope:f.scope.Nodup∧ ∀ v∈f.scope,0≤v∧v<all.length
 sizes:f.sizes=f.scope.map fun v=>all.getD v.toNat 0
 other:0≤f.other
 lines:km f.sizes f.lines
 len:f.lines.length≤N
theorem BU {N:Nat} {all:List Int} {s s':aA} {f:ca} (Z:∀ q∈s.shared,km q.1 q.2∧q.2.length≤N) (ay:s.toks.length≤N) (h:cC all s=some (f,s')):
  rf all N f∧(∀ q∈s'.shared,km q.1 q.2∧q.2.length≤N)∧wF s s'∧(s'.big=false→f.scope.length≤6∧cS f.sizes=false):=by
 unfold cC at h;cases aa:a7 (-ap) ap s with
 |none=>rw[aa] at h;cases h
 |some q=>
 obtain⟨a,ak⟩:=q;rw[aa] at h;simp only at h;have t0:=c3 aa;obtain⟨az,al,am⟩:=t0.eqs;cases h1:dY all.length a.natAbs ak with
 |none=>rw[h1] at h;cases h
 |some q=>
 obtain⟨sc,U⟩:=q;rw[h1] at h;simp only at h;obtain⟨ac,aB,ao,aq⟩:=te h1;obtain⟨aC,au,av⟩:=ac.eqs;generalize aw:sc.map (fun v=>all.getD v.toNat 0)=sizes at h;cases W:a7 0 ap (aY (decide (6<a.natAbs)||cS sizes) U) with
 |none=>rw[W] at h;cases h
 |some q=>
 obtain⟨other,J⟩:=q;rw[W] at h;simp only at h;have ad:=c3 W;obtain⟨aD,X,V⟩:=ad.eqs;have V:J.shared=s.shared:=by rw[V];show U.shared=_;rw[av,am]
 have aE:J.toks.length<s.toks.length:=by
  have:=t0.1;have:=ac.1;have Y:=ad.1;have:(aY (decide (6<a.natAbs)||cS sizes) U).toks.length=U.toks.length:=rfl;omega
 cases Y:dg sizes J with
 |none=>rw[Y] at h;cases h
 |some q=>
 obtain⟨lines,I⟩:=q;rw[Y] at h;simp only[Z7,U2] at h;obtain⟨rfl,rfl⟩:=h;obtain⟨ae,af,ag,ah⟩:=BT (N:=N) (by rw[V];exact Z) (by omega) Y;have ax:=ah.big;have aF:=ah.toks;have ai:J.big=true→ ∀ ab:aA,ab=(if a<0 then {I with shared:=I.shared++[(sizes,lines)]} else I)→ab.big=true:=fun O ab he=>by
  rw[he];split <;> exact ax O
 have X:J.big=(s.big||(decide (6<a.natAbs)||cS sizes)):=by
  rw[X];show (U.big||_)=_;rw[au,al]
 refine⟨⟨⟨ao,aq⟩,aw.symm,(fQ W).1.1,ae,af⟩,fun q E=>?_,⟨?_,fun O=>ai (by rw[X,O];rfl) _ rfl⟩,fun O=>?_⟩
 ·split at E
  ·rcases n0.1 E with E|E
   ·rw[show I.shared=s.shared by rw[ag,V]] at E;exact Z q E
   ·rw[o9.1 E];exact⟨ae,af⟩
  ·rw[show I.shared=s.shared by rw[ag,V]] at E;exact Z q E
 ·have:(if a<0 then {I with shared:=I.shared++[(sizes,lines)]} else I).toks=I.toks:=by split <;> rfl
  rw[this];omega
 ·have aj:J.big=false:=by
   cases E:J.big with
   |false=>rfl
   |true=>rw[ai E _ rfl] at O;cases O
  rw[X,U5,U5,decide_eq_false_iff_not] at aj;show sc.length≤6∧_;exact⟨by omega,aj.2.2⟩
structure eh (N:Nat) (f:bS):Prop where
 name:f.name.length≤64
 k:1≤f.k∧f.k≤2147483648
 sizes:1≤f.sizes.length∧f.sizes.length≤64∧ ∀ z∈f.sizes,1≤z∧z≤32
 iR:f.funs.length≤256
 funs:∀ x∈f.funs,rf f.sizes N x∧x.scope.length≤6∧cS x.sizes=false
theorem pG {b:Bool} {s:aA} (h:(aY b s).big=false):s.big=false∧b=false:=by
 have h:(s.big||b)=false:=h;exact U5.1 h
theorem BV {a b:aA} (h:a.big=true→b.big=true) (E:b.big=false):a.big=false:=by
 cases I:a.big with
 |false=>rfl
 |true=>rw[h I] at E;cases E
set_option maxHeartbeats 800000 in
theorem wG {s s':aA} {f:bS} (ay:s.shared=[]) (h:fP s=some (f,s')) (E:s'.big=false):eh s.toks.length f∧f.name∈s.toks:=by
 unfold fP at h;cases ae:de s with
 |none=>rw[ae] at h;cases h
 |some q=>
 obtain⟨name,s0⟩:=q;rw[ae] at h;simp only at h;obtain⟨aq,az⟩:=re ae;cases h1:a7 1 ap (aY (decide (64<name.length)) s0) with
 |none=>rw[h1] at h;cases h
 |some q=>
 obtain⟨n,Y⟩:=q;rw[h1] at h;simp only at h;have O:=c3 h1;cases af:a7 1 ap (aY (decide (64<n)) Y) with
 |none=>rw[af] at h;cases h
 |some q=>
 obtain⟨most,aB⟩:=q;rw[af] at h;simp only at h;have ag:=c3 af;cases ah:a7 0 ap aB with
 |none=>rw[ah] at h;cases h
 |some q=>
 obtain⟨Z,aa⟩:=q;rw[ah] at h;simp only at h;have t3:=c3 ah;cases ab:a7 1 ap (aY (decide (256<Z)) aa) with
 |none=>rw[ab] at h;cases h
 |some q=>
 obtain⟨k,V⟩:=q;rw[ab] at h;simp only at h;have t4:=c3 ab;cases ai:ck (eO most) n.toNat [] (aY (decide (2147483648<k)) V) with
 |none=>rw[ai] at h;cases h
 |some q=>
 obtain⟨sizes,ac⟩:=q;rw[ai] at h;simp only at h;cases aj:ck (fun _ s=>cC sizes s) Z.toNat [] ac with
 |none=>rw[aj] at h;cases h
 |some q=>
 obtain⟨funs,aC⟩:=q;rw[aj] at h;simp only[Z7,U2] at h;obtain⟨rfl,rfl⟩:=h;have aD:=ig (fun(acc:List Int) t=>t.shared=[]∧t.toks.length≤s.toks.length∧(t.big=false→V.big=false∧k≤2147483648∧ ∀ z∈acc,1≤z∧z≤32)) (fun acc t a aE ⟨ak,au,al⟩ g=>by
  unfold eO at g;cases U:a7 1 most t with
  |none=>rw[U] at g;cases g
  |some q=>
   obtain⟨z,O⟩:=q;rw[U] at g;simp only[Z7,U2] at g;obtain⟨rfl,rfl⟩:=g;have av:=c3 U;obtain⟨a2,aF,aG⟩:=av.eqs;have a6:=(fQ U).1;refine⟨by show O.shared=[];rw[aG,ak],by show O.toks.length≤_;have:=av.1;omega,fun E=>?_⟩;obtain⟨I,W⟩:=pG E;rw[aF] at I;obtain⟨am,ao,aH⟩:=al I;refine⟨am,ao,fun y X=>?_⟩;rcases n0.1 X with X|X
   ·exact aH y X
   ·rw[o9.1 X];have:=of_decide_eq_false W;omega) n.toNat [] (aY (decide (2147483648<k)) V) sizes ac ⟨by
     show V.shared=[];rw[t4.eqs.2.2];show aa.shared=[];rw[t3.eqs.2.2,ag.eqs.2.2];show Y.shared=[];rw[O.eqs.2.2];show s0.shared=[];rw[az];exact ay,by
     show V.toks.length≤_;have aI:=O.1;have aJ:=ag.1;have a3:=t3.1;have a4:=t4.1;have I:(aY (decide (64<name.length)) s0).toks=s0.toks:=rfl;have W:(aY (decide (64<n)) Y).toks=Y.toks:=rfl;have ad:(aY (decide (256<Z)) aa).toks=aa.toks:=rfl;rw[I] at aI;rw[W] at aJ;rw[ad] at a4;rw[aq,c8];omega,fun E=>by
     obtain⟨I,W⟩:=pG E;have:=of_decide_eq_false W;exact⟨I,by omega,fun z aK=>by cases aK⟩⟩ ai
 obtain⟨⟨aL,aM,aN⟩,aO⟩:=aD;have aP:=ig (fun(acc:List ca) t=>(∀ q∈t.shared,km q.1 q.2∧q.2.length≤s.toks.length)∧t.toks.length≤s.toks.length∧(t.big=false→ac.big=false∧ ∀ x∈acc,rf sizes s.toks.length x∧x.scope.length≤6∧cS x.sizes=false)) (fun acc t a aE ⟨ak,au,al⟩ g=>by
  obtain⟨aQ,aR,aw,aS⟩:=BU ak au g;refine⟨aR,by have:=aw.toks;omega,fun E=>?_⟩;obtain⟨am,ao⟩:=al (BV aw.big E);refine⟨am,fun x J=>?_⟩;rcases n0.1 J with J|J
  ·exact ao x J
  ·rw[o9.1 J];exact⟨aQ,aS E⟩) Z.toNat [] ac funs aC ⟨(by rw[aL];intro q U;cases U),aM,fun E=>⟨E,fun x J=>by cases J⟩⟩ aj
 obtain⟨⟨_,_,d3⟩,d4⟩:=aP;obtain⟨aT,d5⟩:=d3 E;obtain⟨ad,aU,aV⟩:=aN aT;rw[t4.eqs.2.1] at ad;obtain⟨ax,aW⟩:=pG ad;rw[t3.eqs.2.1,ag.eqs.2.1] at ax;obtain⟨I,aX⟩:=pG ax;rw[O.eqs.2.1] at I;obtain⟨_,aZ⟩:=pG I;have:=of_decide_eq_false aW;have:=of_decide_eq_false aX;have:=of_decide_eq_false aZ;have a8:=(fQ h1).1;have a1:=(fQ ab).1;simp only[List.length_nil,V5] at aO d4;exact⟨⟨by show name.length≤64;omega,⟨a1.1,aU⟩,⟨by show 1≤sizes.length;omega,by show sizes.length≤64;omega,aV⟩,by show funs.length≤256;omega,d5⟩,by rw[aq];exact .head _⟩
def hC (x:ca) (k:Int) (t:List Int):Int:=min (match x.lines.find? (fun p=>decide (p.1=t)) with
 |some p=>p.2
 |none=>x.other) k
def bd (l:List Int):List Int:=((X7 64).map fun(v:Nat)=>(v:Int)).filter fun v=>decide (v∈l)
def bF (sizes scope:List Int):List Int:=scope.map fun v=>sizes.getD v.toNat 0
def m9 (scope E t:List Int):List Int:=scope.map fun v=>t.getD (E.idxOf v) 0
abbrev ch:Type:=List Int×List Int
def fR (sizes:List Int) (k:Int) (x:ca):ch:=(bd x.scope,(bG (bF sizes (bd x.scope))).map fun t=>hC x k (m9 x.scope (bd x.scope) t))
def di (k:Int) (a b:List Int):List Int:=List.zipWith (fun x y=>min (x+y) k) a b
def gj (k:Int) (acc:List ch) (g:ch):List ch:=if g.1∈acc.map (·.1) then acc.map fun h=>if h.1=g.1 then (h.1,di k h.2 g.2) else h else acc++[g]
def hf:List Int→Int
 |[]=>0
 |x::l=>x*64 ^ l.length+hf l
def cD (l:List Int):Int:=l.length*64 ^ 6+hf l
def fD (g:ch):List ch→List ch
 |[]=>[g]
 |h::l=>if cD h.1<cD g.1 then h::fD g l else g::h::l
def eF (g:ch):Bool:=g.2.any fun c=>decide (0<c)
def ev (f:bS):List ch:=(f.funs.map (fR f.sizes f.k)).foldl (gj f.k) []
def eG (f:bS):List ch:=((ev f).filter eF).foldl (fun l g=>fD g l) []
structure bY where
 k:Int
 sizes:List Int
 zero:Int
 unary:List (List Int)
 funs:List ch
deriving DecidableEq
def dq (f:bS):bY:=(eG f).foldl (fun n g=>match g.1 with
 |[]=>{n with zero:=g.2.getD 0 0}
 |[v]=>{n with unary:=n.unary.set v.toNat g.2}
 |_=>{n with funs:=n.funs++[g]}) ⟨f.k,f.sizes,0,f.sizes.map fun z=>p9 z.toNat 0,[]⟩
abbrev gE:Type:=Rd (List Int)×Rd (List (List Int×Int))
def bt (g gs:Nat) (A:av):av:=fun r=>r=g∨r=gs∨A r
def eH (gs:Nat) (e big E I told:Int) (sv:x4):List x4:=[.pointer (some ⟨gs,0,none⟩),.int .i64 e,.int .i64 big,.int .i64 E,.int .i64 I,.int .i64 told,sv]
def cd (g gs:Nat) (A:av) (B:av):av:=fun r=>¬bt g gs A r∧B r
def iS (w:x5) (g gs:Nat) (A:av) (B:av):Prop:=g≠gs∧¬A g∧¬A gs∧(∀ r,bt g gs A r→r<w.heap.size)∧ ∀ r,B r→r<w.heap.size
def cH (w:x5) (g gs:Nat) (A:av) (B:av) (s:aA) (clean:Bool):Prop:=iS w g gs A B∧fC w gs (cd g gs A B) s.toks clean∧(0≤s.told∧s.told≤ap∧s.shared.length+s.toks.length≤100000)∧
 ∃ big E I told sv,ak w g bi (eH gs 0 big E I told sv)∧((s.big=true↔big≠0)∧(s.big=false→told=s.told))∧dv A (cd g gs A B) w [sv] (show List gE from s.shared)
def dH (w:x5) (g gs:Nat) (A:av) (B:av):Prop:=iS w g gs A B∧ ∃ (e big E I told:Int) (sv:x4) (l:List gE),ak w g bi (eH gs e big E I told sv)∧(e≠0∧l.length≤100000)∧dv A (cd g gs A B) w [sv] l
theorem iS.ad {S:Nat→Prop} {w w':x5} {g gs:Nat} {A:av} {B:av} (h:iS w g gs A B) (I:aj S w w'):iS w' g gs A B:=by
 obtain⟨h1,J,O,U,V⟩:=h;exact⟨h1,J,O,fun r E=>Nat.lt_of_lt_of_le (U r E) I.size,fun r E=>Nat.lt_of_lt_of_le (V r E) I.size⟩
theorem wH {g gs:Nat} {A:av} {B:av} {S:Nat→Prop} (E:∀ r,A r→¬S r) (I:∀ r,cd g gs A B r→¬S r):∀ r,A r∨cd g gs A B r→¬S r:=fun r h=>h.elim (E r) (I r)
theorem cH.ad {S:Nat→Prop} {w w':x5} {g gs:Nat} {A:av} {B:av} {s:aA} {clean:Bool} (h:cH w g gs A B s clean) (E:aj S w w') (I:∀ r,bt g gs A r→¬S r) (J:∀ r,cd g gs A B r→¬S r):cH w' g gs A B s clean:=by
 obtain⟨h1,O,U,big,V,W,told,sv,X,Y,Z⟩:=h;exact⟨h1.ad E,O.ad E (I gs (.inr (.inl rfl))) J,U,big,V,W,told,sv,X.ad E (I g (.inl rfl)),Y,ax.ad Z E fun r _ h=>wH (fun r aa=>I r (.inr (.inr aa))) J r h⟩
theorem dH.ad {S:Nat→Prop} {w w':x5} {g gs:Nat} {A:av} {B:av} (h:dH w g gs A B) (E:aj S w w') (I:∀ r,bt g gs A r→¬S r) (J:∀ r,cd g gs A B r→¬S r):dH w' g gs A B:=by
 obtain⟨h1,e,big,O,U,told,sv,l,V,W,X⟩:=h;exact⟨h1.ad E,e,big,O,U,told,sv,l,V.ad E (I g (.inl rfl)),W,ax.ad X E fun r _ h=>wH (fun r Y=>I r (.inr (.inr Y))) J r h⟩
theorem cH.ext {w w':x5} {g gs:Nat} {A:av} {B:av} {s:aA} {clean:Bool} (h:cH w g gs A B s clean) (E:Ext w w'):cH w' g gs A B s clean:=h.ad (E.ad fun _=>False) (fun _ _ h=>h) (fun _ _ h=>h)
theorem dH.ext {w w':x5} {g gs:Nat} {A:av} {B:av} (h:dH w g gs A B) (E:Ext w w'):dH w' g gs A B:=h.ad (E.ad fun _=>False) (fun _ _ h=>h) (fun _ _ h=>h)
def eP (w:x5) (g gs:Nat) (A:av) (B:av) (clean:Bool) (s':Option aA) (w':x5):Prop:=aj (bt g gs A) w w'∧match s' with
 |some s'=>cH w' g gs A B s' clean
 |none=>dH w' g gs A B
theorem tg {w:x5} {g gs:Nat} {e big E I told:Int} {sv:x4} (J:ak w g bi (eH gs e big E I told sv)):O y0 ed [.pointer (some ⟨g,0,none⟩)] w fun v w'=>v= .bool (decide (e=0))∧Ext w w':=by
 apply ed.enter;rw[az,ah bi.p rfl,ah cQ.p rfl,ai (by kernel_rfl) (J.cell (o:=0+1+0) rfl),bQ];exact⟨rfl,Ext.refl _⟩
theorem na {w:x5} {g gs:Nat} {A:av} {B:av} {s:aA} {clean:Bool} (h:cH w g gs A B s clean):O y0 ed [.pointer (some ⟨g,0,none⟩)] w fun v w'=>v= .bool true∧Ext w w':=by
 obtain⟨_,_,_,big,I,J,told,sv,E,_⟩:=h;exact (tg E).mono fun _ _ _ h=>h
theorem lx {w:x5} {g gs:Nat} {A:av} {B:av} (h:dH w g gs A B):O y0 ed [.pointer (some ⟨g,0,none⟩)] w fun v w'=>v= .bool false∧Ext w w':=by
 obtain⟨_,e,big,U,V,told,sv,l,E,I,_⟩:=h;refine (tg E).mono ?_;rintro _ W _ ⟨rfl,J⟩;exact⟨by rw[decide_eq_false I.1],J⟩
theorem rg {g gs:Nat} {A B:av} {r:Nat} (h:A r∨cd g gs A B r) (E:¬A g):r≠g:=by
 rintro rfl;rcases h with h|h
 ·exact E h
 ·exact h.1 (.inl rfl)
theorem rh {w:x5} {g gs:Nat} {A:av} {B:av} {big W E told e at_:Int} {sv:x4} {l:List gE} (X:iS w g gs A B) (Y:ak w g bi (eH gs 0 big W E told sv)) (Z:dv A (cd g gs A B) w [sv] l) (he:e≠0) (aa:l.length≤100000):
  O y0 fk [.pointer (some ⟨g,0,none⟩),.int .i64 e,.int .i64 at_] w fun _ w'=>aj (fun r=>r=g) w w'∧dH w' g gs A B:=by
 apply fk.enter;rw[az,ah bi.p rfl,ah cQ.p rfl,ai (by kernel_rfl) (Y.cell (o:=0+1+0) rfl),bQ,ag];refine⟨fun _=>?_,fun h=>absurd rfl h⟩;rw[az,ah bi.p rfl,ah cQ.p rfl];refine bE (g:=g) (o:=1) cb.i rfl rfl Y (by simp[eH]) fun ab ac am I=>?_;have I:ak ab g bi (eH gs e big W E told sv):=I;rw[az,ah bi.p rfl,ah cQ.p rfl];refine bE (g:=g) (o:=3) J.i rfl rfl I (by simp[eH]) fun ae af ao U=>?_;have U:ak ae g bi (eH gs e big at_ E told sv):=U;have V:=ac.trans af;exact⟨V,X.ad V,e,big,at_,E,told,sv,l,U,⟨he,aa⟩,ax.ad Z V fun r _ h al=>rg h X.2.1 al⟩
theorem ri {w:x5} {g gs:Nat} {A:av} {B:av} {s:aA} {clean:Bool} {e at_:Int} (h:cH w g gs A B s clean) (he:e≠0):O y0 fk [.pointer (some ⟨g,0,none⟩),.int .i64 e,.int .i64 at_] w fun _ w'=>aj (fun r=>r=g) w w'∧dH w' g gs A B:=by
 obtain⟨E,_,I,big,V,W,told,sv,J,_,U⟩:=h;exact rh E J U he (by have:=I.2.2;show s.shared.length≤_;omega)
theorem BW {w:x5} {g gs:Nat} {A:av} {B:av} {e at_:Int} (h:dH w g gs A B):O y0 fk [.pointer (some ⟨g,0,none⟩),.int .i64 e,.int .i64 at_] w fun _ w'=>Ext w w':=by
 obtain⟨_,I,big,J,U,told,sv,l,h1,E,_⟩:=h;apply fk.enter;rw[az,ah bi.p rfl,ah cQ.p rfl,ai (by kernel_rfl) (h1.cell (o:=0+1+0) rfl),bQ,ag];exact⟨fun h=>absurd h E.1,fun _=>Ext.refl _⟩
theorem rj {w:x5} {g gs:Nat} {A:av} {B:av} {s:aA} {clean b:Bool} {at_:Int} (h:cH w g gs A B s clean):O y0 fx [.pointer (some ⟨g,0,none⟩),.bool b,.int .i64 at_] w fun _ w'=>aj (fun r=>r=g) w w'∧cH w' g gs A B (aY b s) clean:=by
 obtain⟨I,ab,ac,big,U,ae,told,sv,V,af,al⟩:=id h;apply fx.enter;refine aZ (fun v X=>w=X∧v= .bool (b&&decide (big=0))) ?_ ?_
 rotate_left
 ·intro aB Y;cases b with
  |false=>rw[aT];exact Y _ _ ⟨rfl,rfl⟩
  |true=>
   rw[bP,az,ah bi.p rfl,ah cQ.p rfl,ai (by kernel_rfl) (V.cell (o:=0+1+1) rfl),bQ,ag];refine⟨fun E=>?_,fun E=>Y _ _ ⟨rfl,by rw[decide_eq_false E];rfl⟩⟩;rw[az,ah bi.p rfl,ah cQ.p rfl,ai (by kernel_rfl) (V.cell (o:=0+1+0) rfl),bQ];exact Y _ _ ⟨rfl,by rw[decide_eq_true E];rfl⟩
 rintro _ _ ⟨rfl,rfl⟩;rw[cE];refine⟨fun am=>?_,fun ao=>?_⟩
 ·obtain⟨rfl,E⟩:=Bool.and_eq_true_iff.1 am;rw[az,ah bi.p rfl,ah cQ.p rfl];refine bE (g:=g) (o:=2) cb.i rfl rfl V (by simp[eH]) fun X ap aC Z=>?_;have Z:ak X g bi (eH gs 0 5 U ae told sv):=Z;rw[az,ah bi.p rfl,ah cQ.p rfl];refine bE (g:=g) (o:=4) J.i rfl rfl Z (by simp[eH]) fun aq au aD aa=>?_;have aa:ak aq g bi (eH gs 0 5 U at_ told sv):=aa;have W:=ap.trans au;exact⟨W,I.ad W,ab.ad W (fun he=>I.1 he.symm) (fun r aw he=>aw.1 (.inl he)),ac,5,U,at_,told,sv,aa,⟨⟨fun _=>by omega,fun _=>by simp[aY]⟩,fun h=>by simp[aY] at h⟩,ax.ad al W fun r _ h ay=>rg h I.2.1 ay⟩
 ·refine⟨aj.refl _ _,I,ab,ac,big,U,ae,told,sv,V,⟨?_,fun h=>af.2 (by
   have h:(s.big||b)=false:=h;exact (U5.1 h).1)⟩,al⟩
  show (s.big||b)=true↔big≠0;cases b with
  |false=>rw[Bool.or_false];exact af.1
  |true=>
   have E:big≠0:=of_decide_eq_false (by simpa using ao);simp[E]
theorem wI {w:x5} {g gs:Nat} {A:av} {B:av} {b:Bool} {at_:Int} (h:dH w g gs A B):O y0 fx [.pointer (some ⟨g,0,none⟩),.bool b,.int .i64 at_] w fun _ w'=>Ext w w':=by
 obtain⟨_,V,big,W,X,told,sv,l,h1,I,_⟩:=h;apply fx.enter;refine aZ (fun v J=>w=J∧v= .bool false) ?_ ?_
 ·rintro _ _ ⟨rfl,rfl⟩;rw[aT];exact Ext.refl _
 intro Y E;cases b with
 |false=>rw[aT];exact E _ _ ⟨rfl,rfl⟩
 |true=>
  rw[bP,az,ah bi.p rfl,ah cQ.p rfl,ai (by kernel_rfl) (h1.cell (o:=0+1+1) rfl),bQ,ag];refine⟨fun U=>?_,fun U=>E _ _ ⟨rfl,rfl⟩⟩;rw[az,ah bi.p rfl,ah cQ.p rfl,ai (by kernel_rfl) (h1.cell (o:=0+1+0) rfl),bQ];exact E _ _ ⟨rfl,by rw[decide_eq_false I.1]⟩
theorem cH.scan {w w':x5} {g gs:Nat} {A:av} {B:av} {s:aA} {clean:Bool} {l:List (List Int)} (h:cH w g gs A B s clean) (E:aj (fun r=>r=gs) w w') (O:fC w' gs (cd g gs A B) l clean) (Z:l.length≤s.toks.length):cH w' g gs A B {s with toks:=l} clean:=by
 obtain⟨h1,_,I,big,U,V,told,sv,W,X,Y⟩:=h;refine⟨h1.ad E,O,⟨I.1,I.2.1,by have:=I.2.2;show s.shared.length+l.length≤100000;omega⟩,big,U,V,told,sv,W.ad E h1.1,X,ax.ad Y E fun r _ h J=>?_⟩;have J:r=gs:=J;subst J;rcases h with h|h
 ·exact h1.2.2.1 h
 ·exact h.1 (.inr (.inl rfl))
theorem wJ {w:x5} {g gs:Nat} {A:av} {B:av} {s:aA} {clean:Bool} (h:cH w g gs A B s clean):O y0 jW [.pointer (some ⟨g,0,none⟩)] w fun v w'=>eP w g gs A B clean ((de s).map (·.2)) w'∧ ∃ (t:List Int) (n:Int),v= .tuple #[bu t,.int .i64 n]∧Bytes t∧t.length≤100000∧ ∀ q,de s=some q→t=q.1:=by
 apply jW.enter;refine (na h).mono ?_;rintro _ aI _ ⟨rfl,af⟩;rw[b3,Y1,aT];have h1:=h.ext af;obtain⟨_,ak,_,big,ao,ap,told,sv,X,_⟩:=id h1;have aq:=ak.words.2;rw[az,ah bi.p rfl,ai (by kernel_rfl) (X.cell (o:=0+0) rfl)];refine (pF ak).mono ?_;rintro v J _ ⟨U,W⟩;have al:aj (bt g gs A) w J:=(af.ad _).trans (U.mono fun r _ h=>.inr (.inl h));cases I:s.toks with
 |cons t l=>
  rw[I] at W;obtain⟨au,n,rfl⟩:=W;have aw:=h1.scan U au (by rw[I];simp);have Y:de s=some (t,{s with toks:=l}):=by unfold de;rw[I]
  have am:=aq t (by rw[I];exact .head _);rw[aC (v:=bu t) rfl,aC (v:=.int .i64 n) rfl,aC (v:=.int .i64 0) rfl];refine aZ (fun v Z=>J=Z∧v= .int .i64 0) ?_ ?_
  ·rintro _ _ ⟨rfl,rfl⟩;refine dF (fun V=>J=V) ?_ ?_
   ·rintro _ rfl;rw[Y];exact⟨⟨al,aw⟩,t,n,rfl,am.1,am.2.2,fun q aa=>by cases aa;rfl⟩
   ·intro ab E;rw[bN,ag];exact⟨fun h=>absurd rfl h,fun _=>E _ rfl⟩
  ·intro ab E;rw[bQ,ag];exact⟨fun h=>by omega,fun _=>E _ _ ⟨rfl,rfl⟩⟩
 |nil=>
  rw[I] at W;obtain⟨n,rfl⟩:=W;have Y:de s=none:=by unfold de;rw[I]
  obtain⟨ac,_,ay,big,ao,ap,told,sv,X,aJ,aB⟩:=id h1;have aD:=X.ad U ac.1;have aE:=ax.ad aB U fun r _ h ae=>by
   have ae:r=gs:=ae;subst ae;rcases h with h|h
   ·exact ac.2.2.1 h
   ·exact h.1 (.inr (.inl rfl))
  rw[aC (v:=bu []) rfl,aC (v:=.int .i64 n) rfl,aC (v:=.int .i64 (if clean then 2 else 11)) rfl];refine aZ (fun v Z=>J=Z∧ ∃ e:Int,v= .int .i64 e∧e≠0) ?_ ?_
  ·rintro _ _ ⟨rfl,e,rfl,he⟩;refine dF (fun V=>aj (fun r=>r=g) J V∧dH V g gs A B) ?_ ?_
   ·rintro V ⟨aF,aG⟩;rw[Y];exact⟨⟨al.trans (aF.mono fun r _ h=>.inl h),aG⟩,[],n,rfl,fun b aH=>(by cases aH),by simp,fun q aa=>by cases aa⟩
   ·intro ab E;rw[bN,ag];refine⟨fun _=>?_,fun h=>absurd he h⟩;exact (rh (ac.ad U) aD aE he (by have:=ay.2.2;show s.shared.length≤_;omega)).mono fun _ w' _ h=>E _ h
  ·intro ab E;rw[bQ,ag];cases clean with
   |true=>exact⟨fun _=>E _ _ ⟨rfl,4,rfl,by omega⟩,fun h=>absurd rfl h⟩
   |false=>exact⟨fun h=>by simp at h,fun _=>E _ _ ⟨rfl,11,rfl,by omega⟩⟩
theorem BX {w:x5} {g gs:Nat} {A:av} {B:av} (h:dH w g gs A B):O y0 jW [.pointer (some ⟨g,0,none⟩)] w fun v w'=>Ext w w'∧v= .tuple #[bu [],.int .i64 0]:=by
 apply jW.enter;refine (lx h).mono ?_;rintro _ I _ ⟨rfl,E⟩;rw[b3,X0,bP];exact⟨E,rfl⟩
theorem th {w:x5} {g gs:Nat} {A:av} {B:av} {s:aA} {clean:Bool} {lo hi:Int} (h:cH w g gs A B s clean):O y0 eB [.pointer (some ⟨g,0,none⟩),.int .i64 lo,.int .i64 hi] w fun v w'=>eP w g gs A B clean ((a7 lo hi s).map (·.2)) w'∧ ∃ n at_:Int,v= .tuple #[.int .i64 n,.int .i64 at_]∧(∀ q,a7 lo hi s=some q→n=q.1)∧(a7 lo hi s=none→n=0):=by
 apply eB.enter;refine (wJ h).mono ?_;rintro _ W _ ⟨⟨X,I⟩,t,n,rfl,af,ah,hw⟩;rw[aC (v:=bu t) rfl,aC (v:=.int .i64 n) rfl];cases J:de s with
 |none=>
  have E:a7 lo hi s=none:=by unfold a7;rw[J]
  rw[J] at I;have I:dH W g gs A B:=I;refine (lx I).mono ?_;rintro _ ai _ ⟨rfl,U⟩;rw[b3,X0,bP,E];exact⟨⟨X.trans (U.ad _),I.ext U⟩,0,n,rfl,fun q h=>(by cases h),fun _=>rfl⟩
 |some q=>
  obtain⟨ap,Y⟩:=q;have:=hw _ J;subst this;rw[J] at I;have I:cH W g gs A B Y clean:=I;refine (na I).mono ?_;rintro _ ai _ ⟨rfl,U⟩;rw[b3,Y1,aT];refine (BS af ah).mono ?_;rintro _ Z _ ⟨rfl,aa⟩;have ab:=(I.ext U).ext aa;have ac:aj (bt g gs A) w Z:=(X.trans (U.ad _)).trans (aa.ad _);obtain⟨m,e,ak,hm⟩:∃ m e:Int,ie t= .tuple #[.int .i64 m,.int .i64 e]∧((e0 t=some m∧e=0)∨(e0 t=none∧e=4)):=by
   unfold ie;cases aq:e0 t with
   |none=>exact⟨0,4,rfl,.inr ⟨rfl,rfl⟩⟩
   |some m=>exact⟨m,0,rfl,.inl ⟨rfl,rfl⟩⟩
  rw[ak,aC (v:=.int .i64 m) rfl,aC (v:=.int .i64 e) rfl];refine aZ (fun v al=>Z=al∧v= .bool (a7 lo hi s).isNone) ?_ ?_
  ·rintro _ _ ⟨rfl,rfl⟩;cases E:a7 lo hi s with
   |none=>
    rw[Option.isNone_none,bP];refine (ri ab (by omega)).mono ?_;rintro _ aw _ ⟨am,ao⟩;exact⟨⟨ac.trans (am.mono fun r _ h=>.inl h),ao⟩,0,n,rfl,fun q h=>(by cases h),fun _=>rfl⟩
   |some q=>
    rw[b8,aT];unfold a7 at E;rw[J] at E;simp only at E;rcases hm with⟨hm,_⟩|⟨hm,_⟩
    ·rw[hm] at E;simp only at E;split at E
     ·cases E;exact⟨⟨ac,ab⟩,m,n,rfl,fun q h=>(by cases h;rfl),fun h=>(by cases h)⟩
     ·cases E
    ·rw[hm] at E;cases E
  ·intro ax V;have E:a7 lo hi s=match e0 t with
     |none=>none
     |some n=>if lo≤n∧n≤hi then some (n,Y) else none:=by
    unfold a7;rw[J];simp only;cases e0 t <;> rfl
   rw[bN,ag];rcases hm with⟨hm,rfl⟩|⟨hm,rfl⟩
   ·rw[hm] at E;simp only at E;refine⟨fun h=>absurd rfl h,fun _=>?_⟩;rw[au,ag];refine⟨fun h=>V _ _ ⟨rfl,by rw[E,if_neg (by omega)];rfl⟩,fun h=>?_⟩;rw[bV];refine V _ _ ⟨rfl,?_⟩;rw[E];by_cases ae:hi<m
    ·rw[decide_eq_true ae,if_neg (by omega)];rfl
    ·rw[decide_eq_false ae,if_pos (by omega)];rfl
   ·rw[hm] at E;exact⟨fun _=>V _ _ ⟨rfl,by rw[E];rfl⟩,fun h=>absurd (by omega:(4:Int)≠0) h⟩
theorem BY {w:x5} {g gs:Nat} {A:av} {B:av} {lo hi:Int} (h:dH w g gs A B):O y0 eB [.pointer (some ⟨g,0,none⟩),.int .i64 lo,.int .i64 hi] w fun v w'=>Ext w w'∧v= .tuple #[.int .i64 0,.int .i64 0]:=by
 apply eB.enter;refine (BX h).mono ?_;rintro _ J _ ⟨E,rfl⟩;rw[aC (v:=bu []) rfl,aC (v:=.int .i64 0) rfl];refine (lx (h.ext E)).mono ?_;rintro _ U _ ⟨rfl,I⟩;rw[b3,X0,bP];exact⟨E.trans I,rfl⟩
theorem BZ {sv:x4} {l:List Int} {x:Int} {w:x5} (h:aH .i64 w sv l):O y0 oT [sv,.int .i64 x] w fun v w'=>Ext w w'∧ ∃ r:Int,v= .int .i64 r∧(0≤r↔x∈l):=by
 apply oT.enter;rw[aO af.u h];refine a8.range l.length (fun i _ J=>Ext w J∧x∉l.take i) h.le ⟨Ext.refl _,by simp⟩ ?_ ?_
 ·rintro i _ J k hi ⟨E,I⟩ V;rw[au,ag];refine⟨fun _=>?_,fun h=>by omega⟩;obtain⟨y,U⟩:∃ y,l[i]? =some y:=⟨_,x3 hi⟩;rw[bm af.u ae.i (by kernel_rfl) (h.ext E) U,bQ,ag];refine⟨fun he=>⟨E,i,rfl,⟨fun _=>he▸u4 U,fun _=>by omega⟩⟩,fun he=>?_⟩;rw[aK];refine V _ _ ⟨E,fun hm=>?_⟩;rw[o3,U] at hm;rcases n0.1 hm with hm|hm
  ·exact I hm
  ·simp at hm;exact he hm
 ·rintro _ J k ⟨E,I⟩;rw[l5] at I;rw[au,ag];exact⟨fun h=>by omega,fun _=>⟨E,-1,rfl,⟨fun h=>by omega,fun h=>absurd h I⟩⟩⟩
theorem B1 {sv:x4} {l:List Int} {x:Int} {w:x5} (h:aH .i64 w sv l):O y0 oG [sv,.int .i64 x] w fun v w'=>v= .bool (decide (x∈l))∧Ext w w':=by
 apply oG.enter;refine (BZ h).mono ?_;rintro _ J _ ⟨E,r,rfl,I⟩;rw[cV];exact⟨by congr 1;rw[X8,decide_eq_true_eq,decide_eq_true_eq];exact I,E⟩
theorem rk:∀ {l:List Int},(∀ z∈l,1≤z)→ ∀ i,aG ((l.take i).map fun k=>min k 4097)≤aG (l.map fun k=>min k 4097)∧1≤aG ((l.take i).map fun k=>min k 4097)
 |[],_,i=>by simp[aG]
 |z::l,h,0=>by
  have E:=rk (l:=l) (fun x I=>h x (.tail _ I)) l.length;rw[l5] at E;have J:=h z (.head _);simp only[List.take_zero,List.map_nil,List.map_cons,aG];have:=Int.mul_le_mul_of_nonneg_left E.2 (show 0≤min z 4097 by omega);omega
 |z::l,h,i+1=>by
  have E:=rk (l:=l) (fun x I=>h x (.tail _ I)) i;have J:=h z (.head _);simp only[List.take_succ_cons,List.map_cons,aG];have h1:=Int.mul_le_mul_of_nonneg_left E.1 (show 0≤min z 4097 by omega);have O:=Int.mul_le_mul_of_nonneg_left E.2 (show 0≤min z 4097 by omega);exact⟨h1,by omega⟩
theorem wK (l:List Int) (x:Int):aG (l++[x])=aG l*x:=by
 induction l with
 |nil=>simp[aG]
 |cons a l E=>rw[List.cons_append,aG,E,aG,Int.mul_assoc]
theorem wL {sv:x4} {l:List Int} {w:x5} (h:aH .i64 w sv l) (h1:∀ z∈l,1≤z):O y0 mr [sv] w fun v w'=>v= .bool (cS l)∧Ext w w':=by
 apply mr.enter;rw[aO af.u h];refine hV.range l.length (fun i _ n I=>Ext w I∧n= .int .i64 (aG ((l.take i).map fun k=>min k 4097))∧aG ((l.take i).map fun k=>min k 4097)≤4096) h.le ⟨Ext.refl _,by simp[aG],by simp[aG]⟩ ?_ ?_
 ·rintro i _ _ I V hi ⟨E,rfl,J⟩ W;rw[au,ag];refine⟨fun _=>?_,fun h=>by omega⟩;obtain⟨z,U⟩:∃ z,l[i]? =some z:=⟨_,x3 hi⟩;have Y:=h1 z (u4 U);have Z:=rk h1 i;have aa:=rk h1 (i+1);have e:aG ((l.take (i+1)).map fun k=>min k 4097)=aG ((l.take i).map fun k=>min k 4097)*min z 4097:=by
   rw[o3,U,j5,j4,List.map_cons,List.map_nil,wK]
  rw[bm af.u ae.i (by kernel_rfl) (h.ext E) U,kb,fA,←e];have ab:aG ((l.take (i+1)).map fun k=>min k 4097)≤4096*4097:=by
   rw[e];have ac:=Int.mul_le_mul_of_nonneg_right J (show 0≤min z 4097 by omega);have ad:=Int.mul_le_mul_of_nonneg_left (show min z 4097≤4097 by omega) (show (0:Int)≤4096 by omega);omega
  rw[wrap_i64 (by omega) (by omega),bV,ag];refine⟨fun X=>⟨?_,E⟩,fun X=>?_⟩
  ·unfold cS;rw[decide_eq_true];omega
  ·rw[aK];exact W _ _ _ ⟨E,rfl,by omega⟩
 ·rintro _ _ I V ⟨E,rfl,J⟩;rw[l5] at J;rw[au,ag];refine⟨fun h=>by omega,fun _=>⟨?_,E⟩⟩;unfold cS;rw[decide_eq_false];omega
def ih (n:Int) (acc:List Int) (s:aA):Option (Int×aA):=match a7 0 (n-1) s with
 |none=>none
 |some (v,s)=>if v∈acc then none else some (v,s)
theorem nb {α:Type} {f:List α→aA→Option (α×aA)} {n:Nat} {acc:List α} {s:aA} (h:f acc s=none):ck f (n+1) acc s=none:=by
 simp only[ck,h]
theorem rl {α:Type} {f:List α→aA→Option (α×aA)} {n:Nat} {acc:List α} {s s':aA} {a:α} (h:f acc s=some (a,s')):ck f (n+1) acc s=ck f n (acc++[a]) s':=by
 simp only[ck,h]
theorem cH.pH {w:x5} {g gs:Nat} {A:av} {B:av} {s:aA} {clean:Bool} (h:cH w g gs A B s clean):(∀ r,bt g gs A r→r<w.heap.size)∧(∀ r,B r→r<w.heap.size):=⟨h.1.2.2.2.1,h.1.2.2.2.2⟩
set_option maxHeartbeats 1600000 in
theorem B2 {w:x5} {g gs k:Nat} {A B:av} {s:aA} {clean:Bool} {m:Int} (h:cH w g gs A B s clean) (bz:k≤4611686018427387904) (hm:0≤m∧m≤1000000):
  O y0 kX [.pointer (some ⟨g,0,none⟩),.int .i64 (k:Int),.int .i64 m] w fun v w'=>eP w g gs A B clean ((dY m k s).map (·.2)) w'∧
   ∃ E l,aq .i64 ae w' E v l∧(∀ r,leads v r→w.heap.size≤r)∧l.length≤100001∧ ∀ q,dY m k s=some q→l=q.1:=by
 obtain⟨aI,aW⟩:=h.pH;have aX:=h.2.1.words.1;apply kX.enter;refine⟨fun out ay ah=>∃ i:Nat,ay= .int .i64 (i:Int)∧i≤k∧aj (bt g gs A) w ah∧ ∃ E l,aq .i64 ae ah E out l∧w.heap.size≤E∧l.length≤100001∧
  ((∃ st,cH ah g gs A B st clean∧ck (ih m) (k-i) l st=dY m k s∧l.length+st.toks.length≤100000)∨(dH ah g gs A B∧dY m k s=none)),fun _ ay _=>k-(bM ay).toNat,
  ⟨0,rfl,Z9 _,aj.refl _ _,w.heap.size,[],aq.nil _ _ _ _,o7 _,by simp,.inl ⟨s,h,rfl,by simpa using aX⟩⟩,?_⟩
 rintro out _ ah ⟨i,rfl,aY,aJ,E,l,aL,bA,bB,aM⟩;have bC:=aJ.size;have az:∀ r,leads out r→w.heap.size≤r:=fun r Y=>by have:=bX aL Y;omega
 refine aZ (fun v W=>Ext ah W∧((v= .bool true∧i<k∧ ∃ st,cH W g gs A B st clean∧ck (ih m) (k-i) l st=dY m k s∧l.length+st.toks.length≤100000)∨
  (v= .bool false∧((∃ st,cH W g gs A B st clean∧dY m k s=some (l,st))∨(dH W g gs A B∧dY m k s=none))))) ?_ ?_
 rotate_left
 ·intro bD al;rw[au,ag];refine⟨fun bE=>?_,fun bF=>?_⟩
  ·rcases aM with⟨st,Z,X,aB⟩|⟨ab,aD⟩
   ·refine (na Z).mono ?_;rintro _ W _ ⟨rfl,aa⟩;exact al _ _ ⟨aa,.inl ⟨rfl,by omega,st,Z.ext aa,X,aB⟩⟩
   ·refine (lx ab).mono ?_;rintro _ W _ ⟨rfl,aa⟩;exact al _ _ ⟨aa,.inr ⟨rfl,.inr ⟨ab.ext aa,aD⟩⟩⟩
  ·have a1:k-i=0:=by omega
   rcases aM with⟨st,Z,X,aB⟩|a2
   ·rw[a1] at X;exact al _ _ ⟨Ext.refl _,.inr ⟨rfl,.inl ⟨st,Z,X.symm⟩⟩⟩
   ·exact al _ _ ⟨Ext.refl _,.inr ⟨rfl,.inr a2⟩⟩
 rintro _ W ⟨aa,a6⟩;have aE:aj (bt g gs A) w W:=aJ.trans (aa.ad _);have am:=aL.ext aa;rcases a6 with⟨rfl,aY,st,Z,X,aB⟩|⟨rfl,a8⟩
 rotate_left
 ·rw[aT];rcases a8 with⟨st,Z,ai⟩|⟨ab,ai⟩
  ·rw[ai];exact⟨⟨aE,Z⟩,E,l,am,az,by omega,fun q J=>by cases J;rfl⟩
  ·rw[ai];exact⟨⟨aE,ab⟩,E,l,am,az,by omega,fun q J=>by cases J⟩
 rw[bP,dD,wrap_i64 (by omega) (by omega)];have ba:k-i=(k-(i+1))+1:=by omega
 rw[ba] at X;refine (th Z).mono ?_;rintro _ ao _ ⟨⟨ap,aw⟩,n,at_,rfl,bb,bG⟩;rw[aC (v:=.int .i64 n) rfl,aC (v:=.int .i64 at_) rfl];have aN:∀ r,leads out r→¬bt g gs A r:=fun r Y bc=>by have:=aI r bc;have:=az r Y;omega
 have bH:∀ r,g=r→bt g gs A r:=fun r h=>.inl h.symm;refine dF (fun I=>aj (bt g gs A) W I∧((∃ V,cH I g gs A B V clean∧ck (ih m) (k-(i+1)) (l++[n]) V=dY m k s∧l.length+1+V.toks.length≤100000)∨(dH I g gs A B∧dY m k s=none))∧l.length+1≤100001) ?_ ?_
 ·rintro I ⟨aO,bd,aP⟩;have be:=bp am aO aN;have aQ:=aE.trans aO;have bI:=aQ.size;refine dW af.u ae.i rfl fun a bJ aR bK ac bf=>?_;refine hb af.u ae.i rfl (be.ext ac) bf.ls (by simp;omega) (by simp;omega) fun bg bh bi bL bj aF=>?_;have bN:=ac.size;rw[aK,wrap_i64 (by omega) (by omega)];have bk:aj (bt g gs A) w bi:=fB (aQ.trans (ac.ad _)) aF fun r Y he=>by have he:r=E:=he;omega
  have aS:∀ r,bt g gs A r→¬(fun r=>r=E) r:=fun r Y he=>by have:=aI r Y;have he:r=E:=he;omega
  have aU:∀ r,cd g gs A B r→¬(fun r=>r=E) r:=fun r Y he=>by have:=aW r Y.2;have he:r=E:=he;omega
  refine⟨⟨i+1,rfl,by omega,bk,bh,l++[n],bj,by omega,by simp;omega,?_⟩,by simp only[bM];omega⟩;rcases bd with⟨V,ax,bl,bO⟩|⟨bm,aD⟩
  ·exact .inl ⟨V,(ax.ext ac).ad aF aS aU,bl,by simp;omega⟩
  ·exact .inr ⟨(bm.ext ac).ad aF aS aU,aD⟩
 ·intro bQ aG;cases J:a7 0 (m-1) st with
  |none=>
   rw[J] at aw;have ab:dH ao g gs A B:=aw;have ak:ih m l st=none:=by unfold ih;rw[J]
   have ai:dY m k s=none:=by rw[←X];exact nb ak
   refine aZ (fun v I=>Ext ao I∧v= .bool false) ?_ ?_
   rotate_left
   ·intro bn aH;refine (lx ab).mono ?_;rintro _ I _ ⟨rfl,U⟩;rw[aT];exact aH _ _ ⟨U,rfl⟩
   rintro _ I ⟨U,rfl⟩;rw[aT];exact aG _ ⟨ap.trans (U.ad _),.inr ⟨ab.ext U,ai⟩,by omega⟩
  |some q=>
   obtain⟨bg,V⟩:=q;have bo:=bb _ J;subst bo;rw[J] at aw;have aV:cH ao g gs A B V clean:=aw;have bq:=c3 J;have aP:l.length+1+V.toks.length≤100000:=by have:=bq.1;omega
   refine aZ (fun v I=>Ext ao I∧v= .bool (decide (n∈l))) ?_ ?_
   rotate_left
   ·intro bn aH;refine (na aV).mono ?_;rintro _ I _ ⟨rfl,U⟩;rw[bP];refine (B1 ((bp am ap aN).ext U).ls).mono ?_;rintro _ aR _ ⟨rfl,ac⟩;exact aH _ _ ⟨U.trans ac,rfl⟩
   rintro _ I ⟨U,rfl⟩;have ax:=aV.ext U;rw[ag];refine⟨fun br=>?_,fun bu=>?_⟩
   ·have ak:ih m l st=none:=by unfold ih;rw[J];simp only;rw[if_pos br]
    refine (ri ax (by omega)).mono ?_;rintro _ aR _ ⟨bw,bx⟩;exact aG _ ⟨(ap.trans (U.ad _)).trans (bw.mono fun r _ h=>.inl h),.inr ⟨bx,by rw[←X];exact nb ak⟩,by omega⟩
   ·have ak:ih m l st=some (n,V):=by unfold ih;rw[J];simp only;rw[if_neg bu]
    exact aG _ ⟨ap.trans (U.ad _),.inl ⟨V,ax,by rw[←X];exact (rl ak).symm,aP⟩,by omega⟩
theorem ti {a b k:Int} {w:x5} (E:0≤a∧a≤4294967296) (I:0≤b∧b≤4294967296):O y0 kR [.int .i64 a,.int .i64 b,.int .i64 k] w fun v w'=>v= .int .i64 (min (a+b) k)∧Ext w w':=by
 apply kR.enter;simp only[aK,bV,ag];rw[wrap_i64 (by omega) (by omega)];exact⟨fun h=>⟨by rw[Int.min_eq_right (by omega)],Ext.refl _⟩,fun h=>⟨by rw[Int.min_eq_left (by omega)],Ext.refl _⟩⟩
def pI (a b k:Int):x4:=if cF a k∧cF b k then .tuple #[.int .i64 (min (a+b) k),.int .i64 0] else .tuple #[.int .i64 0,.int .i64 3]
theorem wM {a b k:Int} {w:x5}:O y0 jn [.int .i64 a,.int .i64 b,.int .i64 k] w fun v w'=>v=pI a b k∧Ext w w':=by
 apply jn.enter;refine aZ (fun v E=>Ext w E∧v= .bool (decide (¬(cF a k∧cF b k)))) ?_ ?_
 ·rintro _ E ⟨I,rfl⟩;simp only[ag,aK,kb];refine⟨fun h=>⟨by unfold pI;rw[if_neg h],I⟩,fun h=>?_⟩;have h:=X2.1 h;obtain⟨⟨h1,X⟩,Y,Z⟩:=id h;have:=h1.2;rw[wrap_i64 (by omega) (by omega)];exact⟨by unfold pI;rw[if_pos h],I⟩
 ·intro aa J;refine ln.mono ?_;rintro _ ab _ ⟨rfl,U⟩;simp only[b3,cE];refine⟨fun h=>J _ _ ⟨U,?_⟩,fun h=>?_⟩
  ·have:¬cF a k:=by simpa using h
   rw[decide_eq_true];exact fun h=>this h.1
  ·have V:cF a k:=by simpa using h
   refine ln.mono ?_;rintro _ ac _ ⟨rfl,W⟩;simp only[b3];exact J _ _ ⟨U.trans W,by simp[V]⟩
theorem B3 {sv:x4} {l:List Int} {w:x5} (h:aH .i64 w sv l) (U:l≠[]):
  O y0 oY [sv] w fun v w'=>v= .int .i64 (s9 l)∧Ext w w':=by
 obtain⟨x,l,rfl⟩:∃ x r,l=x::r:=by cases l with
  |nil=>exact absurd rfl U
  |cons x r=>exact⟨x,r,rfl⟩
 have V:=h.le;apply oY.enter;refine dF (fun W=>w=W) ?_ ?_
 ·rintro _ rfl;rw[eE (y:=0) (i:=0) rfl af.u ae.i (by kernel_rfl) h (by rfl)];refine⟨fun m i I=>Ext w I∧ ∃ k:Nat,i= .int .i64 (k+1:Nat)∧k≤l.length∧m= .int .i64 ((l.take k).foldl min x),fun _ i _=>l.length+1-(bM i).toNat,⟨Ext.refl _,0,rfl,Z9 _,rfl⟩,?_⟩;rintro _ _ I ⟨E,k,rfl,Y,rfl⟩;rw[aO af.u (h.ext E)];simp only[c8,au,ag] at V ⊢;refine⟨fun Z=>?_,fun aa=>⟨?_,E⟩⟩
  ·obtain⟨y,J⟩:∃ y,l[k]? =some y:=⟨_,x3 (by omega)⟩;rw[bm af.u ae.i (by kernel_rfl) (h.ext E) (show (x::l)[k+1]? =some y from J),kb];simp only[aK];rw[wrap_i64 (by omega) (by omega)];refine⟨⟨E,k+1,by congr 1,by omega,?_⟩,?_⟩
   ·rw[o3,J,List.foldl_append];rfl
   ·simp only[bM];omega
  ·have:k=l.length:=by omega
   subst this;rw[l5];rfl
 ·intro ab X;rw[aO af.u h];simp only[au,ag];exact⟨fun h=>by simp at h;omega,fun _=>X _ rfl⟩
theorem wN {w:x5} {g E:Nat} {sv:x4} {an:List Int} {k:Int} {cs:List Int} (h:cG w g E sv an k cs):O y0 iG [.pointer (some ⟨g,0,none⟩)] w fun v w'=>v= .int .i64 k∧Ext w w':=by
 obtain⟨⟨aM,gs,I,hm,J⟩,_⟩:=h;apply iG.enter;rw[cZ bA.u];simp only[b8,aT];rw[az,ah bq.p rfl,ai (by kernel_rfl) (I.cell (o:=0+1) rfl)];exact⟨rfl,Ext.refl _⟩
theorem ko {w:x5} {g I:Nat} {sv:x4} {an:List Int} {k:Int} {cs:List Int} (h:cG w g I sv an k cs):
  O y0 hs [.pointer (some ⟨g,0,none⟩)] w fun v w'=>Ext w w'∧ ∃ E,w.heap.size≤E∧aq .i64 ae w' E v cs:=by
 obtain⟨⟨aM,gs,J,hm,U⟩,⟨_,_,V⟩,W,X⟩:=h;apply hs.enter;rw[cZ bA.u];simp only[b8,aT];rw[az,ah bq.p rfl,ai (by kernel_rfl) (J.cell (o:=0+2) rfl)];exact sS U.ls (by omega)
theorem nc {w:x5} {g J:Nat} {sv:x4} {an:List Int} {k:Int} {cs:List Int} (h:cG w g J sv an k cs):
  O y0 iH [.pointer (some ⟨g,0,none⟩)] w fun v w'=>v= .agg #[sv]∧Ext w w':=by
 obtain⟨⟨aM,gs,U,hm,Z⟩,_⟩:=h;have V:=hm.ls.cells;apply iH.enter;refine bO aJ.i fun aa ab ac I W=>?_;rw[cZ bA.u];simp only[b8,aT];rw[az,ah bq.p rfl,bI (cs:=[sv]) aJ.p aJ.i rfl (lp (U.ext I) (by
  intro j v E
  match j,E with
  |0,E=>exact E))]
 refine b4 (vs:=[sv]) aJ.i rfl rfl (by intro u hu;simp at hu;subst hu;exact V.2) W fun ad X ae Y=>?_;rw[eN aJ.p aJ.i rfl Y.range];exact⟨rfl,I.then X (by rintro r af rfl;omega)⟩
theorem wO {w:x5} {sv:x4} {an:List Int} (h:aH .i64 w sv an) (W:an.length≤1000):O y0 jU [.agg #[sv]] w fun v w'=>Ext w w'∧ ∃ E,w.heap.size≤E∧aq .i64 J w' E v an:=by
 apply jU.enter;refine ce fun g X Y I U=>?_;rw[ah aJ.p rfl,ai (by kernel_rfl) (U.cell (o:=0+0) rfl)];refine (jv (h.ext I) (by omega)).mono ?_;rintro v Z _ ⟨V,E,aa,hm⟩;have ab:=I.size;exact⟨I.trans V,E,by omega,hm⟩
theorem wP {w:x5} {sv:x4} {an:List Int} (h:aH .i64 w sv an):O y0 mJ [.agg #[sv]] w fun v w'=>v= .int .i64 an.length∧Ext w w':=by
 apply mJ.enter;refine ce fun g J U E I=>?_;rw[ah aJ.p rfl,ai (by kernel_rfl) (I.cell (o:=0+0) rfl),aO ab.u (h.ext E)];exact⟨rfl,E⟩
def fS (an:List Int) (i:Int):Int:=if 0≤i then an.getD i.toNat 0 else 0
theorem pJ {w:x5} {sv:x4} {an:List Int} {i:Int} (h:aH .i64 w sv an):O y0 jq [.agg #[sv],.int .i64 i] w fun v w'=>v= .int .i64 (fS an i)∧Ext w w':=by
 apply jq.enter;refine ce fun g W Z E I=>?_;refine aZ (fun v X=>v= .bool (decide (i<0∨(an.length:Int)≤i))∧W=X) ?_ ?_
 ·rintro _ _ ⟨rfl,rfl⟩;simp only[ag];refine⟨fun h=>⟨?_,E⟩,fun Y=>?_⟩
  ·unfold fS;split
   ·rw[p8,Z8 (by omega)];rfl
   ·rfl
  ·rw[ah aJ.p rfl,ai (by kernel_rfl) (I.cell (o:=0+0) rfl)];obtain⟨n,rfl⟩:∃ n:Nat,i=n:=⟨i.toNat,by omega⟩;have U:n<an.length:=by omega
   rw[bm ab.u J.i (by kernel_rfl) (h.ext E) (x3 U)];refine⟨?_,E⟩;unfold fS;rw[if_pos (by omega),p8,c9,x3 U];rfl
 ·intro aa V;simp only[au,ag];refine⟨fun h=>V _ _ ⟨by rw[decide_eq_true];omega,rfl⟩,fun Y=>?_⟩;rw[ah aJ.p rfl,ai (by kernel_rfl) (I.cell (o:=0+0) rfl),aO ab.u (h.ext E)];simp only[cV];exact V _ _ ⟨by congr 1;simp;omega,rfl⟩
theorem tj {g B0:Nat} {sv:x4} {an:List Int} (W:bR an):
  nH y0 gv [.pointer (some ⟨g,0,none⟩)] (aG an).toNat (fun k vs w=>∃ I O,vs=[.int .i64 (k:Int),I]∧B0≤O∧aq .i64 J w O I (cv an k))
   (fun w=>ak w g aJ [sv]∧aH .i64 w sv an∧B0≤w.heap.size):=by
 refine⟨gv.enters,fun l ae aB w aa _ af ⟨ab,ac,ah⟩ ai=>?_⟩;have aD:=prod_bound W;apply gv.enter;rw[bI aJ.p aJ.i rfl ab.range];refine (mU ac W).free.mono ?_;rintro _ aE ⟨aj,rfl,U⟩;refine bc.range (aG an).toNat (fun i E=>ae i E∧ak E g aJ [sv]∧aH .i64 E sv an∧B0≤E.heap.size) (by omega) ⟨aa 0 _ _ U aj.b ai,ab.ext U,ac.ext U,Y3 ah U.size⟩ ?_ ?_
 ·rintro i E k hi ⟨X,Y,Z,ad⟩ al;simp only[au,ag];refine⟨fun _=>?_,fun h=>by omega⟩;rw[bI aJ.p aJ.i rfl Y.range];refine (AN Z W (by omega) (by omega)).free.mono ?_;rintro _ am ⟨ao,V,I,O,rfl,ap,av⟩;rw[aC (v:=I) rfl,aC (v:=.int .i64 0) rfl];refine⟨rfl,(af i _ am hi ⟨Y.ext V,Z.ext V,Y3 ad V.size⟩ ⟨I,O,rfl,Y3 ad ap,av⟩ (aa _ _ _ V ao.b X)).mono ?_⟩;rintro _ aF (⟨rfl,⟨aw,ax,ay⟩,az⟩|⟨rfl,aA⟩)
  ·simp only[b3,Y1,aT,aK];exact al _ ⟨az.1,aw,ax,ay⟩
  ·simp only[b3,X0,bP];exact .inr ⟨i,hi,aA⟩
 ·rintro E k ⟨X,Y,Z,_⟩;simp only[au,ag];exact⟨fun h=>by omega,fun _=>.inl X⟩
theorem tk {sv:x4} {w:x5}:O y0 kU [.agg #[sv]] w fun r w'=>Ext w w'∧ ∃ g,r= .func (.func gv) #[] #[.pointer (some ⟨g,0,none⟩)]∧w.heap.size≤g∧ak w' g aJ [sv]:=by
 apply kU.enter;refine ce fun g J U E I=>?_;rw[pm];exact⟨E,g,rfl,by omega,I⟩
end Go.Proofs.YtgbkinibgjmodaaGreatDoor
namespace Go.Vc
open Go Go.RowKit
set_option maxRecDepth 100000
section
variable {P:X1} {w:x5}
theorem aa.db {α:Type} {s:Sem α} {K:α→x5→Prop} (h:aa P s w fun v w'=>cP w w'→K v w'):aa P s w K:=by
 obtain⟨v,w',h1,E,I⟩:=h;exact⟨v,w',h1,E,I E⟩
structure Keys (P:X1) (k:o6) (G:x4→Prop):Prop where
 check:∀ (w:x5) (em:Bool) {v:x4},G v→(Instr.checkKey em 10000 k v).run P w= .ok () w
 find:∀ (w:x5) {x:x4},G x→ ∀ es:List MapEntry,(∀ e∈es,G e.key)→
  ((Instr.findKey k x es).run P w= .ok none w∧ ∀ e∈es,e.key≠x)∨ ∃ j e,(Instr.findKey k x es).run P w= .ok (some (j,e.val)) w∧es[j]? =some e∧e.key=x
 stays:∀ (w:x5) {v:x4},G v→(Instr.keyThatStays v v).run P w= .ok v w
theorem Keys.law {k:o6} (K:WideMaps.KeyLaw P k):Keys P k fun v=>∃ l,keyOf P k v=some l:=
 ⟨fun w E _ ⟨_,h⟩=>K.check w E h,fun w _ ⟨_,h⟩ I J=>K.find w h I J,fun w _ ⟨_,h⟩=>K.stays w h⟩
theorem Keys.int {k:o6} {E:o8} (I:P.underlying k=some (.int E)):Keys P k fun v=>∃ n,v= .int E n:=by
 have key:∀ n,MapKept.IsKey (.int E) (.int E n):=fun n=>rfl;refine⟨fun w O v ⟨n,h⟩=>?_,fun w x ⟨n,h⟩ U V=>?_,fun w v ⟨n,h⟩=>?_⟩
 ·subst h;exact MapKept.run_checkKey I (key n) O 9999
 ·subst h;rcases MapKept.findNow_spec (key n) U 0 (fun e he=>by obtain⟨m,h⟩:=V e he;rw[h];exact key m) with⟨h1,J⟩|⟨j,e,h1,J,W⟩
  ·exact .inl ⟨MapKept.run_findKey I h1,J⟩
  ·exact .inr ⟨j,e,by have:=MapKept.run_findKey (P:=P) (w:=w) I h1;simpa using this,J,W⟩
 ·subst h;exact MapKept.run_keyThatStays (d:=.int E) (key n)
def fe (e:MapEntry):x4×x4:=(e.key,e.val)
def cw (w:x5) (m:Nat) (d:List (x4×x4)):Prop:=∃ E I,w.heap[m]? =some (.map E I)∧MapKept.Stamped E I∧E.toList.map fe=d
theorem cw.ext {w':x5} {m:Nat} {d:List (x4×x4)} (h:cw w m d) (E:Ext w w'):cw w' m d:=by
 obtain⟨I,c,h1,J⟩:=h;exact⟨I,c,E.bw m _ h1 rfl,J⟩
theorem cw.ad {S:Nat→Prop} {w':x5} {m:Nat} {d:List (x4×x4)} (h:cw w m d) (E:aj S w w') (I:¬S m):cw w' m d:=by
 obtain⟨J,c,h1,O⟩:=h;exact⟨J,c,E.bw m _ h1 rfl I,O⟩
theorem cw.lt {m:Nat} {d:List (x4×x4)} (h:cw w m d):m<w.heap.size:=by
 obtain⟨E,c,h1,I⟩:=h;exact (l7.1 h1).1
theorem cw.nodup {m:Nat} {d:List (x4×x4)} (h:cw w m d):(d.map (·.1)).Nodup:=by
 obtain⟨I,c,_,⟨_,_,E⟩,rfl⟩:=h;rw[List.map_map];exact E
theorem ii {α:Type} {l:List α} (h:l.Nodup) {i j:Nat} {x:α} (hi:l[i]? =some x) (U:l[j]? =some x):i=j:=by
 have E:=x6.1 hi;have I:=x6.1 U;have O:=W5.1 h;rcases Nat.lt_trichotomy i j with J|rfl|J
 ·exact absurd (E.2.trans I.2.symm) (O i j E.1 I.1 J)
 ·rfl
 ·exact absurd (I.2.trans E.2.symm) (O j i I.1 E.1 J)
theorem kp {α β:Type} (f:α→β):∀ (l:List α) (i:Nat),(l.map f).eraseIdx i=(l.eraseIdx i).map f
 |[],_=>by simp
 |_::_,0=>rfl
 |x::l,i+1=>by simp[kp f l i]
theorem cw.uniq {m:Nat} {d:List (x4×x4)} (h:cw w m d) {i j:Nat} {p q:x4×x4} (hi:d[i]? =some p) (E:d[j]? =some q) (he:p.1=q.1):i=j:=by
 have I:=h.nodup;have h1:(d.map (·.1))[i]? =some p.1:=by rw[r8,hi];rfl
 have J:(d.map (·.1))[j]? =some p.1:=by rw[r8,E,he];rfl
 exact ii I h1 J
theorem rm {m:Nat} {X:Array MapEntry} {c:Nat} (U:w.heap[m]? =some (.map X c)) (E:Array MapEntry) (I:Nat):
  aj (fun r=>r=m) w {w with heap:=w.heap.setIfInBounds m (.map E I)}∧cP w {w with heap:=w.heap.setIfInBounds m (.map E I)}∧({w with heap:=w.heap.setIfInBounds m (.map E I)}:x5).heap[m]? =some (.map E I):=by
 have O:=MapKept.heap_set (o':=.map E I) U;refine⟨⟨by simp,fun r o J V Y=>?_⟩,⟨rfl,.iy,rfl,by simp,fun r o J V=>?_⟩,O.1⟩
 ·show (w.heap.setIfInBounds m _)[r]? =some o;rw[O.2 r Y];exact J
 ·show (w.heap.setIfInBounds m _)[r]? =some o;by_cases W:r=m
  ·subst W;rw[U] at J;cases J;cases V
  ·rw[O.2 r W];exact J
theorem rn {t:o6} {K:x4→x5→Prop} (h:∀ m w',m=w.heap.size→Ext w w'→cw w' m []→K (.map (some m)) w'):aa P (Instr.makeMap t none) w K:=by
 refine .of (run_makeMap t w) (lY w _) (h _ _ rfl (lX w _) ⟨#[],0,?_,MapKept.stamped_empty 0,rfl⟩);exact heap_alloc_new w _
variable {k e:o6} {G:x4→Prop}
theorem pK {t:o6} {c:Bool} {m:Nat} {d:List (x4×x4)} {x v:x4} {K:x4→Prop} (Y:P.underlying t=some (.map k e)) (U:Keys P k G) (hm:cw w m d) (Z:∀ p∈d,G p.1) (V:G x) {j:Nat} (E:d[j]? =some (x,v)):
  I P (V3 t (.map (some m)) x c) w K=K (if c then .tuple #[v,.bool true] else v):=I.of fun w' aa=>by
 obtain⟨J,ab,W,ac,rfl⟩:=hm.ext aa;have ad:∀ e∈J.toList,G e.key:=fun e he=>Z (fe e) (l9.2 ⟨e,he,rfl⟩);rcases U.find w' V J.toList ad with⟨_,O⟩|⟨i,X,h1,O,ae⟩
 ·rw[r8] at E;obtain⟨af,ag,ah⟩:=Z3.1 E;exact absurd (congrArg Prod.fst ah) (O af (u4 ag))
 ·have ai:X.val=v:=by
   have hi:(J.toList.map fe)[i]? =some (fe X):=by rw[r8,O];rfl
   have aj:cw w' m (J.toList.map fe):=⟨J,ab,W,ac,rfl⟩;have:=aj.uniq hi E ae;subst this;rw[hi] at E;exact congrArg Prod.snd (b9 E)
  simp only[V3,Y2,run_underlying Y,Y4,MapKept.run_getObj_map W,Y6,U.check w' _ V,h1,ai]
theorem rp {t:o6} {c:Bool} {m:Nat} {d:List (x4×x4)} {x z:x4} {K:x4→Prop} (X:P.underlying t=some (.map k e)) (J:Keys P k G) (E:∃ s b,aI P e s b z) (hm:cw w m d) (Y:∀ p∈d,G p.1) (O:G x) (Z:∀ p∈d,p.1≠x):
  I P (V3 t (.map (some m)) x c) w K=K (if c then .tuple #[z,.bool false] else z):=I.of fun w' aa=>by
 obtain⟨U,af,ab,ag,rfl⟩:=hm.ext aa;have ac:∀ e∈U.toList,G e.key:=fun e he=>Y (fe e) (l9.2 ⟨e,he,rfl⟩);have ad:(zeroValue e).run P w'= .ok z w':=by
  obtain⟨s,b,i,hi,_,_,E⟩:=E;simp[zeroValue,typeInfo,hi,E]
 rcases J.find w' O U.toList ac with⟨h1,V⟩|⟨i,W,h1,V,ae⟩
 ·simp only[V3,Y2,run_underlying X,Y4,MapKept.run_getObj_map ab,Y6,J.check w' _ O,h1,ad]
 ·exact absurd ae (Z (fe W) (l9.2 ⟨W,u4 V,rfl⟩))
theorem B4 {E:Array MapEntry} {j:Nat} {I:MapEntry} {f:MapEntry→MapEntry} (h:E[j]? =some I):(E.modify j f).toList.map fe=(E.toList.map fe).set j (fe (f I)):=by
 refine X6 fun i=>?_;simp only[r8,U7,Array.getElem?_modify,Y7,o4,Array.length_toList];by_cases J:j=i
 ·subst J;have:=(l7.1 h);simp[this.1,this.2]
 ·simp[J]
theorem pL {t:o6} {m:Nat} {d:List (x4×x4)} {x v:x4} {K:Unit→x5→Prop} (ab:P.underlying t=some (.map k e)) (J:Keys P k G) (hm:cw w m d) (ag:∀ p∈d,G p.1) (O:G x)
  (h1:∀ j v0 w',d[j]? =some (x,v0)→cw w' m (d.set j (x,v))→aj (fun r=>r=m) w w'→K () w')
  (ah:∀ w',(∀ p∈d,p.1≠x)→cw w' m (d++[(x,v)])→aj (fun r=>r=m) w w'→K () w'):aa P (Instr.mapUpdate t (.map (some m)) x v) w K:=by
 obtain⟨I,U,E,ac,rfl⟩:=hm;have ai:∀ e∈I.toList,G e.key:=fun e he=>ag (fe e) (l9.2 ⟨e,he,rfl⟩);rcases J.find w O I.toList ai with⟨V,ad⟩|⟨i,ae,V,hi,he⟩
 ·obtain⟨W,X,Y⟩:=rm E (I.push {key:=x,val:=v,born:=U}) (U+1);refine .of (v:=()) (w':=_) ?_ X (ah _ (fun p ak=>?_) ⟨_,_,Y,MapKept.stamped_push ac ad,by simp[fe]⟩ W)
  ·simp only[Instr.mapUpdate,Y2,run_underlying ab,Y4,MapKept.run_getObj_map E,J.check w _ O,V,MapKept.run_setObj_map _ E]
  ·obtain⟨al,am,rfl⟩:=l9.1 ak;exact ad al am
 ·have Z:I[i]? =some ae:=by simpa using hi
  obtain⟨W,X,Y⟩:=rm E (I.modify i fun e=>{e with key:=x,val:=v}) U;refine .of (v:=()) (w':=_) ?_ X (h1 i ae.val _ (by rw[r8,hi];simp[fe,he]) ⟨_,_,Y,MapKept.stamped_modify ac _ _ (fun _ _=>rfl) (fun ao _ af=>by rw[Z] at af;cases af;exact he.symm),B4 Z⟩ W);simp only[Instr.mapUpdate,Y2,run_underlying ab,Y4,MapKept.run_getObj_map E,J.check w _ O,V,Z,b6,V4,he,J.stays w O,MapKept.run_setObj_map _ E]
theorem B5 {t ac ty:o6} {m:Nat} {d:List (x4×x4)} {x:x4} {K:x4→x5→Prop} (Y:P.underlying t=some (.map k e)) (J:Keys P k G) (hm:cw w m d) (ad:∀ p∈d,G p.1) (O:G x)
  (h1:∀ j v0 w',d[j]? =some (x,v0)→cw w' m (d.eraseIdx j)→aj (fun r=>r=m) w w'→K (.tuple #[]) w')
  (ae:∀ w',(∀ p∈d,p.1≠x)→cw w' m d→aj (fun r=>r=m) w w'→K (.tuple #[]) w'):aa P (u7.delete_ #[t,ac] ty #[.map (some m),x]) w K:=by
 obtain⟨I,Z,E,ab,rfl⟩:=hm;have af:∀ e∈I.toList,G e.key:=fun e he=>ad (fe e) (l9.2 ⟨e,he,rfl⟩);rcases J.find w O I.toList af with⟨U,ag⟩|⟨i,ah,U,hi,he⟩
 ·obtain⟨V,W,X⟩:=rm E I Z;refine .of (v:=.tuple #[]) (w':=_) ?_ W (ae _ (fun p ai=>?_) ⟨_,_,X,ab,rfl⟩ V)
  ·simp only[u7.delete_,List.getElem?_toArray,List.getElem?_cons_zero,List.getElem?_cons_succ,Y2,run_underlying Y,Y4,MapKept.run_getObj_map E,J.check w _ O,U,MapKept.run_setObj_map _ E,Y6]
  ·obtain⟨ak,al,rfl⟩:=l9.1 ai;exact ag ak al
 ·obtain⟨V,W,X⟩:=rm E (I.eraseIdxIfInBounds i) Z;refine .of (v:=.tuple #[]) (w':=_) ?_ W (h1 i ah.val _ (by rw[r8,hi];simp[fe,he]) ⟨_,_,X,MapKept.stamped_erase ab _,by rw[kp];simp⟩ V);simp only[u7.delete_,List.getElem?_toArray,List.getElem?_cons_zero,List.getElem?_cons_succ,Y2,run_underlying Y,Y4,MapKept.run_getObj_map E,J.check w _ O,U,MapKept.run_setObj_map _ E,Y6]
theorem B6 {t ty:o6} {m:Nat} {d:List (x4×x4)} {K:x4→Prop} (E:P.underlying t=some (.map k e)) (hm:cw w m d):I P (u6 #[t] ty #[.map (some m)]) w K=K (.int .i64 d.length):=I.of fun w' J=>by
 obtain⟨U,V,O,W,rfl⟩:=hm.ext J;simp[u6,run_underlying E,MapKept.run_getObj_map O,goInt]
def fE (w:x5) (U m:Nat) (d left:List (x4×x4)) (V:Option (x4×x4)):Prop:=∃ E I seen J,w.heap[m]? =some (.map E I)∧MapKept.Stamped E I∧E.toList.map fe=d∧
 w.heap[U]? =some (.mapIter (some m) I seen J)∧I≤J∧(leftOf E seen).toList.map fe=left∧ ∀ p,V=some p→J=I∧ ∃ O,E.toList.find? (fun e=>e.born == seen.back?.getD 0)=some O∧seen.back? =some O.born∧fe O=p
theorem fE.map {E m:Nat} {d left:List (x4×x4)} {I:Option (x4×x4)} (h:fE w E m d left I):cw w m d:=by
 obtain⟨J,c,_,_,h1,O,U,_⟩:=h;exact⟨J,c,h1,O,U⟩
theorem fE.bw {w':x5} {E m:Nat} {d left:List (x4×x4)} {I:Option (x4×x4)} (h:fE w E m d left I) {S:Nat→Prop} (J:aj S w w') (hm:¬S m) (hi:eM w w'):fE w' E m d left I:=by
 obtain⟨O,c,s,U,h1,V,W,X,Y⟩:=h;exact⟨O,c,s,U,J.bw m _ h1 rfl hm,V,W,hi E _ X rfl,Y⟩
theorem fE.ext {w':x5} {E m:Nat} {d left:List (x4×x4)} {I:Option (x4×x4)} (h:fE w E m d left I) (J:Ext w w') (hi:eM w w'):fE w' E m d left I:=
 h.bw (J.ad fun _=>False) (fun h=>h) hi
theorem B7 (E:Array MapEntry):leftOf E #[]=E:=by
 unfold leftOf;exact Array.filter_eq_self.2 fun x I=>by simp
theorem wQ {t:o6} {m:Nat} {d:List (x4×x4)} {K:x4→x5→Prop} (U:P.underlying t=some (.map k e)) (hm:cw w m d)
  (h:∀ E w',E=w.heap.size→Ext w w'→eM w w'→fE w' E m d d none→K (.pointer (some ⟨E,0,none⟩)) w'):aa P (Instr.range t (.map (some m))) w K:=by
 obtain⟨J,I,O,V,rfl⟩:=hm;refine .of (run_range_map w t k e m J I U O) (lY w _) (h _ _ rfl (lX w _) (lY w _).kD ⟨J,I,#[],I,(lX w _).bw m _ O rfl,V,rfl,heap_alloc_new w _,o7 _,by rw[B7],fun p W=>by cases W⟩)
theorem wR:∀ (l:List MapEntry) (j:Nat) (E:MapEntry),(l.map (·.born)).Nodup→l[j]? =some E→l.filter (fun x=>!(x.born == E.born))=l.eraseIdx j
 |[],j,E,_,h=>by simp at h
 |x::l,0,E,J,h=>by
  simp at h;subst h;have I:=List.nodup_cons.1 (by simpa using J:(x.born::l.map (·.born)).Nodup);simp only[List.filter_cons,beq_self_eq_true,Y1,Bool.false_eq_true,if_false,List.eraseIdx_cons_zero];refine List.filter_eq_self.2 fun y O=>?_;have:y.born≠x.born:=fun he=>I.1 (he▸l9.2 ⟨y,O,rfl⟩);simpa using this
 |x::l,j+1,E,J,h=>by
  simp at h;have I:=List.nodup_cons.1 (by simpa using J:(x.born::l.map (·.born)).Nodup);have U:x.born≠E.born:=fun he=>I.1 (he▸l9.2 ⟨E,u4 h,rfl⟩);have V:=wR l j E I.2 h;simp only[List.filter_cons,List.eraseIdx_cons_succ,V];simp[U]
theorem wS {free:ez} {E m:Nat} {d left:List (x4×x4)} {ak:Option (x4×x4)} {K:x4→x5→Prop} (h:fE w E m d left ak) (X:free.1=false→free.2≤E)
  (al:left=[]→K (.tuple #[.bool false]) w)
  (h1:∀ j p w',left[j]? =some p→Ext w w'→cm E w w'→fE w' E m d (left.eraseIdx j) (some p)→K (.tuple #[.bool true,p.1,p.2]) w'):ny P free (Instr.next (.pointer (some ⟨E,0,none⟩)) false 0) w K:=by
 obtain⟨J,O,seen,am,Y,aa,rfl,hi,ao,rfl,_⟩:=h;have ae:∀ x∈J.toList,x.born<O:=aa.1;have af:=aa.2.1;have ag:∀ x∈(leftOf J seen).toList,x.born<O:=fun x V=>ae x (mem_left V).1;have ap:∀ (W:x5) (o':Obj),W.heap=w.heap→(setObj E o').run P W= .ok () {W with heap:=W.heap.setIfInBounds E o'}:=fun W o' he=>by
  simp only[setObj,Sem.run];rw[he,hi]
 unfold ny;simp only[Instr.next,getObj,Y2,Sem.run,hi,Y,Y4,next_test_false seen J O am ae ao,Bool.false_eq_true,if_false];have aq:Array.filter (fun e=>!seen.contains e.born) J=leftOf J seen:=rfl;rw[aq];have au:((leftOf J seen).toList.map (·.born)).Nodup:=by
  unfold leftOf;rw[Array.toList_filter];exact (List.Sublist.map _ List.filter_sublist).nodup af
 have av:∀ Z:MapEntry,leftOf J (seen.push Z.born)=(leftOf J seen).filter fun x=>!(x.born == Z.born):=fun Z=>by
  unfold leftOf;rw[Array.filter_filter];congr 1;funext x;rw[contains_push];cases seen.contains x.born <;> cases x.born == Z.born <;> rfl
 generalize aw:leftOf J seen=L at*;have ax:L.filter (fun x=>decide (x.born<O))=L:=Array.filter_eq_self.2 (fun x V=>by simpa using ag x (by simpa using V));have ay:L.filter (fun x=>decide (x.born≥O))= #[]:=by
  rw[Array.filter_eq_empty_iff];intro x V;have:=ag x (by simpa using V);simp;omega
 simp only[ax,ay,Array.append_empty];by_cases ah:L.size=0
 ·have az:L= #[]:=Array.eq_empty_of_size_eq_zero ah;subst az;refine⟨.tuple #[.bool false],w,?_,fun _=>cm.refl _ _,al rfl⟩;simp[choose,Sem.run,Question.forced]
 ·have aA:L.isEmpty=false:=by simp[Array.isEmpty,ah]
  simp only[aA,Bool.false_eq_true,if_false,Array.empty_append,Array.size_map];have aB:∃ (j:Nat) (n:Nat),j<L.size∧w.drawn≤n∧(choose (Question.mapNext L.size)).run P w= .ok j {w with drawn:=n}:=by
   by_cases X:L.size≤1
   ·exact⟨0,w.drawn,by omega,o7 _,by simp[choose,Sem.run,Question.forced,X]⟩
   ·exact⟨_,w.drawn+1,Nat.mod_lt _ (by omega),Nat.le_succ _,by
     simp only[choose,Sem.run,Question.forced,decide_eq_true_eq,X,if_false,Question.cut];rfl⟩
  obtain⟨j,n,ab,ai,aC⟩:=aB;have aj:L.toList[j]? =some L[j]:=by simp[ab]
  have aD:L[j]∈J.toList:=(mem_left (seen:=seen) (by rw[aw];exact Array.mem_toList_iff.2 (Array.getElem_mem ab))).1;refine⟨.tuple #[.bool true,L[j].key,L[j].val],{w with drawn:=n,heap:=w.heap.setIfInBounds E (.mapIter (some m) O (seen.push L[j].born) O)},?_,?_,?_⟩
  ·have aE:=ap {w with drawn:=n} (.mapIter (some m) O (seen.push L[j].born) O) rfl;simp only[aC,Array.getElem?_map,Array.getElem?_eq_getElem ab,b6,Y2,aE,Y4,Y6]
  ·intro aF;have:=X aF;refine⟨rfl,⟨rfl,ai⟩,rfl,by simp,fun r o I ac=>?_,fun r o aG I ad=>?_⟩
   ·show (w.heap.setIfInBounds E _)[r]? =some o;by_cases U:r=E
    ·subst U;rw[hi] at I;cases I;cases ac
    ·rw[(MapKept.heap_set hi).2 r U];exact I
   ·show (w.heap.setIfInBounds E _)[r]? =some o;rw[(MapKept.heap_set hi).2 r (by omega)];exact I
  ·refine h1 j (fe L[j]) _ (by rw[r8,aj];rfl) ⟨by simp,fun r o I ad=>?_⟩ ⟨rfl,⟨rfl,ai⟩,rfl,by simp,fun r o I ac=>?_,fun r o aG I ad=>?_⟩ ⟨J,O,seen.push L[j].born,O,?_,aa,rfl,?_,o7 _,?_,fun p aH=>⟨rfl,L[j],?_,by simp,b9 aH⟩⟩
   ·show (w.heap.setIfInBounds E _)[r]? =some o;by_cases U:r=E
    ·subst U;rw[hi] at I;cases I;cases ad
    ·rw[(MapKept.heap_set hi).2 r U];exact I
   ·show (w.heap.setIfInBounds E _)[r]? =some o;by_cases U:r=E
    ·subst U;rw[hi] at I;cases I;cases ac
    ·rw[(MapKept.heap_set hi).2 r U];exact I
   ·show (w.heap.setIfInBounds E _)[r]? =some o;rw[(MapKept.heap_set hi).2 r (by omega)];exact I
   ·show (w.heap.setIfInBounds E _)[m]? =_;rw[(MapKept.heap_set hi).2 m (fun he=>by subst he;rw[hi] at Y;cases Y)];exact Y
   ·exact (MapKept.heap_set hi).1
   ·rw[av,Array.toList_filter,wR _ _ _ au aj,kp]
   ·simp only[Array.back?_push,V4];exact find_born _ _ af aD
theorem wT {E m:Nat} {d left:List (x4×x4)} {p:x4×x4} {K:x4→x5→Prop} (h:fE w E m d left (some p)) (O:K (.tuple #[p.1,p.2]) w):aa P (Instr.entry (.pointer (some ⟨E,0,none⟩))) w K:=by
 obtain⟨W,X,seen,Y,U,Z,rfl,hi,ab,rfl,V⟩:=h;obtain⟨rfl,I,h1,J,rfl⟩:=V p rfl;refine .of (v:=.tuple #[I.key,I.val]) (w':=w) ?_ (cP.refl _) O;rw[J] at h1;simp only[Instr.entry,getObj,Y2,Sem.run,hi,U,Y4,J,bne_self_eq_false,Bool.false_eq_true,if_false,←Array.find?_toList];simp only[V4] at h1;rw[h1];rfl
end
end Go.Vc
namespace Go.Proofs.YtgbkinibgjmodaaGreatDoor
open Go Go.Vc Go.RowKit Go.Proofs Go.Proofs.Tryz
set_option maxRecDepth 100000
def dj (ks:List Int):x4:=.agg (ints .i8 ks).toArray
def iT (ks:List Int):Prop:=ks.length=6∧ ∀ x∈ks,0≤x∧x<32
theorem B8 {a b:List Int} (h:dj a=dj b):a=b:=by
 unfold dj at h;have h:ints .i8 a=ints .i8 b:=congrArg Array.toList (x4.agg.inj h);have e:∀ l:List Int,(ints .i8 l).map valOf=l:=fun l=>by
  unfold ints;rw[List.map_map];exact List.map_id l
 rw[←e a,←e b,h]
theorem wU (ks:List Int):(dj ks).cells.toList=ints .i8 ks:=by simp[dj,x4.cells]
theorem B9:WideMaps.ArrKey y0 bh dz 6:=⟨bh.u,by kernel_rfl,by kernel_rfl,by kernel_rfl⟩
theorem keys:Keys y0 bh fun v=>∃ l,keyOf y0 bh v=some l:=Keys.law B9.law
theorem tl {ks:List Int} (h:iT ks):∃ l,keyOf y0 bh (dj ks)=some l:=by
 obtain⟨U,E⟩:=h
 match ks,U with
 |[a,b,c,d,e,f],_=>
  have V:=E a (by simp);have W:=E b (by simp);have X:=E c (by simp);have rd:=E d (by simp);have Y:=E e (by simp);have iy:=E f (by simp);have wf:∀ x:Int,0≤x∧x<32→(Lit.int .i8 x).wf=true:=fun x I=>by
   simp only[Lit.wf,U1,decide_eq_true_eq];have ae:o8.i8.min= -128:=by decide
   have af:o8.i8.max=127:=by decide
   omega
  have J:decide (0<y0.types.size)=true:=by kernel_rfl
  have J:=of_decide_eq_true J;obtain⟨n,Z⟩:∃ n,y0.types.size=n+1:=⟨y0.types.size-1,by omega⟩;have one:∀ x:Int,0≤x∧x<32→y0.keyLits (n+1) dz [.int .i8 x]=some [.int .i8 x]:=fun x I=>by
   unfold X1.keyLits;rw[dz.u];simp[wf x I]
  unfold keyOf;rw[bh.u];simp only;have aa:y0.keyType bh=true:=by kernel_rfl
  have ab:y0.cellsOf dz=1:=by kernel_rfl
  have O:y0.cellsOf bh=6:=by kernel_rfl
  have ac:(dj [a,b,c,d,e,f]).formed y0 bh=true:=by
   unfold dj x4.formed;rw[bh.u,O];rfl
  rw[aa,ac,wU,Z];simp only[Bool.and_self,if_true];unfold X1.keyLits;rw[bh.u];simp only[O,ab,ints];have ad:X7 6=[0,1,2,3,4,5]:=by decide
  simp[ad,one a V,one b W,one c X,one d rd,one e Y,one f iy]
def pad (t:List Int):List Int:=t++p9 (6-t.length) 0
theorem Ca {t:List Int} (J:t.length≤6) (E:∀ x∈t,0≤x∧x<32):iT (pad t):=
 ⟨by simp[pad];omega,fun x I=>by
  rcases n0.1 I with h|h
  ·exact E x h
  ·have:=(List.mem_replicate.1 h).2;omega⟩
theorem Cb {a b:List Int} (E:a.length=b.length) (h:pad a=pad b):a=b:=by
 unfold pad at h;exact (List.append_inj h E).1
theorem wV {t:List Int}:(pad t).take t.length=t:=by simp[pad]
theorem ly {w:x5} {b o:Nat} {ks:List Int} {K:x4→Prop} (E:ks.length=6) (h:w.rangeAt b o (ints .i8 ks)):I y0 (x1 bh (.pointer (some ⟨b,o,none⟩))) w K=K (dj ks):=
 sJ bh.u rfl bh.i (by simp[E]) h
theorem Cc {w:x5} {b o:Nat} {ks:List Int} {K:x4→Prop} (E:ks.length=6) (h:w.rangeAt b o (ints .i8 ks)):I y0 (do loadVar bh (←asAddr (.pointer (some ⟨b,o,none⟩)))) w K=K (dj ks):=I.of fun w' J=>by
 have:=run_loadVar_mid (P:=y0) w' b o bh (ints .i8 ks) (.array 6 dz) (pi J h) bh.u rfl (by rw[bh.i.size];simp[E]);simp only[asAddr,Y2,Y6,Result.andThen_ok,this];rfl
theorem pM {w:x5} {g:Nat} {ks:List Int} {cs:List x4} {K:Unit→x5→Prop} (E:ks.length=6) (I:cs.length=6) (J:ak w g bh cs)
  (h:∀ w',aj (fun r=>r=g) w w'→w'.heap.size=w.heap.size→ak w' g bh (ints .i8 ks)→K () w'):aa y0 (x8 bh (.pointer (some ⟨g,0,none⟩)) (dj ks)) w K:=
 b4 (vs:=ints .i8 ks) bh.i (by simp[E]) I (fun v O=>by obtain⟨x,_,rfl⟩:=l9.1 O;rfl) J h
def rq:List x4:=[.int .i8 0,.int .i8 0,.int .i8 0,.int .i8 0,.int .i8 0,.int .i8 0]
theorem Cd {x:Int} {w:x5}:O y0 j2 [.int .i64 x] w fun v w'=>v= .bool (decide (¬gg x))∧Ext w w':=by
 apply j2.enter;simp only[aB,au,bV,ag];refine⟨fun h=>⟨?_,Ext.refl _⟩,fun h=>⟨?_,Ext.refl _⟩⟩
 ·rw[decide_eq_true];intro E;have:=E.1;omega
 ·congr 1;have:(32<x)=(¬gg x):=propext ⟨fun I E=>by have:=E.2;omega,fun I=>by
   by_cases J:32<x
   ·exact J
   ·exact absurd ⟨by omega,by omega⟩ I⟩
  simp only[this]
theorem Ce {sv:x4} {l:List Int} {w:x5} (h:aH .i64 w sv l):
  O y0 jX [sv,.func (.func j2) #[] #[]] w fun v w'=>Ext w w'∧ ∃ n:Int,v= .int .i64 n∧((0≤n)=¬∀ x∈l,gg x):=by
 have ac:=h.le;apply jX.enter;rw[aO ab.u h];refine⟨fun _ t U=>Ext w U∧ ∃ i:Nat,t= .int .i64 i∧i≤l.length∧ ∀ x∈l.take i,gg x,fun _ t _=>l.length-(bM t).toNat,⟨Ext.refl _,0,rfl,Z9 _,by simp⟩,?_⟩;rintro _ _ U ⟨I,i,rfl,hi,V⟩;simp only[au,ag];refine⟨fun ad=>?_,fun ae=>⟨I,-1,rfl,?_⟩⟩
 ·obtain⟨x,W⟩:∃ x,l[i]? =some x:=⟨_,x3 (by omega)⟩;rw[bm ab.u J.i (by kernel_rfl) (h.ext I) W];show O y0 j2 [.int .i64 x] U _;refine Cd.mono ?_;rintro _ af _ ⟨rfl,X⟩;simp only[ag,aK];refine⟨fun Y=>⟨I.trans X,i,rfl,?_⟩,fun Z=>?_⟩
  ·exact propext ⟨fun _ aa=>Y (aa x (u4 W)),fun _=>by omega⟩
  ·rw[wrap_i64 (by omega) (by omega)];refine⟨⟨I.trans X,i+1,rfl,by omega,fun y E=>?_⟩,?_⟩
   ·rw[o3,W] at E;rcases n0.1 E with E|E
    ·exact V y E
    ·simp at E;subst E;exact X2.1 Z
   ·simp only[bM];omega
 ·have:i=l.length:=by omega
  rw[this,l5] at V;exact propext ⟨fun h=>by omega,fun h=>absurd V h⟩
theorem wW {sv:x4} {l:List Int} {w:x5} (h:aH .i64 w sv l):
  O y0 h0 [sv,.func (.func j2) #[] #[]] w fun v w'=>v= .bool (decide (¬∀ x∈l,gg x))∧Ext w w':=by
 apply h0.enter;refine (Ce h).mono ?_;rintro _ J _ ⟨E,n,rfl,I⟩;simp only[cV];exact⟨by congr 1;simp only[I],E⟩
abbrev Told:=List (List Int×Int)
def hD (p:List Int×Int):x4×x4:=(dj (pad p.1),.int .i64 p.2)
def dM (w:x5) (g m:Nat) (an:List Int) (k o:Int) (D:Told):Prop:=
 (∃ sv gs,ak w g cL [sv,.int .i64 k,.int .i64 o,.map (some m)]∧aq .i64 J w gs sv an)∧cw w m (D.map hD)∧bR an∧cF o k∧ ∀ p∈D,cM an p.1∧cF p.2 k∧p.2≠o
theorem dM.ext {w w':x5} {g m:Nat} {an:List Int} {k o:Int} {D:Told} (h:dM w g m an k o D) (E:Ext w w'):dM w' g m an k o D:=by
 obtain⟨⟨sv,gs,h1,I⟩,J,O⟩:=h;exact⟨⟨sv,gs,h1.ext E,I.ext E⟩,J.ext E,O⟩
theorem tm {an t:List Int} (I:bR an) (h:cM an t):t.length=an.length∧ ∀ x∈t,0≤x∧x<32:=by
 obtain⟨h1,J⟩:=lv.1 h;refine⟨h1.symm,fun x O=>?_⟩;obtain⟨i,hi,rfl⟩:=List.getElem_of_mem O;obtain⟨a,E⟩:∃ a,an[i]? =some a:=⟨_,x3 (by omega)⟩;have U:=J i a _ E (x3 hi);have V:=(I.2 a (u4 E)).2;omega
theorem pN {an t:List Int} (E:bR an) (h:cM an t):iT (pad t):=by
 obtain⟨h1,I⟩:=tm E h;exact Ca (by rw[h1];exact E.1) I
theorem dM.ne {w:x5} {g m:Nat} {an:List Int} {k o:Int} {D:Told} (h:dM w g m an k o D):∀ p∈D.map hD,∃ l,keyOf y0 bh p.1=some l:=fun p E=>by
 obtain⟨q,I,rfl⟩:=l9.1 E;exact tl (pN h.2.2.1 (h.2.2.2.2 q I).1)
theorem wX {an s t:List Int} (E:cM an s) (I:cM an t) (h:dj (pad s)=dj (pad t)):s=t:=
 Cb ((q8 E).symm.trans (q8 I)) (B8 h)
theorem dM.nodup {w:x5} {g m:Nat} {an:List Int} {k o:Int} {D:Told} (h:dM w g m an k o D):(D.map (·.1)).Nodup:=by
 have E:=h.2.1.nodup;rw[List.map_map] at E;refine List.Pairwise.of_map (S:=fun a b=>a≠b) (fun t=>dj (pad t)) (fun a b h he=>h (by rw[he])) ?_;rw[List.map_map];exact E
def Cf (w:x5) (l:List Int) (k o:Int) (v:x4) (w':x5):Prop:=
 Ext w w'∧(¬bR l→v= .tuple #[.pointer none,.int .i64 1])∧(bR l→¬cF o k→v= .tuple #[.pointer none,.int .i64 3])∧
  (bR l→cF o k→ ∃ g m,v= .tuple #[.pointer (some ⟨g,0,none⟩),.int .i64 0]∧w.heap.size≤g∧w.heap.size≤m∧dM w' g m l k o [])
theorem wY {sv:x4} {l:List Int} {k o:Int} {w:x5} (h:aH .i64 w sv l):O y0 fz [sv,.int .i64 k,.int .i64 o] w (Cf w l k o):=by
 apply fz.enter;refine aZ (fun v Y=>Ext w Y∧ ∃ c,v= .bool c∧(c=true↔¬bR l)) ?_ ?_
 ·rintro _ Y ⟨J,c,rfl,U⟩;rw[cE];refine⟨fun Z=>⟨J,fun _=>rfl,fun h=>absurd h (U.1 Z),fun h=>absurd h (U.1 Z)⟩,fun ae=>?_⟩;have E:bR l:=Classical.byContradiction fun h=>by have:=U.2 h;rw[ae] at this;cases this
  have al:=E.1;refine ln.mono ?_;rintro _ af _ ⟨rfl,I⟩;by_cases hi:cF o k
  rotate_left
  ·simp only[hi,decide_false,b3,X0,bP];exact⟨J.trans I,fun h=>absurd E h,fun _ _=>rfl,fun _ h=>absurd h hi⟩
  simp only[hi,decide_true,b3,Y1,aT];refine (jv ((h.ext J).ext I) (by omega)).mono ?_;rintro aa am _ ⟨ac,ah,ao,hm⟩;have ap:=hm.ls.cells;refine rn fun m aq au V ai=>?_;rw[cW (cs:=#[aa,.int .i64 k,.int .i64 o,.map (some m)]) (by obtain⟨_,_,_,_,_,rfl,_⟩:=hm.ls;kernel_rfl)];refine ce fun g av aw W aj=>?_;have ax:=J.size;have ay:=I.size;have az:=ac.size;have aA:=V.size;exact⟨((((J.trans I).trans ac).trans V).trans W),fun h=>absurd E h,fun _ h=>absurd hi h,fun _ _=>⟨g,m,rfl,by omega,by omega,⟨aa,ah,aj,(hm.ext V).ext W⟩,ai.ext W,E,hi,fun p ak=>by cases ak⟩⟩
 ·intro aB ad;rw[aO ab.u h];simp only[bV,ag];refine⟨fun aC=>ad _ _ ⟨Ext.refl _,true,rfl,fun _ E=>by have:=E.1;omega,fun _=>rfl⟩,fun aD=>?_⟩;refine (wW h).mono ?_;rintro _ af _ ⟨rfl,I⟩;refine ad _ _ ⟨I,_,rfl,?_⟩;rw[decide_eq_true_eq];exact⟨fun X E=>X E.2,fun X E=>X ⟨by omega,E⟩⟩
def gF (t:List Int) (i:Nat):List Int:=t.take i++p9 (6-i) 0
theorem Cg {t:List Int} {i:Nat} (hi:i≤t.length) (E:t.length≤6):(gF t i).length=6:=by simp[gF];omega
theorem Ch {t:List Int} {i:Nat} {x:Int} (E:t[i]? =some x) (J:t.length≤6):(gF t i).set i x=gF t (i+1):=by
 have hi:=(x6.1 E).1;unfold gF;have I:(t.take i).length=i:=by rw[l6];omega
 rw[V2 _ _ (by omega),I,W3,o3,E];have:6-i=(6-(i+1))+1:=by omega
 rw[this,List.replicate_succ];simp
theorem Ci (t:List Int):gF t t.length=pad t:=by simp[gF,pad]
def wZ (w:x5) (an t:List Int) (v:x4) (w':x5):Prop:=Ext w w'∧ ∃ ks e,v= .tuple #[dj ks,.int .i64 e]∧ks.length=6∧(cM an t→ks=pad t∧e=0)∧(¬cM an t→e=3)
set_option maxHeartbeats 800000 in
theorem Cj {w:x5} {g m:Nat} {an t:List Int} {k o:Int} {D:Told} {aD:x4} (h:dM w g m an k o D) (am:aH .i64 w aD t):O y0 oH [.pointer (some ⟨g,0,none⟩),aD] w (wZ w an t):=by
 obtain⟨⟨sv,gs,ao,hm⟩,_,aE,_⟩:=h;have bb:=aE.1;apply oH.enter;refine bO bh.i fun X bc bd aF ae=>?_;refine bO bh.i fun af be bf ap aq=>?_;have Y:=aF.trans ap;have bg:=aF.size;have bi:=ap.size;have bj:=ae.lt;have bk:=aq.lt;have bl:=ao.lt;have ae:=ae.ext ap;have aP:=ao.ext Y;rw[cZ b5.u];simp only[b8,aT];have av:∀ {E:x5} {ks:List Int} {e:Int},Ext w E→ak E af bh (ints .i8 ks)→ak E X bh rq→ks.length=6→(cM an t→ks=pad t∧e=0)→(¬cM an t→e=3)→
   I y0 (x1 bh (.pointer (some ⟨af,0,none⟩))) E fun aQ=>aa y0 (x8 bh (.pointer (some ⟨X,0,none⟩)) aQ) E fun(_:Unit) aw=>I y0 (do loadVar bh (←asAddr (.pointer (some ⟨X,0,none⟩)))) aw fun aR=>wZ w an t (.tuple #[aR,.int .i64 e]) aw:=by
  intro E ks e U V Z al aj ax;rw[ly al V.range];refine pM al rfl Z fun aw aS bn aU=>?_;rw[Cc al aU.range];exact⟨U.then aS (fun r aV he=>by have he:r=X:=he;omega),ks,e,rfl,al,aj,ax⟩
 rw[aO ab.u (am.ext Y),az,ah cL.p rfl,ai (by kernel_rfl) (aP.cell (o:=0+0) rfl),aO ab.u (hm.ls.ext Y)];simp only[bN,ag];have aG:ints .i8 (gF t 0)=rq:=by simp[gF,rq,ints]
 refine⟨fun aW=>av Y (ks:=gF t 0) (e:=3) (by rw[aG];exact aq) ae (by simp[gF]) (fun aj=>absurd (by rw[q8 aj]) aW) (fun _=>rfl),fun aI=>?_⟩;have aI:t.length=an.length:=by omega
 rw[aO ab.u (am.ext Y)];refine a8.range t.length (fun i _ E=>Ext w E∧ak E af bh (ints .i8 (gF t i))∧ak E X bh rq∧ ∀ (j:Nat) (a x:Int),j<i→an[j]? =some a→t[j]? =some x→0≤x∧x<a) (by omega)
  ⟨Y,by rw[aG];exact aq,ae,fun j a x aX=>by omega⟩ ?_ ?_
 ·rintro i _ E aY hi ⟨U,V,Z,ay⟩ a1;simp only[au,ag];refine⟨fun _=>?_,fun h=>by omega⟩;obtain⟨x,W⟩:∃ x,t[i]? =some x:=⟨_,x3 hi⟩;obtain⟨a,ac⟩:∃ a,an[i]? =some a:=⟨_,x3 (by omega)⟩;have bo:=aE.2 a (u4 ac);rw[bm ab.u J.i (by kernel_rfl) (am.ext U) W];have aJ:=Cg (t:=t) (i:=i) (by omega) (by omega);refine aZ (fun v a2=>E=a2∧v= .bool (decide (¬(0≤x∧x<a)))) ?_ ?_
  ·rintro _ _ ⟨rfl,rfl⟩;simp only[ag];refine⟨fun a6=>av U V Z aJ (fun aj=>absurd ((lv.1 aj).2 i a x ac W) a6) (fun _=>rfl),fun aA=>?_⟩;have aA:=X2.1 aA;rw[fc J.u dz.u,Aw (by omega) (by omega),sK bh.u dz.i (by omega)];refine bE dz.i rfl rfl V (by simp[aJ];omega) fun bp aL bq aM=>?_;simp only[aK];refine a1 _ _ ⟨U.then aL (fun r aV he=>by have he:r=af:=he;omega),?_,Z.ad aL (by show ¬(X=af);omega),fun j a' a7 aX aB aC=>?_⟩
   ·have e:(ints .i8 (gF t i)).set (0+i*1) (.int .i8 x)=ints .i8 (gF t (i+1)):=by
     rw[←Ch W (by omega)];simp[ints,List.map_set]
    rw[e] at aM;exact aM
   ·by_cases ba:j=i
    ·subst ba;rw[ac] at aB;rw[W] at aC;cases aB;cases aC;exact aA
    ·exact ay j a' a7 (by omega) aB aC
  ·intro br aN;simp only[au,ag];refine⟨fun bt=>aN _ _ ⟨rfl,by rw[decide_eq_true];omega⟩,fun bu=>?_⟩;rw[az,ah cL.p rfl,ai (by kernel_rfl) ((ao.ext U).cell (o:=0+0) rfl),bm ab.u J.i (by kernel_rfl) (hm.ls.ext U) ac,cV];refine aN _ _ ⟨rfl,?_⟩;congr 1;exact decide_eq_decide.2 ⟨fun h bw=>by omega,fun h=>by omega⟩
 ·rintro _ E aY ⟨U,V,Z,ay⟩;simp only[au,ag];refine⟨fun h=>by omega,fun _=>?_⟩;rw[Ci] at V;exact av U V Z (by simp[pad];omega) (fun _=>⟨rfl,rfl⟩) (fun ax=>absurd (lv.2 ⟨aI.symm,fun j a x ac W=>ay j a x (x6.1 W).1 ac W⟩) ax)
def gk (D:Told) (o:Int) (t:List Int):Int:=match D.find? (fun p=>decide (p.1=t)) with
 |some p=>p.2
 |none=>o
theorem w1 {D:Told} (I:(D.map (·.1)).Nodup) {p q:List Int×Int} (J:p∈D) (O:q∈D) (h:p.1=q.1):p=q:=by
 obtain⟨i,hi⟩:=Y5.1 J;obtain⟨j,E⟩:=Y5.1 O;have h1:(D.map (·.1))[i]? =some p.1:=by rw[r8,hi];rfl
 have U:(D.map (·.1))[j]? =some p.1:=by rw[r8,E,h];rfl
 have:=ii I h1 U;subst this;rw[hi] at E;exact b9 E
theorem pO {D:Told} {o c:Int} {t:List Int} (I:(D.map (·.1)).Nodup) (h:(t,c)∈D):gk D o t=c:=by
 unfold gk;cases E:D.find? (fun p=>decide (p.1=t)) with
 |none=>
  have:=List.find?_eq_none.1 E _ h;simp at this
 |some p=>
  have h1:=List.find?_some E;have h1:p.1=t:=by simpa using h1
  have:=w1 I (List.mem_of_find?_eq_some E) h h1;rw[this]
theorem pP {D:Told} {o:Int} {t:List Int} (h:∀ p∈D,p.1≠t):gk D o t=o:=by
 unfold gk;cases E:D.find? (fun p=>decide (p.1=t)) with
 |none=>rfl
 |some p=>
  have h1:=List.find?_some E;have h1:p.1=t:=by simpa using h1
  exact absurd h1 (h p (List.mem_of_find?_eq_some E))
def iU (D:Told) (t:List Int) (c o:Int) (E:Told):Prop:=(∀ p,p∈E↔(c≠o∧p=(t,c))∨(p∈D∧p.1≠t))∧E.length≤D.length+1
theorem iU.cost {D O:Told} {t:List Int} {c o:Int} (h:iU D t c o O) (X:(D.map (·.1)).Nodup) (U:(O.map (·.1)).Nodup) (s:List Int):gk O o s=if s=t then c else gk D o s:=by
 by_cases J:s=t
 ·subst J;rw[if_pos rfl];by_cases V:c=o
  ·subst V;exact pP fun p E he=>by
    rcases (h.1 p).1 E with I|I
    ·exact I.1 rfl
    ·exact I.2 he
  ·exact pO U ((h.1 _).2 (.inl ⟨V,rfl⟩))
 ·rw[if_neg J];by_cases he:∃ p∈D,p.1=s
  ·obtain⟨p,E,rfl⟩:=he;rw[pO (c:=p.2) X E];exact pO U ((h.1 _).2 (.inr ⟨E,J⟩))
  ·have W:∀ p∈D,p.1≠s:=fun p E h=>he ⟨p,E,h⟩;rw[pP W];exact pP fun p E I=>by
    rcases (h.1 p).1 E with⟨_,rfl⟩|⟨Y,_⟩
    ·exact J I.symm
    ·exact W p Y I
theorem Ck {D:Told} {t:List Int} {c o v0:Int} {j:Nat} (U:(D.map (·.1)).Nodup) (J:D[j]? =some (t,v0)) (V:c≠o):iU D t c o (D.set j (t,c)):=by
 have O:=(x6.1 J).1;refine⟨fun p=>⟨fun E=>?_,fun E=>?_⟩,by simp⟩
 ·obtain⟨i,hi⟩:=Y5.1 E;by_cases I:j=i
  ·subst I;rw[V7 O] at hi;exact .inl ⟨V,(b9 hi).symm⟩
  ·rw[List.getElem?_set_ne I] at hi;refine .inr ⟨u4 hi,fun he=>I ?_⟩;exact ii U (x:=t) (by rw[r8,J];rfl) (by rw[r8,hi,b6,he])
 ·rcases E with⟨_,rfl⟩|⟨E,W⟩
  ·exact u4 (V7 O)
  ·obtain⟨i,hi⟩:=Y5.1 E;have I:j≠i:=fun he=>by subst he;rw[J] at hi;cases hi;exact W rfl
   exact u4 (by rw[List.getElem?_set_ne I];exact hi)
theorem w2 {D:Told} {t:List Int} {c o:Int} (E:∀ p∈D,p.1≠t) (I:c≠o):iU D t c o (D++[(t,c)]):=by
 refine⟨fun p=>?_,by simp⟩;rw[n0,o9];exact⟨fun h=>h.elim (fun h=>.inr ⟨h,E p h⟩) (fun h=>.inl ⟨I,h⟩),fun h=>h.elim (fun h=>.inr h.2) (fun h=>.inl h.1)⟩
theorem Cl {D:Told} {t:List Int} {o v0:Int} {j:Nat} (J:(D.map (·.1)).Nodup) (I:D[j]? =some (t,v0)):iU D t o o (D.eraseIdx j):=by
 refine⟨fun p=>⟨fun E=>?_,fun E=>?_⟩,by have:=List.length_eraseIdx_le D j;omega⟩
 ·refine .inr ?_;obtain⟨i,O,hi⟩:=List.mem_eraseIdx_iff_getElem?.1 E;refine⟨u4 hi,fun he=>O ?_⟩;exact ii J (x:=t) (by rw[r8,hi,b6,he]) (by rw[r8,I];rfl)
 ·rcases E with⟨h,_⟩|⟨E,U⟩
  ·exact absurd rfl h
  ·obtain⟨i,hi⟩:=Y5.1 E;exact List.mem_eraseIdx_iff_getElem?.2 ⟨i,fun he=>by subst he;rw[I] at hi;cases hi;exact U rfl,hi⟩
theorem Cm {D:Told} {t:List Int} {o:Int} (E:∀ p∈D,p.1≠t):iU D t o o D:=
 ⟨fun p=>⟨fun h=>.inr ⟨h,E p h⟩,fun h=>h.elim (fun h=>absurd rfl h.1) (fun h=>h.1)⟩,by omega⟩
theorem w3 {w:x5} {g m:Nat} {an t:List Int} {k o:Int} {D:Told} (h:dM w g m an k o D) (J:cM an t) {j:Nat} {v:x4} (E:(D.map hD)[j]? =some (dj (pad t),v)):∃ c,D[j]? =some (t,c)∧v= .int .i64 c:=by
 rw[r8] at E;obtain⟨p,I,he⟩:=Z3.1 E;have h1:=wX (h.2.2.2.2 p (u4 I)).1 J (congrArg Prod.fst he);exact⟨p.2,by rw[I,←h1],(congrArg Prod.snd he).symm⟩
theorem w4 {w:x5} {g m:Nat} {an t:List Int} {k o:Int} {D:Told} (h:dM w g m an k o D) (E:∀ p∈D.map hD,p.1≠dj (pad t)):∀ p∈D,p.1≠t:=fun p I he=>E (hD p) (l9.2 ⟨p,I,rfl⟩) (by rw[hD,he])
def Cn (w:x5) (g m:Nat) (an t:List Int) (k o c:Int) (D:Told) (v:x4) (w':x5):Prop:=
 (¬(cM an t∧cF c k)→v= .int .i64 3∧Ext w w')∧(cM an t∧cF c k→v= .int .i64 0∧aj (fun r=>r=m) w w'∧ ∃ E,iU D t c o E∧dM w' g m an k o E)
set_option maxHeartbeats 800000 in
theorem w5 {w:x5} {g m:Nat} {an t:List Int} {k o c:Int} {D:Told} {aB:x4} (h:dM w g m an k o D) (aK:aH .i64 w aB t):O y0 mv [.pointer (some ⟨g,0,none⟩),aB,.int .i64 c] w (Cn w g m an t k o c D):=by
 apply mv.enter;refine (Cj h aK).mono ?_;rintro _ bb _ ⟨aD,ks,e,rfl,am,aL,aM⟩;rw[aC (v:=dj ks) rfl,aC (v:=.int .i64 e) rfl];refine bO bh.i fun aN bc bd aE aF=>?_;refine pM am rfl aF fun ao aO be aG=>?_;have bf:=aD.size;have bg:=aE.size;have bi:=aF.lt;have ae:Ext w ao:=(aD.trans aE).then aO (fun r ap he=>by have he:r=aN:=he;omega);refine aZ (fun v aq=>v= .int .i64 0∧(cM an t∧cF c k)∧aj (fun r=>r=m) w aq∧ ∃ J,iU D t c o J∧dM aq g m an k o J) ?_ ?_
 ·rintro _ aq ⟨_,h1,ab⟩;exact⟨fun h=>absurd h1 h,fun _=>⟨rfl,ab⟩⟩
 intro aP aR;simp only[bN,ag];by_cases Y:cM an t
 rotate_left
 ·have he:=aM Y;subst he;exact⟨fun _=>⟨fun _=>⟨rfl,ae⟩,fun h=>absurd h.1 Y⟩,fun h=>by simp at h⟩
 obtain⟨rfl,rfl⟩:=aL Y;refine⟨fun h=>absurd rfl h,fun _=>?_⟩;have V:=h.ext ae;obtain⟨⟨sv,gs,W,hm⟩,af,aI,aS,aU⟩:=id V;rw[az,ah cL.p rfl,ai (by kernel_rfl) (W.cell (o:=0+1) rfl)];refine ln.mono ?_;rintro _ aV _ ⟨rfl,X⟩;have aW:=ae.trans X;by_cases hi:cF c k
 rotate_left
 ·simp only[hi,decide_false,b3,X0,bP];exact⟨fun _=>⟨rfl,aW⟩,fun h=>absurd h.2 hi⟩
 simp only[hi,decide_true,b3,Y1,aT];rw[az,ah cL.p rfl,ai (by kernel_rfl) ((W.ext X).cell (o:=0+2) rfl)];simp only[bQ,ag,aQ];have aJ:=tl (pN aI Y);have aX:∀ {J:Told},iU D t c o J→ ∀ p∈J,cM an p.1∧cF p.2 k∧p.2≠o:=fun hu p aY=>by
  rcases (hu.1 p).1 aY with⟨aa,rfl⟩|⟨h1,_⟩
  ·exact⟨Y,hi,aa⟩
  ·exact aU p h1
 have ak:∀ {ac Z:x5} {J:Told},Ext aV ac→aj (fun r=>r=m) ac Z→cw Z m (J.map hD)→iU D t c o J→aP (.int .i64 0) Z:=by
  intro ac Z J E I a1 hu;have a2:g≠m:=fun he=>by
   obtain⟨a6,a7,au,_⟩:=af;have W:ao.heap[g]? =_:=W;rw[he,au] at W;cases W
  have a8:∀ r,leads sv r→r≠m:=fun r ap he=>by
   subst he;obtain⟨a6,a7,au,_⟩:=af;obtain⟨_,⟨rfl,_⟩|⟨cap,cs,rfl,al,_⟩⟩:=hm
   ·obtain⟨a,n,c,h1,_⟩:=ap;cases h1
   ·obtain⟨a,n,c,h1,ab⟩:=ap;cases h1;have al:ao.heap[gs]? =_:=al;have ab:gs=r:=ab;rw[ab,au] at al;cases al
  have av:=X.trans E;exact aR _ _ ⟨rfl,⟨Y,hi⟩,((ae.trans av).ad _).trans I,J,hu,⟨sv,gs,(W.ext av).ad I a2,bp (hm.ext av) I a8⟩,a1,aI,aS,aX hu⟩
 refine⟨fun aa ac E _ _=>?_,fun aa ac E _ _=>?_⟩
 ·rw[az,ah cL.p rfl,ai (by kernel_rfl) (((W.ext X).ext E).cell (o:=0+3) rfl),ly am ((aG.ext X).ext E).range];subst aa;refine B5 dC.u keys ((af.ext X).ext E) V.ne aJ (fun j v0 Z aw U I=>?_) (fun Z ax U I=>?_)
  ·obtain⟨ba,ay,_⟩:=w3 V Y aw;rw[kp] at U;exact ak E I U (Cl V.nodup ay)
  ·exact ak E I U (Cm (w4 V ax))
 ·rw[az,ah cL.p rfl,ai (by kernel_rfl) (((W.ext X).ext E).cell (o:=0+3) rfl),ly am ((aG.ext X).ext E).range];refine pL dC.u keys ((af.ext X).ext E) V.ne aJ (fun j v0 Z aw U I=>?_) (fun Z ax U I=>?_)
  ·obtain⟨ba,ay,_⟩:=w3 V Y aw;have aA:(D.map hD).set j (dj (pad t),.int .i64 c)=(D.set j (t,c)).map hD:=by rw[List.map_set];rfl
   rw[aA] at U;exact ak E I U (Ck V.nodup ay aa)
  ·have aA:D.map hD++[(dj (pad t),.int .i64 c)]=(D++[(t,c)]).map hD:=by rw[j4];rfl
   rw[aA] at U;exact ak E I U (w2 (w4 V ax) aa)
theorem Co {w:x5} {g m:Nat} {an t:List Int} {k o:Int} {D:Told} {K:x4→Prop} {b:Bool} (h:dM w g m an k o D) (J:cM an t)
  (h1:∀ c,(t,c)∈D→K (if b then .tuple #[.int .i64 c,.bool true] else .int .i64 c)) (V:(∀ p∈D,p.1≠t)→K (if b then .tuple #[.int .i64 0,.bool false] else .int .i64 0)):
  I y0 (V3 dC (.map (some m)) (dj (pad t)) b) w K:=by
 have O:=tl (pN h.2.2.1 J);by_cases he:∃ p∈D,p.1=t
 ·obtain⟨p,E,rfl⟩:=he;obtain⟨j,W⟩:=Y5.1 E;rw[pK dC.u keys h.2.1 h.ne O (j:=j) (v:=.int .i64 p.2) (by rw[r8,W];rfl)];exact h1 p.2 E
 ·have U:∀ p∈D,p.1≠t:=fun p E h=>he ⟨p,E,h⟩;rw[rp dC.u keys ⟨_,_,ae.i⟩ h.2.1 h.ne O (fun q X Y=>by
   obtain⟨p,E,rfl⟩:=l9.1 X;exact U p E (wX (h.2.2.2.2 p E).1 J Y))]
  exact V U
theorem Cp {w:x5} {g m:Nat} {an:List Int} {k o:Int} {D:Told} (h:dM w g m an k o D):O y0 oK [.pointer (some ⟨g,0,none⟩)] w fun v w'=>v= .int .i64 D.length∧Ext w w':=by
 obtain⟨⟨sv,gs,E,hm⟩,I,_⟩:=h;apply oK.enter;rw[cZ b5.u];simp only[b8,aT];rw[az,ah cL.p rfl,ai (by kernel_rfl) (E.cell (o:=0+3) rfl),B6 dC.u I];exact⟨by simp,Ext.refl _⟩
theorem Cq {w:x5} {g m:Nat} {an:List Int} {k o:Int} {D:Told} (h:dM w g m an k o D):O y0 pa [.pointer (some ⟨g,0,none⟩)] w fun v w'=>v= .int .i64 k∧Ext w w':=by
 obtain⟨⟨sv,gs,E,hm⟩,_⟩:=h;apply pa.enter;rw[cZ b5.u];simp only[b8,aT];rw[az,ah cL.p rfl,ai (by kernel_rfl) (E.cell (o:=0+1) rfl)];exact⟨rfl,Ext.refl _⟩
theorem tn {w:x5} {g m:Nat} {an:List Int} {k o:Int} {D:Told} (h:dM w g m an k o D):O y0 k3 [.pointer (some ⟨g,0,none⟩)] w fun v w'=>Ext w w'∧ ∃ E,w.heap.size≤E∧aq .i64 J w' E v an:=by
 obtain⟨⟨sv,gs,I,hm⟩,_,U,_⟩:=h;have V:=U.1;apply k3.enter;rw[cZ b5.u];simp only[b8,aT];rw[az,ah cL.p rfl,ai (by kernel_rfl) (I.cell (o:=0+0) rfl)];exact jv hm.ls (by omega)
theorem Cr {w:x5} {g m:Nat} {an:List Int} {k o:Int} {D:Told} (h:dM w g m an k o D):O y0 pb [.pointer (some ⟨g,0,none⟩)] w fun v w'=>v= .int .i64 an.length∧Ext w w':=by
 apply pb.enter;refine (tn h).mono ?_;rintro v I _ ⟨E,J,_,hm⟩;rw[aO ab.u hm.ls];exact⟨rfl,E⟩
end Go.Proofs.YtgbkinibgjmodaaGreatDoor
namespace Go.Vc
open Go Go.RowKit
set_option maxRecDepth 100000
def leadsTo (v:x4) (r:Nat):Prop:=∃ a n c,v= .slice (some a) n c∧a.block=r
theorem dI {r:Nat} (h:leadsTo (.slice none 0 0) r):False:=by
 obtain⟨a,n,c,h,_⟩:=h;cases h
section
variable {α:Type} {f:α→List x4} {k:Nat}
theorem gl:∀ {L:List α},(∀ a∈L,(f a).length=k)→(L.flatMap f).length=L.length*k
 |[],_=>by simp
 |a::L,h=>by
  rw[X5,o5,h a (.head _),gl fun b E=>h b (.tail _ E),c8,W7];omega
theorem pQ:∀ {L:List α} (i:Nat),(∀ a∈L,(f a).length=k)→(L.flatMap f).take (i*k)=(L.take i).flatMap f
 |[],i,_=>by simp
 |a::L,0,_=>by simp
 |a::L,i+1,h=>by
  have E:=h a (.head _);rw[X5,List.take_succ_cons,X5,←pQ i fun b I=>h b (.tail _ I),W7,Nat.one_mul,Nat.add_comm,List.take_append,E];congr 1
  ·exact j0 (by omega)
  ·congr 1;omega
theorem rr:∀ {L:List α} (i:Nat),(∀ a∈L,(f a).length=k)→(L.flatMap f).drop (i*k)=(L.drop i).flatMap f
 |[],i,_=>by simp
 |a::L,0,_=>by simp
 |a::L,i+1,h=>by
  have E:=h a (.head _);rw[X5,List.drop_succ_cons,←rr i fun b I=>h b (.tail _ I),W7,Nat.one_mul,Nat.add_comm,List.drop_append,E];rw[List.drop_of_length_le (by omega),List.nil_append];congr 1;omega
theorem rt {L:List α} {i:Nat} {a:α} (h:∀ a∈L,(f a).length=k) (hi:L[i]? =some a) {j:Nat} {v:x4} (E:(f a)[j]? =some v):(L.flatMap f)[i*k+j]? =some v:=by
 have J:=(x6.1 E).1;rw[←List.getElem?_drop,rr i h];have I:=x6.1 hi;rw[Y8 I.1,I.2,X5,Z1 J];exact E
theorem w6 {L:List α} {i:Nat} {a:α} (h:∀ a∈L,(f a).length=k) (E:(f a).length=k) (hi:i<L.length):over (L.flatMap f) (i*k) (f a)=(L.set i a).flatMap f:=by
 have J:=gl h;have I:(i+1)*k≤L.length*k:=X3 _ hi;rw[W7,Nat.one_mul] at I;rw[kd (by omega),E,pQ i h,show i*k+k=(i+1)*k by rw[W7,Nat.one_mul],rr (i+1) h,List.set_eq_take_append_cons_drop,if_pos hi,List.flatMap_append,X5,W9]
theorem w7 {cs vs:List x4} {o m:Nat} (h1:o+vs.length≤m) (E:m≤cs.length):(over cs o vs).take m=over (cs.take m) o vs:=by
 rw[kd (by omega),kd (by rw[l6];omega),W9,W9,List.take_append,List.take_append,List.take_take,List.take_take,List.drop_take,l6];rw[show min m o=o by omega,show min o m=o by omega,show min o cs.length=o by omega,j0 (l:=vs) (by omega)];congr 3;omega
def aW (f:α→List x4) (k:Nat) (e:o6) (w:x5) (g:Nat) (v:x4) (L:List α):Prop:=bL w g e k v L.length (L.flatMap f)∧ ∀ a∈L,(f a).length=k
variable {P:X1} {w:x5} {e:o6} {g:Nat} {v:x4} {L:List α}
theorem aW.nil (f:α→List x4) (k:Nat) (e:o6) (w:x5) (g:Nat):aW f k e w g (.slice none 0 0) []:=⟨bL.nil w g e k,fun a h=>by cases h⟩
theorem aW.leads (h:aW f k e w g v L) {r:Nat} (E:leadsTo v r):r=g∧g<w.heap.size:=by
 obtain⟨_,⟨rfl,_⟩|⟨cap,cs,rfl,I,_⟩⟩:=h.1
 ·exact (dI E).elim
 ·obtain⟨a,n,c,h1,J⟩:=E;cases h1;exact⟨J.symm,I.lt⟩
theorem aW.ad {S:Nat→Prop} {w':x5} (h:aW f k e w g v L) (E:aj S w w') (I:∀ r,leadsTo v r→¬S r):aW f k e w' g v L:=
 ⟨⟨h.1.1,h.1.2.imp id fun⟨cap,cs,h1,J,O⟩=>⟨cap,cs,h1,J.ad E (I g ⟨_,_,_,h1,rfl⟩),O⟩⟩,h.2⟩
theorem aW.ext {w':x5} (h:aW f k e w g v L) (E:Ext w w'):aW f k e w' g v L:=h.ad (E.ad fun _=>False) fun _ _ h=>h
theorem aW.sl (h:aW f k e w g v L):b7 w k v L.length (L.flatMap f):=h.1.sl
theorem aW.le (h:aW f k e w g v L):L.length≤9223372036854775807:=by
 have:=b7.le h.sl;simpa[maxLen] using this
theorem dZ {t ty:o6} {K:x4→Prop} (E:P.underlying t=some (.slice e)) (h:aW f k e w g v L):I P (u6 #[t] ty #[v]) w K=K (.int .i64 L.length):=by
 obtain⟨_,_,_,_,_,rfl,_⟩:=h.sl;exact gf E
theorem cI {t:o6} {q:o8} {b:Nat} {z:x4} {i:Nat} {y:Int} {K:x4→Prop} (E:y=(i:Int)) (J:P.underlying t=some (.slice e)) (hi:aI P e k b z) (h:aW f k e w g v L) (O:i<L.length):
  I P (x7 t v (.int q y)) w K=K (.pointer (some ⟨g,i*k,none⟩)):=by
 subst E;obtain⟨_,⟨rfl,U⟩|⟨cap,cs,rfl,V,W⟩⟩:=h.1
 ·omega
 ·rw[gy J hi O (fun _=>rfl),V5]
theorem aW.range {i:Nat} {a:α} (h:aW f k e w g v L) (hi:L[i]? =some a):w.rangeAt g (i*k) (f a):=fun j u hu=>by
 have h1:=rt h.2 hi hu;have O:=(x6.1 hi).1;obtain⟨_,⟨rfl,U⟩|⟨cap,cs,rfl,I,_,_,V,J⟩⟩:=h.1
 ·omega
 ·have E:=(x6.1 h1).1;rw[gl h.2] at E;rw[←J,Z6 E] at h1;exact I.cell h1
theorem Cs {t:o6} {b:Nat} {z:x4} {i:Nat} {a:α} {K:Unit→x5→Prop} (hi:aI P t k b z) (h:aW f k e w g v L) (E:(f a).length=k) (h1:∀ u∈f a,u.oneCell'=true) (O:i<L.length)
  (W:∀ w',aj (fun r=>leadsTo v r) w w'→w'.heap.size=w.heap.size→aW f k e w' g v (L.set i a)→K () w'):aa P (x8 t (.pointer (some ⟨g,i*k,none⟩)) (.agg (f a).toArray)) w K:=by
 have ag:=gl h.2;have X:(i+1)*k≤L.length*k:=X3 _ O;rw[W7,Nat.one_mul] at X;obtain⟨⟨ah,⟨rfl,ai⟩|⟨cap,cs,rfl,Y,U,Z,V,ab⟩⟩,I⟩:=h
 ·omega
 ·have ac:L.length*k≤cs.length:=by rw[V];exact X3 _ U
  refine vk hi E h1 Y (by omega) fun w' ad ae af=>W w' (ad.mono fun r _ he=>⟨_,_,_,rfl,he.symm⟩) ae ⟨⟨?_,.inr ⟨cap,_,by simp,af,by simpa using U,Z,by rw[mP,V],?_⟩⟩,fun b J=>?_⟩
  ·rw[gl (L:=L.set i a) fun b J=>by
    rcases V1 J with h|rfl
    ·exact I b h
    ·exact E]
  ·rw[W0,←w6 I E O,←ab,w7 (by rw[E];omega) ac]
  ·rcases V1 J with h|rfl
   ·exact I b h
   ·exact E
theorem nf {t:o6} {b:Nat} {z u:x4} {i j:Nat} {a a':α} {K:Unit→x5→Prop} (hi:aI P t 1 b z) (hu:u.cells= #[u]) (h1:u.oneCell'=true) (h:aW f k e w g v L) (I:L[i]? =some a) (O:f a'=(f a).set j u) (ao:j<k)
  (ac:∀ w',aj (fun r=>leadsTo v r) w w'→w'.heap.size=w.heap.size→aW f k e w' g v (L.set i a')→K () w'):aa P (x8 t (.pointer (some ⟨g,i*k+j,none⟩)) u) w K:=by
 have U:=(x6.1 I).1;have ap:=gl h.2;have ad:(i+1)*k≤L.length*k:=X3 _ U;rw[W7,Nat.one_mul] at ad;have ae:(f a).length=k:=h.2 a (u4 I);have E:(f a').length=k:=by rw[O,W0];exact ae
 have af:(L.flatMap f).set (i*k+j) u=(L.set i a').flatMap f:=by
  rw[←w6 h.2 E U];refine X6 fun p=>?_;rw[pn _ _ _ (by omega),Y7,E];by_cases V:i*k≤p∧p<i*k+k
  ·rw[if_pos V,O,Y7];by_cases W:i*k+j=p
   ·rw[if_pos W,if_pos (by omega),if_pos (by omega),if_pos (by omega)]
   ·rw[if_neg W,if_neg (by omega)];obtain⟨y,X⟩:∃ y,(f a)[p-i*k]? =some y:=⟨_,x3 (by omega)⟩;have:=rt h.2 I X;rw[show i*k+(p-i*k)=p by omega] at this;rw[this,X]
  ·rw[if_neg V,if_neg (by omega)]
 obtain⟨⟨aq,⟨rfl,au⟩|⟨cap,cs,rfl,ag,Y,ah,Z,ai⟩⟩,ab⟩:=h
 ·omega
 ·have av:L.length*k≤cs.length:=by rw[Z];exact X3 _ Y
  refine bE hi hu h1 ag (by omega) fun w' ak al am=>ac w' (ak.mono fun r _ he=>⟨_,_,_,rfl,he.symm⟩) al ⟨⟨?_,.inr ⟨cap,_,by simp,am,by simpa using Y,ah,by rw[W0,Z],?_⟩⟩,fun b J=>?_⟩
  ·rw[gl (L:=L.set i a') fun b J=>by
    rcases V1 J with h|rfl
    ·exact ab b h
    ·exact E]
  ·rw[W0,←af,←ai,List.take_set]
  ·rcases V1 J with h|rfl
   ·exact ab b h
   ·exact E
theorem fo {t ty:o6} {b:Nat} {z x:x4} {a:α} {K:x4→x5→Prop} (V:P.underlying t=some (.slice e)) (hi:aI P e k b z) (ac:z.cells.size=k) (h:aW f k e w g v L) (Z:b7 w k x 1 (f a)) (h1:∀ u∈f a,u.oneCell'=true)
  (W:(L.length+1)*b≤140737488355328) (ad:L.length+1≤9223372036854775807)
  (ae:∀ E I w',aW f k e w' I E (L++[a])→(∀ r,leadsTo E r→leadsTo v r∨w.heap.size≤r)→aj (fun r=>leadsTo v r) w w'→K E w'):aa P (r9 #[t,t] ty #[v,x]) w K:=by
 have af:(f a).length=k:=by have:=Z.1;omega
 have X:∀ E I w',bL w' I e k E (L.length+1) (L.flatMap f++f a)→aW f k e w' I E (L++[a]):=fun E I w' hm=>⟨by simpa using hm,fun b W=>by
  rcases n0.1 W with h'|h'
  ·exact h.2 b h'
  ·rw[o9.1 h'];exact af⟩
 rcases h.1.2 with⟨J,ag⟩|⟨cap,cs,J,ah,_⟩
 ·have hm:bL w w.heap.size e k v L.length (L.flatMap f):=⟨h.1.1,.inl ⟨J,ag⟩⟩;subst J;refine lj V V hi ac hm Z h1 (by simpa using W) (by simpa[maxLen] using ad) fun E I w' Y O ab=>ae E I w' (X _ _ _ O) (fun r U=>.inr ?_) (ab.mono fun r U h=>by omega);have:=((X _ _ _ O).leads U).1;omega
 ·refine lj V V hi ac h.1 Z h1 (by simpa using W) (by simpa[maxLen] using ad) fun E I w' Y O ab=>ae E I w' (X _ _ _ O) (fun r U=>?_) (ab.mono fun r U h=>⟨_,_,_,J,h.symm⟩);have:=((X _ _ _ O).leads U).1;rcases Y with Y|Y
  ·exact .inl ⟨_,_,_,J,by show g=r;omega⟩
  ·exact .inr (by omega)
theorem Ct {t ty:o6} {b:Nat} {z x:x4} {a:α} {K:x4→x5→Prop} (I:P.underlying t=some (.slice e)) (hi:aI P e k b z) (J:z.cells.size=k) (h:aW f k e w g v L) (O:b7 w k x 1 (f a)) (h1:∀ a,∀ u∈f a,u.oneCell'=true)
  (U:(L.length+1)*b≤140737488355328) (V:L.length+1≤9223372036854775807)
  (W:∀ E X w',aW f k e w' X E (L++[a])→(∀ r,leadsTo E r→leadsTo v r∨w.heap.size≤r)→aj (fun r=>leadsTo v r) w w'→K E w'):aa P (r9 #[t,t] ty #[v,x]) w K:=fo I hi J h O (h1 a) U V W
theorem ff {t:o6} {b:Nat} {z:x4} {a:α} {x:x4} {K:x4→x5→Prop} (O:P.underlying t=some (.slice e)) (hi:aI P e k b z) (Y:k≤100000) (I:x.cells=(f a).toArray) (J:(f a).length=k)
  (U:∀ v g w',g=w.heap.size→Ext w w'→aW f k e w' g v [a]→K v w'):aa P (u9 t 1 #[(0,x)]) w K:=
 h5 O hi (by omega) (cs:=x.cells) (vu (by simp) (by rw[I];simpa using J)) fun g w' V W E=>by
  have E:ak w' g e (f a):=by rw[I] at E;simpa using E
  exact U _ g w' V W ⟨by simpa using bL.full (k:=k) (n:=1) E (by omega) (by simp[maxLen]),fun c X=>by rw[o9.1 X];exact J⟩
end
end Go.Vc
namespace Go.Proofs.YtgbkinibgjmodaaGreatDoor
open Go Go.Vc Go.RowKit Go.Proofs Go.Proofs.Tryz
set_option maxRecDepth 100000
theorem tp {α:Type}:∀ {l:List α} {j:Nat} {x:α},l[j]? =some x→(x::l.eraseIdx j).Perm l
 |[],j,x,h=>by simp at h
 |a::l,0,x,h=>by simp at h;subst h;exact List.Perm.refl _
 |a::l,j+1,x,h=>by
  simp at h;rw[List.eraseIdx_cons_succ];exact (List.Perm.swap a x _).trans ((tp h).cons a)
theorem w8 {α:Type} {l:List α} {j:Nat} (h:j<l.length):(l.eraseIdx j).length+1=l.length:=by
 rw[List.length_eraseIdx,if_pos h];omega
def ng (w:x5) (E:Nat):Nat:=match w.heap[E]? with
 |some (.mapIter (some m) _ seen _)=>(match w.heap[m]? with
  |some (.map I _)=>(leftOf I seen).size
  |_=>0)
 |_=>0
theorem ru {w:x5} {E m:Nat} {d left:List (x4×x4)} {I:Option (x4×x4)} (h:fE w E m d left I):ng w E=left.length:=by
 obtain⟨O,U,seen,V,h1,_,_,J,_,rfl,_⟩:=h;unfold ng;rw[J];simp only;rw[h1];simp
theorem Cu {w w' w0:x5} {E m:Nat} {d d0 left:List (x4×x4)} {I:Option (x4×x4)} (h:fE w E m d left I) (hm:cw w0 m d0) (h1:Ext w0 w) (U:Ext w0 w') (hi:eM w w'):fE w' E m d left I:=by
 obtain⟨V,c,s,W,X,Y,Z,aa,ab⟩:=h;obtain⟨ac,ad,f1,_⟩:=hm;have J:=h1.bw m _ f1 rfl;have O:=U.bw m _ f1 rfl;rw[X] at J;rw[←J] at O;exact⟨V,c,s,W,O,Y,Z,hi E _ aa rfl,ab⟩
abbrev lz (w:x5) (g:Nat) (v:x4) (L:List (List Int)):Prop:=aW (ints .i8) 6 bh w g v L
theorem w9 {k:o8} {l:List Int}:∀ u∈ints k l,u.oneCell'=true:=fun u hu=>by
 obtain⟨x,_,rfl⟩:=l9.1 hu;rfl
set_option maxHeartbeats 800000 in
theorem keysIter {ac m:Nat} {d:List (x4×x4)} {KS:List (List Int)} {w0:x5} (aw:ak w0 ac dC [.map (some m)]) (hm:cw w0 m d) (ax:d.map (·.1)=KS.map dj) (ay:∀ ks∈KS,ks.length=6):
  nG y0 true gw [.pointer (some ⟨ac,0,none⟩)] ([]:List (List Int)) (fun h=>h.Perm KS) (fun h vs h' _=>∃ ks∈KS,h.length<KS.length∧vs=[dj ks]∧h'=h++[ks]) (fun w=>Ext w0 w):=by
 refine⟨gw.enters,fun l az ba w O _ aA U aB=>?_⟩;apply gw.enter;rw[ai (by kernel_rfl) ((aw.ext U).cell (o:=0) rfl)];refine aa.db (wQ dC.u (hm.ext U) fun ad bb aD V bc aE aF=>?_);refine⟨fun E=>∃ h I left ae,az h E∧Ext w0 E∧w.heap.size≤E.heap.size∧fE E ad m d left ae∧left.map (·.1)=I.map dj∧(h++I).Perm KS,fun E=>ng E ad,
  ⟨[],KS,d,none,O _ _ _ V aF.b aB,U.trans V,V.size,aE,ax,List.Perm.refl _⟩,?_⟩
 rintro E ⟨h,I,left,ae,af,aG,bd,ag,W,J⟩;have aH:left.length=I.length:=by have:=congrArg W8 W;simpa using this
 refine wS ag (fun h=>by cases h) (fun aI=>?_) (fun j p aJ ah aj aK al=>?_)
 ·rw[aC (v:=.bool false) rfl,aT];subst aI;have:I=[]:=j9 (by rw[←aH];rfl);subst this;rw[U3] at J;exact .inl ⟨h,J,af⟩
 ·rw[aC (v:=.bool true) rfl,bP];refine wT al ?_;obtain⟨ks,X,aL⟩:∃ ks,I[j]? =some ks∧p.1=dj ks:=by
   have h1:(left.map (·.1))[j]? =some p.1:=by rw[r8,ah];rfl
   rw[W,r8] at h1;obtain⟨ks,am,aM⟩:=Z3.1 h1;exact⟨ks,am,aM.symm⟩
  have ao:ks∈KS:=J.mem_iff.1 (n0.2 (.inr (u4 X)));have ap:=ay ks ao;rw[aC (v:=p.1) rfl,aL];refine aa.db (bO bh.i fun aN be bf aO aP aQ=>?_);refine aa.db (pM ap rfl aP fun Y aR bg aS aU=>?_);rw[ly ap aS.range];have Z:Ext aJ Y:=aO.then aR (fun r bi he=>by have he:r=aN:=he;omega);have aq:=aQ.trans aU;have au:Ext w0 Y:=(aG.trans aj).trans Z;have aV:=O _ _ _ aj (by rw[←aD];exact aK) af;have aW:=O _ _ _ Z aq.b aV;have aX:=al.ext Z aq.kD;have aY:h.length<KS.length:=by
   have h1:=J.length_eq;have am:=(x6.1 X).1;rw[o5] at h1;omega
  refine⟨rfl,(aA h (h++[ks]) _ Y au ⟨ks,ao,aY,rfl,rfl⟩ aW).mono ?_⟩;rintro _ aZ (⟨rfl,av,a1,a2⟩|⟨rfl,a6⟩)
  ·simp only[b3,Y1,aT];have ab:=Cu aX hm au av (a2 rfl);have a7:w.heap.size≤aZ.heap.size:=by
    obtain⟨_,_,_,_,_,_,_,a8,_⟩:=ab;have:=(l7.1 a8).1;omega
   refine⟨⟨h++[ks],I.eraseIdx j,left.eraseIdx j,some p,a1,av,a7,ab,?_,?_⟩,?_⟩
   ·rw[←kp,W,kp]
   ·refine List.Perm.trans ?_ J;rw[W9];exact List.Perm.append_left h (tp X)
   ·rw[ru ab,ru ag];have:=w8 (x6.1 ah).1;omega
  ·simp only[b3,X0,bP];exact .inr ⟨h,a6⟩
theorem Cv {w:x5} {m:Nat}:O y0 oQ [.map (some m)] w fun r w'=>Ext w w'∧ ∃ g,r= .func (.func gw) #[] #[.pointer (some ⟨g,0,none⟩)]∧w.heap.size≤g∧ak w' g dC [.map (some m)]:=by
 apply oQ.enter;refine ce fun g J U E I=>?_;rw[pm];exact⟨E,g,rfl,by omega,I⟩
set_option maxHeartbeats 800000 in
theorem Cw {af m:Nat} {d:List (x4×x4)} {KS:List (List Int)} {w:x5} (aB:ak w af dC [.map (some m)]) (hm:cw w m d) (aC:d.map (·.1)=KS.map dj) (ag:∀ ks∈KS,ks.length=6) (a2:KS.length≤1000000):
  O y0 mM [.slice none 0 0,.func (.func gw) #[] #[.pointer (some ⟨af,0,none⟩)]] w fun v w'=>Ext w w'∧ ∃ g L,(∀ r,leadsTo v r→w.heap.size≤r)∧L.Perm KS∧lz w' g v L:=by
 apply mM.enter;refine ce fun gs aD a6 ah V=>?_;have V:ak aD gs et [.slice none 0 0]:=V;have a7:=V.lt;refine⟨List (List Int),true,_,_,_,_,_,_,fun h w'=>aj (fun r=>w.heap.size≤r) w w'∧ ∃ v g,ak w' gs et [v]∧(∀ r,leadsTo v r→w.heap.size≤r∧r≠gs)∧lz w' g v h,fun _ _ _=>False,rfl,keysIter aB hm aC ag,?_,fun _ _ I h=>h.trans I,
  fun _ _ _ I h=>⟨h.1.trans (I.ad _),by obtain⟨v,g,h1,aE,aF⟩:=h.2;exact⟨v,g,h1.ext I,aE,aF.ext I⟩⟩,fun _ _ _ _ _ h=>h,ah,⟨ah.ad _,_,0,V,fun r h=>(dI h).elim,aW.nil _ _ _ _ _⟩,?_,?_,fun _ _ h=>h.elim,fun _ _ _ h=>h.elim⟩
 ·rintro h _ h' w' ⟨ks,_,_,rfl,_⟩;rfl
 ·rintro a h h' al aG ⟨ks,aH,a8,aI,rfl⟩ ⟨am,v,g,Y,J,Z⟩;cases aI;have ab:=ag ks aH;have ba:h.length≤1000000:=by omega
  refine aa.db (bO bh.i fun aJ bb bc aK ao aL=>?_);refine aa.db (pM ab rfl ao fun aM aN bd aO aP=>?_);intro be ap _ aQ;have bf:=ao.lt;have aR:Ext al aM:=aK.then aN (fun r E he=>by have he:r=aJ:=he;omega);have U:=aR.trans ap;rw[ai (by kernel_rfl) ((Y.ext U).cell (o:=0) rfl),ly ab (aO.ext ap).range];refine aa.db (ff (f:=ints .i8) (a:=ks) et.u bh.i (by omega) (by simp[dj,x4.cells]) (by simp[ab]) fun a bg bi bj W aS aT=>?_);have aq:=aS.sl;rw[X5,List.flatMap_nil,U3] at aq;refine aa.db (Ct et.u bh.i rfl ((Z.ext U).ext W) aq (fun a=>w9) (by omega) (by omega) fun au aU av ac aV X aX=>?_);have bk:=am.size;have bl:=U.size;have bm:=W.size;have bn:=Y.lt;have aw:∀ r,leadsTo au r→w.heap.size≤r∧r≠gs:=fun r E=>by
   rcases aV r E with h|h
   ·exact J r h
   ·omega
  have ae:ak av gs et [v]:=((Y.ext U).ext W).ad X (fun h=>(J gs h).2 rfl);refine aa.db (bE et.i (by obtain⟨_,_,_,_,_,rfl,_⟩:=ac.sl;rfl) (by obtain⟨_,_,_,_,_,rfl,_⟩:=ac.sl;rfl) ae (by simp) fun ax ay bo aY aZ=>?_);have az:aj (fun r=>w.heap.size≤r) al ax:=(((U.trans W).ad _).trans (X.mono fun r _ h=>(J r h).1)).trans (ay.mono fun r _ h=>by show w.heap.size≤r;omega);refine⟨aG.then az (fun r E h=>by have h:w.heap.size≤r:=h;omega),⟨am.trans az,au,aU,aY,aw,ac.ad ay fun r E h=>(aw r E).2 h⟩,fun _=>?_⟩;exact ((((aL.kD.trans aP.kD).trans aQ).trans aT.kD).trans aX.kD).trans aZ.kD
 ·rintro h av a1 ⟨X,v,g,ae,J,Z⟩;rw[ai (by kernel_rfl) (ae.cell (o:=0) rfl)];intro ax aA _;exact⟨(X.ext fun r E h=>by have:w.heap.size≤r:=h;omega).trans aA,g,h,fun r E=>(J r E).1,a1,Z.ext aA⟩
theorem Cx {E m:Nat} {d:List (x4×x4)} {KS:List (List Int)} {w:x5} (I:ak w E dC [.map (some m)]) (hm:cw w m d) (J:d.map (·.1)=KS.map dj) (U:∀ ks∈KS,ks.length=6) (V:KS.length≤1000000):
  O y0 o0 [.func (.func gw) #[] #[.pointer (some ⟨E,0,none⟩)]] w fun v w'=>Ext w w'∧ ∃ g L,(∀ r,leadsTo v r→w.heap.size≤r)∧L.Perm KS∧lz w' g v L:=by
 apply o0.enter;exact (Cw I hm J U V).mono fun _ _ _ h=>h
def e2:List Int→Int
 |[]=>0
 |x::l=>x*32 ^ l.length+e2 l
theorem tq (n:Nat):(0:Int)<32 ^ n:=Int.pow_pos (by omega)
theorem rv:∀ (l:List Int),(∀ x∈l,0≤x∧x<32)→0≤e2 l∧e2 l<32 ^ l.length
 |[],_=>by simp[e2]
 |x::l,h=>by
  have J:=rv l fun y E=>h y (.tail _ E);have I:=h x (.head _);have O:=tq l.length;simp only[e2,c8];have e:(32:Int) ^ (l.length+1)=32*32 ^ l.length:=by rw[Int.pow_succ,Int.mul_comm]
  have h1:x*32 ^ l.length≤31*32 ^ l.length:=Int.mul_le_mul_of_nonneg_right (by omega) (by omega);have U:0≤x*32 ^ l.length:=Int.mul_nonneg I.1 (by omega);rw[e];omega
def gm:List Int→List Int→Int
 |x::a,y::b=>if x<y then-1 else if y<x then 1 else gm a b
 |_,_=>0
theorem xa:∀ (a b:List Int),a.length=b.length→(∀ x∈a,0≤x∧x<32)→(∀ x∈b,0≤x∧x<32)→(gm a b<0↔e2 a<e2 b)∧(e2 a=e2 b→a=b)
 |[],[],_,_,_=>by simp[gm]
 |[],_::_,h,_,_=>by simp at h
 |_::_,[],h,_,_=>by simp at h
 |x::a,y::b,h,W,X=>by
  have J:a.length=b.length:=by simpa using h
  have O:∀ x∈a,0≤x∧x<32:=fun z E=>W z (.tail _ E);have U:∀ x∈b,0≤x∧x<32:=fun z E=>X z (.tail _ E);have V:=xa a b J O U;have Y:=rv a O;have aa:=rv b U;have ab:=tq b.length;simp only[gm,e2];rw[J] at Y ⊢;have step:∀ u v:Int,u<v→u*32 ^ b.length+32 ^ b.length≤v*32 ^ b.length:=fun u v ac=>by
   have:=Int.mul_le_mul_of_nonneg_right (show u+1≤v by omega) (show (0:Int)≤32 ^ b.length by omega);rw[Int.add_mul,Int.one_mul] at this;exact this
  by_cases h1:x<y
  ·rw[if_pos h1];have:=step x y h1;exact⟨⟨fun _=>by omega,fun _=>by omega⟩,fun h=>by omega⟩
  ·rw[if_neg h1];by_cases I:y<x
   ·rw[if_pos I];have:=step y x I;exact⟨⟨fun h=>by omega,fun h=>by omega⟩,fun h=>by omega⟩
   ·rw[if_neg I];have Z:x=y:=by omega
    subst Z;exact⟨V.1.trans ⟨fun h=>by omega,fun h=>by omega⟩,fun h=>by rw[V.2 (by omega)]⟩
theorem tr:∀ {a b:List Int} {i:Nat},(∀ (j:Nat) (x y:Int),j<i→a[j]? =some x→b[j]? =some y→x=y)→i≤a.length→i≤b.length→gm a b=gm (a.drop i) (b.drop i)
 |_,_,0,_,_,_=>by simp
 |[],_,i+1,_,h,_=>by simp at h
 |_::_,[],i+1,_,_,h=>by simp at h
 |x::a,y::b,i+1,he,h1,E=>by
  have I:=he 0 x y (by omega) rfl rfl;subst I;simp only[gm,Int.lt_irrefl,if_false,List.drop_succ_cons];exact tr (fun j u v O hu J=>he (j+1) u v (by omega) hu J) (by simpa using h1) (by simpa using E)
theorem xb {x:Int} {w:x5}:O y0 mL [.int .i8 x] w fun v w'=>v= .bool false∧Ext w w':=by
 apply mL.enter;simp only[bN];exact⟨by simp,Ext.refl _⟩
theorem Cy {x y:Int} {w:x5}:O y0 oZ [.int .i8 x,.int .i8 y] w fun v w'=>v= .int .i64 (if x<y then-1 else if y<x then 1 else 0)∧Ext w w':=by
 apply oZ.enter;refine xb.mono ?_;rintro _ U _ ⟨rfl,E⟩;refine xb.mono ?_;rintro _ V _ ⟨rfl,I⟩;simp only[aT,au,bV,ag];exact⟨fun h=>⟨by rw[if_pos h],E.trans I⟩,fun h=>⟨fun J=>⟨by rw[if_neg h,if_pos J],E.trans I⟩,fun J=>⟨by rw[if_neg h,if_neg J],E.trans I⟩⟩⟩
theorem Cz {ac bv:x4} {a b:List Int} {w:x5} (U:aH .i8 w ac a) (W:aH .i8 w bv b) (av:a.length=b.length):O y0 oO [ac,bv] w fun v w'=>v= .int .i64 (gm a b)∧Ext w w':=by
 apply oO.enter;have aw:=U.le;rw[aO fm.u U];refine a8.range a.length (fun i _ X=>Ext w X∧ ∀ (j:Nat) (x y:Int),j<i→a[j]? =some x→b[j]? =some y→x=y) (by omega) ⟨Ext.refl _,fun j x y ah=>by omega⟩ ?_ ?_
 ·rintro i _ X ai hi ⟨E,V⟩ aj;simp only[au,ag];refine⟨fun _=>?_,fun h=>by omega⟩;obtain⟨x,Y⟩:∃ x,a[i]? =some x:=⟨_,x3 hi⟩;obtain⟨y,Z⟩:∃ y,b[i]? =some y:=⟨_,x3 (by omega)⟩;rw[bm fm.u dz.i (by kernel_rfl) (U.ext E) Y,aO fm.u (W.ext E)];simp only[cV,ag];refine⟨fun h=>by omega,fun _=>?_⟩;rw[bm fm.u dz.i (by kernel_rfl) (W.ext E) Z];refine Cy.mono ?_;rintro _ ax _ ⟨rfl,ad⟩;have I:gm a b=gm (a.drop i) (b.drop i):=tr V (by omega) (by omega);have ak:a.drop i=x::a.drop (i+1):=by rw[Y8 hi,(x6.1 Y).2]
  have al:b.drop i=y::b.drop (i+1):=by rw[Y8 (by omega),(x6.1 Z).2]
  rw[ak,al] at I;simp only[gm] at I;simp only[bN,ag,aK];refine⟨fun ae=>⟨?_,E.trans ad⟩,fun am=>aj _ _ ⟨E.trans ad,fun j ao ap ah aa ab=>?_⟩⟩
  ·rw[I];by_cases h1:x<y
   ·rw[if_pos h1,if_pos h1]
   ·by_cases J:y<x
    ·rw[if_neg h1,if_pos J,if_neg h1,if_pos J]
    ·rw[if_neg h1,if_neg J] at ae;exact absurd rfl ae
  ·by_cases aq:j=i
   ·subst aq;rw[Y] at aa;rw[Z] at ab;cases aa;cases ab;have af:=X2.1 am;by_cases h1:x<y
    ·rw[if_pos h1] at af;omega
    ·by_cases J:y<x
     ·rw[if_neg h1,if_pos J] at af;omega
     ·omega
   ·exact V j ao ap (by omega) aa ab
 ·rintro _ X ai ⟨E,V⟩;simp only[au,show decide ((a.length:Int)<(a.length:Int))=false from decide_eq_false (by omega),aT];rw[aO fm.u (U.ext E),aO fm.u (W.ext E)];simp only[au,ag];refine⟨fun h=>by omega,fun _=>⟨?_,E⟩⟩;have I:gm a b=gm (a.drop a.length) (b.drop a.length):=tr V (by omega) (by omega);rw[I,List.drop_length];cases b.drop a.length <;> rfl
theorem CA {a b:List Int} {w:x5} (U:iT a) (V:iT b):O y0 mI [dj a,dj b] w fun v w'=>Ext w w'∧v= .int .i64 (gm a b):=by
 have ac:∀ {c:List Int},iT c→(ints .i8 c).length=6:=fun h=>by simp[h.1]
 apply mI.enter;refine ce fun ad ae af Z E=>?_;refine ce fun ag ah ai W I=>?_;rw[wU] at E I;intro X J _ _;have E:=(E.ext W).ext J;have I:=I.ext J;rw[qR bh.u dz.i (l:=0) (h:=6) (m:=6) h3 h4 eY (by omega) (by omega) (by omega),qR bh.u dz.i (l:=0) (h:=6) (m:=6) h3 h4 eY (by omega) (by omega) (by omega)];rw[if_neg (by omega),if_neg (by omega)];have ls:∀ {g:Nat} {c:List Int},iT c→ak X g bh (ints .i8 c)→aH .i8 X (.slice (some ⟨g,0+0*1,none⟩) (6-0) (6-0)) c:=fun {g c} Y aa=>by
  unfold aH;refine⟨by simp,g,0,_,6,by rw[Y.1],by rw[Y.1];omega,by simp[maxLen],fun _=>rfl,aa.range⟩
 refine (Cz (ls U E) (ls V I) (by rw[U.1,V.1])).mono ?_;rintro _ aj _ ⟨rfl,ab⟩;exact⟨((Z.trans W).trans J).trans ab,rfl⟩
end Go.Proofs.YtgbkinibgjmodaaGreatDoor
namespace Go.Vc
open Go Go.RowKit Go.Shelf Go.Proofs Go.Sort
theorem grown_of {w w':x5} (O:Ext w w') (E:cP w w'):∃ q os,w'=grow (w.drewN q) os:=by
 refine⟨w'.drawn-w.drawn,w'.heap.extract w.heap.size w'.heap.size,?_⟩;have I:∀ k,k<w.heap.size→w'.heap[k]? =w.heap[k]?:=fun k I=>by
  have J:w.heap[k]? =some w.heap[k]:=Array.getElem?_eq_getElem I;rw[J];cases U:fw w.heap[k] with
  |true=>exact O.bw k _ J U
  |false=>exact E.bw k _ J U
 have W:w'.heap=w.heap++w'.heap.extract w.heap.size w'.heap.size:=by
  apply Array.ext_getElem?;intro k;rw[Array.getElem?_append];by_cases h:k<w.heap.size
  ·rw[if_pos h,I k h]
  ·rw[if_neg h,Array.getElem?_extract];have:=O.size;by_cases V:k<w'.heap.size
   ·rw[if_pos (by omega)];congr 1;omega
   ·rw[if_neg (by omega),Array.getElem?_eq_none (by omega)]
 have h1:=E.os;have V:=E.tape.1;have X:=E.output;have Y:w.drawn+(w'.drawn-w.drawn)=w'.drawn:=by have:=E.tape.2;omega
 cases w';simp only[grow,x5.drewN] at*;subst h1 V X;rw[←W,Y]
section
variable {α:Type} [Inhabited α]
theorem xc (enc:α→List x4) (k:Nat) (E:∀ x,(enc x).length=k) (d:Array α):(flatK enc k d).toList=d.toList.flatMap enc:=by
 apply X6;intro t;by_cases h:t<d.size*k
 ·have J:0<k:=by
   rcases Nat.eq_zero_or_pos k with I|I
   ·rw[I] at h;simp at h
   ·exact I
  have O:t / k<d.size:=(Nat.div_lt_iff_lt_mul J).2 h;have U:=Nat.mod_lt t J;have V:(flatK enc k d).toList[t]? =some ((enc d[t / k]!)[t % k]!):=by
   rw[U7,Array.getElem?_eq_getElem (by simpa using h)];have:=get_flatK enc k d t h;rw[getElem!_pos _ t (by simpa using h)] at this;rw[this]
  have W:d.toList[t / k]? =some d[t / k]!:=by
   rw[U7,Array.getElem?_eq_getElem O,getElem!_pos d _ O]
  have X:(enc d[t / k]!)[t % k]? =some ((enc d[t / k]!)[t % k]!):=by
   generalize d[t / k]! =z;rw[x3 (by rw[E];exact U),getElem!_pos (enc z) _ (by rw[E];exact U)]
  have:=rt (f:=enc) (k:=k) (fun a _=>E a) W X;rw[V,←this];congr 1;rw[Nat.mul_comm];exact Nat.div_add_mod t k
 ·rw[Z8 (by simpa using h),Z8];rw[gl (k:=k) fun a _=>E a];simpa using h
theorem xd (enc:α→List x4) (k:Nat) (U:∀ x,(enc x).length=k) {w:x5} {g m:Nat} {e:o6} {cs:List x4} {d:Array α} {os:Array Obj} (I:ak w g e cs) (Y:d.size*k≤cs.length):
  ak (sortWorldK enc k w g 0 m d os) g e (d.toList.flatMap enc++cs.drop (d.size*k))∧ ∀ r,r<w.heap.size→r≠g→(sortWorldK enc k w g 0 m d os).heap[r]? =w.heap[r]?:=by
 have W:=I.lt;have V:∀ r,r<w.heap.size→(sortWorldK enc k w g 0 m d os).heap[r]? =(w.heap.modify g (onCells (putCells id 0 (flatK enc k d))))[r]?:=fun r J=>by
  show ((w.heap.modify g (onCells (putCells id 0 (flatK enc k d))))++os)[r]? =_;rw[Array.getElem?_append_left (by simpa using J)]
 refine⟨?_,fun r J X=>?_⟩
 ·unfold ak at I ⊢;rw[V g W,Array.getElem?_modify,if_pos rfl,I];show some (Obj.cells (putCells id 0 (flatK enc k d) cs.toArray) e (0,0))=_;refine congrArg some (congrArg (fun c=>Obj.cells c e (0,0)) ?_);apply Array.ext';apply X6;intro t;show _=(d.toList.flatMap enc++cs.drop (d.size*k))[t]?;rw[List.getElem?_append,gl (k:=k) fun a _=>U a,U7];unfold putCells;rw[Array.getElem?_mapIdx,List.getElem?_toArray];have O:d.toList.length=d.size:=rfl;by_cases E:t<d.size*k
  ·rw[if_pos (by rw[O];exact E),x3 (by omega),←xc enc k U,U7,Array.getElem?_eq_getElem (by simpa using E)];simp only[b6,id];rw[if_pos (by simpa using E),Nat.sub_zero,getElem!_pos _ t (by simpa using E)]
  ·rw[if_neg (by rw[O];exact E),List.getElem?_drop,O,show d.size*k+(t-d.size*k)=t by omega];cases Z:cs[t]? with
   |none=>rfl
   |some x=>
    simp only[b6];rw[if_neg (by simp;omega)]
 ·rw[V r J,Array.getElem?_modify,if_neg (Ne.symm X)]
end
theorem xe {P:X1} {V:Ren} (ai:SlLaysF0.n6 P V) {α:Type} {f:α→List x4} {k:Nat} {e:o6} {G:α→Prop} {num:α→Int} {cf:α→α→Int} {W:FuncId} {cap:Array x4}
  (aO:∀ w,(isAgg (V.t 24)).run P w= .ok true w) (aP:∀ w,(Go.sizeOf (V.t 24)).run P w= .ok k w) (h1:∀ a,G a→ ∀ u∈f a,u.oneCell'=true) (al:∀ a,G a→(f a).length=k)
  (aQ:∀ a b,G a→G b→(cf a b<0↔num a<num b)) (ay:Enters P W) {w:x5} {g:Nat} {v:x4} {L:List α} (h:aW f k e w g v L) (Y:∀ a∈L,G a) (az:L.length<65536)
  (aR:∀ am a b,aj (fun r=>r=g) w am→G a→G b→O P W ([.agg (f a).toArray,.agg (f b).toArray]++cap.toList) am fun u aS=>Ext am aS∧u= .int .i64 (cf a b)):
  O P (V.f 6) [v,.func (.func W) #[] cap] w fun _ w'=>aj (fun r=>leadsTo v r) w w'∧ ∃ M,M.Perm L∧(∀ (p q:Nat) (x y:α),p<q→M[p]? =some x→M[q]? =some y→num x≤num y)∧aW f k e w' g v M:=by
 have aA:Enters P (V.f 6):=fun args w=>ai.f6.enters rfl args w;obtain⟨⟨bh,aT⟩,bi⟩:=id h;have aB:∀ p c,v= .slice p 0 c→L=[]→O P (V.f 6) [v,.func (.func W) #[] cap] w fun _ w'=>aj (fun r=>leadsTo v r) w w'∧ ∃ M,M.Perm L∧(∀ (p q:Nat) (x y:α),p<q→M[p]? =some x→M[q]? =some y→num x≤num y)∧aW f k e w' g v M:=fun p c Z az=>by
  refine .code aA ?_;rw[Z];refine (AnyF.slices_SortFunc_none ai p c _ w).mono ?_;rintro bj w' ⟨rfl,rfl⟩;refine⟨_,rfl,cP.refl _,aj.refl _ _,L,.refl _,fun p q x y _ J=>by rw[az] at J;simp at J,by rw[←Z];exact h⟩
 rcases aT with⟨rfl,aU⟩|⟨c,cs,rfl,U,aC,hm,ao,aV⟩
 ·exact aB _ _ rfl (j9 aU)
 cases ap:L with
 |nil=>subst ap;exact aB _ _ rfl rfl
 |cons a0 bk=>
 rw[←ap];let β:={a:α // G a};have:Inhabited β:=⟨⟨a0,Y a0 (by rw[ap];exact .head _)⟩⟩;let enc:β→List x4:=fun x=>f x.1;let d:Array β:=(L.attach.map fun x=>(⟨x.1,Y x.1 x.2⟩:β)).toArray;have aD:d.toList.map Subtype.val=L:=by
  show (L.attach.map fun x=>(⟨x.1,Y x.1 x.2⟩:β)).map Subtype.val=L;rw[List.map_map];exact List.attach_map_subtype_val L
 have ad:d.size=L.length:=by simp[d]
 have X:∀ x:β,(enc x).length=k:=fun x=>al x.1 x.2;have aX:d.toList.flatMap enc=L.flatMap f:=by
  have aa:=congrArg (fun l=>l.flatMap f) aD;rw[←aa];exact (List.flatMap_map Subtype.val f d.toList).symm
 have ae:d.size*k≤cs.length:=by rw[ad,ao];exact X3 k aC
 have aY:HoldsK enc k w g 0 d:=by
  intro j af;rw[size_flatK] at af;have aE:j<cs.length:=by omega
  have aq:(flatK enc k d)[j]! =cs[j]:=by
   have aa:(flatK enc k d).toList[j]? =some cs[j]:=by
    rw[xc enc k X,aX,←aV,Z6 (by rw[←ad];exact af),x3 aE]
   rw[U7] at aa;rw[getElem!_pos _ j (by simpa using af)];rw[Array.getElem?_eq_getElem (by simpa using af)] at aa;exact b9 aa
  refine⟨?_,?_⟩
  ·show w.cell? ⟨g,0+j,none⟩=some ((flatK enc k d)[j]!);rw[aq];exact U.cell (o:=0+j) (by rw[V5];exact x3 aE)
  ·unfold x5.frozen?;unfold ak at U;rw[U];simp
 have ag:∀ x y:β,ltOf (fun x y:β=>cf x.1 y.1) x y=decide (num x.1<num y.1):=fun x y=>by
  unfold ltOf;exact decide_eq_decide.2 (aQ x.1 y.1 x.2 y.2)
 have aZ:SWO (ltOf fun x y:β=>cf x.1 y.1):=
  ⟨fun x=>by rw[ag];simp,fun x y z p q=>by rw[ag] at*;simp at*;omega,fun x y z p q=>by rw[ag] at*;simp at*;omega⟩
 have aF:∀ m (d2:Array β) os,d2.size=d.size→aj (fun r=>r=g) w (sortWorldK enc k w g 0 m d2 os)∧cP w (sortWorldK enc k w g 0 m d2 os):=fun m d2 os ab=>by
  obtain⟨bl,aG⟩:=xd enc k X (m:=m) (os:=os) U (d:=d2) (by rw[ab];exact ae);have aH:w.heap.size≤(sortWorldK enc k w g 0 m d2 os).heap.size:=by
   show w.heap.size≤((w.heap.modify g _)++os).size;simp
  refine⟨⟨aH,fun r o I _ au=>?_⟩,rfl,⟨rfl,Nat.le_add_right _ _⟩,rfl,aH,fun r o I ab=>?_⟩
  ·rw[aG r (l7.1 I).1 au];exact I
  ·have au:r≠g:=fun he=>by subst he;unfold ak at U;rw[U] at I;cases I;cases ab
   rw[aG r (l7.1 I).1 au];exact I
 have a1:CmpLays P W cap enc k (fun x y:β=>cf x.1 y.1) g 0 d.size w:=fun m os a2 ab x y=>by
  have J:=(aR _ x.1 y.1 (aF m a2 os ab).1 x.2 y.2).calls ay;have ac:([x4.agg (f x.1).toArray,.agg (f y.1).toArray]++cap.toList).toArray= #[.agg (enc x).toArray,.agg (enc y).toArray]++cap:=by
   apply Array.ext';simp[enc]
  rw[ac] at J;refine J.mono ?_;rintro _ w' ⟨_,rfl,a6,a7,rfl⟩;exact⟨rfl,grown_of a7 a6⟩
 have aI:=AnyQ.slices_SortFunc ai k aO aP enc X (fun x=>h1 x.1 x.2) (fun x y:β=>cf x.1 y.1) aZ W cap g 0 c d w (fun args w=>ay args w) a1 aY U.lt (by rw[ad];omega);rw[ad] at aI;refine .code aA (aI.mono ?_);rintro _ w' ⟨rfl,E,n,os,⟨a8,_,Z⟩,ba,rfl⟩;have av:E.size=d.size:=a8;obtain⟨bb,bc⟩:=aF n E os av;obtain⟨bd,_⟩:=xd enc k X (m:=n) (os:=os) U (d:=E) (by rw[av];exact ae);have ah:(E.toList.map Subtype.val).Perm L:=by
  have aq:(E.extract 0 L.length).toList=E.toList:=by rw[show L.length=E.size by omega,Array.extract_size]
  have be:(d.extract 0 L.length).toList=d.toList:=by rw[show L.length=d.size by omega,Array.extract_size]
  rw[aq,be] at Z;rw[←aD];exact Z.map _
 have aJ:=ah.length_eq;refine⟨_,rfl,bc,bb.mono fun r _ I=>⟨_,_,_,rfl,I.symm⟩,E.toList.map Subtype.val,ah,fun p q x y bf J aK=>?_,⟨?_,.inr ⟨c,_,by rw[aJ],bd,by rw[aJ];exact aC,hm,?_,?_⟩⟩,fun a ac=>al a (Y a (ah.mem_iff.1 ac))⟩
 ·rw[r8,Z3] at J aK;obtain⟨bm,aL,rfl⟩:=J;obtain⟨bn,aM,rfl⟩:=aK;rw[U7] at aL aM;have aN:=(l7.1 aL);have aw:=(l7.1 aM);have:=ba p q (Z9 _) bf (by have:=aw.1;omega);rw[getElem!_pos E p aN.1,getElem!_pos E q aw.1,aN.2,aw.2,ag] at this;simpa using this
 ·rw[gl (k:=k) fun a ac=>al a (Y a (ah.mem_iff.1 ac))]
 ·have ax:(E.toList.flatMap enc).length=E.size*k:=by rw[gl (k:=k) fun a _=>X a];rfl
  rw[o5,ax,List.length_drop,av,ao];rw[ao] at ae;exact Nat.add_sub_cancel' ae
 ·have ax:(E.toList.flatMap enc).length=E.size*k:=by rw[gl (k:=k) fun a _=>X a];rfl
  have bg:(List.map Subtype.val E.toList).length*k=(E.toList.flatMap enc).length:=by rw[ax,o4];rfl
  rw[bg,List.take_left,List.flatMap_map]
end Go.Vc
namespace Go.Proofs
open Go.Shelf
def Tryz.ts:Go.Shelf.Ren:=⟨fun|6=>298|15=>181|14=>311|28=>237|29=>238|20=>326|21=>327|22=>328|23=>329|24=>330|25=>331|26=>332|27=>333|46=>341|47=>273|48=>274|49=>342|50=>343|57=>346|n=>n,fun|22=>365|24=>347|25=>364|3=>3|39=>278|0=>0|53=>340|55=>39|4=>4|46=>333|45=>332|50=>337|5=>5|9=>9|66=>375|70=>379|76=>400|77=>401|n=>n,fun|n=>n⟩
theorem Tryz.CB:Go.Proofs.SlLaysF0.n6 Tryz.prog Tryz.ts:={
 mixed:=by kernel_rfl,
 f6:=⟨Tryz.f298.name,by decide,Tryz.func298.trans (congrArg some (by kernel_rfl))⟩,
 f14:=⟨Tryz.f311.name,by decide,Tryz.func311.trans (congrArg some (by kernel_rfl))⟩,
 f15:=Tryz.func181.trans (congrArg some (by kernel_rfl)),
 f20:=⟨Tryz.f326.name,by decide,Tryz.func326.trans (congrArg some (by kernel_rfl))⟩,
 f21:=⟨Tryz.f327.name,by decide,Tryz.func327.trans (congrArg some (by kernel_rfl))⟩,
 f22:=⟨Tryz.f328.name,by decide,Tryz.func328.trans (congrArg some (by kernel_rfl))⟩,
 f23:=⟨Tryz.f329.name,by decide,Tryz.func329.trans (congrArg some (by kernel_rfl))⟩,
 f24:=⟨Tryz.f330.name,by decide,Tryz.func330.trans (congrArg some (by kernel_rfl))⟩,
 f25:=⟨Tryz.f331.name,by decide,Tryz.func331.trans (congrArg some (by kernel_rfl))⟩,
 f26:=⟨Tryz.f332.name,by decide,Tryz.func332.trans (congrArg some (by kernel_rfl))⟩,
 f27:=⟨Tryz.f333.name,by decide,Tryz.func333.trans (congrArg some (by kernel_rfl))⟩,
 f28:=Tryz.func237.trans (congrArg some (by kernel_rfl)),
 f29:=Tryz.func238.trans (congrArg some (by kernel_rfl)),
 f46:=⟨Tryz.f341.name,by decide,Tryz.func341.trans (congrArg some (by kernel_rfl))⟩,
 f47:=Tryz.func273.trans (congrArg some (by kernel_rfl)),
 f48:=Tryz.func274.trans (congrArg some (by kernel_rfl)),
 f49:=⟨Tryz.f342.name,by decide,Tryz.func342.trans (congrArg some (by kernel_rfl))⟩,
 f50:=⟨Tryz.f343.name,by decide,Tryz.func343.trans (congrArg some (by kernel_rfl))⟩,
 f57:=⟨Tryz.f346.name,by decide,Tryz.func346.trans (congrArg some (by kernel_rfl))⟩,
 t0:=Tryz.underlying0,
 a0:=Tryz.isAgg0,
 z0:=Tryz.sizeOf0,
 v0:=Tryz.zeroValue0,
 t3:=Tryz.underlying3,
 a3:=Tryz.isAgg3,
 z3:=Tryz.sizeOf3,
 v3:=Tryz.zeroValue3,
 t4:=Tryz.underlying4,
 a4:=Tryz.isAgg4,
 z4:=Tryz.sizeOf4,
 v4:=Tryz.zeroValue4,
 t5:=Tryz.underlying5,
 a5:=Tryz.isAgg5,
 z5:=Tryz.sizeOf5,
 v5:=Tryz.zeroValue5,
 t9:=Tryz.underlying9,
 a9:=Tryz.isAgg9,
 z9:=Tryz.sizeOf9,
 v9:=Tryz.zeroValue9,
 t22:=Tryz.underlying365,
 a22:=Tryz.isAgg365,
 z22:=Tryz.sizeOf365,
 v22:=Tryz.zeroValue365,
 t25:=Tryz.underlying364,
 a25:=Tryz.isAgg364,
 z25:=Tryz.sizeOf364,
 v25:=Tryz.zeroValue364,
 t39:=Tryz.underlying278,
 a39:=Tryz.isAgg278,
 z39:=Tryz.sizeOf278,
 v39:=Tryz.zeroValue278,
 t45:=Tryz.underlying332,
 a45:=Tryz.isAgg332,
 z45:=Tryz.sizeOf332,
 v45:=Tryz.zeroValue332,
 t46:=Tryz.underlying333,
 a46:=Tryz.isAgg333,
 z46:=Tryz.sizeOf333,
 v46:=Tryz.zeroValue333,
 t50:=Tryz.underlying337,
 a50:=Tryz.isAgg337,
 z50:=Tryz.sizeOf337,
 v50:=Tryz.zeroValue337,
 t53:=Tryz.underlying340,
 a53:=Tryz.isAgg340,
 z53:=Tryz.sizeOf340,
 v53:=Tryz.zeroValue340,
 t55:=Tryz.underlying39,
 a55:=Tryz.isAgg39,
 z55:=Tryz.sizeOf39,
 v55:=Tryz.zeroValue39,
 t66:=Tryz.underlying375,
 a66:=Tryz.isAgg375,
 z66:=Tryz.sizeOf375,
 v66:=Tryz.zeroValue375,
 t70:=Tryz.underlying379,
 a70:=Tryz.isAgg379,
 z70:=Tryz.sizeOf379,
 v70:=Tryz.zeroValue379,
 t76:=Tryz.underlying400,
 a76:=Tryz.isAgg400,
 z76:=Tryz.sizeOf400,
 v76:=Tryz.zeroValue400,
 t77:=Tryz.underlying401,
 a77:=Tryz.isAgg401,
 z77:=Tryz.sizeOf401,
 v77:=Tryz.zeroValue401}
def Tryz.tt:Go.Shelf.Ren:=⟨fun|6=>218|15=>181|14=>262|28=>237|29=>238|20=>287|21=>288|22=>289|23=>290|24=>291|25=>292|26=>293|27=>294|46=>306|47=>273|48=>274|49=>307|50=>308|57=>325|n=>n,fun|22=>306|24=>311|25=>318|3=>3|39=>278|0=>0|53=>340|55=>39|4=>4|46=>333|45=>332|50=>337|5=>5|9=>9|66=>375|70=>379|76=>400|77=>401|n=>n,fun|n=>n⟩
theorem Tryz.CC:Go.Proofs.SlLaysF0.n6 Tryz.prog Tryz.tt:={
 mixed:=by kernel_rfl,
 f6:=⟨Tryz.f218.name,by decide,Tryz.func218.trans (congrArg some (by kernel_rfl))⟩,
 f14:=⟨Tryz.f262.name,by decide,Tryz.func262.trans (congrArg some (by kernel_rfl))⟩,
 f15:=Tryz.func181.trans (congrArg some (by kernel_rfl)),
 f20:=⟨Tryz.f287.name,by decide,Tryz.func287.trans (congrArg some (by kernel_rfl))⟩,
 f21:=⟨Tryz.f288.name,by decide,Tryz.func288.trans (congrArg some (by kernel_rfl))⟩,
 f22:=⟨Tryz.f289.name,by decide,Tryz.func289.trans (congrArg some (by kernel_rfl))⟩,
 f23:=⟨Tryz.f290.name,by decide,Tryz.func290.trans (congrArg some (by kernel_rfl))⟩,
 f24:=⟨Tryz.f291.name,by decide,Tryz.func291.trans (congrArg some (by kernel_rfl))⟩,
 f25:=⟨Tryz.f292.name,by decide,Tryz.func292.trans (congrArg some (by kernel_rfl))⟩,
 f26:=⟨Tryz.f293.name,by decide,Tryz.func293.trans (congrArg some (by kernel_rfl))⟩,
 f27:=⟨Tryz.f294.name,by decide,Tryz.func294.trans (congrArg some (by kernel_rfl))⟩,
 f28:=Tryz.func237.trans (congrArg some (by kernel_rfl)),
 f29:=Tryz.func238.trans (congrArg some (by kernel_rfl)),
 f46:=⟨Tryz.f306.name,by decide,Tryz.func306.trans (congrArg some (by kernel_rfl))⟩,
 f47:=Tryz.func273.trans (congrArg some (by kernel_rfl)),
 f48:=Tryz.func274.trans (congrArg some (by kernel_rfl)),
 f49:=⟨Tryz.f307.name,by decide,Tryz.func307.trans (congrArg some (by kernel_rfl))⟩,
 f50:=⟨Tryz.f308.name,by decide,Tryz.func308.trans (congrArg some (by kernel_rfl))⟩,
 f57:=⟨Tryz.f325.name,by decide,Tryz.func325.trans (congrArg some (by kernel_rfl))⟩,
 t0:=Tryz.underlying0,
 a0:=Tryz.isAgg0,
 z0:=Tryz.sizeOf0,
 v0:=Tryz.zeroValue0,
 t3:=Tryz.underlying3,
 a3:=Tryz.isAgg3,
 z3:=Tryz.sizeOf3,
 v3:=Tryz.zeroValue3,
 t4:=Tryz.underlying4,
 a4:=Tryz.isAgg4,
 z4:=Tryz.sizeOf4,
 v4:=Tryz.zeroValue4,
 t5:=Tryz.underlying5,
 a5:=Tryz.isAgg5,
 z5:=Tryz.sizeOf5,
 v5:=Tryz.zeroValue5,
 t9:=Tryz.underlying9,
 a9:=Tryz.isAgg9,
 z9:=Tryz.sizeOf9,
 v9:=Tryz.zeroValue9,
 t22:=Tryz.underlying306,
 a22:=Tryz.isAgg306,
 z22:=Tryz.sizeOf306,
 v22:=Tryz.zeroValue306,
 t25:=Tryz.underlying318,
 a25:=Tryz.isAgg318,
 z25:=Tryz.sizeOf318,
 v25:=Tryz.zeroValue318,
 t39:=Tryz.underlying278,
 a39:=Tryz.isAgg278,
 z39:=Tryz.sizeOf278,
 v39:=Tryz.zeroValue278,
 t45:=Tryz.underlying332,
 a45:=Tryz.isAgg332,
 z45:=Tryz.sizeOf332,
 v45:=Tryz.zeroValue332,
 t46:=Tryz.underlying333,
 a46:=Tryz.isAgg333,
 z46:=Tryz.sizeOf333,
 v46:=Tryz.zeroValue333,
 t50:=Tryz.underlying337,
 a50:=Tryz.isAgg337,
 z50:=Tryz.sizeOf337,
 v50:=Tryz.zeroValue337,
 t53:=Tryz.underlying340,
 a53:=Tryz.isAgg340,
 z53:=Tryz.sizeOf340,
 v53:=Tryz.zeroValue340,
 t55:=Tryz.underlying39,
 a55:=Tryz.isAgg39,
 z55:=Tryz.sizeOf39,
 v55:=Tryz.zeroValue39,
 t66:=Tryz.underlying375,
 a66:=Tryz.isAgg375,
 z66:=Tryz.sizeOf375,
 v66:=Tryz.zeroValue375,
 t70:=Tryz.underlying379,
 a70:=Tryz.isAgg379,
 z70:=Tryz.sizeOf379,
 v70:=Tryz.zeroValue379,
 t76:=Tryz.underlying400,
 a76:=Tryz.isAgg400,
 z76:=Tryz.sizeOf400,
 v76:=Tryz.zeroValue400,
 t77:=Tryz.underlying401,
 a77:=Tryz.isAgg401,
 z77:=Tryz.sizeOf401,
 v77:=Tryz.zeroValue401}
theorem Tryz.CD (w:x5):(isAgg (Tryz.ts.t 24)).run Tryz.prog w= .ok true w:=Tryz.isAgg347 w
theorem Tryz.CE (w:x5):(Go.sizeOf (Tryz.ts.t 24)).run Tryz.prog w= .ok 6 w:=Tryz.sizeOf347 w
theorem Tryz.CF:Tryz.prog.funcs[264]? =some Tryz.f264:=Tryz.func264
theorem Tryz.CG (w:x5):(isAgg (Tryz.tt.t 24)).run Tryz.prog w= .ok true w:=Tryz.isAgg311 w
theorem Tryz.CH (w:x5):(Go.sizeOf (Tryz.tt.t 24)).run Tryz.prog w= .ok 2 w:=Tryz.sizeOf311 w
theorem Tryz.CI:Tryz.prog.funcs[219]? =some Tryz.f219:=Tryz.func219
end Go.Proofs
namespace Go.Proofs.YtgbkinibgjmodaaGreatDoor
open Go Go.Vc Go.RowKit Go.Proofs Go.Proofs.Tryz
set_option maxRecDepth 100000
def rx {α:Type} (f:α→Int) (L:List α) (a i:Nat):Prop:=∀ (p q:Nat) (x y:α),a≤p→p<q→q<i→L[p]? =some x→L[q]? =some y→f x≤f y
def nh (L:List (List Int)):Prop:=∀ ks∈L,iT ks
theorem nh.perm {L M:List (List Int)} (h:nh L) (E:M.Perm L):nh M:=fun ks I=>h ks (E.mem_iff.1 I)
theorem CJ {w:x5} {g:Nat} {v:x4} {L:List (List Int)} {i:Nat} {y:Int} {ks:List Int} {K:x4→Prop} (E:y=(i:Int)) (h:lz w g v L) (hi:L[i]? =some ks):
  I y0 (x7 et v (.int .i64 y)) w (fun p=>I y0 (x1 bh p) w K)=K (dj ks):=by
 have J:ks.length=6:=by have:=h.2 ks (u4 hi);simpa using this
 rw[cI E et.u bh.i h (x6.1 hi).1,ly J (h.range hi)]
abbrev xf:x4:=.func (.func mI) #[] #[]
theorem ry {P:X1} {w:x5} {t:o6} {k:o8} {s:ByteArray} {i:Nat} {K:x4→Prop} (E:P.underlying t=some .string) (hi:i<s.size):
  I P (Y0 t (.string s) (.int k (i:Int))) w K=K (.int .u8 (s[i].toNat:Int)):=I.of fun w' _=>by
 simp[Y0,asIntOf,run_underlying E,hi]
def dw (n:Nat):Nat:=if n=0 then 0 else Nat.log2 n+1
theorem xg {n:Nat} (h:n<256):dw n≤8:=by
 unfold dw;by_cases E:n=0
 ·rw[if_pos E];omega
 ·rw[if_neg E];have I:Nat.log2 n<8:=(Nat.log2_lt E).2 (by omega);omega
set_option maxHeartbeats 1000000 in
theorem CK {w:x5} {g:Nat} {v:x4} {L:List (List Int)} (h:lz w g v L) (J:nh L) (U:L.length<65536):
  O y0 u3 [v,xf] w fun _ w'=>aj (fun r=>leadsTo v r) w w'∧ ∃ M,M.Perm L∧rx e2 M 0 M.length∧lz w' g v M:=by
 refine (xe CB (G:=iT) (num:=e2) (cf:=gm) (cap:=#[]) CD CE (fun a _=>w9) (fun a E=>by simp[E.1]) (fun a b E I=>(xa a b (by rw[E.1,I.1]) E.2 I.2).1) (Enters.of y0 CF rfl (by kernel_rfl)) h J U fun aa a b _ E I=>CA E I).mono ?_;rintro _ w' _ ⟨V,M,W,hu,hm⟩;exact⟨V,M,W,fun p q x y _ X _ Y Z=>hu p q x y X Y Z,hm⟩
end Go.Proofs.YtgbkinibgjmodaaGreatDoor
namespace Go.Vc
open Go Go.RowKit
set_option maxRecDepth 100000
theorem Keys.str {P:X1} {k:o6} (E:P.underlying k=some .string):Keys P k fun v=>∃ s,v= .string s:=by
 have key:∀ s,MapKept.IsKey .string (.string s):=fun s=>trivial;refine⟨fun w J v ⟨n,h⟩=>?_,fun w x ⟨n,h⟩ O U=>?_,fun w v ⟨n,h⟩=>?_⟩
 ·subst h;exact MapKept.run_checkKey E (key n) J 9999
 ·subst h;rcases MapKept.findNow_spec (key n) O 0 (fun e he=>by obtain⟨m,h⟩:=U e he;rw[h];exact key m) with⟨h1,I⟩|⟨j,e,h1,I,V⟩
  ·exact .inl ⟨MapKept.run_findKey E h1,I⟩
  ·exact .inr ⟨j,e,by have:=MapKept.run_findKey (P:=P) (w:=w) E h1;simpa using this,I,V⟩
 ·subst h;exact MapKept.run_keyThatStays (d:=.string) (key n)
section
variable {P:X1} {w:x5}
theorem lA {s:Sem x4} {v:x4} (h:∀ K:x4→Prop,I P s w K=K v):al P s v w:=by
 have h1:I P s w (fun u=>u=v):=(h fun u=>u=v).mpr rfl;obtain⟨u,hu,rfl⟩:=h1;exact hu
variable {k e:o6} {G:x4→Prop}
end
end Go.Vc
namespace Go.Proofs.YtgbkinibgjmodaaGreatDoor
open Go Go.Vc Go.RowKit Go.Proofs Go.Proofs.Tryz
set_option maxRecDepth 100000
def fg:Nat→Nat→List Int
 |0,_=>[]
 |n+1,u=>fg n (u / 10)++[48+((u % 10:Nat):Int)]
theorem pR:∀ (n u:Nat),(fg n u).length=n
 |0,_=>rfl
 |n+1,u=>by rw[fg,o5,pR n];rfl
theorem CL (n u:Nat):fg (n+2) u=fg n (u / 100)++[48+((u / 10 % 10:Nat):Int),48+((u % 10:Nat):Int)]:=by
 rw[fg,fg,W9];rw[show u / 10 / 10=u / 100 by omega];rfl
theorem xh:∀ (n u:Nat),10 ^ n≤u→u<10 ^ (n+1)→fg (n+1) u=eu u
 |0,u,h1,E=>by
  rw[lu,if_pos (by simpa using E)];simp[fg]
 |n+1,u,h1,E=>by
  have I:(10:Nat) ^ (n+1)=10*10 ^ n:=by rw[Nat.pow_succ,Nat.mul_comm]
  have J:(10:Nat) ^ (n+1+1)=10*10 ^ (n+1):=by rw[Nat.pow_succ,Nat.mul_comm]
  have O:1≤10 ^ n:=Nat.one_le_iff_ne_zero.2 (by simp);rw[lu,if_neg (by omega),fg,xh n (u / 10) (by omega) (by omega)]
def e3 (E C:List Int) (nd u:Nat):Prop:=nd≤E.length∧C.length=E.length∧ ∃ t,C.drop nd=t∧E=fg nd u++t
theorem e3.two {E C:List Int} {nd u:Nat} (h:e3 E C (nd+2) u):e3 E ((C.set (nd+1) (48+((u % 10:Nat):Int))).set nd (48+((u / 10 % 10:Nat):Int))) nd (u / 100):=by
 obtain⟨h1,I,t,J,O⟩:=h;refine⟨by omega,by simp[I],_,rfl,?_⟩;rw[O,CL,W9];congr 1;rw[List.drop_set,if_neg (by omega),List.drop_set,if_neg (by omega),←J];have U:nd<C.length:=by omega
 have V:nd+1<C.length:=by omega
 rw[Y8 U,Y8 V,W3,Nat.add_sub_cancel_left];rfl
theorem e3.one {E C:List Int} {u:Nat} (h:e3 E C 1 u):C.set 0 (48+((u % 10:Nat):Int))=E:=by
 obtain⟨h1,I,t,J,O⟩:=h;rw[O,fg,fg,List.nil_append,←J];cases C with
 |nil=>simp at I;omega
 |cons c C=>simp
theorem e3.zero {E C:List Int} {u:Nat} (h:e3 E C 0 u):C=E:=by
 obtain⟨h1,O,t,I,J⟩:=h;rw[J,fg,List.nil_append,←I,List.drop_zero]
def hE:ByteArray:=⟨#[48,48,48,49,48,50,48,51,48,52,48,53,48,54,48,55,48,56,48,57,49,48,49,49,49,50,49,51,49,52,49,53,49,54,49,55,49,56,49,57,50,48,50,49,50,50,50,51,50,52,50,53,50,54,50,55,50,56,50,57,51,48,51,49,51,50,51,51,51,52,51,53,51,54,51,55,51,56,51,57,52,48,52,49,52,50,52,51,52,52,52,53,52,54,52,55,52,56,52,57,53,48,53,49,53,50,53,51,53,52,53,53,53,54,53,55,53,56,53,57,54,48,54,49,54,50,54,51,54,52,54,53,54,54,54,55,54,56,54,57,55,48,55,49,55,50,55,51,55,52,55,53,55,54,55,55,55,56,55,57,56,48,56,49,56,50,56,51,56,52,56,53,56,54,56,55,56,56,56,57,57,48,57,49,57,50,57,51,57,52,57,53,57,54,57,55,57,56,57,57]⟩
theorem xi:hE.size=200:=by decide+kernel
theorem CM:∀ q:Fin 100,hE.data.toList[2*q.val]? =some (UInt8.ofNat (48+q.val / 10))∧hE.data.toList[2*q.val+1]? =some (UInt8.ofNat (48+q.val % 10)):=by decide+kernel
theorem tu {q:Nat} (I:q<100):(∀ h,(hE[2*q]'h).toNat=48+q / 10)∧ ∀ h,(hE[2*q+1]'h).toNat=48+q % 10:=by
 obtain⟨h1,J⟩:=CM ⟨q,I⟩;refine⟨fun h=>?_,fun h=>?_⟩
 ·have E:=(x6.1 h1).2;have:hE[2*q]=UInt8.ofNat (48+q / 10):=E;rw[this,UInt8.toNat_ofNat'];omega
 ·have E:=(x6.1 J).2;have:hE[2*q+1]=UInt8.ofNat (48+q % 10):=E;rw[this,UInt8.toNat_ofNat'];omega
theorem wrap_u32 {x:Int} (h1:0≤x) (E:x<4294967296):o8.u32.wrap x=x:=by
 simp[o8.wrap,o8.bits,o8.signed];omega
def hF (w:x5) (g o:Nat) (E C I:List Int):Prop:=ak w g gZ (ints .u8 (E++C++I))∧E.length=o
theorem tv {w:x5} {g o n c i:Nat} {y:Int} {E:o8} {K:x4→Prop} (J:y=(i:Int)) (hi:i<n):
  I y0 (x7 aV (.slice (some ⟨g,o,none⟩) n c) (.int E y)) w K=K (.pointer (some ⟨g,o+i,none⟩)):=by
 subst J;rw[gy aV.u bb.i hi (fun _=>rfl),U9]
theorem tw {w:x5} {g o i:Nat} {x:Int} {E C I:List Int} {K:Unit→x5→Prop} (J:hF w g o E C I) (hi:i<C.length)
  (U:∀ w',aj (fun r=>r=g) w w'→hF w' g o E (C.set i x) I→K () w'):aa y0 (x8 bb (.pointer (some ⟨g,o+i,none⟩)) (.int .u8 x)) w K:=by
 obtain⟨J,rfl⟩:=J;refine bE (g:=g) (o:=E.length+i) bb.i rfl rfl J (by simp;omega) fun w' V W O=>U w' V ⟨?_,rfl⟩;have e:(ints .u8 (E++C++I)).set (E.length+i) (.int .u8 x)=ints .u8 (E++C.set i x++I):=by
  unfold ints;rw[←List.map_set,W9,V2 _ _ (by omega),Nat.add_sub_cancel_left,List.set_append_left _ _ hi,W9]
 rw[e] at O;exact O
theorem lB {w:x5} {g o n c nd q i:Nat} {ac V t:Int} {W C X:List Int} {K:x5→Prop} (ae:hF w g o W C X) (aD:C.length=n) (aE:n≤1000) (aF:nd≤n) (h1:(nd:Int)-ac=((i+1:Nat):Int)) (ai:(nd:Int)-V=(i:Int)) (ak:i+1<n) (am:t=((2*q:Nat):Int)) (Y:q<100)
  (ao:∀ w',aj (fun r=>r=g) w w'→hF w' g o W ((C.set (i+1) (48+((q % 10:Nat):Int))).set i (48+((q / 10:Nat):Int))) X→K w'):
  aQ w fun E=>
  I y0 (U .sub J false true (.int .i64 (nd:Int)) (.int .i64 ac)) E fun ap=>
  I y0 (U .sub J false true (.int .i64 (nd:Int)) (.int .i64 V)) E fun af=>
  I y0 (U .add cY false true (.int .u32 t) (.int .u32 1)) E fun aq=>
  I y0 (Y0 a1 (.string hE) aq) E fun t50=>
  I y0 (Y0 a1 (.string hE) (.int .u32 t)) E fun ag=>
  I y0 (x7 aV (.slice (some ⟨g,o,none⟩) n c) ap) E fun t53=>
  aa y0 (x8 bb t53 t50) E fun(_:Unit) O=>
   (Ext E O∨al y0 (Y0 a1 (.string hE) (.int .u32 t)) ag O∧al y0 (U .sub J false true (.int .i64 (nd:Int)) (.int .i64 V)) af O∧True)∧
  I y0 (x7 aV (.slice (some ⟨g,o,none⟩) n c) af) O fun au=>
   aa y0 (x8 bb au ag) O fun(_:Unit) Z=>K Z:=by
 subst am;intro E ah _ _;have av:aj (fun r=>r=g) w E:=ah.ad _;have aw:hF E g o W C X:=⟨ae.1.ext ah,ae.2⟩;rw[dD,wrap_i64 (by omega) (by omega),dD,wrap_i64 (by omega) (by omega),aK,wrap_u32 (by omega) (by omega)];rw[show ((2*q:Nat):Int)+1=((2*q+1:Nat):Int) by omega];have ab:=xi;rw[ry a1.u (by rw[ab];omega),ry a1.u (by rw[ab];omega)];rw[(tu Y).1,(tu Y).2,tv h1 ak];refine tw aw (by omega) fun O ax ay=>⟨.inr ⟨lA fun K=>?_,lA fun K=>?_,trivial⟩,?_⟩
 ·rw[ry a1.u (by rw[ab];omega),(tu Y).1]
 ·rw[dD,wrap_i64 (by omega) (by omega)]
 ·rw[tv ai (by omega)];refine tw ay (by simp;omega) fun Z az aA=>ao Z ((av.trans ax).trans az) ?_;have aB:48+((q % 10:Nat):Int)=((48+q % 10:Nat):Int):=by omega
  have aC:48+((q / 10:Nat):Int)=((48+q / 10:Nat):Int):=by omega
  rw[aB,aC];exact aA
theorem e3.pair {E C:List Int} {nd u q:Nat} (h:e3 E C (nd+2) u) (I:q=u % 100):e3 E ((C.set (nd+1) (48+((q % 10:Nat):Int))).set nd (48+((q / 10:Nat):Int))) nd (u / 100):=by
 have:=h.two;rw[show u % 10=q % 10 by omega,show u / 10 % 10=q / 10 by omega] at this;exact this
theorem lC {t:o6} {cx cy:Bool} {k:o8} {a b:Nat} {K:x4→Prop} {w:x5} (E:b≠0):I y0 (U .rem t cx cy (.int k (a:Int)) (.int k (b:Int))) w K=K (.int k ((a % b:Nat):Int)):=by
 rw[pj (by omega),Int.tmod_eq_emod_of_nonneg (by omega),Int.natCast_emod]
theorem u32_quo {t:o6} {cx cy:Bool} {a b:Nat} {K:x4→Prop} {w:x5} (E:b≠0) (J:a<4294967296):I y0 (U .quo t cx cy (.int .u32 (a:Int)) (.int .u32 (b:Int))) w K=K (.int .u32 ((a / b:Nat):Int)):=by
 have:=Nat.div_le_self a b;rw[qM (by omega),Int.tdiv_eq_ediv_of_nonneg (by omega),←Int.natCast_ediv];generalize a / b=m at this ⊢;rw[wrap_u32 (by omega) (by omega)]
theorem u64_quo {t:o6} {cx cy:Bool} {a b:Nat} {K:x4→Prop} {w:x5} (E:b≠0) (J:a<18446744073709551616):I y0 (U .quo t cx cy (.int .u64 (a:Int)) (.int .u64 (b:Int))) w K=K (.int .u64 ((a / b:Nat):Int)):=by
 have:=Nat.div_le_self a b;rw[qM (by omega),Int.tdiv_eq_ediv_of_nonneg (by omega),←Int.natCast_ediv];generalize a / b=m at this ⊢;rw[wrap_u64 (by omega) (by omega)]
theorem lD {t:o6} {cx cy:Bool} {a b:Nat} {K:x4→Prop} {w:x5} (E:a*b<4294967296):I y0 (U .mul t cx cy (.int .u32 (a:Int)) (.int .u32 (b:Int))) w K=K (.int .u32 ((a*b:Nat):Int)):=by
 have e:(a:Int)*(b:Int)=((a*b:Nat):Int):=by simp
 rw[fA,e];generalize a*b=m at E ⊢;rw[wrap_u32 (by omega) (by omega)]
theorem e3.start {N u:Nat} {C:List Int} (h:C.length=N):e3 (fg N u) C N u:=⟨by rw[pR];omega,by rw[pR,h],[],by rw[List.drop_eq_nil_iff];omega,by simp⟩
set_option maxHeartbeats 4000000 in
theorem CN {w:x5} {g o N c u:Nat} {ac C ad:List Int} (aH:hF w g o ac C ad) (aI:C.length=N) (aU:N≤19) (hu:u<10 ^ N):
  O y0 pe [.slice (some ⟨g,o,none⟩) N c,.int .u64 (u:Int)] w fun v w'=>v= .tuple #[]∧aj (fun r=>r=g) w w'∧hF w' g o ac (fg N u) ad:=by
 have X:=pR N u;apply pe.enter;rw[gf aV.u];refine⟨fun aJ aq au=>∃ E nd:Nat,aJ= .int .u64 (E:Int)∧aq= .int .i64 (nd:Int)∧E<10 ^ nd∧nd≤N∧aj (fun r=>r=g) w au∧ ∃ ae,hF au g o ac ae ad∧e3 (fg N u) ae nd E,
  fun _ aq _=>(bM aq).toNat,⟨u,N,rfl,rfl,hu,o7 _,aj.refl _ _,C,aH,e3.start aI⟩,?_⟩
 rintro _ _ au ⟨E,nd,rfl,rfl,af,Y,av,ae,aw,am⟩;have aD:ae.length=N:=by rw[am.2.1,X]
 have aW:(10:Nat) ^ nd≤10 ^ 19:=Nat.pow_le_pow_right (by omega) (by omega);have aL:E<18446744073709551616:=by omega
 have aX:(8:Int)=((8:Nat):Int):=rfl;rw[cV,ag];refine⟨fun aM=>?_,fun aM=>?_⟩
 ·obtain⟨m,rfl⟩:∃ m,nd=m+8:=⟨nd-8,by omega⟩;have aY:E % 100000000<100000000:=Nat.mod_lt _ (by omega);rw[show X4 .u64 100000000=X4 .u64 ((100000000:Nat):Int) from rfl,lC (by omega),fc bD.u cY.u,wrap_u32 (by omega) (by omega),u64_quo (by omega) aL];rw[show X4 .u32 10000=X4 .u32 ((10000:Nat):Int) from rfl,show X4 .u32 100=X4 .u32 ((100:Nat):Int) from rfl,show X4 .u32 2=X4 .u32 ((2:Nat):Int) from rfl];rw[u32_quo (by omega) (by omega),lC (by omega),u32_quo (by omega) (by omega),lD (by omega),lC (by omega),lD (by omega),u32_quo (by omega) (by omega),lD (by omega),lC (by omega),lD (by omega)];refine lB (i:=m+6) (q:=E % 100000000 % 10000 % 100) aw aD (by omega) Y (by omega) (by omega) (by omega) (by omega) (by omega) fun ah Z aa=>?_;have J:=am.pair (q:=E % 100000000 % 10000 % 100) (by omega);have ai:=J.2.1.trans X;refine lB (i:=m+4) (q:=E % 100000000 % 10000 / 100) aa ai (by omega) Y (by omega) (by omega) (by omega) (by omega) (by omega) fun ab V U=>?_;have I:=e3.pair (nd:=m+4) (q:=E % 100000000 % 10000 / 100) J (by omega);have aE:=I.2.1.trans X;refine lB (i:=m+2) (q:=E % 100000000 / 10000 % 100) U aE (by omega) Y (by omega) (by omega) (by omega) (by omega) (by omega) fun aN ax ao=>?_;have aF:=e3.pair (nd:=m+2) (q:=E % 100000000 / 10000 % 100) I (by omega);have aO:=aF.2.1.trans X;refine lB (i:=m) (q:=E % 100000000 / 10000 / 100) ao aO (by omega) Y (by omega) (by omega) (by omega) (by omega) (by omega) fun aZ aP aQ=>?_;have aG:=e3.pair (nd:=m) (q:=E % 100000000 / 10000 / 100) aF (by omega);rw[dD,wrap_i64 (by omega) (by omega)];refine⟨⟨E / 100000000,m,rfl,by congr 1;omega,?_,by omega,(((av.trans Z).trans V).trans ax).trans aP,_,aQ,?_⟩,by simp only[bM];omega⟩
  ·rw[Nat.pow_add] at af;exact Nat.div_lt_of_lt_mul (by rw[Nat.mul_comm];exact af)
  ·rw[show E / 100 / 100 / 100 / 100=E / 100000000 by omega] at aG;exact aG
 ·have a1:nd<8:=by omega
  have a2:(10:Nat) ^ nd≤10 ^ 7:=Nat.pow_le_pow_right (by omega) (by omega);rw[fc bD.u cY.u,wrap_u32 (by omega) (by omega)];refine h6 (fun a b ah=>∃ W m:Nat,a= .int .i64 (m:Int)∧b= .int .u32 (W:Int)∧W<10 ^ m∧m<4∧m≤N∧aj (fun r=>r=g) w ah∧ ∃ ap,hF ah g o ac ap ad∧e3 (fg N u) ap m W) ?_ ?_
  rotate_left
  ·intro aR ak;rw[cV,ag];refine⟨fun ay=>?_,fun ay=>ak _ _ _ ⟨E,nd,rfl,rfl,af,by omega,Y,av,ae,aw,am⟩⟩;obtain⟨m,rfl⟩:∃ m,nd=m+4:=⟨nd-4,by omega⟩;rw[show X4 .u32 10000=X4 .u32 ((10000:Nat):Int) from rfl,show X4 .u32 100=X4 .u32 ((100:Nat):Int) from rfl,show X4 .u32 2=X4 .u32 ((2:Nat):Int) from rfl];rw[lC (by omega),u32_quo (by omega) (by omega),u32_quo (by omega) (by omega),lD (by omega),lC (by omega),lD (by omega)];refine lB (i:=m+2) (q:=E % 10000 % 100) aw aD (by omega) Y (by omega) (by omega) (by omega) (by omega) (by omega) fun ah Z aa=>?_;have J:=am.pair (q:=E % 10000 % 100) (by omega);have ai:=J.2.1.trans X;refine lB (i:=m) (q:=E % 10000 / 100) aa ai (by omega) Y (by omega) (by omega) (by omega) (by omega) (by omega) fun ab V U=>?_;have I:=e3.pair (nd:=m) (q:=E % 10000 / 100) J (by omega);rw[dD,wrap_i64 (by omega) (by omega)];refine ak _ _ _ ⟨E / 10000,m,by congr 1;omega,rfl,?_,by omega,by omega,(av.trans Z).trans V,_,U,?_⟩
   ·rw[Nat.pow_add] at af;exact Nat.div_lt_of_lt_mul (by rw[Nat.mul_comm];exact af)
   ·rw[show E / 100 / 100=E / 10000 by omega] at I;exact I
  rintro _ _ ah ⟨W,m,rfl,rfl,az,a6,aA,Z,ap,aa,J⟩;have ai:=J.2.1.trans X;have a7:(10:Nat) ^ m≤10 ^ 3:=Nat.pow_le_pow_right (by omega) (by omega);refine h6 (fun a b ab=>∃ al m:Nat,a= .int .i64 (m:Int)∧b= .int .u32 (al:Int)∧al<10 ^ m∧m<2∧m≤N∧aj (fun r=>r=g) w ab∧ ∃ aB,hF ab g o ac aB ad∧e3 (fg N u) aB m al) ?_ ?_
  rotate_left
  ·intro aR ak;rw[cV,ag];refine⟨fun ay=>?_,fun ay=>ak _ _ _ ⟨W,m,rfl,rfl,az,by omega,aA,Z,ap,aa,J⟩⟩;obtain⟨m,rfl⟩:∃ aS,m=aS+2:=⟨m-2,by omega⟩;rw[show X4 .u32 100=X4 .u32 ((100:Nat):Int) from rfl,show X4 .u32 2=X4 .u32 ((2:Nat):Int) from rfl];rw[lC (by omega),lD (by omega),u32_quo (by omega) (by omega)];refine lB (i:=m) (q:=W % 100) aa ai (by omega) aA (by omega) (by omega) (by omega) (by omega) (by omega) fun ab V U=>?_;have I:=J.pair (q:=W % 100) rfl;rw[dD,wrap_i64 (by omega) (by omega)];refine ak _ _ _ ⟨W / 100,m,by congr 1;omega,rfl,?_,by omega,by omega,Z.trans V,_,U,I⟩;rw[Nat.pow_add] at az;exact Nat.div_lt_of_lt_mul (by rw[Nat.mul_comm];exact az)
  rintro _ _ ab ⟨al,m,rfl,rfl,aC,a8,aA,V,aB,U,I⟩;have aE:=I.2.1.trans X;rw[bV,ag];refine⟨fun aT=>?_,fun aT=>?_⟩
  ·obtain rfl:m=1:=by omega
   have aC:al<10:=by simpa using aC
   rw[aK,wrap_u32 (by omega) (by omega),fc cY.u bb.u,wrap_u8 (by omega) (by omega),tv (y:=0) (i:=0) rfl (by omega)];refine tw U (by omega) fun aN ax ao=>?_;have:=I.one;rw[Nat.mod_eq_of_lt aC] at this;rw[this] at ao;exact⟨rfl,V.trans ax,ao⟩
  ·obtain rfl:m=0:=by omega
   rw[I.zero] at U;exact⟨rfl,V,U⟩
def pS:List Int:=[1,10,100,1000,10000,100000,1000000,10000000,100000000,1000000000,10000000000,100000000000,1000000000000,10000000000000,100000000000000,1000000000000000,10000000000000000,100000000000000000,1000000000000000000,10000000000000000000]
def eI (w:x5):Prop:=w.rangeAt 1 0 (ints .u64 pS)
theorem eI.ext {w w':x5} (h:eI w) (E:Ext w w'):eI w':=pi E h
theorem CO:∀ k:Nat,k<20→pS[k]? =some (((10 ^ k:Nat)):Int):=by decide
theorem xj {n s:Nat} (h:2 ^ s≤n):dw n=s+dw (n / 2 ^ s):=by
 have E:=Nat.two_pow_pos s;have h1:n / 2 ^ s≠0:=by have:=Nat.div_pos h E;omega
 have I:n≠0:=by omega
 unfold dw;rw[if_neg I,if_neg h1];have e:Nat.log2 n=Nat.log2 (n / 2 ^ s)+s:=by
  refine (Nat.log2_eq_iff I).2 ⟨?_,?_⟩
  ·rw[Nat.pow_add];have:=X3 (2 ^ s) (Nat.log2_self_le h1);have:=Nat.div_mul_le_self n (2 ^ s);omega
  ·have J:=Nat.lt_log2_self (n:=n / 2 ^ s);rw[show Nat.log2 (n / 2 ^ s)+s+1=(Nat.log2 (n / 2 ^ s)+1)+s by omega,Nat.pow_add];have:=X3 (2 ^ s) (show n / 2 ^ s+1≤2 ^ (Nat.log2 (n / 2 ^ s)+1) by omega);have O:=Nat.lt_div_mul_add E (a:=n);rw[W7] at this;omega
 omega
def pT:ByteArray:=⟨#[0,1,2,2,3,3,3,3,4,4,4,4,4,4,4,4,5,5,5,5,5,5,5,5,5,5,5,5,5,5,5,5,6,6,6,6,6,6,6,6,6,6,6,6,6,6,6,6,6,6,6,6,6,6,6,6,6,6,6,6,6,6,6,6,7,7,7,7,7,7,7,7,7,7,7,7,7,7,7,7,7,7,7,7,7,7,7,7,7,7,7,7,7,7,7,7,7,7,7,7,7,7,7,7,7,7,7,7,7,7,7,7,7,7,7,7,7,7,7,7,7,7,7,7,7,7,7,7,8,8,8,8,8,8,8,8,8,8,8,8,8,8,8,8,8,8,8,8,8,8,8,8,8,8,8,8,8,8,8,8,8,8,8,8,8,8,8,8,8,8,8,8,8,8,8,8,8,8,8,8,8,8,8,8,8,8,8,8,8,8,8,8,8,8,8,8,8,8,8,8,8,8,8,8,8,8,8,8,8,8,8,8,8,8,8,8,8,8,8,8,8,8,8,8,8,8,8,8,8,8,8,8,8,8,8,8,8,8,8,8,8,8,8,8,8,8,8,8,8,8,8,8,8,8,8,8]⟩
theorem CP:pT.size=256:=by decide+kernel
theorem CQ:∀ q:Fin 256,pT.data.toList[q.val]? =some (UInt8.ofNat (dw q.val)):=by decide+kernel
theorem CR {q:Nat} (E:q<256):∀ h,(pT[q]'h).toNat=dw q:=fun h=>by
 have h1:=CQ ⟨q,E⟩;have I:=(x6.1 h1).2;have:pT[q]=UInt8.ofNat (dw q):=I;have J:=xg E;rw[this,UInt8.toNat_ofNat'];omega
theorem CS {n:Nat} {w:x5} (ak:n<18446744073709551616):O y0 kZ [.int .u64 (n:Int)] w fun v w'=>v= .int .i64 (dw n:Int)∧Ext w w':=by
 apply kZ.enter;have step:∀ {s x m:Nat} {X:x4→x4→x5→Prop} {y c:Int},s<64→x<18446744073709551616→m+dw x=dw n→m≤64→y=(2 ^ s:Nat)→c=(s:Int)→2 ^ s≤18446744073709551615→(∀ E V:Nat,E<2 ^ s∨(E=x / 2 ^ s∧V=m+s)→E≤x→V+dw E=dw n→V≤m+s→X (.int .u64 (E:Int)) (.int .i64 (V:Int)) w)→
   I y0 (U .geq bD false true (.int .u64 (x:Int)) (.int .u64 y)) w fun t4=>
    Split t4 (I y0 (U .shr bD false true (.int .u64 (x:Int)) (.int .u64 c)) w fun ae=>I y0 (U .add J false true (.int .i64 (m:Int)) (.int .i64 c)) w fun af=>X ae af w) (X (.int .u64 (x:Int)) (.int .i64 (m:Int)) w):=by
  intro s x m X y c aa Y hm al ah ai ac W;subst ah ai;rw[cV,ag];refine⟨fun h=>?_,fun h=>W x m (.inl (by omega)) (o7 _) hm (by omega)⟩;rw[s6 aa,aK,wrap_i64 (by omega) (by omega)];have:=xj (n:=x) (s:=s) (by omega);have:=W (x / 2 ^ s) (m+s) (.inr ⟨rfl,rfl⟩) (Nat.div_le_self _ _) (by omega) (by omega);exact this
 refine h6 (fun x m Z=>w=Z∧ ∃ E V:Nat,x= .int .u64 (E:Int)∧m= .int .i64 (V:Int)∧E<4294967296∧V+dw E=dw n∧V≤32) ?_ ?_
 rotate_left
 ·intro X W;rw[cV,ag];refine⟨fun h=>?_,fun h=>W _ _ _ ⟨rfl,n,0,rfl,rfl,by omega,by omega,by omega⟩⟩;rw[show X4 .u64 32=X4 .u64 ((32:Nat):Int) from rfl,s6 (by omega)];have:=xj (n:=n) (s:=32) (by omega);exact W _ _ _ ⟨rfl,n / 2 ^ 32,32,rfl,rfl,by omega,by omega,by omega⟩
 rintro _ _ _ ⟨rfl,x,m,rfl,rfl,Y,hm,ad⟩;refine h6 (fun x m Z=>w=Z∧ ∃ E V:Nat,x= .int .u64 (E:Int)∧m= .int .i64 (V:Int)∧E<65536∧V+dw E=dw n∧V≤48) ?_ ?_
 rotate_left
 ·intro X W;refine step (s:=16) (by omega) (by omega) hm (by omega) (by omega) (by omega) (by omega) fun E V h1 ac ab aj=>W _ _ _ ⟨rfl,E,V,rfl,rfl,?_,ab,by omega⟩;rcases h1 with h1|⟨h1,_⟩ <;> omega
 rintro _ _ _ ⟨rfl,x,m,rfl,rfl,Y,hm,ad⟩;refine h6 (fun x m Z=>w=Z∧ ∃ E V:Nat,x= .int .u64 (E:Int)∧m= .int .i64 (V:Int)∧E<256∧V+dw E=dw n∧V≤56) ?_ ?_
 rotate_left
 ·intro X W;refine step (s:=8) (by omega) (by omega) hm (by omega) (by omega) (by omega) (by omega) fun E V h1 ac ab aj=>W _ _ _ ⟨rfl,E,V,rfl,rfl,?_,ab,by omega⟩;rcases h1 with h1|⟨h1,_⟩ <;> omega
 rintro _ _ _ ⟨rfl,x,m,rfl,rfl,Y,hm,ad⟩;have aa:=CP;have am:=xg Y;rw[fc bD.u bb.u,wrap_u8 (by omega) (by omega)];refine (ry (s:=pT) a1.u (by rw[aa];omega)).mpr ?_;rw[CR Y,fc bb.u J.u,wrap_i64 (by omega) (by omega),aK,wrap_i64 (by omega) (by omega)];exact⟨by congr 1;omega,Ext.refl _⟩
theorem xk {t:o6} {cx cy:Bool} {k:o8} {a n:Nat} {w:x5} {K:x4→Prop} (E:n<64):I y0 (U .shr t cx cy (.int .i64 (a:Int)) (.int k (n:Int))) w K=K (.int .i64 ((a / 2 ^ n:Nat):Int)):=I.of fun w' _=>by
 have e:(a:Int).fdiv (2 ^ min n Y9.bits)=((a / 2 ^ n:Nat):Int):=by
  have:min n Y9.bits=n:=Nat.min_eq_left (by show n≤64;omega);rw[this,Int.fdiv_eq_ediv_of_nonneg _ (by exact Int.le_of_lt (Int.pow_pos (by omega)))];simp
 simp only[U,eqGuard,binOp,Op.shift,c9,e];rfl
theorem CT:∀ L:Fin 64,7≤L.val→2 ^ L.val≤10 ^ (L.val*78913 / 262144+1)∧10 ^ (L.val*78913 / 262144)≤10*2 ^ (L.val-1)∧1≤L.val*78913 / 262144∧L.val*78913 / 262144<19:=by decide+kernel
theorem CU {d:Nat} {w:x5} (aa:eI w) (h1:100≤d) (ah:d<9223372036854775808):O y0 pd [.int .u64 (d:Int)] w fun v w'=>Ext w w'∧ ∃ n:Nat,v= .int .i64 ((n+1:Nat):Int)∧n<19∧10 ^ n≤d∧d<10 ^ (n+1):=by
 have V:d≠0:=by omega
 have W:dw d=Nat.log2 d+1:=by unfold dw;rw[if_neg V]
 have aj:2 ^ (dw d-1)≤d:=by rw[W];exact Nat.log2_self_le V
 have ak:d<2 ^ dw d:=by rw[W];exact Nat.lt_log2_self
 have ab:7≤dw d:=by
  by_cases h:7≤dw d
  ·exact h
  ·have:2 ^ dw d≤2 ^ 6:=Nat.pow_le_pow_right (by omega) (by omega);omega
 have ac:dw d<64:=by
  by_cases h:dw d<64
  ·exact h
  ·have:2 ^ 63≤2 ^ (dw d-1):=Nat.pow_le_pow_right (by omega) (by omega);omega
 obtain⟨ad,X,t3,t4⟩:=CT ⟨dw d,ac⟩ ab;simp only at ad X t3 t4;apply pd.enter;refine (CS (by omega)).mono ?_;rintro _ ae _ ⟨rfl,E⟩;generalize dw d=L at*;refine O.mono (K:=fun v I=>v= .int .i64 ((L*78913 / 262144:Nat):Int)∧Ext ae I) ?_ ?_
 ·apply qH.enter;rw[fA,wrap_i64 (by omega) (by omega),show X4 .u64 18=X4 .u64 ((18:Nat):Int) from rfl,show (L:Int)*78913=((L*78913:Nat):Int) by omega,xk (by omega)];exact⟨rfl,Ext.refl _⟩
 rintro _ I _ ⟨rfl,J⟩;generalize L*78913 / 262144=t at*;have af:=CO t (by omega);rw[sK (t:=ph) ph.u bD.i (by omega),ai (by kernel_rfl) (by rw[U9];exact ((aa.ext E).ext J) _ _ (ju af)),cV];refine O.mono (K:=fun v Y=>v= .int .i64 ((if 10 ^ t≤d then 1 else 0:Nat):Int)∧Ext I Y) ?_ ?_
 ·apply qI.enter;rw[ag];refine⟨fun h=>⟨by rw[if_pos (by omega)];rfl,Ext.refl _⟩,fun h=>⟨by rw[if_neg (by omega)];rfl,Ext.refl _⟩⟩
 rintro _ Y _ ⟨rfl,Z⟩;rw[aK];by_cases U:10 ^ t≤d
 ·rw[if_pos U,wrap_i64 (by omega) (by omega)];exact⟨(E.trans J).trans Z,t,by congr 1,t4,U,by omega⟩
 ·rw[if_neg U,wrap_i64 (by omega) (by omega)];obtain⟨s,rfl⟩:∃ s,t=s+1:=⟨t-1,by omega⟩;rw[Nat.pow_succ] at X;exact⟨(E.trans J).trans Z,s,by congr 1,by omega,by omega,by omega⟩
theorem xl {t:o6} {k E:o8} {x y:Int} {i j:Nat} {s:ByteArray} {w:x5} {K:x4→Prop} (J:x=(i:Int)) (O:y=(j:Int)) (U:y0.underlying t=some .string) (V:i≤j) (W:j≤s.size):
  I y0 (c7 t (.string s) (some (.int k x)) (some (.int E y)) none) w K=K (.string (s.extract i j)):=I.of fun w' _=>by
 subst J O;have X:=qQ (P:=y0) w' (sl:=false) (n:=s.size) (c:=s.size) (low:=some (.int k (i:Int))) (high:=some (.int E (j:Int))) (mx:=none) (l:=i) (h:=j) (m:=s.size) ⟨k,rfl⟩ ⟨E,rfl⟩ eY V W (o7 _);simp[c7,Instr.slice,run_underlying U,X]
theorem CV:∀ q:Fin 100,hE.extract (2*q.val) (2*q.val+2)=strOfNums [48+((q.val / 10:Nat):Int),48+((q.val % 10:Nat):Int)]:=by decide+kernel
def xm:ByteArray:=⟨#[48,49,50,51,52,53,54,55,56,57,97,98,99,100,101,102,103,104,105,106,107,108,109,110,111,112,113,114,115,116,117,118,119,120,121,122]⟩
theorem CW:∀ q:Fin 10,xm.extract q.val (q.val+1)=strOfNums [48+(q.val:Int)]:=by decide+kernel
theorem xn {n:Nat} (h:n<10):eu n=[48+(n:Int)]:=by rw[lu,if_pos h,Nat.mod_eq_of_lt h];rfl
theorem CX {n:Nat} (h1:10≤n) (E:n<100):eu n=[48+((n / 10:Nat):Int),48+((n % 10:Nat):Int)]:=by
 rw[lu,if_neg (by omega),xn (by omega)];rfl
theorem CY {n:Nat} {w:x5} (E:n<100):O y0 pc [.int .i64 (n:Int)] w fun v w'=>v=bu (eu n)∧Ext w w':=by
 apply pc.enter;rw[au,ag];refine⟨fun h=>?_,fun h=>?_⟩
 ·rw[aK,wrap_i64 (by omega) (by omega)];refine (xl (s:=xm) (i:=n) (j:=n+1) rfl (by omega) a1.u (by omega) (by show n+1≤36;omega)).mpr ?_;rw[CW ⟨n,by omega⟩,xn (by omega)];exact⟨rfl,Ext.refl _⟩
 ·rw[fA,wrap_i64 (by omega) (by omega),fA,wrap_i64 (by omega) (by omega),aK,wrap_i64 (by omega) (by omega)];refine (xl (s:=hE) (i:=2*n) (j:=2*n+2) (by omega) (by omega) a1.u (by omega) (by rw[xi];omega)).mpr ?_;rw[CV ⟨n,E⟩,CX (by omega) E];exact⟨rfl,Ext.refl _⟩
theorem CZ {w:x5} {g:Nat} {J C O:List Int} (E:hF w g 1 J C O) (U:C.length≤23):aH .u8 w (.slice (some ⟨g,1,none⟩) C.length 23) C:=by
 obtain⟨E,V⟩:=E;refine⟨by simp,g,1,_,23,rfl,U,by simp[maxLen],fun _=>rfl,fun j v I=>?_⟩;have W:j<C.length:=by have:=(x6.1 I).1;simpa using this
 refine E.cell ?_;rw[ints,j4,j4,Z1 (by simp;omega),Z4 (by simp;omega),o4,V,Nat.add_sub_cancel_left];exact I
theorem xo {g m:Nat} {y:Int} {w:x5} {K:x4→Prop} (E:y=((m+2:Nat):Int)) (hm:m≤22):
  I y0 (c7 gZ (.pointer (some ⟨g,0,none⟩)) (some (.int .i64 1)) (some (.int .i64 y)) none) w K=K (.slice (some ⟨g,1,none⟩) (m+1) 23):=by
 subst E;have:=qR (w:=w) (b:=g) (o:=0) (low:=some (.int .i64 1)) (high:=some (.int .i64 ((m+2:Nat):Int))) (mx:=none) (l:=1) (h:=m+2) (m:=24) (K:=K) gZ.u bb.i ⟨_,rfl⟩ ⟨_,rfl⟩ eY (by omega) (by omega) (by omega);rw[this,if_neg (by omega)];rfl
set_option maxHeartbeats 1000000 in
theorem C0 {n:Nat} {w:x5} (Y:eI w) (Z:n<9223372036854775808):O y0 o2 [.int .i64 (n:Int),.int .i64 10] w fun v w'=>v=bu (eu n)∧Ext w w':=by
 apply o2.enter;rw[bQ];refine (ag).mpr ⟨fun _=>?_,fun h=>absurd rfl h⟩;refine aZ (fun v E=>w=E∧v= .bool (decide (n<100))) ?_ ?_
 rotate_left
 ·intro aa I;rw[pk,ag];refine⟨fun _=>?_,fun h=>by omega⟩;rw[au];exact I _ _ ⟨rfl,by congr 1;rw[X8,decide_eq_true_eq,decide_eq_true_eq];omega⟩
 rintro _ _ ⟨rfl,rfl⟩;rw[ag];refine⟨fun h=>?_,fun h=>?_⟩
 ·exact (CY h).mono fun _ _ _ h=>h
 refine bO gZ.i fun g E aj U ab=>?_;rw[fc ae.u bD.u,wrap_u64 (by omega) (by omega)];refine aZ (fun v J=>E=J∧v= .int .u64 (n:Int)) ?_ ?_
 rotate_left
 ·intro aa I;rw[au,ag];exact⟨fun h=>by omega,fun _=>I _ _ ⟨rfl,rfl⟩⟩
 rintro _ _ ⟨rfl,rfl⟩;refine (CU (Y.ext U) (by omega) Z).mono ?_;rintro _ J _ ⟨V,m,rfl,hm,ac,W⟩;rw[aK,wrap_i64 (by omega) (by omega)];rw[xo (m:=m) (by omega) (by omega)];have ad:hF J g 1 [0] (p9 (m+1) 0) (p9 (22-m) 0):=by
  refine⟨?_,rfl⟩;have e:[0]++p9 (m+1) (0:Int)++p9 (22-m) 0=p9 24 0:=by
   rw[show[(0:Int)]=p9 1 0 from rfl,List.replicate_append_replicate,List.replicate_append_replicate];congr 1;omega
  rw[e];exact ab.ext V
 refine (CN (N:=m+1) ad (by simp) (by omega) W).mono ?_;rintro _ ak _ ⟨rfl,af,ah⟩;rw[au,ag];refine⟨fun h=>by omega,fun _=>?_⟩;rw[aK,wrap_i64 (by omega) (by omega)];rw[xo (m:=m) (by omega) (by omega)];have ai:=pR (m+1) n;have X:=CZ ah (by omega);rw[ai] at X;rw[sZ aV.u bb.u a1.u X,xh m n ac W];refine⟨rfl,(U.trans V).then af fun r al he=>?_⟩;have he:r=g:=he;omega
theorem C1 {n:Nat} {w:x5} (E:eI w) (I:n<9223372036854775808):O y0 k0 [.int .i64 (n:Int)] w fun v w'=>v=bu (eu n)∧Ext w w':=by
 apply k0.enter;refine O.mono (K:=fun v w'=>v=bu (eu n)∧Ext w w') ?_ (fun _ _ _ h=>h);apply qF.enter;exact (C0 E I).mono fun _ _ _ h=>h
theorem eI.ad {S:Nat→Prop} {w w':x5} (h:eI w) (E:aj S w w') (I:¬S 1):eI w':=qL E I h
def cN (w:x5) (g gs:Nat) (A:av) (B:av) (clean:Bool) (s:Option aA):Prop:=match s with
 |some s=>cH w g gs A B s clean
 |none=>dH w g gs A B
theorem eP.of {w w':x5} {g gs:Nat} {A:av} {B:av} {clean:Bool} {s:Option aA} (h:eP w g gs A B clean s w'):aj (bt g gs A) w w'∧cN w' g gs A B clean s:=h
theorem eP.mk {w w':x5} {g gs:Nat} {A:av} {B:av} {clean:Bool} {s:Option aA} (h:aj (bt g gs A) w w') (E:cN w' g gs A B clean s):eP w g gs A B clean s w':=⟨h,E⟩
theorem cN.ad {S:Nat→Prop} {w w':x5} {g gs:Nat} {A:av} {B:av} {clean:Bool} {s:Option aA} (h:cN w g gs A B clean s) (E:aj S w w') (I:∀ r,bt g gs A r→¬S r) (J:∀ r,cd g gs A B r→¬S r):cN w' g gs A B clean s:=by
 cases s with
 |none=>exact dH.ad (g:=g) (gs:=gs) (A:=A) (B:=B) h E I J
 |some s=>exact cH.ad (g:=g) (gs:=gs) (A:=A) (B:=B) (s:=s) (clean:=clean) h E I J
theorem cN.ext {w w':x5} {g gs:Nat} {A:av} {B:av} {clean:Bool} {s:Option aA} (h:cN w g gs A B clean s) (E:Ext w w'):cN w' g gs A B clean s:=h.ad (E.ad fun _=>False) (fun _ _ h=>h) fun _ _ h=>h
theorem cN.side {w:x5} {g gs:Nat} {A:av} {B:av} {clean:Bool} {s:Option aA} (h:cN w g gs A B clean s):iS w g gs A B:=by
 cases s with
 |none=>exact h.1
 |some s=>exact h.1
def aU (lo hi:Int) (s:Option aA):Option (Int×aA):=s.bind (a7 lo hi)
theorem jz {w:x5} {g gs:Nat} {A:av} {B:av} {s:Option aA} {clean:Bool} {lo hi:Int} (h:cN w g gs A B clean s):O y0 eB [.pointer (some ⟨g,0,none⟩),.int .i64 lo,.int .i64 hi] w fun v w'=>eP w g gs A B clean ((aU lo hi s).map (·.2)) w'∧ ∃ n at_:Int,v= .tuple #[.int .i64 n,.int .i64 at_]∧(∀ q,aU lo hi s=some q→n=q.1)∧(aU lo hi s=none→n=0):=by
 cases s with
 |none=>
  refine (BY h).mono ?_;rintro _ I _ ⟨E,rfl⟩;exact⟨⟨E.ad _,dH.ext (g:=g) (gs:=gs) (A:=A) (B:=B) h E⟩,0,0,rfl,fun q h=>(by cases h),fun _=>rfl⟩
 |some s=>exact th (s:=s) h
theorem ni {w:x5} {g gs:Nat} {A:av} {B:av} {s:Option aA} {clean:Bool} (h:cN w g gs A B clean s):O y0 ed [.pointer (some ⟨g,0,none⟩)] w fun v w'=>v= .bool s.isSome∧Ext w w':=by
 cases s with
 |none=>exact lx h
 |some s=>exact na h
theorem C2 {w:x5} {g gs:Nat} {A:av} {B:av} {s:Option aA} {clean:Bool} {e at_:Int} (h:cN w g gs A B clean s) (he:e≠0):O y0 fk [.pointer (some ⟨g,0,none⟩),.int .i64 e,.int .i64 at_] w fun _ w'=>eP w g gs A B clean none w':=by
 cases s with
 |none=>
  refine (BW h).mono ?_;rintro _ I _ E;exact⟨E.ad _,dH.ext (g:=g) (gs:=gs) (A:=A) (B:=B) h E⟩
 |some s=>
  refine (ri (s:=s) h he).mono ?_;rintro _ I _ ⟨J,U⟩;exact⟨J.mono fun r _ h=>.inl h,U⟩
theorem pU {w:x5} {g gs:Nat} {A:av} {B:av} {s:Option aA} {clean b:Bool} {at_:Int} (h:cN w g gs A B clean s):O y0 fx [.pointer (some ⟨g,0,none⟩),.bool b,.int .i64 at_] w fun _ w'=>eP w g gs A B clean (s.map (aY b)) w':=by
 cases s with
 |none=>
  refine (wI h).mono ?_;rintro _ I _ E;exact⟨E.ad _,dH.ext (g:=g) (gs:=gs) (A:=A) (B:=B) h E⟩
 |some s=>
  refine (rj (s:=s) h).mono ?_;rintro _ I _ ⟨J,U⟩;exact⟨J.mono fun r _ h=>.inl h,U⟩
theorem kq {lo hi n:Int} {s:Option aA} {s':aA} (h:aU lo hi s=some (n,s')):lo≤n∧n≤hi:=by
 cases s with
 |none=>cases h
 |some s=>exact (fQ h).1
def ea (ks acc:List Int) (s:Option aA):Option (List Int×aA):=s.bind (gA ks acc)
theorem xp {k:Int} {ks acc:List Int} {s:Option aA}:ea (k::ks) acc s=match aU 0 (k-1) s with
  |none=>none
  |some (v,s)=>gA ks (acc++[v]) s:=by
 cases s with
 |none=>rfl
 |some s=>
  show gA (k::ks) acc s=_;rw[gA];show _=match a7 0 (k-1) s with|none=>none|some (v,s)=>gA ks (acc++[v]) s
  cases a7 0 (k-1) s <;> rfl
theorem xq:∀ (t:List Int),(∀ x∈t,0≤x∧x≤ap)→(dp t).length≤20*t.length
 |[],_=>by simp[dp]
 |x::t,h=>by
  have J:=xq t fun y E=>h y (.tail _ E);have I:=h x (.head _);have O:=s5 19 x.toNat (by unfold ap at I;omega) (by omega);have e:dp (x::t)=eu x.toNat++[32]++dp t:=by simp[dp]
  rw[e];simp only[o5,c8,List.length_nil];omega
set_option maxHeartbeats 4000000 in
theorem C3 {w:x5} {g gs E:Nat} {A B:av} {s:Option aA} {clean:Bool} {sv:x4} {sizes:List Int} {aR:x4→x5→Prop}
  (h:cN w g gs A B clean s) (aS:aH .i64 w sv sizes) (bg:∀ r,leads sv r→¬bt g gs A r∧r≠E) (bh:∀ z∈sizes,1≤z∧z≤ap) (b7:sizes.length≤100001) (bi:eI w) (h1:cd g gs A B 1)
  (aT:ak w E cB [.slice none 0 0,.int .i64 0]) (aV:¬bt g gs A E) (aW:¬B E)
  (aX:∀ t w' Z V,t.length=sizes.length→(∀ x∈t,0≤x∧x≤ap)→aj (fun r=>bt g gs A r∨r=E) w w'→ak w' E cB [Z,.int .i64 0]→aq .i64 ae w' V Z t→w.heap.size≤V→
   cN w' g gs A B clean ((ea sizes [] s).map (·.2))→(∀ q,ea sizes [] s=some q→t=q.1)→aR (bu (dp t)) w'):
  a8 (.string ⟨#[]⟩) (.int .i64 0) w fun key aL al bj=>
   I y0 (U .lss J false false aL (.int .i64 (sizes.length:Int))) al fun bk=>
   Split bk (I y0 (x7 af sv aL) al fun bl=>
   I y0 (x1 ae bl) al fun bn=>
   I y0 (U .sub ae false true bn (.int .i64 1)) al fun bo=>
   O y0 eB [.pointer (some ⟨g,0,none⟩),(.int .i64 0),bo] al fun aY ao=>
   I y0 (u5 aY 0) ao fun aZ=>
   I y0 (u5 aY 1) ao fun b8=>
   I y0 (x2 cB (.pointer (some ⟨E,0,none⟩)) 0) ao fun bp=>
   I y0 (x1 af bp) ao fun bq=>
   aa y0 (u9 af 1 #[(0,aZ)]) ao fun br bw=>
   aa y0 (r9 #[af,af] af #[bq,br]) bw fun bx a2=>
   I y0 (x2 cB (.pointer (some ⟨E,0,none⟩)) 0) a2 fun bz=>
   aa y0 (x8 af bz bx) a2 fun(_:Unit) bA=>
   O y0 k0 [aZ] bA fun bB az=>
   I y0 (U .add a1 false true bB (.string ⟨#[32]⟩)) az fun bC=>
   I y0 (U .add a1 false false key bC) az fun bD=>
   I y0 (U .add J false true aL (.int .i64 1)) az fun bF=>
   bj bD bF az) (aR key al):=by
 have b9:=aT.lt;have bG:=h.side;obtain⟨ca,cb,cc,bH,bI⟩:=bG;refine a8.range sizes.length (fun j key ab=>∃ t Z V X,key=bu (dp t)∧t.length=j∧(∀ x∈t,0≤x∧x≤ap)∧aj (fun r=>bt g gs A r∨r=E) w ab∧ak ab E cB [Z,.int .i64 0]∧aq .i64 ae ab V Z t∧w.heap.size≤V∧
  cN ab g gs A B clean X∧ea sizes [] s=ea (sizes.drop j) t X) aS.le ⟨[],_,w.heap.size,s,rfl,rfl,fun x ac=>(by cases ac),aj.refl _ _,aT,aq.nil _ _ _ _,o7 _,h,rfl⟩ ?_ ?_
 rotate_left
 ·rintro _ ab bJ ⟨t,Z,V,X,rfl,aB,aw,am,aD,aE,aM,aF,he⟩;rw[au,ag];refine⟨fun h=>by omega,fun _=>?_⟩;rw[List.drop_length] at he;cases X with
  |none=>
   have he:ea sizes [] s=none:=he;exact aX t ab Z V aB aw am aD aE aM (by rw[he];exact aF) (fun q W=>by rw[he] at W;cases W)
  |some X=>
   have he:ea sizes [] s=some (t,X):=he;exact aX t ab Z V aB aw am aD aE aM (by rw[he];exact aF) (fun q W=>by rw[he] at W;cases W;rfl)
 rintro j _ ab bJ a6 ⟨t,Z,V,X,rfl,aB,aw,am,aD,aE,aM,aF,he⟩ bK;obtain⟨z,aN⟩:∃ z,sizes[j]? =some z:=⟨_,x3 a6⟩;have bL:=bh z (u4 aN);have ce:z≤4611686018427387904:=bL.2;have bM:aH .i64 ab sv sizes:=hB aS am fun r Y a n c bN bO=>by
  have:=bg r ⟨a,n,c,bN,bO⟩;exact Y.elim this.1 this.2
 have ay:∀ r,bt g gs A r→r<w.heap.size:=bH;rw[au,ag];refine⟨fun _=>?_,fun h=>by omega⟩;rw[bm af.u ae.i (by kernel_rfl) bM aN,dD,wrap_i64 (by omega) (by omega)];refine (jz aF).mono ?_;rintro _ cg _ ⟨bP,n,at_,rfl,a7,bQ⟩;obtain⟨aG,bR⟩:=bP.of;have ba:0≤n∧n≤ap:=by
  cases W:aU 0 (z-1) X with
  |none=>rw[bQ W];exact⟨by omega,by unfold ap;omega⟩
  |some q=>
   rw[a7 q W];have:=kq (s':=q.2) (n:=q.1) W;exact⟨this.1,by unfold ap;omega⟩
 rw[aC (v:=.int .i64 n) rfl,aC (v:=.int .i64 at_) rfl];have bb:=aD.ad aG aV;have bS:=aE.ad aG fun _ bT=>by have:=ay _ bT;omega
 rw[ah cB.p rfl,ai (by kernel_rfl) (bb.cell (o:=0+0) rfl)];refine dW af.u ae.i rfl fun a ch bU ci ax bV=>?_;refine hb af.u ae.i rfl (bS.ext ax) bV.ls (by simp;omega) (by simp;omega) fun bc bd bW cj aO aI=>?_;have ck:=am.size;have cl:=aG.size;have z3:=ax.size;have z4:=aI.size;rw[ah cB.p rfl];have bX:=(bb.ext ax).ad aI (fun he=>by have he:E=V:=he;omega);refine bE (g:=E) (o:=0) af.i aO.ls.cells.1 aO.ls.cells.2 bX (by simp) fun be aP cm aQ=>?_;have aQ:ak be E cB [bc,.int .i64 0]:=aQ;have bY:aj (fun r=>bt g gs A r∨r=E) w bU:=(am.trans (aG.mono fun r _ h=>.inl h)).trans (ax.ad _);have bZ:aj (fun r=>bt g gs A r∨r=E) w bW:=fB bY aI fun r Y he=>by have he:r=V:=he;omega
 have bf:aj (fun r=>bt g gs A r∨r=E) w be:=bZ.trans (aP.mono fun r _ h=>.inr h);have b1:¬(fun r=>bt g gs A r∨r=E) 1:=fun h=>h.elim h1.1 fun h=>aW (h▸h1.2);obtain⟨m,rfl⟩:∃ m:Nat,n=(m:Int):=⟨n.toNat,by omega⟩;unfold ap at ba;refine (C1 (bi.ad bf b1) (by omega)).mono ?_;rintro _ cn _ ⟨rfl,aJ⟩;have cp:=s5 19 m (by omega) (by omega);have cq:=xq t aw;rw[show (ByteArray.mk #[32])=strOfNums [32] from rfl,sY (by simp;omega),sY (by simp;omega),aK];refine bK _ _ ⟨t++[(m:Int)],bc,bd,(aU 0 (z-1) X).map (·.2),?_,by simp[aB],fun x ac=>?_,bf.trans (aJ.ad _),aQ.ext aJ,(aO.ad aP (fun _ he=>by have he:bd=E:=he;omega)).ext aJ,by omega,?_,?_⟩
 ·rw[Bm,c9]
 ·rcases n0.1 ac with ac|ac
  ·exact aw x ac
  ·rw[o9.1 ac];exact ba
 ·refine cN.ext ?_ aJ;have b2:=bR.ext ax;have b3:∀ r,bt g gs A r→¬(fun r=>r=V) r:=fun r Y he=>by have:=ay r Y;have he:r=V:=he;omega
  have b4:∀ r,cd g gs A B r→¬(fun r=>r=V) r:=fun r Y he=>by have:=bI r Y.2;have he:r=V:=he;omega
  have b5:∀ r,bt g gs A r→¬(fun r=>r=E) r:=fun r Y he=>by have he:r=E:=he;exact aV (he▸Y)
  have b6:∀ r,cd g gs A B r→¬(fun r=>r=E) r:=fun r Y he=>by have he:r=E:=he;exact aW (he▸Y.2)
  exact (b2.ad aI b3 b4).ad aP b5 b6
 ·rw[he,Y8 a6,show sizes[j]=z from (x6.1 aN).2,xp];cases W:aU 0 (z-1) X with
  |none=>rfl
  |some q=>
   rw[a7 q W];rfl
def dh (s:aA):Prop:=s.big=false→s.told≤16384
def hG (n:Int) (s:aA):aA:=aY (decide (16384<min (s.told+n) ap)) {s with told:=min (s.told+n) ap}
theorem C4 (n:Int) (s:aA):dh (hG n s):=fun h=>by
 have h:(s.big||decide (16384<min (s.told+n) ap))=false:=h;have:=of_decide_eq_false (U5.1 h).2;show min (s.told+n) ap≤16384;omega
theorem C5 {w:x5} {g gs:Nat} {A B:av} {s:Option aA} {clean:Bool} {n at_:Int} {K:x5→Prop} (h:cN w g gs A B clean s) (ay:∀ t,s=some t→0≤n∧n≤ap∧dh t)
  (ao:∀ w',aj (bt g gs A) w w'→cN w' g gs A B clean (s.map (hG n))→K w'):
  I y0 (am (.pointer (some ⟨g,0,none⟩))) w fun aB=>
  I y0 (x2 bi aB 2) w fun aC=>
  I y0 (x1 ae aC) w fun aD=>
  I y0 (U .add ae false false aD (.int .i64 n)) w fun aE=>
  I y0 (u7.min_ #[ae,ae] ae #[aE,(.int .i64 4611686018427387904)]) w fun aF=>
  I y0 (am (.pointer (some ⟨g,0,none⟩))) w fun aG=>
  I y0 (x2 bi aG 2) w fun aH=>
  aa y0 (x8 ae aH aF) w fun(_:Unit) X=>
  I y0 (am (.pointer (some ⟨g,0,none⟩))) X fun t77=>
  I y0 (x2 bi t77 2) X fun aI=>
  I y0 (x1 ae aI) X fun aJ=>
  I y0 (U .gtr ae false true aJ (.int .i64 16384)) X fun aL=>
  O y0 fx [.pointer (some ⟨g,0,none⟩),aL,.int .i64 at_] X fun _ aM=>K aM:=by
 cases s with
 |none=>
  obtain⟨V,e,big,Z,ab,told,sv,l,Y,ac,ag⟩:=id h;rw[az,ah bi.p rfl,ai (by kernel_rfl) (Y.cell (o:=0+5) rfl),aK,kb,az,ah bi.p rfl];refine bE (g:=g) (o:=5) ae.i rfl rfl Y (by simp[eH]) fun af E aN J=>?_;rw[az,ah bi.p rfl,ai (by kernel_rfl) (J.cell (o:=0+5) rfl),bV];have aq:dH af g gs A B:=⟨V.ad E,e,big,Z,ab,_,sv,l,J,ac,ax.ad ag E fun r _ h al=>rg h V.2.1 al⟩;refine (wI aq).mono ?_;rintro _ aO _ au;exact ao _ ((E.mono fun r _ h=>.inl h).trans (au.ad _)) (aq.ext au)
 |some s=>
  obtain⟨aV,aP,hi⟩:=ay s rfl;obtain⟨V,aQ,aR,big,Z,ab,told,sv,Y,ac,ag⟩:=id h;rw[az,ah bi.p rfl,ai (by kernel_rfl) (Y.cell (o:=0+5) rfl),aK,kb,az,ah bi.p rfl];refine bE (g:=g) (o:=5) ae.i rfl rfl Y (by simp[eH]) fun af E aN J=>?_;have J:ak af g bi (eH gs 0 big Z ab (min (Y9.wrap (told+n)) 4611686018427387904) sv):=J;rw[az,ah bi.p rfl,ai (by kernel_rfl) (J.cell (o:=0+5) rfl),bV];have key:s.big=false→min (Y9.wrap (told+n)) 4611686018427387904=min (s.told+n) ap:=fun W=>by
   rw[ac.2 W];have:=hi W;unfold ap at aP ⊢;rw[wrap_i64 (by omega) (by omega)]
  have aS:cH af g gs A B {s with told:=min (s.told+n) ap} clean:=⟨V.ad E,aQ.ad E (fun he=>V.1 he.symm) (fun r aT he=>aT.1 (.inl he)),⟨by show 0≤min _ _;unfold ap;omega,by show min _ _≤_;omega,aR.2.2⟩,big,Z,ab,_,sv,J,⟨ac.1,key⟩,ax.ad ag E fun r _ h al=>rg h V.2.1 al⟩;refine (rj aS).mono ?_;rintro _ aO _ ⟨aU,aw⟩;refine ao _ ((E.trans aU).mono fun r _ h=>.inl h) ?_;have e:aY (decide (16384<min (Y9.wrap (told+n)) 4611686018427387904)) {s with told:=min (s.told+n) ap}=hG n s:=by
   cases W:s.big with
   |false=>rw[key W,←W];rfl
   |true=>simp[hG,aY,W]
  rw[e] at aw;exact aw
def gG (sizes:List Int) (s:Option aA):Option (List (List Int×Int)×aA):=s.bind (dg sizes)
def iV (w:x5) (m:Nat) (acc:List (List Int×Int)):Prop:=cw w m (acc.map fun p=>(bu (dp p.1),.int .i64 1))
def ij (w:x5) (m:Nat):Prop:=∃ d,cw w m d∧ ∀ p∈d,∃ (k:ByteArray) (c:Int),p=(.string k,.int .i64 c)
theorem iV.any {w:x5} {m:Nat} {acc:List (List Int×Int)} (h:iV w m acc):ij w m:=⟨_,h,fun p E=>by
 obtain⟨q,_,rfl⟩:=l9.1 E;exact⟨_,_,rfl⟩⟩
theorem C6 {w:x5} {m:Nat} {k:ByteArray} {K:x4→Prop} (h:ij w m) (U:∀ c:Int,K (.int .i64 c)):I y0 (V3 eD (.map (some m)) (.string k) false) w K:=by
 obtain⟨d,hm,V⟩:=h;have W:=Keys.str a1.u;have X:∀ p∈d,∃ s,p.1=x4.string s:=fun p E=>by obtain⟨s,c,rfl⟩:=V p E;exact⟨s,rfl⟩
 by_cases he:∃ p∈d,p.1=x4.string k
 ·obtain⟨p,E,O⟩:=he;obtain⟨j,Y⟩:=Y5.1 E;obtain⟨s,c,rfl⟩:=V p E;have O:x4.string s=x4.string k:=O;rw[O] at Y;rw[pK eD.u W hm X ⟨k,rfl⟩ Y];exact U c
 ·have Z:∀ p∈d,p.1≠x4.string k:=fun p E h=>he ⟨p,E,h⟩;rw[rp eD.u W ⟨_,_,J.i⟩ hm X ⟨k,rfl⟩ Z];exact U 0
theorem C7 {w:x5} {m:Nat} {k:ByteArray} {c:Int} {K:Unit→x5→Prop} (h:ij w m) (U:∀ w',aj (fun r=>r=m) w w'→ij w' m→K () w'):aa y0 (Instr.mapUpdate eD (.map (some m)) (.string k) (.int .i64 c)) w K:=by
 obtain⟨d,hm,I⟩:=h;have V:∀ p∈d,∃ s,p.1=x4.string s:=fun p E=>by obtain⟨s,c,rfl⟩:=I p E;exact⟨s,rfl⟩
 refine pL eD.u (Keys.str a1.u) hm V ⟨k,rfl⟩ (fun j v0 w' W J O=>U w' O ⟨_,J,fun p E=>?_⟩) (fun w' X J O=>U w' O ⟨_,J,fun p E=>?_⟩)
 ·rcases V1 E with E|rfl
  ·exact I p E
  ·exact⟨_,_,rfl⟩
 ·rcases n0.1 E with E|E
  ·exact I p E
  ·rw[o9.1 E];exact⟨_,_,rfl⟩
theorem xr {a b:List Int} (E:∀ x∈a,0≤x) (I:∀ x∈b,0≤x) (h:bu (dp a)=bu (dp b)):a=b:=by
 have h:strOfNums (dp a)=strOfNums (dp b):=x4.string.inj h;exact vV E I (str_inj (vW a) (vW b) h)
theorem tx {acc:List (List Int×Int)}:∀ p∈acc.map fun p=>(bu (dp p.1),X4 .i64 1),∃ s,p.1=x4.string s:=fun p E=>by
 obtain⟨q,_,rfl⟩:=l9.1 E;exact⟨_,rfl⟩
theorem xt {w:x5} {m:Nat} {acc:List (List Int×Int)} {t:List Int} {K:x4→Prop} (h:iV w m acc) (V:∀ p∈acc,∀ x∈p.1,0≤x) (W:∀ x∈t,0≤x):
  I y0 (V3 eD (.map (some m)) (bu (dp t)) false) w K=K (.int .i64 (if t∈acc.map (·.1) then 1 else 0)):=by
 have O:=Keys.str a1.u;by_cases he:t∈acc.map (·.1)
 ·rw[if_pos he];obtain⟨p,E,rfl⟩:=l9.1 he;obtain⟨j,X⟩:=Y5.1 E;rw[pK eD.u O h tx ⟨_,rfl⟩ (j:=j) (v:=.int .i64 1) (by rw[r8,X];rfl)];simp
 ·rw[if_neg he];rw[rp eD.u O ⟨_,_,J.i⟩ h tx ⟨_,rfl⟩ (fun p E Y=>?_)]
  ·simp
  ·obtain⟨q,U,rfl⟩:=l9.1 E;have:=xr (V q U) W Y;exact he (l9.2 ⟨q,U,this⟩)
theorem C8 {w:x5} {m:Nat} {acc:List (List Int×Int)} {t:List Int} {c:Int} {K:Unit→x5→Prop} (h:iV w m acc) (V:∀ p∈acc,∀ x∈p.1,0≤x) (W:∀ x∈t,0≤x) (X:t∉acc.map (·.1))
  (Y:∀ w',aj (fun r=>r=m) w w'→iV w' m (acc++[(t,c)])→K () w'):aa y0 (Instr.mapUpdate eD (.map (some m)) (bu (dp t)) (.int .i64 1)) w K:=by
 refine pL eD.u (Keys.str a1.u) h tx ⟨_,rfl⟩ (fun j v0 w' I J O=>?_) (fun w' _ J O=>Y w' O ?_)
 ·rw[r8] at I;obtain⟨q,U,E⟩:=Z3.1 I;have E:bu (dp q.1)=bu (dp t):=congrArg Prod.fst E;have:=xr (V q (u4 U)) W E;exact absurd (l9.2 ⟨q,u4 U,this⟩) X
 ·unfold iV;rw[j4];exact J
theorem C9 {w:x5} {m:Nat} {acc:List (List Int×Int)} {t:List Int} {c:Int} {ok:Prop} {K:Unit→x5→Prop} (V:ij w m) (ac:ok→iV w m acc∧(∀ p∈acc,∀ x∈p.1,0≤x)∧(∀ x∈t,0≤x)∧t∉acc.map (·.1))
  (W:∀ w',aj (fun r=>r=m) w w'→ij w' m→(ok→iV w' m (acc++[(t,c)]))→K () w'):
  I y0 (V3 eD (.map (some m)) (bu (dp t)) false) w fun ad=>
  I y0 (U .add J false true ad (.int .i64 1)) w fun ae=>
  aa y0 (Instr.mapUpdate eD (.map (some m)) (bu (dp t)) ae) w K:=by
 by_cases X:ok
 ·obtain⟨h1,Y,Z,ab⟩:=ac X;rw[xt h1 Y Z,if_neg ab,aK,wrap_i64 (by omega) (by omega)];exact C8 (c:=c) h1 Y Z ab fun w' O E=>W w' O E.any fun _=>E
 ·refine C6 V fun af=>?_;rw[aK];exact C7 V fun w' O E=>W w' O E fun h=>absurd h X
def ew {α:Type} (f:List α→aA→Option (α×aA)) (n:Nat) (acc:List α) (o:Option aA):Option (List α×aA):=o.bind (ck f n acc)
theorem ij.ad {S:Nat→Prop} {w w':x5} {m:Nat} (h:ij w m) (E:aj S w w') (I:¬S m):ij w' m:=by
 obtain⟨d,h1,J⟩:=h;exact⟨d,h1.ad E I,J⟩
theorem cN.words {w:x5} {g gs:Nat} {A:av} {B:av} {clean:Bool} {s:aA} (h:cN w g gs A B clean (some s)):s.toks.length≤100000:=by
 have h:cH w g gs A B s clean:=h;exact h.2.1.words.1
theorem xu {sizes:List Int} {acc:List (List Int×Int)} {st:aA} {t:List Int} {c:Int} (J:∀ q,ea sizes [] (some st)=some q→t=q.1) (E:∀ q,aU 0 ap ((ea sizes [] (some st)).map (·.2))=some q→c=q.1):
  (aU 0 ap ((ea sizes [] (some st)).map (·.2))=none→df sizes acc st=none)∧ ∀ q,aU 0 ap ((ea sizes [] (some st)).map (·.2))=some q→df sizes acc st=if t∈acc.map (·.1) then none else some ((t,c),q.2):=by
 have e:ea sizes [] (some st)=gA sizes [] st:=rfl;rw[e] at J E ⊢;unfold df;cases h1:gA sizes [] st with
 |none=>exact⟨fun _=>rfl,fun q I=>(by cases I)⟩
 |some q=>
  obtain⟨W,O⟩:=q;rw[h1] at J E;have:=J _ rfl;subst this;have U:aU 0 ap ((some (t,O)).map (·.2))=a7 0 ap O:=rfl;rw[U] at E ⊢;simp only;cases V:a7 0 ap O with
  |none=>exact⟨fun _=>rfl,fun q I=>(by cases I)⟩
  |some q=>
   obtain⟨X,Y⟩:=q;rw[V] at E;have:=E _ rfl;subst this;exact⟨fun h=>(by cases h),fun q I=>(by cases I;rfl)⟩
set_option maxHeartbeats 8000000 in
theorem Da {w:x5} {g gs N:Nat} {A B:av} {s:Option aA} {clean:Bool} {sv:x4} {sizes:List Int} {Q:x4→x5→Prop}
  (h:cN w g gs A B clean s) (ca:aH .i64 w sv sizes) (bi:∀ r,leads sv r→¬bt g gs A r∧r<w.heap.size) (cb:∀ z∈sizes,1≤z∧z≤ap) (cc:sizes.length≤100001) (ce:eI w) (h1:cd g gs A B 1) (cg:(N:Int)≤ap)
  (bJ:∀ v w' l,eP w g gs A B clean ((ew (df sizes) N [] s).map (·.2)) w'→dv (dS w.heap.size) br w' [v] (show List (List Int×Int) from l)→(∀ q,ew (df sizes) N [] s=some q→l=q.1)→Q v w'):
  aa y0 (Instr.makeMap eD none) w fun bj W=>
 a8 (.slice none 0 0) (.int .i64 0) W fun out i ac k=>
  aB (α:=x4→x5→Prop) (fun(ch:x4) (aE:x5)=>
   Split ch (aa y0 (n9 cB true (.tuple #[])) aE fun x V=>
  I y0 (u6 #[af] J #[sv]) V fun ci=>
  a8 (.string ⟨#[]⟩) (.int .i64 0) V fun key bk aF cj=>
   I y0 (U .lss J false false bk ci) aF fun ck=>
   Split ck (I y0 (x7 af sv bk) aF fun cl=>
   I y0 (x1 ae cl) aF fun cm=>
   I y0 (U .sub ae false true cm (.int .i64 1)) aF fun cn=>
   O y0 eB [.pointer (some ⟨g,0,none⟩),(.int .i64 0),cn] aF fun bK aM=>
   I y0 (u5 bK 0) aM fun bL=>
   I y0 (u5 bK 1) aM fun dI=>
   I y0 (x2 cB x 0) aM fun cp=>
   I y0 (x1 af cp) aM fun cq=>
   aa y0 (u9 af 1 #[(0,bL)]) aM fun cr ai=>
   aa y0 (r9 #[af,af] af #[cq,cr]) ai fun ct bN=>
   I y0 (x2 cB x 0) bN fun cu=>
   aa y0 (x8 af cu ct) bN fun(_:Unit) cz=>
   O y0 k0 [bL] cz fun cA a2=>
   I y0 (U .add a1 false true cA (.string ⟨#[32]⟩)) a2 fun cC=>
   I y0 (U .add a1 false false key cC) a2 fun cD=>
   I y0 (U .add J false true bk (.int .i64 1)) a2 fun cE=>
   cj cD cE a2)
    (O y0 eB [.pointer (some ⟨g,0,none⟩),(.int .i64 0),(.int .i64 4611686018427387904)] aF fun bQ a6=>
  I y0 (u5 bQ 0) a6 fun cF=>
  I y0 (u5 bQ 1) a6 fun cG=>
  I y0 (x2 cB x 1) a6 fun cH=>
  aa y0 (x8 ae cH cF) a6 fun(_:Unit) cI=>
  aB (α:=x5→Prop) (fun(aG:x5)=>
   I y0 (V3 eD bj key false) aG fun cJ=>
   I y0 (U .add J false true cJ (.int .i64 1)) aG fun cK=>
   aa y0 (Instr.mapUpdate eD bj key cK) aG fun(_:Unit) aN=>
   I y0 (x1 cB x) aN fun cL=>
   aa y0 (u9 ef 1 #[(0,cL)]) aN fun cM aV=>
   aa y0 (r9 #[ef,ef] ef #[out,cM]) aV fun cO a7=>
   I y0 (U .add ae false true i (.int .i64 1)) a7 fun cP=>
  k cO cP a7) fun bR=>
  aB (α:=x4→x5→Prop) (fun(cQ:x4) (aw:x5)=>
   Split cQ (O y0 fk [.pointer (some ⟨g,0,none⟩),(.int .i64 4),cG] aw fun dJ bS=>
    bR bS)
    (bR aw)) fun bT=>
  O y0 ed [.pointer (some ⟨g,0,none⟩)] cI fun cR aP=>
  Split cR (I y0 (V3 eD bj key false) aP fun cS=>
  I y0 (U .gtr J false true cS (.int .i64 0)) aP fun cT=>
  bT cT aP)
   (bT (.bool false) aP)))
    (Q out aE)) fun bU=>
  I y0 (U .lss ae false false i (.int .i64 (N:Int))) ac fun cU=>
  Split cU (O y0 ed [.pointer (some ⟨g,0,none⟩)] ac fun cV cW=>
  bU cV cW)
   (bU (.bool false) ac):=by
 obtain⟨dK,dL,dM,cX,ba⟩:=h.side;have ay:∀ r,bt g gs A r→r<w.heap.size:=cX;unfold ap at cg;refine rn fun X W dN bl bm=>?_;have dO:=bl.size;have dP:=bm.lt;generalize Z:ew (df sizes) N [] s=bW at bJ;refine⟨fun out bn ac=>∃ (i:Nat) (acc:List (List Int×Int)) (so:Option aA),bn= .int .i64 (i:Int)∧i≤N∧aj (bt g gs A) w ac∧W.heap.size≤ac.heap.size∧dv (dS W.heap.size) br ac [out] acc∧cN ac g gs A B clean so∧
   bW=ew (df sizes) (N-i) acc so∧ij ac X∧acc.length≤100001∧ ∀ st,so=some st→iV ac X acc∧(∀ p∈acc,∀ x∈p.1,0≤x)∧acc.length+st.toks.length≤100000,
  fun _ bn _=>N-(bM bn).toNat,⟨0,[],s,rfl,Z9 _,bl.ad _,o7 _,h8,h.ext bl,Z.symm,⟨[],bm,fun p ao=>(by cases ao)⟩,by simp,fun st cY=>⟨bm,fun p ao=>(by cases ao),?_⟩⟩,?_⟩
 ·subst cY;have:=h.words;simpa using this
 rintro out _ ac ⟨i,acc,so,rfl,dQ,bX,z9,bY,bo,bb,cZ,dR,bp⟩;refine aZ (fun v aE=>Ext ac aE∧((v= .bool true∧i<N∧ ∃ st,so=some st)∨(v= .bool false∧(so=none∨i=N)))) ?_ ?_
 rotate_left
 ·intro dT bq;rw[au,ag];refine⟨fun c1=>?_,fun dU=>bq _ _ ⟨Ext.refl _,.inr ⟨rfl,.inr (by omega)⟩⟩⟩;refine (ni bo).mono ?_;rintro _ aE _ ⟨rfl,az⟩;cases so with
  |none=>exact bq _ _ ⟨az,.inr ⟨rfl,.inl rfl⟩⟩
  |some st=>exact bq _ _ ⟨az,.inl ⟨rfl,by omega,st,rfl⟩⟩
 rintro _ aE ⟨az,c2⟩;rcases c2 with⟨rfl,c1,st,rfl⟩|⟨rfl,c3⟩
 rotate_left
 ·rw[aT];have bZ:bW=so.map fun st=>(acc,st):=by
   rcases c3 with rfl|rfl
   ·exact bb
   ·rw[W3] at bb;rw[bb];cases so <;> rfl
  refine bJ out aE acc (eP.mk (bX.trans (az.ad _)) ?_) (c0 (ax.mono bY (fun r _ h=>by have h:W.heap.size≤r:=h;show w.heap.size≤r;omega) fun _ _ h=>h) az) (fun q al=>?_)
  ·rw[bZ,Option.map_map];have e:X9 ((fun x=>x.2)∘fun st=>(acc,st)) so=so:=by cases so <;> rfl
   rw[e];exact bo.ext az
  ·rw[bZ] at al;cases so with
   |none=>cases al
   |some st=>cases al;rfl
 rw[bP];obtain⟨bp,bu,dV⟩:=bp st rfl;have dW:=az.size;refine bO cB.i fun Y V dX b1 b2=>?_;have aW:=az.trans b1;have bw:aj (bt g gs A) w V:=bX.trans (aW.ad _);have b3:aH .i64 V sv sizes:=hB ca bw fun r E a n c c4 c5=>(bi r ⟨a,n,c,c4,c5⟩).1 E;rw[aO af.u b3];have bc:¬bt g gs A Y:=fun Z=>by have:=ay _ Z;omega
 refine C3 (s:=some st) (bo.ext aW) b3 (fun r E=>⟨(bi r E).1,by have:=(bi r E).2;omega⟩) cb cc (ce.ad bw h1.1) h1 b2 bc (fun c6=>by have:=ba _ c6;omega) fun t aF aI bd dY c7 b4 c8 c9 da db dc=>?_;have dZ:=b1.size;have z12:=b4.size;have eb:=b2.lt;have bx:∀ x∈t,0≤x:=fun x dd=>(c7 x dd).1;refine (jz db).mono ?_;rintro _ aM _ ⟨bz,c,de,rfl,dg,ec⟩;obtain⟨be,dh⟩:=bz.of;have ee:=be.size;rw[aC (v:=.int .i64 c) rfl,aC (v:=.int .i64 de) rfl,ah cB.p rfl];refine bE (g:=Y) (o:=1) ae.i rfl rfl (c8.ad be bc) (by simp) fun ai bf eg bA=>?_;have bA:ak ai Y cB [aI,.int .i64 c]:=bA;have di:aq .i64 ae ai bd aI t:=(c9.ad be (fun _ Z=>by have:=ay _ Z;omega)).ad bf (fun _ he=>by have he:bd=Y:=he;omega);have bB:aj (fun r=>bt g gs A r∨r=Y) V ai:=(b4.trans (be.mono fun r _ h=>.inl h)).trans (bf.mono fun r _ h=>.inr h);have aJ:cN ai g gs A B clean ((aU 0 ap ((ea sizes [] (some st)).map (·.2))).map (·.2)):=dh.ad bf (fun r E he=>by have he:r=Y:=he;exact bc (he▸E)) (fun r E he=>by have:=ba r E.2;have he:r=Y:=he;omega);have b5:¬(fun r=>bt g gs A r∨r=Y) X:=fun h=>h.elim (fun h=>by have:=ay _ h;omega) (fun h=>by omega);have dj:ij ai X:=(cZ.ad (aW.ad (fun _=>False)) (fun h=>h)).ad bB b5;have b6:iV ai X acc:=(cw.ext bp aW).ad bB b5;obtain⟨bC,bD⟩:=xu (acc:=acc) dc dg;refine dF (fun aG=>aj (bt g gs A) ai aG∧cN aG g gs A B clean ((df sizes acc st).map (·.2))) ?_ ?_
 ·rintro aG ⟨aQ,dk⟩;have bF:¬bt g gs A X:=fun h=>by have:=ay _ h;omega
  have eh:=bf.size;have ei:=aQ.size;refine C9 (acc:=acc) (t:=t) (c:=c) (ok:=∃ q,df sizes acc st=some q) (dj.ad aQ bF) (fun⟨q,al⟩=>⟨cw.ad b6 aQ bF,bu,bx,fun aD=>?_⟩) fun aN aX dl dm=>?_
  ·cases am:aU 0 ap ((ea sizes [] (some st)).map (·.2)) with
   |none=>rw[bC am] at al;cases al
   |some aR=>rw[bD aR am,if_pos aD] at al;cases al
  have ej:=aX.size;have dn:ak aN Y cB [aI,.int .i64 c]:=(bA.ad aQ bc).ad aX (fun he=>by have he:Y=X:=he;omega);have dp:aq .i64 ae aN bd aI t:=(di.ad aQ (fun _ Z=>by have:=ay _ Z;omega)).ad aX (fun _ he=>by have he:bd=X:=he;omega);rw[bI cB.p cB.i rfl dn.range];have b7:dv (dS V.heap.size) br aN [aI,.int .i64 c] (t,c):=⟨[aI],[.int .i64 c],dS V.heap.size,br,rfl,fun _ h=>h,fun _ h=>h.elim,fun _ _ _ h=>h,ax.mono (mT dp) (fun r _ h=>by subst h;exact da) (fun _ _ h=>h),rfl⟩;refine lm (α:=List Int×Int) (a:=(t,c)) (cs:=[aI,.int .i64 c]) (A:=dS V.heap.size) (R:=br) ef.u cB.i (by decide) rfl b7 fun u aV aS _ dq=>?_;have z22:=aS.size;have dr:dv (fun r=>dS W.heap.size r∧r<V.heap.size∧r≠Y) br V [out] acc:=c0 (ax.mono (ke bY) (fun r _ h=>⟨h.1,by have:=h.2;omega,by have:=h.2;omega⟩) fun _ _ h=>h) aW;have b8:aj (fun r=>bt g gs A r∨r=Y∨r=X) V aV:=(((bB.mono fun r _ h=>h.elim .inl fun h=>.inr (.inl h)).trans (aQ.mono fun r _ h=>.inl h)).trans (aX.mono fun r _ h=>.inr (.inr h))).trans (aS.ad _);have ds:=ax.ad dr b8 fun r E h Z=>by
   rcases h with h|h
   ·have bg:W.heap.size≤r:=h.1;rcases Z with Z|Z|Z
    ·have:=ay _ Z;omega
    ·exact h.2.2 Z
    ·omega
   ·exact h
  refine mS (α:=List Int×Int) (a:=(t,c)) (A:=dS V.heap.size) ef.u cB.i rfl ds dq (c0 b7 aS) (fun r _ h h'=>?_) (by omega) (by omega) fun ek a7 dt aY=>?_
  ·rcases h' with h'|h'
   ·have:=h.2;have:V.heap.size≤r:=h';omega
   ·exact h'
  have em:=aY.size;rw[aK,wrap_i64 (by omega) (by omega)];have du:aj (bt g gs A) w aV:=fB bw b8 fun r E h=>by
   rcases h with h|h|h
   ·exact h
   ·omega
   ·omega
  have dw:aj (bt g gs A) w a7:=fB du aY fun r E h=>by have bg:W.heap.size≤r:=h.1;omega
  have dx:cN aV g gs A B clean ((df sizes acc st).map (·.2)):=(dk.ad aX (fun r E he=>by have he:r=X:=he;exact bF (he▸E)) (fun r E he=>by have:=ba r E.2;have he:r=X:=he;omega)).ext aS;have dy:∀ r,bt g gs A r→¬(dS W.heap.size r∧r<V.heap.size∧r≠Y):=fun r E he=>by have:=ay _ E;have bg:W.heap.size≤r:=he.1;omega
  have dz:∀ r,cd g gs A B r→¬(dS W.heap.size r∧r<V.heap.size∧r≠Y):=fun r E he=>by have:=ba r E.2;have bg:W.heap.size≤r:=he.1;omega
  have b9:¬(dS W.heap.size X∧X<V.heap.size∧X≠Y):=fun he=>by have bg:W.heap.size≤X:=he.1;omega
  refine⟨⟨i+1,acc++[(t,c)],(df sizes acc st).map (·.2),rfl,by omega,dw,by omega,?_,dx.ad aY dy dz,?_,(dl.ad (aS.ad (fun _=>False)) (fun h=>h)).ad aY b9,by simp;omega,fun dA dB=>?_⟩,by simp only[bM];omega⟩
  ·refine ax.mono dt (fun r _ h=>?_) fun _ _ h=>h;show W.heap.size≤r;rcases h with h|h|h
   ·exact h.1
   ·have h:V.heap.size≤r:=h;omega
   ·omega
  ·rw[bb,show N-i=(N-(i+1))+1 by omega];cases ab:df sizes acc st with
   |none=>exact nb ab
   |some q=>
    obtain⟨a,dA⟩:=q;have dC:a=(t,c):=by
     cases am:aU 0 ap ((ea sizes [] (some st)).map (·.2)) with
     |none=>rw[bC am] at ab;cases ab
     |some aR=>
      rw[bD aR am] at ab;split at ab
      ·cases ab
      ·cases ab;rfl
    subst dC;exact rl ab
  ·obtain⟨q,al,rfl⟩:=Z3.1 dB;have en:=(m8 al).2.2.2.1;refine⟨cw.ad ((cw.ext (dm ⟨q,al⟩) aS)) aY b9,fun p ao=>?_,by simp only[o5,T0];omega⟩;rcases n0.1 ao with ao|ao
   ·exact bu p ao
   ·rw[o9.1 ao];exact bx
 ·intro eo bG;cases am:aU 0 ap ((ea sizes [] (some st)).map (·.2)) with
  |none=>
   rw[am] at aJ;have ab:=bC am;refine aZ (fun v aw=>Ext ai aw∧v= .bool false) ?_ ?_
   ·rintro _ aw ⟨aL,rfl⟩;rw[aT];exact bG _ ⟨aL.ad _,by rw[ab];exact aJ.ext aL⟩
   ·intro dD bH;refine (ni aJ).mono ?_;rintro _ aP _ ⟨rfl,bh⟩;rw[show ((none:Option (Int×aA)).map (·.2)).isSome=false from rfl,aT];exact bH _ _ ⟨bh,rfl⟩
  |some aR=>
   rw[am] at aJ;have ab:=bD aR am;refine aZ (fun v aw=>Ext ai aw∧v= .bool (decide (t∈acc.map (·.1)))) ?_ ?_
   ·rintro _ aw ⟨aL,rfl⟩;rw[ag];refine⟨fun aD=>?_,fun dE=>?_⟩
    ·refine (C2 (aJ.ext aL) (by omega)).mono ?_;rintro _ bS _ bz;obtain⟨dG,dH⟩:=bz.of;exact bG _ ⟨(aL.ad _).trans dG,by rw[ab,if_pos aD];exact dH⟩
    ·exact bG _ ⟨aL.ad _,by rw[ab,if_neg dE];exact aJ.ext aL⟩
   ·intro dD bH;refine (ni aJ).mono ?_;rintro _ aP _ ⟨rfl,bh⟩;rw[show ((some aR:Option (Int×aA)).map (·.2)).isSome=true from rfl,bP,xt (cw.ext b6 bh) bu bx,bV];refine bH _ _ ⟨bh,?_⟩;congr 1;by_cases aD:t∈acc.map (·.1)
    ·rw[if_pos aD,decide_eq_true aD];rfl
    ·rw[if_neg aD,decide_eq_false aD];rfl
theorem xv (sizes:List Int) (s:Option aA):gG sizes s=match aU (-ap) ap s with
 |none=>none
 |some (n,s)=>
  if n<0 then match s.shared[(-n-1).toNat]? with
   |none=>none
   |some (z,l)=>if z=sizes then some (l,s) else none
  else ck (df sizes) n.toNat [] (hG n s):=by
 cases s with
 |none=>rfl
 |some s=>
  show dg sizes s=_;unfold dg;show _=match a7 (-ap) ap s with
   |none=>none
   |some (n,s)=>
    if n<0 then match s.shared[(-n-1).toNat]? with
     |none=>none
     |some (z,l)=>if z=sizes then some (l,s) else none
    else ck (df sizes) n.toNat [] (hG n s)
  cases a7 (-ap) ap s <;> rfl
theorem xw {m:Bool} {S R:av} {w:x5} {cs:List x4} {a:gE} (h:ax.rep (α:=gE) m S R w cs a):∃ u v,cs=[u,v]∧ax.rep (α:=List Int) false br R w [u] a.1∧ax.rep (α:=List (List Int×Int)) false br R w [v] a.2:=by
 obtain⟨c,d,I,J,rfl,_,_,_,h1,E⟩:=h;have h1:ax.rep (α:=List Int) false br R w c a.1:=h1;have E:ax.rep (α:=List (List Int×Int)) false br R w d a.2:=E;obtain⟨u,rfl⟩:=V6.1 (show c.length=1 from ax.len h1);obtain⟨v,rfl⟩:=V6.1 (show d.length=1 from ax.len E);exact⟨u,v,rfl,h1,E⟩
set_option maxHeartbeats 4000000 in
theorem Db {w:x5} {g gs:Nat} {A B:av} {s:Option aA} {clean:Bool} {sv:x4} {sizes:List Int}
  (h:cN w g gs A B clean s) (hi:∀ t,s=some t→dh t) (aR:aH .i64 w sv sizes) (ac:∀ r,leads sv r→¬bt g gs A r∧r<w.heap.size) (aS:∀ z∈sizes,1≤z∧z≤ap) (aV:sizes.length≤100001) (aW:eI w) (h1:cd g gs A B 1):
  O y0 ou [.pointer (some ⟨g,0,none⟩),sv] w fun v w'=>eP w g gs A B clean ((gG sizes s).map (·.2)) w'∧ ∃ l,Seen (fun r=>cd g gs A B r∨w.heap.size≤r) w' [v] (show List (List Int×Int) from l)∧ ∀ q,gG sizes s=some q→l=q.1:=by
 have aX:=h.side;obtain⟨bw,bx,bz,aY,bA⟩:=id aX;have ay:∀ r,bt g gs A r→r<w.heap.size:=aY;apply ou.enter;refine (jz (lo:=-ap) (hi:=ap) h).mono ?_;rintro _ ao _ ⟨a1,n,at_,rfl,aq,a2⟩;obtain⟨ae,aJ⟩:=a1.of;have bB:=ae.size;have I:=xv sizes s;rw[aC (v:=.int .i64 n) rfl,aC (v:=.int .i64 at_) rfl];have aK:aH .i64 ao sv sizes:=hB aR ae fun r W a n c af aw=>(ac r ⟨a,n,c,af,aw⟩).1 W;have bC:∀ r,leads sv r→¬bt g gs A r∧r<ao.heap.size:=fun r W=>⟨(ac r W).1,by have:=(ac r W).2;omega⟩;have rest:∀ V,Ext ao V→(∀ q,aU (-ap) ap s=some q→¬n<0)→ ∀ N:Nat,n=(N:Int)→(N:Int)≤ap→ ∀ U,aj (bt g gs A) V U→cN U g gs A B clean (((aU (-ap) ap s).map (·.2)).map (hG n))→
   ∀ v w' l,eP U g gs A B clean ((ew (df sizes) N [] (((aU (-ap) ap s).map (·.2)).map (hG n))).map (·.2)) w'→dv (dS U.heap.size) br w' [v] (show List (List Int×Int) from l)→(∀ q,ew (df sizes) N [] (((aU (-ap) ap s).map (·.2)).map (hG n))=some q→l=q.1)→
   eP w g gs A B clean ((gG sizes s).map (·.2)) w'∧ ∃ l,Seen (fun r=>cd g gs A B r∨w.heap.size≤r) w' [v] (show List (List Int×Int) from l)∧ ∀ q,gG sizes s=some q→l=q.1:=by
  intro V J ak N ax aB U Y aD v w' l a6 a7 a8;obtain⟨ba,bb⟩:=a6.of;have bc:=J.size;have z3:=Y.size;have e:gG sizes s=ew (df sizes) N [] (((aU (-ap) ap s).map (·.2)).map (hG n)):=by
   rw[I];cases E:aU (-ap) ap s with
   |none=>rfl
   |some q=>
    obtain⟨bd,Z⟩:=q;have:=aq _ E;subst this;simp only;rw[if_neg (ak _ E),ax,c9];rfl
  rw[e];refine⟨eP.mk (((ae.trans (J.ad _)).trans Y).trans ba) bb,l,qT a7 fun r _ h=>?_,a8⟩;rcases h with h|h
  ·have h:U.heap.size≤r:=h;exact .inr (by omega)
  ·exact h.elim
 refine aZ (fun v V=>Ext ao V∧v= .bool (decide (n<0∧(aU (-ap) ap s).isSome=true))) ?_ ?_
 rotate_left
 ·intro be am;refine (ni aJ).mono ?_;rintro _ V _ ⟨rfl,J⟩;cases E:aU (-ap) ap s with
  |none=>
   rw[show ((none:Option (Int×aA)).map (·.2)).isSome=false from rfl,aT];exact am _ _ ⟨J,by rw[decide_eq_false];rintro⟨_,h⟩;rw[E] at h;cases h⟩
  |some q=>
   rw[show ((some q:Option (Int×aA)).map (·.2)).isSome=true from rfl,bP,au];exact am _ _ ⟨J,by congr 1;rw[X8,decide_eq_true_eq,decide_eq_true_eq,E];exact⟨fun h=>⟨h,rfl⟩,fun h=>h.1⟩⟩
 rintro _ V ⟨J,rfl⟩;have aa:=aJ.ext J;have bc:=J.size;rw[ag];refine⟨fun ak=>?_,fun bf=>?_⟩
 rotate_left
 ·have ak:∀ q,aU (-ap) ap s=some q→¬n<0:=fun q E h=>bf ⟨h,by rw[E];rfl⟩;obtain⟨N,ax,aB⟩:∃ N:Nat,n=(N:Int)∧(N:Int)≤ap:=by
   cases E:aU (-ap) ap s with
   |none=>rw[a2 E];exact⟨0,rfl,by unfold ap;omega⟩
   |some q=>
    have h1:=ak q E;have bg:=kq (n:=q.1) (s':=q.2) E;have bh:=aq q E;exact⟨n.toNat,by omega,by omega⟩
  refine C5 (at_:=at_) aa (fun t bj=>?_) fun U Y aD=>?_
  ·obtain⟨q,E,rfl⟩:=Z3.1 bj;have bg:=kq (n:=q.1) (s':=q.2) E;have bh:=aq q E;refine⟨by omega,by omega,?_⟩;cases s with
   |none=>cases E
   |some s0=>
    have aL:=(c3 (n:=q.1) (s':=q.2) E).eqs;have aM:=hi s0 rfl;intro aN;rw[aL.1];rw[aL.2.1] at aN;exact aM aN
  ·have z3:=Y.size;have bk:aj (bt g gs A) w U:=(ae.trans (J.ad _)).trans Y;subst ax;refine Da (N:=N) aD ((hB (aK.ext J) Y fun r W a n c af aw=>(ac r ⟨a,n,c,af,aw⟩).1 W)) (fun r W=>⟨(ac r W).1,by have:=(ac r W).2;omega⟩) aS aV (aW.ad bk h1.1) h1 aB fun v w' l a b c=>?_;exact rest V J ak N rfl aB U Y aD v w' l a b c
 ·obtain⟨bl,bm⟩:=ak;obtain⟨⟨bd,Z⟩,E⟩:=Option.isSome_iff_exists.1 bm;have:=aq _ E;subst this;have bD:=kq E;rw[E] at I aa;simp only at I;rw[if_pos bl] at I;have aa:cH V g gs A B Z clean:=aa;obtain⟨_,aM,bE,big,bF,bG,told,bH,aE,bI,aF⟩:=id aa;have bJ:ap=4611686018427387904:=rfl;refine aZ (fun v U=>Ext V U∧v= .bool (decide (gG sizes s=none))) ?_ ?_
  ·rintro _ U ⟨X,rfl⟩;rw[ag];refine⟨fun bn=>?_,fun aO=>?_⟩
   ·refine (ri (aa.ext X) (by omega)).mono ?_;rintro _ bK _ ⟨bo,bp⟩;rw[bn];refine⟨eP.mk (((ae.trans (J.ad _)).trans (X.ad _)).trans (bo.mono fun r _ h=>.inl h)) bp,[],h8,fun q E=>by cases E⟩
   ·cases al:Z.shared[(-n-1).toNat]? with
    |none=>rw[al] at I;exact absurd I aO
    |some q=>
     obtain⟨z,l⟩:=q;rw[al] at I;simp only at I;have bq:z=sizes:=by
      by_cases ab:z=sizes
      ·exact ab
      ·rw[if_neg ab] at I;exact absurd I aO
     rw[if_pos bq] at I;rw[az,ah bi.p rfl,ai (by kernel_rfl) ((aE.ext X).cell (o:=0+6) rfl),ka,wrap_i64 (by omega) (by omega),dD,wrap_i64 (by omega) (by omega)];refine pp (α:=gE) (m:=true) (S:=A) (R:=cd g gs A B) (i:=(-n-1).toNat) (a:=(z,l)) (by omega) dy.u gb.i (c0 aF X) al fun b o cs aG aI=>?_;obtain⟨u,v,rfl,hu,af⟩:=xw aI;rw[ah gb.p rfl,ai (by kernel_rfl) (aG 1 v rfl)];rw[I];refine⟨eP.mk ((ae.trans (J.ad _)).trans (X.ad _)) (aa.ext X),l,qT af fun r _ h=>?_,fun q E=>by cases E;rfl⟩;rcases h with h|h
     ·exact h.elim
     ·exact .inl h
  ·intro be am;rw[ka,wrap_i64 (by omega) (by omega),az,ah bi.p rfl,ai (by kernel_rfl) (aE.cell (o:=0+6) rfl),h9 dy.u aF,bV,ag];refine⟨fun aP=>am _ _ ⟨Ext.refl _,?_⟩,fun aQ=>?_⟩
   ·have aP:(Z.shared.length:Int)<0-n:=aP;rw[Z8 (by omega)] at I;rw[decide_eq_true I]
   ·have aQ:¬(Z.shared.length:Int)<0-n:=aQ;have bu:(-n-1).toNat<Z.shared.length:=by omega
    obtain⟨⟨z,l⟩,al⟩:∃ q,Z.shared[(-n-1).toNat]? =some q:=⟨_,x3 bu⟩;rw[az,ah bi.p rfl,ai (by kernel_rfl) (aE.cell (o:=0+6) rfl),ka,wrap_i64 (by omega) (by omega),dD,wrap_i64 (by omega) (by omega)];refine pp (α:=gE) (m:=true) (S:=A) (R:=cd g gs A B) (i:=(-n-1).toNat) (a:=(z,l)) (by omega) dy.u gb.i aF al fun b o cs aG aI=>?_;obtain⟨u,v,rfl,hu,af⟩:=xw aI;rw[ah gb.p rfl,ai (by kernel_rfl) (aG 0 u rfl)];refine (AM (kh hu) (aK.ext J)).mono ?_;rintro _ U _ ⟨rfl,X⟩;rw[b3];refine am _ _ ⟨X,?_⟩;rw[al] at I;simp only at I;by_cases ab:z=sizes
    ·rw[if_pos ab] at I;rw[decide_eq_true ab,decide_eq_false (by rw[I];simp)];rfl
    ·rw[if_neg ab] at I;rw[decide_eq_false ab,decide_eq_true I];rfl
abbrev nj (n:Nat):av:=fun r=>r<n
def pV (n:Int) (k:Nat) (s:Option aA):Option (List Int×aA):=s.bind (dY n k)
theorem Dc {w:x5} {g gs k:Nat} {A B:av} {s:Option aA} {clean:Bool} {m:Int} (h:cN w g gs A B clean s) (U:k≤4611686018427387904) (hm:0≤m∧m≤1000000):
  O y0 kX [.pointer (some ⟨g,0,none⟩),.int .i64 (k:Int),.int .i64 m] w fun v w'=>eP w g gs A B clean ((pV m k s).map (·.2)) w'∧
   ∃ V l,aq .i64 ae w' V v l∧(∀ r,leads v r→w.heap.size≤r)∧l.length≤100001∧ ∀ q,pV m k s=some q→l=q.1:=by
 cases s with
 |some s=>exact B2 (s:=s) h U hm
 |none=>
  have h:dH w g gs A B:=h;apply kX.enter;refine⟨fun out W X=>w=X∧out= .slice none 0 0∧W= .int .i64 0,fun _ _ _=>0,⟨rfl,rfl,rfl⟩,?_⟩;rintro _ _ _ ⟨rfl,rfl,rfl⟩;refine aZ (fun v I=>Ext w I∧v= .bool false) ?_ ?_
  ·rintro _ I ⟨E,rfl⟩;rw[aT];exact⟨eP.mk (E.ad _) (h.ext E),0,[],aq.nil _ _ _ _,fun r Y=>absurd Y (fun h=>by obtain⟨a,n,c,h,_⟩:=h;cases h),by simp,fun q Z=>by cases Z⟩
  ·intro aa J;rw[au,ag];refine⟨fun _=>?_,fun _=>J _ _ ⟨Ext.refl _,rfl⟩⟩;refine (lx h).mono ?_;rintro _ I _ ⟨rfl,E⟩;exact J _ _ ⟨E,rfl⟩
def rz (z:List Int) (l:List (List Int×Int)) (s:aA):aA:={s with shared:=s.shared++[(z,l)]}
def xx (w:x5) (g gs:Nat):Prop:=∃ (e big E I told:Int) (sv:x4),ak w g bi (eH gs e big E I told sv)∧e≠0
def fp (w:x5) (g gs:Nat) (A:av) (B:av) (clean:Bool) (s:Option aA):Prop:=match s with
 |some s=>cH w g gs A B s clean
 |none=>xx w g gs
theorem cN.q {w:x5} {g gs:Nat} {A:av} {B:av} {clean:Bool} {s:Option aA} (h:cN w g gs A B clean s):fp w g gs A B clean s:=by
 cases s with
 |some s=>exact h
 |none=>
  obtain⟨_,e,big,E,I,told,sv,l,J,O,_⟩:=h;exact⟨e,big,E,I,told,sv,J,O.1⟩
theorem fp.ad {S:Nat→Prop} {w w':x5} {g gs:Nat} {A:av} {B:av} {clean:Bool} {s:Option aA} (h:fp w g gs A B clean s) (E:aj S w w') (J:¬S g) (O:∀ r,bt g gs A r→r<w.heap.size→¬S r) (U:∀ r,cd g gs A B r→¬S r):fp w' g gs A B clean s:=by
 cases s with
 |some s=>
  have h:cH w g gs A B s clean:=h;exact cH.ad h E (fun r I=>O r I (h.1.2.2.2.1 r I)) U
 |none=>
  obtain⟨e,big,V,W,told,sv,X,Y⟩:=h;exact⟨e,big,V,W,told,sv,X.ad E J,Y⟩
theorem fp.ext {w w':x5} {g gs:Nat} {A:av} {B:av} {clean:Bool} {s:Option aA} (h:fp w g gs A B clean s) (E:Ext w w'):fp w' g gs A B clean s:=h.ad (E.ad fun _=>False) (fun h=>h) (fun _ _ _ h=>h) (fun _ _ h=>h)
theorem xy {w:x5} {g gs:Nat} {A:av} {B:av} {s:Option aA} {clean:Bool} (h:fp w g gs A B clean s):O y0 ed [.pointer (some ⟨g,0,none⟩)] w fun v w'=>v= .bool s.isSome∧Ext w w':=by
 cases s with
 |none=>
  obtain⟨e,big,U,V,told,sv,E,I⟩:=h;refine (tg E).mono ?_;rintro _ W _ ⟨rfl,J⟩;exact⟨by rw[decide_eq_false I];rfl,J⟩
 |some s=>exact na h
theorem fC.bw {S:Nat→Prop} {w w':x5} {g:Nat} {R R':Nat→Prop} {toks:List (List Int)} {clean:Bool} (h:fC w g R toks clean) (I:aj S w w') (O:¬S g) (U:∀ r,R r→¬S r) (V:∀ r,R r→R' r):fC w' g R' toks clean:=by
 obtain⟨W,p,a,⟨h1,X,Y,Z,aa,ab⟩,J,ac⟩:=h;exact⟨W,p,a,⟨h1,X,Y,Z.ad I O,aa,bp ab I fun r E=>U r (J r E)⟩,fun r E=>V r (J r E),ac⟩
theorem jA {α:Type} [ax α] {m:Bool} {S R:av} {w:x5} {v:x4} {l:List α} (h:ax.rep m S R w [v] l):∃ a n c,v= .slice a n c:=by
 obtain⟨vs,I,F,J,he,E,hm⟩:=kg h;obtain⟨O,b,o,base,cap,rfl,_⟩:=E;exact⟨_,_,_,rfl⟩
def iW (w:x5) (g gs:Nat) (A:av) (B:av) (R:av) (clean:Bool) (s:Option aA):Prop:=match s with
 |some s=>iS w g gs A B∧fC w gs R s.toks clean∧(0≤s.told∧s.told≤ap∧s.shared.length+s.toks.length≤100000)∧
  ∃ big E I told sv,ak w g bi (eH gs 0 big E I told sv)∧((s.big=true↔big≠0)∧(s.big=false→told=s.told))∧dv A R w [sv] (show List gE from s.shared)
 |none=>xx w g gs
theorem iW.ad {S:Nat→Prop} {w w':x5} {g gs:Nat} {A R:av} {B:av} {clean:Bool} {s:Option aA} (h:iW w g gs A B R clean s) (E:aj S w w') (V:¬S g) (W:∀ r,bt g gs A r→r<w.heap.size→¬S r) (X:∀ r,R r→¬S r):iW w' g gs A B R clean s:=by
 cases s with
 |some s=>
  obtain⟨h1,Y,Z,big,I,J,told,sv,O,U,aa⟩:=h;have ab:=h1.2.2.2.1;exact⟨h1.ad E,Y.ad E (W gs (.inr (.inl rfl)) (ab _ (.inr (.inl rfl)))) X,Z,big,I,J,told,sv,O.ad E V,U,ax.ad aa E fun r ac h=>h.elim (fun h=>W r (.inr (.inr h)) ac) (X r)⟩
 |none=>
  obtain⟨e,big,I,J,told,sv,O,U⟩:=h;exact⟨e,big,I,J,told,sv,O.ad E V,U⟩
theorem iW.out {w:x5} {g gs:Nat} {A R B E:av} {clean:Bool} {s:Option aA} (h:iW w g gs A B R clean s) (I:∀ r,R r→cd g gs A E r) (J:∀ r,E r→r<w.heap.size):fp w g gs A E clean s:=by
 cases s with
 |some s=>
  obtain⟨⟨O,U,V,W,ai⟩,⟨X,p,a,Y,Z,aa⟩,ab,big,ac,ad,told,sv,ae,af,ag⟩:=h;exact⟨⟨O,U,V,W,J⟩,⟨X,p,a,Y,fun r ah=>I r (Z r ah),aa⟩,ab,big,ac,ad,told,sv,ae,af,ax.mono ag (fun _ _ h=>h) fun r _ h=>I r h⟩
 |none=>exact h
theorem cN.qr {w:x5} {g gs:Nat} {A R:av} {B:av} {clean:Bool} {s:Option aA} (h:cN w g gs A B clean s) (U:∀ r,cd g gs A B r→R r):iW w g gs A B R clean s:=by
 cases s with
 |some s=>
  obtain⟨h1,⟨V,p,a,W,X,Y⟩,Z,big,E,I,told,sv,J,O,aa⟩:=h;exact⟨h1,⟨V,p,a,W,fun r ab=>U r (X r ab),Y⟩,Z,big,E,I,told,sv,J,O,ax.mono aa (fun _ _ h=>h) fun r _ h=>U r h⟩
 |none=>
  obtain⟨_,e,big,E,I,told,sv,l,J,O,_⟩:=h;exact⟨e,big,E,I,told,sv,J,O.1⟩
set_option maxHeartbeats 2000000 in
theorem Dd {w:x5} {g gs ap:Nat} {A B R:av} {s:Option aA} {clean:Bool} {a6 aT u v:x4} {z:List Int} {l:List (List Int×Int)} {K:x5→Prop} (h:cN w g gs A B clean s) (aq:∀ r,cd g gs A B r→R r) (aH:∀ r,R r→cd g gs A (nj w.heap.size) r)
  (aI:∀ t,s=some t→t.shared.length+1+t.toks.length≤100000) (aJ:ak w ap be [a6,u,aT,v])
  (hu:ax.rep (α:=List Int) false br R w [u] z) (aK:ax.rep (α:=List (List Int×Int)) false br R w [v] l)
  (aU:∀ w' J,aj (bt g gs A) w w'→(∀ r,J r→A r∨w.heap.size≤r)→iW w' g gs J (nj w.heap.size) R clean (s.map (rz z l))→K w'):
  I y0 (am (.pointer (some ⟨g,0,none⟩))) w fun au=>
  I y0 (x2 bi au 3) w fun aw=>
  I y0 (x1 dy aw) w fun aL=>
  I y0 (x2 be (.pointer (some ⟨ap,0,none⟩)) 1) w fun t76=>
  I y0 (x1 af t76) w fun t77=>
  I y0 (x2 be (.pointer (some ⟨ap,0,none⟩)) 3) w fun aV=>
  I y0 (x1 ef aV) w fun aW=>
  I y0 (Z0 gb #[(0,t77),(1,aW)]) w fun aX=>
  aa y0 (u9 dy 1 #[(0,aX)]) w fun aY Y=>
   (Ext w Y∨al y0 (x1 dy aw) aL Y∧al y0 (x2 bi au 3) aw Y∧al y0 (am (.pointer (some ⟨g,0,none⟩))) au Y∧True)∧
   aa y0 (r9 #[dy,dy] dy #[aL,aY]) Y fun aZ ay=>
    I y0 (am (.pointer (some ⟨g,0,none⟩))) ay fun a1=>
    I y0 (x2 bi a1 3) ay fun a2=>
    aa y0 (x8 dy a2 aZ) ay fun(_:Unit) a7=>K a7:=by
 obtain⟨a8,e,big,O,U,told,sv,ac,V,ae,bm,ba⟩:iS w g gs A B∧ ∃ e big O U told sv,∃ ac:List gE,ak w g bi (eH gs e big O U told sv)∧dv A R w [sv] ac∧ac.length≤100000∧
   ∀ w' J W,iS w' g gs J (nj w.heap.size)→aj (fun r=>A r∨r=g) w w'→ak w' g bi (eH gs e big O U told W)→dv J R w' [W] (ac++[((z,l):gE)])→iW w' g gs J (nj w.heap.size) R clean (s.map (rz z l)):=by
  cases s with
  |none=>
   obtain⟨h1,e,big,O,U,told,sv,l',aB,ag,aC⟩:=h;exact⟨h1,e,big,O,U,told,sv,l',aB,ax.mono aC (fun _ _ h=>h) fun r _ h=>aq r h,ag.2,fun w' J W aM _ V ae=>⟨e,big,O,U,told,W,V,ag.1⟩⟩
  |some s=>
   obtain⟨h1,bb,aN,big,O,U,told,sv,aB,ag,aC⟩:=h;have aI:=aI s rfl;refine⟨h1,0,big,O,U,told,sv,s.shared,aB,ax.mono aC (fun _ _ h=>h) fun r _ h=>aq r h,(show s.shared.length≤100000 by omega),fun w' J W aM bc V ae=>⟨aM,?_,⟨aN.1,aN.2.1,?_⟩,big,O,U,told,W,V,ag,ae⟩⟩
   ·exact fC.bw bb bc (fun he=>he.elim h1.2.2.1 fun h=>h1.1 h.symm) (fun r E he=>he.elim (fun h=>E.1 (.inr (.inr h))) fun h=>E.1 (.inl h)) aq
   ·show (s.shared++[(z,l)]).length+s.toks.length≤100000;simp;omega
 obtain⟨bd,aD,bf,aO,bn⟩:=id a8;rw[az,ah bi.p rfl,ai (by kernel_rfl) (V.cell (o:=0+6) rfl),ah be.p rfl,ai (by kernel_rfl) (aJ.cell (o:=0+1) rfl),ah be.p rfl,ai (by kernel_rfl) (aJ.cell (o:=0+3) rfl)];rw[cW (cs:=#[u,v]) (by obtain⟨_,_,_,rfl⟩:=jA hu;obtain⟨_,_,_,rfl⟩:=jA aK;kernel_rfl)];have aP:dv (fun _=>False) R w [u,v] ((z,l):gE):=⟨[u],[v],br,br,rfl,fun _ h=>h,fun _ h=>h,fun _ _ h _=>h,hu,aK⟩;refine lm (α:=gE) (a:=(z,l)) (cs:=[u,v]) (A:=fun _=>False) (R:=R) dy.u gb.i (by decide) rfl aP fun x bo X _ bg=>?_;have bp:=X.size;refine⟨.inl X,?_⟩;refine mS (α:=gE) (a:=(z,l)) (A:=fun _=>False) (R:=R) dy.u gb.i rfl (c0 ae X) bg (c0 aP X) (fun r _ bh Z=>?_) (by omega) (by omega) fun aQ bj aE aF=>?_
 ·rcases Z with Z|Z
  ·exact Z
  ·exact (aH r Z).1 (.inr (.inr bh))
 have bq:=aF.size;have bk:=(V.ext X).ad aF aD;rw[az,ah bi.p rfl];refine bE (g:=g) (o:=6) dy.i (qU aE) (sO aE) bk (by simp[eH]) fun ao aR bu aG=>?_;have aG:ak ao g bi (eH gs e big O U told aQ):=aG;have aS:aj (fun r=>A r∨r=g) w ao:=((X.ad _).trans (aF.mono fun r _ h=>.inl h)).trans (aR.mono fun r _ h=>.inr h);let J:av:=fun r=>(A r∨w.heap.size≤r)∧r<bj.heap.size;have bx:g<w.heap.size:=aO g (.inl rfl);have bz:gs<w.heap.size:=aO gs (.inr (.inl rfl));have bl:=ax.mono (S':=J) (R':=R) aE (fun r E h=>⟨h.elim .inl fun h=>h.elim False.elim fun h=>.inr (by omega),E⟩) (fun r E h=>h);refine aU ao J (aS.mono fun r _ h=>h.elim (fun h=>.inr (.inr h)) .inl) (fun r E=>E.1) (ba ao J aQ ⟨bd,fun h=>h.1.elim aD fun h=>by omega,fun h=>h.1.elim bf fun h=>by omega,fun r E=>?_,?_⟩ aS aG (ax.ad bl aR fun r E ab he=>?_))
 ·rcases E with rfl|rfl|E
  ·omega
  ·omega
  ·have:=E.2;omega
 ·intro r E;have E:r<w.heap.size:=E;omega
 ·have he:r=g:=he;subst he;rcases ab with ab|ab
  ·exact ab.1.elim aD fun h=>by omega
  ·exact (aH _ ab).1 (.inl rfl)
set_option maxHeartbeats 2000000 in
theorem De {w:x5} {E:Nat} {a6 ac:x4} {scope all:List Int} {aD:x5→Prop} (aE:ak w E be [a6,.slice none 0 0,.int .i64 0,.slice none 0 0]) (aF:aH .i64 w a6 scope) (aR:∀ r,leads a6 r→r≠E)
  (aS:aH .i64 w ac all) (aT:∀ r,leads ac r→r≠E) (aU:∀ v∈scope,0≤v∧v<all.length) (bj:scope.length≤100001)
  (aV:∀ w' aw O,aj (fun r=>r=E) w w'→ak w' E be [a6,aw,.int .i64 0,.slice none 0 0]→aq .i64 ae w' O aw (scope.map fun v=>all.getD v.toNat 0)→w.heap.size≤O→aD w'):
 bc (.int .i64 0) w fun ax Z k=>
  I y0 (U .lss J false false ax (.int .i64 (scope.length:Int))) Z fun aW=>
  Split aW (I y0 (x7 af a6 ax) Z fun aX=>
  I y0 (x1 ae aX) Z fun aY=>
  aQ Z fun W=>
  I y0 (x2 be (.pointer (some ⟨E,0,none⟩)) 1) W fun t39=>
  I y0 (x1 af t39) W fun aG=>
  I y0 (x7 af ac aY) W fun aZ=>
  I y0 (x1 ae aZ) W fun a1=>
  aa y0 (u9 af 1 #[(0,a1)]) W fun t45 am=>
   (Ext W am∨al y0 (x1 af t39) aG am∧al y0 (x2 be (.pointer (some ⟨E,0,none⟩)) 1) t39 am∧True)∧
  aa y0 (r9 #[af,af] af #[aG,t45]) am fun t46 aI=>
   I y0 (x2 be (.pointer (some ⟨E,0,none⟩)) 1) aI fun a2=>
   aa y0 (x8 af a2 t46) aI fun(_:Unit) aJ=>
    I y0 (U .add J false true ax (.int .i64 1)) aJ fun a7=>
  k a7 aJ) (aD Z):=by
 have bk:=aE.lt;refine bc.range scope.length (fun i V=>aj (fun r=>r=E) w V∧ ∃ aw O,ak V E be [a6,aw,.int .i64 0,.slice none 0 0]∧aq .i64 ae V O aw ((scope.take i).map fun v=>all.getD v.toNat 0)∧w.heap.size≤O) aF.le ⟨aj.refl _ _,_,w.heap.size,aE,aq.nil _ _ _ _,o7 _⟩ ?_ ?_
 rotate_left
 ·rintro V a8 ⟨X,aw,O,ao,ap,aL⟩;rw[l5] at ap;rw[au,ag];exact⟨fun h=>by omega,fun _=>aV V aw O X ao ap aL⟩
 rintro i V a8 hi ⟨X,aw,O,ao,ap,aL⟩ ba;obtain⟨v,ay⟩:∃ v,scope[i]? =some v:=⟨_,x3 hi⟩;have bl:=aU v (u4 ay);have bb:all[v.toNat]? =some (all.getD v.toNat 0):=by
  rw[p8,x3 (by omega)];rfl
 have bd:aH .i64 V a6 scope:=hB aF X fun r av a n c az aA=>aR r ⟨a,n,c,az,aA⟩ av;have bf:aH .i64 V ac all:=hB aS X fun r av a n c az aA=>aT r ⟨a,n,c,az,aA⟩ av;rw[au,ag];refine⟨fun _=>?_,fun h=>by omega⟩;rw[bm af.u ae.i (by kernel_rfl) bd ay];intro bn Y _ _;have bo:=X.size;have bp:=Y.size;rw[ah be.p rfl,ai (by kernel_rfl) ((ao.ext Y).cell (o:=0+1) rfl)];rw[eE (y:=v) (i:=v.toNat) (by omega) af.u ae.i (by kernel_rfl) (bf.ext Y) bb];refine dW af.u ae.i rfl fun a bq br bt ab bg=>?_;refine⟨.inl ab,?_⟩;have z3:=ab.size;refine hb af.u ae.i rfl ((ap.ext Y).ext ab) bg.ls (by simp;omega) (by simp;omega) fun aM aN bu bw aB aO=>?_;rw[ah be.p rfl];have bh:=((ao.ext Y).ext ab).ad aO (fun he=>by have he:E=O:=he;omega);refine bE (g:=E) (o:=1) af.i aB.ls.cells.1 aB.ls.cells.2 bh (by simp) fun bi aP bx aC=>?_;have aC:ak bi E be [a6,aM,.int .i64 0,.slice none 0 0]:=aC;rw[aK];refine ba _ ⟨(fB (X.trans ((Y.trans ab).ad _)) aO fun r av he=>by have he:r=O:=he;omega).trans aP,aM,aN,aC,?_,by omega⟩;rw[o3,ay,j5,j4];exact aB.ad aP (fun _ he=>by have he:aN=E:=he;omega)
abbrev fF:Type:=Rd (List Int)×Rd (List Int)×Int×Rd (List (List Int×Int))
def fq (f:ca):fF:=(f.scope,f.sizes,f.other,f.lines)
theorem xz {w:x5} {R:av} {a6 aw bK:x4} {o:Int} {sc E:List Int} {l:List (List Int×Int)} (h1:ax.rep (α:=List Int) false br R w [a6] sc) (I:ax.rep (α:=List Int) false br R w [aw] E) (J:ax.rep (α:=List (List Int×Int)) false br R w [bK] l):
  Seen R w [a6,aw,.int .i64 o,bK] ((sc,E,o,l):fF):=
 ⟨[a6],[aw,.int .i64 o,bK],br,br,rfl,fun _ h=>h,fun _ h=>h,fun _ _ h _=>h,h1,[aw],[.int .i64 o,bK],br,br,rfl,fun _ h=>h,fun _ h=>h,fun _ _ h _=>h,I,[.int .i64 o],[bK],br,br,rfl,fun _ h=>h,fun _ h=>h,fun _ _ h _=>h,rfl,J⟩
theorem pW {w:x5} {R:av} {g:Nat} {v:x4} {l:List Int} {e:o6} (h:aq .i64 e w g v l) (O:∀ r,leads v r→R r):ax.rep (α:=List Int) false br R w [v] l:=by
 have h1:dv (fun r=>r=g) br w [v] l:=mT h;obtain⟨vs,U,F,ac,he,V,hm⟩:=kg h1;refine⟨v,rfl,vs,U,fun _ _=>False,⟨fun _ _ h=>h,fun h=>(by cases h),fun h=>by cases h⟩,⟨he.1,fun i c a W X=>?_⟩,?_,fun h=>by cases h⟩
 ·exact he.2 i c a W X
 ·obtain⟨E,b,o,base,cap,rfl,Y,Z,I,ad,aa⟩:=V;refine⟨E,b,o,base,cap,rfl,Y,Z,I,fun J=>.inr (O b ?_),aa⟩;have ab:0<l.length:=by
   rw[E] at J;rcases Nat.eq_zero_or_pos l.length with h|h
   ·rw[h,Nat.zero_mul] at J;omega
   ·exact h
  exact⟨⟨b,o,none⟩,l.length,cap,by rw[I ab],rfl⟩
theorem xA {α:Type} [ax α] {w:x5} {R R':av} {cs:List x4} {a:α} (h:Seen R w cs a) (E:∀ r,r<w.heap.size→R r→R' r):Seen R' w cs a:=ax.mono h (fun _ _ h=>h) E
theorem xB {w:x5} {O E:Nat} {cs:List x4} {K:x4→x5→Prop} (J:cs.length=4) (h1:∀ v∈cs,v.oneCell'=true) (W:ak w O be cs) {U:List x4} (X:U.length=4) (Y:ak w E be U)
  (Z:∀ w',aj (fun r=>r=E) w w'→K (.agg cs.toArray) w'):
  I y0 (x1 be (.pointer (some ⟨O,0,none⟩))) w fun ab=>
  aa y0 (x8 be (.pointer (some ⟨E,0,none⟩)) ab) w fun(_:Unit) V=>
  I y0 (do loadVar be (←asAddr (.pointer (some ⟨E,0,none⟩)))) V fun ac=>K ac V:=by
 rw[bI be.p be.i J W.range];refine b4 be.i J X h1 Y fun w' ad _ ae=>?_;rw[eN be.p be.i J ae.range];exact Z w' ad
theorem xC {sizes:List Int} {s s':aA} {l:List (List Int×Int)} (h:dg sizes s=some (l,s')):s'.shared=s.shared∧s'.toks.length≤s.toks.length:=by
 unfold dg at h;cases I:a7 (-ap) ap s with
 |none=>rw[I] at h;cases h
 |some q=>
  obtain⟨n,E⟩:=q;rw[I] at h;simp only at h;have h1:=c3 I;obtain⟨W,X,J⟩:=h1.eqs;split at h
  ·cases O:E.shared[(-n-1).toNat]? with
   |none=>rw[O] at h;cases h
   |some q=>
    obtain⟨z,l'⟩:=q;rw[O] at h;simp only at h;split at h
    ·simp only[Z7,U2] at h;obtain⟨rfl,rfl⟩:=h;exact⟨J,by have:=h1.1;omega⟩
    ·cases h
  ·have:=ig (f:=df sizes) (fun acc t=>t.shared=s.shared∧t.toks.length≤s.toks.length) (fun acc t a Y ⟨V,Z⟩ g=>by
    obtain⟨aa,ab,ac,U⟩:=m8 g;obtain⟨f1,f2,f3⟩:=U.eqs;exact⟨by rw[f3,V],by have:=U.1;omega⟩) n.toNat [] (aY (decide (16384<min (E.told+n) ap)) {E with told:=min (E.told+n) ap}) l s' ⟨J,by have:=h1.1;show E.toks.length≤_;omega⟩ h
   exact this.1
set_option maxHeartbeats 8000000 in
theorem Df {w:x5} {g gs:Nat} {A B:av} {s:aA} {clean:Bool} {aX:x4} {all:List Int} (h:cH w g gs A B s clean) (hi:dh s) (b5:aH .i64 w aX all) (bz:∀ r,leads aX r→¬bt g gs A r∧r<w.heap.size)
  (cK:∀ z∈all,1≤z∧z≤ap) (dM:all.length≤100001) (cL:eI w) (h1:cd g gs A B 1):
  O y0 mg [.pointer (some ⟨g,0,none⟩),aX] w fun v w'=>∃ Z aD cs,∃ b7:fF,v= .agg cs.toArray∧cs.length=4∧aj (bt g gs A) w w'∧(∀ r,Z r→A r∨w.heap.size≤r)∧(∀ r,aD r→(B r∨w.heap.size≤r)∧r<w'.heap.size)∧(∀ r,B r→aD r)∧fp w' g gs Z aD clean ((cC all s).map (·.2))∧
   Seen (cd g gs Z aD) w' cs b7∧ ∀ q,cC all s=some q→b7=fq q.1:=by
 have cM:=h.1;obtain⟨dN,dO,bA,cO,aE⟩:=id cM;have ay:∀ r,bt g gs A r→r<w.heap.size:=cO;have dP:ap=4611686018427387904:=rfl;have dQ:s.shared.length+s.toks.length≤100000:=h.2.2.1.2.2;apply mg.enter;refine bO be.i fun U cP dR bB bd=>?_;have bd:ak cP U be [.slice none 0 0,.slice none 0 0,.int .i64 0,.slice none 0 0]:=bd;have dS:=bB.size;have dT:=bd.lt;have ac:¬bt g gs A U:=fun J=>by have:=ay _ J;omega
 refine (th (lo:=-ap) (hi:=ap) (h.ext bB)).mono ?_;rintro _ bC _ ⟨aG,a,at_,rfl,b8,cQ⟩;obtain⟨bD,bF⟩:=aG.of;have dU:=bD.size;rw[aC (v:=.int .i64 a) rfl,aC (v:=.int .i64 at_) rfl,au,ka];have dV: -ap≤a∧a≤ap:=by
  cases V:a7 (-ap) ap s with
  |none=>rw[cQ V];unfold ap;omega
  |some q=>rw[b8 q V];exact (fQ (n:=q.1) (s':=q.2) V).1
 rw[wrap_i64 (by omega) (by omega),sI,show max a (0-a)=((a.natAbs:Nat):Int) by omega];have b9:aj (bt g gs A) w bC:=(bB.ad _).trans bD;have cR:aH .i64 bC aX all:=hB b5 b9 fun r E a n c X bG=>(bz r ⟨a,n,c,X,bG⟩).1 E;rw[aO af.u cR];refine (Dc (k:=a.natAbs) (m:=(all.length:Int)) bF (by omega) (by omega)).mono ?_;rintro a6 dW _ ⟨aG,bH,scope,aZ,cT,dX,cU⟩;obtain⟨bI,cV⟩:=aG.of;have z3:=bI.size;rw[cW (cs:=#[a6,.slice none 0 0,.int .i64 0,.slice none 0 0]) (by obtain⟨_,_,_,_,_,rfl,_⟩:=aZ.ls;kernel_rfl)];refine bO be.i fun I cX dZ a1 bf=>?_;have bf:ak cX I be [.slice none 0 0,.slice none 0 0,.int .i64 0,.slice none 0 0]:=bf;have z4:=a1.size;have ea:=bf.lt;have bJ:=aZ.ls.cells;refine b4 (vs:=[a6,.slice none 0 0,.int .i64 0,.slice none 0 0]) be.i rfl rfl (by intro v X;simp at X;rcases X with rfl|rfl|rfl|rfl <;> first|exact bJ.2|rfl) bf fun bg a2 eb cY=>?_;have aP:¬bt g gs A I:=fun J=>by have:=ay _ J;omega
 have cb:cN bg g gs A B clean ((pV all.length a.natAbs ((a7 (-ap) ap s).map (·.2))).map (·.2)):=(cV.ext a1).ad a2 (fun r E he=>by have he:r=I:=he;exact aP (he▸E)) (fun r E he=>by have:=aE r E.2;have he:r=I:=he;omega);have cc:aj (bt g gs A) w bg:=fB ((b9.trans bI).trans (a1.ad _)) a2 fun r E he=>by have he:r=I:=he;omega
 have cZ:ak bg U be [.slice none 0 0,.slice none 0 0,.int .i64 0,.slice none 0 0]:=(((bd.ad bD ac).ad bI ac).ext a1).ad a2 (fun he=>by have he:U=I:=he;omega);have c1:aq .i64 ae bg bH a6 scope:=bp (aZ.ext a1) a2 fun r E he=>by
  obtain⟨c2,bF⟩:=bX aZ E;have he:r=I:=he;omega
 refine (ni cb).mono ?_;rintro _ bh _ ⟨rfl,aI⟩;have aQ:=cb.ext aI;have a8:=c1.ext aI;have bL:=cY.ext aI;have ce:=cZ.ext aI;have ec:=aI.size;have z5:=a2.size;have az:∀ r,leads a6 r→bC.heap.size≤r∧r≠I∧r≠U:=fun r E=>by
  obtain⟨c2,bF⟩:=bX aZ E;have:=cT r E;exact⟨this,by omega,by omega⟩
 have ab:cC all s=match pV all.length a.natAbs ((a7 (-ap) ap s).map (·.2)) with
   |none=>none
   |some (sc,Y)=>(gG (sc.map fun v=>all.getD v.toNat 0) ((aU 0 ap (some (aY (decide (6<a.natAbs)||cS (sc.map fun v=>all.getD v.toNat 0)) Y))).map (·.2))).map fun q=>((⟨sc,sc.map fun v=>all.getD v.toNat 0,((a7 0 ap (aY (decide (6<a.natAbs)||cS (sc.map fun v=>all.getD v.toNat 0)) Y)).map (·.1)).getD 0,q.1⟩:ca),if a<0 then rz (sc.map fun v=>all.getD v.toNat 0) q.1 q.2 else q.2):=by
  unfold cC;cases V:a7 (-ap) ap s with
  |none=>rfl
  |some q=>
   obtain⟨a',aF⟩:=q;have:=b8 _ V;subst this;simp only;show _=match dY all.length a.natAbs aF with
    |none=>none
    |some (sc,Y)=>_
   cases dY all.length a.natAbs aF with
   |none=>rfl
   |some q=>
    obtain⟨sc,Y⟩:=q;simp only;show _=X9 _ (gG _ ((a7 0 ap _).map (·.2)));cases a7 0 ap (aY (decide (6<a.natAbs)||cS (sc.map fun v=>all.getD v.toNat 0)) Y) with
    |none=>rfl
    |some q=>
     obtain⟨o,W⟩:=q;simp only;show _=X9 _ (dg _ W);cases dg (sc.map fun v=>all.getD v.toNat 0) W with
     |none=>rfl
     |some q=>rfl
 rw[b3,cE];cases aJ:pV all.length a.natAbs ((a7 (-ap) ap s).map (·.2)) with
 |none=>
  rw[aJ] at aQ ab;simp only at ab;refine⟨fun _=>?_,fun h=>by simp at h⟩;refine xB rfl (by intro v X;simp at X;rcases X with rfl|rfl|rfl|rfl <;> first|exact bJ.2|rfl) bL rfl ce fun aK al=>?_;have c4:=al.size;refine⟨A,fun r=>(B r∨w.heap.size≤r)∧r<aK.heap.size,_,(scope,[],0,[]),rfl,rfl,fB (cc.trans (aI.ad _)) al fun r E he=>by have he:r=U:=he;omega,fun r E=>.inl E,fun r E=>E,fun r E=>⟨.inl E,by have:=aE r E;omega⟩,?_,?_,fun q V=>by rw[ab] at V;cases V⟩
  ·rw[ab];have c5:fp aK g gs A B clean (X9 (fun x=>x.2) (none:Option (List Int×aA))):=aQ.q.ad al (fun he=>by have:=ay g (.inl rfl);have he:g=U:=he;omega) (fun r E _ he=>by have he:r=U:=he;exact ac (he▸E)) (fun r E he=>by have:=aE r E.2;have he:r=U:=he;omega);exact c5
  ·refine xz (pW (bp a8 al fun r E he=>(az r E).2.2 he) fun r E=>?_) h8 h8;have am:=az r E;have aR:=(bX a8 E);exact⟨fun J=>by have:=ay _ J;omega,.inr (by omega),by omega⟩
 |some q=>
  obtain⟨sc,Y⟩:=q;have:=cU _ aJ;subst this;rw[aJ] at aQ ab;simp only at ab;refine⟨fun h=>by simp at h,fun _=>?_⟩;have aQ:cH bh g gs A B Y clean:=aQ;obtain⟨aF,c6,c7⟩:∃ aF,(a7 (-ap) ap s).map (·.2)=some aF∧dY all.length a.natAbs aF=some (scope,Y):=by
   cases V:(a7 (-ap) ap s).map (·.2) with
   |none=>rw[V] at aJ;cases aJ
   |some aF=>rw[V] at aJ;exact⟨aF,rfl,aJ⟩
  obtain⟨cg,c8,rfl⟩:=Z3.1 c6;have ch:=c3 (n:=cg.1) (s':=cg.2) c8;obtain⟨ci,ed,ee,cj⟩:=te c7;have bM:=ch.eqs;have bN:=ci.eqs;have c9:dh Y:=fun aB=>by rw[bN.1,bM.1];rw[bN.2.1,bM.2.1] at aB;exact hi aB
  have da:Y.shared.length+1+Y.toks.length≤100000:=by rw[bN.2.2,bM.2.2];have:=ch.1;have:=ci.1;omega
  generalize bP:(scope.map fun v=>all.getD v.toNat 0)=sizes at ab;have ck:∀ z∈sizes,1≤z∧z≤ap:=fun z bi=>by
   rw[←bP] at bi;obtain⟨v,X,rfl⟩:=l9.1 bi;have:=cj v X;refine cK _ ?_;rw[p8,x3 (by omega)];exact T1 _
  have eg:sizes.length=scope.length:=by rw[←bP,o4]
  have cl:aj (bt g gs A) w bh:=cc.trans (aI.ad _);have db:aH .i64 bh aX all:=hB b5 cl fun r E a n c X bG=>(bz r ⟨a,n,c,X,bG⟩).1 E;rw[ah be.p rfl,ai (by kernel_rfl) (bL.cell (o:=0+0) rfl),aO af.u a8.ls];refine De bL a8.ls (fun r E=>(az r E).2.1) db (fun r E=>by have:=(bz r E).2;omega) cj (by omega) fun aK aw cm al cn bj eh=>?_;rw[bP] at bj;have c4:=al.size;have bQ:∀ r,cd g gs A B r→¬(fun r=>r=I) r:=fun r E he=>by have:=aE r E.2;have he:r=I:=he;omega
  have bR:∀ r,bt g gs A r→¬(fun r=>r=I) r:=fun r E he=>by have he:r=I:=he;exact aP (he▸E)
  have cp:=aQ.ad al bR bQ;have dc:aj (bt g gs A) w aK:=fB cl al fun r E he=>by have he:r=I:=he;omega
  refine dF (fun bk=>aj (bt g gs A) aK bk∧cH bk g gs A B (aY (decide (6<a.natAbs)||cS sizes) Y) clean) ?_ ?_
  rotate_left
  ·intro dd ba;rw[bV,ag];refine⟨fun ei=>?_,fun ej=>?_⟩
   ·refine (rj cp).mono ?_;rintro _ de _ ⟨df,di⟩;refine ba _ ⟨df.mono fun r _ h=>.inl h,?_⟩;rw[decide_eq_true (by omega),Bool.true_or];exact di
   ·rw[ah be.p rfl,ai (by kernel_rfl) (cn.cell (o:=0+1) rfl)];refine (wL bj.ls fun z bi=>(ck z bi).1).mono ?_;rintro _ de _ ⟨rfl,cq⟩;refine (rj (cp.ext cq)).mono ?_;rintro _ ek _ ⟨dj,dk⟩;refine ba _ ⟨(cq.ad _).trans (dj.mono fun r _ h=>.inl h),?_⟩;rw[decide_eq_false (by omega),Bool.false_or];exact dk
  rintro bk ⟨bl,bm⟩;have em:=bl.size;generalize bA:aY (decide (6<a.natAbs)||cS sizes) Y=W at ab bm;have dl:dh W:=fun aB=>by
   subst bA;have aB:(Y.big||_)=false:=aB;exact c9 (U5.1 aB).1
  have en:W.shared.length+1+W.toks.length≤100000:=by subst bA;exact da
  have bm:cN bk g gs A B clean (some W):=bm;refine (jz (lo:=0) (hi:=ap) bm).mono ?_;rintro _ cr _ ⟨aG,o,dm,rfl,dn,eo⟩;obtain⟨bn,dp⟩:=aG.of;have ep:=bn.size;rw[aC (v:=.int .i64 o) rfl,aC (v:=.int .i64 dm) rfl,ah be.p rfl];have dq:=(cn.ad bl aP).ad bn aP;refine bE (g:=I) (o:=2) ae.i rfl rfl dq (by simp) fun bo aS er bq=>?_;have bq:ak bo I be [a6,aw,.int .i64 o,.slice none 0 0]:=bq;rw[ah be.p rfl,ai (by kernel_rfl) (bq.cell (o:=0+1) rfl)];have dr:=dp.ad aS bR bQ;have bS:aj (bt g gs A) aK cr:=bl.trans bn;have ds:aj (bt g gs A) w cr:=dc.trans bS;have ct:aj (bt g gs A) w bo:=fB ds aS fun r E he=>by have he:r=I:=he;omega
  have aL:∀ r,leads aw r→bh.heap.size≤r∧r<aK.heap.size:=fun r E=>by have:=bX bj E;omega
  have cu:aq .i64 ae bo cm aw sizes:=bp (bp bj bS fun r E J=>by have:=ay _ J;have:=aL r E;omega) aS fun r E he=>by have he:r=I:=he;have:=aL r E;omega
  have dt:aq .i64 ae bo bH a6 scope:=bp (bp (bp a8 al fun r E he=>(az r E).2.1 he) bS fun r E J=>by have:=ay _ J;have:=az r E;omega) aS fun r E he=>(az r E).2.1 he;have es:=aS.size;refine (Db dr (fun t bT=>?_) cu.ls (fun r E=>⟨fun J=>by have:=ay _ J;have:=aL r E;omega,by have:=aL r E;omega⟩) ck (by omega) (cL.ad ct h1.1) h1).mono ?_
  ·obtain⟨q,V,rfl⟩:=Z3.1 bT;have cw:=(c3 (n:=q.1) (s':=q.2) V).eqs;intro aB;rw[cw.1];rw[cw.2.1] at aB;exact dl aB
  rintro bK du _ ⟨aG,l,bU,cz⟩;obtain⟨aT,dv⟩:=aG.of;have et:=aT.size;have bW:bK.cells= #[bK]∧bK.oneCell'=true:=⟨qU bU,sO bU⟩;rw[ah be.p rfl];have dw:=bq.ad aT aP;refine bE (g:=I) (o:=3) ef.i bW.1 bW.2 dw (by simp) fun aa aM eu bu=>?_;have bu:ak aa I be [a6,aw,.int .i64 o,bK]:=bu;have ev:=aM.size;have cA:=dv.ad aM bR bQ;have dx:aj (bt g gs A) w du:=ct.trans aT;have dy:aj (bt g gs A) w aa:=fB dx aM fun r E he=>by have he:r=I:=he;omega
  have cB:aq .i64 ae aa bH a6 scope:=bp (bp dt aT fun r E J=>by have:=ay _ J;have:=az r E;omega) aM fun r E he=>(az r E).2.1 he;have bw:aq .i64 ae aa cm aw sizes:=bp (bp cu aT fun r E J=>by have:=ay _ J;have:=aL r E;omega) aM fun r E he=>by have he:r=I:=he;have:=aL r E;omega
  have dz:ak aa U be [.slice none 0 0,.slice none 0 0,.int .i64 0,.slice none 0 0]:=((((((ce.ad al (fun he=>by have he:U=I:=he;omega)).ad bl ac).ad bn ac).ad aS (fun he=>by have he:U=I:=he;omega)).ad aT ac).ad aM (fun he=>by have he:U=I:=he;omega));let ao:av:=fun r=>(B r∨w.heap.size≤r)∧r<aa.heap.size;have cD:ax.rep (α:=List (List Int×Int)) false br (fun r=>cd g gs A ao r∧r≠I∧r≠U) aa [bK] l:=by
   refine xA (ax.ad bU aM fun r E h he=>?_) fun r E h=>?_
   ·have he:r=I:=he;rcases h with h|h
    ·exact h
    ·rcases h with h|h
     ·have:=aE r h.2;omega
     ·omega
   ·rcases h with h|h
    ·have:=aE r h.2;exact⟨⟨h.1,.inl h.2,E⟩,by omega,by omega⟩
    ·exact⟨⟨fun J=>by have:=ay _ J;omega,.inr (by omega),E⟩,by omega,by omega⟩
  have dA:∀ r,leads a6 r→cd g gs A ao r∧r≠I∧r≠U:=fun r E=>by
   have am:=az r E;have aR:=(bX cB E);exact⟨⟨fun J=>by have:=ay _ J;omega,.inr (by omega),by omega⟩,am.2⟩
  have cF:∀ r,leads aw r→cd g gs A ao r∧r≠I∧r≠U:=fun r E=>by
   have am:=aL r E;have aR:=(bX bw E);exact⟨⟨fun J=>by have:=ay _ J;omega,.inr (by omega),by omega⟩,by omega,by omega⟩
  have dB:Seen (fun r=>cd g gs A ao r∧r≠I∧r≠U) aa [a6,aw,.int .i64 o,bK] ((scope,sizes,o,l):fF):=xz (pW cB dA) (pW bw cF) cD;have dC:∀ q,cC all s=some q→((scope,sizes,o,l):fF)=fq q.1:=fun q V=>by
   rw[ab] at V;obtain⟨ew,bY,rfl⟩:=Z3.1 V;have am:=cz _ bY;cases aV:a7 0 ap W with
   |none=>have e:aU 0 ap (some W)=none:=aV;rw[e] at bY;cases bY
   |some aN=>
    have aR:=dn aN aV;rw[am,aR];rfl
  have dD:∀ v∈[a6,aw,X4 .i64 o,bK],v.oneCell'=true:=by
   intro v X;simp at X;rcases X with rfl|rfl|rfl|rfl
   ·exact bJ.2
   ·exact bw.ls.cells.2
   ·rfl
   ·exact bW.2
  have cG:∀ r,cd g gs A B r→cd g gs A ao r∧r≠I∧r≠U:=fun r E=>by
   have:=aE r E.2;exact⟨⟨E.1,.inl E.2,by omega⟩,by omega,by omega⟩
  refine dF (fun bZ=>∃ Z,aj (bt g gs A) aa bZ∧(∀ r,Z r→A r∨aa.heap.size≤r)∧ ∃ aD,iW bZ g gs Z aD (fun r=>cd g gs A ao r∧r≠I∧r≠U) clean ((cC all s).map (·.2))) ?_ ?_
  ·rintro bZ ⟨Z,bb,bc,aD,dE⟩;have ey:=bb.size;refine xB rfl dD (bu.ad bb aP) rfl (dz.ad bb ac) fun b1 bx=>?_;have ez:=bx.size;have cI:∀ r,bt g gs Z r→¬(fun r=>r=U) r:=fun r E he=>by
    have he:r=U:=he;subst he;rcases E with E|E|E
    ·exact ac (.inl E)
    ·exact ac (.inr (.inl E))
    ·rcases bc _ E with E|E
     ·exact ac (.inr (.inr E))
     ·omega
   have cJ:∀ r,(cd g gs A ao r∧r≠I∧r≠U)→cd g gs Z (fun r=>(B r∨w.heap.size≤r)∧r<b1.heap.size∧(r<aa.heap.size∨B r)) r:=fun r h=>⟨fun J=>h.1.1 (J.imp id (Or.imp id fun J=>(bc r J).elim id fun h'=>by have:=h.1.2.2;omega)),h.1.2.1,by have:=h.1.2.2;omega,.inl h.1.2.2⟩;have dG:iW b1 g gs Z aD (fun r=>cd g gs A ao r∧r≠I∧r≠U) clean ((cC all s).map (·.2)):=dE.ad bx (cI g (.inl rfl)) (fun r E _=>cI r E) (fun r E=>E.2.2);refine⟨Z,fun r=>(B r∨w.heap.size≤r)∧r<b1.heap.size∧(r<aa.heap.size∨B r),_,(scope,sizes,o,l),rfl,rfl,fB (dy.trans bb) bx fun r E he=>by have he:r=U:=he;omega,fun r E=>(bc r E).imp id fun h=>by omega,fun r E=>⟨E.1,E.2.1⟩,fun r E=>⟨.inl E,by have:=aE r E;omega,.inr E⟩,dG.out cJ fun r E=>E.2.1,?_,dC⟩;refine xA (ax.ad (ax.ad dB bb fun r _ h J=>?_) bx fun r _ h he=>?_) fun r _ h=>cJ r h
   ·rcases h with h|h
    ·exact h
    ·exact h.1.1 J
   ·rcases h with h|h
    ·exact h
    ·exact h.2.2 he
  ·intro dd ba;rw[ag];refine⟨fun dH=>?_,fun dI=>?_⟩
   ·intro b2 aW _ _;have eA:=aW.size;have dJ:∀ r,(cd g gs A ao r∧r≠I∧r≠U)→cd g gs A (nj b2.heap.size) r:=fun r h=>⟨h.1.1,by have:=h.1.2.2;show r<b2.heap.size;omega⟩;refine Dd (R:=fun r=>cd g gs A ao r∧r≠I∧r≠U) (z:=sizes) (l:=l) (cA.ext aW) cG dJ (fun t bT=>?_) (bu.ext aW) (pW (bw.ext aW) cF) (c0 cD aW) fun eB Z dK bc dL=>?_
    ·obtain⟨q,V,rfl⟩:=Z3.1 bT;cases aV:a7 0 ap W with
     |none=>have e:aU 0 ap (some W)=none:=aV;rw[e] at V;cases V
     |some aN=>
      have e:aU 0 ap (some W)=some aN:=aV;rw[e] at V;have h1:q.2.shared=aN.2.shared∧q.2.toks.length≤aN.2.toks.length:=xC (l:=q.1) (s':=q.2) V;have am:=c3 (n:=aN.1) (s':=aN.2) aV;have aR:=am.eqs.2.2;have eC:=am.1;rw[h1.1,aR];have:=h1.2;omega
    ·refine ba _ ⟨Z,(aW.ad _).trans dK,fun r E=>(bc r E).imp id fun h=>by omega,nj b2.heap.size,?_⟩;have e:(cC all s).map (·.2)=((gG sizes ((aU 0 ap (some W)).map (·.2))).map (·.2)).map (rz sizes l):=by
      rw[ab];cases V:gG sizes ((aU 0 ap (some W)).map (·.2)) with
      |none=>rfl
      |some q=>
       have am:=cz _ V;simp only[b6,if_pos dH,am]
     rw[e];exact dL
   ·refine ba _ ⟨A,aj.refl _ _,fun r E=>.inl E,B,?_⟩;have e:(cC all s).map (·.2)=(gG sizes ((aU 0 ap (some W)).map (·.2))).map (·.2):=by
     rw[ab];cases V:gG sizes ((aU 0 ap (some W)).map (·.2)) with
     |none=>rfl
     |some q=>simp only[b6,if_neg dI]
    rw[e];exact cA.qr cG
def ik (l:List Int):Prop:=∀ v∈l,0≤v∧v<64
theorem pX {l:List Int} (h:ik l) {v:Int}:v∈bd l↔v∈l:=by
 unfold bd;rw[List.mem_filter,decide_eq_true_eq];refine⟨fun h=>h.2,fun E=>⟨?_,E⟩⟩;obtain⟨h1,I⟩:=h v E;exact l9.2 ⟨v.toNat,List.mem_range.2 (by omega),by omega⟩
theorem Dg (l:List Int):ik (bd l):=fun v E=>by
 obtain⟨n,I,rfl⟩:=l9.1 (List.mem_filter.1 E).1;have:=List.mem_range.1 I;omega
theorem tz (l:List Int):(bd l).Pairwise (·< ·):=by
 unfold bd;refine List.Pairwise.filter _ ?_;rw[List.pairwise_map];exact List.pairwise_lt_range.imp fun h=>by omega
theorem xD (l:List Int):(bd l).Nodup:=(tz l).imp fun h=>by omega
where
 nodup_le' {a b:List Int} (h:a.Nodup) (hs:∀ x∈a,x∈b):a.length≤b.length:=by
  induction a generalizing b with
  |nil=>exact Z9 _
  |cons x a ih=>
   have h':=List.nodup_cons.1 h;have hx:=hs x (.head _);have:=ih (b:=b.erase x) h'.2 fun y hy=>(List.mem_erase_of_ne (fun(he:y=x)=>h'.1 (by rw[←he];exact hy))).2 (hs y (.tail _ hy));rw[List.length_erase_of_mem hx] at this;have:=List.length_pos_of_mem hx;rw[c8];omega
theorem xE (n:Nat):(0:Int)<64 ^ n:=Int.pow_pos (by omega)
theorem rA:∀ (l:List Int),ik l→0≤hf l∧hf l<64 ^ l.length
 |[],_=>by simp[hf]
 |x::l,h=>by
  have J:=rA l fun y E=>h y (.tail _ E);have I:=h x (.head _);have O:=xE l.length;simp only[hf,c8];have e:(64:Int) ^ (l.length+1)=64*64 ^ l.length:=by rw[Int.pow_succ,Int.mul_comm]
  have h1:x*64 ^ l.length≤63*64 ^ l.length:=Int.mul_le_mul_of_nonneg_right (by omega) (by omega);have U:0≤x*64 ^ l.length:=Int.mul_nonneg I.1 (by omega);rw[e];omega
def eQ:List Int→List Int→Int
 |x::a,y::b=>if x<y then-1 else if y<x then 1 else eQ a b
 |[],[]=>0
 |[],_::_=>-1
 |_::_,[]=>1
theorem xF:∀ (a b:List Int),a.length=b.length→ik a→ik b→(eQ a b<0↔hf a<hf b)∧(eQ a b=0↔a=b)∧(hf a=hf b→a=b)
 |[],[],_,_,_=>by simp[eQ]
 |[],_::_,h,_,_=>by simp at h
 |_::_,[],h,_,_=>by simp at h
 |x::a,y::b,h,W,X=>by
  have O:a.length=b.length:=by simpa using h
  have U:ik a:=fun z E=>W z (.tail _ E);have V:ik b:=fun z E=>X z (.tail _ E);have I:=xF a b O U V;have Y:=rA a U;have aa:=rA b V;have ab:=xE b.length;simp only[eQ,hf];rw[O] at Y ⊢;have step:∀ u v:Int,u<v→u*64 ^ b.length+64 ^ b.length≤v*64 ^ b.length:=fun u v ac=>by
   have:=Int.mul_le_mul_of_nonneg_right (show u+1≤v by omega) (show (0:Int)≤64 ^ b.length by omega);rw[Int.add_mul,Int.one_mul] at this;exact this
  by_cases h1:x<y
  ·rw[if_pos h1];have:=step x y h1;exact⟨⟨fun _=>by omega,fun _=>by omega⟩,⟨fun h=>by omega,fun h=>by have:=(List.cons.inj h).1;omega⟩,fun h=>by omega⟩
  ·rw[if_neg h1];by_cases J:y<x
   ·rw[if_pos J];have:=step y x J;exact⟨⟨fun h=>by omega,fun h=>by omega⟩,⟨fun h=>by omega,fun h=>by have:=(List.cons.inj h).1;omega⟩,fun h=>by omega⟩
   ·rw[if_neg J];have Z:x=y:=by omega
    subst Z;exact⟨I.1.trans ⟨fun h=>by omega,fun h=>by omega⟩,I.2.1.trans ⟨fun h=>by rw[h],fun h=>(List.cons.inj h).2⟩,fun h=>by rw[I.2.2 (by omega)]⟩
def hg (l:List Int):Prop:=ik l∧l.length≤6
theorem xG {l:List Int} (h:hg l):0≤hf l∧hf l<64 ^ 6:=by
 have:=rA l h.1;have I:(64:Int) ^ l.length≤64 ^ 6:=by
  have E:=h.2
  match l.length,E with
  |0,_=>decide
  |1,_=>decide
  |2,_=>decide
  |3,_=>decide
  |4,_=>decide
  |5,_=>decide
  |6,_=>decide
  |n+7,h=>omega
 omega
theorem tA {a b:List Int} (I:hg a) (J:hg b):(cD a<cD b↔a.length<b.length∨(a.length=b.length∧eQ a b<0))∧(cD a=cD b→a=b):=by
 have h1:=xG I;have O:=xG J;have e:(64:Int) ^ 6=68719476736:=by decide
 rw[e] at h1 O;unfold cD;rw[e];by_cases E:a.length=b.length
 ·have:=xF a b E I.1 J.1;rw[E];exact⟨⟨fun h=>.inr ⟨rfl,this.1.2 (by omega)⟩,fun h=>by
   rcases h with h|⟨_,h⟩
   ·omega
   ·have:=this.1.1 h;omega⟩,fun h=>this.2.2 (by omega)⟩
 ·exact⟨⟨fun h=>.inl (by omega),fun h=>by
   rcases h with h|⟨h,_⟩
   ·omega
   ·exact absurd h E⟩,fun h=>by omega⟩
theorem rB (g:ch):∀ l:List ch,(fD g l).Perm (g::l)
 |[]=>List.Perm.refl _
 |h::l=>by
  unfold fD;split
  ·exact ((rB g l).cons h).trans (List.Perm.swap g h l)
  ·exact List.Perm.refl _
theorem xH {g:ch}:∀ {l:List ch},l.Pairwise (fun a b=>cD a.1<cD b.1)→(∀ h∈l,cD h.1≠cD g.1)→(fD g l).Pairwise (fun a b=>cD a.1<cD b.1)
 |[],_,_=>by simp[fD]
 |h::l,J,O=>by
  have I:=List.pairwise_cons.1 J;unfold fD;split
  ·rename_i U;refine List.pairwise_cons.2 ⟨fun x E=>?_,xH I.2 fun x E=>O x (.tail _ E)⟩;rcases U6.1 ((rB g l).mem_iff.1 E) with rfl|E
   ·exact U
   ·exact I.1 x E
  ·rename_i V;have:=O h (.head _);refine List.pairwise_cons.2 ⟨fun x E=>?_,J⟩;rcases U6.1 E with rfl|E
   ·omega
   ·have:=I.1 x E;omega
theorem xI:∀ (l acc:List ch),acc.Pairwise (fun a b=>cD a.1<cD b.1)→l.Pairwise (fun a b=>cD a.1≠cD b.1)→(∀ a∈acc,∀ b∈l,cD a.1≠cD b.1)→
  (l.foldl (fun l g=>fD g l) acc).Pairwise (fun a b=>cD a.1<cD b.1)∧(l.foldl (fun l g=>fD g l) acc).Perm (acc++l)
 |[],acc,h,_,_=>⟨h,by simp⟩
 |g::l,acc,h,U,I=>by
  have J:=List.pairwise_cons.1 U;have:=xI l (fD g acc) (xH h fun a E=>I a E g (.head _)) J.2 fun a E b O=>by
   rcases U6.1 ((rB g acc).mem_iff.1 E) with rfl|E
   ·exact J.1 b O
   ·exact I a E b (.tail _ O)
  refine⟨this.1,this.2.trans ?_⟩;exact ((rB g acc).append_right l).trans (List.perm_middle (a:=g) (l₁:=acc) (l₂:=l)).symm
theorem tB {α:Type} {f:α→Int}:∀ {L M:List α},L.Pairwise (fun a b=>f a<f b)→M.Pairwise (fun a b=>f a<f b)→(∀ x,x∈L↔x∈M)→L=M
 |[],M,_,_,h=>by
  cases M with
  |nil=>rfl
  |cons y M=>exact absurd ((h y).2 (.head _)) (by simp)
 |x::L,[],_,_,h=>absurd ((h x).1 (.head _)) (by simp)
 |x::L,y::M,h1,O,h=>by
  have I:=List.pairwise_cons.1 h1;have J:=List.pairwise_cons.1 O;have U:x=y:=by
   rcases U6.1 ((h x).1 (.head _)) with he|hm
   ·exact he
   ·rcases U6.1 ((h y).2 (.head _)) with he|V
    ·exact he.symm
    ·have a:=J.1 x hm;have b:=I.1 y V;omega
  subst U;rw[tB I.2 J.2 fun z=>⟨fun E=>?_,fun E=>?_⟩]
  ·rcases U6.1 ((h z).1 (.tail _ E)) with he|hm
   ·subst he;have:=I.1 z E;omega
   ·exact hm
  ·rcases U6.1 ((h z).2 (.tail _ E)) with he|hm
   ·subst he;have:=J.1 z E;omega
   ·exact hm
structure ey (sizes:List Int) (k:Int) (g:ch):Prop where
 scope:hg g.1
 up:g.1.Pairwise (·< ·)
 vars:∀ v∈g.1,v<sizes.length
 len:g.2.length=(aG (bF sizes g.1)).toNat
 small:aG (bF sizes g.1)≤4096
 hh:∀ c∈g.2,0≤c∧c≤k
theorem nk {sizes:List Int} {sc:List Int} (I:∀ z∈sizes,1≤z∧z≤32) (J:∀ v∈sc,0≤v∧v<sizes.length):∀ z∈bF sizes sc,1≤z∧z≤32:=fun z h=>by
 obtain⟨v,O,rfl⟩:=l9.1 h;obtain⟨h1,U⟩:=J v O;have E:v.toNat<sizes.length:=by omega
 rw[p8,x3 E];exact I _ (T1 E)
theorem Dh {a b:List Int} (h:a.Perm b):aG a=aG b:=by
 induction h with
 |nil=>rfl
 |cons x _ E=>simp only[aG,E]
 |swap x y l=>simp only[aG];rw[←Int.mul_assoc,←Int.mul_assoc,Int.mul_comm y x]
 |trans _ _ h1 I=>exact h1.trans I
theorem Di {k:Int} {a b:List Int} (h:a.length=b.length):(di k a b).length=b.length:=by simp[di,h]
theorem Dj {k:Int} {a b:List Int} (U:0≤k) (I:∀ c∈a,0≤c∧c≤k) (J:∀ c∈b,0≤c∧c≤k):∀ c∈di k a b,0≤c∧c≤k:=by
 induction a generalizing b with
 |nil=>intro c E;simp[di] at E
 |cons x a O=>
  cases b with
  |nil=>intro c E;simp[di] at E
  |cons y b=>
   intro c E;have V:=I x (.head _);have W:=J y (.head _);rcases U6.1 (show c∈min (x+y) k::di k a b from E) with rfl|E
   ·omega
   ·exact O (fun c h=>I c (.tail _ h)) (fun c h=>J c (.tail _ h)) c E
def gH (l:List ch):Prop:=(l.map (·.1)).Nodup
theorem Dk {sizes:List Int} {k:Int} {acc:List ch} {g:ch} (W:0≤k) (O:∀ h∈acc,ey sizes k h) (U:gH acc) (I:ey sizes k g):(∀ h∈gj k acc g,ey sizes k h)∧gH (gj k acc g)∧(gj k acc g).length≤acc.length+1:=by
 unfold gj;split
 ·refine⟨fun h E=>?_,?_,by simp⟩
  ·obtain⟨J,hm,rfl⟩:=l9.1 E;have h1:=O J hm;split
   ·rename_i he;have X:J.2.length=g.2.length:=by rw[h1.len,I.len,he]
    exact⟨h1.scope,h1.up,h1.vars,by show (di k J.2 g.2).length=_;rw[Di X,I.len,he],h1.small,Dj W h1.hh I.hh⟩
   ·exact h1
  ·unfold gH;rw[List.map_map];have e:((fun x:ch=>x.1)∘fun h:ch=>if h.1=g.1 then (h.1,di k h.2 g.2) else h)=fun x:ch=>x.1:=by
    funext h;simp only[Function.comp];split <;> rfl
   rw[e];exact U
 ·rename_i Y;refine⟨fun h E=>?_,?_,by simp⟩
  ·rcases n0.1 E with E|E
   ·exact O h E
   ·rw[o9.1 E];exact I
  ·unfold gH;rw[j4];exact List.nodup_append.2 ⟨U,by simp,fun x Z y V he=>by
    simp only[List.map_cons,List.map_nil,o9] at V;subst V;subst he;exact Y Z⟩
theorem tC {sizes:List Int} {k:Int} (J:0≤k):∀ {l acc:List ch},(∀ h∈acc,ey sizes k h)→gH acc→(∀ g∈l,ey sizes k g)→(∀ h∈l.foldl (gj k) acc,ey sizes k h)∧gH (l.foldl (gj k) acc)∧(l.foldl (gj k) acc).length≤acc.length+l.length
 |[],acc,E,I,_=>⟨E,I,by simp⟩
 |g::l,acc,E,I,O=>by
  obtain⟨h1,U,Y⟩:=Dk J E I (O g (.head _));obtain⟨V,W,Z⟩:=tC J h1 U fun x X=>O x (.tail _ X);exact⟨V,W,by simp only[List.foldl_cons,c8];omega⟩
end Go.Proofs.YtgbkinibgjmodaaGreatDoor
