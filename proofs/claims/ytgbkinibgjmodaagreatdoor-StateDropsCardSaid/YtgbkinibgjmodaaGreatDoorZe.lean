/- own texts, made small by a tool (wip/ holds them as they were written): no statement of the seat. -/
import Derived.Test.YtgbkinibgjmodaaGreatDoorZd
set_option linter.unusedVariables false
set_option linter.unusedSimpArgs false
set_option linter.unnecessarySimpa false
open Array renaming getElem?_eq_some_iff→l7,getElem?_toList→U7
open BitVec renaming ofInt→W6
open Bool renaming not_true→Y1,not_false→X0,eq_iff_iff→X8,and_eq_true→U1,or_eq_false_iff→U5
open Decidable renaming not_not→X2
open Go renaming Value→x4,World→x5,Builtin→u7,TypeId→o6,IntKind→o8,Program→X1,Oper→U8
open Go.Addr renaming add_mid→V9
open Go.Builtin renaming len_→u6,append_→r9
open Go.Instr renaming loadAt→x1,fieldAt→x2,indexAt→x7,storeAt→x8,extract→u5,buildSlice→u9,alloc→n9,sliceAt→c7,build→Z0,box→Z2,index→Y0,lookup→V3,makeSlice→V8
open Go.IntKind renaming i64→Y9,u64→V0
open Go.Op renaming unary→Z5
open Go.Proofs.Tryz renaming prog→y0
open Go.Result renaming andThen→Y4
open Go.Sem renaming run_bind→Y2,run_pure→Y6
open Go.Sort renaming Holds→U4
open Go.Value renaming int→X4
open Int renaming toNat_natCast→c9
open List renaming getElem?_eq_getElem→x3,getElem?_eq_some_iff→x6,mem_of_getElem?→u4,getElem?_map→r8,getD_eq_getElem?_getD→p8,replicate→p9,take_add_one→o3,length_map→o4,length_append→o5,mem_singleton→o9,mem_append→n0,take_length→l5,length_take→l6,mem_map→l9,take_of_length_le→j0,map_append→j4,eq_nil_of_length_eq_zero→j9,length_cons→c8,getElem?_append_left→Z1,getElem?_append_right→Z4,getElem?_take_of_lt→Z6,getElem?_eq_none→Z8,mem_iff_getElem?→Y5,getElem?_set→Y7,drop_eq_getElem_cons→Y8,flatMap_cons→X5,ext_getElem?→X6,range→X7,length_set→W0,pairwise_iff_getElem→W5,length→W8,append_assoc→W9,mem_or_eq_of_mem_set→V1,set_append_right→V2,length_eq_one_iff→V6,getElem?_set_self→V7,append_nil→U3,mem_cons→U6,length_singleton→T0,getElem_mem→T1
open Nat renaming le_refl→o7,zero_le→Z9,le_trans→Y3,mul_le_mul_right→X3,sub_self→W3,add_mul→W7,zero_add→V5,mul_one→U9
open Option renaming toList_some→j5,some→j6,map_some→b6,isNone_some→b8,map_eq_some_iff→Z3,map→X9,getD_some→V4
open Option.some renaming inj→b9,injEq→Z7
open Prod.mk renaming injEq→U2
namespace Go.Proofs.YtgbkinibgjmodaaGreatDoor
open Go Go.Vc Go.RowKit Go.Proofs Go.Proofs.Tryz
set_option maxRecDepth 100000
structure np where
 a6:x4
 aw:x4
 at_:Nat
def jE (x:np):List x4:=[x.a6,x.aw,.int .i64 (x.at_:Int)]
structure qb where
 v:Int
 a6:x4
 bv:x4
def Fe (x:qb):List x4:=[.int .i64 x.v,x.a6,x.bv]
def gq (s:ba):List Int:=(X7 s.vars.length).map fun i=>(eU s i:Int)
def gN (R:av) (w:x5) (v:x4) (l:List Int):Prop:=(∃ g,aq .i64 J w g v l)∧ ∀ r,leads v r→R r
theorem gN.ls {R:av} {w:x5} {v:x4} {l:List Int} (h:gN R w v l):aH .i64 w v l:=by
 obtain⟨⟨g,h⟩,_⟩:=h;exact h.ls
theorem gN.ad {R S:av} {w w':x5} {v:x4} {l:List Int} (h:gN R w v l) (J:aj S w w') (O:∀ r,r<w.heap.size→R r→¬S r):gN R w' v l:=by
 obtain⟨⟨g,h1⟩,E⟩:=h;exact⟨⟨g,bp h1 J fun r I=>O r (by obtain⟨U,V⟩:=bX h1 I;omega) (E r I)⟩,E⟩
theorem gN.mono {R R':av} {w:x5} {v:x4} {l:List Int} (h:gN R w v l) (E:∀ r,R r→R' r):gN R' w v l:=⟨h.1,fun r I=>E r (h.2 r I)⟩
def im (R:av) (w:x5) (L:List np) (s:ba):Prop:=L.length=s.funs.length∧ ∀ (j:Nat) x f,L[j]? =some x→s.funs[j]? =some f→gN R w x.a6 f.sc∧gN R w x.aw f.an∧x.at_=ei s j
def jF (R:av) (w:x5) (E:List qb) (s:ba):Prop:=E.length=s.lI.length∧ ∀ (j:Nat) x e,E[j]? =some x→s.lI[j]? =some e→x.v=e.v∧gN R w x.a6 e.sc∧gN R w x.bv e.hy
theorem im.ad {R S:av} {w w':x5} {L:List np} {s:ba} (h:im R w L s) (E:aj S w w') (I:∀ r,r<w.heap.size→R r→¬S r):im R w' L s:=⟨h.1,fun j x f J O=>by
 obtain⟨h1,U,V⟩:=h.2 j x f J O;exact⟨h1.ad E I,U.ad E I,V⟩⟩
theorem jF.ad {R S:av} {w w':x5} {E:List qb} {s:ba} (h:jF R w E s) (I:aj S w w') (J:∀ r,r<w.heap.size→R r→¬S r):jF R w' E s:=⟨h.1,fun j x f O U=>by
 obtain⟨h1,V,W⟩:=h.2 j x f O U;exact⟨h1,V.ad I J,W.ad I J⟩⟩
theorem im.mono {R R':av} {w:x5} {L:List np} {s:ba} (h:im R w L s) (E:∀ r,R r→R' r):im R' w L s:=⟨h.1,fun j x f I J=>by
 obtain⟨h1,O,U⟩:=h.2 j x f I J;exact⟨h1.mono E,O.mono E,U⟩⟩
theorem jF.mono {R R':av} {w:x5} {E:List qb} {s:ba} (h:jF R w E s) (I:∀ r,R r→R' r):jF R' w E s:=⟨h.1,fun j x f J O=>by
 obtain⟨h1,U,V⟩:=h.2 j x f J O;exact⟨h1,U.mono I,V.mono I⟩⟩
theorem rZ {S:Nat→Prop} {a b c:x5} (h:Ext a b) (k:aj S b c) (J:∀ r o,a.heap[r]? =some o→fw o=true→¬S r):Ext a c:=
 ⟨Y3 h.size k.size,fun r o I E=>k.bw r o (h.bw r o I E) E (J r o I E)⟩
theorem c5.cut {A:av} {w:x5} {ay:Nat} {t:aP} (h:c5 w ay A t):c5 w ay (fun r=>A r∧r<w.heap.size) t:=by
 obtain⟨W,X,go,Y,aM,Z,aa,h1,I,J,O,ab⟩:=h;refine⟨⟨W,h1.lt⟩,X,go,Y,aM,Z,aa,h1,I,J,O,fun r E=>⟨ab r E,?_⟩⟩;rcases E with E|E|E
 ·obtain⟨U,V⟩:=I.leads E;omega
 ·obtain⟨U,V⟩:=J.leads E;omega
 ·obtain⟨U,V⟩:=O.leads E;omega
def ej (w:x5) (aL ay V:Nat) (I O U:x4) (A R:av) (n:bY) (s:ba) (t:aP):Prop:=
 (A aL∧(∀ r,A r→¬R r)∧(∀ r,R r→r<w.heap.size)∧ ∀ r,A r→r<w.heap.size)∧ ∃ X Y Z,∃ (L:List np) (W:List qb) (E:av) (w0:x5),
  ak w aL aR [.pointer (some ⟨V,0,none⟩),.pointer (some ⟨ay,0,none⟩),I,O,U]∧(eT w0 V n∧Ext w0 w∧ ∀ r o,w0.heap[r]? =some o→fw o=true→R r)∧
  (c5 w ay E t∧(∀ r,E r→A r)∧¬E aL∧ ∀ r,leads I r∨leadsTo O r∨leadsTo U r→A r∧¬E r)∧aq .i64 J w X I (gq s)∧
  (aW jE 3 cz w Y O L∧im R w L s)∧aW Fe 3 pg w Z U W∧jF R w W s
theorem ej.ad {S:av} {w w':x5} {aL ay Y:Nat} {Z aa ab:x4} {A R:av} {n:bY} {s:ba} {t:aP} (h:ej w aL ay Y Z aa ab A R n s t) (J:aj S w w') (O:∀ r,r<w.heap.size→A r∨R r→¬S r):ej w' aL ay Y Z aa ab A R n s t:=by
 obtain⟨⟨h1,U,aq,au⟩,aw,ax,az,L,aA,aB,w0,ac,⟨aC,ae,af⟩,⟨aD,V,aE,W⟩,ag,⟨ah,aF⟩,ai,aG⟩:=h;have z:=J.size;refine⟨⟨h1,U,fun r E=>by have:=aq r E;omega,fun r E=>by have:=au r E;omega⟩,aw,ax,az,L,aA,aB,w0,ac.ad J (O _ ac.lt (.inl h1)),⟨aC,rZ ae J fun r o E aH I=>O r (by have:=ae.size;have:=(l7.1 E).1;omega) (.inr (af r o E aH)) I,af⟩,
  ⟨?_,V,aE,W⟩,bp ag J fun r E I=>O r ?_ (.inl (W r (.inl E)).1) I,⟨ah.ad J fun r E I=>O r ?_ (.inl (W r (.inr (.inl E))).1) I,aF.ad J fun r E h=>O r E (.inr h)⟩,ai.ad J fun r E I=>O r ?_ (.inl (W r (.inr (.inr E))).1) I,aG.ad J fun r E h=>O r E (.inr h)⟩
 ·obtain⟨ak,aI,go,aJ,aM,aK,aN,al,am,ao,ap,X⟩:=aD;refine⟨ak,aI,go,aJ,aM,aK,aN,al.ad J (O _ al.lt (.inl (V _ ak))),am.ad J fun r E I=>?_,ao.ad J fun r E I=>?_,ap.ad J fun r E I=>?_,X⟩
  ·exact O r (by obtain⟨h1,U⟩:=am.leads E;omega) (.inl (V _ (X r (.inl E)))) I
  ·exact O r (by obtain⟨h1,U⟩:=ao.leads E;omega) (.inl (V _ (X r (.inr (.inl E))))) I
  ·exact O r (by obtain⟨h1,U⟩:=ap.leads E;omega) (.inl (V _ (X r (.inr (.inr E))))) I
 ·obtain⟨h1,U⟩:=bX ag E;omega
 ·obtain⟨h1,U⟩:=ah.leads E;omega
 ·obtain⟨h1,U⟩:=ai.leads E;omega
theorem ej.ext {w w':x5} {aL ay E:Nat} {I J O:x4} {A R:av} {n:bY} {s:ba} {t:aP} (h:ej w aL ay E I J O A R n s t) (U:Ext w w'):ej w' aL ay E I J O A R n s t:=h.ad (U.ad fun _=>False) fun _ _ _ h=>h
theorem ej.lJ {w:x5} {aL ay ab:Nat} {ac ae af:x4} {A R:av} {n:bY} {s:ba} {t:aP} (h:ej w aL ay ab ac ae af A R n s t):∃ W,c5 w ay W t∧ ∀ V w' Z,Grow W w V w'→c5 w' ay V Z→ ∃ ag,Grow A w ag w'∧ej w' aL ay ab ac ae af ag R n s Z:=by
 obtain⟨⟨h1,O,ah,ai⟩,ax,az,aA,L,aB,W,w0,aj,⟨aC,aD,ak⟩,⟨aE,U,al,X⟩,am,⟨ao,aF⟩,ap,aG⟩:=h;refine⟨W,aE,fun aq w' Z Y aH=>?_⟩;have au:=aH.cut;have I:Grow W w (fun r=>aq r∧r<w'.heap.size) w':=⟨Y.1,fun r E=>Y.2.1 r E.1,fun r E=>⟨Y.2.2 r E,by have:=ai r (U r E);have:=Y.1.size;omega⟩⟩;obtain⟨V,aw⟩:∃ B:av,B=fun r=>aq r∧r<w'.heap.size:=⟨_,rfl⟩;rw[←aw] at au I;have aI:∀ r,V r→r<w'.heap.size:=fun r h=>by rw[aw] at h;exact h.2
 refine⟨fun r=>A r∨V r,⟨I.1.mono fun r _ E=>U r E,fun r E=>?_,fun r E=>.inl E⟩,⟨.inl h1,fun r E aa=>?_,fun r E=>?_,fun r E=>?_⟩,ax,az,aA,L,aB,V,w0,aj.ad I.1 al,⟨aC,rZ aD I.1 fun r o E aJ J=>O r (U r J) (ak r o E aJ),ak⟩,
  ⟨au,fun r E=>.inr E,fun E=>?_,fun r E=>⟨.inl (X r E).1,fun aK=>?_⟩⟩,bp am I.1 fun r E J=>(X r (.inl E)).2 J,⟨ao.ad I.1 fun r E J=>(X r (.inr (.inl E))).2 J,aF.ad I.1 fun r _ E J=>O r (U r J) E⟩,ap.ad I.1 fun r E J=>(X r (.inr (.inr E))).2 J,aG.ad I.1 fun r _ E J=>O r (U r J) E⟩
 ·rcases E with E|E
  ·exact .inl E
  ·exact (I.2.1 r E).imp (U r) id
 ·have:=ah r aa;rcases E with E|E
  ·exact O r E aa
  ·rcases I.2.1 r E with h|h
   ·exact O r (U r h) aa
   ·omega
 ·have:=ah r E;have:=I.1.size;omega
 ·rcases E with E|E
  ·have:=ai r E;have:=I.1.size;omega
  ·exact aI r E
 ·rcases I.2.1 _ E with h|h
  ·exact al h
  ·have:=aj.lt;omega
 ·rcases I.2.1 r aK with h|h
  ·exact (X r E).2 h
  ·rcases E with E|E|E
   ·obtain⟨h1,O⟩:=bX am E;omega
   ·obtain⟨h1,O⟩:=ao.leads E;omega
   ·obtain⟨h1,O⟩:=ap.leads E;omega
def StateM (w:x5) (aL ay:Nat) (A R:av) (n:bY) (s:ba) (t:aP):Prop:=∃ E I J O,ej w aL ay E I J O A R n s t
theorem StateM.ad {S:av} {w w':x5} {aL ay:Nat} {A R:av} {n:bY} {s:ba} {t:aP} (h:StateM w aL ay A R n s t) (E:aj S w w') (I:∀ r,r<w.heap.size→A r∨R r→¬S r):StateM w' aL ay A R n s t:=by
 obtain⟨J,O,U,V,h⟩:=h;exact⟨J,O,U,V,h.ad E I⟩
theorem StateM.ext {w w':x5} {aL ay:Nat} {A R:av} {n:bY} {s:ba} {t:aP} (h:StateM w aL ay A R n s t) (E:Ext w w'):StateM w' aL ay A R n s t:=h.ad (E.ad fun _=>False) fun _ _ _ h=>h
theorem StateM.lJ {w:x5} {aL ay:Nat} {A R:av} {n:bY} {s:ba} {t:aP} (h:StateM w aL ay A R n s t):∃ E,c5 w ay E t∧ ∀ I w' J,Grow E w I w'→c5 w' ay I J→ ∃ O,Grow A w O w'∧StateM w' aL ay O R n s J:=by
 obtain⟨U,V,W,X,h⟩:=h;obtain⟨E,h1,Y⟩:=h.lJ;exact⟨E,h1,fun I w' J Z aa=>by
  obtain⟨O,ab,ac⟩:=Y I w' J Z aa;exact⟨O,ab,U,V,W,X,ac⟩⟩
def nq (s s':ba):Prop:=gq s'=gq s∧s'.funs.length=s.funs.length∧(∀ (j:Nat) E,s'.funs[j]? =some E→ ∃ f,s.funs[j]? =some f∧E.sc=f.sc∧E.an=f.an∧ei s' j=ei s j)∧s'.lI=s.lI
theorem ej.same {w:x5} {aL ay E:Nat} {I J O:x4} {A R:av} {n:bY} {s s':ba} {t:aP} (h:ej w aL ay E I J O A R n s t) (V:nq s s'):ej w aL ay E I J O A R n s' t:=by
 obtain⟨W,X,Y,Z,L,aa,ab,w0,ac,ad,ae,af,⟨ag,U⟩,ah,ai⟩:=h;obtain⟨aj,ak,al,am⟩:=V;refine⟨W,X,Y,Z,L,aa,ab,w0,ac,ad,ae,by rw[aj];exact af,⟨ag,U.1.trans ak.symm,fun j x ao ap aq=>?_⟩,ah,?_⟩
 ·obtain⟨f,au,aw,ax,az⟩:=al j ao aq;rw[aw,ax,az];exact U.2 j x f ap au
 ·unfold jF;rw[am];exact ai
theorem StateM.same {w:x5} {aL ay:Nat} {A R:av} {n:bY} {s s':ba} {t:aP} (h:StateM w aL ay A R n s t) (E:nq s s'):StateM w aL ay A R n s' t:=by
 obtain⟨I,J,O,U,h⟩:=h;exact⟨I,J,O,U,h.same E⟩
theorem r0 {α β:Type} {f:α→List β}:∀ {L:List α} {i j:Nat} {a b:α},L[i]? =some a→(f b).length=(f a).length→(((L.set i b).take j).flatMap f).length=((L.take j).flatMap f).length
 |[],_,_,_,_,h,_=>by simp at h
 |x::L,0,j,a,b,h,E=>by
  cases h;cases j with
  |zero=>rfl
  |succ j=>simp[E]
 |x::L,i+1,j,a,b,h,E=>by
  have h:L[i]? =some a:=by simpa using h
  cases j with
  |zero=>rfl
  |succ j=>
   rw[List.set_cons_succ,List.take_succ_cons,List.take_succ_cons,X5,X5,o5,o5,r0 h E]
theorem Ff (s:ba) (c:Int):nq s {s with zero:=c}:=⟨rfl,rfl,fun j f h=>⟨f,h,rfl,rfl,rfl⟩,rfl⟩
theorem Fg {s:ba} {i:Nat} {x y:gK} (E:s.vars[i]? =some x) (J:y.un.length=x.un.length):nq s {s with vars:=s.vars.set i y}:=by
 have I:(fI y).length=(fI x).length:=by simp[fI,J]
 refine⟨?_,rfl,fun j f h=>⟨f,h,rfl,rfl,?_⟩,rfl⟩
 ·unfold gq;rw[show ({s with vars:=s.vars.set i y}:ba).vars.length=s.vars.length from W0];apply List.map_congr_left;intro j _;unfold eU;rw[r0 E I]
 ·unfold ei;have:=r0 (j:=s.vars.length) E I;rw[j0 (by simp),j0 (o7 _)] at this;show 3+(((s.vars.set i y).flatMap fI).length+_)=_;rw[this]
theorem Fh {s:ba} {i:Nat} {x y:hL} (E:s.funs[i]? =some x) (J:y.cs.length=x.cs.length) (h1:y.sc=x.sc) (O:y.an=x.an):nq s {s with funs:=s.funs.set i y}:=by
 have U:(fT y).length=(fT x).length:=by simp[fT,J]
 refine⟨rfl,W0,fun j f h=>?_,rfl⟩;have h:(s.funs.set i y)[j]? =some f:=h;have e:ei {s with funs:=s.funs.set i y} j=ei s j:=by
  unfold ei;show 3+(_+(((s.funs.set i y).take j).flatMap fT).length)=_;rw[r0 E U]
 by_cases I:i=j
 ·subst I;rw[V7 (x6.1 E).1] at h;cases h;exact⟨x,E,h1,O,e⟩
 ·rw[List.getElem?_set_ne I] at h;exact⟨f,h,rfl,rfl,e⟩
theorem aP.r1 (t:aP) (i:Nat) (x:Int):(t.set i x).marks=t.marks:=by
 unfold aP.set;cases t.cells[i]? with
 |none=>rfl
 |some c=>
  simp only;cases t.marks.getLast? with
  |none=>rfl
  |some m=>simp only;split <;> rfl
theorem aP.yG (t:aP) (i:Nat) (x:Int):(t.set i x).cells.length=t.cells.length:=by
 have h:=congrArg W8 (aP.pu (t:=t) (i:=i) (x:=x));rw[W0] at h;unfold aP.b1 at h;rwa [o4,o4] at h
theorem aP.yH (t:aP) (i:Nat) (x:Int):(t.set i x).olds.length≤t.olds.length+1:=by
 unfold aP.set;cases t.cells[i]? with
 |none=>exact Nat.le_succ _
 |some c=>
  simp only;cases t.marks.getLast? with
  |none=>exact Nat.le_succ _
  |some m=>simp only;split <;> simp
theorem aP.tY {t:aP} (h:t.marks=[]) (i:Nat) (x:Int):(t.set i x).olds=t.olds:=by
 unfold aP.set;cases t.cells[i]? with
 |none=>rfl
 |some c=>simp only[h,List.getLast?_nil]
def eV (t:aP) (l:List Int):Nat→aP
 |0=>t.grow l.length
 |i+1=>(eV t l i).set (t.cells.length+i) (l.getD i 0)
def kx (t:aP) (l:List Int):aP:=eV t l l.length
theorem qc (t:aP) (l:List Int):∀ i,(eV t l i).marks=t.marks
 |0=>rfl
 |i+1=>(aP.r1 _ _ _).trans (qc t l i)
theorem tZ (t:aP) (l:List Int):∀ i,(eV t l i).cells.length=t.cells.length+l.length
 |0=>by simp[eV,aP.grow]
 |i+1=>(aP.yG _ _ _).trans (tZ t l i)
theorem ua (t:aP) (l:List Int):∀ i,(eV t l i).olds.length≤t.olds.length+i
 |0=>o7 _
 |i+1=>by have:=aP.yH (eV t l i) (t.cells.length+i) (l.getD i 0);have:=ua t l i;show (aP.set _ _ _).olds.length≤_;omega
theorem yI {t:aP} (h:t.marks=[]) (l:List Int):∀ i,(eV t l i).olds=t.olds
 |0=>rfl
 |i+1=>(aP.tY ((qc t l i).trans h) _ _).trans (yI h l i)
theorem yJ (t:aP) (l:List Int):∀ i,i≤l.length→(eV t l i).b1=t.b1++(l.take i++p9 (l.length-i) 0)
 |0,_=>by rw[List.take_zero,List.nil_append];exact aP.A0
 |i+1,h=>by
  have E:=yJ t l i (by omega);show (aP.set _ _ _).b1=_;have I:t.b1.length=t.cells.length:=by simp[aP.b1]
  rw[aP.pu,E,V2 _ _ (by omega),I,Nat.add_sub_cancel_left,V2 _ _ (by rw[l6];omega),l6,Nat.min_eq_left (by omega),W3,show l.length-i=(l.length-(i+1))+1 by omega,List.replicate_succ,List.set_cons_zero,o3,p8,x3 (show i<l.length by omega)];simp only[j5,V4,W9,List.singleton_append]
theorem yK (t:aP) (l:List Int):(kx t l).b1=t.b1++l:=by
 unfold kx;rw[yJ t l _ (o7 _),l5,W3,List.replicate_zero,U3]
theorem hA.eV {h:List aP} {t:aP} (E:hA t h) (l:List Int):∀ i,hA (eV t l i) h
 |0=>E.grow
 |i+1=>(hA.eV E l i).set
theorem lA {s:Go.Sem x4} {x:x4} {w:x5} (h:I y0 s w (fun v=>v=x)):al y0 s x w:=by
 obtain⟨v,h,rfl⟩:=h;exact h
theorem r2 {w:x5} {aL off:Nat} {z:Nat} {ty:o6} {e:o6} {cs:List x4} {x:x4} (E:ak w aL e cs) (J:∀ (K:x4→Prop),I y0 (x2 aR (.pointer (some ⟨aL,0,none⟩)) z) w K=K (.pointer (some ⟨aL,0+off,none⟩))) (O:kc y0 ty=true) (U:cs[0+off]? =some x):
  al y0 (x1 ty (.pointer (some ⟨aL,0+off,none⟩))) x w∧al y0 (x2 aR (.pointer (some ⟨aL,0,none⟩)) z) (.pointer (some ⟨aL,0+off,none⟩)) w∧al y0 (am (.pointer (some ⟨aL,0,none⟩))) (.pointer (some ⟨aL,0,none⟩)) w∧True:=
 ⟨vJ O (E.cell U),lA (by rw[J]),lA (by rw[az]),trivial⟩
set_option maxHeartbeats 2000000 in
theorem yL {w:x5} {aL ay X:Nat} {Y Z aa:x4} {A R:av} {n:bY} {s:ba} {t:aP} {I:x4} {l:List Int} (h:ej w aL ay X Y Z aa A R n s t) (ab:aH .i64 w I l) (ao:∀ r,leads I r→¬A r) (a6:t.cells.length+l.length≤100000000) (a7:t.olds.length+l.length≤100000000) (hm:t.marks.length≤100000000):
  O y0 iF [.pointer (some ⟨aL,0,none⟩),I] w fun v w'=>v= .int .i64 (t.cells.length:Int)∧ ∃ J,Grow A w J w'∧ej w' aL ay X Y Z aa J R n s (kx t l):=by
 apply iF.enter;obtain⟨_,ap,aq,aw,L,ax,_,w0,ac,_⟩:=id h;obtain⟨aA,ad,aj⟩:=h.lJ;rw[az,ah aR.p rfl,ai (by kernel_rfl) (ac.cell (o:=0+1) rfl),aO af.u ab];refine (E2 (n:=l.length) ad ⟨by omega,by omega,hm⟩ (by omega)).mono ?_;rintro _ aB _ ⟨rfl,aC,aD,aE⟩;obtain⟨aF,ak,aG⟩:=aj aC aB _ aD aE;have al:∀ {J:av} {w':x5},Grow A w J w'→aH .i64 w' I l:=fun aI=>hB ab aI.1 fun r aJ a aM c aN aQ=>ao r ⟨a,aM,c,aN,aQ⟩ aJ;rw[aO af.u (al ak)];have aS:=ab.le;refine bc.range l.length (fun i U=>∃ E,Grow A w E U∧ej U aL ay X Y Z aa E R n s (eV t l i)) aS ⟨aF,ak,aG⟩ ?_ ?_
 ·rintro i U k hi ⟨E,V,W⟩ aT;rw[au,ag];refine⟨fun _=>?_,fun h=>by omega⟩;obtain⟨x,am⟩:∃ x,l[i]? =some x:=⟨_,x3 hi⟩;rw[bm af.u ae.i (by kernel_rfl) (al V) am];obtain⟨_,ap,aq,aw,L,ax,_,w0,ac,_⟩:=id W;obtain⟨aA,ad,aj⟩:=W.lJ;have a8:=tZ t l i;have bb:=ua t l i;have aU:=qc t l i;rw[az,ah aR.p rfl,ai (by kernel_rfl) (ac.cell (o:=0+1) rfl),aK,wrap_i64 (by omega) (by omega)];refine (rX (i:=t.cells.length+i) ad (by omega) (by omega) ⟨by omega,by omega,by rw[aU];exact hm⟩).mono ?_;rintro _ aV _ ⟨rfl,aW,aX,aY⟩;obtain⟨aZ,a1,a2⟩:=aj aW aV _ aX aY;rw[aK];refine aT _ ⟨aZ,V.trans a1,?_⟩;have e:eV t l (i+1)=(eV t l i).set (t.cells.length+i) x:=by
   show (eV t l i).set _ (l.getD i 0)=_;rw[p8,am];rfl
  rw[e];exact a2
 ·rintro U k ⟨E,V,W⟩;rw[au,ag];exact⟨fun h=>by omega,fun _=>⟨rfl,E,V,W⟩⟩
def gO (s:ba) (sc an cs:List Int):ba:={s with funs:=s.funs++[⟨sc,an,1,cs⟩]}
def lK (s:ba) (t:aP) (cs:List Int):aP:=(kx t (1::cs)).set 1 ((s.funs.length+1:Nat):Int)
theorem Fi {s:ba} {t:aP} {sc an cs:List Int} (h:t.b1=s.cells):(lK s t cs).b1=(gO s sc an cs).cells:=by
 unfold lK gO;rw[aP.pu,yK,h,←E7];rfl
set_option maxHeartbeats 4000000 in
theorem Fj {w:x5} {aL ay bi:Nat} {bk aV bl:x4} {A R:av} {n:bY} {s:ba} {t:aP} {a6:x4} {sc an cs:List Int} {g b4:Nat} {au:x4} {k:Int}
  (h:ej w aL ay bi bk aV bl A R n s t) (cA:t.b1=s.cells) (cB:aH .i64 w a6 sc) (dA:∀ r,leads a6 r→¬A r) (bm:cG w g b4 au an k cs) (b5:¬A g∧¬A b4∧ ∀ r,leads au r→¬A r) (dB:sc.length≤1000)
  (bn:t.cells.length+cs.length+1≤100000000) (bo:t.olds.length+cs.length+1≤100000000) (hm:t.marks.length≤100000000) (dC:s.funs.length≤1000000):
  O y0 n8 [.pointer (some ⟨aL,0,none⟩),a6,.pointer (some ⟨g,0,none⟩)] w fun v w'=>v= .int .i64 (s.funs.length:Int)∧ ∃ bc R' bI,Grow A w bc w'∧ej w' aL ay bi bk bI bl bc R' n (gO s sc an cs) (lK s t cs)∧(∀ r,R r→R' r)∧ ∀ r,R' r→R r∨leads au r∨w.heap.size≤r:=by
 have dE:t.cells.length=s.cells.length:=by rw[←cA];simp[aP.b1]
 have dG:=tW s;have cC:ei (gO s sc an cs) s.funs.length=t.cells.length:=by
  unfold ei gO;simp only[List.take_left];omega
 have cD:∀ j,j<s.funs.length→ei (gO s sc an cs) j=ei s j:=fun j bJ=>by
  unfold ei gO;simp only[List.take_append_of_le_length (show j≤s.funs.length by omega)]
 have cE:gq (gO s sc an cs)=gq s:=rfl;apply n8.enter;refine dF (fun bK=>∃ bc R' bI,Grow A w bc bK∧ej bK aL ay bi bk bI bl bc R' n (gO s sc an cs) (kx t (1::cs))∧(∀ r,R r→R' r)∧ ∀ r,R' r→R r∨leads au r∨w.heap.size≤r) ?_ ?_
 ·rintro bK ⟨dH,cF,cH,cI,cK,cL,cM⟩;intro dI b6 _ _;have b7:=cK.ext b6;obtain⟨_,bq,bL,br,L,bt,_,w0,aE,_,_,_,⟨bd,bu⟩,_⟩:=id b7;have bw:L.length=s.funs.length+1:=by rw[bu.1];simp[gO]
  rw[az,ah aR.p rfl,ai (by kernel_rfl) (aE.cell (o:=0+1) rfl),az,ah aR.p rfl,ai (by kernel_rfl) (aE.cell (o:=0+3) rfl),dZ bj.u bd];obtain⟨b8,cN,cO⟩:=b7.lJ;have cP:=tZ t (1::cs) (1::cs).length;have cQ:=ua t (1::cs) (1::cs).length;have cR:=qc t (1::cs) (1::cs).length;simp only[c8] at cP cQ;refine (rX (i:=1) (y:=1) cN rfl (by show 1<(eV _ _ _).cells.length;simp only[c8];omega) ⟨by show (eV _ _ _).cells.length≤_;simp only[c8];omega,by show (eV _ _ _).olds.length≤_;simp only[c8];omega,by show (eV _ _ _).marks.length≤_;rw[cR];exact hm⟩).mono ?_;rintro _ cS _ ⟨rfl,cT,cU,cV⟩;obtain⟨cX,cY,b9⟩:=cO cT cS _ cU cV;obtain⟨_,bq,bL,br,cZ,bt,_,w0,aE,_,_,_,⟨bd,c0⟩,_⟩:=id b9;have dJ:cZ.length=s.funs.length+1:=by rw[c0.1];simp[gO]
  rw[az,ah aR.p rfl,ai (by kernel_rfl) (aE.cell (o:=0+3) rfl),dZ bj.u bd,dD,wrap_i64 (by omega) (by omega)];refine⟨by congr 1;omega,cX,cF,cH,cI.trans ((Grow.ext b6).trans cY),?_,cL,cM⟩;have e:lK s t cs=(kx t (1::cs)).set 1 (L.length:Int):=by unfold lK;rw[bw]
  rw[e];exact b9
 intro c1 c2;intro aQ aZ _ _;have ca:=h.ext aZ;obtain⟨_,bq,bL,br,L,bt,_,w0,aE,_⟩:=id ca;rw[az,ah aR.p rfl,ai (by kernel_rfl) (aE.cell (o:=0+3) rfl)];have z4:=aZ.size;have bx:∀ {V:x5} {aA aw:x4} {a1 aB:Nat},Ext aQ V→w.heap.size≤a1→w.heap.size≤aB→aq .i64 J V a1 aA sc→aq .i64 ae V aB aw (1::cs)→(∀ r,leads aA r∨leads aw r→¬A r)→
   O y0 iF [.pointer (some ⟨aL,0,none⟩),aw] V fun c3 aF=>
    (Ext aQ aF∨al y0 (x1 bj (.pointer (some ⟨aL,0+3,none⟩))) aV aF∧al y0 (x2 aR (.pointer (some ⟨aL,0,none⟩)) 3) (.pointer (some ⟨aL,0+3,none⟩)) aF∧al y0 (am (.pointer (some ⟨aL,0,none⟩))) (.pointer (some ⟨aL,0,none⟩)) aF∧True)∧
    I y0 (Z0 cz #[(0,aA),(1,.agg #[au]),(2,c3)]) aF fun t22=>
    aa y0 (u9 bj 1 #[(0,t22)]) aF fun c4 aG=>
     (Ext aQ aG∨al y0 (x1 bj (.pointer (some ⟨aL,0+3,none⟩))) aV aG∧al y0 (x2 aR (.pointer (some ⟨aL,0,none⟩)) 3) (.pointer (some ⟨aL,0+3,none⟩)) aG∧al y0 (am (.pointer (some ⟨aL,0,none⟩))) (.pointer (some ⟨aL,0,none⟩)) aG∧True)∧
    aa y0 (r9 #[bj,bj] bj #[aV,c4]) aG fun c5 bz=>
     I y0 (am (.pointer (some ⟨aL,0,none⟩))) bz fun t25=>
     I y0 (x2 aR t25 3) bz fun c7=>
     aa y0 (x8 bj c7 c5) bz fun(_:Unit) a2=>
      c1 a2:=by
  intro V aA aw a1 aB W cb ax Y ab bM;have c9:=ca.ext W;refine (yL c9 ab.ls (fun r E=>bM r (.inr E)) (by simp only[c8];omega) (by simp only[c8];omega) hm).mono ?_;rintro _ aF _ ⟨rfl,be,a7,da⟩;obtain⟨⟨cc,cd,db,ce⟩,bq,bL,br,L,bt,b8,w0,aE,⟨dc,dd,cg⟩,⟨de,ch,ci,aS⟩,bN,⟨bd,bu⟩,bO,df⟩:=id da;have aM:aq .i64 J aF a1 aA sc:=bp Y a7.1 fun r E=>bM r (.inl E);have bA:aq .i64 J V (Classical.choose (show ∃ gs,aq .i64 J w gs au an from by obtain⟨⟨_,gs,_,q,_⟩,_⟩:=bm;exact⟨gs,q⟩)) au an:=((Classical.choose_spec (show ∃ gs,aq .i64 J w gs au an from by obtain⟨⟨_,gs,_,q,_⟩,_⟩:=bm;exact⟨gs,q⟩)).ext aZ).ext W;have dg:=bp bA a7.1 b5.2.2;refine⟨.inr (r2 (off:=3) (z:=3) aE (fun K=>by rw[ah aR.p rfl]) (by kernel_rfl) rfl),?_⟩;rw[cW (cs:=#[aA,au,.int .i64 (t.cells.length:Int)]) (by obtain⟨_,_,_,rfl⟩:=c6 Y.ls;obtain⟨_,_,_,rfl⟩:=c6 bA.ls;kernel_rfl)];let a:np:=⟨aA,au,t.cells.length⟩;have dh:∀ u∈jE a,u.oneCell'=true:=by
   intro u hu;simp[jE] at hu;rcases hu with rfl|rfl|rfl
   ·exact Y.ls.cells.2
   ·exact bA.ls.cells.2
   ·rfl
  refine ff (f:=jE) (a:=a) bj.u cz.i (by omega) rfl rfl fun dK dL aG dM Z di=>?_;refine⟨.inr (r2 (off:=3) (z:=3) (aE.ext Z) (fun K=>by rw[ah aR.p rfl]) (by kernel_rfl) rfl),?_⟩;have bB:=bd.ext Z;have bw:L.length=s.funs.length:=bu.1;refine fo (f:=jE) (a:=a) bj.u cz.i rfl bB (by simpa using di.sl) dh (by omega) (by omega) fun cj dj bz bf dk ck=>?_;have bC:=aE.ext Z;have cl:=bC.ad ck fun he=>cp bB bC (by decide) he;rw[az,ah aR.p rfl];refine bE bj.i (cJ bf.sl).1 (cJ bf.sl).2 cl (by simp) fun a2 bP dN bQ=>?_;have bQ:ak a2 aL aR [.pointer (some ⟨bi,0,none⟩),.pointer (some ⟨ay,0,none⟩),bk,cj,bl]:=bQ;have aN:aj (fun r=>leadsTo aV r∨r=aL) aG a2:=(ck.mono fun r _ h=>.inl h).trans (bP.mono fun r _ h=>.inr h);have z9:=W.size;have dO:=a7.1.size;have dP:=Z.size;have dQ:=aN.size;have bR:∀ r,(leadsTo aV r∨r=aL)→be r:=fun r E=>E.elim (fun E=>(aS r (.inr (.inl E))).1) fun E=>E▸cc;have bS:∀ r,(leadsTo aV r∨r=aL)→¬R r:=fun r E=>cd r (bR r E);let dl:av:=fun r=>be r∨(aG.heap.size≤r∧r<a2.heap.size);let bT:av:=fun r=>R r∨(leads au r∧r<aF.heap.size)∨(leads aA r∧r<aF.heap.size);have dR:∀ r,r<w.heap.size→be r→A r:=fun r E h=>(a7.2.1 r h).elim id fun h=>by omega
  have bU:∀ r,leads aA r→w.heap.size≤r∧r<V.heap.size:=fun r E=>by obtain⟨h1,a8⟩:=bX Y E;omega
  have cm:∀ r,leads au r→r<V.heap.size:=fun r E=>by obtain⟨h1,a8⟩:=bX bA E;omega
  have bD:∀ r,leads aA r∨leads au r→¬be r:=fun r E dm=>by
   rcases a7.2.1 r dm with h|h
   ·rcases E with E|E
    ·exact bM r (.inl E) h
    ·exact b5.2.2 r E h
   ·rcases E with E|E
    ·have:=bU r E;omega
    ·have:=cm r E;omega
  refine c2 _ ⟨dl,bT,cj,(Grow.ext (aZ.trans W)).trans (a7.trans ((Grow.ext Z).trans ⟨aN.mono fun r _ E=>bR r E,fun r E=>E.imp id And.left,fun r E=>.inl E⟩)),?_,fun r E=>.inl E,fun r E=>?_⟩
  rotate_left
  ·rcases E with E|E|E
   ·exact .inl E
   ·exact .inr (.inl E.1)
   ·exact .inr (.inr (bU r E.1).1)
  have cn:∀ {v:x4} {bg:Nat} {l:List Int},aq .i64 J aG bg v l→(∀ r,leads v r→¬be r)→aq .i64 J a2 bg v l:=fun hm dn=>bp hm aN fun r E X=>dn r E (bR r X);have cq:∀ r,bT r→r<aG.heap.size:=fun r E=>by
   rcases E with E|E|E
   ·have:=db r E;omega
   ·omega
   ·omega
  refine⟨⟨.inl cc,fun r E aT=>?_,fun r E=>by have:=cq r E;omega,fun r E=>E.elim (fun E=>by have:=ce r E;omega) And.right⟩,bq,dj,br,L++[a],bt,b8,w0,bQ,⟨dc,rZ (dd.trans Z) aN fun r o E bo X=>bS r X (cg r o E bo),fun r o E bo=>.inl (cg r o E bo)⟩,⟨(de.ext Z).ad aN fun r E X=>?_,fun r E=>.inl (ch r E),ci,fun r E=>?_⟩,?_,⟨bf.ad bP fun r E he=>?_,?_⟩,(bO.ext Z).ad aN fun r E X=>?_,?_⟩
  ·have:=cq r aT;rcases E with E|E
   ·rcases aT with aT|aT|aT
    ·exact cd r E aT
    ·exact bD r (.inr aT.1) E
    ·exact bD r (.inl aT.1) E
   ·omega
  ·rcases X with X|rfl
   ·exact (aS r (.inr (.inl X))).2 E
   ·exact ci E
  ·rcases E with E|E|E
   ·exact⟨.inl (aS r (.inl E)).1,(aS r (.inl E)).2⟩
   ·obtain⟨h1,a8⟩:=bf.leads E;rcases dk r E with h|h
    ·exact⟨.inl (aS r (.inr (.inl h))).1,(aS r (.inr (.inl h))).2⟩
    ·refine⟨.inr ⟨h,by have:=bP.size;omega⟩,fun dp=>?_⟩;have:=ce r (ch r dp);omega
   ·exact⟨.inl (aS r (.inr (.inr E))).1,(aS r (.inr (.inr E))).2⟩
  ·rw[cE];exact bp (bN.ext Z) aN fun r E X=>by
    rcases X with X|rfl
    ·obtain⟨rfl,c,bn⟩:=dr bB X;exact bW (bN.ext Z) bn (by decide) E rfl
    ·exact bW (bN.ext Z) bC (by decide) E rfl
  ·have he:r=aL:=he;subst he;exact cp bf cl (by decide) E
  ·refine⟨by rw[o5,bw];simp[gO],fun j x f bF aW=>?_⟩;have aW:(s.funs++[⟨sc,an,1,cs⟩])[j]? =some f:=aW;by_cases bJ:j<s.funs.length
   ·rw[Z1 (by omega)] at bF;rw[Z1 bJ] at aW;obtain⟨dq,ds,dt⟩:=((((im.ad bu (Z.ad fun _=>False) fun _ _ _ h=>h).ad aN fun r _ E X=>bS r X E).mono (R':=bT) fun r E=>.inl E)).2 j x f bF aW;exact⟨dq,ds,by rw[cD j bJ];exact dt⟩
   ·have bV:j=s.funs.length:=by have:=(x6.1 aW).1;simp at this;omega
    rw[Z4 (by omega),bw,bV,W3] at bF;rw[Z4 (by omega),bV,W3] at aW;cases bF;cases aW;refine⟨⟨⟨_,cn (aM.ext Z) fun r E=>bD r (.inl E)⟩,fun r E=>.inr (.inr ⟨E,?_⟩)⟩,⟨⟨_,cn (dg.ext Z) fun r E=>bD r (.inr E)⟩,fun r E=>.inr (.inl ⟨E,?_⟩)⟩,?_⟩
    ·have:=bU r E;omega
    ·have:=cm r E;omega
    ·rw[bV,cC]
  ·rcases X with X|rfl
   ·obtain⟨rfl,c,bn⟩:=dr bB X;exact cp (bO.ext Z) bn (by decide) E
   ·exact cp (bO.ext Z) bC (by decide) E
  ·exact ((jF.ad df (Z.ad fun _=>False) fun _ _ _ h=>h).ad aN fun r _ E X=>bS r X E).mono fun r E=>.inl E
 have bb:=bm.ext aZ;have cr:=cB.ext aZ;have du:∀ r,A r→r<w.heap.size:=h.1.2.2.2;obtain⟨_,⟨_,_,dS⟩,dT,dU⟩:=id bm;have dV:cs.length≤4096:=by omega
 have bG:∀ {aI:x5} {aX aY:x4} {ap:Nat} {K:x4→x5→Prop},Ext aQ aI→aQ.heap.size≤ap→aq .i64 ae aI ap aX [1]→aH .i64 aI aY cs→
   (∀ aw aB V,Ext aQ V→aj (fun r=>r=ap) aI V→w.heap.size≤aB→aq .i64 ae V aB aw (1::cs)→(Ext aQ V→K aw V))→aa y0 (r9 #[af,af] af #[aX,aY]) aI K:=by
  intro aI aX aY ap K U bH aJ aO dv;refine hb af.u ae.i rfl aJ aO (by simp;omega) (by simp;omega) fun aw aB V ax ab aK=>?_;have W:Ext aQ V:=U.then aK fun r E he=>by have he:r=ap:=he;omega
  have dw:=U.size;exact dv aw aB V W aK (by omega) ab W
 have aU:∀ {v:x4} {bg:Nat} {dx:o8} {e:o6} {dy:x5} {l:List Int},aq dx e dy bg v l→w.heap.size≤bg→ ∀ r,leads v r→¬A r:=fun hm dX r E dz=>by
  obtain⟨h1,_⟩:=bX hm E;have:=du r dz;omega
 refine⟨?_,?_⟩
 ·refine (jv cr (by omega)).mono ?_;rintro aA ct _ ⟨ac,a1,cb,Y⟩;have z5:=ac.size;refine⟨.inl ac,?_,?_⟩
  ·refine (nc (bb.ext ac)).mono ?_;rintro _ cu _ ⟨rfl,ag⟩;have aC:=ac.trans ag;have dY:=aC.size;have ea:=ag.size;have cw:=(bb.ext ac).ext ag;refine⟨.inl aC,?_,?_⟩
   ·refine dW af.u ae.i rfl fun aX ap aI bH U aJ=>?_;refine⟨.inl (aC.trans U),?_⟩;refine (ko (cw.ext U)).mono ?_;rintro aY bZ _ ⟨ao,b2,b3,aO⟩;have aD:=(aC.trans U).trans ao;refine⟨.inl aD,?_⟩;refine bG aD (by omega) (aJ.ext ao) aO.ls fun aw aB V W aK ax ab _=>⟨.inl W,?_⟩;have aM:=bp (((Y.ext ag).ext U).ext ao) aK fun r E he=>by have he:r=ap:=he;obtain⟨h1,a8⟩:=bX Y E;omega
    exact bx W (by omega) ax aM ab fun r E=>E.elim (aU Y (by omega) r) (aU ab ax r)
   ·refine (ko cw).mono ?_;rintro aY aI _ ⟨U,b2,b3,aO⟩;refine⟨.inl (aC.trans U),?_⟩;have dw:=U.size;refine dW af.u ae.i rfl fun aX ap bZ bH ao aJ=>?_;have aD:=(aC.trans U).trans ao;refine⟨.inl aD,?_⟩;refine bG aD (by omega) aJ (aO.ls.ext ao) fun aw aB V W aK ax ab _=>⟨.inl W,?_⟩;have aM:=bp (((Y.ext ag).ext U).ext ao) aK fun r E he=>by have he:r=ap:=he;obtain⟨h1,a8⟩:=bX Y E;omega
    exact bx W (by omega) ax aM ab fun r E=>E.elim (aU Y (by omega) r) (aU ab ax r)
  ·refine dW af.u ae.i rfl fun aX ap cu bH ag aJ=>?_;have aC:=ac.trans ag;refine⟨.inl aC,?_⟩;refine (nc ((bb.ext ac).ext ag)).mono ?_;rintro _ aI _ ⟨rfl,U⟩;have bh:=aC.trans U;refine⟨.inl bh,?_⟩;refine (ko (((bb.ext ac).ext ag).ext U)).mono ?_;rintro aY bZ _ ⟨ao,b2,b3,aO⟩;have aD:=bh.trans ao;refine⟨.inl aD,?_⟩;refine bG aD (by omega) ((aJ.ext U).ext ao) aO.ls fun aw aB V W aK ax ab _=>⟨.inl W,?_⟩;have aM:=bp (((Y.ext ag).ext U).ext ao) aK fun r E he=>by have he:r=ap:=he;obtain⟨h1,a8⟩:=bX Y E;omega
   exact bx W (by omega) ax aM ab fun r E=>E.elim (aU Y (by omega) r) (aU ab ax r)
 ·refine dW af.u ae.i rfl fun aX ap ct bH ac aJ=>?_;refine⟨.inl ac,?_⟩;have z5:=ac.size;have eb:ap<ct.heap.size:=rH aJ (by simp);refine (jv (cr.ext ac) (by omega)).mono ?_;rintro aA cu _ ⟨ag,a1,cb,Y⟩;have aC:=ac.trans ag;refine⟨.inl aC,?_⟩;refine (nc ((bb.ext ac).ext ag)).mono ?_;rintro _ aI _ ⟨rfl,U⟩;have bh:=aC.trans U;refine⟨.inl bh,?_⟩;refine (ko (((bb.ext ac).ext ag).ext U)).mono ?_;rintro aY bZ _ ⟨ao,b2,b3,aO⟩;have aD:=bh.trans ao;refine⟨.inl aD,?_⟩;refine bG aD (by omega) (((aJ.ext ag).ext U).ext ao) aO.ls fun aw aB V W aK ax ab _=>⟨.inl W,?_⟩;have aM:=bp ((Y.ext U).ext ao) aK fun r E he=>by have he:r=ap:=he;obtain⟨h1,a8⟩:=bX Y E;omega
  exact bx W (by omega) ax aM ab fun r E=>E.elim (aU Y (by omega) r) (aU ab ax r)
theorem gr {P:X1} {w:x5} {t e ty:o6} {k:o8} {b g:Nat} {z v x:x4} {l m:List Int} {K:x4→x5→Prop} (W:P.underlying t=some (.slice e)) (hi:aI P e 1 b z) (X:z.cells.size=1)
  (h:aq k e w g v l) (Y:aH k w x m) (Z:(l.length+m.length)*b≤140737488355328) (ab:l.length+m.length≤9223372036854775807)
  (ac:∀ E I w',aq k e w' I E (l++m)→(∀ r,leads E r→leads v r∨w.heap.size≤r)→aj (fun r=>leads v r) w w'→K E w'):aa P (r9 #[t,t] ty #[v,x]) w K:=by
 rcases h.2 with⟨O,ad⟩|⟨cap,cs,O,ag,ah⟩
 ·have ae:l=[]:=j9 ad;subst ae;have h':aq k e w w.heap.size v []:=by rw[O];exact aq.nil _ _ _ _
  refine hb W hi X h' Y Z ab fun E I w' U hm V=>ac E I w' hm (fun r J=>.inr ?_) (V.mono fun r J he=>by have he:r=w.heap.size:=he;omega);obtain⟨af,_⟩:=bX hm J;omega
 ·refine hb W hi X h Y Z ab fun E I w' U hm V=>ac E I w' hm (fun r J=>?_) (V.mono fun r J he=>⟨_,_,_,O,he.symm⟩);obtain⟨af,_⟩:=bX hm J;rcases U with U|U
  ·exact .inl ⟨_,_,_,O,by show g=r;omega⟩
  ·exact .inr (by omega)
def addVar (s:ba) (u:List Int):ba:={s with vars:=s.vars++[newVar u]}
theorem Fk (s:ba) (u:List Int):gq (addVar s u)=gq s++[((3+(s.vars.flatMap fI).length:Nat):Int)]:=by
 unfold gq addVar;rw[o5,T0,List.range_succ,j4];congr 1
 ·apply List.map_congr_left;intro i hi;have:=List.mem_range.1 hi;unfold eU;simp only[List.take_append_of_le_length (show i≤s.vars.length by omega)]
 ·simp[eU]
theorem Fl {s:ba} {u:List Int} (E:s.funs=[]):(addVar s u).cells=s.cells++(0::0::u):=by
 unfold ba.cells addVar hj;simp only[E,List.flatMap_nil,U3,List.flatMap_append,List.flatMap_singleton,W9];rfl
def dT (n:bY) (i j:Nat):ba:=⟨n.zero,(n.unary.take i).map newVar,(n.funs.take j).map (kw n.sizes),[]⟩
theorem yM {n:bY} {i:Nat} {u:List Int} (h:n.unary[i]? =some u):dT n (i+1) 0=addVar (dT n i 0) u:=by
 unfold dT addVar;simp only[o3,h,j5,j4,List.map_singleton]
theorem Fm {n:bY} {i j:Nat} {g:ch} (h:n.funs[j]? =some g):dT n i (j+1)=gO (dT n i j) g.1 (bF n.sizes g.1) g.2:=by
 unfold dT gO;simp only[o3,h,j5,j4,List.map_singleton];rfl
theorem yN (n:bY):dT n n.unary.length n.funs.length=dQ n:=by
 unfold dT dQ;rw[l5,l5]
theorem ub {α β:Type} {f:α→List β} {b:Nat}:∀ {L:List α},(∀ x∈L,(f x).length≤b)→(L.flatMap f).length≤L.length*b
 |[],_=>by simp
 |x::L,h=>by
  rw[X5,o5,c8,W7];have:=ub (L:=L) fun y E=>h y (.tail _ E);have:=h x (.head _);omega
theorem uc {n:bY} (E:hI n) (Z:n.funs.length≤256) (i j:Nat):(dT n i j).cells.length≤2000000:=by
 rw[tW];have h1:=ub (f:=fI) (b:=34) (L:=(dT n i j).vars) fun x J=>by
  obtain⟨u,hu,rfl⟩:=l9.1 (show x∈(n.unary.take i).map newVar from J);obtain⟨p,O⟩:=Y5.1 (List.mem_of_mem_take hu);have aa:=E.il;have ab:=(x6.1 O).1;obtain⟨z,U⟩:∃ z,n.sizes[p]? =some z:=⟨_,x3 (by omega)⟩;have W:=(E.unary p z u U O).1;have I:=E.sizes.2.2 z (u4 U);show u.length+2≤34;omega
 have W:=ub (f:=fT) (b:=4097) (L:=(dT n i j).funs) fun x J=>by
  obtain⟨g,X,rfl⟩:=l9.1 (show x∈(n.funs.take j).map (kw n.sizes) from J);have I:=(E.funs g (List.mem_of_mem_take X)).1;have V:=I.len;have Y:=I.small;show g.2.length+1≤4097;omega
 have I:(dT n i j).vars.length≤64:=by
  show ((n.unary.take i).map newVar).length≤64;rw[o4,l6];have:=E.il;have:=E.sizes.2.1;omega
 have V:(dT n i j).funs.length≤256:=by
  show ((n.funs.take j).map (kw n.sizes)).length≤256;rw[o4,l6];omega
 have Y:=X3 34 I;have ac:=X3 4097 V;omega
def Plain (t:aP):Prop:=t.marks=[]∧t.olds=[]∧hA t []
theorem Plain.set {t:aP} (h:Plain t) (i:Nat) (x:Int):Plain (t.set i x):=⟨(aP.r1 _ _ _).trans h.1,(aP.tY h.1 _ _).trans h.2.1,h.2.2.set⟩
theorem Plain.lay {t:aP} (h:Plain t) (l:List Int):Plain (kx t l):=⟨(qc _ _ _).trans h.1,(yI h.1 _ _).trans h.2.1,h.2.2.eV l _⟩
theorem Plain.put {s:ba} {t:aP} (h:Plain t) (cs:List Int):Plain (lK s t cs):=(h.lay _).set _ _
def Fo (w:x5) (n:bY) (v:x4) (w':x5):Prop:=Ext w w'∧ ∃ aL ay A R t,v= .pointer (some ⟨aL,0,none⟩)∧StateM w' aL ay A R n (dQ n) t∧t.b1=(dQ n).cells∧Plain t∧ ∀ r,A r→w.heap.size≤r
set_option maxHeartbeats 4000000 in
theorem Fp {w:x5} {U:Nat} {n:bY} (h:eT w U n) (V:hI n) (bk:n.funs.length≤256):O y0 kP [.pointer (some ⟨U,0,none⟩)] w (Fo w n):=by
 have b2:=V.il;have c5:=V.sizes.2.1;apply kP.enter;rw[cZ fN.u];simp only[b8,aT];refine (E3 (n:=3) (by omega)).mono ?_;rintro _ bl _ ⟨aH,ay,rfl,b3⟩;rw[cW (cs:=#[.pointer (some ⟨U,0,none⟩),.pointer (some ⟨ay,0,none⟩),.slice none 0 0,.slice none 0 0,.slice none 0 0]) (by kernel_rfl)];refine ce fun aL bm c6 ao ap=>?_;have ap:ak bm aL aR [.pointer (some ⟨U,0,none⟩),.pointer (some ⟨ay,0,none⟩),.slice none 0 0,.slice none 0 0,.slice none 0 0]:=ap;have c7:=aH.size;have c8:=ao.size;have da:=ap.lt;have b4:ej bm aL ay U (.slice none 0 0) (.slice none 0 0) (.slice none 0 0) (fun r=>r=aL∨(w.heap.size≤r∧r<bl.heap.size)) (fun r=>r<w.heap.size) n ⟨0,[],[],[]⟩ ⟨p9 3 ⟨0,0⟩,[],[],0⟩:=by
  refine⟨⟨.inl rfl,fun r E aa=>?_,fun r E=>?_,fun r E=>?_⟩,0,0,0,[],[],fun r=>w.heap.size≤r∧r<bl.heap.size,w,ap,⟨h,aH.trans ao,fun r o E _=>(l7.1 E).1⟩,⟨(b3.cut).ext ao,fun r E=>.inr E,fun E=>?_,fun r E=>?_⟩,aq.nil _ _ _ _,⟨aW.nil _ _ _ _ _,rfl,fun j x f av=>by simp at av⟩,aW.nil _ _ _ _ _,rfl,fun j x f av=>by simp at av⟩
  ·have aa:r<w.heap.size:=aa;rcases E with E|E <;> omega
  ·have E:r<w.heap.size:=E;omega
  ·rcases E with E|E <;> omega
  ·omega
  ·rcases E with E|E|E
   ·obtain⟨a,db,c,aZ,dc⟩:=E;cases aZ
   ·exact (dI E).elim
   ·exact (dI E).elim
 intro dd aw _ _;have b5:=b4.ext aw;rw[az,ah aR.p rfl,ai (by kernel_rfl) ((ap.ext aw).cell (o:=0+1) rfl)];refine (E9 (h.ext ((aH.trans ao).trans aw))).mono ?_;rintro _ de _ ⟨rfl,aI⟩;refine⟨.inl aI,?_⟩;have b6:=b5.ext aI;obtain⟨a1,b7,b9⟩:=b6.lJ;refine (rX (i:=0) (y:=0) b7 rfl (by decide) ⟨by simp,by simp,by simp⟩).mono ?_;rintro _ bn _ ⟨_,ca,cb,cc⟩;obtain⟨cd,bo,a2⟩:=b9 ca bn _ cb cc;have a2:=a2.same (Ff ⟨0,[],[],[]⟩ n.zero);have z3:=aw.size;have z4:=aI.size;have cg:=((aH.trans ao).trans aw).trans aI;have bq:Ext w bn:=cg.then bo.1 fun r E he=>by rcases he with he|he <;> omega
 refine (tX (h.ext bq)).mono ?_;rintro _ df _ ⟨rfl,br⟩;refine bc.range n.sizes.length (fun i aJ=>∃ A Z t,Ext w aJ∧ej aJ aL ay U Z (.slice none 0 0) (.slice none 0 0) A (fun r=>r<w.heap.size) n (dT n i 0) t∧t.b1=(dT n i 0).cells∧Plain t∧ ∀ r,A r→w.heap.size≤r) (by omega)
  ⟨cd,_,_,bq.trans br,a2.ext br,?_,?_,fun r E=>?_⟩ ?_ ?_
 ·rw[aP.pu];rfl
 ·exact Plain.set (t:=⟨p9 3 ⟨0,0⟩,[],[],0⟩) ⟨rfl,rfl,rfl,rfl,fun c X=>by rw[(List.mem_replicate.1 X).2];exact o7 _⟩ _ _
 ·rcases bo.2.1 r E with he|he
  ·rcases he with he|he <;> omega
  ·omega
 ·rintro i aJ ch hi ⟨A,Z,t,ac,a7,ax,aA,aM⟩ ci;obtain⟨u,hu⟩:∃ u,n.unary[i]? =some u:=⟨_,x3 (by omega)⟩;obtain⟨bt,bu⟩:∃ z,n.sizes[i]? =some z:=⟨_,x3 (by omega)⟩;have dg:u.length≤32:=by
   have dh:=(V.unary i bt u bu hu).1;have di:=V.sizes.2.2 bt (u4 bu);omega
  rw[au,ag];refine⟨fun _=>?_,fun h=>by omega⟩;refine (yD (h.ext ac) V).mono ?_;rintro dj dk _ ⟨cj,_,ck⟩;obtain⟨dl,dm,cl⟩:=ck u (by omega) (by rw[c9];exact hu);intro a8 bw _ _;have ba:=cj.trans bw;have bx:=a7.ext ba;obtain⟨⟨_,_,_,aB⟩,cm,bz,bA,L,bB,a1,w0,aN,_⟩:=id bx;have dn:=ba.size;have dp:=ac.size;rw[az,ah aR.p rfl,ai (by kernel_rfl) (aN.cell (o:=0+2) rfl)];refine q3 (l:=[0,0]) af.u ae.i (by omega) rfl (by kernel_rfl) fun cn dq dr ds aO bC=>?_;refine⟨.inl aO,?_⟩;refine gr af.u ae.i rfl bC ((cl.ext bw).ls.ext aO) (by simp;omega) (by simp;omega) fun cp dt cq cr ct cu=>?_;have bD:∀ r,leads cn r→a8.heap.size≤r:=fun r E=>by obtain⟨aZ,_⟩:=bX bC E;omega
  have aQ:Ext a8 cq:=aO.then cu fun r E he=>by have:=bD r he;omega
  refine⟨.inl aQ,?_⟩;have cw:=bx.ext aQ;have cz:∀ r,leads cp r→a8.heap.size≤r:=fun r E=>by
   rcases ct r E with h|h
   ·exact bD r h
   ·have:=aO.size;omega
  have cA:t.cells.length≤2000000:=by
   have h1:=uc V bk i 0;rw[←ax] at h1;unfold aP.b1 at h1;rwa [o4] at h1
  have cB:t.olds.length=0:=by rw[aA.2.1];rfl
  have cC:t.marks.length=0:=by rw[aA.1];rfl
  refine (yL cw cr.ls (fun r E I=>by have:=aB r I;have:=cz r E;omega) (by simp;omega) (by simp;omega) (by omega)).mono ?_;rintro _ du _ ⟨rfl,bb,bd,cD⟩;obtain⟨⟨bF,bG,cE,bH⟩,cm,bz,bA,L,bB,a1,w0,aN,⟨cF,cG,bI⟩,⟨cH,bJ,bK,aS⟩,cI,⟨cJ,cK⟩,cL,cM⟩:=id cD;refine⟨.inr (r2 (off:=2) (z:=2) aN (fun K=>by rw[ah aR.p rfl]) (by kernel_rfl) rfl),?_⟩;refine dW (k:=.i64) ab.u J.i rfl fun dv dw bL dx Y cN=>?_;have be:=aN.ext Y;refine⟨.inr (r2 (off:=2) (z:=2) be (fun K=>by rw[ah aR.p rfl]) (by kernel_rfl) rfl),?_⟩;have bM:(gq (dT n i 0)).length=i:=by
   unfold gq dT;simp only[o4,List.length_range,l6];omega
  have bN:=cI.ext Y;refine gr ab.u J.i rfl bN cN.ls (by rw[bM];simp;omega) (by rw[bM];simp;omega) fun bO cO dy aC cP bP=>?_;have bQ:=be.ad bP fun he=>bW bN be (by decide) he rfl;rw[az,ah aR.p rfl];refine bE ab.i aC.ls.cells.1 aC.ls.cells.2 bQ (by simp) fun bf bg dz bh=>?_;have bh:ak bf aL aR [.pointer (some ⟨U,0,none⟩),.pointer (some ⟨ay,0,none⟩),bO,.slice none 0 0,.slice none 0 0]:=bh;rw[aK];have X:aj (fun r=>leads Z r∨r=aL) bL bf:=(bP.mono fun r _ h=>.inl h).trans (bg.mono fun r _ h=>.inr h);have dA:=aQ.size;have z12:=bd.1.size;have dB:=Y.size;have dC:=X.size;have bR:∀ r,bb r→w.heap.size≤r:=fun r E=>(bd.2.1 r E).elim (aM r) fun h=>by omega
  have bS:∀ r,(leads Z r∨r=aL)→bb r:=fun r E=>E.elim (fun E=>(aS r (.inl E)).1) fun E=>E▸bF;have cQ:(dT n (i+1) 0).cells=(dT n i 0).cells++(0::0::u):=by rw[yM hu];exact Fl rfl
  have cR:t.cells.length=3+((dT n i 0).vars.flatMap fI).length:=by
   have h1:=congrArg W8 ax;rw[tW] at h1;unfold aP.b1 at h1;rw[o4] at h1;have:((dT n i 0).funs.flatMap fT).length=0:=by simp[dT]
   omega
  refine ci _ ⟨fun r=>bb r∨(bL.heap.size≤r∧r<bf.heap.size),bO,kx t ([0,0]++u),?_,⟨⟨.inl bF,fun r E aa=>?_,fun r E=>by have:=cE r E;omega,fun r E=>?_⟩,cO,bz,bA,L,bB,a1,w0,bh,⟨cF,rZ (cG.trans Y) X fun r o E cS W=>bG r (bS r W) (bI r o E cS),bI⟩,⟨(cH.ext Y).ad X fun r E W=>?_,fun r E=>.inl (bJ r E),bK,fun r E=>?_⟩,?_,⟨(cJ.ext Y).ad X fun r E W=>?_,?_⟩,(cL.ext Y).ad X fun r E W=>?_,?_⟩,?_,aA.lay _,fun r E=>?_⟩
  ·exact ((ac.trans (ba.trans aQ)).then bd.1 fun r E he=>by have:=aM r he;omega).trans Y |>.then X fun r E W=>by have:=bR r (bS r W);omega
  ·rcases E with E|E
   ·exact bG r E aa
   ·have aa:r<w.heap.size:=aa;omega
  ·rcases E with E|E
   ·have:=bH r E;omega
   ·exact E.2
  ·rcases W with W|rfl
   ·exact (aS r (.inl W)).2 E
   ·exact bK E
  ·rcases E with E|E|E
   ·have dD:=(bX aC E);rcases cP r E with h|h
    ·exact⟨.inl (aS r (.inl h)).1,(aS r (.inl h)).2⟩
    ·refine⟨.inr ⟨h,by have:=bg.size;omega⟩,fun cT=>by have:=bH r (bJ r cT);omega⟩
   ·exact (dI E).elim
   ·exact (dI E).elim
  ·rw[yM hu,Fk,←cR];exact bp aC bg fun r E he=>by
    have he:r=aL:=he;subst he;exact bW aC bQ (by decide) E rfl
  ·exact (dI E).elim
  ·refine⟨cK.1,fun j x f av bi=>?_⟩;have bi:((n.funs.take 0).map (kw n.sizes))[j]? =some f:=bi;simp at bi
  ·exact (dI E).elim
  ·refine⟨cM.1,fun j x e av he=>?_⟩;have he:([]:List tU)[j]? =some e:=he;simp at he
  ·rw[yK,cQ,ax];rfl
  ·rcases E with E|E
   ·exact bR r E
   ·omega
 ·rintro aJ ch ⟨A,Z,t,ac,a7,ax,aA,aM⟩;rw[au,ag];refine⟨fun h=>by omega,fun _=>?_⟩;refine (yC (h.ext ac)).mono ?_;rintro _ dE _ ⟨rfl,bT⟩;refine bc.range n.funs.length (fun j aD=>∃ A R aU t,Ext w aD∧ej aD aL ay U Z aU (.slice none 0 0) A R n (dT n n.sizes.length j) t∧t.b1=(dT n n.sizes.length j).cells∧Plain t∧ ∀ r,A r→w.heap.size≤r) (by omega)
   ⟨A,_,_,t,ac.trans bT,a7.ext bT,ax,aA,aM⟩ ?_ ?_
  ·rintro j aD cU cV ⟨A,R,aU,t,al,aE,am,aF,aG⟩ cX;obtain⟨g,aV⟩:∃ g,n.funs[j]? =some g:=⟨_,x3 cV⟩;have bj:=(V.funs g (u4 aV)).1;rw[au,ag];refine⟨fun _=>?_,fun h=>by omega⟩;refine (Fa (h.ext al) V aV).mono ?_;rintro a6 dF _ ⟨aX,gs,dG,bU⟩;refine (Fc h (al.trans aX) aV).mono ?_;rintro _ dH _ ⟨aY,dJ,dK,dL,rfl,dM,dN,cY,c0⟩;have c1:=(aE.ext aX).ext aY;have aB:∀ r,A r→r<aD.heap.size:=aE.1.2.2.2;have dO:=aX.size;have cA:t.cells.length≤2000000:=by
    have h1:=uc V bk n.sizes.length j;rw[←am] at h1;unfold aP.b1 at h1;rwa [o4] at h1
   have cB:t.olds.length=0:=by rw[aF.2.1];rfl
   have cC:t.marks.length=0:=by rw[aF.1];rfl
   have dP:g.2.length≤4096:=by have:=bj.len;have:=bj.small;omega
   have dR:g.1.length≤6:=bj.scope.2;refine (Fj (sc:=g.1) c1 am (bU.ls.ext aY) (fun r E I=>by have:=aB r I;obtain⟨aZ,_⟩:=bX bU E;omega) cY ⟨fun I=>by have:=aB _ I;omega,fun I=>by have:=aB _ I;omega,fun r E I=>by have:=aG r I;have:=c0 r E;omega⟩ (by omega) (by omega) (by omega) (by omega) ?_).mono ?_
   ·show ((n.funs.take j).map (kw n.sizes)).length≤_;rw[o4,l6];omega
   rintro _ dS _ ⟨rfl,c2,R',c3,bV,c4,dU,dV⟩;rw[aK];have bZ:=Fm (i:=n.sizes.length) aV;refine cX _ ⟨c2,R',c3,lK (dT n n.sizes.length j) t g.2,((al.trans aX).trans aY).then bV.1 (fun r E I=>by have:=aG r I;omega),?_,?_,aF.put _,fun r E=>?_⟩
   ·rw[bZ];exact c4
   ·rw[bZ];exact Fi am
   ·rcases bV.2.1 r E with h|h
    ·exact aG r h
    ·have:=al.size;have:=aY.size;omega
  ·rintro aD cU ⟨A,R,aU,t,al,aE,am,aF,aG⟩;rw[au,ag];refine⟨fun h=>by omega,fun _=>?_⟩;have e:dT n n.sizes.length n.funs.length=dQ n:=by rw[←b2];exact yN n
   rw[e] at aE am;exact⟨al,aL,ay,A,R,t,rfl,⟨U,Z,aU,_,aE⟩,am,aF,aG⟩
set_option maxHeartbeats 2000000 in
theorem Fq {l:List Int} {w:x5} (am:Bytes l) (az:l.length≤100000):O y0 ox [bu l] w fun v w'=>v=ie l∧Ext w w':=by
 apply ox.enter;refine h6 (fun aF aG ai=>Ext w ai∧ ∃ (m:List Int) (s:Int),aF=bu m∧aG= .int .i64 s∧Bytes m∧m.length≤100000∧m7 l m s) ?_ ?_
 ·rintro _ _ ai ⟨ao,m,s,rfl,rfl,aj,aX,ak⟩;rw[lr a1.u,bQ,ag];refine⟨fun ap=>?_,fun ap=>?_⟩
  ·have aq:m=[]:=j9 (by omega);exact⟨by rw[rb ak (by rw[aq];rfl)],ao⟩
  have aq:m≠[]:=fun h=>ap (by rw[h];rfl);refine jj.range m.length (fun i _ _ av aw V=>Ext ai V∧ ∃ (n:Int) (E:Bool),av= .int .u64 n∧aw= .bool E∧ki n E ((m.take i).foldl dX 0)∧(m.take i).all eZ=true) (by omega) ⟨Ext.refl _,0,false,rfl,rfl,AX,rfl⟩ ?_ ?_
  ·rintro i aH t3 _ _ V aI hi ⟨ac,n,E,rfl,rfl,X,ad⟩ aJ;obtain⟨b,Y⟩:∃ b,m[i]? =some b:=⟨_,x3 hi⟩;have aY:=aj b (u4 Y);rw[lr a1.u,au,ag];refine⟨fun _=>?_,fun h=>by omega⟩;refine sX (fun _ _ av aw W=>Ext ai W∧ ∃ (n:Int) (E:Bool),av= .int .u64 n∧aw= .bool E∧ki n E ((m.take (i+1)).foldl dX 0)∧(m.take (i+1)).all eZ=true) ?_ ?_
   ·rintro a2 a6 a3 a4 W aL;rw[aK];exact aJ _ _ _ _ _ aL
   intro aM aa;refine aZ (fun v W=>V=W∧v= .bool (!eZ b)) ?_ ?_
   rotate_left
   ·intro ax J;rw[pv rfl a1.u aj Y,au,ag];refine⟨fun h=>J _ _ ⟨rfl,by unfold eZ;rw[decide_eq_false (by omega)];rfl⟩,fun h=>?_⟩;rw[pv rfl a1.u aj Y,bV];refine J _ _ ⟨rfl,?_⟩;unfold eZ;congr 1;by_cases aA:57<b
    ·rw[decide_eq_true aA,decide_eq_false (by omega)];rfl
    ·rw[decide_eq_false aA,decide_eq_true (by omega)];rfl
   rintro _ _ ⟨rfl,rfl⟩;cases ay:eZ b with
   |false=>
    rw[X0,bP];exact⟨by rw[rb ak (wB Y ay)],ao.trans ac⟩
   |true=>
    rw[Y1,aT];have aN:=of_decide_eq_true ay;have al:=AW X aN;rw[wz Y,wy Y,ad,ay] at aa;have aO:=X.1;have aP:=X.2.1;refine aZ (fun v W=>V=W∧v= .bool (E||decide (461168601842738790<n))) ?_ ?_
    rotate_left
    ·intro ax J;rw[bV,ag];refine⟨fun h=>J _ _ ⟨rfl,by rw[decide_eq_true h,Bool.or_true]⟩,fun h=>J _ _ ⟨rfl,by rw[decide_eq_false h,Bool.or_false]⟩⟩
    rintro _ _ ⟨rfl,rfl⟩;by_cases af:E=true∨461168601842738790<n
    ·have Z:(E||decide (461168601842738790<n))=true:=by rcases af with h|h <;> simp[h]
     rw[if_pos af,Z] at al;rw[Z,b3,Y1,aT];exact aa _ _ _ _ _ ⟨ac,n,true,rfl,rfl,al,rfl⟩
    ·have Z:(E||decide (461168601842738790<n))=false:=by
      cases E with
      |true=>exact absurd (.inl rfl) af
      |false=>simp;omega
     rw[if_neg af,Z] at al;have a7:¬461168601842738790<n:=fun h=>af (.inr h);rw[Z,b3,X0,bP,fA,pv rfl a1.u aj Y,dD,wrap_u8 (by omega) (by omega),fc bb.u bD.u,wrap_u64 (by omega) (by omega),wrap_u64 (by omega) (by omega),aK,wrap_u64 (by omega) (by omega)];exact aa _ _ _ _ _ ⟨ac,_,false,rfl,rfl,al,rfl⟩
  ·rintro aH t3 _ _ V aI ⟨ac,n,E,rfl,rfl,X,ad⟩;rw[l5] at ad X;rw[lr a1.u,au,ag];refine⟨fun h=>by omega,fun _=>?_⟩;have aB:=AY X;have aO:=X.1;have aP:=X.2.1;have aQ:∀ {x:Int},x=m.foldl dX 0→0≤x→x≤4611686018427387904→(I y0 (convert bD ae (.int .u64 x)) V fun aR=>
     I y0 (U .mul ae false false (.int .i64 s) aR) V fun aS=>(fun v w'=>v=ie l∧Ext w w') (.tuple #[aS,(.int .i64 0)]) V):=by
    intro x aU ap h1;rw[fc bD.u ae.u,wrap_i64 (by omega) (by omega),fA];have hw:Y9.wrap (s*x)=s*x:=by
     rcases ak.1 with rfl|rfl <;> exact wrap_i64 (by omega) (by omega)
    rw[hw];refine⟨?_,ao.trans ac⟩;rw[wE ak (wA aq ad),aU]
   refine aZ (fun v W=>V=W∧v= .int .u64 (m.foldl dX 0)) ?_ ?_
   ·rintro _ _ ⟨rfl,rfl⟩;have aC:=q0 (l:=m) (n:=0) ad ⟨Int.le_refl _,by decide⟩;exact aQ rfl aC.1 aC.2
   intro ax J;refine aZ (fun v W=>V=W∧v= .bool (E||decide (4611686018427387904<n))) ?_ ?_
   ·rintro _ _ ⟨rfl,rfl⟩;rw[cE];refine⟨fun h=>J _ _ ⟨rfl,?_⟩,fun h=>J _ _ ⟨rfl,?_⟩⟩
    ·have h':E=true∨4611686018427387904<n:=by simpa using h
     rw[aB,if_pos h']
    ·have h':¬(E=true∨4611686018427387904<n):=by
      intro ah;rcases ah with ah|ah
      ·simp[ah] at h
      ·simp[ah] at h
     rw[aB,if_neg h']
   ·intro a8 aD;cases E with
    |true=>rw[bP];exact aD _ _ ⟨rfl,rfl⟩
    |false=>rw[aT,bV];exact aD _ _ ⟨rfl,by rw[Bool.false_or]⟩
 ·intro aM aa;refine aZ (fun v aV=>w=aV∧ ∃ c:Bool,v= .bool c∧(c=true↔l[0]? =some 45)) ?_ ?_
  ·rintro _ _ ⟨rfl,c,rfl,aE⟩;rw[cE];refine⟨fun aW=>?_,fun Z=>?_⟩
   ·obtain⟨m,rfl⟩:∃ m,l=45::m:=by
     have:=aE.1 aW;cases l with
     |nil=>simp at this
     |cons x m=>exact⟨m,by simp at this;rw[this]⟩
    rw[vN (y:=1) (i:=1) rfl a1.u (by simp)];exact aa _ _ _ ⟨Ext.refl _,m,-1,rfl,rfl,fun b ab=>am b (.tail _ ab),by simp at az;omega,wC⟩
   ·refine aa _ _ _ ⟨Ext.refl _,l,1,rfl,rfl,am,az,wD fun b ab he=>?_⟩;subst he;have:=aE.2 ab;rw[Z] at this;cases this
  ·intro ax J;rw[lr a1.u,bV,ag];refine⟨fun h=>?_,fun h=>J _ _ ⟨rfl,false,rfl,?_⟩⟩
   ·obtain⟨b,ab⟩:∃ b,l[0]? =some b:=⟨_,x3 (by omega)⟩;rw[pv (y:=0) (i:=0) rfl a1.u am ab,bQ];refine J _ _ ⟨rfl,_,rfl,?_⟩;rw[decide_eq_true_eq,ab];exact⟨fun h=>by rw[h],fun h=>b9 h⟩
   ·have:l=[]:=j9 (by omega);subst this;simp
theorem Fr {s:Go.Sem x4} {v:x4} {w:x5} {K:x4→Prop} (h:I y0 s w fun u=>u=v) (E:K v):I y0 s w K:=by
 obtain⟨u,h1,rfl⟩:=h;exact⟨u,h1,E⟩
abbrev ft:Type:=List Int×Int
def eL (x:ft):List x4:=[bu x.1,.int .i64 x.2]
theorem ud (x:ft):∀ u∈eL x,u.oneCell'=true:=by
 intro u hu;simp[eL] at hu;rcases hu with rfl|rfl <;> rfl
def gP (w:x5) (v:x4) (L:List ft):Prop:=b7 w 2 v L.length (L.flatMap eL)
theorem ue {w:x5} {g:Nat} {v:x4} {L:List ft} (h:aW eL 2 bo w g v L):gP w v L:=h.sl
theorem yO {w:x5} {v:x4} {L:List ft} {ty:o6} {K:x4→Prop} (h:gP w v L):I y0 (u6 #[cA] ty #[v]) w K=K (.int .i64 (L.length:Int)):=by
 obtain⟨_,_,_,_,_,rfl,_⟩:=h;exact gf cA.u
theorem Fs {S:Nat→Prop} {w w':x5} {k n:Nat} {v:x4} {cs:List x4} (h:b7 w k v n cs) (J:aj S w w') (O:∀ r,leadsTo v r→¬S r):b7 w' k v n cs:=by
 obtain⟨h1,b,o,base,cap,rfl,U,V,I,W⟩:=h;refine⟨h1,b,o,base,cap,rfl,U,V,I,?_⟩;rcases Nat.eq_zero_or_pos n with E|E
 ·have:cs=[]:=j9 (by rw[h1,E,Nat.zero_mul]);subst this;intro j v X;simp at X
 ·have Y:=I E;exact qL J (O b ⟨⟨b,o,none⟩,n,cap,by rw[Y],rfl⟩) W
theorem gP.ad {S:Nat→Prop} {w w':x5} {v:x4} {L:List ft} (h:gP w v L) (E:aj S w w') (I:∀ r,leadsTo v r→¬S r):gP w' v L:=Fs h E I
theorem yP {w:x5} {v:x4} {x:ft} {L:List ft} {K:x4→Prop} (h:gP w v (x::L)) (E:∀ b o,w.rangeAt b o (eL x)→K (.pointer (some ⟨b,o,none⟩))):I y0 (x7 cA v (.int .i64 0)) w K:=by
 obtain⟨_,b,o,base,cap,rfl,_,_,J,O⟩:=h;have:=gy (P:=y0) (w:=w) (K:=K) (k:=.i64) (c:=cap) cA.u bo.i (show 0<(x::L).length by simp) J;rw[show ((0:Nat):Int)=0 from rfl] at this;rw[this];refine E _ _ fun j u hu=>?_;have U:=(x6.1 hu).1;rw[Nat.zero_mul,Nat.add_zero];exact O j u (by rw[X5,Z1 U];exact hu)
theorem Ft {w:x5} {v:x4} {x:ft} {L:List ft} {K:x4→Prop} (h:gP w v (x::L)) (U:∀ J,(∀ w',gP w' v (x::L)→gP w' J L)→(∀ r,leadsTo J r→leadsTo v r)→K J):I y0 (c7 cA v (some (.int .i64 1)) none none) w K:=by
 have Y:=h;obtain⟨_,b,o,base,cap,rfl,Z,_⟩:=h;rw[gz cA.u bo.i (lg 1 1 rfl) h4 eY (by simp) (by omega) (o7 _)];refine U _ (fun w' V=>?_) fun r W=>?_
 ·have:=b7.part (l:=1) (h:=(x::L).length) (m:=cap) V (by simp) (o7 _) (by omega) (o7 _);have e:(((x::L).flatMap eL).drop (1*2)).take (((x::L).length-1)*2)=L.flatMap eL:=by
   rw[X5];have X:(L.flatMap eL).length=L.length*2:=gl (k:=2) fun _ _=>rfl;show (L.flatMap eL).take _=_;rw[j0 (by rw[X,c8,Nat.add_sub_cancel];exact o7 _)]
  rw[e] at this;exact this
 ·obtain⟨a,n,c,E,O⟩:=W;split at E
  ·cases E;exact⟨_,_,_,rfl,O⟩
  ·cases base with
   |none=>cases E
   |some q=>cases E;exact⟨_,_,_,rfl,O⟩
theorem Fu {w:x5} {g n:Nat} {y:Int} {v:x4} {L:List ft} {K:x4→Prop} (U:y=(n:Int)) (h:aW eL 2 bo w g v L) (V:n≤L.length) (W:∀ J,gP w J (L.take n)→(∀ r,leadsTo J r→leadsTo v r)→K J):I y0 (c7 cA v none (some (.int .i64 y)) none) w K:=by
 have X:=ue h;obtain⟨_,b,o,base,cap,rfl,aa,_⟩:=h.sl;rw[gz cA.u bo.i h3 (lh n y U) eY (Z9 _) (by omega) (o7 _)];refine W _ ?_ fun r Y=>?_
 ·have:=b7.part (l:=0) (h:=n) (m:=cap) X (Z9 _) V (by omega) (o7 _);have e:((L.flatMap eL).drop (0*2)).take ((n-0)*2)=(L.take n).flatMap eL:=by
   rw[Nat.zero_mul,List.drop_zero,Nat.sub_zero,pQ (f:=eL) (k:=2) n fun _ _=>rfl]
  rw[e] at this;have Z:(L.take n).length=n-0:=by rw[l6];omega
  unfold gP;rw[Z];exact this
 ·obtain⟨a,n,c,E,O⟩:=Y;split at E
  ·cases E;exact⟨_,_,_,rfl,O⟩
  ·cases base with
   |none=>cases E
   |some q=>cases E;exact⟨_,_,_,rfl,O⟩
def Fv (w:x5) (I:List Int) (v:x4) (w':x5):Prop:=Ext w w'∧ ∃ E L,∃ bad:Int,v= .tuple #[E,.int .i64 bad]∧gP w' E L∧L.map (·.1)=(lex I).1∧(0≤bad↔(lex I).2=false)∧(∀ r,leadsTo E r→w.heap.size≤r)∧ ∀ r,leadsTo E r→ ∃ c,ak w' r bo c
set_option maxHeartbeats 4000000 in
theorem Fw {p:x4} {U:List Int} {w:x5} (al:aH .u8 w p U) (aU:Bytes U) (bw:U.length≤65536):O y0 oe [p] w (Fv w U):=by
 apply oe.enter;rw[aO aV.u al];refine jj.range U.length (fun i _ _ X ae ab=>Ext w ab∧ ∃ g L,∃ (E:List (List Int)) (Y:List Int) (op:Bool),ae= .bool op∧aW eL 2 bo ab g X L∧L.map (·.1)=(if op then E++[Y] else E)∧(op=true→Y.length≤i)∧L.length≤i∧gh (U.drop i) E Y op=lex U∧ ∀ r,leadsTo X r→w.heap.size≤r) al.le
  ⟨Ext.refl _,0,[],[],[],false,rfl,aW.nil _ _ _ _ _,rfl,(fun h=>by cases h),o7 _,Bj U,fun r Z=>(dI Z).elim⟩ ?_ ?_
 rotate_left
 ·rintro aX t3 X ae ab aY ⟨ac,g,L,E,Y,op,rfl,aa,W,_,_,J,ad⟩;rw[au,ag];refine⟨fun h=>by omega,fun _=>?_⟩;rw[List.drop_length] at J;have J:(if op then E++[Y] else E,true)=lex U:=J;exact⟨ac,X,L,-1,rfl,ue aa,by rw[W,←J],by rw[←J];simp,ad,fun r Z=>by obtain⟨rfl,c,aq⟩:=dr aa Z;exact⟨c,aq⟩⟩
 rintro i aX t3 X ae ab aY hi ⟨ac,g,L,E,Y,op,rfl,aa,W,aG,bx,J,ad⟩ a2;obtain⟨b,av⟩:∃ b,U[i]? =some b:=⟨_,x3 hi⟩;have bz:=aU b (u4 av);have aI:U.drop i=b::U.drop (i+1):=by rw[Y8 hi,(x6.1 av).2]
 rw[aI] at J;unfold gh at J;rw[au,ag];refine⟨fun _=>?_,fun h=>by omega⟩;refine sX (fun _ _ X ae aw=>Ext w aw∧ ∃ g L,∃ (E:List (List Int)) (Y:List Int) (op:Bool),ae= .bool op∧aW eL 2 bo aw g X L∧L.map (·.1)=(if op then E++[Y] else E)∧(op=true→Y.length≤i+1)∧L.length≤i+1∧gh (U.drop (i+1)) E Y op=lex U∧ ∀ r,leadsTo X r→w.heap.size≤r) ?_ ?_
 ·rintro bA bB a3 a4 aw a6;rw[aK];exact a2 _ _ _ _ _ a6
 intro bD aJ;rw[bm aV.u bb.i (by kernel_rfl) (al.ext ac) av];refine aZ (fun v af=>ab=af∧v= .bool (cc b)) ?_ ?_
 rotate_left
 ·intro ax V;unfold cc at V;rw[bQ,ag];refine⟨fun h=>V _ _ ⟨rfl,by rw[decide_eq_true (.inl h)]⟩,fun h1=>?_⟩;rw[bQ,ag];refine⟨fun h=>V _ _ ⟨rfl,by rw[decide_eq_true (.inr (.inl h))]⟩,fun am=>?_⟩;rw[bQ,ag];refine⟨fun h=>V _ _ ⟨rfl,by rw[decide_eq_true (.inr (.inr (.inl h)))]⟩,fun a7=>?_⟩;rw[bQ];refine V _ _ ⟨rfl,?_⟩;congr 1;rw[X8,decide_eq_true_eq,decide_eq_true_eq];exact⟨fun h=>.inr (.inr (.inr h)),fun h=>by rcases h with h|h|h|h;exact absurd h h1;exact absurd h am;exact absurd h a7;exact h⟩
 rintro _ _ ⟨rfl,rfl⟩;cases aL:cc b with
 |true=>
  rw[bP];rw[if_pos aL] at J;exact aJ _ _ _ _ _ ⟨ac,g,L,_,[],false,rfl,aa,W,(fun h=>by cases h),by omega,J,ad⟩
 |false=>
  rw[aT];rw[if_neg (by rw[aL];simp)] at J;refine aZ (fun v af=>ab=af∧v= .bool (!bC b)) ?_ ?_
  rotate_left
  ·intro ax V;unfold bC at V;rw[au,ag];refine⟨fun h=>V _ _ ⟨rfl,by rw[decide_eq_false (by omega)];rfl⟩,fun h=>?_⟩;rw[bV];refine V _ _ ⟨rfl,?_⟩;by_cases am:126<b
   ·rw[decide_eq_true am,decide_eq_false (by omega)];rfl
   ·rw[decide_eq_false am,decide_eq_true (by omega)];rfl
  rintro _ _ ⟨rfl,rfl⟩;cases hw:bC b with
  |false=>
   rw[X0,bP];rw[if_neg (by rw[hw];simp)] at J;refine aZ (fun v af=>ab=af∧ ∃ ao,gP ab v ao∧ao.map (·.1)=E∧(∀ r,leadsTo v r→w.heap.size≤r)∧ ∀ r,leadsTo v r→leadsTo X r) ?_ ?_
   ·rintro v _ ⟨rfl,ao,ay,a8,ap,ba⟩;exact⟨ac,v,ao,(i:Int),rfl,ay,by rw[a8,←J],by rw[←J];simp,ap,fun r Z=>by obtain⟨rfl,c,aq⟩:=dr aa (ba r Z);exact⟨c,aq⟩⟩
   ·intro ax V;cases op with
    |false=>
     rw[aT];rw[if_neg (by simp)] at W;exact V _ _ ⟨rfl,L,ue aa,W,ad,fun _ h=>h⟩
    |true=>
     rw[bP];rw[if_pos rfl] at W;have az:L.length=E.length+1:=by have:=congrArg W8 W;simpa using this
     rw[dZ cA.u aa,dD,wrap_i64 (by omega) (by omega)];refine Fu (n:=E.length) (by omega) aa (by omega) fun aj ay ap=>V _ _ ⟨rfl,_,ay,?_,fun r Z=>ad r (ap r Z),ap⟩;rw[List.map_take,W,List.take_left]
  |true=>
   rw[Y1,aT];rw[if_pos hw] at J;refine aZ (fun X aA=>Ext w aA∧ ∃ g M,∃ x:ft,aW eL 2 bo aA g X (M++[x])∧M.map (·.1)=E∧x.1=(if op then Y else[])∧(M++[x]).length≤i+1∧ ∀ r,leadsTo X r→w.heap.size≤r) ?_ ?_
   ·rintro bE aA ⟨aM,bc,M,x,bd,be,aB,bf,aN⟩;intro aC aD _ _;have ak:=bd.ext aD;have aP:(M++[x])[M.length]? =some x:=by simp
    have bF:(M++[x]).length=M.length+1:=by simp
    rw[dZ cA.u ak,dD,wrap_i64 (by omega) (by omega),cI (i:=M.length) (by omega) cA.u bo.i ak (by omega),ah bo.p rfl,ai (o:=M.length*2+0) (by kernel_rfl) (ak.range aP 0 _ rfl),aK,wrap_i64 (by omega) (by omega)];obtain⟨bG,aQ⟩:∃ aj,aH .u8 aC aj [b]∧I y0 (c7 aV p (some (.int .i64 (i:Int))) (some (.int .i64 ((i:Int)+1))) none) aC (fun v=>v=aj):=by
     have bg:=al.ext (aM.trans aD);have:=q2 (P:=y0) (low:=some (.int .i64 (i:Int))) (high:=some (.int .i64 ((i:Int)+1))) (K:=fun v=>aH .u8 aC v [b]) aV.u bb.i bg (lg i _ rfl) (lh (i+1) ((i:Int)+1) (by omega)) (by omega) (by omega) fun aj aR=>by
      have e:((ints .u8 U).drop (i*1)).take ((i+1-i)*1)=ints .u8 [b]:=by
       simp only[U9,show i+1-i=1 by omega];rw[ints,←List.map_drop,←List.map_take,aI];rfl
      rw[e] at aR;exact aH.of (n:=i+1-i) aR
     obtain⟨v,bh,bi⟩:=this;exact⟨v,bi,v,bh,rfl⟩
    refine Fr aQ.2 ?_;have bH:x.1.length≤65536:=by
     rw[aB];cases op with
     |true=>rw[if_pos rfl];have:=aG rfl;omega
     |false=>simp
    rw[sZ aV.u bb.u a1.u aQ.1,sY (by simp;omega),cI (i:=M.length) (by omega) cA.u bo.i ak (by omega),ah bo.p rfl];refine nf (f:=eL) (j:=0) (a:=x) (a':=(x.1++[b],x.2)) a1.i rfl rfl ak aP rfl (by omega) fun bI bj bJ aS=>?_;have e:(M++[x]).set M.length (x.1++[b],x.2)=M++[(x.1++[b],x.2)]:=by
     rw[V2 _ _ (o7 _),W3];rfl
    rw[e] at aS;refine aJ _ _ _ _ _ ⟨(aM.trans aD).then bj (fun r Z he=>by have:=aN r he;omega),bc,_,E,x.1++[b],true,rfl,aS,by rw[j4,be];rfl,fun _=>?_,by simp at bf ⊢;omega,?_,aN⟩
    ·rw[o5,aB];cases op with
     |true=>rw[if_pos rfl];have:=aG rfl;simp;omega
     |false=>simp
    ·rw[←J,aB];cases op with
     |true=>rfl
     |false=>rfl
   ·intro ax V;cases op with
    |true=>
     rw[b3,Y1,aT];rw[if_pos rfl] at W;have az:L.length=E.length+1:=by have:=congrArg W8 W;simpa using this
     obtain⟨M,x,rfl⟩:∃ M x,L=M++[x]:=by
      have:L≠[]:=fun h=>by rw[h] at az;simp at az
      exact⟨L.dropLast,L.getLast this,(List.dropLast_concat_getLast this).symm⟩
     rw[j4] at W;obtain⟨bk,aE⟩:=List.append_inj' W (by simp);refine V _ _ ⟨ac,g,M,x,aa,bk,?_,by omega,ad⟩;rw[if_pos rfl];have aE:[x.1]=[Y]:=aE;exact (List.cons.inj aE).1
    |false=>
     rw[b3,X0,bP];rw[if_neg (by simp)] at W;rw[cW (cs:=#[bu [],.int .i64 (i:Int)]) (by kernel_rfl)];refine ff (f:=eL) (a:=(([],(i:Int)):ft)) cA.u bo.i (by omega) rfl rfl fun v9 bK bL bM aF bl=>?_;have bn:=aa.ext aF;refine fo (f:=eL) (a:=(([],(i:Int)):ft)) cA.u bo.i rfl bn (by simpa using bl.sl) (ud _) (by omega) (by omega) fun aj bp bN bq br bt=>?_;have bO:=ac.size;have z9:=aF.size;refine V _ _ ⟨(ac.trans aF).then bt (fun r Z he=>by have:=ad r he;omega),bp,L,_,bq,W,rfl,by simp;omega,fun r Z=>?_⟩;rcases br r Z with h|h
     ·exact ad r h
     ·omega
structure uf where
 v:x4
 t:List Int
 c:Int
def lL (y:uf):List x4:=[y.v,.int .i64 y.c]
def io (w:x5) (g:Nat) (v:x4) (l:List (List Int×Int)):Prop:=∃ L:List uf,aW lL 2 bx w g v L∧(∀ y∈L,∃ E,aq .i64 ae w E y.v y.t)∧L.map (fun y=>(y.t,y.c))=l
structure gQ where
 a6:x4
 aw:x4
 o:Int
 bK:x4
def dU (h:gQ):List x4:=[h.a6,h.aw,.int .i64 h.o,h.bK]
def fi (w:x5) (h:gQ) (x:ca):Prop:=(∃ g,aq .i64 ae w g h.a6 x.scope)∧(∃ g,aq .i64 ae w g h.aw x.sizes)∧h.o=x.other∧ ∃ g,io w g h.bK x.lines
def fu (w:x5) (r:Nat):Prop:=∃ e c,ak w r e c∧e≠ae∧e≠bx
theorem dJ {w w':x5} {S:Nat→Prop} {g:Nat} {v:x4} {l:List Int} (h:aq .i64 ae w g v l) (I:aj S w w') (J:∀ r,S r→fu w r∨w.heap.size≤r):aq .i64 ae w' g v l:=bp h I fun r E O=>by
 rcases J r O with⟨e,c,U,V,_⟩|W
 ·exact bW h U (fun he=>V he.symm) E rfl
 ·obtain⟨X,Y⟩:=bX h E;omega
theorem ug {α:Type} {f:α→List x4} {k:Nat} {e:o6} {w w':x5} {S:Nat→Prop} {g:Nat} {v:x4} {L:List α} (h:aW f k e w g v L) (J:aj S w w') (O:∀ r,S r→(∃ E c,ak w r E c∧E≠e)∨w.heap.size≤r):aW f k e w' g v L:=h.ad J fun r I U=>by
 rcases O r U with⟨E,c,V,W⟩|X
 ·exact cp h V (fun he=>W he.symm) I
 ·obtain⟨Y,Z⟩:=h.leads I;omega
theorem io.da {w w':x5} {S:Nat→Prop} {g:Nat} {v:x4} {l:List (List Int×Int)} (h:io w g v l) (E:aj S w w') (I:∀ r,S r→fu w r∨w.heap.size≤r):io w' g v l:=by
 obtain⟨L,h1,J,O⟩:=h;refine⟨L,ug h1 E fun r U=>(I r U).imp (fun⟨e,c,V,_,W⟩=>⟨e,c,V,W⟩) id,fun y X=>?_,O⟩;obtain⟨Y,hm⟩:=J y X;exact⟨Y,dJ hm E I⟩
theorem fi.da {w w':x5} {S:Nat→Prop} {h:gQ} {x:ca} (J:fi w h x) (E:aj S w w') (I:∀ r,S r→fu w r∨w.heap.size≤r):fi w' h x:=by
 obtain⟨⟨O,h1⟩,⟨U,V⟩,W,X,Y⟩:=J;exact⟨⟨O,dJ h1 E I⟩,⟨U,dJ V E I⟩,W,X,Y.da E I⟩
theorem fi.ext {w w':x5} {h:gQ} {x:ca} (E:fi w h x) (I:Ext w w'):fi w' h x:=E.da (I.ad fun _=>False) fun _ h=>h.elim
theorem fi.one {w:x5} {h:gQ} {x:ca} (E:fi w h x):∀ u∈dU h,u.oneCell'=true:=by
 obtain⟨⟨O,h1⟩,⟨U,I⟩,V,W,L,J,_⟩:=E;intro u hu;simp[dU] at hu;rcases hu with rfl|rfl|rfl|rfl
 ·exact h1.ls.cells.2
 ·exact I.ls.cells.2
 ·rfl
 ·exact (cJ J.sl).2
def jG (w:x5) (E:x4) (J:List ft) (gs:Nat) (sv:x4) (L:List gQ) (I:List ca):Prop:=(gP w E J∧ ∀ r,leadsTo E r→ ∃ c,ak w r bo c)∧aW dU 4 aF w gs sv L∧I.length=L.length∧ ∀ (i:Nat) h x,L[i]? =some h→I[i]? =some x→fi w h x
theorem jG.da {w w':x5} {S:Nat→Prop} {O:x4} {X:List ft} {gs:Nat} {sv:x4} {L:List gQ} {Y:List ca} (h:jG w O X gs sv L Y) (J:aj S w w') (U:∀ r,S r→(∃ e c,ak w r e c∧e≠ae∧e≠bx∧e≠bo∧¬leadsTo sv r)∨w.heap.size≤r):jG w' O X gs sv L Y:=by
 obtain⟨⟨h1,Z⟩,aa,ac,af⟩:=h;have hw:∀ r,leadsTo O r→¬S r:=fun r E V=>by
  obtain⟨c,I⟩:=Z r E;rcases U r V with⟨e,ag,ab,_,_,W,_⟩|ah
  ·exact W (eK ab I)
  ·have:=I.lt;omega
 refine⟨⟨h1.ad J hw,fun r E=>?_⟩,aa.ad J fun r E V=>?_,ac,fun i ai x hi al=>(af i ai x hi al).da J fun r E=>(U r E).imp (fun⟨e,c,I,am,ao,_⟩=>⟨e,c,I,am,ao⟩) id⟩
 ·obtain⟨c,I⟩:=Z r E;exact⟨c,I.ad J (hw r E)⟩
 ·rcases U r V with⟨e,ag,ab,_,_,_,W⟩|ah
  ·exact W E
  ·obtain⟨ap,aq⟩:=aa.leads E;omega
def e6 (E:x4) (I J bad O big U told:Int) (sv:x4):List x4:=[E,.int .i64 I,.int .i64 J,.int .i64 bad,.int .i64 O,.int .i64 big,.int .i64 U,.int .i64 told,sv]
def Fx (N:Nat) (so:Option aA) (E:List ft) (I bad big told:Int) (L:List gQ) (J:List ca):Prop:=match so with
 |some s=>bad=0∧I≠0∧(big≠0↔s.big=true)∧(s.big=false→told=s.told)∧True∧E.map (·.1)=s.toks∧(∀ t∈s.toks,Bytes t∧t.length≤65536)∧J.map (fun x=>(x.sizes,x.lines))=s.shared∧L.length+E.length≤100000
 |none=>bad≠0∧L.length≤N
def bz (w:x5) (g B:Nat) (H:av) (N:Nat) (so:Option aA):Prop:=100000≤N∧ ∃ w0 E I gs sv L J,∃ (U O bad V big W told:Int),w0.heap.size=B∧aj (fun r=>r=g) w0 w∧(∃ c,ak w0 g aN c)∧ak w g aN (e6 E U O bad V big W told sv)∧jG w0 E I gs sv L J∧(∀ r,leadsTo sv r→H r)∧Fx N so I O bad big told L J
theorem jG.g {w w':x5} {g:Nat} {I:x4} {J:List ft} {gs:Nat} {sv:x4} {L:List gQ} {O:List ca} (h:jG w I J gs sv L O) (V:aj (fun r=>r=g) w w') (W:∃ c,ak w g aN c):jG w' I J gs sv L O:=
 h.da V fun r E=>.inl (by
  have E:r=g:=E;subst E;obtain⟨c,U⟩:=W;exact⟨_,c,U,by decide,by decide,by decide,fun X=>cp h.2.1 U (by decide) X⟩)
theorem bz.new {S:Nat→Prop} {w w':x5} {g B N:Nat} {H:av} {so:Option aA} (h:bz w g B H N so) (I:aj S w w') (J:∀ r,S r→B≤r):bz w' g B H N so:=by
 obtain⟨X,w0,Y,Z,gs,sv,L,aa,ab,ac,bad,ae,big,af,told,h1,O,U,ag,ah,ai,ak⟩:=h;have V:g<w0.heap.size:=by obtain⟨c,al⟩:=U;exact al.lt
 exact⟨X,w0,Y,Z,gs,sv,L,aa,ab,ac,bad,ae,big,af,told,h1,⟨Y3 O.size I.size,fun r o W E V=>I.bw r o (O.bw r o W E V) E fun am=>by
  have:=J r am;have:=(l7.1 W).1;omega⟩,U,ag.ad I fun E=>by have:=J g E;omega,ah,ai,ak⟩
theorem bz.ext {w w':x5} {g B N:Nat} {H:av} {so:Option aA} (h:bz w g B H N so) (E:Ext w w'):bz w' g B H N so:=h.new (E.ad fun _=>False) fun _ h=>h.elim
theorem bz.base {w:x5} {g B N:Nat} {H:av} {so:Option aA} (h:bz w g B H N so):bz w g w.heap.size H N so:=by
 obtain⟨I,w0,J,O,gs,sv,L,U,V,W,bad,X,big,Y,told,h1,Z,aa,E,ab,ac,ad⟩:=h;exact⟨I,w,J,O,gs,sv,L,U,V,W,bad,X,big,Y,told,rfl,aj.refl _ _,⟨_,E⟩,E,ab.g Z aa,ac,ad⟩
theorem bz.da {S:Nat→Prop} {w w':x5} {g B N:Nat} {H:av} {so:Option aA} (h:bz w g B H N so) (J:aj S w w') (O:∀ r,S r→(∃ e c,ak w r e c∧e≠ae∧e≠bx∧e≠bo∧e≠aN∧¬H r)∨w.heap.size≤r):bz w' g w'.heap.size H N so:=by
 obtain⟨Y,w0,U,V,gs,sv,L,W,Z,aa,bad,ab,big,ac,told,h1,af,ag,I,ah,X,ai⟩:=h.base;have al:jG w U V gs sv L W:=ah.g af ag;have E:=I.ad J fun am=>by
  rcases O g am with⟨e,c,E,_,_,_,ao,_⟩|az
  ·exact ao (eK E I)
  ·have:=I.lt;omega
 refine⟨Y,w',U,V,gs,sv,L,W,Z,aa,bad,ab,big,ac,told,rfl,aj.refl _ _,⟨_,E⟩,E,al.da J fun r ap=>(O r ap).imp (fun⟨e,c,E,aq,au,aw,_,ax⟩=>⟨e,c,E,aq,au,aw,fun ay=>ax (X r ay)⟩) id,X,ai⟩
theorem bz.lt {w:x5} {g B N:Nat} {H:av} {so:Option aA} (h:bz w g B H N so):g<B∧B≤w.heap.size:=by
 obtain⟨J,w0,O,U,gs,sv,L,V,W,X,bad,Y,big,Z,told,h1,E,⟨c,I⟩,_⟩:=h;have:=I.lt;have:=E.size;omega
theorem fW {w:x5} {g B N:Nat} {H:av} {so:Option aA} (h:bz w g B H N so):∃ E,∃ (I J bad O big U told:Int),∃ sv,ak w g aN (e6 E I J bad O big U told sv)∧(so.isSome=true↔bad=0):=by
 obtain⟨X,w0,E,Y,gs,sv,L,Z,I,J,bad,O,big,U,told,h1,aa,ab,W,ac,ad,V⟩:=h;refine⟨E,I,J,bad,O,big,U,told,sv,W,?_⟩;cases so with
 |none=>exact⟨(fun h=>by cases h),fun h=>absurd h V.1⟩
 |some s=>exact⟨fun _=>V.1,fun _=>rfl⟩
theorem i7 {w:x5} {g B N:Nat} {H:av} {so:Option aA} {K:x4→Prop} (h:bz w g B H N so):I y0 (am (.pointer (some ⟨g,0,none⟩))) w (fun E=>I y0 (x2 aN E 3) w fun t45=>I y0 (x1 J t45) w fun t46=>I y0 (U .eql J false true t46 (.int .i64 0)) w K)=K (.bool so.isSome):=by
 obtain⟨V,W,X,bad,Y,big,Z,told,sv,O,hi⟩:=fW h;rw[az,ah aN.p rfl,ai (by kernel_rfl) (O.cell (o:=0+3) rfl),bQ];congr 2;rw[X8,decide_eq_true_eq];exact hi.symm
theorem qd {w:x5} {g B N:Nat} {H:av} {so:Option aA} {K:x4→Prop} (h:bz w g B H N so):I y0 (am (.pointer (some ⟨g,0,none⟩))) w (fun V=>I y0 (x2 aN V 3) w fun t45=>I y0 (x1 J t45) w fun t46=>I y0 (U .neq J false true t46 (.int .i64 0)) w K)=K (.bool (!so.isSome)):=by
 obtain⟨X,Y,Z,bad,aa,big,ab,told,sv,W,hi⟩:=fW h;rw[az,ah aN.p rfl,ai (by kernel_rfl) (W.cell (o:=0+3) rfl),bN];congr 2;cases O:so.isSome with
 |true=>have E:=hi.1 O;simp[E]
 |false=>
  have E:bad≠0:=fun E=>by rw[hi.2 E] at O;cases O
  simp[E]
def nr (w:x5) (g B:Nat) (H:av) (N:Nat) (so:Option aA) (w':x5):Prop:=aj (fun r=>r=g) w w'∧bz w' g B H N so
theorem lM {w:x5} {g B N:Nat} {H:av} {so:Option aA} {e at_:Int} (h:bz w g B H N so) (he:e≠0):O y0 fy [.pointer (some ⟨g,0,none⟩),.int .i64 e,.int .i64 at_] w fun _ w'=>nr w g B H N none w':=by
 apply fy.enter;rw[i7 h];cases so with
 |none=>rw[Option.isSome_none,aT];exact⟨aj.refl _ _,h⟩
 |some s=>
  rw[Option.isSome_some,bP];obtain⟨Y,w0,I,Z,gs,sv,L,aa,U,V,bad,ap,big,W,told,h1,ab,ac,ad,ae,af,ag⟩:=h;rw[az,ah aN.p rfl];refine bE (g:=g) (o:=3) J.i rfl rfl ad (by simp[e6]) fun aq ai au al=>?_;rw[az,ah aN.p rfl];refine bE (g:=g) (o:=4) J.i rfl rfl al (by simp[e6]) fun am ao aw E=>?_;have E:ak am g aN (e6 I U V e at_ big W told sv):=E;have X:=ai.trans ao;obtain⟨_,_,_,_,_,_,_,_,ax⟩:=ag;exact⟨X,Y,w0,I,Z,gs,sv,L,aa,U,V,e,at_,big,W,told,h1,ab.trans X,ac,E,ae,af,he,by omega⟩
theorem ky {w:x5} {g B N:Nat} {H:av} {so:Option aA} {b:Bool} {at_:Int} (h:bz w g B H N so):O y0 fZ [.pointer (some ⟨g,0,none⟩),.bool b,.int .i64 at_] w fun _ w'=>nr w g B H N (so.map (aY b)) w':=by
 apply fZ.enter;obtain⟨al,w0,I,am,gs,sv,L,ao,U,V,bad,W,big,aD,told,h1,ap,aq,X,au,aw,Y⟩:=id h;refine aZ (fun v ax=>w=ax∧v= .bool (b&&decide (big=0)&&so.isSome)) ?_ ?_
 ·rintro _ _ ⟨rfl,rfl⟩;rw[cE];refine⟨fun ay=>?_,fun aE=>⟨aj.refl _ _,al,w0,I,am,gs,sv,L,ao,U,V,bad,W,big,aD,told,h1,ap,aq,X,au,aw,?_⟩⟩
  ·rw[U1,U1] at ay;obtain⟨⟨aF,aL⟩,aG⟩:=ay;rw[az,ah aN.p rfl];refine bE (g:=g) (o:=5) J.i rfl rfl X (by simp[e6]) fun ax aH aM aI=>?_;rw[az,ah aN.p rfl];refine bE (g:=g) (o:=6) J.i rfl rfl aI (by simp[e6]) fun aJ aK aO Z=>?_;have Z:ak aJ g aN (e6 I U V bad W 5 at_ told sv):=Z;have aB:=aH.trans aK;refine⟨aB,al,w0,I,am,gs,sv,L,ao,U,V,bad,W,5,at_,told,h1,ap.trans aB,aq,Z,au,aw,?_⟩;cases so with
   |none=>cases aG
   |some s=>
    obtain⟨aa,ab,aC,ac,ad⟩:=Y;exact⟨aa,ab,⟨fun _=>by show (s.big||b)=true;rw[aF,Bool.or_true],fun _=>by omega⟩,fun ae=>ac (U5.1 ae).1,ad⟩
  ·cases so with
   |none=>exact Y
   |some s=>
    obtain⟨aa,ab,aC,ac,ad⟩:=Y;refine⟨aa,ab,?_,fun ae=>ac (U5.1 ae).1,ad⟩;show big≠0↔(s.big||b)=true;cases b with
    |false=>rw[Bool.or_false];exact aC
    |true=>
     have E:big≠0:=by simpa using aE
     simp[E]
 ·intro aP af;cases b with
  |false=>rw[aT];exact af _ _ ⟨rfl,by simp⟩
  |true=>
   rw[bP,az,ah aN.p rfl,ai (by kernel_rfl) (X.cell (o:=0+5) rfl),bQ,ag];refine⟨fun E=>?_,fun E=>af _ _ ⟨rfl,by rw[decide_eq_false E];simp⟩⟩;rw[i7 h];exact af _ _ ⟨rfl,by rw[decide_eq_true E];simp⟩
def hl (so:Option aA):Option (List Int×aA):=so.bind de
theorem yQ {w:x5} {g B N:Nat} {H:av} {so:Option aA} (h:bz w g B H N so):O y0 mh [.pointer (some ⟨g,0,none⟩)] w fun v w'=>nr w g B H N ((hl so).map (·.2)) w'∧ ∃ (t:List Int) (n:Int),v= .agg #[bu t,.int .i64 n]∧Bytes t∧t.length≤65536∧ ∀ q,hl so=some q→t=q.1:=by
 have a1:=h.lt;apply mh.enter;refine bO bo.i fun E ae bJ W X=>?_;have h1:=h.ext W;have zero:∀ {U:x5},nr ae g B H N none U→ak U E bo [.string ⟨#[]⟩,.int .i64 0]→hl so=none→(I y0 (Z0 bo #[]) U fun t9=>
   aa y0 (x8 bo (.pointer (some ⟨E,0,none⟩)) t9) U fun(_:Unit) aD=>
   I y0 (do loadVar bo (←asAddr (.pointer (some ⟨E,0,none⟩)))) aD fun a2=>(fun v w'=>nr w g B H N ((hl so).map (·.2)) w'∧ ∃ (t:List Int) (n:Int),v= .agg #[bu t,.int .i64 n]∧Bytes t∧t.length≤65536∧ ∀ q,hl so=some q→t=q.1) a2 aD):=by
  intro U V af aq;rw[cW (cs:=#[.string ⟨#[]⟩,.int .i64 0]) (by kernel_rfl)];refine b4 (vs:=[.string ⟨#[]⟩,.int .i64 0]) bo.i rfl rfl (by intro v aE;simp at aE;rcases aE with rfl|rfl <;> rfl) af fun a6 aF bK a7=>?_;rw[eN bo.p bo.i rfl a7.range,aq];have a8:=W.size;have bL:=a1;refine⟨⟨fB ((W.ad _).trans V.1) aF fun r J he=>?_,V.2.new aF fun r J=>?_⟩,[],0,rfl,(fun b ba=>by cases ba),by simp,fun q au=>by cases au⟩
  ·have he:r=E:=he;omega
  ·have J:r=E:=J;omega
 rw[qd h1];cases so with
 |none=>
  rw[Option.isSome_none,X0,bP];exact zero ⟨aj.refl _ _,h1⟩ X rfl
 |some s=>
 rw[Option.isSome_some,Y1,aT];obtain⟨bb,w0,bM,aw,gs,sv,L,aG,aH,aI,bad,aJ,big,aK,told,bc,aL,aM,Y,al,bd,be⟩:=id h1;have bf:=al.g aL aM;obtain⟨⟨am,bN⟩,_⟩:=id bf;obtain⟨bg,aO,bh,bi,bj,aP,aQ,bk,bl⟩:=id be;rw[az,ah aN.p rfl,ai (by kernel_rfl) (Y.cell (o:=0+0) rfl),yO am,bQ,ag];refine⟨fun aR=>?_,fun aR=>?_⟩
 ·have bm:aw=[]:=j9 (by omega);have Z:s.toks=[]:=by rw[←aP,bm];rfl
  have aq:hl (some s)=none:=by show de s=none;unfold de;rw[Z]
  intro U ao _ _;have af:=Y.ext ao;rw[az,ah aN.p rfl,ai (by kernel_rfl) (af.cell (o:=0+2) rfl),az,ah aN.p rfl,ai (by kernel_rfl) (af.cell (o:=0+1) rfl)];refine (lM (h1.ext ao) aO).mono ?_;rintro _ a6 _ V;have bn:=X.lt;exact zero ⟨(ao.ad _).trans V.1,V.2⟩ ((X.ext ao).ad V.1 fun he=>by have he:E=g:=he;omega) aq
 ·obtain⟨x,ab,rfl⟩:∃ x l,aw=x::l:=by
   cases aw with
   |nil=>exact absurd rfl aR
   |cons x l=>exact⟨x,l,rfl⟩
  have Z:s.toks=x.1::ab.map (·.1):=by rw[←aP];rfl
  have bp:hl (some s)=some (x.1,{s with toks:=ab.map (·.1)}):=by show de s=_;unfold de;rw[Z]
  have aS:=aQ x.1 (by rw[Z];exact .head _);rw[az,ah aN.p rfl,ai (by kernel_rfl) (Y.cell (o:=0+0) rfl)];refine yP am fun b o bq=>?_;rw[bI bo.p bo.i rfl bq];refine bO bo.i fun ax bR bS br bt=>?_;refine b4 (vs:=eL x) bo.i rfl rfl (ud x) bt fun bw bx bT aU=>?_;have ap:Ext ae bw:=br.then bx fun r J he=>by have he:r=ax:=he;omega
  have aV:=Y.ext ap;rw[az,ah aN.p rfl,ai (by kernel_rfl) (aV.cell (o:=0+0) rfl)];refine Ft (am.ad (ap.ad fun _=>False) fun _ _ h=>h) fun ay aW bA=>?_;have aX:=aW ae am;rw[az,ah aN.p rfl];refine bE (g:=g) (o:=0) cA.i (cJ aX).1 (cJ aX).2 aV (by simp[e6]) fun ac aB bU aC=>?_;have aC:ak ac g aN (e6 ay aH aI bad aJ big aK told sv):=aC;have bn:=Y.lt;have bV:=aU.lt;have bW:=X.lt;have a8:=W.size;have bB:ak ac ax bo (eL x):=aU.ad aB fun he=>by have he:ax=g:=he;omega
  rw[bI bo.p bo.i rfl bB.range];have bC:ak ac E bo [.string ⟨#[]⟩,.int .i64 0]:=(ak.ext X ap).ad aB fun he=>by have he:E=g:=he;omega
  refine b4 (vs:=eL x) bo.i rfl rfl (ud x) bC fun bX aY bY bD=>?_;rw[eN bo.p bo.i rfl bD.range];have aZ:aj (fun r=>r=g) ae ac:=(ap.ad _).trans aB;rw[bp];refine⟨⟨fB ((W.ad _).trans aZ) aY fun r J he=>?_,?_⟩,x.1,x.2,rfl,aS.1,aS.2,fun q au=>by cases au;rfl⟩
  ·have he:r=E:=he;omega
  ·have bF:jG w0 ay ab gs sv L aG:=⟨⟨aW w0 al.1.1,fun r J=>al.1.2 r (bA r J)⟩,al.2⟩;have bG:bz ac g B H N (some {s with toks:=ab.map (·.1)}):=⟨bb,w0,ay,ab,gs,sv,L,aG,aH,aI,bad,aJ,big,aK,told,bc,aL.trans aZ,aM,aC,bF,bd,bg,aO,bh,bi,bj,rfl,fun t bH=>aQ t (by rw[Z];exact .tail _ bH),bk,by simp at bl;omega⟩;refine bG.new aY fun r J=>?_;have J:r=E:=J;omega
theorem Fy {lo hi:Int} {so:Option aA}:aU lo hi so=match hl so with
  |none=>none
  |some (w,s)=>match e0 w with
   |none=>none
   |some n=>if lo≤n∧n≤hi then some (n,s) else none:=by
 cases so with
 |none=>rfl
 |some s=>rfl
set_option maxHeartbeats 1000000 in
theorem ip {w:x5} {g B N:Nat} {H:av} {so:Option aA} {lo hi:Int} (h:bz w g B H N so):O y0 en [.pointer (some ⟨g,0,none⟩),.int .i64 lo,.int .i64 hi] w fun v w'=>nr w g B H N ((aU lo hi so).map (·.2)) w'∧ ∃ n at_:Int,v= .tuple #[.int .i64 n,.int .i64 at_]∧(∀ q,aU lo hi so=some q→n=q.1)∧(aU lo hi so=none→n=0):=by
 have aX:=h.lt;apply en.enter;refine (yQ h).mono ?_;rintro _ aE _ ⟨⟨ao,h1⟩,t,at_,rfl,aF,aY,ap⟩;have a1:=h1.lt;refine bO bo.i fun aq a2 a6 aG aH=>?_;refine b4 (vs:=[bu t,.int .i64 at_]) bo.i rfl rfl (by intro v aw;simp at aw;rcases aw with rfl|rfl <;> rfl) aH fun aI aJ a7 ax=>?_;have ay:Ext aE aI:=aG.then aJ fun r a8 he=>by have he:r=aq:=he;omega
 have aK:=h1.ext ay;rw[ah bo.p rfl,ai (by kernel_rfl) (ax.cell (o:=0+0) rfl)];refine (Fq aF (by omega)).mono ?_;rintro _ Z _ ⟨rfl,aa⟩;have ab:=aK.ext aa;have az:=ax.ext aa;have aL:=ay.trans aa;have ba:=ao.size;obtain⟨n,e,aM,ac,aN⟩:∃ n e:Int,ie t= .tuple #[.int .i64 n,.int .i64 e]∧(∀ m,e0 t=some m→n=m∧e=0)∧(e0 t=none→e≠0):=by
  unfold ie;cases e0 t with
  |none=>exact⟨0,4,rfl,(fun m hm=>by cases hm),fun _=>by omega⟩
  |some m=>exact⟨m,0,rfl,(fun m hm=>by cases hm;exact⟨rfl,rfl⟩),fun h=>by cases h⟩
 rw[aM,aC (v:=.int .i64 n) rfl,aC (v:=.int .i64 e) rfl];have E:=Fy (lo:=lo) (hi:=hi) (so:=so);have aB:aj (fun r=>r=g) w Z:=ao.trans (aL.ad _);refine dF (fun V=>aj (fun r=>r=g) Z V∧bz V g B H N ((aU lo hi so).map (·.2))) ?_ ?_
 ·rintro V ⟨W,U⟩;rw[qd U];cases X:aU lo hi so with
  |none=>
   rw[X] at U;rw[Option.map_none,Option.isSome_none,X0,bP];exact⟨⟨aB.trans W,U⟩,0,0,rfl,(fun q X=>by cases X),fun _=>rfl⟩
  |some q=>
   rw[X] at U E;rw[b6,Option.isSome_some,Y1,aT];intro bb ae _ _;have aO:=(az.ad W fun he=>by have he:aq=g:=he;omega).ext ae;rw[ah bo.p rfl,ai (by kernel_rfl) (aO.cell (o:=0+1) rfl)];refine⟨⟨(aB.trans W).trans (ae.ad _),U.ext ae⟩,n,at_,rfl,fun bc aP=>?_,fun h=>by cases h⟩;cases aP;cases J:hl so with
   |none=>rw[J] at E;cases E
   |some p=>
    obtain⟨af,ak⟩:=p;have al:=ap (af,ak) J;subst al;rw[J] at E;simp only at E;cases I:e0 t with
    |none=>rw[I] at E;cases E
    |some m=>
     rw[I] at E;simp only at E;split at E
     ·cases E;exact (ac m I).1
     ·cases E
 ·intro bd aD;refine aZ (fun v V=>Z=V∧ ∃ c:Bool,v= .bool c∧(c=true→aU lo hi so=none)∧(c=false→(aU lo hi so).map (·.2)=(hl so).map (·.2))) ?_ ?_
  ·rintro _ _ ⟨rfl,c,rfl,aQ,aR⟩;rw[cE];refine⟨fun h=>?_,fun h=>aD _ ⟨aj.refl _ _,by rw[aR h];exact ab⟩⟩;rw[ah bo.p rfl,ai (by kernel_rfl) (az.cell (o:=0+1) rfl)];refine (lM ab (by omega)).mono ?_;rintro _ V _ ⟨W,U⟩;exact aD _ ⟨W,by rw[aQ h];exact U⟩
  ·intro be Y;rw[i7 ab];cases J:hl so with
   |none=>
    rw[J] at E;simp only at E;rw[Option.map_none,Option.isSome_none,aT];exact Y _ _ ⟨rfl,false,rfl,(fun h=>by cases h),fun _=>by rw[E,J];rfl⟩
   |some p=>
    obtain⟨af,ak⟩:=p;have al:=ap (af,ak) J;subst al;rw[J] at E;simp only at E;rw[b6,Option.isSome_some,bP,bN,ag];refine⟨fun he=>?_,fun he=>?_⟩
    ·refine Y _ _ ⟨rfl,true,rfl,fun _=>?_,fun h=>by cases h⟩;cases I:e0 t with
     |none=>rw[E,I]
     |some m=>exact absurd (ac m I).2 he
    ·have aS:e=0:=X2.1 he;cases I:e0 t with
     |none=>exact absurd aS (aN I)
     |some m=>
      rw[I] at E;simp only at E;have aV:=(ac m I).1;subst aV;rw[au,ag];refine⟨fun aW=>Y _ _ ⟨rfl,true,rfl,fun _=>by rw[E,if_neg (by omega)],fun h=>by cases h⟩,fun aW=>?_⟩;rw[bV];refine Y _ _ ⟨rfl,_,rfl,fun am=>?_,fun am=>?_⟩
      ·rw[E,if_neg (by have:=of_decide_eq_true am;omega)]
      ·rw[E,if_pos (by have:=of_decide_eq_false am;omega),J];rfl
theorem uh {Y bv:x4} {a b:List Int} {w:x5} (E:aH .i64 w Y a) (Z:aH .i64 w bv b):O y0 iL [Y,bv] w fun v w'=>v= .bool (decide (a=b))∧Ext w w':=by
 apply iL.enter;rw[aO af.u E,aO af.u Z,bN,ag];refine⟨fun h=>⟨by rw[decide_eq_false];intro he;rw[he] at h;exact h rfl,Ext.refl _⟩,fun h=>?_⟩;have aa:a.length=b.length:=by have:=X2.1 h;omega
 rw[aO af.u E];refine a8.range a.length (fun i _ V=>Ext w V∧a.take i=b.take i) E.le ⟨Ext.refl _,rfl⟩ ?_ ?_
 ·rintro i _ V k hi ⟨W,I⟩ ab;obtain⟨x,J⟩:∃ x,a[i]? =some x:=⟨_,x3 hi⟩;obtain⟨y,X⟩:∃ y,b[i]? =some y:=⟨_,x3 (by omega)⟩;rw[au,ag];refine⟨fun _=>?_,fun h=>by omega⟩;intro ah ac _ _;have U:=W.trans ac;rw[bm af.u ae.i (by kernel_rfl) (E.ext U) J,bm af.u ae.i (by kernel_rfl) (Z.ext U) X,bN,ag];refine⟨fun ad=>⟨by rw[decide_eq_false];intro he;rw[he,X] at J;exact ad (b9 J).symm,U⟩,fun he=>?_⟩;rw[aK];refine ab _ _ ⟨U,?_⟩;rw[o3,o3,I,J,X,X2.1 he]
 ·rintro _ V k ⟨W,I⟩;rw[au,ag];refine⟨fun h=>by omega,fun _=>⟨?_,W⟩⟩;rw[l5,aa,l5] at I;rw[decide_eq_true I]
def fv (w:x5) (B E:Nat) (x:ca):Prop:=∃ a6 aw bK I J O,ak w E aF [a6,aw,.int .i64 x.other,bK]∧aq .i64 ae w I a6 x.scope∧aq .i64 ae w J aw x.sizes∧io w O bK x.lines∧(∀ r,leads a6 r∨leads aw r→B≤r)∧(∀ r,leads a6 r→¬leads aw r)∧B≤E
def yR (w:x5) (r:Nat):Prop:=(∃ e c,ak w r e c∧e≠ae∧e≠bx∧e≠aF)∨w.heap.size≤r
theorem fv.da {w w':x5} {S:Nat→Prop} {B I:Nat} {x:ca} (h:fv w B I x) (E:aj S w w') (U:∀ r,S r→yR w r):fv w' B I x:=by
 obtain⟨a6,aw,bK,V,W,X,h1,Y,Z,aa,ab,ac,ae⟩:=h;have J:∀ r,S r→fu w r∨w.heap.size≤r:=fun r af=>(U r af).imp (fun⟨e,c,O,ag,ah,_⟩=>⟨e,c,O,ag,ah⟩) id;refine⟨a6,aw,bK,V,W,X,h1.ad E fun ai=>?_,dJ Y E J,dJ Z E J,aa.da E J,ab,ac,ae⟩;rcases U I ai with⟨e,c,O,_,_,ak⟩|al
 ·exact ak (eK O h1)
 ·have:=h1.lt;omega
theorem fv.ext {w w':x5} {B E:Nat} {x:ca} (h:fv w B E x) (I:Ext w w'):fv w' B E x:=h.da (I.ad fun _=>False) fun _ h=>h.elim
theorem iq {w:x5} {g B N:Nat} {H:av} {so:Option aA} (h:bz w g B H N so):∀ r,r=g→yR w r:=fun r E=>by
 subst E;obtain⟨J,O,U,bad,V,big,W,told,sv,I,_⟩:=fW h;exact .inl ⟨_,_,I,by decide,by decide,by decide⟩
def fj (g B:Nat):av:=fun r=>r=g∨B≤r
theorem Fz {n:Int} {k:Nat} {acc:List Int} {s:aA}:ck (fun acc s=>match a7 0 (n-1) s with
 |none=>none
 |some (v,s)=>if v∈acc then none else some (v,s)) (k+1) acc s=match a7 0 (n-1) s with
  |none=>none
  |some (v,s')=>if v∈acc then none else ck (fun acc s=>match a7 0 (n-1) s with
 |none=>none
 |some (v,s)=>if v∈acc then none else some (v,s)) k (acc++[v]) s':=by
 rw[ck];cases a7 0 (n-1) s with
 |none=>rfl
 |some q=>
  obtain⟨v,s'⟩:=q;simp only;by_cases E:v∈acc
  ·rw[if_pos E,if_pos E]
  ·rw[if_neg E,if_neg E]
def yS (n:Int) (k:Nat) (acc:List Int) (s:aA):Option (List Int×aA):=ck (fun acc s=>match a7 0 (n-1) s with
 |none=>none
 |some (v,s)=>if v∈acc then none else some (v,s)) k acc s
set_option maxHeartbeats 4000000 in
theorem yT {w:x5} {g B N V bV ar:Nat} {H:av} {s:aA} {so:Option aA} {aP:x4} {all:List Int} {bj bk:x5→Prop} (bY:bz w g B H N so) (cq:so=some s∨(so=none∧ar=0)) (cr:fv w B V ⟨[],[],0,[]⟩) (ct:∀ c,ak w V aF c→c[3]? =some (.slice none 0 0)) (bZ:aq .i64 ae w bV aP all) (cu:∀ r,leads aP r→r<B) (dE:all.length≤100001) (dF:ar≤4611686018427387904) (bl:so=some s→s.toks.length≤100000)
  (a1:so=some s→ ∀ w' x,aj (fj g B) w w'→dY all.length ar s=none→bz w' g B H N none→fv w' B V x→bj w')
  (cw:so=none→bk w)
  (bn:so=some s→ ∀ w' scope s',aj (fj g B) w w'→dY all.length ar s=some (scope,s')→bz w' g B H N (some s')→fv w' B V ⟨scope,scope.map fun v=>all.getD v.toNat 0,0,[]⟩→(∀ c,ak w' V aF c→c[3]? =some (.slice none 0 0))→bk w'):
  bc (.int .i64 0) w fun i X k=>
   aB (α:=x4→x5→Prop) (fun(cz:x4) (ax:x5)=>
    Split cz (I y0 (u6 #[af] J #[aP]) ax fun t53=>
   I y0 (U .sub ae false true t53 (.int .i64 1)) ax fun cA=>
   O y0 en [.pointer (some ⟨g,0,none⟩),(.int .i64 0),cA] ax fun t55 Y=>
   I y0 (u5 t55 0) Y fun bo=>
   I y0 (u5 t55 1) Y fun cB=>
   I y0 (am (.pointer (some ⟨g,0,none⟩))) Y fun cC=>
   I y0 (x2 aN cC 3) Y fun cD=>
   I y0 (x1 J cD) Y fun cE=>
   I y0 (U .neq J false true cE (.int .i64 0)) Y fun cF=>
   Split cF (bj Y)
    (I y0 (x2 aF (.pointer (some ⟨V,0,none⟩)) 0) Y fun cG=>
   I y0 (x1 af cG) Y fun b1=>
   I y0 (u6 #[af] J #[b1]) Y fun t66=>
   bc (.int .i64 0) Y fun bq ab cH=>
    I y0 (U .lss J false false bq t66) ab fun cI=>
    Split cI (I y0 (x7 af b1 bq) ab fun cJ=>
    I y0 (x1 ae cJ) ab fun t70=>
    I y0 (U .eql ae false false t70 bo) ab fun cK=>
    Split cK (O y0 fy [.pointer (some ⟨g,0,none⟩),(.int .i64 4),cB] ab fun t76 br=>bj br)
     (I y0 (U .add J false true bq (.int .i64 1)) ab fun cL=>
    cH cL ab))
     (I y0 (x2 aF (.pointer (some ⟨V,0,none⟩)) 0) ab fun cM=>
   I y0 (x1 af cM) ab fun cN=>
   aa y0 (u9 af 1 #[(0,bo)]) ab fun cO aR=>
   aa y0 (r9 #[af,af] af #[cN,cO]) aR fun cP bt=>
   I y0 (x2 aF (.pointer (some ⟨V,0,none⟩)) 0) bt fun cQ=>
   aa y0 (x8 af cQ cP) bt fun(_:Unit) aD=>
   aQ aD fun aG=>
   I y0 (x2 aF (.pointer (some ⟨V,0,none⟩)) 1) aG fun bu=>
   I y0 (x1 af bu) aG fun b2=>
   I y0 (x7 af aP bo) aG fun cR=>
   I y0 (x1 ae cR) aG fun cS=>
   aa y0 (u9 af 1 #[(0,cS)]) aG fun cT aM=>
    (Ext aG aM∨al y0 (x1 af bu) b2 aM∧al y0 (x2 aF (.pointer (some ⟨V,0,none⟩)) 1) bu aM∧True)∧
   aa y0 (r9 #[af,af] af #[b2,cT]) aM fun cU bw=>
    I y0 (x2 aF (.pointer (some ⟨V,0,none⟩)) 1) bw fun cV=>
    aa y0 (x8 af cV cU) bw fun(_:Unit) aH=>
     I y0 (U .add ae false true i (.int .i64 1)) aH fun cW=>
   k cW aH)))
     (bk ax)) fun b3=>
   I y0 (U .lss ae false false i (.int .i64 (ar:Int))) X fun cX=>
   Split cX (I y0 (am (.pointer (some ⟨g,0,none⟩))) X fun cY=>
   I y0 (x2 aN cY 3) X fun cZ=>
   I y0 (x1 J cZ) X fun t45=>
   I y0 (U .eql J false true t45 (.int .i64 0)) X fun t46=>
   b3 t46 X)
    (b3 (.bool false) X):=by
 have dG:=bY.lt;rcases cq with rfl|⟨rfl,rfl⟩
 rotate_left
 ·refine bc.range 0 (fun _ b4=>w=b4) (by omega) rfl (fun i b4 k hi=>by omega) ?_;rintro _ k rfl;refine aZ (fun v ax=>w=ax∧v= .bool false) ?_ ?_
  ·rintro _ _ ⟨rfl,rfl⟩;rw[aT];exact cw rfl
  ·intro b5 aS;rw[au,ag];exact⟨fun h=>by omega,fun _=>aS _ _ ⟨rfl,rfl⟩⟩
 have h:=bY;have bl:=bl rfl;have a1:=a1 rfl;have bn:=bn rfl;refine bc.range ar (fun i X=>∃ scope ay,aj (fj g B) w X∧bz X g B H N (some ay)∧fv X B V ⟨scope,scope.map fun v=>all.getD v.toNat 0,0,[]⟩∧scope.length=i∧scope.length+ay.toks.length≤100000∧dY all.length ar s=yS all.length (ar-i) scope ay∧ ∀ c,ak X V aF c→c[3]? =some (.slice none 0 0)) (by omega) ⟨[],s,aj.refl _ _,h,cr,rfl,by simpa using bl,rfl,ct⟩ ?_ ?_
 rotate_left
 ·rintro X k ⟨scope,ay,a2,aE,a8,b7,c0,Z,bx⟩;refine aZ (fun v ax=>X=ax∧v= .bool false) ?_ ?_
  ·rintro _ _ ⟨rfl,rfl⟩;rw[aT];rw[W3] at Z;exact bn X scope ay a2 Z aE a8 bx
  ·intro b5 aS;rw[au,ag];exact⟨fun h=>by omega,fun _=>aS _ _ ⟨rfl,rfl⟩⟩
 rintro i X k hi ⟨scope,ay,a2,aE,a8,b7,c0,Z,bx⟩ c1;refine aZ (fun v ax=>X=ax∧v= .bool true) ?_ ?_
 rotate_left
 ·intro b5 aS;rw[au,ag];refine⟨fun _=>?_,fun h=>by omega⟩;rw[i7 aE];exact aS _ _ ⟨rfl,rfl⟩
 rintro _ _ ⟨rfl,rfl⟩;rw[bP];have b8:∀ {w':x5},aj (fj g B) w w'→aq .i64 ae w' bV aP all:=fun c2=>bp bZ c2 fun r E W=>by
  rcases W with rfl|W
  ·obtain⟨c4,ac,aV,bad,c5,big,c6,told,sv,ao,_⟩:=fW h;exact bW bZ ao (by decide) E rfl
  ·have:=cu r E;omega
 rw[aO af.u (b8 a2).ls,dD,wrap_i64 (by omega) (by omega)];refine (ip aE).mono ?_;rintro _ Y _ ⟨⟨bA,ap⟩,n,at_,rfl,bB,c7⟩;rw[aC (v:=.int .i64 n) rfl,aC (v:=.int .i64 at_) rfl,qd ap];have bC:=a8.da bA (iq aE);have bD:aj (fj g B) w Y:=a2.trans (bA.mono fun r _ h=>.inl h);have c8:=Fz (n:=(all.length:Int)) (k:=ar-(i+1)) (acc:=scope) (s:=ay);have c9:ar-i=(ar-(i+1))+1:=by omega
 rw[c9] at Z;unfold yS at Z;rw[c8] at Z;have db:aU 0 ((all.length:Int)-1) (some ay)=a7 0 ((all.length:Int)-1) ay:=rfl;rw[db] at ap bB c7 ⊢;cases ba:a7 0 ((all.length:Int)-1) ay with
 |none=>
  rw[ba] at ap Z;rw[Option.map_none,Option.isSome_none,X0,bP];exact a1 Y _ bD Z ap bC
 |some q=>
  obtain⟨v,bF⟩:=q;rw[ba] at ap Z bB;have dc:n=v:=bB _ rfl;subst dc;have dH:=(fQ ba).1;have dI:=(c3 ba).1;simp only at Z;rw[b6,Option.isSome_some,Y1,aT];have ap:bz Y g B H N (some bF):=ap;obtain⟨a6,aw,bK,dJ,dd,bG,f1,f2,f3,f4,f5,f6,f7⟩:=id bC;rw[ah aF.p rfl,ai (by kernel_rfl) (f1.cell (o:=0+0) rfl),aO af.u f2.ls];have dK:scope.length≤100000:=by omega
  refine bc.range scope.length (fun j ab=>Y=ab∧n∉scope.take j) (by omega) ⟨rfl,by simp⟩ ?_ ?_
  ·rintro j _ de df ⟨rfl,bb⟩ dg;obtain⟨u,hu⟩:∃ u,scope[j]? =some u:=⟨_,x3 df⟩;rw[au,ag];refine⟨fun _=>?_,fun h=>by simp only at h;omega⟩;rw[bm af.u ae.i (by kernel_rfl) f2.ls hu,bQ,ag];refine⟨fun he=>?_,fun dh=>?_⟩
   ·refine (lM ap (by omega)).mono ?_;rintro _ br _ ⟨ca,di⟩;rw[if_pos (by rw[←he];exact u4 hu)] at Z;exact a1 br _ (bD.trans (ca.mono fun r _ h=>.inl h)) Z di (bC.da ca (iq ap))
   ·rw[aK];refine dg _ ⟨rfl,?_⟩;rw[o3,hu];intro hm;rcases n0.1 hm with hm|hm
    ·exact bb hm
    ·simp at hm;exact dh hm.symm
  ·rintro _ de ⟨rfl,bb⟩;rw[l5] at bb;rw[au,ag];refine⟨fun h=>by simp only at h;omega,fun _=>?_⟩;rw[if_neg bb] at Z;rw[ah aF.p rfl,ai (by kernel_rfl) (f1.cell (o:=0+0) rfl)];refine dW af.u ae.i rfl fun dL dM aR dN az dj=>?_;have dO:=ap.lt;refine gr af.u ae.i rfl (f2.ext az) dj.ls (by simp;omega) (by simp;omega) fun aI bH bt bd dk cb=>?_;have be:=f1.ext az;have f113:=be.ad cb fun he=>bW (f2.ext az) be (by decide) he rfl;rw[ah aF.p rfl];refine bE (g:=V) (o:=0) af.i bd.ls.cells.1 bd.ls.cells.2 f113 (by simp) fun aD cc dP bf=>?_;have bf:ak aD V aF [aI,aw,.int .i64 0,bK]:=bf;intro aG bI _ _;have aW:aj (fun r=>leads a6 r∨r=V) aR aD:=(cb.mono fun r _ h=>.inl h).trans (cc.mono fun r _ h=>.inr h);have cd:∀ r,(leads a6 r∨r=V)→fj g B r:=fun r E=>.inr (E.elim (fun E=>f5 r (.inl E)) fun E=>E▸f7);have ce:aj (fj g B) w aD:=(bD.trans (az.ad _)).trans (aW.mono fun r _ E=>cd r E);have dl:aj (fj g B) w aG:=ce.trans (bI.ad _);have dm:aq .i64 ae aD dd aw _:=bp (f3.ext az) aW fun r E W=>by
    rcases W with W|rfl
    ·exact f6 r W E
    ·exact bW (f3.ext az) be (by decide) E rfl
   have dn:aq .i64 ae aD bH aI (scope++[n]):=bp bd cc fun r E he=>by
    have he:r=V:=he;subst he;exact bW bd f113 (by decide) E rfl
   have dp:∀ r,(leads a6 r∨r=V)→(∃ c,ak aR r ae c)∨ ∃ c,ak aR r aF c:=fun r E=>by
    rcases E with E|rfl
    ·obtain⟨ac,_⟩:=bX f2 E;obtain⟨_,⟨aX,_⟩|⟨_,cs,aX,ao,_⟩⟩:=f2.ext az
     ·rw[aX] at E;obtain⟨a,dq,c,ac,aV⟩:=E;cases ac
     ·exact .inl ⟨cs,ac▸ao⟩
    ·exact .inr ⟨_,be⟩
   have dr:io aD bG bK []:=by
    obtain⟨L,aJ,ds,bJ⟩:=f4.da (az.ad fun _=>False) fun _ h=>h.elim;have bL:L=[]:=List.map_eq_nil_iff.1 bJ;subst bL;refine⟨[],aJ.ad aW fun r E W=>?_,fun y bM=>(by cases bM),rfl⟩;rcases dp r W with⟨c,ao⟩|⟨c,ao⟩
    ·exact cp aJ ao (by decide) E
    ·exact cp aJ ao (by decide) E
   have dt:bz aD g B H N (some bF):=(ap.ext az).new aW fun r E=>by
    rcases cd r E with rfl|h
    ·rcases E with E|E
     ·exact f5 _ (.inl E)
     ·exact E▸f7
    ·exact h
   rw[ah aF.p rfl,ai (by kernel_rfl) ((bf.ext bI).cell (o:=0+1) rfl)];have du:all[n.toNat]? =some (all.getD n.toNat 0):=by rw[p8,x3 (by omega)];rfl
   rw[eE (y:=n) (i:=n.toNat) (by omega) af.u ae.i (by kernel_rfl) (b8 dl).ls du];refine dW af.u ae.i rfl fun dQ dR aM dS cg dv=>?_;refine⟨.inl cg,?_⟩;have aL:=bI.trans cg;have f316:=dm.ext aL;have ch:(scope.map fun v=>all.getD v.toNat 0).length=scope.length:=o4 _;refine gr af.u ae.i rfl f316 dv.ls (by simp at ch ⊢;omega) (by simp at ch ⊢;omega) fun bN dw bw bg ci cj=>?_;have bh:=bf.ext aL;have ck:=bh.ad cj fun he=>bW f316 bh (by decide) he rfl;rw[ah aF.p rfl];refine bE (g:=V) (o:=1) af.i bg.ls.cells.1 bg.ls.cells.2 ck (by simp) fun aH cl dT aY=>?_;have aY:ak aH V aF [aI,bN,.int .i64 0,bK]:=aY;rw[aK];have bi:aj (fun r=>leads aw r∨r=V) aM aH:=(cj.mono fun r _ h=>.inl h).trans (cl.mono fun r _ h=>.inr h);have cm:∀ r,(leads aw r∨r=V)→B≤r:=fun r E=>E.elim (fun E=>f5 r (.inr E)) fun E=>E▸f7;have bO:=dn.ext aL;have dU:=az.size;have dV:=aW.size;have bR:∀ r,leads aI r→B≤r∧¬leads aw r:=fun r E=>by
    rcases dk r E with h|h
    ·exact⟨f5 r (.inl h),f6 r h⟩
    ·exact⟨by omega,fun bS=>by obtain⟨ac,aV⟩:=bX f3 bS;omega⟩
   have dx:aq .i64 ae aH bH aI (scope++[n]):=bp bO bi fun r E W=>by
    rcases W with W|rfl
    ·exact (bR r E).2 W
    ·exact bW bO bh (by decide) E rfl
   have dy:=bp bg cl fun r E he=>by
    have he:r=V:=he;subst he;exact bW bg ck (by decide) E rfl
   have dz:io aH bG bK []:=by
    obtain⟨L,aJ,ds,bJ⟩:=dr.da (aL.ad fun _=>False) fun _ h=>h.elim;have bL:L=[]:=List.map_eq_nil_iff.1 bJ;subst bL;refine⟨[],aJ.ad bi fun r E W=>?_,fun y bM=>(by cases bM),rfl⟩;rcases W with W|rfl
    ·obtain⟨ac,_⟩:=bX f316 W;obtain⟨_,⟨aX,_⟩|⟨_,cs,aX,ao,_⟩⟩:=f316
     ·rw[aX] at W;obtain⟨a,dq,c,ac,aV⟩:=W;cases ac
     ·exact cp aJ (ac▸ao) (by decide) E
    ·exact cp aJ bh (by decide) E
   refine c1 _ ⟨scope++[n],bF,((ce.trans (aL.ad _)).trans (bi.mono fun r _ E=>.inr (cm r E))),(dt.ext aL).new bi cm,⟨aI,bN,bK,bH,dw,bG,aY,dx,by rw[j4];exact dy,dz,fun r E=>?_,fun r E bS=>?_,f7⟩,by rw[o5,b7];rfl,by rw[o5];simp;omega,Z,fun c bT=>?_⟩
   ·rcases E with E|E
    ·exact (bR r E).1
    ·rcases ci r E with h|h
     ·exact f5 r (.inr h)
     ·have:=aL.size;omega
   ·rcases ci r bS with h|h
    ·exact (bR r E).2 h
    ·obtain⟨ac,aV⟩:=bX bO E;omega
   ·have dA:c=[aI,bN,.int .i64 0,bK]:=by
     unfold ak at bT aY;rw[aY] at bT;have:=(Obj.cells.inj (b9 bT)).1;exact (Array.toList_inj.2 this).symm
    have dB:bK= .slice none 0 0:=by
     obtain⟨dX,dZ,ea,_,_,_,b0,_⟩:=a8;have cn:=bx _ b0;have bU:=b0.ad bA fun he=>by
      have he:V=g:=he;obtain⟨c4,ac,aV,bad,c5,big,c6,told,sv,ao,_⟩:=fW aE;subst he;exact absurd (eK ao b0) (by decide)
     unfold ak at bU f1;rw[f1] at bU;have dC:=Array.toList_inj.2 (Obj.cells.inj (b9 bU)).1;have aE:=congrArg (fun l=>l[3]?) dC;simp at aE;simp at cn;rw[aE,cn]
    rw[dA,dB];rfl
set_option maxHeartbeats 1000000 in
theorem FA {w:x5} {sv:x4} {l:List Int} {ab:x4→x5→Prop} (h:aH .i64 w sv l) (h1:∀ z∈l,1≤z) (ao:∀ c:Int,(4096<c↔cS l=true)→ab (.int .i64 c) w):
  a8 (.int .i64 1) (.int .i64 0) w fun ac X E ap=>
   I y0 (U .lss J false false X (.int .i64 (l.length:Int))) E fun aq=>
   Split aq (aB (α:=x4→x5→Prop) (fun(av:x4) (ad:x5)=>
    I y0 (U .add J false true X (.int .i64 1)) ad fun aw=>
    ap av aw ad) fun ah=>
   I y0 (x7 af sv X) E fun ax=>
   I y0 (x1 ae ax) E fun ai=>
   aB (α:=x4→x5→Prop) (fun(ay:x4) (V:x5)=>
    I y0 (U .mul ae false false ac ay) V fun aj=>
    I y0 (U .gtr ae false true aj (.int .i64 4096)) V fun az=>
    Split az (ah (.int .i64 4097) V)
     (ah aj V)) fun ak=>
   I y0 (U .gtr ae false true ai (.int .i64 4096)) E fun aA=>
   Split aA (ak (.int .i64 4097) E)
    (ak ai E))
    (ab ac E):=by
 refine a8.range l.length (fun i c aC=>w=aC∧ ∃ p:Int,p=aG ((l.take i).map fun k=>min k 4097)∧1≤p∧c= .int .i64 (if 4096<p then 4097 else p)) h.le ⟨rfl,1,by simp[aG],by omega,by rw[if_neg (by omega)]⟩ ?_ ?_
 ·rintro i _ _ aD hi ⟨rfl,p,W,aE,rfl⟩ aF;obtain⟨z,Y⟩:∃ z,l[i]? =some z:=⟨_,x3 hi⟩;have aJ:=h1 z (u4 Y);have e:aG ((l.take (i+1)).map fun k=>min k 4097)=p*min z 4097:=by
   rw[W,o3,Y,j5,j4,List.map_cons,List.map_nil,wK]
  have aL:p*1≤p*min z 4097:=Int.mul_le_mul_of_nonneg_left (by omega) (by omega);rw[au,ag];refine⟨fun _=>?_,fun h=>by omega⟩;refine aZ (fun v Z=>w=Z∧v= .int .i64 (if 4096<p*min z 4097 then 4097 else p*min z 4097)) ?_ ?_
  ·rintro _ _ ⟨rfl,rfl⟩;rw[aK];exact aF _ _ ⟨rfl,_,e.symm,by omega,rfl⟩
  intro aM aa;rw[bm af.u ae.i (by kernel_rfl) h Y];refine aZ (fun v Z=>w=Z∧v= .int .i64 (min z 4097)) ?_ ?_
  ·rintro _ _ ⟨rfl,rfl⟩;rw[fA];by_cases al:4096<p
   ·rw[if_pos al];have aI:(4097:Int)*1≤4097*min z 4097:=Int.mul_le_mul_of_nonneg_left (by omega) (by omega);rw[wrap_i64 (by omega) (by omega),bV,ag];refine⟨fun _=>aa _ _ ⟨rfl,by rw[if_pos (by omega)]⟩,fun aN=>by omega⟩
   ·rw[if_neg al];have aI:p*min z 4097≤4096*4097:=by
     have aO:=Int.mul_le_mul_of_nonneg_right (show p≤4096 by omega) (show 0≤min z 4097 by omega);have aP:=Int.mul_le_mul_of_nonneg_left (show min z 4097≤4097 by omega) (show (0:Int)≤4096 by omega);omega
    rw[wrap_i64 (by omega) (by omega),bV,ag];exact⟨fun O=>aa _ _ ⟨rfl,by rw[if_pos O]⟩,fun O=>aa _ _ ⟨rfl,by rw[if_neg O]⟩⟩
  ·intro aQ am;rw[bV,ag];exact⟨fun O=>am _ _ ⟨rfl,by congr 1;omega⟩,fun O=>am _ _ ⟨rfl,by congr 1;omega⟩⟩
 ·rintro _ _ aD ⟨rfl,p,W,aE,rfl⟩;rw[l5] at W;rw[au,ag];refine⟨fun h=>by omega,fun _=>ao _ ?_⟩;unfold cS;rw[←W,decide_eq_true_eq];split
  ·exact⟨fun _=>by omega,fun _=>by omega⟩
  ·exact Iff.rfl
set_option maxHeartbeats 2000000 in
theorem FB {w:x5} {g B N V aQ:Nat} {H:av} {so:Option aA} {aw:x4} {sizes:List Int} {aR:x5→Prop} (h:bz w g B H N so) (ax:aq .i64 ae w aQ aw sizes) (be:∀ z∈sizes,1≤z∧z≤ap) (bS:sizes.length≤100001)
  (aJ:ak w V bx [.slice none 0 0,.int .i64 0]) (bf:B≤V)
  (aS:∀ t w' W Z,t.length=sizes.length→aj (fun r=>r=g∨r=V∨w.heap.size≤r) w w'→ak w' V bx [W,.int .i64 0]→aq .i64 ae w' Z W t→(∀ r,leads W r→w.heap.size≤r)→bz w' g B H N ((ea sizes [] so).map (·.2))→(∀ q,ea sizes [] so=some q→t=q.1)→aR w'):
  bc (.int .i64 0) w fun aL ac bg=>
      I y0 (U .lss J false false aL (.int .i64 (sizes.length:Int))) ac fun bh=>
      Split bh (I y0 (x7 af aw aL) ac fun bi=>
      I y0 (x1 ae bi) ac fun bj=>
      I y0 (U .sub ae false true bj (.int .i64 1)) ac fun bk=>
      O y0 en [.pointer (some ⟨g,0,none⟩),(.int .i64 0),bk] ac fun aT ay=>
      I y0 (u5 aT 0) ay fun bl=>
      I y0 (u5 aT 1) ay fun bT=>
      I y0 (x2 bx (.pointer (some ⟨V,0,none⟩)) 0) ay fun bn=>
      I y0 (x1 af bn) ay fun bo=>
      aa y0 (u9 af 1 #[(0,bl)]) ay fun bq br=>
      aa y0 (r9 #[af,af] af #[bo,bq]) br fun bt aV=>
      I y0 (x2 bx (.pointer (some ⟨V,0,none⟩)) 0) aV fun bu=>
      aa y0 (x8 af bu bt) aV fun(_:Unit) aW=>
      I y0 (U .add J false true aL (.int .i64 1)) aW fun bw=>
      bg bw aW)
       (aR ac):=by
 have bU:=aJ.lt;have bV:=h.lt;refine bc.range sizes.length (fun j X=>∃ t W Z Y,t.length=j∧aj (fun r=>r=g∨r=V∨w.heap.size≤r) w X∧ak X V bx [W,.int .i64 0]∧aq .i64 ae X Z W t∧(∀ r,leads W r→w.heap.size≤r)∧bz X g B H N Y∧ea sizes [] so=ea (sizes.drop j) t Y) ax.ls.le
  ⟨[],_,0,so,rfl,aj.refl _ _,aJ,aq.nil _ _ _ _,(fun r E=>by obtain⟨a,n,c,aE,aM⟩:=E;cases aE),h,rfl⟩ ?_ ?_
 rotate_left
 ·rintro X bA ⟨t,W,Z,Y,aF,al,aG,az,am,aB,he⟩;rw[au,ag];refine⟨fun h=>by omega,fun _=>?_⟩;rw[List.drop_length] at he;cases Y with
  |none=>
   have he:ea sizes [] so=none:=he;exact aS t X W Z aF al aG az am (by rw[he];exact aB) (fun q ab=>by rw[he] at ab;cases ab)
  |some Y=>
   have he:ea sizes [] so=some (t,Y):=he;exact aS t X W Z aF al aG az am (by rw[he];exact aB) (fun q ab=>by rw[he] at ab;cases ab;rfl)
 rintro j X bA aX ⟨t,W,Z,Y,aF,al,aG,az,am,aB,he⟩ bB;obtain⟨z,aO⟩:∃ z,sizes[j]? =some z:=⟨_,x3 aX⟩;have bC:=be z (u4 aO);have bY:z≤4611686018427387904:=bC.2;have bD:aq .i64 ae X aQ aw sizes:=bp ax al fun r E aY=>by
  rcases aY with rfl|rfl|aY
  ·obtain⟨bF,aE,aM,bad,bG,big,bH,told,sv,aD,_⟩:=fW h;exact bW ax aD (by decide) E rfl
  ·exact bW ax aJ (by decide) E rfl
  ·obtain⟨aE,aM⟩:=bX ax E;omega
 rw[au,ag];refine⟨fun _=>?_,fun h=>by omega⟩;rw[bm af.u ae.i (by kernel_rfl) bD.ls aO,dD,wrap_i64 (by omega) (by omega)];refine (ip aB).mono ?_;rintro _ bI _ ⟨⟨aH,bJ⟩,n,at_,rfl,bK,bZ⟩;rw[aC (v:=.int .i64 n) rfl,aC (v:=.int .i64 at_) rfl];have bL:V≠g:=by omega
 have aZ:=aG.ad aH fun he=>bL he;have bM:∃ c,ak X g aN c:=by obtain⟨bF,aE,aM,bad,bG,big,bH,told,sv,aD,_⟩:=fW aB;exact⟨_,aD⟩
 have a1:aq .i64 ae bI Z W t:=bp az aH fun r E he=>by
  have he:r=g:=he;obtain⟨c,aD⟩:=bM;exact bW az aD (by decide) E he
 rw[ah bx.p rfl,ai (by kernel_rfl) (aZ.cell (o:=0+0) rfl)];refine dW af.u ae.i rfl fun a3 b1 bN b2 ao bO=>?_;refine gr af.u ae.i rfl (a1.ext ao) bO.ls (by simp;omega) (by simp;omega) fun a2 bP b3 aI bQ a6=>?_;have a7:=aZ.ext ao;have a8:=a7.ad a6 fun he=>bW (a1.ext ao) a7 (by decide) he rfl;rw[ah bx.p rfl];refine bE (g:=V) (o:=0) af.i aI.ls.cells.1 aI.ls.cells.2 a8 (by simp) fun ba bb b4 aP=>?_;have aP:ak ba V bx [a2,.int .i64 0]:=aP;rw[aK];have bd:aj (fun r=>leads W r∨r=V) bN ba:=(a6.mono fun r _ h=>.inl h).trans (bb.mono fun r _ h=>.inr h);have b5:=al.size;have b6:=aH.size;have z3:=ao.size;refine bB _ ⟨t++[n],a2,bP,(aU 0 (z-1) Y).map (·.2),by simp[aF],?_,aP,bp aI bb fun r E he=>?_,fun r E=>?_,?_,?_⟩
 ·refine (al.trans (aH.mono fun r _ h=>.inl h)).trans ((ao.ad _).trans (bd.mono fun r _ h=>?_));exact h.elim (fun h=>.inr (.inr (am r h))) fun h=>.inr (.inl h)
 ·have he:r=V:=he;subst he;exact bW aI a8 (by decide) E rfl
 ·rcases bQ r E with h|h
  ·exact am r h
  ·omega
 ·refine (bJ.ext ao).new bd fun r E=>?_;rcases E with E|rfl
  ·have:=am r E;omega
  ·exact bf
 ·rw[he];have bR:sizes.drop j=z::sizes.drop (j+1):=by rw[Y8 aX,(x6.1 aO).2]
  rw[bR,xp];cases ab:aU 0 (z-1) Y with
  |none=>rfl
  |some q=>
   obtain⟨v,b7⟩:=q;have:=bK _ ab;subst this;rfl
theorem ui {w:x5} {g:Nat} {v:x4} {t:List Int} {c:Int} (h:aq .i64 ae w g v t):∀ u∈lL ⟨v,t,c⟩,u.oneCell'=true:=by
 intro u hu;simp[lL] at hu;rcases hu with rfl|rfl
 ·exact h.ls.cells.2
 ·rfl
def FC (sizes:List Int) (cnt i:Nat) (s0:aA) (A:List (List Int×Int)) (so:Option aA):Prop:=(∃ s,so=some s∧ck (df sizes) cnt [] s0=ck (df sizes) (cnt-i) A s∧A.length+s.toks.length≤100000)∨(so=none∧ck (df sizes) cnt [] s0=none)
set_option maxHeartbeats 8000000 in
theorem FD {w:x5} {g B N Y bl bm aD:Nat} {H:av} {s0:aA} {a6 aw bK:x4} {scope sizes:List Int} {o n:Int} {aX:List (List Int×Int)} {cc:x5→Prop} (h:bz w g B H N (some s0)) (f1:ak w Y aF [a6,aw,.int .i64 o,bK]) (f2:aq .i64 ae w bl a6 scope) (f3:aq .i64 ae w bm aw sizes) (f4:io w aD bK aX)
  (f5:∀ r,leads a6 r∨leads aw r→B≤r) (f6:∀ r,leads a6 r→¬leads aw r) (f7:B≤Y) (c7:∀ z∈sizes,1≤z∧z≤ap) (c8:sizes.length≤100001) (e4:n≤4611686018427387904) (bH:0<n→aX=[]∧ ∀ r,¬leadsTo bK r) (c9:s0.toks.length≤100000)
  (cd:∀ w' A bJ,aj (fj g B) w w'→fv w' B Y ⟨scope,sizes,o,A⟩→bz w' g B H N bJ→(n≤0→A=aX∧bJ=some s0)→(0<n→bJ=(ck (df sizes) n.toNat [] s0).map (·.2)∧ ∀ q,ck (df sizes) n.toNat [] s0=some q→A=q.1)→cc w'):
  bc (.int .i64 0) w fun ce aI db=>
     aB (α:=x4→x5→Prop) (fun(dc:x4) (cg:x5)=>
      Split dc (aa y0 (n9 bx true (.tuple #[])) cg fun x aE=>
     I y0 (x2 aF (.pointer (some ⟨Y,0,none⟩)) 1) aE fun dd=>
     I y0 (x1 af dd) aE fun ch=>
     I y0 (u6 #[af] J #[ch]) aE fun de=>
     bc (.int .i64 0) aE fun bL aJ dg=>
      I y0 (U .lss J false false bL de) aJ fun dh=>
      Split dh (I y0 (x7 af ch bL) aJ fun di=>
      I y0 (x1 ae di) aJ fun dj=>
      I y0 (U .sub ae false true dj (.int .i64 1)) aJ fun dk=>
      O y0 en [.pointer (some ⟨g,0,none⟩),(.int .i64 0),dk] aJ fun ci aY=>
      I y0 (u5 ci 0) aY fun dl=>
      I y0 (u5 ci 1) aY fun e5=>
      I y0 (x2 bx x 0) aY fun dm=>
      I y0 (x1 af dm) aY fun dn=>
      aa y0 (u9 af 1 #[(0,dl)]) aY fun dp dq=>
      aa y0 (r9 #[af,af] af #[dn,dp]) dq fun ds cj=>
      I y0 (x2 bx x 0) cj fun dt=>
      aa y0 (x8 af dt ds) cj fun(_:Unit) cl=>
      I y0 (U .add J false true bL (.int .i64 1)) cl fun du=>
      dg du cl)
       (O y0 en [.pointer (some ⟨g,0,none⟩),(.int .i64 0),(.int .i64 4611686018427387904)] aJ fun cm W=>
     I y0 (u5 cm 0) W fun dv=>
     I y0 (u5 cm 1) W fun dw=>
     I y0 (x2 aF (.pointer (some ⟨Y,0,none⟩)) 3) W fun dx=>
     I y0 (x1 cr dx) W fun cn=>
     I y0 (u6 #[cr] J #[cn]) W fun dy=>
     bc (.int .i64 0) W fun bM Z dz=>
      I y0 (U .lss J false false bM dy) Z fun dA=>
      Split dA (aB (α:=x5→Prop) (fun(aS:x5)=>
       I y0 (U .add J false true bM (.int .i64 1)) aS fun dB=>
       dz dB aS) fun cq=>
      I y0 (x7 cr cn bM) Z fun dC=>
      I y0 (x1 bx dC) Z fun dD=>
      aa y0 (n9 bx true (.tuple #[])) Z fun y ct=>
      aa y0 (x8 bx y dD) ct fun(_:Unit) ab=>
      aB (α:=x4→x5→Prop) (fun(dE:x4) (a1:x5)=>
       Split dE (O y0 fy [.pointer (some ⟨g,0,none⟩),(.int .i64 4),dw] a1 fun e6 cu=>
        cq cu)
        (cq a1)) fun cw=>
      I y0 (am (.pointer (some ⟨g,0,none⟩))) ab fun dG=>
      I y0 (x2 aN dG 3) ab fun dH=>
      I y0 (x1 J dH) ab fun dI=>
      I y0 (U .eql J false true dI (.int .i64 0)) ab fun dK=>
      Split dK (I y0 (x2 bx x 0) ab fun dL=>
       I y0 (x1 af dL) ab fun dM=>
      I y0 (x2 bx y 0) ab fun dN=>
      I y0 (x1 af dN) ab fun dO=>
      O y0 iL [dM,dO] ab fun dP cz=>
      cw dP cz)
       (cw (.bool false) ab))
       (I y0 (x2 bx x 1) Z fun dQ=>
     aa y0 (x8 ae dQ dv) Z fun(_:Unit) aG=>
     I y0 (x2 aF (.pointer (some ⟨Y,0,none⟩)) 3) aG fun dR=>
     I y0 (x1 cr dR) aG fun dS=>
     I y0 (x1 bx x) aG fun dT=>
     aa y0 (u9 cr 1 #[(0,dT)]) aG fun dU bn=>
     aa y0 (r9 #[cr,cr] cr #[dS,dU]) bn fun dV bN=>
     I y0 (x2 aF (.pointer (some ⟨Y,0,none⟩)) 3) bN fun dW=>
     aa y0 (x8 cr dW dV) bN fun(_:Unit) aH=>
     I y0 (U .add ae false true ce (.int .i64 1)) aH fun dX=>
     db dX aH)))
       (cc cg)) fun cA=>
     I y0 (U .lss ae false false ce (.int .i64 n)) aI fun dY=>
     Split dY (I y0 (am (.pointer (some ⟨g,0,none⟩))) aI fun eb=>
     I y0 (x2 aN eb 3) aI fun ec=>
     I y0 (x1 J ec) aI fun ed=>
     I y0 (U .eql J false true ed (.int .i64 0)) aI fun ee=>
     cA ee aI)
      (cA (.bool false) aI):=by
 have ef:=h.lt;refine bc.range n.toNat (fun i V=>∃ A so bK aD,aj (fj g B) w V∧ak V Y aF [a6,aw,.int .i64 o,bK]∧aq .i64 ae V bl a6 scope∧aq .i64 ae V bm aw sizes∧io V aD bK A∧(0<n→ ∀ r,leadsTo bK r→B≤r)∧bz V g B H N so∧(n≤0→A=aX∧so=some s0)∧(0<n→FC sizes n.toNat i s0 A so)) (by omega)
  ⟨aX,some s0,bK,aD,aj.refl _ _,f1,f2,f3,f4,fun ay r E=>absurd E ((bH ay).2 r),h,fun _=>⟨rfl,rfl⟩,fun ay=>.inl ⟨s0,rfl,by rw[(bH ay).1];rfl,by rw[(bH ay).1];simpa using c9⟩⟩ ?_ ?_
 rotate_left
 ·rintro V k ⟨A,so,bK,aD,a2,aV,bo,a8,ba,bQ,aL,cB,X⟩;refine aZ (fun v bR=>V=bR∧v= .bool false) ?_ ?_
  ·rintro _ _ ⟨rfl,rfl⟩;rw[aT];refine cd V A so a2 ⟨a6,aw,bK,bl,bm,aD,aV,bo,a8,ba,f5,f6,f7⟩ aL cB fun ay=>?_;rcases X ay with⟨s,rfl,he,_⟩|⟨rfl,he⟩
   ·rw[W3] at he;rw[he];exact⟨rfl,fun q ac=>by cases ac;rfl⟩
   ·rw[he];exact⟨rfl,fun q ac=>by cases ac⟩
  ·intro eg bS;rw[au,ag];exact⟨fun h=>by omega,fun _=>bS _ _ ⟨rfl,rfl⟩⟩
 rintro i V k hi ⟨A,so,bK,aD,a2,aV,bo,a8,ba,bQ,aL,cB,X⟩ eh;have ay:0<n:=by omega
 refine aZ (fun v bR=>V=bR∧v= .bool so.isSome) ?_ ?_
 rotate_left
 ·intro eg bS;rw[au,ag];refine⟨fun _=>?_,fun h=>by omega⟩;rw[i7 aL];exact bS _ _ ⟨rfl,rfl⟩
 rintro _ _ ⟨rfl,rfl⟩;rcases X ay with⟨bb,rfl,he,e7⟩|⟨rfl,he⟩
 rotate_left
 ·rw[Option.isSome_none,aT];refine cd V A none a2 ⟨a6,aw,bK,bl,bm,aD,aV,bo,a8,ba,f5,f6,f7⟩ aL (fun h=>by omega) fun _=>?_;rw[he];exact⟨rfl,fun q ac=>by cases ac⟩
 rw[Option.isSome_some,bP];have e8:=aL.lt;refine bO bx.i fun al aE e9 bd bT=>?_;have bT:ak aE al bx [.slice none 0 0,.int .i64 0]:=bT;have ei:=aV.ext bd;have cC:=a8.ext bd;have fa:=bd.size;have fb:=aV.lt;rw[ah aF.p rfl,ai (by kernel_rfl) (ei.cell (o:=0+1) rfl),aO af.u cC.ls];refine FB (aL.ext bd) cC c7 c8 bT (by omega) fun t aJ bq cD fc ej ek em eo ep er=>?_;refine (ip ep).mono ?_;rintro _ W _ ⟨⟨bU,br⟩,c,at_,rfl,es,fd⟩;rw[aC (v:=.int .i64 c) rfl,aC (v:=.int .i64 at_) rfl];have bV:al≠g:=by omega
 have cE:Y≠g:=by have:=h.lt;omega
 have et:aj (fun r=>r=g∨r=al∨aE.heap.size≤r) aE W:=ej.trans (bU.mono fun r _ h=>.inl h);have cF:∀ {S:Nat→Prop},(∀ r,S r→r=g∨V.heap.size≤r)→ ∀ r,S r→fu V r∨V.heap.size≤r:=fun eu r E=>(eu r E).imp (fun he=>by
  subst he;obtain⟨cG,be,bf,bad,cH,big,cK,told,sv,X,_⟩:=fW aL;exact⟨_,_,X,by decide,by decide⟩) id
 have bt:aj (fun r=>r=g∨V.heap.size≤r) V W:=(bd.ad _).trans (et.mono fun r _ h=>h.elim .inl fun h=>h.elim (fun h=>.inr (by omega)) fun h=>.inr (by omega));have cL:ak W Y aF [a6,aw,.int .i64 o,bK]:=aV.ad bt fun h=>h.elim cE fun h=>by omega
 obtain⟨L,bu,cM,bX⟩:=ba.da bt (cF fun r E=>E);have cN:ak W al bx [bq,.int .i64 0]:=ek.ad bU fun he=>bV he;have cO:aq .i64 ae W cD bq t:=bp em bU fun r E he=>by
  have he:r=g:=he;have:=eo r E;omega
 have fe:L.length=A.length:=by rw[←bX,o4]
 rw[ah aF.p rfl,ai (by kernel_rfl) (cL.cell (o:=0+3) rfl),dZ cr.u bu];generalize cP:(aU 0 4611686018427387904 (X9 (fun x=>x.snd) (ea sizes [] (some bb)))).map (·.2)=aM at br;have fg:=bt.size;refine bc.range L.length (fun j Z=>aj (fun r=>r=g) W Z∧bz Z g B H N (if t∈(L.take j).map (·.t) then none else aM)) bu.le ⟨aj.refl _ _,by simpa using br⟩ ?_ ?_
 ·rintro j Z ev cQ ⟨ao,bg⟩ ew;obtain⟨y,ax⟩:∃ y,L[j]? =some y:=⟨_,x3 cQ⟩;have bY:∃ c,ak W g aN c:=by obtain⟨cG,be,bf,bad,cH,big,cK,told,sv,X,_⟩:=fW br;exact⟨_,X⟩
  have aP:∀ r,r=g→fu W r∨W.heap.size≤r:=fun r E=>by
   subst E;obtain⟨c,X⟩:=bY;exact .inl ⟨_,c,X,by decide,by decide⟩
  have bw:=ug bu ao fun r E=>(aP r E).imp (fun⟨e,c,X,_,bh⟩=>⟨e,c,X,bh⟩) id;obtain⟨fh,ey⟩:=cM y (u4 ax);have cR:=dJ ey ao aP;have bZ:=dJ cO ao aP;have bA:=cN.ad ao fun he=>bV he;rw[au,ag];refine⟨fun _=>?_,fun h=>by omega⟩;have b1:t∈(L.take (j+1)).map (·.t)↔t∈(L.take j).map (·.t)∨t=y.t:=by
   rw[o3,ax,j5,j4,n0];simp
  refine dF (fun aS=>aj (fun r=>r=g) W aS∧bz aS g B H N (if t∈(L.take (j+1)).map (·.t) then none else aM)) ?_ ?_
  ·rintro aS ez;rw[aK];exact ew _ ez
  intro fi cS;rw[cI rfl cr.u bx.i bw cQ,bI bx.p bx.i rfl (bw.range ax)];refine bO bx.i fun aQ ct fk eA eB=>?_;refine b4 (vs:=lL y) bx.i rfl rfl (ui cR) eB fun ab eC fl eD=>?_;have bi:Ext Z ab:=eA.then eC fun r E he=>by have he:r=aQ:=he;omega
  have cT:=bg.ext bi;have cU:aj (fun r=>r=g) W ab:=ao.trans (bi.ad _);refine aZ (fun v a1=>∃ b:Bool,v= .bool b∧Ext ab a1∧(b=true→t=y.t)∧(b=false→t≠y.t∨(if t∈(L.take j).map (·.t) then none else aM)=none)) ?_ ?_
  ·rintro _ a1 ⟨b,rfl,b2,eE,eF⟩;have aR:=cT.ext b2;cases b with
   |true=>
    rw[bP];refine (lM aR (by omega)).mono ?_;rintro _ cu _ ⟨eG,eH⟩;refine cS _ ⟨(cU.trans (b2.ad _)).trans eG,?_⟩;rw[if_pos (b1.2 (.inr (eE rfl)))];exact eH
   |false=>
    rw[aT];refine cS _ ⟨cU.trans (b2.ad _),?_⟩;by_cases hm:t∈(L.take j).map (·.t)
    ·rw[if_pos (b1.2 (.inl hm))];rw[if_pos hm] at aR;exact aR
    ·rw[if_neg hm] at aR;rcases eF rfl with bh|cV
     ·rw[if_neg (fun h=>(b1.1 h).elim hm bh)];exact aR
     ·rw[if_neg hm] at cV;rw[cV] at aR ⊢;split <;> exact aR
  ·intro fm cW;rw[i7 cT];cases bj:(if t∈(L.take j).map (·.t) then none else aM) with
   |none=>
    rw[Option.isSome_none,aT];exact cW _ _ ⟨false,rfl,Ext.refl _,(fun h=>by cases h),fun _=>.inr bj⟩
   |some fp=>
    rw[Option.isSome_some,bP];have eI:=bA.ext bi;rw[ah bx.p rfl,ai (by kernel_rfl) (eI.cell (o:=0+0) rfl),ah bx.p rfl,ai (by kernel_rfl) (eD.cell (o:=0+0) rfl)];refine (uh (bZ.ls.ext bi) (cR.ls.ext bi)).mono ?_;rintro _ cz _ ⟨rfl,eJ⟩;exact cW _ _ ⟨_,rfl,eJ,fun h=>of_decide_eq_true h,fun h=>.inl (of_decide_eq_false h)⟩
 ·rintro Z ev ⟨ao,bg⟩;rw[l5] at bg;have eK:L.map (·.t)=A.map (·.1):=by rw[←bX,List.map_map];rfl
  rw[eK] at bg;have bY:∃ c,ak W g aN c:=by obtain⟨cG,be,bf,bad,cH,big,cK,told,sv,X,_⟩:=fW br;exact⟨_,X⟩
  have aP:∀ r,r=g→fu W r∨W.heap.size≤r:=fun r E=>by
   subst E;obtain⟨c,X⟩:=bY;exact .inl ⟨_,c,X,by decide,by decide⟩
  have cX:∀ r,(r=g∨V.heap.size≤r)→fu V r∨V.heap.size≤r:=cF fun r E=>E;have bB:aj (fun r=>r=g∨V.heap.size≤r) V Z:=bt.trans (ao.mono fun r _ h=>.inl h);have eL:=cL.ad ao fun he=>cE he;have eM:=dJ bo bB cX;have eN:=dJ a8 bB cX;have bw:=ug bu ao fun r E=>(aP r E).imp (fun⟨e,c,X,_,bh⟩=>⟨e,c,X,bh⟩) id;have eO:∀ y∈L,∃ aQ,aq .i64 ae Z aQ y.v y.t:=fun y ax=>by
   obtain⟨aQ,hm⟩:=cM y ax;exact⟨aQ,dJ hm ao aP⟩
  have bZ:=dJ cO ao aP;have bA:=cN.ad ao fun he=>bV he;rw[au,ag];refine⟨fun h=>by omega,fun _=>?_⟩;rw[ah bx.p rfl];refine bE (g:=al) (o:=1) ae.i rfl rfl bA (by simp) fun aG aW fq b3=>?_;have b3:ak aG al bx [bq,.int .i64 c]:=b3;have eP:Y≠al:=by omega
  have cY:=eL.ad aW fun he=>eP he;have fr:V.heap.size≤al:=by omega
  have eQ:∀ r,leadsTo bK r→r≠al:=fun r E=>by obtain⟨be,bf⟩:=ba.choose_spec.1.leads E;omega
  have eR:=bw.ad aW fun r E he=>eQ r E he;rw[ah aF.p rfl,ai (by kernel_rfl) (cY.cell (o:=0+3) rfl),bI bx.p bx.i rfl b3.range];let a:uf:=⟨bq,t,c⟩;have bC:∀ {v:x4} {bk:Nat} {l:List Int},aq .i64 ae Z bk v l→aq .i64 ae aG bk v l:=fun hm=>bp hm aW fun r E he=>by
   have he:r=al:=he;exact bW hm bA (by decide) E he
  have cZ:=bC bZ;refine ff (f:=lL) (a:=a) cr.u bx.i (by omega) rfl rfl fun v45 fs bn ft az eS=>?_;have b5:=eR.ext az;refine fo (f:=lL) (a:=a) cr.u bx.i rfl b5 (by simpa using eS.sl) (ui (cZ.ext az)) (by omega) (by omega) fun b6 c0 bN bD eT c1=>?_;have b7:=cY.ext az;have c2:=b7.ad c1 fun he=>cp b5 b7 (by decide) he;rw[ah aF.p rfl];refine bE (g:=Y) (o:=3) cr.i (cJ bD.sl).1 (cJ bD.sl).2 c2 (by simp) fun aH c4 fw b8=>?_;have b8:ak aH Y aF [a6,aw,.int .i64 o,b6]:=b8;rw[aK];have b9:aj (fun r=>leadsTo bK r∨r=Y) bn aH:=(c1.mono fun r _ h=>.inl h).trans (c4.mono fun r _ h=>.inr h);have bF:∀ {v:x4} {bk:Nat} {l:List Int},aq .i64 ae bn bk v l→aq .i64 ae aH bk v l:=fun hm=>bp hm b9 fun r E ca=>by
   rcases ca with ca|rfl
   ·obtain⟨rfl,fx,X⟩:=dr b5 ca;exact bW hm X (by decide) E rfl
   ·exact bW hm b7 (by decide) E rfl
  have c5:∀ r,(leadsTo bK r∨r=Y)→B≤r:=fun r E=>E.elim (fun E=>bQ ay r E) fun E=>E▸f7;have eU:bz aG g B H N (if t∈A.map (·.1) then none else aM):=bg.new aW fun r E=>by
   have E:r=al:=E;omega
  have eV:=(eU.ext az).new b9 c5;have eW:aj (fj g B) V aH:=((bB.mono fun r _ h=>h.elim .inl fun h=>.inr (by omega)).trans (aW.mono fun r _ h=>.inr (by have h:r=al:=h;omega))).trans ((az.ad _).trans (b9.mono fun r _ h=>.inr (c5 r h)));have eX:io aH c0 b6 (A++[(t,c)]):=⟨L++[a],bD.ad c4 fun r E he=>by
   have he:r=Y:=he;subst he;exact cp bD c2 (by decide) E,fun y ax=>by
   rcases n0.1 ax with ax|ax
   ·obtain⟨aQ,hm⟩:=eO y ax;exact⟨aQ,bF ((bC hm).ext az)⟩
   ·rw[o9.1 ax];exact⟨cD,bF (cZ.ext az)⟩,by rw[j4,bX];rfl⟩
  refine eh _ ⟨A++[(t,c)],_,b6,c0,a2.trans eW,b8,bF ((bC eM).ext az),bF ((bC eN).ext az),eX,fun _ r E=>?_,eV,fun h=>by omega,fun _=>?_⟩
  ·rcases eT r E with h|h
   ·exact bQ ay r h
   ·have:=a2.size;have:=bB.size;have:=aW.size;have:=az.size;have:=ef.2;omega
  ·have eY:n.toNat-i=(n.toNat-(i+1))+1:=by omega
   rw[eY] at he;obtain⟨eZ,e0⟩:=xu (sizes:=sizes) (acc:=A) (st:=bb) (t:=t) (c:=c) er es;cases ac:aU 0 ap ((ea sizes [] (some bb)).map (·.2)) with
   |none=>
    have bj:aM=none:=by rw[←cP];show (aU 0 ap _).map _=none;rw[ac];rfl
    rw[nb (eZ ac)] at he;refine .inr ⟨?_,he⟩;rw[bj];split <;> rfl
   |some q=>
    have bj:aM=some q.2:=by rw[←cP];show (aU 0 ap _).map _=_;rw[ac];rfl
    have bG:=e0 q ac;by_cases hm:t∈A.map (·.1)
    ·rw[if_pos hm] at bG;rw[nb bG] at he;exact .inr ⟨by rw[if_pos hm],he⟩
    ·rw[if_neg hm] at bG;rw[rl bG] at he;refine .inl ⟨q.2,by rw[if_neg hm,bj],he,?_⟩;cases cb:ea sizes [] (some bb) with
     |none=>rw[cb] at ac;cases ac
     |some p=>
      rw[cb] at ac;obtain⟨e1,c6⟩:=p;have be:gA sizes [] bb=some (e1,c6):=cb;obtain⟨u,_,_,e2⟩:=tf be;have bf:a7 0 ap c6=some q:=ac;obtain⟨fz,fA⟩:=q;have e3:=c3 bf;have:=e2.1;have:=e3.1;rw[o5];simp only[T0];omega
def hM (s:aA):Prop:=s.big=false→0≤s.told∧s.told≤16384
def hN (neg:Bool) (ar:Nat) (scope sizes:List Int) (I:Option aA):Option (ca×aA):=match aU 0 ap (I.map (aY (decide (6<ar)||cS sizes))) with
 |none=>none
 |some (other,J)=>match dg sizes J with
  |none=>none
  |some (lines,E)=>some (⟨scope,sizes,other,lines⟩,if neg=true then {E with shared:=E.shared++[(sizes,lines)]} else E)
theorem yU {sizes:List Int} {s s':aA} {l:List (List Int×Int)} (h:dg sizes s=some (l,s')):s'.toks.length+1≤s.toks.length∧s'.shared=s.shared:=by
 unfold dg at h;cases I:a7 (-ap) ap s with
 |none=>rw[I] at h;cases h
 |some q=>
  obtain⟨n,E⟩:=q;have O:=c3 I;have Y:=O.1;have U:=O.eqs.2.2;rw[I] at h;simp only at h;split at h
  ·split at h
   ·cases h
   ·split at h
    ·cases h;exact⟨by omega,U⟩
    ·cases h
  ·have h':ck (df sizes) n.toNat [] (aY (decide (16384<min (E.told+n) ap)) {E with told:=min (E.told+n) ap})=some (l,s'):=h;have:=ig (f:=df sizes) (fun _ t=>t.toks.length≤E.toks.length∧t.shared=E.shared) (fun acc t a Z V X=>by
    obtain⟨_,_,_,W⟩:=m8 X;have h1:=W.1;have J:=W.eqs.2.2;exact⟨by have:=V.1;omega,J.trans V.2⟩) n.toNat [] (aY (decide (16384<min (E.told+n) ap)) {E with told:=min (E.told+n) ap}) l s' ⟨o7 _,rfl⟩ h'
   obtain⟨⟨h1,J⟩,_⟩:=this;exact⟨by omega,J.trans U⟩
theorem r3 {w:x5} {g B N:Nat} {H:av} {s:aA} (h:bz w g B H N (some s)):s.toks.length≤100000∧s.shared.length+s.toks.length≤100000:=by
 obtain⟨O,w0,U,V,gs,sv,L,W,X,Y,bad,Z,big,aa,told,h1,ab,ac,ad,I,ae,af,ag,ah,ai,aj,E,ak,J,al⟩:=h;have am:=I.2.2.1;refine⟨by rw[←E,o4];omega,by rw[←E,←J,o4,o4];omega⟩
def yV (w:x5) (g O B:Nat) (H:av) (I:Option (ca×aA)) (v:x4) (w':x5):Prop:=∃ J x E,aj (fun r=>r=g∨H r∨r=O∨B≤r) w w'∧v= .agg (dU J).toArray∧fi w' J x∧bz w' g w'.heap.size E 100001 (I.map (·.2))∧(∀ q,I=some q→x=q.1)∧(∀ r,H r→E r)∧(∀ r,E r→H r∨B≤r)∧ ∀ r,E r→r<w'.heap.size
set_option maxHeartbeats 16000000 in
theorem yW {w:x5} {g B W ab ar:Nat} {H:av} {ax:Option aA} {neg:Bool} {dT:Int} {scope sizes:List Int} {Q:x4→x5→Prop}
  (h:bz w g B H 100000 ax) (dV:fv w B W ⟨scope,sizes,0,[]⟩) (fD:∀ c,ak w W aF c→c[3]? =some (.slice none 0 0)) (dW:∀ z∈sizes,1≤z∧z≤ap) (fE:sizes.length≤100001) (dX:ak w ab aF [.slice none 0 0,.slice none 0 0,.int .i64 0,.slice none 0 0]) (jC:ab<B) (cV:¬H ab) (cW:∀ r,H r→r<B) (fF:∀ aV,ax=some aV→hM aV)
  (fG:∀ v w',yV w g ab B H (hN neg ar scope sizes ax) v w'→Q v w'):
  I y0 (x2 aF (.pointer (some ⟨W,0,none⟩)) 1) w fun fH=>
  I y0 (x1 af fH) w fun dY=>
  I y0 (u6 #[af] J #[dY]) w fun fI=>
  a8 (.int .i64 1) (.int .i64 0) w fun ea dh bb fJ=>
   I y0 (U .lss J false false dh fI) bb fun fK=>
   Split fK (aB (α:=x4→x5→Prop) (fun(fL:x4) (eb:x5)=>
    I y0 (U .add J false true dh (.int .i64 1)) eb fun fM=>
    fJ fL fM eb) fun ec=>
   I y0 (x7 af dY dh) bb fun fN=>
   I y0 (x1 ae fN) bb fun ed=>
   aB (α:=x4→x5→Prop) (fun(fO:x4) (cX:x5)=>
    I y0 (U .mul ae false false ea fO) cX fun ee=>
    I y0 (U .gtr ae false true ee (.int .i64 4096)) cX fun fP=>
    Split fP (ec (.int .i64 4097) cX)
     (ec ee cX)) fun ef=>
   I y0 (U .gtr ae false true ed (.int .i64 4096)) bb fun fR=>
   Split fR (ef (.int .i64 4097) bb)
    (ef ed bb))
    (aB (α:=x5→Prop) (fun(ce:x5)=>
   O y0 en [(.pointer (some ⟨g,0,none⟩)),(.int .i64 0),(.int .i64 4611686018427387904)] ce fun eg bS=>
   I y0 (u5 eg 0) bS fun fS=>
   I y0 (u5 eg 1) bS fun jD=>
   I y0 (x2 aF (.pointer (some ⟨W,0,none⟩)) 2) bS fun fT=>
   aa y0 (x8 ae fT fS) bS fun(_:Unit) bw=>
   O y0 en [(.pointer (some ⟨g,0,none⟩)),(.int .i64 (-4611686018427387904)),(.int .i64 4611686018427387904)] bw fun eh ac=>
   I y0 (u5 eh 0) ac fun bT=>
   I y0 (u5 eh 1) ac fun ei=>
   I y0 (am (.pointer (some ⟨g,0,none⟩))) ac fun fU=>
   I y0 (x2 aN fU 3) ac fun fV=>
   I y0 (x1 J fV) ac fun fX=>
   I y0 (U .neq J false true fX (.int .i64 0)) ac fun fY=>
   Split fY (I y0 (x1 aF (.pointer (some ⟨W,0,none⟩))) ac fun cg=>
    aa y0 (x8 aF (.pointer (some ⟨ab,0,none⟩)) cg) ac fun(_:Unit) bA=>
    I y0 (do loadVar aF (←asAddr (.pointer (some ⟨ab,0,none⟩)))) bA fun ch=>
 Q ch bA)
    (aB (α:=x5→Prop) (fun(bj:x5)=>
    bc (.int .i64 0) bj fun ej bH ga=>
     aB (α:=x4→x5→Prop) (fun(gb:x4) (ci:x5)=>
      Split gb (aa y0 (n9 bx true (.tuple #[])) ci fun x cY=>
     I y0 (x2 aF (.pointer (some ⟨W,0,none⟩)) 1) cY fun gc=>
     I y0 (x1 af gc) cY fun ek=>
     I y0 (u6 #[af] J #[ek]) cY fun gd=>
     bc (.int .i64 0) cY fun di bW ge=>
      I y0 (U .lss J false false di gd) bW fun gf=>
      Split gf (I y0 (x7 af ek di) bW fun gg=>
      I y0 (x1 ae gg) bW fun gh=>
      I y0 (U .sub ae false true gh (.int .i64 1)) bW fun gi=>
      O y0 en [(.pointer (some ⟨g,0,none⟩)),(.int .i64 0),gi] bW fun em cj=>
      I y0 (u5 em 0) cj fun gj=>
      I y0 (u5 em 1) cj fun jE=>
      I y0 (x2 bx x 0) cj fun gk=>
      I y0 (x1 af gk) cj fun gl=>
      aa y0 (u9 af 1 #[(0,gj)]) cj fun gm gn=>
      aa y0 (r9 #[af,af] af #[gl,gm]) gn fun gp eo=>
      I y0 (x2 bx x 0) eo fun gq=>
      aa y0 (x8 af gq gp) eo fun(_:Unit) ep=>
      I y0 (U .add J false true di (.int .i64 1)) ep fun gr=>
      ge gr ep)
       (O y0 en [(.pointer (some ⟨g,0,none⟩)),(.int .i64 0),(.int .i64 4611686018427387904)] bW fun er bX=>
     I y0 (u5 er 0) bX fun gt=>
     I y0 (u5 er 1) bX fun gu=>
     I y0 (x2 aF (.pointer (some ⟨W,0,none⟩)) 3) bX fun gv=>
     I y0 (x1 cr gv) bX fun es=>
     I y0 (u6 #[cr] J #[es]) bX fun gw=>
     bc (.int .i64 0) bX fun dj bY gx=>
      I y0 (U .lss J false false dj gw) bY fun gy=>
      Split gy (aB (α:=x5→Prop) (fun(et:x5)=>
       I y0 (U .add J false true dj (.int .i64 1)) et fun gz=>
       gx gz et) fun eu=>
      I y0 (x7 cr es dj) bY fun gA=>
      I y0 (x1 bx gA) bY fun gB=>
      aa y0 (n9 bx true (.tuple #[])) bY fun y gC=>
      aa y0 (x8 bx y gB) gC fun(_:Unit) bd=>
      aB (α:=x4→x5→Prop) (fun(gD:x4) (ev:x5)=>
       Split gD (O y0 fy [(.pointer (some ⟨g,0,none⟩)),(.int .i64 4),gu] ev fun jF gE=>
        eu gE)
        (eu ev)) fun ew=>
      I y0 (am (.pointer (some ⟨g,0,none⟩))) bd fun gF=>
      I y0 (x2 aN gF 3) bd fun gG=>
      I y0 (x1 J gG) bd fun gH=>
      I y0 (U .eql J false true gH (.int .i64 0)) bd fun gI=>
      Split gI (I y0 (x2 bx x 0) bd fun gJ=>
       I y0 (x1 af gJ) bd fun gK=>
      I y0 (x2 bx y 0) bd fun gL=>
      I y0 (x1 af gL) bd fun gM=>
      O y0 iL [gK,gM] bd fun gN gO=>
      ew gN gO)
       (ew (.bool false) bd))
       (I y0 (x2 bx x 1) bY fun gP=>
     aa y0 (x8 ae gP gt) bY fun(_:Unit) cZ=>
     I y0 (x2 aF (.pointer (some ⟨W,0,none⟩)) 3) cZ fun gR=>
     I y0 (x1 cr gR) cZ fun gS=>
     I y0 (x1 bx x) cZ fun gT=>
     aa y0 (u9 cr 1 #[(0,gT)]) cZ fun gU gV=>
     aa y0 (r9 #[cr,cr] cr #[gS,gU]) gV fun gW ey=>
     I y0 (x2 aF (.pointer (some ⟨W,0,none⟩)) 3) ey fun gX=>
     aa y0 (x8 cr gX gW) ey fun(_:Unit) ez=>
     I y0 (U .add ae false true ej (.int .i64 1)) ez fun gY=>
     ga gY ez)))
       (aB (α:=x5→Prop) (fun(aM:x5)=>
     I y0 (x1 aF (.pointer (some ⟨W,0,none⟩))) aM fun gZ=>
     aa y0 (x8 aF (.pointer (some ⟨ab,0,none⟩)) gZ) aM fun(_:Unit) eA=>
     I y0 (do loadVar aF (←asAddr (.pointer (some ⟨ab,0,none⟩)))) eA fun g0=>
 Q g0 eA) fun eB=>
    Split (.bool neg) (aQ ci fun aW=>
     I y0 (am (.pointer (some ⟨g,0,none⟩))) aW fun dk=>
     I y0 (x2 aN dk 8) aW fun dl=>
     I y0 (x1 bU dl) aW fun eC=>
     I y0 (x1 aF (.pointer (some ⟨W,0,none⟩))) aW fun g1=>
     aa y0 (u9 bU 1 #[(0,g1)]) aW fun g2 bk=>
     (Ext aW bk∨al y0 (x1 bU dl) eC bk∧al y0 (x2 aN dk 8) dl bk∧al y0 (am (.pointer (some ⟨g,0,none⟩))) dk bk∧True)∧
     aa y0 (r9 #[bU,bU] bU #[eC,g2]) bk fun g3 c0=>
      I y0 (am (.pointer (some ⟨g,0,none⟩))) c0 fun g4=>
      I y0 (x2 aN g4 8) c0 fun g5=>
      aa y0 (x8 bU g5 g3) c0 fun(_:Unit) bJ=>
      eB bJ)
     (eB ci))) fun eD=>
     I y0 (U .lss ae false false ej bT) bH fun g6=>
     Split g6 (I y0 (am (.pointer (some ⟨g,0,none⟩))) bH fun g7=>
     I y0 (x2 aN g7 3) bH fun g8=>
     I y0 (x1 J g8) bH fun g9=>
     I y0 (U .eql J false true g9 (.int .i64 0)) bH fun ha=>
     eD ha bH)
      (eD (.bool false) bH)) fun eE=>
   I y0 (U .lss ae false true bT (.int .i64 0)) ac fun hb=>
   Split hb (aB (α:=x4→x5→Prop) (fun(hc:x4) (aG:x5)=>
     Split hc (O y0 fy [(.pointer (some ⟨g,0,none⟩)),(.int .i64 4),ei] aG fun jG dm=>
     I y0 (x1 aF (.pointer (some ⟨W,0,none⟩))) dm fun hd=>
     aa y0 (x8 aF (.pointer (some ⟨ab,0,none⟩)) hd) dm fun(_:Unit) eF=>
     I y0 (do loadVar aF (←asAddr (.pointer (some ⟨ab,0,none⟩)))) eF fun hf=>
 Q hf eF)
     (I y0 (am (.pointer (some ⟨g,0,none⟩))) aG fun hg=>
    I y0 (x2 aN hg 8) aG fun hh=>
    I y0 (x1 bU hh) aG fun hj=>
    I y0 (Z5 .neg bT) aG fun hk=>
    I y0 (U .sub ae false true hk (.int .i64 1)) aG fun hl=>
    I y0 (x7 bU hj hl) aG fun hn=>
    I y0 (x2 aF hn 3) aG fun ho=>
    I y0 (x1 cr ho) aG fun hp=>
    I y0 (x2 aF (.pointer (some ⟨W,0,none⟩)) 3) aG fun hq=>
    aa y0 (x8 cr hq hp) aG fun(_:Unit) eG=>
    eE eG)) fun eH=>
    aQ ac fun ao=>
    I y0 (Z5 .neg bT) ao fun hr=>
    I y0 (am (.pointer (some ⟨g,0,none⟩))) ao fun hs=>
    I y0 (x2 aN hs 8) ao fun ht=>
    I y0 (x1 bU ht) ao fun hv=>
    I y0 (u6 #[bU] J #[hv]) ao fun hx=>
    I y0 (U .gtr ae false false hr hx) ao fun hy=>
    Split hy (eH (.bool true) ao)
    (I y0 (am (.pointer (some ⟨g,0,none⟩))) ao fun hz=>
    I y0 (x2 aN hz 8) ao fun hA=>
    I y0 (x1 bU hA) ao fun hB=>
    I y0 (Z5 .neg bT) ao fun hC=>
    I y0 (U .sub ae false true hC (.int .i64 1)) ao fun hD=>
    I y0 (x7 bU hB hD) ao fun hE=>
    I y0 (x2 aF hE 1) ao fun hF=>
    I y0 (x1 af hF) ao fun hG=>
    I y0 (x2 aF (.pointer (some ⟨W,0,none⟩)) 1) ao fun hH=>
    I y0 (x1 af hH) ao fun hI=>
    O y0 iL [hG,hI] ao fun hJ dn=>
    I y0 (Z5 .not hJ) dn fun hK=>
    eH hK dn))
    (I y0 (am (.pointer (some ⟨g,0,none⟩))) ac fun hL=>
    I y0 (x2 aN hL 7) ac fun hO=>
    I y0 (x1 ae hO) ac fun hP=>
    I y0 (U .add ae false false hP bT) ac fun hQ=>
    I y0 (am (.pointer (some ⟨g,0,none⟩))) ac fun hR=>
    I y0 (x2 aN hR 7) ac fun hS=>
    aa y0 (x8 ae hS hQ) ac fun(_:Unit) be=>
    aB (α:=x5→Prop) (fun(bf:x5)=>
     I y0 (am (.pointer (some ⟨g,0,none⟩))) bf fun hT=>
     I y0 (x2 aN hT 7) bf fun hU=>
     I y0 (x1 ae hU) bf fun hV=>
     I y0 (U .gtr ae false true hV (.int .i64 16384)) bf fun hW=>
     O y0 fZ [(.pointer (some ⟨g,0,none⟩)),hW,ei] bf fun jH dp=>
     eE dp) fun eI=>
    I y0 (am (.pointer (some ⟨g,0,none⟩))) be fun hX=>
    I y0 (x2 aN hX 7) be fun hY=>
    I y0 (x1 ae hY) be fun hZ=>
    I y0 (U .gtr ae false true hZ (.int .i64 4611686018427387904)) be fun h0=>
    Split h0 (I y0 (am (.pointer (some ⟨g,0,none⟩))) be fun h2=>
    I y0 (x2 aN h2 7) be fun h3=>
    aa y0 (x8 ae h3 (.int .i64 4611686018427387904)) be fun(_:Unit) eJ=>
    eI eJ)
    (eI be)))) fun eL=>
  I y0 (U .gtr ae false true (.int .i64 (ar:Int)) (.int .i64 6)) bb fun h4=>
  Split h4 (O y0 fZ [(.pointer (some ⟨g,0,none⟩)),(.bool true),(.int .i64 dT)] bb fun jI h5=>
  eL h5)
   (I y0 (U .gtr ae false true ea (.int .i64 4096)) bb fun h6=>
  O y0 fZ [(.pointer (some ⟨g,0,none⟩)),h6,(.int .i64 dT)] bb fun jJ h7=>
  eL h7)):=by
 have h8:=h.lt;have eM:ab≠g:=fun he=>by
  obtain⟨aX,aI,aJ,bad,a1,big,a2,told,sv,V,_⟩:=fW h;subst he;exact absurd (eK V dX) (by decide)
 obtain⟨a6,aw,bK,c1,c2,c4,f1,f2,f3,f4,f5,f6,f7⟩:=id dV;have cl:W≠g:=by omega
 have ret:∀ {X:x5} {x:ca} {ay:av},fv X B W x→ak X ab aF [.slice none 0 0,.slice none 0 0,.int .i64 0,.slice none 0 0]→aj (fun r=>r=g∨H r∨B≤r) w X→bz X g X.heap.size ay 100001 ((hN neg ar scope sizes ax).map (·.2))→(∀ q,hN neg ar scope sizes ax=some q→x=q.1)→¬ay ab→(∀ r,H r→ay r)→(∀ r,ay r→H r∨B≤r)→(∀ r,ay r→r<X.heap.size)→
   (I y0 (x1 aF (.pointer (some ⟨W,0,none⟩))) X fun cg=>
    aa y0 (x8 aF (.pointer (some ⟨ab,0,none⟩)) cg) X fun(_:Unit) bA=>
    I y0 (do loadVar aF (←asAddr (.pointer (some ⟨ab,0,none⟩)))) bA fun ch=>Q ch bA):=by
  intro X x ay dq ds h9 ia ib ic dt ie ig;obtain⟨a6,aw,bK,c1,c2,c4,du,dv,dw,dx,dy,eO,eP⟩:=dq;let aL:gQ:=⟨a6,aw,x.other,bK⟩;have cm:fi X aL x:=⟨⟨c1,dv⟩,⟨c2,dw⟩,rfl,c4,dx⟩;rw[bI aF.p aF.i rfl (show X.rangeAt W 0 (dU aL) from du.range)];refine b4 (vs:=dU aL) aF.i rfl rfl cm.one ds fun jK dz ih ii=>?_;rw[eN aF.p aF.i rfl ii.range];have ij:∀ r,r=ab→fu X r∨X.heap.size≤r:=fun r E=>by subst E;exact .inl ⟨_,_,ds,by decide,by decide⟩
  refine fG _ _ ⟨aL,x,ay,(h9.mono fun r _ h=>?_).trans (dz.mono fun r _ h=>.inr (.inr (.inl h))),rfl,cm.da dz ij,ia.da dz fun r E=>.inl ?_,ib,dt,ie,fun r E=>by rw[ih];exact ig r E⟩
  ·exact h.elim .inl fun h=>h.elim (fun h=>.inr (.inl h)) fun h=>.inr (.inr (.inr h))
  ·have E:r=ab:=E;subst E;exact⟨_,_,ds,by decide,by decide,by decide,by decide,ic⟩
 have dA:∀ {X:x5},aj (fj g B) w X→ak X ab aF [.slice none 0 0,.slice none 0 0,.int .i64 0,.slice none 0 0]:=fun bl=>dX.ad bl fun bm=>bm.elim eM fun h=>by omega
 have dB:∀ {X:x5},aj (fj g B) w X→aj (fun r=>r=g∨H r∨B≤r) w X:=fun bl=>bl.mono fun r _ h=>h.elim .inl fun h=>.inr (.inr h);have eQ:∀ {X:x5} {eR:Nat} {ay:av} {so:Option aA},bz X g eR ay 100000 so→bz X g eR ay 100001 so:=fun E=>by
  obtain⟨cn,w0,aX,bB,gs,sv,L,ba,aI,aJ,bad,a1,big,a2,told,h1,ik,il,im,ir,dC,dE⟩:=E;refine⟨by omega,w0,aX,bB,gs,sv,L,ba,aI,aJ,bad,a1,big,a2,told,h1,ik,il,im,ir,dC,?_⟩;rename_i so;cases so with
  |none=>exact⟨dE.1,by have:=dE.2;omega⟩
  |some s=>exact dE
 have eS:∀ {X:x5} {x:ca},fv X B W x→aj (fj g B) w X→bz X g B H 100000 none→hN neg ar scope sizes ax=none→(I y0 (x1 aF (.pointer (some ⟨W,0,none⟩))) X fun cg=>
    aa y0 (x8 aF (.pointer (some ⟨ab,0,none⟩)) cg) X fun(_:Unit) bA=>
    I y0 (do loadVar aF (←asAddr (.pointer (some ⟨ab,0,none⟩)))) bA fun ch=>Q ch bA):=fun dq bl E eT=>
  ret dq (dA bl) (dB bl) (by rw[eT];exact eQ E.base) (fun q aD=>by rw[eT] at aD;cases aD) cV (fun _ h=>h) (fun _ h=>.inl h) fun r E=>by have:=cW r E;have:=bl.size;omega
 rw[ah aF.p rfl,ai (by kernel_rfl) (f1.cell (o:=0+1) rfl),aO af.u f3.ls];refine FA f3.ls (fun z it=>(dW z it).1) fun c bl=>?_;refine dF (fun ce=>aj (fun r=>r=g) w ce∧bz ce g B H 100000 (ax.map (aY (decide (6<ar)||cS sizes)))) ?_ ?_
 rotate_left
 ·intro dG bn;rw[bV,ag];refine⟨fun dC=>?_,fun dC=>?_⟩
  ·refine (ky h).mono ?_;rintro _ iu _ bo;refine bn _ ⟨bo.1,?_⟩;rw[decide_eq_true (show 6<ar by omega),Bool.true_or];exact bo.2
  ·rw[bV];refine (ky h).mono ?_;rintro _ iu _ bo;refine bn _ ⟨bo.1,?_⟩;have e:cS sizes=decide (4096<c):=by rw[X8,decide_eq_true_eq];exact bl.symm
   rw[decide_eq_false (show ¬6<ar by omega),Bool.false_or,e];exact bo.2
 rintro ce ⟨iv,iw⟩;refine (ip iw).mono ?_;rintro _ bS _ ⟨⟨ix,iy⟩,o,iz,rfl,iA,jL⟩;rw[aC (v:=.int .i64 o) rfl,aC (v:=.int .i64 iz) rfl];have bZ:aj (fun r=>r=g) w bS:=iv.trans ix;have jM:=dV.da bZ (iq h);have f123:=f1.ad bZ fun he=>cl he;rw[ah aF.p rfl];refine bE (g:=W) (o:=2) ae.i rfl rfl f123 (by simp) fun bw cq jN b1=>?_;have b1:ak bw W aF [a6,aw,.int .i64 o,bK]:=b1;have dH:∀ r,r=g→fu w r∨w.heap.size≤r:=fun r E=>(iq h r E).imp (fun⟨e,c,V,bp,bq,_⟩=>⟨e,c,V,bp,bq⟩) id;have b2:∀ {X:x5} {c:List x4},ak X W aF c→ ∀ r,r=W→fu X r∨X.heap.size≤r:=fun V r E=>by subst E;exact .inl ⟨_,_,V,by decide,by decide⟩
 have f224:=dJ (dJ f2 bZ dH) cq (b2 f123);have f324:=dJ (dJ f3 bZ dH) cq (b2 f123);have eU:=(f4.da bZ dH).da cq (b2 f123);have b5:=iy.new cq fun r E=>by have E:r=W:=E;omega
 have eV:aj (fj g B) w bw:=(bZ.mono fun r _ h=>.inl h).trans (cq.mono fun r _ h=>.inr (by have h:r=W:=h;omega));refine (ip b5).mono ?_;rintro _ ac _ ⟨⟨bC,br⟩,n,iB,rfl,iC,eW⟩;rw[aC (v:=.int .i64 n) rfl,aC (v:=.int .i64 iB) rfl,qd br];have eX:aj (fj g B) w ac:=eV.trans (bC.mono fun r _ h=>.inl h);have iD:fv bw B W ⟨scope,sizes,o,[]⟩:=⟨a6,aw,bK,c1,c2,c4,b1,f224,f324,eU,f5,f6,f7⟩;have eY:=iD.da bC (iq b5);cases bt:aU (-4611686018427387904) 4611686018427387904 (X9 (fun x=>x.snd) (aU 0 4611686018427387904 (ax.map (aY (decide (6<ar)||cS sizes))))) with
 |none=>
  rw[bt] at br;rw[Option.map_none,Option.isSome_none,X0,bP];refine eS eY eX br ?_;unfold hN;cases aE:aU 0 ap (ax.map (aY (decide (6<ar)||cS sizes))) with
  |none=>rfl
  |some p=>
   obtain⟨o',Z⟩:=p;have iE:aU 0 4611686018427387904 (ax.map (aY (decide (6<ar)||cS sizes)))=some (o',Z):=aE;rw[iE] at bt;have e:a7 (-ap) ap Z=none:=bt;simp only;unfold dg;rw[e]
 |some q=>
 obtain⟨jO,Y⟩:=q;have iF:=iC _ bt;subst iF;rw[bt] at br;have br:bz ac g B H 100000 (some Y):=br;rw[b6,Option.isSome_some,Y1,aT];obtain⟨Z,aE,dK⟩:∃ Z,aU 0 ap (ax.map (aY (decide (6<ar)||cS sizes)))=some (o,Z)∧a7 (-ap) ap Z=some (n,Y):=by
  cases aE:aU 0 4611686018427387904 (ax.map (aY (decide (6<ar)||cS sizes))) with
  |none=>rw[aE] at bt;cases bt
  |some p=>
   obtain⟨o',Z⟩:=p;have:=iA _ aE;subst this;rw[aE] at bt;exact⟨Z,aE,bt⟩
 have ct:hN neg ar scope sizes ax=match dg sizes Z with
   |none=>none
   |some (lines,Y)=>some (⟨scope,sizes,o,lines⟩,if neg=true then {Y with shared:=Y.shared++[(sizes,lines)]} else Y):=by
  unfold hN;rw[aE]
 have iG:=(fQ dK).1;have iH: -4611686018427387904≤n∧n≤4611686018427387904:=iG;have eZ:dg sizes Z=(if n<0 then match Y.shared[(-n-1).toNat]? with
   |none=>none
   |some (z,l)=>if z=sizes then some (l,Y) else none
  else ck (df sizes) n.toNat [] (aY (decide (16384<min (Y.told+n) ap)) {Y with told:=min (Y.told+n) ap})):=by
  unfold dg;rw[dK];rfl
 have iI:hM Y:=by
  cases b7:ax with
  |none=>rw[b7] at aE;cases aE
  |some aV=>
   rw[b7] at aE;have dL:a7 0 ap (aY (decide (6<ar)||cS sizes) aV)=some (o,Z):=aE;have c5:=(c3 dL).eqs;have cu:=(c3 dK).eqs;intro V;rw[cu.2.1,c5.2.1] at V;rw[cu.1,c5.1];exact fF aV b7 (U5.1 V).1
 refine dF (fun bj=>aj (fj g B) w bj∧ ∃ bL cw c6 bD,ak bj W aF [a6,aw,.int .i64 o,bL]∧aq .i64 ae bj c1 a6 scope∧aq .i64 ae bj c2 aw sizes∧io bj cw bL c6∧bz bj g B H 100000 (some bD)∧(0<n→c6=[]∧ ∀ r,¬leadsTo bL r)∧dg sizes Z=(if n≤0 then some (c6,bD) else ck (df sizes) n.toNat [] bD)) ?_ ?_
 ·rintro bj ⟨iJ,bL,cw,c6,bD,du,dv,dw,dx,dy,eO,eP⟩;refine FD dy du dv dw dx f5 f6 f7 dW fE iH.2 eO (r3 dy).1 fun ci A dM iK e0 e1 iM cz=>?_;have b8:=iJ.trans iK;have bM:dM=(dg sizes Z).map (·.2)∧ ∀ q,dg sizes Z=some q→A=q.1:=by
   rw[eP];by_cases dN:n≤0
   ·obtain⟨aI,aJ⟩:=iM dN;rw[if_pos dN];exact⟨aJ,fun q aD=>by cases aD;exact aI⟩
   ·rw[if_neg dN];exact cz (by omega)
  obtain⟨bM,bo⟩:=bM;cases neg with
  |false=>
   refine dF (fun aM=>ci=aM) ?_ ?_
   ·rintro _ rfl;refine ret e0 (dA b8) (dB b8) ?_ ?_ cV (fun _ h=>h) (fun _ h=>.inl h) fun r E=>by have:=cW r E;have:=b8.size;omega
    ·have:(hN false ar scope sizes ax).map (·.2)=dM:=by
      rw[ct,bM];cases dg sizes Z with
      |none=>rfl
      |some p=>rfl
     rw[this];exact eQ e1.base
    ·intro q aD;rw[ct] at aD;cases aP:dg sizes Z with
     |none=>rw[aP] at aD;cases aD
     |some p=>
      rw[aP] at aD;have:=bo p aP;cases aD;rw[this]
   ·intro dG bn;rw[aT];exact bn _ rfl
  |true=>
   refine dF (fun aM=>∃ ay,aj (fun r=>r=g∨H r∨B≤r) w aM∧fv aM B W ⟨scope,sizes,o,A⟩∧ak aM ab aF [.slice none 0 0,.slice none 0 0,.int .i64 0,.slice none 0 0]∧bz aM g aM.heap.size ay 100001 ((hN true ar scope sizes ax).map (·.2))∧¬ay ab∧(∀ r,H r→ay r)∧(∀ r,ay r→H r∨B≤r)∧ ∀ r,ay r→r<aM.heap.size) ?_ ?_
   ·rintro aM ⟨ay,iN,iO,a3,a4,a5,iP,iQ,iR⟩;refine ret iO a3 iN a4 ?_ a5 iP iQ iR;intro q aD;rw[ct] at aD;cases aP:dg sizes Z with
    |none=>rw[aP] at aD;cases aD
    |some p=>
     rw[aP] at aD;have:=bo p aP;cases aD;rw[this]
   ·intro dG bn;rw[bP];intro aW cA _ _;have iS:=e1.ext cA;have iT:=e0.ext cA;have iU:=(dA b8).ext cA;obtain⟨cn,w0,aX,bB,gs,sv,L,ba,aI,aJ,bad,a1,big,a2,told,c7,bN,bO,aR,bQ,bF,bR⟩:=id iS;have iV:=bQ.g bN bO;obtain⟨⟨iW,e2⟩,bg,cB,cC⟩:=id iV;have iX:∀ r,leadsTo sv r→r<B:=fun r E=>cW r (bF r E);rw[az,ah aN.p rfl,ai (by kernel_rfl) (aR.cell (o:=0+8) rfl)];obtain⟨e3,e4,bL,e5,e7,cw,e8,e9,fa,fb,iY,iZ,i0⟩:=id iT;let aL:gQ:=⟨e3,e4,o,bL⟩;let x:ca:=⟨scope,sizes,o,A⟩;have cm:fi aW aL x:=⟨⟨e5,e9⟩,⟨e7,fa⟩,rfl,cw,fb⟩;rw[bI aF.p aF.i rfl (show aW.rangeAt W 0 (dU aL) from e8.range)];refine ff (f:=dU) (a:=aL) bU.u aF.i (by omega) rfl rfl fun jP jQ bk jR aH i1=>?_;refine⟨.inl aH,?_⟩;have jS:L.length≤100000:=by
     cases dM with
     |none=>exact bR.2
     |some s=>have:=bR.2.2.2.2.2.2.2.2;omega
    have dO:=bg.ext aH;refine fo (f:=dU) (a:=aL) bU.u aF.i rfl dO (by simpa using i1.sl) (cm.ext aH).one (by omega) (by omega) fun fc i2 c0 cD i3 fd=>?_;have dP:=aR.ext aH;have fe:=dP.ad fd fun he=>cp dO dP (by decide) he;rw[az,ah aN.p rfl];refine bE (g:=g) (o:=8) bU.i (cJ cD.sl).1 (cJ cD.sl).2 fe (by simp[e6]) fun bJ dQ jT c8=>?_;have c8:ak bJ g aN (e6 aX aI aJ bad a1 big a2 told fc):=c8;have bh:aj (fun r=>leadsTo sv r∨r=g) bk bJ:=(fd.mono fun r _ h=>.inl h).trans (dQ.mono fun r _ h=>.inr h);have c9:∀ r,(leadsTo sv r∨r=g)→fu bk r∨bk.heap.size≤r:=fun r E=>by
     rcases E with E|rfl
     ·obtain⟨rfl,c,V⟩:=dr dO E;exact .inl ⟨_,c,V,by decide,by decide⟩
     ·exact .inl ⟨_,_,dP,by decide,by decide⟩
    have fg:∀ {aL x},fi aW aL x→fi bJ aL x:=fun he=>(he.ext aH).da bh c9;have z50:=cA.size;have jU:=aH.size;have z53:=bh.size;have jV:=b8.size;have jW:=h8.2;refine bn _ ⟨fun r=>H r∨(aW.heap.size≤r∧r<bJ.heap.size),?_,?_,?_,?_,?_,fun r E=>.inl E,fun r E=>E.imp id fun E=>by omega,fun r E=>?_⟩
    ·refine (((dB b8).trans (cA.ad _)).trans (aH.ad _)).trans (bh.mono fun r _ E=>?_);exact E.elim (fun E=>.inr (.inl (bF r E))) .inl
    ·have i4:=e8.ext aH;refine⟨e3,e4,bL,e5,e7,cw,i4.ad bh fun E=>?_,dJ (e9.ext aH) bh c9,dJ (fa.ext aH) bh c9,(fb.da (aH.ad fun _=>False) fun _ h=>h.elim).da bh c9,iY,iZ,i0⟩;rcases E with E|E
     ·have:=iX _ E;omega
     ·exact cl E
    ·exact (iU.ext aH).ad bh fun E=>E.elim (fun E=>cV (bF _ E)) eM
    ·refine⟨by omega,bJ,aX,bB,i2,fc,L++[aL],ba++[x],aI,aJ,bad,a1,big,a2,told,rfl,aj.refl _ _,⟨_,c8⟩,c8,⟨⟨?_,fun r E=>?_⟩,cD.ad dQ fun r E he=>?_,by rw[o5,o5,cB];rfl,fun i i5 i6 hi cE=>?_⟩,fun r E=>?_,?_⟩
     ·refine (iW.ad (aH.ad fun _=>False) fun _ _ h=>h).ad bh fun r E bm=>?_;obtain⟨c,V⟩:=e2 r E;rcases bm with bm|rfl
      ·obtain⟨rfl,i7,dR⟩:=dr bg bm;exact absurd (eK V dR) (by decide)
      ·exact absurd (eK V aR) (by decide)
     ·obtain⟨c,V⟩:=e2 r E;refine⟨c,(V.ext aH).ad bh fun bm=>?_⟩;rcases bm with bm|rfl
      ·obtain⟨rfl,i7,dR⟩:=dr bg bm;exact absurd (eK V dR) (by decide)
      ·exact absurd (eK V aR) (by decide)
     ·have he:r=g:=he;subst he;exact cp cD fe (by decide) E
     ·by_cases i8:i<L.length
      ·rw[Z1 i8] at hi;rw[Z1 (by omega)] at cE;exact fg (cC i i5 i6 hi cE)
      ·rw[Z4 (by omega)] at hi;rw[Z4 (by omega)] at cE;have i9:i-L.length=0:=by have:=(x6.1 hi).1;simp at this;omega
       have dt:i-ba.length=0:=by omega
       rw[i9] at hi;rw[dt] at cE;cases hi;cases cE;exact fg cm
     ·rcases i3 r E with h|h
      ·exact .inl (bF r h)
      ·have:=(cD.leads E);have:=dQ.size;exact .inr ⟨by omega,by omega⟩
     ·rw[ct];cases aP:dg sizes Z with
      |none=>
       rw[aP] at bM;rw[bM] at bR;exact⟨bR.1,by rw[o5];simp;have:=bR.2;omega⟩
      |some p=>
       obtain⟨lines,bD⟩:=p;rw[aP] at bM;rw[bM] at bR;have ja:=bo _ aP;obtain⟨cF,cG,cH,cK,cL,cb,cM,bi,db⟩:=id bR;have fh:=yU aP;refine⟨cF,cG,cH,cK,cL,cb,cM,?_,?_⟩
       ·show (ba++[x]).map _=bD.shared++[(sizes,lines)];rw[j4,bi];simp only[x,List.map_cons,List.map_nil];rw[ja]
       ·have jX:Z.shared.length+Z.toks.length≤100000:=by
         cases b7:ax with
         |none=>rw[b7] at aE;cases aE
         |some aV=>
          rw[b7] at aE h;have dL:a7 0 ap (aY (decide (6<ar)||cS sizes) aV)=some (o,Z):=aE;have t9:=c3 dL;have c5:=t9.1;have cu:=t9.eqs.2.2;have t3:=(r3 h).2;have fk:(aY (decide (6<ar)||cS sizes) aV).toks=aV.toks:=rfl;have fl:(aY (decide (6<ar)||cS sizes) aV).shared=aV.shared:=rfl;rw[fk] at c5;rw[fl] at cu;rw[cu];omega
        have fm:L.length=bD.shared.length:=by rw[←bi,o4,cB]
        have jb:bB.length=bD.toks.length:=by rw[←cb,o4]
        rw[fh.2] at fm;rw[o5,fm,jb];simp only[T0];have:=fh.1;omega
    ·rintro (E|E)
     ·exact cV E
     ·omega
    ·rcases E with E|E
     ·have:=cW r E;omega
     ·exact E.2
 ·intro dG bn;rw[au,ag];refine⟨fun jc=>?_,fun jd=>?_⟩
  ·
   refine aZ (fun v aG=>Ext ac aG∧ ∃ b:Bool,v= .bool b∧(b=true→dg sizes Z=none)∧(b=false→ ∃ lines,dg sizes Z=some (lines,Y)∧Y.shared[(-n-1).toNat]? =some (sizes,lines))) ?_ ?_
   ·rintro _ aG ⟨cc,b,rfl,je,jf⟩;have dc:=br.ext cc;have jg:=eY.ext cc;have fp:=eX.trans (cc.ad _);cases b with
    |true=>
     rw[bP];refine (lM dc (by omega)).mono ?_;rintro _ dm _ ⟨fq,jh⟩;exact eS (jg.da fq (iq dc)) (fp.trans (fq.mono fun r _ h=>.inl h)) jh (by rw[ct,je rfl])
    |false=>
     rw[aT];obtain⟨lines,ji,cd⟩:=jf rfl;obtain⟨cn,w0,aX,bB,gs,sv,L,ba,aI,aJ,bad,a1,big,a2,told,c7,bN,bO,aR,bQ,bF,cF,cG,cH,cK,cL,cb,cM,bi,db⟩:=id dc;obtain⟨_,bg,cB,cC⟩:=bQ.g bN bO;have cN:(-n-1).toNat<L.length:=by
      have h1:=(x6.1 cd).1;rw[←bi,o4] at h1;omega
     obtain⟨dd,cO⟩:∃ h,L[(-n-1).toNat]? =some h:=⟨_,x3 cN⟩;obtain⟨bu,cP⟩:∃ x,ba[(-n-1).toNat]? =some x:=⟨_,x3 (by omega)⟩;obtain⟨_,_,_,jj,aS⟩:=cC _ dd bu cO cP;have jk:bu.lines=lines:=by
      rw[←bi,r8,cP] at cd;have:=b9 cd;exact (Prod.mk.inj this).2
     rw[az,ah aN.p rfl,ai (by kernel_rfl) (aR.cell (o:=0+8) rfl),ka,wrap_i64 (by omega) (by omega),dD,wrap_i64 (by omega) (by omega),cI (i:=(-n-1).toNat) (by omega) bU.u aF.i bg cN,ah aF.p rfl,ai (by kernel_rfl) (bg.range cO 3 _ rfl)];obtain⟨jY,fr,jZ,j0⟩:=id aS;have de:ak aG W aF [a6,aw,.int .i64 o,bK]:=(b1.ad bC fun he=>cl he).ext cc;have jl:=(dJ f224 bC fun r E=>(iq b5 r E).imp (fun⟨e,c,V,bp,bq,_⟩=>⟨e,c,V,bp,bq⟩) id).ext cc;have jm:=(dJ f324 bC fun r E=>(iq b5 r E).imp (fun⟨e,c,V,bp,bq,_⟩=>⟨e,c,V,bp,bq⟩) id).ext cc;rw[ah aF.p rfl];refine bE (g:=W) (o:=3) cr.i (cJ fr.sl).1 (cJ fr.sl).2 de (by simp) fun eG cQ j1 jn=>?_;refine bn _ ⟨fp.trans (cQ.mono fun r _ h=>.inr (by have h:r=W:=h;omega)),dd.bK,jj,lines,Y,jn,dJ jl cQ (b2 de),dJ jm cQ (b2 de),?_,dc.new cQ fun r E=>by have E:r=W:=E;omega,fun h=>by omega,by rw[ji,if_pos (by omega)]⟩;rw[←jk];exact aS.da cQ (b2 de)
   ·intro j2 fs;intro ao cR _ _;have jo:=br.ext cR;obtain⟨cn,w0,aX,bB,gs,sv,L,ba,aI,aJ,bad,a1,big,a2,told,c7,bN,bO,aR,bQ,bF,cF,cG,cH,cK,cL,cb,cM,bi,db⟩:=id jo;obtain⟨_,bg,cB,cC⟩:=bQ.g bN bO;have j3:Y.shared.length=L.length:=by rw[←bi,o4,cB]
    have aS:=eZ;rw[if_pos jc] at aS;rw[ka,wrap_i64 (by omega) (by omega),az,ah aN.p rfl,ai (by kernel_rfl) (aR.cell (o:=0+8) rfl),dZ bU.u bg,bV,ag];refine⟨fun cz=>fs _ _ ⟨cR,true,rfl,fun _=>?_,fun h=>by cases h⟩,fun cz=>?_⟩
    ·rw[aS,Z8 (by omega)]
    have cN:(-n-1).toNat<L.length:=by omega
    obtain⟨dd,cO⟩:∃ h,L[(-n-1).toNat]? =some h:=⟨_,x3 cN⟩;obtain⟨bu,cP⟩:∃ x,ba[(-n-1).toNat]? =some x:=⟨_,x3 (by omega)⟩;obtain⟨_,⟨j5,jp⟩,_,_⟩:=cC _ dd bu cO cP;have cd:Y.shared[(-n-1).toNat]? =some (bu.sizes,bu.lines):=by rw[←bi,r8,cP];rfl
    rw[cd] at aS;simp only at aS;rw[az,ah aN.p rfl,ai (by kernel_rfl) (aR.cell (o:=0+8) rfl),ka,wrap_i64 (by omega) (by omega),dD,wrap_i64 (by omega) (by omega),cI (i:=(-n-1).toNat) (by omega) bU.u aF.i bg cN,ah aF.p rfl,ai (by kernel_rfl) (bg.range cO 1 _ rfl)];have jq:ak ao W aF [a6,aw,.int .i64 o,bK]:=(b1.ad bC fun he=>cl he).ext cR;have jr:=(dJ f324 bC fun r E=>(iq b5 r E).imp (fun⟨e,c,V,bp,bq,_⟩=>⟨e,c,V,bp,bq⟩) id).ext cR;rw[ah aF.p rfl,ai (by kernel_rfl) (jq.cell (o:=0+1) rfl)];refine (uh jp.ls jr.ls).mono ?_;rintro _ dn _ ⟨rfl,js⟩;rw[b3];refine fs _ _ ⟨cR.trans js,_,rfl,fun V=>?_,fun V=>?_⟩
    ·have jt:bu.sizes≠sizes:=by simpa using V
     rw[aS,if_neg jt]
    ·have ft:bu.sizes=sizes:=by simpa using V
     exact⟨bu.lines,by rw[aS,if_pos ft],by rw[cd,ft]⟩
  ·
   have aS:=eZ;rw[if_neg jd] at aS;obtain⟨cn,w0,aX,bB,gs,sv,L,ba,aI,aJ,bad,a1,big,a2,told,c7,bN,bO,aR,bQ,bF,cF,cG,cH,cK,cL,cb,cM,bi,db⟩:=id br;rw[az,ah aN.p rfl,ai (by kernel_rfl) (aR.cell (o:=0+7) rfl),aK];generalize ju:Y9.wrap (told+n)=bG;have fw:Y.big=false→bG=Y.told+n∧0≤bG:=fun V=>by
    obtain⟨fk,fl⟩:=iI V;have jv:=cK V;rw[←ju,jv,wrap_i64 (by omega) (by omega)];exact⟨rfl,by omega⟩
   rw[az,ah aN.p rfl];refine bE (g:=g) (o:=7) ae.i rfl rfl aR (by simp[e6]) fun be fx j7 cT=>?_;have cT:ak be g aN (e6 aX aI aJ bad a1 big a2 bG sv):=cT;refine dF (fun bf=>aj (fun r=>r=g) ac bf∧ak bf g aN (e6 aX aI aJ bad a1 big a2 (min bG ap) sv)) ?_ ?_
   rotate_left
   ·intro j8 fz;rw[az,ah aN.p rfl,ai (by kernel_rfl) (cT.cell (o:=0+7) rfl),bV,ag];refine⟨fun cz=>?_,fun cz=>fz _ ⟨fx,?_⟩⟩
    ·rw[az,ah aN.p rfl];refine bE (g:=g) (o:=7) ae.i rfl rfl cT (by simp[e6]) fun eJ jw j9 jx=>?_;refine fz _ ⟨fx.trans jw,?_⟩;have e:min bG ap=4611686018427387904:=by unfold ap;omega
     rw[e];exact jx
    ·have e:min bG ap=bG:=by unfold ap;omega
     rw[e];exact cT
   rintro bf ⟨fA,fB⟩;have jy:bz bf g B H 100000 (some {Y with told:=min (Y.told+n) ap}):=⟨cn,w0,aX,bB,gs,sv,L,ba,aI,aJ,bad,a1,big,a2,_,c7,bN.trans fA,bO,fB,bQ,bF,cF,cG,cH,fun V=>by
    have V:Y.big=false:=V;rw[(fw V).1],cL,cb,cM,bi,db⟩
   rw[az,ah aN.p rfl,ai (by kernel_rfl) (fB.cell (o:=0+7) rfl),bV];refine (ky jy).mono ?_;rintro _ dp _ ⟨jz,fC⟩;have jA:(some {Y with told:=min (Y.told+n) ap}).map (aY (decide (16384<min bG ap)))=some (aY (decide (16384<min (Y.told+n) ap)) {Y with told:=min (Y.told+n) ap}):=by
    show some (aY _ _)=_;congr 1;unfold aY;cases V:Y.big with
    |true=>simp
    |false=>rw[(fw V).1]
   rw[jA] at fC;have cU:aj (fun r=>r=g) bw dp:=(bC.trans fA).trans jz;have dS:∀ r,r=g→fu bw r∨bw.heap.size≤r:=fun r E=>(iq b5 r E).imp (fun⟨e,c,V,bp,bq,_⟩=>⟨e,c,V,bp,bq⟩) id;have jB:bK= .slice none 0 0:=by
    have:=fD _ f1;simpa using this
   refine bn _ ⟨eV.trans (cU.mono fun r _ h=>.inl h),bK,c4,[],_,b1.ad cU fun he=>cl he,dJ f224 cU dS,dJ f324 cU dS,eU.da cU dS,fC,fun _=>⟨rfl,fun r E=>by rw[jB] at E;exact dI E⟩,?_⟩;rw[aS];by_cases eW:n≤0
   ·have:n=0:=by omega
    subst this;rw[if_pos (Int.le_refl _)];rfl
   ·rw[if_neg eW]
theorem yX {all:List Int} {s:aA}:cC all s=match a7 (-ap) ap s with
  |none=>none
  |some (a,I)=>match dY all.length a.natAbs I with
   |none=>none
   |some (scope,E)=>hN (decide (a<0)) a.natAbs scope (scope.map fun v=>all.getD v.toNat 0) (some E):=by
 unfold cC;cases a7 (-ap) ap s with
 |none=>rfl
 |some q=>
  obtain⟨a,I⟩:=q;simp only;cases dY all.length a.natAbs I with
  |none=>rfl
  |some p=>
   obtain⟨scope,E⟩:=p;simp only;unfold hN;show _=match a7 0 ap (aY (decide (6<a.natAbs)||cS (scope.map fun v=>all.getD v.toNat 0)) E) with
    |none=>none
    |some (other,J)=>_
   cases a7 0 ap (aY (decide (6<a.natAbs)||cS (scope.map fun v=>all.getD v.toNat 0)) E) with
   |none=>rfl
   |some U=>
    obtain⟨o,J⟩:=U;simp only;cases dg (scope.map fun v=>all.getD v.toNat 0) J with
    |none=>rfl
    |some V=>
     obtain⟨ls,W⟩:=V;by_cases O:a<0
     ·simp[O]
     ·simp[O]
def uj (w:x5) (g:Nat) (H:av) (I:Option (ca×aA)) (v:x4) (w':x5):Prop:=∃ J x E,aj (fun r=>r=g∨H r) w w'∧v= .agg (dU J).toArray∧fi w' J x∧bz w' g w'.heap.size E 100001 (I.map (·.2))∧(∀ q,I=some q→x=q.1)∧(∀ r,H r→E r)∧(∀ r,E r→H r∨w.heap.size≤r)∧ ∀ r,E r→r<w'.heap.size
theorem yY {n:Int} {k:Nat} {s s':aA} {l:List Int} (h:dY n k s=some (l,s')):s'.toks.length+l.length≤s.toks.length∧s'.told=s.told∧s'.big=s.big∧s'.shared=s.shared∧ ∀ v∈l,0≤v∧v<n:=by
 have:=ig (f:=ih n) (fun(acc:List Int) t=>t.toks.length+acc.length≤s.toks.length∧t.told=s.told∧t.big=s.big∧t.shared=s.shared∧ ∀ v∈acc,0≤v∧v<n) (fun acc t a Z I E=>by
  unfold ih at E;cases O:a7 0 (n-1) t with
  |none=>rw[O] at E;cases E
  |some q=>
   obtain⟨v,aa⟩:=q;rw[O] at E;simp only at E;split at E
   ·cases E
   ·cases E;have U:=c3 O;have ab:=(fQ O).1;obtain⟨V,W,X⟩:=U.eqs;have t0:=U.1;refine⟨by have:=I.1;rw[o5];simp only[T0];omega,V.trans I.2.1,W.trans I.2.2.1,X.trans I.2.2.2.1,fun y J=>?_⟩;rcases n0.1 J with J|J
    ·exact I.2.2.2.2 y J
    ·rw[o9.1 J];omega) k [] s l s' ⟨by simp,rfl,rfl,rfl,fun v Y=>by cases Y⟩ h
 exact this.1
set_option maxHeartbeats 8000000 in
theorem FE {w:x5} {g B0 bf:Nat} {H:av} {s:aA} {am:x4} {all:List Int} (h:bz w g B0 H 100000 (some s)) (aH:aq .i64 ae w bf am all) (aI:∀ z∈all,1≤z∧z≤ap) (bg:all.length≤100001) (ao:∀ r,H r→r<w.heap.size) (bE:hM s):
  O y0 mi [.pointer (some ⟨g,0,none⟩),am] w (uj w g H (cC all s)):=by
 have ck:=h.lt;apply mi.enter;refine bO aF.i fun ab U cl ax ay=>?_;have ay:ak U ab aF [.slice none 0 0,.slice none 0 0,.int .i64 0,.slice none 0 0]:=ay;refine bO aF.i fun af bF cm az aB=>?_;have aB:ak bF af aF [.slice none 0 0,.slice none 0 0,.int .i64 0,.slice none 0 0]:=aB;have h1:=(h.ext ax).base;have aJ:=h1.ext az;have cn:=ax.size;have bh:=ay.lt;have cp:=aB.lt;refine (ip aJ).mono ?_;rintro _ Z _ ⟨⟨aD,V⟩,a,bG,rfl,aK,aL⟩;rw[aC (v:=.int .i64 a) rfl,aC (v:=.int .i64 bG) rfl,au];have bH:af≠g:=by omega
 have aM:ab≠g:=by omega
 have aN:=aB.ad aD fun he=>bH he;have aO:=(ay.ext az).ad aD fun he=>aM he;have bi:aq .i64 ae Z bf am all:=bp ((aH.ext ax).ext az) aD fun r E he=>by
  have he:r=g:=he;obtain⟨bj,X,ac,bad,bk,big,bl,told,sv,aE,_⟩:=fW h;subst he;exact bW aH aE (by decide) E rfl
 have bm:∀ r,leads am r→r<U.heap.size:=fun r E=>by obtain⟨X,ac⟩:=bX aH E;omega
 have aP:fv Z U.heap.size af ⟨[],[],0,[]⟩:=⟨_,_,_,0,0,0,aN,aq.nil _ _ _ _,aq.nil _ _ _ _,⟨[],aW.nil _ _ _ _ _,fun y bJ=>(by cases bJ),rfl⟩,(fun r E=>by rcases E with⟨a,n,c,X,ac⟩|⟨a,n,c,X,ac⟩ <;> cases X),(fun r E=>by obtain⟨a,n,c,X,ac⟩:=E;cases X),by omega⟩;have aQ:∀ c,ak Z af aF c→c[3]? =some (.slice none 0 0):=fun c aR=>by
  unfold ak at aR aN;rw[aN] at aR;have:=Array.toList_inj.2 (Obj.cells.inj (b9 aR)).1;simp at this;rw[←this];rfl
 have bn:aj (fun r=>r=g) U Z:=(az.ad _).trans aD;have cq:U.heap.size≤Z.heap.size:=bn.size;have aS:∀ {J:x5} {aT:Option (ca×aA)} {v:x4} {w':x5},aj (fj g U.heap.size) Z J→aT=cC all s→yV J g ab U.heap.size H aT v w'→uj w g H (cC all s) v w':=by
  rintro J aT v w' Y rfl ⟨al,x,bL,aV,aX,aY,a1,bo,bq,br,bM⟩;refine⟨al,x,bL,?_,aX,aY,a1,bo,bq,fun r E=>(br r E).imp id fun h=>by omega,bM⟩;refine fB (fB ((ax.ad _).trans (bn.mono fun r _ h=>.inl h)) Y fun r E he=>?_) aV fun r E he=>?_
  ·exact he.elim .inl fun he=>by omega
  ·rcases he with he|he|he|he
   ·exact .inl he
   ·exact .inr he
   ·omega
   ·omega
 have bN:∀ {J:x5} {x:ca},aj (fj g U.heap.size) Z J→cC all s=none→bz J g U.heap.size H 100000 none→fv J U.heap.size af x→
   (I y0 (x1 aF (.pointer (some ⟨af,0,none⟩))) J fun bP=>
    aa y0 (x8 aF (.pointer (some ⟨ab,0,none⟩)) bP) J fun(_:Unit) bt=>
    I y0 (do loadVar aF (←asAddr (.pointer (some ⟨ab,0,none⟩)))) bt fun bQ=>uj w g H (cC all s) bQ bt):=by
  intro J x Y bu a2 bR;obtain⟨a6,aw,bK,bS,bT,bU,aV,aX,aY,a1,bo,bq,br⟩:=bR;let al:gQ:=⟨a6,aw,x.other,bK⟩;have bw:fi J al x:=⟨⟨bS,aX⟩,⟨bT,aY⟩,rfl,bU,a1⟩;have a8:=aO.ad Y fun ah=>ah.elim aM fun h=>by omega
  rw[bI aF.p aF.i rfl (show J.rangeAt af 0 (dU al) from aV.range)];refine b4 (vs:=dU al) aF.i rfl rfl bw.one a8 fun cr ba ct bV=>?_;rw[eN aF.p aF.i rfl bV.range];have bY:∀ r,r=ab→fu J r∨J.heap.size≤r:=fun r E=>by subst E;exact .inl ⟨_,_,a8,by decide,by decide⟩
  have cu:=Y.size;refine aS Y rfl ⟨al,x,H,ba.mono fun r _ h=>.inr (.inr (.inl h)),rfl,bw.da ba bY,?_,(fun q W=>by rw[bu] at W;cases W),fun _ h=>h,fun _ h=>.inl h,fun r E=>by have:=ao r E;omega⟩;rw[bu];have bZ:bz J g U.heap.size H 100001 none:=by
   obtain⟨cw,w0,bj,b1,gs,sv,L,b2,X,ac,bad,bk,big,bl,told,h1,aJ,V,b3,b5,bb,bx⟩:=a2;exact⟨by omega,w0,bj,b1,gs,sv,L,b2,X,ac,bad,bk,big,bl,told,h1,aJ,V,b3,b5,bb,bx.1,by have:=bx.2;omega⟩
  refine bZ.da ba fun r E=>.inl ?_;have E:r=ab:=E;subst E;exact⟨_,_,a8,by decide,by decide,by decide,by decide,fun bc=>by have:=ao _ bc;omega⟩
 have ai:=yX (all:=all) (s:=s);have b6:aU (-4611686018427387904) 4611686018427387904 (some s)=a7 (-ap) ap s:=rfl;rw[b6] at V aK aL;have cz: -4611686018427387904≤a∧a≤4611686018427387904:=by
  cases W:a7 (-ap) ap s with
  |none=>have:=aL W;omega
  |some q=>have:=aK q W;rw[this];exact (fQ (n:=q.1) (s':=q.2) W).1
 refine aZ (fun v b7=>Z=b7∧v= .int .i64 (a.natAbs:Int)) ?_ ?_
 rotate_left
 ·intro cA bA;rw[ag];refine⟨fun cB=>?_,fun cD=>bA _ _ ⟨rfl,by congr 1;omega⟩⟩;rw[ka,wrap_i64 (by omega) (by omega)];exact bA _ _ ⟨rfl,by congr 1;omega⟩
 rintro _ _ ⟨rfl,rfl⟩;have bB:∀ r,H r→r<U.heap.size:=fun r E=>by have:=ao r E;omega
 have bC:¬H ab:=fun bc=>by have:=ao _ bc;omega
 have b8:∀ {scope:List Int},(∀ v∈scope,0≤v∧v<(all.length:Int))→ ∀ z∈scope.map (fun v=>all.getD v.toNat 0),1≤z∧z≤ap:=fun cb z cc=>by
  obtain⟨v,cd,rfl⟩:=l9.1 cc;have:=cb v cd;refine aI _ ?_;rw[p8,x3 (by omega)];exact T1 _
 cases W:a7 (-ap) ap s with
 |none=>
  rw[W] at V ai;have ce:=aL W;subst ce;refine yT (s:=s) (ar:=(0:Int).natAbs) V (.inr ⟨rfl,rfl⟩) aP aQ bi bm bg (by decide) (fun h=>by cases h) ?_ ?_ ?_
  ·intro h;cases h
  ·intro _;exact yW (neg:=decide ((0:Int)<0)) V aP aQ (fun z aI=>by cases aI) (by simp) aO bh bC bB (fun cg ah=>by cases ah) fun v w' bd=>aS (aj.refl _ _) (by rw[ai];rfl) bd
  ·intro h;cases h
 |some q=>
  obtain⟨a',bD⟩:=q;rw[W] at V ai;have:=aK _ W;subst this;simp only at ai;have V:bz Z g U.heap.size H 100000 (some bD):=V;have ch:=c3 W;refine yT (s:=bD) (ar:=a.natAbs) V (.inl rfl) aP aQ bi bm bg (by omega) (fun _=>(r3 V).1) ?_ ?_ ?_
  ·intro _ J x Y aG a2 be;exact bN Y (by rw[ai,aG]) a2 be
  ·intro h;cases h
  ·intro _ J scope s' Y aG bb be ci;obtain⟨cE,cj,t3,t4,t5⟩:=yY aG;rw[aG] at ai;obtain⟨X,ac,cF⟩:=ch.eqs;refine yW (neg:=decide (a<0)) bb be ci (b8 t5) ?_ (aO.ad Y fun ah=>ah.elim aM fun h=>by omega) bh bC bB (fun cg ah=>?_) fun v w' bd=>aS Y ai.symm bd
   ·rw[o4];have:=(r3 V).1;omega
   ·cases ah;intro aE;rw[t3,ac] at aE;rw[cj,X];exact bE aE
theorem FF {sizes:List Int} {s s':aA} {l:List (List Int×Int)} (h:dg sizes s=some (l,s')) (U:hM s):hM s':=by
 unfold dg at h;cases J:a7 (-ap) ap s with
 |none=>rw[J] at h;cases h
 |some q=>
  obtain⟨n,E⟩:=q;obtain⟨V,W,t3⟩:=(c3 J).eqs;have O:hM E:=fun I=>by rw[V];exact U (by rw[←W];exact I)
  rw[J] at h;simp only at h;split at h
  ·split at h
   ·cases h
   ·split at h
    ·cases h;exact O
    ·cases h
  ·rename_i ae;have h':ck (df sizes) n.toNat [] (aY (decide (16384<min (E.told+n) ap)) {E with told:=min (E.told+n) ap})=some (l,s'):=h;have:=ig (f:=df sizes) (fun _ t=>hM t) (fun acc t a af X Y=>by
    obtain⟨_,_,_,Z⟩:=m8 Y;obtain⟨aa,ab,ag⟩:=Z.eqs;intro I;rw[aa];exact X (by rw[←ab];exact I)) n.toNat [] (aY (decide (16384<min (E.told+n) ap)) {E with told:=min (E.told+n) ap}) l s' (fun I=>by
     obtain⟨ac,ad⟩:=U5.1 I;have ah:=O ac;have ai:=of_decide_eq_false ad;show 0≤min (E.told+n) ap∧min (E.told+n) ap≤16384;unfold ap at*;omega) h'
   exact this.1
theorem FG {all:List Int} {s s':aA} {x:ca} (h:cC all s=some (x,s')):s'.toks.length+1≤s.toks.length∧(hM s→hM s'):=by
 rw[yX] at h;cases J:a7 (-ap) ap s with
 |none=>rw[J] at h;cases h
 |some q=>
  obtain⟨a,ab⟩:=q;rw[J] at h;simp only at h;have X:=c3 J;cases O:dY all.length a.natAbs ab with
  |none=>rw[O] at h;cases h
  |some p=>
   obtain⟨scope,E⟩:=p;rw[O] at h;simp only at h;obtain⟨au,ac,t3,_⟩:=yY O;unfold hN at h;have e:aU 0 ap ((some E).map (aY (decide (6<a.natAbs)||cS (scope.map fun v=>all.getD v.toNat 0))))=a7 0 ap (aY (decide (6<a.natAbs)||cS (scope.map fun v=>all.getD v.toNat 0)) E):=rfl;rw[e] at h;cases U:a7 0 ap (aY (decide (6<a.natAbs)||cS (scope.map fun v=>all.getD v.toNat 0)) E) with
   |none=>rw[U] at h;cases h
   |some ad=>
    obtain⟨o,Y⟩:=ad;rw[U] at h;simp only at h;have Z:=c3 U;cases I:dg (scope.map fun v=>all.getD v.toNat 0) Y with
    |none=>rw[I] at h;cases h
    |some ae=>
     obtain⟨ls,V⟩:=ae;rw[I] at h;simp only[Z7,U2] at h;obtain⟨_,af⟩:=h;have av:=yU I;have ag:(aY (decide (6<a.natAbs)||cS (scope.map fun v=>all.getD v.toNat 0)) E).toks=E.toks:=rfl;have ah:=Z.1;rw[ag] at ah;have aw:=X.1;obtain⟨ai,aj,_⟩:=X.eqs;obtain⟨f1,f2,_⟩:=Z.eqs;have W:s'.toks=V.toks∧s'.told=V.told∧s'.big=V.big:=by
      rw[←af];split <;> exact⟨rfl,rfl,rfl⟩
     refine⟨by rw[W.1];omega,fun ak=>?_⟩;have al:hM Y:=fun aa=>by
      rw[f2] at aa;rw[f1];have am:E.big=false:=(U5.1 aa).1;show 0≤E.told∧E.told≤16384;rw[ac,ai];exact ak (by rw[←aj,←t3];exact am)
     have ao:=FF I al;intro aq;rw[W.2.1];exact ao (by rw[←W.2.2];exact aq)
theorem bz.shrink {w:x5} {g B N:Nat} {H:av} {so:Option aA} (h:bz w g B H N so):∃ E,bz w g B E N so∧(∀ r,E r→H r)∧ ∀ r,E r→ ∃ c,ak w r aF c:=by
 obtain⟨W,w0,X,Y,gs,sv,L,Z,aa,ab,bad,ac,big,ae,told,h1,J,O,af,U,ag,ah⟩:=h;refine⟨fun r=>leadsTo sv r,⟨W,w0,X,Y,gs,sv,L,Z,aa,ab,bad,ac,big,ae,told,h1,J,O,af,U,fun r I=>I,ah⟩,ag,fun r I=>?_⟩;obtain⟨rfl,c,V⟩:=dr U.2.1 I;refine⟨c,V.ad J fun he=>?_⟩;obtain⟨aj,ai⟩:=O;subst he;exact absurd (eK V ai) (by decide)
theorem bz.low {w:x5} {g B N:Nat} {H:av} {s:aA} (h:bz w g B H N (some s)):bz w g B H 100000 (some s):=by
 obtain⟨ad,w0,E,I,gs,sv,L,J,O,U,bad,V,big,W,told,h1,X,Y,Z,aa,ab,ac⟩:=h;exact⟨o7 _,w0,E,I,gs,sv,L,J,O,U,bad,V,big,W,told,h1,X,Y,Z,aa,ab,ac⟩
theorem bz.up {w:x5} {g B N M:Nat} {H:av} {so:Option aA} (h:bz w g B H N so) (ad:N≤M):bz w g B H M so:=by
 obtain⟨ae,w0,I,J,gs,sv,L,O,U,V,bad,W,big,X,told,h1,Y,Z,aa,ab,ac,E⟩:=h;refine⟨by omega,w0,I,J,gs,sv,L,O,U,V,bad,W,big,X,told,h1,Y,Z,aa,ab,ac,?_⟩;cases so with
 |none=>exact⟨E.1,by have:=E.2;omega⟩
 |some s=>exact E
def i9 {α:Type} (f:List α→aA→Option (α×aA)) (cnt i:Nat) (E:Option aA) (A:List α) (so:Option aA):Prop:=E.bind (ck f cnt [])=(match so with
 |none=>none
 |some s=>ck f (cnt-i) A s)
theorem i9.step {α:Type} {f:List α→aA→Option (α×aA)} {cnt i:Nat} {I:Option aA} {A:List α} {s:aA} {a:α} {J:Option aA} (h:i9 f cnt i I A (some s)) (hi:i<cnt) (h1:J=(f A s).map (·.2)) (O:∀ q,f A s=some q→a=q.1):i9 f cnt (i+1) I (A++[a]) J:=by
 unfold i9 at*;rw[h,show cnt-i=(cnt-(i+1))+1 by omega];simp only;cases E:f A s with
 |none=>rw[nb E,h1,E];rfl
 |some q=>
  obtain⟨a',s'⟩:=q;have:=O _ E;subst this;rw[rl E,h1,E];rfl
theorem FH {s0:aA} {t acc:List Int} {n most V k:Int} {ag:List ca} {Y Z aa ab ah so6 I:Option aA} (h1:Y=((de s0).map (·.2)).map (aY (decide (64<t.length)))) (aw:∀ q,de s0=some q→t=q.1)
  (W:Z=((aU 1 ap Y).map (·.2)).map (aY (decide (64<n)))) (ao:∀ q,aU 1 ap Y=some q→n=q.1) (O:aa=(aU 1 ap Z).map (·.2)) (hm:∀ q,aU 1 ap Z=some q→most=q.1)
  (J:ab=((aU 0 ap aa).map (·.2)).map (aY (decide (256<V)))) (aq:∀ q,aU 0 ap aa=some q→V=q.1) (E:ah=((aU 1 ap ab).map (·.2)).map (aY (decide (2147483648<k)))) (au:∀ q,aU 1 ap ab=some q→k=q.1)
  (X:ah.bind (ck (eO most) n.toNat [])=so6.map fun s=>(acc,s)) (U:so6.bind (ck (fun _ s=>cC acc s) V.toNat [])=I.map fun s=>(ag,s)):fP s0=I.map fun s=>(⟨t,k,acc,ag⟩,s):=by
 unfold fP;cases ai:de s0 with
 |none=>
  rw[ai] at h1;subst h1;subst W;subst O;subst J;subst E;have:so6=none:=by cases so6 with|none=>rfl|some s=>cases X
  subst this;cases I with|none=>rfl|some s=>cases U
 |some ax=>
 obtain⟨aI,ac⟩:=ax;have:=aw _ ai;subst this;rw[ai] at h1;have h1:Y=some (aY (decide (64<t.length)) ac):=h1;subst h1;simp only;have ay:aU 1 ap (some (aY (decide (64<t.length)) ac))=a7 1 ap (aY (decide (64<t.length)) ac):=rfl;rw[ay] at W ao;cases aj:a7 1 ap (aY (decide (64<t.length)) ac) with
 |none=>
  rw[aj] at W;subst W;subst O;subst J;subst E;have:so6=none:=by cases so6 with|none=>rfl|some s=>cases X
  subst this;cases I with|none=>rfl|some s=>cases U
 |some az=>
 obtain⟨aJ,ad⟩:=az;have:=ao _ aj;subst this;rw[aj] at W;have W:Z=some (aY (decide (64<n)) ad):=W;subst W;simp only;have aB:aU 1 ap (some (aY (decide (64<n)) ad))=a7 1 ap (aY (decide (64<n)) ad):=rfl;rw[aB] at O hm;cases ak:a7 1 ap (aY (decide (64<n)) ad) with
 |none=>
  rw[ak] at O;subst O;subst J;subst E;have:so6=none:=by cases so6 with|none=>rfl|some s=>cases X
  subst this;cases I with|none=>rfl|some s=>cases U
 |some aC=>
 obtain⟨aK,ae⟩:=aC;have:=hm _ ak;subst this;rw[ak] at O;have O:aa=some ae:=O;subst O;simp only;have aD:aU 0 ap (some ae)=a7 0 ap ae:=rfl;rw[aD] at J aq;cases al:a7 0 ap ae with
 |none=>
  rw[al] at J;subst J;subst E;have:so6=none:=by cases so6 with|none=>rfl|some s=>cases X
  subst this;cases I with|none=>rfl|some s=>cases U
 |some aE=>
 obtain⟨aL,af⟩:=aE;have:=aq _ al;subst this;rw[al] at J;have J:ab=some (aY (decide (256<V)) af):=J;subst J;simp only;have aF:aU 1 ap (some (aY (decide (256<V)) af))=a7 1 ap (aY (decide (256<V)) af):=rfl;rw[aF] at E au;cases am:a7 1 ap (aY (decide (256<V)) af) with
 |none=>
  rw[am] at E;subst E;have:so6=none:=by cases so6 with|none=>rfl|some s=>cases X
  subst this;cases I with|none=>rfl|some s=>cases U
 |some aG=>
 obtain⟨aM,av⟩:=aG;have:=au _ am;subst this;rw[am] at E;have E:ah=some (aY (decide (2147483648<k)) av):=E;subst E;simp only;have X:ck (eO most) n.toNat [] (aY (decide (2147483648<k)) av)=so6.map fun s=>(acc,s):=X;rw[X];cases so6 with
 |none=>cases I with|none=>rfl|some s=>cases U
 |some aH=>
  simp only[b6];have U:ck (fun _ s=>cC acc s) V.toNat [] aH=I.map fun s=>(ag,s):=U;rw[U];cases I <;> rfl
def ns (w:x5) (I:Nat) (J:x4) (E:List ca):Prop:=∃ L,aW dU 4 aF w I J L∧E.length=L.length∧ ∀ (i:Nat) h x,L[i]? =some h→E[i]? =some x→fi w h x
def lN (w:x5) (I:Nat) (f:bS):Prop:=∃ aw J E O,ak w I b2 [bu f.name,.int .i64 f.k,aw,E]∧aq .i64 ae w J aw f.sizes∧ns w O E f.funs
theorem ns.ext {w w':x5} {E:Nat} {I:x4} {J:List ca} (h:ns w E I J) (O:Ext w w'):ns w' E I J:=by
 obtain⟨L,h1,U,V⟩:=h;exact⟨L,h1.ext O,U,fun i W x hi X=>(V i W x hi X).ext O⟩
theorem lN.ext {w w':x5} {I:Nat} {f:bS} (h:lN w I f) (E:Ext w w'):lN w' I f:=by
 obtain⟨aw,J,O,U,h1,V,W⟩:=h;exact⟨aw,J,O,U,h1.ext E,V.ext E,W.ext E⟩
def FI (w:x5) (E:List Int) (v:x4) (w':x5):Prop:=Ext w w'∧ ∃ n e:Int,(fd E=none→v= .tuple #[.pointer none,.int .i64 n,.int .i64 e])∧ ∀ f,fd E=some f→ ∃ I,v= .tuple #[.pointer (some ⟨I,0,none⟩),.int .i64 n,.int .i64 e]∧lN w' I f
set_option maxHeartbeats 16000000 in
theorem FJ {w0 w:x5} {g V bq B:Nat} {so6:Option aA} {t acc cq:List Int} {k aD bad:Int} {aw p:x4} {Q:x4→x5→Prop} (dw:aj (fun r=>w0.heap.size≤r) w0 w) (cr:ak w V b2 [bu t,.int .i64 k,aw,.slice none 0 0]) (dx:aq .i64 ae w bq aw acc)
  (h:bz w g B br 100000 so6) (dy:∀ s,so6=some s→hM s∧s.toks.length≤100000∧(∀ z∈acc,1≤z∧z≤ap)∧acc.length≤100001) (fr:w0.heap.size≤g) (fs:w0.heap.size≤V) (dz:aH .u8 w0 p cq) (ft:0≤aD∧aD≤4611686018427387904)
  (bO:∀ v w' ac bQ,Ext w0 w'→so6.bind (ck (fun _ s=>cC acc s) aD.toNat [])=bQ.map (fun s=>(ac,s))→
   (∀ s,bQ=some s→s.toks=[]∧¬0≤bad∧s.big=false→v= .tuple #[.pointer (some ⟨V,0,none⟩),.int .i64 (cq.length:Int),.int .i64 0]∧lN w' V ⟨t,k,acc,ac⟩)→
   ((∀ s,bQ=some s→¬(s.toks=[]∧¬0≤bad∧s.big=false))→ ∃ n e:Int,v= .tuple #[.pointer none,.int .i64 n,.int .i64 e])→Q v w'):
  bc (.int .i64 0) w fun ct X dA=>
   aB (α:=x4→x5→Prop) (fun(dB:x4) (ao:x5)=>
    Split dB (aQ ao fun Z=>
   I y0 (am (.pointer (some ⟨V,0,none⟩))) Z fun be=>
   I y0 (x2 b2 be 3) Z fun bf=>
   I y0 (x1 bU bf) Z fun bR=>
   I y0 (am (.pointer (some ⟨V,0,none⟩))) Z fun dC=>
   I y0 (x2 b2 dC 2) Z fun dD=>
   I y0 (x1 af dD) Z fun dE=>
   O y0 mi [(.pointer (some ⟨g,0,none⟩)),dE] Z fun dG aU=>
    (Ext Z aU∨al y0 (x1 bU bf) bR aU∧al y0 (x2 b2 be 3) bf aU∧al y0 (am (.pointer (some ⟨V,0,none⟩))) be aU∧True)∧
   aa y0 (u9 bU 1 #[(0,dG)]) aU fun dH aE=>
    (Ext Z aE∨al y0 (x1 bU bf) bR aE∧al y0 (x2 b2 be 3) bf aE∧al y0 (am (.pointer (some ⟨V,0,none⟩))) be aE∧True)∧
    aa y0 (r9 #[bU,bU] bU #[bR,dH]) aE fun dK bt=>
     I y0 (am (.pointer (some ⟨V,0,none⟩))) bt fun dL=>
     I y0 (x2 b2 dL 3) bt fun dM=>
     aa y0 (x8 bU dM dK) bt fun(_:Unit) bg=>
     I y0 (U .add ae false true ct (.int .i64 1)) bg fun dN=>
   dA dN bg)
     (aB (α:=x5→Prop) (fun(aC:x5)=>
   aB (α:=x5→Prop) (fun(Y:x5)=>
    I y0 (am (.pointer (some ⟨g,0,none⟩))) Y fun dO=>
    I y0 (x2 aN dO 3) Y fun dP=>
    I y0 (x1 J dP) Y fun dQ=>
    I y0 (U .neq J false true dQ (.int .i64 0)) Y fun dR=>
    Split dR (aQ Y fun aM=>
     I y0 (am (.pointer (some ⟨g,0,none⟩))) aM fun dS=>
     I y0 (x2 aN dS 4) aM fun dT=>
     I y0 (x1 J dT) aM fun dV=>
     I y0 (am (.pointer (some ⟨g,0,none⟩))) aM fun dW=>
     I y0 (x2 aN dW 3) aM fun dX=>
     I y0 (x1 J dX) aM fun dY=>
     Q (.tuple #[(.pointer none),dV,dY]) aM)
     (I y0 (am (.pointer (some ⟨g,0,none⟩))) Y fun dZ=>
    I y0 (x2 aN dZ 5) Y fun ea=>
    I y0 (x1 J ea) Y fun eb=>
    I y0 (U .neq J false true eb (.int .i64 0)) Y fun ec=>
    Split ec (aQ Y fun aP=>
     I y0 (am (.pointer (some ⟨g,0,none⟩))) aP fun ed=>
     I y0 (x2 aN ed 6) aP fun ee=>
     I y0 (x1 J ee) aP fun ef=>
     I y0 (am (.pointer (some ⟨g,0,none⟩))) aP fun eg=>
     I y0 (x2 aN eg 5) aP fun eh=>
     I y0 (x1 J eh) aP fun ei=>
     Q (.tuple #[(.pointer none),ef,ei]) aP)
     (I y0 (u6 #[aV] J #[p]) Y fun ej=>
    Q (.tuple #[(.pointer (some ⟨V,0,none⟩)),ej,(.int .i64 0)]) Y))) fun cu=>
   aB (α:=x4→x5→Prop) (fun(ek:x4) (bw:x5)=>
    Split ek (O y0 fy [(.pointer (some ⟨g,0,none⟩)),(.int .i64 11),(.int .i64 bad)] bw fun fv cw=>
     cu cw)
     (cu bw)) fun cz=>
   I y0 (am (.pointer (some ⟨g,0,none⟩))) aC fun em=>
   I y0 (x2 aN em 3) aC fun en=>
   I y0 (x1 J en) aC fun eo=>
   I y0 (U .eql J false true eo (.int .i64 0)) aC fun ep=>
   Split ep (I y0 (U .geq J false true (.int .i64 bad) (.int .i64 0)) aC fun er=>
   cz er aC)
    (cz (.bool false) aC)) fun cB=>
  aB (α:=x4→x5→Prop) (fun(es:x4) (aG:x5)=>
   Split es (I y0 (am (.pointer (some ⟨g,0,none⟩))) aG fun et=>
    I y0 (x2 aN et 0) aG fun eu=>
    I y0 (x1 cA eu) aG fun ev=>
    I y0 (x7 cA ev (.int .i64 0)) aG fun ew=>
    I y0 (x2 bo ew 1) aG fun ey=>
    I y0 (x1 J ey) aG fun ez=>
    O y0 fy [(.pointer (some ⟨g,0,none⟩)),(.int .i64 4),ez] aG fun fw bS=>
    cB bS)
    (cB aG)) fun cD=>
  I y0 (am (.pointer (some ⟨g,0,none⟩))) ao fun eA=>
  I y0 (x2 aN eA 3) ao fun eB=>
  I y0 (x1 J eB) ao fun eC=>
  I y0 (U .eql J false true eC (.int .i64 0)) ao fun eD=>
  Split eD (I y0 (am (.pointer (some ⟨g,0,none⟩))) ao fun eE=>
  I y0 (x2 aN eE 0) ao fun eF=>
  I y0 (x1 cA eF) ao fun eG=>
  I y0 (u6 #[cA] J #[eG]) ao fun eH=>
  I y0 (U .gtr J false true eH (.int .i64 0)) ao fun eI=>
  cD eI ao)
   (cD (.bool false) ao))) fun cE=>
   I y0 (U .lss ae false false ct (.int .i64 aD)) X fun eJ=>
   Split eJ (I y0 (am (.pointer (some ⟨g,0,none⟩))) X fun eL=>
   I y0 (x2 aN eL 3) X fun eM=>
   I y0 (x1 J eM) X fun eN=>
   I y0 (U .eql J false true eN (.int .i64 0)) X fun eO=>
   cE eO X)
    (cE (.bool false) X):=by
 have cF:V≠g:=fun he=>by
  obtain⟨aX,aR,aS,bad,aY,big,a1,told,sv,W,_⟩:=fW h;subst he;exact absurd (eK W cr) (by decide)
 refine⟨fun bT X=>∃ i:Nat,bT= .int .i64 (i:Int)∧i≤aD.toNat∧aj (fun r=>w0.heap.size≤r) w0 X∧ ∃ ax bh ac so,∃ H:av,ak X V b2 [bu t,.int .i64 k,aw,ax]∧aq .i64 ae X bq aw acc∧ns X bh ax ac∧(∀ r,leadsTo ax r→w0.heap.size≤r∧¬H r)∧¬H V∧(∀ r,leads aw r→¬H r)∧(∀ r,H r→w0.heap.size≤r)∧bz X g X.heap.size H 100001 so∧i9 (fun _ s=>cC acc s) aD.toNat i so6 ac so∧
   ∀ s,so=some s→hM s∧ac.length+s.toks.length≤100000∧(∀ z∈acc,1≤z∧z≤ap)∧acc.length≤100001,fun bT _=>aD.toNat-(bM bT).toNat,
  ⟨0,rfl,Z9 _,dw,_,0,[],so6,br,cr,dx,⟨[],aW.nil _ _ _ _ _,rfl,fun i h x hi=>by simp at hi⟩,fun r E=>(dI E).elim,id,fun r _ h=>h,fun r h=>h.elim,h.base.up (by omega),?_,fun s ay=>?_⟩,?_⟩
 ·unfold i9;cases so6 <;> rfl
 ·obtain⟨eP,eQ,a3,a4⟩:=dy s ay;exact⟨eP,by simpa using eQ,a3,a4⟩
 rintro _ X ⟨i,rfl,hi,bA,ax,bh,ac,so,H,cG,cH,cI,bi,bW,eR,cK,aL,bY,eS⟩;refine aZ (fun v ao=>X=ao∧((v= .bool true∧i<aD.toNat∧ ∃ s,so=some s)∨(v= .bool false∧(so=none∨i=aD.toNat)))) ?_ ?_
 rotate_left
 ·intro fx bZ;rw[au,ag];refine⟨fun cL=>?_,fun fz=>bZ _ _ ⟨rfl,.inr ⟨rfl,.inr (by omega)⟩⟩⟩;rw[i7 aL];cases so with
  |none=>exact bZ _ _ ⟨rfl,.inr ⟨rfl,.inl rfl⟩⟩
  |some s=>exact bZ _ _ ⟨rfl,.inl ⟨rfl,by omega,s,rfl⟩⟩
 rintro _ _ ⟨rfl,⟨rfl,cL,s,rfl⟩|⟨rfl,eT⟩⟩
 ·
  rw[bP];intro Z a2 _ _;obtain⟨cM,fA,cN,cO⟩:=eS s rfl;have bj:=cG.ext a2;obtain⟨eU,cP,bk,cQ⟩:=(aL.ext a2).low.shrink;have b1:=cH.ext a2;have eV:=cI.ext a2;rw[az,ah b2.p rfl,ai (by kernel_rfl) (bj.cell (o:=0+3) rfl),az,ah b2.p rfl,ai (by kernel_rfl) (bj.cell (o:=0+2) rfl)];refine (FE cP b1 cN cO (fun r E=>by obtain⟨c,W⟩:=cQ r E;exact W.lt) cM).mono ?_;rintro _ aU _ ⟨b3,x,cR,a6,rfl,cS,eW,eX,fB,cT,eY⟩;have cU:∃ c,ak Z g aN c:=by obtain⟨aX,aR,aS,bad,aY,big,a1,told,sv,W,_⟩:=fW cP;exact⟨_,W⟩
  have cW:∀ r,(r=g∨eU r)→fu Z r∨Z.heap.size≤r:=fun r E=>by
   rcases E with rfl|E
   ·obtain⟨c,W⟩:=cU;exact .inl ⟨_,c,W,by decide,by decide⟩
   ·obtain⟨c,W⟩:=cQ r E;exact .inl ⟨_,c,W,by decide,by decide⟩
  have b4:=bj.ad a6 fun E=>E.elim (fun he=>cF he) fun E=>bW (bk _ E);have st:∀ {w':x5},ak w' V b2 [bu t,.int .i64 k,aw,ax]→al y0 (x1 bU (.pointer (some ⟨V,0+3,none⟩))) ax w'∧al y0 (x2 b2 (.pointer (some ⟨V,0,none⟩)) 3) (.pointer (some ⟨V,0+3,none⟩)) w'∧al y0 (am (.pointer (some ⟨V,0,none⟩))) (.pointer (some ⟨V,0,none⟩)) w'∧True:=fun W=>
   ⟨vJ (by kernel_rfl) (W.cell (o:=0+3) rfl),lA (by rw[ah b2.p rfl]),lA (by rw[az]),trivial⟩
  refine⟨.inr (st b4),?_⟩;refine ff (f:=dU) (a:=b3) bU.u aF.i (by omega) rfl rfl fun fC fD aE fE aI eZ=>?_;refine⟨.inr (st (b4.ext aI)),?_⟩;obtain⟨L,a7,b5,b6⟩:=id eV;have e0:aW dU 4 aF aU bh ax L:=a7.ad a6 fun r E ay=>ay.elim (fun he=>by
   obtain⟨c,W⟩:=cU;subst he;exact cp a7 W (by decide) E) fun ay=>(bi r E).2 (bk r ay)
  have b7:=e0.ext aI;refine fo (f:=dU) (a:=b3) bU.u aF.i rfl b7 (by simpa using eZ.sl) (cS.ext aI).one (by omega) (by omega) fun cX e1 bt bB e2 cY=>?_;have b8:=b4.ext aI;have cZ:=b8.ad cY fun he=>cp b7 b8 (by decide) he;rw[az,ah b2.p rfl];refine bE (g:=V) (o:=3) bU.i (cJ bB.sl).1 (cJ bB.sl).2 cZ (by simp) fun bg c0 fF b9=>?_;have b9:ak bg V b2 [bu t,.int .i64 k,aw,cX]:=b9;have fG:i≤4611686018427387904:=by omega
  rw[aK,wrap_i64 (by omega) (by omega)];have a8:aj (fun r=>leadsTo ax r∨r=V) aE bg:=(cY.mono fun r _ h=>.inl h).trans (c0.mono fun r _ h=>.inr h);have c1:∀ r,(leadsTo ax r∨r=V)→ ∃ e c,ak aE r e c∧e≠ae∧e≠bx∧e≠bo∧e≠aN:=fun r E=>by
   rcases E with E|rfl
   ·obtain⟨rfl,c,W⟩:=dr b7 E;exact⟨_,c,W,by decide,by decide,by decide,by decide⟩
   ·exact⟨_,_,b8,by decide,by decide,by decide,by decide⟩
  have ca:∀ r,(leadsTo ax r∨r=V)→fu aE r∨aE.heap.size≤r:=fun r E=>by
   obtain⟨e,c,W,cb,cc,_⟩:=c1 r E;exact .inl ⟨e,c,W,cb,cc⟩
  have fH:=a2.size;have fI:=a6.size;have fJ:=aI.size;have fK:=a8.size;have c2:∀ r,leadsTo ax r→r<Z.heap.size:=fun r E=>by obtain⟨aR,aS⟩:=a7.leads E;omega
  have bl:∀ r,r<Z.heap.size→¬H r→¬cR r:=fun r E e3 cd=>(cT r cd).elim (fun h=>e3 (bk r h)) fun h=>by omega
  have e4:∀ r,leads aw r→r<Z.heap.size:=fun r E=>by obtain⟨aR,aS⟩:=bX b1 E;omega
  refine⟨⟨i+1,rfl,by omega,?_,cX,e1,ac++[x],_,cR,b9,dJ ((dJ b1 a6 cW).ext aI) a8 ca,⟨L++[b3],bB.ad c0 fun r E he=>?_,by rw[o5,o5,b5];rfl,fun j c3 e5 ba bm=>?_⟩,fun r E=>?_,bl V bj.lt bW,fun r E=>bl r (e4 r E) (eR r E),fun r E=>?_,?_,bY.step cL rfl fun q ab=>eX q ab,fun s' aJ=>?_⟩,by simp only[bM];omega⟩
  ·refine (((bA.trans (a2.ad _)).trans (a6.mono fun r _ h=>?_)).trans (aI.ad _)).trans (a8.mono fun r _ h=>?_)
   ·exact h.elim (fun h=>by omega) fun h=>cK r (bk r h)
   ·exact h.elim (fun h=>(bi r h).1) fun h=>by omega
  ·have he:r=V:=he;subst he;exact cp bB cZ (by decide) E
  ·by_cases e6:j<L.length
   ·rw[Z1 e6] at ba;rw[Z1 (by omega)] at bm;exact (((b6 j c3 e5 ba bm).da a6 cW).ext aI).da a8 ca
   ·rw[Z4 (by omega)] at ba;rw[Z4 (by omega)] at bm;have e7:j-L.length=0:=by have:=(x6.1 ba).1;simp at this;omega
    have e8:j-ac.length=0:=by omega
    rw[e7] at ba;rw[e8] at bm;cases ba;cases bm;exact (cS.ext aI).da a8 ca
  ·rcases e2 r E with h|h
   ·exact⟨(bi r h).1,bl r (c2 r h) (bi r h).2⟩
   ·exact⟨by have:=bA.size;omega,fun cd=>by have:=eY r cd;omega⟩
  ·rcases cT r E with h|h
   ·exact cK r (bk r h)
   ·have:=bA.size;omega
  ·refine (eW.ext aI).da a8 fun r E=>.inl ?_;obtain⟨e,c,W,cb,cc,e9,fa⟩:=c1 r E;refine⟨e,c,W,cb,cc,e9,fa,?_⟩;rcases E with E|rfl
   ·exact bl r (c2 r E) (bi r E).2
   ·exact bl _ bj.lt bW
  ·cases ce:cC acc s with
   |none=>rw[ce] at aJ;cases aJ
   |some q=>
    obtain⟨fL,c4⟩:=q;rw[ce] at aJ;cases aJ;obtain⟨fM,fb⟩:=FG ce;refine⟨fb cM,?_,cN,cO⟩;rw[o5];simp only[T0];omega
 ·
  rw[aT];have cg:so6.bind (ck (fun _ s=>cC acc s) aD.toNat [])=so.map fun s=>(ac,s):=by
   unfold i9 at bY;rw[bY];cases so with
   |none=>rfl
   |some s=>
    rcases eT with h|rfl
    ·cases h
    ·simp only[W3];rfl
  have row:∀ {w':x5},aj (fun r=>r=g) X w'→ns w' bh ax ac∧ak w' V b2 [bu t,.int .i64 k,aw,ax]∧aq .i64 ae w' bq aw acc:=fun bC=>by
   obtain⟨aX,aR,aS,bad,aY,big,a1,told,sv,W,_⟩:=fW aL;have c5:∀ r,r=g→fu X r∨X.heap.size≤r:=fun r E=>by subst E;exact .inl ⟨_,_,W,by decide,by decide⟩
   obtain⟨L,a7,b5,b6⟩:=id cI;refine⟨⟨L,a7.ad bC fun r E he=>?_,b5,fun i h x hi fc=>(b6 i h x hi fc).da bC c5⟩,cG.ad bC fun he=>cF he,dJ cH bC c5⟩;have he:r=g:=he;subst he;exact cp a7 W (by decide) E
  refine dF (fun aC=>aj (fun r=>r=g) X aC∧bz aC g X.heap.size H 100001 (so.bind fun s=>if s.toks=[] then some s else none)) ?_ ?_
  rotate_left
  ·intro fN c6;refine aZ (fun v aG=>X=aG∧ ∃ b:Bool,v= .bool b∧(b=true→ ∃ s,so=some s∧s.toks≠[])∧(b=false→ ∀ s,so=some s→s.toks=[])) ?_ ?_
   ·rintro _ _ ⟨rfl,b,rfl,ch,ci⟩;cases b with
    |true=>
     obtain⟨s,rfl,bD⟩:=ch rfl;rw[bP];obtain⟨c7,c8,aX,bn,gs,sv,L,c9,aR,aS,cj,aY,big,a1,told,db,bF,bG,bb,bH,dc,dd,de,bI,df,dg,bJ,dh,di,dj⟩:=id aL;obtain⟨⟨cl,fd⟩,_⟩:=bH.g bF bG;obtain⟨x,fO,rfl⟩:∃ x l,bn=x::l:=by
      cases bn with
      |nil=>exact absurd bJ.symm (by simpa using bD)
      |cons x l=>exact⟨x,l,rfl⟩
     rw[az,ah aN.p rfl,ai (by kernel_rfl) (bb.cell (o:=0+0) rfl)];refine yP cl fun b o fe=>?_;rw[ah bo.p rfl,ai (by kernel_rfl) (fe 1 _ rfl)];refine (lM aL (by omega)).mono ?_;rintro _ bS _ ⟨fg,fh⟩;refine c6 _ ⟨fg,?_⟩;show bz bS g _ H 100001 (if s.toks=[] then some s else none);rw[if_neg bD];exact fh
    |false=>
     rw[aT];refine c6 _ ⟨aj.refl _ _,?_⟩;cases so with
     |none=>exact aL
     |some s=>
      show bz _ g _ H 100001 (if s.toks=[] then some s else none);rw[if_pos (ci rfl s rfl)];exact aL
   ·intro fP dk;rw[i7 aL];cases so with
    |none=>
     rw[Option.isSome_none,aT];exact dk _ _ ⟨rfl,false,rfl,(fun h=>by cases h),fun _ s ay=>by cases ay⟩
    |some s=>
     rw[Option.isSome_some,bP];obtain⟨c7,c8,aX,bn,gs,sv,L,c9,aR,aS,cj,aY,big,a1,told,db,bF,bG,bb,bH,dc,dd,de,bI,df,dg,bJ,dh,di,dj⟩:=id aL;obtain⟨⟨cl,fd⟩,_⟩:=bH.g bF bG;rw[az,ah aN.p rfl,ai (by kernel_rfl) (bb.cell (o:=0+0) rfl),yO cl,bV];have fQ:bn.length=s.toks.length:=by rw[←bJ,o4]
     refine dk _ _ ⟨rfl,_,rfl,fun h=>⟨s,rfl,fun bp=>?_⟩,fun h s' aJ=>?_⟩
     ·have:=of_decide_eq_true h;have c3:s.toks.length=0:=by rw[bp];rfl
      omega
     ·cases aJ;have:=of_decide_eq_false h;exact j9 (by omega)
  rintro aC ⟨dl,cm⟩;refine dF (fun Y=>aj (fun r=>r=g) X Y∧bz Y g X.heap.size H 100001 (so.bind fun s=>if s.toks=[]∧¬0≤bad then some s else none)) ?_ ?_
  rotate_left
  ·intro fR dm;refine aZ (fun v bw=>aC=bw∧ ∃ b:Bool,v= .bool b∧(b=true→(so.bind fun s=>if s.toks=[]∧¬0≤bad then some s else none)=none)∧(b=false→(so.bind fun s=>if s.toks=[]∧¬0≤bad then some s else none)=so.bind fun s=>if s.toks=[] then some s else none)) ?_ ?_
   ·rintro _ _ ⟨rfl,b,rfl,ch,ci⟩;cases b with
    |true=>
     rw[bP];refine (lM cm (by omega)).mono ?_;rintro _ cw _ ⟨fi,fj⟩;exact dm _ ⟨dl.trans fi,by rw[ch rfl];exact fj⟩
    |false=>
     rw[aT];exact dm _ ⟨dl,by rw[ci rfl];exact cm⟩
   ·intro fS dn;rw[i7 cm];cases ab:(so.bind fun s=>if s.toks=[] then some s else none) with
    |none=>
     rw[Option.isSome_none,aT];refine dn _ _ ⟨rfl,false,rfl,(fun h=>by cases h),fun _=>?_⟩;cases so with
     |none=>rfl
     |some s=>
      have ab:(if s.toks=[] then some s else none)=none:=ab;show (if s.toks=[]∧¬0≤bad then some s else none)=(if s.toks=[] then some s else none);rw[ab];split at ab
      ·cases ab
      ·rename_i bD;rw[if_neg (fun h=>bD h.1)]
    |some s=>
     rw[Option.isSome_some,bP,cV];refine dn _ _ ⟨rfl,_,rfl,fun h=>?_,fun h=>?_⟩
     ·have bp:=of_decide_eq_true h;cases so with
      |none=>rfl
      |some s=>exact if_neg fun h=>h.2 bp
     ·have bp:=of_decide_eq_false h;cases so with
      |none=>rfl
      |some s=>
       show (if s.toks=[]∧¬0≤bad then some s else none)=(if s.toks=[] then some s else none);by_cases ay:s.toks=[]
       ·rw[if_pos ay,if_pos ⟨ay,bp⟩]
       ·rw[if_neg ay,if_neg fun h=>ay h.1]
  rintro Y ⟨dp,bK⟩;obtain⟨fk,fl,fm⟩:=row dp;have fp:aj (fun r=>w0.heap.size≤r) w0 Y:=bA.trans (dp.mono fun r _ h=>by have h:r=g:=h;omega);have bL:Ext w0 Y:=fp.ext fun r E he=>by omega
  rw[qd bK];cases ab:(so.bind fun s=>if s.toks=[]∧¬0≤bad then some s else none) with
  |none=>
   rw[Option.isSome_none,X0,bP];intro aM dq _ _;obtain⟨aX,aR,aS,cj,aY,big,a1,told,sv,W,_⟩:=fW (bK.ext dq);rw[az,ah aN.p rfl,ai (by kernel_rfl) (W.cell (o:=0+4) rfl),az,ah aN.p rfl,ai (by kernel_rfl) (W.cell (o:=0+3) rfl)];refine bO _ _ ac so (bL.trans dq) cg (fun s ay bd=>?_) fun _=>⟨_,_,rfl⟩;subst ay;have ab:(if s.toks=[]∧¬0≤bad then some s else none)=none:=ab;rw[if_pos ⟨bd.1,bd.2.1⟩] at ab;cases ab
  |some s=>
   rw[ab] at bK;rw[Option.isSome_some,Y1,aT];obtain⟨s',rfl,aJ⟩:∃ s',so=some s'∧(if s'.toks=[]∧¬0≤bad then some s' else none)=some s:=by
    cases so with
    |none=>cases ab
    |some s'=>exact⟨s',rfl,ab⟩
   split at aJ
   ·rename_i ds;cases aJ;obtain⟨c7,c8,aX,bn,gs,sv,L,c9,aR,aS,cj,aY,big,a1,told,db,bF,bG,bb,bH,dc,dd,de,bI,df,dg,bJ,dh,di,dj⟩:=id bK;rw[az,ah aN.p rfl,ai (by kernel_rfl) (bb.cell (o:=0+5) rfl),bN,ag];refine⟨fun cn=>?_,fun cn=>?_⟩
    ·intro aP dt _ _;have du:=bb.ext dt;rw[az,ah aN.p rfl,ai (by kernel_rfl) (du.cell (o:=0+6) rfl),az,ah aN.p rfl,ai (by kernel_rfl) (du.cell (o:=0+5) rfl)];refine bO _ _ ac _ (bL.trans dt) cg (fun c4 dv bd=>?_) fun _=>⟨_,_,rfl⟩;cases dv;rw[bI.1 cn] at bd;cases bd.2.2
    ·rw[aO aV.u (dz.ext bL)];refine bO _ _ ac _ bL cg (fun c4 dv bd=>⟨rfl,aw,bq,ax,bh,fl,fm,fk⟩) fun fq=>?_;refine absurd ⟨ds.1,ds.2,?_⟩ (fq s rfl);cases W:s.big with
     |false=>rfl
     |true=>exact absurd (bI.2 W) cn
   ·cases aJ
def Zero (so:Option aA):Prop:=∀ s,so=some s→s.told=0∧s.toks.length≤100000
theorem Zero.big {so:Option aA} (h:Zero so) (b:Bool):Zero (so.map (aY b)):=fun s E=>by
 cases so with
 |none=>cases E
 |some s0=>cases E;exact h s0 rfl
theorem zero_num {lo hi:Int} {so:Option aA} (h:Zero so):Zero ((aU lo hi so).map (·.2)):=fun s E=>by
 cases so with
 |none=>cases E
 |some s0=>
  have E:X9 (fun x=>x.2) (a7 lo hi s0)=some s:=E;cases I:a7 lo hi s0 with
  |none=>rw[I] at E;cases E
  |some q=>
   obtain⟨n,O⟩:=q;rw[I] at E;cases E;have J:=c3 I;have:=J.1;obtain⟨h1,U⟩:=h s0 rfl;exact⟨J.eqs.1.trans h1,by show O.toks.length≤100000;omega⟩
theorem FK {so:Option aA} (h:Zero so):Zero ((hl so).map (·.2)):=fun s E=>by
 cases so with
 |none=>cases E
 |some s0=>
  have E:X9 (fun x=>x.2) (de s0)=some s:=E;cases I:de s0 with
  |none=>rw[I] at E;cases E
  |some q=>
   obtain⟨n,J⟩:=q;rw[I] at E;cases E;obtain⟨O,U⟩:=re I;obtain⟨h1,V⟩:=h s0 rfl;have:s0.toks.length=J.toks.length+1:=by rw[O];rfl
   exact⟨by show J.told=0;rw[U];exact h1,by show J.toks.length≤100000;omega⟩
theorem FL {E:List Int} {so:Option aA} {f:bS} (h:fP ⟨(lex E).1,0,false,[]⟩=so.map fun s=>(f,s)) (I:¬65536<E.length):fd E=so.bind fun s=>if s.toks=[]∧(lex E).2=true∧s.big=false then some f else none:=by
 unfold fd;rw[if_neg I,h];cases so <;> rfl
theorem FM {E:List Int} (I:E.length≤60000):(∀ t∈(lex E).1,Bytes t∧t.length≤65536)∧(lex E).1.length≤60000:=by
 refine⟨fun t J=>?_,Y3 (ps E.length E (o7 _)) I⟩;obtain⟨_,O,V⟩:=qZ E.length E (o7 _) t J;refine⟨fun b U=>?_,by omega⟩;have:=of_decide_eq_true (O b U);omega
set_option maxHeartbeats 16000000 in
theorem yZ {p:x4} {V:List Int} {w:x5} (aR:aH .u8 w p V) (cQ:Bytes V) (cR:V.length≤60000):O y0 nT [p] w (FI w V):=by
 obtain⟨cS,em⟩:=FM cR;apply nT.enter;rw[aO aV.u aR,bV,ag];refine⟨fun h=>by omega,fun _=>?_⟩;refine (Fw aR cQ (by omega)).mono ?_;rintro _ en _ ⟨bd,aD,bG,bad,rfl,bH,bI,cT,eo,bJ⟩;rw[aC (v:=aD) rfl,aC (v:=.int .i64 bad) rfl,aO aV.u (aR.ext bd),cW (cs:=#[aD,.int .i64 (V.length:Int),.int .i64 4,.int .i64 0,.int .i64 0,.int .i64 0,.int .i64 0,.int .i64 0,.slice none 0 0]) (by obtain⟨_,_,_,_,_,rfl,_⟩:=bH;kernel_rfl)];refine ce fun g bK ep aS aE=>?_;have aE:ak bK g aN (e6 aD (V.length:Int) 4 0 0 0 0 0 (.slice none 0 0)):=aE;have er:=bd.size;have es:=aS.size;have et:=aE.lt;refine dF (fun W=>Ext w W∧aj (fun r=>r=g) bK W∧ ∃ aF aG:Int,aG≠0∧ak W g aN (e6 aD aF aG 0 0 0 0 0 (.slice none 0 0))) ?_ ?_
 rotate_left
 ·intro cU ay;have bL:=bd.trans aS;rw[cV,ag];refine⟨fun _=>?_,fun _=>ay _ ⟨bL,aj.refl _ _,_,_,by omega,aE⟩⟩;rw[az,ah aN.p rfl];refine bE (g:=g) (o:=1) J.i rfl rfl aE (by simp[e6]) fun eu cX ev cY=>?_;rw[az,ah aN.p rfl];refine bE (g:=g) (o:=2) J.i rfl rfl cY (by simp[e6]) fun ew cZ ey c0=>?_;have X:=cX.trans cZ;exact ay _ ⟨bL.then X fun r E he=>by have he:r=g:=he;omega,X,bad,11,by omega,c0⟩
 rintro W ⟨bN,be,aF,aG,c1,bQ⟩;have z3:=be.size;have c2:bz W g W.heap.size br 100000 (some ⟨(lex V).1,0,false,[]⟩):=by
  refine⟨o7 _,W,aD,bG,0,_,[],[],aF,aG,0,0,0,0,0,rfl,aj.refl _ _,⟨_,bQ⟩,bQ,⟨⟨?_,fun r E=>?_⟩,aW.nil _ _ _ _ _,rfl,fun i h x hi=>by simp at hi⟩,fun r E=>dI E,rfl,c1,by simp,fun _=>rfl,trivial,bI,cS,rfl,?_⟩
  ·refine (bH.ad (aS.ad fun _=>False) fun _ _ h=>h).ad be fun r E he=>?_;have he:r=g:=he;obtain⟨c,ac⟩:=bJ r E;have:=ac.lt;omega
  ·obtain⟨c,ac⟩:=bJ r E;exact⟨c,(ac.ext aS).ad be fun he=>by have he:r=g:=he;have:=ac.lt;omega⟩
  ·have:bG.length=(lex V).1.length:=by rw[←bI,o4]
   simp only[List.length_nil];omega
 have ez:∀ {ax:x5} {c4 N:Nat} {H:av} {so:Option aA},bz ax g c4 H N so→True:=fun _=>trivial;rw[cW (cs:=#[bu [],.int .i64 0,.slice none 0 0,.slice none 0 0]) (by kernel_rfl)];refine ce fun I c5 eA bf aX=>?_;have aX:ak c5 I b2 [bu [],.int .i64 0,.slice none 0 0,.slice none 0 0]:=aX;have eB:W.heap.size≤I:=by omega
 have eC:=aX.lt;have c6:I≠g:=by omega
 have Z:∀ {ax aI:x5} {c:List x4},ak ax I b2 c→aj (fun r=>r=g) ax aI→ak aI I b2 c:=fun ac X=>ac.ad X fun he=>c6 he;refine (yQ (c2.ext bf)).mono ?_;rintro _ c7 _ ⟨⟨bg,c8⟩,t,bR,rfl,eD,eE,c9⟩;refine bO bo.i fun bh eF eG da db=>?_;refine b4 (vs:=[bu t,.int .i64 bR]) bo.i rfl rfl (by intro v bS;simp at bS;rcases bS with rfl|rfl <;> rfl) db fun dc dd eH bT=>?_;have a2:Ext c7 dc:=da.then dd fun r E he=>by have he:r=bh:=he;omega
 have de:=(Z aX bg).ext a2;rw[ah bo.p rfl,ai (by kernel_rfl) (bT.cell (o:=0+0) rfl),az,ah b2.p rfl];refine bE (g:=I) (o:=0) a1.i rfl rfl de (by simp) fun bi bj eI bk=>?_;have bk:ak bi I b2 [bu t,.int .i64 0,.slice none 0 0,.slice none 0 0]:=bk;have df:=(c8.ext a2).new bj fun r E=>by have E:r=I:=E;omega
 have z4:=bf.size;have z5:=bg.size;have eJ:=a2.size;have bU:ak bi bh bo [bu t,.int .i64 bR]:=bT.ad bj fun he=>by have he:bh=I:=he;omega
 rw[ah bo.p rfl,ai (by kernel_rfl) (bU.cell (o:=0+0) rfl),lr a1.u,bV,ah bo.p rfl,ai (by kernel_rfl) (bU.cell (o:=0+1) rfl)];have dg:aj (fun r=>w.heap.size≤r) w bi:=((((bN.ad _).trans (bf.ad _)).trans (bg.mono fun r _ h=>by have h:r=g:=h;omega)).trans (a2.ad _)).trans (bj.mono fun r _ h=>by have h:r=I:=h;omega);have up:∀ {ax aI:x5},aj (fun r=>w.heap.size≤r) w ax→aj (fun r=>r=g) ax aI→aj (fun r=>w.heap.size≤r) w aI:=fun h k=>h.trans (k.mono fun r _ h=>by have h:r=g:=h;omega);refine (ky df).mono ?_;rintro _ eK _ ⟨bX,aJ⟩;have dh:=up dg bX;have di:=Z bk bX;generalize bl:(((hl (some ⟨(lex V).1,0,false,[]⟩)).map (·.2)).map (aY (decide ((64:Int)<(t.length:Int)))))=bm at aJ;refine (ip aJ).mono ?_;rintro _ eL _ ⟨⟨bY,dj⟩,n,dk,rfl,bZ,dl⟩;rw[aC (v:=.int .i64 n) rfl,aC (v:=.int .i64 dk) rfl,bV];refine (ky dj).mono ?_;rintro _ eM _ ⟨b1,b3⟩;have dm:=up (up dh bY) b1;have dn:=Z (Z di bY) b1;generalize b5:((aU 1 4611686018427387904 bm).map (·.2)).map (aY (decide (64<n)))=bn at b3;refine (ip b3).mono ?_;rintro _ eN _ ⟨⟨b6,b7⟩,most,dp,rfl,hm,dq⟩;rw[aC (v:=.int .i64 most) rfl,aC (v:=.int .i64 dp) rfl];generalize b8:(aU 1 4611686018427387904 bn).map (·.2)=bq at b7;refine (ip b7).mono ?_;rintro _ eP _ ⟨⟨b9,dr⟩,a6,ds,rfl,ca,dt⟩;rw[aC (v:=.int .i64 a6) rfl,aC (v:=.int .i64 ds) rfl,bV];refine (ky dr).mono ?_;rintro _ eQ _ ⟨cb,cc⟩;generalize cd:((aU 0 4611686018427387904 bq).map (·.2)).map (aY (decide (256<a6)))=cg at cc;refine (ip cc).mono ?_;rintro _ eR _ ⟨⟨ch,du⟩,k,dv,rfl,dw,eS⟩;rw[aC (v:=.int .i64 k) rfl,aC (v:=.int .i64 dv) rfl,bV];refine (ky du).mono ?_;rintro _ eT _ ⟨ci,cj⟩;generalize cl:((aU 1 4611686018427387904 cg).map (·.2)).map (aY (decide (2147483648<k)))=aL at cj;have dx:=up (up (up (up (up dm b6) b9) cb) ch) ci;have dy:=Z (Z (Z (Z (Z dn b6) b9) cb) ch) ci;rw[az,ah b2.p rfl];refine bE (g:=I) (o:=1) ae.i rfl rfl dy (by simp) fun cm cn eU bt=>?_;have bt:ak cm I b2 [bu t,.int .i64 k,.slice none 0 0,.slice none 0 0]:=bt;have dz:=cj.new cn fun r E=>by have E:r=I:=E;omega
 have cp:aj (fun r=>w.heap.size≤r) w cm:=dx.trans (cn.mono fun r _ h=>by have h:r=I:=h;omega);have eV:0≤n∧n≤4611686018427387904:=by
  cases U:aU 1 4611686018427387904 bm with
  |none=>have:=dl U;omega
  |some q=>have aJ:=bZ q U;have:=kq (n:=q.1) (s':=q.2) U;omega
 have eW:0≤most∧most≤4611686018427387904:=by
  cases U:aU 1 4611686018427387904 bn with
  |none=>have:=dq U;omega
  |some q=>have aJ:=hm q U;have:=kq (n:=q.1) (s':=q.2) U;omega
 have dA:0≤a6∧a6≤4611686018427387904:=by
  cases U:aU 0 4611686018427387904 bq with
  |none=>have:=dt U;omega
  |some q=>have aJ:=ca q U;have:=kq (n:=q.1) (s':=q.2) U;omega
 have dB:Zero (some (⟨(lex V).1,0,false,[]⟩:aA)):=fun s al=>by cases al;exact⟨rfl,by simp only;omega⟩
 have dC:Zero bm:=by rw[←bl];exact (FK dB).big _
 have dD:Zero bn:=by rw[←b5];exact (zero_num dC).big _
 have dE:Zero bq:=by rw[←b8];exact zero_num dD
 have dG:Zero cg:=by rw[←cd];exact (zero_num dE).big _
 have cq:Zero aL:=by rw[←cl];exact (zero_num dG).big _
 have eX:=cp.size;refine⟨fun bw am=>∃ i:Nat,bw= .int .i64 (i:Int)∧i≤n.toNat∧aj (fun r=>w.heap.size≤r) w am∧ ∃ aw cr acc so,ak am I b2 [bu t,.int .i64 k,aw,.slice none 0 0]∧aq .i64 ae am cr aw acc∧(∀ r,leads aw r→W.heap.size≤r)∧bz am g W.heap.size br 100000 so∧i9 (eO most) n.toNat i aL acc so∧ ∀ s,so=some s→s.told=0∧acc.length+s.toks.length≤100000∧ ∀ z∈acc,1≤z∧z≤ap,fun bw _=>n.toNat-(bM bw).toNat,
  ⟨0,rfl,Z9 _,cp,_,0,[],aL,bt,aq.nil _ _ _ _,(fun r E=>by obtain⟨a,a8,c,aF,aG⟩:=E;cases aF),dz,?_,fun s al=>⟨(cq s al).1,by simpa using (cq s al).2,fun z dH=>by cases dH⟩⟩,?_⟩
 ·unfold i9;cases aL <;> rfl
 rintro _ am ⟨i,rfl,hi,bx,aw,cr,acc,so,ct,cu,cw,aM,bA,cz⟩;refine aZ (fun v dK=>am=dK∧((v= .bool true∧i<n.toNat∧ ∃ s,so=some s)∨(v= .bool false∧(so=none∨i=n.toNat)))) ?_ ?_
 rotate_left
 ·intro cU ay;rw[au,ag];refine⟨fun cA=>?_,fun eY=>ay _ _ ⟨rfl,.inr ⟨rfl,.inr (by omega)⟩⟩⟩;rw[i7 aM];cases so with
  |none=>exact ay _ _ ⟨rfl,.inr ⟨rfl,.inl rfl⟩⟩
  |some s=>exact ay _ _ ⟨rfl,.inl ⟨rfl,by omega,s,rfl⟩⟩
 rintro _ _ ⟨rfl,⟨rfl,cA,s,rfl⟩|⟨rfl,dL⟩⟩
 ·rw[bP];obtain⟨dM,eZ,dN⟩:=cz s rfl;refine (ip aM).mono ?_;rintro _ e0 _ ⟨⟨dO,dP⟩,z,dQ,rfl,bB,e1⟩;rw[aC (v:=.int .i64 z) rfl,aC (v:=.int .i64 dQ) rfl,bV];refine (ky dP).mono ?_;rintro _ e2 _ ⟨dR,dS⟩;have ba:=dO.trans dR;have cB:=Z ct ba;have dT:∀ r,r=g→fu am r∨am.heap.size≤r:=fun r E=>(iq aM r E).imp (fun⟨e,c,ac,dU,dV,_⟩=>⟨e,c,ac,dU,dV⟩) id;have cC:=dJ cu ba dT;rw[az,ah b2.p rfl,ai (by kernel_rfl) (cB.cell (o:=0+2) rfl)];refine dW af.u ae.i rfl fun a22 e3 dX e4 aB dY=>?_;refine gr af.u ae.i rfl (cC.ext aB) dY.ls (by simp;omega) (by simp;omega) fun cD dZ e5 bb ea cE=>?_;have cF:=cB.ext aB;have cG:=cF.ad cE fun he=>bW (cC.ext aB) cF (by decide) he rfl;rw[az,ah b2.p rfl];refine bE (g:=I) (o:=2) af.i bb.ls.cells.1 bb.ls.cells.2 cG (by simp) fun cH cI e7 bC=>?_;have bC:ak cH I b2 [bu t,.int .i64 k,cD,.slice none 0 0]:=bC;rw[aK,wrap_i64 (by omega) (by omega)];have cJ:aj (fun r=>leads aw r∨r=I) dX cH:=(cE.mono fun r _ h=>.inl h).trans (cI.mono fun r _ h=>.inr h);have cK:∀ r,(leads aw r∨r=I)→W.heap.size≤r:=fun r E=>E.elim (cw r) fun E=>by omega
  have e8:w.heap.size≤W.heap.size:=bN.size;have e9:=ba.size;have z22:=aB.size;have fa:=bx.size;have fb:=aM.lt;refine⟨⟨i+1,rfl,by omega,((up bx ba).trans (aB.ad _)).trans (cJ.mono fun r _ h=>by have:=cK r h;omega),cD,dZ,acc++[z],((aU 1 most (some s)).map (·.2)).map (aY (decide (32<z))),bC,bp bb cI fun r E he=>?_,fun r E=>?_,(dS.ext aB).new cJ cK,?_,fun s' aa=>?_⟩,by simp only[bM];omega⟩
  ·have he:r=I:=he;subst he;exact bW bb cG (by decide) E rfl
  ·rcases ea r E with h|h
   ·exact cw r h
   ·omega
  ·refine bA.step cA ?_ fun q U=>?_
   ·show (X9 _ (a7 1 most s)).map _=_;unfold eO;cases U:a7 1 most s with
    |none=>rfl
    |some q=>
     have:=bB q U;obtain⟨cL,bc⟩:=q;subst this;rfl
   ·unfold eO at U;cases ab:a7 1 most s with
    |none=>rw[ab] at U;cases U
    |some aP=>
     rw[ab] at U;have:=bB aP ab;obtain⟨cL,bc⟩:=aP;cases U;exact this
  ·cases ab:a7 1 most s with
   |none=>
    have aa:(X9 (fun x=>x.2) (a7 1 most s)).map (aY (decide (32<z)))=some s':=aa;rw[ab] at aa;cases aa
   |some aP=>
    have aa:(X9 (fun x=>x.2) (a7 1 most s)).map (aY (decide (32<z)))=some s':=aa;rw[ab] at aa;have eb:=bB aP ab;obtain⟨cL,bc⟩:=aP;cases aa;have cM:=c3 ab;have cN:=(fQ ab).1;have fc:=cM.1;refine⟨by show bc.told=0;rw[cM.eqs.1];exact dM,?_,fun y aQ=>?_⟩
    ·rw[o5];show acc.length+1+bc.toks.length≤100000;omega
    ·rcases n0.1 aQ with aQ|aQ
     ·exact dN y aQ
     ·rw[o9.1 aQ,eb];exact⟨cN.1,by unfold ap;have:=cN.2;simp only at*;omega⟩
 ·rw[aT];have ec:aL.bind (ck (eO most) n.toNat [])=so.map fun s=>(acc,s):=by
   unfold i9 at bA;rw[bA];cases so with
   |none=>rfl
   |some s=>
    rcases dL with h|rfl
    ·cases h
    ·simp only[W3];rfl
  refine FJ bx ct cu aM (fun s al=>?_) (by omega) (by omega) aR dA fun v w' ed ee bD ef eg cO=>?_
  ·obtain⟨eh,fe,a3⟩:=cz s al;exact⟨fun _=>by rw[eh];omega,by omega,a3,by omega⟩
  ·have ei:(decide ((64:Int)<(t.length:Int)))=decide (64<t.length):=by rw[X8,decide_eq_true_eq,decide_eq_true_eq];omega
   rw[ei] at bl;have ej:=FH (s0:=⟨(lex V).1,0,false,[]⟩) bl.symm (fun q U=>c9 q U) b5.symm bZ b8.symm hm cd.symm ca cl.symm dw ec ef;have ao:=FL ej (by omega);have cP:¬0≤bad↔(lex V).2=true:=by
    rw[cT];cases (lex V).2 <;> simp
   cases ee with
   |none=>
    obtain⟨a8,e,rfl⟩:=cO fun s al=>by cases al
    exact⟨bD,a8,e,fun _=>rfl,fun f Y=>by rw[ao] at Y;cases Y⟩
   |some s=>
    have ao:fd V=if s.toks=[]∧(lex V).2=true∧s.big=false then some ⟨t,k,acc,ed⟩ else none:=ao;by_cases X:s.toks=[]∧(lex V).2=true∧s.big=false
    ·rw[if_pos X] at ao;obtain⟨rfl,ek⟩:=eg s rfl ⟨X.1,cP.2 X.2.1,X.2.2⟩;exact⟨bD,_,_,(fun Y=>by rw[ao] at Y;cases Y),fun f Y=>⟨I,rfl,by rw[ao] at Y;cases Y;exact ek⟩⟩
    ·rw[if_neg X] at ao;obtain⟨a8,e,rfl⟩:=cO fun s' aa bF=>by
      cases aa;exact X ⟨bF.1,cP.1 bF.2.1,bF.2.2⟩
     exact⟨bD,a8,e,fun _=>rfl,fun f Y=>by rw[ao] at Y;cases Y⟩
theorem FN {a b:Int} {w:x5}:O y0 o1 [.int .i64 a,.int .i64 b] w fun v w'=>v= .int .i64 (min a b)∧Ext w w':=by
 apply o1.enter;rw[au,ag];exact⟨fun h=>⟨by congr 1;omega,Ext.refl _⟩,fun h=>⟨by congr 1;omega,Ext.refl _⟩⟩
set_option maxHeartbeats 1000000 in
theorem FO {w:x5} {E:gQ} {x:ca} {ae:x4} {t:List Int} {k:Int} (h:fi w E x) (av:(x.lines.map (·.1)).Nodup) (aw:aH .i64 w ae t):O y0 oS [.agg (dU E).toArray,ae,.int .i64 k] w fun v w'=>v= .int .i64 (hC x k t)∧Ext w w':=by
 obtain⟨⟨aV,ax⟩,⟨aW,ay⟩,az,aX,L,U,aA,af⟩:=id h;apply oS.enter;refine ce fun aB Z aY aa I=>?_;have I:ak Z aB aF (dU E):=by
  obtain⟨_,_,_,aC⟩:=c6 ax.ls;obtain⟨_,_,_,aD⟩:=c6 ay.ls;obtain⟨_,_,_,_,_,aE,_⟩:=U.sl;simp only[dU,aC,aD,aE] at I ⊢;exact I
 have aG:=U.ext aa;have aI:L.length=x.lines.length:=by rw[←af,o4]
 rw[ah aF.p rfl,ai (v:=.int .i64 E.o) (by kernel_rfl) (I.cell (o:=0+2) rfl),ah aF.p rfl,ai (v:=E.bK) (by kernel_rfl) (I.cell (o:=0+3) rfl),dZ cr.u aG,az];refine a8.range L.length (fun i V W=>Ext Z W∧ ∃ c:Int,V= .int .i64 c∧min c k=iY x k i t) U.le ⟨Ext.refl _,x.other,rfl,(xM x k t).symm⟩ ?_ ?_
 ·rintro i _ W aJ hi ⟨J,c,rfl,X⟩ aL;obtain⟨y,ab⟩:∃ y,L[i]? =some y:=⟨_,x3 hi⟩;obtain⟨a1,aj⟩:=aA y (u4 ab);have ac:=aa.trans J;have aM:x.lines[i]? =some (y.t,y.c):=by rw[←af,r8,ab];rfl
  have al:=xO (k:=k) av aM t;rw[au,ag];refine⟨fun _=>?_,fun h=>by omega⟩;refine aZ (fun V am=>Ext Z am∧ ∃ c:Int,V= .int .i64 c∧min c k=iY x k (i+1) t) ?_ ?_
  ·rintro V am aN;rw[aK];exact aL _ _ aN
  intro a2 ao;have ap:=U.ext ac;rw[cI rfl cr.u bx.i ap hi,bI bx.p bx.i rfl (ap.range ab)];refine bO bx.i fun aO a6 a7 aP aQ=>?_;refine b4 (vs:=lL y) bx.i rfl rfl (ui aj) aQ fun aR aS ba aq=>?_;have Y:Ext W aR:=aP.then aS fun r bb he=>by have he:r=aO:=he;omega
  rw[ah bx.p rfl,ai (by kernel_rfl) (aq.cell (o:=0+0) rfl)];refine (uh ((aj.ls.ext ac).ext Y) ((aw.ext ac).ext Y)).mono ?_;rintro _ bc _ ⟨rfl,ad⟩;rw[ag];refine⟨fun he=>?_,fun aT=>?_⟩
  ·rw[ah bx.p rfl,ai (by kernel_rfl) ((aq.ext ad).cell (o:=0+1) rfl)];refine ao _ _ ⟨(J.trans Y).trans ad,y.c,rfl,?_⟩;rw[al,if_pos he.symm]
  ·refine ao _ _ ⟨(J.trans Y).trans ad,c,rfl,?_⟩;rw[al,if_neg fun he=>aT he.symm,X]
 ·rintro _ W aJ ⟨J,c,rfl,X⟩;rw[aI,xN] at X;rw[au,ag];refine⟨fun h=>by omega,fun _=>?_⟩;refine FN.mono ?_;rintro _ bd _ ⟨rfl,aU⟩;exact⟨by rw[X],(aa.trans J).trans aU⟩
set_option maxHeartbeats 1000000 in
theorem FP {w:x5} {am:x4} {l:List Int} (h:aH .i64 w am l) (ap:l.Nodup) (aQ:l.length≤64):O y0 oR [am] w fun v w'=>Ext w w'∧ ∃ g,aq .i64 J w' g v (bd l)∧ ∀ r,leads v r→w.heap.size≤r:=by
 apply oR.enter;have av:∀ i,i≤64→(((X7 i).map fun(v:Nat)=>(v:Int)).filter fun v=>decide (v∈l)).length≤i:=fun i _=>by
  have:=List.length_filter_le (fun v=>decide (v∈l)) ((X7 i).map fun(v:Nat)=>(v:Int));simp at this;omega
 refine a8.range 64 (fun i E W=>Ext w W∧ ∃ g,aq .i64 J W g E (((X7 i).map fun(v:Nat)=>(v:Int)).filter fun v=>decide (v∈l))∧ ∀ r,leads E r→w.heap.size≤r) (by omega) ⟨Ext.refl _,0,aq.nil _ _ _ _,fun r X=>by obtain⟨a,n,c,aw,aR⟩:=X;cases aw⟩ ?_ ?_
 ·rintro i E W k hi ⟨Y,g,hm,ac⟩ ax;rw[au,ag];refine⟨fun _=>?_,fun h=>by omega⟩;rw[aO af.u (h.ext Y)];have ay:=av i (by omega);generalize az:(((X7 i).map fun(v:Nat)=>(v:Int)).filter fun v=>decide (v∈l))=A at hm ay;refine a8.range l.length (fun j E Z=>Ext w Z∧ ∃ g,aq .i64 J Z g E (A++(if (i:Int)∈l.take j then[(i:Int)] else[]))∧ ∀ r,leads E r→w.heap.size≤r) h.le ⟨Y,g,by simpa using hm,ac⟩ ?_ ?_
  ·rintro j aA Z aB aC ⟨U,ad,I,V⟩ aD;obtain⟨x,ah⟩:∃ x,l[j]? =some x:=⟨_,x3 aC⟩;rw[au,ag];refine⟨fun _=>?_,fun h=>by omega⟩;refine aZ (fun E aa=>Ext w aa∧ ∃ g,aq .i64 J aa g E (A++(if (i:Int)∈l.take (j+1) then[(i:Int)] else[]))∧ ∀ r,leads E r→w.heap.size≤r) ?_ ?_
   ·rintro aS aa aE;rw[aK];exact aD _ _ aE
   intro aT ao;have ai:(i:Int)∈l.take (j+1)↔(i:Int)∈l.take j∨(i:Int)=x:=by
    rw[o3,ah,j5,n0,o9]
   rw[bm af.u ae.i (by kernel_rfl) (h.ext U) ah,bQ,ag];refine⟨fun he=>?_,fun aF=>?_⟩
   ·have aG:(i:Int)∉l.take j:=fun hm=>by
     obtain⟨p,aj⟩:=Y5.1 hm;have aI:p<j:=by have:=(x6.1 aj).1;rw[l6] at this;omega
     rw[Z6 aI,←he] at aj;have:=ii ap aj ah;omega
    rw[if_neg aG,U3] at I;refine dW (k:=.i64) ab.u J.i rfl fun a3 aU aa aV ak aJ=>?_;refine gr ab.u J.i rfl (I.ext ak) aJ.ls (by simp;omega) (by simp;omega) fun aW aL aX aM aN aP=>?_;have aY:=U.size;have z3:=ak.size;refine ao _ _ ⟨(U.trans ak).then aP fun r X he=>by have:=V r he;omega,aL,?_,fun r X=>(aN r X).elim (V r) fun h=>by omega⟩;rw[if_pos (ai.2 (.inr he.symm))];exact aM
   ·refine ao _ _ ⟨U,ad,?_,V⟩;have:((i:Int)∈l.take (j+1))=((i:Int)∈l.take j):=propext ⟨fun al=>(ai.1 al).resolve_right fun he=>aF he.symm,fun al=>ai.2 (.inl al)⟩;simp only[this];exact I
  ·rintro aA Z aB ⟨U,ad,I,V⟩;rw[l5] at I;rw[au,ag];refine⟨fun h=>by omega,fun _=>?_⟩;rw[aK];refine ax _ _ ⟨U,ad,?_,V⟩;rw[List.range_succ,j4,List.filter_append,az];by_cases hm:(i:Int)∈l
   ·rw[if_pos hm] at I;simpa[hm] using I
   ·rw[if_neg hm] at I;simpa[hm] using I
 ·rintro E W k ⟨Y,g,hm,ac⟩;rw[au,ag];exact⟨fun h=>by omega,fun _=>⟨Y,g,hm,ac⟩⟩
structure dV where
 a6:x4
 aw:x4
 aM:x4
 sc:List Int
 cs:List Int
def ct (h:dV):List x4:=[h.a6,h.aw,h.aM]
def dx (w:x5) (sizes:List Int) (h:dV):Prop:=(∃ g,aq .i64 J w g h.a6 h.sc)∧(∃ g,aq .i64 J w g h.aw (bF sizes h.sc))∧ ∃ g,aq .i64 ae w g h.aM h.cs
theorem dx.ext {w w':x5} {sizes:List Int} {h:dV} (I:dx w sizes h) (E:Ext w w'):dx w' sizes h:=by
 obtain⟨⟨J,h1⟩,⟨O,U⟩,V,W⟩:=I;exact⟨⟨J,h1.ext E⟩,⟨O,U.ext E⟩,V,W.ext E⟩
theorem dx.one {w:x5} {sizes:List Int} {h:dV} (E:dx w sizes h):∀ u∈ct h,u.oneCell'=true:=by
 obtain⟨⟨O,h1⟩,⟨U,I⟩,V,J⟩:=E;intro u hu;simp[ct] at hu;rcases hu with rfl|rfl|rfl
 ·exact h1.ls.cells.2
 ·exact I.ls.cells.2
 ·exact J.ls.cells.2
set_option maxHeartbeats 8000000 in
theorem y1 {N cL:Nat} {w:x5} {f:bS} {x:ca} {ay:gQ} {sv:x4} (h:fi w ay x) (aW:eh N f) (b2:x∈f.funs) (cM:aq .i64 ae w cL sv f.sizes):
  O y0 mB [.agg (dU ay).toArray,sv,.int .i64 f.k] w fun v w'=>Ext w w'∧ ∃ c:dV,v= .agg (ct c).toArray∧c.sc=bd x.scope∧c.cs=(fR f.sizes f.k x).2∧dx w' f.sizes c∧ ∀ r,leads c.aM r→w.heap.size≤r:=by
 obtain⟨aI,cN,ed⟩:=aW.funs x b2;have b3:=rD aI aW.sizes.2.1;have b5:=rC b3 aI.scope.1;have cO:(bd x.scope).length≤6:=by rw[b5.length_eq];exact cN
 have cP:=nl aW b2;have b6:=xD x.scope;obtain⟨⟨ee,aX⟩,⟨ef,cQ⟩,eg,ei,cR⟩:=id h;apply mB.enter;refine ce fun bn cS ej b7 aJ=>?_;have aJ:ak cS bn aF (dU ay):=by
  obtain⟨L,cT,_⟩:=cR;obtain⟨_,_,_,X⟩:=c6 aX.ls;obtain⟨_,_,_,aa⟩:=c6 cQ.ls;obtain⟨_,_,_,_,_,cU,_⟩:=cT.sl;simp only[dU,X,aa,cU] at aJ ⊢;exact aJ
 refine bO aD.i fun b8 ek em bo bq=>?_;have bt:=b7.trans bo;rw[ah aF.p rfl,ai (v:=ay.a6) (by kernel_rfl) ((aJ.ext bo).cell (o:=0+0) rfl)];refine (FP (aX.ls.ext bt) aI.scope.1 (by omega)).mono ?_;rintro a6 b9 _ ⟨aY,a1,bu,en⟩;rw[cW (cs:=#[a6,.slice none 0 0,.slice none 0 0]) (by obtain⟨_,_,_,rfl⟩:=c6 bu.ls;kernel_rfl)];refine bO aD.i fun U eo cV cX cY=>?_;refine b4 (vs:=[a6,.slice none 0 0,.slice none 0 0]) aD.i rfl rfl (by intro u hu;simp at hu;rcases hu with rfl|rfl;exact bu.ls.cells.2;rfl) cY fun ac cZ ep aB=>?_;have a2:Ext b9 ac:=cX.then cZ fun r E he=>by have he:r=U:=he;omega
 have cb:=(bt.trans aY).trans a2;have az:=bu.ext a2;have bx:=((aJ.ext bo).ext aY).ext a2;have cc:=(bq.ext aY).ext a2;have er:=bt.size;have z3:=aY.size;have es:=cb.size;have et:=aB.lt;have eu:U=b9.heap.size:=cV;rw[ah aD.p rfl,ai (by kernel_rfl) (aB.cell (o:=0+0) rfl),aO ab.u az.ls];have cd:∀ v∈bd x.scope,0≤v∧v<f.sizes.length:=fun v hm=>aI.scope.2 v ((pX b3).1 hm);have bz:∀ {w':x5},aj (fun r=>r=U∨ac.heap.size≤r) ac w'→Ext w w':=fun bA=>cb.then bA fun r E he=>by omega
 have bB:(bF f.sizes (bd x.scope)).length=(bd x.scope).length:=by simp[bF]
 refine bc.range (bd x.scope).length (fun i al=>aj (fun r=>r=U∨ac.heap.size≤r) ac al∧ ∃ aw gs,ak al U aD [a6,aw,.slice none 0 0]∧aq .i64 J al gs aw ((bF f.sizes (bd x.scope)).take i)∧ ∀ r,leads aw r→ac.heap.size≤r) (by omega)
  ⟨aj.refl _ _,_,0,aB,aq.nil _ _ _ _,fun r E=>by obtain⟨a,n,c,X,aa⟩:=E;cases X⟩ ?_ ?_
 ·rintro i al c0 hi ⟨am,aw,gs,c1,aL,bC⟩ c2;obtain⟨v,bD⟩:∃ v,(bd x.scope)[i]? =some v:=⟨_,x3 hi⟩;have ev:=cd v (u4 bD);have c3:aq .i64 J al a1 a6 (bd x.scope):=bp az am fun r E I=>by
   rcases I with rfl|I
   ·exact bW az aB (by decide) E rfl
   ·obtain⟨X,aa⟩:=bX az E;omega
  rw[au,ag];refine⟨fun _=>?_,fun h=>by omega⟩;rw[bm ab.u J.i (by kernel_rfl) c3.ls bD];intro ew aN _ _;have cg:=c1.ext aN;have c4:f.sizes[v.toNat]? =some (f.sizes.getD v.toNat 0):=by rw[p8,x3 (by omega)];rfl
  rw[ah aD.p rfl,ai (by kernel_rfl) (cg.cell (o:=0+1) rfl),eE (y:=v) (i:=v.toNat) (by omega) af.u ae.i (by kernel_rfl) (cM.ext ((bz am).trans aN)).ls c4];refine dW (k:=.i64) ab.u J.i rfl fun ey ez c5 eA aP c7=>?_;refine⟨.inl aP,?_⟩;have ch:=(aL.ext aN).ext aP;refine gr ab.u J.i rfl ch c7.ls (by simp;omega) (by simp;omega) fun c8 c9 eB a7 da ci=>?_;have cj:=cg.ext aP;have ck:=cj.ad ci fun he=>bW ch cj (by decide) he rfl;rw[ah aD.p rfl];refine bE (g:=U) (o:=1) ab.i a7.ls.cells.1 a7.ls.cells.2 ck (by simp) fun db cl eC dc=>?_;rw[aK];have dd:aj (fun r=>leads aw r∨r=U) c5 db:=(ci.mono fun r _ h=>.inl h).trans (cl.mono fun r _ h=>.inr h);have de:=am.size;have eD:=(aN.trans aP).size;refine c2 _ ⟨((am.trans (aN.ad _)).trans (aP.ad _)).trans (dd.mono fun r _ h=>h.elim (fun h=>.inr (bC r h)) .inl),c8,c9,dc,?_,fun r E=>(da r E).elim (bC r) fun h=>by omega⟩;have e:(bF f.sizes (bd x.scope)).take (i+1)=(bF f.sizes (bd x.scope)).take i++[f.sizes.getD v.toNat 0]:=by
   unfold bF;rw[←List.map_take,←List.map_take,o3,bD,j5,j4];rfl
  rw[e];exact bp a7 cl fun r E he=>by
   have he:r=U:=he;subst he;exact bW a7 ck (by decide) E rfl
 rintro al c0 ⟨am,aw,gs,bH,aL,bC⟩;rw[←bB,l5] at aL;rw[au,ag];refine⟨fun h=>by omega,fun _=>?_⟩;have eF:=bz am;have ba:bR (bF f.sizes (bd x.scope)):=⟨by rw[bB];exact cO,nk aW.sizes.2.2 cd⟩;have df:=cP.small;rw[ah aD.p rfl,ai (by kernel_rfl) (bH.cell (o:=0+1) rfl)];refine (wa _ aL.ls ba).mono ?_;rintro dg W _ ⟨bb,cm⟩;have eG:=iN ba.2;have eH:=jx ba.2;have eI:aG (bF f.sizes (bd x.scope))≤4096:=df;rw[h9 cq.u cm];have be:aj (fun r=>r=U∨ac.heap.size≤r) ac W:=am.trans (bb.ad _);have aQ:=bH.ext bb;have cn:=aL.ext bb;have de:=am.size;have eJ:=bb.size;have bJ:aq .i64 J W a1 a6 (bd x.scope):=bp az be fun r E I=>by
  rcases I with rfl|I
  ·exact bW az aB (by decide) E rfl
  ·obtain⟨X,aa⟩:=bX az E;omega
 have bK:ak W bn aF (dU ay):=bx.ad be fun I=>I.elim (fun he=>by subst he;exact absurd (eK bx aB) (by decide)) fun h=>by have:=bx.lt;omega
 have cp:=cc.ad be fun I=>I.elim (fun he=>by have:=bq.lt;omega) fun h=>by have:=cc.lt;omega
 have cr:∀ {w':x5},aj (fun r=>r=U∨W.heap.size≤r) W w'→Ext w w':=fun bA=>(bz be).then bA fun r E he=>by
  have he:r=U∨W.heap.size≤r:=he;omega
 have eL:U<W.heap.size:=aQ.lt;refine bc.range (bG (bF f.sizes (bd x.scope))).length (fun q V=>aj (fun r=>r=U∨W.heap.size≤r) W V∧ ∃ aM aR,ak V U aD [a6,aw,aM]∧aq .i64 ae V aR aM (((bG (bF f.sizes (bd x.scope))).take q).map fun t=>hC x f.k (m9 x.scope (bd x.scope) t))∧ ∀ r,leads aM r→W.heap.size≤r) (by omega)
  ⟨aj.refl _ _,_,0,aQ,aq.nil _ _ _ _,fun r E=>by obtain⟨a,n,c,X,aa⟩:=E;cases X⟩ ?_ ?_
 ·rintro q V dh di ⟨Y,aM,aR,aS,aT,bf⟩ dj;obtain⟨t,bg⟩:∃ t,(bG (bF f.sizes (bd x.scope)))[q]? =some t:=⟨_,x3 di⟩;have eM:t.length=(bd x.scope).length:=by
   have dk:=q7 ba.2 (i:=q) (by omega);rw[dk] at bg;cases bg;rw[hc,bB]
  have bL:=cr Y;have dl:ax.rep (α:=List (List Int)) true (dS al.heap.size) br V [dg] (bG (bF f.sizes (bd x.scope))):=ax.ad cm Y fun r E h I=>by
   rcases h with h|h
   ·have h:al.heap.size≤r:=h;have:=bH.lt;rcases I with I|I <;> omega
   ·exact h
  have aC:∀ {ao:Nat} {ap:x4} {av:List Int},aq .i64 J W ao ap av→aq .i64 J V ao ap av:=fun hm=>bp hm Y fun r E I=>by
   rcases I with rfl|I
   ·exact bW hm aQ (by decide) E rfl
   ·obtain⟨X,aa⟩:=bX hm E;omega
  have cu:=aC bJ;have cw:ak V bn aF (dU ay):=bK.ad Y fun I=>I.elim (fun he=>by subst he;exact absurd (eK bK aQ) (by decide)) fun h=>by have:=bK.lt;omega
  rw[au,ag];refine⟨fun _=>?_,fun h=>by omega⟩;refine vr (α:=List Int) rfl rfl cq.u ab.i (by kernel_rfl) dl bg fun eO dm=>?_;have dn:=kh dm;rw[ah aF.p rfl,ai (v:=ay.a6) (by kernel_rfl) (cw.cell (o:=0+0) rfl),aO af.u (aX.ls.ext bL)];have z12:=Y.size;refine a8.range x.scope.length (fun p Z bh=>Ext V bh∧ ∃ go,aq .i64 ae bh go Z ((x.scope.take p).map fun v=>t.getD ((bd x.scope).idxOf v) 0)∧ ∀ r,leads Z r→V.heap.size≤r) (by omega) ⟨Ext.refl _,0,aq.nil _ _ _ _,fun r E=>by obtain⟨a,n,c,X,aa⟩:=E;cases X⟩ ?_ ?_
  ·rintro p Z bh dp dq ⟨aE,go,aU,cz⟩ dr;obtain⟨v,bM⟩:∃ v,x.scope[p]? =some v:=⟨_,x3 dq⟩;have ds:v∈bd x.scope:=b5.mem_iff.2 (u4 bM);rw[au,ag];refine⟨fun _=>?_,fun h=>by omega⟩;have dt:=bL.trans aE;have du:=aS.ext aE;have dv:=cu.ext aE;rw[bm af.u ae.i (by kernel_rfl) (aX.ls.ext dt) bM,ah aD.p rfl,ai (by kernel_rfl) (du.cell (o:=0+0) rfl),aO ab.u dv.ls];generalize cA:((x.scope.take p).map fun v=>t.getD ((bd x.scope).idxOf v) 0)=A at aU;have eP:A.length=p:=by rw[←cA,o4,l6];omega
   refine a8.range (bd x.scope).length (fun j Z bi=>Ext V bi∧ ∃ go,aq .i64 ae bi go Z (A++if v∈(bd x.scope).take j then[t.getD ((bd x.scope).idxOf v) 0] else[])∧ ∀ r,leads Z r→V.heap.size≤r) (by omega) ⟨aE,go,by simpa using aU,cz⟩ ?_ ?_
   ·rintro j dw bi dy dz ⟨aA,bN,aH,aV⟩ dA;obtain⟨u,hu⟩:∃ u,(bd x.scope)[j]? =some u:=⟨_,x3 dz⟩;have dB:=cu.ext aA;rw[au,ag];refine⟨fun _=>?_,fun h=>by omega⟩;refine aZ (fun Z bP=>Ext V bP∧ ∃ go,aq .i64 ae bP go Z (A++if v∈(bd x.scope).take (j+1) then[t.getD ((bd x.scope).idxOf v) 0] else[])∧ ∀ r,leads Z r→V.heap.size≤r) ?_ ?_
    ·rintro eQ bP dC;rw[aK];exact dA _ _ dC
    intro eR cB;have bT:v∈(bd x.scope).take (j+1)↔v∈(bd x.scope).take j∨v=u:=by
     rw[o3,hu,j5,n0,o9]
    rw[bm ab.u J.i (by kernel_rfl) dB.ls hu,bQ,ag];refine⟨fun he=>?_,fun bU=>?_⟩
    ·have dD:v∉(bd x.scope).take j:=fun hm=>by
      obtain⟨dE,bV⟩:=Y5.1 hm;have dF:dE<j:=by have:=(x6.1 bV).1;rw[l6] at this;omega
      rw[Z6 dF,←he] at bV;have:=ii b6 bV hu;omega
     rw[if_neg dD,U3] at aH;have dG:t[j]? =some (t.getD ((bd x.scope).idxOf v) 0):=by
      have:(bd x.scope).idxOf v=j:=pZ b6 (by rw[hu,he]);rw[this,p8,x3 (show j<t.length by omega)];rfl
     rw[bm ab.u J.i (by kernel_rfl) (dn.ext aA) dG];refine dW af.u ae.i rfl fun eS eT eU eV bY dH=>?_;refine gr af.u ae.i rfl (aH.ext bY) dH.ls (by simp;omega) (by simp;omega) fun eW dI eX dJ dK dL=>?_;have eY:=aA.size;have eZ:=bY.size;refine cB _ _ ⟨(aA.trans bY).then dL fun r E he=>by have:=aV r he;omega,dI,?_,fun r E=>(dK r E).elim (aV r) fun h=>by omega⟩;rw[if_pos (bT.2 (.inr he.symm))];exact dJ
    ·refine cB _ _ ⟨aA,bN,?_,aV⟩;have:(v∈(bd x.scope).take (j+1))=(v∈(bd x.scope).take j):=propext ⟨fun bZ=>(bT.1 bZ).resolve_right fun he=>bU he.symm,fun bZ=>bT.2 (.inl bZ)⟩;simp only[this];exact aH
   ·rintro dw bi dy ⟨aA,bN,aH,aV⟩;rw[l5,if_pos ds] at aH;rw[au,ag];refine⟨fun h=>by omega,fun _=>?_⟩;rw[aK];refine dr _ _ ⟨aA,bN,?_,aV⟩;rw[o3,bM,j5,j4,cA];exact aH
  ·rintro Z bh dp ⟨aE,go,aU,cz⟩;rw[l5] at aU;rw[au,ag];refine⟨fun h=>by omega,fun _=>?_⟩;intro e0 cC _ _;have bj:=aE.trans cC;have dM:=aS.ext bj;have dN:=cw.ext bj;rw[ah aD.p rfl,ai (by kernel_rfl) (dM.cell (o:=0+2) rfl),bI aF.p aF.i rfl dN.range];refine (FO (h.ext (bL.trans bj)) aI.lines.1 (aU.ls.ext cC)).mono ?_;rintro _ e1 _ ⟨rfl,b1⟩;refine⟨.inl b1,?_⟩;refine dW af.u ae.i rfl fun e2 e3 dO e4 cD dP=>?_;refine⟨.inl (b1.trans cD),?_⟩;have bk:=(bj.trans b1).trans cD;have cE:=aT.ext bk;refine gr af.u ae.i rfl cE dP.ls (by simp;omega) (by simp;omega) fun dQ dR e5 bl dT cF=>?_;have cG:=aS.ext bk;have cH:=cG.ad cF fun he=>bW cE cG (by decide) he rfl;rw[ah aD.p rfl];refine bE (g:=U) (o:=2) af.i bl.ls.cells.1 bl.ls.cells.2 cH (by simp) fun dX cI e6 dY=>?_;rw[aK];have dZ:aj (fun r=>leads aM r∨r=U) dO dX:=(cF.mono fun r _ h=>.inl h).trans (cI.mono fun r _ h=>.inr h);have e7:=bk.size;refine dj _ ⟨(Y.trans (bk.ad _)).trans (dZ.mono fun r _ h=>h.elim (fun h=>.inr (bf r h)) .inl),dQ,dR,dY,?_,fun r E=>(dT r E).elim (bf r) fun h=>by omega⟩;rw[o3,bg,j5,j4];exact bp bl cI fun r E he=>by
    have he:r=U:=he;subst he;exact bW bl cH (by decide) E rfl
 ·rintro V dh ⟨Y,aM,aR,aS,aT,bf⟩;rw[l5] at aT;rw[au,ag];refine⟨fun h=>by omega,fun _=>?_⟩;have aC:∀ {ao:Nat} {ap:x4} {av:List Int},aq .i64 J W ao ap av→aq .i64 J V ao ap av:=fun hm=>bp hm Y fun r E I=>by
   rcases I with rfl|I
   ·exact bW hm aQ (by decide) E rfl
   ·obtain⟨X,aa⟩:=bX hm E;omega
  let c:dV:=⟨a6,aw,aM,bd x.scope,(fR f.sizes f.k x).2⟩;have ea:dx V f.sizes c:=⟨⟨a1,aC bJ⟩,⟨gs,aC cn⟩,aR,aT⟩;rw[bI aD.p aD.i rfl (show V.rangeAt U 0 (ct c) from aS.range)];have cJ:=cp.ad Y fun I=>I.elim (fun he=>by have:=bq.lt;omega) fun h=>by have:=cp.lt;omega
  refine b4 (vs:=ct c) aD.i rfl rfl ea.one cJ fun eb cK e8 ec=>?_;rw[eN aD.p aD.i rfl ec.range];have bw:∀ {ao:Nat} {ap:x4} {av:List Int} {e:o6},e≠aD→aq .i64 e V ao ap av→aq .i64 e eb ao ap av:=fun bU hm=>bp hm cK fun r E he=>by
   have he:r=b8:=he;exact bW hm cJ bU E he
  refine⟨(cr Y).then cK fun r E he=>by have he:r=b8:=he;have:=b7.size;omega,c,rfl,rfl,rfl,⟨⟨a1,bw (by decide) (aC bJ)⟩,⟨gs,bw (by decide) (aC cn)⟩,aR,bw (by decide) aT⟩,fun r E=>?_⟩;have:=bf r E;omega
theorem uk {w:x5} {sizes:List Int} {h:dV} {g:Nat} (I:dx w sizes h) {w':x5} (E:ak w' g aD (x4.agg (ct h).toArray).cells.toList):ak w' g aD (ct h):=by
 obtain⟨⟨X,h1⟩,⟨Y,J⟩,Z,O⟩:=I;obtain⟨_,_,_,U⟩:=c6 h1.ls;obtain⟨_,_,_,V⟩:=c6 J.ls;obtain⟨_,_,_,W⟩:=c6 O.ls;simp only[ct,U,V,W] at E ⊢;exact E
set_option maxHeartbeats 1000000 in
theorem FQ {w:x5} {sizes:List Int} {a b:dV} (aw:dx w sizes a) (ax:dx w sizes b) (aA:hg a.sc) (aB:hg b.sc):O y0 mC [.agg (ct a).toArray,.agg (ct b).toArray] w fun v w'=>v= .bool (decide (cD a.sc<cD b.sc))∧Ext w w':=by
 obtain⟨⟨aV,ay⟩,_⟩:=id aw;obtain⟨⟨aW,aC⟩,_⟩:=id ax;have aj:=(tA aA aB).1;apply mC.enter;refine ce fun aE aX aY aF ak=>?_;refine ce fun aG al aZ az am=>?_;have ak:=(uk aw ak).ext az;have am:=uk ax am;have W:=aF.trans az;have X:=ay.ls.ext W;have aa:=aC.ls.ext W;have Y:∀ {w':x5},Ext al w'→ ∀ {K:x4→Prop},I y0 (x2 aD (.pointer (some ⟨aE,0,none⟩)) 0) w' (fun t=>I y0 (x1 ab t) w' K)=K a.a6:=fun E K=>by
  rw[ah aD.p rfl,ai (v:=a.a6) (by kernel_rfl) ((ak.ext E).cell (o:=0+0) rfl)]
 have ac:∀ {w':x5},Ext al w'→ ∀ {K:x4→Prop},I y0 (x2 aD (.pointer (some ⟨aG,0,none⟩)) 0) w' (fun t=>I y0 (x1 ab t) w' K)=K b.a6:=fun E K=>by
  rw[ah aD.p rfl,ai (v:=b.a6) (by kernel_rfl) ((am.ext E).cell (o:=0+0) rfl)]
 rw[Y (Ext.refl _),aO ab.u X,ac (Ext.refl _),aO ab.u aa,bN,ag];refine⟨fun aH=>?_,fun aI=>?_⟩
 ·rw[Y (Ext.refl _),aO ab.u X,ac (Ext.refl _),aO ab.u aa,au];refine⟨?_,W⟩;congr 1;rw[X8,decide_eq_true_eq,decide_eq_true_eq,aj];exact⟨fun h=>.inl (by omega),fun h=>by rcases h with h|h <;> omega⟩
 have aJ:a.sc.length=b.sc.length:=by have:=X2.1 aI;omega
 rw[Y (Ext.refl _),aO ab.u X];refine a8.range a.sc.length (fun i _ ao=>Ext al ao∧ ∀ (j:Nat) (x y:Int),j<i→a.sc[j]? =some x→b.sc[j]? =some y→x=y) ay.ls.le ⟨Ext.refl _,fun j x y aL=>by omega⟩ ?_ ?_
 ·rintro i _ ao k hi ⟨ap,ad⟩ aM;obtain⟨x,E⟩:∃ x,a.sc[i]? =some x:=⟨_,x3 hi⟩;obtain⟨y,ae⟩:∃ y,b.sc[i]? =some y:=⟨_,x3 (by omega)⟩;have U:eQ a.sc b.sc=eQ (a.sc.drop i) (b.sc.drop i):=rO ad (by omega) (by omega);have aN:a.sc.drop i=x::a.sc.drop (i+1):=by rw[Y8 hi,(x6.1 E).2]
  have aP:b.sc.drop i=y::b.sc.drop (i+1):=by rw[Y8 (show i<b.sc.length by omega),(x6.1 ae).2]
  rw[aN,aP] at U;simp only[eQ] at U;rw[au,ag];refine⟨fun _=>?_,fun h=>by omega⟩;intro a1 aQ _ _;have V:=ap.trans aQ;rw[Y V,bm ab.u J.i (by kernel_rfl) (X.ext V) E,ac V,bm ab.u J.i (by kernel_rfl) (aa.ext V) ae,bN,ag];refine⟨fun aH=>?_,fun he=>?_⟩
  ·intro a2 aR _ _;have Z:=V.trans aR;rw[Y Z,bm ab.u J.i (by kernel_rfl) (X.ext Z) E,ac Z,bm ab.u J.i (by kernel_rfl) (aa.ext Z) ae,au];refine⟨?_,W.trans Z⟩;congr 1;rw[X8,decide_eq_true_eq,decide_eq_true_eq,aj,U];by_cases af:x<y
   ·rw[if_pos af];exact⟨fun _=>.inr ⟨aJ,by omega⟩,fun _=>af⟩
   ·rw[if_neg af,if_pos (show y<x by omega)];exact⟨fun h=>absurd h af,fun h=>by rcases h with h|h <;> omega⟩
  ·rw[aK];refine aM _ _ ⟨V,fun j aS aT aL aq av=>?_⟩;by_cases aU:j=i
   ·subst aU;rw[E] at aq;rw[ae] at av;cases aq;cases av;exact X2.1 he
   ·exact ad j aS aT (by omega) aq av
 ·rintro _ ao k ⟨ap,ad⟩;rw[au,ag];refine⟨fun h=>by omega,fun _=>⟨?_,W.trans ap⟩⟩;congr 1;symm;rw[decide_eq_false_iff_not,aj];have U:eQ a.sc b.sc=eQ (a.sc.drop a.sc.length) (b.sc.drop a.sc.length):=rO ad (o7 _) (by omega);rw[List.drop_length,show b.sc.drop a.sc.length=[] from List.drop_eq_nil_of_le (by omega)] at U;rw[U];simp only[eQ];omega
def cO (h:dV):ch:=(h.sc,h.cs)
def ir (w:x5) (B g:Nat) (v:x4) (sizes:List Int) (L:List dV):Prop:=aW ct 3 aD w g v L∧(∀ h∈L,dx w sizes h∧ ∀ r,leads h.aM r→B≤r)∧(∀ (i j:Nat) x y,L[i]? =some x→L[j]? =some y→i≠j→ ∀ r,leads x.aM r→¬leads y.aM r)∧ ∀ r,leadsTo v r→B≤r
theorem jH {S:Nat→Prop} {w w':x5} {sizes:List Int} {h:dV} (Z:dx w sizes h) (W:aj S w w') (X:∀ r,S r→(∃ e c,ak w r e c∧e≠J∧e≠ae)∨w.heap.size≤r∨((∃ c,ak w r ae c)∧¬leads h.aM r)):dx w' sizes h:=by
 obtain⟨⟨aa,h1⟩,⟨ab,ac⟩,ad,O⟩:=Z;have Y:∀ {g:Nat} {v:x4} {l:List Int},aq .i64 J w g v l→aq .i64 J w' g v l:=fun hm=>bp hm W fun r E U=>by
  rcases X r U with⟨e,c,I,V,_⟩|af|⟨⟨c,I⟩,_⟩
  ·exact bW hm I (fun he=>V he.symm) E rfl
  ·obtain⟨ag,ah⟩:=bX hm E;omega
  ·exact bW hm I (by decide) E rfl
 refine⟨⟨aa,Y h1⟩,⟨ab,Y ac⟩,ad,bp O W fun r E U=>?_⟩;rcases X r U with⟨e,c,I,_,V⟩|af|⟨_,ai⟩
 ·exact bW O I (fun he=>V he.symm) E rfl
 ·obtain⟨ag,ah⟩:=bX O E;omega
 ·exact ai E
theorem ir.ext {w w':x5} {B g:Nat} {v:x4} {sizes:List Int} {L:List dV} (h:ir w B g v sizes L) (E:Ext w w'):ir w' B g v sizes L:=⟨h.1.ext E,fun x I=>⟨(h.2.1 x I).1.ext E,(h.2.1 x I).2⟩,h.2.2⟩
section
variable {α:Type} {f:α→List x4} {k:Nat} {P:X1} {w:x5} {e:o6} {g:Nat} {v:x4} {L:List α}
theorem FR {M:List α} (h:aW f k e w g v L) (E:L.map f=M.map f):aW f k e w g v M:=by
 have I:L.length=M.length:=by have:=congrArg W8 E;simpa using this
 have hm:L.flatMap f=M.flatMap f:=by rw[List.flatMap_def,List.flatMap_def,E]
 refine⟨by rw[←I,←hm];exact h.1,fun a J=>?_⟩;obtain⟨b,O,he⟩:=l9.1 (show f a∈L.map f by rw[E];exact l9.2 ⟨a,J,rfl⟩);rw[←he];exact h.2 b O
theorem y2 {t:o6} {b l h':Nat} {z:x4} {low high:Option x4} {K:x4→Prop} (U:P.underlying t=some (.slice e)) (hi:aI P e k b z) (h:aW f k e w g v L) (h1:js low l) (V:jt high L.length h') (J:l≤h') (W:h'≤L.length)
  (X:∀ O,(∀ w',aW f k e w' g v L→b7 w' k O ((L.drop l).take (h'-l)).length (((L.drop l).take (h'-l)).flatMap f))→K O):I P (c7 t v low high none) w K:=by
 have Y:=h.sl;obtain⟨_,aa,o,base,cap,rfl,ab,_⟩:=Y;rw[gz U hi h1 V eY J (by omega) (o7 _)];refine X _ fun w' E=>?_;have:=b7.part (l:=l) (h:=h') (m:=cap) E.sl J W (by omega) (o7 _);rw[rr l E.2,pQ (h'-l) (fun a Z=>E.2 a (List.mem_of_mem_drop Z))] at this;have el:((L.drop l).take (h'-l)).length=h'-l:=by rw[l6,List.length_drop];omega
 rw[el];exact this
theorem ul {t ty:o6} {b:Nat} {z x:x4} {M:List α} {K:x4→x5→Prop} (V:P.underlying t=some (.slice e)) (hi:aI P e k b z) (ab:z.cells.size=k) (h:aW f k e w g v L) (ac:b7 w k x M.length (M.flatMap f)) (ag:∀ a∈M,(f a).length=k) (h1:∀ a∈M,∀ u∈f a,u.oneCell'=true)
  (W:(L.length+M.length)*b≤140737488355328) (ad:L.length+M.length≤9223372036854775807)
  (ae:∀ E I w',aW f k e w' I E (L++M)→(∀ r,leadsTo E r→leadsTo v r∨w.heap.size≤r)→aj (fun r=>leadsTo v r) w w'→K E w'):aa P (r9 #[t,t] ty #[v,x]) w K:=by
 have af:∀ u∈M.flatMap f,u.oneCell'=true:=fun u hu=>by
  obtain⟨a,ah,hu⟩:=List.mem_flatMap.1 hu;exact h1 a ah u hu
 have X:∀ E I w',bL w' I e k E (L.length+M.length) (L.flatMap f++M.flatMap f)→aW f k e w' I E (L++M):=fun E I w' hm=>⟨by simpa using hm,fun b W=>by
  rcases n0.1 W with h'|h'
  ·exact h.2 b h'
  ·exact ag b h'⟩
 rcases h.1.2 with⟨J,ai⟩|⟨cap,cs,J,ak,_⟩
 ·have hm:bL w w.heap.size e k v L.length (L.flatMap f):=⟨h.1.1,.inl ⟨J,ai⟩⟩;subst J;refine lj V V hi ab hm ac af (by simpa using W) (by simpa[maxLen] using ad) fun E I w' Y O Z=>ae E I w' (X _ _ _ O) (fun r U=>.inr ?_) (Z.mono fun r U h=>by omega);have:=((X _ _ _ O).leads U).1;omega
 ·refine lj V V hi ab h.1 ac af (by simpa using W) (by simpa[maxLen] using ad) fun E I w' Y O Z=>ae E I w' (X _ _ _ O) (fun r U=>?_) (Z.mono fun r U h=>⟨_,_,_,J,h.symm⟩);have:=((X _ _ _ O).leads U).1;rcases Y with Y|Y
  ·exact .inl ⟨_,_,_,J,by show g=r;omega⟩
  ·exact .inr (by omega)
theorem FS {t:o6} {b:Nat} {z:x4} {K:x4→x5→Prop} (E:P.underlying t=some (.slice e)) (hi:aI P e k b z)
  (I:∀ v g w',g=w.heap.size→Ext w w'→aW f k e w' g v []→K v w'):aa P (u9 t 0 #[]) w K:=
 h5 E hi (by omega) (cs:=#[]) (by simp[Instr.fill]) fun g w' J O U=>by
  exact I _ g w' J O ⟨by simpa using bL.full (k:=k) (n:=0) U (by simp) (by simp[maxLen]),fun c V=>by cases V⟩
end
theorem r4 {α:Type} {A B:List α} {s:Nat} {a:α} (I:s<B.length) (E:A[s]? =some a):(A.take s++B.drop s).set s a=A.take (s+1)++B.drop (s+1):=by
 have J:=(x6.1 E).1;have h1:(A.take s).length=s:=by rw[l6];omega
 rw[V2 _ _ (by omega),h1,W3,Y8 I,List.set_cons_zero,o3,E,j5,W9];rfl
theorem y3 {α:Type} {A B:List α} {s:Nat} (E:s≤A.length):(A.take s++B.drop s)[s]? =B[s]?:=by
 have h1:(A.take s).length=s:=by rw[l6];omega
 rw[Z4 (by omega),h1,W3,List.getElem?_drop,Nat.add_zero]
theorem y4 {g:ch}:∀ {l:List ch} {i:Nat},(∀ p<i,∀ x,l[p]? =some x→cD x.1<cD g.1)→i≤l.length→(∀ x,l[i]? =some x→¬cD x.1<cD g.1)→fD g l=l.take i++g::l.drop i
 |[],i,_,E,_=>by
  have:i=0:=by simpa using E
  subst this;rfl
 |x::l,0,_,_,I=>by
  unfold fD;rw[if_neg (I x rfl)];rfl
 |x::l,i+1,h1,E,I=>by
  unfold fD;rw[if_pos (h1 0 (by omega) x rfl),y4 (i:=i) (fun p O y J=>h1 (p+1) (by omega) y J) (by simpa using E) (fun y J=>I y J)];rfl
theorem FT {w:x5} {B g:Nat} {v:x4} {sizes:List Int} {L:List dV} {h:dV} {j s:Nat} {n:Int} {K:Unit→x5→Prop} (E:ir w B g v sizes L) (Y:L[j]? =some h) (U:s<h.cs.length)
  (av:∀ w',aj (fun r=>leads h.aM r) w w'→(∀ r,leads h.aM r→ ∃ c,ak w r ae c)→ir w' B g v sizes (L.set j {h with cs:=h.cs.set s n})→K () w'):
  I y0 (x7 af h.aM (.int .i64 (s:Int))) w fun t=>aa y0 (x8 ae t (.int .i64 n)) w K:=by
 obtain⟨h1,ai,al,aw⟩:=E;have ag:=(x6.1 Y).1;obtain⟨am,ax⟩:=ai h (u4 Y);obtain⟨_,_,ao,Z⟩:=id am;have ab:∀ r,leads h.aM r→ ∃ c,ak w r ae c:=fun r E=>by
  obtain⟨rfl,_⟩:=bX Z E;obtain⟨_,⟨ay,_⟩|⟨cap,full,_,V,_⟩⟩:=Z
  ·obtain⟨a,n,c,e,_⟩:=E;rw[ay] at e;cases e
  ·exact⟨_,V⟩
 have az:∀ r,r=ao→leads h.aM r:=fun r he=>by
  subst he;obtain⟨_,⟨_,aP⟩|⟨cap,full,e,V,_⟩⟩:=Z
  ·omega
  ·exact⟨_,_,_,e,rfl⟩
 rw[gB rfl af.u ae.i Z U];refine gC ae.i Z U fun w' W aQ aA=>?_;have W:=W.mono (T:=fun r=>leads h.aM r) fun r _ he=>az r he;refine av w' W ab ⟨?_,fun x O=>?_,fun p q x y O aB aC r aD aE=>?_,aw⟩
 ·refine FR (h1.ad W fun r E U=>?_) ?_
  ·obtain⟨c,V⟩:=ab r U;exact cp h1 V (by decide) E
  ·rw[List.map_set];symm;refine X6 fun p=>?_;rw[Y7,r8];by_cases J:j=p
   ·subst J;rw[if_pos rfl,if_pos (by simpa using ag),Y];rfl
   ·rw[if_neg J]
 ·have aF:x={h with cs:=h.cs.set s n}∨ ∃ p,p≠j∧L[p]? =some x:=by
   obtain⟨p,J⟩:=Y5.1 O;rw[Y7] at J;by_cases X:j=p
   ·subst X;rw[if_pos rfl,if_pos ag] at J;exact .inl (b9 J).symm
   ·rw[if_neg X] at J;exact .inr ⟨p,fun h=>X h.symm,J⟩
  rcases aF with rfl|⟨p,aG,J⟩
  ·obtain⟨⟨aH,ap⟩,⟨aI,aq⟩,_⟩:=am;refine⟨⟨⟨aH,bp ap W fun r E U=>?_⟩,⟨aI,bp aq W fun r E U=>?_⟩,ao,aA⟩,ax⟩
   ·obtain⟨c,V⟩:=ab r U;exact bW ap V (by decide) E rfl
   ·obtain⟨c,V⟩:=ab r U;exact bW aq V (by decide) E rfl
  ·obtain⟨aJ,aK⟩:=ai x (u4 J);refine⟨jH aJ W fun r E=>.inr (.inr ⟨ab r E,fun ah=>al p j x h J Y aG r ah E⟩),aK⟩
 ·have au:∀ {p:Nat} {x:dV},(L.set j {h with cs:=h.cs.set s n})[p]? =some x→ ∃ ac,L[p]? =some ac∧ac.aM=x.aM:=fun {p x} O=>by
   rw[Y7] at O;by_cases X:j=p
   ·subst X;rw[if_pos rfl,if_pos ag] at O;cases O;exact⟨h,Y,rfl⟩
   ·rw[if_neg X] at O;exact⟨x,O,rfl⟩
  obtain⟨ac,ah,ex⟩:=au O;obtain⟨aL,aN,aO⟩:=au aB;exact al p q ac aL ah aN aC r (by rw[ex];exact aD) (by rw[aO];exact aE)
def ja (f:bS) (j:Nat):List ch:=(((ev f).take j).filter eF).foldl (fun l g=>fD g l) []
theorem y5 {f:bS} {j:Nat} {x:ch} (h:(ev f)[j]? =some x):ja f (j+1)=if eF x then fD x (ja f j) else ja f j:=by
 unfold ja;rw[o3,h,j5,List.filter_append,List.foldl_append];cases E:eF x with
 |true=>rw[List.filter_cons_of_pos E];rfl
 |false=>rw[List.filter_cons_of_neg (by simp[E])];rfl
theorem FU (f:bS):ja f (ev f).length=eG f:=by unfold ja eG;rw[l5]
theorem y6 (g:ch):∀ l,(fD g l).length=l.length+1
 |[]=>rfl
 |h::l=>by
  unfold fD;split
  ·rw[c8,y6 g l,c8]
  ·rfl
theorem FV {f:bS} {j:Nat} (I:j≤(ev f).length):(ja f j).length≤j:=by
 induction j with
 |zero=>simp[ja]
 |succ j E=>
  have:=E (by omega);rw[y5 (x:=(ev f)[j]) (x3 (by omega))];split
  ·rw[y6];omega
  ·omega
set_option maxHeartbeats 4000000 in
theorem FW {w:x5} {N B g:Nat} {l:x4} {f:bS} {L:List dV} {Q:x4→x5→Prop} (aX:eh N f) (W:ir w B g l f.sizes L) (aY:L.map cO=ev f)
  (b9:∀ out w' go V,Ext w w'→aW ct 3 aD w' go out V→(∀ h∈V,h∈L)→(∀ h∈V,dx w' f.sizes h)→V.map cO=eG f→(∀ r,leadsTo out r→w.heap.size≤r)→Q out w'):
  I y0 (u6 #[bn] J #[l]) w fun ca=>
 a8 (.slice none 0 0) (.int .i64 0) w fun out a1 ap cb=>
  I y0 (U .lss J false false a1 ca) ap fun cc=>
  Split cc (aB (α:=x4→x5→Prop) (fun(cd:x4) (aq:x5)=>
   I y0 (U .add J false true a1 (.int .i64 1)) aq fun ce=>
   cb cd ce aq) fun bz=>
  I y0 (x7 bn l a1) ap fun cg=>
  I y0 (x1 aD cg) ap fun ch=>
  aa y0 (n9 aD true (.tuple #[])) ap fun aJ bA=>
  aa y0 (x8 aD aJ ch) bA fun(_:Unit) ak=>
  I y0 (x2 aD aJ 2) ak fun ci=>
  I y0 (x1 af ci) ak fun bB=>
  I y0 (u6 #[af] J #[bB]) ak fun cj=>
  a8 (.bool false) (.int .i64 0) ak fun bC a2 X ck=>
   I y0 (U .lss J false false a2 cj) X fun cl=>
   Split cl (aB (α:=x4→x5→Prop) (fun(cm:x4) (ay:x5)=>
    I y0 (U .add J false true a2 (.int .i64 1)) ay fun cn=>
    ck cm cn ay) fun bD=>
   I y0 (x7 af bB a2) X fun cp=>
   I y0 (x1 ae cp) X fun cq=>
   Split bC (bD (.bool true) X)
    (I y0 (U .gtr ae false true cq (.int .i64 0)) X fun cr=>
   bD cr X))
    (I y0 (Z5 .not bC) X fun cu=>
  Split cu (bz out X)
   (bc (.int .i64 0) X fun i aL cw=>
   aB (α:=x4→x5→Prop) (fun(cz:x4) (av:x5)=>
    Split cz (I y0 (U .add J false true i (.int .i64 1)) av fun cA=>
   cw cA av)
     (aQ av fun Z=>
  I y0 (x1 aD aJ) Z fun cB=>
  I y0 (c7 bn out (some i) none none) Z fun bE=>
  aa y0 (u9 bn 1 #[(0,cB)]) Z fun cC az=>
   (Ext Z az∨al y0 (c7 bn out (some i) none none) bE az∧True)∧
  aa y0 (r9 #[bn,bn] bn #[cC,bE]) az fun cF a6=>
   aa y0 (u9 bn 0 #[]) a6 fun cG aN=>
  I y0 (c7 bn out none (some i) none) aN fun cH=>
  aa y0 (r9 #[bn,bn] bn #[cG,cH]) aN fun cJ a7=>
  aa y0 (r9 #[bn,bn] bn #[cJ,cF]) a7 fun cK ba=>
  bz cK ba)) fun bF=>
   aQ aL fun ab=>
   I y0 (u6 #[bn] J #[out]) ab fun cL=>
   I y0 (U .lss J false false i cL) ab fun cM=>
   Split cM (I y0 (x7 bn out i) ab fun cN=>
   I y0 (x1 aD cN) ab fun cP=>
   I y0 (x1 aD aJ) ab fun cQ=>
   O y0 mC [cP,cQ] ab fun cR bG=>
    bF cR bG)
    (bF (.bool false) ab))))
   (Q out ap):=by
 have cS:L.length=(ev f).length:=by rw[←aY,o4]
 have dz:L.length≤256:=by have:=(iX aX).2.2;have:=aX.iR;omega
 have bH:=(iX aX).1;rw[dZ bn.u W.1];refine a8.range L.length (fun j out bb=>∃ go V,Ext w bb∧aW ct 3 aD bb go out V∧(∀ h∈V,h∈L)∧V.map cO=ja f j∧ ∀ r,leadsTo out r→w.heap.size≤r) W.1.le
  ⟨0,[],Ext.refl _,aW.nil _ _ _ _ _,fun h ac=>(by cases ac),rfl,fun r W=>(dI W).elim⟩ ?_ ?_
 rotate_left
 ·rintro out bb cT ⟨go,V,bJ,aA,am,aC,bd⟩;rw[au,ag];refine⟨fun h=>by omega,fun _=>b9 _ _ go V bJ aA am (fun h ac=>((W.ext bJ).2.1 h (am h ac)).1) ?_ bd⟩;rw[aC,cS,FU]
 rintro j out ap cT bK ⟨go,V,aP,aA,am,aC,bd⟩ cU;obtain⟨h,ac⟩:∃ h,L[j]? =some h:=⟨_,x3 bK⟩;have hm:(ev f)[j]? =some (cO h):=by rw[←aY,r8,ac];rfl
 have cV:=bH _ (u4 hm);have dA:V.length≤256:=by
  have:=FV (f:=f) (j:=j) (by omega);rw[←aC,o4] at this;omega
 have aE:=W.ext aP;obtain⟨be,_⟩:=aE.2.1 h (u4 ac);obtain⟨_,_,dB,cW⟩:=id be;rw[au,ag];refine⟨fun _=>?_,fun h=>by omega⟩;refine aZ (fun bf aq=>∃ bg aF,Ext w aq∧aW ct 3 aD aq bg bf aF∧(∀ h∈aF,h∈L)∧aF.map cO=ja f (j+1)∧ ∀ r,leadsTo bf r→w.heap.size≤r) ?_ ?_
 ·rintro bf aq ⟨bg,aF,h1,cX,cY,cZ,c0⟩;rw[aK];exact cU _ _ ⟨bg,aF,h1,cX,cY,cZ,c0⟩
 intro c1 aG;rw[cI rfl bn.u aD.i aE.1 bK,bI aD.p aD.i rfl (aE.1.range ac)];refine bO aD.i fun bh bA dC c2 c3=>?_;refine b4 (vs:=ct h) aD.i rfl rfl be.one c3 fun ak c4 dD bL=>?_;have bN:Ext ap ak:=c2.then c4 fun r W he=>by have he:r=bh:=he;omega
 have bi:=cW.ext bN;rw[ah aD.p rfl,ai (v:=h.aM) (by kernel_rfl) (bL.cell (o:=0+2) rfl),aO af.u bi.ls];refine a8.range h.cs.length (fun q sv X=>Ext ak X∧sv= .bool ((h.cs.take q).any fun c=>decide (0<c))) bi.ls.le ⟨Ext.refl _,rfl⟩ ?_ ?_
 ·rintro q _ X c5 c6 ⟨aw,rfl⟩ c8;obtain⟨c,bQ⟩:∃ c,h.cs[q]? =some c:=⟨_,x3 c6⟩;have e:(h.cs.take (q+1)).any (fun c=>decide (0<c))=((h.cs.take q).any (fun c=>decide (0<c))||decide (0<c)):=by
   rw[o3,bQ,j5,List.any_append];simp
  rw[au,ag];refine⟨fun _=>?_,fun h=>by omega⟩;refine aZ (fun sv ay=>Ext ak ay∧sv= .bool ((h.cs.take (q+1)).any fun c=>decide (0<c))) ?_ ?_
  ·rintro _ ay ⟨c9,rfl⟩;rw[aK];exact c8 _ _ ⟨c9,rfl⟩
  intro c1 aG;rw[bm af.u ae.i (by kernel_rfl) (bi.ext aw).ls bQ,cE];refine⟨fun da=>aG _ _ ⟨aw,by rw[e,da];rfl⟩,fun db=>?_⟩;rw[bV];exact aG _ _ ⟨aw,by rw[e,db];rfl⟩
 rintro _ X c5 ⟨aw,rfl⟩;have bR:=bL.ext aw;have ao:=bN.trans aw;rw[l5,au,ag];refine⟨fun h=>by omega,fun _=>?_⟩;rw[b3,cE];have aR:=y5 hm;have dc:(h.cs.any fun c=>decide (0<c))=eF (cO h):=rfl;rw[dc];refine⟨fun bj=>?_,fun aH=>?_⟩
 ·have bj:eF (cO h)=false:=by simpa using bj
  rw[bj] at aR;exact aG _ _ ⟨go,V,aP.trans ao,aA.ext ao,am,by rw[aC,aR];rfl,bd⟩
 have aH:eF (cO h)=true:=by simpa using aH
 rw[aH,if_pos rfl] at aR;refine⟨fun bk aL=>∃ i:Nat,bk= .int .i64 (i:Int)∧i≤V.length∧Ext X aL∧ ∀ p<i,∀ x,V[p]? =some x→cD x.sc<cD h.sc,fun bk _=>V.length-(bM bk).toNat,⟨0,rfl,Z9 _,Ext.refl _,fun p bl=>by omega⟩,?_⟩;rintro _ aL ⟨i,rfl,hi,dd,bo⟩;refine aZ (fun bT av=>Ext X av∧((bT= .bool true∧i<V.length∧ ∀ x,V[i]? =some x→cD x.sc<cD h.sc)∨(bT= .bool false∧ ∀ x,V[i]? =some x→¬cD x.sc<cD h.sc))) ?_ ?_
 rotate_left
 ·intro dE bp;intro ab de _ _;have ax:=dd.trans de;have bq:=aA.ext (ao.trans ax);rw[dZ bn.u bq,au,ag];refine⟨fun bo=>?_,fun dF=>bp _ _ ⟨ax,.inr ⟨rfl,fun x E=>absurd (x6.1 E).1 (by omega)⟩⟩⟩;obtain⟨x,E⟩:∃ x,V[i]? =some x:=⟨_,x3 (by omega)⟩;have bU:=am x (u4 E);have df:hg x.sc:=(bH (cO x) (by rw[←aY];exact l9.2 ⟨x,bU,rfl⟩)).scope;have bW:=aE.ext (ao.trans ax);rw[cI rfl bn.u aD.i bq (by omega),bI aD.p aD.i rfl (bq.range E),bI aD.p aD.i rfl (show ab.rangeAt bh 0 (ct h) from (bR.ext ax).range)];refine (FQ (bW.2.1 x bU).1 (bW.2.1 h (u4 ac)).1 df cV.scope).mono ?_;rintro _ bG _ ⟨rfl,bX⟩;by_cases aS:cD x.sc<cD h.sc
  ·rw[decide_eq_true aS];exact bp _ _ ⟨ax.trans bX,.inl ⟨rfl,by omega,fun y Y=>by rw[E] at Y;cases Y;exact aS⟩⟩
  ·rw[decide_eq_false aS];exact bp _ _ ⟨ax.trans bX,.inr ⟨rfl,fun y Y=>by rw[E] at Y;cases Y;exact aS⟩⟩
 rintro _ av ⟨bY,⟨rfl,dG,dg⟩|⟨rfl,dh⟩⟩
 ·rw[bP,aK,wrap_i64 (by omega) (by omega)];refine⟨⟨i+1,rfl,by omega,bY,fun p bl x E=>?_⟩,by simp only[bM];omega⟩;by_cases di:p=i
  ·subst di;exact dg x E
  ·exact bo p (by omega) x E
 ·rw[aT];intro Z dj _ _;have aI:=bY.trans dj;have aU:=aA.ext (ao.trans aI);have dk:=aE.ext (ao.trans aI);have br:∀ x∈V,∀ u∈ct x,u.oneCell'=true:=fun x E=>(dk.2.1 x (am x E)).1.one;have dl:∀ u∈ct h,u.oneCell'=true:=be.one;rw[bI aD.p aD.i rfl (show Z.rangeAt bh 0 (ct h) from (bR.ext aI).range)];refine y2 (h':=V.length) bn.u aD.i aU (lg i _ rfl) h4 hi (o7 _) fun dH bZ=>?_;refine ff (f:=ct) (k:=3) (a:=h) bn.u aD.i (by omega) rfl rfl fun dJ dK az dL bt b1=>?_;refine⟨.inl bt,?_⟩;have dm:(V.drop i).take (V.length-i)=V.drop i:=j0 (by rw[List.length_drop];omega);rw[dm] at bZ;refine ul (M:=V.drop i) bn.u aD.i rfl b1 (bZ az (aU.ext bt)) (fun _ _=>rfl) (fun a aj=>br a (List.mem_of_mem_drop aj)) (by simp;omega) (by simp;omega) fun dM dN a6 bu dO dn=>?_;have b2:Ext Z a6:=bt.then dn fun r W he=>by have:=(b1.leads he).1;omega
  refine FS (f:=ct) (k:=3) bn.u aD.i fun dP dQ aN dR bw aV=>?_;have bx:=b2.trans bw;refine y2 (h':=i) bn.u aD.i (aU.ext bx) h3 (lh i _ rfl) (Z9 _) hi fun dS b5=>?_;rw[List.drop_zero,Nat.sub_zero] at b5;refine ul (M:=V.take i) bn.u aD.i rfl aV (b5 aN (aU.ext bx)) (fun _ _=>rfl) (fun a aj=>br a (List.mem_of_mem_take aj)) (by simp;omega) (by simp;omega) fun dp dT a7 dq dr b6=>?_;have dU:=b2.size;have dW:=bw.size;have ds:=(bu.ext bw).ad b6 fun r W aH=>by have:=(bu.leads W).1;have:=(bu.leads W).2;have:=(aV.leads aH).1;omega
  refine ul (M:=[h]++V.drop i) bn.u aD.i rfl dq ds.sl (fun _ _=>rfl) (fun a aj=>?_) (by simp;omega) (by simp;omega) fun dX dt ba du dv dw=>?_
  ·rcases n0.1 aj with aj|aj
   ·rw[o9.1 aj];exact dl
   ·exact br a (List.mem_of_mem_drop aj)
  have b7:Ext Z a7:=bx.then b6 fun r W he=>by have:=(aV.leads he).1;omega
  have b8:∀ r,leadsTo dp r→Z.heap.size≤r:=fun r W=>(dr r W).elim (fun h=>by have:=(aV.leads h).1;omega) fun h=>by omega
  have dy:Ext Z ba:=b7.then dw fun r W he=>by have:=b8 r he;omega
  have dY:=(aP.trans (ao.trans aI)).size;have ea:=b7.size;refine aG _ _ ⟨dt,_,(aP.trans (ao.trans aI)).trans dy,du,fun x E=>?_,?_,fun r W=>(dv r W).elim (fun h=>by have:=b8 r h;omega) fun h=>by omega⟩
  ·rcases n0.1 E with E|E
   ·exact am x (List.mem_of_mem_take (by simpa using E))
   ·rcases n0.1 E with E|E
    ·rw[o9.1 E];exact u4 ac
    ·exact am x (List.mem_of_mem_drop E)
  ·rw[aR,←aC,y4 (i:=i) (fun p bl x E=>?_) (by simpa using hi) (fun x E=>?_)]
   ·simp
   ·rw[r8] at E;cases Y:V[p]? with
    |none=>rw[Y] at E;cases E
    |some y=>rw[Y] at E;cases E;exact bo p bl y Y
   ·rw[r8] at E;cases Y:V[i]? with
    |none=>rw[Y] at E;cases E
    |some y=>rw[Y] at E;cases E;exact dh y Y
def FX (w:x5) (f:bS) (v:x4) (w':x5):Prop:=Ext w w'∧ ∃ go E,aW ct 3 aD w' go v E∧(∀ h∈E,dx w' f.sizes h∧ ∀ r,leads h.aM r→w.heap.size≤r)∧E.map cO=eG f∧ ∀ r,leadsTo v r→w.heap.size≤r
def jb (k:Int) (sc cs:List Int) (h:ch):ch:=if h.1=sc then (h.1,di k h.2 cs) else h
set_option maxHeartbeats 8000000 in
theorem FY {N:Nat} {w:x5} {bR:Nat} {f:bS} (cS:lN w bR f) (aj:eh N f):O y0 oh [.pointer (some ⟨bR,0,none⟩)] w (FX w f):=by
 have dT:=aj.k;obtain⟨aw,dW,aL,dX,be,bT,cT⟩:=id cS;obtain⟨bV,bf,cU,cV⟩:=id cT;apply oh.enter;rw[az,ah b2.p rfl,ai (by kernel_rfl) (be.cell (o:=0+3) rfl),dZ bU.u bf];refine a8.range bV.length (fun i l W=>∃ g L,Ext w W∧ir W w.heap.size g l f.sizes L∧L.map cO=dP f i) bf.le
  ⟨0,[],Ext.refl _,⟨aW.nil _ _ _ _ _,fun h X=>(by cases X),fun i j x y bg=>(by simp at bg),fun r E=>(dI E).elim⟩,rfl⟩ ?_ ?_
 rotate_left
 ·rintro l W cW ⟨g,L,al,E,am⟩;rw[←cU,yv] at am;rw[au,ag];refine⟨fun h=>by omega,fun _=>FW aj E am fun out w' go cX bg bh cY ao cZ c0=>?_⟩;have c1:=al.size;exact⟨al.trans bg,go,cX,bh,fun h X=>⟨ao h X,(E.2.1 h (cY h X)).2⟩,cZ,fun r E=>by have:=c0 r E;omega⟩
 rintro i l W cW hi ⟨g,L,al,E,am⟩ c2;obtain⟨bi,bW⟩:∃ d,bV[i]? =some d:=⟨_,x3 hi⟩;obtain⟨x,bj⟩:∃ x,f.funs[i]? =some x:=⟨_,x3 (by omega)⟩;have bk:=u4 bj;have bl:=cV i bi x bW bj;have bY:=nl aj bk;obtain⟨c3,dY,ea⟩:=yu aj i;have bZ:L.length=(dP f i).length:=by rw[←am,o4]
 have eb:=aj.iR;have b1:=bf.ext al;rw[au,ag];refine⟨fun _=>?_,fun h=>by omega⟩;refine aZ (fun l' bo=>∃ g L,Ext w bo∧ir bo w.heap.size g l' f.sizes L∧L.map cO=dP f (i+1)) ?_ ?_
 ·rintro l' bo bp;rw[aK];exact c2 _ _ bp
 intro ec b5;rw[cI rfl bU.u aF.i b1 hi,bI aF.p aF.i rfl (b1.range bW)];refine bO aF.i fun b6 ed ee c4 c5=>?_;refine b4 (vs:=dU bi) aF.i rfl rfl bl.one c5 fun c6 c7 ef c8=>?_;have b7:Ext W c6:=c4.then c7 fun r E he=>by have he:r=b6:=he;omega
 have eg:=b7.size;refine aZ (fun c9 aN=>∃ U c,c9= .pointer (some ⟨U,0,none⟩)∧Ext W aN∧ak aN U aD (ct c)∧c.sc=bd x.scope∧c.cs=(fR f.sizes f.k x).2∧dx aN f.sizes c∧W.heap.size≤U∧ ∀ r,leads c.aM r→W.heap.size≤r) ?_ ?_
 rotate_left
 ·intro ei b8;intro da ca _ _;have aP:=b7.trans ca;have aQ:=al.trans aP;have db:=c8.ext ca;have cb:=be.ext aQ;have ej:=aP.size;rw[bI aF.p aF.i rfl (show da.rangeAt b6 0 (dU bi) from db.range),az,ah b2.p rfl,ai (v:=aw) (by kernel_rfl) (cb.cell (o:=0+2) rfl),az,ah b2.p rfl,ai (v:=.int .i64 f.k) (by kernel_rfl) (cb.cell (o:=0+1) rfl)];refine⟨?_,?_⟩
  ·refine (y1 (bl.ext aQ) aj bk (bT.ext aQ)).mono ?_;rintro _ ek _ ⟨bq,c,rfl,h1,br,ao,aa⟩;refine bO aD.i fun U em cc bt aR=>?_;refine⟨.inl (bq.trans bt),?_⟩;refine b4 (vs:=ct c) aD.i rfl rfl ao.one aR fun en cd eo dc=>?_;have ep:=bq.size;refine b8 _ _ ⟨U,c,rfl,(aP.trans bq).trans (bt.then cd fun r E he=>by have he:r=U:=he;omega),dc,h1,br,?_,by omega,fun r E=>by have:=aa r E;omega⟩;exact jH (ao.ext bt) cd fun r E=>.inl ⟨_,_,by have E:r=U:=E;subst E;exact aR,by decide,by decide⟩
  ·refine bO aD.i fun U er cc aS aR=>?_;refine⟨.inl aS,?_⟩;have ce:=aQ.trans aS;refine (y1 (bl.ext ce) aj bk (bT.ext ce)).mono ?_;rintro _ es _ ⟨cg,c,rfl,h1,br,ao,aa⟩;have ch:=aR.ext cg;have et:=aS.size;refine b4 (vs:=ct c) aD.i rfl rfl ao.one ch fun eu ci ev dd=>?_;refine b8 _ _ ⟨U,c,rfl,aP.trans ((aS.trans cg).then ci fun r E he=>by have he:r=U:=he;omega),dd,h1,br,?_,by omega,fun r E=>by have:=aa r E;omega⟩;exact jH ao ci fun r E=>.inl ⟨_,_,by have E:r=U:=E;subst E;exact ch,by decide,by decide⟩
 rintro _ aN ⟨U,c,rfl,bu,de,aB,aT,df,cc,aa⟩;have cj:=E.ext bu;have dg:∀ h∈L,∀ r,leads h.aM r→r<W.heap.size:=fun h X r dh=>by
  obtain⟨⟨_,_,dj,ck⟩,_⟩:=E.2.1 h X;have:=bX ck dh;omega
 have dk:∀ {j:Nat},decide (c.sc∈(L.take j).map (·.sc))=decide (bd x.scope∈((dP f i).take j).map (·.1)):=fun {j}=>by
  rw[aB,←am,←List.map_take,List.map_map];rfl
 have c1:=al.size;rw[dZ bn.u cj.1];refine a8.range L.length (fun j aL ab=>∃ I,aL= .bool (decide (c.sc∈(L.take j).map (·.sc)))∧Ext w ab∧W.heap.size≤ab.heap.size∧ir ab w.heap.size g l f.sizes I∧I.map cO=((dP f i).map (jb f.k c.sc c.cs)).take j++(dP f i).drop j∧ak ab U aD (ct c)∧dx ab f.sizes c∧ ∀ h∈I,∀ r,leads h.aM r→r<W.heap.size) E.1.le
  ⟨L,by simp,al.trans bu,bu.size,cj,by simpa using am,de,df,dg⟩ ?_ ?_
 ·rintro j _ ab dl cl ⟨I,rfl,aC,dm,aU,Z,bw,bx,ap⟩ dn;have dp:I.length=L.length:=by
   have:=congrArg W8 Z;simp only[o4,o5,l6,List.length_drop] at this;omega
  obtain⟨h,X⟩:∃ h,I[j]? =some h:=⟨_,x3 (by omega)⟩;have aV:(dP f i)[j]? =some (cO h):=by
   have cm:(I.map cO)[j]? =some (cO h):=by rw[r8,X];rfl
   rw[Z,y3 (by rw[o4];omega)] at cm;exact cm
  have aX:((dP f i).map (jb f.k c.sc c.cs))[j]? =some (jb f.k c.sc c.cs (cO h)):=by rw[r8,aV];rfl
  have dq:∃ y,L[j]? =some y∧y.sc=h.sc:=by
   refine⟨_,x3 cl,?_⟩;rw[←am,r8,x3 cl] at aV;exact congrArg Prod.fst (b9 aV)
  obtain⟨y,Y,ds⟩:=dq;have bz:(c.sc∈(L.take (j+1)).map (·.sc))↔c.sc∈(L.take j).map (·.sc)∨h.sc=c.sc:=by
   rw[o3,Y,j5,j4,n0,List.map_singleton,o9,ds];exact or_congr Iff.rfl ⟨fun e=>e.symm,fun e=>e.symm⟩
  have cn:ey f.sizes f.k (cO h):=c3 _ (u4 aV);rw[au,ag];refine⟨fun _=>?_,fun h=>by omega⟩;refine aZ (fun aL ac=>∃ I,aL= .bool (decide (c.sc∈(L.take (j+1)).map (·.sc)))∧Ext w ac∧W.heap.size≤ac.heap.size∧ir ac w.heap.size g l f.sizes I∧I.map cO=((dP f i).map (jb f.k c.sc c.cs)).take (j+1)++(dP f i).drop (j+1)∧ak ac U aD (ct c)∧dx ac f.sizes c∧ ∀ h∈I,∀ r,leads h.aM r→r<W.heap.size) ?_ ?_
  ·rintro ew ac bp;rw[aK];exact dn _ _ bp
  intro ez cp;intro dt aE _ _;have aY:=aU.ext aE;have cq:=bw.ext aE;have cr:=bx.ext aE;obtain⟨du,eA⟩:=aY.2.1 h (u4 X);obtain⟨⟨eB,h1⟩,_,dj,ck⟩:=id du;obtain⟨⟨eC,dv⟩,_,eD,cu⟩:=id cr;rw[cI rfl bn.u aD.i aY.1 (by omega),ah aD.p rfl,ai (v:=h.a6) (by kernel_rfl) (aY.1.range X 0 _ rfl),ah aD.p rfl,ai (v:=c.a6) (by kernel_rfl) (cq.cell (o:=0+0) rfl)];refine (Bu h1.ls dv.ls).mono ?_;rintro _ eE _ ⟨rfl,ax⟩;have cw:=aY.ext ax;have bA:=cq.ext ax;have cz:=cr.ext ax;have cA:=(aC.trans aE).trans ax;have z9:=(aE.trans ax).size;rw[ag];refine⟨fun bB=>?_,fun cB=>?_⟩
  rotate_left
  ·refine cp _ _ ⟨I,?_,cA,by omega,cw,?_,bA,cz,ap⟩
   ·congr 1;exact decide_eq_decide.2 ⟨fun h=>bz.2 (.inl h),fun h=>(bz.1 h).resolve_right cB⟩
   ·have e:jb f.k c.sc c.cs (cO h)=cO h:=if_neg cB;rw[e] at aX;rw[←r4 (by omega) aX,←Z];symm;refine X6 fun p=>?_;rw[Y7];by_cases aH:j=p
    ·subst aH;rw[if_pos rfl,if_pos (by simp;omega),r8,X];rfl
    ·rw[if_neg aH]
  have dw:h.cs.length=c.cs.length:=by
   have dy:h.cs.length=_:=cn.len;have dz:c.cs.length=(aG (bF f.sizes (fR f.sizes f.k x).1)).toNat:=by rw[aT];exact bY.len
   rw[dy,dz,show (cO h).1=h.sc from rfl,bB,aB];rfl
  have eF:(di f.k h.cs c.cs).length=h.cs.length:=by unfold di;rw[List.length_zipWith];omega
  rw[ah aD.p rfl,ai (v:=c.aM) (by kernel_rfl) (bA.cell (o:=0+2) rfl),aO af.u (cu.ext ax).ls];refine bc.range c.cs.length (fun s aq=>Ext w aq∧W.heap.size≤aq.heap.size∧ir aq w.heap.size g l f.sizes (I.set j {h with cs:=(di f.k h.cs c.cs).take s++h.cs.drop s})∧ak aq U aD (ct c)∧dx aq f.sizes c) cu.ls.le
   ⟨cA,by omega,?_,bA,cz⟩ ?_ ?_
  ·have e:I.set j {h with cs:=(di f.k h.cs c.cs).take 0++h.cs.drop 0}=I:=by
    refine X6 fun p=>?_;rw[Y7];by_cases aH:j=p
    ·subst aH;rw[if_pos rfl,if_pos (by omega),X];rfl
    ·rw[if_neg aH]
   rw[e];exact cw
  ·rintro s aq dA bC ⟨bD,cC,a1,bE,bG⟩ dB;rw[au,ag];refine⟨fun _=>?_,fun h=>by omega⟩;intro eG aI _ _;have ay:=a1.ext aI;have cD:=bE.ext aI;have cF:=bG.ext aI;have cG:=bD.trans aI;have a2:(I.set j {h with cs:=(di f.k h.cs c.cs).take s++h.cs.drop s})[j]? =some {h with cs:=(di f.k h.cs c.cs).take s++h.cs.drop s}:=by
    rw[Y7,if_pos rfl,if_pos (by omega)]
   have cH:j<(I.set j {h with cs:=(di f.k h.cs c.cs).take s++h.cs.drop s}).length:=by rw[W0];omega
   obtain⟨⟨_,_,dC,bH⟩,dD⟩:=ay.2.1 _ (u4 a2);obtain⟨_,_,eH,dE⟩:=id cF;obtain⟨a,bJ⟩:∃ a,h.cs[s]? =some a:=⟨_,x3 (by omega)⟩;obtain⟨b,aJ⟩:∃ b,c.cs[s]? =some b:=⟨_,x3 bC⟩;have dF:s<({h with cs:=(di f.k h.cs c.cs).take s++h.cs.drop s}:dV).cs.length:=by show s<((di f.k h.cs c.cs).take s++h.cs.drop s).length;rw[o5,l6,List.length_drop];omega
   have dG:((di f.k h.cs c.cs).take s++h.cs.drop s)[s]? =some a:=by rw[y3 (by omega)];exact bJ
   have bK:(di f.k h.cs c.cs)[s]? =some (min (a+b) f.k):=by
    unfold di;rw[List.getElem?_zipWith,bJ,aJ]
   have eI:=cn.hh a (u4 bJ);have eJ:=bY.hh b (by rw[←aT];exact u4 aJ);have dH:=be.ext cG;rw[cI rfl bn.u aD.i ay.1 cH,ah aD.p rfl,ai (v:=h.aM) (by kernel_rfl) (ay.1.range a2 2 _ rfl),cI rfl bn.u aD.i ay.1 cH,ah aD.p rfl,ai (v:=h.aM) (by kernel_rfl) (ay.1.range a2 2 _ rfl),bm af.u ae.i (by kernel_rfl) bH.ls dG,ah aD.p rfl,ai (v:=c.aM) (by kernel_rfl) (cD.cell (o:=0+2) rfl),bm af.u ae.i (by kernel_rfl) dE.ls aJ,az,ah b2.p rfl,ai (v:=.int .i64 f.k) (by kernel_rfl) (dH.cell (o:=0+1) rfl)];refine (ti (by omega) (by omega)).mono ?_;rintro _ eL _ ⟨rfl,aA⟩;refine⟨.inl aA,?_⟩;have z12:=(aI.trans aA).size;refine FT (h:={h with cs:=(di f.k h.cs c.cs).take s++h.cs.drop s}) (ay.ext aA) a2 dF fun eM a7 cJ bL=>?_;rw[aK];have dJ:=cF.ext aA;have cK:=cD.ext aA;have eN:=a7.size;refine dB _ ⟨(cG.trans aA).then a7 fun r E he=>by have:=dD r he;omega,by omega,?_,?_,?_⟩
   ·rw[List.set_set] at bL;have e:=r4 (A:=di f.k h.cs c.cs) (B:=h.cs) (s:=s) (by omega) bK;simp only[e] at bL;exact bL
   ·exact cK.ad a7 fun bC=>by
     obtain⟨eO,dK⟩:=cJ _ bC;exact absurd (eK cK dK) (by decide)
   ·refine jH dJ a7 fun r E=>.inr (.inr ⟨cJ r E,fun dL=>?_⟩);have:=aa r dL;have:=ap h (u4 X) r E;omega
  ·rintro aq dA ⟨bD,cC,a1,bE,bG⟩;rw[au,ag];refine⟨fun h=>by omega,fun _=>?_⟩;have e:(di f.k h.cs c.cs).take c.cs.length++h.cs.drop c.cs.length=di f.k h.cs c.cs:=by
    rw[←dw,List.drop_length,U3,j0 (by omega)]
   simp only[e] at a1;refine cp _ _ ⟨_,?_,bD,cC,a1,?_,bE,bG,fun z V r E=>?_⟩
   ·congr 1;symm;exact decide_eq_true (bz.2 (.inr bB))
   ·have dM:jb f.k c.sc c.cs (cO h)=cO {h with cs:=di f.k h.cs c.cs}:=if_pos bB;rw[dM] at aX;rw[List.map_set,Z,r4 (by omega) aX]
   ·rcases V1 V with V|rfl
    ·exact ap z V r E
    ·exact ap h (u4 X) r E
 rintro _ ab dl ⟨I,rfl,aC,dm,aU,Z,bw,bx,ap⟩;rw[au,ag];refine⟨fun h=>by omega,fun _=>?_⟩;rw[dk,bZ,l5,b3,cE];have cL:=tP bj;have bK:((dP f i).map (jb f.k c.sc c.cs)).take L.length++(dP f i).drop L.length=(dP f i).map (jb f.k c.sc c.cs):=by
  rw[bZ,List.drop_length,U3,j0 (by rw[o4];exact o7 _)]
 rw[bK] at Z;have dp:I.length=L.length:=by
  have:=congrArg W8 Z;rw[o4,o4] at this;omega
 refine⟨fun ba=>?_,fun bM=>?_⟩
 ·have ba:bd x.scope∉(dP f i).map (·.1):=by simpa using ba
  have dN:(dP f i).map (jb f.k c.sc c.cs)=dP f i:=by
   refine (List.map_congr_left fun z V=>?_).trans (List.map_id _);exact if_neg fun he=>ba (l9.2 ⟨z,V,by rw[he,aB]⟩)
  rw[dN] at Z;rw[bI aD.p aD.i rfl (show ab.rangeAt U 0 (ct c) from bw.range)];refine ff (f:=ct) (k:=3) (a:=c) bn.u aD.i (by omega) rfl rfl fun eP dC ac eQ bb bH=>?_;have av:=aU.ext bb;have cM:=bx.ext bb;refine fo (f:=ct) (a:=c) bn.u aD.i rfl av.1 (by simpa using bH.sl) cM.one (by omega) (by omega) fun eR dO dt bh dQ bN=>?_;have cN:∀ r,leadsTo l r→ ∃ e c,ak ac r e c∧e≠J∧e≠ae:=fun r E=>by
   obtain⟨rfl,c,aJ⟩:=dr av.1 E;exact⟨_,c,aJ,by decide,by decide⟩
  have eS:=bb.size;have eT:=aC.size;refine b5 _ _ ⟨dO,I++[c],(aC.trans bb).then bN fun r E he=>by have:=av.2.2.2 r he;omega,⟨bh,fun z V=>?_,fun p q y z Y V dR r bP bQ=>?_,fun r E=>(dQ r E).elim (av.2.2.2 r) fun h=>by omega⟩,?_⟩
  ·rcases n0.1 V with V|V
   ·exact⟨jH (av.2.1 z V).1 bN fun r E=>.inl (cN r E),(av.2.1 z V).2⟩
   ·rw[o9.1 V];exact⟨jH cM bN fun r E=>.inl (cN r E),fun r E=>by have:=aa r E;omega⟩
  ·have cP:∀ {p:Nat} {y:dV},(I++[c])[p]? =some y→I[p]? =some y∨(p=I.length∧y=c):=fun {p y} Y=>by
    rw[List.getElem?_append] at Y;split at Y
    ·exact .inl Y
    ·by_cases dS:p-I.length=0
     ·rw[dS] at Y;cases Y;exact .inr ⟨by omega,rfl⟩
     ·rw[Z8 (by simp;omega)] at Y;cases Y
   rcases cP Y with cQ|⟨eU,rfl⟩ <;> rcases cP V with cR|⟨eq,rfl⟩
   ·exact av.2.2.1 p q y z cQ cR dR r bP bQ
   ·have:=ap y (u4 cQ) r bP;have:=aa r bQ;omega
   ·have:=ap z (u4 cR) r bQ;have:=aa r bP;omega
   ·omega
  ·rw[j4,Z,cL,yt fun z V he=>ba (l9.2 ⟨z,V,he⟩)];show _++[(c.sc,c.cs)]=_;rw[aB,aT];rfl
 ·have bM:bd x.scope∈(dP f i).map (·.1):=by simpa using bM
  refine b5 _ _ ⟨g,I,aC,aU,?_⟩;rw[Z,cL];unfold gj;rw[if_pos (show (fR f.sizes f.k x).1∈_ from bM)];refine List.map_congr_left fun z _=>?_;unfold jb;rw[aB,aT];rfl
def um (w:x5) (v:x4) (n:bY):Prop:=∃ aw U E V I O W L,v= .agg #[.int .i64 n.k,aw,.int .i64 n.zero,E,O]∧aq .i64 J w U aw n.sizes∧fH w V E I∧I.map (·.l)=n.unary∧aW ct 3 aD w W O L∧(∀ h∈L,dx w n.sizes h)∧L.map cO=n.funs
def z9:List x4:=[.int .i64 0,.slice none 0 0,.int .i64 0,.slice none 0 0,.slice none 0 0]
def kz (w:x5) (C I gs go:Nat) (aw aM:x4) (f:bS) (E:List dV) (w':x5):Prop:=Ext w w'∧C≤w'.heap.size∧ak w' I bT z9∧aq .i64 J w' gs aw f.sizes∧aW ct 3 aD w' go aM E∧(∀ r,leadsTo aM r→r<C)∧ ∀ h∈E,dx w' f.sizes h
theorem kz.ext {w w' I:x5} {C J gs go:Nat} {aw aM:x4} {f:bS} {O:List dV} (h:kz w C J gs go aw aM f O w') (E:Ext w' I):kz w C J gs go aw aM f O I:=by
 obtain⟨h1,aa,U,V,W,X,Y⟩:=h;have:=E.size;exact⟨h1.trans E,by omega,U.ext E,V.ext E,W.ext E,X,fun x Z=>(Y x Z).ext E⟩
def FZ (w w':x5) (C E:Nat) (r:Nat):Prop:=w.heap.size≤r∧r≠E∧((∃ c,ak w' r bT c)∨(∃ c,ak w' r af c)∨((∃ c,ak w' r aD c)∧C≤r))
theorem kz.ad {w w' Y:x5} {S:Nat→Prop} {C W gs go:Nat} {aw aM:x4} {f:bS} {Z:List dV} (h:kz w C W gs go aw aM f Z w') (U:aj S w' Y) (V:∀ r,S r→FZ w w' C W r):kz w C W gs go aw aM f Z Y:=by
 obtain⟨h1,ai,ac,aa,X,ab,af⟩:=h;have:=U.size;have ty:∀ r,S r→ ∃ e c,ak w' r e c∧e≠J∧e≠ae:=fun r I=>by
  obtain⟨_,_,⟨c,E⟩|⟨c,E⟩|⟨⟨c,E⟩,_⟩⟩:=V r I
  ·exact⟨_,c,E,by decide,by decide⟩
  ·exact⟨_,c,E,by decide,by decide⟩
  ·exact⟨_,c,E,by decide,by decide⟩
 refine⟨h1.then U fun r I O=>by have:=(V r O).1;omega,by omega,ac.ad U fun O=>(V _ O).2.1 rfl,bp aa U fun r I O=>?_,X.ad U fun r I O=>?_,ab,fun x ag=>jH (af x ag) U fun r I=>.inl (ty r I)⟩
 ·obtain⟨e,c,E,ah,_⟩:=ty r O;exact bW aa E (fun he=>ah he.symm) I rfl
 ·obtain⟨_,_,⟨c,E⟩|⟨c,E⟩|⟨_,al⟩⟩:=V r O
  ·exact cp X E (by decide) I
  ·exact cp X E (by decide) I
  ·have:=ab r I;omega
def y7 (w:x5) (C O:Nat) (aw:x4) (k:Int) (n:bY) (U:List dV) (w':x5):Prop:=∃ E V J I W L,ak w' O bT [.int .i64 k,aw,.int .i64 n.zero,E,I]∧fH w' V E J∧J.map (·.l)=n.unary∧(∀ r,leadsTo E r→w.heap.size≤r)∧aW ct 3 aD w' W I L∧(∀ h∈L,h∈U)∧L.map cO=n.funs∧ ∀ r,leadsTo I r→C≤r
set_option maxHeartbeats 8000000 in
theorem y8 {N:Nat} {w:x5} {ck:Nat} {f:bS} (cl:lN w ck f) (av:eh N f):O y0 nW [.pointer (some ⟨ck,0,none⟩)] w fun v w'=>Ext w w'∧um w' v (dq f):=by
 have dV:=av.k;have dX:=av.sizes.2.1;obtain⟨c6,dY,ea,eb,cm,cn,ec⟩:=id cl;apply nW.enter;refine bO bT.i fun ax c7 ed be bf=>?_;have bf:ak c7 ax bT z9:=bf;rw[az,ah b2.p rfl,ai (v:=.int .i64 f.k) (by kernel_rfl) ((cm.ext be).cell (o:=0+1) rfl),cW (cs:=#[.int .i64 f.k,.slice none 0 0,.int .i64 0,.slice none 0 0,.slice none 0 0]) (by kernel_rfl)];refine bO bT.i fun W ee ef cq c8=>?_;refine b4 (vs:=[.int .i64 f.k,.slice none 0 0,.int .i64 0,.slice none 0 0,.slice none 0 0]) bT.i rfl rfl (by intro u hu;simp at hu;rcases hu with rfl|rfl|rfl|rfl <;> rfl) c8 fun c9 cr eg da=>?_;have bK:Ext w c9:=(be.trans cq).then cr fun r E he=>by have he:r=W:=he;have:=be.size;omega
 have ei:=bf.lt;have Z:W≠ax:=by omega
 have db:=(bf.ext cq).ad cr fun he=>by have he:ax=W:=he;omega
 rw[az,ah b2.p rfl,ai (v:=c6) (by kernel_rfl) ((cm.ext bK).cell (o:=0+2) rfl),aO af.u (cn.ext bK).ls];have ej:=be.size;refine bc.range f.sizes.length (fun i aC=>Ext w aC∧ak aC ax bT z9∧ ∃ aw gs V ac X,ak aC W bT [.int .i64 f.k,aw,.int .i64 0,V,.slice none 0 0]∧aq .i64 J aC gs aw (f.sizes.take i)∧(∀ r,leads aw r→w.heap.size≤r)∧fH aC ac V X∧X.map (·.l)=(f.sizes.take i).map (fun z=>p9 z.toNat 0)∧ ∀ r,leadsTo V r→w.heap.size≤r) (by omega)
  ⟨bK,db,_,0,_,0,[],da,aq.nil _ _ _ _,(fun r E=>by obtain⟨a,n,c,dc,ek⟩:=E;cases dc),⟨aW.nil _ _ _ _ _,fun x bM=>(by cases bM)⟩,rfl,fun r E=>(dI E).elim⟩ ?_ ?_
 ·rintro i aC dd hi ⟨aE,bN,aw,gs,V,ac,X,aX,bg,bP,bR,aY,bh⟩ de;obtain⟨z,Y⟩:∃ z,f.sizes[i]? =some z:=⟨_,x3 hi⟩;have em:=av.sizes.2.2 z (u4 Y);have en:X.length=i:=by have:=congrArg W8 aY;simp only[o4,l6] at this;omega
  rw[au,ag];refine⟨fun _=>?_,fun h=>by omega⟩;rw[bm af.u ae.i (by kernel_rfl) (cn.ext aE).ls Y,ah bT.p rfl,ai (v:=aw) (by kernel_rfl) (aX.cell (o:=0+1) rfl)];refine dW (k:=.i64) ab.u J.i rfl fun a5 eo cu ep aP df=>?_;have aZ:=bg.ext aP;refine gr ab.u J.i rfl aZ df.ls (by simp;omega) (by simp;omega) fun bU cw er bi dg cz=>?_;have bV:=aX.ext aP;have cA:=bN.ext aP;have cB:=bV.ad cz fun he=>bW aZ bV (by decide) he rfl;rw[ah bT.p rfl];refine bE (g:=W) (o:=1) ab.i bi.ls.cells.1 bi.ls.cells.2 cB (by simp) fun bj cC es bk=>?_;have bk:ak bj W bT [.int .i64 f.k,bU,.int .i64 0,V,.slice none 0 0]:=bk;have bY:aj (fun r=>leads aw r∨r=W) cu bj:=(cz.mono fun r _ h=>.inl h).trans (cC.mono fun r _ h=>.inr h);have dh:aq .i64 J bj cw bU (f.sizes.take (i+1)):=by
   rw[o3,Y];exact bp bi cC fun r E he=>by
    have he:r=W:=he;subst he;exact bW bi cB (by decide) E rfl
  have aQ:∀ r,(leads aw r∨r=W)→ ∃ e c,ak cu r e c∧e≠ae∧e≠af:=fun r E=>by
   rcases E with E|rfl
   ·obtain⟨rfl,_⟩:=bX aZ E;obtain⟨_,⟨di,_⟩|⟨cap,full,_,I,_⟩⟩:=aZ
    ·obtain⟨a,n,c,e,_⟩:=E;rw[di] at e;cases e
    ·exact⟨_,_,I,by decide,by decide⟩
   ·exact⟨_,_,bV,by decide,by decide⟩
  have dj:=(bR.ext aP).ad bY aQ;have z4:=aE.size;have z5:=aP.size;have cD:Ext w bj:=(aE.trans aP).then bY fun r E he=>by
   rcases he with he|he
   ·have:=bP r he;omega
   ·omega
  have dk:=cA.ad bY fun U=>by
   rcases U with U|U
   ·exact bW aZ cA (by decide) U rfl
   ·omega
  intro et cE _ _;have dl:=bk.ext cE;rw[ah bT.p rfl,ai (v:=V) (by kernel_rfl) (dl.cell (o:=0+3) rfl)];obtain⟨aF,rfl⟩:∃ n:Nat,z=n:=⟨z.toNat,by omega⟩;refine hz (k:=.i64) af.u ae.i (by omega) (by omega) fun bl dm eu b1 dn=>?_;refine⟨.inl b1,?_⟩;have dp:aq .i64 ae dm bl (.slice (some ⟨bl,0,none⟩) aF aF) (p9 aF 0):=aq.of (bL.full (k:=1) (n:=aF) dn (by simp) (by simp[maxLen];omega));let a:e4:=⟨.slice (some ⟨bl,0,none⟩) aF aF,p9 aF 0⟩;refine ff (f:=hK) (a:=a) bZ.u af.i (by omega) rfl rfl fun ew ez b3 eA b5 ds=>?_;refine⟨.inl (b1.trans b5),?_⟩;have aR:=(cE.trans b1).trans b5;have a1:=dj.ext aR;refine fo (f:=hK) (a:=a) bZ.u af.i rfl a1.1 (by simpa using ds.sl) (fun u hu=>by rw[o9.1 (show u∈[a.v] from hu)];rfl) (by omega) (by omega) fun b6 b7 eB al b8 cF=>?_;have aS:∀ {r:Nat},leadsTo V r→ ∃ c,ak b3 r af c:=fun E=>by
   obtain⟨rfl,c,I⟩:=dr a1.1 E;exact⟨c,I⟩
  have b9:=bk.ext aR;have cG:=b9.ad cF fun he=>cp a1.1 b9 (by decide) he;rw[ah bT.p rfl];refine bE bZ.i (cJ al.sl).1 (cJ al.sl).2 cG (by simp) fun dt cH eC du=>?_;rw[aK];have ay:aj (fun r=>leadsTo V r∨r=W) b3 dt:=(cF.mono fun r _ h=>.inl h).trans (cH.mono fun r _ h=>.inr h);have ca:∀ r,(leadsTo V r∨r=W)→ ∃ e c,ak b3 r e c∧e≠ae∧e≠J:=fun r E=>by
   rcases E with E|rfl
   ·obtain⟨c,I⟩:=aS E;exact⟨_,c,I,by decide,by decide⟩
   ·exact⟨_,_,b9,by decide,by decide⟩
  have cK:=dh.ext aR;have eD:=cD.size;have eH:=aR.size;have cL:=dk.ext aR;refine de _ ⟨(cD.trans aR).then ay (fun r E he=>?_),cL.ad ay (fun U=>?_),bU,cw,b6,b7,X++[a],du,bp cK ay (fun r E U=>?_),fun r E=>?_,⟨al.ad cH fun r E he=>?_,fun y am=>?_⟩,?_,fun r E=>?_⟩
  ·rcases he with he|rfl
   ·have:=bh r he;omega
   ·omega
  ·rcases U with U|U
   ·exact cp a1.1 cL (by decide) U
   ·omega
  ·obtain⟨e,c,I,_,Z⟩:=ca r U;exact bW cK I (fun he=>Z he.symm) E rfl
  ·rcases dg r E with h|h
   ·exact bP r h
   ·omega
  ·have he:r=W:=he;subst he;exact cp al cG (by decide) E
  ·rcases n0.1 am with am|am
   ·exact a1.p7 ay (fun r E=>by obtain⟨e,c,I,Z,_⟩:=ca r E;exact⟨e,c,I,Z⟩) y am
   ·rw[o9.1 am];have cM:=dp.ext b5;exact⟨bl,bp cM ay fun r E U=>by
     obtain⟨e,c,I,Z,_⟩:=ca r U;exact bW cM I (fun he=>Z he.symm) E rfl⟩
  ·rw[j4,aY,o3,Y,j5,j4];rfl
  ·rcases b8 r E with h|h
   ·exact bh r h
   ·omega
 rintro aC dd ⟨aE,bN,aw,gs,V,ac,X,aX,bg,bP,bR,aY,bh⟩;rw[au,ag];refine⟨fun h=>by omega,fun _=>?_⟩;rw[l5] at bg aY;refine (FY (cl.ext aE) av).mono ?_;rintro aM bo _ ⟨aT,go,ao,al,dv,cN,eI⟩;have cP:ao.length=(eG f).length:=by rw[←cN,o4]
 have eJ:ao.length≤256:=by
  have h1:=(pY av).2.length_eq;have bq:=(iX av).2.2;have eL:=List.length_filter_le eF (ev f);have eM:=av.iR;omega
 have z4:=aE.size;have eO:=aT.size;have eP:=aX.lt;rw[dZ bn.u al];refine bc.range ao.length (fun i aH=>kz w bo.heap.size ax gs go aw aM f ao aH∧y7 w bo.heap.size W aw f.k (c4 f i) ao aH) al.le
  ⟨⟨aE.trans aT,o7 _,bN.ext aT,bg.ext aT,al,fun r E=>by have:=al.leads E;omega,fun h cb=>(dv h cb).1⟩,V,ac,X,_,0,[],aX.ext aT,bR.ext aT,aY,bh,aW.nil _ _ _ _ _,fun x bM=>(by cases bM),rfl,fun r E=>(dI E).elim⟩ ?_ ?_
 rotate_left
 ·rintro aH dw ⟨aU,V,ac,X,aA,br,L,bt,bu,aI,a2,a7,a8,aJ,ba⟩;obtain⟨dx,eQ,cQ,cc,eR,eS,dy⟩:=id aU;have bw:=no f ao.length;rw[cP,rV] at bw;rw[cP,rV] at bt aI aJ;rw[au,ag];refine⟨fun h=>by omega,fun _=>?_⟩;rw[bI bT.p bT.i rfl (show aH.rangeAt W 0 [.int .i64 f.k,aw,.int .i64 (dq f).zero,V,aA] from bt.range)];refine b4 (vs:=[.int .i64 f.k,aw,.int .i64 (dq f).zero,V,aA]) bT.i rfl rfl (fun u hu=>?_) cQ fun eT bb eU dz=>?_
  ·simp at hu;rcases hu with rfl|rfl|rfl|rfl|rfl
   ·rfl
   ·exact cc.ls.cells.2
   ·rfl
   ·exact (cJ bu.1.sl).2
   ·exact (cJ a7.sl).2
  rw[eN bT.p bT.i rfl dz.range];have aQ:∀ r,r=ax→ ∃ e c,ak aH r e c∧e≠ae∧e≠af∧e≠J∧e≠aD:=fun r E=>by
   subst E;exact⟨_,_,cQ,by decide,by decide,by decide,by decide⟩
  refine⟨dx.then bb fun r E he=>by have he:r=ax:=he;omega,aw,gs,V,ac,X,aA,br,L,?_,?_,bu.ad bb (fun r E=>?_),aI,a7.ad bb (fun r E U=>?_),fun h cb=>?_,aJ⟩
  ·rw[bw.1]
  ·rw[bw.2.1];refine bp cc bb fun r E U=>?_;obtain⟨e,c,I,_,_,Z,_⟩:=aQ r U;exact bW cc I (fun he=>Z he.symm) E rfl
  ·obtain⟨e,c,I,h1,bq,_⟩:=aQ r E;exact⟨e,c,I,h1,bq⟩
  ·obtain⟨e,c,I,_,_,_,Z⟩:=aQ r U;exact cp a7 I (fun he=>Z he.symm) E
  ·rw[bw.2.1];exact jH (dy h (a8 h cb)) bb fun r E=>by
    obtain⟨e,c,I,h1,_,bq,_⟩:=aQ r E;exact .inl ⟨e,c,I,bq,h1⟩
 rintro i aH dw hi ⟨aU,V,ac,X,aA,br,L,bt,bu,aI,a2,a7,a8,aJ,ba⟩ dA;obtain⟨y,am⟩:∃ y,ao[i]? =some y:=⟨_,x3 hi⟩;have bx:=u4 am;have cR:(eG f)[i]? =some (cO y):=by rw[←cN,r8,am];rfl
 have cd:ey f.sizes f.k (cO y):=rE av _ (u4 cR);have ce:=tR cR;obtain⟨eV,eW,eX,eY⟩:=no f i;rw[au,ag];refine⟨fun _=>?_,fun h=>by omega⟩;refine dF (fun cg=>kz w bo.heap.size ax gs go aw aM f ao cg∧y7 w bo.heap.size W aw f.k (c4 f (i+1)) ao cg) ?_ ?_
 ·rintro cg h;rw[aK];exact dA _ h
 intro eZ ch;rw[cI rfl bn.u aD.i aU.2.2.2.2.1 hi,bI aD.p aD.i rfl (aU.2.2.2.2.1.range am)];refine bO aD.i fun cS e0 e1 dB dC=>?_;refine b4 (vs:=ct y) aD.i rfl rfl (aU.2.2.2.2.2.2 y bx).one dC fun cT dD e2 bz=>?_;have bA:Ext aH cT:=dB.then dD fun r E he=>by have he:r=cS:=he;omega
 have bB:=aU.ext bA;have aL:=bt.ext bA;have ci:=bu.ext bA;have bC:=a7.ext bA;obtain⟨e3,e5,cU,e6,e7,e8,cV⟩:=id bB;obtain⟨⟨e9,cX⟩,_,dE,cY⟩:=cV y bx;rw[ah aD.p rfl,ai (v:=y.a6) (by kernel_rfl) (bz.cell (o:=0+0) rfl),aO ab.u cX.ls];have fa:X.length=f.sizes.length:=by have:=congrArg W8 aI;rw[o4] at this;omega
 have fb:L.length≤256:=by have:=congrArg W8 aJ;rw[o4] at this;omega
 rw[bQ,ag];refine⟨fun fc=>?_,fun fd=>?_⟩
 ·
  have aN:y.sc=[]:=j9 (by omega);have aa:c4 f (i+1)={c4 f i with zero:=y.cs.getD 0 0}:=by rw[ce];unfold gJ;simp only[cO,aN]
  have fe:y.cs.length=1:=by have:=cd.len;simpa[cO,aN,bF,aG] using this
  have dG:y.cs[0]? =some (y.cs.getD 0 0):=by rw[p8,x3 (by omega)];rfl
  rw[ah aD.p rfl,ai (v:=y.aM) (by kernel_rfl) (bz.cell (o:=0+2) rfl),eE (y:=0) (i:=0) rfl af.u ae.i (by kernel_rfl) cY.ls dG,ah bT.p rfl];refine bE ae.i rfl rfl aL (by simp) fun dH ap dJ dK=>?_;refine ch _ ⟨bB.ad ap fun r E=>?_,V,ac,X,aA,br,L,?_,ci.ad ap (fun r E=>?_),by rw[aa];exact aI,a2,bC.ad ap (fun r E U=>?_),a8,by rw[aa];exact aJ,ba⟩
  ·have E:r=W:=E;subst E;exact⟨by omega,Z,.inl ⟨_,aL⟩⟩
  ·rw[aa];exact dK
  ·have E:r=W:=E;subst E;exact⟨_,_,aL,by decide,by decide⟩
  ·have U:r=W:=U;subst U;exact cp bC aL (by decide) E
 rw[bQ,ag];refine⟨fun h1=>?_,fun fg=>?_⟩
 ·
  obtain⟨v,aN⟩:∃ v,y.sc=[v]:=V6.1 (by omega);have fh:=cd.scope.1 v (by show v∈y.sc;rw[aN];exact .head _);have fi:=cd.vars v (by show v∈y.sc;rw[aN];exact .head _);have aa:c4 f (i+1)={c4 f i with unary:=(c4 f i).unary.set v.toNat y.cs}:=by rw[ce];unfold gJ;simp only[cO,aN]
  intro dL aB _ _;have cj:=aL.ext aB;have cZ:=bz.ext aB;have bd:=ci.ext aB;have dM:=bB.ext aB;have c0:=bC.ext aB;rw[ah bT.p rfl,ai (v:=V) (by kernel_rfl) (cj.cell (o:=0+3) rfl),ah aD.p rfl,ai (v:=y.a6) (by kernel_rfl) (cZ.cell (o:=0+0) rfl)];refine q4 (y:=0) (i:=0) rfl ab.u J.i (cX.ls.ext aB) (show y.sc[0]? =some v by rw[aN];rfl) fun b o dN=>?_;rw[ai (by kernel_rfl) dN,ah aD.p rfl,ai (v:=y.aM) (by kernel_rfl) (cZ.cell (o:=0+2) rfl)];obtain⟨u,hu⟩:∃ u,X[v.toNat]? =some u:=⟨_,x3 (by omega)⟩;rw[cI (i:=v.toNat) (by omega) bZ.u af.i bd.1 (by omega)];let a:e4:=⟨y.aM,y.cs⟩;have bD:=cY.ext aB;refine nf (f:=hK) (j:=0) (a:=u) (a':=a) af.i bD.ls.cells.1 bD.ls.cells.2 bd.1 hu rfl (by omega) fun dH ap dJ dO=>?_;have aS:∀ {r:Nat},leadsTo V r→ ∃ c,ak dL r af c:=fun E=>by
   obtain⟨rfl,c,I⟩:=dr bd.1 E;exact⟨c,I⟩
  refine ch _ ⟨dM.ad ap fun r E=>?_,V,ac,X.set v.toNat a,aA,br,L,?_,⟨dO,fun z Y=>?_⟩,?_,a2,c0.ad ap (fun r E U=>?_),a8,by rw[aa];exact aJ,ba⟩
  ·obtain⟨c,I⟩:=aS E;exact⟨a2 r E,fun he=>(by subst he;exact absurd (eK I (cU.ext aB)) (by decide)),.inr (.inl ⟨c,I⟩)⟩
  ·rw[aa];exact cj.ad ap fun he=>cp bd.1 cj (by decide) he
  ·rcases V1 Y with Y|rfl
   ·exact bd.p7 ap (fun r E=>by obtain⟨c,I⟩:=aS E;exact⟨_,c,I,by decide⟩) z Y
   ·exact⟨dE,bp bD ap fun r E U=>by
     obtain⟨c,I⟩:=aS U;exact bW bD I (by decide) E rfl⟩
  ·rw[aa,List.map_set,aI]
  ·obtain⟨c,I⟩:=aS U;exact cp c0 I (by decide) E
 ·
  have aa:c4 f (i+1)={c4 f i with funs:=(c4 f i).funs++[cO y]}:=by
   rw[ce];unfold gJ;have c1:2≤(cO y).1.length:=by show 2≤y.sc.length;omega
   generalize cO y=g at c1 ⊢;obtain⟨sc,cs⟩:=g
   match sc,c1 with
   |_::_::_,_=>rfl
  rw[ah bT.p rfl,ai (v:=aA) (by kernel_rfl) (aL.cell (o:=0+4) rfl),bI aD.p aD.i rfl (show cT.rangeAt cS 0 (ct y) from bz.range)];refine ff (f:=ct) (k:=3) (a:=y) bn.u aD.i (by omega) rfl rfl fun fj fk dP fl aV dQ=>?_;have bG:=bC.ext aV;have dR:=ci.ext aV;have bH:=aL.ext aV;have dS:=bB.ext aV;refine fo (f:=ct) (a:=y) bn.u aD.i rfl bG (by simpa using dQ.sl) (cV y bx).one (by omega) (by omega) fun b6 b7 fm bJ b8 c2=>?_;have c3:=bH.ad c2 fun he=>cp bG bH (by decide) he;rw[ah bT.p rfl];refine bE bn.i (cJ bJ.sl).1 (cJ bJ.sl).2 c3 (by simp) fun dT c5 fp dU=>?_;have ay:aj (fun r=>leadsTo aA r∨r=W) dP dT:=(c2.mono fun r _ h=>.inl h).trans (c5.mono fun r _ h=>.inr h);have fq:=aV.size;refine ch _ ⟨dS.ad ay fun r E=>?_,V,ac,X,b6,b7,L++[y],?_,dR.ad ay (fun r E=>?_),by rw[aa];exact aI,a2,bJ.ad c5 (fun r E U=>?_),fun z Y=>?_,?_,fun r E=>?_⟩
  ·rcases E with E|rfl
   ·obtain⟨rfl,c,I⟩:=dr bG E;have:=ba _ E;refine⟨by omega,fun he=>?_,.inr (.inr ⟨⟨c,I⟩,this⟩)⟩;subst he;exact absurd (eK I (cU.ext aV)) (by decide)
   ·exact⟨by omega,Z,.inl ⟨_,bH⟩⟩
  ·rw[aa];exact dU
  ·rcases E with E|rfl
   ·obtain⟨rfl,c,I⟩:=dr bG E;exact⟨_,c,I,by decide,by decide⟩
   ·exact⟨_,_,bH,by decide,by decide⟩
  ·have U:r=W:=U;subst U;exact cp bJ c3 (by decide) E
  ·rcases n0.1 Y with Y|Y
   ·exact a8 z Y
   ·rw[o9.1 Y];exact bx
  ·rw[aa,j4,aJ];rfl
  ·rcases b8 r E with h|h
   ·exact ba r h
   ·omega
def fJ (w:x5) (S:Nat→Prop) (e:o6):Prop:=∀ r,S r→ ∃ c,ak w r e c
theorem hn {w w':x5} {S:Nat→Prop} {e E:o6} {k:o8} {g:Nat} {v:x4} {l:List Int} (h:aq k E w g v l) (I:aj S w w') (J:fJ w S e) (O:E≠e):aq k E w' g v l:=bp h I fun r U V=>by
 obtain⟨c,W⟩:=J r V;exact bW h W O U rfl
theorem lO {α:Type} {f:α→List x4} {k:Nat} {w w':x5} {S:Nat→Prop} {e E:o6} {g:Nat} {v:x4} {L:List α} (h:aW f k E w g v L) (I:aj S w w') (J:fJ w S e) (O:E≠e):aW f k E w' g v L:=h.ad I fun r U V=>by
 obtain⟨c,W⟩:=J r V;exact cp h W O U
theorem fK {w w':x5} {S:Nat→Prop} {e E:o6} {r:Nat} {c:List x4} (h:ak w r E c) (I:aj S w w') (J:fJ w S e) (O:E≠e):ak w' r E c:=h.ad I fun U=>by
 obtain⟨c,V⟩:=J r U;exact O (eK h V)
theorem kA {α:Type} {f:α→List x4} {k:Nat} {w:x5} {e:o6} {g:Nat} {v:x4} {L:List α} (h:aW f k e w g v L):fJ w (fun r=>leadsTo v r) e:=fun r E=>by
 obtain⟨rfl,c,I⟩:=dr h E;exact⟨c,I⟩
theorem kB {w:x5} {e:o6} {g:Nat} {c:List x4} (h:ak w g e c):fJ w (fun r=>r=g) e:=fun r E=>by
 have E:r=g:=E;subst E;exact⟨c,h⟩
theorem F0 {k:o8} {w:x5} {e:o6} {g:Nat} {v:x4} {l:List Int} (h:aq k e w g v l):fJ w (fun r=>leads v r) e:=fun r E=>by
 have E:leads v r:=E;obtain⟨rfl,_⟩:=bX h E;obtain⟨_,⟨J,_⟩|⟨cap,full,_,O,_⟩⟩:=h
 ·obtain⟨a,n,c,I,_⟩:=E;rw[J] at I;cases I
 ·exact⟨_,O⟩
theorem uo {w w':x5} {S:Nat→Prop} {e:o6} {sizes:List Int} {h:dV} (E:dx w sizes h) (I:aj S w w') (O:fJ w S e) (h1:e≠J) (U:e≠ae):dx w' sizes h:=jH E I fun r V=>by
 obtain⟨c,W⟩:=O r V;exact .inl ⟨e,c,W,h1,U⟩
def jI {α:Type} (f:α→x4) (L:List α):Prop:=∀ (i j:Nat) x y,L[i]? =some x→L[j]? =some y→i≠j→ ∀ r,leads (f x) r→¬leads (f y) r
theorem jI.nil {α:Type} (f:α→x4):jI f []:=fun i j x y h=>by simp at h
theorem jI.push {α:Type} {f:α→x4} {L:List α} {a:α} {b:Nat} (h:jI f L) (h1:∀ x∈L,∀ r,leads (f x) r→r<b) (O:∀ r,leads (f a) r→b≤r):jI f (L++[a]):=fun i j x y X Y Z r I J=>by
 have U:∀ {p:Nat} {z:α},(L++[a])[p]? =some z→L[p]? =some z∨(p=L.length∧z=a):=fun {p z} E=>by
  rw[List.getElem?_append] at E;split at E
  ·exact .inl E
  ·by_cases aa:p-L.length=0
   ·rw[aa] at E;cases E;exact .inr ⟨by omega,rfl⟩
   ·rw[Z8 (by simp;omega)] at E;cases E
 rcases U X with V|⟨ad,ab⟩ <;> rcases U Y with W|⟨eq,ac⟩
 ·exact h i j x y V W Z r I J
 ·have:=h1 x (u4 V) r I;have:=O r (by rw[←ac];exact J);omega
 ·have:=h1 y (u4 W) r J;have:=O r (by rw[←ab];exact I);omega
 ·omega
def uq (b:Bool):List x4:=[.bool b]
abbrev jc:Type:=dV×Bool
def lP (h:jc):List x4:=[h.1.a6,h.1.aw,h.1.aM,.bool h.2]
def nt (h:jc):List Int×List Int×Bool:=(h.1.sc,h.1.cs,h.2)
def qe (f:hL):List Int×List Int×Bool:=(f.sc,f.cs,decide (f.live≠0))
def hP (x:gK):List Int:=((X7 x.un.length).map fun v:Nat=>(v:Int)).filter fun v=>!dropped x.mask v
structure qf where
 v:Int
 a6:x4
 bv:x4
 sc:List Int
 hy:List Int
def F1 (h:qf):List x4:=[.int .i64 h.v,h.a6,h.bv]
def y9 (h:qf):tU:=⟨h.v,h.sc,h.hy⟩
def hQ (w:x5) (B:Nat) (v:x4) (D:List e4):Prop:=∃ g,aW hK 1 ab w g v D∧(∀ h∈D,∃ g,aq .i64 J w g h.v h.l)∧ ∀ r,leadsTo v r→B≤r
def hR (w:x5) (B:Nat) (v:x4) (G:List Bool):Prop:=∃ g,aW uq 1 ga w g v G∧ ∀ r,leadsTo v r→B≤r
def gR (w:x5) (B:Nat) (v:x4) (E:List e4):Prop:=∃ g,fH w g v E∧(∀ r,leadsTo v r→B≤r)∧(∀ h∈E,∀ r,leads h.v r→B≤r)∧jI (·.v) E
def ho (w:x5) (B:Nat) (sizes:List Int) (v:x4) (L:List jc):Prop:=∃ g,aW lP 4 eo w g v L∧(∀ h∈L,dx w sizes h.1∧ ∀ r,leads h.1.aM r→B≤r)∧(∀ r,leadsTo v r→B≤r)∧jI (fun h=>h.1.aM) L
def kC (w:x5) (B:Nat) (v:x4) (E:List qf):Prop:=∃ g,aW F1 3 va w g v E∧(∀ h∈E,(∃ g,aq .i64 J w g h.a6 h.sc)∧ ∃ g,aq .i64 J w g h.bv h.hy)∧ ∀ r,leadsTo v r→B≤r
theorem hQ.ext {w w':x5} {B:Nat} {v:x4} {D:List e4} (h:hQ w B v D) (E:Ext w w'):hQ w' B v D:=by
 obtain⟨g,h1,I,J⟩:=h;exact⟨g,h1.ext E,fun x O=>by obtain⟨g,hm⟩:=I x O;exact⟨g,hm.ext E⟩,J⟩
theorem hR.ext {w w':x5} {B:Nat} {v:x4} {D:List Bool} (h:hR w B v D) (E:Ext w w'):hR w' B v D:=by
 obtain⟨g,h1,I⟩:=h;exact⟨g,h1.ext E,I⟩
theorem gR.ext {w w':x5} {B:Nat} {v:x4} {D:List e4} (h:gR w B v D) (E:Ext w w'):gR w' B v D:=by
 obtain⟨g,h1,I⟩:=h;exact⟨g,h1.ext E,I⟩
theorem ho.ext {w w':x5} {B:Nat} {sizes:List Int} {v:x4} {L:List jc} (h:ho w B sizes v L) (E:Ext w w'):ho w' B sizes v L:=by
 obtain⟨g,h1,I,O⟩:=h;exact⟨g,h1.ext E,fun x J=>⟨(I x J).1.ext E,(I x J).2⟩,O⟩
theorem kC.ext {w w':x5} {B:Nat} {v:x4} {I:List qf} (h:kC w B v I) (E:Ext w w'):kC w' B v I:=by
 obtain⟨g,h1,J,O⟩:=h;exact⟨g,h1.ext E,fun x U=>by obtain⟨⟨V,W⟩,X,Y⟩:=J x U;exact⟨⟨V,W.ext E⟩,X,Y.ext E⟩,O⟩
theorem hQ.ci {w w':x5} {S:Nat→Prop} {e:o6} {B:Nat} {v:x4} {D:List e4} (h:hQ w B v D) (E:aj S w w') (I:fJ w S e) (h1:ab≠e) (O:J≠e):hQ w' B v D:=by
 obtain⟨g,U,V,W⟩:=h;exact⟨g,lO U E I h1,fun x X=>by obtain⟨g,hm⟩:=V x X;exact⟨g,hn hm E I O⟩,W⟩
theorem hR.ci {w w':x5} {S:Nat→Prop} {e:o6} {B:Nat} {v:x4} {D:List Bool} (h:hR w B v D) (E:aj S w w') (I:fJ w S e) (h1:ga≠e):hR w' B v D:=by
 obtain⟨g,J,O⟩:=h;exact⟨g,lO J E I h1,O⟩
theorem gR.ci {w w':x5} {S:Nat→Prop} {e:o6} {B:Nat} {v:x4} {D:List e4} (h:gR w B v D) (E:aj S w w') (I:fJ w S e) (h1:af≠e) (O:ae≠e):gR w' B v D:=by
 obtain⟨g,J,U⟩:=h;exact⟨g,⟨lO J.1 E I h1,fun x V=>by obtain⟨g,hm⟩:=J.2 x V;exact⟨g,hn hm E I O⟩⟩,U⟩
theorem ho.ci {w w':x5} {S:Nat→Prop} {e:o6} {B:Nat} {sizes:List Int} {v:x4} {L:List jc} (h:ho w B sizes v L) (E:aj S w w') (I:fJ w S e) (h1:eo≠e) (V:e≠J) (W:e≠ae):ho w' B sizes v L:=by
 obtain⟨g,X,O,Y⟩:=h;exact⟨g,lO X E I h1,fun x U=>⟨uo (O x U).1 E I V W,(O x U).2⟩,Y⟩
def eW (B:Nat) (w:x5) (v:x4) (k:Int) (sizes:List Int) (s:ba):Prop:=∃ aw Y I D O U E V L W X,v= .agg #[.int .i64 k,aw,.int .i64 s.zero,I,O,U,V,W]∧aq .i64 J w Y aw sizes∧hQ w B I D∧D.map (·.l)=s.vars.map hP∧hR w B O (s.vars.map fun x=>decide (x.gone≠0))∧
 gR w B U E∧E.map (·.l)=s.vars.map (·.un)∧ho w B sizes V L∧L.map nt=s.funs.map qe∧kC w B W X∧X.map y9=s.lI∧ ∀ h∈E,∀ x∈L,∀ r,leads h.v r→¬leads x.1.aM r
theorem eW.ext {B:Nat} {w w':x5} {v:x4} {k:Int} {sizes:List Int} {s:ba} (h:eW B w v k sizes s) (E:Ext w w'):eW B w' v k sizes s:=by
 obtain⟨aw,I,J,D,O,U,V,W,L,X,Y,h1,Z,aa,ab,ac,ad,ae,af,ag,ah,ai⟩:=h;exact⟨aw,I,J,D,O,U,V,W,L,X,Y,h1,Z.ext E,aa.ext E,ab,ac.ext E,ad.ext E,ae,af.ext E,ag,ah.ext E,ai⟩
theorem ur {P:X1} {w:x5} {k:o8} {t e:o6} {b:Nat} {z:x4} {K:x4→x5→Prop} (E:P.underlying t=some (.slice e)) (hi:aI P e 1 b z)
  (I:∀ v g w',g=w.heap.size→Ext w w'→aq k e w' g v []→K v w'):aa P (u9 t 0 #[]) w K:=
 h5 E hi (by omega) (cs:=#[]) (by simp[Instr.fill]) fun g w' J O U=>I _ g w' J O (aq.of (n:=0) (bL.full (by simpa using U) (by simp) (by simp[maxLen])))
theorem F2 {w:x5} {v:x4} {n:bY} (h:um w v n) {w':x5} {g:Nat} (X:ak w' g bT v.cells.toList):∃ aw U E V I O W L,ak w' g bT [.int .i64 n.k,aw,.int .i64 n.zero,E,O]∧aq .i64 J w U aw n.sizes∧fH w V E I∧I.map (·.l)=n.unary∧aW ct 3 aD w W O L∧(∀ h∈L,dx w n.sizes h)∧L.map cO=n.funs:=by
 obtain⟨aw,U,E,V,I,O,W,L,rfl,Y,Z,ab,aa,ac,ad⟩:=h;obtain⟨_,_,_,ae⟩:=c6 Y.ls;obtain⟨_,_,_,_,_,af,_⟩:=Z.1.sl;obtain⟨_,_,_,_,_,ag,_⟩:=aa.sl;refine⟨aw,U,E,V,I,O,W,L,?_,Y,Z,ab,aa,ac,ad⟩;rw[ae,af,ag] at X ⊢;exact X
def z12:List x4:=[.int .i64 0,.slice none 0 0,.int .i64 0,.slice none 0 0,.slice none 0 0,.slice none 0 0,.slice none 0 0,.slice none 0 0]
theorem F3 {w:x5} {B:Nat} {v:x4} {D:List e4} {a:e4} {ty:o6} {K:x4→x5→Prop} (h:hQ w B v D) (am:B≤w.heap.size) (O:∃ g,aq .i64 J w g a.v a.l) (ao:D.length≤1000)
  (ac:∀ E w',hQ w' B E (D++[a])→E.cells= #[E]→E.oneCell'=true→aj (fun r=>leadsTo v r) w w'→fJ w (fun r=>leadsTo v r) ab→(∀ r,leadsTo v r→B≤r)→K E w'):
  aa y0 (u9 cq 1 #[(0,a.v)]) w fun x X=>aa y0 (r9 #[cq,cq] ty #[v,x]) X K:=by
 obtain⟨g,h1,ae,Y⟩:=h;obtain⟨af,O⟩:=O;refine ff (f:=hK) (k:=1) (a:=a) cq.u ab.i (by omega) O.ls.cells.1 rfl fun ap au X av I ag=>?_;refine fo (f:=hK) (a:=a) cq.u ab.i rfl (h1.ext I) (by simpa using ag.sl) (fun u hu=>by rw[o9.1 (show u∈[a.v] from hu)];exact O.ls.cells.2) (by omega) (by omega) fun E ah w' V ai W=>?_;have Z:=kA (h1.ext I);have aw:=I.size;refine ac E w' ⟨ah,V,fun x U=>?_,fun r ak=>(ai r ak).elim (Y r) fun h=>by omega⟩ (cJ V.sl).1 (cJ V.sl).2 ((I.ad _).trans W) (kA h1) Y;rcases n0.1 U with U|U
 ·obtain⟨al,hm⟩:=ae x U;exact⟨al,hn (hm.ext I) W Z (by decide)⟩
 ·rw[o9.1 U];exact⟨af,hn (O.ext I) W Z (by decide)⟩
theorem F4 {w:x5} {B:Nat} {v:x4} {G:List Bool} {a:Bool} {ty:o6} {K:x4→x5→Prop} (h:hR w B v G) (ac:B≤w.heap.size) (ae:G.length≤1000)
  (V:∀ E w',hR w' B E (G++[a])→E.cells= #[E]→E.oneCell'=true→aj (fun r=>leadsTo v r) w w'→fJ w (fun r=>leadsTo v r) ga→(∀ r,leadsTo v r→B≤r)→K E w'):
  aa y0 (u9 fa 1 #[(0,.bool a)]) w fun x O=>aa y0 (r9 #[fa,fa] ty #[v,x]) O K:=by
 obtain⟨g,h1,U⟩:=h;refine ff (f:=uq) (k:=1) (a:=a) fa.u ga.i (by omega) rfl rfl fun af ag O ah I W=>?_;refine fo (f:=uq) (a:=a) fa.u ga.i rfl (h1.ext I) (by simpa using W.sl) (fun u hu=>by rw[o9.1 (show u∈[.bool a] from hu)];rfl) (by omega) (by omega) fun E X w' J Y Z=>?_;have ai:=I.size;exact V E w' ⟨X,J,fun r ab=>(Y r ab).elim (U r) fun h=>by omega⟩ (cJ J.sl).1 (cJ J.sl).2 ((I.ad _).trans Z) (kA h1) U
theorem F5 {w:x5} {B b0:Nat} {v:x4} {W:List e4} {a:e4} {ty:o6} {P:x5→Prop} {K:x4→x5→Prop} (h:gR w B v W) (ax:B≤b0) (ay:b0≤w.heap.size) (U:∃ g,aq .i64 ae w g a.v a.l) (Z:∀ r,leads a.v r→b0≤r) (ag:∀ x∈W,∀ r,leads x.v r→r<b0) (az:W.length≤1000) (ah:∀ I,Ext w I→P I)
  (ai:∀ J w',gR w' B J (W++[a])→J.cells= #[J]→J.oneCell'=true→aj (fun r=>leadsTo v r) w w'→fJ w (fun r=>leadsTo v r) af→(∀ r,leadsTo v r→B≤r)→K J w'):
  aa y0 (u9 bZ 1 #[(0,a.v)]) w fun x I=>P I∧aa y0 (r9 #[bZ,bZ] ty #[v,x]) I K:=by
 obtain⟨g,⟨h1,ak⟩,ab,al,am⟩:=h;obtain⟨ao,U⟩:=U;refine ff (f:=hK) (k:=1) (a:=a) bZ.u af.i (by omega) U.ls.cells.1 rfl fun aA aB I aC O ap=>⟨ah I O,?_⟩;refine fo (f:=hK) (a:=a) bZ.u af.i rfl (h1.ext O) (by simpa using ap.sl) (fun u hu=>by rw[o9.1 (show u∈[a.v] from hu)];exact U.ls.cells.2) (by omega) (by omega) fun J au w' X av Y=>?_;have ac:=kA (h1.ext O);have aD:=O.size;refine ai J w' ⟨au,⟨X,fun x E=>?_⟩,fun r V=>(av r V).elim (ab r) fun h=>by omega,fun x E r V=>?_,am.push ag Z⟩ (cJ X.sl).1 (cJ X.sl).2 ((O.ad _).trans Y) (kA h1) ab
 ·rcases n0.1 E with E|E
  ·obtain⟨aw,hm⟩:=ak x E;exact⟨aw,hn (hm.ext O) Y ac (by decide)⟩
  ·rw[o9.1 E];exact⟨ao,hn (U.ext O) Y ac (by decide)⟩
 ·rcases n0.1 E with E|E
  ·exact al x E r V
  ·rw[o9.1 E] at V;have:=Z r V;omega
theorem za {w:x5} {sizes:List Int} {h:jc} (E:dx w sizes h.1):∀ u∈lP h,u.oneCell'=true:=fun u hu=>by
 have:=E.one;simp[lP] at hu;rcases hu with rfl|rfl|rfl|rfl
 ·exact this _ (by simp[ct])
 ·exact this _ (by simp[ct])
 ·exact this _ (by simp[ct])
 ·rfl
theorem F6 {w:x5} {B b0:Nat} {sizes:List Int} {v X:x4} {L:List jc} {a:jc} {ty:o6} {P:x5→Prop} {K:x4→x5→Prop} (h:ho w B sizes v L) (ap:B≤b0) (aq:b0≤w.heap.size) (Y:dx w sizes a.1) (Z:∀ r,leads a.1.aM r→b0≤r) (af:∀ x∈L,∀ r,leads x.1.aM r→r<b0) (au:L.length≤1000) (ag:X.cells=(lP a).toArray) (ah:∀ E,Ext w E→P E)
  (ai:∀ I w',ho w' B sizes I (L++[a])→I.cells= #[I]→I.oneCell'=true→aj (fun r=>leadsTo v r) w w'→fJ w (fun r=>leadsTo v r) eo→(∀ r,leadsTo v r→B≤r)→K I w'):
  aa y0 (u9 ee 1 #[(0,X)]) w fun x E=>P E∧aa y0 (r9 #[ee,ee] ty #[v,x]) E K:=by
 obtain⟨g,h1,ab,ac,ak⟩:=h;refine ff (f:=lP) (k:=4) (a:=a) ee.u eo.i (by omega) ag rfl fun av aw E ax J al=>⟨ah E J,?_⟩;refine fo (f:=lP) (a:=a) ee.u eo.i rfl (h1.ext J) (by simpa using al.sl) (za Y) (by omega) (by omega) fun I am w' U ao V=>?_;have ae:=kA (h1.ext J);have ay:=J.size;refine ai I w' ⟨am,U,fun x O=>?_,fun r W=>(ao r W).elim (ac r) fun h=>by omega,ak.push af Z⟩ (cJ U.sl).1 (cJ U.sl).2 ((J.ad _).trans V) (kA h1) ac;rcases n0.1 O with O|O
 ·exact⟨uo ((ab x O).1.ext J) V ae (by decide) (by decide),(ab x O).2⟩
 ·rw[o9.1 O];exact⟨uo (Y.ext J) V ae (by decide) (by decide),fun r W=>by have:=Z r W;omega⟩
theorem F7 (u:List Int):hP (newVar u)=(X7 u.length).map fun v:Nat=>(v:Int):=by
 unfold hP newVar dropped;rw[List.filter_eq_self.2];intro a _;simp
theorem gR.lt {w:x5} {B:Nat} {v:x4} {E:List e4} (h:gR w B v E):∀ x∈E,∀ r,leads x.v r→r<w.heap.size:=fun x I r J=>by
 obtain⟨g,⟨h1,O⟩,_⟩:=h;obtain⟨U,hm⟩:=O x I;have:=bX hm J;omega
theorem ho.lt {w:x5} {B:Nat} {sizes:List Int} {v:x4} {L:List jc} (h:ho w B sizes v L):∀ x∈L,∀ r,leads x.1.aM r→r<w.heap.size:=fun x E r I=>by
 obtain⟨g,h1,J,_⟩:=h;obtain⟨_,_,O,hm⟩:=(J x E).1;have:=bX hm I;omega
end Go.Proofs.YtgbkinibgjmodaaGreatDoor
