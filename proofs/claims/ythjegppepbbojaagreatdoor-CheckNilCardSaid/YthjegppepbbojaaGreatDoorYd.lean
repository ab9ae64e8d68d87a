/- own texts, made small by a tool (wip/ holds them as they were written): no statement of the seat. -/
import Derived.Test.YthjegppepbbojaaGreatDoorYc
set_option linter.unusedVariables false
set_option linter.unusedSimpArgs false
set_option linter.unnecessarySimpa false
open Array renaming getElem?_eq_some_iff→o7,getElem?_toList→U5
open BitVec renaming ofInt→V9
open Bool renaming not_true→Y0,not_false→Y9,eq_iff_iff→X8,and_eq_true→W0,or_eq_false_iff→U3
open Decidable renaming not_not→Z6
open Go renaming Value→y0,World→x1,TypeId→u9,IntKind→o4,Builtin→l6,Program→Y3,Oper→W9,Operand→U1
open Go.Addr renaming add_mid→W7
open Go.Builtin renaming append_→l9,len_→Y4
open Go.Instr renaming loadAt→x6,fieldAt→x8,storeAt→n0,indexAt→j9,extract→c9,buildSlice→b6,sliceAt→X4
open Go.IntKind renaming i64→X5,u64→W6
open Go.Proofs.Tryz renaming prog→x5
open Go.Result renaming andThen→Z9
open Go.Sem renaming run_bind→Z8,run_pure→Y5
open Go.Sort renaming Holds→U2
open Go.Value renaming int→X0
open Int renaming toNat_natCast→j6
open List renaming mem_of_getElem?→x2,getElem?_eq_some_iff→x3,getElem?_eq_getElem→x4,getElem?_map→x7,getD_eq_getElem?_getD→u4,take_add_one→u5,replicate→u6,length_append→u7,length_map→r8,mem_append→p8,mem_singleton→p9,take_length→o5,length_take→o6,mem_map→o8,eq_nil_of_length_eq_zero→o9,length_cons→n9,map_append→j4,getElem?_take_of_lt→c7,getElem?_eq_none→c8,take_of_length_le→Z0,range→Z1,getElem?_append_left→Z4,getElem?_append_right→Z7,drop_eq_getElem_cons→Y1,append_assoc→Y2,getElem?_set→Y6,ext_getElem?→Y7,append_nil→Y8,mem_iff_getElem?→X1,pairwise_iff_getElem→X6,length_set→X7,mem_or_eq_of_mem_set→W3,flatMap_cons→V1,length→V3,length_singleton→V5,length_eq_one_iff→V7,getElem?_set_self→V8,mem_cons→U4,getElem_mem→U6
open Nat renaming le_refl→r9,le_trans→Z3,zero_le→Z5,mul_le_mul_right→X2,sub_self→X9,add_mul→W8,zero_add→V0,mul_one→V2,beq→V6
open Option renaming some→l5,toList_some→j5,map_some→c5,isNone_some→c6,map_eq_some_iff→Z2,map→X3,getD_some→V4
open Option.some renaming injEq→b8,inj→b9
open Prod renaming mk→U7
open Prod.mk renaming injEq→W5
variable {B E N Y ao gT gz j k n:Nat}{w w':x1}{e t:u9}{y:Int}{sv v z:y0}{K:y0→Prop}{all l sizes:List Int}{S:Nat→Prop}
namespace Go.Proofs.YthjegppepbbojaaGreatDoor
open Go Go.Vc Go.RowKit Go.Proofs Go.Proofs.Tryz
set_option maxRecDepth 100000
theorem tb {z:Array y0} (E:z.size=k):(l6.zeroCells z n).toList=db z (n*k):=by
 unfold l6.zeroCells db;rw[E]
theorem Iz {P:Y3} {J X:u9} {Y kn:o4} {b g m:Nat} {xs:List y0} {K:y0→x1→Prop} (ay:y=(m:Int)) (ak:P.underlying t=some (.slice e)) (al:P.underlying J=some (.int kn)) (hi:aA P e k b z) (Z:z.cells.size=k)
  (aQ:0<k) (h1:∀ u∈db z.cells (m*k),u.oneCell'=true) (h:bz w g e k v n xs) (az:0<m) (aB:(n+m)*b≤140737488355328) (aC:n+m≤9223372036854775807)
  (am:∀ ab aD w',bz w' aD e k ab (n+m) (xs++db z.cells (m*k))→(∀ r,leadsTo ab r→leadsTo v r∨w.heap.size≤r)→ad (fun r=>leadsTo v r) w w'→K ab w'):aw P (l9 #[t,J] X #[v,.int Y y]) w K:=by
 subst ay;obtain⟨i,hi,ae,rfl,an⟩:=hi;obtain⟨ao,hm⟩:=h;have aE:=k3 z.cells (m*k);have aF:m*i.bytes≤281474976710656:=by
  have:m*i.bytes≤(n+m)*i.bytes:=X2 _ (by omega);omega
 have grow:∀ (base:Option Addr) (cap:Nat),v= .slice base n cap→(l6.firstCells i.size n (.slice base n cap)).run P w.drew= .ok xs.toArray w.drew→cap<n+m→aw P (l9 #[t,J] X #[v,.int Y (m:Int)]) w K:=fun base cap ac aG E=>by
  subst ac;have af:=Lib.run_append_grow_zeros (P:=P) w t J X e i z Y kn ak al hi an base n cap xs aG m az (by omega) E (by omega) aF (growslice_fits E aB);have ap:n+m≤grownCap w (n+m) cap e:=grownCap_ge w _ _ _;have aH:grownCap w (n+m) cap e≤maxLen:=grownCap_le_maxLen w (n+m) cap e (by simpa[maxLen] using aC);have aR:=k3 z.cells ((grownCap w (n+m) cap e-(n+m))*k);have aS:(n+m)*k≤grownCap w (n+m) cap e*k:=X2 _ ap;have aI:(n+m)*k=n*k+m*k:=W8 _ _ _;have aT:(grownCap w (n+m) cap e-(n+m))*k=grownCap w (n+m) cap e*k-(n+m)*k:=Nat.sub_mul _ _ _;refine .of af ((nb w _ (Nat.le_succ _)).trans (ne _ _)) (am _ w.heap.size _ ⟨by rw[u7];omega,.inr ⟨_,xs++db z.cells (m*k)++db z.cells ((grownCap w (n+m) cap e-(n+m))*k),rfl,?_,ap,aH,?_,?_⟩⟩ (fun r ag=>?_) (((oG w _).trans (nc _ _)).U _))
  ·have:=heap_alloc_new w.drew (.cells (xs.toArray++l6.zeroCells z.cells m++l6.zeroCells z.cells (grownCap w (n+m) cap e-(n+m))) e);unfold aa;rw[show w.drew.heap.size=w.heap.size from rfl] at this;rw[this];congr 2;apply Array.toList_inj.1;rw[Array.toList_append,Array.toList_append,tb Z,tb Z]
  ·rw[u7,u7];omega
  ·rw[List.take_append_of_le_length (by rw[u7];omega),Z0 (by rw[u7];omega)]
  ·obtain⟨a,aJ,c,O,V⟩:=ag;cases O;exact .inr (by simp at V;omega)
 rcases hm with⟨rfl,aK⟩|⟨cap,cs,rfl,W,O,V,ah,aq⟩
 ·subst aK;have:xs=[]:=o9 (by simpa using ao);subst this;exact grow none 0 rfl (run_firstCells_none w.drew i.size 0 0 0) (by omega)
 ·by_cases E:n+m≤cap
  ·have au:(n+m)*k≤cs.length:=by rw[ah];exact X2 _ E
   have aI:(n+m)*k=n*k+m*k:=W8 _ _ _;have ai:=run_storeCells_cells (P:=P) g (0+n*k) (db z.cells (m*k)) 0 w (fun j av=>by
    rw[aE] at av;rw[Nat.add_zero,V0,W.cell (x4 (show n*k+j<cs.length by omega))];rfl) (fun j _=>W.frozen _ _) h1
   simp only[Nat.add_zero] at ai;have hw:X5.wrap (m:Int)=m:=by rw[o4.wrap_i64];omega
   have aL:¬((m:Int)<0):=by omega
   have aM:¬(281474976710656<(m:Int)*(i.bytes:Int)):=by rw[←Int.natCast_mul];omega
   have aj:¬(m*i.size=0):=Nat.mul_ne_zero (by omega) (by omega);have aN:(l6.zeroCells z.cells m).toList=db z.cells (m*k):=tb Z;have af:(l9 #[t,J] X #[.slice (some ⟨g,0,none⟩) n cap,.int Y (m:Int)]).run P w= .ok (.slice (some ⟨g,0,none⟩) (n+m) cap) (w.setCells g (0+n*k) (db z.cells (m*k))):=by
    simp[l9,run_underlying ak,run_underlying al,sizeOf,typeInfo,zeroValue,hi,an,asInt,asIntOf,hw,E,aL,aj,aM,aN,Addr.add_lit,ae];simp only[V0] at ai;rw[ai];simp;intro aO;exact absurd aO (by rw[ae] at aj;exact aj)
   obtain⟨aP,ax⟩:=k2 (db z.cells (m*k)) cs (0+n*k) w W;refine .of af (ax.cD W) (am _ g _ ⟨by rw[u7];omega,.inr ⟨cap,_,rfl,aP,E,V,by rw[kl,ah],?_⟩⟩ (fun r ag=>.inl ?_) (ax.U.mono fun r _ he=>⟨_,_,_,rfl,he.symm⟩))
   ·rw[xN (by omega) au,km (by rw[o6];omega),V0,List.take_take,List.drop_eq_nil_of_le (by rw[o6];omega),Y8,Nat.min_eq_left (by omega),aq]
   ·obtain⟨a,aJ,c,O,V⟩:=ag;cases O;exact⟨_,_,_,rfl,V⟩
  ·refine grow _ cap rfl ?_ (by omega);have au:n*k≤cs.length:=by rw[ah];exact X2 _ O
   refine run_firstCells_some w.drew i.size n _ n cap xs (by rw[ae];exact ao) fun j u hu=>?_;rw[W7,V0];have av:=(x3.1 hu).1;rw[←aq,c7 (by omega)] at hu;exact W.cell hu
def gA (c:Cell):List y0:=[.int .i64 c.v,.int .u64 (c.st:Int)]
def lA (o:ja):List y0:=[.int .i64 (o.i:Int),.int .i64 o.c.v,.int .u64 (o.c.st:Int)]
def lB (m:pH):List y0:=[.int .i64 (m.olds:Int),.int .i64 (m.cells:Int),.int .u64 (m.st:Int)]
def c4 (w:x1) (gT:Nat) (A:am) (t:aH):Prop:=A gT∧ ∃ O go U aJ E J,aa w gT eM [aJ,E,J,.int .u64 (t.ht:Int)]∧aT gA 2 dL w O aJ t.cells∧aT lA 3 jH w go E t.olds∧aT lB 3 fd w U J t.marks∧
 ∀ r,leadsTo aJ r∨leadsTo E r∨leadsTo J r→A r
theorem c4.U {S A:am} {t:aH} (h:c4 w gT A t) (J:ad S w w') (O:∀ r,A r→¬S r):c4 w' gT A t:=by
 obtain⟨W,X,go,Y,aJ,Z,aa,h1,ab,ac,ae,V⟩:=h;exact⟨W,X,go,Y,aJ,Z,aa,h1.U J (O _ W),ab.U J fun r E=>O r (V r (.inl E)),ac.U J fun r E=>O r (V r (.inr (.inl E))),ae.U J fun r E=>O r (V r (.inr (.inr E))),V⟩
theorem c4.ext {A:am} {t:aH} (h:c4 w gT A t) (J:Ext w w'):c4 w' gT A t:=h.U (J.U fun _=>False) fun _ _ h=>h
theorem c4.mono {A B:am} {t:aH} (h:c4 w gT A t) (E:∀ r,A r→B r):c4 w gT B t:=by
 obtain⟨J,O,go,U,aJ,V,W,h1,X,Y,Z,aa⟩:=h;exact⟨E _ J,O,go,U,aJ,V,W,h1,X,Y,Z,fun r ab=>E r (aa r ab)⟩
def Grow (A:am) (w:x1) (E:am) (w':x1):Prop:=ad A w w'∧(∀ r,E r→A r∨w.heap.size≤r)∧ ∀ r,A r→E r
theorem Grow.refl (A:am) (w:x1):Grow A w A w:=⟨ad.refl _ _,fun _ h=>.inl h,fun _ h=>h⟩
theorem Grow.ext {A:am} (h:Ext w w'):Grow A w A w':=⟨h.U _,fun _ h=>.inl h,fun _ h=>h⟩
theorem Grow.trans {A J O:am} {U:x1} (h:Grow A w J w') (k:Grow J w' O U):Grow A w O U:=
 ⟨⟨Z3 h.1.size k.1.size,fun r o E V W=>k.1.aX r o (h.1.aX r o E V W) V fun X=>(h.2.1 r X).elim W fun Y=>by
  have:=(o7.1 E).1;omega⟩,fun r E=>by
  rcases k.2.1 r E with h1|h1
  ·exact h.2.1 r h1
  ·have:=h.1.size;exact .inr (by omega),fun r E=>k.2.2 r (h.2.2 r E)⟩
theorem zb {A:am} {t:aH} (h:c4 w gT A t):ag x5 Dc [.pointer (some ⟨gT,0,none⟩)] w fun v w'=>v= .int .i64 (t.cells.length:Int)∧Ext w w':=by
 obtain⟨J,O,go,U,aJ,V,W,h1,E,X,Y,Z⟩:=h;refine ap func220 ?_;rw[cQ nu.u];simp only[c6,aR];rw[aD eM.p 0 h1 rfl,dA gk.u E];exact⟨rfl,Ext.refl _⟩
theorem zc {A:am} {t:aH} {i:Int} (h:c4 w gT A t):ag x5 Ct [.pointer (some ⟨gT,0,none⟩),.int .i64 i] w fun v w'=>v= .bool (decide (0≤i∧i<t.cells.length))∧Ext w w':=by
 refine ap func146 ?_;refine aI (fun v E=>v= .bool (decide (0≤i∧i<t.cells.length))∧Ext w E) (fun _ _ h=>h) ?_;intro V O;rw[cn,af];refine⟨fun U=>?_,fun U=>O _ _ ⟨by rw[decide_eq_false];omega,Ext.refl _⟩⟩;refine (zb h).mono ?_;rintro _ E _ ⟨rfl,J⟩;rw[aC];refine O _ _ ⟨?_,J⟩;congr 1;rw[X8,decide_eq_true_eq,decide_eq_true_eq];exact⟨fun h=>⟨by omega,h⟩,fun h=>h.2⟩
theorem IA {A:am} {t:aH} {i:Nat} {c:Cell} (h:c4 w gT A t) (U:y=(i:Int)) (E:t.cells[i]? =some c):ag x5 vh [.pointer (some ⟨gT,0,none⟩),.int .i64 y] w fun v w'=>v= .int .i64 c.v∧Ext w w':=by
 have V:=(x3.1 E).1;refine ap func62 ?_;refine (zc h).mono ?_;rintro _ W _ ⟨rfl,J⟩;rw[decide_eq_true (by omega),bJ,Y0,aR];obtain⟨X,Y,go,Z,aJ,aa,ab,h1,O,ac,ad,ae⟩:=h.ext J;rw[aD eM.p 0 h1 rfl,cM U gk.u dL.i O V,aF dL.p rfl,av (by kernel_rfl) (O.range E 0 _ rfl)];exact⟨rfl,J⟩
theorem mM {A:am} {t:aH} {i:Nat} {x:Int} (h:c4 w gT A t) (J:y=(i:Int)) (E:t.bH[i]? =some x):ag x5 vh [.pointer (some ⟨gT,0,none⟩),.int .i64 y] w fun v w'=>v= .int .i64 x∧Ext w w':=by
 unfold aH.bH at E;rw[x7] at E;obtain⟨c,O,rfl⟩:=Z2.1 E;exact IA h J O
def oj (t:aH):Prop:=t.cells.length≤100000000∧t.olds.length≤100000000∧t.marks.length≤100000000
theorem qF {go Z:Nat} {aJ E J:y0} {t:aH} {x:y0} (h1:aa w gT eM [aJ,E,J,x]) (U:aT gA 2 dL w Y aJ t.cells) (V:aT lA 3 jH w go E t.olds) (W:aT lB 3 fd w Z J t.marks):
  (¬leadsTo aJ gT∧¬leadsTo E gT∧¬leadsTo J gT)∧(∀ r,leadsTo aJ r→¬leadsTo E r∧¬leadsTo J r)∧ ∀ r,leadsTo E r→¬leadsTo aJ r∧¬leadsTo J r:=by
 refine⟨⟨cb U h1 (by decide),cb V h1 (by decide),cb W h1 (by decide)⟩,fun r X=>?_,fun r X=>?_⟩
 ·obtain⟨rfl,c,O⟩:=c3 U X;exact⟨cb V O (by decide),cb W O (by decide)⟩
 ·obtain⟨rfl,c,O⟩:=c3 V X;exact⟨cb U O (by decide),cb W O (by decide)⟩
set_option maxHeartbeats 4000000 in
theorem tc {A:am} {t:aH} {i:Nat} {x:Int} (h:c4 w gT A t) (bN:y=(i:Int)) (az:i<t.cells.length) (aZ:oj t):ag x5 B5 [.pointer (some ⟨gT,0,none⟩),.int .i64 y,.int .i64 x] w fun v w'=>v= .int .i64 0∧ ∃ W,Grow A w W w'∧c4 w' gT W (t.set i x):=by
 subst bN;obtain⟨c,ai⟩:=aE (l:=t.cells) az;refine ap func106 ?_;rw[cQ nu.u];simp only[c6,aR];refine (zc h).mono ?_;rintro _ a1 _ ⟨rfl,J⟩;rw[decide_eq_true (by omega),bJ,Y0,aR];obtain⟨bo,aq,go,au,aJ,aA,ak,h1,bp,a2,aN,aO⟩:=id (h.ext J);have bO:∀ {V:x1} {W:am} {Y:aH} {st:Nat} {K:x1→Prop},c4 V gT W Y→Y.cells[i]? =some ⟨c.v,st⟩→
   (∀ X,ad W V X→c4 X gT W {Y with cells:=Y.cells.set i ⟨x,st⟩}→K X)→
   (O x5 (bl (.pointer (some ⟨gT,0,none⟩))) V fun t77=>
   O x5 (x8 eM t77 0) V fun bQ=>
   O x5 (x6 gk bQ) V fun bR=>
   O x5 (j9 gk bR (.int .i64 (i:Int))) V fun bS=>
   O x5 (x8 dL bS 0) V fun bT=>
   aw x5 (n0 aj bT (.int .i64 x)) V fun(_:Unit) X=>
   K X):=by
  intro V W Y st K a6 aQ bU;obtain⟨a7,aq,go,au,aJ,aA,ak,al,an,aB,aG,aK⟩:=a6;have bV:=(x3.1 aQ).1;rw[aD eM.p 0 al rfl,cM rfl gk.u dL.i an bV,aF dL.p rfl];obtain⟨⟨aL,a8,ba⟩,ao,_⟩:=qF al an aB aG;refine mB (f:=gA) (j:=0) (a:=⟨c.v,st⟩) (a':=⟨x,st⟩) aj.i rfl rfl an aQ rfl (by omega) fun X ae bW bX=>?_;exact bU X (ae.mono fun r _ E=>aK r (.inl E)) ⟨a7,aq,go,au,aJ,aA,ak,al.U ae aL,bX,aB.U ae fun r E he=>(ao r he).1 E,aG.U ae fun r E he=>(ao r he).2 E,aK⟩
 refine cX (fun V=>∃ W Y st,Grow A a1 W V∧c4 V gT W Y∧Y.cells[i]? =some ⟨c.v,st⟩∧t.set i x={Y with cells:=Y.cells.set i ⟨x,st⟩}) ?_ ?_
 ·rintro V ⟨W,Y,st,bY,a6,aQ,bb⟩;refine bO a6 aQ fun X ae a2=>⟨by trivial,W,?_,by rw[bb];exact a2⟩;exact (Grow.ext J).trans (bY.trans ⟨ae,fun _ h=>.inl h,fun _ h=>h⟩)
 intro ck bc;rw[aD eM.p 2 h1 rfl,dA pp.u aN,br,af];have bq:∀ (hm:t.marks.getLast? =none∨ ∃ m,t.marks.getLast? =some m∧¬(c.st<m.st∧i<m.cells)),t.set i x={t with cells:=t.cells.set i ⟨x,c.st⟩}:=fun hm=>by
  unfold aH.set;rw[ai];rcases hm with hm|⟨m,hm,bZ⟩
  ·simp only[hm]
  ·simp only[hm];rw[if_neg bZ]
 refine⟨fun cl=>?_,fun cm=>bc _ ⟨A,t,c.st,Grow.refl _ _,h.ext J,ai,bq (.inl ?_)⟩⟩
 rotate_left
 ·rw[List.getLast?_eq_none_iff];exact o9 (by omega)
 obtain⟨m,hm⟩:=aE (l:=t.marks) (i:=t.marks.length-1) (by omega);have bt:t.marks.getLast? =some m:=by rw[List.getLast?_eq_getElem?];exact hm
 have cn:=aZ.2.2;rw[aD eM.p 2 h1 rfl,dk,wrap_i64 (by omega) (by omega),cM (i:=t.marks.length-1) (by omega) pp.u fd.i aN (by omega),bn fd.p fd.i rfl (aN.range hm)];refine bg fd.i fun bu V cp bw b1=>?_;refine bP (vs:=lB m) fd.i rfl rfl (by intro v ac;simp[lB] at ac;rcases ac with rfl|rfl|rfl <;> rfl) b1 fun X ae bW b2=>?_;have bx:Ext a1 X:=bw.put ae (by omega);have aS:∀ {w':x1},Ext X w'→aa w' bu fd (lB m):=fun J=>b2.ext J;refine aI (fun v bd=>v= .bool (decide (c.st<m.st∧i<m.cells))∧Ext X bd) ?_ ?_
 rotate_left
 ·intro cq bz;intro bd Z _ _;have ax:=bx.trans Z;have bA:=aS Z;have ay:=bp.ext ax;rw[aD eM.p 0 (h1.ext ax) rfl,cM rfl gk.u dL.i ay az,aF dL.p rfl,av (by kernel_rfl) (ay.range ai 1 _ rfl),aP fd.p 2 bA rfl,aC,af];refine⟨fun bC=>?_,fun bD=>bz _ _ ⟨by rw[decide_eq_false];omega,Z⟩⟩;rw[aP fd.p 1 bA rfl,aC];refine bz _ _ ⟨?_,Z⟩;congr 1;rw[X8,decide_eq_true_eq,decide_eq_true_eq];exact⟨fun h=>⟨by omega,by omega⟩,fun h=>by omega⟩
 rintro _ bd ⟨rfl,Z⟩;have ax:=bx.trans Z;rw[af];refine⟨fun bC=>?_,fun bD=>bc _ ⟨A,t,c.st,Grow.ext ax,(h.ext J).ext ax,ai,bq (.inr ⟨m,bt,bD⟩)⟩⟩;intro cr aU _ _;have aM:=ax.trans aU;have be:=h1.ext aM;have ay:=bp.ext aM;have b3:=a2.ext aM;have b4:=aN.ext aM;rw[bB,aF eM.p rfl,av (by kernel_rfl) (be.cell (o:=0+1) rfl),bB,aF eM.p rfl,av (by kernel_rfl) (be.cell (o:=0+0) rfl),cM rfl gk.u dL.i ay az,bn dL.p dL.i rfl (ay.range ai)];rw[ct (cs:=#[.int .i64 (i:Int),.int .i64 c.v,.int .u64 (c.st:Int)]) (by kernel_rfl)];let a:ja:=⟨i,c⟩;have b5:∀ u∈lA a,u.oneCell'=true:=by intro v ac;simp[lA] at ac;rcases ac with rfl|rfl|rfl <;> rfl
 refine eQ (f:=lA) (a:=a) kX.u jH.i (by omega) rfl rfl fun cu cw bE cz ab b6=>?_;refine⟨.inl ab,?_⟩;have bF:=aM.trans ab;have bf:=be.ext ab;have bG:=ay.ext ab;have bh:=b3.ext ab;have bH:=b4.ext ab;obtain⟨⟨aL,a8,ba⟩,ao,b7⟩:=qF bf bG bh bH;refine ff (f:=lA) (a:=a) kX.u jH.i rfl bh (by simpa using b6.sl) b5 (by have:=aZ.2.1;omega) (by have:=aZ.2.1;omega) fun bi bI cA aV b8 bK=>?_;rw[bB,aF eM.p rfl];have bL:=bf.U bK a8;refine aY kX.i (cF aV.sl).1 (cF aV.sl).2 bL (by simp) fun ah bM cB bj=>?_;have bj:aa ah gT eM [aJ,bi,ak,.int .u64 (t.ht:Int)]:=bj;have aW:ad (fun r=>leadsTo aA r∨r=gT) bE ah:=(bK.mono fun r _ h=>.inl h).trans (bM.mono fun r _ h=>.inr h);have b9:aT gA 2 dL ah aq aJ t.cells:=bG.U aW fun r E he=>he.elim (fun he=>(ao r E).1 he) fun he=>aL (he▸E);have ca:aT lB 3 fd ah au ak t.marks:=bH.U aW fun r E he=>he.elim (fun he=>(b7 r he).2 E) fun he=>ba (he▸E);have cc:aT lA 3 jH ah bI bi (t.olds++[a]):=aV.U bM fun r E he=>by
  have he:r=gT:=he;subst he;exact cb aV bL (by decide) E
 have cC:=bF.size;have cD:=bw.size;let bk:am:=fun r=>A r∨bE.heap.size≤r;have cd:Grow A a1 bk ah:=⟨(bF.U A).trans (aW.mono fun r _ he=>he.elim (fun he=>aO r (.inr (.inl he))) fun he=>he▸bo),fun r E=>E.imp id fun E=>by omega,fun r E=>.inl E⟩;have ce:c4 ah gT bk {t with olds:=t.olds++[a]}:=⟨.inl bo,aq,bI,au,aJ,bi,ak,bj,b9,cc,ca,fun r E=>by
  rcases E with E|E|E
  ·exact .inl (aO r (.inl E))
  ·rcases b8 r E with h|h
   ·exact .inl (aO r (.inr (.inl h)))
   ·exact .inr h
  ·exact .inl (aO r (.inr (.inr E)))⟩
 have cg:aa ah bu fd (lB m):=(aS ((Z.trans aU).trans ab)).U aW fun he=>by
  rcases he with he|he
  ·obtain⟨rfl,cE,ch⟩:=c3 bh he;exact absurd (ed ch (aS ((Z.trans aU).trans ab))) (by decide)
  ·subst he;exact absurd (ed bf (aS ((Z.trans aU).trans ab))) (by decide)
 intro cG bm _ _;have ci:=ce.ext bm;obtain⟨a7,aq,go,au,aJ,aA,ak,al,an,aB,aG,aK⟩:=ci;rw[aD eM.p 0 al rfl,aP fd.p 2 (cg.ext bm) rfl,cM rfl gk.u dL.i an az,aF dL.p rfl];obtain⟨⟨aL,a8,ba⟩,ao,_⟩:=qF al an aB aG;refine mB (f:=gA) (j:=1) (a:=c) (a':=⟨c.v,m.st⟩) fq.i rfl rfl an ai rfl (by omega) fun cH aX cI cj=>?_;have bb:t.set i x={t with olds:=t.olds++[a],cells:=t.cells.set i ⟨x,m.st⟩}:=by
  unfold aH.set;rw[ai];simp only[bt];rw[if_pos bC]
 refine bc _ ⟨bk,{t with olds:=t.olds++[a],cells:=t.cells.set i ⟨c.v,m.st⟩},m.st,cd.trans ((Grow.ext bm).trans ⟨aX.mono fun r _ E=>aK r (.inl E),fun _ h=>.inl h,fun _ h=>h⟩),⟨a7,aq,go,au,aJ,aA,ak,al.U aX aL,cj,aB.U aX fun r E he=>(ao r he).1 E,aG.U aX fun r E he=>(ao r he).2 E,aK⟩,?_,?_⟩
 ·show (t.cells.set i _)[i]? =_;rw[V8 az]
 ·rw[bb];simp only[List.set_set]
theorem zd (n:Nat):db (#[.int .i64 0,.int .u64 0]:Array y0) (n*2)=(u6 n (⟨0,0⟩:Cell)).flatMap gA:=by
 have:∀ n,db (#[.int .i64 0,.int .u64 0]:Array y0) (n*2)=(u6 n (⟨0,0⟩:Cell)).flatMap gA:=by
  intro n;apply Y7;intro j;have O:((u6 n (⟨0,0⟩:Cell)).flatMap gA).length=n*2:=by simp[gA]
  by_cases E:j<n*2
  ·have J:(db (#[.int .i64 0,.int .u64 0]:Array y0) (n*2))[j]? =some (if j % 2=0 then .int .i64 0 else .int .u64 0):=by
    unfold db;rw[U5,Array.getElem?_map,Array.getElem?_range,if_pos E];rcases Nat.mod_two_eq_zero_or_one j with h|h <;> simp[h]
   have ae:=qb (f:=gA) (k:=2) (L:=u6 n (⟨0,0⟩:Cell)) (i:=j / 2) (j:=j % 2) (a:=⟨0,0⟩) (v:=if j % 2=0 then .int .i64 0 else .int .u64 0) (fun a _=>rfl) (by rw[List.getElem?_replicate,if_pos (by omega)]) (by rcases Nat.mod_two_eq_zero_or_one j with h|h <;> simp[h,gA]);rw[show j / 2*2+j % 2=j by omega] at ae;rw[J,ae]
  ·rw[c8 (by rw[k3];omega),c8 (by omega)]
 exact this n
set_option maxHeartbeats 2000000 in
theorem IB {A:am} {t:aH} (h:c4 w gT A t) (aB:oj t) (aN:n≤100000000):ag x5 CV [.pointer (some ⟨gT,0,none⟩),.int .i64 (n:Int)] w fun v w'=>v= .int .i64 (t.cells.length:Int)∧ ∃ O,Grow A w O w'∧c4 w' gT O (t.grow n):=by
 refine ap func188 ?_;refine (zb h).mono ?_;rintro _ Y _ ⟨rfl,J⟩;refine cX (fun V=>∃ O,Grow A w O V∧c4 V gT O (t.grow n)) (fun V h=>⟨rfl,h⟩) ?_;intro aO ah;refine aI (fun v V=>v= .bool (decide (0<n))∧Y=V) ?_ ?_
 rotate_left
 ·intro aP aC;rw[vL nu.u];simp only[c6,Y9,bq];rw[br];refine aC _ _ ⟨?_,rfl⟩;congr 1;rw[X8,decide_eq_true_eq,decide_eq_true_eq];omega
 rintro _ _ ⟨rfl,rfl⟩;rw[af];refine⟨fun ai=>?_,fun ai=>ah _ ⟨A,Grow.ext J,?_⟩⟩
 rotate_left
 ·have:n=0:=by omega
  subst this;have e:t.grow 0=t:=by unfold aH.grow;simp
  rw[e];exact h.ext J
 obtain⟨aj,aQ,go,aE,aJ,ak,al,h1,an,ao,aq,W⟩:=id (h.ext J);rw[aD eM.p 0 h1 rfl];obtain⟨⟨aG,aK,aL⟩,au,aR⟩:=qF h1 an ao aq;have aS:=aB.1;refine Iz (k:=2) (m:=n) rfl gk.u ab.u dL.i rfl (by omega) (fun u hu=>?_) an.1 ai (by omega) (by omega) fun Z av V aw aM ax=>?_
 ·exact s4 (by decide) (by decide) u hu
 rw[bB,aF eM.p rfl];have X:aT gA 2 dL V av Z (t.cells++u6 n ⟨0,0⟩):=by
  refine⟨?_,fun _ _=>rfl⟩;have e:(y0.agg #[.int .i64 0,.int .u64 0]).cells= #[.int .i64 0,.int .u64 0]:=rfl;rw[e,zd] at aw;rw[u7,List.length_replicate,List.flatMap_append];exact aw
 have ay:=h1.U ax aG;refine aY gk.i (cF X.sl).1 (cF X.sl).2 ay (by simp) fun az aA aU ac=>?_;have ac:aa az gT eM [Z,ak,al,.int .u64 (t.ht:Int)]:=ac;have ae:ad (fun r=>leadsTo aJ r∨r=gT) Y az:=(ax.mono fun r _ h=>.inl h).trans (aA.mono fun r _ h=>.inr h);have z:=J.size;refine ah _ ⟨fun r=>A r∨Y.heap.size≤r,(Grow.ext J).trans ⟨ae.mono fun r _ he=>he.elim (fun he=>W r (.inl he)) fun he=>he▸aj,fun r E=>E,fun r E=>.inl E⟩,.inl aj,av,go,aE,Z,ak,al,ac,X.U aA fun r E he=>?_,ao.U ae fun r E he=>he.elim (fun he=>(au r he).1 E) fun he=>aK (he▸E),aq.U ae fun r E he=>he.elim (fun he=>(au r he).2 E) fun he=>aL (he▸E),fun r E=>?_⟩
 ·have he:r=gT:=he;subst he;exact cb X ay (by decide) E
 ·rcases E with E|E|E
  ·exact (aM r E).imp (fun h=>W r (.inl h)) id
  ·exact .inl (W r (.inr (.inl E)))
  ·exact .inl (W r (.inr (.inr E)))
theorem IC (Z:n≤1000):ag x5 B4 [.int .i64 (n:Int)] w fun v w'=>Ext w w'∧ ∃ gT,v= .pointer (some ⟨gT,0,none⟩)∧c4 w' gT (dO w.heap.size) ⟨u6 n ⟨0,0⟩,[],[],0⟩:=by
 refine ap func105 ?_;rw[rS,Int.max_eq_left (by omega)];refine vS (k:=2) gk.u dL.i (by omega) (by omega) fun g O ab U J=>?_;rw[ct (cs:=#[.slice (some ⟨g,0,none⟩) n n,.slice none 0 0,.slice none 0 0,.int .u64 0]) (by kernel_rfl)];refine a7 fun gT V ac W Y=>?_;have ad:=U.size;have e:(y0.agg #[.int .i64 0,.int .u64 0]).cells= #[.int .i64 0,.int .u64 0]:=rfl;have J:aa O g dL ((u6 n (⟨0,0⟩:Cell)).flatMap gA):=by rw[←zd,←e];exact J
 have X:aT gA 2 dL O g (.slice (some ⟨g,0,none⟩) n n) (u6 n ⟨0,0⟩):=by
  refine⟨?_,fun _ _=>rfl⟩;rw[List.length_replicate];exact bz.full J (by simp[gA]) (by simp[maxLen];omega)
 refine⟨U.trans W,gT,rfl,by show w.heap.size≤gT;omega,g,0,0,_,_,_,Y,X.ext W,aT.nil _ _ _ _ _,aT.nil _ _ _ _ _,fun r E=>?_⟩;rcases E with E|E|E
 ·have:=(X.leads E).1;show w.heap.size≤r;omega
 ·exact (ds E).elim
 ·exact (ds E).elim
theorem k5 {α β:Type} {f:α→List β}:∀ {L:List α} {i j:Nat} {a:α},L[i]? =some a→j<(f a).length→(L.flatMap f)[((L.take i).flatMap f).length+j]? =(f a)[j]?
 |x::L,0,j,a,h,E=>by
  cases h;rw[List.take_zero,List.flatMap_nil,List.length_nil,V0,V1,Z4 E]
 |x::L,i+1,j,a,h,E=>by
  have h:L[i]? =some a:=by simpa using h
  rw[List.take_succ_cons,V1,V1,u7,Nat.add_assoc,Z7 (by omega),Nat.add_sub_cancel_left,k5 h E]
theorem ID {α β:Type} {f:α→List β} {L:List α} {i:Nat} {a:α} (h:L[i]? =some a) (E:j<(f a).length):((L.take i).flatMap f).length+j<(L.flatMap f).length:=by
 have h1:=k5 (f:=f) h E;rw[x4 E] at h1;exact (x3.1 h1).1
structure gB where
 gone:Int
 mask:Int
 un:List Int
structure ep where
 sc:List Int
 ai:List Int
 live:Int
 cs:List Int
structure td where
 v:Int
 sc:List Int
 mL:List Int
structure aN where
 zero:Int
 vars:List gB
 funs:List ep
 mN:List td
def jj (x:gB):List Int:=x.gone::x.mask::x.un
def ga (x:ep):List Int:=x.live::x.cs
def lC (s:aN):List Int:=[s.zero,(s.funs.length:Int),(s.mN.length:Int)]
def aN.cells (s:aN):List Int:=lC s++(s.vars.flatMap jj++s.funs.flatMap ga)
def gV (s:aN) (i:Nat):Nat:=3+((s.vars.take i).flatMap jj).length
def fk (s:aN) (j:Nat):Nat:=3+((s.vars.flatMap jj).length+((s.funs.take j).flatMap ga).length)
theorem IE (s:aN):s.cells[0]? =some s.zero:=rfl
theorem qG {s:aN} {i:Nat} {x:gB} (h:s.vars[i]? =some x) (J:j<x.un.length+2):s.cells[gV s i+j]? =(jj x)[j]?:=by
 have E:j<(jj x).length:=J;unfold aN.cells gV;rw[Nat.add_assoc,Z7 (by simp[lC]),show (lC s).length=3 from rfl,Nat.add_sub_cancel_left,Z4 (ID h E),k5 h E]
theorem te {s:aN} {i:Nat} {x:ep} (h:s.funs[i]? =some x) (E:j<x.cs.length+1):s.cells[fk s i+j]? =(ga x)[j]?:=by
 have J:j<(ga x).length:=E;unfold aN.cells fk;rw[Nat.add_assoc,Nat.add_assoc,Z7 (by simp[lC]),show (lC s).length=3 from rfl,Nat.add_sub_cancel_left,Z7 (by omega),Nat.add_sub_cancel_left,k5 h J]
theorem IF {s:aN} (x:ep):(s.cells++ga x).set 1 ((s.funs.length+1:Nat):Int)=({s with funs:=s.funs++[x]}:aN).cells:=by
 unfold aN.cells;simp only[List.flatMap_append,List.flatMap_singleton,lC,u7,V5,Y2];rfl
theorem ol (s:aN):s.cells.length=3+((s.vars.flatMap jj).length+(s.funs.flatMap ga).length):=by
 unfold aN.cells;rw[u7,u7];rfl
def dropped (mask:Int) (v:Int):Bool:=mask.toNat.testBit v.toNat
structure eF (k:Int) (sizes:List Int) (s:aN):Prop where
 lD:1≤k∧k≤2147483648
 jk:1≤sizes.length∧sizes.length≤64∧ ∀ z∈sizes,1≤z∧z≤32
 zero:0≤s.zero∧s.zero≤k
 vars:s.vars.length=sizes.length
 var:∀ (i:Nat) x z,s.vars[i]? =some x→sizes[i]? =some z→x.un.length=z.toNat∧(∀ c∈x.un,0≤c∧c≤k)∧0≤x.mask∧x.mask<4294967296
 funs:∀ f∈s.funs,eC sizes k (f.sc,f.cs)∧f.ai=bK sizes f.sc∧2≤f.sc.length
def newVar (u:List Int):gB:=⟨0,0,u⟩
def kB (sizes:List Int) (g:b1):ep:=⟨g.1,bK sizes g.1,1,g.2⟩
def er (n:aV):aN:=⟨n.zero,n.unary.map newVar,n.funs.map (kB n.sizes),[]⟩
theorem IG {n:aV} (h:hy n):eF n.k n.sizes (er n):=by
 refine⟨h.k,h.sizes,h.zero,by simp[er,h.iw],fun i x z J O=>?_,fun f ae=>?_⟩
 ·have J:(n.unary.map newVar)[i]? =some x:=J;rw[x7] at J;obtain⟨u,hu,rfl⟩:=Z2.1 J;obtain⟨h1,E⟩:=h.unary i z u O hu;exact⟨h1,E,Int.le_refl _,by show (0:Int)<_;omega⟩
 ·obtain⟨g,U,rfl⟩:=o8.1 ae;obtain⟨h1,E⟩:=h.funs g U;exact⟨h1,rfl,E⟩
theorem tf {n:aV} (h:eE w E n):ag x5 B7 [.pointer (some ⟨E,0,none⟩)] w fun v w'=>v= .int .i64 (n.sizes.length:Int)∧Ext w w':=by
 obtain⟨U,V,W,X,gr,aG,L,nm,szv,gz,fv2,h1,J,O,Y,Z,aa,ab⟩:=h;refine ap func108 ?_;rw[cQ kg.u];simp only[c6,aR];rw[aD ey.p 0 h1 rfl,aD bT.p 2 J rfl,aK al.u O.ls];exact⟨rfl,Ext.refl _⟩
theorem IH {n:aV} (h:eE w E n):ag x5 CC [.pointer (some ⟨E,0,none⟩)] w fun v w'=>v= .int .i64 n.k∧Ext w w':=by
 obtain⟨O,U,V,W,gr,aG,L,nm,szv,gz,fv2,h1,J,X,Y,Z,aa,ab⟩:=h;refine ap func159 ?_;rw[cQ kg.u];simp only[c6,aR];rw[aD ey.p 0 h1 rfl,aD bT.p 1 J rfl];exact⟨rfl,Ext.refl _⟩
theorem II {n:aV} (h:eE w E n):ag x5 B6 [.pointer (some ⟨E,0,none⟩)] w fun v w'=>v= .int .i64 n.zero∧Ext w w':=by
 obtain⟨J,O,U,V,gr,aG,L,nm,szv,gz,fv2,h1,W,X,Y,Z,aa,ab⟩:=h;refine ap func107 ?_;rw[cQ kg.u];simp only[c6,aR];rw[aD ey.p 1 h1 rfl];exact⟨rfl,Ext.refl _⟩
theorem ze {n:aV} (h:eE w E n):ag x5 vr [.pointer (some ⟨E,0,none⟩)] w fun v w'=>v= .int .i64 (n.funs.length:Int)∧Ext w w':=by
 obtain⟨U,V,W,X,gr,aG,L,nm,szv,gz,fv2,h1,Y,Z,aa,ab,J,O⟩:=h;refine ap func111 ?_;rw[cQ kg.u];simp only[c6,aR];rw[aD ey.p 3 h1 rfl,dA iT.u J.1];exact⟨by rw[←O,r8],Ext.refl _⟩
theorem zf {n:aV} {i:Int} (h:eE w Y n) (J:hy n):ag x5 B8 [.pointer (some ⟨Y,0,none⟩),.int .i64 i] w fun v w'=>Ext w w'∧(¬(0≤i∧i<n.sizes.length)→v= .slice none 0 0)∧
  ∀ u,0≤i→n.unary[i.toNat]? =some u→ ∃ g,w.heap.size≤g∧ak .i64 aj w' g v u:=by
 refine ap func109 ?_;have am:=J.iw;refine aI (fun v O=>v= .bool (decide (¬(0≤i∧i<n.sizes.length)))∧Ext w O) ?_ ?_
 ·rintro _ O ⟨rfl,E⟩;rw[af];refine⟨fun ad=>⟨E,fun _=>rfl,fun u ae hu=>?_⟩,fun U=>?_⟩
  ·have:=(x3.1 hu).1;exact absurd ⟨ae,by omega⟩ ad
  have U:0≤i∧i<n.sizes.length:=Z6.1 U;obtain⟨ao,aq,au,aw,gr,aG,L,nm,szv,gz,fv2,h1,ax,ay,W,Z,az,aA⟩:=h.ext E;have aB:aG.length=n.unary.length:=by rw[←Z,r8]
  obtain⟨a,X⟩:=aE (l:=aG) (i:=i.toNat) (by omega);obtain⟨aF,hm⟩:=W.2 a (x2 X);rw[aD ey.p 2 h1 rfl,cM (i:=i.toNat) (by omega) eY.u an.i W.1 (by omega),av (o:=i.toNat*1) (by kernel_rfl) (W.1.range X 0 _ rfl)];have aa:n.unary[i.toNat]? =some a.l:=by rw[←Z,x7,X];rfl
  have aH:a.l.length≤32:=by
   obtain⟨z,ab⟩:=aE (l:=n.sizes) (i:=i.toNat) (by omega);have aJ:=(J.unary i.toNat z a.l ab aa).1;have aK:=J.sizes.2.2 z (x2 ab);omega
  refine (r0 hm.ls (by omega)).mono ?_;rintro v V _ ⟨ah,g,aL,ai⟩;refine⟨E.trans ah,fun al=>absurd U al,fun u _ hu=>⟨g,by have:=E.size;omega,?_⟩⟩;rw[aa] at hu;cases hu;exact ai
 ·intro aM ac;rw[aC,af];refine⟨fun aN=>ac _ _ ⟨by rw[decide_eq_true];omega,Ext.refl _⟩,fun aO=>?_⟩;refine (tf h).mono ?_;rintro _ O _ ⟨rfl,E⟩;rw[cn];refine ac _ _ ⟨?_,E⟩;congr 1;rw[X8,decide_eq_true_eq,decide_eq_true_eq];omega
theorem zg {U:Nat} {n:aV} {i:Int} (h:eE w U n) (E:hy n):ag x5 Cx [.pointer (some ⟨U,0,none⟩),.int .i64 i] w fun v w'=>Ext w w'∧v= .int .i64 (if 0≤i then n.sizes.getD i.toNat 0 else 0):=by
 refine ap func150 ?_;refine (zf h E).mono ?_;rintro v Z _ ⟨V,X,Y⟩;by_cases J:0≤i∧i<n.sizes.length
 ·have aa:=E.iw;obtain⟨u,hu⟩:=aE (l:=n.unary) (i:=i.toNat) (by omega);obtain⟨z,O⟩:=aE (l:=n.sizes) (i:=i.toNat) (by omega);obtain⟨g,_,hm⟩:=Y u J.1 hu;rw[aK an.u hm.ls];refine⟨V,?_⟩;have ab:=(E.unary i.toNat z u O hu).1;have ac:=E.sizes.2.2 z (x2 O);rw[if_pos J.1,u4,O];congr 1;simp only[V4];omega
 ·rw[X J,fK an.u];refine⟨V,?_⟩;by_cases W:0≤i
  ·rw[if_pos W,u4,c8 (by omega)];rfl
  ·rw[if_neg W];rfl
theorem zh {n:aV} {j:Int} (h:eE w E n) {K:y0→x1→Prop} (J:∀ w',Ext w w'→K (.bool (decide (¬(0≤j∧j<n.funs.length)))) w'):
  O x5 (ax .lss ab false true (.int .i64 j) (.int .i64 0)) w fun V=>Split V (K (.bool true) w) (ag x5 vr [.pointer (some ⟨E,0,none⟩)] w fun W U=>O x5 (ax .geq ab false false (.int .i64 j) W) U fun X=>K X U):=by
 rw[aC,af];refine⟨fun aa=>?_,fun ac=>?_⟩
 ·have:=J w (Ext.refl _);rw[decide_eq_true (show ¬(0≤j∧j<n.funs.length) by omega)] at this;exact this
 ·refine (ze h).mono ?_;rintro _ Y _ ⟨rfl,Z⟩;rw[cn];have:=J Y Z;have e:decide ((n.funs.length:Int)≤j)=decide (¬(0≤j∧j<n.funs.length)):=by
   rw[X8,decide_eq_true_eq,decide_eq_true_eq];omega
  rw[←e] at this;exact this
theorem IJ {X:Nat} {n:aV} {g:b1} (h:eE w X n) (ac:hy n) (E:n.funs[j]? =some g):ag x5 Ca [.pointer (some ⟨X,0,none⟩),.int .i64 (j:Int)] w fun v w'=>Ext w w'∧ ∃ gs,w.heap.size≤gs∧ak .i64 ab w' gs v g.1:=by
 refine ap func113 ?_;have ah:=(x3.1 E).1;refine aI (fun v Y=>v= .bool (decide (¬(0≤(j:Int)∧(j:Int)<n.funs.length)))∧Ext w Y) ?_ fun ai ad=>zh h fun w' J=>ad _ _ ⟨rfl,J⟩;rintro _ Y ⟨rfl,O⟩;rw[decide_eq_false (by omega),aR];obtain⟨aj,al,am,an,gr,aG,L,nm,szv,gz,fv2,h1,ao,aq,au,aw,U,Z⟩:=h.ext O;have ax:L.length=n.funs.length:=by rw[←Z,r8]
 obtain⟨a,W⟩:=aE (l:=L) (i:=j) (by omega);have aa:df a=g:=by rw[←Z,x7,W] at E;exact b9 E
 obtain⟨⟨ay,hm⟩,_⟩:=U.2 a (x2 W);rw[aD ey.p 3 h1 rfl,cM rfl iT.u fJ.i U.1 (by omega),aF fJ.p rfl,av (by kernel_rfl) (U.1.range W 0 _ rfl)];have az:a.sc.length≤6:=by
  have:=(ac.funs g (x2 E)).1.scope.2;rw[←aa] at this;exact this
 refine (ij hm.ls (by omega)).mono ?_;rintro v V _ ⟨ae,gs,aA,af⟩;refine⟨O.trans ae,gs,by have:=O.size;omega,?_⟩;rw[←aa];exact af
theorem IK {g ae:Nat} {ai:List Int} {k:Int} {cs:List Int} (h:cA w g ae sv ai k cs):ag x5 CW [.pointer (some ⟨g,0,none⟩)] w fun v w'=>Ext w w'∧ ∃ E J,v= .pointer (some ⟨E,0,none⟩)∧w.heap.size≤E∧w.heap.size≤J∧cA w' E J sv ai k cs:=by
 obtain⟨⟨aJ,gs,af,hm,ah⟩,⟨h1,am,aj⟩,Y,Z⟩:=h;refine ap func189 ?_;rw[cQ dJ.u];simp only[c6,aR];intro an O _ _;have W:=af.ext O;have ao:=prod_bound Y;rw[bB,aF ci.p rfl,bn (cs:=[sv]) bb.p bb.i rfl (k9 W (by
  intro j v ac
  match j,ac with
  |0,ac=>exact ac)),aD ci.p 1 W rfl,aD ci.p 2 W rfl]
 refine (r0 (ah.ls.ext O) (by omega)).mono ?_;rintro aa V _ ⟨X,J,aq,U⟩;refine⟨.inl X,?_⟩;rw[ct (cs:=#[sv,.int .i64 k,aa]) (by obtain⟨_,_,_,rfl⟩:=cL hm.ls;obtain⟨_,_,_,rfl⟩:=cL U.ls;kernel_rfl)];refine a7 fun E au av ab ak=>?_;have aw:=O.size;have ax:=X.size;have ay:=U;have ad:=(O.trans X).trans ab;refine⟨ad,E,J,rfl,by omega,by omega,⟨aa,gs,ak,hm.ext ad,U.ext ab⟩,⟨?_,?_,aj⟩,Y,Z⟩
 ·have:=qo U (by rw[Z];omega);omega
 ·intro al;obtain⟨az,aA⟩:=bp hm al;omega
theorem IL {w0:x1} {Z:Nat} {n:aV} {g:b1} (ad:eE w0 Z n) (ae:Ext w0 w) (O:n.funs[j]? =some g):ag x5 Cb [.pointer (some ⟨Z,0,none⟩),.int .i64 (j:Int)] w fun v w'=>Ext w w'∧ ∃ gt U sv,v= .pointer (some ⟨gt,0,none⟩)∧w.heap.size≤gt∧w.heap.size≤U∧cA w' gt U sv (bK n.sizes g.1) n.k g.2∧ ∀ r,leads sv r→ ∃ c,aa w0 r ab c:=by
 have h:=ad.ext ae;refine ap func114 ?_;have ay:=(x3.1 O).1;refine aI (fun v af=>v= .bool (decide (¬(0≤(j:Int)∧(j:Int)<n.funs.length)))∧Ext w af) ?_ fun az al=>zh h fun w' J=>al _ _ ⟨rfl,J⟩;rintro _ af ⟨rfl,W⟩;rw[decide_eq_false (by omega),aR];have E:=ae.trans W;obtain⟨aA,aB,aC,aH,gr,aG,L,nm,szv,gz,fv2,h1,aJ,aK,aL,aM,X,ah⟩:=ad;have aN:L.length=n.funs.length:=by rw[←ah,r8]
 obtain⟨a,Y⟩:=aE (l:=L) (i:=j) (by omega);have am:df a=g:=by rw[←ah,x7,Y] at O;exact b9 O
 obtain⟨_,U,an,ai⟩:=X.2 a (x2 Y);rw[aD ey.p 3 (h1.ext E) rfl,cM rfl iT.u fJ.i (X.1.ext E) (by omega),aF fJ.p rfl,av (by kernel_rfl) ((X.1.ext E).range Y 1 _ rfl)];refine (IK (ai.ext E)).mono ?_;rintro v V _ ⟨ao,gt,aq,rfl,aO,aP,au⟩;have aQ:=W.size;refine⟨W.trans ao,gt,aq,an,rfl,by omega,by omega,?_,fun r aj=>?_⟩
 ·rw[←am];exact au
 ·obtain⟨⟨_,_,_,hm,_⟩,_⟩:=ai;obtain⟨aw,_⟩:=bp hm aj;rcases hm.2 with⟨ac,_⟩|⟨_,cs,_,ax,_⟩
  ·obtain⟨_,_,_,ak,aS⟩:=aj;rw[ac] at ak;cases ak
  ·exact⟨cs,aw▸ax⟩
structure mO where
 aO:y0
 szv:y0
 at_:Nat
def mP (x:mO):List y0:=[x.aO,x.szv,.int .i64 (x.at_:Int)]
structure om where
 v:Int
 aO:y0
 bv:y0
def IM (x:om):List y0:=[.int .i64 x.v,x.aO,x.bv]
def hz (s:aN):List Int:=(Z1 s.vars.length).map fun i=>(gV s i:Int)
def gW (R:am) (w:x1) (v:y0) (l:List Int):Prop:=(∃ g,ak .i64 ab w g v l)∧ ∀ r,leads v r→R r
theorem gW.ls {R:am} (h:gW R w v l):ay .i64 w v l:=by
 obtain⟨⟨g,h⟩,_⟩:=h;exact h.ls
theorem gW.U {R S:am} (h:gW R w v l) (O:ad S w w') (V:∀ r,r<w.heap.size→R r→¬S r):gW R w' v l:=by
 obtain⟨⟨g,h1⟩,E⟩:=h;exact⟨⟨g,aZ h1 O fun r J=>V r (by obtain⟨W,X⟩:=bp h1 J;omega) (E r J)⟩,E⟩
theorem gW.mono {R R':am} (h:gW R w v l) (E:∀ r,R r→R' r):gW R' w v l:=⟨h.1,fun r J=>E r (h.2 r J)⟩
def jS (R:am) (w:x1) (L:List mO) (s:aN):Prop:=L.length=s.funs.length∧ ∀ (j:Nat) x f,L[j]? =some x→s.funs[j]? =some f→gW R w x.aO f.sc∧gW R w x.szv f.ai∧x.at_=fk s j
def jT (R:am) (w:x1) (E:List om) (s:aN):Prop:=E.length=s.mN.length∧ ∀ (j:Nat) x e,E[j]? =some x→s.mN[j]? =some e→x.v=e.v∧gW R w x.aO e.sc∧gW R w x.bv e.mL
theorem jS.U {R S:am} {L:List mO} {s:aN} (h:jS R w L s) (E:ad S w w') (O:∀ r,r<w.heap.size→R r→¬S r):jS R w' L s:=⟨h.1,fun j x f J ae=>by
 obtain⟨h1,V,W⟩:=h.2 j x f J ae;exact⟨h1.U E O,V.U E O,W⟩⟩
theorem jT.U {R S:am} {E:List om} {s:aN} (h:jT R w E s) (O:ad S w w') (V:∀ r,r<w.heap.size→R r→¬S r):jT R w' E s:=⟨h.1,fun j x f J ae=>by
 obtain⟨h1,W,X⟩:=h.2 j x f J ae;exact⟨h1,W.U O V,X.U O V⟩⟩
theorem jS.mono {R R':am} {L:List mO} {s:aN} (h:jS R w L s) (E:∀ r,R r→R' r):jS R' w L s:=⟨h.1,fun j x f J ae=>by
 obtain⟨h1,O,U⟩:=h.2 j x f J ae;exact⟨h1.mono E,O.mono E,U⟩⟩
theorem jT.mono {R R':am} {E:List om} {s:aN} (h:jT R w E s) (O:∀ r,R r→R' r):jT R' w E s:=⟨h.1,fun j x f J ae=>by
 obtain⟨h1,U,V⟩:=h.2 j x f J ae;exact⟨h1,U.mono O,V.mono O⟩⟩
theorem qH {a b c:x1} (h:Ext a b) (k:ad S b c) (O:∀ r o,a.heap[r]? =some o→eK o=true→¬S r):Ext a c:=
 ⟨Z3 h.size k.size,fun r o J E=>k.aX r o (h.aX r o J E) E (O r o J E)⟩
theorem c4.cut {A:am} {t:aH} (h:c4 w gT A t):c4 w gT (fun r=>A r∧r<w.heap.size) t:=by
 obtain⟨X,Y,go,Z,aJ,aa,ab,h1,J,O,U,ac⟩:=h;refine⟨⟨X,h1.lt⟩,Y,go,Z,aJ,aa,ab,h1,J,O,U,fun r E=>⟨ac r E,?_⟩⟩;rcases E with E|E|E
 ·obtain⟨V,W⟩:=J.leads E;omega
 ·obtain⟨V,W⟩:=O.leads E;omega
 ·obtain⟨V,W⟩:=U.leads E;omega
def dY (w:x1) (ao gT V:Nat) (J O U:y0) (A R:am) (n:aV) (s:aN) (t:aH):Prop:=
 (A ao∧(∀ r,A r→¬R r)∧(∀ r,R r→r<w.heap.size)∧ ∀ r,A r→r<w.heap.size)∧ ∃ X Y Z,∃ (L:List mO) (W:List om) (E:am) (w0:x1),
  aa w ao ch [.pointer (some ⟨V,0,none⟩),.pointer (some ⟨gT,0,none⟩),J,O,U]∧(eE w0 V n∧Ext w0 w∧ ∀ r o,w0.heap[r]? =some o→eK o=true→R r)∧
  (c4 w gT E t∧(∀ r,E r→A r)∧¬E ao∧ ∀ r,leads J r∨leadsTo O r∨leadsTo U r→A r∧¬E r)∧ak .i64 ab w X J (hz s)∧
  (aT mP 3 eL w Y O L∧jS R w L s)∧aT IM 3 vG w Z U W∧jT R w W s
theorem dY.U {S:am} {aa:Nat} {ab ac ae:y0} {A R:am} {n:aV} {s:aN} {t:aH} (h:dY w ao gT aa ab ac ae A R n s t) (O:ad S w w') (V:∀ r,r<w.heap.size→A r∨R r→¬S r):dY w' ao gT aa ab ac ae A R n s t:=by
 obtain⟨⟨h1,W,av,aw⟩,ax,ay,az,L,aA,aB,w0,af,⟨aC,ag,ah⟩,⟨aD,X,aE,Y⟩,ai,⟨aj,aF⟩,ak,aG⟩:=h;have z:=O.size;refine⟨⟨h1,W,fun r E=>by have:=av r E;omega,fun r E=>by have:=aw r E;omega⟩,ax,ay,az,L,aA,aB,w0,af.U O (V _ af.lt (.inl h1)),⟨aC,qH ag O fun r o E aI J=>V r (by have:=ag.size;have:=(o7.1 E).1;omega) (.inr (ah r o E aI)) J,ah⟩,
  ⟨?_,X,aE,Y⟩,aZ ai O fun r E J=>V r ?_ (.inl (Y r (.inl E)).1) J,⟨aj.U O fun r E J=>V r ?_ (.inl (Y r (.inr (.inl E))).1) J,aF.U O fun r E h=>V r E (.inr h)⟩,ak.U O fun r E J=>V r ?_ (.inl (Y r (.inr (.inr E))).1) J,aG.U O fun r E h=>V r E (.inr h)⟩
 ·obtain⟨al,aK,go,aL,aJ,aM,aO,an,ap,aq,au,Z⟩:=aD;refine⟨al,aK,go,aL,aJ,aM,aO,an.U O (V _ an.lt (.inl (X _ al))),ap.U O fun r E J=>?_,aq.U O fun r E J=>?_,au.U O fun r E J=>?_,Z⟩
  ·exact V r (by obtain⟨h1,W⟩:=ap.leads E;omega) (.inl (X _ (Z r (.inl E)))) J
  ·exact V r (by obtain⟨h1,W⟩:=aq.leads E;omega) (.inl (X _ (Z r (.inr (.inl E))))) J
  ·exact V r (by obtain⟨h1,W⟩:=au.leads E;omega) (.inl (X _ (Z r (.inr (.inr E))))) J
 ·obtain⟨h1,W⟩:=bp ai E;omega
 ·obtain⟨h1,W⟩:=aj.leads E;omega
 ·obtain⟨h1,W⟩:=ak.leads E;omega
theorem dY.ext {O V W:y0} {A R:am} {n:aV} {s:aN} {t:aH} (h:dY w ao gT E O V W A R n s t) (J:Ext w w'):dY w' ao gT E O V W A R n s t:=h.U (J.U fun _=>False) fun _ _ _ h=>h
theorem dY.zi {ad:Nat} {ae af ag:y0} {A R:am} {n:aV} {s:aN} {t:aH} (h:dY w ao gT ad ae af ag A R n s t):∃ Y,c4 w gT Y t∧ ∀ X w' ab,Grow Y w X w'→c4 w' gT X ab→ ∃ ah,Grow A w ah w'∧dY w' ao gT ad ae af ag ah R n s ab:=by
 obtain⟨⟨h1,V,ai,aj⟩,ay,az,aA,L,aB,Y,w0,ak,⟨aC,aD,al⟩,⟨aE,W,an,Z⟩,ap,⟨aq,aF⟩,au,aG⟩:=h;refine⟨Y,aE,fun av w' ab aa aI=>?_⟩;have aw:=aI.cut;have J:Grow Y w (fun r=>av r∧r<w'.heap.size) w':=⟨aa.1,fun r E=>aa.2.1 r E.1,fun r E=>⟨aa.2.2 r E,by have:=aj r (W r E);have:=aa.1.size;omega⟩⟩;obtain⟨X,ax⟩:∃ B:am,B=fun r=>av r∧r<w'.heap.size:=⟨_,rfl⟩;rw[←ax] at aw J;have aJ:∀ r,X r→r<w'.heap.size:=fun r h=>by rw[ax] at h;exact h.2
 refine⟨fun r=>A r∨X r,⟨J.1.mono fun r _ E=>W r E,fun r E=>?_,fun r E=>.inl E⟩,⟨.inl h1,fun r E ac=>?_,fun r E=>?_,fun r E=>?_⟩,ay,az,aA,L,aB,X,w0,ak.U J.1 an,⟨aC,qH aD J.1 fun r o E aK O=>V r (W r O) (al r o E aK),al⟩,
  ⟨aw,fun r E=>.inr E,fun E=>?_,fun r E=>⟨.inl (Z r E).1,fun aL=>?_⟩⟩,aZ ap J.1 fun r E O=>(Z r (.inl E)).2 O,⟨aq.U J.1 fun r E O=>(Z r (.inr (.inl E))).2 O,aF.U J.1 fun r _ E O=>V r (W r O) E⟩,au.U J.1 fun r E O=>(Z r (.inr (.inr E))).2 O,aG.U J.1 fun r _ E O=>V r (W r O) E⟩
 ·rcases E with E|E
  ·exact .inl E
  ·exact (J.2.1 r E).imp (W r) id
 ·have:=ai r ac;rcases E with E|E
  ·exact V r E ac
  ·rcases J.2.1 r E with h|h
   ·exact V r (W r h) ac
   ·omega
 ·have:=ai r E;have:=J.1.size;omega
 ·rcases E with E|E
  ·have:=aj r E;have:=J.1.size;omega
  ·exact aJ r E
 ·rcases J.2.1 _ E with h|h
  ·exact an h
  ·have:=ak.lt;omega
 ·rcases J.2.1 r aL with h|h
  ·exact (Z r E).2 h
  ·rcases E with E|E|E
   ·obtain⟨h1,V⟩:=bp ap E;omega
   ·obtain⟨h1,V⟩:=aq.leads E;omega
   ·obtain⟨h1,V⟩:=au.leads E;omega
def StateM (w:x1) (ao gT:Nat) (A R:am) (n:aV) (s:aN) (t:aH):Prop:=∃ E J O U,dY w ao gT E J O U A R n s t
theorem StateM.U {S:am} {A R:am} {n:aV} {s:aN} {t:aH} (h:StateM w ao gT A R n s t) (E:ad S w w') (J:∀ r,r<w.heap.size→A r∨R r→¬S r):StateM w' ao gT A R n s t:=by
 obtain⟨O,V,W,X,h⟩:=h;exact⟨O,V,W,X,h.U E J⟩
theorem StateM.ext {A R:am} {n:aV} {s:aN} {t:aH} (h:StateM w ao gT A R n s t) (J:Ext w w'):StateM w' ao gT A R n s t:=h.U (J.U fun _=>False) fun _ _ _ h=>h
def zj (s s':aN):Prop:=hz s'=hz s∧s'.funs.length=s.funs.length∧(∀ (j:Nat) E,s'.funs[j]? =some E→ ∃ f,s.funs[j]? =some f∧E.sc=f.sc∧E.ai=f.ai∧fk s' j=fk s j)∧s'.mN=s.mN
theorem dY.same {O U V:y0} {A R:am} {n:aV} {s s':aN} {t:aH} (h:dY w ao gT E O U V A R n s t) (X:zj s s'):dY w ao gT E O U V A R n s' t:=by
 obtain⟨Y,Z,aa,ab,L,ac,ad,w0,af,ag,ah,ai,⟨aj,W⟩,ak,al⟩:=h;obtain⟨an,ap,aq,au⟩:=X;refine⟨Y,Z,aa,ab,L,ac,ad,w0,af,ag,ah,by rw[an];exact ai,⟨aj,W.1.trans ap.symm,fun j x av J aw=>?_⟩,ak,?_⟩
 ·obtain⟨f,ae,ax,ay,az⟩:=aq j av aw;rw[ax,ay,az];exact W.2 j x f J ae
 ·unfold jT;rw[au];exact al
theorem IN (s:aN) (c:Int):zj s {s with zero:=c}:=⟨rfl,rfl,fun j f h=>⟨f,h,rfl,rfl,rfl⟩,rfl⟩
theorem aH.zk (t:aH) (i:Nat) (x:Int):(t.set i x).marks=t.marks:=by
 unfold aH.set;cases t.cells[i]? with
 |none=>rfl
 |some c=>
  simp only;cases t.marks.getLast? with
  |none=>rfl
  |some m=>simp only;split <;> rfl
theorem aH.zl (t:aH) (i:Nat) (x:Int):(t.set i x).ht=t.ht:=by
 unfold aH.set;cases t.cells[i]? with
 |none=>rfl
 |some c=>
  simp only;cases t.marks.getLast? with
  |none=>rfl
  |some m=>simp only;split <;> rfl
theorem aH.IP (t:aH) (i:Nat) (x:Int):(t.set i x).cells.length=t.cells.length:=by
 have h:=congrArg V3 (aH.pI (t:=t) (i:=i) (x:=x));rw[X7] at h;unfold aH.bH at h;rwa [r8,r8] at h
theorem aH.IQ (t:aH) (i:Nat) (x:Int):(t.set i x).olds.length≤t.olds.length+1:=by
 unfold aH.set;cases t.cells[i]? with
 |none=>exact Nat.le_succ _
 |some c=>
  simp only;cases t.marks.getLast? with
  |none=>exact Nat.le_succ _
  |some m=>simp only;split <;> simp
theorem aH.zm {t:aH} (h:t.marks=[]) (i:Nat) (x:Int):(t.set i x).olds=t.olds:=by
 unfold aH.set;cases t.cells[i]? with
 |none=>rfl
 |some c=>simp only[h,List.getLast?_nil]
def eG (t:aH) (l:List Int):Nat→aH
 |0=>t.grow l.length
 |i+1=>(eG t l i).set (t.cells.length+i) (l.getD i 0)
def kC (t:aH) (l:List Int):aH:=eG t l l.length
theorem oo (t:aH) (l:List Int):∀ i,(eG t l i).marks=t.marks
 |0=>rfl
 |i+1=>(aH.zk _ _ _).trans (oo t l i)
theorem zn (t:aH) (l:List Int):∀ i,(eG t l i).ht=t.ht
 |0=>rfl
 |i+1=>(aH.zl _ _ _).trans (zn t l i)
theorem tg (t:aH) (l:List Int):∀ i,(eG t l i).cells.length=t.cells.length+l.length
 |0=>by simp[eG,aH.grow]
 |i+1=>(aH.IP _ _ _).trans (tg t l i)
theorem th (t:aH) (l:List Int):∀ i,(eG t l i).olds.length≤t.olds.length+i
 |0=>r9 _
 |i+1=>by have:=aH.IQ (eG t l i) (t.cells.length+i) (l.getD i 0);have:=th t l i;show (aH.set _ _ _).olds.length≤_;omega
theorem zo {t:aH} (h:t.marks=[]) (l:List Int):∀ i,(eG t l i).olds=t.olds
 |0=>rfl
 |i+1=>(aH.zm ((oo t l i).trans h) _ _).trans (zo h l i)
theorem zp (t:aH) (l:List Int):∀ i,i≤l.length→(eG t l i).bH=t.bH++(l.take i++u6 (l.length-i) 0)
 |0,_=>by rw[List.take_zero,List.nil_append];exact aH.Es
 |i+1,h=>by
  have E:=zp t l i (by omega);show (aH.set _ _ _).bH=_;have J:t.bH.length=t.cells.length:=by simp[aH.bH]
  rw[aH.pI,E,List.set_append_right _ _ (by omega),J,Nat.add_sub_cancel_left,List.set_append_right _ _ (by rw[o6];omega),o6,Nat.min_eq_left (by omega),X9,show l.length-i=(l.length-(i+1))+1 by omega,List.replicate_succ,List.set_cons_zero,u5,u4,x4 (show i<l.length by omega)];simp only[j5,V4,Y2,List.singleton_append]
theorem zq (t:aH) (l:List Int):(kC t l).bH=t.bH++l:=by
 unfold kC;rw[zp t l _ (r9 _),o5,X9,List.replicate_zero,Y8]
theorem hP.eG {h:List aH} {t:aH} (E:hP t h) (l:List Int):∀ i,hP (eG t l i) h
 |0=>E.grow
 |i+1=>(hP.eG E l i).set
theorem lq {s:Go.Sem y0} {x:y0} (h:O x5 s w (fun v=>v=x)):bR x5 s x w:=by
 obtain⟨v,h,rfl⟩:=h;exact h
theorem qI {off:Nat} {z:Nat} {E:u9} {cs:List y0} {x:y0} (J:aa w ao e cs) (U:∀ (K:y0→Prop),O x5 (x8 ch (.pointer (some ⟨ao,0,none⟩)) z) w K=K (.pointer (some ⟨ao,0+off,none⟩))) (V:iW x5 E=true) (W:cs[0+off]? =some x):
  bR x5 (x6 E (.pointer (some ⟨ao,0+off,none⟩))) x w∧bR x5 (x8 ch (.pointer (some ⟨ao,0,none⟩)) z) (.pointer (some ⟨ao,0+off,none⟩)) w∧bR x5 (bl (.pointer (some ⟨ao,0,none⟩))) (.pointer (some ⟨ao,0,none⟩)) w∧True:=
 ⟨wr V (J.cell W),lq (by rw[U]),lq (by rw[bB]),trivial⟩
def zr (w:x1) (r:Nat):Prop:=∃ e c,aa w r e c∧(e=eM∨e=dL∨e=jH∨e=fd∨e=ch∨e=eL∨e=vG)
def gC (w:x1) (r:Nat):Prop:=zr w r∨ ∀ o,w.heap[r]? =some o→eK o≠true
theorem zs {O:x1} {r:Nat} (W:∀ o,w.heap[r]? =some o→eK o=true→¬gC w r→O.heap[r]? =some o) (h:gC O r):gC w r:=by
 by_cases E:gC w r
 ·exact E
 ·refine absurd (.inr fun o U V=>?_) E;have h1:=W o U V E;rcases h with⟨e,c,J,he⟩|X
  ·refine E (.inl ⟨e,c,?_,he⟩);unfold aa at J ⊢;rw[h1] at J;rw[U];exact J
  ·exact X o h1 V
theorem ti {E V:x1} (J:Ext w E) (O:ad (gC E) E V):ad (gC w) w V:=(J.U _).trans (O.mono fun r _ h=>zs (fun o W X _=>J.aX r o W X) h)
theorem tj {E V:x1} (h:ad (gC w) w E) (J:ad (gC E) E V):ad (gC w) w V:=h.trans (J.mono fun r _ O=>zs (fun o U W X=>h.aX r o U W X) O)
theorem c4.min {A:am} {t:aH} (h:c4 w gT A t):c4 w gT (fun r=>A r∧zr w r) t:=by
 obtain⟨W,X,go,Y,aJ,Z,aa,h1,O,U,V,ab⟩:=h;refine⟨⟨W,_,_,h1,.inl rfl⟩,X,go,Y,aJ,Z,aa,h1,O,U,V,fun r E=>⟨ab r E,?_⟩⟩;rcases E with E|E|E
 ·obtain⟨rfl,c,J⟩:=c3 O E;exact⟨_,c,J,.inr (.inl rfl)⟩
 ·obtain⟨rfl,c,J⟩:=c3 U E;exact⟨_,c,J,.inr (.inr (.inl rfl))⟩
 ·obtain⟨rfl,c,J⟩:=c3 V E;exact⟨_,c,J,.inr (.inr (.inr (.inl rfl)))⟩
theorem dY.tk {V:Nat} {W X Y:y0} {A R:am} {n:aV} {s:aN} {t:aH} (h:dY w ao gT V W X Y A R n s t):∃ E,c4 w gT E t∧ ∀ Z w' J,Grow E w Z w'→c4 w' gT Z J→ad (gC w) w w'∧ ∃ aa,Grow A w aa w'∧dY w' ao gT V W X Y aa R n s J:=by
 obtain⟨E,ab,ac⟩:=h.zi;refine⟨_,ab.min,fun ae af J O ag=>⟨O.1.mono fun r _ h=>.inl h.2,?_⟩⟩;exact ac (fun r=>E r∨ae r) af _ ⟨O.1.mono fun r _ h=>h.1,fun r U=>U.elim .inl fun h=>(O.2.1 r h).imp (fun h=>h.1) id,fun r U=>.inl U⟩ (ag.mono fun r h=>.inr h)
set_option maxHeartbeats 2000000 in
theorem zt {Z aa ab:y0} {A R:am} {n:aV} {s:aN} {t:aH} {O:y0} (h:dY w ao gT Y Z aa ab A R n s t) (ae:ay .i64 w O l) (av:∀ r,leads O r→¬A r) (bc:t.cells.length+l.length≤100000000) (bd:t.olds.length+l.length≤100000000) (hm:t.marks.length≤100000000):
  ag x5 vq [.pointer (some ⟨ao,0,none⟩),O] w fun v w'=>v= .int .i64 (t.cells.length:Int)∧ad (gC w) w w'∧ ∃ U,Grow A w U w'∧dY w' ao gT Y Z aa ab U R n s (kC t l):=by
 refine ap func110 ?_;obtain⟨_,aw,ax,az,L,aA,_,w0,ah,_⟩:=id h;obtain⟨aF,ai,ak⟩:=h.tk;rw[aD ch.p 1 ah rfl,aK an.u ae];refine (IB (n:=l.length) ai ⟨by omega,by omega,hm⟩ (by omega)).mono ?_;rintro _ aG _ ⟨rfl,aI,aJ,aL⟩;obtain⟨aM,aO,aq,aP⟩:=ak aI aG _ aJ aL;have au:∀ {U:am} {w':x1},Grow A w U w'→ay .i64 w' O l:=fun aQ=>hQ ae aQ.1 fun r aR a aS c ac aT=>av r ⟨a,aS,c,ac,aT⟩ aR;rw[aK an.u (au aq)];have aU:=ae.le;refine bS.range l.length (fun i V=>ad (gC w) w V∧ ∃ E,Grow A w E V∧dY V ao gT Y Z aa ab E R n s (eG t l i)) aU ⟨aM,aO,aq,aP⟩ ?_ ?_
 ·rintro i V k hi ⟨al,E,W,X⟩ aW;refine bC (by omega) ?_;obtain⟨x,J⟩:=aE (l:=l) hi;rw[a1 an.u aj.i (by kernel_rfl) (au W) J];obtain⟨_,aw,ax,az,L,aA,_,w0,ah,_⟩:=id X;obtain⟨aF,ai,ak⟩:=X.tk;have be:=tg t l i;have bf:=th t l i;have aX:=oo t l i;rw[aD ch.p 1 ah rfl,aB,wrap_i64 (by omega) (by omega)];refine (tc (i:=t.cells.length+i) ai (by omega) (by omega) ⟨by omega,by omega,by rw[aX];exact hm⟩).mono ?_;rintro _ aY _ ⟨rfl,aZ,a2,a6⟩;obtain⟨a7,a8,ba,bb⟩:=ak aZ aY _ a2 a6;rw[aB];refine aW _ ⟨tj al a7,a8,W.trans ba,?_⟩;have e:eG t l (i+1)=(eG t l i).set (t.cells.length+i) x:=by
   show (eG t l i).set _ (l.getD i 0)=_;rw[u4,J];rfl
  rw[e];exact bb
 ·rintro V k ⟨al,E,W,X⟩;rw[aC,af];exact⟨fun h=>by omega,fun _=>⟨rfl,al,E,W,X⟩⟩
def gX (s:aN) (sc ai cs:List Int):aN:={s with funs:=s.funs++[⟨sc,ai,1,cs⟩]}
def lE (s:aN) (t:aH) (cs:List Int):aH:=(kC t (1::cs)).set 1 ((s.funs.length+1:Nat):Int)
theorem IR {s:aN} {t:aH} {sc ai cs:List Int} (h:t.bH=s.cells):(lE s t cs).bH=(gX s sc ai cs).cells:=by
 unfold lE gX;rw[aH.pI,zq,h,←IF];rfl
set_option maxHeartbeats 4000000 in
theorem IS {br:Nat} {bt a2 bu:y0} {A R:am} {n:aV} {s:aN} {t:aH} {aO:y0} {sc ai cs:List Int} {g b8:Nat} {ax:y0} {k:Int}
  (h:dY w ao gT br bt a2 bu A R n s t) (ac:t.bH=s.cells) (cG:ay .i64 w aO sc) (dJ:∀ r,leads aO r→¬A r) (bw:cA w g b8 ax ai k cs) (b9:¬A g∧¬A b8∧ ∀ r,leads ax r→¬A r) (dK:sc.length≤1000)
  (bc:t.cells.length+cs.length+1≤100000000) (bx:t.olds.length+cs.length+1≤100000000) (hm:t.marks.length≤100000000) (ae:s.funs.length≤1000000):
  ag x5 B9 [.pointer (some ⟨ao,0,none⟩),aO,.pointer (some ⟨g,0,none⟩)] w fun v w'=>v= .int .i64 (s.funs.length:Int)∧ad (gC w) w w'∧ ∃ bh R' bO,Grow A w bh w'∧dY w' ao gT br bt bO bu bh R' n (gX s sc ai cs) (lE s t cs)∧(∀ r,R r→R' r)∧ ∀ r,R' r→R r∨leads ax r∨w.heap.size≤r:=by
 have dL:t.cells.length=s.cells.length:=by rw[←ac];simp[aH.bH]
 have dN:=ol s;have cH:fk (gX s sc ai cs) s.funs.length=t.cells.length:=by
  unfold fk gX;simp only[List.take_left];omega
 have cI:∀ j,j<s.funs.length→fk (gX s sc ai cs) j=fk s j:=fun j bP=>by
  unfold fk gX;simp only[List.take_append_of_le_length (show j≤s.funs.length by omega)]
 have cJ:hz (gX s sc ai cs)=hz s:=rfl;refine ap func112 ?_;refine cX (fun bz=>ad (gC w) w bz∧ ∃ bh R' bO,Grow A w bh bz∧dY bz ao gT br bt bO bu bh R' n (gX s sc ai cs) (kC t (1::cs))∧(∀ r,R r→R' r)∧ ∀ r,R' r→R r∨leads ax r∨w.heap.size≤r) ?_ ?_
 ·rintro bz ⟨cK,dO,cM,cN,cO,cP,cQ,cR⟩;intro V bQ _ _;have ca:=cP.ext bQ;obtain⟨_,bA,bS,bC,L,bD,_,w0,aJ,_,_,_,⟨bi,bF⟩,_⟩:=id ca;have bG:L.length=s.funs.length+1:=by rw[bF.1];simp[gX]
  rw[aD ch.p 1 aJ rfl,aD ch.p 3 aJ rfl,dA ew.u bi];obtain⟨cc,cS,cT⟩:=ca.tk;have cU:=tg t (1::cs) (1::cs).length;have cV:=th t (1::cs) (1::cs).length;have cW:=oo t (1::cs) (1::cs).length;simp only[n9] at cU cV;refine (tc (i:=1) (y:=1) cS rfl (by show 1<(eG _ _ _).cells.length;simp only[n9];omega) ⟨by show (eG _ _ _).cells.length≤_;simp only[n9];omega,by show (eG _ _ _).olds.length≤_;simp only[n9];omega,by show (eG _ _ _).marks.length≤_;rw[cW];exact hm⟩).mono ?_;rintro _ cY _ ⟨rfl,cZ,c0,c1⟩;obtain⟨c2,c4,c5,cd⟩:=cT cZ cY _ c0 c1;obtain⟨_,bA,bS,bC,c6,bD,_,w0,aJ,_,_,_,⟨bi,c7⟩,_⟩:=id cd;have dP:c6.length=s.funs.length+1:=by rw[c7.1];simp[gX]
  rw[aD ch.p 3 aJ rfl,dA ew.u bi,dk,wrap_i64 (by omega) (by omega)];refine⟨by congr 1;omega,tj cK (ti bQ c2),c4,cM,cN,cO.trans ((Grow.ext bQ).trans c5),?_,cQ,cR⟩;have e:lE s t cs=(kC t (1::cs)).set 1 (L.length:Int):=by unfold lE;rw[bG]
  rw[e];exact cd
 intro c8 c9;intro aU a6 _ _;have ce:=h.ext a6;obtain⟨_,bA,bS,bC,L,bD,_,w0,aJ,_⟩:=id ce;rw[aD ch.p 3 aJ rfl];have z4:=a6.size;have bI:∀ {X:x1} {aC az:y0} {bd aE:Nat},Ext aU X→w.heap.size≤bd→w.heap.size≤aE→ak .i64 ab X bd aC sc→ak .i64 aj X aE az (1::cs)→(∀ r,leads aC r∨leads az r→¬A r)→
   ag x5 vq [.pointer (some ⟨ao,0,none⟩),az] X fun da aK=>
    (Ext aU aK∨bR x5 (x6 ew (.pointer (some ⟨ao,0+3,none⟩))) a2 aK∧bR x5 (x8 ch (.pointer (some ⟨ao,0,none⟩)) 3) (.pointer (some ⟨ao,0+3,none⟩)) aK∧bR x5 (bl (.pointer (some ⟨ao,0,none⟩))) (.pointer (some ⟨ao,0,none⟩)) aK∧True)∧
    O x5 (Instr.build eL #[(0,aC),(1,.agg #[ax]),(2,da)]) aK fun t22=>
    aw x5 (b6 ew 1 #[(0,t22)]) aK fun db aL=>
     (Ext aU aL∨bR x5 (x6 ew (.pointer (some ⟨ao,0+3,none⟩))) a2 aL∧bR x5 (x8 ch (.pointer (some ⟨ao,0,none⟩)) 3) (.pointer (some ⟨ao,0+3,none⟩)) aL∧bR x5 (bl (.pointer (some ⟨ao,0,none⟩))) (.pointer (some ⟨ao,0,none⟩)) aL∧True)∧
    aw x5 (l9 #[ew,ew] ew #[a2,db]) aL fun dc bJ=>
     O x5 (bl (.pointer (some ⟨ao,0,none⟩))) bJ fun t25=>
     O x5 (x8 ch t25 3) bJ fun dd=>
     aw x5 (n0 ew dd dc) bJ fun(_:Unit) a7=>
      c8 a7:=by
  intro X aC az bd aE Y cg aA af al bT;have de:=ce.ext Y;refine (zt de al.ls (fun r E=>bT r (.inr E)) (by simp only[n9];omega) (by simp only[n9];omega) hm).mono ?_;rintro _ aK _ ⟨rfl,df,bj,be,dg⟩;obtain⟨⟨ci,cj,dh,ck⟩,bA,bS,bC,L,bD,cc,w0,aJ,⟨di,dj,cl⟩,⟨dl,cm,cn,aW⟩,bU,⟨bi,bF⟩,bV,dm⟩:=id dg;have aS:ak .i64 ab aK bd aC sc:=aZ af be.1 fun r E=>bT r (.inl E);have bK:ak .i64 ab X (Classical.choose (show ∃ gs,ak .i64 ab w gs ax ai from by obtain⟨⟨_,gs,_,q,_⟩,_⟩:=bw;exact⟨gs,q⟩)) ax ai:=((Classical.choose_spec (show ∃ gs,ak .i64 ab w gs ax ai from by obtain⟨⟨_,gs,_,q,_⟩,_⟩:=bw;exact⟨gs,q⟩)).ext a6).ext Y;have dn:=aZ bK be.1 b9.2.2;refine⟨.inr (qI (off:=3) (z:=3) aJ (fun K=>by rw[aF ch.p rfl]) (by kernel_rfl) rfl),?_⟩;rw[ct (cs:=#[aC,ax,.int .i64 (t.cells.length:Int)]) (by obtain⟨_,_,_,rfl⟩:=cL af.ls;obtain⟨_,_,_,rfl⟩:=cL bK.ls;kernel_rfl)];let a:mO:=⟨aC,ax,t.cells.length⟩;have dp:∀ u∈mP a,u.oneCell'=true:=by
   intro u hu;simp[mP] at hu;rcases hu with rfl|rfl|rfl
   ·exact af.ls.cells.2
   ·exact bK.ls.cells.2
   ·rfl
  refine eQ (f:=mP) (a:=a) ew.u eL.i (by omega) rfl rfl fun dQ dR aL dS ah dq=>?_;refine⟨.inr (qI (off:=3) (z:=3) (aJ.ext ah) (fun K=>by rw[aF ch.p rfl]) (by kernel_rfl) rfl),?_⟩;have bk:=bi.ext ah;have bG:L.length=s.funs.length:=bF.1;refine ff (f:=mP) (a:=a) ew.u eL.i rfl bk (by simpa using dq.sl) dp (by omega) (by omega) fun cp dr bJ bm ds cq=>?_;have bn:=aJ.ext ah;have cr:=bn.U cq fun he=>cb bk bn (by decide) he;rw[bB,aF ch.p rfl];refine aY ew.i (cF bm.sl).1 (cF bm.sl).2 cr (by simp) fun a7 bW dT bX=>?_;have bX:aa a7 ao ch [.pointer (some ⟨br,0,none⟩),.pointer (some ⟨gT,0,none⟩),bt,cp,bu]:=bX;have aM:ad (fun r=>leadsTo a2 r∨r=ao) aL a7:=(cq.mono fun r _ h=>.inl h).trans (bW.mono fun r _ h=>.inr h);have z9:=Y.size;have dU:=be.1.size;have dV:=ah.size;have dW:=aM.size;have bY:∀ r,(leadsTo a2 r∨r=ao)→bj r:=fun r E=>E.elim (fun E=>(aW r (.inr (.inl E))).1) fun E=>E▸ci;have bZ:∀ r,(leadsTo a2 r∨r=ao)→¬R r:=fun r E=>cj r (bY r E);have dt:ad (gC w) w a7:=tj (ti (a6.trans Y) df) (ti ah (aM.mono fun r _ E=>by
   rcases E with E|rfl
   ·obtain⟨_,c,bc⟩:=c3 bk E;exact .inl ⟨_,c,‹r=_› ▸bc,by decide⟩
   ·exact .inl ⟨_,_,bn,by decide⟩))
  let du:am:=fun r=>bj r∨(aL.heap.size≤r∧r<a7.heap.size);let b1:am:=fun r=>R r∨(leads ax r∧r<aK.heap.size)∨(leads aC r∧r<aK.heap.size);have dX:∀ r,r<w.heap.size→bj r→A r:=fun r E h=>(be.2.1 r h).elim id fun h=>by omega
  have b2:∀ r,leads aC r→w.heap.size≤r∧r<X.heap.size:=fun r E=>by obtain⟨h1,bf⟩:=bp af E;omega
  have cu:∀ r,leads ax r→r<X.heap.size:=fun r E=>by obtain⟨h1,bf⟩:=bp bK E;omega
  have bL:∀ r,leads aC r∨leads ax r→¬bj r:=fun r E dv=>by
   rcases be.2.1 r dv with h|h
   ·rcases E with E|E
    ·exact bT r (.inl E) h
    ·exact b9.2.2 r E h
   ·rcases E with E|E
    ·have:=b2 r E;omega
    ·have:=cu r E;omega
  refine c9 _ ⟨dt,du,b1,cp,(Grow.ext (a6.trans Y)).trans (be.trans ((Grow.ext ah).trans ⟨aM.mono fun r _ E=>bY r E,fun r E=>E.imp id And.left,fun r E=>.inl E⟩)),?_,fun r E=>.inl E,fun r E=>?_⟩
  rotate_left
  ·rcases E with E|E|E
   ·exact .inl E
   ·exact .inr (.inl E.1)
   ·exact .inr (.inr (b2 r E.1).1)
  have cw:∀ {v:y0} {bo:Nat} {l:List Int},ak .i64 ab aL bo v l→(∀ r,leads v r→¬bj r)→ak .i64 ab a7 bo v l:=fun hm dw=>aZ hm aM fun r E Z=>dw r E (bY r Z);have cz:∀ r,b1 r→r<aL.heap.size:=fun r E=>by
   rcases E with E|E|E
   ·have:=dh r E;omega
   ·omega
   ·omega
  refine⟨⟨.inl ci,fun r E aX=>?_,fun r E=>by have:=cz r E;omega,fun r E=>E.elim (fun E=>by have:=ck r E;omega) And.right⟩,bA,dr,bC,L++[a],bD,cc,w0,bX,⟨di,qH (dj.trans ah) aM fun r o E bx Z=>bZ r Z (cl r o E bx),fun r o E bx=>.inl (cl r o E bx)⟩,⟨(dl.ext ah).U aM fun r E Z=>?_,fun r E=>.inl (cm r E),cn,fun r E=>?_⟩,?_,⟨bm.U bW fun r E he=>?_,?_⟩,(bV.ext ah).U aM fun r E Z=>?_,?_⟩
  ·have:=cz r aX;rcases E with E|E
   ·rcases aX with aX|aX|aX
    ·exact cj r E aX
    ·exact bL r (.inr aX.1) E
    ·exact bL r (.inl aX.1) E
   ·omega
  ·rcases Z with Z|rfl
   ·exact (aW r (.inr (.inl Z))).2 E
   ·exact cn E
  ·rcases E with E|E|E
   ·exact⟨.inl (aW r (.inl E)).1,(aW r (.inl E)).2⟩
   ·obtain⟨h1,bf⟩:=bm.leads E;rcases ds r E with h|h
    ·exact⟨.inl (aW r (.inr (.inl h))).1,(aW r (.inr (.inl h))).2⟩
    ·refine⟨.inr ⟨h,by have:=bW.size;omega⟩,fun dx=>?_⟩;have:=ck r (cm r dx);omega
   ·exact⟨.inl (aW r (.inr (.inr E))).1,(aW r (.inr (.inr E))).2⟩
  ·rw[cJ];exact aZ (bU.ext ah) aM fun r E Z=>by
    rcases Z with Z|rfl
    ·obtain⟨rfl,c,bc⟩:=c3 bk Z;exact bE (bU.ext ah) bc (by decide) E rfl
    ·exact bE (bU.ext ah) bn (by decide) E rfl
  ·have he:r=ao:=he;subst he;exact cb bm cr (by decide) E
  ·refine⟨by rw[u7,bG];simp[gX],fun j x f J a8=>?_⟩;have a8:(s.funs++[⟨sc,ai,1,cs⟩])[j]? =some f:=a8;by_cases bP:j<s.funs.length
   ·rw[Z4 (by omega)] at J;rw[Z4 bP] at a8;obtain⟨dy,dz,dC⟩:=((((jS.U bF (ah.U fun _=>False) fun _ _ _ h=>h).U aM fun r _ E Z=>bZ r Z E).mono (R':=b1) fun r E=>.inl E)).2 j x f J a8;exact⟨dy,dz,by rw[cI j bP];exact dC⟩
   ·have b3:j=s.funs.length:=by have:=(x3.1 a8).1;simp at this;omega
    rw[Z7 (by omega),bG,b3,X9] at J;rw[Z7 (by omega),b3,X9] at a8;cases J;cases a8;refine⟨⟨⟨_,cw (aS.ext ah) fun r E=>bL r (.inl E)⟩,fun r E=>.inr (.inr ⟨E,?_⟩)⟩,⟨⟨_,cw (dn.ext ah) fun r E=>bL r (.inr E)⟩,fun r E=>.inr (.inl ⟨E,?_⟩)⟩,?_⟩
    ·have:=b2 r E;omega
    ·have:=cu r E;omega
    ·rw[b3,cH]
  ·rcases Z with Z|rfl
   ·obtain⟨rfl,c,bc⟩:=c3 bk Z;exact cb (bV.ext ah) bc (by decide) E
   ·exact cb (bV.ext ah) bn (by decide) E
  ·exact ((jT.U dm (ah.U fun _=>False) fun _ _ _ h=>h).U aM fun r _ E Z=>bZ r Z E).mono fun r E=>.inl E
 have bg:=bw.ext a6;have cB:=cG.ext a6;have dD:∀ r,A r→r<w.heap.size:=h.1.2.2.2;obtain⟨_,⟨_,_,dZ⟩,ea,eb⟩:=id bw;have ec:cs.length≤4096:=by omega
 have bM:∀ {aP:x1} {ba bb:y0} {aB:Nat} {K:y0→x1→Prop},Ext aU aP→aU.heap.size≤aB→ak .i64 aj aP aB ba [1]→ay .i64 aP bb cs→
   (∀ az aE X,Ext aU X→ad (fun r=>r=aB) aP X→w.heap.size≤aE→ak .i64 aj X aE az (1::cs)→(Ext aU X→K az X))→aw x5 (l9 #[an,an] an #[ba,bb]) aP K:=by
  intro aP ba bb aB K W bN aQ aT dE;refine hr an.u aj.i rfl aQ aT (by simp;omega) (by simp;omega) fun az aE X aA al aR=>?_;have Y:Ext aU X:=W.put aR (by omega);have dF:=W.size;exact dE az aE X Y aR (by omega) al Y
 have a1:∀ {v:y0} {bo:Nat} {dG:o4} {e:u9} {dH:x1} {l:List Int},ak dG e dH bo v l→w.heap.size≤bo→ ∀ r,leads v r→¬A r:=fun hm ed r E dI=>by
  obtain⟨h1,_⟩:=bp hm E;have:=dD r dI;omega
 refine⟨?_,?_⟩
 ·refine (ij cB (by omega)).mono ?_;rintro aC cC _ ⟨aq,bd,cg,af⟩;have z5:=aq.size;refine⟨.inl aq,?_,?_⟩
  ·refine (my (bg.ext aq)).mono ?_;rintro _ cD _ ⟨rfl,au⟩;have aG:=aq.trans au;have ee:=aG.size;have ef:=au.size;have cE:=(bg.ext aq).ext au;refine⟨.inl aG,?_,?_⟩
   ·refine dM an.u aj.i rfl fun ba aB aP bN W aQ=>?_;refine⟨.inl (aG.trans W),?_⟩;refine (kx (cE.ext W)).mono ?_;rintro bb b4 _ ⟨av,b5,b7,aT⟩;have aI:=(aG.trans W).trans av;refine⟨.inl aI,?_⟩;refine bM aI (by omega) (aQ.ext av) aT.ls fun az aE X Y aR aA al _=>⟨.inl Y,?_⟩;have aS:=aZ (((af.ext au).ext W).ext av) aR fun r E he=>by have he:r=aB:=he;obtain⟨h1,bf⟩:=bp af E;omega
    exact bI Y (by omega) aA aS al fun r E=>E.elim (a1 af (by omega) r) (a1 al aA r)
   ·refine (kx cE).mono ?_;rintro bb aP _ ⟨W,b5,b7,aT⟩;refine⟨.inl (aG.trans W),?_⟩;have dF:=W.size;refine dM an.u aj.i rfl fun ba aB b4 bN av aQ=>?_;have aI:=(aG.trans W).trans av;refine⟨.inl aI,?_⟩;refine bM aI (by omega) aQ (aT.ls.ext av) fun az aE X Y aR aA al _=>⟨.inl Y,?_⟩;have aS:=aZ (((af.ext au).ext W).ext av) aR fun r E he=>by have he:r=aB:=he;obtain⟨h1,bf⟩:=bp af E;omega
    exact bI Y (by omega) aA aS al fun r E=>E.elim (a1 af (by omega) r) (a1 al aA r)
  ·refine dM an.u aj.i rfl fun ba aB cD bN au aQ=>?_;have aG:=aq.trans au;refine⟨.inl aG,?_⟩;refine (my ((bg.ext aq).ext au)).mono ?_;rintro _ aP _ ⟨rfl,W⟩;have bq:=aG.trans W;refine⟨.inl bq,?_⟩;refine (kx (((bg.ext aq).ext au).ext W)).mono ?_;rintro bb b4 _ ⟨av,b5,b7,aT⟩;have aI:=bq.trans av;refine⟨.inl aI,?_⟩;refine bM aI (by omega) ((aQ.ext W).ext av) aT.ls fun az aE X Y aR aA al _=>⟨.inl Y,?_⟩;have aS:=aZ (((af.ext au).ext W).ext av) aR fun r E he=>by have he:r=aB:=he;obtain⟨h1,bf⟩:=bp af E;omega
   exact bI Y (by omega) aA aS al fun r E=>E.elim (a1 af (by omega) r) (a1 al aA r)
 ·refine dM an.u aj.i rfl fun ba aB cC bN aq aQ=>?_;refine⟨.inl aq,?_⟩;have z5:=aq.size;have eg:aB<cC.heap.size:=qo aQ (by simp);refine (ij (cB.ext aq) (by omega)).mono ?_;rintro aC cD _ ⟨au,bd,cg,af⟩;have aG:=aq.trans au;refine⟨.inl aG,?_⟩;refine (my ((bg.ext aq).ext au)).mono ?_;rintro _ aP _ ⟨rfl,W⟩;have bq:=aG.trans W;refine⟨.inl bq,?_⟩;refine (kx (((bg.ext aq).ext au).ext W)).mono ?_;rintro bb b4 _ ⟨av,b5,b7,aT⟩;have aI:=bq.trans av;refine⟨.inl aI,?_⟩;refine bM aI (by omega) (((aQ.ext au).ext W).ext av) aT.ls fun az aE X Y aR aA al _=>⟨.inl Y,?_⟩;have aS:=aZ ((af.ext W).ext av) aR fun r E he=>by have he:r=aB:=he;obtain⟨h1,bf⟩:=bp af E;omega
  exact bI Y (by omega) aA aS al fun r E=>E.elim (a1 af (by omega) r) (a1 al aA r)
theorem gb {P:Y3} {ae:u9} {k:o4} {b g:Nat} {x:y0} {m:List Int} {K:y0→x1→Prop} (X:P.underlying t=some (.slice e)) (hi:aA P e 1 b z) (Y:z.cells.size=1)
  (h:ak k e w g v l) (J:ay k w x m) (Z:(l.length+m.length)*b≤140737488355328) (aa:l.length+m.length≤9223372036854775807)
  (ab:∀ E O w',ak k e w' O E (l++m)→(∀ r,leads E r→leads v r∨w.heap.size≤r)→ad (fun r=>leads v r) w w'→K E w'):aw P (l9 #[t,t] ae #[v,x]) w K:=by
 rcases h.2 with⟨ac,af⟩|⟨cap,cs,ac,ai,aj⟩
 ·have ag:l=[]:=o9 af;subst ag;have h':ak k e w w.heap.size v []:=by rw[ac];exact ak.nil _ _ _ _
  refine hr X hi Y h' J Z aa fun E O w' V hm W=>ab E O w' hm (fun r U=>.inr ?_) (W.mono fun r U he=>by have he:r=w.heap.size:=he;omega);obtain⟨ah,_⟩:=bp hm U;omega
 ·refine hr X hi Y h J Z aa fun E O w' V hm W=>ab E O w' hm (fun r U=>?_) (W.mono fun r U he=>⟨_,_,_,ac,he.symm⟩);obtain⟨ah,_⟩:=bp hm U;rcases V with V|V
  ·exact .inl ⟨_,_,_,ac,by show g=r;omega⟩
  ·exact .inr (by omega)
def addVar (s:aN) (u:List Int):aN:={s with vars:=s.vars++[newVar u]}
theorem IT (s:aN) (u:List Int):hz (addVar s u)=hz s++[((3+(s.vars.flatMap jj).length:Nat):Int)]:=by
 unfold hz addVar;rw[u7,V5,List.range_succ,j4];congr 1
 ·apply List.map_congr_left;intro i hi;have:=List.mem_range.1 hi;unfold gV;simp only[List.take_append_of_le_length (show i≤s.vars.length by omega)]
 ·simp[gV]
theorem IU {s:aN} {u:List Int} (ae:s.funs=[]):(addVar s u).cells=s.cells++(0::0::u):=by
 unfold aN.cells addVar lC;simp only[ae,List.flatMap_nil,Y8,List.flatMap_append,List.flatMap_singleton,Y2];rfl
def dP (n:aV) (i j:Nat):aN:=⟨n.zero,(n.unary.take i).map newVar,(n.funs.take j).map (kB n.sizes),[]⟩
theorem zu {n:aV} {i:Nat} {u:List Int} (h:n.unary[i]? =some u):dP n (i+1) 0=addVar (dP n i 0) u:=by
 unfold dP addVar;simp only[u5,h,j5,j4,List.map_singleton]
theorem IV {n:aV} {i:Nat} {g:b1} (h:n.funs[j]? =some g):dP n i (j+1)=gX (dP n i j) g.1 (bK n.sizes g.1) g.2:=by
 unfold dP gX;simp only[u5,h,j5,j4,List.map_singleton];rfl
theorem zv (n:aV):dP n n.unary.length n.funs.length=er n:=by
 unfold dP er;rw[o5,o5]
theorem tm {α β:Type} {f:α→List β} {b:Nat}:∀ {L:List α},(∀ x∈L,(f x).length≤b)→(L.flatMap f).length≤L.length*b
 |[],_=>by simp
 |x::L,h=>by
  rw[V1,u7,n9,W8];have:=tm (L:=L) fun y E=>h y (.tail _ E);have:=h x (.head _);omega
theorem tn {n:aV} (E:hy n) (ae:n.funs.length≤256) (i j:Nat):(dP n i j).cells.length≤2000000:=by
 rw[ol];have h1:=tm (f:=jj) (b:=34) (L:=(dP n i j).vars) fun x J=>by
  obtain⟨u,hu,rfl⟩:=o8.1 (show x∈(n.unary.take i).map newVar from J);obtain⟨p,U⟩:=X1.1 (List.mem_of_mem_take hu);have aa:=E.iw;have ab:=(x3.1 U).1;obtain⟨z,V⟩:=aE (l:=n.sizes) (i:=p) (by omega);have X:=(E.unary p z u V U).1;have O:=E.sizes.2.2 z (x2 V);show u.length+2≤34;omega
 have X:=tm (f:=ga) (b:=4097) (L:=(dP n i j).funs) fun x J=>by
  obtain⟨g,Y,rfl⟩:=o8.1 (show x∈(n.funs.take j).map (kB n.sizes) from J);have O:=(E.funs g (List.mem_of_mem_take Y)).1;have W:=O.len;have Z:=O.small;show g.2.length+1≤4097;omega
 have O:(dP n i j).vars.length≤64:=by
  show ((n.unary.take i).map newVar).length≤64;rw[r8,o6];have:=E.iw;have:=E.sizes.2.1;omega
 have W:(dP n i j).funs.length≤256:=by
  show ((n.funs.take j).map (kB n.sizes)).length≤256;rw[r8,o6];omega
 have Z:=X2 34 O;have ac:=X2 4097 W;omega
def Plain (t:aH):Prop:=t.marks=[]∧t.olds=[]∧hP t []∧t.ht=0
theorem Plain.set {t:aH} (h:Plain t) (i:Nat) (x:Int):Plain (t.set i x):=⟨(aH.zk _ _ _).trans h.1,(aH.zm h.1 _ _).trans h.2.1,h.2.2.1.set,(aH.zl _ _ _).trans h.2.2.2⟩
theorem Plain.lay {t:aH} (h:Plain t) (l:List Int):Plain (kC t l):=⟨(oo _ _ _).trans h.1,(zo h.1 _ _).trans h.2.1,h.2.2.1.eG l _,(zn _ _ _).trans h.2.2.2⟩
theorem Plain.put {s:aN} {t:aH} (h:Plain t) (cs:List Int):Plain (lE s t cs):=(h.lay _).set _ _
def IW (w:x1) (n:aV) (v:y0) (w':x1):Prop:=Ext w w'∧ ∃ ao gT A R t,v= .pointer (some ⟨ao,0,none⟩)∧StateM w' ao gT A R n (er n) t∧t.bH=(er n).cells∧Plain t∧ ∀ r,A r→w.heap.size≤r
def IX (w:x1) (R0:am) (n:aV) (v:y0) (w':x1):Prop:=Ext w w'∧ ∃ ao gT A R t,v= .pointer (some ⟨ao,0,none⟩)∧StateM w' ao gT A R n (er n) t∧t.bH=(er n).cells∧Plain t∧(∀ r,A r→w.heap.size≤r)∧ ∀ r,R r→R0 r∨w.heap.size≤r
set_option maxHeartbeats 4000000 in
theorem IY {w0:x1} {R0:am} {W:Nat} {n:aV} (ba:eE w0 W n) (aN:Ext w0 w) (bu:∀ r o,w0.heap[r]? =some o→eK o=true→R0 r) (bb:∀ r,R0 r→r<w.heap.size) (X:hy n) (ae:n.funs.length≤256):ag x5 rC [.pointer (some ⟨W,0,none⟩)] w (IX w R0 n):=by
 have h:=ba.ext aN;have ca:=X.iw;have dg:=X.sizes.2.1;refine ap func26 ?_;rw[cQ kg.u];simp only[c6,aR];refine (IC (n:=3) (by omega)).mono ?_;rintro _ bw _ ⟨aP,gT,rfl,cb⟩;rw[ct (cs:=#[.pointer (some ⟨W,0,none⟩),.pointer (some ⟨gT,0,none⟩),.slice none 0 0,.slice none 0 0,.slice none 0 0]) (by kernel_rfl)];refine a7 fun ao V dh av aw=>?_;have aw:aa V ao ch [.pointer (some ⟨W,0,none⟩),.pointer (some ⟨gT,0,none⟩),.slice none 0 0,.slice none 0 0,.slice none 0 0]:=aw;have di:=aP.size;have dj:=av.size;have dk:=aw.lt;have cc:dY V ao gT W (.slice none 0 0) (.slice none 0 0) (.slice none 0 0) (fun r=>r=ao∨(w.heap.size≤r∧r<bw.heap.size)) R0 n ⟨0,[],[],[]⟩ ⟨u6 3 ⟨0,0⟩,[],[],0⟩:=by
  refine⟨⟨.inl rfl,fun r E ai=>?_,fun r E=>?_,fun r E=>?_⟩,0,0,0,[],[],fun r=>w.heap.size≤r∧r<bw.heap.size,w0,aw,⟨ba,aN.trans (aP.trans av),bu⟩,⟨(cb.cut).ext av,fun r E=>.inr E,fun E=>?_,fun r E=>?_⟩,ak.nil _ _ _ _,⟨aT.nil _ _ _ _ _,rfl,fun j x f J=>by simp at J⟩,aT.nil _ _ _ _ _,rfl,fun j x f J=>by simp at J⟩
  ·have ai:=bb r ai;rcases E with E|E <;> omega
  ·have E:=bb r E;omega
  ·rcases E with E|E <;> omega
  ·omega
  ·rcases E with E|E|E
   ·obtain⟨a,dl,c,bc,dm⟩:=E;cases bc
   ·exact (ds E).elim
   ·exact (ds E).elim
 intro dn ax _ _;have cd:=cc.ext ax;rw[aD ch.p 1 (aw.ext ax) rfl];refine (II (h.ext ((aP.trans av).trans ax))).mono ?_;rintro _ dp _ ⟨rfl,aQ⟩;refine⟨.inl aQ,?_⟩;have ce:=cd.ext aQ;obtain⟨bd,cg,ci⟩:=ce.zi;refine (tc (i:=0) (y:=0) cg rfl (by decide) ⟨by simp,by simp,by simp⟩).mono ?_;rintro _ bx _ ⟨_,cj,ck,cl⟩;obtain⟨cm,bz,be⟩:=ci cj bx _ ck cl;have be:=be.same (IN ⟨0,[],[],[]⟩ n.zero);have z3:=ax.size;have z4:=aQ.size;have cn:=((aP.trans av).trans ax).trans aQ;have bA:Ext w bx:=cn.then bz.1 fun r E he=>by rcases he with he|he <;> omega
 refine (tf (h.ext bA)).mono ?_;rintro _ dq _ ⟨rfl,bD⟩;refine bS.range n.sizes.length (fun i aS=>∃ A af t,Ext w aS∧dY aS ao gT W af (.slice none 0 0) (.slice none 0 0) A R0 n (dP n i 0) t∧t.bH=(dP n i 0).cells∧Plain t∧ ∀ r,A r→w.heap.size≤r) (by omega)
  ⟨cm,_,_,bA.trans bD,be.ext bD,?_,?_,fun r E=>?_⟩ ?_ ?_
 ·rw[aH.pI];rfl
 ·exact Plain.set (t:=⟨u6 3 ⟨0,0⟩,[],[],0⟩) ⟨rfl,rfl,⟨rfl,rfl,fun c Z=>by rw[(List.mem_replicate.1 Z).2];exact r9 _⟩,rfl⟩ _ _
 ·rcases bz.2.1 r E with he|he
  ·rcases he with he|he <;> omega
  ·omega
 ·rintro i aS cp hi ⟨A,af,t,aq,bf,ay,az,aU⟩ cq;obtain⟨u,hu⟩:=aE (l:=n.unary) (i:=i) (by omega);obtain⟨bF,bG⟩:=aE (l:=n.sizes) (i:=i) (by omega);have dr:u.length≤32:=by
   have dt:=(X.unary i bF u bG hu).1;have du:=X.sizes.2.2 bF (x2 bG);omega
  refine bC (by omega) ?_;refine (zf (h.ext aq) X).mono ?_;rintro dv dw _ ⟨cr,_,cu⟩;obtain⟨dx,dy,cw⟩:=cu u (by omega) (by rw[j6];exact hu);intro bg bI _ _;have bh:=cr.trans bI;have bJ:=bf.ext bh;obtain⟨⟨_,_,_,aA⟩,cz,bK,bL,L,bM,bd,w0,aW,_⟩:=id bJ;have dz:=bh.size;have dA:=aq.size;rw[aD ch.p 2 aW rfl];refine nA (l:=[0,0]) an.u aj.i (by omega) rfl (by kernel_rfl) fun cA dC dD dE aX bN=>?_;refine⟨.inl aX,?_⟩;refine gb an.u aj.i rfl bN ((cw.ext bI).ls.ext aX) (by simp;omega) (by simp;omega) fun cB dF cC cD cE cF=>?_;have bO:∀ r,leads cA r→bg.heap.size≤r:=fun r E=>by obtain⟨bc,_⟩:=bp bN E;omega
  have a1:Ext bg cC:=aX.then cF fun r E he=>by have:=bO r he;omega
  refine⟨.inl a1,?_⟩;have cG:=bJ.ext a1;have cI:∀ r,leads cB r→bg.heap.size≤r:=fun r E=>by
   rcases cE r E with h|h
   ·exact bO r h
   ·have:=aX.size;omega
  have cJ:t.cells.length≤2000000:=by
   have h1:=tn X ae i 0;rw[←ay] at h1;unfold aH.bH at h1;rwa [r8] at h1
  have cK:t.olds.length=0:=by rw[az.2.1];rfl
  have cL:t.marks.length=0:=by rw[az.1];rfl
  refine (zt cG cD.ls (fun r E O=>by have:=aA r O;have:=cI r E;omega) (by simp;omega) (by simp;omega) (by omega)).mono ?_;rintro _ dG _ ⟨rfl,_,bi,bj,cM⟩;obtain⟨⟨bP,bQ,cN,bR⟩,cz,bK,bL,L,bM,bd,w0,aW,⟨cO,cP,bT⟩,⟨cR,bU,bV,a2⟩,cS,⟨cT,cU⟩,cV,cW⟩:=id cM;refine⟨.inr (qI (off:=2) (z:=2) aW (fun K=>by rw[aF ch.p rfl]) (by kernel_rfl) rfl),?_⟩;refine dM (k:=.i64) al.u ab.i rfl fun dH dI bW dJ ac cX=>?_;have bk:=aW.ext ac;refine⟨.inr (qI (off:=2) (z:=2) bk (fun K=>by rw[aF ch.p rfl]) (by kernel_rfl) rfl),?_⟩;have bX:(hz (dP n i 0)).length=i:=by
   unfold hz dP;simp only[r8,List.length_range,o6];omega
  have bY:=cS.ext ac;refine gb al.u ab.i rfl bY cX.ls (by rw[bX];simp;omega) (by rw[bX];simp;omega) fun bZ cY dK aC cZ b1=>?_;have b2:=bk.U b1 fun he=>bE bY bk (by decide) he rfl;rw[bB,aF ch.p rfl];refine aY al.i aC.ls.cells.1 aC.ls.cells.2 b2 (by simp) fun bl bm dL bn=>?_;have bn:aa bl ao ch [.pointer (some ⟨W,0,none⟩),.pointer (some ⟨gT,0,none⟩),bZ,.slice none 0 0,.slice none 0 0]:=bn;rw[aB];have Z:ad (fun r=>leads af r∨r=ao) bW bl:=(b1.mono fun r _ h=>.inl h).trans (bm.mono fun r _ h=>.inr h);have dN:=a1.size;have z12:=bj.1.size;have dO:=ac.size;have dQ:=Z.size;have b3:∀ r,bi r→w.heap.size≤r:=fun r E=>(bj.2.1 r E).elim (aU r) fun h=>by omega
  have b4:∀ r,(leads af r∨r=ao)→bi r:=fun r E=>E.elim (fun E=>(a2 r (.inl E)).1) fun E=>E▸bP;have c0:(dP n (i+1) 0).cells=(dP n i 0).cells++(0::0::u):=by rw[zu hu];exact IU rfl
  have c1:t.cells.length=3+((dP n i 0).vars.flatMap jj).length:=by
   have h1:=congrArg V3 ay;rw[ol] at h1;unfold aH.bH at h1;rw[r8] at h1;have:((dP n i 0).funs.flatMap ga).length=0:=by simp[dP]
   omega
  refine cq _ ⟨fun r=>bi r∨(bW.heap.size≤r∧r<bl.heap.size),bZ,kC t ([0,0]++u),?_,⟨⟨.inl bP,fun r E ai=>?_,fun r E=>by have:=cN r E;omega,fun r E=>?_⟩,cY,bK,bL,L,bM,bd,w0,bn,⟨cO,qH (cP.trans ac) Z fun r o E c2 Y=>bQ r (b4 r Y) (bT r o E c2),bT⟩,⟨(cR.ext ac).U Z fun r E Y=>?_,fun r E=>.inl (bU r E),bV,fun r E=>?_⟩,?_,⟨(cT.ext ac).U Z fun r E Y=>?_,?_⟩,(cV.ext ac).U Z fun r E Y=>?_,?_⟩,?_,az.lay _,fun r E=>?_⟩
  ·exact ((aq.trans (bh.trans a1)).then bj.1 fun r E he=>by have:=aU r he;omega).trans ac |>.then Z fun r E Y=>by have:=b3 r (b4 r Y);omega
  ·rcases E with E|E
   ·exact bQ r E ai
   ·have ai:=bb r ai;omega
  ·rcases E with E|E
   ·have:=bR r E;omega
   ·exact E.2
  ·rcases Y with Y|rfl
   ·exact (a2 r (.inl Y)).2 E
   ·exact bV E
  ·rcases E with E|E|E
   ·have dR:=(bp aC E);rcases cZ r E with h|h
    ·exact⟨.inl (a2 r (.inl h)).1,(a2 r (.inl h)).2⟩
    ·refine⟨.inr ⟨h,by have:=bm.size;omega⟩,fun c3=>by have:=bR r (bU r c3);omega⟩
   ·exact (ds E).elim
   ·exact (ds E).elim
  ·rw[zu hu,IT,←c1];exact aZ aC bm fun r E he=>by
    have he:r=ao:=he;subst he;exact bE aC b2 (by decide) E rfl
  ·exact (ds E).elim
  ·refine⟨cU.1,fun j x f J bo=>?_⟩;have bo:((n.funs.take 0).map (kB n.sizes))[j]? =some f:=bo;simp at bo
  ·exact (ds E).elim
  ·refine⟨cW.1,fun j x e J he=>?_⟩;have he:([]:List td)[j]? =some e:=he;simp at he
  ·rw[zq,c0,ay];rfl
  ·rcases E with E|E
   ·exact b3 r E
   ·omega
 ·rintro aS cp ⟨A,af,t,aq,bf,ay,az,aU⟩;refine cH (by omega) ?_;refine (ze (h.ext aq)).mono ?_;rintro _ dS _ ⟨rfl,b5⟩;refine bS.range n.funs.length (fun j aG=>∃ A R a6 t,Ext w aG∧dY aG ao gT W af a6 (.slice none 0 0) A R n (dP n n.sizes.length j) t∧t.bH=(dP n n.sizes.length j).cells∧Plain t∧(∀ r,A r→w.heap.size≤r)∧ ∀ r,R r→R0 r∨w.heap.size≤r) (by omega)
   ⟨A,_,_,t,aq.trans b5,bf.ext b5,ay,az,aU,fun _ h=>.inl h⟩ ?_ ?_
  ·rintro j aG c4 c5 ⟨A,R,a6,t,ah,aI,au,aJ,aK,bq⟩ c7;obtain⟨g,a8⟩:=aE (l:=n.funs) c5;have br:=(X.funs g (x2 a8)).1;refine bC (by omega) ?_;refine (IJ (h.ext ah) X a8).mono ?_;rintro aO dT _ ⟨aL,gs,dU,b6⟩;refine (IL ba (aN.trans (ah.trans aL)) a8).mono ?_;rintro _ dV _ ⟨aM,gt,dW,c8,rfl,dX,dZ,c9,b7⟩;have z0:=aN.size;have da:∀ r,leads c8 r→r<w.heap.size:=fun r E=>by obtain⟨c,bt⟩:=b7 r E;have:=bt.lt;omega
   have db:=(aI.ext aL).ext aM;have aA:∀ r,A r→r<aG.heap.size:=aI.1.2.2.2;have ea:=aL.size;have cJ:t.cells.length≤2000000:=by
    have h1:=tn X ae n.sizes.length j;rw[←au] at h1;unfold aH.bH at h1;rwa [r8] at h1
   have cK:t.olds.length=0:=by rw[aJ.2.1];rfl
   have cL:t.marks.length=0:=by rw[aJ.1];rfl
   have eb:g.2.length≤4096:=by have:=br.len;have:=br.small;omega
   have ec:g.1.length≤6:=br.scope.2;refine (IS (sc:=g.1) db au (b6.ls.ext aM) (fun r E O=>by have:=aA r O;obtain⟨bc,_⟩:=bp b6 E;omega) c9 ⟨fun O=>by have:=aA _ O;omega,fun O=>by have:=aA _ O;omega,fun r E O=>by have:=aK r O;have:=da r E;omega⟩ (by omega) (by omega) (by omega) (by omega) ?_).mono ?_
   ·show ((n.funs.take j).map (kB n.sizes)).length≤_;rw[r8,o6];omega
   rintro _ ed _ ⟨rfl,_,dc,R',dd,b8,de,ee,df⟩;rw[aB];have b9:=IV (i:=n.sizes.length) a8;refine c7 _ ⟨dc,R',dd,lE (dP n n.sizes.length j) t g.2,((ah.trans aL).trans aM).then b8.1 (fun r E O=>by have:=aK r O;omega),?_,?_,aJ.put _,fun r E=>?_,fun r E=>?_⟩
   ·rw[b9];exact de
   ·rw[b9];exact IR au
   ·rcases b8.2.1 r E with h|h
    ·exact aK r h
    ·have:=ah.size;have:=aM.size;omega
   ·rcases df r E with h|h|h
    ·exact bq r h
    ·exact .inl (by obtain⟨c,bt⟩:=b7 r h;exact bu r _ bt rfl)
    ·exact .inr (by have:=ah.size;have:=aL.size;have:=aM.size;omega)
  ·rintro aG c4 ⟨A,R,a6,t,ah,aI,au,aJ,aK,bq⟩;refine cH (by omega) ?_;have e:dP n n.sizes.length n.funs.length=er n:=by rw[←ca];exact zv n
   rw[e] at aI au;exact⟨ah,ao,gT,A,R,t,rfl,⟨W,af,a6,_,aI⟩,au,aJ,aK,bq⟩
theorem IZ {n:aV} (h:eE w E n) (J:hy n) (ae:n.funs.length≤256):ag x5 rC [.pointer (some ⟨E,0,none⟩)] w (IW w n):=
 (IY (R0:=fun r=>r<w.heap.size) h (Ext.refl w) (fun r o O _=>(o7.1 O).1) (fun _ h=>h) J ae).mono fun _ _ _ ⟨h1,ao,gT,A,R,t,U,V,W,X,Y,_⟩=>⟨h1,ao,gT,A,R,t,U,V,W,X,Y⟩
set_option maxHeartbeats 2000000 in
theorem I0 (ao:Bytes l) (aD:l.length≤100000):ag x5 CL [be l] w fun v w'=>v=im l∧Ext w w':=by
 refine ap func171 ?_;refine fS (fun aL aM ak=>Ext w ak∧ ∃ (m:List Int) (s:Int),aL=be m∧aM= .int .i64 s∧Bytes m∧m.length≤100000∧mr l m s) ?_ ?_
 ·rintro _ _ ak ⟨aq,m,s,rfl,rfl,al,a1,am⟩;rw[lb bY.u,bc,af];refine⟨fun au=>?_,fun au=>?_⟩
  ·have av:m=[]:=o9 (by omega);exact⟨by rw[pV am (by rw[av];rfl)],aq⟩
  have av:m≠[]:=fun h=>au (by rw[h];rfl);refine nj.range m.length (fun i _ _ aw ay W=>Ext ak W∧ ∃ (n:Int) (E:Bool),aw= .int .u64 n∧ay= .bool E∧kt n E ((m.take i).foldl dT 0)∧(m.take i).all e4=true) (by omega) ⟨Ext.refl _,0,false,rfl,rfl,Eo,rfl⟩ ?_ ?_
  ·rintro i aN t3 _ _ W aO hi ⟨ac,n,E,rfl,rfl,Y,ad⟩ aP;obtain⟨b,Z⟩:=aE (l:=m) hi;have a2:=al b (x2 Z);rw[lb bY.u];refine bC (by omega) ?_;refine ws (fun _ _ aw ay X=>Ext ak X∧ ∃ (n:Int) (E:Bool),aw= .int .u64 n∧ay= .bool E∧kt n E ((m.take (i+1)).foldl dT 0)∧(m.take (i+1)).all e4=true) ?_ ?_
   ·rintro a6 a7 a3 a4 X aQ;rw[aB];exact aP _ _ _ _ _ aQ
   intro aS aa;refine aI (fun v X=>W=X∧v= .bool (!e4 b)) ?_ ?_
   rotate_left
   ·intro az U;rw[nB rfl bY.u al Z,aC,af];refine⟨fun h=>U _ _ ⟨rfl,by unfold e4;rw[decide_eq_false (by omega)];rfl⟩,fun h=>?_⟩;rw[nB rfl bY.u al Z,br];refine U _ _ ⟨rfl,?_⟩;unfold e4;congr 1;by_cases aF:57<b
    ·rw[decide_eq_true aF,decide_eq_false (by omega)];rfl
    ·rw[decide_eq_false aF,decide_eq_true (by omega)];rfl
   rintro _ _ ⟨rfl,rfl⟩;cases aA:e4 b with
   |false=>
    rw[Y9,bq];exact⟨by rw[pV am (xi Z aA)],aq.trans ac⟩
   |true=>
    rw[Y0,aR];have aT:=of_decide_eq_true aA;have an:=En Y aT;rw[xg Z,xf Z,ad,aA] at aa;have aU:=Y.1;have aV:=Y.2.1;refine aI (fun v X=>W=X∧v= .bool (E||decide (461168601842738790<n))) ?_ ?_
    rotate_left
    ·intro az U;rw[br,af];refine⟨fun h=>U _ _ ⟨rfl,by rw[decide_eq_true h,Bool.or_true]⟩,fun h=>U _ _ ⟨rfl,by rw[decide_eq_false h,Bool.or_false]⟩⟩
    rintro _ _ ⟨rfl,rfl⟩;by_cases ah:E=true∨461168601842738790<n
    ·have ae:(E||decide (461168601842738790<n))=true:=by rcases ah with h|h <;> simp[h]
     rw[if_pos ah,ae] at an;rw[ae,bJ,Y0,aR];exact aa _ _ _ _ _ ⟨ac,n,true,rfl,rfl,an,rfl⟩
    ·have ae:(E||decide (461168601842738790<n))=false:=by
      cases E with
      |true=>exact absurd (.inl rfl) ah
      |false=>simp;omega
     rw[if_neg ah,ae] at an;have a8:¬461168601842738790<n:=fun h=>ah (.inr h);rw[ae,bJ,Y9,bq,fV,nB rfl bY.u al Z,dk,wrap_u8 (by omega) (by omega),ft b4.u fq.u,wrap_u64 (by omega) (by omega),wrap_u64 (by omega) (by omega),aB,wrap_u64 (by omega) (by omega)];exact aa _ _ _ _ _ ⟨ac,_,false,rfl,rfl,an,rfl⟩
  ·rintro aN t3 _ _ W aO ⟨ac,n,E,rfl,rfl,Y,ad⟩;rw[o5] at ad Y;rw[lb bY.u];refine cH (by omega) ?_;have aG:=Ep Y;have aU:=Y.1;have aV:=Y.2.1;have aW:∀ {x:Int},x=m.foldl dT 0→0≤x→x≤4611686018427387904→(O x5 (convert fq aj (.int .u64 x)) W fun aX=>
     O x5 (ax .mul aj false false (.int .i64 s) aX) W fun aY=>(fun v w'=>v=im l∧Ext w w') (.tuple #[aY,(.int .i64 0)]) W):=by
    intro x J au h1;rw[ft fq.u aj.u,wrap_i64 (by omega) (by omega),fV];have hw:X5.wrap (s*x)=s*x:=by
     rcases am.1 with rfl|rfl <;> exact wrap_i64 (by omega) (by omega)
    rw[hw];refine⟨?_,aq.trans ac⟩;rw[xl am (xh av ad),J]
   refine aI (fun v X=>W=X∧v= .int .u64 (m.foldl dT 0)) ?_ ?_
   ·rintro _ _ ⟨rfl,rfl⟩;have aH:=pG (l:=m) (n:=0) ad ⟨Int.le_refl _,by decide⟩;exact aW rfl aH.1 aH.2
   intro az U;refine aI (fun v X=>W=X∧v= .bool (E||decide (4611686018427387904<n))) ?_ ?_
   ·rintro _ _ ⟨rfl,rfl⟩;rw[ca];refine⟨fun h=>U _ _ ⟨rfl,?_⟩,fun h=>U _ _ ⟨rfl,?_⟩⟩
    ·have h':E=true∨4611686018427387904<n:=by simpa using h
     rw[aG,if_pos h']
    ·have h':¬(E=true∨4611686018427387904<n):=by
      intro ai;rcases ai with ai|ai
      ·simp[ai] at h
      ·simp[ai] at h
     rw[aG,if_neg h']
   ·intro ba aJ;cases E with
    |true=>rw[bq];exact aJ _ _ ⟨rfl,rfl⟩
    |false=>rw[aR,br];exact aJ _ _ ⟨rfl,by rw[Bool.false_or]⟩
 ·intro aS aa;refine aI (fun v V=>w=V∧ ∃ c:Bool,v= .bool c∧(c=true↔l[0]? =some 45)) ?_ ?_
  ·rintro _ _ ⟨rfl,c,rfl,aK⟩;rw[ca];refine⟨fun aZ=>?_,fun ae=>?_⟩
   ·obtain⟨m,rfl⟩:∃ m,l=45::m:=by
     have:=aK.1 aZ;cases l with
     |nil=>simp at this
     |cons x m=>exact⟨m,by simp at this;rw[this]⟩
    rw[wx (y:=1) (i:=1) rfl bY.u (by simp)];exact aa _ _ _ ⟨Ext.refl _,m,-1,rfl,rfl,fun b ab=>ao b (.tail _ ab),by simp at aD;omega,xj⟩
   ·refine aa _ _ _ ⟨Ext.refl _,l,1,rfl,rfl,ao,aD,xk fun b ab he=>?_⟩;subst he;have:=aK.2 ab;rw[ae] at this;cases this
  ·intro az U;rw[lb bY.u,br,af];refine⟨fun h=>?_,fun h=>U _ _ ⟨rfl,false,rfl,?_⟩⟩
   ·obtain⟨b,ab⟩:=aE (l:=l) (i:=0) (by omega);rw[nB (y:=0) (i:=0) rfl bY.u ao ab,bc];refine U _ _ ⟨rfl,_,rfl,?_⟩;rw[decide_eq_true_eq,ab];exact⟨fun h=>by rw[h],fun h=>b9 h⟩
   ·have:l=[]:=o9 (by omega);subst this;simp
theorem I1 {s:Go.Sem y0} (h:O x5 s w fun u=>u=v) (E:K v):O x5 s w K:=by
 obtain⟨u,h1,rfl⟩:=h;exact⟨u,h1,E⟩
abbrev fB:Type:=List Int×Int
def eH (x:fB):List y0:=[be x.1,.int .i64 x.2]
theorem tp (x:fB):∀ u∈eH x,u.oneCell'=true:=by
 intro u hu;simp[eH] at hu;rcases hu with rfl|rfl <;> rfl
def gY (w:x1) (v:y0) (L:List fB):Prop:=bM w 2 v L.length (L.flatMap eH)
theorem tq {g:Nat} {L:List fB} (h:aT eH 2 bI w g v L):gY w v L:=h.sl
theorem zw {L:List fB} {E:u9} (h:gY w v L):O x5 (Y4 #[eh] E #[v]) w K=K (.int .i64 (L.length:Int)):=by
 obtain⟨_,_,_,_,_,rfl,_⟩:=h;exact fK eh.u
theorem I2 {cs:List y0} (h:bM w k v n cs) (O:ad S w w') (U:∀ r,leadsTo v r→¬S r):bM w' k v n cs:=by
 obtain⟨h1,b,o,base,cap,rfl,V,W,J,X⟩:=h;refine⟨h1,b,o,base,cap,rfl,V,W,J,?_⟩;rcases Nat.eq_zero_or_pos n with E|E
 ·have:cs=[]:=o9 (by rw[h1,E,Nat.zero_mul]);subst this;intro j v ac;simp at ac
 ·have Y:=J E;exact pt O (U b ⟨⟨b,o,none⟩,n,cap,by rw[Y],rfl⟩) X
theorem gY.U {L:List fB} (h:gY w v L) (E:ad S w w') (J:∀ r,leadsTo v r→¬S r):gY w' v L:=I2 h E J
theorem zx {x:fB} {L:List fB} (h:gY w v (x::L)) (E:∀ b o,w.rangeAt b o (eH x)→K (.pointer (some ⟨b,o,none⟩))):O x5 (j9 eh v (.int .i64 0)) w K:=by
 obtain⟨_,b,o,base,cap,rfl,_,_,J,U⟩:=h;have:=gl (P:=x5) (w:=w) (K:=K) (k:=.i64) (c:=cap) eh.u bI.i (show 0<(x::L).length by simp) J;rw[show ((0:Nat):Int)=0 from rfl] at this;rw[this];refine E _ _ fun j u hu=>?_;have V:=(x3.1 hu).1;rw[Nat.zero_mul,Nat.add_zero];exact U j u (by rw[V1,Z4 V];exact hu)
theorem I3 {x:fB} {L:List fB} (h:gY w v (x::L)) (V:∀ J,(∀ w',gY w' v (x::L)→gY w' J L)→(∀ r,leadsTo J r→leadsTo v r)→K J):O x5 (X4 eh v (some (.int .i64 1)) none none) w K:=by
 have Z:=h;obtain⟨_,b,o,base,cap,rfl,aa,_⟩:=h;rw[fu eh.u bI.i (kZ 1 1 rfl) hp ea (by simp) (by omega) (r9 _)];refine V _ (fun w' W=>?_) fun r X=>?_
 ·have:=bM.part (l:=1) (h:=(x::L).length) (m:=cap) W (by simp) (r9 _) (by omega) (r9 _);have e:(((x::L).flatMap eH).drop (1*2)).take (((x::L).length-1)*2)=L.flatMap eH:=by
   rw[V1];have Y:(L.flatMap eH).length=L.length*2:=fZ (k:=2) fun _ _=>rfl;show (L.flatMap eH).take _=_;rw[Z0 (by rw[Y,n9,Nat.add_sub_cancel];exact r9 _)]
  rw[e] at this;exact this
 ·obtain⟨a,n,c,E,U⟩:=X;split at E
  ·cases E;exact⟨_,_,_,rfl,U⟩
  ·cases base with
   |none=>cases E
   |some q=>cases E;exact⟨_,_,_,rfl,U⟩
theorem I4 {g:Nat} {L:List fB} (V:y=(n:Int)) (h:aT eH 2 bI w g v L) (W:n≤L.length) (X:∀ J,gY w J (L.take n)→(∀ r,leadsTo J r→leadsTo v r)→K J):O x5 (X4 eh v none (some (.int .i64 y)) none) w K:=by
 have Y:=tq h;obtain⟨_,b,o,base,cap,rfl,ab,_⟩:=h.sl;rw[fu eh.u bI.i ho (k0 n y V) ea (Z5 _) (by omega) (r9 _)];refine X _ ?_ fun r Z=>?_
 ·have:=bM.part (l:=0) (h:=n) (m:=cap) Y (Z5 _) W (by omega) (r9 _);have e:((L.flatMap eH).drop (0*2)).take ((n-0)*2)=(L.take n).flatMap eH:=by
   rw[Nat.zero_mul,List.drop_zero,Nat.sub_zero,mA (f:=eH) (k:=2) n fun _ _=>rfl]
  rw[e] at this;have aa:(L.take n).length=n-0:=by rw[o6];omega
  unfold gY;rw[aa];exact this
 ·obtain⟨a,n,c,E,U⟩:=Z;split at E
  ·cases E;exact⟨_,_,_,rfl,U⟩
  ·cases base with
   |none=>cases E
   |some q=>cases E;exact⟨_,_,_,rfl,U⟩
def I5 (w:x1) (J:List Int) (v:y0) (w':x1):Prop:=Ext w w'∧ ∃ E L,∃ bad:Int,v= .tuple #[E,.int .i64 bad]∧gY w' E L∧L.map (·.1)=(lex J).1∧(0≤bad↔(lex J).2=false)∧(∀ r,leadsTo E r→w.heap.size≤r)∧ ∀ r,leadsTo E r→ ∃ c,aa w' r bI c
set_option maxHeartbeats 4000000 in
theorem I6 {p:y0} {V:List Int} (al:ay .u8 w p V) (aY:Bytes V) (bz:V.length≤65536):ag x5 BY [p] w (I5 w V):=by
 refine ap func96 ?_;rw[aK b5.u al];refine nj.range V.length (fun i _ _ Y ah ac=>Ext w ac∧ ∃ g L,∃ (E:List (List Int)) (Z:List Int) (op:Bool),ah= .bool op∧aT eH 2 bI ac g Y L∧L.map (·.1)=(if op then E++[Z] else E)∧(op=true→Z.length≤i)∧L.length≤i∧gq (V.drop i) E Z op=lex V∧ ∀ r,leadsTo Y r→w.heap.size≤r) al.le
  ⟨Ext.refl _,0,[],[],[],false,rfl,aT.nil _ _ _ _ _,rfl,(fun h=>by cases h),r9 _,ED V,fun r aa=>(ds aa).elim⟩ ?_ ?_
 rotate_left
 ·rintro aZ t3 Y ah ac a2 ⟨ad,g,L,E,Z,op,rfl,ab,X,_,_,U,ae⟩;refine cH (by omega) ?_;rw[List.drop_length] at U;have U:(if op then E++[Z] else E,true)=lex V:=U;exact⟨ad,Y,L,-1,rfl,tq ab,by rw[X,←U],by rw[←U];simp,ae,fun r aa=>by obtain⟨rfl,c,aq⟩:=c3 ab aa;exact⟨c,aq⟩⟩
 rintro i aZ t3 Y ah ac a2 hi ⟨ad,g,L,E,Z,op,rfl,ab,X,aM,bA,U,ae⟩ a6;obtain⟨b,au⟩:=aE (l:=V) hi;have bB:=aY b (x2 au);have aN:V.drop i=b::V.drop (i+1):=by rw[Y1 hi,(x3.1 au).2]
 rw[aN] at U;unfold gq at U;refine bC (by omega) ?_;refine ws (fun _ _ Y ah aw=>Ext w aw∧ ∃ g L,∃ (E:List (List Int)) (Z:List Int) (op:Bool),ah= .bool op∧aT eH 2 bI aw g Y L∧L.map (·.1)=(if op then E++[Z] else E)∧(op=true→Z.length≤i+1)∧L.length≤i+1∧gq (V.drop (i+1)) E Z op=lex V∧ ∀ r,leadsTo Y r→w.heap.size≤r) ?_ ?_
 ·rintro bD bE a3 a4 aw a7;rw[aB];exact a6 _ _ _ _ _ a7
 intro bF aO;rw[a1 b5.u b4.i (by kernel_rfl) (al.ext ad) au];refine aI (fun v ai=>ac=ai∧v= .bool (bQ b)) ?_ ?_
 rotate_left
 ·intro ax W;unfold bQ at W;rw[bc,af];refine⟨fun h=>W _ _ ⟨rfl,by rw[decide_eq_true (.inl h)]⟩,fun h1=>?_⟩;rw[bc,af];refine⟨fun h=>W _ _ ⟨rfl,by rw[decide_eq_true (.inr (.inl h))]⟩,fun am=>?_⟩;rw[bc,af];refine⟨fun h=>W _ _ ⟨rfl,by rw[decide_eq_true (.inr (.inr (.inl h)))]⟩,fun a8=>?_⟩;rw[bc];refine W _ _ ⟨rfl,?_⟩;congr 1;rw[X8,decide_eq_true_eq,decide_eq_true_eq];exact⟨fun h=>.inr (.inr (.inr h)),fun h=>by rcases h with h|h|h|h;exact absurd h h1;exact absurd h am;exact absurd h a8;exact h⟩
 rintro _ _ ⟨rfl,rfl⟩;cases aP:bQ b with
 |true=>
  rw[bq];rw[if_pos aP] at U;exact aO _ _ _ _ _ ⟨ad,g,L,_,[],false,rfl,ab,X,(fun h=>by cases h),by omega,U,ae⟩
 |false=>
  rw[aR];rw[if_neg (by rw[aP];simp)] at U;refine aI (fun v ai=>ac=ai∧v= .bool (!bi b)) ?_ ?_
  rotate_left
  ·intro ax W;unfold bi at W;rw[aC,af];refine⟨fun h=>W _ _ ⟨rfl,by rw[decide_eq_false (by omega)];rfl⟩,fun h=>?_⟩;rw[br];refine W _ _ ⟨rfl,?_⟩;by_cases am:126<b
   ·rw[decide_eq_true am,decide_eq_false (by omega)];rfl
   ·rw[decide_eq_false am,decide_eq_true (by omega)];rfl
  rintro _ _ ⟨rfl,rfl⟩;cases hw:bi b with
  |false=>
   rw[Y9,bq];rw[if_neg (by rw[hw];simp)] at U;refine aI (fun v ai=>ac=ai∧ ∃ an,gY ac v an∧an.map (·.1)=E∧(∀ r,leadsTo v r→w.heap.size≤r)∧ ∀ r,leadsTo v r→leadsTo Y r) ?_ ?_
   ·rintro v _ ⟨rfl,an,az,ba,ao,bb⟩;exact⟨ad,v,an,(i:Int),rfl,az,by rw[ba,←U],by rw[←U];simp,ao,fun r aa=>by obtain⟨rfl,c,aq⟩:=c3 ab (bb r aa);exact⟨c,aq⟩⟩
   ·intro ax W;cases op with
    |false=>
     rw[aR];rw[if_neg (by simp)] at X;exact W _ _ ⟨rfl,L,tq ab,X,ae,fun _ h=>h⟩
    |true=>
     rw[bq];rw[if_pos rfl] at X;have aA:L.length=E.length+1:=by have:=congrArg V3 X;simpa using this
     rw[dA eh.u ab,dk,wrap_i64 (by omega) (by omega)];refine I4 (n:=E.length) (by omega) ab (by omega) fun aj az ao=>W _ _ ⟨rfl,_,az,?_,fun r aa=>ae r (ao r aa),ao⟩;rw[List.map_take,X,List.take_left]
  |true=>
   rw[Y0,aR];rw[if_pos hw] at U;refine aI (fun Y aD=>Ext w aD∧ ∃ g M,∃ x:fB,aT eH 2 bI aD g Y (M++[x])∧M.map (·.1)=E∧x.1=(if op then Z else[])∧(M++[x]).length≤i+1∧ ∀ r,leadsTo Y r→w.heap.size≤r) ?_ ?_
   ·rintro bG aD ⟨aQ,bd,M,x,bf,bg,J,bh,aS⟩;intro aG aH _ _;have ak:=bf.ext aH;have aU:(M++[x])[M.length]? =some x:=by simp
    have bH:(M++[x]).length=M.length+1:=by simp
    rw[dA eh.u ak,dk,wrap_i64 (by omega) (by omega),cM (i:=M.length) (by omega) eh.u bI.i ak (by omega),aF bI.p rfl,av (o:=M.length*2+0) (by kernel_rfl) (ak.range aU 0 _ rfl),aB,wrap_i64 (by omega) (by omega)];obtain⟨bK,aV⟩:∃ aj,ay .u8 aG aj [b]∧O x5 (X4 b5 p (some (.int .i64 (i:Int))) (some (.int .i64 ((i:Int)+1))) none) aG (fun v=>v=aj):=by
     have bj:=al.ext (aQ.trans aH);have:=pJ (P:=x5) (low:=some (.int .i64 (i:Int))) (high:=some (.int .i64 ((i:Int)+1))) (K:=fun v=>ay .u8 aG v [b]) b5.u b4.i bj (kZ i _ rfl) (k0 (i+1) ((i:Int)+1) (by omega)) (by omega) (by omega) fun aj aW=>by
      have e:((ints .u8 V).drop (i*1)).take ((i+1-i)*1)=ints .u8 [b]:=by
       simp only[V2,show i+1-i=1 by omega];rw[ints,←List.map_drop,←List.map_take,aN];rfl
      rw[e] at aW;exact ay.of (n:=i+1-i) aW
     obtain⟨v,bk,bl⟩:=this;exact⟨v,bl,v,bk,rfl⟩
    refine I1 aV.2 ?_;have bL:x.1.length≤65536:=by
     rw[J];cases op with
     |true=>rw[if_pos rfl];have:=aM rfl;omega
     |false=>simp
    rw[sa b5.u b4.u bY.u aV.1,r5 (by simp;omega),cM (i:=M.length) (by omega) eh.u bI.i ak (by omega),aF bI.p rfl];refine mB (f:=eH) (j:=0) (a:=x) (a':=(x.1++[b],x.2)) bY.i rfl rfl ak aU rfl (by omega) fun bM bm bN aX=>?_;have e:(M++[x]).set M.length (x.1++[b],x.2)=M++[(x.1++[b],x.2)]:=by
     rw[List.set_append_right _ _ (r9 _),X9];rfl
    rw[e] at aX;refine aO _ _ _ _ _ ⟨(aQ.trans aH).then bm (fun r aa he=>by have:=aS r he;omega),bd,_,E,x.1++[b],true,rfl,aX,by rw[j4,bg];rfl,fun _=>?_,by simp at bh ⊢;omega,?_,aS⟩
    ·rw[u7,J];cases op with
     |true=>rw[if_pos rfl];have:=aM rfl;simp;omega
     |false=>simp
    ·rw[←U,J];cases op with
     |true=>rfl
     |false=>rfl
   ·intro ax W;cases op with
    |true=>
     rw[bJ,Y0,aR];rw[if_pos rfl] at X;have aA:L.length=E.length+1:=by have:=congrArg V3 X;simpa using this
     obtain⟨M,x,rfl⟩:∃ M x,L=M++[x]:=by
      have:L≠[]:=fun h=>by rw[h] at aA;simp at aA
      exact⟨L.dropLast,L.getLast this,(List.dropLast_concat_getLast this).symm⟩
     rw[j4] at X;obtain⟨bn,aJ⟩:=List.append_inj' X (by simp);refine W _ _ ⟨ad,g,M,x,ab,bn,?_,by omega,ae⟩;rw[if_pos rfl];have aJ:[x.1]=[Z]:=aJ;exact (List.cons.inj aJ).1
    |false=>
     rw[bJ,Y9,bq];rw[if_neg (by simp)] at X;rw[ct (cs:=#[be [],.int .i64 (i:Int)]) (by kernel_rfl)];refine eQ (f:=eH) (a:=(([],(i:Int)):fB)) eh.u bI.i (by omega) rfl rfl fun v9 bO bP bR aL bo=>?_;have bp:=ab.ext aL;refine ff (f:=eH) (a:=(([],(i:Int)):fB)) eh.u bI.i rfl bp (by simpa using bo.sl) (tp _) (by omega) (by omega) fun aj bt bS bu bw bx=>?_;have bT:=ad.size;have z9:=aL.size;refine W _ _ ⟨(ad.trans aL).then bx (fun r aa he=>by have:=ae r he;omega),bt,L,_,bu,X,rfl,by simp;omega,fun r aa=>?_⟩;rcases bw r aa with h|h
     ·exact ae r h
     ·omega
structure tr where
 v:y0
 t:List Int
 c:Int
def lF (y:tr):List y0:=[y.v,.int .i64 y.c]
def ix (w:x1) (g:Nat) (v:y0) (l:List (List Int×Int)):Prop:=∃ L:List tr,aT lF 2 bA w g v L∧(∀ y∈L,∃ E,ak .i64 aj w E y.v y.t)∧L.map (fun y=>(y.t,y.c))=l
structure gZ where
 aO:y0
 szv:y0
 o:Int
 bw:y0
def dQ (h:gZ):List y0:=[h.aO,h.szv,.int .i64 h.o,h.bw]
def fl (w:x1) (h:gZ) (x:bG):Prop:=(∃ g,ak .i64 aj w g h.aO x.scope)∧(∃ g,ak .i64 aj w g h.szv x.sizes)∧h.o=x.other∧ ∃ g,ix w g h.bw x.lines
def fC (w:x1) (r:Nat):Prop:=∃ e c,aa w r e c∧e≠aj∧e≠bA
theorem dC {g:Nat} (h:ak .i64 aj w g v l) (J:ad S w w') (O:∀ r,S r→fC w r∨w.heap.size≤r):ak .i64 aj w' g v l:=aZ h J fun r E U=>by
 rcases O r U with⟨e,c,V,W,_⟩|X
 ·exact bE h V (fun he=>W he.symm) E rfl
 ·obtain⟨Y,Z⟩:=bp h E;omega
theorem ts {α:Type} {f:α→List y0} {g:Nat} {L:List α} (h:aT f k e w g v L) (O:ad S w w') (V:∀ r,S r→(∃ E c,aa w r E c∧E≠e)∨w.heap.size≤r):aT f k e w' g v L:=h.U O fun r J W=>by
 rcases V r W with⟨E,c,X,Y⟩|Z
 ·exact cb h X (fun he=>Y he.symm) J
 ·obtain⟨ab,ac⟩:=h.leads J;omega
theorem ix.da {g:Nat} {l:List (List Int×Int)} (h:ix w g v l) (E:ad S w w') (J:∀ r,S r→fC w r∨w.heap.size≤r):ix w' g v l:=by
 obtain⟨L,h1,O,U⟩:=h;refine⟨L,ts h1 E fun r V=>(J r V).imp (fun⟨e,c,W,_,X⟩=>⟨e,c,W,X⟩) id,fun y Y=>?_,U⟩;obtain⟨Z,hm⟩:=O y Y;exact⟨Z,dC hm E J⟩
theorem fl.da {h:gZ} {x:bG} (O:fl w h x) (E:ad S w w') (J:∀ r,S r→fC w r∨w.heap.size≤r):fl w' h x:=by
 obtain⟨⟨U,h1⟩,⟨V,W⟩,X,Y,Z⟩:=O;exact⟨⟨U,dC h1 E J⟩,⟨V,dC W E J⟩,X,Y,Z.da E J⟩
theorem fl.ext {h:gZ} {x:bG} (E:fl w h x) (J:Ext w w'):fl w' h x:=E.da (J.U fun _=>False) fun _ h=>h.elim
theorem fl.one {h:gZ} {x:bG} (E:fl w h x):∀ u∈dQ h,u.oneCell'=true:=by
 obtain⟨⟨U,h1⟩,⟨V,J⟩,W,X,L,O,_⟩:=E;intro u hu;simp[dQ] at hu;rcases hu with rfl|rfl|rfl|rfl
 ·exact h1.ls.cells.2
 ·exact J.ls.cells.2
 ·rfl
 ·exact (cF O.sl).2
def jU (w:x1) (E:y0) (O:List fB) (gs:Nat) (sv:y0) (L:List gZ) (J:List bG):Prop:=(gY w E O∧ ∀ r,leadsTo E r→ ∃ c,aa w r bI c)∧aT dQ 4 aL w gs sv L∧J.length=L.length∧ ∀ (i:Nat) h x,L[i]? =some h→J[i]? =some x→fl w h x
theorem jU.da {W:y0} {ab:List fB} {gs:Nat} {L:List gZ} {ac:List bG} (h:jU w W ab gs sv L ac) (V:ad S w w') (X:∀ r,S r→(∃ e c,aa w r e c∧e≠aj∧e≠bA∧e≠bI∧¬leadsTo sv r)∨w.heap.size≤r):jU w' W ab gs sv L ac:=by
 obtain⟨⟨h1,ae⟩,af,ah,ai⟩:=h;have hw:∀ r,leadsTo W r→¬S r:=fun r E Y=>by
  obtain⟨c,O⟩:=ae r E;rcases X r Y with⟨e,ak,ag,_,_,Z,_⟩|al
  ·exact Z (ed ag O)
  ·have:=O.lt;omega
 refine⟨⟨h1.U V hw,fun r E=>?_⟩,af.U V fun r E Y=>?_,ah,fun i am x hi J=>(ai i am x hi J).da V fun r E=>(X r E).imp (fun⟨e,c,O,an,ao,_⟩=>⟨e,c,O,an,ao⟩) id⟩
 ·obtain⟨c,O⟩:=ae r E;exact⟨c,O.U V (hw r E)⟩
 ·rcases X r Y with⟨e,ak,ag,_,_,_,Z⟩|al
  ·exact Z E
  ·obtain⟨ap,aq⟩:=af.leads E;omega
def fa (E:y0) (J O bad U big V told:Int) (sv:y0):List y0:=[E,.int .i64 J,.int .i64 O,.int .i64 bad,.int .i64 U,.int .i64 big,.int .i64 V,.int .i64 told,sv]
def I7 (N:Nat) (so:Option aq) (E:List fB) (J bad big told:Int) (L:List gZ) (O:List bG):Prop:=match so with
 |some s=>bad=0∧J≠0∧(big≠0↔s.big=true)∧(s.big=false→told=s.told)∧True∧E.map (·.1)=s.toks∧(∀ t∈s.toks,Bytes t∧t.length≤65536)∧O.map (fun x=>(x.sizes,x.lines))=s.shared∧L.length+E.length≤100000
 |none=>bad≠0∧L.length≤N
def bh (w:x1) (g B:Nat) (H:am) (N:Nat) (so:Option aq):Prop:=100000≤N∧ ∃ w0 E J gs sv L O,∃ (V U bad W big X told:Int),w0.heap.size=B∧ad (fun r=>r=g) w0 w∧(∃ c,aa w0 g a6 c)∧aa w g a6 (fa E V U bad W big X told sv)∧jU w0 E J gs sv L O∧(∀ r,leadsTo sv r→H r)∧I7 N so J U bad big told L O
theorem jU.g {g:Nat} {J:y0} {O:List fB} {gs:Nat} {L:List gZ} {U:List bG} (h:jU w J O gs sv L U) (W:ad (fun r=>r=g) w w') (X:∃ c,aa w g a6 c):jU w' J O gs sv L U:=
 h.da W fun r E=>.inl (by
  have E:r=g:=E;subst E;obtain⟨c,V⟩:=X;exact⟨_,c,V,by decide,by decide,by decide,fun Y=>cb h.2.1 V (by decide) Y⟩)
theorem bh.new {g:Nat} {H:am} {so:Option aq} (h:bh w g B H N so) (J:ad S w w') (O:∀ r,S r→B≤r):bh w' g B H N so:=by
 obtain⟨Z,w0,aa,ab,gs,sv,L,ac,ae,af,bad,ag,big,ah,told,h1,V,W,ai,aj,ak,al⟩:=h;have X:g<w0.heap.size:=by obtain⟨c,an⟩:=W;exact an.lt
 exact⟨Z,w0,aa,ab,gs,sv,L,ac,ae,af,bad,ag,big,ah,told,h1,⟨Z3 V.size J.size,fun r o Y E X=>J.aX r o (V.aX r o Y E X) E fun ao=>by
  have:=O r ao;have:=(o7.1 Y).1;omega⟩,W,ai.U J fun E=>by have:=O g E;omega,aj,ak,al⟩
theorem bh.ext {g:Nat} {H:am} {so:Option aq} (h:bh w g B H N so) (J:Ext w w'):bh w' g B H N so:=h.new (J.U fun _=>False) fun _ h=>h.elim
theorem bh.base {g:Nat} {H:am} {so:Option aq} (h:bh w g B H N so):bh w g w.heap.size H N so:=by
 obtain⟨J,w0,O,U,gs,sv,L,V,W,X,bad,Y,big,Z,told,h1,aa,ab,E,ac,ae,af⟩:=h;exact⟨J,w,O,U,gs,sv,L,V,W,X,bad,Y,big,Z,told,rfl,ad.refl _ _,⟨_,E⟩,E,ac.g aa ab,ae,af⟩
theorem bh.da {g:Nat} {H:am} {so:Option aq} (h:bh w g B H N so) (O:ad S w w') (V:∀ r,S r→(∃ e c,aa w r e c∧e≠aj∧e≠bA∧e≠bI∧e≠a6∧¬H r)∨w.heap.size≤r):bh w' g w'.heap.size H N so:=by
 obtain⟨ab,w0,W,X,gs,sv,L,Y,ac,ae,bad,af,big,ag,told,h1,ah,ai,J,ak,Z,al⟩:=h.base;have an:jU w W X gs sv L Y:=ak.g ah ai;have E:=J.U O fun ao=>by
  rcases V g ao with⟨e,c,E,_,_,_,ap,_⟩|aA
  ·exact ap (ed E J)
  ·have:=J.lt;omega
 refine⟨ab,w',W,X,gs,sv,L,Y,ac,ae,bad,af,big,ag,told,rfl,ad.refl _ _,⟨_,E⟩,E,an.da O fun r au=>(V r au).imp (fun⟨e,c,E,av,aw,ax,_,ay⟩=>⟨e,c,E,av,aw,ax,fun az=>ay (Z r az)⟩) id,Z,al⟩
theorem bh.lt {g:Nat} {H:am} {so:Option aq} (h:bh w g B H N so):g<B∧B≤w.heap.size:=by
 obtain⟨O,w0,U,V,gs,sv,L,W,X,Y,bad,Z,big,aa,told,h1,E,⟨c,J⟩,_⟩:=h;have:=J.lt;have:=E.size;omega
theorem gd {g:Nat} {H:am} {so:Option aq} (h:bh w g B H N so):∃ E,∃ (J O bad U big V told:Int),∃ sv,aa w g a6 (fa E J O bad U big V told sv)∧(so.isSome=true↔bad=0):=by
 obtain⟨Y,w0,E,Z,gs,sv,L,ab,J,O,bad,U,big,V,told,h1,ac,ad,X,ae,af,W⟩:=h;refine⟨E,J,O,bad,U,big,V,told,sv,X,?_⟩;cases so with
 |none=>exact⟨(fun h=>by cases h),fun h=>absurd h W.1⟩
 |some s=>exact⟨fun _=>W.1,fun _=>rfl⟩
theorem jl {g:Nat} {H:am} {so:Option aq} (h:bh w g B H N so):O x5 (bl (.pointer (some ⟨g,0,none⟩))) w (fun E=>O x5 (x8 a6 E 3) w fun t45=>O x5 (x6 ab t45) w fun t46=>O x5 (ax .eql ab false true t46 (.int .i64 0)) w K)=K (.bool so.isSome):=by
 obtain⟨U,V,W,bad,X,big,Y,told,sv,J,hi⟩:=gd h;rw[aD a6.p 3 J rfl,bc];congr 2;rw[X8,decide_eq_true_eq];exact hi.symm
theorem oq {g:Nat} {H:am} {so:Option aq} (h:bh w g B H N so):O x5 (bl (.pointer (some ⟨g,0,none⟩))) w (fun U=>O x5 (x8 a6 U 3) w fun t45=>O x5 (x6 ab t45) w fun t46=>O x5 (ax .neq ab false true t46 (.int .i64 0)) w K)=K (.bool (!so.isSome)):=by
 obtain⟨W,X,Y,bad,Z,big,aa,told,sv,V,hi⟩:=gd h;rw[aD a6.p 3 V rfl,bj];congr 2;cases J:so.isSome with
 |true=>have E:=hi.1 J;simp[E]
 |false=>
  have E:bad≠0:=fun E=>by rw[hi.2 E] at J;cases J
  simp[E]
def mQ (w:x1) (g B:Nat) (H:am) (N:Nat) (so:Option aq) (w':x1):Prop:=ad (fun r=>r=g) w w'∧bh w' g B H N so
theorem lG {g:Nat} {H:am} {so:Option aq} {e at_:Int} (h:bh w g B H N so) (he:e≠0):ag x5 kW [.pointer (some ⟨g,0,none⟩),.int .i64 e,.int .i64 at_] w fun _ w'=>mQ w g B H N none w':=by
 refine ap func101 ?_;rw[jl h];cases so with
 |none=>rw[Option.isSome_none,aR];exact⟨ad.refl _ _,h⟩
 |some s=>
  rw[Option.isSome_some,bq];obtain⟨Y,w0,J,Z,gs,sv,L,ac,O,U,bad,au,big,W,told,h1,ae,af,ah,ai,aj,ak⟩:=h;rw[bB,aF a6.p rfl];refine aY (g:=g) (o:=3) ab.i rfl rfl ah (by simp[fa]) fun av al aw an=>?_;rw[bB,aF a6.p rfl];refine aY (g:=g) (o:=4) ab.i rfl rfl an (by simp[fa]) fun V ao ax E=>?_;have E:aa V g a6 (fa J O U e at_ big W told sv):=E;have X:=al.trans ao;obtain⟨_,_,_,_,_,_,_,_,ay⟩:=ak;exact⟨X,Y,w0,J,Z,gs,sv,L,ac,O,U,e,at_,big,W,told,h1,ae.trans X,af,E,ai,aj,he,by omega⟩
theorem kD {g:Nat} {H:am} {so:Option aq} {b:Bool} {at_:Int} (h:bh w g B H N so):ag x5 pg [.pointer (some ⟨g,0,none⟩),.bool b,.int .i64 at_] w fun _ w'=>mQ w g B H N (so.map (aM b)) w':=by
 refine ap func98 ?_;obtain⟨an,w0,J,ao,gs,sv,L,au,O,U,bad,W,big,aE,told,h1,av,aw,X,ax,ay,Y⟩:=id h;refine aI (fun v az=>w=az∧v= .bool (b&&decide (big=0)&&so.isSome)) ?_ ?_
 ·rintro _ _ ⟨rfl,rfl⟩;rw[ca];refine⟨fun aA=>?_,fun ae=>⟨ad.refl _ _,an,w0,J,ao,gs,sv,L,au,O,U,bad,W,big,aE,told,h1,av,aw,X,ax,ay,?_⟩⟩
  ·rw[W0,W0] at aA;obtain⟨⟨aG,aN⟩,aH⟩:=aA;rw[bB,aF a6.p rfl];refine aY (g:=g) (o:=5) ab.i rfl rfl X (by simp[fa]) fun az aJ aO aK=>?_;rw[bB,aF a6.p rfl];refine aY (g:=g) (o:=6) ab.i rfl rfl aK (by simp[fa]) fun V aL aP Z=>?_;have Z:aa V g a6 (fa J O U bad W 5 at_ told sv):=Z;have aB:=aJ.trans aL;refine⟨aB,an,w0,J,ao,gs,sv,L,au,O,U,bad,W,5,at_,told,h1,av.trans aB,aw,Z,ax,ay,?_⟩;cases so with
   |none=>cases aH
   |some s=>
    obtain⟨ac,ah,aC,ai,aj⟩:=Y;exact⟨ac,ah,⟨fun _=>by show (s.big||b)=true;rw[aG,Bool.or_true],fun _=>by omega⟩,fun ak=>ai (U3.1 ak).1,aj⟩
  ·cases so with
   |none=>exact Y
   |some s=>
    obtain⟨ac,ah,aC,ai,aj⟩:=Y;refine⟨ac,ah,?_,fun ak=>ai (U3.1 ak).1,aj⟩;show big≠0↔(s.big||b)=true;cases b with
    |false=>rw[Bool.or_false];exact aC
    |true=>
     have E:big≠0:=by simpa using ae
     simp[E]
 ·intro aQ al;cases b with
  |false=>rw[aR];exact al _ _ ⟨rfl,by simp⟩
  |true=>
   rw[bq,aD a6.p 5 X rfl,bc,af];refine⟨fun E=>?_,fun E=>al _ _ ⟨rfl,by rw[decide_eq_false E];simp⟩⟩;rw[jl h];exact al _ _ ⟨rfl,by rw[decide_eq_true E];simp⟩
def hA (so:Option aq):Option (List Int×aq):=so.bind c0
theorem zy {g:Nat} {H:am} {so:Option aq} (h:bh w g B H N so):ag x5 BZ [.pointer (some ⟨g,0,none⟩)] w fun v w'=>mQ w g B H N ((hA so).map (·.2)) w'∧ ∃ (t:List Int) (n:Int),v= .agg #[be t,.int .i64 n]∧Bytes t∧t.length≤65536∧ ∀ q,hA so=some q→t=q.1:=by
 have a1:=h.lt;refine ap func97 ?_;refine bg bI.i fun E aj bN Y Z=>?_;have h1:=h.ext Y;have zero:∀ {W:x1},mQ aj g B H N none W→aa W E bI [.string ⟨#[]⟩,.int .i64 0]→hA so=none→(O x5 (Instr.build bI #[]) W fun t9=>
   aw x5 (n0 bI (.pointer (some ⟨E,0,none⟩)) t9) W fun(_:Unit) V=>
   O x5 (do loadVar bI (←asAddr (.pointer (some ⟨E,0,none⟩)))) V fun a2=>(fun v w'=>mQ w g B H N ((hA so).map (·.2)) w'∧ ∃ (t:List Int) (n:Int),v= .agg #[be t,.int .i64 n]∧Bytes t∧t.length≤65536∧ ∀ q,hA so=some q→t=q.1) a2 V):=by
  intro W X ak av;rw[ct (cs:=#[.string ⟨#[]⟩,.int .i64 0]) (by kernel_rfl)];refine bP (vs:=[.string ⟨#[]⟩,.int .i64 0]) bI.i rfl rfl (by intro v ac;simp at ac;rcases ac with rfl|rfl <;> rfl) ak fun a7 aC bO a8=>?_;rw[eO bI.p bI.i rfl a8.range,av];have ba:=Y.size;have bQ:=a1;refine⟨⟨fL ((Y.U _).trans X.1) aC fun r J he=>?_,X.2.new aC fun r J=>?_⟩,[],0,rfl,(fun b bb=>by cases bb),by simp,fun q ax=>by cases ax⟩
  ·have he:r=E:=he;omega
  ·have J:r=E:=J;omega
 rw[oq h1];cases so with
 |none=>
  rw[Option.isSome_none,Y9,bq];exact zero ⟨ad.refl _ _,h1⟩ Z rfl
 |some s=>
 rw[Option.isSome_some,Y0,aR];obtain⟨bd,w0,bR,ay,gs,sv,L,aE,aG,aH,bad,aI,big,aJ,told,bf,aK,aL,ab,al,bi,bj⟩:=id h1;have bk:=al.g aK aL;obtain⟨⟨an,bS⟩,_⟩:=id bk;obtain⟨bl,aM,bm,bo,bp,aN,aO,br,bt⟩:=id bj;rw[aD a6.p 0 ab rfl,zw an,bc,af];refine⟨fun aP=>?_,fun aP=>?_⟩
 ·have bu:ay=[]:=o9 (by omega);have ae:s.toks=[]:=by rw[←aN,bu];rfl
  have av:hA (some s)=none:=by show c0 s=none;unfold c0;rw[ae]
  intro W ao _ _;have ak:=ab.ext ao;rw[aD a6.p 2 ak rfl,aD a6.p 1 ak rfl];refine (lG (h1.ext ao) aM).mono ?_;rintro _ a7 _ X;have bw:=Z.lt;exact zero ⟨(ao.U _).trans X.1,X.2⟩ ((Z.ext ao).U X.1 fun he=>by have he:E=g:=he;omega) av
 ·obtain⟨x,ah,rfl⟩:∃ x l,ay=x::l:=by
   cases ay with
   |nil=>exact absurd rfl aP
   |cons x l=>exact⟨x,l,rfl⟩
  have ae:s.toks=x.1::ah.map (·.1):=by rw[←aN];rfl
  have bx:hA (some s)=some (x.1,{s with toks:=ah.map (·.1)}):=by show c0 s=_;unfold c0;rw[ae]
  have aQ:=aO x.1 (by rw[ae];exact .head _);rw[aD a6.p 0 ab rfl];refine zx an fun b o bz=>?_;rw[bn bI.p bI.i rfl bz];refine bg bI.i fun aS bT bU bA bC=>?_;refine bP (vs:=eH x) bI.i rfl rfl (tp x) bC fun bD bE bV aT=>?_;have au:Ext aj bD:=bA.put bE (by omega);have aU:=ab.ext au;rw[aD a6.p 0 aU rfl];refine I3 (an.U (au.U fun _=>False) fun _ _ h=>h) fun az aV bF=>?_;have aW:=aV aj an;rw[bB,aF a6.p rfl];refine aY (g:=g) (o:=0) eh.i (cF aW).1 (cF aW).2 aU (by simp[fa]) fun ai aA bW aB=>?_;have aB:aa ai g a6 (fa az aG aH bad aI big aJ told sv):=aB;have bw:=ab.lt;have bX:=aT.lt;have bY:=Z.lt;have ba:=Y.size;have bG:aa ai aS bI (eH x):=aT.U aA fun he=>by have he:aS=g:=he;omega
  rw[bn bI.p bI.i rfl bG.range];have bH:aa ai E bI [.string ⟨#[]⟩,.int .i64 0]:=(aa.ext Z au).U aA fun he=>by have he:E=g:=he;omega
  refine bP (vs:=eH x) bI.i rfl rfl (tp x) bH fun bZ aX b1 bJ=>?_;rw[eO bI.p bI.i rfl bJ.range];have aZ:ad (fun r=>r=g) aj ai:=(au.U _).trans aA;rw[bx];refine⟨⟨fL ((Y.U _).trans aZ) aX fun r J he=>?_,?_⟩,x.1,x.2,rfl,aQ.1,aQ.2,fun q ax=>by cases ax;rfl⟩
  ·have he:r=E:=he;omega
  ·have bK:jU w0 az ah gs sv L aE:=⟨⟨aV w0 al.1.1,fun r J=>al.1.2 r (bF r J)⟩,al.2⟩;have bL:bh ai g B H N (some {s with toks:=ah.map (·.1)}):=⟨bd,w0,az,ah,gs,sv,L,aE,aG,aH,bad,aI,big,aJ,told,bf,aK.trans aZ,aL,aB,bK,bi,bl,aM,bm,bo,bp,rfl,fun t bM=>aO t (by rw[ae];exact .tail _ bM),br,by simp at bt;omega⟩;refine bL.new aX fun r J=>?_;have J:r=E:=J;omega
theorem I8 {lo hi:Int} {so:Option aq}:aQ lo hi so=match hA so with
  |none=>none
  |some (w,s)=>match e5 w with
   |none=>none
   |some n=>if lo≤n∧n≤hi then some (n,s) else none:=by
 cases so with
 |none=>rfl
 |some s=>rfl
set_option maxHeartbeats 1000000 in
theorem iy {g:Nat} {H:am} {so:Option aq} {lo hi:Int} (h:bh w g B H N so):ag x5 jE [.pointer (some ⟨g,0,none⟩),.int .i64 lo,.int .i64 hi] w fun v w'=>mQ w g B H N ((aQ lo hi so).map (·.2)) w'∧ ∃ n at_:Int,v= .tuple #[.int .i64 n,.int .i64 at_]∧(∀ q,aQ lo hi so=some q→n=q.1)∧(aQ lo hi so=none→n=0):=by
 have aY:=h.lt;refine ap func99 ?_;refine (zy h).mono ?_;rintro _ aB _ ⟨⟨au,h1⟩,t,at_,rfl,aD,aZ,av⟩;have a1:=h1.lt;refine bg bI.i fun aE V a2 aF aG=>?_;refine bP (vs:=[be t,.int .i64 at_]) bI.i rfl rfl (by intro v ac;simp at ac;rcases ac with rfl|rfl <;> rfl) aG fun aH aJ a6 aw=>?_;have ax:Ext aB aH:=aF.put aJ (by omega);have aK:=h1.ext ax;rw[aP bI.p 0 aw rfl];refine (I0 aD (by omega)).mono ?_;rintro _ ab _ ⟨rfl,ae⟩;have ah:=aK.ext ae;have ay:=aw.ext ae;have aL:=ax.trans ae;have a7:=au.size;obtain⟨n,e,aM,ai,aN⟩:∃ n e:Int,im t= .tuple #[.int .i64 n,.int .i64 e]∧(∀ m,e5 t=some m→n=m∧e=0)∧(e5 t=none→e≠0):=by
  unfold im;cases e5 t with
  |none=>exact⟨0,4,rfl,(fun m hm=>by cases hm),fun _=>by omega⟩
  |some m=>exact⟨m,0,rfl,(fun m hm=>by cases hm;exact⟨rfl,rfl⟩),fun h=>by cases h⟩
 rw[aM,a8,ba];have E:=I8 (lo:=lo) (hi:=hi) (so:=so);have az:ad (fun r=>r=g) w ab:=au.trans (aL.U _);refine cX (fun X=>ad (fun r=>r=g) ab X∧bh X g B H N ((aQ lo hi so).map (·.2))) ?_ ?_
 ·rintro X ⟨Y,W⟩;rw[oq W];cases Z:aQ lo hi so with
  |none=>
   rw[Z] at W;rw[Option.map_none,Option.isSome_none,Y9,bq];exact⟨⟨az.trans Y,W⟩,0,0,rfl,(fun q Z=>by cases Z),fun _=>rfl⟩
  |some q=>
   rw[Z] at W E;rw[c5,Option.isSome_some,Y0,aR];intro bb aj _ _;have aO:=(ay.U Y fun he=>by have he:aE=g:=he;omega).ext aj;rw[aP bI.p 1 aO rfl];refine⟨⟨(az.trans Y).trans (aj.U _),W.ext aj⟩,n,at_,rfl,fun bc aS=>?_,fun h=>by cases h⟩;cases aS;cases O:hA so with
   |none=>rw[O] at E;cases E
   |some p=>
    obtain⟨ak,al⟩:=p;have an:=av (ak,al) O;subst an;rw[O] at E;simp only at E;cases J:e5 t with
    |none=>rw[J] at E;cases E
    |some m=>
     rw[J] at E;simp only at E;split at E
     ·cases E;exact (ai m J).1
     ·cases E
 ·intro bd aA;refine aI (fun v X=>ab=X∧ ∃ c:Bool,v= .bool c∧(c=true→aQ lo hi so=none)∧(c=false→(aQ lo hi so).map (·.2)=(hA so).map (·.2))) ?_ ?_
  ·rintro _ _ ⟨rfl,c,rfl,aT,aU⟩;rw[ca];refine⟨fun h=>?_,fun h=>aA _ ⟨ad.refl _ _,by rw[aU h];exact ah⟩⟩;rw[aP bI.p 1 ay rfl];refine (lG ah (by omega)).mono ?_;rintro _ X _ ⟨Y,W⟩;exact aA _ ⟨Y,by rw[aT h];exact W⟩
  ·intro bf aa;rw[jl ah];cases O:hA so with
   |none=>
    rw[O] at E;simp only at E;rw[Option.map_none,Option.isSome_none,aR];exact aa _ _ ⟨rfl,false,rfl,(fun h=>by cases h),fun _=>by rw[E,O];rfl⟩
   |some p=>
    obtain⟨ak,al⟩:=p;have an:=av (ak,al) O;subst an;rw[O] at E;simp only at E;rw[c5,Option.isSome_some,bq,bj,af];refine⟨fun he=>?_,fun he=>?_⟩
    ·refine aa _ _ ⟨rfl,true,rfl,fun _=>?_,fun h=>by cases h⟩;cases J:e5 t with
     |none=>rw[E,J]
     |some m=>exact absurd (ai m J).2 he
    ·have aV:e=0:=Z6.1 he;cases J:e5 t with
     |none=>exact absurd aV (aN J)
     |some m=>
      rw[J] at E;simp only at E;have aW:=(ai m J).1;subst aW;rw[aC,af];refine⟨fun aX=>aa _ _ ⟨rfl,true,rfl,fun _=>by rw[E,if_neg (by omega)],fun h=>by cases h⟩,fun aX=>?_⟩;rw[br];refine aa _ _ ⟨rfl,_,rfl,fun ao=>?_,fun ao=>?_⟩
      ·rw[E,if_neg (by have:=of_decide_eq_true ao;omega)]
      ·rw[E,if_pos (by have:=of_decide_eq_false ao;omega),O];rfl
theorem tt {Z bv:y0} {a b:List Int} (E:ay .i64 w Z a) (aa:ay .i64 w bv b):ag x5 ph [Z,bv] w fun v w'=>v= .bool (decide (a=b))∧Ext w w':=by
 refine ap func172 ?_;rw[aK an.u E,aK an.u aa,bj,af];refine⟨fun h=>⟨by rw[decide_eq_false];intro he;rw[he] at h;exact h rfl,Ext.refl _⟩,fun h=>?_⟩;have ab:a.length=b.length:=by have:=Z6.1 h;omega
 rw[aK an.u E];refine bO.range a.length (fun i _ W=>Ext w W∧a.take i=b.take i) E.le ⟨Ext.refl _,rfl⟩ ?_ ?_
 ·rintro i _ W k hi ⟨X,O⟩ ac;obtain⟨x,J⟩:=aE (l:=a) hi;obtain⟨y,Y⟩:=aE (l:=b) (i:=i) (by omega);refine bC (by omega) ?_;intro V ad _ _;have U:=X.trans ad;rw[a1 an.u aj.i (by kernel_rfl) (E.ext U) J,a1 an.u aj.i (by kernel_rfl) (aa.ext U) Y,bj,af];refine⟨fun ae=>⟨by rw[decide_eq_false];intro he;rw[he,Y] at J;exact ae (b9 J).symm,U⟩,fun he=>?_⟩;rw[aB];refine ac _ _ ⟨U,?_⟩;rw[u5,u5,O,J,Y,Z6.1 he]
 ·rintro _ W k ⟨X,O⟩;rw[aC,af];refine⟨fun h=>by omega,fun _=>⟨?_,X⟩⟩;rw[o5,ab,o5] at O;rw[decide_eq_true O]
def fD (w:x1) (B E:Nat) (x:bG):Prop:=∃ aO szv bw J O U,aa w E aL [aO,szv,.int .i64 x.other,bw]∧ak .i64 aj w J aO x.scope∧ak .i64 aj w O szv x.sizes∧ix w U bw x.lines∧(∀ r,leads aO r∨leads szv r→B≤r)∧(∀ r,leads aO r→¬leads szv r)∧B≤E
def zz (w:x1) (r:Nat):Prop:=(∃ e c,aa w r e c∧e≠aj∧e≠bA∧e≠aL)∨w.heap.size≤r
theorem fD.da {J:Nat} {x:bG} (h:fD w B J x) (E:ad S w w') (W:∀ r,S r→zz w r):fD w' B J x:=by
 obtain⟨aO,szv,bw,X,Y,Z,h1,aa,ab,ac,ae,af,ag⟩:=h;have O:∀ r,S r→fC w r∨w.heap.size≤r:=fun r ah=>(W r ah).imp (fun⟨e,c,V,ai,aj,_⟩=>⟨e,c,V,ai,aj⟩) id;refine⟨aO,szv,bw,X,Y,Z,h1.U E fun ak=>?_,dC aa E O,dC ab E O,ac.da E O,ae,af,ag⟩;rcases W J ak with⟨e,c,V,_,_,al⟩|am
 ·exact al (ed V h1)
 ·have:=h1.lt;omega
theorem fD.ext {x:bG} (h:fD w B E x) (J:Ext w w'):fD w' B E x:=h.da (J.U fun _=>False) fun _ h=>h.elim
theorem iz {g:Nat} {H:am} {so:Option aq} (h:bh w g B H N so):∀ r,r=g→zz w r:=fun r E=>by
 subst E;obtain⟨O,U,V,bad,W,big,X,told,sv,J,_⟩:=gd h;exact .inl ⟨_,_,J,by decide,by decide,by decide⟩
def fm (g B:Nat):am:=fun r=>r=g∨B≤r
theorem I9 {n:Int} {acc:List Int} {s:aq}:bZ (fun acc s=>match aS 0 (n-1) s with
 |none=>none
 |some (v,s)=>if v∈acc then none else some (v,s)) (k+1) acc s=match aS 0 (n-1) s with
  |none=>none
  |some (v,s')=>if v∈acc then none else bZ (fun acc s=>match aS 0 (n-1) s with
 |none=>none
 |some (v,s)=>if v∈acc then none else some (v,s)) k (acc++[v]) s':=by
 rw[bZ];cases aS 0 (n-1) s with
 |none=>rfl
 |some q=>
  obtain⟨v,s'⟩:=q;simp only;by_cases ac:v∈acc
  ·rw[if_pos ac,if_pos ac]
  ·rw[if_neg ac,if_neg ac]
def zA (n:Int) (k:Nat) (acc:List Int) (s:aq):Option (List Int×aq):=bZ (fun acc s=>match aS 0 (n-1) s with
 |none=>none
 |some (v,s)=>if v∈acc then none else some (v,s)) k acc s
set_option maxHeartbeats 4000000 in
theorem zB {g J ar:Nat} {H:am} {s:aq} {so:Option aq} {aJ:y0} {bk bm:x1→Prop} (bY:bh w g B H N so) (cq:so=some s∨(so=none∧ar=0)) (cr:fD w B J ⟨[],[],0,[]⟩) (ct:∀ c,aa w J aL c→c[3]? =some (.slice none 0 0)) (bZ:ak .i64 aj w gz aJ all) (cu:∀ r,leads aJ r→r<B) (dI:all.length≤100001) (dJ:ar≤4611686018427387904) (bn:so=some s→s.toks.length≤100000)
  (aW:so=some s→ ∀ w' x,ad (fm g B) w w'→dN all.length ar s=none→bh w' g B H N none→fD w' B J x→bk w')
  (cw:so=none→bm w)
  (bo:so=some s→ ∀ w' scope s',ad (fm g B) w w'→dN all.length ar s=some (scope,s')→bh w' g B H N (some s')→fD w' B J ⟨scope,scope.map fun v=>all.getD v.toNat 0,0,[]⟩→(∀ c,aa w' J aL c→c[3]? =some (.slice none 0 0))→bm w'):
  bS (.int .i64 0) w fun i W k=>
   bX (α:=y0→x1→Prop) (fun(cz:y0) (al:x1)=>
    Split cz (O x5 (Y4 #[an] ab #[aJ]) al fun t53=>
   O x5 (ax .sub aj false true t53 (.int .i64 1)) al fun cA=>
   ag x5 jE [.pointer (some ⟨g,0,none⟩),(.int .i64 0),cA] al fun t55 X=>
   O x5 (c9 t55 0) X fun br=>
   O x5 (c9 t55 1) X fun cC=>
   O x5 (bl (.pointer (some ⟨g,0,none⟩))) X fun cD=>
   O x5 (x8 a6 cD 3) X fun cE=>
   O x5 (x6 ab cE) X fun cF=>
   O x5 (ax .neq ab false true cF (.int .i64 0)) X fun cG=>
   Split cG (bk X)
    (O x5 (x8 aL (.pointer (some ⟨J,0,none⟩)) 0) X fun cH=>
   O x5 (x6 an cH) X fun b1=>
   O x5 (Y4 #[an] ab #[b1]) X fun t66=>
   bS (.int .i64 0) X fun bt Z cI=>
    O x5 (ax .lss ab false false bt t66) Z fun cJ=>
    Split cJ (O x5 (j9 an b1 bt) Z fun cK=>
    O x5 (x6 aj cK) Z fun t70=>
    O x5 (ax .eql aj false false t70 br) Z fun cL=>
    Split cL (ag x5 kW [.pointer (some ⟨g,0,none⟩),(.int .i64 4),cC] Z fun t76 bu=>bk bu)
     (O x5 (ax .add ab false true bt (.int .i64 1)) Z fun cM=>
    cI cM Z))
     (O x5 (x8 aL (.pointer (some ⟨J,0,none⟩)) 0) Z fun cN=>
   O x5 (x6 an cN) Z fun cO=>
   aw x5 (b6 an 1 #[(0,br)]) Z fun cP aM=>
   aw x5 (l9 #[an,an] an #[cO,cP]) aM fun cQ bx=>
   O x5 (x8 aL (.pointer (some ⟨J,0,none⟩)) 0) bx fun cR=>
   aw x5 (n0 an cR cQ) bx fun(_:Unit) au=>
   du au fun ay=>
   O x5 (x8 aL (.pointer (some ⟨J,0,none⟩)) 1) ay fun bz=>
   O x5 (x6 an bz) ay fun b2=>
   O x5 (j9 an aJ br) ay fun cS=>
   O x5 (x6 aj cS) ay fun cT=>
   aw x5 (b6 an 1 #[(0,cT)]) ay fun cU aH=>
    (Ext ay aH∨bR x5 (x6 an bz) b2 aH∧bR x5 (x8 aL (.pointer (some ⟨J,0,none⟩)) 1) bz aH∧True)∧
   aw x5 (l9 #[an,an] an #[b2,cU]) aH fun cV bA=>
    O x5 (x8 aL (.pointer (some ⟨J,0,none⟩)) 1) bA fun cW=>
    aw x5 (n0 an cW cV) bA fun(_:Unit) az=>
     O x5 (ax .add aj false true i (.int .i64 1)) az fun cX=>
   k cX az)))
     (bm al)) fun b3=>
   O x5 (ax .lss aj false false i (.int .i64 (ar:Int))) W fun cY=>
   Split cY (O x5 (bl (.pointer (some ⟨g,0,none⟩))) W fun cZ=>
   O x5 (x8 a6 cZ 3) W fun c0=>
   O x5 (x6 ab c0) W fun t45=>
   O x5 (ax .eql ab false true t45 (.int .i64 0)) W fun t46=>
   b3 t46 W)
    (b3 (.bool false) W):=by
 have dK:=bY.lt;rcases cq with rfl|⟨rfl,rfl⟩
 rotate_left
 ·refine bS.range 0 (fun _ b4=>w=b4) (by omega) rfl (fun i b4 k hi=>by omega) ?_;rintro _ k rfl;refine aI (fun v al=>w=al∧v= .bool false) ?_ ?_
  ·rintro _ _ ⟨rfl,rfl⟩;rw[aR];exact cw rfl
  ·intro b5 aN;rw[aC,af];exact⟨fun h=>by omega,fun _=>aN _ _ ⟨rfl,rfl⟩⟩
 have h:=bY;have bn:=bn rfl;have aW:=aW rfl;have bo:=bo rfl;refine bS.range ar (fun i W=>∃ scope ao,ad (fm g B) w W∧bh W g B H N (some ao)∧fD W B J ⟨scope,scope.map fun v=>all.getD v.toNat 0,0,[]⟩∧scope.length=i∧scope.length+ao.toks.length≤100000∧dN all.length ar s=zA all.length (ar-i) scope ao∧ ∀ c,aa W J aL c→c[3]? =some (.slice none 0 0)) (by omega) ⟨[],s,ad.refl _ _,h,cr,rfl,by simpa using bn,rfl,ct⟩ ?_ ?_
 rotate_left
 ·rintro W k ⟨scope,ao,aX,av,a2,b7,c1,Y,bB⟩;refine aI (fun v al=>W=al∧v= .bool false) ?_ ?_
  ·rintro _ _ ⟨rfl,rfl⟩;rw[aR];rw[X9] at Y;exact bo W scope ao aX Y av a2 bB
  ·intro b5 aN;rw[aC,af];exact⟨fun h=>by omega,fun _=>aN _ _ ⟨rfl,rfl⟩⟩
 rintro i W k hi ⟨scope,ao,aX,av,a2,b7,c1,Y,bB⟩ c2;refine aI (fun v al=>W=al∧v= .bool true) ?_ ?_
 rotate_left
 ·intro b5 aN;refine bC (by omega) ?_;rw[jl av];exact aN _ _ ⟨rfl,rfl⟩
 rintro _ _ ⟨rfl,rfl⟩;rw[bq];have b8:∀ {w':x1},ad (fm g B) w w'→ak .i64 aj w' gz aJ all:=fun c3=>aZ bZ c3 fun r E V=>by
  rcases V with rfl|V
  ·obtain⟨c4,ae,aT,bad,c6,big,c7,told,sv,ah,_⟩:=gd h;exact bE bZ ah (by decide) E rfl
  ·have:=cu r E;omega
 rw[aK an.u (b8 aX).ls,dk,wrap_i64 (by omega) (by omega)];refine (iy av).mono ?_;rintro _ X _ ⟨⟨bD,ai⟩,n,at_,rfl,bF,c8⟩;rw[a8,ba,oq ai];have bG:=a2.da bD (iz av);have bH:ad (fm g B) w X:=aX.trans (bD.mono fun r _ h=>.inl h);have db:=I9 (n:=(all.length:Int)) (k:=ar-(i+1)) (acc:=scope) (s:=ao);have dc:ar-i=(ar-(i+1))+1:=by omega
 rw[dc] at Y;unfold zA at Y;rw[db] at Y;have dd:aQ 0 ((all.length:Int)-1) (some ao)=aS 0 ((all.length:Int)-1) ao:=rfl;rw[dd] at ai bF c8 ⊢;cases a7:aS 0 ((all.length:Int)-1) ao with
 |none=>
  rw[a7] at ai Y;rw[Option.map_none,Option.isSome_none,Y9,bq];exact aW X _ bH Y ai bG
 |some q=>
  obtain⟨v,bI⟩:=q;rw[a7] at ai Y bF;have de:n=v:=bF _ rfl;subst de;have dL:=(fW a7).1;have dO:=(cB a7).1;simp only at Y;rw[c5,Option.isSome_some,Y0,aR];have ai:bh X g B H N (some bI):=ai;obtain⟨aO,szv,bw,dP,df,bJ,f1,f2,f3,f4,f5,f6,f7⟩:=id bG;rw[aP aL.p 0 f1 rfl,aK an.u f2.ls];have dQ:scope.length≤100000:=by omega
  refine bS.range scope.length (fun j Z=>X=Z∧n∉scope.take j) (by omega) ⟨rfl,by simp⟩ ?_ ?_
  ·rintro j _ dg dh ⟨rfl,bb⟩ di;obtain⟨u,hu⟩:=aE (l:=scope) dh;rw[aC,af];refine⟨fun _=>?_,fun h=>by simp only at h;omega⟩;rw[a1 an.u aj.i (by kernel_rfl) f2.ls hu,bc,af];refine⟨fun he=>?_,fun dj=>?_⟩
   ·refine (lG ai (by omega)).mono ?_;rintro _ bu _ ⟨ca,dl⟩;rw[if_pos (by rw[←he];exact x2 hu)] at Y;exact aW bu _ (bH.trans (ca.mono fun r _ h=>.inl h)) Y dl (bG.da ca (iz ai))
   ·rw[aB];refine di _ ⟨rfl,?_⟩;rw[u5,hu];intro hm;rcases p8.1 hm with hm|hm
    ·exact bb hm
    ·simp at hm;exact dj hm.symm
  ·rintro _ dg ⟨rfl,bb⟩;rw[o5] at bb;rw[aC,af];refine⟨fun h=>by simp only at h;omega,fun _=>?_⟩;rw[if_neg bb] at Y;rw[aP aL.p 0 f1 rfl];refine dM an.u aj.i rfl fun dR dS aM dT ap dm=>?_;have dU:=ai.lt;refine gb an.u aj.i rfl (f2.ext ap) dm.ls (by simp;omega) (by simp;omega) fun aA bK bx bd dn cc=>?_;have be:=f1.ext ap;have f113:=be.U cc fun he=>bE (f2.ext ap) be (by decide) he rfl;rw[aF aL.p rfl];refine aY (g:=J) (o:=0) an.i bd.ls.cells.1 bd.ls.cells.2 f113 (by simp) fun au cd dV bf=>?_;have bf:aa au J aL [aA,szv,.int .i64 0,bw]:=bf;intro ay bL _ _;have aU:ad (fun r=>leads aO r∨r=J) aM au:=(cc.mono fun r _ h=>.inl h).trans (cd.mono fun r _ h=>.inr h);have ce:∀ r,(leads aO r∨r=J)→fm g B r:=fun r E=>.inr (E.elim (fun E=>f5 r (.inl E)) fun E=>E▸f7);have cg:ad (fm g B) w au:=(bH.trans (ap.U _)).trans (aU.mono fun r _ E=>ce r E);have dp:ad (fm g B) w ay:=cg.trans (bL.U _);have dq:ak .i64 aj au df szv _:=aZ (f3.ext ap) aU fun r E V=>by
    rcases V with V|rfl
    ·exact f6 r V E
    ·exact bE (f3.ext ap) be (by decide) E rfl
   have dr:ak .i64 aj au bK aA (scope++[n]):=aZ bd cd fun r E he=>by
    have he:r=J:=he;subst he;exact bE bd f113 (by decide) E rfl
   have ds:∀ r,(leads aO r∨r=J)→(∃ c,aa aM r aj c)∨ ∃ c,aa aM r aL c:=fun r E=>by
    rcases E with E|rfl
    ·obtain⟨ae,_⟩:=bp f2 E;obtain⟨_,⟨ac,_⟩|⟨_,cs,ac,ah,_⟩⟩:=f2.ext ap
     ·rw[ac] at E;obtain⟨a,dt,c,ae,aT⟩:=E;cases ae
     ·exact .inl ⟨cs,ae▸ah⟩
    ·exact .inr ⟨_,be⟩
   have dv:ix au bJ bw []:=by
    obtain⟨L,aD,dw,bM⟩:=f4.da (ap.U fun _=>False) fun _ h=>h.elim;have bN:L=[]:=List.map_eq_nil_iff.1 bM;subst bN;refine⟨[],aD.U aU fun r E V=>?_,fun y bO=>(by cases bO),rfl⟩;rcases ds r V with⟨c,ah⟩|⟨c,ah⟩
    ·exact cb aD ah (by decide) E
    ·exact cb aD ah (by decide) E
   have dx:bh au g B H N (some bI):=(ai.ext ap).new aU fun r E=>by
    rcases ce r E with rfl|h
    ·rcases E with E|E
     ·exact f5 _ (.inl E)
     ·exact E▸f7
    ·exact h
   rw[aP aL.p 1 (bf.ext bL) rfl];have dy:all[n.toNat]? =some (all.getD n.toNat 0):=by rw[u4,x4 (by omega)];rfl
   rw[fv (y:=n) (i:=n.toNat) (by omega) an.u aj.i (by kernel_rfl) (b8 dp).ls dy];refine dM an.u aj.i rfl fun dW dX aH dY ch dz=>?_;refine⟨.inl ch,?_⟩;have aG:=bL.trans ch;have f316:=dq.ext aG;have ci:(scope.map fun v=>all.getD v.toNat 0).length=scope.length:=r8 _;refine gb an.u aj.i rfl f316 dz.ls (by simp at ci ⊢;omega) (by simp at ci ⊢;omega) fun bP dA bA bg cj ck=>?_;have bi:=bf.ext aG;have cl:=bi.U ck fun he=>bE f316 bi (by decide) he rfl;rw[aF aL.p rfl];refine aY (g:=J) (o:=1) an.i bg.ls.cells.1 bg.ls.cells.2 cl (by simp) fun az cm dZ aV=>?_;have aV:aa az J aL [aA,bP,.int .i64 0,bw]:=aV;rw[aB];have bj:ad (fun r=>leads szv r∨r=J) aH az:=(ck.mono fun r _ h=>.inl h).trans (cm.mono fun r _ h=>.inr h);have cn:∀ r,(leads szv r∨r=J)→B≤r:=fun r E=>E.elim (fun E=>f5 r (.inr E)) fun E=>E▸f7;have bQ:=dr.ext aG;have ea:=ap.size;have eb:=aU.size;have bT:∀ r,leads aA r→B≤r∧¬leads szv r:=fun r E=>by
    rcases dn r E with h|h
    ·exact⟨f5 r (.inl h),f6 r h⟩
    ·exact⟨by omega,fun bU=>by obtain⟨ae,aT⟩:=bp f3 bU;omega⟩
   have dC:ak .i64 aj az bK aA (scope++[n]):=aZ bQ bj fun r E V=>by
    rcases V with V|rfl
    ·exact (bT r E).2 V
    ·exact bE bQ bi (by decide) E rfl
   have dD:=aZ bg cm fun r E he=>by
    have he:r=J:=he;subst he;exact bE bg cl (by decide) E rfl
   have dE:ix az bJ bw []:=by
    obtain⟨L,aD,dw,bM⟩:=dv.da (aG.U fun _=>False) fun _ h=>h.elim;have bN:L=[]:=List.map_eq_nil_iff.1 bM;subst bN;refine⟨[],aD.U bj fun r E V=>?_,fun y bO=>(by cases bO),rfl⟩;rcases V with V|rfl
    ·obtain⟨ae,_⟩:=bp f316 V;obtain⟨_,⟨ac,_⟩|⟨_,cs,ac,ah,_⟩⟩:=f316
     ·rw[ac] at V;obtain⟨a,dt,c,ae,aT⟩:=V;cases ae
     ·exact cb aD (ae▸ah) (by decide) E
    ·exact cb aD bi (by decide) E
   refine c2 _ ⟨scope++[n],bI,((cg.trans (aG.U _)).trans (bj.mono fun r _ E=>.inr (cn r E))),(dx.ext aG).new bj cn,⟨aA,bP,bw,bK,dA,bJ,aV,dC,by rw[j4];exact dD,dE,fun r E=>?_,fun r E bU=>?_,f7⟩,by rw[u7,b7];rfl,by rw[u7];simp;omega,Y,fun c bV=>?_⟩
   ·rcases E with E|E
    ·exact (bT r E).1
    ·rcases cj r E with h|h
     ·exact f5 r (.inr h)
     ·have:=aG.size;omega
   ·rcases cj r bU with h|h
    ·exact (bT r E).2 h
    ·obtain⟨ae,aT⟩:=bp bQ E;omega
   ·have dF:c=[aA,bP,.int .i64 0,bw]:=by
     unfold aa at bV aV;rw[aV] at bV;have:=(Obj.cells.inj (b9 bV)).1;exact (Array.toList_inj.2 this).symm
    have dG:bw= .slice none 0 0:=by
     obtain⟨ec,ee,ef,_,_,_,b0,_⟩:=a2;have cp:=bB _ b0;have bW:=b0.U bD fun he=>by
      have he:J=g:=he;obtain⟨c4,ae,aT,bad,c6,big,c7,told,sv,ah,_⟩:=gd av;subst he;exact absurd (ed ah b0) (by decide)
     unfold aa at bW f1;rw[f1] at bW;have dH:=Array.toList_inj.2 (Obj.cells.inj (b9 bW)).1;have av:=congrArg (fun l=>l[3]?) dH;simp at av;simp at cp;rw[av,cp]
    rw[dF,dG];rfl
set_option maxHeartbeats 1000000 in
theorem Ja {aa:y0→x1→Prop} (h:ay .i64 w sv l) (h1:∀ z∈l,1≤z) (am:∀ c:Int,(4096<c↔cI l=true)→aa (.int .i64 c) w):
  bO (.int .i64 1) (.int .i64 0) w fun ac X E ao=>
   O x5 (ax .lss ab false false X (.int .i64 (l.length:Int))) E fun ap=>
   Split ap (bX (α:=y0→x1→Prop) (fun(aq:y0) (ad:x1)=>
    O x5 (ax .add ab false true X (.int .i64 1)) ad fun au=>
    ao aq au ad) fun ae=>
   O x5 (j9 an sv X) E fun av=>
   O x5 (x6 aj av) E fun ag=>
   bX (α:=y0→x1→Prop) (fun(aw:y0) (U:x1)=>
    O x5 (ax .mul aj false false ac aw) U fun ah=>
    O x5 (ax .gtr aj false true ah (.int .i64 4096)) U fun aA=>
    Split aA (ae (.int .i64 4097) U)
     (ae ah U)) fun ai=>
   O x5 (ax .gtr aj false true ag (.int .i64 4096)) E fun aD=>
   Split aD (ai (.int .i64 4097) E)
    (ai ag E))
    (aa ac E):=by
 refine bO.range l.length (fun i c aF=>w=aF∧ ∃ p:Int,p=az ((l.take i).map fun k=>min k 4097)∧1≤p∧c= .int .i64 (if 4096<p then 4097 else p)) h.le ⟨rfl,1,by simp[az],by omega,by rw[if_neg (by omega)]⟩ ?_ ?_
 ·rintro i _ _ aG hi ⟨rfl,p,W,aH,rfl⟩ aJ;obtain⟨z,Y⟩:=aE (l:=l) hi;have aL:=h1 z (x2 Y);have e:az ((l.take (i+1)).map fun k=>min k 4097)=p*min z 4097:=by
   rw[W,u5,Y,j5,j4,List.map_cons,List.map_nil,xr]
  have aM:p*1≤p*min z 4097:=Int.mul_le_mul_of_nonneg_left (by omega) (by omega);refine bC (by omega) ?_;refine aI (fun v V=>w=V∧v= .int .i64 (if 4096<p*min z 4097 then 4097 else p*min z 4097)) ?_ ?_
  ·rintro _ _ ⟨rfl,rfl⟩;rw[aB];exact aJ _ _ ⟨rfl,_,e.symm,by omega,rfl⟩
  intro aN Z;rw[a1 an.u aj.i (by kernel_rfl) h Y];refine aI (fun v V=>w=V∧v= .int .i64 (min z 4097)) ?_ ?_
  ·rintro _ _ ⟨rfl,rfl⟩;rw[fV];by_cases ak:4096<p
   ·rw[if_pos ak];have aK:(4097:Int)*1≤4097*min z 4097:=Int.mul_le_mul_of_nonneg_left (by omega) (by omega);rw[wrap_i64 (by omega) (by omega),br,af];refine⟨fun _=>Z _ _ ⟨rfl,by rw[if_pos (by omega)]⟩,fun aO=>by omega⟩
   ·rw[if_neg ak];have aK:p*min z 4097≤4096*4097:=by
     have aP:=Int.mul_le_mul_of_nonneg_right (show p≤4096 by omega) (show 0≤min z 4097 by omega);have aQ:=Int.mul_le_mul_of_nonneg_left (show min z 4097≤4097 by omega) (show (0:Int)≤4096 by omega);omega
    rw[wrap_i64 (by omega) (by omega),br,af];exact⟨fun J=>Z _ _ ⟨rfl,by rw[if_pos J]⟩,fun J=>Z _ _ ⟨rfl,by rw[if_neg J]⟩⟩
  ·intro aR al;rw[br,af];exact⟨fun J=>al _ _ ⟨rfl,by congr 1;omega⟩,fun J=>al _ _ ⟨rfl,by congr 1;omega⟩⟩
 ·rintro _ _ aG ⟨rfl,p,W,aH,rfl⟩;rw[o5] at W;rw[aC,af];refine⟨fun h=>by omega,fun _=>am _ ?_⟩;unfold cI;rw[←W,decide_eq_true_eq];split
  ·exact⟨fun _=>by omega,fun _=>by omega⟩
  ·exact Iff.rfl
set_option maxHeartbeats 2000000 in
theorem Jb {g J:Nat} {H:am} {so:Option aq} {szv:y0} {aL:x1→Prop} (h:bh w g B H N so) (al:ak .i64 aj w gz szv sizes) (be:∀ z∈sizes,1≤z∧z≤ah) (bR:sizes.length≤100001)
  (aG:aa w J bA [.slice none 0 0,.int .i64 0]) (bf:B≤J)
  (aM:∀ t w' W gt,t.length=sizes.length→ad (fun r=>r=g∨r=J∨w.heap.size≤r) w w'→aa w' J bA [W,.int .i64 0]→ak .i64 aj w' gt W t→(∀ r,leads W r→w.heap.size≤r)→bh w' g B H N ((dV sizes [] so).map (·.2))→(∀ q,dV sizes [] so=some q→t=q.1)→aL w'):
  bS (.int .i64 0) w fun aH ac bg=>
      O x5 (ax .lss ab false false aH (.int .i64 (sizes.length:Int))) ac fun bi=>
      Split bi (O x5 (j9 an szv aH) ac fun bj=>
      O x5 (x6 aj bj) ac fun bk=>
      O x5 (ax .sub aj false true bk (.int .i64 1)) ac fun bl=>
      ag x5 jE [.pointer (some ⟨g,0,none⟩),(.int .i64 0),bl] ac fun aN ao=>
      O x5 (c9 aN 0) ao fun bm=>
      O x5 (c9 aN 1) ao fun bT=>
      O x5 (x8 bA (.pointer (some ⟨J,0,none⟩)) 0) ao fun bn=>
      O x5 (x6 an bn) ao fun bo=>
      aw x5 (b6 an 1 #[(0,bm)]) ao fun bq br=>
      aw x5 (l9 #[an,an] an #[bo,bq]) br fun bt aO=>
      O x5 (x8 bA (.pointer (some ⟨J,0,none⟩)) 0) aO fun bu=>
      aw x5 (n0 an bu bt) aO fun(_:Unit) aR=>
      O x5 (ax .add ab false true aH (.int .i64 1)) aR fun bw=>
      bg bw aR)
       (aL ac):=by
 have bU:=aG.lt;have bV:=h.lt;refine bS.range sizes.length (fun j X=>∃ t W gt Y,t.length=j∧ad (fun r=>r=g∨r=J∨w.heap.size≤r) w X∧aa X J bA [W,.int .i64 0]∧ak .i64 aj X gt W t∧(∀ r,leads W r→w.heap.size≤r)∧bh X g B H N Y∧dV sizes [] so=dV (sizes.drop j) t Y) al.ls.le
  ⟨[],_,0,so,rfl,ad.refl _ _,aG,ak.nil _ _ _ _,(fun r E=>by obtain⟨a,n,c,ay,aI⟩:=E;cases ay),h,rfl⟩ ?_ ?_
 rotate_left
 ·rintro X bx ⟨t,W,gt,Y,az,ae,aA,ap,af,au,he⟩;refine cH (by omega) ?_;rw[List.drop_length] at he;cases Y with
  |none=>
   have he:dV sizes [] so=none:=he;exact aM t X W gt az ae aA ap af (by rw[he];exact au) (fun q Z=>by rw[he] at Z;cases Z)
  |some Y=>
   have he:dV sizes [] so=some (t,Y):=he;exact aM t X W gt az ae aA ap af (by rw[he];exact au) (fun q Z=>by rw[he] at Z;cases Z;rfl)
 rintro j X bx aS ⟨t,W,gt,Y,az,ae,aA,ap,af,au,he⟩ bz;obtain⟨z,aJ⟩:=aE (l:=sizes) aS;have bB:=be z (x2 aJ);have bW:z≤4611686018427387904:=bB.2;have bD:ak .i64 aj X gz szv sizes:=aZ al ae fun r E aT=>by
  rcases aT with rfl|rfl|aT
  ·obtain⟨bF,ay,aI,bad,bG,big,bH,told,sv,av,_⟩:=gd h;exact bE al av (by decide) E rfl
  ·exact bE al aG (by decide) E rfl
  ·obtain⟨ay,aI⟩:=bp al E;omega
 refine bC (by omega) ?_;rw[a1 an.u aj.i (by kernel_rfl) bD.ls aJ,dk,wrap_i64 (by omega) (by omega)];refine (iy au).mono ?_;rintro _ V _ ⟨⟨aC,bI⟩,n,at_,rfl,bJ,bX⟩;rw[a8,ba];have bK:J≠g:=by omega
 have aU:=aA.U aC fun he=>bK he;have bL:∃ c,aa X g a6 c:=by obtain⟨bF,ay,aI,bad,bG,big,bH,told,sv,av,_⟩:=gd au;exact⟨_,av⟩
 have aV:ak .i64 aj V gt W t:=aZ ap aC fun r E he=>by
  have he:r=g:=he;obtain⟨c,av⟩:=bL;exact bE ap av (by decide) E he
 rw[aP bA.p 0 aU rfl];refine dM an.u aj.i rfl fun a3 bY bM bZ ai bN=>?_;refine gb an.u aj.i rfl (aV.ext ai) bN.ls (by simp;omega) (by simp;omega) fun aW bO b1 aD bP aX=>?_;have a2:=aU.ext ai;have a7:=a2.U aX fun he=>bE (aV.ext ai) a2 (by decide) he rfl;rw[aF bA.p rfl];refine aY (g:=J) (o:=0) an.i aD.ls.cells.1 aD.ls.cells.2 a7 (by simp) fun bb bc b2 aK=>?_;have aK:aa bb J bA [aW,.int .i64 0]:=aK;rw[aB];have bd:ad (fun r=>leads W r∨r=J) bM bb:=(aX.mono fun r _ h=>.inl h).trans (bc.mono fun r _ h=>.inr h);have b3:=ae.size;have b4:=aC.size;have z3:=ai.size;refine bz _ ⟨t++[n],aW,bO,(aQ 0 (z-1) Y).map (·.2),by simp[az],?_,aK,aZ aD bc fun r E he=>?_,fun r E=>?_,?_,?_⟩
 ·refine (ae.trans (aC.mono fun r _ h=>.inl h)).trans ((ai.U _).trans (bd.mono fun r _ h=>?_));exact h.elim (fun h=>.inr (.inr (af r h))) fun h=>.inr (.inl h)
 ·have he:r=J:=he;subst he;exact bE aD a7 (by decide) E rfl
 ·rcases bP r E with h|h
  ·exact af r h
  ·omega
 ·refine (bI.ext ai).new bd fun r E=>?_;rcases E with E|rfl
  ·have:=af r E;omega
  ·exact bf
 ·rw[he];have bQ:sizes.drop j=z::sizes.drop (j+1):=by rw[Y1 aS,(x3.1 aJ).2]
  rw[bQ,yd];cases Z:aQ 0 (z-1) Y with
  |none=>rfl
  |some q=>
   obtain⟨v,b5⟩:=q;have:=bJ _ Z;subst this;rfl
theorem tu {g:Nat} {t:List Int} {c:Int} (h:ak .i64 aj w g v t):∀ u∈lF ⟨v,t,c⟩,u.oneCell'=true:=by
 intro u hu;simp[lF] at hu;rcases hu with rfl|rfl
 ·exact h.ls.cells.2
 ·rfl
def Jc (sizes:List Int) (cnt i:Nat) (s0:aq) (A:List (List Int×Int)) (so:Option aq):Prop:=(∃ s,so=some s∧bZ (dd sizes) cnt [] s0=bZ (dd sizes) (cnt-i) A s∧A.length+s.toks.length≤100000)∨(so=none∧bZ (dd sizes) cnt [] s0=none)
set_option maxHeartbeats 8000000 in
theorem Jd {g bt bu ay:Nat} {H:am} {s0:aq} {aO szv bw:y0} {scope:List Int} {o n:Int} {a1:List (List Int×Int)} {cj:x1→Prop} (h:bh w g B H N (some s0)) (f1:aa w Y aL [aO,szv,.int .i64 o,bw]) (f2:ak .i64 aj w bt aO scope) (f3:ak .i64 aj w bu szv sizes) (f4:ix w ay bw a1)
  (f5:∀ r,leads aO r∨leads szv r→B≤r) (f6:∀ r,leads aO r→¬leads szv r) (f7:B≤Y) (df:∀ z∈sizes,1≤z∧z≤ah) (dg:sizes.length≤100001) (fb:n≤4611686018427387904) (bO:0<n→a1=[]∧ ∀ r,¬leadsTo bw r) (dh:s0.toks.length≤100000)
  (ck:∀ w' A bQ,ad (fm g B) w w'→fD w' B Y ⟨scope,sizes,o,A⟩→bh w' g B H N bQ→(n≤0→A=a1∧bQ=some s0)→(0<n→bQ=(bZ (dd sizes) n.toNat [] s0).map (·.2)∧ ∀ q,bZ (dd sizes) n.toNat [] s0=some q→A=q.1)→cj w'):
  bS (.int .i64 0) w fun cl aG dj=>
     bX (α:=y0→x1→Prop) (fun(dk:y0) (cm:x1)=>
      Split dk (aw x5 (Instr.alloc bA true (.tuple #[])) cm fun x az=>
     O x5 (x8 aL (.pointer (some ⟨Y,0,none⟩)) 1) az fun dl=>
     O x5 (x6 an dl) az fun cn=>
     O x5 (Y4 #[an] ab #[cn]) az fun dm=>
     bS (.int .i64 0) az fun bR aH dn=>
      O x5 (ax .lss ab false false bR dm) aH fun dp=>
      Split dp (O x5 (j9 an cn bR) aH fun dq=>
      O x5 (x6 aj dq) aH fun dr=>
      O x5 (ax .sub aj false true dr (.int .i64 1)) aH fun ds=>
      ag x5 jE [.pointer (some ⟨g,0,none⟩),(.int .i64 0),ds] aH fun cp a2=>
      O x5 (c9 cp 0) a2 fun dt=>
      O x5 (c9 cp 1) a2 fun fc=>
      O x5 (x8 bA x 0) a2 fun du=>
      O x5 (x6 an du) a2 fun dv=>
      aw x5 (b6 an 1 #[(0,dt)]) a2 fun dw dx=>
      aw x5 (l9 #[an,an] an #[dv,dw]) dx fun dy cq=>
      O x5 (x8 bA x 0) cq fun dz=>
      aw x5 (n0 an dz dy) cq fun(_:Unit) cr=>
      O x5 (ax .add ab false true bR (.int .i64 1)) cr fun dD=>
      dn dD cr)
       (ag x5 jE [.pointer (some ⟨g,0,none⟩),(.int .i64 0),(.int .i64 4611686018427387904)] aH fun ct W=>
     O x5 (c9 ct 0) W fun dE=>
     O x5 (c9 ct 1) W fun dF=>
     O x5 (x8 aL (.pointer (some ⟨Y,0,none⟩)) 3) W fun dG=>
     O x5 (x6 di dG) W fun cu=>
     O x5 (Y4 #[di] ab #[cu]) W fun dH=>
     bS (.int .i64 0) W fun bT Z dI=>
      O x5 (ax .lss ab false false bT dH) Z fun dJ=>
      Split dJ (bX (α:=x1→Prop) (fun(aU:x1)=>
       O x5 (ax .add ab false true bT (.int .i64 1)) aU fun dK=>
       dI dK aU) fun cw=>
      O x5 (j9 di cu bT) Z fun dL=>
      O x5 (x6 bA dL) Z fun dM=>
      aw x5 (Instr.alloc bA true (.tuple #[])) Z fun y cz=>
      aw x5 (n0 bA y dM) cz fun(_:Unit) ac=>
      bX (α:=y0→x1→Prop) (fun(dN:y0) (a7:x1)=>
       Split dN (ag x5 kW [.pointer (some ⟨g,0,none⟩),(.int .i64 4),dF] a7 fun fd cA=>
        cw cA)
        (cw a7)) fun cC=>
      O x5 (bl (.pointer (some ⟨g,0,none⟩))) ac fun dO=>
      O x5 (x8 a6 dO 3) ac fun dP=>
      O x5 (x6 ab dP) ac fun dQ=>
      O x5 (ax .eql ab false true dQ (.int .i64 0)) ac fun dR=>
      Split dR (O x5 (x8 bA x 0) ac fun dS=>
       O x5 (x6 an dS) ac fun dT=>
      O x5 (x8 bA y 0) ac fun dU=>
      O x5 (x6 an dU) ac fun dW=>
      ag x5 ph [dT,dW] ac fun dX cD=>
      cC dX cD)
       (cC (.bool false) ac))
       (O x5 (x8 bA x 1) Z fun dY=>
     aw x5 (n0 aj dY dE) Z fun(_:Unit) aA=>
     O x5 (x8 aL (.pointer (some ⟨Y,0,none⟩)) 3) aA fun dZ=>
     O x5 (x6 di dZ) aA fun ea=>
     O x5 (x6 bA x) aA fun eb=>
     aw x5 (b6 di 1 #[(0,eb)]) aA fun ec bx=>
     aw x5 (l9 #[di,di] di #[ea,ec]) bx fun ed bU=>
     O x5 (x8 aL (.pointer (some ⟨Y,0,none⟩)) 3) bU fun ee=>
     aw x5 (n0 di ee ed) bU fun(_:Unit) aD=>
     O x5 (ax .add aj false true cl (.int .i64 1)) aD fun ef=>
     dj ef aD)))
       (cj cm)) fun cE=>
     O x5 (ax .lss aj false false cl (.int .i64 n)) aG fun eg=>
     Split eg (O x5 (bl (.pointer (some ⟨g,0,none⟩))) aG fun eh=>
     O x5 (x8 a6 eh 3) aG fun ei=>
     O x5 (x6 ab ei) aG fun ej=>
     O x5 (ax .eql ab false true ej (.int .i64 0)) aG fun ek=>
     cE ek aG)
      (cE (.bool false) aG):=by
 have em:=h.lt;refine bS.range n.toNat (fun i J=>∃ A so bw ay,ad (fm g B) w J∧aa J Y aL [aO,szv,.int .i64 o,bw]∧ak .i64 aj J bt aO scope∧ak .i64 aj J bu szv sizes∧ix J ay bw A∧(0<n→ ∀ r,leadsTo bw r→B≤r)∧bh J g B H N so∧(n≤0→A=a1∧so=some s0)∧(0<n→Jc sizes n.toNat i s0 A so)) (by omega)
  ⟨a1,some s0,bw,ay,ad.refl _ _,f1,f2,f3,f4,fun ap r E=>absurd E ((bO ap).2 r),h,fun _=>⟨rfl,rfl⟩,fun ap=>.inl ⟨s0,rfl,by rw[(bO ap).1];rfl,by rw[(bO ap).1];simpa using dh⟩⟩ ?_ ?_
 rotate_left
 ·rintro J k ⟨A,so,bw,ay,bb,aV,bz,bc,bd,bV,aJ,cG,X⟩;refine aI (fun v V=>J=V∧v= .bool false) ?_ ?_
  ·rintro _ _ ⟨rfl,rfl⟩;rw[aR];refine ck J A so bb ⟨aO,szv,bw,bt,bu,ay,aV,bz,bc,bd,f5,f6,f7⟩ aJ cG fun ap=>?_;rcases X ap with⟨s,rfl,he,_⟩|⟨rfl,he⟩
   ·rw[X9] at he;rw[he];exact⟨rfl,fun q ae=>by cases ae;rfl⟩
   ·rw[he];exact⟨rfl,fun q ae=>by cases ae⟩
  ·intro en bW;rw[aC,af];exact⟨fun h=>by omega,fun _=>bW _ _ ⟨rfl,rfl⟩⟩
 rintro i J k hi ⟨A,so,bw,ay,bb,aV,bz,bc,bd,bV,aJ,cG,X⟩ eo;have ap:0<n:=by omega
 refine aI (fun v V=>J=V∧v= .bool so.isSome) ?_ ?_
 rotate_left
 ·intro en bW;refine bC (by omega) ?_;rw[jl aJ];exact bW _ _ ⟨rfl,rfl⟩
 rintro _ _ ⟨rfl,rfl⟩;rcases X ap with⟨be,rfl,he,fe⟩|⟨rfl,he⟩
 rotate_left
 ·rw[Option.isSome_none,aR];refine ck J A none bb ⟨aO,szv,bw,bt,bu,ay,aV,bz,bc,bd,f5,f6,f7⟩ aJ (fun h=>by omega) fun _=>?_;rw[he];exact⟨rfl,fun q ae=>by cases ae⟩
 rw[Option.isSome_some,bq];have fg:=aJ.lt;refine bg bA.i fun ai az fh bf bY=>?_;have bY:aa az ai bA [.slice none 0 0,.int .i64 0]:=bY;have ep:=aV.ext bf;have cI:=bc.ext bf;have fi:=bf.size;have fj:=aV.lt;rw[aF aL.p rfl,av (by kernel_rfl) (ep.cell (o:=0+1) rfl),aK an.u cI.ls];refine Jb (aJ.ext bf) cI df dg bY (by omega) fun t aH bB gt fk er es et eu ev ew=>?_;refine (iy ev).mono ?_;rintro _ W _ ⟨⟨b1,bD⟩,c,at_,rfl,ey,fo⟩;rw[a8,ba];have b2:ai≠g:=by omega
 have cJ:Y≠g:=by have:=h.lt;omega
 have ez:ad (fun r=>r=g∨r=ai∨az.heap.size≤r) az W:=er.trans (b1.mono fun r _ h=>.inl h);have cK:∀ {S:Nat→Prop},(∀ r,S r→r=g∨J.heap.size≤r)→ ∀ r,S r→fC J r∨J.heap.size≤r:=fun eA r E=>(eA r E).imp (fun he=>by
  subst he;obtain⟨cL,bi,bj,bad,cN,big,cO,told,sv,X,_⟩:=gd aJ;exact⟨_,_,X,by decide,by decide⟩) id
 have bF:ad (fun r=>r=g∨J.heap.size≤r) J W:=(bf.U _).trans (ez.mono fun r _ h=>h.elim .inl fun h=>h.elim (fun h=>.inr (by omega)) fun h=>.inr (by omega));have cP:aa W Y aL [aO,szv,.int .i64 o,bw]:=aV.U bF fun h=>h.elim cJ fun h=>by omega
 obtain⟨L,bG,cQ,b3⟩:=bd.da bF (cK fun r E=>E);have cR:aa W ai bA [bB,.int .i64 0]:=es.U b1 fun he=>b2 he;have cS:ak .i64 aj W gt bB t:=aZ et b1 fun r E he=>by
  have he:r=g:=he;have:=eu r E;omega
 have fp:L.length=A.length:=by rw[←b3,r8]
 rw[aP aL.p 3 cP rfl,dA di.u bG];generalize cT:(aQ 0 4611686018427387904 (X3 (fun x=>x.snd) (dV sizes [] (some be)))).map (·.2)=aM at bD;have fq:=bF.size;refine bS.range L.length (fun j Z=>ad (fun r=>r=g) W Z∧bh Z g B H N (if t∈(L.take j).map (·.t) then none else aM)) bG.le ⟨ad.refl _ _,by simpa using bD⟩ ?_ ?_
 ·rintro j Z eB cU ⟨al,bk⟩ eC;obtain⟨y,ao⟩:=aE (l:=L) cU;have b4:∃ c,aa W g a6 c:=by obtain⟨cL,bi,bj,bad,cN,big,cO,told,sv,X,_⟩:=gd bD;exact⟨_,X⟩
  have aN:∀ r,r=g→fC W r∨W.heap.size≤r:=fun r E=>by
   subst E;obtain⟨c,X⟩:=b4;exact .inl ⟨_,c,X,by decide,by decide⟩
  have bH:=ts bG al fun r E=>(aN r E).imp (fun⟨e,c,X,_,bm⟩=>⟨e,c,X,bm⟩) id;obtain⟨fs,eD⟩:=cQ y (x2 ao);have cV:=dC eD al aN;have b5:=dC cS al aN;have bI:=cR.U al fun he=>b2 he;refine bC (by omega) ?_;have b7:t∈(L.take (j+1)).map (·.t)↔t∈(L.take j).map (·.t)∨t=y.t:=by
   rw[u5,ao,j5,j4,p8];simp
  refine cX (fun aU=>ad (fun r=>r=g) W aU∧bh aU g B H N (if t∈(L.take (j+1)).map (·.t) then none else aM)) ?_ ?_
  ·rintro aU eE;rw[aB];exact eC _ eE
  intro ft cW;rw[cM rfl di.u bA.i bH cU,bn bA.p bA.i rfl (bH.range ao)];refine bg bA.i fun aW cz fu eF eH=>?_;refine bP (vs:=lF y) bA.i rfl rfl (tu cV) eH fun ac eI fv eJ=>?_;have bo:Ext Z ac:=eF.put eI (by omega);have cY:=bk.ext bo;have cZ:ad (fun r=>r=g) W ac:=al.trans (bo.U _);refine aI (fun v a7=>∃ b:Bool,v= .bool b∧Ext ac a7∧(b=true→t=y.t)∧(b=false→t≠y.t∨(if t∈(L.take j).map (·.t) then none else aM)=none)) ?_ ?_
  ·rintro _ a7 ⟨b,rfl,b8,eK,eL⟩;have aT:=cY.ext b8;cases b with
   |true=>
    rw[bq];refine (lG aT (by omega)).mono ?_;rintro _ cA _ ⟨eM,eN⟩;refine cW _ ⟨(cZ.trans (b8.U _)).trans eM,?_⟩;rw[if_pos (b7.2 (.inr (eK rfl)))];exact eN
   |false=>
    rw[aR];refine cW _ ⟨cZ.trans (b8.U _),?_⟩;by_cases hm:t∈(L.take j).map (·.t)
    ·rw[if_pos (b7.2 (.inl hm))];rw[if_pos hm] at aT;exact aT
    ·rw[if_neg hm] at aT;rcases eL rfl with bm|c0
     ·rw[if_neg (fun h=>(b7.1 h).elim hm bm)];exact aT
     ·rw[if_neg hm] at c0;rw[c0] at aT ⊢;split <;> exact aT
  ·intro fw c1;rw[jl cY];cases bp:(if t∈(L.take j).map (·.t) then none else aM) with
   |none=>
    rw[Option.isSome_none,aR];exact c1 _ _ ⟨false,rfl,Ext.refl _,(fun h=>by cases h),fun _=>.inr bp⟩
   |some fx=>
    rw[Option.isSome_some,bq];have eO:=bI.ext bo;rw[aP bA.p 0 eO rfl,aP bA.p 0 eJ rfl];refine (tt (b5.ls.ext bo) (cV.ls.ext bo)).mono ?_;rintro _ cD _ ⟨rfl,eP⟩;exact c1 _ _ ⟨_,rfl,eP,fun h=>of_decide_eq_true h,fun h=>.inl (of_decide_eq_false h)⟩
 ·rintro Z eB ⟨al,bk⟩;rw[o5] at bk;have eR:L.map (·.t)=A.map (·.1):=by rw[←b3,List.map_map];rfl
  rw[eR] at bk;have b4:∃ c,aa W g a6 c:=by obtain⟨cL,bi,bj,bad,cN,big,cO,told,sv,X,_⟩:=gd bD;exact⟨_,X⟩
  have aN:∀ r,r=g→fC W r∨W.heap.size≤r:=fun r E=>by
   subst E;obtain⟨c,X⟩:=b4;exact .inl ⟨_,c,X,by decide,by decide⟩
  have c2:∀ r,(r=g∨J.heap.size≤r)→fC J r∨J.heap.size≤r:=cK fun r E=>E;have bJ:ad (fun r=>r=g∨J.heap.size≤r) J Z:=bF.trans (al.mono fun r _ h=>.inl h);have eS:=cP.U al fun he=>cJ he;have eT:=dC bz bJ c2;have eU:=dC bc bJ c2;have bH:=ts bG al fun r E=>(aN r E).imp (fun⟨e,c,X,_,bm⟩=>⟨e,c,X,bm⟩) id;have eV:∀ y∈L,∃ aW,ak .i64 aj Z aW y.v y.t:=fun y ao=>by
   obtain⟨aW,hm⟩:=cQ y ao;exact⟨aW,dC hm al aN⟩
  have b5:=dC cS al aN;have bI:=cR.U al fun he=>b2 he;refine cH (by omega) ?_;rw[aF bA.p rfl];refine aY (g:=ai) (o:=1) aj.i rfl rfl bI (by simp) fun aA aX fy b9=>?_;have b9:aa aA ai bA [bB,.int .i64 c]:=b9;have eW:Y≠ai:=by omega
  have c4:=eS.U aX fun he=>eW he;have fz:J.heap.size≤ai:=by omega
  have eX:∀ r,leadsTo bw r→r≠ai:=fun r E=>by obtain⟨bi,bj⟩:=bd.choose_spec.1.leads E;omega
  have eY:=bH.U aX fun r E he=>eX r E he;rw[aP aL.p 3 c4 rfl,bn bA.p bA.i rfl b9.range];let a:tr:=⟨bB,t,c⟩;have bK:∀ {v:y0} {br:Nat} {l:List Int},ak .i64 aj Z br v l→ak .i64 aj aA br v l:=fun hm=>aZ hm aX fun r E he=>by
   have he:r=ai:=he;exact bE hm bI (by decide) E he
  have c5:=bK b5;refine eQ (f:=lF) (a:=a) di.u bA.i (by omega) rfl rfl fun v45 fA bx fB au eZ=>?_;have ca:=eY.ext au;refine ff (f:=lF) (a:=a) di.u bA.i rfl ca (by simpa using eZ.sl) (tu (c5.ext au)) (by omega) (by omega) fun cc c6 bU bL e0 c7=>?_;have cd:=c4.ext au;have c8:=cd.U c7 fun he=>cb ca cd (by decide) he;rw[aF aL.p rfl];refine aY (g:=Y) (o:=3) di.i (cF bL.sl).1 (cF bL.sl).2 c8 (by simp) fun aD db fE ce=>?_;have ce:aa aD Y aL [aO,szv,.int .i64 o,cc]:=ce;rw[aB];have cg:ad (fun r=>leadsTo bw r∨r=Y) bx aD:=(c7.mono fun r _ h=>.inl h).trans (db.mono fun r _ h=>.inr h);have bM:∀ {v:y0} {br:Nat} {l:List Int},ak .i64 aj bx br v l→ak .i64 aj aD br v l:=fun hm=>aZ hm cg fun r E ch=>by
   rcases ch with ch|rfl
   ·obtain⟨rfl,fF,X⟩:=c3 ca ch;exact bE hm X (by decide) E rfl
   ·exact bE hm cd (by decide) E rfl
  have dc:∀ r,(leadsTo bw r∨r=Y)→B≤r:=fun r E=>E.elim (fun E=>bV ap r E) fun E=>E▸f7;have e1:bh aA g B H N (if t∈A.map (·.1) then none else aM):=bk.new aX fun r E=>by
   have E:r=ai:=E;omega
  have e2:=(e1.ext au).new cg dc;have e3:ad (fm g B) J aD:=((bJ.mono fun r _ h=>h.elim .inl fun h=>.inr (by omega)).trans (aX.mono fun r _ h=>.inr (by have h:r=ai:=h;omega))).trans ((au.U _).trans (cg.mono fun r _ h=>.inr (dc r h)));have e4:ix aD c6 cc (A++[(t,c)]):=⟨L++[a],bL.U db fun r E he=>by
   have he:r=Y:=he;subst he;exact cb bL c8 (by decide) E,fun y ao=>by
   rcases p8.1 ao with ao|ao
   ·obtain⟨aW,hm⟩:=eV y ao;exact⟨aW,bM ((bK hm).ext au)⟩
   ·rw[p9.1 ao];exact⟨gt,bM (c5.ext au)⟩,by rw[j4,b3];rfl⟩
  refine eo _ ⟨A++[(t,c)],_,cc,c6,bb.trans e3,ce,bM ((bK eT).ext au),bM ((bK eU).ext au),e4,fun _ r E=>?_,e2,fun h=>by omega,fun _=>?_⟩
  ·rcases e0 r E with h|h
   ·exact bV ap r h
   ·have:=bb.size;have:=bJ.size;have:=aX.size;have:=au.size;have:=em.2;omega
  ·have e5:n.toNat-i=(n.toNat-(i+1))+1:=by omega
   rw[e5] at he;obtain⟨e6,e7⟩:=yh (sizes:=sizes) (acc:=A) (st:=be) (t:=t) (c:=c) ew ey;cases ae:aQ 0 ah ((dV sizes [] (some be)).map (·.2)) with
   |none=>
    have bp:aM=none:=by rw[←cT];show (aQ 0 ah _).map _=none;rw[ae];rfl
    rw[mw (e6 ae)] at he;refine .inr ⟨?_,he⟩;rw[bp];split <;> rfl
   |some q=>
    have bp:aM=some q.2:=by rw[←cT];show (aQ 0 ah _).map _=_;rw[ae];rfl
    have bN:=e7 q ae;by_cases hm:t∈A.map (·.1)
    ·rw[if_pos hm] at bN;rw[mw bN] at he;exact .inr ⟨by rw[if_pos hm],he⟩
    ·rw[if_neg hm] at bN;rw[p3 bN] at he;refine .inl ⟨q.2,by rw[if_neg hm,bp],he,?_⟩;cases ci:dV sizes [] (some be) with
     |none=>rw[ci] at ae;cases ae
     |some p=>
      rw[ci] at ae;obtain⟨e8,de⟩:=p;have bi:gK sizes [] be=some (e8,de):=ci;obtain⟨u,_,_,e9⟩:=ss bi;have bj:aS 0 ah de=some q:=ae;obtain⟨fG,fH⟩:=q;have fa:=cB bj;have:=e9.1;have:=fa.1;rw[u7];simp only[V5];omega
def h3 (s:aq):Prop:=s.big=false→0≤s.told∧s.told≤16384
def h4 (neg:Bool) (ar:Nat) (scope sizes:List Int) (J:Option aq):Option (bG×aq):=match aQ 0 ah (J.map (aM (decide (6<ar)||cI sizes))) with
 |none=>none
 |some (other,O)=>match cR sizes O with
  |none=>none
  |some (lines,E)=>some (⟨scope,sizes,other,lines⟩,if neg=true then {E with shared:=E.shared++[(sizes,lines)]} else E)
theorem zC {s s':aq} {l:List (List Int×Int)} (h:cR sizes s=some (l,s')):s'.toks.length+1≤s.toks.length∧s'.shared=s.shared:=by
 unfold cR at h;cases J:aS (-ah) ah s with
 |none=>rw[J] at h;cases h
 |some q=>
  obtain⟨n,E⟩:=q;have U:=cB J;have Z:=U.1;have V:=U.eqs.2.2;rw[J] at h;simp only at h;split at h
  ·split at h
   ·cases h
   ·split at h
    ·cases h;exact⟨by omega,V⟩
    ·cases h
  ·have h':bZ (dd sizes) n.toNat [] (aM (decide (16384<min (E.told+n) ah)) {E with told:=min (E.told+n) ah})=some (l,s'):=h;have:=gM (f:=dd sizes) (fun _ t=>t.toks.length≤E.toks.length∧t.shared=E.shared) (fun acc t a aa W Y=>by
    obtain⟨_,_,_,X⟩:=lj Y;have h1:=X.1;have O:=X.eqs.2.2;exact⟨by have:=W.1;omega,O.trans W.2⟩) n.toNat [] (aM (decide (16384<min (E.told+n) ah)) {E with told:=min (E.told+n) ah}) l s' ⟨r9 _,rfl⟩ h'
   obtain⟨⟨h1,O⟩,_⟩:=this;exact⟨by omega,O.trans V⟩
theorem qJ {g:Nat} {H:am} {s:aq} (h:bh w g B H N (some s)):s.toks.length≤100000∧s.shared.length+s.toks.length≤100000:=by
 obtain⟨U,w0,V,W,gs,sv,L,X,Y,Z,bad,aa,big,ab,told,h1,ac,ad,ae,J,af,ag,ah,ai,aj,ak,E,al,O,an⟩:=h;have ao:=J.2.2.1;refine⟨by rw[←E,r8];omega,by rw[←E,←O,r8,r8];omega⟩
def zD (w:x1) (g U B:Nat) (H:am) (J:Option (bG×aq)) (v:y0) (w':x1):Prop:=∃ O x E,ad (fun r=>r=g∨H r∨r=U∨B≤r) w w'∧v= .agg (dQ O).toArray∧fl w' O x∧bh w' g w'.heap.size E 100001 (J.map (·.2))∧(∀ q,J=some q→x=q.1)∧(∀ r,H r→E r)∧(∀ r,E r→H r∨B≤r)∧ ∀ r,E r→r<w'.heap.size
set_option maxHeartbeats 16000000 in
theorem zE {g W ac ar:Nat} {H:am} {al:Option aq} {neg:Bool} {ee:Int} {scope:List Int} {Q:y0→x1→Prop}
  (h:bh w g B H 100000 al) (ef:fD w B W ⟨scope,sizes,0,[]⟩) (fL:∀ c,aa w W aL c→c[3]? =some (.slice none 0 0)) (eg:∀ z∈sizes,1≤z∧z≤ah) (fM:sizes.length≤100001) (eh:aa w ac aL [.slice none 0 0,.slice none 0 0,.int .i64 0,.slice none 0 0]) (jP:ac<B) (c0:¬H ac) (c1:∀ r,H r→r<B) (fN:∀ aV,al=some aV→h3 aV)
  (fO:∀ v w',zD w g ac B H (h4 neg ar scope sizes al) v w'→Q v w'):
  O x5 (x8 aL (.pointer (some ⟨W,0,none⟩)) 1) w fun fP=>
  O x5 (x6 an fP) w fun ei=>
  O x5 (Y4 #[an] ab #[ei]) w fun fQ=>
  bO (.int .i64 1) (.int .i64 0) w fun ej dr a7 fR=>
   O x5 (ax .lss ab false false dr fQ) a7 fun fS=>
   Split fS (bX (α:=y0→x1→Prop) (fun(fT:y0) (ek:x1)=>
    O x5 (ax .add ab false true dr (.int .i64 1)) ek fun fU=>
    fR fT fU ek) fun em=>
   O x5 (j9 an ei dr) a7 fun fV=>
   O x5 (x6 aj fV) a7 fun en=>
   bX (α:=y0→x1→Prop) (fun(fX:y0) (c2:x1)=>
    O x5 (ax .mul aj false false ej fX) c2 fun eo=>
    O x5 (ax .gtr aj false true eo (.int .i64 4096)) c2 fun fY=>
    Split fY (em (.int .i64 4097) c2)
     (em eo c2)) fun ep=>
   O x5 (ax .gtr aj false true en (.int .i64 4096)) a7 fun fZ=>
   Split fZ (ep (.int .i64 4097) a7)
    (ep en a7))
    (bX (α:=x1→Prop) (fun(cj:x1)=>
   ag x5 jE [(.pointer (some ⟨g,0,none⟩)),(.int .i64 0),(.int .i64 4611686018427387904)] cj fun er b1=>
   O x5 (c9 er 0) b1 fun ga=>
   O x5 (c9 er 1) b1 fun jQ=>
   O x5 (x8 aL (.pointer (some ⟨W,0,none⟩)) 2) b1 fun gb=>
   aw x5 (n0 aj gb ga) b1 fun(_:Unit) bD=>
   ag x5 jE [(.pointer (some ⟨g,0,none⟩)),(.int .i64 (-4611686018427387904)),(.int .i64 4611686018427387904)] bD fun es ae=>
   O x5 (c9 es 0) ae fun b2=>
   O x5 (c9 es 1) ae fun et=>
   O x5 (bl (.pointer (some ⟨g,0,none⟩))) ae fun gc=>
   O x5 (x8 a6 gc 3) ae fun ge=>
   O x5 (x6 ab ge) ae fun gf=>
   O x5 (ax .neq ab false true gf (.int .i64 0)) ae fun gg=>
   Split gg (O x5 (x6 aL (.pointer (some ⟨W,0,none⟩))) ae fun ck=>
    aw x5 (n0 aL (.pointer (some ⟨ac,0,none⟩)) ck) ae fun(_:Unit) bE=>
    O x5 (do loadVar aL (←asAddr (.pointer (some ⟨ac,0,none⟩)))) bE fun cl=>
 Q cl bE)
    (bX (α:=x1→Prop) (fun(bi:x1)=>
    bS (.int .i64 0) bi fun eu bM gh=>
     bX (α:=y0→x1→Prop) (fun(gi:y0) (cm:x1)=>
      Split gi (aw x5 (Instr.alloc bA true (.tuple #[])) cm fun x c4=>
     O x5 (x8 aL (.pointer (some ⟨W,0,none⟩)) 1) c4 fun gj=>
     O x5 (x6 an gj) c4 fun ev=>
     O x5 (Y4 #[an] ab #[ev]) c4 fun gk=>
     bS (.int .i64 0) c4 fun dt b3 gl=>
      O x5 (ax .lss ab false false dt gk) b3 fun gm=>
      Split gm (O x5 (j9 an ev dt) b3 fun gn=>
      O x5 (x6 aj gn) b3 fun gp=>
      O x5 (ax .sub aj false true gp (.int .i64 1)) b3 fun gq=>
      ag x5 jE [(.pointer (some ⟨g,0,none⟩)),(.int .i64 0),gq] b3 fun ew cn=>
      O x5 (c9 ew 0) cn fun gu=>
      O x5 (c9 ew 1) cn fun jR=>
      O x5 (x8 bA x 0) cn fun gv=>
      O x5 (x6 an gv) cn fun gw=>
      aw x5 (b6 an 1 #[(0,gu)]) cn fun gx gy=>
      aw x5 (l9 #[an,an] an #[gw,gx]) gy fun gA ey=>
      O x5 (x8 bA x 0) ey fun gB=>
      aw x5 (n0 an gB gA) ey fun(_:Unit) ez=>
      O x5 (ax .add ab false true dt (.int .i64 1)) ez fun gC=>
      gl gC ez)
       (ag x5 jE [(.pointer (some ⟨g,0,none⟩)),(.int .i64 0),(.int .i64 4611686018427387904)] b3 fun eA b4=>
     O x5 (c9 eA 0) b4 fun gD=>
     O x5 (c9 eA 1) b4 fun gE=>
     O x5 (x8 aL (.pointer (some ⟨W,0,none⟩)) 3) b4 fun gF=>
     O x5 (x6 di gF) b4 fun eB=>
     O x5 (Y4 #[di] ab #[eB]) b4 fun gH=>
     bS (.int .i64 0) b4 fun dv b5 gI=>
      O x5 (ax .lss ab false false dv gH) b5 fun gJ=>
      Split gJ (bX (α:=x1→Prop) (fun(eC:x1)=>
       O x5 (ax .add ab false true dv (.int .i64 1)) eC fun gK=>
       gI gK eC) fun eD=>
      O x5 (j9 di eB dv) b5 fun gL=>
      O x5 (x6 bA gL) b5 fun gM=>
      aw x5 (Instr.alloc bA true (.tuple #[])) b5 fun y gN=>
      aw x5 (n0 bA y gM) gN fun(_:Unit) bb=>
      bX (α:=y0→x1→Prop) (fun(gO:y0) (eE:x1)=>
       Split gO (ag x5 kW [(.pointer (some ⟨g,0,none⟩)),(.int .i64 4),gE] eE fun jS gP=>
        eD gP)
        (eD eE)) fun eF=>
      O x5 (bl (.pointer (some ⟨g,0,none⟩))) bb fun gQ=>
      O x5 (x8 a6 gQ 3) bb fun gR=>
      O x5 (x6 ab gR) bb fun gS=>
      O x5 (ax .eql ab false true gS (.int .i64 0)) bb fun gU=>
      Split gU (O x5 (x8 bA x 0) bb fun gV=>
       O x5 (x6 an gV) bb fun gW=>
      O x5 (x8 bA y 0) bb fun gX=>
      O x5 (x6 an gX) bb fun gY=>
      ag x5 ph [gW,gY] bb fun g0 g1=>
      eF g0 g1)
       (eF (.bool false) bb))
       (O x5 (x8 bA x 1) b5 fun g2=>
     aw x5 (n0 aj g2 gD) b5 fun(_:Unit) c6=>
     O x5 (x8 aL (.pointer (some ⟨W,0,none⟩)) 3) c6 fun g3=>
     O x5 (x6 di g3) c6 fun g4=>
     O x5 (x6 bA x) c6 fun g5=>
     aw x5 (b6 di 1 #[(0,g5)]) c6 fun g6 g7=>
     aw x5 (l9 #[di,di] di #[g4,g6]) g7 fun g8 eH=>
     O x5 (x8 aL (.pointer (some ⟨W,0,none⟩)) 3) eH fun g9=>
     aw x5 (n0 di g9 g8) eH fun(_:Unit) eI=>
     O x5 (ax .add aj false true eu (.int .i64 1)) eI fun ha=>
     gh ha eI)))
       (bX (α:=x1→Prop) (fun(aJ:x1)=>
     O x5 (x6 aL (.pointer (some ⟨W,0,none⟩))) aJ fun hb=>
     aw x5 (n0 aL (.pointer (some ⟨ac,0,none⟩)) hb) aJ fun(_:Unit) eJ=>
     O x5 (do loadVar aL (←asAddr (.pointer (some ⟨ac,0,none⟩)))) eJ fun hc=>
 Q hc eJ) fun eK=>
    Split (.bool neg) (du cm fun aW=>
     O x5 (bl (.pointer (some ⟨g,0,none⟩))) aW fun dw=>
     O x5 (x8 a6 dw 8) aW fun dx=>
     O x5 (x6 cP dx) aW fun eL=>
     O x5 (x6 aL (.pointer (some ⟨W,0,none⟩))) aW fun hd=>
     aw x5 (b6 cP 1 #[(0,hd)]) aW fun hg bj=>
     (Ext aW bj∨bR x5 (x6 cP dx) eL bj∧bR x5 (x8 a6 dw 8) dx bj∧bR x5 (bl (.pointer (some ⟨g,0,none⟩))) dw bj∧True)∧
     aw x5 (l9 #[cP,cP] cP #[eL,hg]) bj fun hh c7=>
      O x5 (bl (.pointer (some ⟨g,0,none⟩))) c7 fun hj=>
      O x5 (x8 a6 hj 8) c7 fun hk=>
      aw x5 (n0 cP hk hh) c7 fun(_:Unit) bN=>
      eK bN)
     (eK cm))) fun eM=>
     O x5 (ax .lss aj false false eu b2) bM fun hl=>
     Split hl (O x5 (bl (.pointer (some ⟨g,0,none⟩))) bM fun hn=>
     O x5 (x8 a6 hn 3) bM fun ho=>
     O x5 (x6 ab ho) bM fun hp=>
     O x5 (ax .eql ab false true hp (.int .i64 0)) bM fun hq=>
     eM hq bM)
      (eM (.bool false) bM)) fun eN=>
   O x5 (ax .lss aj false true b2 (.int .i64 0)) ae fun hr=>
   Split hr (bX (α:=y0→x1→Prop) (fun(hs:y0) (ay:x1)=>
     Split hs (ag x5 kW [(.pointer (some ⟨g,0,none⟩)),(.int .i64 4),et] ay fun jT dy=>
     O x5 (x6 aL (.pointer (some ⟨W,0,none⟩))) dy fun ht=>
     aw x5 (n0 aL (.pointer (some ⟨ac,0,none⟩)) ht) dy fun(_:Unit) eP=>
     O x5 (do loadVar aL (←asAddr (.pointer (some ⟨ac,0,none⟩)))) eP fun hy=>
 Q hy eP)
     (O x5 (bl (.pointer (some ⟨g,0,none⟩))) ay fun hz=>
    O x5 (x8 a6 hz 8) ay fun hA=>
    O x5 (x6 cP hA) ay fun hB=>
    O x5 (Op.unary .neg b2) ay fun hC=>
    O x5 (ax .sub aj false true hC (.int .i64 1)) ay fun hD=>
    O x5 (j9 cP hB hD) ay fun hE=>
    O x5 (x8 aL hE 3) ay fun hF=>
    O x5 (x6 di hF) ay fun hG=>
    O x5 (x8 aL (.pointer (some ⟨W,0,none⟩)) 3) ay fun hH=>
    aw x5 (n0 di hH hG) ay fun(_:Unit) eR=>
    eN eR)) fun eS=>
    du ae fun ai=>
    O x5 (Op.unary .neg b2) ai fun hI=>
    O x5 (bl (.pointer (some ⟨g,0,none⟩))) ai fun hJ=>
    O x5 (x8 a6 hJ 8) ai fun hK=>
    O x5 (x6 cP hK) ai fun hL=>
    O x5 (Y4 #[cP] ab #[hL]) ai fun hM=>
    O x5 (ax .gtr aj false false hI hM) ai fun hN=>
    Split hN (eS (.bool true) ai)
    (O x5 (bl (.pointer (some ⟨g,0,none⟩))) ai fun hO=>
    O x5 (x8 a6 hO 8) ai fun hP=>
    O x5 (x6 cP hP) ai fun hQ=>
    O x5 (Op.unary .neg b2) ai fun hR=>
    O x5 (ax .sub aj false true hR (.int .i64 1)) ai fun hS=>
    O x5 (j9 cP hQ hS) ai fun hT=>
    O x5 (x8 aL hT 1) ai fun hU=>
    O x5 (x6 an hU) ai fun hV=>
    O x5 (x8 aL (.pointer (some ⟨W,0,none⟩)) 1) ai fun hW=>
    O x5 (x6 an hW) ai fun hX=>
    ag x5 ph [hV,hX] ai fun hY dz=>
    O x5 (Op.unary .not hY) dz fun hZ=>
    eS hZ dz))
    (O x5 (bl (.pointer (some ⟨g,0,none⟩))) ae fun h0=>
    O x5 (x8 a6 h0 7) ae fun h2=>
    O x5 (x6 aj h2) ae fun h5=>
    O x5 (ax .add aj false false h5 b2) ae fun h6=>
    O x5 (bl (.pointer (some ⟨g,0,none⟩))) ae fun h7=>
    O x5 (x8 a6 h7 7) ae fun h8=>
    aw x5 (n0 aj h8 h6) ae fun(_:Unit) bc=>
    bX (α:=x1→Prop) (fun(bd:x1)=>
     O x5 (bl (.pointer (some ⟨g,0,none⟩))) bd fun h9=>
     O x5 (x8 a6 h9 7) bd fun ia=>
     O x5 (x6 aj ia) bd fun ib=>
     O x5 (ax .gtr aj false true ib (.int .i64 16384)) bd fun ic=>
     ag x5 pg [(.pointer (some ⟨g,0,none⟩)),ic,et] bd fun jU dD=>
     eN dD) fun eT=>
    O x5 (bl (.pointer (some ⟨g,0,none⟩))) bc fun ie=>
    O x5 (x8 a6 ie 7) bc fun ig=>
    O x5 (x6 aj ig) bc fun ih=>
    O x5 (ax .gtr aj false true ih (.int .i64 4611686018427387904)) bc fun ii=>
    Split ii (O x5 (bl (.pointer (some ⟨g,0,none⟩))) bc fun ij=>
    O x5 (x8 a6 ij 7) bc fun ik=>
    aw x5 (n0 aj ik (.int .i64 4611686018427387904)) bc fun(_:Unit) eU=>
    eT eU)
    (eT bc)))) fun eV=>
  O x5 (ax .gtr aj false true (.int .i64 (ar:Int)) (.int .i64 6)) a7 fun il=>
  Split il (ag x5 pg [(.pointer (some ⟨g,0,none⟩)),(.bool true),(.int .i64 ee)] a7 fun jV im=>
  eV im)
   (O x5 (ax .gtr aj false true ej (.int .i64 4096)) a7 fun io=>
  ag x5 pg [(.pointer (some ⟨g,0,none⟩)),io,(.int .i64 ee)] a7 fun jW ip=>
  eV ip)):=by
 have iq:=h.lt;have eW:ac≠g:=fun he=>by
  obtain⟨aX,aA,aG,bad,aZ,big,a1,told,sv,V,_⟩:=gd h;subst he;exact absurd (ed V eh) (by decide)
 obtain⟨aO,szv,bw,db,dc,de,f1,f2,f3,f4,f5,f6,f7⟩:=id ef;have cp:W≠g:=by omega
 have ret:∀ {X:x1} {x:bG} {ao:am},fD X B W x→aa X ac aL [.slice none 0 0,.slice none 0 0,.int .i64 0,.slice none 0 0]→ad (fun r=>r=g∨H r∨B≤r) w X→bh X g X.heap.size ao 100001 ((h4 neg ar scope sizes al).map (·.2))→(∀ q,h4 neg ar scope sizes al=some q→x=q.1)→¬ao ac→(∀ r,H r→ao r)→(∀ r,ao r→H r∨B≤r)→(∀ r,ao r→r<X.heap.size)→
   (O x5 (x6 aL (.pointer (some ⟨W,0,none⟩))) X fun ck=>
    aw x5 (n0 aL (.pointer (some ⟨ac,0,none⟩)) ck) X fun(_:Unit) bE=>
    O x5 (do loadVar aL (←asAddr (.pointer (some ⟨ac,0,none⟩)))) bE fun cl=>Q cl bE):=by
  intro X x ao dE dF ir it J iu dG iv iw;obtain⟨aO,szv,bw,db,dc,de,dH,dI,dJ,dK,dL,eX,eY⟩:=dE;let aH:gZ:=⟨aO,szv,x.other,bw⟩;have cq:fl X aH x:=⟨⟨db,dI⟩,⟨dc,dJ⟩,rfl,de,dK⟩;rw[bn aL.p aL.i rfl (show X.rangeAt W 0 (dQ aH) from dH.range)];refine bP (vs:=dQ aH) aL.i rfl rfl cq.one dF fun jX dM iA iB=>?_;rw[eO aL.p aL.i rfl iB.range];have iC:∀ r,r=ac→fC X r∨X.heap.size≤r:=fun r E=>by subst E;exact .inl ⟨_,_,dF,by decide,by decide⟩
  refine fO _ _ ⟨aH,x,ao,(ir.mono fun r _ h=>?_).trans (dM.mono fun r _ h=>.inr (.inr (.inl h))),rfl,cq.da dM iC,it.da dM fun r E=>.inl ?_,J,dG,iv,fun r E=>by rw[iA];exact iw r E⟩
  ·exact h.elim .inl fun h=>h.elim (fun h=>.inr (.inl h)) fun h=>.inr (.inr (.inr h))
  ·have E:r=ac:=E;subst E;exact⟨_,_,dF,by decide,by decide,by decide,by decide,iu⟩
 have dN:∀ {X:x1},ad (fm g B) w X→aa X ac aL [.slice none 0 0,.slice none 0 0,.int .i64 0,.slice none 0 0]:=fun bk=>eh.U bk fun bm=>bm.elim eW fun h=>by omega
 have dO:∀ {X:x1},ad (fm g B) w X→ad (fun r=>r=g∨H r∨B≤r) w X:=fun bk=>bk.mono fun r _ h=>h.elim .inl fun h=>.inr (.inr h);have eZ:∀ {X:x1} {e0:Nat} {ao:am} {so:Option aq},bh X g e0 ao 100000 so→bh X g e0 ao 100001 so:=fun E=>by
  obtain⟨cr,w0,aX,bF,gs,sv,L,a2,aA,aG,bad,aZ,big,a1,told,h1,iD,iE,iF,iG,dP,dR⟩:=E;refine⟨by omega,w0,aX,bF,gs,sv,L,a2,aA,aG,bad,aZ,big,a1,told,h1,iD,iE,iF,iG,dP,?_⟩;rename_i so;cases so with
  |none=>exact⟨dR.1,by have:=dR.2;omega⟩
  |some s=>exact dR
 have e1:∀ {X:x1} {x:bG},fD X B W x→ad (fm g B) w X→bh X g B H 100000 none→h4 neg ar scope sizes al=none→(O x5 (x6 aL (.pointer (some ⟨W,0,none⟩))) X fun ck=>
    aw x5 (n0 aL (.pointer (some ⟨ac,0,none⟩)) ck) X fun(_:Unit) bE=>
    O x5 (do loadVar aL (←asAddr (.pointer (some ⟨ac,0,none⟩)))) bE fun cl=>Q cl bE):=fun dE bk E e2=>
  ret dE (dN bk) (dO bk) (by rw[e2];exact eZ E.base) (fun q ap=>by rw[e2] at ap;cases ap) c0 (fun _ h=>h) (fun _ h=>.inl h) fun r E=>by have:=c1 r E;have:=bk.size;omega
 rw[aP aL.p 1 f1 rfl,aK an.u f3.ls];refine Ja f3.ls (fun z iH=>(eg z iH).1) fun c bk=>?_;refine cX (fun cj=>ad (fun r=>r=g) w cj∧bh cj g B H 100000 (al.map (aM (decide (6<ar)||cI sizes)))) ?_ ?_
 rotate_left
 ·intro dS bo;rw[br,af];refine⟨fun dP=>?_,fun dP=>?_⟩
  ·refine (kD h).mono ?_;rintro _ iI _ bp;refine bo _ ⟨bp.1,?_⟩;rw[decide_eq_true (show 6<ar by omega),Bool.true_or];exact bp.2
  ·rw[br];refine (kD h).mono ?_;rintro _ iI _ bp;refine bo _ ⟨bp.1,?_⟩;have e:cI sizes=decide (4096<c):=by rw[X8,decide_eq_true_eq];exact bk.symm
   rw[decide_eq_false (show ¬6<ar by omega),Bool.false_or,e];exact bp.2
 rintro cj ⟨iJ,iK⟩;refine (iy iK).mono ?_;rintro _ b1 _ ⟨⟨iL,iM⟩,o,jY,rfl,iN,jZ⟩;rw[a8,ba];have b7:ad (fun r=>r=g) w b1:=iJ.trans iL;have j1:=ef.da b7 (iz h);have f123:=f1.U b7 fun he=>cp he;rw[aF aL.p rfl];refine aY (g:=W) (o:=2) aj.i rfl rfl f123 (by simp) fun bD ct j2 b8=>?_;have b8:aa bD W aL [aO,szv,.int .i64 o,bw]:=b8;have dT:∀ r,r=g→fC w r∨w.heap.size≤r:=fun r E=>(iz h r E).imp (fun⟨e,c,V,bt,bu,_⟩=>⟨e,c,V,bt,bu⟩) id;have ca:∀ {X:x1} {c:List y0},aa X W aL c→ ∀ r,r=W→fC X r∨X.heap.size≤r:=fun V r E=>by subst E;exact .inl ⟨_,_,V,by decide,by decide⟩
 have f224:=dC (dC f2 b7 dT) ct (ca f123);have f324:=dC (dC f3 b7 dT) ct (ca f123);have e3:=(f4.da b7 dT).da ct (ca f123);have cc:=iM.new ct fun r E=>by have E:r=W:=E;omega
 have e4:ad (fm g B) w bD:=(b7.mono fun r _ h=>.inl h).trans (ct.mono fun r _ h=>.inr (by have h:r=W:=h;omega));refine (iy cc).mono ?_;rintro _ ae _ ⟨⟨bH,bx⟩,n,j3,rfl,iO,e5⟩;rw[a8,ba,oq bx];have e6:ad (fm g B) w ae:=e4.trans (bH.mono fun r _ h=>.inl h);have iP:fD bD B W ⟨scope,sizes,o,[]⟩:=⟨aO,szv,bw,db,dc,de,b8,f224,f324,e3,f5,f6,f7⟩;have e7:=iP.da bH (iz cc);cases bz:aQ (-4611686018427387904) 4611686018427387904 (X3 (fun x=>x.snd) (aQ 0 4611686018427387904 (al.map (aM (decide (6<ar)||cI sizes))))) with
 |none=>
  rw[bz] at bx;rw[Option.map_none,Option.isSome_none,Y9,bq];refine e1 e7 e6 bx ?_;unfold h4;cases au:aQ 0 ah (al.map (aM (decide (6<ar)||cI sizes))) with
  |none=>rfl
  |some p=>
   obtain⟨o',Z⟩:=p;have iQ:aQ 0 4611686018427387904 (al.map (aM (decide (6<ar)||cI sizes)))=some (o',Z):=au;rw[iQ] at bz;have e:aS (-ah) ah Z=none:=bz;simp only;unfold cR;rw[e]
 |some q=>
 obtain⟨j5,Y⟩:=q;have iR:=iO _ bz;subst iR;rw[bz] at bx;have bx:bh ae g B H 100000 (some Y):=bx;rw[c5,Option.isSome_some,Y0,aR];obtain⟨Z,au,dU⟩:∃ Z,aQ 0 ah (al.map (aM (decide (6<ar)||cI sizes)))=some (o,Z)∧aS (-ah) ah Z=some (n,Y):=by
  cases au:aQ 0 4611686018427387904 (al.map (aM (decide (6<ar)||cI sizes))) with
  |none=>rw[au] at bz;cases bz
  |some p=>
   obtain⟨o',Z⟩:=p;have:=iN _ au;subst this;rw[au] at bz;exact⟨Z,au,bz⟩
 have cu:h4 neg ar scope sizes al=match cR sizes Z with
   |none=>none
   |some (lines,Y)=>some (⟨scope,sizes,o,lines⟩,if neg=true then {Y with shared:=Y.shared++[(sizes,lines)]} else Y):=by
  unfold h4;rw[au]
 have iS:=(fW dU).1;have iT: -4611686018427387904≤n∧n≤4611686018427387904:=iS;have e8:cR sizes Z=(if n<0 then match Y.shared[(-n-1).toNat]? with
   |none=>none
   |some (z,l)=>if z=sizes then some (l,Y) else none
  else bZ (dd sizes) n.toNat [] (aM (decide (16384<min (Y.told+n) ah)) {Y with told:=min (Y.told+n) ah})):=by
  unfold cR;rw[dU];rfl
 have iU:h3 Y:=by
  cases cd:al with
  |none=>rw[cd] at au;cases au
  |some aV=>
   rw[cd] at au;have dV:aS 0 ah (aM (decide (6<ar)||cI sizes) aV)=some (o,Z):=au;have df:=(cB dV).eqs;have cw:=(cB dU).eqs;intro V;rw[cw.2.1,df.2.1] at V;rw[cw.1,df.1];exact fN aV cd (U3.1 V).1
 refine cX (fun bi=>ad (fm g B) w bi∧ ∃ bQ cz dg bI,aa bi W aL [aO,szv,.int .i64 o,bQ]∧ak .i64 aj bi db aO scope∧ak .i64 aj bi dc szv sizes∧ix bi cz bQ dg∧bh bi g B H 100000 (some bI)∧(0<n→dg=[]∧ ∀ r,¬leadsTo bQ r)∧cR sizes Z=(if n≤0 then some (dg,bI) else bZ (dd sizes) n.toNat [] bI)) ?_ ?_
 ·rintro bi ⟨iV,bQ,cz,dg,bI,dH,dI,dJ,dK,dL,eX,eY⟩;refine Jd dL dH dI dJ dK f5 f6 f7 eg fM iT.2 eX (qJ dL).1 fun cm A dW iW e9 fb iX cA=>?_;have ce:=iV.trans iW;have bT:dW=(cR sizes Z).map (·.2)∧ ∀ q,cR sizes Z=some q→A=q.1:=by
   rw[eY];by_cases dX:n≤0
   ·obtain⟨aA,aG⟩:=iX dX;rw[if_pos dX];exact⟨aG,fun q ap=>by cases ap;exact aA⟩
   ·rw[if_neg dX];exact cA (by omega)
  obtain⟨bT,bp⟩:=bT;cases neg with
  |false=>
   refine cX (fun aJ=>cm=aJ) ?_ ?_
   ·rintro _ rfl;refine ret e9 (dN ce) (dO ce) ?_ ?_ c0 (fun _ h=>h) (fun _ h=>.inl h) fun r E=>by have:=c1 r E;have:=ce.size;omega
    ·have:(h4 false ar scope sizes al).map (·.2)=dW:=by
      rw[cu,bT];cases cR sizes Z with
      |none=>rfl
      |some p=>rfl
     rw[this];exact eZ fb.base
    ·intro q ap;rw[cu] at ap;cases aN:cR sizes Z with
     |none=>rw[aN] at ap;cases ap
     |some p=>
      rw[aN] at ap;have:=bp p aN;cases ap;rw[this]
   ·intro dS bo;rw[aR];exact bo _ rfl
  |true=>
   refine cX (fun aJ=>∃ ao,ad (fun r=>r=g∨H r∨B≤r) w aJ∧fD aJ B W ⟨scope,sizes,o,A⟩∧aa aJ ac aL [.slice none 0 0,.slice none 0 0,.int .i64 0,.slice none 0 0]∧bh aJ g aJ.heap.size ao 100001 ((h4 true ar scope sizes al).map (·.2))∧¬ao ac∧(∀ r,H r→ao r)∧(∀ r,ao r→H r∨B≤r)∧ ∀ r,ao r→r<aJ.heap.size) ?_ ?_
   ·rintro aJ ⟨ao,iY,iZ,a3,a4,a5,i0,i1,i2⟩;refine ret iZ a3 iY a4 ?_ a5 i0 i1 i2;intro q ap;rw[cu] at ap;cases aN:cR sizes Z with
    |none=>rw[aN] at ap;cases ap
    |some p=>
     rw[aN] at ap;have:=bp p aN;cases ap;rw[this]
   ·intro dS bo;rw[bq];intro aW cC _ _;have i3:=fb.ext cC;have i4:=e9.ext cC;have i5:=(dN ce).ext cC;obtain⟨cr,w0,aX,bF,gs,sv,L,a2,aA,aG,bad,aZ,big,a1,told,dh,bU,bV,aT,bW,bK,bY⟩:=id i3;have i6:=bW.g bU bV;obtain⟨⟨i7,fc⟩,be,cD,cE⟩:=id i6;have i8:∀ r,leadsTo sv r→r<B:=fun r E=>c1 r (bK r E);rw[aD a6.p 8 aT rfl];obtain⟨fd,fe,bQ,fg,fh,cz,fi,fj,fk,fo,i9,ja,jb⟩:=id i4;let aH:gZ:=⟨fd,fe,o,bQ⟩;let x:bG:=⟨scope,sizes,o,A⟩;have cq:fl aW aH x:=⟨⟨fg,fj⟩,⟨fh,fk⟩,rfl,cz,fo⟩;rw[bn aL.p aL.i rfl (show aW.rangeAt W 0 (dQ aH) from fi.range)];refine eQ (f:=dQ) (a:=aH) cP.u aL.i (by omega) rfl rfl fun j6 j7 bj j8 az jc=>?_;refine⟨.inl az,?_⟩;have ka:L.length≤100000:=by
     cases dW with
     |none=>exact bY.2
     |some s=>have:=bY.2.2.2.2.2.2.2.2;omega
    have dY:=be.ext az;refine ff (f:=dQ) (a:=aH) cP.u aL.i rfl dY (by simpa using jc.sl) (cq.ext az).one (by omega) (by omega) fun fp jd c7 cG je fq=>?_;have dZ:=aT.ext az;have fs:=dZ.U fq fun he=>cb dY dZ (by decide) he;rw[bB,aF a6.p rfl];refine aY (g:=g) (o:=8) cP.i (cF cG.sl).1 (cF cG.sl).2 fs (by simp[fa]) fun bN ea kb dj=>?_;have dj:aa bN g a6 (fa aX aA aG bad aZ big a1 told fp):=dj;have bf:ad (fun r=>leadsTo sv r∨r=g) bj bN:=(fq.mono fun r _ h=>.inl h).trans (ea.mono fun r _ h=>.inr h);have dl:∀ r,(leadsTo sv r∨r=g)→fC bj r∨bj.heap.size≤r:=fun r E=>by
     rcases E with E|rfl
     ·obtain⟨rfl,c,V⟩:=c3 dY E;exact .inl ⟨_,c,V,by decide,by decide⟩
     ·exact .inl ⟨_,_,dZ,by decide,by decide⟩
    have ft:∀ {aH x},fl aW aH x→fl bN aH x:=fun he=>(he.ext az).da bf dl;have z50:=cC.size;have kc:=az.size;have z53:=bf.size;have kd:=ce.size;have ke:=iq.2;refine bo _ ⟨fun r=>H r∨(aW.heap.size≤r∧r<bN.heap.size),?_,?_,?_,?_,?_,fun r E=>.inl E,fun r E=>E.imp id fun E=>by omega,fun r E=>?_⟩
    ·refine (((dO ce).trans (cC.U _)).trans (az.U _)).trans (bf.mono fun r _ E=>?_);exact E.elim (fun E=>.inr (.inl (bK r E))) .inl
    ·have jf:=fi.ext az;refine⟨fd,fe,bQ,fg,fh,cz,jf.U bf fun E=>?_,dC (fj.ext az) bf dl,dC (fk.ext az) bf dl,(fo.da (az.U fun _=>False) fun _ h=>h.elim).da bf dl,i9,ja,jb⟩;rcases E with E|E
     ·have:=i8 _ E;omega
     ·exact cp E
    ·exact (i5.ext az).U bf fun E=>E.elim (fun E=>c0 (bK _ E)) eW
    ·refine⟨by omega,bN,aX,bF,jd,fp,L++[aH],a2++[x],aA,aG,bad,aZ,big,a1,told,rfl,ad.refl _ _,⟨_,dj⟩,dj,⟨⟨?_,fun r E=>?_⟩,cG.U ea fun r E he=>?_,by rw[u7,u7,cD];rfl,fun i jg jh hi cH=>?_⟩,fun r E=>?_,?_⟩
     ·refine (i7.U (az.U fun _=>False) fun _ _ h=>h).U bf fun r E bm=>?_;obtain⟨c,V⟩:=fc r E;rcases bm with bm|rfl
      ·obtain⟨rfl,ji,eb⟩:=c3 be bm;exact absurd (ed V eb) (by decide)
      ·exact absurd (ed V aT) (by decide)
     ·obtain⟨c,V⟩:=fc r E;refine⟨c,(V.ext az).U bf fun bm=>?_⟩;rcases bm with bm|rfl
      ·obtain⟨rfl,ji,eb⟩:=c3 be bm;exact absurd (ed V eb) (by decide)
      ·exact absurd (ed V aT) (by decide)
     ·have he:r=g:=he;subst he;exact cb cG fs (by decide) E
     ·by_cases jj:i<L.length
      ·rw[Z4 jj] at hi;rw[Z4 (by omega)] at cH;exact ft (cE i jg jh hi cH)
      ·rw[Z7 (by omega)] at hi;rw[Z7 (by omega)] at cH;have jk:i-L.length=0:=by have:=(x3.1 hi).1;simp at this;omega
       have dG:i-a2.length=0:=by omega
       rw[jk] at hi;rw[dG] at cH;cases hi;cases cH;exact ft cq
     ·rcases je r E with h|h
      ·exact .inl (bK r h)
      ·have:=(cG.leads E);have:=ea.size;exact .inr ⟨by omega,by omega⟩
     ·rw[cu];cases aN:cR sizes Z with
      |none=>
       rw[aN] at bT;rw[bT] at bY;exact⟨bY.1,by rw[u7];simp;have:=bY.2;omega⟩
      |some p=>
       obtain⟨lines,bI⟩:=p;rw[aN] at bT;rw[bT] at bY;have jl:=bp _ aN;obtain⟨cJ,cK,cL,cN,cO,cg,cQ,bg,dm⟩:=id bY;have fu:=zC aN;refine⟨cJ,cK,cL,cN,cO,cg,cQ,?_,?_⟩
       ·show (a2++[x]).map _=bI.shared++[(sizes,lines)];rw[j4,bg];simp only[x,List.map_cons,List.map_nil];rw[jl]
       ·have kf:Z.shared.length+Z.toks.length≤100000:=by
         cases cd:al with
         |none=>rw[cd] at au;cases au
         |some aV=>
          rw[cd] at au h;have dV:aS 0 ah (aM (decide (6<ar)||cI sizes) aV)=some (o,Z):=au;have t9:=cB dV;have df:=t9.1;have cw:=t9.eqs.2.2;have t3:=(qJ h).2;have fv:(aM (decide (6<ar)||cI sizes) aV).toks=aV.toks:=rfl;have fw:(aM (decide (6<ar)||cI sizes) aV).shared=aV.shared:=rfl;rw[fv] at df;rw[fw] at cw;rw[cw];omega
        have fx:L.length=bI.shared.length:=by rw[←bg,r8,cD]
        have jm:bF.length=bI.toks.length:=by rw[←cg,r8]
        rw[fu.2] at fx;rw[u7,fx,jm];simp only[V5];have:=fu.1;omega
    ·rintro (E|E)
     ·exact c0 E
     ·omega
    ·rcases E with E|E
     ·have:=c1 r E;omega
     ·exact E.2
 ·intro dS bo;rw[aC,af];refine⟨fun jn=>?_,fun jo=>?_⟩
  ·
   refine aI (fun v ay=>Ext ae ay∧ ∃ b:Bool,v= .bool b∧(b=true→cR sizes Z=none)∧(b=false→ ∃ lines,cR sizes Z=some (lines,Y)∧Y.shared[(-n-1).toNat]? =some (sizes,lines))) ?_ ?_
   ·rintro _ ay ⟨ch,b,rfl,jp,jq⟩;have dn:=bx.ext ch;have jr:=e7.ext ch;have fy:=e6.trans (ch.U _);cases b with
    |true=>
     rw[bq];refine (lG dn (by omega)).mono ?_;rintro _ dy _ ⟨fz,js⟩;exact e1 (jr.da fz (iz dn)) (fy.trans (fz.mono fun r _ h=>.inl h)) js (by rw[cu,jp rfl])
    |false=>
     rw[aR];obtain⟨lines,jt,ci⟩:=jq rfl;obtain⟨cr,w0,aX,bF,gs,sv,L,a2,aA,aG,bad,aZ,big,a1,told,dh,bU,bV,aT,bW,bK,cJ,cK,cL,cN,cO,cg,cQ,bg,dm⟩:=id dn;obtain⟨_,be,cD,cE⟩:=bW.g bU bV;have cS:(-n-1).toNat<L.length:=by
      have h1:=(x3.1 ci).1;rw[←bg,r8] at h1;omega
     obtain⟨dp,cT⟩:∃ h,L[(-n-1).toNat]? =some h:=⟨_,x4 cS⟩;obtain⟨bC,cU⟩:=aE (l:=a2) (i:=(-n-1).toNat) (by omega);obtain⟨_,_,_,ju,aU⟩:=cE _ dp bC cT cU;have jv:bC.lines=lines:=by
      rw[←bg,x7,cU] at ci;have:=b9 ci;exact (U7.inj this).2
     rw[aD a6.p 8 aT rfl,jJ,wrap_i64 (by omega) (by omega),dk,wrap_i64 (by omega) (by omega),cM (i:=(-n-1).toNat) (by omega) cP.u aL.i be cS,aF aL.p rfl,av (by kernel_rfl) (be.range cT 3 _ rfl)];obtain⟨kg,fA,kh,ki⟩:=id aU;have dq:aa ay W aL [aO,szv,.int .i64 o,bw]:=(b8.U bH fun he=>cp he).ext ch;have jw:=(dC f224 bH fun r E=>(iz cc r E).imp (fun⟨e,c,V,bt,bu,_⟩=>⟨e,c,V,bt,bu⟩) id).ext ch;have jx:=(dC f324 bH fun r E=>(iz cc r E).imp (fun⟨e,c,V,bt,bu,_⟩=>⟨e,c,V,bt,bu⟩) id).ext ch;rw[aF aL.p rfl];refine aY (g:=W) (o:=3) di.i (cF fA.sl).1 (cF fA.sl).2 dq (by simp) fun eR cV kj jy=>?_;refine bo _ ⟨fy.trans (cV.mono fun r _ h=>.inr (by have h:r=W:=h;omega)),dp.bw,ju,lines,Y,jy,dC jw cV (ca dq),dC jx cV (ca dq),?_,dn.new cV fun r E=>by have E:r=W:=E;omega,fun h=>by omega,by rw[jt,if_pos (by omega)]⟩;rw[←jv];exact aU.da cV (ca dq)
   ·intro kk fB;intro ai cW _ _;have jz:=bx.ext cW;obtain⟨cr,w0,aX,bF,gs,sv,L,a2,aA,aG,bad,aZ,big,a1,told,dh,bU,bV,aT,bW,bK,cJ,cK,cL,cN,cO,cg,cQ,bg,dm⟩:=id jz;obtain⟨_,be,cD,cE⟩:=bW.g bU bV;have kl:Y.shared.length=L.length:=by rw[←bg,r8,cD]
    have aU:=e8;rw[if_pos jn] at aU;rw[jJ,wrap_i64 (by omega) (by omega),aD a6.p 8 aT rfl,dA cP.u be,br,af];refine⟨fun cA=>fB _ _ ⟨cW,true,rfl,fun _=>?_,fun h=>by cases h⟩,fun cA=>?_⟩
    ·rw[aU,c8 (by omega)]
    have cS:(-n-1).toNat<L.length:=by omega
    obtain⟨dp,cT⟩:∃ h,L[(-n-1).toNat]? =some h:=⟨_,x4 cS⟩;obtain⟨bC,cU⟩:=aE (l:=a2) (i:=(-n-1).toNat) (by omega);obtain⟨_,⟨gz,jA⟩,_,_⟩:=cE _ dp bC cT cU;have ci:Y.shared[(-n-1).toNat]? =some (bC.sizes,bC.lines):=by rw[←bg,x7,cU];rfl
    rw[ci] at aU;simp only at aU;rw[aD a6.p 8 aT rfl,jJ,wrap_i64 (by omega) (by omega),dk,wrap_i64 (by omega) (by omega),cM (i:=(-n-1).toNat) (by omega) cP.u aL.i be cS,aF aL.p rfl,av (by kernel_rfl) (be.range cT 1 _ rfl)];have jB:aa ai W aL [aO,szv,.int .i64 o,bw]:=(b8.U bH fun he=>cp he).ext cW;have jC:=(dC f324 bH fun r E=>(iz cc r E).imp (fun⟨e,c,V,bt,bu,_⟩=>⟨e,c,V,bt,bu⟩) id).ext cW;rw[aP aL.p 1 jB rfl];refine (tt jA.ls jC.ls).mono ?_;rintro _ dz _ ⟨rfl,jD⟩;rw[bJ];refine fB _ _ ⟨cW.trans jD,_,rfl,fun V=>?_,fun V=>?_⟩
    ·have jF:bC.sizes≠sizes:=by simpa using V
     rw[aU,if_neg jF]
    ·have fE:bC.sizes=sizes:=by simpa using V
     exact⟨bC.lines,by rw[aU,if_pos fE],by rw[ci,fE]⟩
  ·
   have aU:=e8;rw[if_neg jo] at aU;obtain⟨cr,w0,aX,bF,gs,sv,L,a2,aA,aG,bad,aZ,big,a1,told,dh,bU,bV,aT,bW,bK,cJ,cK,cL,cN,cO,cg,cQ,bg,dm⟩:=id bx;rw[aD a6.p 7 aT rfl,aB];generalize jG:X5.wrap (told+n)=bL;have fF:Y.big=false→bL=Y.told+n∧0≤bL:=fun V=>by
    obtain⟨fv,fw⟩:=iU V;have jH:=cN V;rw[←jG,jH,wrap_i64 (by omega) (by omega)];exact⟨rfl,by omega⟩
   rw[bB,aF a6.p rfl];refine aY (g:=g) (o:=7) aj.i rfl rfl aT (by simp[fa]) fun bc fG km cY=>?_;have cY:aa bc g a6 (fa aX aA aG bad aZ big a1 bL sv):=cY;refine cX (fun bd=>ad (fun r=>r=g) ae bd∧aa bd g a6 (fa aX aA aG bad aZ big a1 (min bL ah) sv)) ?_ ?_
   rotate_left
   ·intro ko fH;rw[aD a6.p 7 cY rfl,br,af];refine⟨fun cA=>?_,fun cA=>fH _ ⟨fG,?_⟩⟩
    ·rw[bB,aF a6.p rfl];refine aY (g:=g) (o:=7) aj.i rfl rfl cY (by simp[fa]) fun eU jI kp jK=>?_;refine fH _ ⟨fG.trans jI,?_⟩;have e:min bL ah=4611686018427387904:=by unfold ah;omega
     rw[e];exact jK
    ·have e:min bL ah=bL:=by unfold ah;omega
     rw[e];exact cY
   rintro bd ⟨fI,fJ⟩;have jL:bh bd g B H 100000 (some {Y with told:=min (Y.told+n) ah}):=⟨cr,w0,aX,bF,gs,sv,L,a2,aA,aG,bad,aZ,big,a1,_,dh,bU.trans fI,bV,fJ,bW,bK,cJ,cK,cL,fun V=>by
    have V:Y.big=false:=V;rw[(fF V).1],cO,cg,cQ,bg,dm⟩
   rw[aD a6.p 7 fJ rfl,br];refine (kD jL).mono ?_;rintro _ dD _ ⟨jM,fK⟩;have jN:(some {Y with told:=min (Y.told+n) ah}).map (aM (decide (16384<min bL ah)))=some (aM (decide (16384<min (Y.told+n) ah)) {Y with told:=min (Y.told+n) ah}):=by
    show some (aM _ _)=_;congr 1;unfold aM;cases V:Y.big with
    |true=>simp
    |false=>rw[(fF V).1]
   rw[jN] at fK;have cZ:ad (fun r=>r=g) bD dD:=(bH.trans fI).trans jM;have ec:∀ r,r=g→fC bD r∨bD.heap.size≤r:=fun r E=>(iz cc r E).imp (fun⟨e,c,V,bt,bu,_⟩=>⟨e,c,V,bt,bu⟩) id;have jO:bw= .slice none 0 0:=by
    have:=fL _ f1;simpa using this
   refine bo _ ⟨e4.trans (cZ.mono fun r _ h=>.inl h),bw,de,[],_,b8.U cZ fun he=>cp he,dC f224 cZ ec,dC f324 cZ ec,e3.da cZ ec,fK,fun _=>⟨rfl,fun r E=>by rw[jO] at E;exact ds E⟩,?_⟩;rw[aU];by_cases e5:n≤0
   ·have:n=0:=by omega
    subst this;rw[if_pos (Int.le_refl _)];rfl
   ·rw[if_neg e5]
theorem zF {s:aq}:ck all s=match aS (-ah) ah s with
  |none=>none
  |some (a,J)=>match dN all.length a.natAbs J with
   |none=>none
   |some (scope,E)=>h4 (decide (a<0)) a.natAbs scope (scope.map fun v=>all.getD v.toNat 0) (some E):=by
 unfold ck;cases aS (-ah) ah s with
 |none=>rfl
 |some q=>
  obtain⟨a,J⟩:=q;simp only;cases dN all.length a.natAbs J with
  |none=>rfl
  |some p=>
   obtain⟨scope,E⟩:=p;simp only;unfold h4;show _=match aS 0 ah (aM (decide (6<a.natAbs)||cI (scope.map fun v=>all.getD v.toNat 0)) E) with
    |none=>none
    |some (other,O)=>_
   cases aS 0 ah (aM (decide (6<a.natAbs)||cI (scope.map fun v=>all.getD v.toNat 0)) E) with
   |none=>rfl
   |some V=>
    obtain⟨o,O⟩:=V;simp only;cases cR (scope.map fun v=>all.getD v.toNat 0) O with
    |none=>rfl
    |some W=>
     obtain⟨ls,X⟩:=W;by_cases U:a<0
     ·simp[U]
     ·simp[U]
def tv (w:x1) (g:Nat) (H:am) (J:Option (bG×aq)) (v:y0) (w':x1):Prop:=∃ O x E,ad (fun r=>r=g∨H r) w w'∧v= .agg (dQ O).toArray∧fl w' O x∧bh w' g w'.heap.size E 100001 (J.map (·.2))∧(∀ q,J=some q→x=q.1)∧(∀ r,H r→E r)∧(∀ r,E r→H r∨w.heap.size≤r)∧ ∀ r,E r→r<w'.heap.size
theorem zG {n:Int} {s s':aq} (h:dN n k s=some (l,s')):s'.toks.length+l.length≤s.toks.length∧s'.told=s.told∧s'.big=s.big∧s'.shared=s.shared∧ ∀ v∈l,0≤v∧v<n:=by
 have:=gM (f:=io n) (fun(acc:List Int) t=>t.toks.length+acc.length≤s.toks.length∧t.told=s.told∧t.big=s.big∧t.shared=s.shared∧ ∀ v∈acc,0≤v∧v<n) (fun acc t a Z J E=>by
  unfold io at E;cases U:aS 0 (n-1) t with
  |none=>rw[U] at E;cases E
  |some q=>
   obtain⟨v,aa⟩:=q;rw[U] at E;simp only at E;split at E
   ·cases E
   ·cases E;have V:=cB U;have ab:=(fW U).1;obtain⟨W,X,Y⟩:=V.eqs;have t0:=V.1;refine⟨by have:=J.1;rw[u7];simp only[V5];omega,W.trans J.2.1,X.trans J.2.2.1,Y.trans J.2.2.2.1,fun y O=>?_⟩;rcases p8.1 O with O|O
    ·exact J.2.2.2.2 y O
    ·rw[p9.1 O];omega) k [] s l s' ⟨by simp,rfl,rfl,rfl,fun v ac=>by cases ac⟩ h
 exact this.1
set_option maxHeartbeats 8000000 in
theorem Je {g B0:Nat} {H:am} {s:aq} {ax:y0} (h:bh w g B0 H 100000 (some s)) (aH:ak .i64 aj w gz ax all) (aJ:∀ z∈all,1≤z∧z≤ah) (bl:all.length≤100001) (ay:∀ r,H r→r<w.heap.size) (bM:h3 s):
  ag x5 vp [.pointer (some ⟨g,0,none⟩),ax] w (tv w g H (ck all s)):=by
 have cj:=h.lt;refine ap func100 ?_;refine bg aL.i fun ai W cl az aA=>?_;have aA:aa W ai aL [.slice none 0 0,.slice none 0 0,.int .i64 0,.slice none 0 0]:=aA;refine bg aL.i fun an V cm aB aD=>?_;have aD:aa V an aL [.slice none 0 0,.slice none 0 0,.int .i64 0,.slice none 0 0]:=aD;have h1:=(h.ext az).base;have aK:=h1.ext aB;have cn:=az.size;have bm:=aA.lt;have cp:=aD.lt;refine (iy aK).mono ?_;rintro _ ae _ ⟨⟨aE,X⟩,a,cq,rfl,aM,aN⟩;rw[a8,ba,aC];have bN:an≠g:=by omega
 have aP:ai≠g:=by omega
 have aR:=aD.U aE fun he=>bN he;have aU:=(aA.ext aB).U aE fun he=>aP he;have bo:ak .i64 aj ae gz ax all:=aZ ((aH.ext az).ext aB) aE fun r E he=>by
  have he:r=g:=he;obtain⟨bq,Z,al,bad,br,big,bt,told,sv,aF,_⟩:=gd h;subst he;exact bE aH aF (by decide) E rfl
 have bu:∀ r,leads ax r→r<W.heap.size:=fun r E=>by obtain⟨Z,al⟩:=bp aH E;omega
 have aV:fD ae W.heap.size an ⟨[],[],0,[]⟩:=⟨_,_,_,0,0,0,aR,ak.nil _ _ _ _,ak.nil _ _ _ _,⟨[],aT.nil _ _ _ _ _,fun y bO=>(by cases bO),rfl⟩,(fun r E=>by rcases E with⟨a,n,c,Z,al⟩|⟨a,n,c,Z,al⟩ <;> cases Z),(fun r E=>by obtain⟨a,n,c,Z,al⟩:=E;cases Z),by omega⟩;have aW:∀ c,aa ae an aL c→c[3]? =some (.slice none 0 0):=fun c aX=>by
  unfold aa at aX aR;rw[aR] at aX;have:=Array.toList_inj.2 (Obj.cells.inj (b9 aX)).1;simp at this;rw[←this];rfl
 have bx:ad (fun r=>r=g) W ae:=(aB.U _).trans aE;have cr:W.heap.size≤ae.heap.size:=bx.size;have aY:∀ {J:x1} {a1:Option (bG×aq)} {v:y0} {w':x1},ad (fm g W.heap.size) ae J→a1=ck all s→zD J g ai W.heap.size H a1 v w'→tv w g H (ck all s) v w':=by
  rintro J a1 v w' ab rfl ⟨av,x,bQ,a2,a6,a7,bb,bz,bA,bB,bR⟩;refine⟨av,x,bQ,?_,a6,a7,bb,bz,bA,fun r E=>(bB r E).imp id fun h=>by omega,bR⟩;refine fL (fL ((az.U _).trans (bx.mono fun r _ h=>.inl h)) ab fun r E he=>?_) a2 fun r E he=>?_
  ·exact he.elim .inl fun he=>by omega
  ·rcases he with he|he|he|he
   ·exact .inl he
   ·exact .inr he
   ·omega
   ·omega
 have bS:∀ {J:x1} {x:bG},ad (fm g W.heap.size) ae J→ck all s=none→bh J g W.heap.size H 100000 none→fD J W.heap.size an x→
   (O x5 (x6 aL (.pointer (some ⟨an,0,none⟩))) J fun bT=>
    aw x5 (n0 aL (.pointer (some ⟨ai,0,none⟩)) bT) J fun(_:Unit) bC=>
    O x5 (do loadVar aL (←asAddr (.pointer (some ⟨ai,0,none⟩)))) bC fun bU=>tv w g H (ck all s) bU bC):=by
  intro J x ab bD bc bV;obtain⟨aO,szv,bw,bW,bX,bY,a2,a6,a7,bb,bz,bA,bB⟩:=bV;let av:gZ:=⟨aO,szv,x.other,bw⟩;have bF:fl J av x:=⟨⟨bW,a6⟩,⟨bX,a7⟩,rfl,bY,bb⟩;have bd:=aU.U ab fun ao=>ao.elim aP fun h=>by omega
  rw[bn aL.p aL.i rfl (show J.rangeAt an 0 (dQ av) from a2.range)];refine bP (vs:=dQ av) aL.i rfl rfl bF.one bd fun ct be cu bZ=>?_;rw[eO aL.p aL.i rfl bZ.range];have b1:∀ r,r=ai→fC J r∨J.heap.size≤r:=fun r E=>by subst E;exact .inl ⟨_,_,bd,by decide,by decide⟩
  have cw:=ab.size;refine aY ab rfl ⟨av,x,H,be.mono fun r _ h=>.inr (.inr (.inl h)),rfl,bF.da be b1,?_,(fun q Y=>by rw[bD] at Y;cases Y),fun _ h=>h,fun _ h=>.inl h,fun r E=>by have:=ay r E;omega⟩;rw[bD];have b2:bh J g W.heap.size H 100001 none:=by
   obtain⟨cz,w0,bq,b3,gs,sv,L,b4,Z,al,bad,br,big,bt,told,h1,aK,X,b5,b6,bf,bH⟩:=bc;exact⟨by omega,w0,bq,b3,gs,sv,L,b4,Z,al,bad,br,big,bt,told,h1,aK,X,b5,b6,bf,bH.1,by have:=bH.2;omega⟩
  refine b2.da be fun r E=>.inl ?_;have E:r=ai:=E;subst E;exact⟨_,_,bd,by decide,by decide,by decide,by decide,fun bi=>by have:=ay _ bi;omega⟩
 have au:=zF (all:=all) (s:=s);have b7:aQ (-4611686018427387904) 4611686018427387904 (some s)=aS (-ah) ah s:=rfl;rw[b7] at X aM aN;have cA: -4611686018427387904≤a∧a≤4611686018427387904:=by
  cases Y:aS (-ah) ah s with
  |none=>have:=aN Y;omega
  |some q=>have:=aM q Y;rw[this];exact (fW (n:=q.1) (s':=q.2) Y).1
 refine aI (fun v b8=>ae=b8∧v= .int .i64 (a.natAbs:Int)) ?_ ?_
 rotate_left
 ·intro cC bI;rw[af];refine⟨fun cD=>?_,fun cE=>bI _ _ ⟨rfl,by congr 1;omega⟩⟩;rw[jJ,wrap_i64 (by omega) (by omega)];exact bI _ _ ⟨rfl,by congr 1;omega⟩
 rintro _ _ ⟨rfl,rfl⟩;have bJ:∀ r,H r→r<W.heap.size:=fun r E=>by have:=ay r E;omega
 have bK:¬H ai:=fun bi=>by have:=ay _ bi;omega
 have ca:∀ {scope:List Int},(∀ v∈scope,0≤v∧v<(all.length:Int))→ ∀ z∈scope.map (fun v=>all.getD v.toNat 0),1≤z∧z≤ah:=fun ac z cb=>by
  obtain⟨v,cc,rfl⟩:=o8.1 cb;have:=ac v cc;refine aJ _ ?_;rw[u4,x4 (by omega)];exact U6 _
 cases Y:aS (-ah) ah s with
 |none=>
  rw[Y] at X au;have cd:=aN Y;subst cd;refine zB (s:=s) (ar:=(0:Int).natAbs) X (.inr ⟨rfl,rfl⟩) aV aW bo bu bl (by decide) (fun h=>by cases h) ?_ ?_ ?_
  ·intro h;cases h
  ·intro _;exact zE (neg:=decide ((0:Int)<0)) X aV aW (fun z aJ=>by cases aJ) (by simp) aU bm bK bJ (fun ce ao=>by cases ao) fun v w' bj=>aY (ad.refl _ _) (by rw[au];rfl) bj
  ·intro h;cases h
 |some q=>
  obtain⟨a',bL⟩:=q;rw[Y] at X au;have:=aM _ Y;subst this;simp only at au;have X:bh ae g W.heap.size H 100000 (some bL):=X;have cg:=cB Y;refine zB (s:=bL) (ar:=a.natAbs) X (.inl rfl) aV aW bo bu bl (by omega) (fun _=>(qJ X).1) ?_ ?_ ?_
  ·intro _ J x ab aG bc bk;exact bS ab (by rw[au,aG]) bc bk
  ·intro h;cases h
  ·intro _ J scope s' ab aG bf bk ch;obtain⟨cF,ci,t3,t4,t5⟩:=zG aG;rw[aG] at au;obtain⟨Z,al,cG⟩:=cg.eqs;refine zE (neg:=decide (a<0)) bf bk ch (ca t5) ?_ (aU.U ab fun ao=>ao.elim aP fun h=>by omega) bm bK bJ (fun ce ao=>?_) fun v w' bj=>aY ab au.symm bj
   ·rw[r8];have:=(qJ X).1;omega
   ·cases ao;intro aF;rw[t3,al] at aF;rw[ci,Z];exact bM aF
theorem Jf {s s':aq} {l:List (List Int×Int)} (h:cR sizes s=some (l,s')) (V:h3 s):h3 s':=by
 unfold cR at h;cases O:aS (-ah) ah s with
 |none=>rw[O] at h;cases h
 |some q=>
  obtain⟨n,E⟩:=q;obtain⟨W,X,t3⟩:=(cB O).eqs;have U:h3 E:=fun J=>by rw[W];exact V (by rw[←X];exact J)
  rw[O] at h;simp only at h;split at h
  ·split at h
   ·cases h
   ·split at h
    ·cases h;exact U
    ·cases h
  ·rename_i af;have h':bZ (dd sizes) n.toNat [] (aM (decide (16384<min (E.told+n) ah)) {E with told:=min (E.told+n) ah})=some (l,s'):=h;have:=gM (f:=dd sizes) (fun _ t=>h3 t) (fun acc t a ag Y Z=>by
    obtain⟨_,_,_,aa⟩:=lj Z;obtain⟨ab,ac,ai⟩:=aa.eqs;intro J;rw[ab];exact Y (by rw[←ac];exact J)) n.toNat [] (aM (decide (16384<min (E.told+n) ah)) {E with told:=min (E.told+n) ah}) l s' (fun J=>by
     obtain⟨ad,ae⟩:=U3.1 J;have aj:=U ad;have ak:=of_decide_eq_false ae;show 0≤min (E.told+n) ah∧min (E.told+n) ah≤16384;unfold ah at*;omega) h'
   exact this.1
theorem Jg {s s':aq} {x:bG} (h:ck all s=some (x,s')):s'.toks.length+1≤s.toks.length∧(h3 s→h3 s'):=by
 rw[zF] at h;cases O:aS (-ah) ah s with
 |none=>rw[O] at h;cases h
 |some q=>
  obtain⟨a,ac⟩:=q;rw[O] at h;simp only at h;have Y:=cB O;cases U:dN all.length a.natAbs ac with
  |none=>rw[U] at h;cases h
  |some p=>
   obtain⟨scope,E⟩:=p;rw[U] at h;simp only at h;obtain⟨av,ad,t3,_⟩:=zG U;unfold h4 at h;have e:aQ 0 ah ((some E).map (aM (decide (6<a.natAbs)||cI (scope.map fun v=>all.getD v.toNat 0))))=aS 0 ah (aM (decide (6<a.natAbs)||cI (scope.map fun v=>all.getD v.toNat 0)) E):=rfl;rw[e] at h;cases V:aS 0 ah (aM (decide (6<a.natAbs)||cI (scope.map fun v=>all.getD v.toNat 0)) E) with
   |none=>rw[V] at h;cases h
   |some ae=>
    obtain⟨o,Z⟩:=ae;rw[V] at h;simp only at h;have aa:=cB V;cases J:cR (scope.map fun v=>all.getD v.toNat 0) Z with
    |none=>rw[J] at h;cases h
    |some af=>
     obtain⟨ls,W⟩:=af;rw[J] at h;simp only[b8,W5] at h;obtain⟨_,ag⟩:=h;have aw:=zC J;have ai:(aM (decide (6<a.natAbs)||cI (scope.map fun v=>all.getD v.toNat 0)) E).toks=E.toks:=rfl;have aj:=aa.1;rw[ai] at aj;have ax:=Y.1;obtain⟨ak,al,_⟩:=Y.eqs;obtain⟨f1,f2,_⟩:=aa.eqs;have X:s'.toks=W.toks∧s'.told=W.told∧s'.big=W.big:=by
      rw[←ag];split <;> exact⟨rfl,rfl,rfl⟩
     refine⟨by rw[X.1];omega,fun am=>?_⟩;have an:h3 Z:=fun ab=>by
      rw[f2] at ab;rw[f1];have ao:E.big=false:=(U3.1 ab).1;show 0≤E.told∧E.told≤16384;rw[ad,ak];exact am (by rw[←al,←t3];exact ao)
     have ap:=Jf J an;intro au;rw[X.2.1];exact ap (by rw[←X.2.2];exact au)
theorem bh.shrink {g:Nat} {H:am} {so:Option aq} (h:bh w g B H N so):∃ E,bh w g B E N so∧(∀ r,E r→H r)∧ ∀ r,E r→ ∃ c,aa w r aL c:=by
 obtain⟨Y,w0,Z,ab,gs,sv,L,ac,ad,ae,bad,af,big,ag,told,h1,O,V,ah,W,ai,aj⟩:=h;refine⟨fun r=>leadsTo sv r,⟨Y,w0,Z,ab,gs,sv,L,ac,ad,ae,bad,af,big,ag,told,h1,O,V,ah,W,fun r J=>J,aj⟩,ai,fun r J=>?_⟩;obtain⟨rfl,c,X⟩:=c3 W.2.1 J;refine⟨c,X.U O fun he=>?_⟩;obtain⟨al,ak⟩:=V;subst he;exact absurd (ed X ak) (by decide)
theorem bh.low {g:Nat} {H:am} {s:aq} (h:bh w g B H N (some s)):bh w g B H 100000 (some s):=by
 obtain⟨ae,w0,E,J,gs,sv,L,O,U,V,bad,W,big,X,told,h1,Y,Z,aa,ab,ac,ad⟩:=h;exact⟨r9 _,w0,E,J,gs,sv,L,O,U,V,bad,W,big,X,told,h1,Y,Z,aa,ab,ac,ad⟩
theorem bh.up {g M:Nat} {H:am} {so:Option aq} (h:bh w g B H N so) (ae:N≤M):bh w g B H M so:=by
 obtain⟨af,w0,J,O,gs,sv,L,U,V,W,bad,X,big,Y,told,h1,Z,aa,ab,ac,ad,E⟩:=h;refine⟨by omega,w0,J,O,gs,sv,L,U,V,W,bad,X,big,Y,told,h1,Z,aa,ab,ac,ad,?_⟩;cases so with
 |none=>exact⟨E.1,by have:=E.2;omega⟩
 |some s=>exact E
def jm {α:Type} (f:List α→aq→Option (α×aq)) (cnt i:Nat) (E:Option aq) (A:List α) (so:Option aq):Prop:=E.bind (bZ f cnt [])=(match so with
 |none=>none
 |some s=>bZ f (cnt-i) A s)
theorem jm.step {α:Type} {f:List α→aq→Option (α×aq)} {cnt i:Nat} {J:Option aq} {A:List α} {s:aq} {a:α} {O:Option aq} (h:jm f cnt i J A (some s)) (hi:i<cnt) (h1:O=(f A s).map (·.2)) (U:∀ q,f A s=some q→a=q.1):jm f cnt (i+1) J (A++[a]) O:=by
 unfold jm at*;rw[h,show cnt-i=(cnt-(i+1))+1 by omega];simp only;cases E:f A s with
 |none=>rw[mw E,h1,E];rfl
 |some q=>
  obtain⟨a',s'⟩:=q;have:=U _ E;subst this;rw[p3 E,h1,E];rfl
theorem Jh {s0:aq} {t acc:List Int} {n most W k:Int} {ai:List bG} {Z aa ab ac aj so6 J:Option aq} (h1:Z=((c0 s0).map (·.2)).map (aM (decide (64<t.length)))) (ax:∀ q,c0 s0=some q→t=q.1)
  (X:aa=((aQ 1 ah Z).map (·.2)).map (aM (decide (64<n)))) (ap:∀ q,aQ 1 ah Z=some q→n=q.1) (U:ab=(aQ 1 ah aa).map (·.2)) (hm:∀ q,aQ 1 ah aa=some q→most=q.1)
  (O:ac=((aQ 0 ah ab).map (·.2)).map (aM (decide (256<W)))) (au:∀ q,aQ 0 ah ab=some q→W=q.1) (E:aj=((aQ 1 ah ac).map (·.2)).map (aM (decide (2147483648<k)))) (av:∀ q,aQ 1 ah ac=some q→k=q.1)
  (Y:aj.bind (bZ (eb most) n.toNat [])=so6.map fun s=>(acc,s)) (V:so6.bind (bZ (fun _ s=>ck acc s) W.toNat [])=J.map fun s=>(ai,s)):fw s0=J.map fun s=>(⟨t,k,acc,ai⟩,s):=by
 unfold fw;cases ak:c0 s0 with
 |none=>
  rw[ak] at h1;subst h1;subst X;subst U;subst O;subst E;have:so6=none:=by cases so6 with|none=>rfl|some s=>cases Y
  subst this;cases J with|none=>rfl|some s=>cases V
 |some ay=>
 obtain⟨aI,ad⟩:=ay;have:=ax _ ak;subst this;rw[ak] at h1;have h1:Z=some (aM (decide (64<t.length)) ad):=h1;subst h1;simp only;have az:aQ 1 ah (some (aM (decide (64<t.length)) ad))=aS 1 ah (aM (decide (64<t.length)) ad):=rfl;rw[az] at X ap;cases al:aS 1 ah (aM (decide (64<t.length)) ad) with
 |none=>
  rw[al] at X;subst X;subst U;subst O;subst E;have:so6=none:=by cases so6 with|none=>rfl|some s=>cases Y
  subst this;cases J with|none=>rfl|some s=>cases V
 |some aA=>
 obtain⟨aJ,ae⟩:=aA;have:=ap _ al;subst this;rw[al] at X;have X:aa=some (aM (decide (64<n)) ae):=X;subst X;simp only;have aB:aQ 1 ah (some (aM (decide (64<n)) ae))=aS 1 ah (aM (decide (64<n)) ae):=rfl;rw[aB] at U hm;cases am:aS 1 ah (aM (decide (64<n)) ae) with
 |none=>
  rw[am] at U;subst U;subst O;subst E;have:so6=none:=by cases so6 with|none=>rfl|some s=>cases Y
  subst this;cases J with|none=>rfl|some s=>cases V
 |some aC=>
 obtain⟨aK,af⟩:=aC;have:=hm _ am;subst this;rw[am] at U;have U:ab=some af:=U;subst U;simp only;have aD:aQ 0 ah (some af)=aS 0 ah af:=rfl;rw[aD] at O au;cases an:aS 0 ah af with
 |none=>
  rw[an] at O;subst O;subst E;have:so6=none:=by cases so6 with|none=>rfl|some s=>cases Y
  subst this;cases J with|none=>rfl|some s=>cases V
 |some aE=>
 obtain⟨aL,ag⟩:=aE;have:=au _ an;subst this;rw[an] at O;have O:ac=some (aM (decide (256<W)) ag):=O;subst O;simp only;have aF:aQ 1 ah (some (aM (decide (256<W)) ag))=aS 1 ah (aM (decide (256<W)) ag):=rfl;rw[aF] at E av;cases ao:aS 1 ah (aM (decide (256<W)) ag) with
 |none=>
  rw[ao] at E;subst E;have:so6=none:=by cases so6 with|none=>rfl|some s=>cases Y
  subst this;cases J with|none=>rfl|some s=>cases V
 |some aG=>
 obtain⟨aN,aw⟩:=aG;have:=av _ ao;subst this;rw[ao] at E;have E:aj=some (aM (decide (2147483648<k)) aw):=E;subst E;simp only;have Y:bZ (eb most) n.toNat [] (aM (decide (2147483648<k)) aw)=so6.map fun s=>(acc,s):=Y;rw[Y];cases so6 with
 |none=>cases J with|none=>rfl|some s=>cases V
 |some aH=>
  simp only[c5];have V:bZ (fun _ s=>ck acc s) W.toNat [] aH=J.map fun s=>(ai,s):=V;rw[V];cases J <;> rfl
def mR (w:x1) (gr:Nat) (J:y0) (E:List bG):Prop:=∃ L,aT dQ 4 aL w gr J L∧E.length=L.length∧ ∀ (i:Nat) h x,L[i]? =some h→E[i]? =some x→fl w h x
def lH (w:x1) (J:Nat) (f:bu):Prop:=∃ szv gz E gr,aa w J cU [be f.name,.int .i64 f.k,szv,E]∧ak .i64 aj w gz szv f.sizes∧mR w gr E f.funs
theorem mR.ext {gr:Nat} {E:y0} {O:List bG} (h:mR w gr E O) (J:Ext w w'):mR w' gr E O:=by
 obtain⟨L,h1,U,V⟩:=h;exact⟨L,h1.ext J,U,fun i W x hi X=>(V i W x hi X).ext J⟩
theorem lH.ext {f:bu} (h:lH w E f) (J:Ext w w'):lH w' E f:=by
 obtain⟨szv,gz,O,gr,h1,U,V⟩:=h;exact⟨szv,gz,O,gr,h1.ext J,U.ext J,V.ext J⟩
def Ji (w:x1) (E:List Int) (v:y0) (w':x1):Prop:=Ext w w'∧ ∃ n e:Int,(eA E=none→v= .tuple #[.pointer none,.int .i64 n,.int .i64 e])∧ ∀ f,eA E=some f→ ∃ J,v= .tuple #[.pointer (some ⟨J,0,none⟩),.int .i64 n,.int .i64 e]∧lH w' J f
set_option maxHeartbeats 16000000 in
theorem Jj {w0:x1} {g V:Nat} {so6:Option aq} {t acc cp:List Int} {k au bad:Int} {szv p:y0} {Q:y0→x1→Prop} (dx:ad (fun r=>w0.heap.size≤r) w0 w) (cq:aa w V cU [be t,.int .i64 k,szv,.slice none 0 0]) (dy:ak .i64 aj w gz szv acc)
  (h:bh w g B bd 100000 so6) (dz:∀ s,so6=some s→h3 s∧s.toks.length≤100000∧(∀ z∈acc,1≤z∧z≤ah)∧acc.length≤100001) (fu:w0.heap.size≤g) (fv:w0.heap.size≤V) (dA:ay .u8 w0 p cp) (fw:0≤au∧au≤4611686018427387904)
  (bL:∀ v w' ae bM,Ext w0 w'→so6.bind (bZ (fun _ s=>ck acc s) au.toNat [])=bM.map (fun s=>(ae,s))→
   (∀ s,bM=some s→s.toks=[]∧¬0≤bad∧s.big=false→v= .tuple #[.pointer (some ⟨V,0,none⟩),.int .i64 (cp.length:Int),.int .i64 0]∧lH w' V ⟨t,k,acc,ae⟩)→
   ((∀ s,bM=some s→¬(s.toks=[]∧¬0≤bad∧s.big=false))→ ∃ n e:Int,v= .tuple #[.pointer none,.int .i64 n,.int .i64 e])→Q v w'):
  bS (.int .i64 0) w fun cr X dD=>
   bX (α:=y0→x1→Prop) (fun(dE:y0) (ai:x1)=>
    Split dE (du ai fun Z=>
   O x5 (bl (.pointer (some ⟨V,0,none⟩))) Z fun a8=>
   O x5 (x8 cU a8 3) Z fun ba=>
   O x5 (x6 cP ba) Z fun bN=>
   O x5 (bl (.pointer (some ⟨V,0,none⟩))) Z fun dF=>
   O x5 (x8 cU dF 2) Z fun dG=>
   O x5 (x6 an dG) Z fun dH=>
   ag x5 vp [(.pointer (some ⟨g,0,none⟩)),dH] Z fun dI aP=>
    (Ext Z aP∨bR x5 (x6 cP ba) bN aP∧bR x5 (x8 cU a8 3) ba aP∧bR x5 (bl (.pointer (some ⟨V,0,none⟩))) a8 aP∧True)∧
   aw x5 (b6 cP 1 #[(0,dI)]) aP fun dJ az=>
    (Ext Z az∨bR x5 (x6 cP ba) bN az∧bR x5 (x8 cU a8 3) ba az∧bR x5 (bl (.pointer (some ⟨V,0,none⟩))) a8 az∧True)∧
    aw x5 (l9 #[cP,cP] cP #[bN,dJ]) az fun dK bt=>
     O x5 (bl (.pointer (some ⟨V,0,none⟩))) bt fun dL=>
     O x5 (x8 cU dL 3) bt fun dM=>
     aw x5 (n0 cP dM dK) bt fun(_:Unit) bb=>
     O x5 (ax .add aj false true cr (.int .i64 1)) bb fun dN=>
   dD dN bb)
     (bX (α:=x1→Prop) (fun(ap:x1)=>
   bX (α:=x1→Prop) (fun(Y:x1)=>
    O x5 (bl (.pointer (some ⟨g,0,none⟩))) Y fun dO=>
    O x5 (x8 a6 dO 3) Y fun dP=>
    O x5 (x6 ab dP) Y fun dR=>
    O x5 (ax .neq ab false true dR (.int .i64 0)) Y fun dS=>
    Split dS (du Y fun aJ=>
     O x5 (bl (.pointer (some ⟨g,0,none⟩))) aJ fun dT=>
     O x5 (x8 a6 dT 4) aJ fun dU=>
     O x5 (x6 ab dU) aJ fun dV=>
     O x5 (bl (.pointer (some ⟨g,0,none⟩))) aJ fun dW=>
     O x5 (x8 a6 dW 3) aJ fun dX=>
     O x5 (x6 ab dX) aJ fun dY=>
     Q (.tuple #[(.pointer none),dV,dY]) aJ)
     (O x5 (bl (.pointer (some ⟨g,0,none⟩))) Y fun dZ=>
    O x5 (x8 a6 dZ 5) Y fun ea=>
    O x5 (x6 ab ea) Y fun eb=>
    O x5 (ax .neq ab false true eb (.int .i64 0)) Y fun ec=>
    Split ec (du Y fun aM=>
     O x5 (bl (.pointer (some ⟨g,0,none⟩))) aM fun ee=>
     O x5 (x8 a6 ee 6) aM fun ef=>
     O x5 (x6 ab ef) aM fun eg=>
     O x5 (bl (.pointer (some ⟨g,0,none⟩))) aM fun ei=>
     O x5 (x8 a6 ei 5) aM fun ej=>
     O x5 (x6 ab ej) aM fun ek=>
     Q (.tuple #[(.pointer none),eg,ek]) aM)
     (O x5 (Y4 #[b5] ab #[p]) Y fun em=>
    Q (.tuple #[(.pointer (some ⟨V,0,none⟩)),em,(.int .i64 0)]) Y))) fun ct=>
   bX (α:=y0→x1→Prop) (fun(en:y0) (bu:x1)=>
    Split en (ag x5 kW [(.pointer (some ⟨g,0,none⟩)),(.int .i64 11),(.int .i64 bad)] bu fun fx cu=>
     ct cu)
     (ct bu)) fun cw=>
   O x5 (bl (.pointer (some ⟨g,0,none⟩))) ap fun eo=>
   O x5 (x8 a6 eo 3) ap fun ep=>
   O x5 (x6 ab ep) ap fun er=>
   O x5 (ax .eql ab false true er (.int .i64 0)) ap fun es=>
   Split es (O x5 (ax .geq ab false true (.int .i64 bad) (.int .i64 0)) ap fun et=>
   cw et ap)
    (cw (.bool false) ap)) fun cz=>
  bX (α:=y0→x1→Prop) (fun(eu:y0) (aA:x1)=>
   Split eu (O x5 (bl (.pointer (some ⟨g,0,none⟩))) aA fun ev=>
    O x5 (x8 a6 ev 0) aA fun ew=>
    O x5 (x6 eh ew) aA fun ey=>
    O x5 (j9 eh ey (.int .i64 0)) aA fun ez=>
    O x5 (x8 bI ez 1) aA fun eA=>
    O x5 (x6 ab eA) aA fun eB=>
    ag x5 kW [(.pointer (some ⟨g,0,none⟩)),(.int .i64 4),eB] aA fun fy bO=>
    cz bO)
    (cz aA)) fun cA=>
  O x5 (bl (.pointer (some ⟨g,0,none⟩))) ai fun eC=>
  O x5 (x8 a6 eC 3) ai fun eD=>
  O x5 (x6 ab eD) ai fun eE=>
  O x5 (ax .eql ab false true eE (.int .i64 0)) ai fun eF=>
  Split eF (O x5 (bl (.pointer (some ⟨g,0,none⟩))) ai fun eH=>
  O x5 (x8 a6 eH 0) ai fun eI=>
  O x5 (x6 eh eI) ai fun eJ=>
  O x5 (Y4 #[eh] ab #[eJ]) ai fun eK=>
  O x5 (ax .gtr ab false true eK (.int .i64 0)) ai fun eL=>
  cA eL ai)
   (cA (.bool false) ai))) fun cB=>
   O x5 (ax .lss aj false false cr (.int .i64 au)) X fun eM=>
   Split eM (O x5 (bl (.pointer (some ⟨g,0,none⟩))) X fun eN=>
   O x5 (x8 a6 eN 3) X fun eO=>
   O x5 (x6 ab eO) X fun eP=>
   O x5 (ax .eql ab false true eP (.int .i64 0)) X fun eR=>
   cB eR X)
    (cB (.bool false) X):=by
 have cC:V≠g:=fun he=>by
  obtain⟨aQ,aN,aO,bad,aS,big,aU,told,sv,W,_⟩:=gd h;subst he;exact absurd (ed W cq) (by decide)
 refine⟨fun bP X=>∃ i:Nat,bP= .int .i64 (i:Int)∧i≤au.toNat∧ad (fun r=>w0.heap.size≤r) w0 X∧ ∃ al gr ae so,∃ H:am,aa X V cU [be t,.int .i64 k,szv,al]∧ak .i64 aj X gz szv acc∧mR X gr al ae∧(∀ r,leadsTo al r→w0.heap.size≤r∧¬H r)∧¬H V∧(∀ r,leads szv r→¬H r)∧(∀ r,H r→w0.heap.size≤r)∧bh X g X.heap.size H 100001 so∧jm (fun _ s=>ck acc s) au.toNat i so6 ae so∧
   ∀ s,so=some s→h3 s∧ae.length+s.toks.length≤100000∧(∀ z∈acc,1≤z∧z≤ah)∧acc.length≤100001,fun bP _=>au.toNat-(bk bP).toNat,
  ⟨0,rfl,Z5 _,dx,_,0,[],so6,bd,cq,dy,⟨[],aT.nil _ _ _ _ _,rfl,fun i h x hi=>by simp at hi⟩,fun r E=>(ds E).elim,id,fun r _ h=>h,fun r h=>h.elim,h.base.up (by omega),?_,fun s ao=>?_⟩,?_⟩
 ·unfold jm;cases so6 <;> rfl
 ·obtain⟨eS,eT,a3,a4⟩:=dz s ao;exact⟨eS,by simpa using eT,a3,a4⟩
 rintro _ X ⟨i,rfl,hi,bw,al,gr,ae,so,H,cD,cE,cG,bc,bQ,eU,cH,aH,bT,eV⟩;refine aI (fun v ai=>X=ai∧((v= .bool true∧i<au.toNat∧ ∃ s,so=some s)∨(v= .bool false∧(so=none∨i=au.toNat)))) ?_ ?_
 rotate_left
 ·intro fz bU;rw[aC,af];refine⟨fun cI=>?_,fun fA=>bU _ _ ⟨rfl,.inr ⟨rfl,.inr (by omega)⟩⟩⟩;rw[jl aH];cases so with
  |none=>exact bU _ _ ⟨rfl,.inr ⟨rfl,.inl rfl⟩⟩
  |some s=>exact bU _ _ ⟨rfl,.inl ⟨rfl,by omega,s,rfl⟩⟩
 rintro _ _ ⟨rfl,⟨rfl,cI,s,rfl⟩|⟨rfl,eW⟩⟩
 ·
  rw[bq];intro Z aV _ _;obtain⟨cJ,fB,cK,cL⟩:=eV s rfl;have bf:=cD.ext aV;obtain⟨eX,cM,bg,cN⟩:=(aH.ext aV).low.shrink;have bV:=cE.ext aV;have eY:=cG.ext aV;rw[aD cU.p 3 bf rfl,aD cU.p 2 bf rfl];refine (Je cM bV cK cL (fun r E=>by obtain⟨c,W⟩:=cN r E;exact W.lt) cJ).mono ?_;rintro _ aP _ ⟨bW,x,cO,aW,rfl,cQ,eZ,e0,fD,cR,e1⟩;have cS:∃ c,aa Z g a6 c:=by obtain⟨aQ,aN,aO,bad,aS,big,aU,told,sv,W,_⟩:=gd cM;exact⟨_,W⟩
  have cT:∀ r,(r=g∨eX r)→fC Z r∨Z.heap.size≤r:=fun r E=>by
   rcases E with rfl|E
   ·obtain⟨c,W⟩:=cS;exact .inl ⟨_,c,W,by decide,by decide⟩
   ·obtain⟨c,W⟩:=cN r E;exact .inl ⟨_,c,W,by decide,by decide⟩
  have bY:=bf.U aW fun E=>E.elim (fun he=>cC he) fun E=>bQ (bg _ E);have st:∀ {w':x1},aa w' V cU [be t,.int .i64 k,szv,al]→bR x5 (x6 cP (.pointer (some ⟨V,0+3,none⟩))) al w'∧bR x5 (x8 cU (.pointer (some ⟨V,0,none⟩)) 3) (.pointer (some ⟨V,0+3,none⟩)) w'∧bR x5 (bl (.pointer (some ⟨V,0,none⟩))) (.pointer (some ⟨V,0,none⟩)) w'∧True:=fun W=>
   ⟨wr (by kernel_rfl) (W.cell (o:=0+3) rfl),lq (by rw[aF cU.p rfl]),lq (by rw[bB]),trivial⟩
  refine⟨.inr (st bY),?_⟩;refine eQ (f:=dQ) (a:=bW) cP.u aL.i (by omega) rfl rfl fun fE fF az fG aE e2=>?_;refine⟨.inr (st (bY.ext aE)),?_⟩;obtain⟨L,aX,b1,b2⟩:=id eY;have e3:aT dQ 4 aL aP gr al L:=aX.U aW fun r E ao=>ao.elim (fun he=>by
   obtain⟨c,W⟩:=cS;subst he;exact cb aX W (by decide) E) fun ao=>(bc r E).2 (bg r ao)
  have b3:=e3.ext aE;refine ff (f:=dQ) (a:=bW) cP.u aL.i rfl b3 (by simpa using e2.sl) (cQ.ext aE).one (by omega) (by omega) fun cV e4 bt bx e5 cW=>?_;have b4:=bY.ext aE;have cY:=b4.U cW fun he=>cb b3 b4 (by decide) he;rw[bB,aF cU.p rfl];refine aY (g:=V) (o:=3) cP.i (cF bx.sl).1 (cF bx.sl).2 cY (by simp) fun bb cZ fH b7=>?_;have b7:aa bb V cU [be t,.int .i64 k,szv,cV]:=b7;have fI:i≤4611686018427387904:=by omega
  rw[aB,wrap_i64 (by omega) (by omega)];have aZ:ad (fun r=>leadsTo al r∨r=V) az bb:=(cW.mono fun r _ h=>.inl h).trans (cZ.mono fun r _ h=>.inr h);have c0:∀ r,(leadsTo al r∨r=V)→ ∃ e c,aa az r e c∧e≠aj∧e≠bA∧e≠bI∧e≠a6:=fun r E=>by
   rcases E with E|rfl
   ·obtain⟨rfl,c,W⟩:=c3 b3 E;exact⟨_,c,W,by decide,by decide,by decide,by decide⟩
   ·exact⟨_,_,b4,by decide,by decide,by decide,by decide⟩
  have b8:∀ r,(leadsTo al r∨r=V)→fC az r∨az.heap.size≤r:=fun r E=>by
   obtain⟨e,c,W,b9,ca,_⟩:=c0 r E;exact .inl ⟨e,c,W,b9,ca⟩
  have fJ:=aV.size;have fK:=aW.size;have fL:=aE.size;have fM:=aZ.size;have c1:∀ r,leadsTo al r→r<Z.heap.size:=fun r E=>by obtain⟨aN,aO⟩:=aX.leads E;omega
  have bi:∀ r,r<Z.heap.size→¬H r→¬cO r:=fun r E e6 cc=>(cR r cc).elim (fun h=>e6 (bg r h)) fun h=>by omega
  have e7:∀ r,leads szv r→r<Z.heap.size:=fun r E=>by obtain⟨aN,aO⟩:=bp bV E;omega
  refine⟨⟨i+1,rfl,by omega,?_,cV,e4,ae++[x],_,cO,b7,dC ((dC bV aW cT).ext aE) aZ b8,⟨L++[bW],bx.U cZ fun r E he=>?_,by rw[u7,u7,b1];rfl,fun j c2 e8 a1 bm=>?_⟩,fun r E=>?_,bi V bf.lt bQ,fun r E=>bi r (e7 r E) (eU r E),fun r E=>?_,?_,bT.step cI rfl fun q ac=>e0 q ac,fun s' aG=>?_⟩,by simp only[bk];omega⟩
  ·refine (((bw.trans (aV.U _)).trans (aW.mono fun r _ h=>?_)).trans (aE.U _)).trans (aZ.mono fun r _ h=>?_)
   ·exact h.elim (fun h=>by omega) fun h=>cH r (bg r h)
   ·exact h.elim (fun h=>(bc r h).1) fun h=>by omega
  ·have he:r=V:=he;subst he;exact cb bx cY (by decide) E
  ·by_cases e9:j<L.length
   ·rw[Z4 e9] at a1;rw[Z4 (by omega)] at bm;exact (((b2 j c2 e8 a1 bm).da aW cT).ext aE).da aZ b8
   ·rw[Z7 (by omega)] at a1;rw[Z7 (by omega)] at bm;have fa:j-L.length=0:=by have:=(x3.1 a1).1;simp at this;omega
    have fb:j-ae.length=0:=by omega
    rw[fa] at a1;rw[fb] at bm;cases a1;cases bm;exact (cQ.ext aE).da aZ b8
  ·rcases e5 r E with h|h
   ·exact⟨(bc r h).1,bi r (c1 r h) (bc r h).2⟩
   ·exact⟨by have:=bw.size;omega,fun cc=>by have:=e1 r cc;omega⟩
  ·rcases cR r E with h|h
   ·exact cH r (bg r h)
   ·have:=bw.size;omega
  ·refine (eZ.ext aE).da aZ fun r E=>.inl ?_;obtain⟨e,c,W,b9,ca,fc,fd⟩:=c0 r E;refine⟨e,c,W,b9,ca,fc,fd,?_⟩;rcases E with E|rfl
   ·exact bi r (c1 r E) (bc r E).2
   ·exact bi _ bf.lt bQ
  ·cases cd:ck acc s with
   |none=>rw[cd] at aG;cases aG
   |some q=>
    obtain⟨fN,c4⟩:=q;rw[cd] at aG;cases aG;obtain⟨fO,fe⟩:=Jg cd;refine⟨fe cJ,?_,cK,cL⟩;rw[u7];simp only[V5];omega
 ·
  rw[aR];have ce:so6.bind (bZ (fun _ s=>ck acc s) au.toNat [])=so.map fun s=>(ae,s):=by
   unfold jm at bT;rw[bT];cases so with
   |none=>rfl
   |some s=>
    rcases eW with h|rfl
    ·cases h
    ·simp only[X9];rfl
  have row:∀ {w':x1},ad (fun r=>r=g) X w'→mR w' gr al ae∧aa w' V cU [be t,.int .i64 k,szv,al]∧ak .i64 aj w' gz szv acc:=fun bz=>by
   obtain⟨aQ,aN,aO,bad,aS,big,aU,told,sv,W,_⟩:=gd aH;have c5:∀ r,r=g→fC X r∨X.heap.size≤r:=fun r E=>by subst E;exact .inl ⟨_,_,W,by decide,by decide⟩
   obtain⟨L,aX,b1,b2⟩:=id cG;refine⟨⟨L,aX.U bz fun r E he=>?_,b1,fun i h x hi J=>(b2 i h x hi J).da bz c5⟩,cD.U bz fun he=>cC he,dC cE bz c5⟩;have he:r=g:=he;subst he;exact cb aX W (by decide) E
  refine cX (fun ap=>ad (fun r=>r=g) X ap∧bh ap g X.heap.size H 100001 (so.bind fun s=>if s.toks=[] then some s else none)) ?_ ?_
  rotate_left
  ·intro fP c6;refine aI (fun v aA=>X=aA∧ ∃ b:Bool,v= .bool b∧(b=true→ ∃ s,so=some s∧s.toks≠[])∧(b=false→ ∀ s,so=some s→s.toks=[])) ?_ ?_
   ·rintro _ _ ⟨rfl,b,rfl,cg,ch⟩;cases b with
    |true=>
     obtain⟨s,rfl,bC⟩:=cg rfl;rw[bq];obtain⟨c7,c8,aQ,bn,gs,sv,L,c9,aN,aO,ci,aS,big,aU,told,db,bD,bE,a2,bF,dc,dd,de,bG,df,dg,bH,dh,di,dj⟩:=id aH;obtain⟨⟨cj,fg⟩,_⟩:=bF.g bD bE;obtain⟨x,fQ,rfl⟩:∃ x l,bn=x::l:=by
      cases bn with
      |nil=>exact absurd bH.symm (by simpa using bC)
      |cons x l=>exact⟨x,l,rfl⟩
     rw[aD a6.p 0 a2 rfl];refine zx cj fun b o fh=>?_;rw[aF bI.p rfl,av (by kernel_rfl) (fh 1 _ rfl)];refine (lG aH (by omega)).mono ?_;rintro _ bO _ ⟨fi,fj⟩;refine c6 _ ⟨fi,?_⟩;show bh bO g _ H 100001 (if s.toks=[] then some s else none);rw[if_neg bC];exact fj
    |false=>
     rw[aR];refine c6 _ ⟨ad.refl _ _,?_⟩;cases so with
     |none=>exact aH
     |some s=>
      show bh _ g _ H 100001 (if s.toks=[] then some s else none);rw[if_pos (ch rfl s rfl)];exact aH
   ·intro fR dk;rw[jl aH];cases so with
    |none=>
     rw[Option.isSome_none,aR];exact dk _ _ ⟨rfl,false,rfl,(fun h=>by cases h),fun _ s ao=>by cases ao⟩
    |some s=>
     rw[Option.isSome_some,bq];obtain⟨c7,c8,aQ,bn,gs,sv,L,c9,aN,aO,ci,aS,big,aU,told,db,bD,bE,a2,bF,dc,dd,de,bG,df,dg,bH,dh,di,dj⟩:=id aH;obtain⟨⟨cj,fg⟩,_⟩:=bF.g bD bE;rw[aD a6.p 0 a2 rfl,zw cj,br];have fS:bn.length=s.toks.length:=by rw[←bH,r8]
     refine dk _ _ ⟨rfl,_,rfl,fun h=>⟨s,rfl,fun bo=>?_⟩,fun h s' aG=>?_⟩
     ·have:=of_decide_eq_true h;have c2:s.toks.length=0:=by rw[bo];rfl
      omega
     ·cases aG;have:=of_decide_eq_false h;exact o9 (by omega)
  rintro ap ⟨dl,cl⟩;refine cX (fun Y=>ad (fun r=>r=g) X Y∧bh Y g X.heap.size H 100001 (so.bind fun s=>if s.toks=[]∧¬0≤bad then some s else none)) ?_ ?_
  rotate_left
  ·intro fT dm;refine aI (fun v bu=>ap=bu∧ ∃ b:Bool,v= .bool b∧(b=true→(so.bind fun s=>if s.toks=[]∧¬0≤bad then some s else none)=none)∧(b=false→(so.bind fun s=>if s.toks=[]∧¬0≤bad then some s else none)=so.bind fun s=>if s.toks=[] then some s else none)) ?_ ?_
   ·rintro _ _ ⟨rfl,b,rfl,cg,ch⟩;cases b with
    |true=>
     rw[bq];refine (lG cl (by omega)).mono ?_;rintro _ cu _ ⟨fk,fm⟩;exact dm _ ⟨dl.trans fk,by rw[cg rfl];exact fm⟩
    |false=>
     rw[aR];exact dm _ ⟨dl,by rw[ch rfl];exact cl⟩
   ·intro fU dn;rw[jl cl];cases ac:(so.bind fun s=>if s.toks=[] then some s else none) with
    |none=>
     rw[Option.isSome_none,aR];refine dn _ _ ⟨rfl,false,rfl,(fun h=>by cases h),fun _=>?_⟩;cases so with
     |none=>rfl
     |some s=>
      have ac:(if s.toks=[] then some s else none)=none:=ac;show (if s.toks=[]∧¬0≤bad then some s else none)=(if s.toks=[] then some s else none);rw[ac];split at ac
      ·cases ac
      ·rename_i bC;rw[if_neg (fun h=>bC h.1)]
    |some s=>
     rw[Option.isSome_some,bq,cn];refine dn _ _ ⟨rfl,_,rfl,fun h=>?_,fun h=>?_⟩
     ·have bo:=of_decide_eq_true h;cases so with
      |none=>rfl
      |some s=>exact if_neg fun h=>h.2 bo
     ·have bo:=of_decide_eq_false h;cases so with
      |none=>rfl
      |some s=>
       show (if s.toks=[]∧¬0≤bad then some s else none)=(if s.toks=[] then some s else none);by_cases ao:s.toks=[]
       ·rw[if_pos ao,if_pos ⟨ao,bo⟩]
       ·rw[if_neg ao,if_neg fun h=>ao h.1]
  rintro Y ⟨dp,bJ⟩;obtain⟨fo,fp,fq⟩:=row dp;have fs:ad (fun r=>w0.heap.size≤r) w0 Y:=bw.trans (dp.mono fun r _ h=>by have h:r=g:=h;omega);have bK:Ext w0 Y:=fs.ext fun r E he=>by omega
  rw[oq bJ];cases ac:(so.bind fun s=>if s.toks=[]∧¬0≤bad then some s else none) with
  |none=>
   rw[Option.isSome_none,Y9,bq];intro aJ dq _ _;obtain⟨aQ,aN,aO,ci,aS,big,aU,told,sv,W,_⟩:=gd (bJ.ext dq);rw[aD a6.p 4 W rfl,aD a6.p 3 W rfl];refine bL _ _ ae so (bK.trans dq) ce (fun s ao a7=>?_) fun _=>⟨_,_,rfl⟩;subst ao;have ac:(if s.toks=[]∧¬0≤bad then some s else none)=none:=ac;rw[if_pos ⟨a7.1,a7.2.1⟩] at ac;cases ac
  |some s=>
   rw[ac] at bJ;rw[Option.isSome_some,Y0,aR];obtain⟨s',rfl,aG⟩:∃ s',so=some s'∧(if s'.toks=[]∧¬0≤bad then some s' else none)=some s:=by
    cases so with
    |none=>cases ac
    |some s'=>exact⟨s',rfl,ac⟩
   split at aG
   ·rename_i dr;cases aG;obtain⟨c7,c8,aQ,bn,gs,sv,L,c9,aN,aO,ci,aS,big,aU,told,db,bD,bE,a2,bF,dc,dd,de,bG,df,dg,bH,dh,di,dj⟩:=id bJ;rw[aD a6.p 5 a2 rfl,bj,af];refine⟨fun cm=>?_,fun cm=>?_⟩
    ·intro aM dt _ _;have dv:=a2.ext dt;rw[aD a6.p 6 dv rfl,aD a6.p 5 dv rfl];refine bL _ _ ae _ (bK.trans dt) ce (fun c4 dw a7=>?_) fun _=>⟨_,_,rfl⟩;cases dw;rw[bG.1 cm] at a7;cases a7.2.2
    ·rw[aK b5.u (dA.ext bK)];refine bL _ _ ae _ bK ce (fun c4 dw a7=>⟨rfl,szv,gz,al,gr,fp,fq,fo⟩) fun ft=>?_;refine absurd ⟨dr.1,dr.2,?_⟩ (ft s rfl);cases W:s.big with
     |false=>rfl
     |true=>exact absurd (bG.2 W) cm
   ·cases aG
def Zero (so:Option aq):Prop:=∀ s,so=some s→s.told=0∧s.toks.length≤100000
theorem Zero.big {so:Option aq} (h:Zero so) (b:Bool):Zero (so.map (aM b)):=fun s E=>by
 cases so with
 |none=>cases E
 |some s0=>cases E;exact h s0 rfl
theorem zero_num {lo hi:Int} {so:Option aq} (h:Zero so):Zero ((aQ lo hi so).map (·.2)):=fun s E=>by
 cases so with
 |none=>cases E
 |some s0=>
  have E:X3 (fun x=>x.2) (aS lo hi s0)=some s:=E;cases J:aS lo hi s0 with
  |none=>rw[J] at E;cases E
  |some q=>
   obtain⟨n,U⟩:=q;rw[J] at E;cases E;have O:=cB J;have:=O.1;obtain⟨h1,V⟩:=h s0 rfl;exact⟨O.eqs.1.trans h1,by show U.toks.length≤100000;omega⟩
theorem Jk {so:Option aq} (h:Zero so):Zero ((hA so).map (·.2)):=fun s E=>by
 cases so with
 |none=>cases E
 |some s0=>
  have E:X3 (fun x=>x.2) (c0 s0)=some s:=E;cases J:c0 s0 with
  |none=>rw[J] at E;cases E
  |some q=>
   obtain⟨n,O⟩:=q;rw[J] at E;cases E;obtain⟨U,V⟩:=nL J;obtain⟨h1,W⟩:=h s0 rfl;have:s0.toks.length=O.toks.length+1:=by rw[U];rfl
   exact⟨by show O.told=0;rw[V];exact h1,by show O.toks.length≤100000;omega⟩
theorem Jl {E:List Int} {so:Option aq} {f:bu} (h:fw ⟨(lex E).1,0,false,[]⟩=so.map fun s=>(f,s)) (J:¬65536<E.length):eA E=so.bind fun s=>if s.toks=[]∧(lex E).2=true∧s.big=false then some f else none:=by
 unfold eA;rw[if_neg J,h];cases so <;> rfl
theorem Jm {E:List Int} (J:E.length≤60000):(∀ t∈(lex E).1,Bytes t∧t.length≤65536)∧(lex E).1.length≤60000:=by
 refine⟨fun t O=>?_,Z3 (mj E.length E (r9 _)) J⟩;obtain⟨_,U,W⟩:=pF E.length E (r9 _) t O;refine⟨fun b V=>?_,by omega⟩;have:=of_decide_eq_true (U b V);omega
set_option maxHeartbeats 16000000 in
theorem zH {p:y0} {X:List Int} (aX:ay .u8 w p X) (cT:Bytes X) (cV:X.length≤60000):ag x5 Bw [p] w (Ji w X):=by
 obtain⟨cW,ej⟩:=Jm cV;refine ap func24 ?_;rw[aK b5.u aX,br,af];refine⟨fun h=>by omega,fun _=>?_⟩;refine (I6 aX cT (by omega)).mono ?_;rintro _ ek _ ⟨bm,a1,bN,bad,rfl,bO,bQ,cY,em,bR⟩;rw[a8,ba,aK b5.u (aX.ext bm),ct (cs:=#[a1,.int .i64 (X.length:Int),.int .i64 4,.int .i64 0,.int .i64 0,.int .i64 0,.int .i64 0,.int .i64 0,.slice none 0 0]) (by obtain⟨_,_,_,_,_,rfl,_⟩:=bO;kernel_rfl)];refine a7 fun g V en a2 aG=>?_;have aG:aa V g a6 (fa a1 (X.length:Int) 4 0 0 0 0 0 (.slice none 0 0)):=aG;have eo:=bm.size;have ep:=a2.size;have er:=aG.lt;refine cX (fun Y=>Ext w Y∧ad (fun r=>r=g) V Y∧ ∃ aH aJ:Int,aJ≠0∧aa Y g a6 (fa a1 aH aJ 0 0 0 0 0 (.slice none 0 0))) ?_ ?_
 rotate_left
 ·intro cZ aA;have bS:=bm.trans a2;rw[cn,af];refine⟨fun _=>?_,fun _=>aA _ ⟨bS,ad.refl _ _,_,_,by omega,aG⟩⟩;rw[bB,aF a6.p rfl];refine aY (g:=g) (o:=1) ab.i rfl rfl aG (by simp[fa]) fun es c0 et c1=>?_;rw[bB,aF a6.p rfl];refine aY (g:=g) (o:=2) ab.i rfl rfl c1 (by simp[fa]) fun eu c2 ev c3=>?_;have Z:=c0.trans c2;exact aA _ ⟨bS.then Z fun r E he=>by have he:r=g:=he;omega,Z,bad,11,by omega,c3⟩
 rintro Y ⟨bT,bn,aH,aJ,c4,bU⟩;have z3:=bn.size;have c5:bh Y g Y.heap.size bd 100000 (some ⟨(lex X).1,0,false,[]⟩):=by
  refine⟨r9 _,Y,a1,bN,0,_,[],[],aH,aJ,0,0,0,0,0,rfl,ad.refl _ _,⟨_,bU⟩,bU,⟨⟨?_,fun r E=>?_⟩,aT.nil _ _ _ _ _,rfl,fun i h x hi=>by simp at hi⟩,fun r E=>ds E,rfl,c4,by simp,fun _=>rfl,trivial,bQ,cW,rfl,?_⟩
  ·refine (bO.U (a2.U fun _=>False) fun _ _ h=>h).U bn fun r E he=>?_;have he:r=g:=he;obtain⟨c,au⟩:=bR r E;have:=au.lt;omega
  ·obtain⟨c,au⟩:=bR r E;exact⟨c,(au.ext a2).U bn fun he=>by have he:r=g:=he;have:=au.lt;omega⟩
  ·have:bN.length=(lex X).1.length:=by rw[←bQ,r8]
   simp only[List.length_nil];omega
 have ew:∀ {az:x1} {c6 N:Nat} {H:am} {so:Option aq},bh az g c6 H N so→True:=fun _=>trivial;rw[ct (cs:=#[be [],.int .i64 0,.slice none 0 0,.slice none 0 0]) (by kernel_rfl)];refine a7 fun O c7 ey bo bb=>?_;have bb:aa c7 O cU [be [],.int .i64 0,.slice none 0 0,.slice none 0 0]:=bb;have ez:Y.heap.size≤O:=by omega
 have eB:=bb.lt;have c8:O≠g:=by omega
 have ai:∀ {az aL:x1} {c:List y0},aa az O cU c→ad (fun r=>r=g) az aL→aa aL O cU c:=fun au Z=>au.U Z fun he=>c8 he;refine (zy (c5.ext bo)).mono ?_;rintro _ c9 _ ⟨⟨bp,da⟩,t,bV,rfl,eC,eD,db⟩;refine bg bI.i fun bW eE eF dc dd=>?_;refine bP (vs:=[be t,.int .i64 bV]) bI.i rfl rfl (by intro v ac;simp at ac;rcases ac with rfl|rfl <;> rfl) dd fun de df eH bX=>?_;have bc:Ext c9 de:=dc.put df (by omega);have dg:=(ai bb bp).ext bc;rw[aP bI.p 0 bX rfl,bB,aF cU.p rfl];refine aY (g:=O) (o:=0) bY.i rfl rfl dg (by simp) fun bt bu eI bw=>?_;have bw:aa bt O cU [be t,.int .i64 0,.slice none 0 0,.slice none 0 0]:=bw;have dh:=(da.ext bc).new bu fun r E=>by have E:r=O:=E;omega
 have z4:=bo.size;have z5:=bp.size;have eJ:=bc.size;have b1:aa bt bW bI [be t,.int .i64 bV]:=bX.U bu fun he=>by have he:bW=O:=he;omega
 rw[aP bI.p 0 b1 rfl,lb bY.u,br,aP bI.p 1 b1 rfl];have di:ad (fun r=>w.heap.size≤r) w bt:=((((bT.U _).trans (bo.U _)).trans (bp.mono fun r _ h=>by have h:r=g:=h;omega)).trans (bc.U _)).trans (bu.mono fun r _ h=>by have h:r=O:=h;omega);have up:∀ {az aL:x1},ad (fun r=>w.heap.size≤r) w az→ad (fun r=>r=g) az aL→ad (fun r=>w.heap.size≤r) w aL:=fun h k=>h.trans (k.mono fun r _ h=>by have h:r=g:=h;omega);refine (kD dh).mono ?_;rintro _ eK _ ⟨b2,aN⟩;have dj:=up di b2;have dk:=ai bw b2;generalize bx:(((hA (some ⟨(lex X).1,0,false,[]⟩)).map (·.2)).map (aM (decide ((64:Int)<(t.length:Int)))))=bz at aN;refine (iy aN).mono ?_;rintro _ eL _ ⟨⟨b3,dl⟩,n,eM,rfl,b4,dm⟩;rw[a8,ba,br];refine (kD dl).mono ?_;rintro _ eN _ ⟨b6,b7⟩;have dn:=up (up dj b3) b6;have dp:=ai (ai dk b3) b6;generalize b8:((aQ 1 4611686018427387904 bz).map (·.2)).map (aM (decide (64<n)))=bA at b7;refine (iy b7).mono ?_;rintro _ eO _ ⟨⟨b9,ca⟩,most,eP,rfl,hm,dq⟩;rw[a8,ba];generalize cb:(aQ 1 4611686018427387904 bA).map (·.2)=bC at ca;refine (iy ca).mono ?_;rintro _ eQ _ ⟨⟨cc,dr⟩,bD,eR,rfl,cd,dt⟩;rw[a8,ba,br];refine (kD dr).mono ?_;rintro _ eS _ ⟨ce,cg⟩;generalize ch:((aQ 0 4611686018427387904 bC).map (·.2)).map (aM (decide (256<bD)))=ci at cg;refine (iy cg).mono ?_;rintro _ eT _ ⟨⟨cj,du⟩,k,eU,rfl,dv,eV⟩;rw[a8,ba,br];refine (kD du).mono ?_;rintro _ eW _ ⟨ck,cl⟩;generalize cm:((aQ 1 4611686018427387904 ci).map (·.2)).map (aM (decide (2147483648<k)))=aO at cl;have dw:=up (up (up (up (up dn b9) cc) ce) cj) ck;have dx:=ai (ai (ai (ai (ai dp b9) cc) ce) cj) ck;rw[bB,aF cU.p rfl];refine aY (g:=O) (o:=1) aj.i rfl rfl dx (by simp) fun cp cq eX bF=>?_;have bF:aa cp O cU [be t,.int .i64 k,.slice none 0 0,.slice none 0 0]:=bF;have dy:=cl.new cq fun r E=>by have E:r=O:=E;omega
 have cr:ad (fun r=>w.heap.size≤r) w cp:=dw.trans (cq.mono fun r _ h=>by have h:r=O:=h;omega);have eY:0≤n∧n≤4611686018427387904:=by
  cases W:aQ 1 4611686018427387904 bz with
  |none=>have:=dm W;omega
  |some q=>have aN:=b4 q W;have:=kz (n:=q.1) (s':=q.2) W;omega
 have eZ:0≤most∧most≤4611686018427387904:=by
  cases W:aQ 1 4611686018427387904 bA with
  |none=>have:=dq W;omega
  |some q=>have aN:=hm q W;have:=kz (n:=q.1) (s':=q.2) W;omega
 have dz:0≤bD∧bD≤4611686018427387904:=by
  cases W:aQ 0 4611686018427387904 bC with
  |none=>have:=dt W;omega
  |some q=>have aN:=cd q W;have:=kz (n:=q.1) (s':=q.2) W;omega
 have dA:Zero (some (⟨(lex X).1,0,false,[]⟩:aq)):=fun s av=>by cases av;exact⟨rfl,by simp only;omega⟩
 have dD:Zero bz:=by rw[←bx];exact (Jk dA).big _
 have dE:Zero bA:=by rw[←b8];exact (zero_num dD).big _
 have dF:Zero bC:=by rw[←cb];exact zero_num dE
 have dG:Zero ci:=by rw[←ch];exact (zero_num dF).big _
 have cu:Zero aO:=by rw[←cm];exact (zero_num dG).big _
 have e0:=cr.size;refine⟨fun bG aw=>∃ i:Nat,bG= .int .i64 (i:Int)∧i≤n.toNat∧ad (fun r=>w.heap.size≤r) w aw∧ ∃ szv gz acc so,aa aw O cU [be t,.int .i64 k,szv,.slice none 0 0]∧ak .i64 aj aw gz szv acc∧(∀ r,leads szv r→Y.heap.size≤r)∧bh aw g Y.heap.size bd 100000 so∧jm (eb most) n.toNat i aO acc so∧ ∀ s,so=some s→s.told=0∧acc.length+s.toks.length≤100000∧ ∀ z∈acc,1≤z∧z≤ah,fun bG _=>n.toNat-(bk bG).toNat,
  ⟨0,rfl,Z5 _,cr,_,0,[],aO,bF,ak.nil _ _ _ _,(fun r E=>by obtain⟨a,bf,c,aH,aJ⟩:=E;cases aH),dy,?_,fun s av=>⟨(cu s av).1,by simpa using (cu s av).2,fun z dH=>by cases dH⟩⟩,?_⟩
 ·unfold jm;cases aO <;> rfl
 rintro _ aw ⟨i,rfl,hi,bH,szv,gz,acc,so,cw,cz,cA,aU,bJ,cC⟩;refine aI (fun v dI=>aw=dI∧((v= .bool true∧i<n.toNat∧ ∃ s,so=some s)∨(v= .bool false∧(so=none∨i=n.toNat)))) ?_ ?_
 rotate_left
 ·intro cZ aA;rw[aC,af];refine⟨fun cD=>?_,fun e1=>aA _ _ ⟨rfl,.inr ⟨rfl,.inr (by omega)⟩⟩⟩;rw[jl aU];cases so with
  |none=>exact aA _ _ ⟨rfl,.inr ⟨rfl,.inl rfl⟩⟩
  |some s=>exact aA _ _ ⟨rfl,.inl ⟨rfl,by omega,s,rfl⟩⟩
 rintro _ _ ⟨rfl,⟨rfl,cD,s,rfl⟩|⟨rfl,dJ⟩⟩
 ·rw[bq];obtain⟨dK,e2,dL⟩:=cC s rfl;refine (iy aU).mono ?_;rintro _ e3 _ ⟨⟨dN,dO⟩,z,e4,rfl,bK,e5⟩;rw[a8,ba,br];refine (kD dO).mono ?_;rintro _ e6 _ ⟨dP,dQ⟩;have bi:=dN.trans dP;have cE:=ai cw bi;have dR:∀ r,r=g→fC aw r∨aw.heap.size≤r:=fun r E=>(iz aU r E).imp (fun⟨e,c,au,dS,dT,_⟩=>⟨e,c,au,dS,dT⟩) id;have cF:=dC cz bi dR;rw[aD cU.p 2 cE rfl];refine dM an.u aj.i rfl fun a22 e7 dU e8 aE dV=>?_;refine gb an.u aj.i rfl (cF.ext aE) dV.ls (by simp;omega) (by simp;omega) fun cG dW e9 bj dX cH=>?_;have cI:=cE.ext aE;have cJ:=cI.U cH fun he=>bE (cF.ext aE) cI (by decide) he rfl;rw[bB,aF cU.p rfl];refine aY (g:=O) (o:=2) an.i bj.ls.cells.1 bj.ls.cells.2 cJ (by simp) fun cK cL fb bL=>?_;have bL:aa cK O cU [be t,.int .i64 k,cG,.slice none 0 0]:=bL;rw[aB,wrap_i64 (by omega) (by omega)];have cM:ad (fun r=>leads szv r∨r=O) dU cK:=(cH.mono fun r _ h=>.inl h).trans (cL.mono fun r _ h=>.inr h);have cN:∀ r,(leads szv r∨r=O)→Y.heap.size≤r:=fun r E=>E.elim (cA r) fun E=>by omega
  have fc:w.heap.size≤Y.heap.size:=bT.size;have fd:=bi.size;have z22:=aE.size;have fe:=bH.size;have ff:=aU.lt;refine⟨⟨i+1,rfl,by omega,((up bH bi).trans (aE.U _)).trans (cM.mono fun r _ h=>by have:=cN r h;omega),cG,dW,acc++[z],((aQ 1 most (some s)).map (·.2)).map (aM (decide (32<z))),bL,aZ bj cL fun r E he=>?_,fun r E=>?_,(dQ.ext aE).new cM cN,?_,fun s' al=>?_⟩,by simp only[bk];omega⟩
  ·have he:r=O:=he;subst he;exact bE bj cJ (by decide) E rfl
  ·rcases dX r E with h|h
   ·exact cA r h
   ·omega
  ·refine bJ.step cD ?_ fun q W=>?_
   ·show (X3 _ (aS 1 most s)).map _=_;unfold eb;cases W:aS 1 most s with
    |none=>rfl
    |some q=>
     have:=bK q W;obtain⟨cO,bl⟩:=q;subst this;rfl
   ·unfold eb at W;cases ao:aS 1 most s with
    |none=>rw[ao] at W;cases W
    |some aV=>
     rw[ao] at W;have:=bK aV ao;obtain⟨cO,bl⟩:=aV;cases W;exact this
  ·cases ao:aS 1 most s with
   |none=>
    have al:(X3 (fun x=>x.2) (aS 1 most s)).map (aM (decide (32<z)))=some s':=al;rw[ao] at al;cases al
   |some aV=>
    have al:(X3 (fun x=>x.2) (aS 1 most s)).map (aM (decide (32<z)))=some s':=al;rw[ao] at al;have dY:=bK aV ao;obtain⟨cO,bl⟩:=aV;cases al;have cP:=cB ao;have cQ:=(fW ao).1;have fg:=cP.1;refine⟨by show bl.told=0;rw[cP.eqs.1];exact dK,?_,fun y aW=>?_⟩
    ·rw[u7];show acc.length+1+bl.toks.length≤100000;omega
    ·rcases p8.1 aW with aW|aW
     ·exact dL y aW
     ·rw[p9.1 aW,dY];exact⟨cQ.1,by unfold ah;have:=cQ.2;simp only at*;omega⟩
 ·rw[aR];have dZ:aO.bind (bZ (eb most) n.toNat [])=so.map fun s=>(acc,s):=by
   unfold jm at bJ;rw[bJ];cases so with
   |none=>rfl
   |some s=>
    rcases dJ with h|rfl
    ·cases h
    ·simp only[X9];rfl
  refine Jj bH cw cz aU (fun s av=>?_) (by omega) (by omega) aX dz fun v w' ea ec J ed ee cR=>?_
  ·obtain⟨ef,fh,a3⟩:=cC s av;exact⟨fun _=>by rw[ef];omega,by omega,a3,by omega⟩
  ·have eg:(decide ((64:Int)<(t.length:Int)))=decide (64<t.length):=by rw[X8,decide_eq_true_eq,decide_eq_true_eq];omega
   rw[eg] at bx;have eh:=Jh (s0:=⟨(lex X).1,0,false,[]⟩) bx.symm (fun q W=>db q W) b8.symm b4 cb.symm hm ch.symm cd cm.symm dv dZ ed;have ax:=Jl eh (by omega);have cS:¬0≤bad↔(lex X).2=true:=by
    rw[cY];cases (lex X).2 <;> simp
   cases ec with
   |none=>
    obtain⟨bf,e,rfl⟩:=cR fun s av=>by cases av
    exact⟨J,bf,e,fun _=>rfl,fun f ae=>by rw[ax] at ae;cases ae⟩
   |some s=>
    have ax:eA X=if s.toks=[]∧(lex X).2=true∧s.big=false then some ⟨t,k,acc,ea⟩ else none:=ax;by_cases Z:s.toks=[]∧(lex X).2=true∧s.big=false
    ·rw[if_pos Z] at ax;obtain⟨rfl,ei⟩:=ee s rfl ⟨Z.1,cS.2 Z.2.1,Z.2.2⟩;exact⟨J,_,_,(fun ae=>by rw[ax] at ae;cases ae),fun f ae=>⟨O,rfl,by rw[ax] at ae;cases ae;exact ei⟩⟩
    ·rw[if_neg Z] at ax;obtain⟨bf,e,rfl⟩:=cR fun s' al bM=>by
      cases al;exact Z ⟨bM.1,cS.1 bM.2.1,bM.2.2⟩
     exact⟨J,bf,e,fun _=>rfl,fun f ae=>by rw[ax] at ae;cases ae⟩
theorem Jn {a b:Int}:ag x5 DJ [.int .i64 a,.int .i64 b] w fun v w'=>v= .int .i64 (min a b)∧Ext w w':=by
 refine ap func285 ?_;rw[aC,af];exact⟨fun h=>⟨by congr 1;omega,Ext.refl _⟩,fun h=>⟨by congr 1;omega,Ext.refl _⟩⟩
set_option maxHeartbeats 1000000 in
theorem Jo {Y:gZ} {x:bG} {ah:y0} {t:List Int} {k:Int} (h:fl w Y x) (aq:(x.lines.map (·.1)).Nodup) (au:ay .i64 w ah t):ag x5 Dw [.agg (dQ Y).toArray,ah,.int .i64 k] w fun v w'=>v= .int .i64 (hU x k t)∧Ext w w':=by
 obtain⟨⟨aV,av⟩,⟨aW,aw⟩,ax,aX,L,O,az,ai⟩:=id h;refine ap func252 ?_;refine a7 fun aA Z aY ab E=>?_;have E:aa Z aA aL (dQ Y):=by
  obtain⟨_,_,_,aC⟩:=cL av.ls;obtain⟨_,_,_,aD⟩:=cL aw.ls;obtain⟨_,_,_,_,_,aF,_⟩:=O.sl;simp only[dQ,aC,aD,aF] at E ⊢;exact E
 have aG:=O.ext ab;have aH:L.length=x.lines.length:=by rw[←ai,r8]
 rw[aP aL.p 2 E rfl,aP aL.p 3 E rfl,dA di.u aG,ax];refine bO.range L.length (fun i U V=>Ext Z V∧ ∃ c:Int,U= .int .i64 c∧min c k=jh x k i t) O.le ⟨Ext.refl _,x.other,rfl,(yy x k t).symm⟩ ?_ ?_
 ·rintro i _ V aJ hi ⟨J,c,rfl,W⟩ aK;obtain⟨y,ac⟩:=aE (l:=L) hi;obtain⟨aZ,aj⟩:=az y (x2 ac);have ad:=ab.trans J;have aM:x.lines[i]? =some (y.t,y.c):=by rw[←ai,x7,ac];rfl
  have ak:=yA (k:=k) aq aM t;refine bC (by omega) ?_;refine aI (fun U al=>Ext Z al∧ ∃ c:Int,U= .int .i64 c∧min c k=jh x k (i+1) t) ?_ ?_
  ·rintro U al aN;rw[aB];exact aK _ _ aN
  intro a1 am;have an:=O.ext ad;rw[cM rfl di.u bA.i an hi,bn bA.p bA.i rfl (an.range ac)];refine bg bA.i fun a2 a6 a8 aO aQ=>?_;refine bP (vs:=lF y) bA.i rfl rfl (tu aj) aQ fun aR aS ba ao=>?_;have X:Ext V aR:=aO.put aS (by omega);rw[aP bA.p 0 ao rfl];refine (tt ((aj.ls.ext ad).ext X) ((au.ext ad).ext X)).mono ?_;rintro _ bb _ ⟨rfl,ae⟩;rw[af];refine⟨fun he=>?_,fun aT=>?_⟩
  ·rw[aP bA.p 1 (ao.ext ae) rfl];refine am _ _ ⟨(J.trans X).trans ae,y.c,rfl,?_⟩;rw[ak,if_pos he.symm]
  ·refine am _ _ ⟨(J.trans X).trans ae,c,rfl,?_⟩;rw[ak,if_neg fun he=>aT he.symm,W]
 ·rintro _ V aJ ⟨J,c,rfl,W⟩;rw[aH,yz] at W;refine cH (by omega) ?_;refine Jn.mono ?_;rintro _ bc _ ⟨rfl,aU⟩;exact⟨by rw[W],(ab.trans J).trans aU⟩
set_option maxHeartbeats 1000000 in
theorem Jp {ao:y0} (h:ay .i64 w ao l) (au:l.Nodup) (aT:l.length≤64):ag x5 Dv [ao] w fun v w'=>Ext w w'∧ ∃ g,ak .i64 ab w' g v (aW l)∧ ∀ r,leads v r→w.heap.size≤r:=by
 refine ap func251 ?_;have av:∀ i,i≤64→(((Z1 i).map fun(v:Nat)=>(v:Int)).filter fun v=>decide (v∈l)).length≤i:=fun i _=>by
  have:=List.length_filter_le (fun v=>decide (v∈l)) ((Z1 i).map fun(v:Nat)=>(v:Int));simp at this;omega
 refine bO.range 64 (fun i E X=>Ext w X∧ ∃ g,ak .i64 ab X g E (((Z1 i).map fun(v:Nat)=>(v:Int)).filter fun v=>decide (v∈l))∧ ∀ r,leads E r→w.heap.size≤r) (by omega) ⟨Ext.refl _,0,ak.nil _ _ _ _,fun r Y=>by obtain⟨a,n,c,aw,aU⟩:=Y;cases aw⟩ ?_ ?_
 ·rintro i E X k hi ⟨Z,g,hm,ac⟩ ax;refine bC (by omega) ?_;rw[aK an.u (h.ext Z)];have az:=av i (by omega);generalize aA:(((Z1 i).map fun(v:Nat)=>(v:Int)).filter fun v=>decide (v∈l))=A at hm az;refine bO.range l.length (fun j E V=>Ext w V∧ ∃ g,ak .i64 ab V g E (A++(if (i:Int)∈l.take j then[(i:Int)] else[]))∧ ∀ r,leads E r→w.heap.size≤r) h.le ⟨Z,g,by simpa using hm,ac⟩ ?_ ?_
  ·rintro j aD V aF aG ⟨U,ad,O,W⟩ aH;obtain⟨x,J⟩:=aE (l:=l) aG;refine bC (by omega) ?_;refine aI (fun E aa=>Ext w aa∧ ∃ g,ak .i64 ab aa g E (A++(if (i:Int)∈l.take (j+1) then[(i:Int)] else[]))∧ ∀ r,leads E r→w.heap.size≤r) ?_ ?_
   ·rintro aV aa aJ;rw[aB];exact aH _ _ aJ
   intro aX aq;have ae:(i:Int)∈l.take (j+1)↔(i:Int)∈l.take j∨(i:Int)=x:=by
    rw[u5,J,j5,p8,p9]
   rw[a1 an.u aj.i (by kernel_rfl) (h.ext U) J,bc,af];refine⟨fun he=>?_,fun aL=>?_⟩
   ·have aM:(i:Int)∉l.take j:=fun hm=>by
     obtain⟨p,ah⟩:=X1.1 hm;have aN:p<j:=by have:=(x3.1 ah).1;rw[o6] at this;omega
     rw[c7 aN,←he] at ah;have:=ip au ah J;omega
    rw[if_neg aM,Y8] at O;refine dM (k:=.i64) al.u ab.i rfl fun a3 aY aa aZ ai aO=>?_;refine gb al.u ab.i rfl (O.ext ai) aO.ls (by simp;omega) (by simp;omega) fun a2 aP a6 aQ aR aS=>?_;have a7:=U.size;have z3:=ai.size;refine aq _ _ ⟨(U.trans ai).then aS fun r Y he=>by have:=W r he;omega,aP,?_,fun r Y=>(aR r Y).elim (W r) fun h=>by omega⟩;rw[if_pos (ae.2 (.inr he.symm))];exact aQ
   ·refine aq _ _ ⟨U,ad,?_,W⟩;have:((i:Int)∈l.take (j+1))=((i:Int)∈l.take j):=propext ⟨fun am=>(ae.1 am).resolve_right fun he=>aL he.symm,fun am=>ae.2 (.inl am)⟩;simp only[this];exact O
  ·rintro aD V aF ⟨U,ad,O,W⟩;rw[o5] at O;refine cH (by omega) ?_;rw[aB];refine ax _ _ ⟨U,ad,?_,W⟩;rw[List.range_succ,j4,List.filter_append,aA];by_cases hm:(i:Int)∈l
   ·rw[if_pos hm] at O;simpa[hm] using O
   ·rw[if_neg hm] at O;simpa[hm] using O
 ·rintro E X k ⟨Z,g,hm,ac⟩;rw[aC,af];exact⟨fun h=>by omega,fun _=>⟨Z,g,hm,ac⟩⟩
structure dZ where
 aO:y0
 szv:y0
 aJ:y0
 sc:List Int
 cs:List Int
def cz (h:dZ):List y0:=[h.aO,h.szv,h.aJ]
def mS (h:dZ) (r:Nat):Prop:=leads h.aJ r∨leads h.aO r∨leads h.szv r
def dD (w:x1) (sizes:List Int) (h:dZ):Prop:=(∃ g,ak .i64 ab w g h.aO h.sc)∧(∃ g,ak .i64 ab w g h.szv (bK sizes h.sc))∧ ∃ g,ak .i64 aj w g h.aJ h.cs
theorem dD.ext {h:dZ} (E:dD w sizes h) (J:Ext w w'):dD w' sizes h:=by
 obtain⟨⟨O,h1⟩,⟨U,V⟩,W,X⟩:=E;exact⟨⟨O,h1.ext J⟩,⟨U,V.ext J⟩,W,X.ext J⟩
theorem dD.one {h:dZ} (E:dD w sizes h):∀ u∈cz h,u.oneCell'=true:=by
 obtain⟨⟨U,h1⟩,⟨V,J⟩,W,O⟩:=E;intro u hu;simp[cz] at hu;rcases hu with rfl|rfl|rfl
 ·exact h1.ls.cells.2
 ·exact J.ls.cells.2
 ·exact O.ls.cells.2
set_option maxHeartbeats 8000000 in
theorem zI {f:bu} {x:bG} {aH:gZ} (h:fl w aH x) (bb:dU N f) (b7:x∈f.funs) (cO:ak .i64 aj w gz sv f.sizes):
  ag x5 CX [.agg (dQ aH).toArray,sv,.int .i64 f.k] w fun v w'=>Ext w w'∧ ∃ c:dZ,v= .agg (cz c).toArray∧c.sc=aW x.scope∧c.cs=(fX f.sizes f.k x).2∧dD w' f.sizes c∧ ∀ r,mS c r→w.heap.size≤r:=by
 obtain⟨aM,cP,ej⟩:=bb.funs x b7;have ac:=qk aM bb.sizes.2.1;have b8:=qj ac aM.scope.1;have cQ:(aW x.scope).length≤6:=by rw[b8.length_eq];exact cP
 have cR:=mG bb b7;have b9:=yq x.scope;obtain⟨⟨ek,be⟩,⟨em,cS⟩,en,eo,cT⟩:=id h;refine ap func190 ?_;refine a7 fun bB cU ep ca aN=>?_;have aN:aa cU bB aL (dQ aH):=by
  obtain⟨L,cV,_⟩:=cT;obtain⟨_,_,_,Y⟩:=cL be.ls;obtain⟨_,_,_,ah⟩:=cL cS.ls;obtain⟨_,_,_,_,_,cW,_⟩:=cV.sl;simp only[dQ,Y,ah,cW] at aN ⊢;exact aN
 refine bg aU.i fun cb V er bF bH=>?_;have bI:=ca.trans bF;rw[aP aL.p 0 (aN.ext bF) rfl];refine (Jp (be.ls.ext bI) aM.scope.1 (by omega)).mono ?_;rintro aO cc _ ⟨bf,gr,bJ,cX⟩;rw[ct (cs:=#[aO,.slice none 0 0,.slice none 0 0]) (by obtain⟨_,_,_,rfl⟩:=cL bJ.ls;kernel_rfl)];refine bg aU.i fun W es cY cZ c0=>?_;refine bP (vs:=[aO,.slice none 0 0,.slice none 0 0]) aU.i rfl rfl (by intro u hu;simp at hu;rcases hu with rfl|rfl;exact bJ.ls.cells.2;rfl) c0 fun ai c1 et aA=>?_;have bh:Ext cc ai:=cZ.put c1 (by omega);have cd:=(bI.trans bf).trans bh;have ax:=bJ.ext bh;have bL:=((aN.ext bF).ext bf).ext bh;have ce:=(bH.ext bf).ext bh;have eu:=bI.size;have z3:=bf.size;have ev:=cd.size;have ew:=aA.lt;have ey:W=cc.heap.size:=cY;rw[aP aU.p 0 aA rfl,aK al.u ax.ls];have cg:∀ v∈aW x.scope,0≤v∧v<f.sizes.length:=fun v hm=>aM.scope.2 v ((n2 ac).1 hm);have bM:∀ {w':x1},ad (fun r=>r=W∨ai.heap.size≤r) ai w'→Ext w w':=fun bN=>cd.then bN fun r E he=>by omega
 have bQ:(bK f.sizes (aW x.scope)).length=(aW x.scope).length:=by simp[bK]
 refine bS.range (aW x.scope).length (fun i am=>ad (fun r=>r=W∨ai.heap.size≤r) ai am∧ ∃ szv gs,aa am W aU [aO,szv,.slice none 0 0]∧ak .i64 ab am gs szv ((bK f.sizes (aW x.scope)).take i)∧ ∀ r,leads szv r→ai.heap.size≤r) (by omega)
  ⟨ad.refl _ _,_,0,aA,ak.nil _ _ _ _,fun r E=>by obtain⟨a,n,c,Y,ah⟩:=E;cases Y⟩ ?_ ?_
 ·rintro i am c2 hi ⟨ao,szv,gs,c3,aQ,bi⟩ c4;obtain⟨v,bR⟩:=aE (l:=(aW x.scope)) hi;have ez:=cg v (x2 bR);have c5:ak .i64 ab am gr aO (aW x.scope):=aZ ax ao fun r E J=>by
   rcases J with rfl|J
   ·exact bE ax aA (by decide) E rfl
   ·obtain⟨Y,ah⟩:=bp ax E;omega
  refine bC (by omega) ?_;rw[a1 al.u ab.i (by kernel_rfl) c5.ls bR];intro eA aR _ _;have ch:=c3.ext aR;have c6:f.sizes[v.toNat]? =some (f.sizes.getD v.toNat 0):=by rw[u4,x4 (by omega)];rfl
  rw[aP aU.p 1 ch rfl,fv (y:=v) (i:=v.toNat) (by omega) an.u aj.i (by kernel_rfl) (cO.ext ((bM ao).trans aR)).ls c6];refine dM (k:=.i64) al.u ab.i rfl fun eB eC c8 eD aS c9=>?_;refine⟨.inl aS,?_⟩;have ci:=(aQ.ext aR).ext aS;refine gb al.u ab.i rfl ci c9.ls (by simp;omega) (by simp;omega) fun da db eE bj dc cj=>?_;have ck:=ch.ext aS;have cl:=ck.U cj fun he=>bE ci ck (by decide) he rfl;rw[aF aU.p rfl];refine aY (g:=W) (o:=1) al.i bj.ls.cells.1 bj.ls.cells.2 cl (by simp) fun dd cm eF de=>?_;rw[aB];have df:ad (fun r=>leads szv r∨r=W) c8 dd:=(cj.mono fun r _ h=>.inl h).trans (cm.mono fun r _ h=>.inr h);have dg:=ao.size;have eH:=(aR.trans aS).size;refine c4 _ ⟨((ao.trans (aR.U _)).trans (aS.U _)).trans (df.mono fun r _ h=>h.elim (fun h=>.inr (bi r h)) .inl),da,db,de,?_,fun r E=>(dc r E).elim (bi r) fun h=>by omega⟩;have e:(bK f.sizes (aW x.scope)).take (i+1)=(bK f.sizes (aW x.scope)).take i++[f.sizes.getD v.toNat 0]:=by
   unfold bK;rw[←List.map_take,←List.map_take,u5,bR,j5,j4];rfl
  rw[e];exact aZ bj cm fun r E he=>by
   have he:r=W:=he;subst he;exact bE bj cl (by decide) E rfl
 rintro am c2 ⟨ao,szv,gs,bT,aQ,bi⟩;rw[←bQ,o5] at aQ;refine cH (by omega) ?_;have eI:=bM ao;have bk:bD (bK f.sizes (aW x.scope)):=⟨by rw[bQ];exact cQ,n3 bb.sizes.2.2 cg⟩;have dh:=cR.small;rw[aP aU.p 1 bT rfl];refine (wM _ aQ.ls bk).mono ?_;rintro di X _ ⟨bl,cn⟩;have eJ:=i7 bk.2;have eK:=jN bk.2;have eL:az (bK f.sizes (aW x.scope))≤4096:=dh;rw[iZ eg.u cn];have bm:ad (fun r=>r=W∨ai.heap.size≤r) ai X:=ao.trans (bl.U _);have aT:=bT.ext bl;have cp:=aQ.ext bl;have dg:=ao.size;have eM:=bl.size;have bU:ak .i64 ab X gr aO (aW x.scope):=aZ ax bm fun r E J=>by
  rcases J with rfl|J
  ·exact bE ax aA (by decide) E rfl
  ·obtain⟨Y,ah⟩:=bp ax E;omega
 have bV:aa X bB aL (dQ aH):=bL.U bm fun J=>J.elim (fun he=>by subst he;exact absurd (ed bL aA) (by decide)) fun h=>by have:=bL.lt;omega
 have cq:=ce.U bm fun J=>J.elim (fun he=>by have:=bH.lt;omega) fun h=>by have:=ce.lt;omega
 have cr:∀ {w':x1},ad (fun r=>r=W∨X.heap.size≤r) X w'→Ext w w':=fun bN=>(bM bm).then bN fun r E he=>by
  have he:r=W∨X.heap.size≤r:=he;omega
 have eN:W<X.heap.size:=aT.lt;refine bS.range (bo (bK f.sizes (aW x.scope))).length (fun q O=>ad (fun r=>r=W∨X.heap.size≤r) X O∧ ∃ aJ aV,aa O W aU [aO,szv,aJ]∧ak .i64 aj O aV aJ (((bo (bK f.sizes (aW x.scope))).take q).map fun t=>hU x f.k (mu x.scope (aW x.scope) t))∧ ∀ r,leads aJ r→X.heap.size≤r) (by omega)
  ⟨ad.refl _ _,_,0,aT,ak.nil _ _ _ _,fun r E=>by obtain⟨a,n,c,Y,ah⟩:=E;cases Y⟩ ?_ ?_
 ·rintro q O dj dk ⟨Z,aJ,aV,a2,a6,bq⟩ dl;obtain⟨t,br⟩:∃ t,(bo (bK f.sizes (aW x.scope)))[q]? =some t:=⟨_,x4 dk⟩;have eP:t.length=(aW x.scope).length:=by
   have dm:=pR bk.2 (i:=q) (by omega);rw[dm] at br;cases br;rw[hs,bQ]
  have bW:=cr Z;have dn:au.rep (α:=List (List Int)) true (dO am.heap.size) bd O [di] (bo (bK f.sizes (aW x.scope))):=au.U cn Z fun r E h J=>by
   rcases h with h|h
   ·have h:am.heap.size≤r:=h;have:=bT.lt;rcases J with J|J <;> omega
   ·exact h
  have aC:∀ {aq:Nat} {av:y0} {aw:List Int},ak .i64 ab X aq av aw→ak .i64 ab O aq av aw:=fun hm=>aZ hm Z fun r E J=>by
   rcases J with rfl|J
   ·exact bE hm aT (by decide) E rfl
   ·obtain⟨Y,ah⟩:=bp hm E;omega
  have cu:=aC bU;have cw:aa O bB aL (dQ aH):=bV.U Z fun J=>J.elim (fun he=>by subst he;exact absurd (ed bV aT) (by decide)) fun h=>by have:=bV.lt;omega
  refine bC (by omega) ?_;refine vY (α:=List Int) rfl rfl eg.u al.i (by kernel_rfl) dn br fun eQ dp=>?_;have dq:=kr dp;rw[aP aL.p 0 cw rfl,aK an.u (be.ls.ext bW)];have z12:=Z.size;refine bO.range x.scope.length (fun p ae bt=>Ext O bt∧ ∃ go,ak .i64 aj bt go ae ((x.scope.take p).map fun v=>t.getD ((aW x.scope).idxOf v) 0)∧ ∀ r,leads ae r→O.heap.size≤r) (by omega) ⟨Ext.refl _,0,ak.nil _ _ _ _,fun r E=>by obtain⟨a,n,c,Y,ah⟩:=E;cases Y⟩ ?_ ?_
  ·rintro p ae bt dr ds ⟨aD,go,a8,cA⟩ dt;obtain⟨v,bX⟩:=aE (l:=x.scope) ds;have du:v∈aW x.scope:=b8.mem_iff.2 (x2 bX);refine bC (by omega) ?_;have dv:=bW.trans aD;have dw:=a2.ext aD;have dx:=cu.ext aD;rw[a1 an.u aj.i (by kernel_rfl) (be.ls.ext dv) bX,aP aU.p 0 dw rfl,aK al.u dx.ls];generalize cB:((x.scope.take p).map fun v=>t.getD ((aW x.scope).idxOf v) 0)=A at a8;have eR:A.length=p:=by rw[←cB,r8,o6];omega
   refine bO.range (aW x.scope).length (fun j ae bw=>Ext O bw∧ ∃ go,ak .i64 aj bw go ae (A++if v∈(aW x.scope).take j then[t.getD ((aW x.scope).idxOf v) 0] else[])∧ ∀ r,leads ae r→O.heap.size≤r) (by omega) ⟨aD,go,by simpa using a8,cA⟩ ?_ ?_
   ·rintro j dy bw dz dA ⟨ay,bY,aG,ba⟩ dC;obtain⟨u,hu⟩:=aE (l:=(aW x.scope)) dA;have dE:=cu.ext ay;refine bC (by omega) ?_;refine aI (fun ae bZ=>Ext O bZ∧ ∃ go,ak .i64 aj bZ go ae (A++if v∈(aW x.scope).take (j+1) then[t.getD ((aW x.scope).idxOf v) 0] else[])∧ ∀ r,leads ae r→O.heap.size≤r) ?_ ?_
    ·rintro eS bZ dF;rw[aB];exact dC _ _ dF
    intro eT cC;have b1:v∈(aW x.scope).take (j+1)↔v∈(aW x.scope).take j∨v=u:=by
     rw[u5,hu,j5,p8,p9]
    rw[a1 al.u ab.i (by kernel_rfl) dE.ls hu,bc,af];refine⟨fun he=>?_,fun b2=>?_⟩
    ·have dG:v∉(aW x.scope).take j:=fun hm=>by
      obtain⟨dH,b3⟩:=X1.1 hm;have dI:dH<j:=by have:=(x3.1 b3).1;rw[o6] at this;omega
      rw[c7 dI,←he] at b3;have:=ip b9 b3 hu;omega
     rw[if_neg dG,Y8] at aG;have dJ:t[j]? =some (t.getD ((aW x.scope).idxOf v) 0):=by
      have:(aW x.scope).idxOf v=j:=n4 b9 (by rw[hu,he]);rw[this,u4,x4 (show j<t.length by omega)];rfl
     rw[a1 al.u ab.i (by kernel_rfl) (dq.ext ay) dJ];refine dM an.u aj.i rfl fun eU eV eW eX b4 dK=>?_;refine gb an.u aj.i rfl (aG.ext b4) dK.ls (by simp;omega) (by simp;omega) fun eY dL eZ dN dP dR=>?_;have e0:=ay.size;have e1:=b4.size;refine cC _ _ ⟨(ay.trans b4).then dR fun r E he=>by have:=ba r he;omega,dL,?_,fun r E=>(dP r E).elim (ba r) fun h=>by omega⟩;rw[if_pos (b1.2 (.inr he.symm))];exact dN
    ·refine cC _ _ ⟨ay,bY,?_,ba⟩;have:(v∈(aW x.scope).take (j+1))=(v∈(aW x.scope).take j):=propext ⟨fun b5=>(b1.1 b5).resolve_right fun he=>b2 he.symm,fun b5=>b1.2 (.inl b5)⟩;simp only[this];exact aG
   ·rintro dy bw dz ⟨ay,bY,aG,ba⟩;rw[o5,if_pos du] at aG;refine cH (by omega) ?_;rw[aB];refine dt _ _ ⟨ay,bY,?_,ba⟩;rw[u5,bX,j5,j4,cB];exact aG
  ·rintro ae bt dr ⟨aD,go,a8,cA⟩;rw[o5] at a8;refine cH (by omega) ?_;intro e2 cD _ _;have bx:=aD.trans cD;have dS:=a2.ext bx;have dT:=cw.ext bx;rw[aP aU.p 2 dS rfl,bn aL.p aL.i rfl dT.range];refine (Jo (h.ext (bW.trans bx)) aM.lines.1 (a8.ls.ext cD)).mono ?_;rintro _ e3 _ ⟨rfl,b6⟩;refine⟨.inl b6,?_⟩;refine dM an.u aj.i rfl fun e4 e5 dV e6 cE dW=>?_;refine⟨.inl (b6.trans cE),?_⟩;have bz:=(bx.trans b6).trans cE;have cF:=a6.ext bz;refine gb an.u aj.i rfl cF dW.ls (by simp;omega) (by simp;omega) fun dX dY e7 bA ea cG=>?_;have cI:=a2.ext bz;have cJ:=cI.U cG fun he=>bE cF cI (by decide) he rfl;rw[aF aU.p rfl];refine aY (g:=W) (o:=2) an.i bA.ls.cells.1 bA.ls.cells.2 cJ (by simp) fun eb cK e8 ec=>?_;rw[aB];have ee:ad (fun r=>leads aJ r∨r=W) dV eb:=(cG.mono fun r _ h=>.inl h).trans (cK.mono fun r _ h=>.inr h);have e9:=bz.size;refine dl _ ⟨(Z.trans (bz.U _)).trans (ee.mono fun r _ h=>h.elim (fun h=>.inr (bq r h)) .inl),dX,dY,ec,?_,fun r E=>(ea r E).elim (bq r) fun h=>by omega⟩;rw[u5,br,j5,j4];exact aZ bA cK fun r E he=>by
    have he:r=W:=he;subst he;exact bE bA cJ (by decide) E rfl
 ·rintro O dj ⟨Z,aJ,aV,a2,a6,bq⟩;rw[o5] at a6;refine cH (by omega) ?_;have aC:∀ {aq:Nat} {av:y0} {aw:List Int},ak .i64 ab X aq av aw→ak .i64 ab O aq av aw:=fun hm=>aZ hm Z fun r E J=>by
   rcases J with rfl|J
   ·exact bE hm aT (by decide) E rfl
   ·obtain⟨Y,ah⟩:=bp hm E;omega
  let c:dZ:=⟨aO,szv,aJ,aW x.scope,(fX f.sizes f.k x).2⟩;have ef:dD O f.sizes c:=⟨⟨gr,aC bU⟩,⟨gs,aC cp⟩,aV,a6⟩;rw[bn aU.p aU.i rfl (show O.rangeAt W 0 (cz c) from a2.range)];have cM:=cq.U Z fun J=>J.elim (fun he=>by have:=bH.lt;omega) fun h=>by have:=cq.lt;omega
  refine bP (vs:=cz c) aU.i rfl rfl ef.one cM fun eh cN fa ei=>?_;rw[eO aU.p aU.i rfl ei.range];have aX:∀ {aq:Nat} {av:y0} {aw:List Int} {e:u9},e≠aU→ak .i64 e O aq av aw→ak .i64 e eh aq av aw:=fun b2 hm=>aZ hm cN fun r E he=>by
   have he:r=cb:=he;exact bE hm cM b2 E he
  refine⟨(cr Z).then cN fun r E he=>by have he:r=cb:=he;have:=ca.size;omega,c,rfl,rfl,rfl,⟨⟨gr,aX (by decide) (aC bU)⟩,⟨gs,aX (by decide) (aC cp)⟩,aV,aX (by decide) a6⟩,fun r E=>?_⟩;rcases E with E|E|E
  ·have:=bq r E;omega
  ·have:=cX r E;omega
  ·have:=bi r E;omega
theorem zJ {h:dZ} {g:Nat} (J:dD w sizes h) (E:aa w' g aU (y0.agg (cz h).toArray).cells.toList):aa w' g aU (cz h):=by
 obtain⟨⟨Y,h1⟩,⟨Z,O⟩,ab,U⟩:=J;obtain⟨_,_,_,V⟩:=cL h1.ls;obtain⟨_,_,_,W⟩:=cL O.ls;obtain⟨_,_,_,X⟩:=cL U.ls;simp only[cz,V,W,X] at E ⊢;exact E
set_option maxHeartbeats 1000000 in
theorem Jq {a b:dZ} (au:dD w sizes a) (av:dD w sizes b) (ay:hZ a.sc) (az:hZ b.sc):ag x5 vA [.agg (cz a).toArray,.agg (cz b).toArray] w fun v w'=>v= .bool (decide (cw a.sc<cw b.sc))∧Ext w w':=by
 obtain⟨⟨aX,aw⟩,_⟩:=id au;obtain⟨⟨aY,aA⟩,_⟩:=id av;have ai:=(sP ay az).1;refine ap func192 ?_;refine a7 fun aD aZ a2 aF aj=>?_;refine a7 fun aG V a6 ax ak=>?_;have aj:=(zJ au aj).ext ax;have ak:=zJ av ak;have W:=aF.trans ax;have X:=aw.ls.ext W;have aa:=aA.ls.ext W;have Y:∀ {w':x1},Ext V w'→ ∀ {K:y0→Prop},O x5 (x8 aU (.pointer (some ⟨aD,0,none⟩)) 0) w' (fun t=>O x5 (x6 al t) w' K)=K a.aO:=fun J K=>by
  rw[aP aU.p 0 (aj.ext J) rfl]
 have ac:∀ {w':x1},Ext V w'→ ∀ {K:y0→Prop},O x5 (x8 aU (.pointer (some ⟨aG,0,none⟩)) 0) w' (fun t=>O x5 (x6 al t) w' K)=K b.aO:=fun J K=>by
  rw[aP aU.p 0 (ak.ext J) rfl]
 rw[Y (Ext.refl _),aK al.u X,ac (Ext.refl _),aK al.u aa,bj,af];refine⟨fun aH=>?_,fun aI=>?_⟩
 ·rw[Y (Ext.refl _),aK al.u X,ac (Ext.refl _),aK al.u aa,aC];refine⟨?_,W⟩;congr 1;rw[X8,decide_eq_true_eq,decide_eq_true_eq,ai];exact⟨fun h=>.inl (by omega),fun h=>by rcases h with h|h <;> omega⟩
 have aJ:a.sc.length=b.sc.length:=by have:=Z6.1 aI;omega
 rw[Y (Ext.refl _),aK al.u X];refine bO.range a.sc.length (fun i _ am=>Ext V am∧ ∀ (j:Nat) (x y:Int),j<i→a.sc[j]? =some x→b.sc[j]? =some y→x=y) aw.ls.le ⟨Ext.refl _,fun j x y aL=>by omega⟩ ?_ ?_
 ·rintro i _ am k hi ⟨an,ad⟩ aM;obtain⟨x,J⟩:=aE (l:=a.sc) hi;obtain⟨y,ae⟩:=aE (l:=b.sc) (i:=i) (by omega);have E:eR a.sc b.sc=eR (a.sc.drop i) (b.sc.drop i):=qx ad (by omega) (by omega);have aN:a.sc.drop i=x::a.sc.drop (i+1):=by rw[Y1 hi,(x3.1 J).2]
  have aQ:b.sc.drop i=y::b.sc.drop (i+1):=by rw[Y1 (show i<b.sc.length by omega),(x3.1 ae).2]
  rw[aN,aQ] at E;simp only[eR] at E;refine bC (by omega) ?_;intro a8 aR _ _;have U:=an.trans aR;rw[Y U,a1 al.u ab.i (by kernel_rfl) (X.ext U) J,ac U,a1 al.u ab.i (by kernel_rfl) (aa.ext U) ae,bj,af];refine⟨fun aH=>?_,fun he=>?_⟩
  ·intro ba aS _ _;have Z:=U.trans aS;rw[Y Z,a1 al.u ab.i (by kernel_rfl) (X.ext Z) J,ac Z,a1 al.u ab.i (by kernel_rfl) (aa.ext Z) ae,aC];refine⟨?_,W.trans Z⟩;congr 1;rw[X8,decide_eq_true_eq,decide_eq_true_eq,ai,E];by_cases ah:x<y
   ·rw[if_pos ah];exact⟨fun _=>.inr ⟨aJ,by omega⟩,fun _=>ah⟩
   ·rw[if_neg ah,if_pos (show y<x by omega)];exact⟨fun h=>absurd h ah,fun h=>by rcases h with h|h <;> omega⟩
  ·rw[aB];refine aM _ _ ⟨U,fun j aT aV aL ao aq=>?_⟩;by_cases aW:j=i
   ·subst aW;rw[J] at ao;rw[ae] at aq;cases ao;cases aq;exact Z6.1 he
   ·exact ad j aT aV (by omega) ao aq
 ·rintro _ am k ⟨an,ad⟩;rw[aC,af];refine⟨fun h=>by omega,fun _=>⟨?_,W.trans an⟩⟩;congr 1;symm;rw[decide_eq_false_iff_not,ai];have E:eR a.sc b.sc=eR (a.sc.drop a.sc.length) (b.sc.drop a.sc.length):=qx ad (r9 _) (by omega);rw[List.drop_length,show b.sc.drop a.sc.length=[] from List.drop_eq_nil_of_le (by omega)] at E;rw[E];simp only[eR];omega
def cS (h:dZ):b1:=(h.sc,h.cs)
def iA (w:x1) (B g:Nat) (v:y0) (sizes:List Int) (L:List dZ):Prop:=aT cz 3 aU w g v L∧(∀ h∈L,dD w sizes h∧ ∀ r,mS h r→B≤r)∧(∀ (i j:Nat) x y,L[i]? =some x→L[j]? =some y→i≠j→ ∀ r,leads x.aJ r→¬leads y.aJ r)∧ ∀ r,leadsTo v r→B≤r
theorem jV {h:dZ} (Z:dD w sizes h) (W:ad S w w') (X:∀ r,S r→(∃ e c,aa w r e c∧e≠ab∧e≠aj)∨w.heap.size≤r∨((∃ c,aa w r aj c)∧¬leads h.aJ r)):dD w' sizes h:=by
 obtain⟨⟨ac,h1⟩,⟨ae,af⟩,ag,O⟩:=Z;have Y:∀ {g:Nat} {v:y0} {l:List Int},ak .i64 ab w g v l→ak .i64 ab w' g v l:=fun hm=>aZ hm W fun r E U=>by
  rcases X r U with⟨e,c,J,V,_⟩|ah|⟨⟨c,J⟩,_⟩
  ·exact bE hm J (fun he=>V he.symm) E rfl
  ·obtain⟨ai,al⟩:=bp hm E;omega
  ·exact bE hm J (by decide) E rfl
 refine⟨⟨ac,Y h1⟩,⟨ae,Y af⟩,ag,aZ O W fun r E U=>?_⟩;rcases X r U with⟨e,c,J,_,V⟩|ah|⟨_,am⟩
 ·exact bE O J (fun he=>V he.symm) E rfl
 ·obtain⟨ai,al⟩:=bp O E;omega
 ·exact am E
theorem iA.ext {g:Nat} {L:List dZ} (h:iA w B g v sizes L) (J:Ext w w'):iA w' B g v sizes L:=⟨h.1.ext J,fun x E=>⟨(h.2.1 x E).1.ext J,(h.2.1 x E).2⟩,h.2.2⟩
section
variable {α:Type} {f:α→List y0} {k:Nat} {P:Y3} {w:x1} {e:u9} {g:Nat} {v:y0} {L:List α}
theorem Jr {M:List α} (h:aT f k e w g v L) (ae:L.map f=M.map f):aT f k e w g v M:=by
 have E:L.length=M.length:=by have:=congrArg V3 ae;simpa using this
 have hm:L.flatMap f=M.flatMap f:=by rw[List.flatMap_def,List.flatMap_def,ae]
 refine⟨by rw[←E,←hm];exact h.1,fun a J=>?_⟩;obtain⟨b,O,he⟩:=o8.1 (show f a∈L.map f by rw[ae];exact o8.2 ⟨a,J,rfl⟩);rw[←he];exact h.2 b O
theorem zK {b l h':Nat} {low high:Option y0} (V:P.underlying t=some (.slice e)) (hi:aA P e k b z) (h:aT f k e w g v L) (h1:jK low l) (W:jL high L.length h') (J:l≤h') (X:h'≤L.length)
  (Y:∀ U,(∀ w',aT f k e w' g v L→bM w' k U ((L.drop l).take (h'-l)).length (((L.drop l).take (h'-l)).flatMap f))→K U):O P (X4 t v low high none) w K:=by
 have Z:=h.sl;obtain⟨_,ab,o,base,cap,rfl,ac,_⟩:=Z;rw[fu V hi h1 W ea J (by omega) (r9 _)];refine Y _ fun w' E=>?_;have:=bM.part (l:=l) (h:=h') (m:=cap) E.sl J X (by omega) (r9 _);rw[qa l E.2,mA (h'-l) (fun a aa=>E.2 a (List.mem_of_mem_drop aa))] at this;have el:((L.drop l).take (h'-l)).length=h'-l:=by rw[o6,List.length_drop];omega
 rw[el];exact this
theorem qK {ah:u9} {b:Nat} {x:y0} {M:List α} {K:y0→x1→Prop} (W:P.underlying t=some (.slice e)) (hi:aA P e k b z) (ab:z.cells.size=k) (h:aT f k e w g v L) (J:bM w k x M.length (M.flatMap f)) (ai:∀ a∈M,(f a).length=k) (h1:∀ a∈M,∀ u∈f a,u.oneCell'=true)
  (X:(L.length+M.length)*b≤140737488355328) (ae:L.length+M.length≤9223372036854775807)
  (af:∀ E O w',aT f k e w' O E (L++M)→(∀ r,leadsTo E r→leadsTo v r∨w.heap.size≤r)→ad (fun r=>leadsTo v r) w w'→K E w'):aw P (l9 #[t,t] ah #[v,x]) w K:=by
 have ag:∀ u∈M.flatMap f,u.oneCell'=true:=fun u hu=>by
  obtain⟨a,aj,hu⟩:=List.mem_flatMap.1 hu;exact h1 a aj u hu
 have Y:∀ E O w',bz w' O e k E (L.length+M.length) (L.flatMap f++M.flatMap f)→aT f k e w' O E (L++M):=fun E O w' hm=>⟨by simpa using hm,fun b X=>by
  rcases p8.1 X with h'|h'
  ·exact h.2 b h'
  ·exact ai b h'⟩
 rcases h.1.2 with⟨ac,ak⟩|⟨cap,cs,ac,al,_⟩
 ·have hm:bz w w.heap.size e k v L.length (L.flatMap f):=⟨h.1.1,.inl ⟨ac,ak⟩⟩;subst ac;refine k4 W W hi ab hm J ag (by simpa using X) (by simpa[maxLen] using ae) fun E O w' Z U aa=>af E O w' (Y _ _ _ U) (fun r V=>.inr ?_) (aa.mono fun r V h=>by omega);have:=((Y _ _ _ U).leads V).1;omega
 ·refine k4 W W hi ab h.1 J ag (by simpa using X) (by simpa[maxLen] using ae) fun E O w' Z U aa=>af E O w' (Y _ _ _ U) (fun r V=>?_) (aa.mono fun r V h=>⟨_,_,_,ac,h.symm⟩);have:=((Y _ _ _ U).leads V).1;rcases Z with Z|Z
  ·exact .inl ⟨_,_,_,ac,by show g=r;omega⟩
  ·exact .inr (by omega)
theorem Js {b:Nat} {K:y0→x1→Prop} (E:P.underlying t=some (.slice e)) (hi:aA P e k b z)
  (J:∀ v g w',g=w.heap.size→Ext w w'→aT f k e w' g v []→K v w'):aw P (b6 t 0 #[]) w K:=
 hN E hi (by omega) (cs:=#[]) (by simp[Instr.fill]) fun g w' O U V=>by
  exact J _ g w' O U ⟨by simpa using bz.full (k:=k) (n:=0) V (by simp) (by simp[maxLen]),fun c W=>by cases W⟩
end
theorem tw {α:Type} {A B:List α} {s:Nat} {a:α} (J:s<B.length) (E:A[s]? =some a):(A.take s++B.drop s).set s a=A.take (s+1)++B.drop (s+1):=by
 have O:=(x3.1 E).1;have h1:(A.take s).length=s:=by rw[o6];omega
 rw[List.set_append_right _ _ (by omega),h1,X9,Y1 J,List.set_cons_zero,u5,E,j5,Y2];rfl
theorem zL {α:Type} {A B:List α} {s:Nat} (E:s≤A.length):(A.take s++B.drop s)[s]? =B[s]?:=by
 have h1:(A.take s).length=s:=by rw[o6];omega
 rw[Z7 (by omega),h1,X9,List.getElem?_drop,Nat.add_zero]
theorem zM {g:b1}:∀ {l:List b1} {i:Nat},(∀ p<i,∀ x,l[p]? =some x→cw x.1<cw g.1)→i≤l.length→(∀ x,l[i]? =some x→¬cw x.1<cw g.1)→fN g l=l.take i++g::l.drop i
 |[],i,_,E,_=>by
  have:i=0:=by simpa using E
  subst this;rfl
 |x::l,0,_,_,J=>by
  unfold fN;rw[if_neg (J x rfl)];rfl
 |x::l,i+1,h1,E,J=>by
  unfold fN;rw[if_pos (h1 0 (by omega) x rfl),zM (i:=i) (fun p U y O=>h1 (p+1) (by omega) y O) (by simpa using E) (fun y O=>J y O)];rfl
theorem Jt {g:Nat} {L:List dZ} {h:dZ} {s:Nat} {n:Int} {K:Unit→x1→Prop} (E:iA w B g v sizes L) (ab:L[j]? =some h) (W:s<h.cs.length)
  (av:∀ w',ad (fun r=>leads h.aJ r) w w'→(∀ r,leads h.aJ r→ ∃ c,aa w r aj c)→iA w' B g v sizes (L.set j {h with cs:=h.cs.set s n})→K () w'):
  O x5 (j9 an h.aJ (.int .i64 (s:Int))) w fun t=>aw x5 (n0 aj t (.int .i64 n)) w K:=by
 obtain⟨h1,ak,al,ax⟩:=E;have ah:=(x3.1 ab).1;obtain⟨am,ay⟩:=ak h (x2 ab);obtain⟨_,_,ao,ae⟩:=id am;have af:∀ r,leads h.aJ r→ ∃ c,aa w r aj c:=fun r E=>by
  obtain⟨rfl,_⟩:=bp ae E;obtain⟨_,⟨ac,_⟩|⟨cap,full,_,X,_⟩⟩:=ae
  ·obtain⟨a,n,c,e,_⟩:=E;rw[ac] at e;cases e
  ·exact⟨_,X⟩
 have az:∀ r,r=ao→leads h.aJ r:=fun r he=>by
  subst he;obtain⟨_,⟨_,aP⟩|⟨cap,full,e,X,_⟩⟩:=ae
  ·omega
  ·exact⟨_,_,_,e,rfl⟩
 rw[gn rfl an.u aj.i ae W];refine gp aj.i ae W fun w' Y aQ aA=>?_;have Y:=Y.mono (T:=fun r=>leads h.aJ r) fun r _ he=>az r he;refine av w' Y af ⟨?_,fun x J=>?_,fun p q x y J aB aC r aD aE=>?_,ax⟩
 ·refine Jr (h1.U Y fun r E W=>?_) ?_
  ·obtain⟨c,X⟩:=af r W;exact cb h1 X (by decide) E
  ·rw[List.map_set];symm;refine Y7 fun p=>?_;rw[Y6,x7];by_cases V:j=p
   ·subst V;rw[if_pos rfl,if_pos (by simpa using ah),ab];rfl
   ·rw[if_neg V]
 ·have aF:x={h with cs:=h.cs.set s n}∨ ∃ p,p≠j∧L[p]? =some x:=by
   obtain⟨p,V⟩:=X1.1 J;rw[Y6] at V;by_cases Z:j=p
   ·subst Z;rw[if_pos rfl,if_pos ah] at V;exact .inl (b9 V).symm
   ·rw[if_neg Z] at V;exact .inr ⟨p,fun h=>Z h.symm,V⟩
  rcases aF with rfl|⟨p,aG,V⟩
  ·obtain⟨⟨aH,ap⟩,⟨aI,aq⟩,_⟩:=am;refine⟨⟨⟨aH,aZ ap Y fun r E W=>?_⟩,⟨aI,aZ aq Y fun r E W=>?_⟩,ao,aA⟩,ay⟩
   ·obtain⟨c,X⟩:=af r W;exact bE ap X (by decide) E rfl
   ·obtain⟨c,X⟩:=af r W;exact bE aq X (by decide) E rfl
  ·obtain⟨aK,aL⟩:=ak x (x2 V);refine⟨jV aK Y fun r E=>.inr (.inr ⟨af r E,fun ai=>al p j x h V ab aG r ai E⟩),aL⟩
 ·have au:∀ {p:Nat} {x:dZ},(L.set j {h with cs:=h.cs.set s n})[p]? =some x→ ∃ ag,L[p]? =some ag∧ag.aJ=x.aJ:=fun {p x} J=>by
   rw[Y6] at J;by_cases Z:j=p
   ·subst Z;rw[if_pos rfl,if_pos ah] at J;cases J;exact⟨h,ab,rfl⟩
   ·rw[if_neg Z] at J;exact⟨x,J,rfl⟩
  obtain⟨ag,ai,ex⟩:=au J;obtain⟨aM,aN,aO⟩:=au aB;exact al p q ag aM ai aN aC r (by rw[ex];exact aD) (by rw[aO];exact aE)
def jn (f:bu) (j:Nat):List b1:=(((ec f).take j).filter ej).foldl (fun l g=>fN g l) []
theorem zN {f:bu} {x:b1} (h:(ec f)[j]? =some x):jn f (j+1)=if ej x then fN x (jn f j) else jn f j:=by
 unfold jn;rw[u5,h,j5,List.filter_append,List.foldl_append];cases E:ej x with
 |true=>rw[List.filter_cons_of_pos E];rfl
 |false=>rw[List.filter_cons_of_neg (by simp[E])];rfl
theorem Ju (f:bu):jn f (ec f).length=ek f:=by unfold jn ek;rw[o5]
theorem zO (g:b1):∀ l,(fN g l).length=l.length+1
 |[]=>rfl
 |h::l=>by
  unfold fN;split
  ·rw[n9,zO g l,n9]
  ·rfl
theorem Jv {f:bu} (J:j≤(ec f).length):(jn f j).length≤j:=by
 induction j with
 |zero=>simp[jn]
 |succ j E=>
  have:=E (by omega);rw[zN (x:=(ec f)[j]) (x4 (by omega))];split
  ·rw[zO];omega
  ·omega
set_option maxHeartbeats 4000000 in
theorem Jw {g:Nat} {l:y0} {f:bu} {L:List dZ} {Q:y0→x1→Prop} (aV:dU N f) (V:iA w B g l f.sizes L) (aW:L.map cS=ec f)
  (b9:∀ out w' go E,Ext w w'→aT cz 3 aU w' go out E→(∀ h∈E,h∈L)→(∀ h∈E,dD w' f.sizes h)→E.map cS=ek f→(∀ r,leadsTo out r→w.heap.size≤r)→Q out w'):
  O x5 (Y4 #[cg] ab #[l]) w fun cb=>
 bO (.slice none 0 0) (.int .i64 0) w fun out aX ak cc=>
  O x5 (ax .lss ab false false aX cb) ak fun cd=>
  Split cd (bX (α:=y0→x1→Prop) (fun(ce:y0) (al:x1)=>
   O x5 (ax .add ab false true aX (.int .i64 1)) al fun ch=>
   cc ce ch al) fun bx=>
  O x5 (j9 cg l aX) ak fun ci=>
  O x5 (x6 aU ci) ak fun cj=>
  aw x5 (Instr.alloc aU true (.tuple #[])) ak fun aH bz=>
  aw x5 (n0 aU aH cj) bz fun(_:Unit) ad=>
  O x5 (x8 aU aH 2) ad fun ck=>
  O x5 (x6 an ck) ad fun bA=>
  O x5 (Y4 #[an] ab #[bA]) ad fun cl=>
  bO (.bool false) (.int .i64 0) ad fun bB aY W cm=>
   O x5 (ax .lss ab false false aY cl) W fun cn=>
   Split cn (bX (α:=y0→x1→Prop) (fun(cp:y0) (aq:x1)=>
    O x5 (ax .add ab false true aY (.int .i64 1)) aq fun cq=>
    cm cp cq aq) fun bD=>
   O x5 (j9 an bA aY) W fun cr=>
   O x5 (x6 aj cr) W fun ct=>
   Split bB (bD (.bool true) W)
    (O x5 (ax .gtr aj false true ct (.int .i64 0)) W fun cu=>
   bD cu W))
    (O x5 (Op.unary .not bB) W fun cA=>
  Split cA (bx out W)
   (bS (.int .i64 0) W fun i aJ cB=>
   bX (α:=y0→x1→Prop) (fun(cC:y0) (am:x1)=>
    Split cC (O x5 (ax .add ab false true i (.int .i64 1)) am fun cD=>
   cB cD am)
     (du am fun Y=>
  O x5 (x6 aU aH) Y fun cE=>
  O x5 (X4 cg out (some i) none none) Y fun bE=>
  aw x5 (b6 cg 1 #[(0,cE)]) Y fun cF au=>
   (Ext Y au∨bR x5 (X4 cg out (some i) none none) bE au∧True)∧
  aw x5 (l9 #[cg,cg] cg #[cF,bE]) au fun cG aZ=>
   aw x5 (b6 cg 0 #[]) aZ fun cI aL=>
  O x5 (X4 cg out none (some i) none) aL fun cJ=>
  aw x5 (l9 #[cg,cg] cg #[cI,cJ]) aL fun cK a2=>
  aw x5 (l9 #[cg,cg] cg #[cK,cG]) a2 fun cL a6=>
  bx cL a6)) fun bF=>
   du aJ fun Z=>
   O x5 (Y4 #[cg] ab #[out]) Z fun cN=>
   O x5 (ax .lss ab false false i cN) Z fun cO=>
   Split cO (O x5 (j9 cg out i) Z fun cP=>
   O x5 (x6 aU cP) Z fun cQ=>
   O x5 (x6 aU aH) Z fun cR=>
   ag x5 vA [cQ,cR] Z fun cT bG=>
    bF cT bG)
    (bF (.bool false) Z))))
   (Q out ak):=by
 have cU:L.length=(ec f).length:=by rw[←aW,r8]
 have dC:L.length≤256:=by have:=(iv aV).2.2;have:=aV.jb;omega
 have bH:=(iv aV).1;rw[dA cg.u V.1];refine bO.range L.length (fun j out a7=>∃ go E,Ext w a7∧aT cz 3 aU a7 go out E∧(∀ h∈E,h∈L)∧E.map cS=jn f j∧ ∀ r,leadsTo out r→w.heap.size≤r) V.1.le
  ⟨0,[],Ext.refl _,aT.nil _ _ _ _ _,fun h aa=>(by cases aa),rfl,fun r V=>(ds V).elim⟩ ?_ ?_
 rotate_left
 ·rintro out a7 cV ⟨go,E,bI,av,ah,ay,a8⟩;rw[aC,af];refine⟨fun h=>by omega,fun _=>b9 _ _ go E bI av ah (fun h aa=>((V.ext bI).2.1 h (ah h aa)).1) ?_ a8⟩;rw[ay,cU,Ju]
 rintro j out ak cV bK ⟨go,E,aM,av,ah,ay,a8⟩ cW;obtain⟨h,aa⟩:=aE (l:=L) bK;have hm:(ec f)[j]? =some (cS h):=by rw[←aW,x7,aa];rfl
 have cX:=bH _ (x2 hm);have dE:E.length≤256:=by
  have:=Jv (f:=f) (j:=j) (by omega);rw[←ay,r8] at this;omega
 have az:=V.ext aM;obtain⟨ba,_⟩:=az.2.1 h (x2 aa);obtain⟨_,_,dF,cY⟩:=id ba;refine bC (by omega) ?_;refine aI (fun bb al=>∃ bc aA,Ext w al∧aT cz 3 aU al bc bb aA∧(∀ h∈aA,h∈L)∧aA.map cS=jn f (j+1)∧ ∀ r,leadsTo bb r→w.heap.size≤r) ?_ ?_
 ·rintro bb al ⟨bc,aA,h1,cZ,c0,c1,c2⟩;rw[aB];exact cW _ _ ⟨bc,aA,h1,cZ,c0,c1,c2⟩
 intro c3 aD;rw[cM rfl cg.u aU.i az.1 bK,bn aU.p aU.i rfl (az.1.range aa)];refine bg aU.i fun bL bz dG c4 c5=>?_;refine bP (vs:=cz h) aU.i rfl rfl ba.one c5 fun ad c6 dH bM=>?_;have bN:Ext ak ad:=c4.put c6 (by omega);have bd:=cY.ext bN;rw[aP aU.p 2 bM rfl,aK an.u bd.ls];refine bO.range h.cs.length (fun q sv W=>Ext ad W∧sv= .bool ((h.cs.take q).any fun c=>decide (0<c))) bd.ls.le ⟨Ext.refl _,rfl⟩ ?_ ?_
 ·rintro q _ W c7 c8 ⟨ao,rfl⟩ c9;obtain⟨c,bQ⟩:=aE (l:=h.cs) c8;have e:(h.cs.take (q+1)).any (fun c=>decide (0<c))=((h.cs.take q).any (fun c=>decide (0<c))||decide (0<c)):=by
   rw[u5,bQ,j5,List.any_append];simp
  refine bC (by omega) ?_;refine aI (fun sv aq=>Ext ad aq∧sv= .bool ((h.cs.take (q+1)).any fun c=>decide (0<c))) ?_ ?_
  ·rintro _ aq ⟨da,rfl⟩;rw[aB];exact c9 _ _ ⟨da,rfl⟩
  intro c3 aD;rw[a1 an.u aj.i (by kernel_rfl) (bd.ext ao).ls bQ,ca];refine⟨fun db=>aD _ _ ⟨ao,by rw[e,db];rfl⟩,fun ae=>?_⟩;rw[br];exact aD _ _ ⟨ao,by rw[e,ae];rfl⟩
 rintro _ W c7 ⟨ao,rfl⟩;have bT:=bM.ext ao;have ai:=bN.trans ao;rw[o5];refine cH (by omega) ?_;rw[bJ,ca];have aN:=zN hm;have dc:(h.cs.any fun c=>decide (0<c))=ej (cS h):=rfl;rw[dc];refine⟨fun be=>?_,fun aF=>?_⟩
 ·have be:ej (cS h)=false:=by simpa using be
  rw[be] at aN;exact aD _ _ ⟨go,E,aM.trans ai,av.ext ai,ah,by rw[ay,aN];rfl,a8⟩
 have aF:ej (cS h)=true:=by simpa using aF
 rw[aF,if_pos rfl] at aN;refine⟨fun bf aJ=>∃ i:Nat,bf= .int .i64 (i:Int)∧i≤E.length∧Ext W aJ∧ ∀ p<i,∀ x,E[p]? =some x→cw x.sc<cw h.sc,fun bf _=>E.length-(bk bf).toNat,⟨0,rfl,Z5 _,Ext.refl _,fun p bh=>by omega⟩,?_⟩;rintro _ aJ ⟨i,rfl,hi,dd,bi⟩;refine aI (fun bU am=>Ext W am∧((bU= .bool true∧i<E.length∧ ∀ x,E[i]? =some x→cw x.sc<cw h.sc)∨(bU= .bool false∧ ∀ x,E[i]? =some x→¬cw x.sc<cw h.sc))) ?_ ?_
 rotate_left
 ·intro dI bj;intro Z de _ _;have ap:=dd.trans de;have bl:=av.ext (ai.trans ap);rw[dA cg.u bl,aC,af];refine⟨fun bi=>?_,fun dJ=>bj _ _ ⟨ap,.inr ⟨rfl,fun x J=>absurd (x3.1 J).1 (by omega)⟩⟩⟩;obtain⟨x,J⟩:=aE (l:=E) (i:=i) (by omega);have bV:=ah x (x2 J);have df:hZ x.sc:=(bH (cS x) (by rw[←aW];exact o8.2 ⟨x,bV,rfl⟩)).scope;have bW:=az.ext (ai.trans ap);rw[cM rfl cg.u aU.i bl (by omega),bn aU.p aU.i rfl (bl.range J),bn aU.p aU.i rfl (show Z.rangeAt bL 0 (cz h) from (bT.ext ap).range)];refine (Jq (bW.2.1 x bV).1 (bW.2.1 h (x2 aa)).1 df cX.scope).mono ?_;rintro _ bG _ ⟨rfl,bY⟩;by_cases aO:cw x.sc<cw h.sc
  ·rw[decide_eq_true aO];exact bj _ _ ⟨ap.trans bY,.inl ⟨rfl,by omega,fun y X=>by rw[J] at X;cases X;exact aO⟩⟩
  ·rw[decide_eq_false aO];exact bj _ _ ⟨ap.trans bY,.inr ⟨rfl,fun y X=>by rw[J] at X;cases X;exact aO⟩⟩
 rintro _ am ⟨bZ,⟨rfl,dK,dg⟩|⟨rfl,dh⟩⟩
 ·rw[bq,aB,wrap_i64 (by omega) (by omega)];refine⟨⟨i+1,rfl,by omega,bZ,fun p bh x J=>?_⟩,by simp only[bk];omega⟩;by_cases di:p=i
  ·subst di;exact dg x J
  ·exact bi p (by omega) x J
 ·rw[aR];intro Y dj _ _;have aG:=bZ.trans dj;have aQ:=av.ext (ai.trans aG);have dk:=az.ext (ai.trans aG);have bm:∀ x∈E,∀ u∈cz x,u.oneCell'=true:=fun x J=>(dk.2.1 x (ah x J)).1.one;have dl:∀ u∈cz h,u.oneCell'=true:=ba.one;rw[bn aU.p aU.i rfl (show Y.rangeAt bL 0 (cz h) from (bT.ext aG).range)];refine zK (h':=E.length) cg.u aU.i aQ (kZ i _ rfl) hp hi (r9 _) fun dL b1=>?_;refine eQ (f:=cz) (k:=3) (a:=h) cg.u aU.i (by omega) rfl rfl fun dM dN au dO bo b2=>?_;refine⟨.inl bo,?_⟩;have dm:(E.drop i).take (E.length-i)=E.drop i:=Z0 (by rw[List.length_drop];omega);rw[dm] at b1;refine qK (M:=E.drop i) cg.u aU.i rfl b2 (b1 au (aQ.ext bo)) (fun _ _=>rfl) (fun a ac=>bm a (List.mem_of_mem_drop ac)) (by simp;omega) (by simp;omega) fun dP dQ aZ bp dR dn=>?_;have b3:Ext Y aZ:=bo.then dn fun r V he=>by have:=(b2.leads he).1;omega
  refine Js (f:=cz) (k:=3) cg.u aU.i fun dS dT aL dV bt aS=>?_;have bw:=b3.trans bt;refine zK (h':=i) cg.u aU.i (aQ.ext bw) ho (k0 i _ rfl) (Z5 _) hi fun dW b4=>?_;rw[List.drop_zero,Nat.sub_zero] at b4;refine qK (M:=E.take i) cg.u aU.i rfl aS (b4 aL (aQ.ext bw)) (fun _ _=>rfl) (fun a ac=>bm a (List.mem_of_mem_take ac)) (by simp;omega) (by simp;omega) fun dp dX a2 dq dr b5=>?_;have dY:=b3.size;have ea:=bt.size;have dt:=(bp.ext bt).U b5 fun r V aF=>by have:=(bp.leads V).1;have:=(bp.leads V).2;have:=(aS.leads aF).1;omega
  refine qK (M:=[h]++E.drop i) cg.u aU.i rfl dq dt.sl (fun _ _=>rfl) (fun a ac=>?_) (by simp;omega) (by simp;omega) fun eb dv a6 dw dx dy=>?_
  ·rcases p8.1 ac with ac|ac
   ·rw[p9.1 ac];exact dl
   ·exact bm a (List.mem_of_mem_drop ac)
  have b7:Ext Y a2:=bw.then b5 fun r V he=>by have:=(aS.leads he).1;omega
  have b8:∀ r,leadsTo dp r→Y.heap.size≤r:=fun r V=>(dr r V).elim (fun h=>by have:=(aS.leads h).1;omega) fun h=>by omega
  have dz:Ext Y a6:=b7.then dy fun r V he=>by have:=b8 r he;omega
  have ed:=(aM.trans (ai.trans aG)).size;have ee:=b7.size;refine aD _ _ ⟨dv,_,(aM.trans (ai.trans aG)).trans dz,dw,fun x J=>?_,?_,fun r V=>(dx r V).elim (fun h=>by have:=b8 r h;omega) fun h=>by omega⟩
  ·rcases p8.1 J with J|J
   ·exact ah x (List.mem_of_mem_take (by simpa using J))
   ·rcases p8.1 J with J|J
    ·rw[p9.1 J];exact x2 aa
    ·exact ah x (List.mem_of_mem_drop J)
  ·rw[aN,←ay,zM (i:=i) (fun p bh x J=>?_) (by simpa using hi) (fun x J=>?_)]
   ·simp
   ·rw[x7] at J;cases X:E[p]? with
    |none=>rw[X] at J;cases J
    |some y=>rw[X] at J;cases J;exact bi p bh y X
   ·rw[x7] at J;cases X:E[i]? with
    |none=>rw[X] at J;cases J
    |some y=>rw[X] at J;cases J;exact dh y X
def Jx (w:x1) (f:bu) (v:y0) (w':x1):Prop:=Ext w w'∧ ∃ go E,aT cz 3 aU w' go v E∧(∀ h∈E,dD w' f.sizes h∧ ∀ r,mS h r→w.heap.size≤r)∧E.map cS=ek f∧ ∀ r,leadsTo v r→w.heap.size≤r
def jo (k:Int) (sc cs:List Int) (h:b1):b1:=if h.1=sc then (h.1,dh k h.2 cs) else h
set_option maxHeartbeats 8000000 in
theorem Jy {bX:Nat} {f:bu} (cV:lH w bX f) (al:dU N f):ag x5 Cc [.pointer (some ⟨bX,0,none⟩)] w (Jx w f):=by
 have ee:=al.k;obtain⟨szv,gz,aV,gr,bj,bY,cW⟩:=id cV;obtain⟨bZ,bk,cX,cY⟩:=id cW;refine ap func115 ?_;rw[aD cU.p 3 bj rfl,dA cP.u bk];refine bO.range bZ.length (fun i l Y=>∃ g L,Ext w Y∧iA Y w.heap.size g l f.sizes L∧L.map cS=dH f i) bk.le
  ⟨0,[],Ext.refl _,⟨aT.nil _ _ _ _ _,fun h Z=>(by cases Z),fun i j x y J=>(by simp at J),fun r E=>(ds E).elim⟩,rfl⟩ ?_ ?_
 rotate_left
 ·rintro l Y cZ ⟨g,L,am,E,ao⟩;rw[←cX,y7] at ao;rw[aC,af];refine⟨fun h=>by omega,fun _=>Jw al E ao fun out w' go c0 J bl c1 aq c2 c4=>?_⟩;have c5:=am.size;exact⟨am.trans J,go,c0,bl,fun h Z=>⟨aq h Z,(E.2.1 h (c1 h Z)).2⟩,c2,fun r E=>by have:=c4 r E;omega⟩
 rintro i l Y cZ hi ⟨g,L,am,E,ao⟩ c6;obtain⟨bm,b1⟩:=aE (l:=bZ) hi;obtain⟨x,bo⟩:=aE (l:=f.funs) (i:=i) (by omega);have bq:=x2 bo;have br:=cY i bm x b1 bo;have b2:=mG al bq;obtain⟨c7,ef,eg⟩:=y6 al i;have b3:L.length=(dH f i).length:=by rw[←ao,r8]
 have eh:=al.jb;have b4:=bk.ext am;refine bC (by omega) ?_;refine aI (fun l' V=>∃ g L,Ext w V∧iA V w.heap.size g l' f.sizes L∧L.map cS=dH f (i+1)) ?_ ?_
 ·rintro l' V bt;rw[aB];exact c6 _ _ bt
 intro ei b5;rw[cM rfl cP.u aL.i b4 hi,bn aL.p aL.i rfl (b4.range b1)];refine bg aL.i fun c9 ej ek da db=>?_;refine bP (vs:=dQ bm) aL.i rfl rfl br.one db fun dc dd em de=>?_;have b6:Ext Y dc:=da.put dd (by omega);have en:=b6.size;refine aI (fun df aX=>∃ W c,df= .pointer (some ⟨W,0,none⟩)∧Ext Y aX∧aa aX W aU (cz c)∧c.sc=aW x.scope∧c.cs=(fX f.sizes f.k x).2∧dD aX f.sizes c∧Y.heap.size≤W∧ ∀ r,mS c r→Y.heap.size≤r) ?_ ?_
 rotate_left
 ·intro eo b7;intro dg b8 _ _;have aY:=b6.trans b8;have aZ:=am.trans aY;have di:=de.ext b8;have cb:=bj.ext aZ;have ep:=aY.size;rw[bn aL.p aL.i rfl (show dg.rangeAt c9 0 (dQ bm) from di.range),aD cU.p 2 cb rfl,aD cU.p 1 cb rfl];refine⟨?_,?_⟩
  ·refine (zI (br.ext aZ) al bq (bY.ext aZ)).mono ?_;rintro _ er _ ⟨bw,c,rfl,h1,bx,aq,ah⟩;refine bg aU.i fun W es cc bz a2=>?_;refine⟨.inl (bw.trans bz),?_⟩;refine bP (vs:=cz c) aU.i rfl rfl aq.one a2 fun et cd eu dj=>?_;have ev:=bw.size;refine b7 _ _ ⟨W,c,rfl,(aY.trans bw).trans (bz.then cd fun r E he=>by have he:r=W:=he;omega),dj,h1,bx,?_,by omega,fun r E=>by have:=ah r E;omega⟩;exact jV (aq.ext bz) cd fun r E=>.inl ⟨_,_,by have E:r=W:=E;subst E;exact a2,by decide,by decide⟩
  ·refine bg aU.i fun W ew cc a6 a2=>?_;refine⟨.inl a6,?_⟩;have ce:=aZ.trans a6;refine (zI (br.ext ce) al bq (bY.ext ce)).mono ?_;rintro _ ey _ ⟨ch,c,rfl,h1,bx,aq,ah⟩;have ci:=a2.ext ch;have ez:=a6.size;refine bP (vs:=cz c) aU.i rfl rfl aq.one ci fun eA cj eB dk=>?_;refine b7 _ _ ⟨W,c,rfl,aY.trans ((a6.trans ch).then cj fun r E he=>by have he:r=W:=he;omega),dk,h1,bx,?_,by omega,fun r E=>by have:=ah r E;omega⟩;exact jV aq cj fun r E=>.inl ⟨_,_,by have E:r=W:=E;subst E;exact ci,by decide,by decide⟩
 rintro _ aX ⟨W,c,rfl,bA,dl,aH,a7,dm,cc,ah⟩;have ck:=E.ext bA;have dn:∀ h∈L,∀ r,leads h.aJ r→r<Y.heap.size:=fun h Z r dp=>by
  obtain⟨⟨_,_,dq,cl⟩,_⟩:=E.2.1 h Z;have:=bp cl dp;omega
 have dr:∀ {j:Nat},decide (c.sc∈(L.take j).map (·.sc))=decide (aW x.scope∈((dH f i).take j).map (·.1)):=fun {j}=>by
  rw[aH,←ao,←List.map_take,List.map_map];rfl
 have c5:=am.size;rw[dA cg.u ck.1];refine bO.range L.length (fun j aV ai=>∃ O,aV= .bool (decide (c.sc∈(L.take j).map (·.sc)))∧Ext w ai∧Y.heap.size≤ai.heap.size∧iA ai w.heap.size g l f.sizes O∧O.map cS=((dH f i).map (jo f.k c.sc c.cs)).take j++(dH f i).drop j∧aa ai W aU (cz c)∧dD ai f.sizes c∧ ∀ h∈O,∀ r,leads h.aJ r→r<Y.heap.size) E.1.le
  ⟨L,by simp,am.trans bA,bA.size,ck,by simpa using ao,dl,dm,dn⟩ ?_ ?_
 ·rintro j _ ai dt cm ⟨O,rfl,aM,du,a8,ad,bB,bD,au⟩ dv;have dw:O.length=L.length:=by
   have:=congrArg V3 ad;simp only[r8,u7,o6,List.length_drop] at this;omega
  obtain⟨h,Z⟩:=aE (l:=O) (i:=j) (by omega);have ba:(dH f i)[j]? =some (cS h):=by
   have cn:(O.map cS)[j]? =some (cS h):=by rw[x7,Z];rfl
   rw[ad,zL (by rw[r8];omega)] at cn;exact cn
  have bb:((dH f i).map (jo f.k c.sc c.cs))[j]? =some (jo f.k c.sc c.cs (cS h)):=by rw[x7,ba];rfl
  have dx:∃ y,L[j]? =some y∧y.sc=h.sc:=by
   refine⟨_,x4 cm,?_⟩;rw[←ao,x7,x4 cm] at ba;exact congrArg Prod.fst (b9 ba)
  obtain⟨y,ac,dy⟩:=dx;have bE:(c.sc∈(L.take (j+1)).map (·.sc))↔c.sc∈(L.take j).map (·.sc)∨h.sc=c.sc:=by
   rw[u5,ac,j5,j4,p8,List.map_singleton,p9,dy];exact or_congr Iff.rfl ⟨fun e=>e.symm,fun e=>e.symm⟩
  have cp:eC f.sizes f.k (cS h):=c7 _ (x2 ba);refine bC (by omega) ?_;refine aI (fun aV ak=>∃ O,aV= .bool (decide (c.sc∈(L.take (j+1)).map (·.sc)))∧Ext w ak∧Y.heap.size≤ak.heap.size∧iA ak w.heap.size g l f.sizes O∧O.map cS=((dH f i).map (jo f.k c.sc c.cs)).take (j+1)++(dH f i).drop (j+1)∧aa ak W aU (cz c)∧dD ak f.sizes c∧ ∀ h∈O,∀ r,leads h.aJ r→r<Y.heap.size) ?_ ?_
  ·rintro eD ak bt;rw[aB];exact dv _ _ bt
  intro eE cq;intro dz aN _ _;have bc:=a8.ext aN;have cr:=bB.ext aN;have ct:=bD.ext aN;obtain⟨dC,eF⟩:=bc.2.1 h (x2 Z);obtain⟨⟨eH,h1⟩,_,dq,cl⟩:=id dC;obtain⟨⟨eI,dE⟩,_,eJ,cu⟩:=id ct;rw[cM rfl cg.u aU.i bc.1 (by omega),aF aU.p rfl,av (v:=h.aO) (by kernel_rfl) (bc.1.range Z 0 _ rfl),aP aU.p 0 cr rfl];refine (EO h1.ls dE.ls).mono ?_;rintro _ eK _ ⟨rfl,ay⟩;have cw:=bc.ext ay;have bF:=cr.ext ay;have cA:=ct.ext ay;have cB:=(aM.trans aN).trans ay;have z9:=(aN.trans ay).size;rw[af];refine⟨fun bG=>?_,fun cC=>?_⟩
  rotate_left
  ·refine cq _ _ ⟨O,?_,cB,by omega,cw,?_,bF,cA,au⟩
   ·congr 1;exact decide_eq_decide.2 ⟨fun h=>bE.2 (.inl h),fun h=>(bE.1 h).resolve_right cC⟩
   ·have e:jo f.k c.sc c.cs (cS h)=cS h:=if_neg cC;rw[e] at bb;rw[←tw (by omega) bb,←ad];symm;refine Y7 fun p=>?_;rw[Y6];by_cases aQ:j=p
    ·subst aQ;rw[if_pos rfl,if_pos (by simp;omega),x7,Z];rfl
    ·rw[if_neg aQ]
  have dF:h.cs.length=c.cs.length:=by
   have dG:h.cs.length=_:=cp.len;have dI:c.cs.length=(az (bK f.sizes (fX f.sizes f.k x).1)).toNat:=by rw[a7];exact b2.len
   rw[dG,dI,show (cS h).1=h.sc from rfl,bG,aH];rfl
  have eL:(dh f.k h.cs c.cs).length=h.cs.length:=by unfold dh;rw[List.length_zipWith];omega
  rw[aP aU.p 2 bF rfl,aK an.u (cu.ext ay).ls];refine bS.range c.cs.length (fun s aw=>Ext w aw∧Y.heap.size≤aw.heap.size∧iA aw w.heap.size g l f.sizes (O.set j {h with cs:=(dh f.k h.cs c.cs).take s++h.cs.drop s})∧aa aw W aU (cz c)∧dD aw f.sizes c) cu.ls.le
   ⟨cB,by omega,?_,bF,cA⟩ ?_ ?_
  ·have e:O.set j {h with cs:=(dh f.k h.cs c.cs).take 0++h.cs.drop 0}=O:=by
    refine Y7 fun p=>?_;rw[Y6];by_cases aQ:j=p
    ·subst aQ;rw[if_pos rfl,if_pos (by omega),Z];rfl
    ·rw[if_neg aQ]
   rw[e];exact cw
  ·rintro s aw dJ bH ⟨bI,cD,bd,bL,bM⟩ dK;refine bC (by omega) ?_;intro eM aR _ _;have aA:=bd.ext aR;have cE:=bL.ext aR;have cF:=bM.ext aR;have cG:=bI.trans aR;have be:(O.set j {h with cs:=(dh f.k h.cs c.cs).take s++h.cs.drop s})[j]? =some {h with cs:=(dh f.k h.cs c.cs).take s++h.cs.drop s}:=by
    rw[Y6,if_pos rfl,if_pos (by omega)]
   have cI:j<(O.set j {h with cs:=(dh f.k h.cs c.cs).take s++h.cs.drop s}).length:=by rw[X7];omega
   obtain⟨⟨_,_,dL,bN⟩,dM⟩:=aA.2.1 _ (x2 be);obtain⟨_,_,eN,dN⟩:=id cF;obtain⟨a,bQ⟩:=aE (l:=h.cs) (i:=s) (by omega);obtain⟨b,aS⟩:=aE (l:=c.cs) bH;have dO:s<({h with cs:=(dh f.k h.cs c.cs).take s++h.cs.drop s}:dZ).cs.length:=by show s<((dh f.k h.cs c.cs).take s++h.cs.drop s).length;rw[u7,o6,List.length_drop];omega
   have dP:((dh f.k h.cs c.cs).take s++h.cs.drop s)[s]? =some a:=by rw[zL (by omega)];exact bQ
   have bR:(dh f.k h.cs c.cs)[s]? =some (min (a+b) f.k):=by
    unfold dh;rw[List.getElem?_zipWith,bQ,aS]
   have eO:=cp.iu a (x2 bQ);have eP:=b2.iu b (by rw[←a7];exact x2 aS);have dR:=bj.ext cG;rw[cM rfl cg.u aU.i aA.1 cI,aF aU.p rfl,av (v:=h.aJ) (by kernel_rfl) (aA.1.range be 2 _ rfl),cM rfl cg.u aU.i aA.1 cI,aF aU.p rfl,av (v:=h.aJ) (by kernel_rfl) (aA.1.range be 2 _ rfl),a1 an.u aj.i (by kernel_rfl) bN.ls dP,aP aU.p 2 cE rfl,a1 an.u aj.i (by kernel_rfl) dN.ls aS,aD cU.p 1 dR rfl];refine (Fv (by omega) (by omega)).mono ?_;rintro _ eR _ ⟨rfl,aG⟩;refine⟨.inl aG,?_⟩;have z12:=(aR.trans aG).size;refine Jt (h:={h with cs:=(dh f.k h.cs c.cs).take s++h.cs.drop s}) (aA.ext aG) be dO fun eS bf cJ bT=>?_;rw[aB];have dS:=cF.ext aG;have cK:=cE.ext aG;have eT:=bf.size;refine dK _ ⟨(cG.trans aG).then bf fun r E he=>by have:=dM r (.inl he);omega,by omega,?_,?_,?_⟩
   ·rw[List.set_set] at bT;have e:=tw (A:=dh f.k h.cs c.cs) (B:=h.cs) (s:=s) (by omega) bR;simp only[e] at bT;exact bT
   ·exact cK.U bf fun bH=>by
     obtain⟨eU,dT⟩:=cJ _ bH;exact absurd (ed cK dT) (by decide)
   ·refine jV dS bf fun r E=>.inr (.inr ⟨cJ r E,fun dV=>?_⟩);have:=ah r (.inl dV);have:=au h (x2 Z) r E;omega
  ·rintro aw dJ ⟨bI,cD,bd,bL,bM⟩;refine cH (by omega) ?_;have e:(dh f.k h.cs c.cs).take c.cs.length++h.cs.drop c.cs.length=dh f.k h.cs c.cs:=by
    rw[←dF,List.drop_length,Y8,Z0 (by omega)]
   simp only[e] at bd;refine cq _ _ ⟨_,?_,bI,cD,bd,?_,bL,bM,fun z X r E=>?_⟩
   ·congr 1;symm;exact decide_eq_true (bE.2 (.inr bG))
   ·have dW:jo f.k c.sc c.cs (cS h)=cS {h with cs:=dh f.k h.cs c.cs}:=if_pos bG;rw[dW] at bb;rw[List.map_set,ad,tw (by omega) bb]
   ·rcases W3 X with X|rfl
    ·exact au z X r E
    ·exact au h (x2 Z) r E
 rintro _ ai dt ⟨O,rfl,aM,du,a8,ad,bB,bD,au⟩;refine cH (by omega) ?_;rw[dr,b3,o5,bJ,ca];have cL:=s8 bo;have bR:((dH f i).map (jo f.k c.sc c.cs)).take L.length++(dH f i).drop L.length=(dH f i).map (jo f.k c.sc c.cs):=by
  rw[b3,List.drop_length,Y8,Z0 (by rw[r8];exact r9 _)]
 rw[bR] at ad;have dw:O.length=L.length:=by
  have:=congrArg V3 ad;rw[r8,r8] at this;omega
 refine⟨fun bh=>?_,fun ae=>?_⟩
 ·have bh:aW x.scope∉(dH f i).map (·.1):=by simpa using bh
  have dX:(dH f i).map (jo f.k c.sc c.cs)=dH f i:=by
   refine (List.map_congr_left fun z X=>?_).trans (List.map_id _);exact if_neg fun he=>bh (o8.2 ⟨z,X,by rw[he,aH]⟩)
  rw[dX] at ad;rw[bn aU.p aU.i rfl (show ai.rangeAt W 0 (cz c) from bB.range)];refine eQ (f:=cz) (k:=3) (a:=c) cg.u aU.i (by omega) rfl rfl fun eV dL ak eW bi bN=>?_;have ax:=a8.ext bi;have cN:=bD.ext bi;refine ff (f:=cz) (a:=c) cg.u aU.i rfl ax.1 (by simpa using bN.sl) cN.one (by omega) (by omega) fun eX dY dz bl ea bU=>?_;have cO:∀ r,leadsTo l r→ ∃ e c,aa ak r e c∧e≠ab∧e≠aj:=fun r E=>by
   obtain⟨rfl,c,aS⟩:=c3 ax.1 E;exact⟨_,c,aS,by decide,by decide⟩
  have eY:=bi.size;have eZ:=aM.size;refine b5 _ _ ⟨dY,O++[c],(aM.trans bi).then bU fun r E he=>by have:=ax.2.2.2 r he;omega,⟨bl,fun z X=>?_,fun p q y z ac X eb r bV bW=>?_,fun r E=>(ea r E).elim (ax.2.2.2 r) fun h=>by omega⟩,?_⟩
  ·rcases p8.1 X with X|X
   ·exact⟨jV (ax.2.1 z X).1 bU fun r E=>.inl (cO r E),(ax.2.1 z X).2⟩
   ·rw[p9.1 X];exact⟨jV cN bU fun r E=>.inl (cO r E),fun r E=>by have:=ah r E;omega⟩
  ·have cQ:∀ {p:Nat} {y:dZ},(O++[c])[p]? =some y→O[p]? =some y∨(p=O.length∧y=c):=fun {p y} ac=>by
    rw[List.getElem?_append] at ac;split at ac
    ·exact .inl ac
    ·by_cases ec:p-O.length=0
     ·rw[ec] at ac;cases ac;exact .inr ⟨by omega,rfl⟩
     ·rw[c8 (by simp;omega)] at ac;cases ac
   rcases cQ ac with cR|⟨e0,rfl⟩ <;> rcases cQ X with cT|⟨eq,rfl⟩
   ·exact ax.2.2.1 p q y z cR cT eb r bV bW
   ·have:=au y (x2 cR) r bV;have:=ah r (.inl bW);omega
   ·have:=au z (x2 cT) r bW;have:=ah r (.inl bV);omega
   ·omega
  ·rw[j4,ad,cL,y5 fun z X he=>bh (o8.2 ⟨z,X,he⟩)];show _++[(c.sc,c.cs)]=_;rw[aH,a7];rfl
 ·have ae:aW x.scope∈(dH f i).map (·.1):=by simpa using ae
  refine b5 _ _ ⟨g,O,aM,a8,?_⟩;rw[ad,cL];unfold gv;rw[if_pos (show (fX f.sizes f.k x).1∈_ from ae)];refine List.map_congr_left fun z _=>?_;unfold jo;rw[aH,a7];rfl
end Go.Proofs.YthjegppepbbojaaGreatDoor
