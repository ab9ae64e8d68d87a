/- own texts, made small by a tool (wip/ holds them as they were written): no statement of the seat. -/
import Derived.Test.YtjjhhcfgfdepdaaGreatDoorXa
set_option linter.unusedVariables false
set_option linter.unusedSimpArgs false
set_option linter.unnecessarySimpa false
open Array renaming getElem?_eq_some_iff→j0,getElem?_toList→S9
open BitVec renaming ofInt→T1
open Bool renaming not_true→Y5,not_false→V0,eq_iff_iff→U1,and_eq_true→T0,or_eq_false_iff→S7
open Decidable renaming not_not→Y7
open Go renaming Value→x1,World→x3,TypeId→r9,IntKind→o6,Builtin→Z3,Program→W9,FuncId→Q0
open Go.Addr renaming add_mid→S2
open Go.Builtin renaming append_→b9,len_→V3
open Go.Instr renaming loadAt→u5,fieldAt→u6,storeAt→o5,indexAt→c8,extract→Z8,buildSlice→Y4,sliceAt→U2,alloc→S0
open Go.IntKind renaming i64→X7,u64→U8
open Go.Proofs.Tryz renaming prog→x7
open Go.Result renaming andThen→W8
open Go.Sem renaming run_bind→W6,run_pure→V4
open Go.Value renaming int→V5
open Int renaming toNat_natCast→r8
open List renaming getElem?_eq_some_iff→x4,mem_of_getElem?→x5,getElem?_eq_getElem→x6,getElem?_map→x8,getD_eq_getElem?_getD→u4,length_map→u7,take_add_one→u9,length_append→p8,replicate→p9,take_length→o7,take_of_length_le→o9,mem_singleton→n9,mem_map→l7,mem_append→l9,length_take→j5,map_append→j6,getElem?_set_self→j9,append_assoc→c9,length_cons→b8,eq_nil_of_length_eq_zero→Z0,getElem?_eq_none→Z4,length_set→Z5,getElem?_set_ne→Y0,ext_getElem?→Y6,getElem?_append_left→Y8,getElem?_append_right→X1,flatMap_cons→X2,getElem?_take_of_lt→X4,getElem?_set→X6,mem_iff_getElem?→X9,mem_or_eq_of_mem_set→W3,drop_eq_getElem_cons→W5,append_nil→W7,mem_cons→V1,length_eq_one_iff→V2,range→V6,map_cons→V7,pairwise_iff_getElem→V9,length_singleton→U3,map_set→U9,length→T7,set_append_right→T8,getElem?_eq_none_iff→S4,map_map→R6,getElem_mem→Q4
open Nat renaming le_refl→o4,le_trans→X0,mul_le_mul_right→X5,zero_le→X8,zero_add→W0,add_mul→U4,sub_self→U7,mul_one→T5,pow_le_pow_right→S3,add_assoc→R7,add_sub_cancel_left→R8,lt_of_lt_of_le→Q2,eq_zero_or_pos→Q3
open Ne renaming symm→S8
open Option renaming toList_some→o8,map_some→Z6,isNone_some→Z7,map_eq_some_iff→X3,getD_some→V8,map→U6
open Option.some renaming inj→c7,injEq→Y3
open Prod renaming mk→R5
open Prod.mk renaming injEq→T2
set_option maxHeartbeats 16000000
open Option renaming some→σ,none→ν
variable {e t:r9}{N a gs j m n r:Nat}{at_ c hi k lo y:Int}{sv v z:x1}{cs:List x1}{K:x1->Prop}{f:o6}{C ac ks l sizes:Λ}{w w':x3}{clean cx cy:Bool}{S:Nat->Prop}
namespace Go.Vc
open Go Go.RowKit
section
variable {P:W9} {w:x3} {m:Bool} {S R:af}
theorem sk {b k l h:Nat} {low high:Option x1} (p:P.underlying t=σ (.slice e)) (hi:aN P e k b z)
  (a:b7 w k v n cs) (h1:lP low l) (q:lQ high n h) (f:l<=h) (ay:h<=n) (r:∀j,b7 w k j (h-l) ((cs.drop (l*k)).take ((h-l)*k))->K j):
  V P (U2 t v low high ν) w K:=by
 have s:=a;obtain⟨_,x,o,base,cap,rfl,y,_⟩:=a;rw[iG p hi h1 q gj f Ω (o4 _)];exact r _ (b7.part s f ay Ω (o4 _))
theorem I9 {k:o6} {b i:Nat} (j:y=(i:Int)) (p:P.underlying t=σ (.slice e)) (hi:aN P e 1 b z)
  (h:aF k w v l) (q:i<=l.length) (r:∀a,aF k w a (l.drop i)->K a):V P (U2 t v (σ (.int f y)) ν ν) w K:=by
 refine sk p hi h (nr i y j) kj q (o4 _) λa h'=>r a (aF.of (n:=l.length-i) ?_);have s:((ints k l).drop (i*1)).take ((l.length-i)*1)=ints k (l.drop i):=by
  rw[o9 Ξ,T5,ints,<-List.map_drop]
 rw[s] at h';exact h'
theorem Ja {k:o6} {b i:Nat} (j:y=(i:Int)) (p:P.underlying t=σ (.slice e)) (hi:aN P e 1 b z)
  (h:aF k w v l) (q:i<=l.length) (r:∀a,aF k w a (l.take i)->K a):V P (U2 t v ν (σ (.int f y)) ν) w K:=by
 refine sk p hi h ki (ns i y j) (X8 _) q λa h'=>r a (aF.of (n:=i) ?_);have s:((ints k l).drop (0*1)).take ((i-0)*1)=ints k (l.take i):=by
  simp[ints,List.map_take]
 rw[s] at h';exact h'
theorem pY {b:Nat} {parts:Array (Nat×x1)} {K:x1->x3->Prop} (a:P.underlying t=σ (.slice e)) (hi:aN P e 1 b (Δ 0)) (x:n<=100000) (f:l.length=n)
  (h:Instr.fill (λj=>σ (j*1,1)) ((Array.range (n*1)).map ((if n*1=0 then #[] else (V5 .i64 0).cells)[·% (if n*1=0 then #[] else (V5 .i64 0).cells).size]!)) parts.toList=σ (ints .i64 l).toArray)
  (p:∀v g w',g=w.heap.size->Ext w w'->ap .i64 e w' g v l->K v w'):av P (Y4 t n parts) w K:=
 jG a hi Ω h λg w' q r s=>p _ g w' q r (ap.of (n:=n) (bV.full (by simpa using s) (by simp[f]) (by simp[maxLen];omega)))
end
section
variable {P:W9} {w:x3}
theorem Jb {h p:r9} {q kn:o6} {b k cap:Nat} {base:Option Addr} {xs:List x1} {K:x1->x3->Prop} (x:y=(k:Int)) (A:P.underlying t=σ (.slice e)) (B:P.underlying h=σ (.int kn)) (hi:aN P e 1 b z) (C:z.cells= #[z])
  (I:b7 w 1 (.slice base n cap) n xs) (E:0<k) (r:cap<n+k) (F:(n+k)*b<=140737488355328) (G:n+k<=9223372036854775807)
  (H:∀v g w',g=w.heap.size->Ext w w'->bV w' g e 1 v (n+k) (xs++p9 k z)->K v w'):av P (b9 #[t,h] p #[.slice base n cap,.int q y]) w K:=by
 subst x;obtain⟨i,hi,J,rfl,L⟩:=hi;obtain⟨f,W,o,X,Y,he,M,Z,N,O⟩:=I;cases he;have Q:(Z3.firstCells i.size n (.slice base n cap)).run P w.drew= .ok xs.toArray w.drew:=by
  rcases Q3 n with rfl|R
  .have:xs=[]:=Z0 (by simpa using f);subst this;cases base with
   |none=>exact run_firstCells_none w.drew i.size 0 0 cap
   |some a=>exact run_firstCells_some w.drew i.size 0 a 0 cap [] Ξ Ξ
  .have:=N R;subst this;refine run_firstCells_some w.drew i.size n _ n cap xs (by rw[J];exact f) λj u hu=>?_;rw[S2];exact O j u hu
 have S:k*i.bytes<=281474976710656:=by
  have:k*i.bytes<=(n+k)*i.bytes:=X5 _ Ω;omega
 have T:=Lib.run_append_grow_zeros (P:=P) w t h p e i z q kn A B hi L base n cap xs Q k E Ω r Ω S (growslice_fits r F);have U:n+k<=grownCap w (n+k) cap e:=grownCap_ge w _ _ _;have V:grownCap w (n+k) cap e<=maxLen:=grownCap_le_maxLen w (n+k) cap e (by simpa[maxLen] using G);have s:∀m,Z3.zeroCells z.cells m=(p9 m z).toArray:=λm=>by
  rw[C];apply Array.ext
  .simp[size_zeroCells]
  .intro j h1 M;simp[Z3.zeroCells,Nat.mod_one]
 refine .of T ((pz w _ (Nat.le_succ _)).trans (pB _ _)) (H _ w.heap.size _ rfl ((rk w _).trans (pA _ _)) ⟨by simp at f;simp[f],.inr ⟨_,xs++p9 k z++p9 (grownCap w (n+k) cap e-(n+k)) z,rfl,?_,U,V,?_,?_⟩⟩)
 .rw[s,s];have:=heap_alloc_new w.drew (.cells (xs.toArray++(p9 k z).toArray++(p9 (grownCap w (n+k) cap e-(n+k)) z).toArray) e);rw[List.append_toArray,List.append_toArray] at this ⊢;exact this
 .simp at f;simp[f];omega
 .simp at f;rw[List.take_append_of_le_length (by simp[f]),o9 (by simp[f])]
theorem zY {a:r9} {base:Option Addr} {c:Nat} (f:P.underlying t=σ (.slice e)):
  V P (Z3.cap_ #[t] a #[.slice base n c]) w K=K (Δ c):=V.of λw' _=>by simp[Z3.cap_,run_underlying f,goInt]
theorem Jc {g o k c:Nat} (h:aa w g e cs) (hk:o+k<=cs.length) (f:k<=c) (p:c<=maxLen):b7 w 1 (.slice (σ ⟨g,o,ν⟩) k c) k ((cs.drop o).take k):=by
 refine⟨Θ,g,o,_,c,rfl,f,p,λ_=>rfl,λj v a=>?_⟩;have q:=(x4.1 a).1;simp at q;rw[X4 Ω,List.getElem?_drop] at a;exact h.cell a
theorem Jd {h p:r9} {q g o cap:Nat} {K:x1->x3->Prop} (s:P.underlying t=σ (.slice e)) (hi:aN P e 1 q z) (x:z.cells= #[z]) (h1:z.oneCell'=true)
  (a:aa w g p cs) (y:0<n) (F:o+n<=cs.length)
  (A:∀w',ae (λr=>r=g) w w'->w'.heap.size=w.heap.size->aa w' g p (over cs o (p9 n z))->K (.tuple #[]) w'):av P (Z3.clear_ #[t] h #[.slice (σ ⟨g,o,ν⟩) n cap]) w K:=by
 obtain⟨i,hi,G,rfl,B⟩:=hi;have C:=Lib.run_clear_slice (P:=P) w t e h z s (λw=>by simp[zeroValue,typeInfo,hi,B]) x h1 g o n cap y
  (λj H=>by rw[a.cell (x6 (show o+j<cs.length by omega))];rfl) (λj _=>a.frozen _ _)
 obtain⟨E,f⟩:=nt (p9 n z) cs o w a;exact .of C (f.cq a) (A _ f.U f.size E)
end
section
variable {P:W9} {w:x3}
theorem iK {a:r9} {k:o6} {i b g:Nat} (j:y=(i:Int)) (p:P.underlying t=σ (.slice e)) (hi:aN P e 1 b z)
  (h:ap k a w g v l) (q:i<l.length):V P (c8 t v (.int f y)) w K=K (.pointer (σ ⟨g,i,ν⟩)):=by
 subst j;obtain⟨_,⟨_,r⟩|⟨cap,cs,rfl,_⟩⟩:=h
 .omega
 .rw[fz p hi q (λ_=>rfl)];simp
theorem pZ {k:o6} {i b:Nat} {x:Int} (j:y=(i:Int)) (p:P.underlying t=σ (.slice e)) (hi:aN P e 1 b z)
  (h:aF k w v l) (a:l[i]? =σ x) (q:∀b o,w.cell? ⟨b,o,ν⟩=σ (.int k x)->K (.pointer (σ ⟨b,o,ν⟩))):V P (c8 t v (.int f y)) w K:=by
 subst j;have r:=(x4.1 a).1;obtain⟨_,_,_,_,_,rfl,_,_,s,A⟩:=h;rw[fz p hi r s,T5];exact q _ _ (A i _ (kV a))
theorem iL {a:r9} {k:o6} {i b g:Nat} {x:Int} {K:Unit->x3->Prop} (hi:aN P e 1 b z)
  (h:ap k a w g v l) (E:i<l.length) (p:∀w',ae (λr=>r=g) w w'->w'.heap.size=w.heap.size->ap k a w' g v (l.set i x)->K () w'):av P (o5 e (.pointer (σ ⟨g,i,ν⟩)) (.int k x)) w K:=by
 obtain⟨F,⟨_,G⟩|⟨cap,full,rfl,q,s,y,f,j⟩⟩:=h
 .omega
 .have A:i<full.length:=by simp at f;omega
  refine bo hi rfl rfl q A λw' B I C=>p w' B I ⟨Ξ,.inr ⟨cap,full.set i (.int k x),Ξ,C,by simpa using s,y,by simpa using f,?_⟩⟩;simp only[Z5,T5] at j ⊢;rw[List.take_set,j,ints,ints,U9]
theorem nE {b o:Nat} (a:jF P t=true) (h:w.cell? ⟨b,o,ν⟩=σ v):b4 P (u5 t (.pointer (σ ⟨b,o,ν⟩))) v w:=λw' e=>by
 have h':=iE e h;unfold jF at a;cases hu:P.underlying t with
 |none=>rw[hu] at a;cases a
 |some d=>
  rw[hu] at a;cases d<;>first|(cases a;done)|simp[u5,Instr.sureAddr,loadVar,isAgg,run_underlying hu,h']
theorem hV {k:o6} {S:af} (h:aF k w v l) (p:ae S w w') (q:∀r,S r-> ∀a n c,v= .slice (σ a) n c->a.block≠r):aF k w' v l:=by
 obtain⟨h1,b,o,base,cap,rfl,s,x,e,y⟩:=h;refine⟨h1,b,o,base,cap,rfl,s,x,e,?_⟩;rcases Q3 l.length with f|f
 .intro j u hu;have:=(x4.1 hu).1;simp at this;omega
 .have z:=e f;subst z;exact jh p (λh=>q _ h _ _ _ rfl rfl) y
end
end Go.Vc
namespace Go.Vc
open Go Go.RowKit Go.ChangeShapes Go.WideShapes
structure k0 (P:W9) (t:r9) (α:Type) [aj α] (G:α->Prop):Prop where
 op:∀ {H:Type} {enc:r9×x1->H} {w:x3} {base:Nat} {spare:Nat->Bool} {held:Bool} {fuel:Nat} {cs:List x1} {x:DataW H×List MemPlace},
  DataW.trod enc P w base spare held fuel t cs=σ x-> ∃a:α,Seen ek w cs a/\G a
section
variable {P:W9} {α β:Type} [aj α] [aj β]
theorem zZ {k:o6} {n:Int} (h:(Lit.int k n).wf=true):k.min<=n/\n<=k.max:=by simpa[Lit.wf] using h
theorem z1 {k:o6} (a:P.underlying t=σ (.int k)):k0 P t (jH k) λn=>k.min<=n.val/\n.val<=k.max:=⟨λh=>by
 obtain⟨n,rfl,_,hw⟩:=DataW.trod_int a h;exact⟨(n:Int),rfl,zZ hw⟩⟩
theorem mv (a:P.underlying t=σ (.int .i64)):k0 P t Int λn=>X7.min<=n/\n<=X7.max:=⟨λh=>by
 obtain⟨n,rfl,_,hw⟩:=DataW.trod_int a h;exact⟨n,rfl,zZ hw⟩⟩
theorem z6 (a:P.underlying t=σ .bool):k0 P t Bool λ_=>True:=⟨λh=>by
 obtain⟨b,rfl,_⟩:=DataW.trod_bool a h;exact⟨b,rfl,trivial⟩⟩
theorem Je (a:Addr) (m n:Nat):(a.add m).add n=a.add (m+n):=by
 unfold Addr.add;by_cases hm:m=0<;>by_cases e:n=0<;>simp[hm,e,R7]
theorem Jf {base:Nat} {a:Addr} (h:w.cells? base a n=σ cs):cs.length=n/\ ∀j v,cs[j]? =σ v->w.cell? (a.add j)=σ v:=by
 unfold x3.cells? at h;split at h
 .have f:cs.length=n:=by
   have:=mapM_some_length h;simpa using this
  refine⟨f,λj v e=>?_⟩;have p:=(x4.1 e).1;have:=mapM_some_get h j j (List.getElem?_range Ω);rw[this,e]
 .cases h
theorem Jg {G:α->Prop} (M:P.underlying t=σ (.slice e)) (he:k0 P e α G) (N:P.cellsOf e=aj.n α) (V:0<aj.n α):k0 P t (List α) λl=>∀a∈l,G a:=by
 constructor;intro H enc w base spare held fuel cs x h;rcases DataW.trod_slice M h with⟨rfl,_⟩|⟨a,len,cap,W,rest,n,_,rfl,rfl,X,Y,hm,Z,O,_,_⟩
 .exact⟨[],gk,λ_ h=>by cases h⟩
 .
  have K:∀i,i<len-> ∃ (c:List x1) (y:α),c.length=aj.n α/\(∀j v,c[j]? =σ v->w.cell? (a.add (i*aj.n α+j))=σ v)/\Seen ek w c y/\G y:=by
   intro i hi;have h1:=O i hi;rw[x6 Ω,N,Option.bind_eq_some_iff] at h1;obtain⟨c,r,s⟩:=h1;obtain⟨B,C⟩:=Jf r;obtain⟨y,E,Q⟩:=he.op s;exact⟨c,y,B,λj v q=>by have:=C j v q;rwa [Je] at this,E,Q⟩
  have all:∀m,m<=len-> ∃ (vs:List (List x1)) (l:List α),vs.length=m/\l.length=m/\(∀c∈vs,c.length=aj.n α)/\(∀ (j:Nat) (v:x1),vs.flatten[j]? =σ v->w.cell? (a.add j)=σ v)/\
    (∀ (i:Nat) (c:List x1) (y:α),vs[i]? =σ c->l[i]? =σ y->Seen ek w c y)/\ ∀y∈l,G y:=by
   intro m;induction m with
   |zero=>exact λ_=>⟨[],[],rfl,rfl,(λ_ h=>by cases h),(λj v h=>by simp at h),(λi c y h=>by simp at h),(λ_ h=>by cases h)⟩
   |succ m R=>
    intro hm;obtain⟨vs,l,h1,r,s,B,C,E⟩:=R Ω;obtain⟨c,y,g1,F,S,T⟩:=K m Ω;refine⟨vs++[c],l++[y],by simp[h1],by simp[r],λd f=>?_,λj v q=>?_,λi d z f p=>?_,λz p=>?_⟩
    .rcases l9.1 f with f|f
     .exact s d f
     .simp at f;subst f;exact g1
    .have A:=km s;rw[h1] at A;rw[List.flatten_append] at q;by_cases U:j<m*aj.n α
     .rw[Y8 Ω] at q;exact B j v q
     .rw[X1 Ω,A] at q;simp at q;have:=F _ v q;rwa [show m*aj.n α+(j-m*aj.n α)=j by omega] at this
    .by_cases hi:i<m
     .rw[Y8 Ω] at f p;exact C i d z f p
     .have I:=(x4.1 f).1;simp[h1] at I;have I:i=m:=Ω
      subst I;rw[X1 Ω,h1] at f;rw[X1 Ω,r] at p;simp at f p;subst f p;exact S
    .rcases l9.1 p with p|p
     .exact E z p
     .simp at p;subst p;exact T
  obtain⟨vs,l,h1,r,s,B,C,E⟩:=all len (o4 _);have A:=km s;rw[h1] at A;have L:0<len->a=⟨a.block,a.off,ν⟩:=λJ=>by
   obtain⟨c,y,g1,F,_⟩:=K 0 Ω;have:=F 0 c[0] (x6 Ω);rw[Nat.zero_mul] at this;exact vf this
  refine⟨l,⟨_,rfl,vs,0,λ_ _=>False,⟨λ_ _ h=>h.elim,(λh=>by cases h),(λh=>by cases h)⟩,⟨Ω,C⟩,⟨by rw[A,r],a.block,a.off,σ a,cap,by rw[r],Ω,hm,λJ=>congrArg σ (L Ω),λ_=>.inr trivial,λj v q=>?_⟩,λh=>by cases h⟩,E⟩;have:=B j v q;have U:=(x4.1 q).1;have J:0<len:=by
   rcases Q3 len with h|h
   .rw[h,Nat.zero_mul] at A;omega
   .exact h
  rw[L J,S2] at this;exact this
structure sm (P:W9) (fs:List Field) (off:Nat) (α:Type) [aj α] (G:α->Prop):Prop where
 op:∀ {H:Type} {enc:r9×x1->H} {w:x3} {base:Nat} {spare:Nat->Bool} {held:Bool} {n:Nat} {cs:List x1},cs.length=off+aj.n α->
  (∀f∈fs,∃x,DataW.trod enc P w base spare held n f.type ((cs.drop f.offset).take (P.cellsOf f.type))=σ x)-> ∃a:α,Seen ek w (cs.drop off) a/\G a
theorem z7 {f:Field} {off:Nat} {G:α->Prop} (h:k0 P f.type α G) (e:f.offset=off) (j:P.cellsOf f.type=aj.n α):sm P [f] off α G:=by
 constructor;intro H enc w base spare held n cs s p;obtain⟨x,q⟩:=p f (.head _);obtain⟨a,h1,r⟩:=h.op q;rw[e,j,o9 Θ] at h1;exact⟨a,h1,r⟩
theorem k1 {f:Field} {e:List Field} {off:Nat} {G:α->Prop} {j:β->Prop} (h:k0 P f.type α G) (r:f.offset=off) (s:P.cellsOf f.type=aj.n α) (y:sm P e (off+aj.n α) β j):
  sm P (f::e) off (α×β) λp=>G p.1/\j p.2:=by
 constructor;intro H enc w base spare held n cs F q;obtain⟨x,z⟩:=q f (.head _);obtain⟨a,h1,A⟩:=h.op z;rw[r,s] at h1;have I:aj.n (α×β)=aj.n α+aj.n β:=rfl;obtain⟨b,B,C⟩:=y.op Ω λg E=>q g (.tail _ E);refine⟨(a,b),⟨(cs.drop off).take (aj.n α),cs.drop (off+aj.n α),λ_=>False,λ_=>False,?_,λ_ h=>h,λ_ h=>h,(λh=>by cases h),h1,B⟩,A,C⟩;rw[<-List.drop_drop,List.take_append_drop]
theorem z8 {a:List Field} {G:α->Prop} (e:P.underlying t=σ (.struct a.toArray)) (j:sm P a 0 α G) (y:P.cellsOf t=aj.n α):k0 P t α G:=by
 constructor;intro H enc w base spare held fuel cs x h;obtain⟨xs,n,_,rfl,z,p,q⟩:=DataW.trod_struct e h;have:=j.op (enc:=enc) (w:=w) (base:=base) (spare:=spare) (held:=held) (n:=n) (cs:=cs) Ω λf r=>by
  obtain⟨i,hi,rfl⟩:=List.mem_iff_getElem.1 r;have s:i<xs.length:=by simpa[p] using hi
  have:=q i a[i] (by simp[hi]);rw[x6 s] at this;exact⟨_,this⟩
 simpa using this
end
end Go.Vc
namespace Go.Vc
open Go Go.RowKit
set_option maxRecDepth 100000
theorem Jh:(⟨#[]⟩:ByteArray)=strOfNums []:=rfl
theorem Ji {au:x1->x1->x1->x3->Prop} {B:(x1->x1->x1->x3->Prop)->Prop} (G:x1->x1->x1->x3->Prop) (h1:∀t u v w,G t u v w->au t u v w)
  (e:∀a:x1->x1->x1->x3->Prop,(∀t u v w,G t u v w->a t u v w)->B a):cr au B:=e au h1
theorem Aa {au:x1->x1->x1->x1->x3->Prop} {B:(x1->x1->x1->x1->x3->Prop)->Prop} (G:x1->x1->x1->x1->x3->Prop) (h1:∀s t u v w,G s t u v w->au s t u v w)
  (e:∀a:x1->x1->x1->x1->x3->Prop,(∀s t u v w,G s t u v w->a s t u v w)->B a):cr au B:=e au h1
abbrev bR (l:Λ):x1:=.string (strOfNums l)
def Bytes (l:Λ):Prop:=∀b∈l,0<=b/\b<256
theorem mw (l:Λ):(strOfNums l).size=l.length:=strOfNums_size l
theorem Jj (h:Bytes l) {i:Nat} {b:Int} (hi:l[i]? =σ b):(strOfNums l)[i]? =σ (UInt8.ofNat b.toNat)/\((UInt8.ofNat b.toNat).toNat:Int)=b:=by
 have f:=h b (x5 hi);have e:=x4.1 hi;refine⟨?_,by rw[UInt8.toNat_ofNat'];omega⟩;have I:i<(strOfNums l).size:=by rw[mw];exact e.1
 rw[getElem?_pos (strOfNums l) i I];congr 1;show (strOfNums l).data[i]=_;have a:(strOfNums l).data.toList[i]? =σ (UInt8.ofNat b.toNat):=by rw[strOfNums_data,x8,hi];rfl
 rw[S9] at a;exact (j0.1 a).2
theorem str_inj {a b:Λ} (e:Bytes a) (f:Bytes b) (h:strOfNums a=strOfNums b):a=b:=by
 have h1:(strOfNums a).data.toList=(strOfNums b).data.toList:=by rw[h]
 rw[strOfNums_data,strOfNums_data] at h1;have key:∀ {l:Λ},Bytes l->(l.map λn=>UInt8.ofNat n.toNat).map (λu=>((u.toNat:Nat):Int))=l:=λ{l} j=>by
  rw[R6]
  conv=>rhs;rw[<-List.map_id l]
  refine List.map_congr_left λx p=>?_;have:=j x p;show (((UInt8.ofNat x.toNat).toNat:Nat):Int)=x;rw[UInt8.toNat_ofNat'];omega
 rw[<-key e,<-key f,h1]
theorem Jk (a b:Λ):strOfNums a++strOfNums b=strOfNums (a++b):=by
 apply ByteArray.ext;rw[ByteArray.data_append];simp[strOfNums]
theorem Jl (l:Λ) (i j:Nat):(strOfNums l).extract i j=strOfNums ((l.take j).drop i):=by
 apply ByteArray.ext;rw[ByteArray.data_extract];apply Array.toList_inj.1;rw[Array.toList_extract];simp[strOfNums,List.extract_eq_take_drop,List.map_drop,List.map_take,List.drop_take]
theorem Ab (l:Λ):(strOfNums l).toList=l.map λn=>UInt8.ofNat n.toNat:=by
 rw[ByteArray.toList_eq];exact strOfNums_data l
theorem Ac {a b:Λ} (e:Bytes a) (f:Bytes b):((strOfNums a).toList == (strOfNums b).toList)=decide (a=b):=by
 rw[U1,beq_iff_eq,decide_eq_true_eq,Ab,Ab];refine⟨λh=>str_inj e f ?_,λh=>by rw[h]⟩;unfold strOfNums;rw[h]
section
variable {P:W9} {w:x3}
theorem nF {a:r9} (e:P.underlying t=σ .string):V P (V3 #[t] a #[bR l]) w K=K (Δ l.length):=V.of λw' _=>by
 simp[V3,run_underlying e,goInt,mw]
theorem p0 {k:o6} {b:Int} {i:Nat} (a:y=(i:Int)) (f:P.underlying t=σ .string) (h:Bytes l) (hi:l[i]? =σ b):V P (Instr.index t (bR l) (.int k y)) w K=K (.int .u8 b):=V.of λw' _=>by
 subst a;obtain⟨h1,j⟩:=Jj h hi;have e:(0:Int)<=(i:Int):=Ω
 simp only[Instr.index,asIntOf,W6,V4,W8,run_underlying f];rw[if_pos e,r8,h1];simp only[V4,j]
theorem vm {a b:Λ} (h:a.length+b.length<=9223372036854775807):V P (aJ .add t cx cy (bR a) (bR b)) w K=K (bR (a++b)):=V.of λw' _=>by
 have:=run_string_add_sum (P:=P) (w:=w') (strOfNums a) (strOfNums b) (by rw[mw,mw];exact h);simp only[aJ,eqGuard,binOp];simp[this,Jk]
theorem Ad {a b:Λ} (e:Bytes a) (f:Bytes b):V P (aJ .eql t cx cy (bR a) (bR b)) w K=K (.bool (decide (a=b))):=V.of λw' _=>by
 simp[aJ,eqGuard,binOp,Op.stringOp,Ac e f]
theorem Jm {a b:Λ} (e:Bytes a) (f:Bytes b):V P (aJ .neq t cx cy (bR a) (bR b)) w K=K (.bool (decide (a≠b))):=V.of λw' _=>by
 simp[aJ,eqGuard,binOp,Op.stringOp,Ac e f]
theorem Ae {k:o6} {i:Nat} (a:y=(i:Int)) (f:P.underlying t=σ .string) (hi:i<=l.length):V P (U2 t (bR l) (σ (.int k y)) ν ν) w K=K (bR (l.drop i)):=V.of λw' _=>by
 have j:=r5 (P:=P) w' (sl:=false) (n:=(strOfNums l).size) (c:=(strOfNums l).size) (low:=σ (.int k y)) (high:=ν) (mx:=ν) (l:=i) (h:=(strOfNums l).size) (m:=(strOfNums l).size) (nr i y a) kj gj (by rw[mw];exact hi) (o4 _) (o4 _);have e:(strOfNums l).extract i (strOfNums l).size=strOfNums (l.drop i):=by rw[Jl,mw,o7]
 simp[U2,Instr.slice,run_underlying f,j,e]
theorem vn {s:r9} (I:P.underlying s=σ (.slice e)) (he:P.underlying e=σ (.int .u8)) (f:P.underlying t=σ .string) (h:aF .u8 w v l):V P (convert s t v) w K=K (bR l):=V.of λw' r=>by
 obtain⟨p,b,o,base,cap,rfl,_,_,x,y⟩:=h.ext r;have p:l.length=l.length*1:=by simpa using p
 by_cases z:0<l.length
 .rw[x z];refine run_convert_bytes_arg w' s e I he b o l.length cap l rfl (λi hi=>?_) t f;have q:l[i]? =σ l[i]:=x6 hi;rw[u4,q];exact y i _ (kV q)
 .have A:l=[]:=Z0 Ω;subst A;cases base with
  |none=>
   rw[run_convert_bytes_nil w' s e I he _ _ t f];rfl
  |some a=>
   rw[run_convert_bytes_string w' s t e _ _ _ I he f];have:=run_bytesToString (P:=P) w' a 0 cap [] (by have:=run_loadCells_list (P:=P) w' a [] (λj v B=>by simp at B);simpa using this);simp only[List.length_nil];rw[this];rfl
theorem vo {s:r9} {u:TypeDesc} {K:x1->x3->Prop} (I:P.underlying s=σ u) (y:P.underlying t=σ (.slice e)) (he:P.underlying e=σ (.int .u8)) (z:Bytes l) (hm:l.length<=1000000000)
  (A:∀v w',Ext w w'->aF .u8 w' v l->(∀r,(∃a n c,v= .slice (σ a) n c/\a.block=r)->w.heap.size<=r)->K v w'):av P (convert s t (bR l)) w K:=by
 have B:=Lib.bytesWorld_at_new w e (strOfNums l);have q:=λj f=>Lib.bytesWorld_at_old w e (strOfNums l) j f;have C:=Lib.bytesWorld_size w e (strOfNums l);refine .of (Lib.run_convert_string_bytes w s t e (strOfNums l) I y he) ⟨rfl,⟨rfl,Nat.le_succ _⟩,rfl,Ω,λr o h _=>?_⟩ (A _ _ ⟨Ω,λr o h _=>?_⟩ ?_ ?_)
 .rw[q r (j0.1 h).1];exact h
 .rw[q r (j0.1 h).1];exact h
 .rw[mw];refine⟨Ξ,w.heap.size,0,_,_,rfl,?_,?_,λ_=>rfl,λj v p=>?_⟩
  .exact grownCap_ge w _ _ _
  .exact grownCap_le_maxLen w _ _ _ (by simp[maxLen];omega)
  .have f:j<l.length:=by have:=(x4.1 p).1;simpa using this
   have x:l[j]? =σ l[j]:=x6 f;rw[W0,Lib.bytesWorld_cell w e (strOfNums l) j (by rw[mw];exact f)];rw[kV x] at p;rw[<-c7 p,strOfNums_data,u4,x8,x];have:=z l[j] (Q4 f);simp only[Z6,V8];congr 2;rw[UInt8.toNat_ofNat'];omega
 .rintro r ⟨a,n,c,h1,rfl⟩;cases h1;exact o4 _
end
end Go.Vc
namespace Go.Proofs.YtjjhhcfgfdepdaaGreatDoor
open Go Go.Vc Go.RowKit Go.Proofs Go.Proofs.Tryz
set_option maxRecDepth 100000
theorem Af {b:Int} (h:cw b=true):bM b=false:=by
 have h:=of_decide_eq_true h;unfold bM;rw[decide_eq_false_iff_not];omega
theorem Ag {b:Int} {p:Λ} (h:cw b=true):lex (b::p)=lex p:=by
 rw[ko,ko p,List.dropWhile_cons,if_pos h]
theorem Jn {b:Int} {p:Λ} (h:cw b=false) (a:bM b=false):lex (b::p)=([],false):=by
 rw[ko,List.dropWhile_cons,if_neg (by simp[h])];simp only[a,Bool.false_eq_true,if_false]
theorem Ah {b:Int} {p:Λ} (h:bM b=true):lex (b::p)=match p.dropWhile bM with
  |[]=>([b::p.takeWhile bM],true)
  |c::r=>if cw c then ((b::p.takeWhile bM)::(lex (c::r)).1,(lex (c::r)).2) else ([],false):=by
 have I:cw b=false:=by
  cases a:cw b with
  |false=>rfl
  |true=>rw[Af a] at h;cases h
 rw[ko,List.dropWhile_cons,if_neg (by simp[I])];simp only[h,if_true,List.dropWhile_cons,List.takeWhile_cons]
 all_goals (cases List.dropWhile bM p<;>rfl)
def ie:Λ->List (Λ)->Λ->Bool->List (Λ)×Bool
 |[],out,w,op=>(if op then out++[w] else out,true)
 |b::p,out,w,op=>
  if cw b then ie p (if op then out++[w] else out) [] false
  else if bM b then ie p out (if op then w++[b] else[b]) true
  else (out,false)
theorem p1:∀ (p:Λ) (out:List (Λ)) (w:Λ),ie p out w false=(out++(lex p).1,(lex p).2)/\
  ie p out w true=match p.dropWhile bM with
   |[]=>(out++[w++p.takeWhile bM],true)
   |c::r=>if cw c then (out++[w++p.takeWhile bM]++(lex (c::r)).1,(lex (c::r)).2) else (out,false)
 |[],out,w=>by simp[ie,ko []]
 |b::p,out,w=>by
  by_cases I:cw b=true
  .have hw:=Af I;refine⟨?_,?_⟩
   .rw[ie,if_pos I,(p1 p _ _).1,Ag I];simp
   .rw[ie,if_pos I,if_pos rfl,(p1 p _ _).1,List.dropWhile_cons,if_neg (by simp[hw])];simp only[I,if_true,Ag I,List.takeWhile_cons,hw,Bool.false_eq_true,if_false,W7]
  .have e:cw b=false:=by cases h:cw b;rfl;exact absurd h I
   by_cases hw:bM b=true
   .refine⟨?_,?_⟩
    .rw[ie,if_neg I,if_pos hw,if_neg Ξ,(p1 p _ _).2,Ah hw];cases p.dropWhile bM with
     |nil=>simp
     |cons c r=>
      simp only;by_cases a:cw c=true
      .simp[a]
      .simp[a]
    .rw[ie,if_neg I,if_pos hw,if_pos rfl,(p1 p _ _).2,List.dropWhile_cons,if_pos hw,List.takeWhile_cons,if_pos hw];cases p.dropWhile bM with
     |nil=>simp
     |cons c r=>
      simp only;by_cases a:cw c=true
      .simp[a]
      .simp[a]
   .have f:bM b=false:=by cases h:bM b;rfl;exact absurd h hw
    refine⟨?_,?_⟩
    .rw[ie,if_neg I,if_neg hw,Jn e f];simp
    .rw[ie,if_neg I,if_neg hw,List.dropWhile_cons,if_neg hw];simp[e]
theorem Jo (p:Λ):ie p [] [] false=lex p:=by rw[(p1 p [] []).1];simp
def oM:Nat->Nat->Λ
 |0,_=>[]
 |k+1,n=>(if n<10 then[] else oM k (n / 10))++[48+((n % 10:Nat):Int)]
def fj (n:Nat):Λ:=oM (n+1) n
theorem Ai:∀ {k m n:Nat},n<k->n<m->oM k n=oM m n
 |k+1,m+1,n,h1,a=>by
  unfold oM;by_cases h:n<10
  .rw[if_pos h,if_pos h]
  .rw[if_neg h,if_neg h,Ai (k:=k) (m:=m) (n:=n / 10) Ω Ω]
theorem nG (n:Nat):fj n=(if n<10 then[] else fj (n / 10))++[48+((n % 10:Nat):Int)]:=by
 unfold fj;rw[oM];by_cases h:n<10
 .rw[if_pos h,if_pos h]
 .rw[if_neg h,if_neg h,Ai (k:=n) (m:=n / 10+1) Ω Ω]
theorem Aj:∀ (k n:Nat),n<k-> ∀b∈fj n,48<=b/\b<=57
 |k+1,n,hk,b,a=>by
  rw[nG] at a;rcases l9.1 a with a|a
  .by_cases h:n<10
   .rw[if_pos h] at a;simp at a
   .rw[if_neg h] at a;exact Aj k (n / 10) Ω b a
  .rw[n9] at a;omega
theorem Ak (n:Nat):∀b∈fj n,48<=b/\b<=57:=Aj (n+1) n Ω
def p2 (l:Λ):Int:=l.foldl (λn b=>10*n+(b-48)) 0
theorem Jp (l:Λ) (b:Int):p2 (l++[b])=10*p2 l+(b-48):=by simp[p2]
theorem vp:∀ (k n:Nat),n<k->p2 (fj n)=n
 |k+1,n,hk=>by
  rw[nG,Jp];by_cases h:n<10
  .rw[if_pos h];have:p2 []=0:=rfl;omega
  .rw[if_neg h,vp k (n / 10) Ω];omega
theorem Jq {b:Nat} (h:fj a=fj b):a=b:=by
 have h1:=vp (a+1) a Ω;have e:=vp (b+1) b Ω;rw[h,e] at h1;omega
theorem vq:∀ (k n:Nat),n<10 ^ k->1<=k->(fj n).length<=k
 |k+1,n,h,_=>by
  rw[nG,p8];by_cases a:n<10
  .rw[if_pos a];simp
  .rw[if_neg a];have hk:1<=k:=by
    rcases k with _|k
    .simp at h;omega
    .omega
   have e:(10:Nat) ^ (k+1)=10*10 ^ k:=by rw[Nat.pow_succ,Nat.mul_comm]
   have:=vq k (n / 10) Ω hk;simp only[U3];omega
def ed (t:Λ):Λ:=t.flatMap λv=>fj v.toNat++[32]
theorem Jr (t:Λ) (v:Int):ed (t++[v])=ed t++(fj v.toNat++[32]):=by simp[ed]
theorem Al {r:Λ} (a:∀b∈l,b≠32):(l++32::r).takeWhile (λb=>decide (b≠32))=l/\(l++32::r).dropWhile (λb=>decide (b≠32))=32::r:=by
 induction l with
 |nil=>simp
 |cons x l e=>
  have f:=a x (.head _);have:=e λb h=>a b (.tail _ h);simp only[List.cons_append,List.takeWhile_cons,List.dropWhile_cons];simp only[f,ne_eq,not_false_eq_true,decide_true,if_true];exact⟨by rw[this.1],this.2⟩
theorem Am:∀ {a b:Λ},(∀x∈a,0<=x)->(∀x∈b,0<=x)->ed a=ed b->a=b
 |[],[],_,_,_=>rfl
 |[],y::b,_,_,h=>by simp[ed] at h
 |x::a,[],_,_,h=>by simp[ed] at h
 |x::a,y::b,p,q,h=>by
  have e:∀ (z:Int) (l:Λ),ed (z::l)=fj z.toNat++32::ed l:=λz l=>by simp[ed]
  rw[e,e] at h;have d:∀z:Int,∀c∈fj z.toNat,c≠32:=λz c w=>by have:=Ak _ c w;omega
  have f:=Al (r:=ed a) (d x);have s:=Al (r:=ed b) (d y);rw[h] at f;have A:fj x.toNat=fj y.toNat:=f.1.symm.trans s.1;have B:=f.2.symm.trans s.2;have E:=p x (.head _);have F:=q y (.head _);have:=Jq A;have C:x=y:=Ω
  subst C;rw[Am (λz j=>p z (.tail _ j)) (λz j=>q z (.tail _ j)) (List.cons.inj B).2]
theorem An (t:Λ):Bytes (ed t):=λb a=>by
 obtain⟨v,_,a⟩:=List.mem_flatMap.1 a;rcases l9.1 a with a|a
 .have:=Ak _ b a;omega
 .rw[n9] at a;omega
theorem Ao {b:Int}:ai x7 Hw [.int .u8 b] w λv w'=>v= .bool (cw b)/\Ext w w':=by
 refine aw func145 ?_;refine aT (λv J=>v= .bool (cw b)/\Ext w J) (λ_ _ h=>h) λau a=>?_;rw[bi,ah];refine⟨λh=>a _ _ ⟨by unfold cw;rw[decide_eq_true (.inl h)],Ext.refl _⟩,λh1=>?_⟩;rw[bi,ah];refine⟨λh=>a _ _ ⟨by unfold cw;rw[decide_eq_true (.inr (.inl h))],Ext.refl _⟩,λe=>?_⟩;rw[bi,ah];refine⟨λh=>a _ _ ⟨by unfold cw;rw[decide_eq_true (.inr (.inr (.inl h)))],Ext.refl _⟩,λf=>?_⟩;rw[bi];refine a _ _ ⟨?_,Ext.refl _⟩;congr 1;unfold cw;rw[U1,decide_eq_true_eq,decide_eq_true_eq];omega
theorem Js {b:Int}:ai x7 Hv [.int .u8 b] w λv w'=>v= .bool (bM b)/\Ext w w':=by
 refine aw func144 ?_;refine aT (λv J=>v= .bool (bM b)/\Ext w J) (λ_ _ h=>h) λau a=>?_;rw[cU,ah];refine⟨λh=>?_,λh=>a _ _ ⟨by unfold bM;rw[decide_eq_false Ω],Ext.refl _⟩⟩;rw[ml];refine a _ _ ⟨?_,Ext.refl _⟩;congr 1;unfold bM;rw[U1,decide_eq_true_eq,decide_eq_true_eq];omega
def lR (w:x3) (g:Nat) (a:x1) (p:Λ) (at_:Nat) (bad:Int):Prop:=Bytes p/\p.length<=100000/\at_<=p.length/\aa w g hP [a,Δ (at_:Int),Δ bad]/\ ∃bm,ap .u8 cC w bm a p
theorem lR.ext {g:Nat} {a:x1} {p:Λ} {at_:Nat} {bad:Int} (h:lR w g a p at_ bad) (e:Ext w w'):lR w' g a p at_ bad:=by
 obtain⟨h1,f,j,q,bm,r⟩:=h;exact⟨h1,f,j,q.ext e,bm,r.ext e⟩
theorem Jt (h:aF .u8 w v l) (A:l.length<=100000):ai x7 Hq [v] w λf w'=>Ext w w'/\ ∃g,ap .u8 cC w' g f l:=by
 have e:=h;obtain⟨B,b,o,base,cap,rfl,C,hm,p,E⟩:=h;refine aw func138 ?_;rw[r2 cP.u,b0];refine⟨λq=>⟨Ext.refl _,0,?_⟩,λ_=>?_⟩
 .have:l=[]:=by
   cases base with
   |none=>
        by_cases e:0<l.length
        .have:=p e;cases this
        .exact Z0 Ω
   |some a=>cases q
  subst this;exact ap.nil _ _ _ _
 .refine jG (k:=1) (cs:=#[]) cP.u cC.i Ω Ψ λg J G j r=>?_;have s:ap .u8 cC J g (.slice (σ ⟨g,0,ν⟩) 0 0) []:=ap.of (n:=0) (bV.full (by simpa using r) rfl Ξ);refine jj cP.u cC.i rfl s (e.ext j) Θ Θ λf x w2 H y z=>?_;exact⟨j.put z Ω,x,by simpa using y⟩
theorem Ap (h:aF .u8 w v l) (q:Bytes l) (e:l.length<=100000):ai x7 y0 [v] w λr w'=>Ext w w'/\ ∃g,r=Γ g/\w.heap.size<=g/\ ∃a,lR w' g a l 0 (-1):=by
 refine aw func77 ?_;refine (Jt h e).mono ?_;rintro a J _ ⟨f,bm,j⟩;rw[dq (cs:=#[a,Δ 0,Δ (-1)]) (by obtain⟨_,_,_,_,_,rfl,_⟩:=j.ls;kernel_rfl)];refine bn λg w2 x p s=>?_;have y:=f.size;exact⟨f.trans p,g,rfl,Ω,a,q,e,X8 _,s,bm,j.ext p⟩
def runN (f:Int->Bool) (p:Λ):Nat:=(p.takeWhile f).length
theorem Ju (f:Int->Bool) (p:Λ):runN f p<=p.length:=(List.takeWhile_sublist f).length_le
theorem Aq {f:Int->Bool} {p:Λ} {i:Nat} {b:Int} (hi:p[i]? =σ b) (e:f b=true):i+runN f (p.drop i)=(i+1)+runN f (p.drop (i+1)):=by
 have a:=x4.1 hi;unfold runN;rw[W5 a.1,a.2,List.takeWhile_cons,if_pos e,b8];omega
theorem Ar {f:Int->Bool} {p:Λ} {i:Nat} (h:∀b,p[i]? =σ b->f b=false):runN f (p.drop i)=0:=by
 unfold runN;cases a:p[i]? with
 |none=>
  rw[List.drop_of_length_le (S4.1 a)];rfl
 |some b=>
  have e:=x4.1 a;rw[W5 e.1,e.2,List.takeWhile_cons,if_neg (by simp[h b a])];rfl
theorem Jv {g at_:Nat} {A:x1} {p:Λ} {bad:Int} (h:lR w g A p at_ bad):ai x7 Hu [Γ g] w λv w'=>v=Δ ((at_+runN cw (p.drop at_):Nat):Int)/\Ext w w':=by
 obtain⟨M,N,B,a,bm,q⟩:=h;refine aw func143 ?_;rw[aO hP.p 1 a rfl];refine⟨λv J=>Ext w J/\ ∃i:Nat,v=Δ (i:Int)/\i<=p.length/\i+runN cw (p.drop i)=at_+runN cw (p.drop at_),λv _=>p.length-(b1 v).toNat,⟨Ext.refl _,at_,rfl,B,rfl⟩,?_⟩;rintro _ J ⟨j,i,rfl,hi,he⟩;refine aT (λv w2=>Ext w w2/\ ∃c:Bool,v= .bool c/\(c=true↔ ∃b,p[i]? =σ b/\cw b=true)) ?_ ?_
 .rintro _ w2 ⟨r,c,rfl,s⟩;rw[b0];refine⟨λC=>?_,λx=>?_⟩
  .obtain⟨b,e,E⟩:=s.1 C;have G:=(x4.1 e).1;rw[aM,wrap_i64 Ω Ω];exact⟨⟨r,i+1,rfl,G,by rw[<-he,Aq e E]⟩,by simp only[b1];omega⟩
  .have H:=Ar (f:=cw) (p:=p) (i:=i) λb a=>by
    cases I:cw b with
    |false=>rfl
    |true=>rw[s.2 ⟨b,a,I⟩] at x;cases x
   exact⟨by rw[<-he,H,Nat.add_zero],r⟩
 .intro au y;have z:=a.ext j;rw[aO hP.p 0 z rfl,aX cP.u (q.ext j).ls,aQ,ah];refine⟨λO=>?_,λP=>y _ _ ⟨j,false,rfl,⟨λh=>(by cases h),λ⟨b,a,_⟩=>by have:=(x4.1 a).1;omega⟩⟩⟩;have K:i<p.length:=Ω
  have e:p[i]? =σ p[i]:=x6 K;rw[aO hP.p 0 z rfl,be cP.u cC.i Ψ (q.ext j).ls e];refine Ao.mono ?_;rintro _ Q _ ⟨rfl,L⟩;exact y _ _ ⟨j.trans L,_,rfl,⟨λh=>⟨_,e,h⟩,λ⟨b,a,h⟩=>by rw[e] at a;cases a;exact h⟩⟩
inductive Jw where
 |word (from_ to:Nat)
 |none
 |text (at_:Nat)
def gp (p:Λ) (at_:Nat):Nat:=at_+runN cw (p.drop at_)
def iM (p:Λ) (a:Nat):Nat:=a+runN bM (p.drop a)
open Classical in
noncomputable def oN (p:Λ) (at_:Nat):Jw:=
 if iM p (gp p at_)<p.length/\(∀c,p[iM p (gp p at_)]? =σ c->cw c=false) then .text (iM p (gp p at_)) else if gp p at_=iM p (gp p at_) then .none else .word (gp p at_) (iM p (gp p at_))
def p3 (w:x3) (g:Nat) (e:x1) (p:Λ) (at_:Nat) (v:x1) (w':x3):Prop:=
 match oN p at_ with
 | .word a b=>v= .tuple #[bR ((p.take b).drop a),Δ (a:Int),Δ 0]/\ae (λr=>r=g) w w'/\lR w' g e p b (-1)
 | .none=>∃n:Nat,v= .tuple #[bR [],Δ (n:Int),Δ 2]/\Ext w w'
 | .text b=>v= .tuple #[bR [],Δ (b:Int),Δ 11]/\ae (λr=>r=g) w w'/\lR w' g e p at_ (b:Int)
theorem hy {aR:Nat->Prop} {a b c:x3} (h:ae S a b) (k:ae aR b c) (j:∀r,r<a.heap.size->aR r->S r):ae S a c:=
 ⟨X0 h.size k.size,λr o e I f=>k.aV r o (h.aV r o e I f) I λhu=>f (j r (j0.1 e).1 hu)⟩
theorem cd {g:Nat} {k:o6} {p:r9} (h:ap k e w g v l) (q:aa w j p cs) (x:e≠p) (s:leads v r):r≠j:=by
 obtain⟨rfl,_⟩:=bU h s;obtain⟨_,⟨rfl,_⟩|⟨_,_,_,f,_⟩⟩:=h
 .obtain⟨a,n,c,h,_⟩:=s;cases h
 .rintro rfl;unfold aa at q f;rw[q] at f;injection f with h1;injection h1 with z y;exact x y.symm
theorem Jx {s:r9} {e:o6} {b i:Nat} (p:x7.underlying s=σ (.slice t)) (hi:aN x7 t 1 b z)
  (h:aF .u8 w v l) (q:i<=j) (r:j<=l.length) (x:∀a,aF .u8 w a ((l.take j).drop i)->K a):V x7 (U2 s v (σ (.int e (i:Int))) (σ (.int f (j:Int))) ν) w K:=by
 refine sk p hi h (nr i _ rfl) (ns j _ rfl) q r λa h'=>x a (aF.of (n:=j-i) ?_);have y:((ints .u8 l).drop (i*1)).take ((j-i)*1)=ints .u8 ((l.take j).drop i):=by
  rw[T5,T5,ints,ints,List.map_drop,List.map_take,List.drop_take]
 rw[y] at h';exact h'
theorem Jy {g at_:Nat} {G:x1} {p:Λ} (h:lR w g G p at_ (-1)):ai x7 uU [Γ g] w (p3 w g G p at_):=by
 obtain⟨R,S,an,e,bm,H⟩:=id h;refine aw func83 ?_;rw[dp rX.u,Z7,aW,aO hP.p 2 e rfl,cU,ah];refine⟨λh=>Ω,λ_=>?_⟩;refine (Jv h).mono ?_;rintro _ w2 _ ⟨rfl,ao⟩;obtain⟨a,V⟩:∃a,a=at_+runN cw (p.drop at_):=⟨_,rfl⟩;rw[<-V];have ap:a<=p.length:=by have:=Ju cw (p.drop at_);rw[List.length_drop] at this;omega
 refine⟨λv J=>Ext w2 J/\ ∃i:Nat,v=Δ (i:Int)/\a<=i/\i<=p.length/\i+runN bM (p.drop i)=a+runN bM (p.drop a),λv _=>p.length-(b1 v).toNat,⟨Ext.refl _,a,rfl,o4 _,ap,rfl⟩,?_⟩;rintro _ J ⟨W,i,rfl,aq,hi,he⟩;have K:=ao.trans W;have X:=e.ext K;have Y:=H.ext K;refine aT (λv z=>Ext J z/\ ∃c:Bool,v= .bool c/\(c=true↔ ∃b,p[i]? =σ b/\bM b=true)) ?_ ?_
 rotate_left
 .intro au s;rw[aO hP.p 0 X rfl,aX cP.u Y.ls,aQ,ah];refine⟨λav=>?_,λax=>s _ _ ⟨Ext.refl _,false,rfl,⟨λh=>(by cases h),λ⟨b,e,_⟩=>by have:=(x4.1 e).1;omega⟩⟩⟩;have A:i<p.length:=Ω
  have q:p[i]? =σ p[i]:=x6 A;rw[aO hP.p 0 X rfl,be cP.u cC.i Ψ Y.ls q];refine Js.mono ?_;rintro _ z _ ⟨rfl,B⟩;exact s _ _ ⟨B,_,rfl,⟨λh=>⟨_,q,h⟩,λ⟨b,e,h⟩=>by rw[q] at e;cases e;exact h⟩⟩
 rintro _ z ⟨B,c,rfl,x⟩;have L:=K.trans B;have Z:=e.ext L;have aa:=H.ext L;rw[b0];refine⟨λM=>?_,λab=>?_⟩
 .obtain⟨b,q,ay⟩:=x.1 M;have az:=(x4.1 q).1;rw[aM,wrap_i64 Ω Ω];exact⟨⟨W.trans B,i+1,rfl,Ω,az,by rw[<-he,Aq q ay]⟩,by simp only[b1];omega⟩
 have aE:=Ar (f:=bM) (p:=p) (i:=i) λb e=>by
  cases I:bM b with
  |false=>rfl
  |true=>rw[x.2 ⟨b,e,I⟩] at ab;cases ab
 have aA:i=a+runN bM (p.drop a):=Ω
 refine aT (λv N=>Ext z N/\ ∃c:Bool,v= .bool c/\(c=true↔i<p.length/\ ∀c,p[i]? =σ c->cw c=false)) ?_ ?_
 rotate_left
 .intro au s;rw[aO hP.p 0 Z rfl,aX cP.u aa.ls,aQ,ah];refine⟨λav=>?_,λax=>s _ _ ⟨Ext.refl _,false,rfl,⟨λh=>(by cases h),λh=>Ω⟩⟩⟩;have A:i<p.length:=Ω
  have q:p[i]? =σ p[i]:=x6 A;rw[aO hP.p 0 Z rfl,be cP.u cC.i Ψ aa.ls q];refine Ao.mono ?_;rintro _ N _ ⟨rfl,O⟩;rw[bF];refine s _ _ ⟨O,_,rfl,⟨λh=>⟨A,λc x=>?_⟩,λh=>by rw[h.2 _ q];rfl⟩⟩;rw[q] at x;cases x;cases I:cw p[i] with
  |false=>rfl
  |true=>rw[I] at h;cases h
 rintro _ N ⟨O,c2,rfl,ac⟩;have y:=L.trans O;have C:=e.ext y;have E:=H.ext y;have ad:∀r,leads G r->r≠g:=λr aB=>cd E C Φ aB;have P:oN p at_=open Classical in if i<p.length/\(∀c,p[i]? =σ c->cw c=false) then .text i else if a=i then .none else .word a i:=by
  unfold oN;rw[show gp p at_=a from V.symm,show iM p a=i from aA.symm]
 rw[b0];refine⟨λM=>?_,λae=>?_⟩
 .rw[bW,aP hP.p rfl];refine bo (g:=g) (o:=2) ag.i rfl rfl C Ξ λaF af aG aC=>?_;unfold p3;rw[P,if_pos (ac.1 M)];exact⟨rfl,(y.U _).trans af,R,S,an,aC,bm,bq E af ad⟩
 .have aj:¬(i<p.length/\ ∀c,p[i]? =σ c->cw c=false):=λh=>by rw[ac.2 h] at ae;cases ae
  rw[bi,ah];refine⟨λaH=>?_,λaI=>?_⟩
  .intro aJ Q _ _;rw[aO hP.p 0 (C.ext Q) rfl,aX cP.u (E.ext Q).ls];unfold p3;rw[P,if_neg aj,if_pos Ω];exact⟨p.length,rfl,y.trans Q⟩
  .rw[bW,aP hP.p rfl];refine bo (g:=g) (o:=1) ag.i rfl rfl C Ξ λaK ak aL al=>?_;have am:=bq E ak ad;rw[aO hP.p 0 al rfl];refine Jx (i:=a) (j:=i) cP.u cC.i am.ls aq hi λaN aD=>?_;rw[vn cP.u cC.u c4.u aD];unfold p3;rw[P,if_neg aj,if_neg Ω];exact⟨rfl,(y.U _).trans ak,R,S,hi,al,bm,am⟩
abbrev bC:af:=λ_=>False
abbrev eI (n:Nat):af:=λr=>n<=r
theorem p4 {a b:Λ} {bf bv:x1} (f:aF .i64 w bf a) (s:aF .i64 w bv b):
  ai x7 GG [bf,bv] w λv w'=>v= .bool (decide (a=b))/\Ext w w':=by
 refine aw func72 ?_;rw[aX al.u f,aX al.u s];simp only[bE,ah];refine⟨λp=>⟨?_,Ext.refl _⟩,λz=>?_⟩
 .rw[decide_eq_false];rintro rfl;exact p rfl
 .have z:a.length=b.length:=Ω
  rw[aX al.u f];refine bY.range a.length (λi _ J=>Ext w J/\a.take i=b.take i) f.le ⟨Ext.refl _,rfl⟩ ?_ ?_
  .rintro i t4 J k A ⟨e,q⟩ hk;simp only[aQ,ah,ei];refine⟨λ_ w2 B _ _=>?_,λh=>Ω⟩;have e:=e.trans B;obtain⟨x,r⟩:=aE (l:=a) A;obtain⟨y,j⟩:=aE (l:=b) (i:=i) Ω;rw[be al.u ag.i Ψ (f.ext e) r,be al.u ag.i Ψ (s.ext e) j];simp only[bE,ah,aM];refine⟨λp=>⟨?_,e⟩,λC=>hk _ _ ⟨e,ve q r j Ω⟩⟩;rw[decide_eq_false];rintro rfl;rw[r] at j;cases j;exact p rfl
  .rintro _ J k ⟨e,q⟩;simp only[aQ,ah];refine⟨λh=>Ω,λ_=>⟨?_,e⟩⟩;rw[decide_eq_true];rwa [o7,z,o7] at q
def jl (rest:List (Λ)) (i:Nat):List (Λ):=(V6 i).flatMap λ(v:Nat)=>rest.map λt=>(v:Int)::t
theorem Jz (rest:List (Λ)) (i:Nat):jl rest (i+1)=jl rest i++rest.map λt=>(i:Int)::t:=by
 simp[jl,List.range_succ]
theorem As (rest:List (Λ)) (i:Nat):(jl rest i).length=i*rest.length:=by
 simp only[jl,List.length_flatMap,u7];rw[List.map_const',List.length_range,List.sum_replicate_nat]
def oO (l:Λ):Prop:=l.length<=90/\(∀x∈l,1<=x/\x<=32)/\aK l<=1073741824
theorem b2.p (h:b2 l):oO l:=⟨by have:=h.1;omega,h.2,(prod_bound h).2⟩
theorem oO.tail {s:Λ} (h:oO (k::s)):oO s:=by
 have h1:=h.2.1 k (.head _);have e:=(mr s λx a=>h.2.1 x (.tail _ a)).1;have f:k*aK s<=1073741824:=h.2.2;have j:=Int.mul_le_mul_of_nonneg_right h1.1 (show 0<=aK s by omega);refine⟨?_,λx a=>h.2.1 x (.tail _ a),Ω⟩;have:=h.1;rw[b8] at this;omega
theorem Au:∀ (s:Λ) {sv:x1} {w:x3},aF .i64 w sv s->oO s->
  ai x7 yX [sv] w λv w'=>Ext w w'/\bj (eI w.heap.size) bC w' [v] (a8 s)
 |[],sv,w,h,I=>by
  refine aw func46 ?_;rw[aX al.u h];simp only[bi,List.length_nil,Int.natCast_zero,decide_true,bO];refine iH (α:=Λ) (a:=[]) (cs:=[.slice ν 0 0]) (A:=bC) cu.u al.i Φ rfl gk λv w' P f _=>⟨P,aj.mono f (λr _ h=>?_) λ_ _ h=>h⟩;exact h.elim False.elim id
 |k::s,sv,w,h,I=>by
  have ao:1<=aK (k::s)/\aK (k::s)<=1073741824:=⟨(mr _ I.2.1).1,I.2.2⟩;have z:oO s:=I.tail;have hk:=I.2.1 k (.head _);have Q:=hU z.2.1;have ap:1<=aK s/\aK s<=1073741824:=⟨(mr _ z.2.1).1,z.2.2⟩;obtain⟨kn,rfl⟩:∃kn:Nat,k=kn:=⟨k.toNat,Ω⟩;have aq:kn*(a8 s).length<=1073741824:=by
   have e:((kn*(a8 s).length:Nat):Int)=aK ((kn:Int)::s):=by
    rw[Int.natCast_mul,Q,aK,Int.toNat_of_nonneg Ω]
   omega
  refine aw func46 ?_;rw[aX al.u h];simp only[bi,ah];refine⟨λS=>by simp at S;omega,λ_=>?_⟩;refine I9 (i:=1) rfl al.u ag.i h Ξ λU h'=>?_;refine (Au s h' z).mono ?_;rintro au w2 _ ⟨E,B⟩;have av:=mp B;refine bY.range kn (λi out J=>Ext w2 J/\bj (eI w2.heap.size) bC J [out] (jl (a8 s) i)) Ω ⟨Ext.refl _,gk⟩ ?_ ?_
  .rintro i out V W M ⟨q,f⟩ X;have Y:=bd B q;rw[fA (y:=0) (i:=0) rfl al.u ag.i Ψ (h.ext (E.trans q)) (by rfl)];simp only[aQ,ah];refine⟨λ_=>?_,λh=>Ω⟩;rw[fC cu.u Y];refine bY.range (a8 s).length (λj out J=>Ext w2 J/\bj (eI w2.heap.size) bC J [out] (jl (a8 s) i++((a8 s).take j).map λt=>(i:Int)::t)) Ω ⟨q,by simpa using f⟩ ?_ ?_
   .rintro j out p Z aa ⟨C,f⟩ ab;simp only[aQ,ah];refine⟨λ_=>?_,λh=>Ω⟩;obtain⟨x,G⟩:=aE (l:=(a8 s)) aa;have ax:x.length<=100:=by
     have:=sd G;have:=z.1;omega
    refine gl rfl rfl cu.u al.i Ψ (bd B C) G λu hu=>?_;refine ej al.u ag.i rfl λa ga ay az H ac=>?_;refine jj al.u ag.i rfl ac (cN (bd hu H)) Θ Θ λb fk ad aA K ae=>?_;have aB:=H.size;have N:Ext p ad:=H.then ae (by rintro r B rfl;omega);have aC:=N.size;refine iH (α:=Λ) (a:=(i:Int)::x) (cs:=[b]) (A:=eI p.heap.size) (R:=bC) cu.u al.i Φ (kW (nA K (R:=bC))) (aj.mono (nA K) (λr _ h=>by subst h;show p.heap.size<=r;omega) λ_ _ h=>h) λc aD L _ af=>?_;have O:=N.trans L;have aG:=L.size;refine nz (α:=Λ) (a:=(i:Int)::x) (A:=eI p.heap.size) cu.u al.i rfl (bd (mp f) O) af (bd (aj.mono (nA K) (λr _ h=>by subst h;show p.heap.size<=r;omega) λ_ _ h=>h) L) (λr _ h h'=>?_) ?_ ?_ λU aH ak am=>?_
    .rcases h' with h'|h'
     .have:=h.2;have:p.heap.size<=r:=h';omega
     .exact h'
    .have an:(jl (a8 s) i++((a8 s).take j).map λt=>(i:Int)::t).length+1<=kn*(a8 s).length:=by
      simp only[p8,As,u7,j5];have:(i+1)*(a8 s).length<=kn*(a8 s).length:=X5 _ M;rw[U4] at this;omega
     omega
    .have an:(jl (a8 s) i++((a8 s).take j).map λt=>(i:Int)::t).length+1<=kn*(a8 s).length:=by
      simp only[p8,As,u7,j5];have:(i+1)*(a8 s).length<=kn*(a8 s).length:=X5 _ M;rw[U4] at this;omega
     omega
    .simp only[aM];have aI:=C.size;refine ab _ _ ⟨(C.trans O).then am (λr B h=>?_),?_⟩
     .have:=h.1;have:w2.heap.size<=r:=this;omega
     .have e:jl (a8 s) i++((a8 s).take (j+1)).map (λt=>(i:Int)::t)=(jl (a8 s) i++((a8 s).take j).map λt=>(i:Int)::t)++[(i:Int)::x]:=by
       rw[u9,G];simp
      rw[e];refine aj.mono ak (λr _ h=>?_) λ_ _ h=>h;show w2.heap.size<=r;rcases h with h|h|h
      .exact h.1
      .have:p.heap.size<=r:=h;omega
      .omega
   .rintro out p Z ⟨C,f⟩;simp only[aQ,ah,aM];refine⟨λh=>Ω,λ_=>X _ _ ⟨C,?_⟩⟩;rw[Jz];simpa using f
  .rintro out V W ⟨q,f⟩;rw[fA (y:=0) (i:=0) rfl al.u ag.i Ψ (h.ext (E.trans q)) (by rfl)];simp only[aQ,ah];refine⟨λh=>Ω,λ_=>⟨E.trans q,?_⟩⟩;have aJ:=E.size;have e:a8 ((kn:Int)::s)=jl (a8 s) kn:=by simp[a8,jl]
   rw[e];exact aj.mono f (λr _ h=>by have:w2.heap.size<=r:=h;show w.heap.size<=r;omega) λ_ _ h=>h
theorem sn (s:Λ) (h:aF .i64 w sv s) (I:b2 s):ai x7 yX [sv] w λv w'=>Ext w w'/\bj (eI w.heap.size) bC w' [v] (a8 s):=Au s h I.p
theorem JA:∀ (x:Nat),0<x-> ∃k m,x=2 ^ k*(2*m+1):=by
 intro x;induction x using Nat.strongRecOn with
 |_ x a=>
  intro h;by_cases e:x % 2=1
  .exact⟨0,x / 2,Ω⟩
  .obtain⟨k,m,hk⟩:=a (x / 2) Ω Ω;refine⟨k+1,m,?_⟩;rw[Nat.pow_succ,Nat.mul_assoc,Nat.mul_comm 2,<-Nat.mul_assoc,<-hk];omega
theorem vr {k i:Nat}:(2 ^ k*(2*m+1)).testBit i=(decide (i=k)||decide (k<i)&&m.testBit (i-k-1)):=by
 rw[Nat.testBit_two_pow_mul];by_cases h:k<=i
 .obtain⟨d,rfl⟩:=Nat.exists_eq_add_of_le h;cases d with
  |zero=>simp
  |succ d=>
   have e:(2*m+1).testBit (d+1)=m.testBit d:=by rw[Nat.testBit_succ];congr 1;omega
   simp[e,show k+(d+1)-k=d+1 by omega]
 .simp[h,show i≠k by omega,show ¬k<i by omega]
theorem JB {k:Nat} (p:2 ^ k*(2*m+1)<2 ^ 64):(2 ^ k*(2*m+1)) &&& (2 ^ 64-2 ^ k*(2*m+1))=2 ^ k:=by
 have q:0<2 ^ k:=Nat.two_pow_pos k;have hk:k<64:=by
  rcases Nat.lt_or_ge k 64 with h|h
  .exact h
  .have:2 ^ 64<=2 ^ k:=S3 Ω h;have:2 ^ k*1<=2 ^ k*(2*m+1):=Nat.mul_le_mul_left _ Ω;omega
 have e:2 ^ k*(2*m+1)=(2 ^ k*(2*m)+(2 ^ k-1))+1:=by rw[Nat.mul_add];omega
 apply Nat.eq_of_testBit_eq;intro i;rw[Nat.testBit_and,vr]
 conv=>lhs;rhs;rw[e]
 rw[Nat.testBit_two_pow_sub_succ Ω,Nat.testBit_two_pow_mul_add _ Ω,Nat.testBit_two_pow];by_cases h1:i=k
 .subst h1;simp[hk]
 .by_cases a:k<i
  .have f:(2*m).testBit (i-k)=m.testBit (i-k-1):=by
    obtain⟨d,j⟩:∃d,i-k=d+1:=⟨i-k-1,Ω⟩;rw[j,Nat.testBit_succ];congr 1;omega
   simp[h1,a,show ¬i<k by omega,f,show k≠i by omega];intro h;simp[h]
  .simp[h1,a,show k≠i by omega]
def jK (a c:Nat):Nat:=(BitVec.ofNat 64 a &&& ~~~BitVec.ofNat 64 c).toNat
theorem Av (a c i:Nat):(jK a c).testBit i=(decide (i<64)&&(a.testBit i&& !c.testBit i)):=by
 unfold jK;rw[BitVec.testBit_toNat,BitVec.getLsbD_and,BitVec.getLsbD_not,BitVec.getLsbD_ofNat,BitVec.getLsbD_ofNat];by_cases h:i<64<;>simp[h]
theorem JC (a c:Nat):jK a c<2 ^ 64:=BitVec.isLt _
theorem JD (h:∀i,n<=i->a.testBit i=false):a<2 ^ n:=Nat.lt_pow_two_of_testBit a h
theorem Aw {i:Nat} (h:a<2 ^ n) (hi:n<=i):a.testBit i=false:=Nat.testBit_lt_two_pow (Q2 h (S3 Ω hi))
def gq (b n:Nat):List Nat:=(V6 n).filter λi=>b.testBit i
theorem Ax (b n:Nat):(gq b n).Pairwise (·< ·):=List.Pairwise.filter _ List.pairwise_lt_range
theorem vt {b i:Nat}:i∈gq b n↔i<n/\b.testBit i=true:=by simp[gq]
def nH:Option Nat->Int
 |some i=>(i:Int)
 |none=>-1
def jL (b n:Nat) (v:Int):Int:=nH ((V6 n).find? (λi:Nat=>decide (v<(i:Int))&&b.testBit i))
theorem Ay:∀ {l:List Nat} {k x:Nat},l.Pairwise (·< ·)->l[k]? =σ x->l.filter (λi=>decide (x<i))=l.drop (k+1)
 |y::l,0,x,h,hk=>by
  simp at hk;subst hk;rw[List.pairwise_cons] at h;simp only[List.drop_succ_cons,List.drop_zero];rw[List.filter_cons_of_neg Ξ,List.filter_eq_self.2 λa e=>by simpa using h.1 a e]
 |y::l,k+1,x,h,hk=>by
  simp only[List.getElem?_cons_succ] at hk;rw[List.pairwise_cons] at h;have:y<x:=h.1 x (x5 hk);rw[List.filter_cons_of_neg Θ,List.drop_succ_cons];exact Ay h.2 hk
theorem Az (b n:Nat) (v:Int):jL b n v=nH (((gq b n).filter (λi:Nat=>decide (v<i))).head?):=by
 unfold jL gq;rw[<-List.head?_filter,List.filter_filter]
theorem JE (b n:Nat):jL b n (-1)=nH ((gq b n)[0]?):=by
 rw[Az,List.filter_eq_self.2 (λa _=>Θ),List.head?_eq_getElem?]
theorem AA {b k x:Nat} (h:(gq b n)[k]? =σ x):jL b n x=nH ((gq b n)[k+1]?):=by
 have e:(λi:Nat=>decide ((x:Int)<i))=λi=>decide (x<i):=by funext i;simp
 rw[Az,e,Ay (Ax b n) h,List.head?_eq_getElem?,List.getElem?_drop]
theorem JF {b:Nat} {v:Int} (h:(n:Int)-1<=v):jL b n v= -1:=by
 unfold jL;rw[List.find?_eq_none.2 λi hi=>by simp at hi ⊢;omega];rfl
theorem JG {b k s:Nat} (y:n<=64) (f:b<2 ^ n) (e:∀i,r.testBit i=(decide (s<=i)&&b.testBit i)) (hk:r=2 ^ k*(2*m+1)) {v:Int} (z:v+1=s):jL b n v=k:=by
 have p:r.testBit k=true:=by rw[hk,vr];simp
 have q:∀i,i<k->r.testBit i=false:=λi hi=>by rw[hk,vr];simp[show i≠k by omega,show ¬k<i by omega]
 have a:=p;rw[e] at a;simp at a;have w:k<n:=by
  rcases Nat.lt_or_ge k n with h|h
  .exact h
  .rw[Aw f h] at a;cases a.2
 unfold jL;have:(V6 n).find? (λi:Nat=>decide (v<(i:Int))&&b.testBit i)=σ k:=by
  rw[List.find?_range_eq_some];refine⟨by simp[a.2];omega,by simpa using w,λj x=>?_⟩;have:=q j x;rw[e] at this;simp only[Bool.not_eq_true',Bool.and_eq_false_iff,decide_eq_false_iff_not] at this ⊢;rcases this with h|h
  .exact .inl Ω
  .exact .inr h
 rw[this];rfl
theorem JH {b s:Nat} (a:∀i,r.testBit i=(decide (s<=i)&&b.testBit i)) (hk:r=0) {v:Int} (e:v+1=s):jL b n v= -1:=by
 unfold jL;rw[List.find?_eq_none.2]
 .rfl
 .intro i hi;have:=a i;rw[hk,Nat.zero_testBit] at this;simp at hi this ⊢;intro h;exact this Ω
section
variable {P:W9} {w:x3} {t:r9} {cx cy:Bool} {a b:Nat} {K:x1->Prop}
theorem my (a:Nat):T1 64 (a:Int)=BitVec.ofNat 64 a:=BitVec.ofInt_natCast _ _
theorem AB (x:BitVec 64):U8.wrap (x.toNat:Int)=(x.toNat:Int):=by
 have:=x.isLt;rw[wrap_u64 Ω Ω]
theorem u64_and (f:a<2 ^ 64) (h:b<2 ^ 64):V P (aJ .and t cx cy (.int .u64 a) (.int .u64 b)) w K=K (.int .u64 ((a &&& b:Nat):Int)):=V.of λw' _=>by
 have e:(T1 64 (a:Int) &&& T1 64 (b:Int)).toNat=a &&& b:=by
  rw[my,my,BitVec.toNat_and,BitVec.toNat_ofNat,BitVec.toNat_ofNat,Nat.mod_eq_of_lt f,Nat.mod_eq_of_lt h]
 have hw:U8.wrap ((a &&& b:Nat):Int)=((a &&& b:Nat):Int):=by rw[<-e];exact AB _
 have j:(T1 U8.bits (a:Int) &&& T1 U8.bits (b:Int)).toNat=a &&& b:=e;simp only[aJ,eqGuard,binOp,Op.intBits,j,hw];rfl
theorem AC:V P (aJ .andNot t cx cy (.int .u64 a) (.int .u64 b)) w K=K (.int .u64 (jK a b:Int)):=V.of λw' _=>by
 have e:(T1 64 (a:Int) &&& ~~~T1 64 (b:Int)).toNat=jK a b:=by rw[my,my];rfl
 have hw:U8.wrap (jK a b:Int)=(jK a b:Int):=AB _;have f:(T1 U8.bits (a:Int) &&& ~~~T1 U8.bits (b:Int)).toNat=jK a b:=e;simp only[aJ,eqGuard,binOp,Op.intBits,f,hw];rfl
theorem k2 {k:o6} (f:n<64):V P (aJ .shr t cx cy (.int .u64 (a:Int)) (.int k (n:Int))) w K=K (.int .u64 ((a / 2 ^ n:Nat):Int)):=V.of λw' _=>by
 have e:(a:Int).fdiv (2 ^ min n U8.bits)=((a / 2 ^ n:Nat):Int):=by
  have:min n U8.bits=n:=Nat.min_eq_left (by show n<=64;omega);rw[this,Int.fdiv_eq_ediv_of_nonneg _ (by exact Int.le_of_lt (Int.pow_pos Ω))];simp
 simp only[aJ,eqGuard,binOp,Op.shift,r8,e];simp[show ¬(n:Int)<0 by omega]
theorem vu {k:o6} (a:n<64):V P (aJ .shl t cx cy (.int .u64 1) (.int k (n:Int))) w K=K (.int .u64 ((2 ^ n:Nat):Int)):=by
 rw[zq Ω];have e:min ((n:Int).toNat) U8.bits=n:=Nat.min_eq_left (by show n<=64;omega);have f:2 ^ n<2 ^ 64:=Nat.pow_lt_pow_right Ω a;rw[e,Int.one_mul,show ((2:Int) ^ n)=((2 ^ n:Nat):Int) by simp];generalize 2 ^ n=q at f ⊢;rw[wrap_u64 Ω Ω]
end
def sq:Λ:=[0,1,56,2,57,49,28,3,61,58,42,50,38,29,17,4,62,47,59,36,45,43,51,22,53,39,33,30,24,18,12,5,63,55,48,27,60,41,37,16,46,35,44,21,52,32,23,11,54,26,40,15,34,20,31,10,25,14,19,9,13,8,7,6]
def Laid (w:x3):Prop:=w.rangeAt 0 0 (ints .u8 sq)
theorem Laid.ext (h:Laid w) (a:Ext w w'):Laid w':=np a h
theorem JI:∀k:Nat,k<64->sq[(2 ^ k*285870213051353865 % 2 ^ 64) / 2 ^ 58]? =σ (k:Int):=Φ
theorem JJ {x k:Nat} (f:Laid w) (j:x=2 ^ k*(2*m+1)) (p:x<2 ^ 64):
  ai x7 HS [.int .u64 (x:Int)] w λv w'=>v=Δ (k:Int)/\Ext w w':=by
 have z:0<2 ^ k:=Nat.two_pow_pos k;have A:2 ^ k<=x:=by
  have:2 ^ k*1<=2 ^ k*(2*m+1):=Nat.mul_le_mul_left _ Ω;omega
 have hk:k<64:=by
  rcases Nat.lt_or_ge k 64 with h|h
  .exact h
  .have:2 ^ 64<=2 ^ k:=S3 Ω h;omega
 refine aw func177 ?_;simp only[bi,ah];refine⟨λh=>Ω,λ_=>?_⟩;rw[lO];have q:U8.wrap (0-(x:Int))=((2 ^ 64-x:Nat):Int):=by
  simp only[o6.wrap,o6.bits,o6.signed];simp;omega
 rw[q,u64_and p Ω,j,JB Ω];simp only[hQ];have r:U8.wrap (((2 ^ k:Nat):Int)*285870213051353865)=((2 ^ k*285870213051353865 % 2 ^ 64:Nat):Int):=by
  have e:((2 ^ k:Nat):Int)*285870213051353865=((2 ^ k*285870213051353865:Nat):Int):=Ξ
  rw[e];simp only[o6.wrap,o6.bits,o6.signed];simp
 have s:(58:Int)=((58:Nat):Int):=rfl;rw[r,s,k2 Ω];have a:=JI k hk;have y:=(x4.1 a).1;rw[vd (t:=rZ) rZ.u cC.i y,aB Ψ (by rw[T5];exact f _ _ (kV a)),e3 cC.u ag.u,wrap_i64 Ω Ω];exact⟨rfl,Ext.refl _⟩
def jm (b n:Nat):x1:=.agg #[.int .u64 (b:Int),Δ (n:Int)]
def lS (b n:Nat):Prop:=n<=32/\b<2 ^ n
theorem AD (s i:Nat):(2 ^ s-1).testBit i=decide (i<s):=Nat.testBit_two_pow_sub_one s i
theorem AE {b:Nat} {v:Int}:ai x7 Hk [jm b n,Δ v] w λr w'=>r= .bool (decide (0<=v/\v<n))/\Ext w w':=by
 refine aw func131 ?_;refine bn λg J f a e=>?_;simp only[cr,cU,ah];refine⟨λh=>?_,λh=>⟨?_,a⟩⟩
 .rw[az cb.p 1 e rfl];simp only[aQ];exact⟨by simp[h],a⟩
 .rw[decide_eq_false];omega
theorem AF {b:Nat}:ai x7 G7 [jm b n] w λr w'=>r=Δ n/\Ext w w':=by
 refine aw func115 ?_;refine bn λg J f a e=>?_;rw[az cb.p 1 e rfl];exact⟨rfl,a⟩
theorem JK {n:Int}:ai x7 G5 [Δ n] w λr w'=>Ext w w'/\r=(if 1<=n/\n<=32 then .tuple #[jm (2 ^ n.toNat-1) n.toNat,Δ 0] else .tuple #[jm 0 0,Δ 1]):=by
 refine aw func113 ?_;refine bt cb.i λg J z f j=>?_;refine aT (λv w2=>v= .bool (decide (¬(1<=n/\n<=32)))/\J=w2) ?_ ?_
 .rintro _ _ ⟨rfl,rfl⟩;simp only[ah];refine⟨λh=>?_,λh=>?_⟩
  .rw[dq (cs:=#[.int .u64 0,Δ 0]) Ψ];refine bT (vs:=[.int .u64 0,Δ 0]) cb.i rfl rfl (by intro u hu;simp at hu;rcases hu with rfl|rfl<;>rfl) j λs a x e=>?_;rw[fB cb.p cb.i rfl e.range,if_neg h];exact⟨f.then a (by rintro r y rfl;omega),rfl⟩
  .have h:1<=n/\n<=32:=Y7.1 h;obtain⟨m,rfl⟩:∃m:Nat,n=m:=⟨n.toNat,Ω⟩;rw[vu Ω];have A:0<2 ^ m:=Nat.two_pow_pos m;have B:2 ^ m<=2 ^ 32:=S3 Ω Ω;simp only[dR];rw[wrap_u64 Ω Ω,show (((2 ^ m:Nat):Int)-1)=((2 ^ m-1:Nat):Int) by omega];rw[dq (cs:=#[.int .u64 ((2 ^ m-1:Nat):Int),Δ m]) Ψ];refine bT (vs:=[.int .u64 ((2 ^ m-1:Nat):Int),Δ m]) cb.i rfl rfl (by intro u hu;simp at hu;rcases hu with rfl|rfl<;>rfl) j λs a x e=>?_;rw[fB cb.p cb.i rfl e.range,if_pos h];exact⟨f.then a (by rintro r y rfl;omega),rfl⟩
 .intro au q;simp only[aQ,bS,ah];refine⟨λh=>q _ _ ⟨?_,rfl⟩,λh=>q _ _ ⟨?_,rfl⟩⟩
  .rw[decide_eq_true];omega
  .congr 1;simp;omega
theorem AG {b:Nat} {v:Int} (y:lS b n) (z:Laid w) (G: -1<=v):ai x7 Ha [jm b n,Δ v] w λr w'=>r=Δ (jL b n v)/\Ext w w':=by
 obtain⟨H,e⟩:=y;have f:b<2 ^ 64:=Q2 e (S3 Ω Ω);refine aw func119 ?_;refine bn λg J K a j=>?_;rw[az cb.p 1 j rfl];simp only[dR,cU,ah];rw[wrap_i64 Ω Ω];refine⟨λh=>⟨by rw[JF h],a⟩,λL=>?_⟩;rw[az cb.p 0 j rfl];refine aT (λu w2=>J=w2/\ ∃r s:Nat,u= .int .u64 (r:Int)/\r<2 ^ 64/\v+1=s/\ ∀i,r.testBit i=(decide (s<=i)&&b.testBit i)) ?_ ?_
 .rintro _ _ ⟨rfl,r,s,rfl,A,I,q⟩;simp only[bi,ah];refine⟨λB=>⟨by rw[JH q Ω I],a⟩,λB=>?_⟩;obtain⟨k,m,hk⟩:=JA r Ω;refine (JJ (z.ext a) hk A).mono ?_;rintro _ M _ ⟨rfl,C⟩;exact⟨by rw[JG Ω e q hk I],a.trans C⟩
 .intro au x;refine⟨λh=>?_,λh=>?_⟩
  .obtain⟨s,rfl⟩:∃s:Nat,v=s:=⟨v.toNat,Ω⟩;have N:0<2 ^ (s+1):=Nat.two_pow_pos _;have O:2 ^ (s+1)<=2 ^ 32:=S3 Ω Ω;simp only[aM];rw[wrap_i64 Ω Ω,show ((s:Int)+1)=((s+1:Nat):Int) by omega,vu Ω];simp only[dR];rw[wrap_u64 Ω Ω,show (((2 ^ (s+1):Nat):Int)-1)=((2 ^ (s+1)-1:Nat):Int) by omega,AC];refine x _ _ ⟨rfl,_,s+1,rfl,JC _ _,Ω,λi=>?_⟩;rw[Av,AD];by_cases E:i<64
   .by_cases hi:s+1<=i
    .simp[E,hi,show ¬i<s+1 by omega]
    .simp[hi,show i<s+1 by omega]
   .rw[Aw f Ω];simp
  .exact x _ _ ⟨rfl,b,0,rfl,f,Ω,λi=>Ξ⟩
theorem JL {b:Nat} (e:lS b n) (f:Laid w):ai x7 G9 [jm b n] w λr w'=>r=Δ (jL b n (-1))/\Ext w w':=by
 refine aw func118 ?_;refine bn λg J q a h=>?_;rw[bx cb.p cb.i rfl h.range];refine (AG e (f.ext a) Ω).mono ?_;rintro _ w2 _ ⟨rfl,j⟩;exact⟨rfl,a.trans j⟩
theorem JM {b:Nat} {v:Int} (H:lS b n):ai x7 G8 [jm b n,Δ v] w λr w'=>r=jm (if 0<=v/\v<n then jK b (2 ^ v.toNat) else b) n/\Ext w w':=by
 refine aw func116 ?_;refine bn λg J R x y=>?_;refine bt cb.i λI w2 S z A=>?_;have V:=x.size;have W:=y.lt;refine dm (λe=>∃f,aa e g cb [.int .u64 ((f:Nat):Int),Δ (n:Int)]/\aa e I cb [.int .u64 0,Δ 0]/\Ext w e/\f=(if 0<=v/\v<n then jK b (2 ^ v.toNat) else b)) ?_ ?_
 .rintro e ⟨f,K,L,M,rfl⟩;rw[bx cb.p cb.i rfl K.range];refine bT (vs:=[_,_]) cb.i rfl rfl (by intro u hu;simp at hu;rcases hu with rfl|rfl<;>rfl) L λX N Y O=>?_;rw[fB cb.p cb.i rfl O.range];exact⟨rfl,M.then N (by rintro r P rfl;omega)⟩
 .intro au B;have j:=y.ext z;rw[bx cb.p cb.i rfl j.range];refine AE.mono ?_;rintro _ Z _ ⟨rfl,a⟩;have C:=(x.trans z).trans a;simp only[ah,ei];refine⟨λh ab q _ _=>?_,λh=>B _ ⟨b,j.ext a,A.ext a,C,by rw[if_neg h]⟩⟩;have E:=(j.ext a).ext q;rw[az cb.p 0 E rfl];obtain⟨s,rfl⟩:∃s:Nat,v=s:=⟨v.toNat,Ω⟩;have ac:=H.1;rw[vu Ω,AC,aP cb.p rfl];refine bo fv.i rfl rfl E (by simp[jm,x1.cells]) λad G ae Q=>?_;refine B _ ⟨_,Q,((A.ext a).ext q).U G Ω,(C.trans q).then G (by rintro r P rfl;omega),?_⟩;rw[if_pos h,r8]
def oP (v:Int):Nat:=if v<0 then 0 else 40-v.toNat
theorem vv (x:Nat):oP x=40-x:=by unfold oP;rw[if_neg Ω];omega
theorem nI {b g:Nat} (e:lS b n):
  ov x7 kh [Γ g] (gq b n).length (λk vs _=>∃v:Nat,(gq b n)[k]? =σ v/\vs=[Δ (v:Int)])
   (λw=>aa w g cb [.int .u64 (b:Int),Δ (n:Int)]/\Laid w):=by
 refine⟨kh.enters,λl au Q w r _ E ⟨s,z⟩ G=>?_⟩;have R:=e.1;refine pT func117 ?_;rw[bx cb.p cb.i rfl s.range];refine (JL e z).free.mono ?_;rintro _ J ⟨H,rfl,f⟩;refine⟨λv w2=>∃k,k<=(gq b n).length/\v=Δ (nH (gq b n)[k]?)/\au k w2/\aa w2 g cb [.int .u64 (b:Int),Δ (n:Int)]/\Laid w2,
  λv _=>oP (b1 v),⟨0,X8 _,by rw[JE],r 0 _ _ f H.b G,s.ext f,z.ext f⟩,?_⟩
 rintro _ w2 ⟨k,hk,rfl,A,I,K⟩;cases a:(gq b n)[k]? with
 |none=>
  have:k=(gq b n).length:=by
   have:=S4.1 a;omega
  subst this;simp only[nH,cU,ah];exact⟨λh=>Ω,λ_=>.inl A⟩
 |some x=>
  have j:=(x4.1 a).1;have S:=(vt.1 (x5 a)).1;simp only[nH,cU,ah];refine⟨λ_=>?_,λh=>Ω⟩;refine⟨rfl,(E k _ w2 j ⟨I,K⟩ ⟨x,a,rfl⟩ A).mono ?_⟩;rintro _ U (⟨rfl,⟨B,C⟩,L⟩|⟨rfl,M⟩)
  .simp only[bF,Y5,aW];rw[bx cb.p cb.i rfl B.range];refine (AG e C Ω).free.mono ?_;rintro _ V ⟨N,rfl,q⟩;refine⟨⟨k+1,j,congrArg (V5 .i64) (AA a),r _ _ _ q N.b L.1,B.ext q,C.ext q⟩,?_⟩;rw[AA a];cases O:(gq b n)[k+1]? with
   |none=>show 0<oP x;rw[vv];omega
   |some y=>
    have W:x<y:=by
     have h1:=(x4.1 a).2;have P:=(x4.1 O).2;rw[<-h1,<-P];exact V9.1 (Ax b n) k (k+1) _ _ Ω
    show oP y<oP x;rw[vv,vv];omega
  .simp only[bF,V0,bO];exact .inr ⟨k,j,M⟩
theorem nJ {b:Nat}:ai x7 Gj [jm b n] w λr w'=>Ext w w'/\ ∃g,r= .func (.func kh) #[] #[Γ g]/\w.heap.size<=g/\aa w' g cb [.int .u64 (b:Int),Δ (n:Int)]:=by
 refine aw func45 ?_;refine bn λg J f a e=>?_;rw[mm];exact⟨a,g,rfl,Ω,e⟩
abbrev dv (s:Λ):Prop:=∀x∈s,1<=x/\x<=32
theorem dv.tail {s:Λ} (h:dv (k::s)):dv s:=λx a=>h x (.tail _ a)
theorem lT {s:Λ} (h:dv s):1<=aK s:=(mr s h).1
theorem oQ:∀ (s t:Λ) (m:Int),cH s t m=(cH s t 0).map λn=>n+m*aK s
 |[],[],m=>by simp[cH,aK]
 |k::s,v::t,m=>by
  unfold cH;split
  .rw[oQ s t (m*k+v),oQ s t (0*k+v)];simp only[Option.map_map,aK];congr 1;funext n;simp only[Function.comp];rw[Int.add_mul,Int.add_mul,<-Int.mul_assoc];simp;omega
  .rfl
 |[],_::_,_=>rfl
 |_::_,[],_=>rfl
theorem vw {L j:Nat} {rest:List (Λ)} (p:rest.length=L):∀ {kn v:Nat},v<kn-> ∀ {x:Λ},rest[j]? =σ x->
  ((V6 kn).flatMap λ(v:Nat)=>rest.map λt=>(v:Int)::t)[v*L+j]? =σ ((v:Int)::x)
 |0,v,h,_,_=>Ω
 |kn+1,v,h,x,e=>by
  have q:=(x4.1 e).1;have f:((V6 kn).flatMap λ(v:Nat)=>rest.map λt=>(v:Int)::t).length=kn*L:=by
   simp only[List.length_flatMap,u7,p];rw[List.map_const',List.length_range,List.sum_replicate_nat]
  rw[List.range_succ,List.flatMap_append];by_cases a:v<kn
  .have:(v+1)*L<=kn*L:=X5 _ a;rw[U4] at this;rw[Y8 (by rw[f];omega)];exact vw p a e
  .have a:v=kn:=Ω
   subst a;rw[X1 (by rw[f];omega),f,show v*L+j-v*L=j by omega];simp[e]
theorem hW:∀ {s:Λ},dv s-> ∀ {i:Nat} {t:Λ},(a8 s)[i]? =σ t->cH s t 0=σ (i:Int)
 |[],_,i,t,h=>by
  cases i with
  |zero=>simp[a8] at h;subst h;rfl
  |succ i=>simp[a8] at h
 |k::s,I,i,t,h=>by
  have hk:=I k (.head _);have a:=hU I.tail;have w:=lT I.tail;obtain⟨kn,rfl⟩:∃kn:Nat,k=kn:=⟨k.toNat,Ω⟩;have hi:=(x4.1 h).1;rw[hU I,aK,Int.toNat_mul Ω Ω,<-a,r8] at hi;have p:0<(a8 s).length:=Ω
  have e:i / (a8 s).length<kn:=Nat.div_lt_of_lt_mul (by rw[Nat.mul_comm];exact hi);have q:i % (a8 s).length<(a8 s).length:=Nat.mod_lt _ p;obtain⟨x,f⟩:∃x,(a8 s)[i % (a8 s).length]? =σ x:=⟨_,x6 q⟩;have j:=vw (kn:=kn) rfl e f;rw[Nat.mul_comm,Nat.div_add_mod] at j;have h':((V6 ((kn:Int).toNat)).flatMap λ(v:Nat)=>(a8 s).map λt=>(v:Int)::t)[i]? =σ t:=h;rw[r8,j] at h';cases h';unfold cH;rw[if_pos ⟨Int.natCast_nonneg _,Int.ofNat_lt.2 e⟩,oQ,hW I.tail f];simp only[Z6,Y3,Int.zero_mul,Int.zero_add];have r:aK s=((a8 s).length:Int):=by rw[a];omega
  rw[r,<-Int.natCast_mul,<-Int.natCast_add];congr 1;rw[Nat.mul_comm,Nat.add_comm,Nat.div_add_mod]
theorem mz:∀ {s:Λ},dv s-> ∀ {t:Λ} {n:Int},cH s t 0=σ n->(a8 s)[n.toNat]? =σ t
 |[],_,[],n,h=>by simp[cH] at h;subst h;rfl
 |k::s,I,v::t,n,h=>by
  have hk:=I k (.head _);have j:=hU I.tail;have w:=lT I.tail;obtain⟨kn,rfl⟩:∃kn:Nat,k=kn:=⟨k.toNat,Ω⟩;unfold cH at h;split at h
  .rename_i x;rw[oQ] at h;cases f:cH s t 0 with
   |none=>rw[f] at h;cases h
   |some q=>
    rw[f] at h;simp only[Z6,Y3,Int.zero_mul,Int.zero_add] at h;have p:=nB I.tail f;simp only[Int.zero_mul,Int.zero_add,Int.one_mul] at p;obtain⟨a,rfl⟩:∃a:Nat,v=a:=⟨v.toNat,Ω⟩;have r:=vw (kn:=kn) (v:=a) rfl Ω (mz I.tail f);have e:n.toNat=a*(a8 s).length+q.toNat:=by
     rw[<-h,j];have:((a*(aK s).toNat:Nat):Int)=(a:Int)*aK s:=by rw[Int.natCast_mul,Int.toNat_of_nonneg Ω]
     omega
    rw[e];show ((V6 ((kn:Int).toNat)).flatMap λ(v:Nat)=>(a8 s).map λt=>(v:Int)::t)[_]? =_;rw[r8];exact r
  .cases h
 |[],_,_::_,_,h=>by cases h
 |_::_,_,[],_,h=>by cases h
theorem AH:∀ (s:Λ),dv s-> ∀ (n c:Int),cJ s (n+c*aK s)=cJ s n
 |[],_,_,_=>rfl
 |k::s,I,n,c=>by
  have a:=lT I.tail;simp only[cJ,aK];rw[<-Int.mul_assoc,AH s I.tail,Int.add_mul_ediv_right _ _ Ω,Int.add_mul_emod_self_right]
theorem sr:∀ {s:Λ},dv s-> ∀ {n:Int},0<=n->n<aK s->cH s (cJ s n) 0=σ n
 |[],_,n,a,h1=>by simp[aK] at h1;simp[cJ,cH];omega
 |k::s,I,n,a,h1=>by
  have hk:=I k (.head _);have j:=lT I.tail;simp only[cJ,aK] at h1 ⊢;have f:n / aK s<k:=Int.ediv_lt_of_lt_mul Ω h1;have h:0<=n / aK s:=Int.ediv_nonneg a Ω;have hm:n / aK s % k=n / aK s:=Int.emod_eq_of_lt h f;rw[hm];unfold cH;rw[if_pos ⟨h,f⟩,oQ];have e:cJ s n=cJ s (n % aK s):=by
   have:=AH s I.tail (n % aK s) (n / aK s);rw[<-this];congr 1;have:=Int.emod_add_mul_ediv n (aK s);rw[Int.mul_comm (n / aK s)];omega
  rw[e,sr I.tail (Int.emod_nonneg _ Ω) (Int.emod_lt_of_pos _ Ω)];simp only[Z6,Y3,Int.zero_mul,Int.zero_add];have:=Int.emod_add_mul_ediv n (aK s);rw[Int.mul_comm (n / aK s)];omega
theorem nK {s:Λ} (I:dv s) {i:Nat} (h:(i:Int)<aK s):(a8 s)[i]? =σ (cJ s i):=by
 have:=mz I (sr I (n:=(i:Int)) Ω h);simpa using this
def ba (s cs t:Λ):Int:=match cH s t 0 with
 |some n=>cs.getD n.toNat 0
 |none=>0
def upto {α:Type} (l:List α) (d:α) (i:Nat):List α:=l.take i++p9 (l.length-i) d
theorem p5 {α:Type} (l:List α) (d:α) (i:Nat):(upto l d i).length=l.length:=by simp[upto];omega
theorem p6 {α:Type} (l:List α) (d:α):upto l d 0=p9 l.length d:=by simp[upto]
theorem p7 {α:Type} (l:List α) (d:α):upto l d l.length=l:=by simp[upto]
theorem qa {α:Type} {l:List α} {d x:α} {i:Nat} (h:l[i]? =σ x):(upto l d i).set i x=upto l d (i+1):=by
 have hi:=(x4.1 h).1;unfold upto;rw[T8 _ _ Θ,u9,h];have e:i-(l.take i).length=0:=Θ
 obtain⟨m,hm⟩:∃m,l.length-i=m+1:=⟨l.length-i-1,Ω⟩;rw[e,hm,show l.length-(i+1)=m by omega];simp[List.replicate_succ]
theorem qb {α:Type} {l:List α} {i:Nat} {x:α} (h:l[i]? =σ x):l.set i x=l:=by
 apply Y6;intro j;rw[X6];split
 .rename_i a;subst a;rw[if_pos (x4.1 h).1,h]
 .rfl
def vx:Λ->Int
 |[]=>0
 |x::l=>l.foldl min x
def AI (P:Int->Prop) (m:Int):Prop:=P m/\ ∀x,P x->m<=x
def ds (s t:Λ):Prop:=∃n,cH s t 0=σ n
theorem JN (k v:Int) (s t:Λ):cH (k::s) (v::t) 0=if 0<=v/\v<k then (cH s t 0).map (λn=>n+(0*k+v)*aK s) else ν:=by
 conv=>lhs;unfold cH
 rw[oQ]
theorem AJ {v:Int} {s t:Λ}:ds (k::s) (v::t)↔(0<=v/\v<k)/\ds s t:=by
 unfold ds;rw[JN];constructor
 .rintro⟨n,h⟩;split at h
  .rename_i a;cases e:cH s t 0 with
   |none=>rw[e] at h;cases h
   |some q=>exact⟨a,q,rfl⟩
  .cases h
 .rintro⟨a,q,e⟩;rw[if_pos a,e];exact⟨_,rfl⟩
theorem AK {t:Λ}:ds [] t↔t=[]:=by
 cases t with
 |nil=>exact⟨λ_=>rfl,λ_=>⟨0,rfl⟩⟩
 |cons v t=>
  constructor
  .rintro⟨_,h⟩;cases h
  .intro h;cases h
theorem ss {s t:Λ} (h:ds s t):s.length=t.length:=by
 obtain⟨n,h⟩:=h;rcases Nat.decEq s.length t.length with a|a
 .rw[vg s t 0 a] at h;cases h
 .exact a
theorem AL {s t:Λ} (I:dv s) {n:Int} (h:cH s t 0=σ n):cJ s n=t:=by
 have f:=nB I h;have h1:=mz I h;simp only[Int.zero_mul,Int.zero_add,Int.one_mul] at f;have a:=nK I (i:=n.toNat) Ω;rw[h1] at a;have e:((n.toNat:Nat):Int)=n:=Ω
 rw[e] at a;exact (c7 a).symm
theorem su {s cs:Λ} (I:dv s) (a:cs.length=(aK s).toNat):cs=(V6 (aK s).toNat).map λ(q:Nat)=>ba s cs (cJ s q):=by
 apply List.ext_getElem
 .simp[a]
 .intro i h1 e;rw[List.getElem_map,List.getElem_range];have f:=lT I;have hi:(i:Int)<aK s:=Ω
  unfold ba;rw[sr I Ω hi];simp only[r8];rw[u4,x6 h1];rfl
theorem vy {s:Λ} (I:dv s) {q:Nat} (a:q<(aK s).toNat):ds s (cJ s q):=⟨_,sr I Ω (by have:=lT I;omega)⟩
theorem JO {s cs a:Λ} (I:dv s) (e:cs.length=(aK s).toNat) (f:a.length=(aK s).toNat) (h:∀t,ds s t->ba s cs t=ba s a t):cs=a:=by
 rw[su I e,su I f];apply List.map_congr_left;intro q j;exact h _ (vy I (by simpa using j))
theorem JP (h:l≠[]):AI (λc=>c∈l) (vx l):=by
 obtain⟨x,r,rfl⟩:∃v r,l=v::r:=by cases l with
  |nil=>exact absurd rfl h
  |cons v r=>exact⟨v,r,rfl⟩
 clear h;show AI (λc=>c∈x::r) (r.foldl min x);induction r generalizing x with
 |nil=>exact⟨.head _,λy f=>by simp at f;simp[f]⟩
 |cons y r j=>
  rw[List.foldl_cons];obtain⟨h1,e⟩:=j (min x y);refine⟨?_,λz a=>?_⟩
  .rcases V1.1 h1 with h1|h1
   .rw[h1];rcases Int.le_total x y with h|h
    .rw[Int.min_eq_left h];exact .head _
    .rw[Int.min_eq_right h];exact .tail _ (.head _)
   .exact .tail _ (.tail _ h1)
  .rcases V1.1 a with rfl|a
   .have:=e _ (.head _);omega
   .rcases V1.1 a with rfl|a
    .have:=e _ (.head _);omega
    .exact e _ (.tail _ a)
def oR (m:Λ) (i j:Nat):Prop:=∀ (p q:Nat) (x y:Int),p<q->q<=i->q≠j->m[p]? =σ x->m[q]? =σ y->x<=y
def qc (m:Λ) (i:Nat):Prop:=∀ (p q:Nat) (x y:Int),p<q->q<i->m[p]? =σ x->m[q]? =σ y->x<=y
theorem JQ {m:Λ} {i:Nat} (h:qc m i):oR m i i:=λp q x y h1 f j a e=>h p q x y h1 Ω a e
theorem JR {m:Λ} {i:Nat} (h:oR m i 0):qc m (i+1):=λp q x y h1 f a e=>h p q x y h1 Ω Ω a e
theorem JS {m:Λ} {i:Nat} {a b:Int} (h:oR m i j) (B:0<j) (r:m[j-1]? =σ a) (w:m[j]? =σ b) (z:a<=b):qc m (i+1):=by
 intro p q x y h1 C e f;by_cases s:q=j
 .subst s;rw[w] at f;cases f;by_cases A:p=q-1
  .subst A;rw[r] at e;cases e;exact z
  .have:=h p (q-1) x a Ω Ω Ω e r;omega
 .exact h p q x y h1 Ω s e f
theorem JT {m:Λ} {i:Nat} {a b:Int} (h:oR m i j) (H:0<j) (hi:j<=i) (z:m[j-1]? =σ a) (A:m[j]? =σ b) (I:b<a):oR ((m.set j a).set (j-1) b) i (j-1):=by
 intro p q x y h1 w B e f;have C:=(x4.1 A).1;have E:∀ (r:Nat),((m.set j a).set (j-1) b)[r]? =if r=j-1 then σ b else if r=j then σ a else m[r]?:=λr=>by
  by_cases h:r=j-1
  .subst h;rw[j9 Θ,if_pos rfl]
  .rw[Y0 (S8 h),if_neg h];by_cases h':r=j
   .subst h';rw[j9 C,if_pos rfl]
   .rw[Y0 (S8 h'),if_neg h']
 rw[E] at e f;rw[if_neg B] at f;by_cases s:q=j
 .rw[if_pos s] at f;cases f;split at e
  .cases e;omega
  .split at e
   .omega
   .exact h p (j-1) x a Ω Ω Ω e z
 .rw[if_neg s] at f;split at e
  .cases e;have:=h j q b y;by_cases F:j<q
   .exact this F w s A f
   .omega
  .split at e
   .rename_i G;subst G;cases e;exact h (p-1) q a y Ω w s z f
   .exact h p q x y h1 w s e f
theorem swap_perm {m:Λ} {i:Nat} {a b:Int} (q:i<j) (h:m[i]? =σ a) (f:m[j]? =σ b):((m.set j a).set i b).Perm m:=by
 induction m generalizing i j with
 |nil=>simp at h
 |cons x m p=>
  cases j with
  |zero=>omega
  |succ j=>
   cases i with
   |zero=>
    simp at h f ⊢;subst h;obtain⟨r,f⟩:=x4.1 f;rw[show m=m.take j++m[j]::m.drop (j+1) by simp];rw[T8 _ _ Θ];have e:j-(m.take j).length=0:=Θ
    rw[e,f];simp only[List.set_cons_zero];refine (List.Perm.cons b (List.perm_middle)).trans ?_;refine (List.Perm.swap x b _).trans ?_;exact List.Perm.cons x List.perm_middle.symm
   |succ i=>
    simp at h f ⊢;exact p Ω h f
theorem JU {m:Λ} (h:qc m m.length):m.Pairwise (·<= ·):=by
 rw[V9];intro i j hi a e;exact h i j _ _ e a (x6 hi) (x6 a)
def Good (o:Λ) (n:Nat):Prop:=o.length=n/\ ∀ (i:Nat) (p:Int),o[i]? =σ p->(0<=p/\p<n)/\ ∀j,j<i->o[j]? ≠σ p
theorem Good.inj {o:Λ} {i:Nat} {p:Int} (h:Good o n) (hi:o[i]? =σ p) (a:o[j]? =σ p):i=j:=by
 rcases Nat.lt_trichotomy i j with h1|h1|h1
 .exact absurd hi ((h.2 j p a).2 i h1)
 .exact h1
 .exact absurd a ((h.2 i p hi).2 j h1)
def AM (m:Λ):Prop:=∀i:Nat,i<m.length->m[i]? =σ (i:Int)
theorem AN {o m:Λ} (h:Good o n) (a:m.Perm o) (I:m.Pairwise (·<= ·)):AM m:=by
 have s:o.Nodup:=V9.2 λi j hi w C he=>by
  have:=h.inj (i:=i) (j:=j) (p:=o[j]) (by rw[x6 hi,he]) (x6 w);omega
 have y:m.Nodup:=a.nodup_iff.2 s;have E:m.length=n:=by rw[a.length_eq,h.1]
 have q:∀x∈m,0<=x/\x<(n:Int):=λx z=>by
  obtain⟨i,hi,he⟩:=List.getElem_of_mem (a.mem_iff.1 z);exact (h.2 i x (by rw[x6 hi,he])).1
 have r:∀ (i:Nat) (hi:i+1<m.length),m[i]<m[i+1]:=λi hi=>by
  have h1:=V9.1 I i (i+1) Ω hi Ω;have e:=V9.1 y i (i+1) Ω hi Ω;omega
 have A:∀ (i:Nat) (hi:i<m.length),(i:Int)<=m[i]:=by
  intro i;induction i with
  |zero=>intro hi;exact (q _ (Q4 hi)).1
  |succ i f=>
   intro hi;have h1:=f Ω;have e:=r i hi;omega
 have B:∀ (d i:Nat) (hi:i<m.length),i+d+1=m.length->m[i]<=(i:Int):=by
  intro d;induction d with
  |zero=>
   intro i hi he;have:=(q _ (Q4 hi)).2;omega
  |succ d f=>
   intro i hi he;have h1:=f (i+1) Ω Ω;have e:=r i Ω;omega
 intro i hi;rw[x6 hi];have h1:=A i hi;have e:=B (m.length-i-1) i hi Ω;congr 1;omega
theorem JV {o m:Λ} (h:AM m) (e:m.Perm o):Good o m.length:=by
 have s:m.Nodup:=V9.2 λi j hi a x he=>by
  have h1:=h i hi;have f:=h j a;rw[x6 hi] at h1;rw[x6 a] at f;have h1:=c7 h1;have f:=c7 f;omega
 have w:o.Nodup:=e.nodup_iff.1 s;refine⟨e.length_eq.symm,λi p hi=>⟨?_,λj a q=>?_⟩⟩
 .obtain⟨k,hk,he⟩:=List.getElem_of_mem (e.mem_iff.2 (x5 hi));have h1:=h k hk;rw[x6 hk,he] at h1;cases h1;omega
 .have r:i<o.length:=(x4.1 hi).1;have:=V9.1 w j i Ω r a;rw[x6 r] at hi;rw[x6 (show j<o.length by omega)] at q;exact this ((c7 q).trans (c7 hi).symm)
theorem Good.AO {o:Λ} {p:Nat} (h:Good o n) (f:p<n):∃j:Nat,o[j]? =σ (p:Int):=by
 let le:Int->Int->Bool:=λa b=>decide (a<=b);have h1:(o.mergeSort le).Perm o:=List.mergeSort_perm o le;have e:(o.mergeSort le).Pairwise (·<= ·):=by
  refine (List.pairwise_mergeSort (le:=le) (λa b c h1 e=>?_) (λa b=>?_) o).imp λh=>by simpa[le] using h
  .simp[le] at*;omega
  .simp[le];omega
 have q:=AN h h1 e p (by rw[h1.length_eq,h.1];exact f);obtain⟨j,r,he⟩:=List.getElem_of_mem (h1.mem_iff.1 (x5 q));exact⟨j,by rw[x6 r,he]⟩
def lU (o x:Λ):Λ:=(V6 o.length).map λ(p:Nat)=>x.getD (o.idxOf (p:Int)) 0
theorem AP (o x:Λ):(lU o x).length=o.length:=by simp[lU]
theorem AQ {o x:Λ} {p:Int} (h:Good o n) (r:x.length=n) (a:o[j]? =σ p):(lU o x)[p.toNat]? =x[j]?:=by
 have h1:=(h.2 j p a).1;have s:j<o.length:=(x4.1 a).1;have hm:p∈o:=x5 a;have e:=List.idxOf_lt_length_of_mem hm;have f:o.idxOf p=j:=h.inj (by rw[x6 e,List.getElem_idxOf e]) a;have q:((p.toNat:Nat):Int)=p:=Ω
 have w:=h.1;unfold lU;rw[x8,List.getElem?_range Ω];simp only[Z6,q,f];rw[u4,x6 (show j<x.length by omega)];rfl
theorem AR {o x y:Λ} (h:Good o n) (f:x.length=n) (s:y.length=n) (q:∀ (j:Nat) (p:Int),o[j]? =σ p->y[p.toNat]? =x[j]?):y=lU o x:=by
 refine Y6 λp=>?_;have w:=h.1;by_cases r:p<n
 .obtain⟨j,a⟩:=h.AO r;have h1:=q j p a;have e:=AQ h f a;rw[r8] at h1 e;rw[h1,e]
 .rw[Z4 Ω,Z4 (by rw[AP];omega)]
theorem nL:∀ {s t:Λ},ds s t↔s.length=t.length/\ ∀ (i:Nat) (a v:Int),s[i]? =σ a->t[i]? =σ v->0<=v/\v<a
 |[],t=>by
  rw[AK];exact⟨λh=>⟨by rw[h],λi a v h _=>by simp at h⟩,λh=>Z0 h.1.symm⟩
 |k::s,[]=>⟨λh=>absurd (ss h) Ξ,λh=>absurd h.1 Ξ⟩
 |k::s,v::t=>by
  rw[AJ,nL (s:=s) (t:=t)];refine⟨λ⟨h1,f,j⟩=>⟨by simp[f],λi a u e hu=>?_⟩,λ⟨h1,f⟩=>⟨f 0 k v rfl rfl,by simpa using h1,λi a u e hu=>f (i+1) a u (by simpa using e) (by simpa using hu)⟩⟩;cases i with
  |zero=>simp at e hu;subst e;subst hu;exact h1
  |succ i=>exact j i a u (by simpa using e) (by simpa using hu)
def eo (s o:Λ):Λ:=o.map λp=>s.getD p.toNat 0
theorem sw (s o:Λ):(eo s o).length=o.length:=by simp[eo]
theorem AS {s o:Λ} {p:Int} (h:Good o n) (I:s.length=n) (a:o[j]? =σ p):(eo s o)[j]? =s[p.toNat]?:=by
 have h1:=(h.2 j p a).1;unfold eo;rw[x8,a,Z6,u4,x6 (show p.toNat<s.length by omega)];rfl
theorem JW {s o:Λ} (h:Good o n) (I:s.length=n) {x:Int} (a:x∈eo s o):x∈s:=by
 obtain⟨p,e,rfl⟩:=l7.1 a;obtain⟨j,f,he⟩:=List.getElem_of_mem e;have h1:=(h.2 j p (by rw[x6 f,he])).1;rw[u4,x6 (show p.toNat<s.length by omega)];exact Q4 _
theorem b2.JX {s o:Λ} (a:b2 s) (h:Good o n) (I:s.length=n):b2 (eo s o):=
 ⟨by rw[sw,h.1,<-I];exact a.1,λx e=>a.2 x (JW h I e)⟩
theorem JY {s o x:Λ} (h:Good o n) (I:s.length=n) (w:ds (eo s o) x):ds s (lU o x):=by
 obtain⟨h1,y⟩:=nL.1 w;rw[sw,h.1] at h1;refine nL.2 ⟨by rw[AP,h.1,I],λp a v e z=>?_⟩;have A:p<n:=by have:=(x4.1 e).1;omega
 obtain⟨j,f⟩:=h.AO A;have q:=AS h I f;have r:=AQ h h1.symm f;rw[r8] at q r;exact y j a v (by rw[q,e]) (by rw[<-r,z])
def nM (s cs o:Λ):Λ:=(V6 (aK (eo s o)).toNat).map λ(q:Nat)=>ba s cs (lU o (cJ (eo s o) q))
theorem AT (s cs o:Λ):(nM s cs o).length=(aK (eo s o)).toNat:=by simp[nM]
theorem vz {f:Int->Bool} {x:Int}:runN f (x::l)=if f x=true then runN f l+1 else 0:=by
 unfold runN;rw[List.takeWhile_cons];by_cases h:f x=true
 .rw[if_pos h,if_pos h,b8]
 .rw[if_neg h,if_neg h];rfl
theorem vA (f:Int->Bool):∀l:Λ,l.dropWhile f=l.drop (runN f l)
 |[]=>rfl
 |x::l=>by
  rw[List.dropWhile_cons,vz];by_cases h:f x=true
  .rw[if_pos h,if_pos h,vA f l];rfl
  .rw[if_neg h,if_neg h];rfl
theorem AU (f:Int->Bool):∀l:Λ,l.takeWhile f=l.take (runN f l)
 |[]=>rfl
 |x::l=>by
  rw[List.takeWhile_cons,vz];by_cases h:f x=true
  .rw[if_pos h,if_pos h,List.take_succ_cons,AU f l]
  .rw[if_neg h,if_neg h];rfl
theorem AV {f:Int->Bool}:∀ {l:Λ} {b:Int} {q:Λ},l.dropWhile f=b::q->f b=false
 |x::l,b,q,h=>by
  rw[List.dropWhile_cons] at h;by_cases a:f x=true
  .rw[if_pos a] at h;exact AV h
  .rw[if_neg a] at h;have:=(List.cons.inj h).1;subst this;cases e:f x
   .rfl
   .exact absurd e a
theorem vB {p:Λ} {b:Int} {q:Λ} (h:p.drop a=b::q):p[a]? =σ b:=by
 have:=List.getElem?_drop (xs:=p) (i:=a) (j:=0);rw[h] at this;simpa using this.symm
theorem JZ (p:Λ) (at_:Nat):match oN p at_ with
  | .word a b=>lex (p.drop at_)=(((p.take b).drop a)::(lex (p.drop b)).1,(lex (p.drop b)).2)
  | .none=>lex (p.drop at_)=([],true)
  | .text _=>lex (p.drop at_)=([],false):=by
 have j:(p.drop at_).dropWhile cw=p.drop (gp p at_):=by rw[vA,List.drop_drop];rfl
 have s:(p.drop (gp p at_)).dropWhile bM=p.drop (iM p (gp p at_)):=by rw[vA,List.drop_drop];rfl
 have y:(p.drop (gp p at_)).takeWhile bM=(p.take (iM p (gp p at_))).drop (gp p at_):=by
  rw[AU,List.drop_take];congr 1;unfold iM;omega
 have h:runN bM (p.drop (gp p at_))=iM p (gp p at_)-gp p at_:=by unfold iM;omega
 have K:gp p at_<=iM p (gp p at_):=by unfold iM;omega
 unfold oN;generalize gp p at_=a at*;generalize iM p a=b at*;by_cases h1:b<p.length/\(∀c,p[b]? =σ c->cw c=false)
 .rw[if_pos h1];simp only;rw[ko,j];cases e:p.drop a with
  |nil=>
   have:=List.drop_eq_nil_iff.1 e;omega
  |cons x q=>
   simp only;rw[e] at s y h;by_cases f:bM x=true
   .rw[if_pos f,s];cases w:p.drop b with
    |nil=>have:=List.drop_eq_nil_iff.1 w;omega
    |cons c r=>
     simp only;rw[h1.2 c (vB w)];rfl
   .rw[if_neg f]
 .rw[if_neg h1];by_cases z:a=b
  .rw[if_pos z];simp only;subst z;rw[ko,j];cases e:p.drop a with
   |nil=>rfl
   |cons x q=>
    exfalso;have A:=vB e;have F:=(x4.1 A).1;rw[e] at h;rw[e] at j;have G:=AV j;refine h1 ⟨F,λc B=>?_⟩;rw[A] at B;cases B;exact G
  .rw[if_neg z];simp only;rw[ko (p.drop at_),j];cases e:p.drop a with
   |nil=>
    rw[e] at h;have:runN bM []=0:=rfl;omega
   |cons x q=>
    simp only;rw[e] at s y h;have f:bM x=true:=by
     rw[vz] at h;by_cases f:bM x=true
     .exact f
     .rw[if_neg f] at h;omega
    rw[if_pos f,s,y];cases w:p.drop b with
    |nil=>simp only;rw[ko []];rfl
    |cons c r=>
     simp only;have C:=vB w;have H:=(x4.1 C).1;have J:cw c=true:=by
      cases I:cw c with
      |true=>rfl
      |false=>exact absurd ⟨H,λd E=>by rw[C] at E;cases E;exact I⟩ h1
     rw[if_pos J]
def hz (w:x3) (g:Nat) (R:Nat->Prop) (toks:List (Λ)) (clean:Bool):Prop:=∃a p at_,lR w g a p at_ (-1)/\(∀r,leads a r->R r)/\lex (p.drop at_)=(toks,clean)
theorem hz.U {g:Nat} {R:Nat->Prop} {toks:List (Λ)} (h:hz w g R toks clean) (e:ae S w w') (j:¬S g) (q:∀r,R r->¬S r):hz w' g R toks clean:=by
 obtain⟨s,p,a,⟨h1,x,y,z,bm,A⟩,f,B⟩:=h;exact⟨s,p,a,⟨h1,x,y,z.U e j,bm,bq A e λr C=>q r (f r C)⟩,f,B⟩
theorem hz.words {g:Nat} {R:Nat->Prop} {toks:List (Λ)} (h:hz w g R toks clean):toks.length<=100000/\ ∀t∈toks,Bytes t/\t≠[]/\t.length<=100000:=by
 obtain⟨s,p,a,⟨x,y,z,_⟩,_,f⟩:=h;have A:(p.drop a).length<=100000:=by rw[List.length_drop];omega
 have e:=oL _ (p.drop a) (o4 _);rw[f] at e;refine⟨by show toks.length<=_;have e:toks.length<=_:=e;omega,λt q=>?_⟩;have j:=sh _ (p.drop a) (o4 _) t (by rw[f];exact q);refine⟨λb r=>?_,j.1,Ω⟩;have:=of_decide_eq_true (j.2.1 b r);omega
def J0 (w:x3) (g:Nat) (R:Nat->Prop) (toks:List (Λ)) (clean:Bool) (v:x1) (w':x3):Prop:=ae (λr=>r=g) w w'/\match toks with
 |t::l=>hz w' g R l clean/\ ∃n:Int,v= .tuple #[bR t,Δ n,Δ 0]
 |[]=>∃n:Int,v= .tuple #[bR [],Δ n,Δ (if clean then 2 else 11)]
theorem qd {g:Nat} {R:Nat->Prop} {toks:List (Λ)} (h:hz w g R toks clean):ai x7 uU [Γ g] w (J0 w g R toks clean):=by
 obtain⟨z,p,a,h1,A,q⟩:=h;refine (Jy h1).mono ?_;intro v w' _ hw;have e:=JZ p a;unfold p3 at hw;cases r:oN p a with
 |word x y=>
  rw[r] at hw e;simp only at hw e;rw[q] at e;obtain⟨rfl,s,I⟩:=hw;obtain⟨f,j⟩:=R5.inj e;subst f j;exact⟨s,⟨z,p,y,I,A,rfl⟩,_,rfl⟩
 |none=>
  rw[r] at hw e;simp only at hw e;rw[q] at e;obtain⟨f,j⟩:=R5.inj e;subst f j;obtain⟨n,rfl,B⟩:=hw;exact⟨B.U _,_,rfl⟩
 |text b=>
  rw[r] at hw e;simp only at hw e;rw[q] at e;obtain⟨f,j⟩:=R5.inj e;subst f j;obtain⟨rfl,s,_⟩:=hw;exact⟨s,_,rfl⟩
def kq (w:Λ):x1:=match gn w with
 |some n=>.tuple #[Δ n,Δ 0]
 |none=>.tuple #[Δ 0,Δ 4]
theorem AW {i:Nat} {b:Int} (hi:l[i]? =σ b):(l.take (i+1)).all gm=((l.take i).all gm&&gm b):=by
 rw[u9,hi,List.all_append];simp
theorem AX {i:Nat} {b:Int} (hi:l[i]? =σ b):(l.take (i+1)).foldl eW 0=eW ((l.take i).foldl eW 0) b:=by
 rw[u9,hi,List.foldl_append];rfl
theorem AY (a:l≠[]) (h:l.all gm=true):kp l=σ (l.foldl eW 0):=by
 unfold kp;cases l with
 |nil=>exact absurd rfl a
 |cons x l=>simp only[h,if_true]
theorem AZ {i:Nat} {b:Int} (hi:l[i]? =σ b) (a:gm b=false):kp l=ν:=by
 unfold kp;cases l with
 |nil=>simp at hi
 |cons x l=>
  simp only;rw[if_neg];intro h;have:=List.all_eq_true.1 h b (x5 hi);rw[a] at this;cases this
def oS (w l:Λ) (s:Int):Prop:=(s=1\/s= -1)/\gn w=(kp l).map λn=>s*n
theorem A0:oS (45::l) l (-1):=⟨.inr rfl,by simp only[gn];congr 1;funext n;omega⟩
theorem A1 {w:Λ} (h:∀b,w[0]? =σ b->b≠45):oS w w 1:=⟨.inl rfl,by
 have e:gn w=kp w:=by
  unfold gn;cases w with
  |nil=>rfl
  |cons x l=>
   have:=h x rfl;split
   .rename_i l' he;exact absurd (List.cons.inj he).1 this
   .rfl
 rw[e];cases kp w with
 |none=>rfl
 |some n=>simp⟩
theorem sx {w:Λ} {s:Int} (h:oS w l s) (a:kp l=ν):kq w= .tuple #[Δ 0,Δ 4]:=by
 unfold kq;rw[h.2,a];rfl
theorem A2 {w:Λ} {s n:Int} (h:oS w l s) (a:kp l=σ n):kq w= .tuple #[Δ (s*n),Δ 0]:=by
 unfold kq;rw[h.2,a];rfl
theorem J1 (B:Bytes l) (L:l.length<=100000):ai x7 Hr [bR l] w λv w'=>v=kq l/\Ext w w':=by
 refine aw func139 ?_;rw[Jh];refine iB (λS U J=>Ext w J/\ ∃ (m:Λ) (s:Int),S=bR m/\U=Δ s/\Bytes m/\m.length<=100000/\oS l m s) ?_ ?_
 .rintro _ _ J ⟨H,m,s,rfl,rfl,I,ae,C⟩;rw[Ad I (λb a=>by cases a),ah];refine⟨λe=>⟨by rw[sx C (by rw[e];rfl)],H⟩,λe=>?_⟩;refine vo c4.u cP.u cC.u I Ω λbv w2 M N _=>?_;rw[aX cP.u N];refine rz.range m.length (λi _ _ c E=>Ext w2 E/\c=Δ ((m.take i).foldl eW 0)/\(m.take i).all gm=true) Ω ⟨Ext.refl _,rfl,rfl⟩ ?_ ?_
  .rintro i V t3 _ E W hi ⟨f,rfl,j⟩ X;obtain⟨b,q⟩:=aE (l:=m) hi;have af:=I b (x5 q);refine bH Ω ?_;refine Ji (λ_ _ c G=>Ext w2 G/\c=Δ ((m.take (i+1)).foldl eW 0)/\(m.take (i+1)).all gm=true) ?_ ?_
   .rintro ag aj c G Y;rw[aM];exact X _ _ _ _ Y
   intro au p;rw[be cP.u cC.i Ψ (N.ext f) q];refine aT (λv G=>E=G/\v= .bool (!gm b)) ?_ ?_
   rotate_left
   .intro Z z;rw[aQ,ah];refine⟨λh=>z _ _ ⟨rfl,by unfold gm;rw[decide_eq_false Ω];rfl⟩,λh=>?_⟩;rw[bS];refine z _ _ ⟨rfl,?_⟩;unfold gm;congr 1;by_cases O:57<b
    .rw[decide_eq_true O,decide_eq_false Ω];rfl
    .rw[decide_eq_false O,decide_eq_true Ω];rfl
   rintro _ _ ⟨rfl,rfl⟩;cases K:gm b with
   |false=>
    rw[V0,bO];exact⟨by rw[sx C (AZ q K)],(H.trans M).trans f⟩
   |true=>
    rw[Y5,aW];have al:=of_decide_eq_true K;have A:=si (l:=m.take i) (n:=0) j ⟨Int.le_refl _,Φ⟩;rw[AX q,AW q,j,K] at p;generalize (m.take i).foldl eW 0=n at*;have A:0<=n/\n<=4611686018427387904:=A;rw[dR,wrap_u8 Ω Ω,e3 cC.u ak.u,wrap_i64 (x:=b-48) Ω Ω,dR,wrap_i64 Ω Ω,r1 Φ,Int.tdiv_eq_ediv_of_nonneg Ω];rw[wrap_i64 Ω Ω,bS,ah];refine⟨λaa=>p _ _ _ _ ⟨f,?_,rfl⟩,λaa=>?_⟩
    .congr 1;unfold eW ao;omega
    .rw[hQ,wrap_i64 Ω Ω,aM,wrap_i64 Ω Ω];refine p _ _ _ _ ⟨f,?_,rfl⟩;congr 1;unfold eW ao;omega
  .rintro V t3 _ E W ⟨f,rfl,j⟩;rw[o7] at j ⊢;refine ca Ω ?_;have A:=si (l:=m) (n:=0) j ⟨Int.le_refl _,Φ⟩;have A:0<=m.foldl eW 0/\m.foldl eW 0<=4611686018427387904:=A;rw[hQ];have hw:X7.wrap (s*m.foldl eW 0)=s*m.foldl eW 0:=by
    rcases C.1 with rfl|rfl<;>exact wrap_i64 Ω Ω
   rw[hw];exact⟨by rw[A2 C (AY e j)],(H.trans M).trans f⟩
 .intro au p;refine aT (λv w2=>w=w2/\ ∃c:Bool,v= .bool c/\(c=true↔l[0]? =σ 45)) ?_ ?_
  .rintro _ _ ⟨rfl,c,rfl,P⟩;rw[b0];refine⟨λab=>?_,λQ=>?_⟩
   .intro am ac _ _;have R:=P.1 ab;cases l with
    |nil=>simp at R
    |cons x r=>
     have ad:x=45:=by simpa using R
     subst ad;rw[Ae (y:=1) (i:=1) rfl c4.u Ξ];exact p _ _ _ ⟨ac,r,-1,rfl,rfl,λb a=>B b (.tail _ a),by simp at L;omega,A0⟩
   .refine p _ _ _ ⟨Ext.refl _,l,1,rfl,rfl,B,L,A1 λb a he=>?_⟩;subst he;rw[P.2 a] at Q;cases Q
  .intro Z z;rw[Jm B (λb a=>by cases a),ah];refine⟨λe=>?_,λe=>z _ _ ⟨rfl,false,rfl,⟨λh=>(by cases h),λh=>by rw[Y7.1 e] at h;simp at h⟩⟩⟩;cases l with
   |nil=>exact absurd rfl e
   |cons x r=>
    rw[p0 (y:=0) (i:=0) (b:=x) rfl c4.u B rfl,bi];exact z _ _ ⟨rfl,_,rfl,Ξ⟩
theorem qe {s s':aA} {w:Λ} (h:dK s=σ (w,s')):s.toks=w::s'.toks/\s'={s with toks:=s'.toks}:=by
 unfold dK at h;cases a:s.toks with
 |nil=>rw[a] at h;cases h
 |cons x l=>
  rw[a] at h;simp only[Y3,T2] at h;obtain⟨rfl,rfl⟩:=h;exact⟨rfl,rfl⟩
theorem hX {n:Int} {s s':aA} (h:bc lo hi s=σ (n,s')):(lo<=n/\n<=hi)/\(∃w,s.toks=w::s'.toks/\gn w=σ n)/\s'={s with toks:=s'.toks}:=by
 unfold bc at h;cases hw:dK s with
 |none=>rw[hw] at h;cases h
 |some q=>
  obtain⟨w,j⟩:=q;rw[hw] at h;simp only at h;obtain⟨h1,e⟩:=qe hw;cases a:gn w with
  |none=>rw[a] at h;cases h
  |some m=>
   rw[a] at h;simp only at h;split at h
   .rename_i f;simp only[Y3,T2] at h;obtain⟨rfl,rfl⟩:=h;exact⟨f,⟨w,h1,a⟩,e⟩
   .cases h
def ig (k:Nat) (s s':aA):Prop:=s.toks.length=s'.toks.length+k/\s'={s with toks:=s'.toks}
theorem ig.refl (s:aA):ig 0 s s:=⟨rfl,rfl⟩
theorem ig.trans {b:Nat} {r s t:aA} (h:ig a r s) (k:ig b s t):ig (a+b) r t:=⟨by have:=h.1;have:=k.1;omega,by rw[k.2,h.2]⟩
theorem de {n:Int} {s s':aA} (h:bc lo hi s=σ (n,s')):ig 1 s s':=by
 obtain⟨_,⟨w,h1,_⟩,a⟩:=hX h;exact⟨by rw[h1];simp,a⟩
theorem ig.eqs {k:Nat} {s s':aA} (h:ig k s s'):s'.told=s.told/\s'.big=s.big/\s'.shared=s.shared:=by rw[h.2];exact⟨rfl,rfl,rfl⟩
theorem iN {α:Type} {f:List α->aA->Option (α×aA)} (e:List α->aA->Prop) (r:∀acc s a s',e acc s->f acc s=σ (a,s')->e (acc++[a]) s'):
  ∀ (n:Nat) (acc:List α) (s:aA) (l:List α) (s':aA),e acc s->cK f n acc s=σ (l,s')->e l s'/\l.length=acc.length+n
 |0,acc,s,l,s',j,h=>by
  simp only[cK,Y3,T2] at h;obtain⟨rfl,rfl⟩:=h;exact⟨j,Ω⟩
 |n+1,acc,s,l,s',j,h=>by
  simp only[cK] at h;cases p:f acc s with
  |none=>rw[p] at h;cases h
  |some q=>
   obtain⟨a,w⟩:=q;rw[p] at h;have:=iN e r n _ _ _ _ (r _ _ _ _ j p) h;exact⟨this.1,by rw[this.2];simp;omega⟩
theorem sy {n:Int} {k:Nat} {s s':aA} (h:eR n k s=σ (l,s')):ig l.length s s'/\l.length=k/\l.Nodup/\ ∀v∈l,0<=v/\v<n:=by
 have:=iN (λacc t=>ig acc.length s t/\acc.Nodup/\ ∀v∈acc,0<=v/\v<n) (λacc t a bp ⟨h1,p,r⟩ h=>by
  cases f:bc 0 (n-1) t with
  |none=>rw[f] at h;cases h
  |some q=>
   obtain⟨v,A⟩:=q;rw[f] at h;simp only at h;split at h
   .cases h
   .rename_i w;simp only[Y3,T2] at h;obtain⟨rfl,rfl⟩:=h;have B:=(hX f).1;refine⟨by rw[p8];exact h1.trans (de f),List.nodup_append.2 ⟨p,Ξ,λx e y j he=>?_⟩,λx e=>?_⟩
    .rw[n9] at j;subst j;subst he;exact w e
    .rcases l9.1 e with e|e
     .exact r x e
     .rw[n9.1 e];omega) k [] s l s' ⟨ig.refl s,List.nodup_nil,λv z=>by cases z⟩ h
 exact⟨this.1.1,by simpa using this.2,this.1.2.1,this.1.2.2⟩
theorem vC:∀ {ks acc:Λ} {s s':aA} {t:Λ},iI ks acc s=σ (t,s')-> ∃u,t=acc++u/\ds ks u/\ig u.length s s'
 |[],acc,s,s',t,h=>by
  simp only[iI,Y3,T2] at h;obtain⟨rfl,rfl⟩:=h;exact⟨[],Ξ,AK.2 rfl,ig.refl s⟩
 |k::ks,acc,s,s',t,h=>by
  simp only[iI] at h;cases a:bc 0 (k-1) s with
  |none=>rw[a] at h;cases h
  |some q=>
   obtain⟨v,f⟩:=q;rw[a] at h;obtain⟨u,rfl,hu,e⟩:=vC h;have j:=(hX a).1;exact⟨v::u,Ξ,AJ.2 ⟨Ω,hu⟩,by rw[b8,Nat.add_comm];exact (de a).trans e⟩
def mA (sizes:Λ) (l:List (Λ×Int)):Prop:=(l.map (·.1)).Nodup/\ ∀p∈l,ds sizes p.1/\0<=p.2
theorem nN {acc:List (Λ×Int)} {s s':aA} {a:Λ×Int} (h:dT sizes acc s=σ (a,s')):a.1∉acc.map (·.1)/\ds sizes a.1/\0<=a.2/\ig (a.1.length+1) s s':=by
 unfold dT at h;cases f:iI sizes [] s with
 |none=>rw[f] at h;cases h
 |some q=>
  obtain⟨t,j⟩:=q;rw[f] at h;simp only at h;obtain⟨u,hu,p,r⟩:=vC f;rw[List.nil_append] at hu;subst hu;cases e:bc 0 ao j with
  |none=>rw[e] at h;cases h
  |some q=>
   obtain⟨c,x⟩:=q;rw[e] at h;simp only at h;split at h
   .cases h
   .rename_i w;simp only[Y3,T2] at h;obtain⟨rfl,rfl⟩:=h;exact⟨w,p,(hX e).1.1,r.trans (de e)⟩
structure A3 (s s':aA):Prop where
 toks:s'.toks.length<s.toks.length
 big:s.big=true->s'.big=true
theorem J2 {s s':aA} {l:List (Λ×Int)} (C:∀q∈s.shared,mA q.1 q.2/\q.2.length<=N) (P:s.toks.length<=N) (h:dB sizes s=σ (l,s')):
  mA sizes l/\l.length<=N/\s'.shared=s.shared/\A3 s s':=by
 unfold dB at h;cases r:bc (-ao) ao s with
 |none=>rw[r] at h;cases h
 |some q=>
  obtain⟨n,f⟩:=q;rw[r] at h;simp only at h;have h1:=de r;obtain⟨Q,E,w⟩:=h1.eqs;split at h
  .cases I:f.shared[(-n-1).toNat]? with
   |none=>rw[I] at h;cases h
   |some q=>
    obtain⟨z,l'⟩:=q;rw[I] at h;simp only at h;split at h
    .rename_i H;simp only[Y3,T2] at h;obtain⟨rfl,rfl⟩:=h;subst H;have hm:=x5 I;rw[w] at hm;exact⟨(C _ hm).1,(C _ hm).2,w,by have:=h1.1;omega,λj=>by rw[E];exact j⟩
    .cases h
  .have:=iN (λacc t=>mA sizes acc/\t.shared=s.shared/\t.toks.length+acc.length<=f.toks.length/\(s.big=true->t.big=true)) (λacc t a bp ⟨g1,A,J,B⟩ g=>by
    obtain⟨K,L,M,F⟩:=nN g;obtain⟨f1,f2,f3⟩:=F.eqs;refine⟨⟨?_,λp e=>?_⟩,by rw[f3,A],by have:=F.1;simp only[p8,U3];omega,λj=>by rw[f2];exact B j⟩
    .rw[j6];exact List.nodup_append.2 ⟨g1.1,Ξ,λx O y G he=>by
      simp only[V7,List.map_nil,n9] at G;subst G;subst he;exact K O⟩
    .rcases l9.1 e with e|e
     .exact g1.2 p e
     .rw[n9.1 e];exact⟨L,M⟩) n.toNat [] (a6 (decide (16384<min (f.told+n) ao)) {f with told:=min (f.told+n) ao}) l s' ⟨⟨Ξ,λp e=>by cases e⟩,w,by simp[a6],λj=>by simp[a6,E,j]⟩ h
   obtain⟨⟨g1,A,J,B⟩,_⟩:=this;have:=h1.1;exact⟨g1,Ω,A,⟨Ω,B⟩⟩
structure sz (all:Λ) (N:Nat) (f:ch):Prop where
 scope:f.scope.Nodup/\ ∀v∈f.scope,0<=v/\v<all.length
 sizes:f.sizes=f.scope.map λv=>all.getD v.toNat 0
 other:0<=f.other
 lines:mA f.sizes f.lines
 len:f.lines.length<=N
theorem J3 {all:Λ} {s s':aA} {f:ch} (B:∀q∈s.shared,mA q.1 q.2/\q.2.length<=N) (V:s.toks.length<=N) (h:cY all s=σ (f,s')):
  sz all N f/\(∀q∈s'.shared,mA q.1 q.2/\q.2.length<=N)/\A3 s s'/\(s'.big=false->f.scope.length<=6/\dr f.sizes=false):=by
 unfold cY at h;cases C:bc (-ao) ao s with
 |none=>rw[C] at h;cases h
 |some q=>
 obtain⟨a,M⟩:=q;rw[C] at h;simp only at h;have t0:=de C;obtain⟨W,O,P⟩:=t0.eqs;cases h1:eR all.length a.natAbs M with
 |none=>rw[h1] at h;cases h
 |some q=>
 obtain⟨sc,w⟩:=q;rw[h1] at h;simp only at h;obtain⟨F,X,Q,R⟩:=sy h1;obtain⟨Y,S,T⟩:=F.eqs;generalize U:sc.map (λv=>all.getD v.toNat 0)=sizes at h;cases y:bc 0 ao (a6 (decide (6<a.natAbs)||dr sizes) w) with
 |none=>rw[y] at h;cases h
 |some q=>
 obtain⟨other,p⟩:=q;rw[y] at h;simp only at h;have G:=de y;obtain⟨Z,z,x⟩:=G.eqs;have x:p.shared=s.shared:=by rw[x];show w.shared=_;rw[T,P]
 have aa:p.toks.length<s.toks.length:=by
  have:=t0.1;have:=F.1;have A:=G.1;have:(a6 (decide (6<a.natAbs)||dr sizes) w).toks.length=w.toks.length:=rfl;omega
 cases A:dB sizes p with
 |none=>rw[A] at h;cases h
 |some q=>
 obtain⟨lines,j⟩:=q;rw[A] at h;simp only[Y3,T2] at h;obtain⟨rfl,rfl⟩:=h;obtain⟨g1,H,I,J⟩:=J2 (N:=N) (by rw[x];exact B) Ω A;have fk:=J.big;have gt:=J.toks;have K:p.big=true-> ∀E:aA,E=(if a<0 then {j with shared:=j.shared++[(sizes,lines)]} else j)->E.big=true:=λr E he=>by
  rw[he];split<;>exact fk r
 have z:p.big=(s.big||(decide (6<a.natAbs)||dr sizes)):=by
  rw[z];show (w.big||_)=_;rw[S,O]
 refine⟨⟨⟨Q,R⟩,U.symm,(hX y).1.1,g1,H⟩,λq e=>?_,⟨?_,λr=>K (by rw[z,r];rfl) _ rfl⟩,λr=>?_⟩
 .split at e
  .rcases l9.1 e with e|e
   .rw[show j.shared=s.shared by rw[I,x]] at e;exact B q e
   .rw[n9.1 e];exact⟨g1,H⟩
  .rw[show j.shared=s.shared by rw[I,x]] at e;exact B q e
 .have:(if a<0 then {j with shared:=j.shared++[(sizes,lines)]} else j).toks=j.toks:=by split<;>rfl
  rw[this];omega
 .have L:p.big=false:=by
   cases e:p.big with
   |false=>rfl
   |true=>rw[K e _ rfl] at r;cases r
  rw[z,S7,S7,decide_eq_false_iff_not] at L;show sc.length<=6/\_;exact⟨Ω,L.2.2⟩
structure e6 (N:Nat) (f:bZ):Prop where
 name:f.name.length<=64
 k:1<=f.k/\f.k<=2147483648
 sizes:1<=f.sizes.length/\f.sizes.length<=64/\ ∀z∈f.sizes,1<=z/\z<=32
 k3:f.funs.length<=256
 funs:∀x∈f.funs,sz f.sizes N x/\x.scope.length<=6/\dr x.sizes=false
theorem qf {b:Bool} {s:aA} (h:(a6 b s).big=false):s.big=false/\b=false:=by
 have h:(s.big||b)=false:=h;exact S7.1 h
theorem J4 {a b:aA} (h:a.big=true->b.big=true) (e:b.big=false):a.big=false:=by
 cases f:a.big with
 |false=>rfl
 |true=>rw[h f] at e;cases e
theorem A4 {s s':aA} {f:bZ} (I:s.shared=[]) (h:gY s=σ (f,s')) (e:s'.big=false):e6 s.toks.length f/\f.name∈s.toks:=by
 unfold gY at h;cases M:dK s with
 |none=>rw[M] at h;cases h
 |some q=>
 obtain⟨name,s0⟩:=q;rw[M] at h;simp only at h;obtain⟨J,w2⟩:=qe M;cases h1:bc 1 ao (a6 (decide (64<name.length)) s0) with
 |none=>rw[h1] at h;cases h
 |some q=>
 obtain⟨n,E⟩:=q;rw[h1] at h;simp only at h;have r:=de h1;cases N:bc 1 ao (a6 (decide (64<n)) E) with
 |none=>rw[N] at h;cases h
 |some q=>
 obtain⟨most,Z⟩:=q;rw[N] at h;simp only at h;have O:=de N;cases P:bc 0 ao Z with
 |none=>rw[P] at h;cases h
 |some q=>
 obtain⟨F,G⟩:=q;rw[P] at h;simp only at h;have t3:=de P;cases H:bc 1 ao (a6 (decide (256<F)) G) with
 |none=>rw[H] at h;cases h
 |some q=>
 obtain⟨k,A⟩:=q;rw[H] at h;simp only at h;have t4:=de H;cases Q:cK (e5 most) n.toNat [] (a6 (decide (2147483648<k)) A) with
 |none=>rw[Q] at h;cases h
 |some q=>
 obtain⟨sizes,K⟩:=q;rw[Q] at h;simp only at h;cases R:cK (λ_ s=>cY sizes s) F.toNat [] K with
 |none=>rw[R] at h;cases h
 |some q=>
 obtain⟨funs,aa⟩:=q;rw[R] at h;simp only[Y3,T2] at h;obtain⟨rfl,rfl⟩:=h;have ab:=iN (λ(acc:Λ) t=>t.shared=[]/\t.toks.length<=s.toks.length/\(t.big=false->A.big=false/\k<=2147483648/\ ∀z∈acc,1<=z/\z<=32)) (λacc t a bp ⟨g1,V,S⟩ g=>by
  unfold e5 at g;cases w:bc 1 most t with
  |none=>rw[w] at g;cases g
  |some q=>
   obtain⟨z,r⟩:=q;rw[w] at g;simp only[Y3,T2] at g;obtain⟨rfl,rfl⟩:=g;have W:=de w;obtain⟨ay,ac,ad⟩:=W.eqs;have az:=(hX w).1;refine⟨by show r.shared=[];rw[ad,g1],by show r.toks.length<=_;have:=W.1;omega,λe=>?_⟩;obtain⟨j,B⟩:=qf e;rw[ac] at j;obtain⟨T,U,ae⟩:=S j;refine⟨T,U,λy C=>?_⟩;rcases l9.1 C with C|C
   .exact ae y C
   .rw[n9.1 C];have:=of_decide_eq_false B;omega) n.toNat [] (a6 (decide (2147483648<k)) A) sizes K ⟨by
     show A.shared=[];rw[t4.eqs.2.2];show G.shared=[];rw[t3.eqs.2.2,O.eqs.2.2];show E.shared=[];rw[r.eqs.2.2];show s0.shared=[];rw[w2];exact I,by
     show A.toks.length<=_;have af:=r.1;have ag:=O.1;have a3:=t3.1;have a4:=t4.1;have j:(a6 (decide (64<name.length)) s0).toks=s0.toks:=rfl;have B:(a6 (decide (64<n)) E).toks=E.toks:=rfl;have L:(a6 (decide (256<F)) G).toks=G.toks:=rfl;rw[j] at af;rw[B] at ag;rw[L] at a4;rw[J,b8];omega,λe=>by
     obtain⟨j,B⟩:=qf e;have:=of_decide_eq_false B;exact⟨j,Ω,λz ah=>by cases ah⟩⟩ Q
 obtain⟨⟨c1,c2,ai⟩,aj⟩:=ab;have ak:=iN (λ(acc:List ch) t=>(∀q∈t.shared,mA q.1 q.2/\q.2.length<=s.toks.length)/\t.toks.length<=s.toks.length/\(t.big=false->K.big=false/\ ∀x∈acc,sz sizes s.toks.length x/\x.scope.length<=6/\dr x.sizes=false)) (λacc t a bp ⟨g1,V,S⟩ g=>by
  obtain⟨al,am,X,an⟩:=J3 g1 V g;refine⟨am,by have:=X.toks;omega,λe=>?_⟩;obtain⟨T,U⟩:=S (J4 X.big e);refine⟨T,λx p=>?_⟩;rcases l9.1 p with p|p
  .exact U x p
  .rw[n9.1 p];exact⟨al,an e⟩) F.toNat [] K funs aa ⟨(by rw[c1];intro q w;cases w),c2,λe=>⟨e,λx p=>by cases p⟩⟩ R
 obtain⟨⟨_,_,d3⟩,d4⟩:=ak;obtain⟨ap,d5⟩:=d3 e;obtain⟨L,aq,au⟩:=ai ap;rw[t4.eqs.2.1] at L;obtain⟨Y,av⟩:=qf L;rw[t3.eqs.2.1,O.eqs.2.1] at Y;obtain⟨j,aw⟩:=qf Y;rw[r.eqs.2.1] at j;obtain⟨_,ax⟩:=qf j;have:=of_decide_eq_false av;have:=of_decide_eq_false aw;have:=of_decide_eq_false ax;have aB:=(hX h1).1;have hk:=(hX H).1;simp only[List.length_nil,W0] at aj d4;exact⟨⟨by show name.length<=64;omega,⟨hk.1,aq⟩,⟨by show 1<=sizes.length;omega,by show sizes.length<=64;omega,au⟩,by show funs.length<=256;omega,d5⟩,by rw[J];exact .head _⟩
def jM (x:ch) (k:Int) (t:Λ):Int:=min (match x.lines.find? (λp=>decide (p.1=t)) with
 |some p=>p.2
 |none=>x.other) k
def bk (l:Λ):Λ:=((V6 64).map λ(v:Nat)=>(v:Int)).filter λv=>decide (v∈l)
def bP (sizes scope:Λ):Λ:=scope.map λv=>sizes.getD v.toNat 0
def oT (scope a t:Λ):Λ:=scope.map λv=>t.getD (a.idxOf v) 0
abbrev cz:Type:=Λ×Λ
def hY (sizes:Λ) (k:Int) (x:ch):cz:=(bk x.scope,(a8 (bP sizes (bk x.scope))).map λt=>jM x k (oT x.scope (bk x.scope) t))
def dX (k:Int) (a b:Λ):Λ:=List.zipWith (λx y=>min (x+y) k) a b
def ih (k:Int) (acc:List cz) (g:cz):List cz:=if g.1∈acc.map (·.1) then acc.map λh=>if h.1=g.1 then (h.1,dX k h.2 g.2) else h else acc++[g]
def jn:Λ->Int
 |[]=>0
 |x::l=>x*64 ^ l.length+jn l
def da (l:Λ):Int:=l.length*64 ^ 6+jn l
def hA (g:cz):List cz->List cz
 |[]=>[g]
 |h::l=>if da h.1<da g.1 then h::hA g l else g::h::l
def fD (g:cz):Bool:=g.2.any λc=>decide (0<c)
def fl (f:bZ):List cz:=(f.funs.map (hY f.sizes f.k)).foldl (ih f.k) []
def fE (f:bZ):List cz:=((fl f).filter fD).foldl (λl g=>hA g l) []
structure aS where
 k:Int
 sizes:Λ
 zero:Int
 unary:List (Λ)
 funs:List cz
deriving DecidableEq
def df (f:bZ):aS:=(fE f).foldl (λn g=>match g.1 with
 |[]=>{n with zero:=g.2.getD 0 0}
 |[v]=>{n with unary:=n.unary.set v.toNat g.2}
 |_=>{n with funs:=n.funs++[g]}) ⟨f.k,f.sizes,0,f.sizes.map λz=>p9 z.toNat 0,[]⟩
abbrev iO:Type:=Rd (Λ)×Rd (List (Λ×Int))
def bG (g gs:Nat) (A:af):af:=λr=>r=g\/r=gs\/A r
def fF (gs:Nat) (e big a f told:Int) (sv:x1):List x1:=[Γ gs,Δ e,Δ big,Δ a,Δ f,Δ told,sv]
def cG (g gs:Nat) (A:af) (B:af):af:=λr=>¬bG g gs A r/\B r
def k4 (w:x3) (g gs:Nat) (A:af) (B:af):Prop:=g≠gs/\¬A g/\¬A gs/\(∀r,bG g gs A r->r<w.heap.size)/\ ∀r,B r->r<w.heap.size
def di (w:x3) (g gs:Nat) (A:af) (B:af) (s:aA) (clean:Bool):Prop:=k4 w g gs A B/\hz w gs (cG g gs A B) s.toks clean/\(0<=s.told/\s.told<=ao/\s.shared.length+s.toks.length<=100000)/\
 ∃big a e told sv,aa w g cg (fF gs 0 big a e told sv)/\((s.big=true↔big≠0)/\(s.big=false->told=s.told))/\bj A (cG g gs A B) w [sv] (show List iO from s.shared)
def ez (w:x3) (g gs:Nat) (A:af) (B:af):Prop:=k4 w g gs A B/\ ∃ (e big a f told:Int) (sv:x1) (l:List iO),aa w g cg (fF gs e big a f told sv)/\(e≠0/\l.length<=100000)/\bj A (cG g gs A B) w [sv] l
theorem k4.U {g:Nat} {A:af} {B:af} (h:k4 w g gs A B) (e:ae S w w'):k4 w' g gs A B:=by
 obtain⟨h1,f,j,p,q⟩:=h;exact⟨h1,f,j,λr a=>Q2 (p r a) e.size,λr a=>Q2 (q r a) e.size⟩
theorem A5 {g:Nat} {A:af} {B:af} (a:∀r,A r->¬S r) (e:∀r,cG g gs A B r->¬S r):∀r,A r\/cG g gs A B r->¬S r:=λr h=>h.elim (a r) (e r)
theorem di.U {g:Nat} {A:af} {B:af} {s:aA} (h:di w g gs A B s clean) (a:ae S w w') (e:∀r,bG g gs A r->¬S r) (f:∀r,cG g gs A B r->¬S r):di w' g gs A B s clean:=by
 obtain⟨h1,j,p,big,q,x,told,sv,y,z,C⟩:=h;exact⟨h1.U a,j.U a (e gs (.inr (.inl rfl))) f,p,big,q,x,told,sv,y.U a (e g (.inl rfl)),z,aj.U C a λr _ h=>A5 (λr E=>e r (.inr (.inr E))) f r h⟩
theorem ez.U {g:Nat} {A:af} {B:af} (h:ez w g gs A B) (a:ae S w w') (f:∀r,bG g gs A r->¬S r) (j:∀r,cG g gs A B r->¬S r):ez w' g gs A B:=by
 obtain⟨h1,e,big,p,q,told,sv,l,s,x,y⟩:=h;exact⟨h1.U a,e,big,p,q,told,sv,l,s.U a (f g (.inl rfl)),x,aj.U y a λr _ h=>A5 (λr z=>f r (.inr (.inr z))) j r h⟩
theorem di.ext {g:Nat} {A:af} {B:af} {s:aA} (h:di w g gs A B s clean) (a:Ext w w'):di w' g gs A B s clean:=h.U (a.U λ_=>False) (λ_ _ h=>h) (λ_ _ h=>h)
theorem ez.ext {g:Nat} {A:af} {B:af} (h:ez w g gs A B) (a:Ext w w'):ez w' g gs A B:=h.U (a.U λ_=>False) (λ_ _ h=>h) (λ_ _ h=>h)
def fQ (w:x3) (g gs:Nat) (A:af) (B:af) (clean:Bool) (s':Option aA) (w':x3):Prop:=ae (bG g gs A) w w'/\match s' with
 |some s'=>di w' g gs A B s' clean
 |none=>ez w' g gs A B
theorem vD {g:Nat} {e big a f told:Int} (h:aa w g cg (fF gs e big a f told sv)):ai x7 kP [Γ g] w λv w'=>v= .bool (decide (e=0))/\Ext w w':=by
 refine aw func81 ?_;rw[bW,aP cg.p rfl,aP eV.p rfl,aB Ψ (h.cell (o:=0+1+0) rfl),bi];exact⟨rfl,Ext.refl _⟩
theorem oU {g:Nat} {A:af} {B:af} {s:aA} (h:di w g gs A B s clean):ai x7 kP [Γ g] w λv w'=>v= .bool true/\Ext w w':=by
 obtain⟨_,_,_,big,e,f,told,sv,a,_⟩:=h;exact (vD a).mono λ_ _ _ h=>h
theorem nO {g:Nat} {A:af} {B:af} (h:ez w g gs A B):ai x7 kP [Γ g] w λv w'=>v= .bool false/\Ext w w':=by
 obtain⟨_,e,big,p,q,told,sv,l,a,f,_⟩:=h;refine (vD a).mono ?_;rintro _ J _ ⟨rfl,j⟩;exact⟨by rw[decide_eq_false f.1],j⟩
theorem sA {g:Nat} {A B:af} (h:A r\/cG g gs A B r) (a:¬A g):r≠g:=by
 rintro rfl;rcases h with h|h
 .exact a h
 .exact h.1 (.inl rfl)
theorem sB {g:Nat} {A:af} {B:af} {big s a told e:Int} {l:List iO} (I:k4 w g gs A B) (x:aa w g cg (fF gs 0 big s a told sv)) (y:bj A (cG g gs A B) w [sv] l) (he:e≠0) (z:l.length<=100000):
  ai x7 nk [Γ g,Δ e,Δ at_] w λ_ w'=>ae (λr=>r=g) w w'/\ez w' g gs A B:=by
 refine aw func84 ?_;rw[bW,aP cg.p rfl,aP eV.p rfl,aB Ψ (x.cell (o:=0+1+0) rfl),bi,ah];refine⟨λ_=>?_,λh=>absurd rfl h⟩;rw[bW,aP cg.p rfl,aP eV.p rfl];refine bo (g:=g) (o:=1) jD.i rfl rfl x (by simp[fF]) λJ C H f=>?_;have f:aa J g cg (fF gs e big s a told sv):=f;rw[bW,aP cg.p rfl,aP eV.p rfl];refine bo (g:=g) (o:=3) ag.i rfl rfl f (by simp[fF]) λw2 E K j=>?_;have j:aa w2 g cg (fF gs e big at_ a told sv):=j;have q:=C.trans E;exact⟨q,I.U q,e,big,at_,a,told,sv,l,j,⟨he,z⟩,aj.U y q λr _ h G=>sA h I.2.1 G⟩
theorem sC {g:Nat} {A:af} {B:af} {s:aA} {e:Int} (h:di w g gs A B s clean) (he:e≠0):ai x7 nk [Γ g,Δ e,Δ at_] w λ_ w'=>ae (λr=>r=g) w w'/\ez w' g gs A B:=by
 obtain⟨I,_,a,big,p,q,told,sv,f,_,j⟩:=h;exact sB I f j he (by have:=a.2.2;show s.shared.length<=_;omega)
theorem J5 {g:Nat} {A:af} {B:af} {e:Int} (h:ez w g gs A B):ai x7 nk [Γ g,Δ e,Δ at_] w λ_ w'=>Ext w w':=by
 obtain⟨_,f,big,j,q,told,sv,l,h1,a,_⟩:=h;refine aw func84 ?_;rw[bW,aP cg.p rfl,aP eV.p rfl,aB Ψ (h1.cell (o:=0+1+0) rfl),bi,ah];exact⟨λh=>absurd h a.1,λ_=>Ext.refl _⟩
theorem sD {g:Nat} {A:af} {B:af} {s:aA} {b:Bool} (h:di w g gs A B s clean):ai x7 pO [Γ g,.bool b,Δ at_] w λ_ w'=>ae (λr=>r=g) w w'/\di w' g gs A B (a6 b s) clean:=by
 obtain⟨I,z,C,big,e,E,told,sv,f,G,H⟩:=id h;refine aw func79 ?_;refine aT (λv J=>w=J/\v= .bool (b&&decide (big=0))) ?_ ?_
 rotate_left
 .intro au q;cases b with
  |false=>rw[aW];exact q _ _ ⟨rfl,rfl⟩
  |true=>
   rw[bO,bW,aP cg.p rfl,aP eV.p rfl,aB Ψ (f.cell (o:=0+1+1) rfl),bi,ah];refine⟨λa=>?_,λa=>q _ _ ⟨rfl,by rw[decide_eq_false a];rfl⟩⟩;rw[bW,aP cg.p rfl,aP eV.p rfl,aB Ψ (f.cell (o:=0+1+0) rfl),bi];exact q _ _ ⟨rfl,by rw[decide_eq_true a];rfl⟩
 rintro _ _ ⟨rfl,rfl⟩;rw[b0];refine⟨λK=>?_,λL=>?_⟩
 .obtain⟨rfl,a⟩:=Bool.and_eq_true_iff.1 K;rw[bW,aP cg.p rfl,aP eV.p rfl];refine bo (g:=g) (o:=2) jD.i rfl rfl f (by simp[fF]) λJ M Q x=>?_;have x:aa J g cg (fF gs 0 5 e E told sv):=x;rw[bW,aP cg.p rfl,aP eV.p rfl];refine bo (g:=g) (o:=4) ag.i rfl rfl x (by simp[fF]) λw2 N R y=>?_;have y:aa w2 g cg (fF gs 0 5 e at_ told sv):=y;have j:=M.trans N;exact⟨j,I.U j,z.U j (λhe=>I.1 he.symm) (λr O he=>O.1 (.inl he)),C,5,e,at_,told,sv,y,⟨⟨λ_=>Ω,λ_=>by simp[a6]⟩,λh=>by simp[a6] at h⟩,aj.U H j λr _ h P=>sA h I.2.1 P⟩
 .refine⟨ae.refl _ _,I,z,C,big,e,E,told,sv,f,⟨?_,λh=>G.2 (by
   have h:(s.big||b)=false:=h;exact (S7.1 h).1)⟩,H⟩
  show (s.big||b)=true↔big≠0;cases b with
  |false=>rw[Bool.or_false];exact G.1
  |true=>
   have a:big≠0:=of_decide_eq_false (by simpa using L);simp[a]
theorem A6 {g:Nat} {A:af} {B:af} {b:Bool} (h:ez w g gs A B):ai x7 pO [Γ g,.bool b,Δ at_] w λ_ w'=>Ext w w':=by
 obtain⟨_,j,big,q,r,told,sv,l,h1,e,_⟩:=h;refine aw func79 ?_;refine aT (λv J=>w=J/\v= .bool false) ?_ ?_
 .rintro _ _ ⟨rfl,rfl⟩;rw[aW];exact Ext.refl _
 intro au a;cases b with
 |false=>rw[aW];exact a _ _ ⟨rfl,rfl⟩
 |true=>
  rw[bO,bW,aP cg.p rfl,aP eV.p rfl,aB Ψ (h1.cell (o:=0+1+1) rfl),bi,ah];refine⟨λf=>?_,λf=>a _ _ ⟨rfl,rfl⟩⟩;rw[bW,aP cg.p rfl,aP eV.p rfl,aB Ψ (h1.cell (o:=0+1+0) rfl),bi];exact a _ _ ⟨rfl,by rw[decide_eq_false e.1]⟩
theorem di.scan {g:Nat} {A:af} {B:af} {s:aA} {l:List (Λ)} (h:di w g gs A B s clean) (a:ae (λr=>r=gs) w w') (I:hz w' gs (cG g gs A B) l clean) (z:l.length<=s.toks.length):di w' g gs A B {s with toks:=l} clean:=by
 obtain⟨h1,_,e,big,j,p,told,sv,q,x,y⟩:=h;refine⟨h1.U a,I,⟨e.1,e.2.1,by have:=e.2.2;show s.shared.length+l.length<=100000;omega⟩,big,j,p,told,sv,q.U a h1.1,x,aj.U y a λr _ h f=>?_⟩;have f:r=gs:=f;subst f;rcases h with h|h
 .exact h1.2.2.1 h
 .exact h.1 (.inr (.inl rfl))
theorem A7 {g:Nat} {A:af} {B:af} {s:aA} (h:di w g gs A B s clean):ai x7 y1 [Γ g] w λv w'=>fQ w g gs A B clean ((dK s).map (·.2)) w'/\ ∃ (t:Λ) (n:Int),v= .tuple #[bR t,Δ n]/\Bytes t/\t.length<=100000/\ ∀q,dK s=σ q->t=q.1:=by
 refine aw func78 ?_;refine (oU h).mono ?_;rintro _ J _ ⟨rfl,K⟩;rw[bF,Y5,aW];have h1:=h.ext K;obtain⟨_,L,_,big,O,P,told,sv,z,_⟩:=id h1;have Q:=L.words.2;rw[aO cg.p 0 z rfl];refine (qd L).mono ?_;rintro v w2 _ ⟨j,y⟩;have M:ae (bG g gs A) w w2:=(K.U _).trans (j.mono λr _ h=>.inr (.inl h));cases f:s.toks with
 |cons t l=>
  rw[f] at y;obtain⟨R,n,rfl⟩:=y;have S:=h1.scan j R (by rw[f];simp);have C:dK s=σ (t,{s with toks:=l}):=by unfold dK;rw[f]
  have N:=Q t (by rw[f];exact .head _);rw[hR,hS,hT];refine aT (λv E=>w2=E/\v=Δ 0) ?_ ?_
  .rintro _ _ ⟨rfl,rfl⟩;refine dm (λx=>w2=x) ?_ ?_
   .rintro _ rfl;rw[C];exact⟨⟨M,S⟩,t,n,rfl,N.1,N.2.2,λq G=>by cases G;rfl⟩
   .intro au a;rw[bE,ah];exact⟨λh=>absurd rfl h,λ_=>a _ rfl⟩
  .intro au a;rw[bi,ah];exact⟨λh=>Ω,λ_=>a _ _ ⟨rfl,rfl⟩⟩
 |nil=>
  rw[f] at y;obtain⟨n,rfl⟩:=y;have C:dK s=ν:=by unfold dK;rw[f]
  obtain⟨H,_,V,big,O,P,told,sv,z,ac,W⟩:=id h1;have X:=z.U j H.1;have Y:=aj.U W j λr _ h I=>by
   have I:r=gs:=I;subst I;rcases h with h|h
   .exact H.2.2.1 h
   .exact h.1 (.inr (.inl rfl))
  rw[hR,hS,hT];refine aT (λv E=>w2=E/\ ∃e:Int,v=Δ e/\e≠0) ?_ ?_
  .rintro _ _ ⟨rfl,e,rfl,he⟩;refine dm (λx=>ae (λr=>r=g) w2 x/\ez x g gs A B) ?_ ?_
   .rintro x ⟨Z,aa⟩;rw[C];exact⟨⟨M.trans (Z.mono λr _ h=>.inl h),aa⟩,[],n,rfl,λb ab=>(by cases ab),Ξ,λq G=>by cases G⟩
   .intro au a;rw[bE,ah];refine⟨λ_=>?_,λh=>absurd he h⟩;exact (sB (H.U j) X Y he (by have:=V.2.2;show s.shared.length<=_;omega)).mono λ_ w' _ h=>a _ h
  .intro au a;rw[bi,ah];cases clean with
   |true=>exact⟨λ_=>a _ _ ⟨rfl,4,rfl,Ω⟩,λh=>absurd rfl h⟩
   |false=>exact⟨λh=>by simp at h,λ_=>a _ _ ⟨rfl,11,rfl,Ω⟩⟩
theorem J6 {g:Nat} {A:af} {B:af} (h:ez w g gs A B):ai x7 y1 [Γ g] w λv w'=>Ext w w'/\v= .tuple #[bR [],Δ 0]:=by
 refine aw func78 ?_;refine (nO h).mono ?_;rintro _ J _ ⟨rfl,a⟩;rw[bF,V0,bO];exact⟨a,rfl⟩
theorem vE {g:Nat} {A:af} {B:af} {s:aA} (h:di w g gs A B s clean):ai x7 nj [Γ g,Δ lo,Δ hi] w λv w'=>fQ w g gs A B clean ((bc lo hi s).map (·.2)) w'/\ ∃n at_:Int,v= .tuple #[Δ n,Δ at_]/\(∀q,bc lo hi s=σ q->n=q.1)/\(bc lo hi s=ν->n=0):=by
 refine aw func80 ?_;refine (A7 h).mono ?_;rintro _ J _ ⟨⟨y,f⟩,t,n,rfl,I,K,hw⟩;rw[bu,bw];cases j:dK s with
 |none=>
  have a:bc lo hi s=ν:=by unfold bc;rw[j]
  rw[j] at f;have f:ez J g gs A B:=f;refine (nO f).mono ?_;rintro _ w2 _ ⟨rfl,p⟩;rw[bF,V0,bO,a];exact⟨⟨y.trans (p.U _),f.ext p⟩,0,n,rfl,λq h=>(by cases h),λ_=>rfl⟩
 |some q=>
  obtain⟨bp,z⟩:=q;have:=hw _ j;subst this;rw[j] at f;have f:di J g gs A B z clean:=f;refine (oU f).mono ?_;rintro _ w2 _ ⟨rfl,p⟩;rw[bF,Y5,aW];refine (J1 I K).mono ?_;rintro _ C _ ⟨rfl,E⟩;have G:=(f.ext p).ext E;have H:ae (bG g gs A) w C:=(y.trans (p.U _)).trans (E.U _);obtain⟨m,e,L,hm⟩:∃m e:Int,kq t= .tuple #[Δ m,Δ e]/\((gn t=σ m/\e=0)\/(gn t=ν/\e=4)):=by
   unfold kq;cases P:gn t with
   |none=>exact⟨0,4,rfl,.inr ⟨rfl,rfl⟩⟩
   |some m=>exact⟨m,0,rfl,.inl ⟨rfl,rfl⟩⟩
  rw[L,bu,bw];refine aT (λv M=>C=M/\v= .bool (bc lo hi s).isNone) ?_ ?_
  .rintro _ _ ⟨rfl,rfl⟩;cases a:bc lo hi s with
   |none=>
    rw[Option.isNone_none,bO];refine (sC G Ω).mono ?_;rintro _ Q _ ⟨N,O⟩;exact⟨⟨H.trans (N.mono λr _ h=>.inl h),O⟩,0,n,rfl,λq h=>(by cases h),λ_=>rfl⟩
   |some q=>
    rw[Z7,aW];unfold bc at a;rw[j] at a;simp only at a;rcases hm with⟨hm,_⟩|⟨hm,_⟩
    .rw[hm] at a;simp only at a;split at a
     .cases a;exact⟨⟨H,G⟩,m,n,rfl,λq h=>(by cases h;rfl),λh=>(by cases h)⟩
     .cases a
    .rw[hm] at a;cases a
  .intro au x;have a:bc lo hi s=match gn t with
     |none=>ν
     |some n=>if lo<=n/\n<=hi then σ (n,z) else ν:=by
    unfold bc;rw[j];simp only;cases gn t<;>rfl
   rw[bE,ah];rcases hm with⟨hm,rfl⟩|⟨hm,rfl⟩
   .rw[hm] at a;simp only at a;refine⟨λh=>absurd rfl h,λ_=>?_⟩;rw[aQ,ah];refine⟨λh=>x _ _ ⟨rfl,by rw[a,if_neg Ω];rfl⟩,λh=>?_⟩;rw[bS];refine x _ _ ⟨rfl,?_⟩;rw[a];by_cases ay:hi<m
    .rw[decide_eq_true ay,if_neg Ω];rfl
    .rw[decide_eq_false ay,if_pos Ω];rfl
   .rw[hm] at a;exact⟨λ_=>x _ _ ⟨rfl,by rw[a];rfl⟩,λh=>absurd (by omega:(4:Int)≠0) h⟩
theorem J7 {g:Nat} {A:af} {B:af} (h:ez w g gs A B):ai x7 nj [Γ g,Δ lo,Δ hi] w λv w'=>Ext w w'/\v= .tuple #[Δ 0,Δ 0]:=by
 refine aw func80 ?_;refine (J6 h).mono ?_;rintro _ J _ ⟨a,rfl⟩;rw[bu,bw];refine (nO (h.ext a)).mono ?_;rintro _ w2 _ ⟨rfl,e⟩;rw[bF,V0,bO];exact⟨a.trans e,rfl⟩
theorem J8 {x:Int} (h:aF .i64 w sv l):ai x7 GI [sv,Δ x] w λv w'=>Ext w w'/\ ∃r:Int,v=Δ r/\(0<=r↔x∈l):=by
 refine aw func74 ?_;rw[aX an.u h];refine bY.range l.length (λi _ J=>Ext w J/\x∉l.take i) h.le ⟨Ext.refl _,Ξ⟩ ?_ ?_
 .rintro i _ J k hi ⟨a,e⟩ hk;refine bH Ω ?_;obtain⟨y,f⟩:=aE (l:=l) hi;rw[be an.u ak.i Ψ (h.ext a) f,bi,ah];refine⟨λhe=>⟨a,i,rfl,⟨λ_=>he▸x5 f,λ_=>Ω⟩⟩,λhe=>?_⟩;rw[aM];refine hk _ _ ⟨a,λhm=>?_⟩;rw[u9,f] at hm;rcases l9.1 hm with hm|hm
  .exact e hm
  .simp at hm;exact he hm
 .rintro _ J k ⟨a,e⟩;rw[o7] at e;rw[aQ,ah];exact⟨λh=>Ω,λ_=>⟨a,-1,rfl,⟨λh=>Ω,λh=>absurd h e⟩⟩⟩
theorem J9 {x:Int} (h:aF .i64 w sv l):ai x7 F7 [sv,Δ x] w λv w'=>v= .bool (decide (x∈l))/\Ext w w':=by
 refine aw func30 ?_;refine (J8 h).mono ?_;rintro _ J _ ⟨a,r,rfl,e⟩;rw[cU];exact⟨by congr 1;rw[U1,decide_eq_true_eq,decide_eq_true_eq];exact e,a⟩
theorem sE:∀ {l:Λ},(∀z∈l,1<=z)-> ∀i,aK ((l.take i).map λk=>min k 4097)<=aK (l.map λk=>min k 4097)/\1<=aK ((l.take i).map λk=>min k 4097)
 |[],_,i=>by simp[aK]
 |z::l,h,0=>by
  have a:=sE (l:=l) (λx e=>h x (.tail _ e)) l.length;rw[o7] at a;have f:=h z (.head _);simp only[List.take_zero,List.map_nil,V7,aK];have:=Int.mul_le_mul_of_nonneg_left a.2 (show 0<=min z 4097 by omega);omega
 |z::l,h,i+1=>by
  have a:=sE (l:=l) (λx e=>h x (.tail _ e)) i;have f:=h z (.head _);simp only[List.take_succ_cons,V7,aK];have h1:=Int.mul_le_mul_of_nonneg_left a.1 (show 0<=min z 4097 by omega);have j:=Int.mul_le_mul_of_nonneg_left a.2 (show 0<=min z 4097 by omega);exact⟨h1,Ω⟩
theorem A8 (l:Λ) (x:Int):aK (l++[x])=aK l*x:=by
 induction l with
 |nil=>simp[aK]
 |cons a l e=>rw[List.cons_append,aK,e,aK,Int.mul_assoc]
theorem Ba (h:aF .i64 w sv l) (h1:∀z∈l,1<=z):ai x7 Hs [sv] w λv w'=>v= .bool (dr l)/\Ext w w':=by
 refine aw func141 ?_;rw[aX an.u h];refine ot.range l.length (λi _ n J=>Ext w J/\n=Δ (aK ((l.take i).map λk=>min k 4097))/\aK ((l.take i).map λk=>min k 4097)<=4096) h.le ⟨Ext.refl _,by simp[aK],by simp[aK]⟩ ?_ ?_
 .rintro i _ _ J p hi ⟨a,rfl,f⟩ q;refine bH Ω ?_;obtain⟨z,j⟩:=aE (l:=l) hi;have s:=h1 z (x5 j);have x:=sE h1 i;have y:=sE h1 (i+1);have e:aK ((l.take (i+1)).map λk=>min k 4097)=aK ((l.take i).map λk=>min k 4097)*min z 4097:=by
   rw[u9,j,o8,j6,V7,List.map_nil,A8]
  rw[be an.u ak.i Ψ (h.ext a) j,kU,hQ,<-e];have A:aK ((l.take (i+1)).map λk=>min k 4097)<=4096*4097:=by
   rw[e];have B:=Int.mul_le_mul_of_nonneg_right f (show 0<=min z 4097 by omega);have C:=Int.mul_le_mul_of_nonneg_left (show min z 4097<=4097 by omega) (show (0:Int)<=4096 by omega);omega
  rw[wrap_i64 Ω Ω,bS,ah];refine⟨λr=>⟨?_,a⟩,λr=>?_⟩
  .unfold dr;rw[decide_eq_true];omega
  .rw[aM];exact q _ _ _ ⟨a,rfl,Ω⟩
 .rintro _ _ J p ⟨a,rfl,f⟩;rw[o7] at f;rw[aQ,ah];refine⟨λh=>Ω,λ_=>⟨?_,a⟩⟩;unfold dr;rw[decide_eq_false];omega
def kr (n:Int) (acc:Λ) (s:aA):Option (Int×aA):=match bc 0 (n-1) s with
 |none=>ν
 |some (v,s)=>if v∈acc then ν else σ (v,s)
theorem oV {α:Type} {f:List α->aA->Option (α×aA)} {acc:List α} {s:aA} (h:f acc s=ν):cK f (n+1) acc s=ν:=by
 simp only[cK,h]
theorem sF {α:Type} {f:List α->aA->Option (α×aA)} {acc:List α} {s s':aA} {a:α} (h:f acc s=σ (a,s')):cK f (n+1) acc s=cK f n (acc++[a]) s':=by
 simp only[cK,h]
theorem di.qg {g:Nat} {A:af} {B:af} {s:aA} (h:di w g gs A B s clean):(∀r,bG g gs A r->r<w.heap.size)/\(∀r,B r->r<w.heap.size):=⟨h.1.2.2.2.1,h.1.2.2.2.2⟩
theorem Ka {g k:Nat} {A B:af} {s:aA} {m:Int} (h:di w g gs A B s clean) (hk:k<=4611686018427387904) (hm:0<=m/\m<=1000000):
  ai x7 y9 [Γ g,Δ (k:Int),Δ m] w λv w'=>fQ w g gs A B clean ((eR m k s).map (·.2)) w'/\
   ∃gr l,ap .i64 ak w' gr v l/\(∀r,leads v r->w.heap.size<=r)/\l.length<=100001/\ ∀q,eR m k s=σ q->l=q.1:=by
 obtain⟨aa,ay⟩:=h.qg;have az:=h.2.1.words.1;refine aw func140 ?_;refine⟨λout Q J=>∃i:Nat,Q=Δ (i:Int)/\i<=k/\ae (bG g gs A) w J/\ ∃gr l,ap .i64 ak J gr out l/\w.heap.size<=gr/\l.length<=100001/\
  ((∃st,di J g gs A B st clean/\cK (kr m) (k-i) l st=eR m k s/\l.length+st.toks.length<=100000)\/(ez J g gs A B/\eR m k s=ν)),λ_ Q _=>k-(b1 Q).toNat,
  ⟨0,rfl,X8 _,ae.refl _ _,w.heap.size,[],ap.nil _ _ _ _,o4 _,Ξ,.inl ⟨s,h,rfl,by simpa using az⟩⟩,?_⟩
 rintro out _ J ⟨i,rfl,aB,ab,gr,l,ac,a8,ba,ad⟩;have bb:=ab.size;have R:∀r,leads out r->w.heap.size<=r:=λr y=>by have:=bU ac y;omega
 refine aT (λv w2=>Ext J w2/\((v= .bool true/\i<k/\ ∃st,di w2 g gs A B st clean/\cK (kr m) (k-i) l st=eR m k s/\l.length+st.toks.length<=100000)\/
  (v= .bool false/\((∃st,di w2 g gs A B st clean/\eR m k s=σ (l,st))\/(ez w2 g gs A B/\eR m k s=ν))))) ?_ ?_
 rotate_left
 .intro au K;rw[aQ,ah];refine⟨λbd=>?_,λbe=>?_⟩
  .rcases ad with⟨st,z,x,S⟩|⟨E,V⟩
   .refine (oU z).mono ?_;rintro _ w2 _ ⟨rfl,C⟩;exact K _ _ ⟨C,.inl ⟨rfl,Ω,st,z.ext C,x,S⟩⟩
   .refine (nO E).mono ?_;rintro _ w2 _ ⟨rfl,C⟩;exact K _ _ ⟨C,.inr ⟨rfl,.inr ⟨E.ext C,V⟩⟩⟩
  .have aC:k-i=0:=Ω
   rcases ad with⟨st,z,x,S⟩|aD
   .rw[aC] at x;exact K _ _ ⟨Ext.refl _,.inr ⟨rfl,.inl ⟨st,z,x.symm⟩⟩⟩
   .exact K _ _ ⟨Ext.refl _,.inr ⟨rfl,.inr aD⟩⟩
 rintro _ w2 ⟨C,aE⟩;have W:ae (bG g gs A) w w2:=ab.trans (C.U _);have L:=ac.ext C;rcases aE with⟨rfl,aB,st,z,x,S⟩|⟨rfl,aF⟩
 rotate_left
 .rw[aW];rcases aF with⟨st,z,H⟩|⟨E,H⟩
  .rw[H];exact⟨⟨W,z⟩,gr,l,L,R,Ω,λq f=>by cases f;rfl⟩
  .rw[H];exact⟨⟨W,E⟩,gr,l,L,R,Ω,λq f=>by cases f⟩
 rw[bO,dR,wrap_i64 Ω Ω];have aG:k-i=(k-(i+1))+1:=Ω
 rw[aG] at x;refine (vE z).mono ?_;rintro _ M _ ⟨⟨N,O⟩,n,at_,rfl,aH,bf⟩;rw[bu,bw];have ag:∀r,leads out r->¬bG g gs A r:=λr y aI=>by have:=aa r aI;have:=R r y;omega
 have bg:∀r,g=r->bG g gs A r:=λr h=>.inl h.symm;refine dm (λe=>ae (bG g gs A) w2 e/\((∃p,di e g gs A B p clean/\cK (kr m) (k-(i+1)) (l++[n]) p=eR m k s/\l.length+1+p.toks.length<=100000)\/(ez e g gs A B/\eR m k s=ν))/\l.length+1<=100001) ?_ ?_
 .rintro e ⟨aj,aJ,al⟩;have aK:=bq L aj ag;have am:=W.trans aj;have bh:=am.size;refine ej an.u ak.i rfl λa ga ao bi G aL=>?_;refine jj an.u ak.i rfl (aK.ext G) aL.ls Θ Θ λaN aO aP bj aR X=>?_;have bk:=G.size;rw[aM,wrap_i64 Ω Ω];have aS:ae (bG g gs A) w aP:=hy (am.trans (G.U _)) X λr y he=>by have he:r=gr:=he;omega
  have aq:∀r,bG g gs A r->¬(λr=>r=gr) r:=λr y he=>by have:=aa r y;have he:r=gr:=he;omega
  have av:∀r,cG g gs A B r->¬(λr=>r=gr) r:=λr y he=>by have:=ay r y.2;have he:r=gr:=he;omega
  refine⟨⟨i+1,rfl,Ω,aS,aO,l++[n],aR,Ω,Θ,?_⟩,by simp only[b1];omega⟩;rcases aJ with⟨p,P,aU,bl⟩|⟨aV,V⟩
  .exact .inl ⟨p,(P.ext G).U X aq av,aU,Θ⟩
  .exact .inr ⟨(aV.ext G).U X aq av,V⟩
 .intro bm Y;cases f:bc 0 (m-1) st with
  |none=>
   rw[f] at O;have E:ez M g gs A B:=O;have I:kr m l st=ν:=by unfold kr;rw[f]
   have H:eR m k s=ν:=by rw[<-x];exact oV I
   refine aT (λv e=>Ext M e/\v= .bool false) ?_ ?_
   rotate_left
   .intro aX Z;refine (nO E).mono ?_;rintro _ e _ ⟨rfl,j⟩;rw[aW];exact Z _ _ ⟨j,rfl⟩
   rintro _ e ⟨j,rfl⟩;rw[aW];exact Y _ ⟨N.trans (j.U _),.inr ⟨E.ext j,H⟩,Ω⟩
  |some q=>
   obtain⟨aN,p⟩:=q;have aY:=aH _ f;subst aY;rw[f] at O;have ax:di M g gs A B p clean:=O;have aZ:=de f;have al:l.length+1+p.toks.length<=100000:=by have:=aZ.1;omega
   refine aT (λv e=>Ext M e/\v= .bool (decide (n∈l))) ?_ ?_
   rotate_left
   .intro aX Z;refine (oU ax).mono ?_;rintro _ e _ ⟨rfl,j⟩;rw[bO];refine (J9 ((bq L N ag).ext j).ls).mono ?_;rintro _ ao _ ⟨rfl,G⟩;exact Z _ _ ⟨j.trans G,rfl⟩
   rintro _ e ⟨j,rfl⟩;have P:=ax.ext j;rw[ah];refine⟨λa1=>?_,λa2=>?_⟩
   .have I:kr m l st=ν:=by unfold kr;rw[f];simp only;rw[if_pos a1]
    refine (sC P Ω).mono ?_;rintro _ ao _ ⟨a6,a7⟩;exact Y _ ⟨(N.trans (j.U _)).trans (a6.mono λr _ h=>.inl h),.inr ⟨a7,by rw[<-x];exact oV I⟩,Ω⟩
   .have I:kr m l st=σ (n,p):=by unfold kr;rw[f];simp only;rw[if_neg a2]
    exact Y _ ⟨N.trans (j.U _),.inl ⟨p,P,by rw[<-x];exact (sF I).symm,al⟩,Ω⟩
theorem oW {a b:Int} (e:0<=a/\a<=4294967296) (f:0<=b/\b<=4294967296):ai x7 G1 [Δ a,Δ b,Δ k] w λv w'=>v=Δ (min (a+b) k)/\Ext w w':=by
 refine aw func109 ?_;simp only[aM,bS,ah];rw[wrap_i64 Ω Ω];exact⟨λh=>⟨by rw[Int.min_eq_right Ω],Ext.refl _⟩,λh=>⟨by rw[Int.min_eq_left Ω],Ext.refl _⟩⟩
def qh (a b k:Int):x1:=if cv a k/\cv b k then .tuple #[Δ (min (a+b) k),Δ 0] else .tuple #[Δ 0,Δ 3]
theorem Bb {a b:Int}:ai x7 yY [Δ a,Δ b,Δ k] w λv w'=>v=qh a b k/\Ext w w':=by
 refine aw func66 ?_;refine aT (λv J=>Ext w J/\v= .bool (decide (¬(cv a k/\cv b k)))) ?_ ?_
 .rintro _ J ⟨e,rfl⟩;simp only[ah,aM,kU];refine⟨λh=>⟨by unfold qh;rw[if_neg h],e⟩,λh=>?_⟩;have h:=Y7.1 h;obtain⟨⟨h1,r⟩,s,x⟩:=id h;have:=h1.2;rw[wrap_i64 Ω Ω];exact⟨by unfold qh;rw[if_pos h],e⟩
 .intro au f;refine jJ.mono ?_;rintro _ w2 _ ⟨rfl,j⟩;simp only[bF,b0];refine⟨λh=>f _ _ ⟨j,?_⟩,λh=>?_⟩
  .have:¬cv a k:=by simpa using h
   rw[decide_eq_true];exact λh=>this h.1
  .have p:cv a k:=by simpa using h
   refine jJ.mono ?_;rintro _ y _ ⟨rfl,q⟩;simp only[bF];exact f _ _ ⟨j.trans q,by simp[p]⟩
theorem Kb (h:aF .i64 w sv l) (f:l≠[]):
  ai x7 Ip [sv] w λv w'=>v=Δ (vx l)/\Ext w w':=by
 obtain⟨x,l,rfl⟩:∃x r,l=x::r:=by cases l with
  |nil=>exact absurd rfl f
  |cons x r=>exact⟨x,r,rfl⟩
 have j:=h.le;refine aw func240 ?_;refine dm (λJ=>w=J) ?_ ?_
 .rintro _ rfl;rw[fA (y:=0) (i:=0) rfl an.u ak.i Ψ h (by rfl)];refine⟨λm i w2=>Ext w w2/\ ∃k:Nat,i=Δ (k+1:Nat)/\k<=l.length/\m=Δ ((l.take k).foldl min x),λ_ i _=>l.length+1-(b1 i).toNat,⟨Ext.refl _,0,rfl,X8 _,rfl⟩,?_⟩;rintro _ _ w2 ⟨a,k,rfl,hk,rfl⟩;rw[aX an.u (h.ext a)];simp only[b8,aQ,ah] at j ⊢;refine⟨λq=>?_,λs=>⟨?_,a⟩⟩
  .obtain⟨y,e⟩:=aE (l:=l) (i:=k) Ω;rw[be an.u ak.i Ψ (h.ext a) (show (x::l)[k+1]? =σ y from e),kU];simp only[aM];rw[wrap_i64 Ω Ω];refine⟨⟨a,k+1,by congr 1,Ω,?_⟩,?_⟩
   .rw[u9,e,List.foldl_append];rfl
   .simp only[b1];omega
  .have:k=l.length:=Ω
   subst this;rw[o7];rfl
 .intro au p;rw[aX an.u h];simp only[aQ,ah];exact⟨λh=>by simp at h;omega,λ_=>p _ rfl⟩
theorem Bc {g:Nat} {cs:Λ} (h:dd w g a sv ac k cs):ai x7 u1 [Γ g] w λv w'=>v=Δ k/\Ext w w':=by
 obtain⟨⟨aY,gs,e,hm,f⟩,_⟩:=h;refine aw func209 ?_;rw[dp eQ.u];simp only[Z7,aW];rw[aO cX.p 1 e rfl];exact⟨rfl,Ext.refl _⟩
theorem mB {g e:Nat} {cs:Λ} (h:dd w g e sv ac k cs):
  ai x7 GP [Γ g] w λv w'=>Ext w w'/\ ∃a,w.heap.size<=a/\ap .i64 ak w' a v cs:=by
 obtain⟨⟨aY,gs,f,hm,j⟩,⟨_,_,q⟩,I,r⟩:=h;refine aw func95 ?_;rw[dp eQ.u];simp only[Z7,aW];rw[aO cX.p 2 f rfl];exact vh j.ls Ω
theorem oX {g f:Nat} {cs:Λ} (h:dd w g f sv ac k cs):
  ai x7 HN [Γ g] w λv w'=>v= .agg #[sv]/\Ext w w':=by
 obtain⟨⟨aY,gs,q,hm,A⟩,_⟩:=h;have s:=hm.ls.cells;refine aw func171 ?_;refine bt bA.i λB J C e x=>?_;rw[dp eQ.u];simp only[Z7,aW];rw[bW,aP cX.p rfl,bx (cs:=[sv]) bA.p bA.i rfl (nC (q.ext e) (by
  intro j v a
  match j,a with
  |0,a=>exact a))]
 refine bT (vs:=[sv]) bA.i rfl rfl (by intro u hu;simp at hu;subst hu;exact s.2) x λE y G z=>?_;rw[fB bA.p bA.i rfl z.range];exact⟨rfl,e.then y (by rintro r H rfl;omega)⟩
theorem Bd (h:aF .i64 w sv ac) (q:ac.length<=1000):ai x7 zk [.agg #[sv]] w λv w'=>Ext w w'/\ ∃a,w.heap.size<=a/\ap .i64 ag w' a v ac:=by
 refine aw func208 ?_;refine bn λg J r e f=>?_;rw[az bA.p 0 f rfl];refine (kY (h.ext e) Ω).mono ?_;rintro v w2 _ ⟨j,a,s,hm⟩;have x:=e.size;exact⟨e.trans j,a,Ω,hm⟩
theorem Be (h:aF .i64 w sv ac):ai x7 Il [.agg #[sv]] w λv w'=>v=Δ ac.length/\Ext w w':=by
 refine aw func227 ?_;refine bn λg J f a e=>?_;rw[az bA.p 0 e rfl,aX al.u (h.ext a)];exact⟨rfl,a⟩
def hZ (ac:Λ) (i:Int):Int:=if 0<=i then ac.getD i.toNat 0 else 0
theorem qi {i:Int} (h:aF .i64 w sv ac):ai x7 Im [.agg #[sv],Δ i] w λv w'=>v=Δ (hZ ac i)/\Ext w w':=by
 refine aw func228 ?_;refine bn λg J r a e=>?_;refine aT (λv w2=>v= .bool (decide (i<0\/(ac.length:Int)<=i))/\J=w2) ?_ ?_
 .rintro _ _ ⟨rfl,rfl⟩;simp only[ah];refine⟨λh=>⟨?_,a⟩,λq=>?_⟩
  .unfold hZ;split
   .rw[u4,Z4 Ω];rfl
   .rfl
  .rw[az bA.p 0 e rfl];obtain⟨n,rfl⟩:∃n:Nat,i=n:=⟨i.toNat,Ω⟩;have f:n<ac.length:=Ω
   rw[be al.u ag.i Ψ (h.ext a) (x6 f)];refine⟨?_,a⟩;unfold hZ;rw[if_pos Ω,u4,r8,x6 f];rfl
 .intro au j;simp only[aQ,ah];refine⟨λh=>j _ _ ⟨by rw[decide_eq_true];omega,rfl⟩,λq=>?_⟩;rw[az bA.p 0 e rfl,aX al.u (h.ext a)];simp only[cU];exact j _ _ ⟨by congr 1;simp;omega,rfl⟩
theorem sG {g B0:Nat} (I:b2 ac):
  ov x7 kQ [Γ g] (aK ac).toNat (λk vs w=>∃aL gt,vs=[Δ (k:Int),aL]/\B0<=gt/\ap .i64 ag w gt aL (cJ ac k))
   (λw=>aa w g bA [sv]/\aF .i64 w sv ac/\B0<=w.heap.size):=by
 refine⟨kQ.enters,λl au Q w r _ z ⟨s,x,A⟩ B=>?_⟩;have R:=prod_bound I;refine pT func134 ?_;rw[bx bA.p bA.i rfl s.range];refine (oI x I).free.mono ?_;rintro _ J ⟨C,rfl,a⟩;refine ci.range (aK ac).toNat (λi w2=>au i w2/\aa w2 g bA [sv]/\aF .i64 w2 sv ac/\B0<=w2.heap.size) Ω ⟨r 0 _ _ a C.b B,s.ext a,x.ext a,X0 A a.size⟩ ?_ ?_
 .rintro i w2 k hi ⟨f,j,q,y⟩ hk;simp only[aQ,ah];refine⟨λ_=>?_,λh=>Ω⟩;rw[bx bA.p bA.i rfl j.range];refine (IV q I Ω Ω).free.mono ?_;rintro _ E ⟨G,e,aL,gt,rfl,H,K⟩;rw[bu,bw];refine⟨rfl,(z i _ E hi ⟨j.ext e,q.ext e,X0 y e.size⟩ ⟨aL,gt,rfl,X0 y H,K⟩ (r _ _ _ e G.b f)).mono ?_⟩;rintro _ S (⟨rfl,⟨L,M,N⟩,O⟩|⟨rfl,P⟩)
  .simp only[bF,Y5,aW,aM];exact hk _ ⟨O.1,L,M,N⟩
  .simp only[bF,V0,bO];exact .inr ⟨i,hi,P⟩
 .rintro w2 k ⟨f,j,q,_⟩;simp only[aQ,ah];exact⟨λh=>Ω,λ_=>.inl f⟩
theorem sH:ai x7 GD [.agg #[sv]] w λr w'=>Ext w w'/\ ∃g,r= .func (.func kQ) #[] #[Γ g]/\w.heap.size<=g/\aa w' g bA [sv]:=by
 refine aw func70 ?_;refine bn λg J f a e=>?_;rw[mm];exact⟨a,g,rfl,Ω,e⟩
end Go.Proofs.YtjjhhcfgfdepdaaGreatDoor
namespace Go.Vc
open Go Go.RowKit
set_option maxRecDepth 100000
section
variable {P:W9} {w:x3}
theorem av.cq {α:Type} {s:Sem α} {K:α->x3->Prop} (h:av P s w λv w'=>cM w w'->K v w'):av P s w K:=by
 obtain⟨v,w',h1,a,e⟩:=h;exact⟨v,w',h1,a,e a⟩
structure Keys (P:W9) (k:r9) (G:x1->Prop):Prop where
 check:∀ (w:x3) (em:Bool) {v:x1},G v->(Instr.checkKey em 10000 k v).run P w= .ok () w
 find:∀ (w:x3) {x:x1},G x-> ∀es:List MapEntry,(∀e∈es,G e.key)->
  ((Instr.findKey k x es).run P w= .ok ν w/\ ∀e∈es,e.key≠x)\/ ∃j e,(Instr.findKey k x es).run P w= .ok (σ (j,e.val)) w/\es[j]? =σ e/\e.key=x
 stays:∀ (w:x3) {v:x1},G v->(Instr.keyThatStays v v).run P w= .ok v w
theorem Keys.law {k:r9} (K:WideMaps.KeyLaw P k):Keys P k λv=>∃l,keyOf P k v=σ l:=
 ⟨λw a _ ⟨_,h⟩=>K.check w a h,λw _ ⟨_,h⟩ e f=>K.find w h e f,λw _ ⟨_,h⟩=>K.stays w h⟩
theorem Keys.int {k:r9} {a:o6} (hk:P.underlying k=σ (.int a)):Keys P k λv=>∃n,v= .int a n:=by
 have key:∀n,MapKept.IsKey (.int a) (.int a n):=λn=>rfl;refine⟨λw p v ⟨n,h⟩=>?_,λw x ⟨n,h⟩ q r=>?_,λw v ⟨n,h⟩=>?_⟩
 .subst h;exact MapKept.run_checkKey hk (key n) p 9999
 .subst h;rcases MapKept.findNow_spec (key n) q 0 (λe he=>by obtain⟨m,h⟩:=r e he;rw[h];exact key m) with⟨h1,f⟩|⟨j,e,h1,f,s⟩
  .exact .inl ⟨MapKept.run_findKey hk h1,f⟩
  .exact .inr ⟨j,e,by have:=MapKept.run_findKey (P:=P) (w:=w) hk h1;simpa using this,f,s⟩
 .subst h;exact MapKept.run_keyThatStays (d:=.int a) (key n)
def gM (e:MapEntry):x1×x1:=(e.key,e.val)
def c5 (w:x3) (m:Nat) (d:List (x1×x1)):Prop:=∃a e,w.heap[m]? =σ (.map a e)/\MapKept.Stamped a e/\a.toList.map gM=d
theorem c5.ext {d:List (x1×x1)} (h:c5 w m d) (a:Ext w w'):c5 w' m d:=by
 obtain⟨e,c,h1,f⟩:=h;exact⟨e,c,a.aV m _ h1 rfl,f⟩
theorem c5.U {d:List (x1×x1)} (h:c5 w m d) (a:ae S w w') (e:¬S m):c5 w' m d:=by
 obtain⟨f,c,h1,j⟩:=h;exact⟨f,c,a.aV m _ h1 rfl e,j⟩
theorem c5.lt {d:List (x1×x1)} (h:c5 w m d):m<w.heap.size:=by
 obtain⟨a,c,h1,e⟩:=h;exact (j0.1 h1).1
theorem c5.nodup {d:List (x1×x1)} (h:c5 w m d):(d.map (·.1)).Nodup:=by
 obtain⟨e,c,_,⟨_,_,a⟩,rfl⟩:=h;rw[R6];exact a
theorem kt {α:Type} {l:List α} (h:l.Nodup) {i:Nat} {x:α} (hi:l[i]? =σ x) (q:l[j]? =σ x):i=j:=by
 have a:=x4.1 hi;have e:=x4.1 q;have p:=V9.1 h;rcases Nat.lt_trichotomy i j with f|rfl|f
 .exact absurd (a.2.trans e.2.symm) (p i j a.1 e.1 f)
 .rfl
 .exact absurd (e.2.trans a.2.symm) (p j i e.1 a.1 f)
theorem mC {α β:Type} (f:α->β):∀ (l:List α) (i:Nat),(l.map f).eraseIdx i=(l.eraseIdx i).map f
 |[],_=>Ξ
 |_::_,0=>rfl
 |x::l,i+1=>by simp[mC f l i]
theorem c5.uniq {d:List (x1×x1)} (h:c5 w m d) {i:Nat} {p q:x1×x1} (hi:d[i]? =σ p) (a:d[j]? =σ q) (he:p.1=q.1):i=j:=by
 have e:=h.nodup;have h1:(d.map (·.1))[i]? =σ p.1:=by rw[x8,hi];rfl
 have f:(d.map (·.1))[j]? =σ p.1:=by rw[x8,a,he];rfl
 exact kt e h1 f
theorem sI {q:Array MapEntry} {c:Nat} (h:w.heap[m]? =σ (.map q c)) (a:Array MapEntry) (e:Nat):
  ae (λr=>r=m) w {w with heap:=w.heap.setIfInBounds m (.map a e)}/\cM w {w with heap:=w.heap.setIfInBounds m (.map a e)}/\({w with heap:=w.heap.setIfInBounds m (.map a e)}:x3).heap[m]? =σ (.map a e):=by
 have I:=MapKept.heap_set (o':=.map a e) h;refine⟨⟨Ξ,λr o f j s=>?_⟩,⟨rfl,.ka,rfl,Ξ,λr o f j=>?_⟩,I.1⟩
 .show (w.heap.setIfInBounds m _)[r]? =σ o;rw[I.2 r s];exact f
 .show (w.heap.setIfInBounds m _)[r]? =σ o;by_cases p:r=m
  .subst p;rw[h] at f;cases f;cases j
  .rw[I.2 r p];exact f
theorem sJ {K:x1->x3->Prop} (h:∀m w',m=w.heap.size->Ext w w'->c5 w' m []->K (.map (σ m)) w'):av P (Instr.makeMap t ν) w K:=by
 refine .of (run_makeMap t w) (ox w _) (h _ _ rfl (ow w _) ⟨#[],0,?_,MapKept.stamped_empty 0,rfl⟩);exact heap_alloc_new w _
variable {k e:r9} {G:x1->Prop}
theorem qj {c:Bool} {d:List (x1×x1)} {x:x1} (y:P.underlying t=σ (.map k e)) (hk:Keys P k G) (hm:c5 w m d) (z:∀p∈d,G p.1) (q:G x) (a:d[j]? =σ (x,v)):
  V P (Instr.lookup t (.map (σ m)) x c) w K=K (if c then .tuple #[v,.bool true] else v):=V.of λw' A=>by
 obtain⟨f,B,r,C,rfl⟩:=hm.ext A;have E:∀e∈f.toList,G e.key:=λe he=>z (gM e) (l7.2 ⟨e,he,rfl⟩);rcases hk.find w' q f.toList E with⟨_,h⟩|⟨i,s,h1,h,F⟩
 .rw[x8] at a;obtain⟨H,I,J⟩:=X3.1 a;exact absurd (congrArg Prod.fst J) (h H (x5 I))
 .have L:s.val=v:=by
   have hi:(f.toList.map gM)[i]? =σ (gM s):=by rw[x8,h];rfl
   have M:c5 w' m (f.toList.map gM):=⟨f,B,r,C,rfl⟩;have:=M.uniq hi a F;subst this;rw[hi] at a;exact congrArg Prod.snd (c7 a)
  simp only[Instr.lookup,W6,run_underlying y,W8,MapKept.run_getObj_map r,V4,hk.check w' _ q,h1,L]
theorem sK {c:Bool} {d:List (x1×x1)} {x:x1} (r:P.underlying t=σ (.map k e)) (hk:Keys P k G) (a:∃s b,aN P e s b z) (hm:c5 w m d) (y:∀p∈d,G p.1) (f:G x) (A:∀p∈d,p.1≠x):
  V P (Instr.lookup t (.map (σ m)) x c) w K=K (if c then .tuple #[z,.bool false] else z):=V.of λw' B=>by
 obtain⟨h,I,C,J,rfl⟩:=hm.ext B;have E:∀e∈h.toList,G e.key:=λe he=>y (gM e) (l7.2 ⟨e,he,rfl⟩);have F:(zeroValue e).run P w'= .ok z w':=by
  obtain⟨s,b,i,hi,_,_,a⟩:=a;simp[zeroValue,typeInfo,hi,a]
 rcases hk.find w' f h.toList E with⟨h1,j⟩|⟨i,q,h1,j,H⟩
 .simp only[Instr.lookup,W6,run_underlying r,W8,MapKept.run_getObj_map C,V4,hk.check w' _ f,h1,F]
 .exact absurd H (A (gM q) (l7.2 ⟨q,x5 j,rfl⟩))
theorem Kc {a:Array MapEntry} {e:MapEntry} {f:MapEntry->MapEntry} (h:a[j]? =σ e):(a.modify j f).toList.map gM=(a.toList.map gM).set j (gM (f e)):=by
 refine Y6 λi=>?_;simp only[x8,S9,Array.getElem?_modify,X6,u7,Array.length_toList];by_cases p:j=i
 .subst p;have:=(j0.1 h);simp[this.1,this.2]
 .simp[p]
theorem qk {d:List (x1×x1)} {x:x1} {K:Unit->x3->Prop} (A:P.underlying t=σ (.map k e)) (hk:Keys P k G) (hm:c5 w m d) (H:∀p∈d,G p.1) (h:G x)
  (h1:∀j v0 w',d[j]? =σ (x,v0)->c5 w' m (d.set j (x,v))->ae (λr=>r=m) w w'->K () w')
  (I:∀w',(∀p∈d,p.1≠x)->c5 w' m (d++[(x,v)])->ae (λr=>r=m) w w'->K () w'):av P (Instr.mapUpdate t (.map (σ m)) x v) w K:=by
 obtain⟨f,q,a,B,rfl⟩:=hm;have J:∀e∈f.toList,G e.key:=λe he=>H (gM e) (l7.2 ⟨e,he,rfl⟩);rcases hk.find w h f.toList J with⟨s,C⟩|⟨i,E,s,hi,he⟩
 .obtain⟨c1,c2,y⟩:=sI a (f.push {key:=x,val:=v,born:=q}) (q+1);refine .of (v:=()) (w':=_) ?_ c2 (I _ (λp L=>?_) ⟨_,_,y,MapKept.stamped_push B C,by simp[gM]⟩ c1)
  .simp only[Instr.mapUpdate,W6,run_underlying A,W8,MapKept.run_getObj_map a,hk.check w _ h,s,MapKept.run_setObj_map _ a]
  .obtain⟨M,N,rfl⟩:=l7.1 L;exact C M N
 .have z:f[i]? =σ E:=by simpa using hi
  obtain⟨c1,c2,y⟩:=sI a (f.modify i λe=>{e with key:=x,val:=v}) q;refine .of (v:=()) (w':=_) ?_ c2 (h1 i E.val _ (by rw[x8,hi];simp[gM,he]) ⟨_,_,y,MapKept.stamped_modify B _ _ (λ_ _=>rfl) (λO _ F=>by rw[z] at F;cases F;exact he.symm),Kc z⟩ c1);simp only[Instr.mapUpdate,W6,run_underlying A,W8,MapKept.run_getObj_map a,hk.check w _ h,s,z,Z6,V8,he,hk.stays w h,MapKept.run_setObj_map _ a]
theorem Kd {B C:r9} {d:List (x1×x1)} {x:x1} {K:x1->x3->Prop} (y:P.underlying t=σ (.map k e)) (hk:Keys P k G) (hm:c5 w m d) (E:∀p∈d,G p.1) (h:G x)
  (h1:∀j v0 w',d[j]? =σ (x,v0)->c5 w' m (d.eraseIdx j)->ae (λr=>r=m) w w'->K (.tuple #[]) w')
  (F:∀w',(∀p∈d,p.1≠x)->c5 w' m d->ae (λr=>r=m) w w'->K (.tuple #[]) w'):av P (Z3.delete_ #[t,B] C #[.map (σ m),x]) w K:=by
 obtain⟨f,z,a,A,rfl⟩:=hm;have H:∀e∈f.toList,G e.key:=λe he=>E (gM e) (l7.2 ⟨e,he,rfl⟩);rcases hk.find w h f.toList H with⟨q,I⟩|⟨i,J,q,hi,he⟩
 .obtain⟨c1,c2,s⟩:=sI a f z;refine .of (v:=.tuple #[]) (w':=_) ?_ c2 (F _ (λp L=>?_) ⟨_,_,s,A,rfl⟩ c1)
  .simp only[Z3.delete_,List.getElem?_toArray,List.getElem?_cons_zero,List.getElem?_cons_succ,W6,run_underlying y,W8,MapKept.run_getObj_map a,hk.check w _ h,q,MapKept.run_setObj_map _ a,V4]
  .obtain⟨M,N,rfl⟩:=l7.1 L;exact I M N
 .obtain⟨c1,c2,s⟩:=sI a (f.eraseIdxIfInBounds i) z;refine .of (v:=.tuple #[]) (w':=_) ?_ c2 (h1 i J.val _ (by rw[x8,hi];simp[gM,he]) ⟨_,_,s,MapKept.stamped_erase A _,by rw[mC];simp⟩ c1);simp only[Z3.delete_,List.getElem?_toArray,List.getElem?_cons_zero,List.getElem?_cons_succ,W6,run_underlying y,W8,MapKept.run_getObj_map a,hk.check w _ h,q,MapKept.run_setObj_map _ a,V4]
theorem Ke {a:r9} {d:List (x1×x1)} (f:P.underlying t=σ (.map k e)) (hm:c5 w m d):V P (V3 #[t] a #[.map (σ m)]) w K=K (Δ d.length):=V.of λw' h=>by
 obtain⟨p,q,j,r,rfl⟩:=hm.ext h;simp[V3,run_underlying f,MapKept.run_getObj_map j,goInt]
def hB (w:x3) (j m:Nat) (d left:List (x1×x1)) (q:Option (x1×x1)):Prop:=∃a f seen gX,w.heap[m]? =σ (.map a f)/\MapKept.Stamped a f/\a.toList.map gM=d/\
 w.heap[j]? =σ (.mapIter (σ m) f seen gX)/\f<=gX/\(leftOf a seen).toList.map gM=left/\ ∀p,q=σ p->gX=f/\ ∃h,a.toList.find? (λe=>e.born == seen.back?.getD 0)=σ h/\seen.back? =σ h.born/\gM h=p
theorem hB.map {d left:List (x1×x1)} {e:Option (x1×x1)} (h:hB w a m d left e):c5 w m d:=by
 obtain⟨f,c,_,_,h1,j,p,_⟩:=h;exact⟨f,c,h1,j,p⟩
theorem hB.aV {d left:List (x1×x1)} {e:Option (x1×x1)} (h:hB w a m d left e) (f:ae S w w') (hm:¬S m) (hi:eU w w'):hB w' a m d left e:=by
 obtain⟨j,c,s,gX,h1,p,q,r,x⟩:=h;exact⟨j,c,s,gX,f.aV m _ h1 rfl hm,p,q,hi a _ r rfl,x⟩
theorem hB.ext {d left:List (x1×x1)} {e:Option (x1×x1)} (h:hB w a m d left e) (f:Ext w w') (hi:eU w w'):hB w' a m d left e:=
 h.aV (f.U λ_=>False) (λh=>h) hi
theorem Kf (a:Array MapEntry):leftOf a #[]=a:=by
 unfold leftOf;exact Array.filter_eq_self.2 λx e=>Ξ
theorem Bf {d:List (x1×x1)} {K:x1->x3->Prop} (r:P.underlying t=σ (.map k e)) (hm:c5 w m d)
  (h:∀a w',a=w.heap.size->Ext w w'->eU w w'->hB w' a m d d ν->K (Γ a) w'):av P (Instr.range t (.map (σ m))) w K:=by
 obtain⟨j,f,q,s,rfl⟩:=hm;refine .of (run_range_map w t k e m j f r q) (ox w _) (h _ _ rfl (ow w _) (ox w _).kb ⟨j,f,#[],f,(ow w _).aV m _ q rfl,s,rfl,heap_alloc_new w _,o4 _,by rw[Kf],λp x=>by cases x⟩)
theorem Bg:∀ (l:List MapEntry) (j:Nat) (a:MapEntry),(l.map (·.born)).Nodup->l[j]? =σ a->l.filter (λx=>!(x.born == a.born))=l.eraseIdx j
 |[],j,a,_,h=>by simp at h
 |x::l,0,a,f,h=>by
  simp at h;subst h;have e:=List.nodup_cons.1 (by simpa using f:(x.born::l.map (·.born)).Nodup);simp only[List.filter_cons,beq_self_eq_true,Y5,Bool.false_eq_true,if_false,List.eraseIdx_cons_zero];refine List.filter_eq_self.2 λy p=>?_;have:y.born≠x.born:=λhe=>e.1 (he▸l7.2 ⟨y,p,rfl⟩);simpa using this
 |x::l,j+1,a,f,h=>by
  simp at h;have e:=List.nodup_cons.1 (by simpa using f:(x.born::l.map (·.born)).Nodup);have q:x.born≠a.born:=λhe=>e.1 (he▸l7.2 ⟨a,x5 h,rfl⟩);have r:=Bg l j a e.2 h;simp only[List.filter_cons,List.eraseIdx_cons_succ,r];simp[q]
theorem Bh {free:fu} {d left:List (x1×x1)} {T:Option (x1×x1)} {K:x1->x3->Prop} (h:hB w a m d left T) (A:free.1=false->free.2<=a)
  (U:left=[]->K (.tuple #[.bool false]) w)
  (h1:∀j p w',left[j]? =σ p->Ext w w'->cB a w w'->hB w' a m d (left.eraseIdx j) (σ p)->K (.tuple #[.bool true,p.1,p.2]) w'):rl P free (Instr.next (Γ a) false 0) w K:=by
 obtain⟨q,s,seen,gX,B,E,rfl,hi,V,rfl,_⟩:=h;have M:∀x∈q.toList,x.born<s:=E.1;have N:=E.2.1;have O:∀x∈(leftOf q seen).toList,x.born<s:=λx z=>M x (mem_left z).1;have W:∀ (J:x3) (o':Obj),J.heap=w.heap->(setObj a o').run P J= .ok () {J with heap:=J.heap.setIfInBounds a o'}:=λJ o' he=>by
  simp only[setObj,Sem.run];rw[he,hi]
 unfold rl;simp only[Instr.next,getObj,W6,Sem.run,hi,B,W8,next_test_false seen q s gX M V,Bool.false_eq_true,if_false];have X:Array.filter (λe=>!seen.contains e.born) q=leftOf q seen:=rfl;rw[X];have Y:((leftOf q seen).toList.map (·.born)).Nodup:=by
  unfold leftOf;rw[Array.toList_filter];exact (List.Sublist.map _ List.filter_sublist).nodup N
 have Z:∀C:MapEntry,leftOf q (seen.push C.born)=(leftOf q seen).filter λx=>!(x.born == C.born):=λC=>by
  unfold leftOf;rw[Array.filter_filter];congr 1;funext x;rw[contains_push];cases seen.contains x.born<;>cases x.born == C.born<;>rfl
 generalize aa:leftOf q seen=L at*;have ab:L.filter (λx=>decide (x.born<s))=L:=Array.filter_eq_self.2 (λx z=>by simpa using O x (by simpa using z));have ac:L.filter (λx=>decide (x.born≥s))= #[]:=by
  rw[Array.filter_eq_empty_iff];intro x z;have:=O x (by simpa using z);simp;omega
 simp only[ab,ac,Array.append_empty];by_cases Q:L.size=0
 .have ad:L= #[]:=Array.eq_empty_of_size_eq_zero Q;subst ad;refine⟨.tuple #[.bool false],w,?_,λ_=>cB.refl _ _,U rfl⟩;simp[choose,Sem.run,Question.forced]
 .have ae:L.isEmpty=false:=by simp[Array.isEmpty,Q]
  simp only[ae,Bool.false_eq_true,if_false,Array.empty_append,Array.size_map];have af:∃ (j:Nat) (n:Nat),j<L.size/\w.drawn<=n/\(choose (Question.mapNext L.size)).run P w= .ok j {w with drawn:=n}:=by
   by_cases A:L.size<=1
   .exact⟨0,w.drawn,Ω,o4 _,by simp[choose,Sem.run,Question.forced,A]⟩
   .exact⟨_,w.drawn+1,Nat.mod_lt _ Ω,Nat.le_succ _,by
     simp only[choose,Sem.run,Question.forced,decide_eq_true_eq,A,if_false,Question.cut];rfl⟩
  obtain⟨j,n,F,R,ag⟩:=af;have S:L.toList[j]? =σ L[j]:=by simp[F]
  have ah:L[j]∈q.toList:=(mem_left (seen:=seen) (by rw[aa];exact Array.mem_toList_iff.2 (Array.getElem_mem F))).1;refine⟨.tuple #[.bool true,L[j].key,L[j].val],{w with drawn:=n,heap:=w.heap.setIfInBounds a (.mapIter (σ m) s (seen.push L[j].born) s)},?_,?_,?_⟩
  .have I:=W {w with drawn:=n} (.mapIter (σ m) s (seen.push L[j].born) s) rfl;simp only[ag,Array.getElem?_map,Array.getElem?_eq_getElem F,Z6,W6,I,W8,V4]
  .intro ai;have:=A ai;refine⟨rfl,⟨rfl,R⟩,rfl,Ξ,λr o f G=>?_,λr o aj f H=>?_⟩
   .show (w.heap.setIfInBounds a _)[r]? =σ o;by_cases y:r=a
    .subst y;rw[hi] at f;cases f;cases G
    .rw[(MapKept.heap_set hi).2 r y];exact f
   .show (w.heap.setIfInBounds a _)[r]? =σ o;rw[(MapKept.heap_set hi).2 r Ω];exact f
  .refine h1 j (gM L[j]) _ (by rw[x8,S];rfl) ⟨Ξ,λr o f H=>?_⟩ ⟨rfl,⟨rfl,R⟩,rfl,Ξ,λr o f G=>?_,λr o aj f H=>?_⟩ ⟨q,s,seen.push L[j].born,s,?_,E,rfl,?_,o4 _,?_,λp ak=>⟨rfl,L[j],?_,Ξ,c7 ak⟩⟩
   .show (w.heap.setIfInBounds a _)[r]? =σ o;by_cases y:r=a
    .subst y;rw[hi] at f;cases f;cases H
    .rw[(MapKept.heap_set hi).2 r y];exact f
   .show (w.heap.setIfInBounds a _)[r]? =σ o;by_cases y:r=a
    .subst y;rw[hi] at f;cases f;cases G
    .rw[(MapKept.heap_set hi).2 r y];exact f
   .show (w.heap.setIfInBounds a _)[r]? =σ o;rw[(MapKept.heap_set hi).2 r Ω];exact f
   .show (w.heap.setIfInBounds a _)[m]? =_;rw[(MapKept.heap_set hi).2 m (λhe=>by subst he;rw[hi] at B;cases B)];exact B
   .exact (MapKept.heap_set hi).1
   .rw[Z,Array.toList_filter,Bg _ _ _ Y S,mC]
   .simp only[Array.back?_push,V8];exact find_born _ _ N ah
theorem Bi {d left:List (x1×x1)} {p:x1×x1} {K:x1->x3->Prop} (h:hB w a m d left (σ p)) (j:K (.tuple #[p.1,p.2]) w):av P (Instr.entry (Γ a)) w K:=by
 obtain⟨s,x,seen,gX,q,y,rfl,hi,z,rfl,r⟩:=h;obtain⟨rfl,e,h1,f,rfl⟩:=r p rfl;refine .of (v:=.tuple #[e.key,e.val]) (w':=w) ?_ (cM.refl _) j;rw[f] at h1;simp only[Instr.entry,getObj,W6,Sem.run,hi,q,W8,f,bne_self_eq_false,Bool.false_eq_true,if_false,<-Array.find?_toList];simp only[V8] at h1;rw[h1];rfl
end
end Go.Vc
namespace Go.Proofs.YtjjhhcfgfdepdaaGreatDoor
open Go Go.Vc Go.RowKit Go.Proofs Go.Proofs.Tryz
set_option maxRecDepth 100000
def ee (ks:Λ):x1:=.agg (ints .i8 ks).toArray
def k5 (ks:Λ):Prop:=ks.length=6/\ ∀x∈ks,0<=x/\x<32
theorem Kg {a b:Λ} (h:ee a=ee b):a=b:=by
 unfold ee at h;have h:ints .i8 a=ints .i8 b:=congrArg Array.toList (x1.agg.inj h);have e:∀l:Λ,(ints .i8 l).map valOf=l:=λl=>by
  unfold ints;rw[R6];exact List.map_id l
 rw[<-e a,<-e b,h]
theorem Bj (ks:Λ):(ee ks).cells.toList=ints .i8 ks:=by simp[ee,x1.cells]
theorem Kh:WideMaps.ArrKey x7 cF fP 6:=⟨cF.u,Ψ,Ψ,Ψ⟩
theorem keys:Keys x7 cF λv=>∃l,keyOf x7 cF v=σ l:=Keys.law Kh.law
theorem vF (h:k5 ks):∃l,keyOf x7 cF (ee ks)=σ l:=by
 obtain⟨s,j⟩:=h
 match ks,s with
 |[a,b,c,d,e,f],_=>
  have w:=j a Ξ;have y:=j b Ξ;have z:=j c Ξ;have rd:=j d Ξ;have A:=j e Ξ;have ka:=j f Ξ;have wf:∀x:Int,0<=x/\x<32->(Lit.int .i8 x).wf=true:=λx p=>by
   simp only[Lit.wf,T0,decide_eq_true_eq];have H:o6.i8.min= -128:=Φ
   have I:o6.i8.max=127:=Φ
   omega
  have q:decide (0<x7.types.size)=true:=Ψ
  have q:=of_decide_eq_true q;obtain⟨n,B⟩:∃n,x7.types.size=n+1:=⟨x7.types.size-1,Ω⟩;have one:∀x:Int,0<=x/\x<32->x7.keyLits (n+1) fP [.int .i8 x]=σ [.int .i8 x]:=λx p=>by
   unfold W9.keyLits;rw[fP.u];simp[wf x p]
  unfold keyOf;rw[cF.u];simp only;have C:x7.keyType cF=true:=Ψ
  have E:x7.cellsOf fP=1:=Ψ
  have r:x7.cellsOf cF=6:=Ψ
  have F:(ee [a,b,c,d,e,f]).formed x7 cF=true:=by
   unfold ee x1.formed;rw[cF.u,r];rfl
  rw[C,F,Bj,B];simp only[Bool.and_self,if_true];unfold W9.keyLits;rw[cF.u];simp only[r,E,ints];have G:V6 6=[0,1,2,3,4,5]:=Φ
  simp[G,one a w,one b y,one c z,one d rd,one e A,one f ka]
def pad (t:Λ):Λ:=t++p9 (6-t.length) 0
theorem Ki {t:Λ} (f:t.length<=6) (a:∀x∈t,0<=x/\x<32):k5 (pad t):=
 ⟨by simp[pad];omega,λx e=>by
  rcases l9.1 e with h|h
  .exact a x h
  .have:=(List.mem_replicate.1 h).2;omega⟩
theorem Kj {a b:Λ} (e:a.length=b.length) (h:pad a=pad b):a=b:=by
 unfold pad at h;exact (List.append_inj h e).1
theorem Bk {t:Λ}:(pad t).take t.length=t:=by simp[pad]
theorem nP {b o:Nat} (a:ks.length=6) (h:w.rangeAt b o (ints .i8 ks)):V x7 (u5 cF (.pointer (σ ⟨b,o,ν⟩))) w K=K (ee ks):=
 zv cF.u rfl cF.i (by simp[a]) h
theorem Kk {b o:Nat} (a:ks.length=6) (h:w.rangeAt b o (ints .i8 ks)):V x7 (do loadVar cF (<-asAddr (.pointer (σ ⟨b,o,ν⟩)))) w K=K (ee ks):=V.of λw' e=>by
 have:=run_loadVar_mid (P:=x7) w' b o cF (ints .i8 ks) (.array 6 fP) (np e h) cF.u rfl (by rw[cF.i.size];simp[a]);simp only[asAddr,W6,V4,Result.andThen_ok,this];rfl
theorem ql {g:Nat} {K:Unit->x3->Prop} (a:ks.length=6) (e:cs.length=6) (f:aa w g cF cs)
  (h:∀w',ae (λr=>r=g) w w'->w'.heap.size=w.heap.size->aa w' g cF (ints .i8 ks)->K () w'):av x7 (o5 cF (Γ g) (ee ks)) w K:=
 bT (vs:=ints .i8 ks) cF.i (by simp[a]) e (λv j=>by obtain⟨x,_,rfl⟩:=l7.1 j;rfl) f h
def sL:List x1:=[.int .i8 0,.int .i8 0,.int .i8 0,.int .i8 0,.int .i8 0,.int .i8 0]
theorem Kl {x:Int}:ai x7 rT [Δ x] w λv w'=>v= .bool (decide (¬ic x))/\Ext w w':=by
 refine aw func185 ?_;simp only[cr,aQ,bS,ah];refine⟨λh=>⟨?_,Ext.refl _⟩,λh=>⟨?_,Ext.refl _⟩⟩
 .rw[decide_eq_true];intro a;have:=a.1;omega
 .congr 1;have:(32<x)=(¬ic x):=propext ⟨λe a=>by have:=a.2;omega,λe=>by
   by_cases f:32<x
   .exact f
   .exact absurd ⟨Ω,Ω⟩ e⟩
  simp only[this]
theorem Km (h:aF .i64 w sv l):
  ai x7 zm [sv,.func (.func rT) #[] #[]] w λv w'=>Ext w w'/\ ∃n:Int,v=Δ n/\((0<=n)=¬∀x∈l,ic x):=by
 have z:=h.le;refine aw func221 ?_;rw[aX al.u h];refine⟨λ_ t J=>Ext w J/\ ∃i:Nat,t=Δ i/\i<=l.length/\ ∀x∈l.take i,ic x,λ_ t _=>l.length-(b1 t).toNat,⟨Ext.refl _,0,rfl,X8 _,Ξ⟩,?_⟩;rintro _ _ J ⟨e,i,rfl,hi,f⟩;simp only[aQ,ah];refine⟨λA=>?_,λB=>⟨e,-1,rfl,?_⟩⟩
 .obtain⟨x,j⟩:=aE (l:=l) (i:=i) Ω;rw[be al.u ag.i Ψ (h.ext e) j];show ai x7 rT [Δ x] J _;refine Kl.mono ?_;rintro _ w2 _ ⟨rfl,p⟩;simp only[ah,aM];refine⟨λq=>⟨e.trans p,i,rfl,?_⟩,λr=>?_⟩
  .exact propext ⟨λ_ s=>q (s x (x5 j)),λ_=>Ω⟩
  .rw[wrap_i64 Ω Ω];refine⟨⟨e.trans p,i+1,rfl,Ω,λy a=>?_⟩,?_⟩
   .rw[u9,j] at a;rcases l9.1 a with a|a
    .exact f y a
    .simp at a;subst a;exact Y7.1 r
   .simp only[b1];omega
 .have:i=l.length:=Ω
  rw[this,o7] at f;exact propext ⟨λh=>Ω,λh=>absurd f h⟩
theorem Bl (h:aF .i64 w sv l):
  ai x7 uY [sv,.func (.func rT) #[] #[]] w λv w'=>v= .bool (decide (¬∀x∈l,ic x))/\Ext w w':=by
 refine aw func186 ?_;refine (Km h).mono ?_;rintro _ J _ ⟨a,n,rfl,e⟩;simp only[cU];exact⟨by congr 1;simp only[e],a⟩
abbrev Told:=List (Λ×Int)
def jN (p:Λ×Int):x1×x1:=(ee (pad p.1),Δ p.2)
def eJ (w:x3) (g m:Nat) (ac:Λ) (k o:Int) (D:Told):Prop:=
 (∃sv gs,aa w g fy [sv,Δ k,Δ o,.map (σ m)]/\ap .i64 ag w gs sv ac)/\c5 w m (D.map jN)/\b2 ac/\cv o k/\ ∀p∈D,ds ac p.1/\cv p.2 k/\p.2≠o
theorem eJ.ext {g:Nat} {o:Int} {D:Told} (h:eJ w g m ac k o D) (a:Ext w w'):eJ w' g m ac k o D:=by
 obtain⟨⟨sv,gs,h1,e⟩,f,j⟩:=h;exact⟨⟨sv,gs,h1.ext a,e.ext a⟩,f.ext a,j⟩
theorem vG {t:Λ} (I:b2 ac) (h:ds ac t):t.length=ac.length/\ ∀x∈t,0<=x/\x<32:=by
 obtain⟨h1,f⟩:=nL.1 h;refine⟨h1.symm,λx j=>?_⟩;obtain⟨i,hi,rfl⟩:=List.getElem_of_mem j;obtain⟨a,e⟩:=aE (l:=ac) (i:=i) Ω;have p:=f i a _ e (x6 hi);have q:=(I.2 a (x5 e)).2;omega
theorem qm {t:Λ} (I:b2 ac) (h:ds ac t):k5 (pad t):=by
 obtain⟨h1,a⟩:=vG I h;exact Ki (by rw[h1];exact I.1) a
theorem eJ.oY {g:Nat} {o:Int} {D:Told} (h:eJ w g m ac k o D):∀p∈D.map jN,∃l,keyOf x7 cF p.1=σ l:=λp a=>by
 obtain⟨q,e,rfl⟩:=l7.1 a;exact vF (qm h.2.2.1 (h.2.2.2.2 q e).1)
theorem Bm {s t:Λ} (I:ds ac s) (a:ds ac t) (h:ee (pad s)=ee (pad t)):s=t:=
 Kj ((ss I).symm.trans (ss a)) (Kg h)
theorem eJ.nodup {g:Nat} {o:Int} {D:Told} (h:eJ w g m ac k o D):(D.map (·.1)).Nodup:=by
 have e:=h.2.1.nodup;rw[R6] at e;refine List.Pairwise.of_map (S:=λa b=>a≠b) (λt=>ee (pad t)) (λa b h he=>h (by rw[he])) ?_;rw[R6];exact e
def Kn (w:x3) (l:Λ) (k o:Int) (v:x1) (w':x3):Prop:=
 Ext w w'/\(¬b2 l->v= .tuple #[.pointer ν,Δ 1])/\(b2 l->¬cv o k->v= .tuple #[.pointer ν,Δ 3])/\
  (b2 l->cv o k-> ∃g m,v= .tuple #[Γ g,Δ 0]/\w.heap.size<=g/\w.heap.size<=m/\eJ w' g m l k o [])
theorem Bn {o:Int} (h:aF .i64 w sv l):ai x7 oA [sv,Δ k,Δ o] w (Kn w l k o):=by
 refine aw func146 ?_;refine aT (λv J=>Ext w J/\ ∃c,v= .bool c/\(c=true↔¬b2 l)) ?_ ?_
 .rintro _ J ⟨e,c,rfl,f⟩;rw[b0];refine⟨λs=>⟨e,λ_=>rfl,λh=>absurd h (f.1 s),λh=>absurd h (f.1 s)⟩,λz=>?_⟩;have I:b2 l:=Classical.byContradiction λh=>by have:=f.2 h;rw[z] at this;cases this
  have G:=I.1;refine jJ.mono ?_;rintro _ w2 _ ⟨rfl,a⟩;by_cases hi:cv o k
  rotate_left
  .simp only[hi,decide_false,bF,V0,bO];exact⟨e.trans a,λh=>absurd I h,λ_ _=>rfl,λ_ h=>absurd h hi⟩
  simp only[hi,decide_true,bF,Y5,aW];refine (kY ((h.ext e).ext a) Ω).mono ?_;rintro aL H _ ⟨x,A,K,hm⟩;have L:=hm.ls.cells;refine sJ λm M N j B=>?_;rw[dq (cs:=#[aL,Δ k,Δ o,.map (σ m)]) (by obtain⟨_,_,_,_,_,rfl,_⟩:=hm.ls;kernel_rfl)];refine bn λg O P q C=>?_;have Q:=e.size;have R:=a.size;have S:=x.size;have U:=j.size;exact⟨((((e.trans a).trans x).trans j).trans q),λh=>absurd I h,λ_ h=>absurd hi h,λ_ _=>⟨g,m,rfl,Ω,Ω,⟨aL,A,C,(hm.ext j).ext q⟩,B.ext q,I,hi,λp E=>by cases E⟩⟩
 .intro au y;rw[aX al.u h];simp only[bS,ah];refine⟨λV=>y _ _ ⟨Ext.refl _,true,rfl,λ_ I=>by have:=I.1;omega,λ_=>rfl⟩,λW=>?_⟩;refine (Bl h).mono ?_;rintro _ w2 _ ⟨rfl,a⟩;refine y _ _ ⟨a,_,rfl,?_⟩;rw[decide_eq_true_eq];exact⟨λr I=>r I.2,λr I=>r ⟨Ω,I⟩⟩
def iP (t:Λ) (i:Nat):Λ:=t.take i++p9 (6-i) 0
theorem Ko {t:Λ} {i:Nat} (hi:i<=t.length) (a:t.length<=6):(iP t i).length=6:=by simp[iP];omega
theorem Kp {t:Λ} {i:Nat} {x:Int} (a:t[i]? =σ x) (f:t.length<=6):(iP t i).set i x=iP t (i+1):=by
 have hi:=(x4.1 a).1;unfold iP;have e:(t.take i).length=i:=by rw[j5];omega
 rw[T8 _ _ Ω,e,U7,u9,a];have:6-i=(6-(i+1))+1:=Ω
 rw[this,List.replicate_succ];simp
theorem Kq (t:Λ):iP t t.length=pad t:=by simp[iP,pad]
def Bo (w:x3) (ac t:Λ) (v:x1) (w':x3):Prop:=Ext w w'/\ ∃ks e,v= .tuple #[ee ks,Δ e]/\ks.length=6/\(ds ac t->ks=pad t/\e=0)/\(¬ds ac t->e=3)
theorem Kr {g:Nat} {t:Λ} {o:Int} {D:Told} {aL:x1} (h:eJ w g m ac k o D) (H:aF .i64 w aL t):ai x7 HW [Γ g,aL] w (Bo w ac t):=by
 obtain⟨⟨sv,gs,K,hm⟩,_,I,_⟩:=h;have aH:=I.1;refine aw func187 ?_;refine bt cF.i λB J aI X C=>?_;refine bt cF.i λam w2 aJ L M=>?_;have y:=X.trans L;have aK:=X.size;have aN:=L.size;have aP:=C.lt;have aR:=M.lt;have aS:=K.lt;have C:=C.ext L;have aj:=K.ext y;rw[dp eP.u];simp only[Z7,aW];have N:∀ {f:x3} {ks:Λ} {e:Int},Ext w f->aa f am cF (ints .i8 ks)->aa f B cF sL->ks.length=6->(ds ac t->ks=pad t/\e=0)->(¬ds ac t->e=3)->
   V x7 (u5 cF (Γ am)) f λak=>av x7 (o5 cF (Γ B) ak) f λ(_:Unit) O=>V x7 (do loadVar cF (<-asAddr (Γ B))) O λan=>Bo w ac t (.tuple #[an,Δ e]) O:=by
  intro f ks e q r z G E P;rw[nP G r.range];refine ql G rfl z λO ao aU ap=>?_;rw[Kk G ap.range];exact⟨q.put ao Ω,ks,e,rfl,G,E,P⟩
 rw[aX al.u (H.ext y),aO fy.p 0 aj rfl,aX al.u (hm.ls.ext y)];simp only[bE,ah];have Y:ints .i8 (iP t 0)=sL:=by simp[iP,sL,ints]
 refine⟨λaq=>N y (ks:=iP t 0) (e:=3) (by rw[Y];exact M) C (by simp[iP]) (λE=>absurd (by rw[ss E]) aq) (λ_=>rfl),λZ=>?_⟩;have Z:t.length=ac.length:=Ω
 rw[aX al.u (H.ext y)];refine bY.range t.length (λi _ f=>Ext w f/\aa f am cF (ints .i8 (iP t i))/\aa f B cF sL/\ ∀ (j:Nat) (a x:Int),j<i->ac[j]? =σ a->t[j]? =σ x->0<=x/\x<a) Ω
  ⟨y,by rw[Y];exact M,C,λj a x ax=>Ω⟩ ?_ ?_
 .rintro i _ f az hi ⟨q,r,z,Q⟩ aA;simp only[aQ,ah];refine⟨λ_=>?_,λh=>Ω⟩;obtain⟨x,s⟩:=aE (l:=t) hi;obtain⟨a,A⟩:=aE (l:=ac) (i:=i) Ω;have aV:=I.2 a (x5 A);rw[be al.u ag.i Ψ (H.ext q) s];have ab:=Ko (t:=t) (i:=i) Ω Ω;refine aT (λv aB=>f=aB/\v= .bool (decide (¬(0<=x/\x<a)))) ?_ ?_
  .rintro _ _ ⟨rfl,rfl⟩;simp only[ah];refine⟨λaC=>N q r z ab (λE=>absurd ((nL.1 E).2 i a x A s) aC) (λ_=>rfl),λR=>?_⟩;have R:=Y7.1 R;rw[e3 ag.u fP.u,IH Ω Ω,vd cF.u fP.i Ω];refine bo fP.i rfl rfl r (by simp[ab];omega) λaY ad aZ ae=>?_;simp only[aM];refine aA _ _ ⟨q.put ad Ω,?_,z.U ad (by show ¬(B=am);omega),λj a' aD ax S W=>?_⟩
   .have e:(ints .i8 (iP t i)).set (0+i*1) (.int .i8 x)=ints .i8 (iP t (i+1)):=by
     rw[<-Kp s Ω];simp[ints,U9]
    rw[e] at ae;exact ae
   .by_cases aG:j=i
    .subst aG;rw[A] at S;rw[s] at W;cases S;cases W;exact R
    .exact Q j a' aD Ω S W
  .intro au af;simp only[aQ,ah];refine⟨λa1=>af _ _ ⟨rfl,by rw[decide_eq_true];omega⟩,λa2=>?_⟩;rw[aO fy.p 0 (K.ext q) rfl,be al.u ag.i Ψ (hm.ls.ext q) A,cU];refine af _ _ ⟨rfl,?_⟩;congr 1;exact decide_eq_decide.2 ⟨λh ay=>Ω,λh=>Ω⟩
 .rintro _ f az ⟨q,r,z,Q⟩;simp only[aQ,ah];refine⟨λh=>Ω,λ_=>?_⟩;rw[Kq] at r;exact N q r z (by simp[pad];omega) (λ_=>⟨rfl,rfl⟩) (λP=>absurd (nL.2 ⟨Z.symm,λj a x A s=>Q j a x (x4.1 s).1 A s⟩) P)
def ii (D:Told) (o:Int) (t:Λ):Int:=match D.find? (λp=>decide (p.1=t)) with
 |some p=>p.2
 |none=>o
theorem Bp {D:Told} (e:(D.map (·.1)).Nodup) {p q:Λ×Int} (f:p∈D) (r:q∈D) (h:p.1=q.1):p=q:=by
 obtain⟨i,hi⟩:=X9.1 f;obtain⟨j,a⟩:=X9.1 r;have h1:(D.map (·.1))[i]? =σ p.1:=by rw[x8,hi];rfl
 have s:(D.map (·.1))[j]? =σ p.1:=by rw[x8,a,h];rfl
 have:=kt e h1 s;subst this;rw[hi] at a;exact c7 a
theorem qn {D:Told} {o:Int} {t:Λ} (e:(D.map (·.1)).Nodup) (h:(t,c)∈D):ii D o t=c:=by
 unfold ii;cases a:D.find? (λp=>decide (p.1=t)) with
 |none=>
  have:=List.find?_eq_none.1 a _ h;simp at this
 |some p=>
  have h1:=List.find?_some a;have h1:p.1=t:=by simpa using h1
  have:=Bp e (List.mem_of_find?_eq_some a) h h1;rw[this]
theorem qo {D:Told} {o:Int} {t:Λ} (h:∀p∈D,p.1≠t):ii D o t=o:=by
 unfold ii;cases a:D.find? (λp=>decide (p.1=t)) with
 |none=>rfl
 |some p=>
  have h1:=List.find?_some a;have h1:p.1=t:=by simpa using h1
  exact absurd h1 (h p (List.mem_of_find?_eq_some a))
def k6 (D:Told) (t:Λ) (c o:Int) (D':Told):Prop:=(∀p,p∈D'↔(c≠o/\p=(t,c))\/(p∈D/\p.1≠t))/\D'.length<=D.length+1
theorem k6.cost {D D':Told} {t:Λ} {o:Int} (h:k6 D t c o D') (r:(D.map (·.1)).Nodup) (f:(D'.map (·.1)).Nodup) (s:Λ):ii D' o s=if s=t then c else ii D o s:=by
 by_cases I:s=t
 .subst I;rw[if_pos rfl];by_cases j:c=o
  .subst j;exact qo λp a he=>by
    rcases (h.1 p).1 a with e|e
    .exact e.1 rfl
    .exact e.2 he
  .exact qn f ((h.1 _).2 (.inl ⟨j,rfl⟩))
 .rw[if_neg I];by_cases he:∃p∈D,p.1=s
  .obtain⟨p,a,rfl⟩:=he;rw[qn (c:=p.2) r a];exact qn f ((h.1 _).2 (.inr ⟨a,I⟩))
  .have q:∀p∈D,p.1≠s:=λp a h=>he ⟨p,a,h⟩;rw[qo q];exact qo λp a e=>by
    rcases (h.1 p).1 a with⟨_,rfl⟩|⟨w,_⟩
    .exact I e.symm
    .exact q p w e
theorem Ks {D:Told} {t:Λ} {o v0:Int} (q:(D.map (·.1)).Nodup) (f:D[j]? =σ (t,v0)) (r:c≠o):k6 D t c o (D.set j (t,c)):=by
 have h:=(x4.1 f).1;refine⟨λp=>⟨λa=>?_,λa=>?_⟩,Ξ⟩
 .obtain⟨i,hi⟩:=X9.1 a;by_cases e:j=i
  .subst e;rw[j9 h] at hi;exact .inl ⟨r,(c7 hi).symm⟩
  .rw[Y0 e] at hi;refine .inr ⟨x5 hi,λhe=>e ?_⟩;exact kt q (x:=t) (by rw[x8,f];rfl) (by rw[x8,hi,Z6,he])
 .rcases a with⟨_,rfl⟩|⟨a,s⟩
  .exact x5 (j9 h)
  .obtain⟨i,hi⟩:=X9.1 a;have e:j≠i:=λhe=>by subst he;rw[f] at hi;cases hi;exact s rfl
   exact x5 (by rw[Y0 e];exact hi)
theorem Bq {D:Told} {t:Λ} {o:Int} (a:∀p∈D,p.1≠t) (e:c≠o):k6 D t c o (D++[(t,c)]):=by
 refine⟨λp=>?_,Ξ⟩;rw[l9,n9];exact⟨λh=>h.elim (λh=>.inr ⟨h,a p h⟩) (λh=>.inl ⟨e,h⟩),λh=>h.elim (λh=>.inr h.2) (λh=>.inl h.1)⟩
theorem Kt {D:Told} {t:Λ} {o v0:Int} (f:(D.map (·.1)).Nodup) (e:D[j]? =σ (t,v0)):k6 D t o o (D.eraseIdx j):=by
 refine⟨λp=>⟨λa=>?_,λa=>?_⟩,by have:=List.length_eraseIdx_le D j;omega⟩
 .refine .inr ?_;obtain⟨i,q,hi⟩:=List.mem_eraseIdx_iff_getElem?.1 a;refine⟨x5 hi,λhe=>q ?_⟩;exact kt f (x:=t) (by rw[x8,hi,Z6,he]) (by rw[x8,e];rfl)
 .rcases a with⟨h,_⟩|⟨a,r⟩
  .exact absurd rfl h
  .obtain⟨i,hi⟩:=X9.1 a;exact List.mem_eraseIdx_iff_getElem?.2 ⟨i,λhe=>by subst he;rw[e] at hi;cases hi;exact r rfl,hi⟩
theorem Ku {D:Told} {t:Λ} {o:Int} (a:∀p∈D,p.1≠t):k6 D t o o D:=
 ⟨λp=>⟨λh=>.inr ⟨h,a p h⟩,λh=>h.elim (λh=>absurd rfl h.1) (λh=>h.1)⟩,Ω⟩
theorem Br {g:Nat} {t:Λ} {o:Int} {D:Told} (h:eJ w g m ac k o D) (f:ds ac t) (a:(D.map jN)[j]? =σ (ee (pad t),v)):∃c,D[j]? =σ (t,c)/\v=Δ c:=by
 rw[x8] at a;obtain⟨p,e,he⟩:=X3.1 a;have h1:=Bm (h.2.2.2.2 p (x5 e)).1 f (congrArg Prod.fst he);exact⟨p.2,by rw[e,<-h1],(congrArg Prod.snd he).symm⟩
theorem Bs {g:Nat} {t:Λ} {o:Int} {D:Told} (h:eJ w g m ac k o D) (a:∀p∈D.map jN,p.1≠ee (pad t)):∀p∈D,p.1≠t:=λp e he=>a (jN p) (l7.2 ⟨p,e,rfl⟩) (by rw[jN,he])
def Kv (w:x3) (g m:Nat) (ac t:Λ) (k o c:Int) (D:Told) (v:x1) (w':x3):Prop:=
 (¬(ds ac t/\cv c k)->v=Δ 3/\Ext w w')/\(ds ac t/\cv c k->v=Δ 0/\ae (λr=>r=m) w w'/\ ∃D',k6 D t c o D'/\eJ w' g m ac k o D')
theorem Bt {g:Nat} {t:Λ} {o:Int} {D:Told} {aL:x1} (h:eJ w g m ac k o D) (af:aF .i64 w aL t):ai x7 Hx [Γ g,aL,Δ c] w (Kv w g m ac t k o c D):=by
 refine aw func147 ?_;refine (Kr h af).mono ?_;rintro _ J _ ⟨X,ks,e,rfl,N,ag,aj⟩;rw[bu,bw];refine bt cF.i λam w2 aE Y Z=>?_;refine ql N rfl Z λO ak aG aa=>?_;have aH:=X.size;have aI:=Y.size;have aJ:=Z.lt;have H:Ext w O:=(X.trans Y).put ak Ω;refine aT (λv P=>v=Δ 0/\(ds ac t/\cv c k)/\ae (λr=>r=m) w P/\ ∃D',k6 D t c o D'/\eJ P g m ac k o D') ?_ ?_
 .rintro _ P ⟨_,h1,E⟩;exact⟨λh=>absurd h1 h,λ_=>⟨rfl,E⟩⟩
 intro au al;simp only[bE,ah];by_cases A:ds ac t
 rotate_left
 .have he:=aj A;subst he;exact⟨λ_=>⟨λ_=>⟨rfl,H⟩,λh=>absurd h.1 A⟩,λh=>by simp at h⟩
 obtain⟨rfl,rfl⟩:=ag A;refine⟨λh=>absurd rfl h,λ_=>?_⟩;have x:=h.ext H;obtain⟨⟨sv,gs,y,hm⟩,K,I,an,ao⟩:=id x;rw[aO fy.p 1 y rfl];refine jJ.mono ?_;rintro _ ap _ ⟨rfl,z⟩;have aq:=H.trans z;by_cases hi:cv c k
 rotate_left
 .simp only[hi,decide_false,bF,V0,bO];exact⟨λ_=>⟨rfl,aq⟩,λh=>absurd h.2 hi⟩
 simp only[hi,decide_true,bF,Y5,aW];rw[aO fy.p 2 (y.ext z) rfl];simp only[bi,ah,ei];have ab:=vF (qm I A);have av:∀ {D':Told},k6 D t c o D'-> ∀p∈D',ds ac p.1/\cv p.2 k/\p.2≠o:=λhu p ax=>by
  rcases (hu.1 p).1 ax with⟨C,rfl⟩|⟨h1,_⟩
  .exact⟨A,hi,C⟩
  .exact ao p h1
 have L:∀ {G B:x3} {D':Told},Ext ap G->ae (λr=>r=m) G B->c5 B m (D'.map jN)->k6 D t c o D'->au (Δ 0) B:=by
  intro G B D' f q az hu;have aA:g≠m:=λhe=>by
   obtain⟨aB,aC,ay,_⟩:=K;have y:O.heap[g]? =_:=y;rw[he,ay] at y;cases y
  have aD:∀r,leads sv r->r≠m:=λr ad he=>by
   subst he;obtain⟨aB,aC,ay,_⟩:=K;obtain⟨_,⟨rfl,_⟩|⟨cap,cs,rfl,M,_⟩⟩:=hm
   .obtain⟨a,n,c,h1,_⟩:=ad;cases h1
   .obtain⟨a,n,c,h1,E⟩:=ad;cases h1;have M:O.heap[gs]? =_:=M;have E:gs=r:=E;rw[E,ay] at M;cases M
  have Q:=z.trans f;exact al _ _ ⟨rfl,⟨A,hi⟩,((H.trans Q).U _).trans q,D',hu,⟨sv,gs,(y.ext Q).U q aA,bq (hm.ext Q) q aD⟩,az,I,an,av hu⟩
 refine⟨λC G f _ _=>?_,λC G f _ _=>?_⟩
 .rw[aO fy.p 3 ((y.ext z).ext f) rfl,nP N ((aa.ext z).ext f).range];subst C;refine Kd iD.u keys ((K.ext z).ext f) x.oY ab (λj v0 B R s q=>?_) (λB S s q=>?_)
  .obtain⟨gX,V,_⟩:=Br x A R;rw[mC] at s;exact L f q s (Kt x.nodup V)
  .exact L f q s (Ku (Bs x S))
 .rw[aO fy.p 3 ((y.ext z).ext f) rfl,nP N ((aa.ext z).ext f).range];refine qk iD.u keys ((K.ext z).ext f) x.oY ab (λj v0 B R s q=>?_) (λB S s q=>?_)
  .obtain⟨gX,V,_⟩:=Br x A R;have W:(D.map jN).set j (ee (pad t),Δ c)=(D.set j (t,c)).map jN:=by rw[U9];rfl
   rw[W] at s;exact L f q s (Ks x.nodup V C)
  .have W:D.map jN++[(ee (pad t),Δ c)]=(D++[(t,c)]).map jN:=by rw[j6];rfl
   rw[W] at s;exact L f q s (Bq (Bs x S) C)
theorem Kw {g:Nat} {t:Λ} {o:Int} {D:Told} {b:Bool} (h:eJ w g m ac k o D) (e:ds ac t)
  (h1:∀c,(t,c)∈D->K (if b then .tuple #[Δ c,.bool true] else Δ c)) (s:(∀p∈D,p.1≠t)->K (if b then .tuple #[Δ 0,.bool false] else Δ 0)):
  V x7 (Instr.lookup iD (.map (σ m)) (ee (pad t)) b) w K:=by
 have f:=vF (qm h.2.2.1 e);by_cases he:∃p∈D,p.1=t
 .obtain⟨p,a,rfl⟩:=he;obtain⟨j,x⟩:=X9.1 a;rw[qj iD.u keys h.2.1 h.oY f (j:=j) (v:=Δ p.2) (by rw[x8,x];rfl)];exact h1 p.2 a
 .have r:∀p∈D,p.1≠t:=λp a h=>he ⟨p,a,h⟩;rw[sK iD.u keys ⟨_,_,ak.i⟩ h.2.1 h.oY f (λq y hk=>by
   obtain⟨p,a,rfl⟩:=l7.1 y;exact r p a (Bm (h.2.2.2.2 p a).1 e hk))]
  exact s r
theorem Kx {g:Nat} {o:Int} {D:Told} (h:eJ w g m ac k o D):ai x7 HZ [Γ g] w λv w'=>v=Δ D.length/\Ext w w':=by
 obtain⟨⟨sv,gs,a,hm⟩,e,_⟩:=h;refine aw func192 ?_;rw[dp eP.u];simp only[Z7,aW];rw[aO fy.p 3 a rfl,Ke iD.u e];exact⟨Ξ,Ext.refl _⟩
theorem Ky {g:Nat} {o:Int} {D:Told} (h:eJ w g m ac k o D):ai x7 Iv [Γ g] w λv w'=>v=Δ k/\Ext w w':=by
 obtain⟨⟨sv,gs,a,hm⟩,_⟩:=h;refine aw func248 ?_;rw[dp eP.u];simp only[Z7,aW];rw[aO fy.p 1 a rfl];exact⟨rfl,Ext.refl _⟩
theorem vH {g:Nat} {o:Int} {D:Told} (h:eJ w g m ac k o D):ai x7 H0 [Γ g] w λv w'=>Ext w w'/\ ∃a,w.heap.size<=a/\ap .i64 ag w' a v ac:=by
 obtain⟨⟨sv,gs,e,hm⟩,_,I,_⟩:=h;have f:=I.1;refine aw func193 ?_;rw[dp eP.u];simp only[Z7,aW];rw[aO fy.p 0 e rfl];exact kY hm.ls Ω
theorem Kz {g:Nat} {o:Int} {D:Told} (h:eJ w g m ac k o D):ai x7 Iw [Γ g] w λv w'=>v=Δ ac.length/\Ext w w':=by
 refine aw func249 ?_;refine (vH h).mono ?_;rintro v J _ ⟨a,e,_,hm⟩;rw[aX al.u hm.ls];exact⟨rfl,a⟩
end Go.Proofs.YtjjhhcfgfdepdaaGreatDoor
namespace Go.Vc
open Go Go.RowKit
set_option maxRecDepth 100000
def leadsTo (v:x1) (r:Nat):Prop:=∃a n c,v= .slice (σ a) n c/\a.block=r
theorem e7 (h:leadsTo (.slice ν 0 0) r):False:=by
 obtain⟨a,n,c,h,_⟩:=h;cases h
section
variable {α:Type} {f:α->List x1} {k:Nat}
theorem ij:∀ {L:List α},(∀a∈L,(f a).length=k)->(L.flatMap f).length=L.length*k
 |[],_=>Ξ
 |a::L,h=>by
  rw[X2,p8,h a (.head _),ij λb e=>h b (.tail _ e),b8,U4];omega
theorem qp:∀ {L:List α} (i:Nat),(∀a∈L,(f a).length=k)->(L.flatMap f).take (i*k)=(L.take i).flatMap f
 |[],i,_=>Ξ
 |a::L,0,_=>Ξ
 |a::L,i+1,h=>by
  have e:=h a (.head _);rw[X2,List.take_succ_cons,X2,<-qp i λb j=>h b (.tail _ j),U4,Nat.one_mul,Nat.add_comm,List.take_append,e];congr 1
  .exact o9 Ω
  .congr 1;omega
theorem sM:∀ {L:List α} (i:Nat),(∀a∈L,(f a).length=k)->(L.flatMap f).drop (i*k)=(L.drop i).flatMap f
 |[],i,_=>Ξ
 |a::L,0,_=>Ξ
 |a::L,i+1,h=>by
  have e:=h a (.head _);rw[X2,List.drop_succ_cons,<-sM i λb j=>h b (.tail _ j),U4,Nat.one_mul,Nat.add_comm,List.drop_append,e];rw[List.drop_of_length_le Ω,List.nil_append];congr 1;omega
theorem oZ {L:List α} {i:Nat} {a:α} (h:∀a∈L,(f a).length=k) (hi:L[i]? =σ a) (e:(f a)[j]? =σ v):(L.flatMap f)[i*k+j]? =σ v:=by
 have q:=(x4.1 e).1;rw[<-List.getElem?_drop,sM i h];have p:=x4.1 hi;rw[W5 p.1,p.2,X2,Y8 q];exact e
theorem vI {L:List α} {i:Nat} {a:α} (h:∀a∈L,(f a).length=k) (e:(f a).length=k) (hi:i<L.length):over (L.flatMap f) (i*k) (f a)=(L.set i a).flatMap f:=by
 have p:=ij h;have j:(i+1)*k<=L.length*k:=X5 _ hi;rw[U4,Nat.one_mul] at j;rw[mo Ω,e,qp i h,show i*k+k=(i+1)*k by rw[U4,Nat.one_mul],sM (i+1) h,List.set_eq_take_append_cons_drop,if_pos hi,List.flatMap_append,X2,c9]
theorem sN {vs:List x1} {o:Nat} (h1:o+vs.length<=m) (a:m<=cs.length):(over cs o vs).take m=over (cs.take m) o vs:=by
 rw[mo Ω,mo (by rw[j5];omega),c9,c9,List.take_append,List.take_append,List.take_take,List.take_take,List.drop_take,j5];rw[show min m o=o by omega,show min o m=o by omega,show min o cs.length=o by omega,o9 (l:=vs) Ω];congr 3;omega
def bg (f:α->List x1) (k:Nat) (e:r9) (w:x3) (g:Nat) (v:x1) (L:List α):Prop:=bV w g e k v L.length (L.flatMap f)/\ ∀a∈L,(f a).length=k
variable {P:W9} {w:x3} {e:r9} {g:Nat} {v:x1} {L:List α}
theorem bg.nil (f:α->List x1) (k:Nat) (e:r9) (w:x3) (g:Nat):bg f k e w g (.slice ν 0 0) []:=⟨bV.nil w g e k,λa h=>by cases h⟩
theorem bg.leads (h:bg f k e w g v L) (j:leadsTo v r):r=g/\g<w.heap.size:=by
 obtain⟨_,⟨rfl,_⟩|⟨cap,cs,rfl,p,_⟩⟩:=h.1
 .exact (e7 j).elim
 .obtain⟨a,n,c,h1,q⟩:=j;cases h1;exact⟨q.symm,p.lt⟩
theorem bg.U (h:bg f k e w g v L) (a:ae S w w') (j:∀r,leadsTo v r->¬S r):bg f k e w' g v L:=
 ⟨⟨h.1.1,h.1.2.imp id λ⟨cap,cs,h1,p,q⟩=>⟨cap,cs,h1,p.U a (j g ⟨_,_,_,h1,rfl⟩),q⟩⟩,h.2⟩
theorem bg.ext (h:bg f k e w g v L) (a:Ext w w'):bg f k e w' g v L:=h.U (a.U λ_=>False) λ_ _ h=>h
theorem bg.sl (h:bg f k e w g v L):b7 w k v L.length (L.flatMap f):=h.1.sl
theorem bg.le (h:bg f k e w g v L):L.length<=9223372036854775807:=by
 have:=b7.le h.sl;simpa[maxLen] using this
theorem eA {a:r9} (j:P.underlying t=σ (.slice e)) (h:bg f k e w g v L):V P (V3 #[t] a #[v]) w K=K (Δ L.length):=by
 obtain⟨_,_,_,_,_,rfl,_⟩:=h.sl;exact h9 j
theorem db {q:o6} {b:Nat} {i:Nat} (a:y=(i:Int)) (j:P.underlying t=σ (.slice e)) (hi:aN P e k b z) (h:bg f k e w g v L) (p:i<L.length):
  V P (c8 t v (.int q y)) w K=K (.pointer (σ ⟨g,i*k,ν⟩)):=by
 subst a;obtain⟨_,⟨rfl,r⟩|⟨cap,cs,rfl,s,x⟩⟩:=h.1
 .omega
 .rw[fz j hi p (λ_=>rfl),W0]
theorem bg.range {i:Nat} {a:α} (h:bg f k e w g v L) (hi:L[i]? =σ a):w.rangeAt g (i*k) (f a):=λj u hu=>by
 have h1:=oZ h.2 hi hu;have s:=(x4.1 hi).1;obtain⟨_,⟨rfl,x⟩|⟨cap,cs,rfl,q,_,_,y,r⟩⟩:=h.1
 .omega
 .have p:=(x4.1 h1).1;rw[ij h.2] at p;rw[<-r,X4 p] at h1;exact q.cell h1
theorem KA {b:Nat} {i:Nat} {a:α} {K:Unit->x3->Prop} (hi:aN P t k b z) (h:bg f k e w g v L) (j:(f a).length=k) (h1:∀u∈f a,u.oneCell'=true) (s:i<L.length)
  (A:∀w',ae (λr=>leadsTo v r) w w'->w'.heap.size=w.heap.size->bg f k e w' g v (L.set i a)->K () w'):av P (o5 t (.pointer (σ ⟨g,i*k,ν⟩)) (.agg (f a).toArray)) w K:=by
 have M:=ij h.2;have B:(i+1)*k<=L.length*k:=X5 _ s;rw[U4,Nat.one_mul] at B;obtain⟨⟨N,⟨rfl,O⟩|⟨cap,cs,rfl,C,x,E,y,F⟩⟩,p⟩:=h
 .omega
 .have G:L.length*k<=cs.length:=by rw[y];exact X5 _ x
  refine zy hi j h1 C Ω λw' H I J=>A w' (H.mono λr _ he=>⟨_,_,_,rfl,he.symm⟩) I ⟨⟨?_,.inr ⟨cap,_,Ξ,J,by simpa using x,E,by rw[mn,y],?_⟩⟩,λb q=>?_⟩
  .rw[ij (L:=L.set i a) λb q=>by
    rcases W3 q with h|rfl
    .exact p b h
    .exact j]
  .rw[Z5,<-vI p j s,<-F,sN (by rw[j];omega) G]
  .rcases W3 q with h|rfl
   .exact p b h
   .exact j
theorem o0 {b:Nat} {u:x1} {i:Nat} {a a':α} {K:Unit->x3->Prop} (hi:aN P t 1 b z) (hu:u.cells= #[u]) (h1:u.oneCell'=true) (h:bg f k e w g v L) (s:L[i]? =σ a) (A:f a'=(f a).set j u) (W:j<k)
  (M:∀w',ae (λr=>leadsTo v r) w w'->w'.heap.size=w.heap.size->bg f k e w' g v (L.set i a')->K () w'):av P (o5 t (.pointer (σ ⟨g,i*k+j,ν⟩)) u) w K:=by
 have B:=(x4.1 s).1;have X:=ij h.2;have N:(i+1)*k<=L.length*k:=X5 _ B;rw[U4,Nat.one_mul] at N;have O:(f a).length=k:=h.2 a (x5 s);have q:(f a').length=k:=by rw[A,Z5];exact O
 have Q:(L.flatMap f).set (i*k+j) u=(L.set i a').flatMap f:=by
  rw[<-vI h.2 q B];refine Y6 λp=>?_;rw[oG _ _ _ Ω,X6,q];by_cases C:i*k<=p/\p<i*k+k
  .rw[if_pos C,A,X6];by_cases E:i*k+j=p
   .rw[if_pos E,if_pos Ω,if_pos Ω,if_pos Ω]
   .rw[if_neg E,if_neg Ω];obtain⟨y,F⟩:∃y,(f a)[p-i*k]? =σ y:=⟨_,x6 Ω⟩;have:=oZ h.2 s F;rw[show i*k+(p-i*k)=p by omega] at this;rw[this,F]
  .rw[if_neg C,if_neg Ω]
 obtain⟨⟨Y,⟨rfl,Z⟩|⟨cap,cs,rfl,R,G,S,H,T⟩⟩,J⟩:=h
 .omega
 .have aa:L.length*k<=cs.length:=by rw[H];exact X5 _ G
  refine bo hi hu h1 R Ω λw' U I V=>M w' (U.mono λr _ he=>⟨_,_,_,rfl,he.symm⟩) I ⟨⟨?_,.inr ⟨cap,_,Ξ,V,by simpa using G,S,by rw[Z5,H],?_⟩⟩,λb x=>?_⟩
  .rw[ij (L:=L.set i a') λb x=>by
    rcases W3 x with h|rfl
    .exact J b h
    .exact q]
  .rw[Z5,<-Q,<-T,List.take_set]
  .rcases W3 x with h|rfl
   .exact J b h
   .exact q
theorem ik {M:r9} {b:Nat} {x:x1} {a:α} {K:x1->x3->Prop} (A:P.underlying t=σ (.slice e)) (hi:aN P e k b z) (H:z.cells.size=k) (h:bg f k e w g v L) (F:b7 w k x 1 (f a)) (h1:∀u∈f a,u.oneCell'=true)
  (B:(L.length+1)*b<=140737488355328) (I:L.length+1<=9223372036854775807)
  (J:∀j p w',bg f k e w' p j (L++[a])->(∀r,leadsTo j r->leadsTo v r\/w.heap.size<=r)->ae (λr=>leadsTo v r) w w'->K j w'):av P (b9 #[t,t] M #[v,x]) w K:=by
 have N:(f a).length=k:=by have:=F.1;omega
 have C:∀j p w',bV w' p e k j (L.length+1) (L.flatMap f++f a)->bg f k e w' p j (L++[a]):=λj p w' hm=>⟨by simpa using hm,λb B=>by
  rcases l9.1 B with h'|h'
  .exact h.2 b h'
  .rw[n9.1 h'];exact N⟩
 rcases h.1.2 with⟨q,O⟩|⟨cap,cs,q,Q,_⟩
 .have hm:bV w w.heap.size e k v L.length (L.flatMap f):=⟨h.1.1,.inl ⟨q,O⟩⟩;subst q;refine nu A A hi H hm F h1 (by simpa using B) (by simpa[maxLen] using I) λj p w' E s G=>J j p w' (C _ _ _ s) (λr y=>.inr ?_) (G.mono λr y h=>Ω);have:=((C _ _ _ s).leads y).1;omega
 .refine nu A A hi H h.1 F h1 (by simpa using B) (by simpa[maxLen] using I) λj p w' E s G=>J j p w' (C _ _ _ s) (λr y=>?_) (G.mono λr y h=>⟨_,_,_,q,h.symm⟩);have:=((C _ _ _ s).leads y).1;rcases E with E|E
  .exact .inl ⟨_,_,_,q,by show g=r;omega⟩
  .exact .inr Ω
theorem KB {p:r9} {b:Nat} {x:x1} {a:α} {K:x1->x3->Prop} (q:P.underlying t=σ (.slice e)) (hi:aN P e k b z) (s:z.cells.size=k) (h:bg f k e w g v L) (y:b7 w k x 1 (f a)) (h1:∀a,∀u∈f a,u.oneCell'=true)
  (A:(L.length+1)*b<=140737488355328) (B:L.length+1<=9223372036854775807)
  (C:∀j E w',bg f k e w' E j (L++[a])->(∀r,leadsTo j r->leadsTo v r\/w.heap.size<=r)->ae (λr=>leadsTo v r) w w'->K j w'):av P (b9 #[t,t] p #[v,x]) w K:=ik q hi s h y (h1 a) A B C
theorem h0 {b:Nat} {a:α} {x:x1} {K:x1->x3->Prop} (q:P.underlying t=σ (.slice e)) (hi:aN P e k b z) (B:k<=100000) (j:x.cells=(f a).toArray) (p:(f a).length=k)
  (r:∀v g w',g=w.heap.size->Ext w w'->bg f k e w' g v [a]->K v w'):av P (Y4 t 1 #[(0,x)]) w K:=
 jG q hi Ω (cs:=x.cells) (zH Ξ (by rw[j];simpa using p)) λg w' s y h=>by
  have h:aa w' g e (f a):=by rw[j] at h;simpa using h
  exact r _ g w' s y ⟨by simpa using bV.full (k:=k) (n:=1) h Ω (by simp[maxLen]),λc A=>by rw[n9.1 A];exact p⟩
end
end Go.Vc
namespace Go.Proofs.YtjjhhcfgfdepdaaGreatDoor
open Go Go.Vc Go.RowKit Go.Proofs Go.Proofs.Tryz
set_option maxRecDepth 100000
theorem vJ {α:Type}:∀ {l:List α} {j:Nat} {x:α},l[j]? =σ x->(x::l.eraseIdx j).Perm l
 |[],j,x,h=>by simp at h
 |a::l,0,x,h=>by simp at h;subst h;exact List.Perm.refl _
 |a::l,j+1,x,h=>by
  simp at h;rw[List.eraseIdx_cons_succ];exact (List.Perm.swap a x _).trans ((vJ h).cons a)
theorem Bu {α:Type} {l:List α} (h:j<l.length):(l.eraseIdx j).length+1=l.length:=by
 rw[List.length_eraseIdx,if_pos h];omega
def o1 (w:x3) (a:Nat):Nat:=match w.heap[a]? with
 |some (.mapIter (σ m) _ seen _)=>(match w.heap[m]? with
  |some (.map e _)=>(leftOf e seen).size
  |_=>0)
 |_=>0
theorem sO {d left:List (x1×x1)} {e:Option (x1×x1)} (h:hB w a m d left e):o1 w a=left.length:=by
 obtain⟨j,p,seen,gX,h1,_,_,f,_,rfl,_⟩:=h;unfold o1;rw[f];simp only;rw[h1];simp
theorem KC {w0:x3} {d d0 left:List (x1×x1)} {e:Option (x1×x1)} (h:hB w a m d left e) (hm:c5 w0 m d0) (h1:Ext w0 w) (j:Ext w0 w') (hi:eU w w'):hB w' a m d left e:=by
 obtain⟨p,c,s,gX,q,r,x,y,z⟩:=h;obtain⟨A,B,f1,_⟩:=hm;have g1:=h1.aV m _ f1 rfl;have f:=j.aV m _ f1 rfl;rw[q] at g1;rw[<-g1] at f;exact⟨p,c,s,gX,f,r,x,hi a _ y rfl,z⟩
abbrev nQ (w:x3) (g:Nat) (v:x1) (L:List (Λ)):Prop:=bg (ints .i8) 6 cF w g v L
theorem Bv {k:o6}:∀u∈ints k l,u.oneCell'=true:=λu hu=>by
 obtain⟨x,_,rfl⟩:=l7.1 hu;rfl
theorem keysIter {dg:Nat} {d:List (x1×x1)} {KS:List (Λ)} {w0:x3} (R:aa w0 dg iD [.map (σ m)]) (hm:c5 w0 m d) (S:d.map (·.1)=KS.map ee) (U:∀ks∈KS,ks.length=6):
  ou x7 true lM [Γ dg] ([]:List (Λ)) (λh=>h.Perm KS) (λh vs h' _=>∃ks∈KS,h.length<KS.length/\vs=[ee ks]/\h'=h++[ks]) (λw=>Ext w0 w):=by
 refine⟨lM.enters,λl au aE w f _ V q W=>?_⟩;refine pT func246 ?_;rw[aB Ψ ((R.ext q).Qz rfl)];refine av.cq (Bf iD.u (hm.ext q) λB J X r aF Y Z=>?_);refine⟨λw2=>∃h a left C,au h w2/\Ext w0 w2/\w.heap.size<=w2.heap.size/\hB w2 B m d left C/\left.map (·.1)=a.map ee/\(h++a).Perm KS,λw2=>o1 w2 B,
  ⟨[],KS,d,ν,f _ _ _ r Z.b W,q.trans r,r.size,Y,S,List.Perm.refl _⟩,?_⟩
 rintro w2 ⟨h,a,left,C,E,ab,aG,G,s,e⟩;have ac:left.length=a.length:=by have:=congrArg T7 s;simpa using this
 refine Bh G (λh=>by cases h) (λad=>?_) (λj p ae H I af K=>?_)
 .rw[iF (v:=.bool false) rfl,aW];subst ad;have:a=[]:=Z0 (by rw[<-ac];rfl);subst this;rw[W7] at e;exact .inl ⟨h,e,E⟩
 .rw[iF (v:=.bool true) rfl,bO];refine Bi K ?_;obtain⟨ks,x,ag⟩:∃ks,a[j]? =σ ks/\p.1=ee ks:=by
   have h1:(left.map (·.1))[j]? =σ p.1:=by rw[x8,H];rfl
   rw[s,x8] at h1;obtain⟨ks,L,ah⟩:=X3.1 h1;exact⟨ks,L,ah.symm⟩
  have M:ks∈KS:=e.mem_iff.1 (l9.2 (.inr (x5 x)));have N:=U ks M;rw[iF (v:=p.1) rfl,ag];refine av.cq (bt cF.i λaH aI aJ ai aj ak=>?_);refine av.cq (ql N rfl aj λy al aK am an=>?_);rw[nP N am.range];have z:Ext ae y:=ai.put al Ω;have O:=ak.trans an;have P:Ext w0 y:=(ab.trans I).trans z;have ao:=f _ _ _ I (by rw[<-X];exact af) E;have ap:=f _ _ _ z O.b ao;have aq:=K.ext z O.kb;have aw:h.length<KS.length:=by
   have h1:=e.length_eq;have L:=(x4.1 x).1;rw[p8] at h1;omega
  refine⟨rfl,(V h (h++[ks]) _ y P ⟨ks,M,aw,rfl,rfl⟩ ap).mono ?_⟩;rintro _ ax (⟨rfl,Q,ay,az⟩|⟨rfl,aA⟩)
  .simp only[bF,Y5,aW];have A:=KC aq hm P Q (az rfl).kb;have aC:w.heap.size<=ax.heap.size:=by
    obtain⟨_,_,_,_,_,_,_,aD,_⟩:=A;have:=(j0.1 aD).1;omega
   refine⟨⟨h++[ks],a.eraseIdx j,left.eraseIdx j,σ p,ay,Q,aC,A,?_,?_⟩,?_⟩
   .rw[<-mC,s,mC]
   .refine List.Perm.trans ?_ e;rw[c9];exact List.Perm.append_left h (vJ x)
   .rw[sO A,sO G];have:=Bu (x4.1 H).1;omega
  .simp only[bF,V0,bO];exact .inr ⟨h,aA⟩
theorem KD:ai x7 Ie [.map (σ m)] w λr w'=>Ext w w'/\ ∃g,r= .func (.func lM) #[] #[Γ g]/\w.heap.size<=g/\aa w' g iD [.map (σ m)]:=by
 refine aw func216 ?_;refine bn λg J f a e=>?_;rw[mm];exact⟨a,g,rfl,Ω,e⟩
theorem KE {dg:Nat} {d:List (x1×x1)} {KS:List (Λ)} (X:aa w dg iD [.map (σ m)]) (hm:c5 w m d) (Y:d.map (·.1)=KS.map ee) (G:∀ks∈KS,ks.length=6) (aC:KS.length<=1000000):
  ai x7 Iy [.slice ν 0 0,.func (.func lM) #[] #[Γ dg]] w λv w'=>Ext w w'/\ ∃g L,(∀r,leadsTo v r->w.heap.size<=r)/\L.Perm KS/\nQ w' g v L:=by
 refine jg func259 ?_;refine bn λgs J aD H s=>?_;have s:aa J gs jf [.slice ν 0 0]:=s;have aE:=s.lt;refine lE.old ⟨List (Λ),true,_,_,_,_,_,_,λh w'=>ae (λr=>w.heap.size<=r) w w'/\ ∃v g,aa w' gs jf [v]/\(∀r,leadsTo v r->w.heap.size<=r/\r≠gs)/\nQ w' g v h,λ_ _ _=>False,rfl,keysIter X hm Y G,?_,λ_ _ j h=>h.trans j,
  λ_ _ _ j h=>⟨h.1.trans (j.U _),by obtain⟨v,g,h1,Z,ab⟩:=h.2;exact⟨v,g,h1.ext j,Z,ab.ext j⟩⟩,λ_ _ _ _ _ h=>h,H,⟨H.U _,_,0,s,λr h=>(e7 h).elim,bg.nil _ _ _ _ _⟩,?_,?_,λ_ _ h=>h.elim,λ_ _ _ h=>h.elim⟩
 .rintro h _ h' w' ⟨ks,_,_,rfl,_⟩;rfl
 .rintro a h h' w2 ac ⟨ks,ad,aF,af,rfl⟩ ⟨I,v,g,z,p,A⟩;cases af;have B:=G ks ad;have aG:h.length<=1000000:=Ω
  refine av.cq (bt cF.i λaH aI aJ ag K ah=>?_);refine av.cq (ql B rfl K λaj ak aK al am=>?_);intro aL M _ an;have aM:=K.lt;have ao:Ext w2 aj:=ag.put ak Ω;have q:=ao.trans M;rw[aB Ψ ((z.ext q).Qz rfl),nP B (al.ext M).range];refine av.cq (h0 (f:=ints .i8) (a:=ks) jf.u cF.i Ω (by simp[ee,x1.cells]) (by simp[B]) λa ga aN aO x ap aq=>?_);have N:=ap.sl;rw[X2,List.flatMap_nil,W7] at N;refine av.cq (KB jf.u cF.i rfl ((A.ext q).ext x) N (λa=>Bv) Ω Ω λO au P C aw y ax=>?_);have aP:=I.size;have aQ:=q.size;have aR:=x.size;have aS:=z.lt;have Q:∀r,leadsTo O r->w.heap.size<=r/\r≠gs:=λr e=>by
   rcases aw r e with h|h
   .exact p r h
   .omega
  have E:aa P gs jf [v]:=((z.ext q).ext x).U y (λh=>(p gs h).2 rfl);refine av.cq (bo jf.i (by obtain⟨_,_,_,_,_,rfl,_⟩:=C.sl;rfl) (by obtain⟨_,_,_,_,_,rfl,_⟩:=C.sl;rfl) E Ξ λR S aT ay az=>?_);have V:ae (λr=>w.heap.size<=r) w2 R:=(((q.trans x).U _).trans (y.mono λr _ h=>(p r h).1)).trans (S.mono λr _ h=>by show w.heap.size<=r;omega);refine⟨ac.then V (λr e h=>by have h:w.heap.size<=r:=h;omega),⟨I.trans V,O,au,ay,Q,C.U S λr e h=>(Q r e).2 h⟩,λ_=>?_⟩;exact ((((ah.kb.trans am.kb).trans an).trans aq.kb).trans ax.kb).trans az.kb
 .rintro h P aA ⟨y,v,g,E,p,A⟩;rw[aB Ψ (E.Qz rfl)];intro R W _;exact⟨(y.ext λr e h=>by have:w.heap.size<=r:=h;omega).trans W,g,h,λr e=>(p r e).1,aA,A.ext W⟩
theorem KF {dg:Nat} {d:List (x1×x1)} {KS:List (Λ)} (a:aa w dg iD [.map (σ m)]) (hm:c5 w m d) (e:d.map (·.1)=KS.map ee) (f:∀ks∈KS,ks.length=6) (j:KS.length<=1000000):
  ai x7 Is [.func (.func lM) #[] #[Γ dg]] w λv w'=>Ext w w'/\ ∃g L,(∀r,leadsTo v r->w.heap.size<=r)/\L.Perm KS/\nQ w' g v L:=by
 refine aw func244 ?_;exact (KE a hm e f j).mono λ_ _ _ h=>h
def gu:Λ->Int
 |[]=>0
 |x::l=>x*32 ^ l.length+gu l
theorem vK (n:Nat):(0:Int)<32 ^ n:=Int.pow_pos Ω
theorem sP:∀ (l:Λ),(∀x∈l,0<=x/\x<32)->0<=gu l/\gu l<32 ^ l.length
 |[],_=>by simp[gu]
 |x::l,h=>by
  have j:=sP l λy a=>h y (.tail _ a);have f:=h x (.head _);have p:=vK l.length;simp only[gu,b8];have e:(32:Int) ^ (l.length+1)=32*32 ^ l.length:=by rw[Int.pow_succ,Int.mul_comm]
  have h1:x*32 ^ l.length<=31*32 ^ l.length:=Int.mul_le_mul_of_nonneg_right Ω Ω;have q:0<=x*32 ^ l.length:=Int.mul_nonneg f.1 Ω;rw[e];omega
def il:Λ->Λ->Int
 |x::a,y::b=>if x<y then-1 else if y<x then 1 else il a b
 |_,_=>0
theorem Bw:∀ (a b:Λ),a.length=b.length->(∀x∈a,0<=x/\x<32)->(∀x∈b,0<=x/\x<32)->(il a b<0↔gu a<gu b)/\(gu a=gu b->a=b)
 |[],[],_,_,_=>by simp[il]
 |[],_::_,h,_,_=>by simp at h
 |_::_,[],h,_,_=>by simp at h
 |x::a,y::b,h,s,w=>by
  have j:a.length=b.length:=by simpa using h
  have p:∀x∈a,0<=x/\x<32:=λz e=>s z (.tail _ e);have q:∀x∈b,0<=x/\x<32:=λz e=>w z (.tail _ e);have r:=Bw a b j p q;have A:=sP a p;have C:=sP b q;have E:=vK b.length;simp only[il,gu];rw[j] at A ⊢;have step:∀u v:Int,u<v->u*32 ^ b.length+32 ^ b.length<=v*32 ^ b.length:=λu v F=>by
   have:=Int.mul_le_mul_of_nonneg_right (show u+1<=v by omega) (show (0:Int)<=32 ^ b.length by omega);rw[Int.add_mul,Int.one_mul] at this;exact this
  by_cases h1:x<y
  .rw[if_pos h1];have:=step x y h1;exact⟨⟨λ_=>Ω,λ_=>Ω⟩,λh=>Ω⟩
  .rw[if_neg h1];by_cases f:y<x
   .rw[if_pos f];have:=step y x f;exact⟨⟨λh=>Ω,λh=>Ω⟩,λh=>Ω⟩
   .rw[if_neg f];have B:x=y:=Ω
    subst B;exact⟨r.1.trans ⟨λh=>Ω,λh=>Ω⟩,λh=>by rw[r.2 Ω]⟩
theorem vL:∀ {a b:Λ} {i:Nat},(∀ (j:Nat) (x y:Int),j<i->a[j]? =σ x->b[j]? =σ y->x=y)->i<=a.length->i<=b.length->il a b=il (a.drop i) (b.drop i)
 |_,_,0,_,_,_=>Ξ
 |[],_,i+1,_,h,_=>by simp at h
 |_::_,[],i+1,_,_,h=>by simp at h
 |x::a,y::b,i+1,he,h1,e=>by
  have f:=he 0 x y Ω rfl rfl;subst f;simp only[il,Int.lt_irrefl,if_false,List.drop_succ_cons];exact vL (λj u v q hu p=>he (j+1) u v Ω hu p) (by simpa using h1) (by simpa using e)
theorem Bx {x:Int}:ai x7 Ix [.int .i8 x] w λv w'=>v= .bool false/\Ext w w':=by
 refine aw func258 ?_;simp only[bE];exact⟨Ξ,Ext.refl _⟩
theorem KG {x:Int}:ai x7 Ir [.int .i8 x,.int .i8 y] w λv w'=>v=Δ (if x<y then-1 else if y<x then 1 else 0)/\Ext w w':=by
 refine aw func243 ?_;refine Bx.mono ?_;rintro _ J _ ⟨rfl,a⟩;refine Bx.mono ?_;rintro _ w2 _ ⟨rfl,e⟩;simp only[aW,aQ,bS,ah];exact⟨λh=>⟨by rw[if_pos h],a.trans e⟩,λh=>⟨λf=>⟨by rw[if_neg h,if_pos f],a.trans e⟩,λf=>⟨by rw[if_neg h,if_neg f],a.trans e⟩⟩⟩
theorem KH {bf bv:x1} {a b:Λ} (q:aF .i8 w bf a) (s:aF .i8 w bv b) (S:a.length=b.length):ai x7 Ib [bf,bv] w λv w'=>v=Δ (il a b)/\Ext w w':=by
 refine aw func214 ?_;have U:=q.le;rw[aX kT.u q];refine bY.range a.length (λi _ J=>Ext w J/\ ∀ (j:Nat) (x y:Int),j<i->a[j]? =σ x->b[j]? =σ y->x=y) Ω ⟨Ext.refl _,λj x y I=>Ω⟩ ?_ ?_
 .rintro i _ J K hi ⟨e,r⟩ L;simp only[aQ,ah];refine⟨λ_=>?_,λh=>Ω⟩;obtain⟨x,z⟩:=aE (l:=a) hi;obtain⟨y,A⟩:=aE (l:=b) (i:=i) Ω;rw[be kT.u fP.i Ψ (q.ext e) z,aX kT.u (s.ext e)];simp only[cU,ah];refine⟨λh=>Ω,λ_=>?_⟩;rw[be kT.u fP.i Ψ (s.ext e) A];refine KG.mono ?_;rintro _ w2 _ ⟨rfl,E⟩;have f:il a b=il (a.drop i) (b.drop i):=vL r Ω Ω;have M:a.drop i=x::a.drop (i+1):=by rw[W5 hi,(x4.1 z).2]
  have N:b.drop i=y::b.drop (i+1):=by rw[W5 Ω,(x4.1 A).2]
  rw[M,N] at f;simp only[il] at f;simp only[bE,ah,aM];refine⟨λG=>⟨?_,e.trans E⟩,λO=>L _ _ ⟨e.trans E,λj P Q I B C=>?_⟩⟩
  .rw[f];by_cases h1:x<y
   .rw[if_pos h1,if_pos h1]
   .by_cases p:y<x
    .rw[if_neg h1,if_pos p,if_neg h1,if_pos p]
    .rw[if_neg h1,if_neg p] at G;exact absurd rfl G
  .by_cases R:j=i
   .subst R;rw[z] at B;rw[A] at C;cases B;cases C;have H:=Y7.1 O;by_cases h1:x<y
    .rw[if_pos h1] at H;omega
    .by_cases p:y<x
     .rw[if_neg h1,if_pos p] at H;omega
     .omega
   .exact r j P Q Ω B C
 .rintro _ J K ⟨e,r⟩;simp only[aQ,show decide ((a.length:Int)<(a.length:Int))=false from decide_eq_false Ω,aW];rw[aX kT.u (q.ext e),aX kT.u (s.ext e)];simp only[aQ,ah];refine⟨λh=>Ω,λ_=>⟨?_,e⟩⟩;have f:il a b=il (a.drop a.length) (b.drop a.length):=vL r Ω Ω;rw[f,List.drop_length];cases b.drop a.length<;>rfl
theorem KI {a b:Λ} (p:k5 a) (q:k5 b):ai x7 zl [ee a,ee b] w λv w'=>Ext w w'/\v=Δ (il a b):=by
 have B:∀ {c:Λ},k5 c->(ints .i8 c).length=6:=λh=>by simp[h.1]
 refine aw func213 ?_;refine bn λg1 J C y e=>?_;refine bn λE w2 G r f=>?_;rw[Bj] at e f;intro s j _ _;have e:=(e.ext r).ext j;have f:=f.ext j;rw[r6 cF.u fP.i (l:=0) (h:=6) (m:=6) ki kj gj Ω Ω Ω,r6 cF.u fP.i (l:=0) (h:=6) (m:=6) ki kj gj Ω Ω Ω];rw[if_neg Ω,if_neg Ω];have ls:∀ {g:Nat} {c:Λ},k5 c->aa s g cF (ints .i8 c)->aF .i8 s (.slice (σ ⟨g,0+0*1,ν⟩) (6-0) (6-0)) c:=λ{g c} x z=>by
  unfold aF;refine⟨Ξ,g,0,_,6,by rw[x.1],by rw[x.1];omega,by simp[maxLen],λ_=>rfl,z.range⟩
 refine (KH (ls p e) (ls q f) (by rw[p.1,q.1])).mono ?_;rintro _ H _ ⟨rfl,A⟩;exact⟨((y.trans r).trans j).trans A,rfl⟩
end Go.Proofs.YtjjhhcfgfdepdaaGreatDoor
namespace Go.Vc
open Go Go.RowKit Go.Shelf Go.Proofs Go.Sort
theorem grown_of (f:Ext w w') (a:cM w w'):∃q os,w'=grow (w.drewN q) os:=by
 refine⟨w'.drawn-w.drawn,w'.heap.extract w.heap.size w'.heap.size,?_⟩;have hk:∀k,k<w.heap.size->w'.heap[k]? =w.heap[k]?:=λk hk=>by
  have e:w.heap[k]? =σ w.heap[k]:=Array.getElem?_eq_getElem hk;rw[e];cases I:fs w.heap[k] with
  |true=>exact f.aV k _ e I
  |false=>exact a.aV k _ e I
 have ay:w'.heap=w.heap++w'.heap.extract w.heap.size w'.heap.size:=by
  apply Array.ext_getElem?;intro k;rw[Array.getElem?_append];by_cases h:k<w.heap.size
  .rw[if_pos h,hk k h]
  .rw[if_neg h,Array.getElem?_extract];have:=f.size;by_cases j:k<w'.heap.size
   .rw[if_pos Ω];congr 1;omega
   .rw[if_neg Ω,Array.getElem?_eq_none Ω]
 have h1:=a.os;have j:=a.tape.1;have p:=a.output;have r:w.drawn+(w'.drawn-w.drawn)=w'.drawn:=by have:=a.tape.2;omega
 cases w';simp only[grow,x3.drewN] at*;subst h1 j p;rw[<-ay,r]
section
variable {α:Type} [Inhabited α]
theorem By (enc:α->List x1) (k:Nat) (hk:∀x,(enc x).length=k) (d:Array α):(flatK enc k d).toList=d.toList.flatMap enc:=by
 apply Y6;intro t;by_cases h:t<d.size*k
 .have j:0<k:=by
   rcases Q3 k with e|e
   .rw[e] at h;simp at h
   .exact e
  have p:t / k<d.size:=(Nat.div_lt_iff_lt_mul j).2 h;have q:=Nat.mod_lt t j;have r:(flatK enc k d).toList[t]? =σ ((enc d[t / k]!)[t % k]!):=by
   rw[S9,Array.getElem?_eq_getElem (by simpa using h)];have:=get_flatK enc k d t h;rw[getElem!_pos _ t (by simpa using h)] at this;rw[this]
  have s:d.toList[t / k]? =σ d[t / k]!:=by
   rw[S9,Array.getElem?_eq_getElem p,getElem!_pos d _ p]
  have w:(enc d[t / k]!)[t % k]? =σ ((enc d[t / k]!)[t % k]!):=by
   generalize d[t / k]! =z;rw[x6 (by rw[hk];exact q),getElem!_pos (enc z) _ (by rw[hk];exact q)]
  have:=oZ (f:=enc) (k:=k) (λa _=>hk a) s w;rw[r,<-this];congr 1;rw[Nat.mul_comm];exact Nat.div_add_mod t k
 .rw[Z4 (by simpa using h),Z4];rw[ij (k:=k) λa _=>hk a];simpa using h
theorem Bz (enc:α->List x1) (k:Nat) (hk:∀x,(enc x).length=k) {g:Nat} {d:Array α} {os:Array Obj} (h:aa w g e cs) (y:d.size*k<=cs.length):
  aa (sortWorldK enc k w g 0 m d os) g e (d.toList.flatMap enc++cs.drop (d.size*k))/\ ∀r,r<w.heap.size->r≠g->(sortWorldK enc k w g 0 m d os).heap[r]? =w.heap[r]?:=by
 have q:=h.lt;have p:∀r,r<w.heap.size->(sortWorldK enc k w g 0 m d os).heap[r]? =(w.heap.modify g (onCells (putCells id 0 (flatK enc k d))))[r]?:=λr j=>by
  show ((w.heap.modify g (onCells (putCells id 0 (flatK enc k d))))++os)[r]? =_;rw[Array.getElem?_append_left (by simpa using j)]
 refine⟨?_,λr j s=>?_⟩
 .unfold aa at h ⊢;rw[p g q,Array.getElem?_modify,if_pos rfl,h];show σ (Obj.cells (putCells id 0 (flatK enc k d) cs.toArray) e (0,0))=_;refine congrArg σ (congrArg (λc=>Obj.cells c e (0,0)) ?_);apply Array.ext';apply Y6;intro t;show _=(d.toList.flatMap enc++cs.drop (d.size*k))[t]?;rw[List.getElem?_append,ij (k:=k) λa _=>hk a,S9];unfold putCells;rw[Array.getElem?_mapIdx,List.getElem?_toArray];have I:d.toList.length=d.size:=rfl;by_cases f:t<d.size*k
  .rw[if_pos (by rw[I];exact f),x6 Ω,<-By enc k hk,S9,Array.getElem?_eq_getElem (by simpa using f)];simp only[Z6,id];rw[if_pos (by simpa using f),Nat.sub_zero,getElem!_pos _ t (by simpa using f)]
  .rw[if_neg (by rw[I];exact f),List.getElem?_drop,I,show d.size*k+(t-d.size*k)=t by omega];cases z:cs[t]? with
   |none=>rfl
   |some x=>
    simp only[Z6];rw[if_neg Θ]
 .rw[p r j,Array.getElem?_modify,if_neg (S8 s)]
end
theorem BA {P:W9} {E:Ren} (V:SlLaysF0.n6 P E) {α:Type} {f:α->List x1} {k:Nat} {G:α->Prop} {num:α->Int} {cf:α->α->Int} {F:Q0} {cap:Array x1}
  (aA:∀w,(isAgg (E.t 24)).run P w= .ok true w) (aB:∀w,(Go.sizeOf (E.t 24)).run P w= .ok k w) (h1:∀a,G a-> ∀u∈f a,u.oneCell'=true) (hk:∀a,G a->(f a).length=k)
  (aC:∀a b,G a->G b->(cf a b<0↔num a<num b)) (ag:Enters P F) {w:x3} {g:Nat} {v:x1} {L:List α} (h:bg f k e w g v L) (J:∀a∈L,G a) (ah:L.length<65536)
  (aD:∀W a b,ae (λr=>r=g) w W->G a->G b->ai P F ([.agg (f a).toArray,.agg (f b).toArray]++cap.toList) W λu aE=>Ext W aE/\u=Δ (cf a b)):
  ai P (E.f 6) [v,.func (.func F) #[] cap] w λ_ w'=>ae (λr=>leadsTo v r) w w'/\ ∃M,M.Perm L/\(∀ (p q:Nat) (x y:α),p<q->M[p]? =σ x->M[q]? =σ y->num x<=num y)/\bg f k e w' g v M:=by
 have aj:Enters P (E.f 6):=λargs w=>V.f6.enters rfl args w;obtain⟨⟨aX,aF⟩,aY⟩:=id h;have ak:∀p c,v= .slice p 0 c->L=[]->ai P (E.f 6) [v,.func (.func F) #[] cap] w λ_ w'=>ae (λr=>leadsTo v r) w w'/\ ∃M,M.Perm L/\(∀ (p q:Nat) (x y:α),p<q->M[p]? =σ x->M[q]? =σ y->num x<=num y)/\bg f k e w' g v M:=λp c K ah=>by
  refine .code aj ?_;rw[K];refine (AnyF.slices_SortFunc_none V p c _ w).mono ?_;rintro aZ w' ⟨rfl,rfl⟩;refine⟨_,rfl,cM.refl _,ae.refl _ _,L,.refl _,λp q x y _ B=>by rw[ah] at B;simp at B,by rw[<-K];exact h⟩
 rcases aF with⟨rfl,aG⟩|⟨c,cs,rfl,C,al,hm,X,aH⟩
 .exact ak _ _ rfl (Z0 aG)
 cases Y:L with
 |nil=>subst Y;exact ak _ _ rfl rfl
 |cons a0 a1=>
 rw[<-Y];let β:={a:α // G a};have:Inhabited β:=⟨⟨a0,J a0 (by rw[Y];exact .head _)⟩⟩;let enc:β->List x1:=λx=>f x.1;let d:Array β:=(L.attach.map λx=>(⟨x.1,J x.1 x.2⟩:β)).toArray;have am:d.toList.map Subtype.val=L:=by
  show (L.attach.map λx=>(⟨x.1,J x.1 x.2⟩:β)).map Subtype.val=L;rw[R6];exact List.attach_map_subtype_val L
 have Q:d.size=L.length:=by simp[d]
 have H:∀x:β,(enc x).length=k:=λx=>hk x.1 x.2;have aI:d.toList.flatMap enc=L.flatMap f:=by
  have N:=congrArg (λl=>l.flatMap f) am;rw[<-N];exact (List.flatMap_map Subtype.val f d.toList).symm
 have R:d.size*k<=cs.length:=by rw[Q,X];exact X5 k al
 have aJ:HoldsK enc k w g 0 d:=by
  intro j S;rw[size_flatK] at S;have an:j<cs.length:=Ω
  have Z:(flatK enc k d)[j]! =cs[j]:=by
   have N:(flatK enc k d).toList[j]? =σ cs[j]:=by
    rw[By enc k H,aI,<-aH,X4 (by rw[<-Q];exact S),x6 an]
   rw[S9] at N;rw[getElem!_pos _ j (by simpa using S)];rw[Array.getElem?_eq_getElem (by simpa using S)] at N;exact c7 N
  refine⟨?_,?_⟩
  .show w.cell? ⟨g,0+j,ν⟩=σ ((flatK enc k d)[j]!);rw[Z];exact C.cell (o:=0+j) (by rw[W0];exact x6 an)
  .unfold x3.frozen?;unfold aa at C;rw[C];simp
 have T:∀x y:β,ltOf (λx y:β=>cf x.1 y.1) x y=decide (num x.1<num y.1):=λx y=>by
  unfold ltOf;exact decide_eq_decide.2 (aC x.1 y.1 x.2 y.2)
 have aK:SWO (ltOf λx y:β=>cf x.1 y.1):=
  ⟨λx=>by rw[T];simp,λx y z p q=>by rw[T] at*;simp at*;omega,λx y z p q=>by rw[T] at*;simp at*;omega⟩
 have ao:∀m (d2:Array β) os,d2.size=d.size->ae (λr=>r=g) w (sortWorldK enc k w g 0 m d2 os)/\cM w (sortWorldK enc k w g 0 m d2 os):=λm d2 os I=>by
  obtain⟨a2,ap⟩:=Bz enc k H (m:=m) (os:=os) C (d:=d2) (by rw[I];exact R);have aq:w.heap.size<=(sortWorldK enc k w g 0 m d2 os).heap.size:=by
   show w.heap.size<=((w.heap.modify g _)++os).size;simp
  refine⟨⟨aq,λr o A _ ab=>?_⟩,rfl,⟨rfl,Nat.le_add_right _ _⟩,rfl,aq,λr o A I=>?_⟩
  .rw[ap r (j0.1 A).1 ab];exact A
  .have ab:r≠g:=λhe=>by subst he;unfold aa at C;rw[C] at A;cases A;cases I
   rw[ap r (j0.1 A).1 ab];exact A
 have aL:CmpLays P F cap enc k (λx y:β=>cf x.1 y.1) g 0 d.size w:=λm os aM I x y=>by
  have B:=(aD _ x.1 y.1 (ao m aM os I).1 x.2 y.2).calls ag;have O:([x1.agg (f x.1).toArray,.agg (f y.1).toArray]++cap.toList).toArray= #[.agg (enc x).toArray,.agg (enc y).toArray]++cap:=by
   apply Array.ext';simp[enc]
  rw[O] at B;refine B.mono ?_;rintro _ w' ⟨_,rfl,aN,aO,rfl⟩;exact⟨rfl,grown_of aO aN⟩
 have au:=AnyQ.slices_SortFunc V k aA aB enc H (λx=>h1 x.1 x.2) (λx y:β=>cf x.1 y.1) aK F cap g 0 c d w (λargs w=>ag args w) aL aJ C.lt (by rw[Q];omega);rw[Q] at au;refine .code aj (au.mono ?_);rintro _ w' ⟨rfl,s,n,os,⟨aP,_,K⟩,aQ,rfl⟩;have ac:s.size=d.size:=aP;obtain⟨aR,aS⟩:=ao n s os ac;obtain⟨aT,_⟩:=Bz enc k H (m:=n) (os:=os) C (d:=s) (by rw[ac];exact R);have U:(s.toList.map Subtype.val).Perm L:=by
  have Z:(s.extract 0 L.length).toList=s.toList:=by rw[show L.length=s.size by omega,Array.extract_size]
  have aU:(d.extract 0 L.length).toList=d.toList:=by rw[show L.length=d.size by omega,Array.extract_size]
  rw[Z,aU] at K;rw[<-am];exact K.map _
 have av:=U.length_eq;refine⟨_,rfl,aS,aR.mono λr _ A=>⟨_,_,_,rfl,A.symm⟩,s.toList.map Subtype.val,U,λp q x y aV B aw=>?_,⟨?_,.inr ⟨c,_,by rw[av],aT,by rw[av];exact al,hm,?_,?_⟩⟩,λa O=>hk a (J a (U.mem_iff.1 O))⟩
 .rw[x8,X3] at B aw;obtain⟨a6,ax,rfl⟩:=B;obtain⟨a7,ay,rfl⟩:=aw;rw[S9] at ax ay;have az:=(j0.1 ax);have ad:=(j0.1 ay);have:=aQ p q (X8 _) aV (by have:=ad.1;omega);rw[getElem!_pos s p az.1,getElem!_pos s q ad.1,az.2,ad.2,T] at this;simpa using this
 .rw[ij (k:=k) λa O=>hk a (J a (U.mem_iff.1 O))]
 .have af:(s.toList.flatMap enc).length=s.size*k:=by rw[ij (k:=k) λa _=>H a];rfl
  rw[p8,af,List.length_drop,ac,X];rw[X] at R;exact Nat.add_sub_cancel' R
 .have af:(s.toList.flatMap enc).length=s.size*k:=by rw[ij (k:=k) λa _=>H a];rfl
  have aW:(List.map Subtype.val s.toList).length*k=(s.toList.flatMap enc).length:=by rw[af,u7];rfl
  rw[aW,List.take_left,List.flatMap_map]
end Go.Vc
namespace Go.Proofs
open Go.Shelf
def Tryz.vM:Go.Shelf.Ren:=⟨λ|6=>245|15=>206|14=>260|28=>238|29=>239|20=>275|21=>276|22=>277|23=>278|24=>279|25=>280|26=>281|27=>282|46=>290|47=>252|48=>253|49=>291|50=>292|57=>295|n=>n,λ|22=>319|24=>295|25=>318|3=>3|39=>289|0=>0|53=>340|55=>94|4=>4|46=>334|45=>333|50=>111|5=>5|9=>9|66=>349|70=>353|76=>373|77=>374|n=>n,λ|n=>n⟩
theorem Tryz.KJ:Go.Proofs.SlLaysF0.n6 Tryz.prog Tryz.vM:={
 mixed:=Ψ,
 f6:=⟨Tryz.f245.name,Φ,Tryz.func245.trans (congrArg σ Ψ)⟩,
 f14:=⟨Tryz.f260.name,Φ,Tryz.func260.trans (congrArg σ Ψ)⟩,
 f15:=Tryz.func206.trans (congrArg σ Ψ),
 f20:=⟨Tryz.f275.name,Φ,Tryz.func275.trans (congrArg σ Ψ)⟩,
 f21:=⟨Tryz.f276.name,Φ,Tryz.func276.trans (congrArg σ Ψ)⟩,
 f22:=⟨Tryz.f277.name,Φ,Tryz.func277.trans (congrArg σ Ψ)⟩,
 f23:=⟨Tryz.f278.name,Φ,Tryz.func278.trans (congrArg σ Ψ)⟩,
 f24:=⟨Tryz.f279.name,Φ,Tryz.func279.trans (congrArg σ Ψ)⟩,
 f25:=⟨Tryz.f280.name,Φ,Tryz.func280.trans (congrArg σ Ψ)⟩,
 f26:=⟨Tryz.f281.name,Φ,Tryz.func281.trans (congrArg σ Ψ)⟩,
 f27:=⟨Tryz.f282.name,Φ,Tryz.func282.trans (congrArg σ Ψ)⟩,
 f28:=Tryz.func238.trans (congrArg σ Ψ),
 f29:=Tryz.func239.trans (congrArg σ Ψ),
 f46:=⟨Tryz.f290.name,Φ,Tryz.func290.trans (congrArg σ Ψ)⟩,
 f47:=Tryz.func252.trans (congrArg σ Ψ),
 f48:=Tryz.func253.trans (congrArg σ Ψ),
 f49:=⟨Tryz.f291.name,Φ,Tryz.func291.trans (congrArg σ Ψ)⟩,
 f50:=⟨Tryz.f292.name,Φ,Tryz.func292.trans (congrArg σ Ψ)⟩,
 f57:=⟨Tryz.f295.name,Φ,Tryz.func295.trans (congrArg σ Ψ)⟩,
 t0:=Tryz.underlying0,
 a0:=Tryz.isAgg0,
 z0:=Tryz.sizeOf0,
 v0:=Tryz.zeroValue0,
 t3:=Tryz.underlying3,
 a3:=Tryz.isAgg3,
 z3:=Tryz.sizeOf3,
 v3:=Tryz.zeroValue3,
 t4:=Tryz.underlying4,
 a4:=Tryz.isAgg4,
 z4:=Tryz.sizeOf4,
 v4:=Tryz.zeroValue4,
 t5:=Tryz.underlying5,
 a5:=Tryz.isAgg5,
 z5:=Tryz.sizeOf5,
 v5:=Tryz.zeroValue5,
 t9:=Tryz.underlying9,
 a9:=Tryz.isAgg9,
 z9:=Tryz.sizeOf9,
 v9:=Tryz.zeroValue9,
 t22:=Tryz.underlying319,
 a22:=Tryz.isAgg319,
 z22:=Tryz.sizeOf319,
 v22:=Tryz.zeroValue319,
 t25:=Tryz.underlying318,
 a25:=Tryz.isAgg318,
 z25:=Tryz.sizeOf318,
 v25:=Tryz.zeroValue318,
 t39:=Tryz.underlying289,
 a39:=Tryz.isAgg289,
 z39:=Tryz.sizeOf289,
 v39:=Tryz.zeroValue289,
 t45:=Tryz.underlying333,
 a45:=Tryz.isAgg333,
 z45:=Tryz.sizeOf333,
 v45:=Tryz.zeroValue333,
 t46:=Tryz.underlying334,
 a46:=Tryz.isAgg334,
 z46:=Tryz.sizeOf334,
 v46:=Tryz.zeroValue334,
 t50:=Tryz.underlying111,
 a50:=Tryz.isAgg111,
 z50:=Tryz.sizeOf111,
 v50:=Tryz.zeroValue111,
 t53:=Tryz.underlying340,
 a53:=Tryz.isAgg340,
 z53:=Tryz.sizeOf340,
 v53:=Tryz.zeroValue340,
 t55:=Tryz.underlying94,
 a55:=Tryz.isAgg94,
 z55:=Tryz.sizeOf94,
 v55:=Tryz.zeroValue94,
 t66:=Tryz.underlying349,
 a66:=Tryz.isAgg349,
 z66:=Tryz.sizeOf349,
 v66:=Tryz.zeroValue349,
 t70:=Tryz.underlying353,
 a70:=Tryz.isAgg353,
 z70:=Tryz.sizeOf353,
 v70:=Tryz.zeroValue353,
 t76:=Tryz.underlying373,
 a76:=Tryz.isAgg373,
 z76:=Tryz.sizeOf373,
 v76:=Tryz.zeroValue373,
 t77:=Tryz.underlying374,
 a77:=Tryz.isAgg374,
 z77:=Tryz.sizeOf374,
 v77:=Tryz.zeroValue374}
def Tryz.vN:Go.Shelf.Ren:=⟨λ|6=>159|15=>206|14=>205|28=>238|29=>239|20=>230|21=>231|22=>232|23=>233|24=>234|25=>235|26=>236|27=>237|46=>251|47=>252|48=>253|49=>254|50=>255|57=>274|n=>n,λ|22=>250|24=>255|25=>265|3=>3|39=>289|0=>0|53=>340|55=>94|4=>4|46=>334|45=>333|50=>111|5=>5|9=>9|66=>349|70=>353|76=>373|77=>374|n=>n,λ|n=>n⟩
theorem Tryz.KK:Go.Proofs.SlLaysF0.n6 Tryz.prog Tryz.vN:={
 mixed:=Ψ,
 f6:=⟨Tryz.f159.name,Φ,Tryz.func159.trans (congrArg σ Ψ)⟩,
 f14:=⟨Tryz.f205.name,Φ,Tryz.func205.trans (congrArg σ Ψ)⟩,
 f15:=Tryz.func206.trans (congrArg σ Ψ),
 f20:=⟨Tryz.f230.name,Φ,Tryz.func230.trans (congrArg σ Ψ)⟩,
 f21:=⟨Tryz.f231.name,Φ,Tryz.func231.trans (congrArg σ Ψ)⟩,
 f22:=⟨Tryz.f232.name,Φ,Tryz.func232.trans (congrArg σ Ψ)⟩,
 f23:=⟨Tryz.f233.name,Φ,Tryz.func233.trans (congrArg σ Ψ)⟩,
 f24:=⟨Tryz.f234.name,Φ,Tryz.func234.trans (congrArg σ Ψ)⟩,
 f25:=⟨Tryz.f235.name,Φ,Tryz.func235.trans (congrArg σ Ψ)⟩,
 f26:=⟨Tryz.f236.name,Φ,Tryz.func236.trans (congrArg σ Ψ)⟩,
 f27:=⟨Tryz.f237.name,Φ,Tryz.func237.trans (congrArg σ Ψ)⟩,
 f28:=Tryz.func238.trans (congrArg σ Ψ),
 f29:=Tryz.func239.trans (congrArg σ Ψ),
 f46:=⟨Tryz.f251.name,Φ,Tryz.func251.trans (congrArg σ Ψ)⟩,
 f47:=Tryz.func252.trans (congrArg σ Ψ),
 f48:=Tryz.func253.trans (congrArg σ Ψ),
 f49:=⟨Tryz.f254.name,Φ,Tryz.func254.trans (congrArg σ Ψ)⟩,
 f50:=⟨Tryz.f255.name,Φ,Tryz.func255.trans (congrArg σ Ψ)⟩,
 f57:=⟨Tryz.f274.name,Φ,Tryz.func274.trans (congrArg σ Ψ)⟩,
 t0:=Tryz.underlying0,
 a0:=Tryz.isAgg0,
 z0:=Tryz.sizeOf0,
 v0:=Tryz.zeroValue0,
 t3:=Tryz.underlying3,
 a3:=Tryz.isAgg3,
 z3:=Tryz.sizeOf3,
 v3:=Tryz.zeroValue3,
 t4:=Tryz.underlying4,
 a4:=Tryz.isAgg4,
 z4:=Tryz.sizeOf4,
 v4:=Tryz.zeroValue4,
 t5:=Tryz.underlying5,
 a5:=Tryz.isAgg5,
 z5:=Tryz.sizeOf5,
 v5:=Tryz.zeroValue5,
 t9:=Tryz.underlying9,
 a9:=Tryz.isAgg9,
 z9:=Tryz.sizeOf9,
 v9:=Tryz.zeroValue9,
 t22:=Tryz.underlying250,
 a22:=Tryz.isAgg250,
 z22:=Tryz.sizeOf250,
 v22:=Tryz.zeroValue250,
 t25:=Tryz.underlying265,
 a25:=Tryz.isAgg265,
 z25:=Tryz.sizeOf265,
 v25:=Tryz.zeroValue265,
 t39:=Tryz.underlying289,
 a39:=Tryz.isAgg289,
 z39:=Tryz.sizeOf289,
 v39:=Tryz.zeroValue289,
 t45:=Tryz.underlying333,
 a45:=Tryz.isAgg333,
 z45:=Tryz.sizeOf333,
 v45:=Tryz.zeroValue333,
 t46:=Tryz.underlying334,
 a46:=Tryz.isAgg334,
 z46:=Tryz.sizeOf334,
 v46:=Tryz.zeroValue334,
 t50:=Tryz.underlying111,
 a50:=Tryz.isAgg111,
 z50:=Tryz.sizeOf111,
 v50:=Tryz.zeroValue111,
 t53:=Tryz.underlying340,
 a53:=Tryz.isAgg340,
 z53:=Tryz.sizeOf340,
 v53:=Tryz.zeroValue340,
 t55:=Tryz.underlying94,
 a55:=Tryz.isAgg94,
 z55:=Tryz.sizeOf94,
 v55:=Tryz.zeroValue94,
 t66:=Tryz.underlying349,
 a66:=Tryz.isAgg349,
 z66:=Tryz.sizeOf349,
 v66:=Tryz.zeroValue349,
 t70:=Tryz.underlying353,
 a70:=Tryz.isAgg353,
 z70:=Tryz.sizeOf353,
 v70:=Tryz.zeroValue353,
 t76:=Tryz.underlying373,
 a76:=Tryz.isAgg373,
 z76:=Tryz.sizeOf373,
 v76:=Tryz.zeroValue373,
 t77:=Tryz.underlying374,
 a77:=Tryz.isAgg374,
 z77:=Tryz.sizeOf374,
 v77:=Tryz.zeroValue374}
theorem Tryz.KL (w:x3):(isAgg (Tryz.vM.t 24)).run Tryz.prog w= .ok true w:=Tryz.isAgg295 w
theorem Tryz.KM (w:x3):(Go.sizeOf (Tryz.vM.t 24)).run Tryz.prog w= .ok 6 w:=Tryz.sizeOf295 w
theorem Tryz.KN:Tryz.prog.funcs[213]? =σ Tryz.f213:=Tryz.func213
theorem Tryz.KO (w:x3):(isAgg (Tryz.vN.t 24)).run Tryz.prog w= .ok true w:=Tryz.isAgg255 w
theorem Tryz.KP (w:x3):(Go.sizeOf (Tryz.vN.t 24)).run Tryz.prog w= .ok 2 w:=Tryz.sizeOf255 w
theorem Tryz.KQ:Tryz.prog.funcs[160]? =σ Tryz.f160:=Tryz.func160
end Go.Proofs
namespace Go.Proofs.YtjjhhcfgfdepdaaGreatDoor
open Go Go.Vc Go.RowKit Go.Proofs Go.Proofs.Tryz
set_option maxRecDepth 100000
def sQ {α:Type} (f:α->Int) (L:List α) (a i:Nat):Prop:=∀ (p q:Nat) (x y:α),a<=p->p<q->q<i->L[p]? =σ x->L[q]? =σ y->f x<=f y
def o2 (L:List (Λ)):Prop:=∀ks∈L,k5 ks
theorem o2.perm {L M:List (Λ)} (h:o2 L) (a:M.Perm L):o2 M:=λks hk=>h ks (a.mem_iff.1 hk)
theorem KR {g:Nat} {L:List (Λ)} {i:Nat} (a:y=(i:Int)) (h:nQ w g v L) (hi:L[i]? =σ ks):
  V x7 (c8 jf v (Δ y)) w (λp=>V x7 (u5 cF p) w K)=K (ee ks):=by
 have e:ks.length=6:=by have:=h.2 ks (x5 hi);simpa using this
 rw[db a jf.u cF.i h (x4.1 hi).1,nP e (h.range hi)]
abbrev BB:x1:=.func (.func zl) #[] #[]
theorem sR {P:W9} {k:o6} {s:ByteArray} {i:Nat} (a:P.underlying t=σ .string) (hi:i<s.size):
  V P (Instr.index t (.string s) (.int k (i:Int))) w K=K (.int .u8 (s[i].toNat:Int)):=V.of λw' _=>by
 simp[Instr.index,asIntOf,run_underlying a,hi]
def eh (n:Nat):Nat:=if n=0 then 0 else Nat.log2 n+1
theorem BC (h:n<256):eh n<=8:=by
 unfold eh;by_cases a:n=0
 .rw[if_pos a];omega
 .rw[if_neg a];have e:Nat.log2 n<8:=(Nat.log2_lt a).2 Ω;omega
theorem KT {g:Nat} {L:List (Λ)} (h:nQ w g v L) (j:o2 L) (s:L.length<65536):
  ai x7 It [v,BB] w λ_ w'=>ae (λr=>leadsTo v r) w w'/\ ∃M,M.Perm L/\sQ gu M 0 M.length/\nQ w' g v M:=by
 refine (BA KJ (G:=k5) (num:=gu) (cf:=il) (cap:=#[]) KL KM (λa _=>Bv) (λa e=>by simp[e.1]) (λa b e f=>(Bw a b (by rw[e.1,f.1]) e.2 f.2).1) (Enters.of x7 KN rfl Ψ) h j s λH a b _ e f=>KI e f).mono ?_;rintro _ w' _ ⟨z,M,A,hu,hm⟩;exact⟨z,M,A,λp q x y _ B _ C E=>hu p q x y B C E,hm⟩
end Go.Proofs.YtjjhhcfgfdepdaaGreatDoor
namespace Go.Vc
open Go Go.RowKit
set_option maxRecDepth 100000
theorem Keys.str {P:W9} {k:r9} (hk:P.underlying k=σ .string):Keys P k λv=>∃s,v= .string s:=by
 have key:∀s,MapKept.IsKey .string (.string s):=λs=>trivial;refine⟨λw f v ⟨n,h⟩=>?_,λw x ⟨n,h⟩ p q=>?_,λw v ⟨n,h⟩=>?_⟩
 .subst h;exact MapKept.run_checkKey hk (key n) f 9999
 .subst h;rcases MapKept.findNow_spec (key n) p 0 (λe he=>by obtain⟨m,h⟩:=q e he;rw[h];exact key m) with⟨h1,a⟩|⟨j,e,h1,a,r⟩
  .exact .inl ⟨MapKept.run_findKey hk h1,a⟩
  .exact .inr ⟨j,e,by have:=MapKept.run_findKey (P:=P) (w:=w) hk h1;simpa using this,a,r⟩
 .subst h;exact MapKept.run_keyThatStays (d:=.string) (key n)
section
variable {P:W9} {w:x3}
theorem k7 {s:Sem x1} (h:∀K:x1->Prop,V P s w K=K v):b4 P s v w:=by
 have h1:V P s w (λu=>u=v):=(h λu=>u=v).mpr rfl;obtain⟨u,hu,rfl⟩:=h1;exact hu
variable {k e:r9} {G:x1->Prop}
end
end Go.Vc
namespace Go.Proofs.YtjjhhcfgfdepdaaGreatDoor
open Go Go.Vc Go.RowKit Go.Proofs Go.Proofs.Tryz
set_option maxRecDepth 100000
def gN:Nat->Nat->Λ
 |0,_=>[]
 |n+1,u=>gN n (u / 10)++[48+((u % 10:Nat):Int)]
theorem qq:∀ (n u:Nat),(gN n u).length=n
 |0,_=>rfl
 |n+1,u=>by rw[gN,p8,qq n];rfl
theorem KU (n u:Nat):gN (n+2) u=gN n (u / 100)++[48+((u / 10 % 10:Nat):Int),48+((u % 10:Nat):Int)]:=by
 rw[gN,gN,c9];rw[show u / 10 / 10=u / 100 by omega];rfl
theorem BD:∀ (n u:Nat),10 ^ n<=u->u<10 ^ (n+1)->gN (n+1) u=fj u
 |0,u,h1,a=>by
  rw[nG,if_pos (by simpa using a)];simp[gN]
 |n+1,u,h1,a=>by
  have e:(10:Nat) ^ (n+1)=10*10 ^ n:=by rw[Nat.pow_succ,Nat.mul_comm]
  have f:(10:Nat) ^ (n+1+1)=10*10 ^ (n+1):=by rw[Nat.pow_succ,Nat.mul_comm]
  have h:1<=10 ^ n:=Nat.one_le_iff_ne_zero.2 Ξ;rw[nG,if_neg Ω,gN,BD n (u / 10) Ω Ω]
def gv (a C:Λ) (nd u:Nat):Prop:=nd<=a.length/\C.length=a.length/\ ∃t,C.drop nd=t/\a=gN nd u++t
theorem gv.two {a:Λ} {nd u:Nat} (h:gv a C (nd+2) u):gv a ((C.set (nd+1) (48+((u % 10:Nat):Int))).set nd (48+((u / 10 % 10:Nat):Int))) nd (u / 100):=by
 obtain⟨h1,e,t,f,j⟩:=h;refine⟨Ω,by simp[e],_,rfl,?_⟩;rw[j,KU,c9];congr 1;rw[List.drop_set,if_neg Ω,List.drop_set,if_neg Ω,<-f];have p:nd<C.length:=Ω
 have q:nd+1<C.length:=Ω
 rw[W5 p,W5 q,U7,R8];rfl
theorem gv.one {a:Λ} {u:Nat} (h:gv a C 1 u):C.set 0 (48+((u % 10:Nat):Int))=a:=by
 obtain⟨h1,e,t,f,j⟩:=h;rw[j,gN,gN,List.nil_append,<-f];cases C with
 |nil=>simp at e;omega
 |cons c C=>simp
theorem gv.zero {a:Λ} {u:Nat} (h:gv a C 0 u):C=a:=by
 obtain⟨h1,j,t,e,f⟩:=h;rw[f,gN,List.nil_append,<-e,List.drop_zero]
def jO:ByteArray:=⟨#[48,48,48,49,48,50,48,51,48,52,48,53,48,54,48,55,48,56,48,57,49,48,49,49,49,50,49,51,49,52,49,53,49,54,49,55,49,56,49,57,50,48,50,49,50,50,50,51,50,52,50,53,50,54,50,55,50,56,50,57,51,48,51,49,51,50,51,51,51,52,51,53,51,54,51,55,51,56,51,57,52,48,52,49,52,50,52,51,52,52,52,53,52,54,52,55,52,56,52,57,53,48,53,49,53,50,53,51,53,52,53,53,53,54,53,55,53,56,53,57,54,48,54,49,54,50,54,51,54,52,54,53,54,54,54,55,54,56,54,57,55,48,55,49,55,50,55,51,55,52,55,53,55,54,55,55,55,56,55,57,56,48,56,49,56,50,56,51,56,52,56,53,56,54,56,55,56,56,56,57,57,48,57,49,57,50,57,51,57,52,57,53,57,54,57,55,57,56,57,57]⟩
theorem BE:jO.size=200:=by decide+kernel
theorem KV:∀q:Fin 100,jO.data.toList[2*q.val]? =σ (UInt8.ofNat (48+q.val / 10))/\jO.data.toList[2*q.val+1]? =σ (UInt8.ofNat (48+q.val % 10)):=by decide+kernel
theorem vO {q:Nat} (e:q<100):(∀h,(jO[2*q]'h).toNat=48+q / 10)/\ ∀h,(jO[2*q+1]'h).toNat=48+q % 10:=by
 obtain⟨h1,f⟩:=KV ⟨q,e⟩;refine⟨λh=>?_,λh=>?_⟩
 .have a:=(x4.1 h1).2;have:jO[2*q]=UInt8.ofNat (48+q / 10):=a;rw[this,UInt8.toNat_ofNat'];omega
 .have a:=(x4.1 f).2;have:jO[2*q+1]=UInt8.ofNat (48+q % 10):=a;rw[this,UInt8.toNat_ofNat'];omega
theorem wrap_u32 {x:Int} (h1:0<=x) (a:x<4294967296):o6.u32.wrap x=x:=by
 simp[o6.wrap,o6.bits,o6.signed];omega
def jP (w:x3) (g o:Nat) (a C e:Λ):Prop:=aa w g mj (ints .u8 (a++C++e))/\a.length=o
theorem vP {g o c i:Nat} {a:o6} (e:y=(i:Int)) (hi:i<n):
  V x7 (c8 cP (.slice (σ ⟨g,o,ν⟩) n c) (.int a y)) w K=K (.pointer (σ ⟨g,o+i,ν⟩)):=by
 subst e;rw[fz cP.u cC.i hi (λ_=>rfl),T5]
theorem vQ {g o i:Nat} {x:Int} {a f:Λ} {K:Unit->x3->Prop} (h:jP w g o a C f) (hi:i<C.length)
  (p:∀w',ae (λr=>r=g) w w'->jP w' g o a (C.set i x) f->K () w'):av x7 (o5 cC (.pointer (σ ⟨g,o+i,ν⟩)) (.int .u8 x)) w K:=by
 obtain⟨h,rfl⟩:=h;refine bo (g:=g) (o:=a.length+i) cC.i rfl rfl h Θ λw' q I j=>p w' q ⟨?_,rfl⟩;have e:(ints .u8 (a++C++f)).set (a.length+i) (.int .u8 x)=ints .u8 (a++C.set i x++f):=by
  unfold ints;rw[<-U9,c9,T8 _ _ Ω,R8,List.set_append_left _ _ hi,c9]
 rw[e] at j;exact j
theorem nR {g o c nd q i:Nat} {c1 c2 t:Int} {e f:Λ} {K:x3->Prop} (p:jP w g o e C f) (S:C.length=n) (W:n<=1000) (X:nd<=n) (h1:(nd:Int)-c1=((i+1:Nat):Int)) (z:(nd:Int)-c2=(i:Int)) (A:i+1<n) (B:t=((2*q:Nat):Int)) (h:q<100)
  (E:∀w',ae (λr=>r=g) w w'->jP w' g o e ((C.set (i+1) (48+((q % 10:Nat):Int))).set i (48+((q / 10:Nat):Int))) f->K w'):
  ei w λw2=>
  V x7 (aJ .sub ag false true (Δ (nd:Int)) (Δ c1)) w2 λF=>
  V x7 (aJ .sub ag false true (Δ (nd:Int)) (Δ c2)) w2 λs=>
  V x7 (aJ .add oF false true (.int .u32 t) (.int .u32 1)) w2 λG=>
  V x7 (Instr.index c4 (.string jO) G) w2 λt50=>
  V x7 (Instr.index c4 (.string jO) (.int .u32 t)) w2 λx=>
  V x7 (c8 cP (.slice (σ ⟨g,o,ν⟩) n c) F) w2 λt53=>
  av x7 (o5 cC t53 t50) w2 λ(_:Unit) a=>
   (Ext w2 a\/b4 x7 (Instr.index c4 (.string jO) (.int .u32 t)) x a/\b4 x7 (aJ .sub ag false true (Δ (nd:Int)) (Δ c2)) s a/\True)/\
  V x7 (c8 cP (.slice (σ ⟨g,o,ν⟩) n c) s) a λH=>
   av x7 (o5 cC H x) a λ(_:Unit) j=>K j:=by
 subst B;intro w2 y _ _;have J:ae (λr=>r=g) w w2:=y.U _;have L:jP w2 g o e C f:=⟨p.1.ext y,p.2⟩;rw[dR,wrap_i64 Ω Ω,dR,wrap_i64 Ω Ω,aM,wrap_u32 Ω Ω];rw[show ((2*q:Nat):Int)+1=((2*q+1:Nat):Int) by omega];have I:=BE;rw[sR c4.u (by rw[I];omega),sR c4.u (by rw[I];omega)];rw[(vO h).1,(vO h).2,vP h1 A];refine vQ L Ω λa M N=>⟨.inr ⟨k7 λK=>?_,k7 λK=>?_,trivial⟩,?_⟩
 .rw[sR c4.u (by rw[I];omega),(vO h).1]
 .rw[dR,wrap_i64 Ω Ω]
 .rw[vP z Ω];refine vQ N Θ λj O P=>E j ((J.trans M).trans O) ?_;have Q:48+((q % 10:Nat):Int)=((48+q % 10:Nat):Int):=Ω
  have R:48+((q / 10:Nat):Int)=((48+q / 10:Nat):Int):=Ω
  rw[Q,R];exact P
theorem gv.pair {a:Λ} {nd u q:Nat} (h:gv a C (nd+2) u) (e:q=u % 100):gv a ((C.set (nd+1) (48+((q % 10:Nat):Int))).set nd (48+((q / 10:Nat):Int))) nd (u / 100):=by
 have:=h.two;rw[show u % 10=q % 10 by omega,show u / 10 % 10=q / 10 by omega] at this;exact this
theorem nS {k:o6} {b:Nat} (e:b≠0):V x7 (aJ .rem t cx cy (.int k (a:Int)) (.int k (b:Int))) w K=K (.int k ((a % b:Nat):Int)):=by
 rw[nq Ω,Int.tmod_eq_emod_of_nonneg Ω,Int.natCast_emod]
theorem u32_quo {b:Nat} (e:b≠0) (f:a<4294967296):V x7 (aJ .quo t cx cy (.int .u32 (a:Int)) (.int .u32 (b:Int))) w K=K (.int .u32 ((a / b:Nat):Int)):=by
 have:=Nat.div_le_self a b;rw[r1 Ω,Int.tdiv_eq_ediv_of_nonneg Ω,<-Int.natCast_ediv];generalize a / b=m at this ⊢;rw[wrap_u32 Ω Ω]
theorem u64_quo {b:Nat} (e:b≠0) (f:a<18446744073709551616):V x7 (aJ .quo t cx cy (.int .u64 (a:Int)) (.int .u64 (b:Int))) w K=K (.int .u64 ((a / b:Nat):Int)):=by
 have:=Nat.div_le_self a b;rw[r1 Ω,Int.tdiv_eq_ediv_of_nonneg Ω,<-Int.natCast_ediv];generalize a / b=m at this ⊢;rw[wrap_u64 Ω Ω]
theorem nT {b:Nat} (f:a*b<4294967296):V x7 (aJ .mul t cx cy (.int .u32 (a:Int)) (.int .u32 (b:Int))) w K=K (.int .u32 ((a*b:Nat):Int)):=by
 have e:(a:Int)*(b:Int)=((a*b:Nat):Int):=Ξ
 rw[hQ,e];generalize a*b=m at f ⊢;rw[wrap_u32 Ω Ω]
theorem gv.start {u:Nat} (h:C.length=N):gv (gN N u) C N u:=⟨by rw[qq];omega,by rw[qq,h],[],by rw[List.drop_eq_nil_iff];omega,Ξ⟩
theorem KW {g o c u:Nat} {B E:Λ} (af:jP w g o B C E) (ag:C.length=N) (av:N<=19) (hu:u<10 ^ N):
  ai x7 IB [.slice (σ ⟨g,o,ν⟩) N c,.int .u64 (u:Int)] w λv w'=>v= .tuple #[]/\ae (λr=>r=g) w w'/\jP w' g o B (gN N u) E:=by
 have p:=qq N u;refine aw func263 ?_;rw[h9 cP.u];refine⟨λaj Q J=>∃dC nd:Nat,aj= .int .u64 (dC:Int)/\Q=Δ (nd:Int)/\dC<10 ^ nd/\nd<=N/\ae (λr=>r=g) w J/\ ∃G,jP J g o B G E/\gv (gN N u) G nd dC,
  λ_ Q _=>(b1 Q).toNat,⟨u,N,rfl,rfl,hu,o4 _,ae.refl _ _,C,af,gv.start ag⟩,?_⟩
 rintro _ _ J ⟨dC,nd,rfl,rfl,H,s,R,G,S,M⟩;have aa:G.length=N:=by rw[M.2.1,p]
 have ax:(10:Nat) ^ nd<=10 ^ 19:=S3 Ω Ω;have ak:dC<18446744073709551616:=Ω
 have ay:(8:Int)=((8:Nat):Int):=rfl;rw[cU,ah];refine⟨λal=>?_,λal=>?_⟩
 .obtain⟨m,rfl⟩:∃m,nd=m+8:=⟨nd-8,Ω⟩;have az:dC % 100000000<100000000:=Nat.mod_lt _ Ω;rw[show V5 .u64 100000000=V5 .u64 ((100000000:Nat):Int) from rfl,nS Ω,e3 fv.u oF.u,wrap_u32 Ω Ω,u64_quo Ω ak];rw[show V5 .u32 10000=V5 .u32 ((10000:Nat):Int) from rfl,show V5 .u32 100=V5 .u32 ((100:Nat):Int) from rfl,show V5 .u32 2=V5 .u32 ((2:Nat):Int) from rfl];rw[u32_quo Ω Ω,nS Ω,u32_quo Ω Ω,nT Ω,nS Ω,nT Ω,u32_quo Ω Ω,nT Ω,nS Ω,nT Ω];refine nR (i:=m+6) (q:=dC % 100000000 % 10000 % 100) S aa Ω s Ω Ω Ω Ω Ω λw2 x z=>?_;have f:=M.pair (q:=dC % 100000000 % 10000 % 100) Ω;have I:=f.2.1.trans p;refine nR (i:=m+4) (q:=dC % 100000000 % 10000 / 100) z I Ω s Ω Ω Ω Ω Ω λA j h=>?_;have e:=gv.pair (nd:=m+4) (q:=dC % 100000000 % 10000 / 100) f Ω;have ab:=e.2.1.trans p;refine nR (i:=m+2) (q:=dC % 100000000 / 10000 % 100) h ab Ω s Ω Ω Ω Ω Ω λam U O=>?_;have ac:=gv.pair (nd:=m+2) (q:=dC % 100000000 / 10000 % 100) e Ω;have an:=ac.2.1.trans p;refine nR (i:=m) (q:=dC % 100000000 / 10000 / 100) O an Ω s Ω Ω Ω Ω Ω λaA ao ap=>?_;have ad:=gv.pair (nd:=m) (q:=dC % 100000000 / 10000 / 100) ac Ω;rw[dR,wrap_i64 Ω Ω];refine⟨⟨dC / 100000000,m,rfl,by congr 1;omega,?_,Ω,(((R.trans x).trans j).trans U).trans ao,_,ap,?_⟩,by simp only[b1];omega⟩
  .rw[Nat.pow_add] at H;exact Nat.div_lt_of_lt_mul (by rw[Nat.mul_comm];exact H)
  .rw[show dC / 100 / 100 / 100 / 100=dC / 100000000 by omega] at ad;exact ad
 .have aB:nd<8:=Ω
  have aC:(10:Nat) ^ nd<=10 ^ 7:=S3 Ω Ω;rw[e3 fv.u oF.u,wrap_u32 Ω Ω];refine iB (λa b w2=>∃dY m:Nat,a=Δ (m:Int)/\b= .int .u32 (dY:Int)/\dY<10 ^ m/\m<4/\m<=N/\ae (λr=>r=g) w w2/\ ∃P,jP w2 g o B P E/\gv (gN N u) P m dY) ?_ ?_
  rotate_left
  .intro au K;rw[cU,ah];refine⟨λV=>?_,λV=>K _ _ _ ⟨dC,nd,rfl,rfl,H,Ω,s,R,G,S,M⟩⟩;obtain⟨m,rfl⟩:∃m,nd=m+4:=⟨nd-4,Ω⟩;rw[show V5 .u32 10000=V5 .u32 ((10000:Nat):Int) from rfl,show V5 .u32 100=V5 .u32 ((100:Nat):Int) from rfl,show V5 .u32 2=V5 .u32 ((2:Nat):Int) from rfl];rw[nS Ω,u32_quo Ω Ω,u32_quo Ω Ω,nT Ω,nS Ω,nT Ω];refine nR (i:=m+2) (q:=dC % 10000 % 100) S aa Ω s Ω Ω Ω Ω Ω λw2 x z=>?_;have f:=M.pair (q:=dC % 10000 % 100) Ω;have I:=f.2.1.trans p;refine nR (i:=m) (q:=dC % 10000 / 100) z I Ω s Ω Ω Ω Ω Ω λA j h=>?_;have e:=gv.pair (nd:=m) (q:=dC % 10000 / 100) f Ω;rw[dR,wrap_i64 Ω Ω];refine K _ _ _ ⟨dC / 10000,m,by congr 1;omega,rfl,?_,Ω,Ω,(R.trans x).trans j,_,h,?_⟩
   .rw[Nat.pow_add] at H;exact Nat.div_lt_of_lt_mul (by rw[Nat.mul_comm];exact H)
   .rw[show dC / 100 / 100=dC / 10000 by omega] at e;exact e
  rintro _ _ w2 ⟨dY,m,rfl,rfl,W,aD,X,x,P,z,f⟩;have I:=f.2.1.trans p;have aE:(10:Nat) ^ m<=10 ^ 3:=S3 Ω Ω;refine iB (λa b A=>∃L m:Nat,a=Δ (m:Int)/\b= .int .u32 (L:Int)/\L<10 ^ m/\m<2/\m<=N/\ae (λr=>r=g) w A/\ ∃Y,jP A g o B Y E/\gv (gN N u) Y m L) ?_ ?_
  rotate_left
  .intro au K;rw[cU,ah];refine⟨λV=>?_,λV=>K _ _ _ ⟨dY,m,rfl,rfl,W,Ω,X,x,P,z,f⟩⟩;obtain⟨m,rfl⟩:∃cm,m=cm+2:=⟨m-2,Ω⟩;rw[show V5 .u32 100=V5 .u32 ((100:Nat):Int) from rfl,show V5 .u32 2=V5 .u32 ((2:Nat):Int) from rfl];rw[nS Ω,nT Ω,u32_quo Ω Ω];refine nR (i:=m) (q:=dY % 100) z I Ω X Ω Ω Ω Ω Ω λA j h=>?_;have e:=f.pair (q:=dY % 100) rfl;rw[dR,wrap_i64 Ω Ω];refine K _ _ _ ⟨dY / 100,m,by congr 1;omega,rfl,?_,Ω,Ω,x.trans j,_,h,e⟩;rw[Nat.pow_add] at W;exact Nat.div_lt_of_lt_mul (by rw[Nat.mul_comm];exact W)
  rintro _ _ A ⟨L,m,rfl,rfl,Z,aF,X,j,Y,h,e⟩;have ab:=e.2.1.trans p;rw[bS,ah];refine⟨λaq=>?_,λaq=>?_⟩
  .obtain rfl:m=1:=Ω
   have Z:L<10:=by simpa using Z
   rw[aM,wrap_u32 Ω Ω,e3 oF.u cC.u,wrap_u8 Ω Ω,vP (y:=0) (i:=0) rfl Ω];refine vQ h Ω λam U O=>?_;have:=e.one;rw[Nat.mod_eq_of_lt Z] at this;rw[this] at O;exact⟨rfl,j.trans U,O⟩
  .obtain rfl:m=0:=Ω
   rw[e.zero] at h;exact⟨rfl,j,h⟩
def qs:Λ:=[1,10,100,1000,10000,100000,1000000,10000000,100000000,1000000000,10000000000,100000000000,1000000000000,10000000000000,100000000000000,1000000000000000,10000000000000000,100000000000000000,1000000000000000000,10000000000000000000]
def eX (w:x3):Prop:=w.rangeAt 1 0 (ints .u64 qs)
theorem eX.ext (h:eX w) (a:Ext w w'):eX w':=np a h
theorem KX:∀k:Nat,k<20->qs[k]? =σ (((10 ^ k:Nat)):Int):=Φ
theorem BF {s:Nat} (h:2 ^ s<=n):eh n=s+eh (n / 2 ^ s):=by
 have I:=Nat.two_pow_pos s;have h1:n / 2 ^ s≠0:=by have:=Nat.div_pos h I;omega
 have f:n≠0:=Ω
 unfold eh;rw[if_neg f,if_neg h1];have e:Nat.log2 n=Nat.log2 (n / 2 ^ s)+s:=by
  refine (Nat.log2_eq_iff f).2 ⟨?_,?_⟩
  .rw[Nat.pow_add];have:=X5 (2 ^ s) (Nat.log2_self_le h1);have:=Nat.div_mul_le_self n (2 ^ s);omega
  .have j:=Nat.lt_log2_self (n:=n / 2 ^ s);rw[show Nat.log2 (n / 2 ^ s)+s+1=(Nat.log2 (n / 2 ^ s)+1)+s by omega,Nat.pow_add];have:=X5 (2 ^ s) (show n / 2 ^ s+1<=2 ^ (Nat.log2 (n / 2 ^ s)+1) by omega);have p:=Nat.lt_div_mul_add I (a:=n);rw[U4] at this;omega
 omega
def qt:ByteArray:=⟨#[0,1,2,2,3,3,3,3,4,4,4,4,4,4,4,4,5,5,5,5,5,5,5,5,5,5,5,5,5,5,5,5,6,6,6,6,6,6,6,6,6,6,6,6,6,6,6,6,6,6,6,6,6,6,6,6,6,6,6,6,6,6,6,6,7,7,7,7,7,7,7,7,7,7,7,7,7,7,7,7,7,7,7,7,7,7,7,7,7,7,7,7,7,7,7,7,7,7,7,7,7,7,7,7,7,7,7,7,7,7,7,7,7,7,7,7,7,7,7,7,7,7,7,7,7,7,7,7,8,8,8,8,8,8,8,8,8,8,8,8,8,8,8,8,8,8,8,8,8,8,8,8,8,8,8,8,8,8,8,8,8,8,8,8,8,8,8,8,8,8,8,8,8,8,8,8,8,8,8,8,8,8,8,8,8,8,8,8,8,8,8,8,8,8,8,8,8,8,8,8,8,8,8,8,8,8,8,8,8,8,8,8,8,8,8,8,8,8,8,8,8,8,8,8,8,8,8,8,8,8,8,8,8,8,8,8,8,8,8,8,8,8,8,8,8,8,8,8,8,8,8,8,8,8,8,8]⟩
theorem KY:qt.size=256:=by decide+kernel
theorem KZ:∀q:Fin 256,qt.data.toList[q.val]? =σ (UInt8.ofNat (eh q.val)):=by decide+kernel
theorem K0 {q:Nat} (a:q<256):∀h,(qt[q]'h).toNat=eh q:=λh=>by
 have h1:=KZ ⟨q,a⟩;have e:=(x4.1 h1).2;have:qt[q]=UInt8.ofNat (eh q):=e;have f:=BC a;rw[this,UInt8.toNat_ofNat'];omega
theorem K1 (E:n<18446744073709551616):ai x7 Io [.int .u64 (n:Int)] w λv w'=>v=Δ (eh n:Int)/\Ext w w':=by
 refine aw func239 ?_;have step:∀ {s x m:Nat} {au:x1->x1->x3->Prop} {y c:Int},s<64->x<18446744073709551616->m+eh x=eh n->m<=64->y=(2 ^ s:Nat)->c=(s:Int)->2 ^ s<=18446744073709551615->(∀a cm:Nat,a<2 ^ s\/(a=x / 2 ^ s/\cm=m+s)->a<=x->cm+eh a=eh n->cm<=m+s->au (.int .u64 (a:Int)) (Δ (cm:Int)) w)->
   V x7 (aJ .geq fv false true (.int .u64 (x:Int)) (.int .u64 y)) w λt4=>
    Split t4 (V x7 (aJ .shr fv false true (.int .u64 (x:Int)) (.int .u64 c)) w λr=>V x7 (aJ .add ag false true (Δ (m:Int)) (Δ c)) w λz=>au r z w) (au (.int .u64 (x:Int)) (Δ (m:Int)) w):=by
  intro s x m au y c I f hm G A B p e;subst A B;rw[cU,ah];refine⟨λh=>?_,λh=>e x m (.inl Ω) (o4 _) hm Ω⟩;rw[k2 I,aM,wrap_i64 Ω Ω];have:=BF (n:=x) (s:=s) Ω;have:=e (x / 2 ^ s) (m+s) (.inr ⟨rfl,rfl⟩) (Nat.div_le_self _ _) Ω Ω;exact this
 refine iB (λx m J=>w=J/\ ∃a cm:Nat,x= .int .u64 (a:Int)/\m=Δ (cm:Int)/\a<4294967296/\cm+eh a=eh n/\cm<=32) ?_ ?_
 rotate_left
 .intro au e;rw[cU,ah];refine⟨λh=>?_,λh=>e _ _ _ ⟨rfl,n,0,rfl,rfl,Ω,Ω,Ω⟩⟩;rw[show V5 .u64 32=V5 .u64 ((32:Nat):Int) from rfl,k2 Ω];have:=BF (n:=n) (s:=32) Ω;exact e _ _ _ ⟨rfl,n / 2 ^ 32,32,rfl,rfl,Ω,Ω,Ω⟩
 rintro _ _ _ ⟨rfl,x,m,rfl,rfl,f,hm,q⟩;refine iB (λx m J=>w=J/\ ∃a cm:Nat,x= .int .u64 (a:Int)/\m=Δ (cm:Int)/\a<65536/\cm+eh a=eh n/\cm<=48) ?_ ?_
 rotate_left
 .intro au e;refine step (s:=16) Ω Ω hm Ω Ω Ω Ω λa cm h1 p j C=>e _ _ _ ⟨rfl,a,cm,rfl,rfl,?_,j,Ω⟩;rcases h1 with h1|⟨h1,_⟩<;>omega
 rintro _ _ _ ⟨rfl,x,m,rfl,rfl,f,hm,q⟩;refine iB (λx m J=>w=J/\ ∃a cm:Nat,x= .int .u64 (a:Int)/\m=Δ (cm:Int)/\a<256/\cm+eh a=eh n/\cm<=56) ?_ ?_
 rotate_left
 .intro au e;refine step (s:=8) Ω Ω hm Ω Ω Ω Ω λa cm h1 p j C=>e _ _ _ ⟨rfl,a,cm,rfl,rfl,?_,j,Ω⟩;rcases h1 with h1|⟨h1,_⟩<;>omega
 rintro _ _ _ ⟨rfl,x,m,rfl,rfl,f,hm,q⟩;have I:=KY;have H:=BC f;rw[e3 fv.u cC.u,wrap_u8 Ω Ω];refine (sR (s:=qt) c4.u (by rw[I];omega)).mpr ?_;rw[K0 f,e3 cC.u ag.u,wrap_i64 Ω Ω,aM,wrap_i64 Ω Ω];exact⟨by congr 1;omega,Ext.refl _⟩
theorem BG {k:o6} (f:n<64):V x7 (aJ .shr t cx cy (Δ (a:Int)) (.int k (n:Int))) w K=K (Δ ((a / 2 ^ n:Nat):Int)):=V.of λw' _=>by
 have e:(a:Int).fdiv (2 ^ min n X7.bits)=((a / 2 ^ n:Nat):Int):=by
  have:min n X7.bits=n:=Nat.min_eq_left (by show n<=64;omega);rw[this,Int.fdiv_eq_ediv_of_nonneg _ (by exact Int.le_of_lt (Int.pow_pos Ω))];simp
 simp only[aJ,eqGuard,binOp,Op.shift,r8,e];rfl
theorem K2:∀L:Fin 64,7<=L.val->2 ^ L.val<=10 ^ (L.val*78913 / 262144+1)/\10 ^ (L.val*78913 / 262144)<=10*2 ^ (L.val-1)/\1<=L.val*78913 / 262144/\L.val*78913 / 262144<19:=by decide+kernel
theorem K3 {d:Nat} (y:eX w) (h1:100<=d) (E:d<9223372036854775808):ai x7 IA [.int .u64 (d:Int)] w λv w'=>Ext w w'/\ ∃n:Nat,v=Δ ((n+1:Nat):Int)/\n<19/\10 ^ n<=d/\d<10 ^ (n+1):=by
 have j:d≠0:=Ω
 have p:eh d=Nat.log2 d+1:=by unfold eh;rw[if_neg j]
 have G:2 ^ (eh d-1)<=d:=by rw[p];exact Nat.log2_self_le j
 have H:d<2 ^ eh d:=by rw[p];exact Nat.lt_log2_self
 have z:7<=eh d:=by
  by_cases h:7<=eh d
  .exact h
  .have:2 ^ eh d<=2 ^ 6:=S3 Ω Ω;omega
 have A:eh d<64:=by
  by_cases h:eh d<64
  .exact h
  .have:2 ^ 63<=2 ^ (eh d-1):=S3 Ω Ω;omega
 obtain⟨B,q,t3,t4⟩:=K2 ⟨eh d,A⟩ z;simp only at B q t3 t4;refine aw func262 ?_;refine (K1 Ω).mono ?_;rintro _ J _ ⟨rfl,a⟩;generalize eh d=L at*;refine ai.mono (K:=λv w2=>v=Δ ((L*78913 / 262144:Nat):Int)/\Ext J w2) ?_ ?_
 .refine aw func283 ?_;rw[hQ,wrap_i64 Ω Ω,show V5 .u64 18=V5 .u64 ((18:Nat):Int) from rfl,show (L:Int)*78913=((L*78913:Nat):Int) by omega,BG Ω];exact⟨rfl,Ext.refl _⟩
 rintro _ w2 _ ⟨rfl,e⟩;generalize L*78913 / 262144=t at*;have C:=KX t Ω;rw[vd (t:=r0) r0.u fv.i Ω,aB Ψ (by rw[T5];exact ((y.ext a).ext e) _ _ (kV C)),cU];refine ai.mono (K:=λv r=>v=Δ ((if 10 ^ t<=d then 1 else 0:Nat):Int)/\Ext w2 r) ?_ ?_
 .refine aw func284 ?_;rw[ah];refine⟨λh=>⟨by rw[if_pos Ω];rfl,Ext.refl _⟩,λh=>⟨by rw[if_neg Ω];rfl,Ext.refl _⟩⟩
 rintro _ r _ ⟨rfl,x⟩;rw[aM];by_cases f:10 ^ t<=d
 .rw[if_pos f,wrap_i64 Ω Ω];exact⟨(a.trans e).trans x,t,by congr 1,t4,f,Ω⟩
 .rw[if_neg f,wrap_i64 Ω Ω];obtain⟨s,rfl⟩:∃s,t=s+1:=⟨t-1,Ω⟩;rw[Nat.pow_succ] at q;exact⟨(a.trans e).trans x,s,by congr 1,Ω,Ω,Ω⟩
theorem BH {k a:o6} {x:Int} {i:Nat} {s:ByteArray} (e:x=(i:Int)) (f:y=(j:Int)) (p:x7.underlying t=σ .string) (q:i<=j) (r:j<=s.size):
  V x7 (U2 t (.string s) (σ (.int k x)) (σ (.int a y)) ν) w K=K (.string (s.extract i j)):=V.of λw' _=>by
 subst e f;have z:=r5 (P:=x7) w' (sl:=false) (n:=s.size) (c:=s.size) (low:=σ (.int k (i:Int))) (high:=σ (.int a (j:Int))) (mx:=ν) (l:=i) (h:=j) (m:=s.size) ⟨k,rfl⟩ ⟨a,rfl⟩ gj q r (o4 _);simp[U2,Instr.slice,run_underlying p,z]
theorem K4:∀q:Fin 100,jO.extract (2*q.val) (2*q.val+2)=strOfNums [48+((q.val / 10:Nat):Int),48+((q.val % 10:Nat):Int)]:=by decide+kernel
def BI:ByteArray:=⟨#[48,49,50,51,52,53,54,55,56,57,97,98,99,100,101,102,103,104,105,106,107,108,109,110,111,112,113,114,115,116,117,118,119,120,121,122]⟩
theorem K5:∀q:Fin 10,BI.extract q.val (q.val+1)=strOfNums [48+(q.val:Int)]:=by decide+kernel
theorem BJ (h:n<10):fj n=[48+(n:Int)]:=by rw[nG,if_pos h,Nat.mod_eq_of_lt h];rfl
theorem K6 (h1:10<=n) (a:n<100):fj n=[48+((n / 10:Nat):Int),48+((n % 10:Nat):Int)]:=by
 rw[nG,if_neg Ω,BJ Ω];rfl
theorem K7 (a:n<100):ai x7 Iz [Δ (n:Int)] w λv w'=>v=bR (fj n)/\Ext w w':=by
 refine aw func261 ?_;rw[aQ,ah];refine⟨λh=>?_,λh=>?_⟩
 .rw[aM,wrap_i64 Ω Ω];refine (BH (s:=BI) (i:=n) (j:=n+1) rfl Ω c4.u Ω (by show n+1<=36;omega)).mpr ?_;rw[K5 ⟨n,Ω⟩,BJ Ω];exact⟨rfl,Ext.refl _⟩
 .rw[hQ,wrap_i64 Ω Ω,hQ,wrap_i64 Ω Ω,aM,wrap_i64 Ω Ω];refine (BH (s:=jO) (i:=2*n) (j:=2*n+2) Ω Ω c4.u Ω (by rw[BE];omega)).mpr ?_;rw[K4 ⟨n,a⟩,K6 Ω a];exact⟨rfl,Ext.refl _⟩
theorem K8 {g:Nat} {f h:Λ} (a:jP w g 1 f C h) (p:C.length<=23):aF .u8 w (.slice (σ ⟨g,1,ν⟩) C.length 23) C:=by
 obtain⟨a,q⟩:=a;refine⟨Ξ,g,1,_,23,rfl,p,by simp[maxLen],λ_=>rfl,λj v e=>?_⟩;have r:j<C.length:=by have:=(x4.1 e).1;simpa using this
 refine a.cell ?_;rw[ints,j6,j6,Y8 Θ,X1 Θ,u7,q,R8];exact e
theorem BK {g:Nat} (a:y=((m+2:Nat):Int)) (hm:m<=22):
  V x7 (U2 mj (Γ g) (σ (Δ 1)) (σ (Δ y)) ν) w K=K (.slice (σ ⟨g,1,ν⟩) (m+1) 23):=by
 subst a;have:=r6 (w:=w) (b:=g) (o:=0) (low:=σ (Δ 1)) (high:=σ (Δ ((m+2:Nat):Int))) (mx:=ν) (l:=1) (h:=m+2) (m:=24) (K:=K) mj.u cC.i ⟨_,rfl⟩ ⟨_,rfl⟩ gj Ω Ω Ω;rw[this,if_neg Ω];rfl
theorem K9 (q:eX w) (s:n<9223372036854775808):ai x7 Iu [Δ (n:Int),Δ 10] w λv w'=>v=bR (fj n)/\Ext w w':=by
 refine aw func247 ?_;rw[bi];refine (ah).mpr ⟨λ_=>?_,λh=>absurd rfl h⟩;refine aT (λv J=>w=J/\v= .bool (decide (n<100))) ?_ ?_
 rotate_left
 .intro au a;rw[ml,ah];refine⟨λ_=>?_,λh=>Ω⟩;rw[aQ];exact a _ _ ⟨rfl,by congr 1;rw[U1,decide_eq_true_eq,decide_eq_true_eq];omega⟩
 rintro _ _ ⟨rfl,rfl⟩;rw[ah];refine⟨λh=>?_,λh=>?_⟩
 .exact (K7 h).mono λ_ _ _ h=>h
 refine bt mj.i λg J E f x=>?_;rw[e3 ak.u fv.u,wrap_u64 Ω Ω];refine aT (λv w2=>J=w2/\v= .int .u64 (n:Int)) ?_ ?_
 rotate_left
 .intro au a;rw[aQ,ah];exact⟨λh=>Ω,λ_=>a _ _ ⟨rfl,rfl⟩⟩
 rintro _ _ ⟨rfl,rfl⟩;refine (K3 (q.ext f) Ω s).mono ?_;rintro _ w2 _ ⟨j,m,rfl,hm,y,p⟩;rw[aM,wrap_i64 Ω Ω];rw[BK (m:=m) Ω Ω];have z:jP w2 g 1 [0] (p9 (m+1) 0) (p9 (22-m) 0):=by
  refine⟨?_,rfl⟩;have e:[0]++p9 (m+1) (0:Int)++p9 (22-m) 0=p9 24 0:=by
   rw[show[(0:Int)]=p9 1 0 from rfl,List.replicate_append_replicate,List.replicate_append_replicate];congr 1;omega
  rw[e];exact x.ext j
 refine (KW (N:=m+1) z Ξ Ω p).mono ?_;rintro _ G _ ⟨rfl,A,B⟩;refine ca Ω ?_;rw[aM,wrap_i64 Ω Ω];rw[BK (m:=m) Ω Ω];have C:=qq (m+1) n;have I:=K8 B Ω;rw[C] at I;rw[vn cP.u cC.u c4.u I,BD m n y p];refine⟨rfl,(f.trans j).then A λr H he=>?_⟩;have he:r=g:=he;omega
theorem La (a:eX w) (e:n<9223372036854775808):ai x7 uX [Δ (n:Int)] w λv w'=>v=bR (fj n)/\Ext w w':=by
 refine aw func184 ?_;refine ai.mono (K:=λv w'=>v=bR (fj n)/\Ext w w') ?_ (λ_ _ _ h=>h);refine aw func220 ?_;exact (K9 a e).mono λ_ _ _ h=>h
theorem eX.U (h:eX w) (a:ae S w w') (e:¬S 1):eX w':=jh a e h
def dt (w:x3) (g gs:Nat) (A:af) (B:af) (clean:Bool) (s:Option aA):Prop:=match s with
 |some s=>di w g gs A B s clean
 |none=>ez w g gs A B
theorem fQ.of {g:Nat} {A:af} {B:af} {s:Option aA} (h:fQ w g gs A B clean s w'):ae (bG g gs A) w w'/\dt w' g gs A B clean s:=h
theorem fQ.mk {g:Nat} {A:af} {B:af} {s:Option aA} (h:ae (bG g gs A) w w') (a:dt w' g gs A B clean s):fQ w g gs A B clean s w':=⟨h,a⟩
theorem dt.U {g:Nat} {A:af} {B:af} {s:Option aA} (h:dt w g gs A B clean s) (a:ae S w w') (e:∀r,bG g gs A r->¬S r) (f:∀r,cG g gs A B r->¬S r):dt w' g gs A B clean s:=by
 cases s with
 |none=>exact ez.U (g:=g) (gs:=gs) (A:=A) (B:=B) h a e f
 |some s=>exact di.U (g:=g) (gs:=gs) (A:=A) (B:=B) (s:=s) (clean:=clean) h a e f
theorem dt.ext {g:Nat} {A:af} {B:af} {s:Option aA} (h:dt w g gs A B clean s) (a:Ext w w'):dt w' g gs A B clean s:=h.U (a.U λ_=>False) (λ_ _ h=>h) λ_ _ h=>h
theorem dt.side {g:Nat} {A:af} {B:af} {s:Option aA} (h:dt w g gs A B clean s):k4 w g gs A B:=by
 cases s with
 |none=>exact h.1
 |some s=>exact h.1
def bb (lo hi:Int) (s:Option aA):Option (Int×aA):=s.bind (bc lo hi)
theorem lV {g:Nat} {A:af} {B:af} {s:Option aA} (h:dt w g gs A B clean s):ai x7 nj [Γ g,Δ lo,Δ hi] w λv w'=>fQ w g gs A B clean ((bb lo hi s).map (·.2)) w'/\ ∃n at_:Int,v= .tuple #[Δ n,Δ at_]/\(∀q,bb lo hi s=σ q->n=q.1)/\(bb lo hi s=ν->n=0):=by
 cases s with
 |none=>
  refine (J7 h).mono ?_;rintro _ J _ ⟨a,rfl⟩;exact⟨⟨a.U _,ez.ext (g:=g) (gs:=gs) (A:=A) (B:=B) h a⟩,0,0,rfl,λq h=>(by cases h),λ_=>rfl⟩
 |some s=>exact vE (s:=s) h
theorem o3 {g:Nat} {A:af} {B:af} {s:Option aA} (h:dt w g gs A B clean s):ai x7 kP [Γ g] w λv w'=>v= .bool s.isSome/\Ext w w':=by
 cases s with
 |none=>exact nO h
 |some s=>exact oU h
theorem Lb {g:Nat} {A:af} {B:af} {s:Option aA} {e:Int} (h:dt w g gs A B clean s) (he:e≠0):ai x7 nk [Γ g,Δ e,Δ at_] w λ_ w'=>fQ w g gs A B clean ν w':=by
 cases s with
 |none=>
  refine (J5 h).mono ?_;rintro _ J _ a;exact⟨a.U _,ez.ext (g:=g) (gs:=gs) (A:=A) (B:=B) h a⟩
 |some s=>
  refine (sC (s:=s) h he).mono ?_;rintro _ J _ ⟨f,j⟩;exact⟨f.mono λr _ h=>.inl h,j⟩
theorem qu {g:Nat} {A:af} {B:af} {s:Option aA} {b:Bool} (h:dt w g gs A B clean s):ai x7 pO [Γ g,.bool b,Δ at_] w λ_ w'=>fQ w g gs A B clean (s.map (a6 b)) w':=by
 cases s with
 |none=>
  refine (A6 h).mono ?_;rintro _ J _ a;exact⟨a.U _,ez.ext (g:=g) (gs:=gs) (A:=A) (B:=B) h a⟩
 |some s=>
  refine (sD (s:=s) h).mono ?_;rintro _ J _ ⟨e,f⟩;exact⟨e.mono λr _ h=>.inl h,f⟩
theorem mD {n:Int} {s:Option aA} {s':aA} (h:bb lo hi s=σ (n,s')):lo<=n/\n<=hi:=by
 cases s with
 |none=>cases h
 |some s=>exact (hX h).1
def eY (ks acc:Λ) (s:Option aA):Option (Λ×aA):=s.bind (iI ks acc)
theorem BL {acc:Λ} {s:Option aA}:eY (k::ks) acc s=match bb 0 (k-1) s with
  |none=>ν
  |some (v,s)=>iI ks (acc++[v]) s:=by
 cases s with
 |none=>rfl
 |some s=>
  show iI (k::ks) acc s=_;rw[iI];show _=match bc 0 (k-1) s with|none=>ν|some (v,s)=>iI ks (acc++[v]) s
  cases bc 0 (k-1) s<;>rfl
theorem BM:∀ (t:Λ),(∀x∈t,0<=x/\x<=ao)->(ed t).length<=20*t.length
 |[],_=>by simp[ed]
 |x::t,h=>by
  have j:=BM t λy a=>h y (.tail _ a);have f:=h x (.head _);have p:=vq 19 x.toNat (by unfold ao at f;omega) Ω;have e:ed (x::t)=fj x.toNat++[32]++ed t:=by simp[ed]
  rw[e];simp only[p8,b8,List.length_nil];omega
theorem Lc {g am:Nat} {A B:af} {s:Option aA} {ah:x1->x3->Prop}
  (h:dt w g gs A B clean s) (aj:aF .i64 w sv sizes) (aQ:∀r,leads sv r->¬bG g gs A r/\r≠am) (aR:∀z∈sizes,1<=z/\z<=ao) (bO:sizes.length<=100001) (aS:eX w) (h1:cG g gs A B 1)
  (al:aa w am ec [.slice ν 0 0,Δ 0]) (aq:¬bG g gs A am) (au:¬B am)
  (aw:∀t w' aL gt,t.length=sizes.length->(∀x∈t,0<=x/\x<=ao)->ae (λr=>bG g gs A r\/r=am) w w'->aa w' am ec [aL,Δ 0]->ap .i64 ak w' gt aL t->w.heap.size<=gt->
   dt w' g gs A B clean ((eY sizes [] s).map (·.2))->(∀q,eY sizes [] s=σ q->t=q.1)->ah (bR (ed t)) w'):
  bY (.string ⟨#[]⟩) (Δ 0) w λkey W E aT=>
   V x7 (aJ .lss ag false false W (Δ (sizes.length:Int))) E λaU=>
   Split aU (V x7 (c8 an sv W) E λaV=>
   V x7 (u5 ak aV) E λaW=>
   V x7 (aJ .sub ak false true aW (Δ 1)) E λaX=>
   ai x7 nj [Γ g,(Δ 0),aX] E λax H=>
   V x7 (Z8 ax 0) H λay=>
   V x7 (Z8 ax 1) H λbP=>
   V x7 (u6 ec (Γ am) 0) H λaY=>
   V x7 (u5 an aY) H λaZ=>
   av x7 (Y4 an 1 #[(0,ay)]) H λa1 a2=>
   av x7 (b9 #[an,an] an #[aZ,a1]) a2 λa6 aB=>
   V x7 (u6 ec (Γ am) 0) aB λa7=>
   av x7 (o5 an a7 a6) aB λ(_:Unit) a8=>
   ai x7 uX [ay] a8 λba L=>
   V x7 (aJ .add c4 false true ba (.string ⟨#[32]⟩)) L λbc=>
   V x7 (aJ .add c4 false false key bc) L λbd=>
   V x7 (aJ .add ag false true W (Δ 1)) L λbf=>
   aT bd bf L) (ah key E):=by
 have bQ:=al.lt;have bg:=h.side;obtain⟨bS,bT,bU,bh,bi⟩:=bg;refine bY.range sizes.length (λj key J=>∃t aL gt f,key=bR (ed t)/\t.length=j/\(∀x∈t,0<=x/\x<=ao)/\ae (λr=>bG g gs A r\/r=am) w J/\aa J am ec [aL,Δ 0]/\ap .i64 ak J gt aL t/\w.heap.size<=gt/\
  dt J g gs A B clean f/\eY sizes [] s=eY (sizes.drop j) t f) aj.le ⟨[],_,w.heap.size,s,rfl,rfl,λx C=>(by cases C),ae.refl _ _,al,ap.nil _ _ _ _,o4 _,h,rfl⟩ ?_ ?_
 rotate_left
 .rintro _ J bj ⟨t,aL,gt,f,rfl,M,I,G,N,O,X,P,he⟩;refine ca Ω ?_;rw[List.drop_length] at he;cases f with
  |none=>
   have he:eY sizes [] s=ν:=he;exact aw t J aL gt M I G N O X (by rw[he];exact P) (λq e=>by rw[he] at e;cases e)
  |some f=>
   have he:eY sizes [] s=σ (t,f):=he;exact aw t J aL gt M I G N O X (by rw[he];exact P) (λq e=>by rw[he] at e;cases e;rfl)
 rintro j _ J bj aC ⟨t,aL,gt,f,rfl,M,I,G,N,O,X,P,he⟩ bk;obtain⟨z,Y⟩:=aE (l:=sizes) aC;have bl:=aR z (x5 Y);have bV:z<=4611686018427387904:=bl.2;have bm:aF .i64 J sv sizes:=hV aj G λr y a n c bn bp=>by
  have:=aQ r ⟨a,n,c,bn,bp⟩;exact y.elim this.1 this.2
 have ad:∀r,bG g gs A r->r<w.heap.size:=bh;refine bH Ω ?_;rw[be an.u ak.i Ψ bm Y,dR,wrap_i64 Ω Ω];refine (lV P).mono ?_;rintro _ w2 _ ⟨bq,n,at_,rfl,aD,br⟩;obtain⟨Q,bt⟩:=bq.of;have aG:0<=n/\n<=ao:=by
  cases e:bb 0 (z-1) f with
  |none=>rw[br e];exact⟨Ω,by unfold ao;omega⟩
  |some q=>
   rw[aD q e];have:=mD (s':=q.2) (n:=q.1) e;exact⟨this.1,by unfold ao;omega⟩
 rw[bu,bw];have aH:=N.U Q aq;have bx:=O.U Q λ_ bz=>by have:=ad _ bz;omega
 rw[az ec.p 0 aH rfl];refine ej an.u ak.i rfl λa ga bA bW K bB=>?_;refine jj an.u ak.i rfl (bx.ext K) bB.ls Θ Θ λaI aK bC bX Z R=>?_;have bZ:=G.size;have b0:=Q.size;have z3:=K.size;have z4:=R.size;rw[aP ec.p rfl];have bD:=(aH.ext K).U R (λhe=>by have he:am=gt:=he;omega);refine bo (g:=am) (o:=0) an.i Z.ls.cells.1 Z.ls.cells.2 bD Ξ λaN ab b1 ac=>?_;have ac:aa aN am ec [aI,Δ 0]:=ac;have bE:ae (λr=>bG g gs A r\/r=am) w bA:=(G.trans (Q.mono λr _ h=>.inl h)).trans (K.U _);have bF:ae (λr=>bG g gs A r\/r=am) w bC:=hy bE R λr y he=>by have he:r=gt:=he;omega
 have aO:ae (λr=>bG g gs A r\/r=am) w aN:=bF.trans (ab.mono λr _ h=>.inr h);have bI:¬(λr=>bG g gs A r\/r=am) 1:=λh=>h.elim h1.1 λh=>au (h▸h1.2);obtain⟨m,rfl⟩:∃m:Nat,n=(m:Int):=⟨n.toNat,Ω⟩;unfold ao at aG;refine (La (aS.U aO bI) Ω).mono ?_;rintro _ b2 _ ⟨rfl,S⟩;have b3:=vq 19 m Ω Ω;have b4:=BM t I;rw[show (ByteArray.mk #[32])=strOfNums [32] from rfl,vm Θ,vm Θ,aM];refine bk _ _ ⟨t++[(m:Int)],aI,aK,(bb 0 (z-1) f).map (·.2),?_,by simp[M],λx C=>?_,aO.trans (S.U _),ac.ext S,(Z.U ab (λ_ he=>by have he:aK=am:=he;omega)).ext S,Ω,?_,?_⟩
 .rw[Jr,r8]
 .rcases l9.1 C with C|C
  .exact I x C
  .rw[n9.1 C];exact aG
 .refine dt.ext ?_ S;have bJ:=bt.ext K;have bK:∀r,bG g gs A r->¬(λr=>r=gt) r:=λr y he=>by have:=ad r y;have he:r=gt:=he;omega
  have bL:∀r,cG g gs A B r->¬(λr=>r=gt) r:=λr y he=>by have:=bi r y.2;have he:r=gt:=he;omega
  have bM:∀r,bG g gs A r->¬(λr=>r=am) r:=λr y he=>by have he:r=am:=he;exact aq (he▸y)
  have bN:∀r,cG g gs A B r->¬(λr=>r=am) r:=λr y he=>by have he:r=am:=he;exact au (he▸y.2)
  exact (bJ.U R bK bL).U ab bM bN
 .rw[he,W5 aC,show sizes[j]=z from (x4.1 Y).2,BL];cases e:bb 0 (z-1) f with
  |none=>rfl
  |some q=>
   rw[aD q e];rfl
def dU (s:aA):Prop:=s.big=false->s.told<=16384
def jQ (n:Int) (s:aA):aA:=a6 (decide (16384<min (s.told+n) ao)) {s with told:=min (s.told+n) ao}
theorem Ld (n:Int) (s:aA):dU (jQ n s):=λh=>by
 have h:(s.big||decide (16384<min (s.told+n) ao))=false:=h;have:=of_decide_eq_false (S7.1 h).2;show min (s.told+n) ao<=16384;omega
theorem Le {g:Nat} {A B:af} {s:Option aA} {n:Int} {K:x3->Prop} (h:dt w g gs A B clean s) (O:∀t,s=σ t->0<=n/\n<=ao/\dU t)
  (H:∀w',ae (bG g gs A) w w'->dt w' g gs A B clean (s.map (jQ n))->K w'):
  V x7 (bN (Γ g)) w λP=>
  V x7 (u6 cg P 2) w λQ=>
  V x7 (u5 ak Q) w λR=>
  V x7 (aJ .add ak false false R (Δ n)) w λS=>
  V x7 (Z3.min_ #[ak,ak] ak #[S,(Δ 4611686018427387904)]) w λW=>
  V x7 (bN (Γ g)) w λX=>
  V x7 (u6 cg X 2) w λY=>
  av x7 (o5 ak Y W) w λ(_:Unit) q=>
  V x7 (bN (Γ g)) q λt77=>
  V x7 (u6 cg t77 2) q λZ=>
  V x7 (u5 ak Z) q λab=>
  V x7 (aJ .gtr ak false true ab (Δ 16384)) q λac=>
  ai x7 pO [Γ g,ac,Δ at_] q λ_ ad=>K ad:=by
 cases s with
 |none=>
  obtain⟨I,e,big,y,z,told,sv,l,x,C,E⟩:=id h;rw[aO cg.p 2 x rfl,aM,kU,bW,aP cg.p rfl];refine bo (g:=g) (o:=5) ak.i rfl rfl x (by simp[fF]) λJ a ag f=>?_;rw[aO cg.p 2 f rfl,bS];have L:ez J g gs A B:=⟨I.U a,e,big,y,z,_,sv,l,f,C,aj.U E a λr _ h G=>sA h I.2.1 G⟩;refine (A6 L).mono ?_;rintro _ w2 _ M;exact H _ ((a.mono λr _ h=>.inl h).trans (M.U _)) (L.ext M)
 |some s=>
  obtain⟨au,ah,hi⟩:=O s rfl;obtain⟨I,al,am,big,y,z,told,sv,x,C,E⟩:=id h;rw[aO cg.p 2 x rfl,aM,kU,bW,aP cg.p rfl];refine bo (g:=g) (o:=5) ak.i rfl rfl x (by simp[fF]) λJ a ag f=>?_;have f:aa J g cg (fF gs 0 big y z (min (X7.wrap (told+n)) 4611686018427387904) sv):=f;rw[aO cg.p 2 f rfl,bS];have key:s.big=false->min (X7.wrap (told+n)) 4611686018427387904=min (s.told+n) ao:=λj=>by
   rw[C.2 j];have:=hi j;unfold ao at ah ⊢;rw[wrap_i64 Ω Ω]
  have an:di J g gs A B {s with told:=min (s.told+n) ao} clean:=⟨I.U a,al.U a (λhe=>I.1 he.symm) (λr ap he=>ap.1 (.inl he)),⟨by show 0<=min _ _;unfold ao;omega,by show min _ _<=_;omega,am.2.2⟩,big,y,z,_,sv,f,⟨C.1,key⟩,aj.U E a λr _ h G=>sA h I.2.1 G⟩;refine (sD an).mono ?_;rintro _ w2 _ ⟨aq,N⟩;refine H _ ((a.trans aq).mono λr _ h=>.inl h) ?_;have e:a6 (decide (16384<min (X7.wrap (told+n)) 4611686018427387904)) {s with told:=min (s.told+n) ao}=jQ n s:=by
   cases j:s.big with
   |false=>rw[key j,<-j];rfl
   |true=>simp[jQ,a6,j]
  rw[e] at N;exact N
def iQ (sizes:Λ) (s:Option aA):Option (List (Λ×Int)×aA):=s.bind (dB sizes)
def k8 (w:x3) (m:Nat) (acc:List (Λ×Int)):Prop:=c5 w m (acc.map λp=>(bR (ed p.1),Δ 1))
def ku (w:x3) (m:Nat):Prop:=∃d,c5 w m d/\ ∀p∈d,∃ (k:ByteArray) (c:Int),p=(.string k,Δ c)
theorem k8.any {acc:List (Λ×Int)} (h:k8 w m acc):ku w m:=⟨_,h,λp a=>by
 obtain⟨q,_,rfl⟩:=l7.1 a;exact⟨_,_,rfl⟩⟩
theorem Lf {k:ByteArray} (h:ku w m) (f:∀c:Int,K (Δ c)):V x7 (Instr.lookup gW (.map (σ m)) (.string k) false) w K:=by
 obtain⟨d,hm,q⟩:=h;have hk:=Keys.str c4.u;have r:∀p∈d,∃s,p.1=x1.string s:=λp a=>by obtain⟨s,c,rfl⟩:=q p a;exact⟨s,rfl⟩
 by_cases he:∃p∈d,p.1=x1.string k
 .obtain⟨p,a,e⟩:=he;obtain⟨j,x⟩:=X9.1 a;obtain⟨s,c,rfl⟩:=q p a;have e:x1.string s=x1.string k:=e;rw[e] at x;rw[qj gW.u hk hm r ⟨k,rfl⟩ x];exact f c
 .have y:∀p∈d,p.1≠x1.string k:=λp a h=>he ⟨p,a,h⟩;rw[sK gW.u hk ⟨_,_,ag.i⟩ hm r ⟨k,rfl⟩ y];exact f 0
theorem Lg {k:ByteArray} {K:Unit->x3->Prop} (h:ku w m) (x:∀w',ae (λr=>r=m) w w'->ku w' m->K () w'):av x7 (Instr.mapUpdate gW (.map (σ m)) (.string k) (Δ c)) w K:=by
 obtain⟨d,hm,e⟩:=h;have y:∀p∈d,∃s,p.1=x1.string s:=λp a=>by obtain⟨s,c,rfl⟩:=e p a;exact⟨s,rfl⟩
 refine qk gW.u (Keys.str c4.u) hm y ⟨k,rfl⟩ (λj v0 w' z f q=>x w' q ⟨_,f,λp a=>?_⟩) (λw' A f q=>x w' q ⟨_,f,λp a=>?_⟩)
 .rcases W3 a with a|rfl
  .exact e p a
  .exact⟨_,_,rfl⟩
 .rcases l9.1 a with a|a
  .exact e p a
  .rw[n9.1 a];exact⟨_,_,rfl⟩
theorem BN {a b:Λ} (e:∀x∈a,0<=x) (f:∀x∈b,0<=x) (h:bR (ed a)=bR (ed b)):a=b:=by
 have h:strOfNums (ed a)=strOfNums (ed b):=x1.string.inj h;exact Am e f (str_inj (An a) (An b) h)
theorem vR {acc:List (Λ×Int)}:∀p∈acc.map λp=>(bR (ed p.1),V5 .i64 1),∃s,p.1=x1.string s:=λp a=>by
 obtain⟨q,_,rfl⟩:=l7.1 a;exact⟨_,rfl⟩
theorem BO {acc:List (Λ×Int)} {t:Λ} (h:k8 w m acc) (f:∀p∈acc,∀x∈p.1,0<=x) (r:∀x∈t,0<=x):
  V x7 (Instr.lookup gW (.map (σ m)) (bR (ed t)) false) w K=K (Δ (if t∈acc.map (·.1) then 1 else 0)):=by
 have hk:=Keys.str c4.u;by_cases he:t∈acc.map (·.1)
 .rw[if_pos he];obtain⟨p,a,rfl⟩:=l7.1 he;obtain⟨j,s⟩:=X9.1 a;rw[qj gW.u hk h vR ⟨_,rfl⟩ (j:=j) (v:=Δ 1) (by rw[x8,s];rfl)];simp
 .rw[if_neg he];rw[sK gW.u hk ⟨_,_,ag.i⟩ h vR ⟨_,rfl⟩ (λp a y=>?_)]
  .simp
  .obtain⟨q,e,rfl⟩:=l7.1 a;have:=BN (f q e) r y;exact he (l7.2 ⟨q,e,this⟩)
theorem Lh {acc:List (Λ×Int)} {t:Λ} {K:Unit->x3->Prop} (h:k8 w m acc) (z:∀p∈acc,∀x∈p.1,0<=x) (A:∀x∈t,0<=x) (B:t∉acc.map (·.1))
  (C:∀w',ae (λr=>r=m) w w'->k8 w' m (acc++[(t,c)])->K () w'):av x7 (Instr.mapUpdate gW (.map (σ m)) (bR (ed t)) (Δ 1)) w K:=by
 refine qk gW.u (Keys.str c4.u) h vR ⟨_,rfl⟩ (λj v0 w' e f s=>?_) (λw' _ f s=>C w' s ?_)
 .rw[x8] at e;obtain⟨q,y,a⟩:=X3.1 e;have a:bR (ed q.1)=bR (ed t):=congrArg Prod.fst a;have:=BN (z q (x5 y)) A a;exact absurd (l7.2 ⟨q,x5 y,this⟩) B
 .unfold k8;rw[j6];exact f
theorem Li {acc:List (Λ×Int)} {t:Λ} {ok:Prop} {K:Unit->x3->Prop} (e:ku w m) (z:ok->k8 w m acc/\(∀p∈acc,∀x∈p.1,0<=x)/\(∀x∈t,0<=x)/\t∉acc.map (·.1))
  (f:∀w',ae (λr=>r=m) w w'->ku w' m->(ok->k8 w' m (acc++[(t,c)]))->K () w'):
  V x7 (Instr.lookup gW (.map (σ m)) (bR (ed t)) false) w λA=>
  V x7 (aJ .add ag false true A (Δ 1)) w λB=>
  av x7 (Instr.mapUpdate gW (.map (σ m)) (bR (ed t)) B) w K:=by
 by_cases j:ok
 .obtain⟨h1,q,s,y⟩:=z j;rw[BO h1 q s,if_neg y,aM,wrap_i64 Ω Ω];exact Lh (c:=c) h1 q s y λw' a I=>f w' a I.any λ_=>I
 .refine Lf e λgX=>?_;rw[aM];exact Lg e λw' a I=>f w' a I λh=>absurd h j
def fm {α:Type} (f:List α->aA->Option (α×aA)) (n:Nat) (acc:List α) (o:Option aA):Option (List α×aA):=o.bind (cK f n acc)
theorem ku.U (h:ku w m) (a:ae S w w') (e:¬S m):ku w' m:=by
 obtain⟨d,h1,f⟩:=h;exact⟨d,h1.U a e,f⟩
theorem dt.words {g:Nat} {A:af} {B:af} {s:aA} (h:dt w g gs A B clean (σ s)):s.toks.length<=100000:=by
 have h:di w g gs A B s clean:=h;exact h.2.1.words.1
theorem BP {acc:List (Λ×Int)} {st:aA} {t:Λ} (j:∀q,eY sizes [] (σ st)=σ q->t=q.1) (a:∀q,bb 0 ao ((eY sizes [] (σ st)).map (·.2))=σ q->c=q.1):
  (bb 0 ao ((eY sizes [] (σ st)).map (·.2))=ν->dT sizes acc st=ν)/\ ∀q,bb 0 ao ((eY sizes [] (σ st)).map (·.2))=σ q->dT sizes acc st=if t∈acc.map (·.1) then ν else σ ((t,c),q.2):=by
 have e:eY sizes [] (σ st)=iI sizes [] st:=rfl;rw[e] at j a ⊢;unfold dT;cases h1:iI sizes [] st with
 |none=>exact⟨λ_=>rfl,λq f=>(by cases f)⟩
 |some q=>
  obtain⟨bp,p⟩:=q;rw[h1] at j a;have:=j _ rfl;subst this;have r:bb 0 ao ((σ (t,p)).map (·.2))=bc 0 ao p:=rfl;rw[r] at a ⊢;simp only;cases s:bc 0 ao p with
  |none=>exact⟨λ_=>rfl,λq f=>(by cases f)⟩
  |some q=>
   obtain⟨w,x⟩:=q;rw[s] at a;have:=a _ rfl;subst this;exact⟨λh=>(by cases h),λq f=>(by cases f;rfl)⟩
theorem Lj {g:Nat} {A B:af} {s:Option aA} {Q:x1->x3->Prop}
  (h:dt w g gs A B clean s) (bW:aF .i64 w sv sizes) (aU:∀r,leads sv r->¬bG g gs A r/\r<w.heap.size) (bX:∀z∈sizes,1<=z/\z<=ao) (bZ:sizes.length<=100001) (b0:eX w) (h1:cG g gs A B 1) (b2:(N:Int)<=ao)
  (bp:∀v w' l,fQ w g gs A B clean ((fm (dT sizes) N [] s).map (·.2)) w'->bj (eI w.heap.size) bC w' [v] (show List (Λ×Int) from l)->(∀q,fm (dT sizes) N [] s=σ q->l=q.1)->Q v w'):
  av x7 (Instr.makeMap gW ν) w λaV y=>
 bY (.slice ν 0 0) (Δ 0) y λout i H k=>
  cr (α:=x1->x3->Prop) (λ(b3:x1) (S:x3)=>
   Split b3 (av x7 (S0 ec true (.tuple #[])) S λx j=>
  V x7 (V3 #[an] ag #[sv]) j λb4=>
  bY (.string ⟨#[]⟩) (Δ 0) j λkey aY W b5=>
   V x7 (aJ .lss ag false false aY b4) W λb6=>
   Split b6 (V x7 (c8 an sv aY) W λb7=>
   V x7 (u5 ak b7) W λb8=>
   V x7 (aJ .sub ak false true b8 (Δ 1)) W λca=>
   ai x7 nj [Γ g,(Δ 0),ca] W λbq ab=>
   V x7 (Z8 bq 0) ab λbr=>
   V x7 (Z8 bq 1) ab λdx=>
   V x7 (u6 ec x 0) ab λcb=>
   V x7 (u5 an cb) ab λcc=>
   av x7 (Y4 an 1 #[(0,br)]) ab λcd I=>
   av x7 (b9 #[an,an] an #[cc,cd]) I λce bz=>
   V x7 (u6 ec x 0) bz λcg=>
   av x7 (o5 an cg ce) bz λ(_:Unit) ch=>
   ai x7 uX [br] ch λci aD=>
   V x7 (aJ .add c4 false true ci (.string ⟨#[32]⟩)) aD λcj=>
   V x7 (aJ .add c4 false false key cj) aD λck=>
   V x7 (aJ .add ag false true aY (Δ 1)) aD λcl=>
   b5 ck cl aD)
    (ai x7 nj [Γ g,(Δ 0),(Δ 4611686018427387904)] W λbA aE=>
  V x7 (Z8 bA 0) aE λcm=>
  V x7 (Z8 bA 1) aE λcn=>
  V x7 (u6 ec x 1) aE λcp=>
  av x7 (o5 ak cp cm) aE λ(_:Unit) cq=>
  cr (α:=x3->Prop) (λ(X:x3)=>
   V x7 (Instr.lookup gW aV key false) X λct=>
   V x7 (aJ .add ag false true ct (Δ 1)) X λcu=>
   av x7 (Instr.mapUpdate gW aV key cu) X λ(_:Unit) ac=>
   V x7 (u5 ec x) ac λcw=>
   av x7 (Y4 iC 1 #[(0,cw)]) ac λcz ay=>
   av x7 (b9 #[iC,iC] iC #[out,cz]) ay λcA aG=>
   V x7 (aJ .add ak false true i (Δ 1)) aG λcB=>
  k cA cB aG) λbB=>
  cr (α:=x1->x3->Prop) (λ(cC:x1) (M:x3)=>
   Split cC (ai x7 nk [Γ g,(Δ 4),cn] M λdy bD=>
    bB bD)
    (bB M)) λbE=>
  ai x7 kP [Γ g] cq λcD al=>
  Split cD (V x7 (Instr.lookup gW aV key false) al λcE=>
  V x7 (aJ .gtr ag false true cE (Δ 0)) al λcF=>
  bE cF al)
   (bE (.bool false) al)))
    (Q out S)) λbF=>
  V x7 (aJ .lss ak false false i (Δ (N:Int))) H λcH=>
  Split cH (ai x7 kP [Γ g] H λcI cJ=>
  bF cI cJ)
   (bF (.bool false) H):=by
 obtain⟨dz,dA,dC,cK,aH⟩:=h.side;have ad:∀r,bG g gs A r->r<w.heap.size:=cK;unfold ao at b2;refine sJ λC y dD aZ a1=>?_;have dE:=aZ.size;have dF:=a1.lt;generalize E:fm (dT sizes) N [] s=bH at bp;refine⟨λout a2 H=>∃ (i:Nat) (acc:List (Λ×Int)) (so:Option aA),a2=Δ (i:Int)/\i<=N/\ae (bG g gs A) w H/\y.heap.size<=H.heap.size/\bj (eI y.heap.size) bC H [out] acc/\dt H g gs A B clean so/\
   bH=fm (dT sizes) (N-i) acc so/\ku H C/\acc.length<=100001/\ ∀st,so=σ st->k8 H C acc/\(∀p∈acc,∀x∈p.1,0<=x)/\acc.length+st.toks.length<=100000,
  λ_ a2 _=>N-(b1 a2).toNat,⟨0,[],s,rfl,X8 _,aZ.U _,o4 _,gk,h.ext aZ,E.symm,⟨[],a1,λp L=>(by cases L)⟩,Ξ,λst cL=>⟨a1,λp L=>(by cases L),?_⟩⟩,?_⟩
 .subst cL;have:=h.words;simpa using this
 rintro out _ H ⟨i,acc,so,rfl,dG,bI,z9,bJ,a6,aI,cM,dH,a7⟩;refine aT (λv S=>Ext H S/\((v= .bool true/\i<N/\ ∃st,so=σ st)\/(v= .bool false/\(so=ν\/i=N)))) ?_ ?_
 rotate_left
 .intro au a8;rw[aQ,ah];refine⟨λcN=>?_,λdI=>a8 _ _ ⟨Ext.refl _,.inr ⟨rfl,.inr Ω⟩⟩⟩;refine (o3 a6).mono ?_;rintro _ S _ ⟨rfl,O⟩;cases so with
  |none=>exact a8 _ _ ⟨O,.inr ⟨rfl,.inl rfl⟩⟩
  |some st=>exact a8 _ _ ⟨O,.inl ⟨rfl,Ω,st,rfl⟩⟩
 rintro _ S ⟨O,cO⟩;rcases cO with⟨rfl,cN,st,rfl⟩|⟨rfl,cP⟩
 rotate_left
 .rw[aW];have bK:bH=so.map λst=>(acc,st):=by
   rcases cP with rfl|rfl
   .exact aI
   .rw[U7] at aI;rw[aI];cases so<;>rfl
  refine bp out S acc (fQ.mk (bI.trans (O.U _)) ?_) (bd (aj.mono bJ (λr _ h=>by have h:y.heap.size<=r:=h;show w.heap.size<=r;omega) λ_ _ h=>h) O) (λq J=>?_)
  .rw[bK,Option.map_map];have e:U6 ((λx=>x.2)∘λst=>(acc,st)) so=so:=by cases so<;>rfl
   rw[e];exact a6.ext O
  .rw[bK] at J;cases so with
   |none=>cases J
   |some st=>cases J;rfl
 rw[bO];obtain⟨a7,ba,dJ⟩:=a7 st rfl;have dK:=O.size;refine bt ec.i λam j dL bL bM=>?_;have az:=O.trans bL;have bc:ae (bG g gs A) w j:=bI.trans (az.U _);have bN:aF .i64 j sv sizes:=hV bW bc λr f a n c cQ cR=>(aU r ⟨a,n,c,cQ,cR⟩).1 f;rw[aX an.u bN];have aK:¬bG g gs A am:=λE=>by have:=ad _ E;omega
 refine Lc (s:=σ st) (a6.ext az) bN (λr f=>⟨(aU r f).1,by have:=(aU r f).2;omega⟩) bX bZ (b0.U bc h1.1) h1 bM aK (λcS=>by have:=aH _ cS;omega) λt W aL gt dM cT bP cU cV cW cX cY=>?_;have dN:=bL.size;have z12:=bP.size;have dO:=bM.lt;have be:∀x∈t,0<=x:=λx cZ=>(cT x cZ).1;refine (lV cX).mono ?_;rintro _ ab _ ⟨bf,c,dP,rfl,c0,dQ⟩;obtain⟨aN,c3⟩:=bf.of;have dR:=aN.size;rw[bu,bw,aP ec.p rfl];refine bo (g:=am) (o:=1) ak.i rfl rfl (cU.U aN aK) Ξ λI aO dS bg=>?_;have bg:aa I am ec [aL,Δ c]:=bg;have c6:ap .i64 ak I gt aL t:=(cV.U aN (λ_ E=>by have:=ad _ E;omega)).U aO (λ_ he=>by have he:gt=am:=he;omega);have bh:ae (λr=>bG g gs A r\/r=am) j I:=(bP.trans (aN.mono λr _ h=>.inl h)).trans (aO.mono λr _ h=>.inr h);have Y:dt I g gs A B clean ((bb 0 ao ((eY sizes [] (σ st)).map (·.2))).map (·.2)):=c3.U aO (λr f he=>by have he:r=am:=he;exact aK (he▸f)) (λr f he=>by have:=aH r f.2;have he:r=am:=he;omega);have bQ:¬(λr=>bG g gs A r\/r=am) C:=λh=>h.elim (λh=>by have:=ad _ h;omega) (λh=>Ω);have c7:ku I C:=(cM.U (az.U (λ_=>False)) (λh=>h)).U bh bQ;have bR:k8 I C acc:=(c5.ext a7 az).U bh bQ;obtain⟨bi,bk⟩:=BP (acc:=acc) cY c0;refine dm (λX=>ae (bG g gs A) I X/\dt X g gs A B clean ((dT sizes acc st).map (·.2))) ?_ ?_
 .rintro X ⟨aq,c9⟩;have bl:¬bG g gs A C:=λh=>by have:=ad _ h;omega
  have dU:=aO.size;have dV:=aq.size;refine Li (acc:=acc) (t:=t) (c:=c) (ok:=∃q,dT sizes acc st=σ q) (c7.U aq bl) (λ⟨q,J⟩=>⟨c5.U bR aq bl,ba,be,λP=>?_⟩) λac aB da db=>?_
  .cases K:bb 0 ao ((eY sizes [] (σ st)).map (·.2)) with
   |none=>rw[bi K] at J;cases J
   |some aw=>rw[bk aw K,if_pos P] at J;cases J
  have dW:=aB.size;have dc:aa ac am ec [aL,Δ c]:=(bg.U aq aK).U aB (λhe=>by have he:am=C:=he;omega);have dd:ap .i64 ak ac gt aL t:=(c6.U aq (λ_ E=>by have:=ad _ E;omega)).U aB (λ_ he=>by have he:gt=C:=he;omega);rw[bx ec.p ec.i rfl dc.range];have bT:bj (eI j.heap.size) bC ac [aL,Δ c] (t,c):=⟨[aL],[Δ c],eI j.heap.size,bC,rfl,λ_ h=>h,λ_ h=>h.elim,λ_ _ _ h=>h,aj.mono (nA dd) (λr _ h=>by subst h;exact cW) (λ_ _ h=>h),rfl⟩;refine iH (α:=Λ×Int) (a:=(t,c)) (cs:=[aL,Δ c]) (A:=eI j.heap.size) (R:=bC) iC.u ec.i Φ rfl bT λu ay ax _ de=>?_;have z22:=ax.size;have df:bj (λr=>eI y.heap.size r/\r<j.heap.size/\r≠am) bC j [out] acc:=bd (aj.mono (mp bJ) (λr _ h=>⟨h.1,by have:=h.2;omega,by have:=h.2;omega⟩) λ_ _ h=>h) az;have bU:ae (λr=>bG g gs A r\/r=am\/r=C) j ay:=(((bh.mono λr _ h=>h.elim .inl λh=>.inr (.inl h)).trans (aq.mono λr _ h=>.inl h)).trans (aB.mono λr _ h=>.inr (.inr h))).trans (ax.U _);have dg:=aj.U df bU λr f h E=>by
   rcases h with h|h
   .have aR:y.heap.size<=r:=h.1;rcases E with E|E|E
    .have:=ad _ E;omega
    .exact h.2.2 E
    .omega
   .exact h
  refine nz (α:=Λ×Int) (a:=(t,c)) (A:=eI j.heap.size) iC.u ec.i rfl dg de (bd bT ax) (λr _ h h'=>?_) Ω Ω λdX aG dh aC=>?_
  .rcases h' with h'|h'
   .have:=h.2;have:j.heap.size<=r:=h';omega
   .exact h'
  have dY:=aC.size;rw[aM,wrap_i64 Ω Ω];have di:ae (bG g gs A) w ay:=hy bc bU λr f h=>by
   rcases h with h|h|h
   .exact h
   .omega
   .omega
  have dj:ae (bG g gs A) w aG:=hy di aC λr f h=>by have aR:y.heap.size<=r:=h.1;omega
  have dk:dt ay g gs A B clean ((dT sizes acc st).map (·.2)):=(c9.U aB (λr f he=>by have he:r=C:=he;exact bl (he▸f)) (λr f he=>by have:=aH r f.2;have he:r=C:=he;omega)).ext ax;have dl:∀r,bG g gs A r->¬(eI y.heap.size r/\r<j.heap.size/\r≠am):=λr f he=>by have:=ad _ f;have aR:y.heap.size<=r:=he.1;omega
  have dn:∀r,cG g gs A B r->¬(eI y.heap.size r/\r<j.heap.size/\r≠am):=λr f he=>by have:=aH r f.2;have aR:y.heap.size<=r:=he.1;omega
  have bV:¬(eI y.heap.size C/\C<j.heap.size/\C≠am):=λhe=>by have aR:y.heap.size<=C:=he.1;omega
  refine⟨⟨i+1,acc++[(t,c)],(dT sizes acc st).map (·.2),rfl,Ω,dj,Ω,?_,dk.U aC dl dn,?_,(da.U (ax.U (λ_=>False)) (λh=>h)).U aC bV,Θ,λdp dq=>?_⟩,by simp only[b1];omega⟩
  .refine aj.mono dh (λr _ h=>?_) λ_ _ h=>h;show y.heap.size<=r;rcases h with h|h|h
   .exact h.1
   .have h:j.heap.size<=r:=h;omega
   .omega
  .rw[aI,show N-i=(N-(i+1))+1 by omega];cases G:dT sizes acc st with
   |none=>exact oV G
   |some q=>
    obtain⟨a,dp⟩:=q;have dr:a=(t,c):=by
     cases K:bb 0 ao ((eY sizes [] (σ st)).map (·.2)) with
     |none=>rw[bi K] at G;cases G
     |some aw=>
      rw[bk aw K] at G;split at G
      .cases G
      .cases G;rfl
    subst dr;exact sF G
  .obtain⟨q,J,rfl⟩:=X3.1 dq;have dZ:=(nN J).2.2.2.1;refine⟨c5.U ((c5.ext (db ⟨q,J⟩) ax)) aC bV,λp L=>?_,by simp only[p8,U3];omega⟩;rcases l9.1 L with L|L
   .exact ba p L
   .rw[n9.1 L];exact be
 .intro ea bm;cases K:bb 0 ao ((eY sizes [] (σ st)).map (·.2)) with
  |none=>
   rw[K] at Y;have G:=bi K;refine aT (λv M=>Ext I M/\v= .bool false) ?_ ?_
   .rintro _ M ⟨Z,rfl⟩;rw[aW];exact bm _ ⟨Z.U _,by rw[G];exact Y.ext Z⟩
   .intro ds bn;refine (o3 Y).mono ?_;rintro _ al _ ⟨rfl,aS⟩;rw[show ((ν:Option (Int×aA)).map (·.2)).isSome=false from rfl,aW];exact bn _ _ ⟨aS,rfl⟩
  |some aw=>
   rw[K] at Y;have G:=bk aw K;refine aT (λv M=>Ext I M/\v= .bool (decide (t∈acc.map (·.1)))) ?_ ?_
   .rintro _ M ⟨Z,rfl⟩;rw[ah];refine⟨λP=>?_,λdu=>?_⟩
    .refine (Lb (Y.ext Z) Ω).mono ?_;rintro _ bD _ bf;obtain⟨dv,dw⟩:=bf.of;exact bm _ ⟨(Z.U _).trans dv,by rw[G,if_pos P];exact dw⟩
    .exact bm _ ⟨Z.U _,by rw[G,if_neg du];exact Y.ext Z⟩
   .intro ds bn;refine (o3 Y).mono ?_;rintro _ al _ ⟨rfl,aS⟩;rw[show ((σ aw:Option (Int×aA)).map (·.2)).isSome=true from rfl,bO,BO (c5.ext bR aS) ba be,bS];refine bn _ _ ⟨aS,?_⟩;congr 1;by_cases P:t∈acc.map (·.1)
    .rw[if_pos P,decide_eq_true P];rfl
    .rw[if_neg P,decide_eq_false P];rfl
theorem BQ (sizes:Λ) (s:Option aA):iQ sizes s=match bb (-ao) ao s with
 |none=>ν
 |some (n,s)=>
  if n<0 then match s.shared[(-n-1).toNat]? with
   |none=>ν
   |some (z,l)=>if z=sizes then σ (l,s) else ν
  else cK (dT sizes) n.toNat [] (jQ n s):=by
 cases s with
 |none=>rfl
 |some s=>
  show dB sizes s=_;unfold dB;show _=match bc (-ao) ao s with
   |none=>ν
   |some (n,s)=>
    if n<0 then match s.shared[(-n-1).toNat]? with
     |none=>ν
     |some (z,l)=>if z=sizes then σ (l,s) else ν
    else cK (dT sizes) n.toNat [] (jQ n s)
  cases bc (-ao) ao s<;>rfl
theorem BR {m:Bool} {S R:af} {a:iO} (h:aj.rep (α:=iO) m S R w cs a):∃u v,cs=[u,v]/\aj.rep (α:=Λ) false bC R w [u] a.1/\aj.rep (α:=List (Λ×Int)) false bC R w [v] a.2:=by
 obtain⟨c,d,f,fo,rfl,_,_,_,h1,e⟩:=h;have h1:aj.rep (α:=Λ) false bC R w c a.1:=h1;have e:aj.rep (α:=List (Λ×Int)) false bC R w d a.2:=e;obtain⟨u,rfl⟩:=V2.1 (show c.length=1 from aj.len h1);obtain⟨v,rfl⟩:=V2.1 (show d.length=1 from aj.len e);exact⟨u,v,rfl,h1,e⟩
theorem Lk {g:Nat} {A B:af} {s:Option aA}
  (h:dt w g gs A B clean s) (hi:∀t,s=σ t->dU t) (ay:aF .i64 w sv sizes) (L:∀r,leads sv r->¬bG g gs A r/\r<w.heap.size) (az:∀z∈sizes,1<=z/\z<=ao) (aC:sizes.length<=100001) (aD:eX w) (h1:cG g gs A B 1):
  ai x7 Ht [Γ g,sv] w λv w'=>fQ w g gs A B clean ((iQ sizes s).map (·.2)) w'/\ ∃l,Seen (λr=>cG g gs A B r\/w.heap.size<=r) w' [v] (show List (Λ×Int) from l)/\ ∀q,iQ sizes s=σ q->l=q.1:=by
 have aE:=h.side;obtain⟨be,bf,bg,aG,bh⟩:=id aE;have ad:∀r,bG g gs A r->r<w.heap.size:=aG;refine aw func142 ?_;refine (lV (lo:=-ao) (hi:=ao) h).mono ?_;rintro _ J _ ⟨aH,n,at_,rfl,W,aI⟩;obtain⟨M,ak⟩:=aH.of;have bi:=M.size;have j:=BQ sizes s;rw[bu,bw];have al:aF .i64 J sv sizes:=hV ay M λr C a n c O X=>(L r ⟨a,n,c,O,X⟩).1 C;have bk:∀r,leads sv r->¬bG g gs A r/\r<J.heap.size:=λr C=>⟨(L r C).1,by have:=(L r C).2;omega⟩;have rest:∀w2,Ext J w2->(∀q,bb (-ao) ao s=σ q->¬n<0)-> ∀N:Nat,n=(N:Int)->(N:Int)<=ao-> ∀y,ae (bG g gs A) w2 y->dt y g gs A B clean (((bb (-ao) ao s).map (·.2)).map (jQ n))->
   ∀v w' l,fQ y g gs A B clean ((fm (dT sizes) N [] (((bb (-ao) ao s).map (·.2)).map (jQ n))).map (·.2)) w'->bj (eI y.heap.size) bC w' [v] (show List (Λ×Int) from l)->(∀q,fm (dT sizes) N [] (((bb (-ao) ao s).map (·.2)).map (jQ n))=σ q->l=q.1)->
   fQ w g gs A B clean ((iQ sizes s).map (·.2)) w'/\ ∃l,Seen (λr=>cG g gs A B r\/w.heap.size<=r) w' [v] (show List (Λ×Int) from l)/\ ∀q,iQ sizes s=σ q->l=q.1:=by
  intro w2 x P N Y Z y G aa v w' l aJ aK aL;obtain⟨aM,aN⟩:=aJ.of;have aR:=x.size;have z3:=G.size;have e:iQ sizes s=fm (dT sizes) N [] (((bb (-ao) ao s).map (·.2)).map (jQ n)):=by
   rw[j];cases f:bb (-ao) ao s with
   |none=>rfl
   |some q=>
    obtain⟨aS,H⟩:=q;have:=W _ f;subst this;simp only;rw[if_neg (P _ f),Y,r8];rfl
  rw[e];refine⟨fQ.mk (((M.trans (x.U _)).trans G).trans aM) aN,l,nv aK λr _ h=>?_,aL⟩;rcases h with h|h
  .have h:y.heap.size<=r:=h;exact .inr Ω
  .exact h.elim
 refine aT (λv w2=>Ext J w2/\v= .bool (decide (n<0/\(bb (-ao) ao s).isSome=true))) ?_ ?_
 rotate_left
 .intro au V;refine (o3 ak).mono ?_;rintro _ w2 _ ⟨rfl,x⟩;cases f:bb (-ao) ao s with
  |none=>
   rw[show ((ν:Option (Int×aA)).map (·.2)).isSome=false from rfl,aW];exact V _ _ ⟨x,by rw[decide_eq_false];rintro⟨_,h⟩;rw[f] at h;cases h⟩
  |some q=>
   rw[show ((σ q:Option (Int×aA)).map (·.2)).isSome=true from rfl,bO,aQ];exact V _ _ ⟨x,by congr 1;rw[U1,decide_eq_true_eq,decide_eq_true_eq,f];exact⟨λh=>⟨h,rfl⟩,λh=>h.1⟩⟩
 rintro _ w2 ⟨x,rfl⟩;have I:=ak.ext x;have aR:=x.size;rw[ah];refine⟨λP=>?_,λaU=>?_⟩
 rotate_left
 .have P:∀q,bb (-ao) ao s=σ q->¬n<0:=λq f h=>aU ⟨h,by rw[f];rfl⟩;obtain⟨N,Y,Z⟩:∃N:Nat,n=(N:Int)/\(N:Int)<=ao:=by
   cases f:bb (-ao) ao s with
   |none=>rw[aI f];exact⟨0,rfl,by unfold ao;omega⟩
   |some q=>
    have h1:=P q f;have aV:=mD (n:=q.1) (s':=q.2) f;have aX:=W q f;exact⟨n.toNat,Ω,Ω⟩
  refine Le (at_:=at_) I (λt aY=>?_) λy G aa=>?_
  .obtain⟨q,f,rfl⟩:=X3.1 aY;have aV:=mD (n:=q.1) (s':=q.2) f;have aX:=W q f;refine⟨Ω,Ω,?_⟩;cases s with
   |none=>cases f
   |some s0=>
    have am:=(de (n:=q.1) (s':=q.2) f).eqs;have an:=hi s0 rfl;intro ap;rw[am.1];rw[am.2.1] at ap;exact an ap
  .have z3:=G.size;have aZ:ae (bG g gs A) w y:=(M.trans (x.U _)).trans G;subst Y;refine Lj (N:=N) aa ((hV (al.ext x) G λr C a n c O X=>(L r ⟨a,n,c,O,X⟩).1 C)) (λr C=>⟨(L r C).1,by have:=(L r C).2;omega⟩) az aC (aD.U aZ h1.1) h1 Z λv w' l a b c=>?_;exact rest w2 x P N rfl Z y G aa v w' l a b c
 .obtain⟨a1,a2⟩:=P;obtain⟨⟨aS,H⟩,f⟩:=Option.isSome_iff_exists.1 a2;have:=W _ f;subst this;have bl:=mD f;rw[f] at j I;simp only at j;rw[if_pos a1] at j;have I:di w2 g gs A B H clean:=I;obtain⟨_,an,bm,big,bn,bo,told,bp,ab,bq,ac⟩:=id I;have br:ao=4611686018427387904:=rfl;refine aT (λv y=>Ext w2 y/\v= .bool (decide (iQ sizes s=ν))) ?_ ?_
  .rintro _ y ⟨E,rfl⟩;rw[ah];refine⟨λa6=>?_,λaq=>?_⟩
   .refine (sC (I.ext E) Ω).mono ?_;rintro _ bt _ ⟨a7,a8⟩;rw[a6];refine⟨fQ.mk (((M.trans (x.U _)).trans (E.U _)).trans (a7.mono λr _ h=>.inl h)) a8,[],gk,λq f=>by cases f⟩
   .cases Q:H.shared[(-n-1).toNat]? with
    |none=>rw[Q] at j;exact absurd j aq
    |some q=>
     obtain⟨z,l⟩:=q;rw[Q] at j;simp only at j;have ba:z=sizes:=by
      by_cases K:z=sizes
      .exact K
      .rw[if_neg K] at j;exact absurd j aq
     rw[if_pos ba] at j;rw[aO cg.p 3 (ab.ext E) rfl,lO,wrap_i64 Ω Ω,dR,wrap_i64 Ω Ω];refine ib (α:=iO) (m:=true) (S:=A) (R:=cG g gs A B) (i:=(-n-1).toNat) (a:=(z,l)) Ω ht.u jE.i (bd ac E) Q λb o cs ag aj=>?_;obtain⟨u,v,rfl,hu,O⟩:=BR aj;rw[aP jE.p rfl,aB Ψ (ag 1 v rfl)];rw[j];refine⟨fQ.mk ((M.trans (x.U _)).trans (E.U _)) (I.ext E),l,nv O λr _ h=>?_,λq f=>by cases f;rfl⟩;rcases h with h|h
     .exact h.elim
     .exact .inl h
  .intro au V;rw[lO,wrap_i64 Ω Ω,aO cg.p 3 ab rfl,fC ht.u ac,bS,ah];refine⟨λav=>V _ _ ⟨Ext.refl _,?_⟩,λax=>?_⟩
   .have av:(H.shared.length:Int)<0-n:=av;rw[Z4 Ω] at j;rw[decide_eq_true j]
   .have ax:¬(H.shared.length:Int)<0-n:=ax;have bc:(-n-1).toNat<H.shared.length:=Ω
    obtain⟨⟨z,l⟩,Q⟩:∃q,H.shared[(-n-1).toNat]? =σ q:=⟨_,x6 bc⟩;rw[aO cg.p 3 ab rfl,lO,wrap_i64 Ω Ω,dR,wrap_i64 Ω Ω];refine ib (α:=iO) (m:=true) (S:=A) (R:=cG g gs A B) (i:=(-n-1).toNat) (a:=(z,l)) Ω ht.u jE.i ac Q λb o cs ag aj=>?_;obtain⟨u,v,rfl,hu,O⟩:=BR aj;rw[aP jE.p rfl,aB Ψ (ag 0 u rfl)];refine (zO (cN hu) (al.ext x)).mono ?_;rintro _ y _ ⟨rfl,E⟩;rw[bF];refine V _ _ ⟨E,?_⟩;rw[Q] at j;simp only at j;by_cases K:z=sizes
    .rw[if_pos K] at j;rw[decide_eq_true K,decide_eq_false (by rw[j];simp)];rfl
    .rw[if_neg K] at j;rw[decide_eq_false K,decide_eq_true j];rfl
end Go.Proofs.YtjjhhcfgfdepdaaGreatDoor
