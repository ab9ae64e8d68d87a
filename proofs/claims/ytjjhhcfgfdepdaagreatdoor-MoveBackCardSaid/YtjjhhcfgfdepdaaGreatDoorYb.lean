/- own texts, made small by a tool (wip/ holds them as they were written): no statement of the seat. -/
import Derived.Test.YtjjhhcfgfdepdaaGreatDoorYa
set_option linter.unusedVariables false
set_option linter.unusedSimpArgs false
set_option linter.unnecessarySimpa false
open Array renaming getElem?_eq_some_iff→j0,getElem?_toList→S5
open BitVec renaming ofInt→U5
open Bool renaming not_true→Y4,not_false→W5,eq_iff_iff→V3,and_eq_true→U4,or_eq_false_iff→S2
open Decidable renaming not_not→Y3
open Go renaming Value→x1,World→x3,TypeId→r9,IntKind→o6,Builtin→Z1,Program→W3,FuncId→R3
open Go.Addr renaming add_mid→T5
open Go.Builtin renaming append_→b8,len_→W7
open Go.Instr renaming loadAt→u5,fieldAt→u6,storeAt→o8,indexAt→c7,extract→Z7,buildSlice→Y1,sliceAt→V5,alloc→T7
open Go.IntKind renaming i64→X2,u64→U2
open Go.Proofs.Tryz renaming prog→x7
open Go.Result renaming andThen→W0
open Go.Sem renaming run_bind→X8,run_pure→W9
open Go.Value renaming int→V0
open Int renaming toNat_natCast→r8
open List renaming getElem?_eq_some_iff→x4,mem_of_getElem?→x5,getElem?_eq_getElem→x6,getElem?_map→x8,getD_eq_getElem?_getD→u4,length_map→u7,take_add_one→u9,length_append→p8,replicate→p9,take_length→o5,take_of_length_le→o9,mem_map→n9,mem_append→l7,mem_singleton→l9,getElem?_set_self→j4,length_take→j5,map_append→j6,append_assoc→c9,eq_nil_of_length_eq_zero→b9,length_cons→Z0,length_set→Z2,getElem?_eq_none→Z3,getElem?_append_left→Z8,getElem?_append_right→Z9,getElem?_set_ne→Y0,ext_getElem?→Y2,flatMap_cons→Y6,getElem?_take_of_lt→Y8,getElem?_set→X1,mem_iff_getElem?→X4,mem_or_eq_of_mem_set→X6,drop_eq_getElem_cons→X7,append_nil→X9,mem_cons→W6,length_eq_one_iff→W8,range→V1,pairwise_iff_getElem→V2,map_cons→V4,map_set→U3,length_singleton→U6,length→T1,set_append_right→T2,getElem_mem→T8,map_map→S8
open Nat renaming le_refl→o4,le_trans→Y5,mul_le_mul_right→Y9,zero_le→X3,zero_add→X5,add_mul→V9,sub_self→U1,mul_one→U9,pow_le_pow_right→T6,eq_zero_or_pos→S4,add_assoc→S9,add_sub_cancel_left→R2,lt_of_lt_of_le→R5
open Ne renaming symm→S3
open Option renaming toList_some→o7,map_some→Z4,isNone_some→Z5,map_eq_some_iff→Y7,getD_some→V6,map→V8
open Option.some renaming inj→c8,injEq→X0
open Prod.mk renaming injEq→T9
set_option maxHeartbeats 16000000
open Option renaming some→σ,none→ν
variable {e t:r9}{N a gs j m n r:Nat}{at_ c hi k lo y:Int}{sv v z:x1}{cs:List x1}{K:x1->Prop}{f:o6}{C ad ks l sizes:Λ}{w w':x3}{clean cx cy:Bool}{S:Nat->Prop}
namespace Go.Vc
open Go Go.RowKit
section
variable {P:W3} {w:x3} {m:Bool} {S R:ag}
theorem sg {b k l h:Nat} {low high:Option x1} (p:P.underlying t=σ (.slice e)) (hi:aN P e k b z)
  (a:bX w k v n cs) (h1:lP low l) (q:lQ high n h) (f:l<=h) (az:h<=n) (r:∀j,bX w k j (h-l) ((cs.drop (l*k)).take ((h-l)*k))->K j):
  aa P (V5 t v low high ν) w K:=by
 have s:=a;obtain⟨_,x,o,base,cap,rfl,y,_⟩:=a;rw[iG p hi h1 q gg f Ω (o4 _)];exact r _ (bX.part s f az Ω (o4 _))
theorem Jf {k:o6} {b i:Nat} (j:y=(i:Int)) (p:P.underlying t=σ (.slice e)) (hi:aN P e 1 b z)
  (h:aH k w v l) (q:i<=l.length) (r:∀a,aH k w a (l.drop i)->K a):aa P (V5 t v (σ (.int f y)) ν ν) w K:=by
 refine sg p hi h (nq i y j) kg q (o4 _) λa h'=>r a (aH.of (n:=l.length-i) ?_);have s:((ints k l).drop (i*1)).take ((l.length-i)*1)=ints k (l.drop i):=by
  rw[o9 Ξ,U9,ints,<-List.map_drop]
 rw[s] at h';exact h'
theorem Jg {k:o6} {b i:Nat} (j:y=(i:Int)) (p:P.underlying t=σ (.slice e)) (hi:aN P e 1 b z)
  (h:aH k w v l) (q:i<=l.length) (r:∀a,aH k w a (l.take i)->K a):aa P (V5 t v ν (σ (.int f y)) ν) w K:=by
 refine sg p hi h kf (nr i y j) (X3 _) q λa h'=>r a (aH.of (n:=i) ?_);have s:((ints k l).drop (0*1)).take ((i-0)*1)=ints k (l.take i):=by
  simp[ints,List.map_take]
 rw[s] at h';exact h'
theorem pY {b:Nat} {parts:Array (Nat×x1)} {K:x1->x3->Prop} (a:P.underlying t=σ (.slice e)) (hi:aN P e 1 b (Δ 0)) (x:n<=100000) (f:l.length=n)
  (h:Instr.fill (λj=>σ (j*1,1)) ((Array.range (n*1)).map ((if n*1=0 then #[] else (V0 .i64 0).cells)[·% (if n*1=0 then #[] else (V0 .i64 0).cells).size]!)) parts.toList=σ (ints .i64 l).toArray)
  (p:∀v g w',g=w.heap.size->Ext w w'->ap .i64 e w' g v l->K v w'):ax P (Y1 t n parts) w K:=
 jj a hi Ω h λg w' q r s=>p _ g w' q r (ap.of (n:=n) (bQ.full (by simpa using s) (by simp[f]) (by simp[maxLen];omega)))
end
section
variable {P:W3} {w:x3}
theorem Jh {h p:r9} {q kn:o6} {b k cap:Nat} {base:Option Addr} {xs:List x1} {K:x1->x3->Prop} (x:y=(k:Int)) (A:P.underlying t=σ (.slice e)) (B:P.underlying h=σ (.int kn)) (hi:aN P e 1 b z) (C:z.cells= #[z])
  (I:bX w 1 (.slice base n cap) n xs) (E:0<k) (r:cap<n+k) (F:(n+k)*b<=140737488355328) (G:n+k<=9223372036854775807)
  (H:∀v g w',g=w.heap.size->Ext w w'->bQ w' g e 1 v (n+k) (xs++p9 k z)->K v w'):ax P (b8 #[t,h] p #[.slice base n cap,.int q y]) w K:=by
 subst x;obtain⟨i,hi,J,rfl,L⟩:=hi;obtain⟨f,W,o,X,Y,he,M,Z,N,O⟩:=I;cases he;have Q:(Z1.firstCells i.size n (.slice base n cap)).run P w.drew= .ok xs.toArray w.drew:=by
  rcases S4 n with rfl|R
  .have:xs=[]:=b9 (by simpa using f);subst this;cases base with
   |none=>exact run_firstCells_none w.drew i.size 0 0 cap
   |some a=>exact run_firstCells_some w.drew i.size 0 a 0 cap [] Ξ Ξ
  .have:=N R;subst this;refine run_firstCells_some w.drew i.size n _ n cap xs (by rw[J];exact f) λj u hu=>?_;rw[T5];exact O j u hu
 have S:k*i.bytes<=281474976710656:=by
  have:k*i.bytes<=(n+k)*i.bytes:=Y9 _ Ω;omega
 have T:=Lib.run_append_grow_zeros (P:=P) w t h p e i z q kn A B hi L base n cap xs Q k E Ω r Ω S (growslice_fits r F);have U:n+k<=grownCap w (n+k) cap e:=grownCap_ge w _ _ _;have V:grownCap w (n+k) cap e<=maxLen:=grownCap_le_maxLen w (n+k) cap e (by simpa[maxLen] using G);have s:∀m,Z1.zeroCells z.cells m=(p9 m z).toArray:=λm=>by
  rw[C];apply Array.ext
  .simp[size_zeroCells]
  .intro j h1 M;simp[Z1.zeroCells,Nat.mod_one]
 refine .of T ((pw w _ (Nat.le_succ _)).trans (py _ _)) (H _ w.heap.size _ rfl ((rh w _).trans (px _ _)) ⟨by simp at f;simp[f],.inr ⟨_,xs++p9 k z++p9 (grownCap w (n+k) cap e-(n+k)) z,rfl,?_,U,V,?_,?_⟩⟩)
 .rw[s,s];have:=heap_alloc_new w.drew (.cells (xs.toArray++(p9 k z).toArray++(p9 (grownCap w (n+k) cap e-(n+k)) z).toArray) e);rw[List.append_toArray,List.append_toArray] at this ⊢;exact this
 .simp at f;simp[f];omega
 .simp at f;rw[List.take_append_of_le_length (by simp[f]),o9 (by simp[f])]
theorem zV {a:r9} {base:Option Addr} {c:Nat} (f:P.underlying t=σ (.slice e)):
  aa P (Z1.cap_ #[t] a #[.slice base n c]) w K=K (Δ c):=aa.of λw' _=>by simp[Z1.cap_,run_underlying f,goInt]
theorem Ji {g o k c:Nat} (h:ab w g e cs) (hk:o+k<=cs.length) (f:k<=c) (p:c<=maxLen):bX w 1 (.slice (σ ⟨g,o,ν⟩) k c) k ((cs.drop o).take k):=by
 refine⟨Θ,g,o,_,c,rfl,f,p,λ_=>rfl,λj v a=>?_⟩;have q:=(x4.1 a).1;simp at q;rw[Y8 Ω,List.getElem?_drop] at a;exact h.cell a
theorem Jj {h p:r9} {q g o cap:Nat} {K:x1->x3->Prop} (s:P.underlying t=σ (.slice e)) (hi:aN P e 1 q z) (x:z.cells= #[z]) (h1:z.oneCell'=true)
  (a:ab w g p cs) (y:0<n) (F:o+n<=cs.length)
  (A:∀w',ae (λr=>r=g) w w'->w'.heap.size=w.heap.size->ab w' g p (over cs o (p9 n z))->K (.tuple #[]) w'):ax P (Z1.clear_ #[t] h #[.slice (σ ⟨g,o,ν⟩) n cap]) w K:=by
 obtain⟨i,hi,G,rfl,B⟩:=hi;have C:=Lib.run_clear_slice (P:=P) w t e h z s (λw=>by simp[zeroValue,typeInfo,hi,B]) x h1 g o n cap y
  (λj H=>by rw[a.cell (x6 (show o+j<cs.length by omega))];rfl) (λj _=>a.frozen _ _)
 obtain⟨E,f⟩:=ns (p9 n z) cs o w a;exact .of C (f.ct a) (A _ f.V f.size E)
end
section
variable {P:W3} {w:x3}
theorem iK {a:r9} {k:o6} {i b g:Nat} (j:y=(i:Int)) (p:P.underlying t=σ (.slice e)) (hi:aN P e 1 b z)
  (h:ap k a w g v l) (q:i<l.length):aa P (c7 t v (.int f y)) w K=K (.pointer (σ ⟨g,i,ν⟩)):=by
 subst j;obtain⟨_,⟨_,r⟩|⟨cap,cs,rfl,_⟩⟩:=h
 .omega
 .rw[fx p hi q (λ_=>rfl)];simp
theorem pZ {k:o6} {i b:Nat} {x:Int} (j:y=(i:Int)) (p:P.underlying t=σ (.slice e)) (hi:aN P e 1 b z)
  (h:aH k w v l) (a:l[i]? =σ x) (q:∀b o,w.cell? ⟨b,o,ν⟩=σ (.int k x)->K (.pointer (σ ⟨b,o,ν⟩))):aa P (c7 t v (.int f y)) w K:=by
 subst j;have r:=(x4.1 a).1;obtain⟨_,_,_,_,_,rfl,_,_,s,A⟩:=h;rw[fx p hi r s,U9];exact q _ _ (A i _ (kS a))
theorem iL {a:r9} {k:o6} {i b g:Nat} {x:Int} {K:Unit->x3->Prop} (hi:aN P e 1 b z)
  (h:ap k a w g v l) (E:i<l.length) (p:∀w',ae (λr=>r=g) w w'->w'.heap.size=w.heap.size->ap k a w' g v (l.set i x)->K () w'):ax P (o8 e (.pointer (σ ⟨g,i,ν⟩)) (.int k x)) w K:=by
 obtain⟨F,⟨_,G⟩|⟨cap,full,rfl,q,s,y,f,j⟩⟩:=h
 .omega
 .have A:i<full.length:=by simp at f;omega
  refine bo hi rfl rfl q A λw' B I C=>p w' B I ⟨Ξ,.inr ⟨cap,full.set i (.int k x),Ξ,C,by simpa using s,y,by simpa using f,?_⟩⟩;simp only[Z2,U9] at j ⊢;rw[List.take_set,j,ints,ints,U3]
theorem nC {b o:Nat} (a:jD P t=true) (h:w.cell? ⟨b,o,ν⟩=σ v):ci P (u5 t (.pointer (σ ⟨b,o,ν⟩))) v w:=λw' e=>by
 have h':=iE e h;unfold jD at a;cases hu:P.underlying t with
 |none=>rw[hu] at a;cases a
 |some d=>
  rw[hu] at a;cases d<;>first|(cases a;done)|simp[u5,Instr.sureAddr,loadVar,isAgg,run_underlying hu,h']
theorem hS {k:o6} {S:ag} (h:aH k w v l) (p:ae S w w') (q:∀r,S r-> ∀a n c,v= .slice (σ a) n c->a.block≠r):aH k w' v l:=by
 obtain⟨h1,b,o,base,cap,rfl,s,x,e,y⟩:=h;refine⟨h1,b,o,base,cap,rfl,s,x,e,?_⟩;rcases S4 l.length with f|f
 .intro j u hu;have:=(x4.1 hu).1;simp at this;omega
 .have z:=e f;subst z;exact jC p (λh=>q _ h _ _ _ rfl rfl) y
end
end Go.Vc
namespace Go.Vc
open Go Go.RowKit Go.ChangeShapes Go.WideShapes
structure kX (P:W3) (t:r9) (α:Type) [ak α] (G:α->Prop):Prop where
 op:∀ {H:Type} {enc:r9×x1->H} {w:x3} {base:Nat} {spare:Nat->Bool} {held:Bool} {fuel:Nat} {cs:List x1} {x:DataW H×List MemPlace},
  DataW.trod enc P w base spare held fuel t cs=σ x-> ∃a:α,Seen dg w cs a/\G a
section
variable {P:W3} {α β:Type} [ak α] [ak β]
theorem zW {k:o6} {n:Int} (h:(Lit.int k n).wf=true):k.min<=n/\n<=k.max:=by simpa[Lit.wf] using h
theorem zX {k:o6} (a:P.underlying t=σ (.int k)):kX P t (jF k) λn=>k.min<=n.val/\n.val<=k.max:=⟨λh=>by
 obtain⟨n,rfl,_,hw⟩:=DataW.trod_int a h;exact⟨(n:Int),rfl,zW hw⟩⟩
theorem mz (a:P.underlying t=σ (.int .i64)):kX P t Int λn=>X2.min<=n/\n<=X2.max:=⟨λh=>by
 obtain⟨n,rfl,_,hw⟩:=DataW.trod_int a h;exact⟨n,rfl,zW hw⟩⟩
theorem zY (a:P.underlying t=σ .bool):kX P t Bool λ_=>True:=⟨λh=>by
 obtain⟨b,rfl,_⟩:=DataW.trod_bool a h;exact⟨b,rfl,trivial⟩⟩
theorem Jk (a:Addr) (m n:Nat):(a.add m).add n=a.add (m+n):=by
 unfold Addr.add;by_cases hm:m=0<;>by_cases e:n=0<;>simp[hm,e,S9]
theorem Jl {base:Nat} {a:Addr} (h:w.cells? base a n=σ cs):cs.length=n/\ ∀j v,cs[j]? =σ v->w.cell? (a.add j)=σ v:=by
 unfold x3.cells? at h;split at h
 .have f:cs.length=n:=by
   have:=mapM_some_length h;simpa using this
  refine⟨f,λj v e=>?_⟩;have p:=(x4.1 e).1;have:=mapM_some_get h j j (List.getElem?_range Ω);rw[this,e]
 .cases h
theorem Jm {G:α->Prop} (M:P.underlying t=σ (.slice e)) (he:kX P e α G) (N:P.cellsOf e=ak.n α) (V:0<ak.n α):kX P t (List α) λl=>∀a∈l,G a:=by
 constructor;intro H enc w base spare held fuel cs x h;rcases DataW.trod_slice M h with⟨rfl,_⟩|⟨a,len,cap,W,rest,n,_,rfl,rfl,X,Y,hm,Z,O,_,_⟩
 .exact⟨[],gh,λ_ h=>by cases h⟩
 .
  have K:∀i,i<len-> ∃ (c:List x1) (y:α),c.length=ak.n α/\(∀j v,c[j]? =σ v->w.cell? (a.add (i*ak.n α+j))=σ v)/\Seen dg w c y/\G y:=by
   intro i hi;have h1:=O i hi;rw[x6 Ω,N,Option.bind_eq_some_iff] at h1;obtain⟨c,r,s⟩:=h1;obtain⟨B,C⟩:=Jl r;obtain⟨y,E,Q⟩:=he.op s;exact⟨c,y,B,λj v q=>by have:=C j v q;rwa [Jk] at this,E,Q⟩
  have all:∀m,m<=len-> ∃ (vs:List (List x1)) (l:List α),vs.length=m/\l.length=m/\(∀c∈vs,c.length=ak.n α)/\(∀ (j:Nat) (v:x1),vs.flatten[j]? =σ v->w.cell? (a.add j)=σ v)/\
    (∀ (i:Nat) (c:List x1) (y:α),vs[i]? =σ c->l[i]? =σ y->Seen dg w c y)/\ ∀y∈l,G y:=by
   intro m;induction m with
   |zero=>exact λ_=>⟨[],[],rfl,rfl,(λ_ h=>by cases h),(λj v h=>by simp at h),(λi c y h=>by simp at h),(λ_ h=>by cases h)⟩
   |succ m R=>
    intro hm;obtain⟨vs,l,h1,r,s,B,C,E⟩:=R Ω;obtain⟨c,y,g1,F,S,T⟩:=K m Ω;refine⟨vs++[c],l++[y],by simp[h1],by simp[r],λd f=>?_,λj v q=>?_,λi d z f p=>?_,λz p=>?_⟩
    .rcases l7.1 f with f|f
     .exact s d f
     .simp at f;subst f;exact g1
    .have A:=ki s;rw[h1] at A;rw[List.flatten_append] at q;by_cases U:j<m*ak.n α
     .rw[Z8 Ω] at q;exact B j v q
     .rw[Z9 Ω,A] at q;simp at q;have:=F _ v q;rwa [show m*ak.n α+(j-m*ak.n α)=j by omega] at this
    .by_cases hi:i<m
     .rw[Z8 Ω] at f p;exact C i d z f p
     .have I:=(x4.1 f).1;simp[h1] at I;have I:i=m:=Ω
      subst I;rw[Z9 Ω,h1] at f;rw[Z9 Ω,r] at p;simp at f p;subst f p;exact S
    .rcases l7.1 p with p|p
     .exact E z p
     .simp at p;subst p;exact T
  obtain⟨vs,l,h1,r,s,B,C,E⟩:=all len (o4 _);have A:=ki s;rw[h1] at A;have L:0<len->a=⟨a.block,a.off,ν⟩:=λJ=>by
   obtain⟨c,y,g1,F,_⟩:=K 0 Ω;have:=F 0 c[0] (x6 Ω);rw[Nat.zero_mul] at this;exact vd this
  refine⟨l,⟨_,rfl,vs,0,λ_ _=>False,⟨λ_ _ h=>h.elim,(λh=>by cases h),(λh=>by cases h)⟩,⟨Ω,C⟩,⟨by rw[A,r],a.block,a.off,σ a,cap,by rw[r],Ω,hm,λJ=>congrArg σ (L Ω),λ_=>.inr trivial,λj v q=>?_⟩,λh=>by cases h⟩,E⟩;have:=B j v q;have U:=(x4.1 q).1;have J:0<len:=by
   rcases S4 len with h|h
   .rw[h,Nat.zero_mul] at A;omega
   .exact h
  rw[L J,T5] at this;exact this
structure sh (P:W3) (fs:List Field) (off:Nat) (α:Type) [ak α] (G:α->Prop):Prop where
 op:∀ {H:Type} {enc:r9×x1->H} {w:x3} {base:Nat} {spare:Nat->Bool} {held:Bool} {n:Nat} {cs:List x1},cs.length=off+ak.n α->
  (∀f∈fs,∃x,DataW.trod enc P w base spare held n f.type ((cs.drop f.offset).take (P.cellsOf f.type))=σ x)-> ∃a:α,Seen dg w (cs.drop off) a/\G a
theorem zZ {f:Field} {off:Nat} {G:α->Prop} (h:kX P f.type α G) (e:f.offset=off) (j:P.cellsOf f.type=ak.n α):sh P [f] off α G:=by
 constructor;intro H enc w base spare held n cs s p;obtain⟨x,q⟩:=p f (.head _);obtain⟨a,h1,r⟩:=h.op q;rw[e,j,o9 Θ] at h1;exact⟨a,h1,r⟩
theorem kY {f:Field} {e:List Field} {off:Nat} {G:α->Prop} {j:β->Prop} (h:kX P f.type α G) (r:f.offset=off) (s:P.cellsOf f.type=ak.n α) (y:sh P e (off+ak.n α) β j):
  sh P (f::e) off (α×β) λp=>G p.1/\j p.2:=by
 constructor;intro H enc w base spare held n cs F q;obtain⟨x,z⟩:=q f (.head _);obtain⟨a,h1,A⟩:=h.op z;rw[r,s] at h1;have I:ak.n (α×β)=ak.n α+ak.n β:=rfl;obtain⟨b,B,C⟩:=y.op Ω λg E=>q g (.tail _ E);refine⟨(a,b),⟨(cs.drop off).take (ak.n α),cs.drop (off+ak.n α),λ_=>False,λ_=>False,?_,λ_ h=>h,λ_ h=>h,(λh=>by cases h),h1,B⟩,A,C⟩;rw[<-List.drop_drop,List.take_append_drop]
theorem z1 {a:List Field} {G:α->Prop} (e:P.underlying t=σ (.struct a.toArray)) (j:sh P a 0 α G) (y:P.cellsOf t=ak.n α):kX P t α G:=by
 constructor;intro H enc w base spare held fuel cs x h;obtain⟨xs,n,_,rfl,z,p,q⟩:=DataW.trod_struct e h;have:=j.op (enc:=enc) (w:=w) (base:=base) (spare:=spare) (held:=held) (n:=n) (cs:=cs) Ω λf r=>by
  obtain⟨i,hi,rfl⟩:=List.mem_iff_getElem.1 r;have s:i<xs.length:=by simpa[p] using hi
  have:=q i a[i] (by simp[hi]);rw[x6 s] at this;exact⟨_,this⟩
 simpa using this
end
end Go.Vc
namespace Go.Vc
open Go Go.RowKit
set_option maxRecDepth 100000
theorem Jn:(⟨#[]⟩:ByteArray)=strOfNums []:=rfl
theorem Jo {av:x1->x1->x1->x3->Prop} {B:(x1->x1->x1->x3->Prop)->Prop} (G:x1->x1->x1->x3->Prop) (h1:∀t u v w,G t u v w->av t u v w)
  (e:∀a:x1->x1->x1->x3->Prop,(∀t u v w,G t u v w->a t u v w)->B a):cm av B:=e av h1
theorem z6 {av:x1->x1->x1->x1->x3->Prop} {B:(x1->x1->x1->x1->x3->Prop)->Prop} (G:x1->x1->x1->x1->x3->Prop) (h1:∀s t u v w,G s t u v w->av s t u v w)
  (e:∀a:x1->x1->x1->x1->x3->Prop,(∀s t u v w,G s t u v w->a s t u v w)->B a):cm av B:=e av h1
abbrev bU (l:Λ):x1:=.string (strOfNums l)
def Bytes (l:Λ):Prop:=∀b∈l,0<=b/\b<256
theorem mA (l:Λ):(strOfNums l).size=l.length:=strOfNums_size l
theorem Jp (h:Bytes l) {i:Nat} {b:Int} (hi:l[i]? =σ b):(strOfNums l)[i]? =σ (UInt8.ofNat b.toNat)/\((UInt8.ofNat b.toNat).toNat:Int)=b:=by
 have f:=h b (x5 hi);have e:=x4.1 hi;refine⟨?_,by rw[UInt8.toNat_ofNat'];omega⟩;have I:i<(strOfNums l).size:=by rw[mA];exact e.1
 rw[getElem?_pos (strOfNums l) i I];congr 1;show (strOfNums l).data[i]=_;have a:(strOfNums l).data.toList[i]? =σ (UInt8.ofNat b.toNat):=by rw[strOfNums_data,x8,hi];rfl
 rw[S5] at a;exact (j0.1 a).2
theorem str_inj {a b:Λ} (e:Bytes a) (f:Bytes b) (h:strOfNums a=strOfNums b):a=b:=by
 have h1:(strOfNums a).data.toList=(strOfNums b).data.toList:=by rw[h]
 rw[strOfNums_data,strOfNums_data] at h1;have key:∀ {l:Λ},Bytes l->(l.map λn=>UInt8.ofNat n.toNat).map (λu=>((u.toNat:Nat):Int))=l:=λ{l} j=>by
  rw[S8]
  conv=>rhs;rw[<-List.map_id l]
  refine List.map_congr_left λx p=>?_;have:=j x p;show (((UInt8.ofNat x.toNat).toNat:Nat):Int)=x;rw[UInt8.toNat_ofNat'];omega
 rw[<-key e,<-key f,h1]
theorem Jq (a b:Λ):strOfNums a++strOfNums b=strOfNums (a++b):=by
 apply ByteArray.ext;rw[ByteArray.data_append];simp[strOfNums]
theorem Jr (l:Λ) (i j:Nat):(strOfNums l).extract i j=strOfNums ((l.take j).drop i):=by
 apply ByteArray.ext;rw[ByteArray.data_extract];apply Array.toList_inj.1;rw[Array.toList_extract];simp[strOfNums,List.extract_eq_take_drop,List.map_drop,List.map_take,List.drop_take]
theorem z7 (l:Λ):(strOfNums l).toList=l.map λn=>UInt8.ofNat n.toNat:=by
 rw[ByteArray.toList_eq];exact strOfNums_data l
theorem z8 {a b:Λ} (e:Bytes a) (f:Bytes b):((strOfNums a).toList == (strOfNums b).toList)=decide (a=b):=by
 rw[V3,beq_iff_eq,decide_eq_true_eq,z7,z7];refine⟨λh=>str_inj e f ?_,λh=>by rw[h]⟩;unfold strOfNums;rw[h]
section
variable {P:W3} {w:x3}
theorem nD {a:r9} (e:P.underlying t=σ .string):aa P (W7 #[t] a #[bU l]) w K=K (Δ l.length):=aa.of λw' _=>by
 simp[W7,run_underlying e,goInt,mA]
theorem p0 {k:o6} {b:Int} {i:Nat} (a:y=(i:Int)) (f:P.underlying t=σ .string) (h:Bytes l) (hi:l[i]? =σ b):aa P (Instr.index t (bU l) (.int k y)) w K=K (.int .u8 b):=aa.of λw' _=>by
 subst a;obtain⟨h1,j⟩:=Jp h hi;have e:(0:Int)<=(i:Int):=Ω
 simp only[Instr.index,asIntOf,X8,W9,W0,run_underlying f];rw[if_pos e,r8,h1];simp only[W9,j]
theorem vl {a b:Λ} (h:a.length+b.length<=9223372036854775807):aa P (aJ .add t cx cy (bU a) (bU b)) w K=K (bU (a++b)):=aa.of λw' _=>by
 have:=run_string_add_sum (P:=P) (w:=w') (strOfNums a) (strOfNums b) (by rw[mA,mA];exact h);simp only[aJ,eqGuard,binOp];simp[this,Jq]
theorem Aa {a b:Λ} (e:Bytes a) (f:Bytes b):aa P (aJ .eql t cx cy (bU a) (bU b)) w K=K (.bool (decide (a=b))):=aa.of λw' _=>by
 simp[aJ,eqGuard,binOp,Op.stringOp,z8 e f]
theorem Js {a b:Λ} (e:Bytes a) (f:Bytes b):aa P (aJ .neq t cx cy (bU a) (bU b)) w K=K (.bool (decide (a≠b))):=aa.of λw' _=>by
 simp[aJ,eqGuard,binOp,Op.stringOp,z8 e f]
theorem Ab {k:o6} {i:Nat} (a:y=(i:Int)) (f:P.underlying t=σ .string) (hi:i<=l.length):aa P (V5 t (bU l) (σ (.int k y)) ν ν) w K=K (bU (l.drop i)):=aa.of λw' _=>by
 have j:=r2 (P:=P) w' (sl:=false) (n:=(strOfNums l).size) (c:=(strOfNums l).size) (low:=σ (.int k y)) (high:=ν) (mx:=ν) (l:=i) (h:=(strOfNums l).size) (m:=(strOfNums l).size) (nq i y a) kg gg (by rw[mA];exact hi) (o4 _) (o4 _);have e:(strOfNums l).extract i (strOfNums l).size=strOfNums (l.drop i):=by rw[Jr,mA,o5]
 simp[V5,Instr.slice,run_underlying f,j,e]
theorem vm {s:r9} (I:P.underlying s=σ (.slice e)) (he:P.underlying e=σ (.int .u8)) (f:P.underlying t=σ .string) (h:aH .u8 w v l):aa P (convert s t v) w K=K (bU l):=aa.of λw' r=>by
 obtain⟨p,b,o,base,cap,rfl,_,_,x,y⟩:=h.ext r;have p:l.length=l.length*1:=by simpa using p
 by_cases z:0<l.length
 .rw[x z];refine run_convert_bytes_arg w' s e I he b o l.length cap l rfl (λi hi=>?_) t f;have q:l[i]? =σ l[i]:=x6 hi;rw[u4,q];exact y i _ (kS q)
 .have A:l=[]:=b9 Ω;subst A;cases base with
  |none=>
   rw[run_convert_bytes_nil w' s e I he _ _ t f];rfl
  |some a=>
   rw[run_convert_bytes_string w' s t e _ _ _ I he f];have:=run_bytesToString (P:=P) w' a 0 cap [] (by have:=run_loadCells_list (P:=P) w' a [] (λj v B=>by simp at B);simpa using this);simp only[List.length_nil];rw[this];rfl
theorem vn {s:r9} {u:TypeDesc} {K:x1->x3->Prop} (I:P.underlying s=σ u) (y:P.underlying t=σ (.slice e)) (he:P.underlying e=σ (.int .u8)) (z:Bytes l) (hm:l.length<=1000000000)
  (A:∀v w',Ext w w'->aH .u8 w' v l->(∀r,(∃a n c,v= .slice (σ a) n c/\a.block=r)->w.heap.size<=r)->K v w'):ax P (convert s t (bU l)) w K:=by
 have B:=Lib.bytesWorld_at_new w e (strOfNums l);have q:=λj f=>Lib.bytesWorld_at_old w e (strOfNums l) j f;have C:=Lib.bytesWorld_size w e (strOfNums l);refine .of (Lib.run_convert_string_bytes w s t e (strOfNums l) I y he) ⟨rfl,⟨rfl,Nat.le_succ _⟩,rfl,Ω,λr o h _=>?_⟩ (A _ _ ⟨Ω,λr o h _=>?_⟩ ?_ ?_)
 .rw[q r (j0.1 h).1];exact h
 .rw[q r (j0.1 h).1];exact h
 .rw[mA];refine⟨Ξ,w.heap.size,0,_,_,rfl,?_,?_,λ_=>rfl,λj v p=>?_⟩
  .exact grownCap_ge w _ _ _
  .exact grownCap_le_maxLen w _ _ _ (by simp[maxLen];omega)
  .have f:j<l.length:=by have:=(x4.1 p).1;simpa using this
   have x:l[j]? =σ l[j]:=x6 f;rw[X5,Lib.bytesWorld_cell w e (strOfNums l) j (by rw[mA];exact f)];rw[kS x] at p;rw[<-c8 p,strOfNums_data,u4,x8,x];have:=z l[j] (T8 f);simp only[Z4,V6];congr 2;rw[UInt8.toNat_ofNat'];omega
 .rintro r ⟨a,n,c,h1,rfl⟩;cases h1;exact o4 _
end
end Go.Vc
namespace Go.Proofs.YtjjhhcfgfdepdaaGreatDoor
open Go Go.Vc Go.RowKit Go.Proofs Go.Proofs.Tryz
set_option maxRecDepth 100000
theorem Ac {b:Int} (h:cz b=true):bN b=false:=by
 have h:=of_decide_eq_true h;unfold bN;rw[decide_eq_false_iff_not];omega
theorem Ad {b:Int} {p:Λ} (h:cz b=true):lex (b::p)=lex p:=by
 rw[kk,kk p,List.dropWhile_cons,if_pos h]
theorem Jt {b:Int} {p:Λ} (h:cz b=false) (a:bN b=false):lex (b::p)=([],false):=by
 rw[kk,List.dropWhile_cons,if_neg (by simp[h])];simp only[a,Bool.false_eq_true,if_false]
theorem Ae {b:Int} {p:Λ} (h:bN b=true):lex (b::p)=match p.dropWhile bN with
  |[]=>([b::p.takeWhile bN],true)
  |c::r=>if cz c then ((b::p.takeWhile bN)::(lex (c::r)).1,(lex (c::r)).2) else ([],false):=by
 have I:cz b=false:=by
  cases a:cz b with
  |false=>rfl
  |true=>rw[Ac a] at h;cases h
 rw[kk,List.dropWhile_cons,if_neg (by simp[I])];simp only[h,if_true,List.dropWhile_cons,List.takeWhile_cons]
 all_goals (cases List.dropWhile bN p<;>rfl)
def ie:Λ->List (Λ)->Λ->Bool->List (Λ)×Bool
 |[],out,w,op=>(if op then out++[w] else out,true)
 |b::p,out,w,op=>
  if cz b then ie p (if op then out++[w] else out) [] false
  else if bN b then ie p out (if op then w++[b] else[b]) true
  else (out,false)
theorem p1:∀ (p:Λ) (out:List (Λ)) (w:Λ),ie p out w false=(out++(lex p).1,(lex p).2)/\
  ie p out w true=match p.dropWhile bN with
   |[]=>(out++[w++p.takeWhile bN],true)
   |c::r=>if cz c then (out++[w++p.takeWhile bN]++(lex (c::r)).1,(lex (c::r)).2) else (out,false)
 |[],out,w=>by simp[ie,kk []]
 |b::p,out,w=>by
  by_cases I:cz b=true
  .have hw:=Ac I;refine⟨?_,?_⟩
   .rw[ie,if_pos I,(p1 p _ _).1,Ad I];simp
   .rw[ie,if_pos I,if_pos rfl,(p1 p _ _).1,List.dropWhile_cons,if_neg (by simp[hw])];simp only[I,if_true,Ad I,List.takeWhile_cons,hw,Bool.false_eq_true,if_false,X9]
  .have e:cz b=false:=by cases h:cz b;rfl;exact absurd h I
   by_cases hw:bN b=true
   .refine⟨?_,?_⟩
    .rw[ie,if_neg I,if_pos hw,if_neg Ξ,(p1 p _ _).2,Ae hw];cases p.dropWhile bN with
     |nil=>simp
     |cons c r=>
      simp only;by_cases a:cz c=true
      .simp[a]
      .simp[a]
    .rw[ie,if_neg I,if_pos hw,if_pos rfl,(p1 p _ _).2,List.dropWhile_cons,if_pos hw,List.takeWhile_cons,if_pos hw];cases p.dropWhile bN with
     |nil=>simp
     |cons c r=>
      simp only;by_cases a:cz c=true
      .simp[a]
      .simp[a]
   .have f:bN b=false:=by cases h:bN b;rfl;exact absurd h hw
    refine⟨?_,?_⟩
    .rw[ie,if_neg I,if_neg hw,Jt e f];simp
    .rw[ie,if_neg I,if_neg hw,List.dropWhile_cons,if_neg hw];simp[e]
theorem Ju (p:Λ):ie p [] [] false=lex p:=by rw[(p1 p [] []).1];simp
def oI:Nat->Nat->Λ
 |0,_=>[]
 |k+1,n=>(if n<10 then[] else oI k (n / 10))++[48+((n % 10:Nat):Int)]
def fk (n:Nat):Λ:=oI (n+1) n
theorem Af:∀ {k m n:Nat},n<k->n<m->oI k n=oI m n
 |k+1,m+1,n,h1,a=>by
  unfold oI;by_cases h:n<10
  .rw[if_pos h,if_pos h]
  .rw[if_neg h,if_neg h,Af (k:=k) (m:=m) (n:=n / 10) Ω Ω]
theorem nE (n:Nat):fk n=(if n<10 then[] else fk (n / 10))++[48+((n % 10:Nat):Int)]:=by
 unfold fk;rw[oI];by_cases h:n<10
 .rw[if_pos h,if_pos h]
 .rw[if_neg h,if_neg h,Af (k:=n) (m:=n / 10+1) Ω Ω]
theorem Ag:∀ (k n:Nat),n<k-> ∀b∈fk n,48<=b/\b<=57
 |k+1,n,hk,b,a=>by
  rw[nE] at a;rcases l7.1 a with a|a
  .by_cases h:n<10
   .rw[if_pos h] at a;simp at a
   .rw[if_neg h] at a;exact Ag k (n / 10) Ω b a
  .rw[l9] at a;omega
theorem Ah (n:Nat):∀b∈fk n,48<=b/\b<=57:=Ag (n+1) n Ω
def p2 (l:Λ):Int:=l.foldl (λn b=>10*n+(b-48)) 0
theorem Jv (l:Λ) (b:Int):p2 (l++[b])=10*p2 l+(b-48):=by simp[p2]
theorem vo:∀ (k n:Nat),n<k->p2 (fk n)=n
 |k+1,n,hk=>by
  rw[nE,Jv];by_cases h:n<10
  .rw[if_pos h];have:p2 []=0:=rfl;omega
  .rw[if_neg h,vo k (n / 10) Ω];omega
theorem Jw {b:Nat} (h:fk a=fk b):a=b:=by
 have h1:=vo (a+1) a Ω;have e:=vo (b+1) b Ω;rw[h,e] at h1;omega
theorem vp:∀ (k n:Nat),n<10 ^ k->1<=k->(fk n).length<=k
 |k+1,n,h,_=>by
  rw[nE,p8];by_cases a:n<10
  .rw[if_pos a];simp
  .rw[if_neg a];have hk:1<=k:=by
    rcases k with _|k
    .simp at h;omega
    .omega
   have e:(10:Nat) ^ (k+1)=10*10 ^ k:=by rw[Nat.pow_succ,Nat.mul_comm]
   have:=vp k (n / 10) Ω hk;simp only[U6];omega
def ef (t:Λ):Λ:=t.flatMap λv=>fk v.toNat++[32]
theorem Jx (t:Λ) (v:Int):ef (t++[v])=ef t++(fk v.toNat++[32]):=by simp[ef]
theorem Ai {r:Λ} (a:∀b∈l,b≠32):(l++32::r).takeWhile (λb=>decide (b≠32))=l/\(l++32::r).dropWhile (λb=>decide (b≠32))=32::r:=by
 induction l with
 |nil=>simp
 |cons x l e=>
  have f:=a x (.head _);have:=e λb h=>a b (.tail _ h);simp only[List.cons_append,List.takeWhile_cons,List.dropWhile_cons];simp only[f,ne_eq,not_false_eq_true,decide_true,if_true];exact⟨by rw[this.1],this.2⟩
theorem Aj:∀ {a b:Λ},(∀x∈a,0<=x)->(∀x∈b,0<=x)->ef a=ef b->a=b
 |[],[],_,_,_=>rfl
 |[],y::b,_,_,h=>by simp[ef] at h
 |x::a,[],_,_,h=>by simp[ef] at h
 |x::a,y::b,p,q,h=>by
  have e:∀ (z:Int) (l:Λ),ef (z::l)=fk z.toNat++32::ef l:=λz l=>by simp[ef]
  rw[e,e] at h;have d:∀z:Int,∀c∈fk z.toNat,c≠32:=λz c w=>by have:=Ah _ c w;omega
  have f:=Ai (r:=ef a) (d x);have s:=Ai (r:=ef b) (d y);rw[h] at f;have A:fk x.toNat=fk y.toNat:=f.1.symm.trans s.1;have B:=f.2.symm.trans s.2;have E:=p x (.head _);have F:=q y (.head _);have:=Jw A;have C:x=y:=Ω
  subst C;rw[Aj (λz j=>p z (.tail _ j)) (λz j=>q z (.tail _ j)) (List.cons.inj B).2]
theorem Ak (t:Λ):Bytes (ef t):=λb a=>by
 obtain⟨v,_,a⟩:=List.mem_flatMap.1 a;rcases l7.1 a with a|a
 .have:=Ah _ b a;omega
 .rw[l9] at a;omega
theorem Al {b:Int}:ai x7 HA [.int .u8 b] w λv w'=>v= .bool (cz b)/\Ext w w':=by
 refine aw func145 ?_;refine aU (λv J=>v= .bool (cz b)/\Ext w J) (λ_ _ h=>h) λav a=>?_;rw[bh,aj];refine⟨λh=>a _ _ ⟨by unfold cz;rw[decide_eq_true (.inl h)],Ext.refl _⟩,λh1=>?_⟩;rw[bh,aj];refine⟨λh=>a _ _ ⟨by unfold cz;rw[decide_eq_true (.inr (.inl h))],Ext.refl _⟩,λe=>?_⟩;rw[bh,aj];refine⟨λh=>a _ _ ⟨by unfold cz;rw[decide_eq_true (.inr (.inr (.inl h)))],Ext.refl _⟩,λf=>?_⟩;rw[bh];refine a _ _ ⟨?_,Ext.refl _⟩;congr 1;unfold cz;rw[V3,decide_eq_true_eq,decide_eq_true_eq];omega
theorem Jy {b:Int}:ai x7 Hz [.int .u8 b] w λv w'=>v= .bool (bN b)/\Ext w w':=by
 refine aw func144 ?_;refine aU (λv J=>v= .bool (bN b)/\Ext w J) (λ_ _ h=>h) λav a=>?_;rw[cY,aj];refine⟨λh=>?_,λh=>a _ _ ⟨by unfold bN;rw[decide_eq_false Ω],Ext.refl _⟩⟩;rw[mp];refine a _ _ ⟨?_,Ext.refl _⟩;congr 1;unfold bN;rw[V3,decide_eq_true_eq,decide_eq_true_eq];omega
def lS (w:x3) (g:Nat) (a:x1) (p:Λ) (at_:Nat) (bad:Int):Prop:=Bytes p/\p.length<=100000/\at_<=p.length/\ab w g hN [a,Δ (at_:Int),Δ bad]/\ ∃bl,ap .u8 cI w bl a p
theorem lS.ext {g:Nat} {a:x1} {p:Λ} {at_:Nat} {bad:Int} (h:lS w g a p at_ bad) (e:Ext w w'):lS w' g a p at_ bad:=by
 obtain⟨h1,f,j,q,bl,r⟩:=h;exact⟨h1,f,j,q.ext e,bl,r.ext e⟩
theorem Jz (h:aH .u8 w v l) (A:l.length<=100000):ai x7 Hu [v] w λf w'=>Ext w w'/\ ∃g,ap .u8 cI w' g f l:=by
 have e:=h;obtain⟨B,b,o,base,cap,rfl,C,hm,p,E⟩:=h;refine aw func138 ?_;rw[pS cP.u,bY];refine⟨λq=>⟨Ext.refl _,0,?_⟩,λ_=>?_⟩
 .have:l=[]:=by
   cases base with
   |none=>
        by_cases e:0<l.length
        .have:=p e;cases this
        .exact b9 Ω
   |some a=>cases q
  subst this;exact ap.nil _ _ _ _
 .refine jj (k:=1) (cs:=#[]) cP.u cI.i Ω Ψ λg J G j r=>?_;have s:ap .u8 cI J g (.slice (σ ⟨g,0,ν⟩) 0 0) []:=ap.of (n:=0) (bQ.full (by simpa using r) rfl Ξ);refine jk cP.u cI.i rfl s (e.ext j) Θ Θ λf x U H y z=>?_;exact⟨j.put z Ω,x,by simpa using y⟩
theorem Am (h:aH .u8 w v l) (q:Bytes l) (e:l.length<=100000):ai x7 yZ [v] w λr w'=>Ext w w'/\ ∃g,r=Γ g/\w.heap.size<=g/\ ∃a,lS w' g a l 0 (-1):=by
 refine aw func77 ?_;refine (Jz h e).mono ?_;rintro a J _ ⟨f,bl,j⟩;rw[dp (cs:=#[a,Δ 0,Δ (-1)]) (by obtain⟨_,_,_,_,_,rfl,_⟩:=j.ls;kernel_rfl)];refine bm λg U x p s=>?_;have y:=f.size;exact⟨f.trans p,g,rfl,Ω,a,q,e,X3 _,s,bl,j.ext p⟩
def runN (f:Int->Bool) (p:Λ):Nat:=(p.takeWhile f).length
theorem JA (f:Int->Bool) (p:Λ):runN f p<=p.length:=(List.takeWhile_sublist f).length_le
theorem An {f:Int->Bool} {p:Λ} {i:Nat} {b:Int} (hi:p[i]? =σ b) (e:f b=true):i+runN f (p.drop i)=(i+1)+runN f (p.drop (i+1)):=by
 have a:=x4.1 hi;unfold runN;rw[X7 a.1,a.2,List.takeWhile_cons,if_pos e,Z0];omega
theorem Ao {f:Int->Bool} {p:Λ} {i:Nat} (h:∀b,p[i]? =σ b->f b=false):runN f (p.drop i)=0:=by
 unfold runN;cases a:p[i]? with
 |none=>
  rw[List.drop_of_length_le (List.getElem?_eq_none_iff.1 a)];rfl
 |some b=>
  have e:=x4.1 a;rw[X7 e.1,e.2,List.takeWhile_cons,if_neg (by simp[h b a])];rfl
theorem JB {g at_:Nat} {A:x1} {p:Λ} {bad:Int} (h:lS w g A p at_ bad):ai x7 Hy [Γ g] w λv w'=>v=Δ ((at_+runN cz (p.drop at_):Nat):Int)/\Ext w w':=by
 obtain⟨M,N,B,a,bl,q⟩:=h;refine aw func143 ?_;rw[aO hN.p 1 a rfl];refine⟨λv J=>Ext w J/\ ∃i:Nat,v=Δ (i:Int)/\i<=p.length/\i+runN cz (p.drop i)=at_+runN cz (p.drop at_),λv _=>p.length-(b2 v).toNat,⟨Ext.refl _,at_,rfl,B,rfl⟩,?_⟩;rintro _ J ⟨j,i,rfl,hi,he⟩;refine aU (λv U=>Ext w U/\ ∃c:Bool,v= .bool c/\(c=true↔ ∃b,p[i]? =σ b/\cz b=true)) ?_ ?_
 .rintro _ U ⟨r,c,rfl,s⟩;rw[bY];refine⟨λC=>?_,λx=>?_⟩
  .obtain⟨b,e,E⟩:=s.1 C;have G:=(x4.1 e).1;rw[aP,wrap_i64 Ω Ω];exact⟨⟨r,i+1,rfl,G,by rw[<-he,An e E]⟩,by simp only[b2];omega⟩
  .have H:=Ao (f:=cz) (p:=p) (i:=i) λb a=>by
    cases I:cz b with
    |false=>rfl
    |true=>rw[s.2 ⟨b,a,I⟩] at x;cases x
   exact⟨by rw[<-he,H,Nat.add_zero],r⟩
 .intro av y;have z:=a.ext j;rw[aO hN.p 0 z rfl,aX cP.u (q.ext j).ls,aR,aj];refine⟨λO=>?_,λP=>y _ _ ⟨j,false,rfl,⟨λh=>(by cases h),λ⟨b,a,_⟩=>by have:=(x4.1 a).1;omega⟩⟩⟩;have K:i<p.length:=Ω
  have e:p[i]? =σ p[i]:=x6 K;rw[aO hN.p 0 z rfl,bd cP.u cI.i Ψ (q.ext j).ls e];refine Al.mono ?_;rintro _ Q _ ⟨rfl,L⟩;exact y _ _ ⟨j.trans L,_,rfl,⟨λh=>⟨_,e,h⟩,λ⟨b,a,h⟩=>by rw[e] at a;cases a;exact h⟩⟩
inductive JC where
 |word (from_ to:Nat)
 |none
 |text (at_:Nat)
def gl (p:Λ) (at_:Nat):Nat:=at_+runN cz (p.drop at_)
def iM (p:Λ) (a:Nat):Nat:=a+runN bN (p.drop a)
open Classical in
noncomputable def oJ (p:Λ) (at_:Nat):JC:=
 if iM p (gl p at_)<p.length/\(∀c,p[iM p (gl p at_)]? =σ c->cz c=false) then .text (iM p (gl p at_)) else if gl p at_=iM p (gl p at_) then .none else .word (gl p at_) (iM p (gl p at_))
def p3 (w:x3) (g:Nat) (e:x1) (p:Λ) (at_:Nat) (v:x1) (w':x3):Prop:=
 match oJ p at_ with
 | .word a b=>v= .tuple #[bU ((p.take b).drop a),Δ (a:Int),Δ 0]/\ae (λr=>r=g) w w'/\lS w' g e p b (-1)
 | .none=>∃n:Nat,v= .tuple #[bU [],Δ (n:Int),Δ 2]/\Ext w w'
 | .text b=>v= .tuple #[bU [],Δ (b:Int),Δ 11]/\ae (λr=>r=g) w w'/\lS w' g e p at_ (b:Int)
theorem hr {aS:Nat->Prop} {a b c:x3} (h:ae S a b) (k:ae aS b c) (j:∀r,r<a.heap.size->aS r->S r):ae S a c:=
 ⟨Y5 h.size k.size,λr o e I f=>k.aW r o (h.aW r o e I f) I λhu=>f (j r (j0.1 e).1 hu)⟩
theorem cc {g:Nat} {k:o6} {p:r9} (h:ap k e w g v l) (q:ab w j p cs) (x:e≠p) (s:leads v r):r≠j:=by
 obtain⟨rfl,_⟩:=bP h s;obtain⟨_,⟨rfl,_⟩|⟨_,_,_,f,_⟩⟩:=h
 .obtain⟨a,n,c,h,_⟩:=s;cases h
 .rintro rfl;unfold ab at q f;rw[q] at f;injection f with h1;injection h1 with z y;exact x y.symm
theorem JD {s:r9} {e:o6} {b i:Nat} (p:x7.underlying s=σ (.slice t)) (hi:aN x7 t 1 b z)
  (h:aH .u8 w v l) (q:i<=j) (r:j<=l.length) (x:∀a,aH .u8 w a ((l.take j).drop i)->K a):aa x7 (V5 s v (σ (.int e (i:Int))) (σ (.int f (j:Int))) ν) w K:=by
 refine sg p hi h (nq i _ rfl) (nr j _ rfl) q r λa h'=>x a (aH.of (n:=j-i) ?_);have y:((ints .u8 l).drop (i*1)).take ((j-i)*1)=ints .u8 ((l.take j).drop i):=by
  rw[U9,U9,ints,ints,List.map_drop,List.map_take,List.drop_take]
 rw[y] at h';exact h'
theorem JE {g at_:Nat} {G:x1} {p:Λ} (h:lS w g G p at_ (-1)):ai x7 uT [Γ g] w (p3 w g G p at_):=by
 obtain⟨R,S,ao,e,bl,H⟩:=id h;refine aw func83 ?_;rw[dn rV.u,Z5,aY,aO hN.p 2 e rfl,cY,aj];refine⟨λh=>Ω,λ_=>?_⟩;refine (JB h).mono ?_;rintro _ U _ ⟨rfl,ap⟩;obtain⟨a,W⟩:∃a,a=at_+runN cz (p.drop at_):=⟨_,rfl⟩;rw[<-W];have aq:a<=p.length:=by have:=JA cz (p.drop at_);rw[List.length_drop] at this;omega
 refine⟨λv J=>Ext U J/\ ∃i:Nat,v=Δ (i:Int)/\a<=i/\i<=p.length/\i+runN bN (p.drop i)=a+runN bN (p.drop a),λv _=>p.length-(b2 v).toNat,⟨Ext.refl _,a,rfl,o4 _,aq,rfl⟩,?_⟩;rintro _ J ⟨X,i,rfl,au,hi,he⟩;have K:=ap.trans X;have Y:=e.ext K;have Z:=H.ext K;refine aU (λv z=>Ext J z/\ ∃c:Bool,v= .bool c/\(c=true↔ ∃b,p[i]? =σ b/\bN b=true)) ?_ ?_
 rotate_left
 .intro av s;rw[aO hN.p 0 Y rfl,aX cP.u Z.ls,aR,aj];refine⟨λax=>?_,λay=>s _ _ ⟨Ext.refl _,false,rfl,⟨λh=>(by cases h),λ⟨b,e,_⟩=>by have:=(x4.1 e).1;omega⟩⟩⟩;have A:i<p.length:=Ω
  have q:p[i]? =σ p[i]:=x6 A;rw[aO hN.p 0 Y rfl,bd cP.u cI.i Ψ Z.ls q];refine Jy.mono ?_;rintro _ z _ ⟨rfl,B⟩;exact s _ _ ⟨B,_,rfl,⟨λh=>⟨_,q,h⟩,λ⟨b,e,h⟩=>by rw[q] at e;cases e;exact h⟩⟩
 rintro _ z ⟨B,c,rfl,x⟩;have L:=K.trans B;have aa:=e.ext L;have ab:=H.ext L;rw[bY];refine⟨λM=>?_,λac=>?_⟩
 .obtain⟨b,q,az⟩:=x.1 M;have aA:=(x4.1 q).1;rw[aP,wrap_i64 Ω Ω];exact⟨⟨X.trans B,i+1,rfl,Ω,aA,by rw[<-he,An q az]⟩,by simp only[b2];omega⟩
 have aF:=Ao (f:=bN) (p:=p) (i:=i) λb e=>by
  cases I:bN b with
  |false=>rfl
  |true=>rw[x.2 ⟨b,e,I⟩] at ac;cases ac
 have aB:i=a+runN bN (p.drop a):=Ω
 refine aU (λv N=>Ext z N/\ ∃c:Bool,v= .bool c/\(c=true↔i<p.length/\ ∀c,p[i]? =σ c->cz c=false)) ?_ ?_
 rotate_left
 .intro av s;rw[aO hN.p 0 aa rfl,aX cP.u ab.ls,aR,aj];refine⟨λax=>?_,λay=>s _ _ ⟨Ext.refl _,false,rfl,⟨λh=>(by cases h),λh=>Ω⟩⟩⟩;have A:i<p.length:=Ω
  have q:p[i]? =σ p[i]:=x6 A;rw[aO hN.p 0 aa rfl,bd cP.u cI.i Ψ ab.ls q];refine Al.mono ?_;rintro _ N _ ⟨rfl,O⟩;rw[bG];refine s _ _ ⟨O,_,rfl,⟨λh=>⟨A,λc x=>?_⟩,λh=>by rw[h.2 _ q];rfl⟩⟩;rw[q] at x;cases x;cases I:cz p[i] with
  |false=>rfl
  |true=>rw[I] at h;cases h
 rintro _ N ⟨O,aG,rfl,ad⟩;have y:=L.trans O;have C:=e.ext y;have E:=H.ext y;have ae:∀r,leads G r->r≠g:=λr aC=>cc E C Φ aC;have P:oJ p at_=open Classical in if i<p.length/\(∀c,p[i]? =σ c->cz c=false) then .text i else if a=i then .none else .word a i:=by
  unfold oJ;rw[show gl p at_=a from W.symm,show iM p a=i from aB.symm]
 rw[bY];refine⟨λM=>?_,λaf=>?_⟩
 .rw[bZ,aQ hN.p rfl];refine bo (g:=g) (o:=2) ah.i rfl rfl C Ξ λaH ag aI aD=>?_;unfold p3;rw[P,if_pos (ad.1 M)];exact⟨rfl,(y.V _).trans ag,R,S,ao,aD,bl,bn E ag ae⟩
 .have ak:¬(i<p.length/\ ∀c,p[i]? =σ c->cz c=false):=λh=>by rw[ad.2 h] at af;cases af
  rw[bh,aj];refine⟨λaJ=>?_,λaK=>?_⟩
  .intro aL Q _ _;rw[aO hN.p 0 (C.ext Q) rfl,aX cP.u (E.ext Q).ls];unfold p3;rw[P,if_neg ak,if_pos Ω];exact⟨p.length,rfl,y.trans Q⟩
  .rw[bZ,aQ hN.p rfl];refine bo (g:=g) (o:=1) ah.i rfl rfl C Ξ λaM al aN am=>?_;have an:=bn E al ae;rw[aO hN.p 0 am rfl];refine JD (i:=a) (j:=i) cP.u cI.i an.ls au hi λaS aE=>?_;rw[vm cP.u cI.u c3.u aE];unfold p3;rw[P,if_neg ak,if_neg Ω];exact⟨rfl,(y.V _).trans al,R,S,hi,am,bl,an⟩
abbrev bC:ag:=λ_=>False
abbrev eL (n:Nat):ag:=λr=>n<=r
theorem p4 {a b:Λ} {be bv:x1} (f:aH .i64 w be a) (s:aH .i64 w bv b):
  ai x7 GK [be,bv] w λv w'=>v= .bool (decide (a=b))/\Ext w w':=by
 refine aw func72 ?_;rw[aX am.u f,aX am.u s];simp only[bL,aj];refine⟨λp=>⟨?_,Ext.refl _⟩,λz=>?_⟩
 .rw[decide_eq_false];rintro rfl;exact p rfl
 .have z:a.length=b.length:=Ω
  rw[aX am.u f];refine b1.range a.length (λi _ J=>Ext w J/\a.take i=b.take i) f.le ⟨Ext.refl _,rfl⟩ ?_ ?_
  .rintro i t4 J k A ⟨e,q⟩ hk;simp only[aR,aj,eo];refine⟨λ_ U B _ _=>?_,λh=>Ω⟩;have e:=e.trans B;obtain⟨x,r⟩:=aI (l:=a) A;obtain⟨y,j⟩:=aI (l:=b) (i:=i) Ω;rw[bd am.u ah.i Ψ (f.ext e) r,bd am.u ah.i Ψ (s.ext e) j];simp only[bL,aj,aP];refine⟨λp=>⟨?_,e⟩,λC=>hk _ _ ⟨e,vc q r j Ω⟩⟩;rw[decide_eq_false];rintro rfl;rw[r] at j;cases j;exact p rfl
  .rintro _ J k ⟨e,q⟩;simp only[aR,aj];refine⟨λh=>Ω,λ_=>⟨?_,e⟩⟩;rw[decide_eq_true];rwa [o5,z,o5] at q
def jm (rest:List (Λ)) (i:Nat):List (Λ):=(V1 i).flatMap λ(v:Nat)=>rest.map λt=>(v:Int)::t
theorem JF (rest:List (Λ)) (i:Nat):jm rest (i+1)=jm rest i++rest.map λt=>(i:Int)::t:=by
 simp[jm,List.range_succ]
theorem Ap (rest:List (Λ)) (i:Nat):(jm rest i).length=i*rest.length:=by
 simp only[jm,List.length_flatMap,u7];rw[List.map_const',List.length_range,List.sum_replicate_nat]
def oK (l:Λ):Prop:=l.length<=90/\(∀x∈l,1<=x/\x<=32)/\aL l<=1073741824
theorem b5.p (h:b5 l):oK l:=⟨by have:=h.1;omega,h.2,(prod_bound h).2⟩
theorem oK.tail {s:Λ} (h:oK (k::s)):oK s:=by
 have h1:=h.2.1 k (.head _);have e:=(mw s λx a=>h.2.1 x (.tail _ a)).1;have f:k*aL s<=1073741824:=h.2.2;have j:=Int.mul_le_mul_of_nonneg_right h1.1 (show 0<=aL s by omega);refine⟨?_,λx a=>h.2.1 x (.tail _ a),Ω⟩;have:=h.1;rw[Z0] at this;omega
theorem Aq:∀ (s:Λ) {sv:x1} {w:x3},aH .i64 w sv s->oK s->
  ai x7 yW [sv] w λv w'=>Ext w w'/\bj (eL w.heap.size) bC w' [v] (ba s)
 |[],sv,w,h,I=>by
  refine aw func46 ?_;rw[aX am.u h];simp only[bh,List.length_nil,Int.natCast_zero,decide_true,bS];refine iH (α:=Λ) (a:=[]) (cs:=[.slice ν 0 0]) (A:=bC) cK.u am.i Φ rfl gh λv w' P f _=>⟨P,ak.mono f (λr _ h=>?_) λ_ _ h=>h⟩;exact h.elim False.elim id
 |k::s,sv,w,h,I=>by
  have ap:1<=aL (k::s)/\aL (k::s)<=1073741824:=⟨(mw _ I.2.1).1,I.2.2⟩;have z:oK s:=I.tail;have hk:=I.2.1 k (.head _);have Q:=ib z.2.1;have aq:1<=aL s/\aL s<=1073741824:=⟨(mw _ z.2.1).1,z.2.2⟩;obtain⟨kn,rfl⟩:∃kn:Nat,k=kn:=⟨k.toNat,Ω⟩;have au:kn*(ba s).length<=1073741824:=by
   have e:((kn*(ba s).length:Nat):Int)=aL ((kn:Int)::s):=by
    rw[Int.natCast_mul,Q,aL,Int.toNat_of_nonneg Ω]
   omega
  refine aw func46 ?_;rw[aX am.u h];simp only[bh,aj];refine⟨λS=>by simp at S;omega,λ_=>?_⟩;refine Jf (i:=1) rfl am.u ah.i h Ξ λV h'=>?_;refine (Aq s h' z).mono ?_;rintro av U _ ⟨E,B⟩;have ax:=mv B;refine b1.range kn (λi out J=>Ext U J/\bj (eL U.heap.size) bC J [out] (jm (ba s) i)) Ω ⟨Ext.refl _,gh⟩ ?_ ?_
  .rintro i out W X M ⟨q,f⟩ Y;have Z:=bc B q;rw[fy (y:=0) (i:=0) rfl am.u ah.i Ψ (h.ext (E.trans q)) (by rfl)];simp only[aR,aj];refine⟨λ_=>?_,λh=>Ω⟩;rw[fA cK.u Z];refine b1.range (ba s).length (λj out J=>Ext U J/\bj (eL U.heap.size) bC J [out] (jm (ba s) i++((ba s).take j).map λt=>(i:Int)::t)) Ω ⟨q,by simpa using f⟩ ?_ ?_
   .rintro j out p aa ab ⟨C,f⟩ ac;simp only[aR,aj];refine⟨λ_=>?_,λh=>Ω⟩;obtain⟨x,G⟩:=aI (l:=(ba s)) ab;have ay:x.length<=100:=by
     have:=r7 G;have:=z.1;omega
    refine gK rfl rfl cK.u am.i Ψ (bc B C) G λu hu=>?_;refine ep am.u ah.i rfl λa ga az aA H ad=>?_;refine jk am.u ah.i rfl ad (cU (bc hu H)) Θ Θ λb c4 ae aB K af=>?_;have aC:=H.size;have N:Ext p ae:=H.then af (by rintro r B rfl;omega);have aD:=N.size;refine iH (α:=Λ) (a:=(i:Int)::x) (cs:=[b]) (A:=eL p.heap.size) (R:=bC) cK.u am.i Φ (kT (ny K (R:=bC))) (ak.mono (ny K) (λr _ h=>by subst h;show p.heap.size<=r;omega) λ_ _ h=>h) λc aE L _ ag=>?_;have O:=N.trans L;have aF:=L.size;refine nx (α:=Λ) (a:=(i:Int)::x) (A:=eL p.heap.size) cK.u am.i rfl (bc (mv f) O) ag (bc (ak.mono (ny K) (λr _ h=>by subst h;show p.heap.size<=r;omega) λ_ _ h=>h) L) (λr _ h h'=>?_) ?_ ?_ λV aG al an=>?_
    .rcases h' with h'|h'
     .have:=h.2;have:p.heap.size<=r:=h';omega
     .exact h'
    .have ao:(jm (ba s) i++((ba s).take j).map λt=>(i:Int)::t).length+1<=kn*(ba s).length:=by
      simp only[p8,Ap,u7,j5];have:(i+1)*(ba s).length<=kn*(ba s).length:=Y9 _ M;rw[V9] at this;omega
     omega
    .have ao:(jm (ba s) i++((ba s).take j).map λt=>(i:Int)::t).length+1<=kn*(ba s).length:=by
      simp only[p8,Ap,u7,j5];have:(i+1)*(ba s).length<=kn*(ba s).length:=Y9 _ M;rw[V9] at this;omega
     omega
    .simp only[aP];have aJ:=C.size;refine ac _ _ ⟨(C.trans O).then an (λr B h=>?_),?_⟩
     .have:=h.1;have:U.heap.size<=r:=this;omega
     .have e:jm (ba s) i++((ba s).take (j+1)).map (λt=>(i:Int)::t)=(jm (ba s) i++((ba s).take j).map λt=>(i:Int)::t)++[(i:Int)::x]:=by
       rw[u9,G];simp
      rw[e];refine ak.mono al (λr _ h=>?_) λ_ _ h=>h;show U.heap.size<=r;rcases h with h|h|h
      .exact h.1
      .have:p.heap.size<=r:=h;omega
      .omega
   .rintro out p aa ⟨C,f⟩;simp only[aR,aj,aP];refine⟨λh=>Ω,λ_=>Y _ _ ⟨C,?_⟩⟩;rw[JF];simpa using f
  .rintro out W X ⟨q,f⟩;rw[fy (y:=0) (i:=0) rfl am.u ah.i Ψ (h.ext (E.trans q)) (by rfl)];simp only[aR,aj];refine⟨λh=>Ω,λ_=>⟨E.trans q,?_⟩⟩;have aK:=E.size;have e:ba ((kn:Int)::s)=jm (ba s) kn:=by simp[ba,jm]
   rw[e];exact ak.mono f (λr _ h=>by have:U.heap.size<=r:=h;show w.heap.size<=r;omega) λ_ _ h=>h
theorem vq (s:Λ) (h:aH .i64 w sv s) (I:b5 s):ai x7 yW [sv] w λv w'=>Ext w w'/\bj (eL w.heap.size) bC w' [v] (ba s):=Aq s h I.p
theorem JG:∀ (x:Nat),0<x-> ∃k m,x=2 ^ k*(2*m+1):=by
 intro x;induction x using Nat.strongRecOn with
 |_ x a=>
  intro h;by_cases e:x % 2=1
  .exact⟨0,x / 2,Ω⟩
  .obtain⟨k,m,hk⟩:=a (x / 2) Ω Ω;refine⟨k+1,m,?_⟩;rw[Nat.pow_succ,Nat.mul_assoc,Nat.mul_comm 2,<-Nat.mul_assoc,<-hk];omega
theorem vr {k i:Nat}:(2 ^ k*(2*m+1)).testBit i=(decide (i=k)||decide (k<i)&&m.testBit (i-k-1)):=by
 rw[Nat.testBit_two_pow_mul];by_cases h:k<=i
 .obtain⟨d,rfl⟩:=Nat.exists_eq_add_of_le h;cases d with
  |zero=>simp
  |succ d=>
   have e:(2*m+1).testBit (d+1)=m.testBit d:=by rw[Nat.testBit_succ];congr 1;omega
   simp[e,show k+(d+1)-k=d+1 by omega]
 .simp[h,show i≠k by omega,show ¬k<i by omega]
theorem JH {k:Nat} (p:2 ^ k*(2*m+1)<2 ^ 64):(2 ^ k*(2*m+1)) &&& (2 ^ 64-2 ^ k*(2*m+1))=2 ^ k:=by
 have q:0<2 ^ k:=Nat.two_pow_pos k;have hk:k<64:=by
  rcases Nat.lt_or_ge k 64 with h|h
  .exact h
  .have:2 ^ 64<=2 ^ k:=T6 Ω h;have:2 ^ k*1<=2 ^ k*(2*m+1):=Nat.mul_le_mul_left _ Ω;omega
 have e:2 ^ k*(2*m+1)=(2 ^ k*(2*m)+(2 ^ k-1))+1:=by rw[Nat.mul_add];omega
 apply Nat.eq_of_testBit_eq;intro i;rw[Nat.testBit_and,vr]
 conv=>lhs;rhs;rw[e]
 rw[Nat.testBit_two_pow_sub_succ Ω,Nat.testBit_two_pow_mul_add _ Ω,Nat.testBit_two_pow];by_cases h1:i=k
 .subst h1;simp[hk]
 .by_cases a:k<i
  .have f:(2*m).testBit (i-k)=m.testBit (i-k-1):=by
    obtain⟨d,j⟩:∃d,i-k=d+1:=⟨i-k-1,Ω⟩;rw[j,Nat.testBit_succ];congr 1;omega
   simp[h1,a,show ¬i<k by omega,f,show k≠i by omega];intro h;simp[h]
  .simp[h1,a,show k≠i by omega]
def jH (a c:Nat):Nat:=(BitVec.ofNat 64 a &&& ~~~BitVec.ofNat 64 c).toNat
theorem Ar (a c i:Nat):(jH a c).testBit i=(decide (i<64)&&(a.testBit i&& !c.testBit i)):=by
 unfold jH;rw[BitVec.testBit_toNat,BitVec.getLsbD_and,BitVec.getLsbD_not,BitVec.getLsbD_ofNat,BitVec.getLsbD_ofNat];by_cases h:i<64<;>simp[h]
theorem JI (a c:Nat):jH a c<2 ^ 64:=BitVec.isLt _
theorem JJ (h:∀i,n<=i->a.testBit i=false):a<2 ^ n:=Nat.lt_pow_two_of_testBit a h
theorem As {i:Nat} (h:a<2 ^ n) (hi:n<=i):a.testBit i=false:=Nat.testBit_lt_two_pow (R5 h (T6 Ω hi))
def gm (b n:Nat):List Nat:=(V1 n).filter λi=>b.testBit i
theorem Au (b n:Nat):(gm b n).Pairwise (·< ·):=List.Pairwise.filter _ List.pairwise_lt_range
theorem vt {b i:Nat}:i∈gm b n↔i<n/\b.testBit i=true:=by simp[gm]
def nF:Option Nat->Int
 |some i=>(i:Int)
 |none=>-1
def jI (b n:Nat) (v:Int):Int:=nF ((V1 n).find? (λi:Nat=>decide (v<(i:Int))&&b.testBit i))
theorem Av:∀ {l:List Nat} {k x:Nat},l.Pairwise (·< ·)->l[k]? =σ x->l.filter (λi=>decide (x<i))=l.drop (k+1)
 |y::l,0,x,h,hk=>by
  simp at hk;subst hk;rw[List.pairwise_cons] at h;simp only[List.drop_succ_cons,List.drop_zero];rw[List.filter_cons_of_neg Ξ,List.filter_eq_self.2 λa e=>by simpa using h.1 a e]
 |y::l,k+1,x,h,hk=>by
  simp only[List.getElem?_cons_succ] at hk;rw[List.pairwise_cons] at h;have:y<x:=h.1 x (x5 hk);rw[List.filter_cons_of_neg Θ,List.drop_succ_cons];exact Av h.2 hk
theorem Aw (b n:Nat) (v:Int):jI b n v=nF (((gm b n).filter (λi:Nat=>decide (v<i))).head?):=by
 unfold jI gm;rw[<-List.head?_filter,List.filter_filter]
theorem JK (b n:Nat):jI b n (-1)=nF ((gm b n)[0]?):=by
 rw[Aw,List.filter_eq_self.2 (λa _=>Θ),List.head?_eq_getElem?]
theorem Ax {b k x:Nat} (h:(gm b n)[k]? =σ x):jI b n x=nF ((gm b n)[k+1]?):=by
 have e:(λi:Nat=>decide ((x:Int)<i))=λi=>decide (x<i):=by funext i;simp
 rw[Aw,e,Av (Au b n) h,List.head?_eq_getElem?,List.getElem?_drop]
theorem JL {b:Nat} {v:Int} (h:(n:Int)-1<=v):jI b n v= -1:=by
 unfold jI;rw[List.find?_eq_none.2 λi hi=>by simp at hi ⊢;omega];rfl
theorem JM {b k s:Nat} (y:n<=64) (f:b<2 ^ n) (e:∀i,r.testBit i=(decide (s<=i)&&b.testBit i)) (hk:r=2 ^ k*(2*m+1)) {v:Int} (z:v+1=s):jI b n v=k:=by
 have p:r.testBit k=true:=by rw[hk,vr];simp
 have q:∀i,i<k->r.testBit i=false:=λi hi=>by rw[hk,vr];simp[show i≠k by omega,show ¬k<i by omega]
 have a:=p;rw[e] at a;simp at a;have w:k<n:=by
  rcases Nat.lt_or_ge k n with h|h
  .exact h
  .rw[As f h] at a;cases a.2
 unfold jI;have:(V1 n).find? (λi:Nat=>decide (v<(i:Int))&&b.testBit i)=σ k:=by
  rw[List.find?_range_eq_some];refine⟨by simp[a.2];omega,by simpa using w,λj x=>?_⟩;have:=q j x;rw[e] at this;simp only[Bool.not_eq_true',Bool.and_eq_false_iff,decide_eq_false_iff_not] at this ⊢;rcases this with h|h
  .exact .inl Ω
  .exact .inr h
 rw[this];rfl
theorem JN {b s:Nat} (a:∀i,r.testBit i=(decide (s<=i)&&b.testBit i)) (hk:r=0) {v:Int} (e:v+1=s):jI b n v= -1:=by
 unfold jI;rw[List.find?_eq_none.2]
 .rfl
 .intro i hi;have:=a i;rw[hk,Nat.zero_testBit] at this;simp at hi this ⊢;intro h;exact this Ω
section
variable {P:W3} {w:x3} {t:r9} {cx cy:Bool} {a b:Nat} {K:x1->Prop}
theorem mB (a:Nat):U5 64 (a:Int)=BitVec.ofNat 64 a:=BitVec.ofInt_natCast _ _
theorem Ay (x:BitVec 64):U2.wrap (x.toNat:Int)=(x.toNat:Int):=by
 have:=x.isLt;rw[wrap_u64 Ω Ω]
theorem u64_and (f:a<2 ^ 64) (h:b<2 ^ 64):aa P (aJ .and t cx cy (.int .u64 a) (.int .u64 b)) w K=K (.int .u64 ((a &&& b:Nat):Int)):=aa.of λw' _=>by
 have e:(U5 64 (a:Int) &&& U5 64 (b:Int)).toNat=a &&& b:=by
  rw[mB,mB,BitVec.toNat_and,BitVec.toNat_ofNat,BitVec.toNat_ofNat,Nat.mod_eq_of_lt f,Nat.mod_eq_of_lt h]
 have hw:U2.wrap ((a &&& b:Nat):Int)=((a &&& b:Nat):Int):=by rw[<-e];exact Ay _
 have j:(U5 U2.bits (a:Int) &&& U5 U2.bits (b:Int)).toNat=a &&& b:=e;simp only[aJ,eqGuard,binOp,Op.intBits,j,hw];rfl
theorem Az:aa P (aJ .andNot t cx cy (.int .u64 a) (.int .u64 b)) w K=K (.int .u64 (jH a b:Int)):=aa.of λw' _=>by
 have e:(U5 64 (a:Int) &&& ~~~U5 64 (b:Int)).toNat=jH a b:=by rw[mB,mB];rfl
 have hw:U2.wrap (jH a b:Int)=(jH a b:Int):=Ay _;have f:(U5 U2.bits (a:Int) &&& ~~~U5 U2.bits (b:Int)).toNat=jH a b:=e;simp only[aJ,eqGuard,binOp,Op.intBits,f,hw];rfl
theorem kZ {k:o6} (f:n<64):aa P (aJ .shr t cx cy (.int .u64 (a:Int)) (.int k (n:Int))) w K=K (.int .u64 ((a / 2 ^ n:Nat):Int)):=aa.of λw' _=>by
 have e:(a:Int).fdiv (2 ^ min n U2.bits)=((a / 2 ^ n:Nat):Int):=by
  have:min n U2.bits=n:=Nat.min_eq_left (by show n<=64;omega);rw[this,Int.fdiv_eq_ediv_of_nonneg _ (by exact Int.le_of_lt (Int.pow_pos Ω))];simp
 simp only[aJ,eqGuard,binOp,Op.shift,r8,e];simp[show ¬(n:Int)<0 by omega]
theorem vu {k:o6} (a:n<64):aa P (aJ .shl t cx cy (.int .u64 1) (.int k (n:Int))) w K=K (.int .u64 ((2 ^ n:Nat):Int)):=by
 rw[zp Ω];have e:min ((n:Int).toNat) U2.bits=n:=Nat.min_eq_left (by show n<=64;omega);have f:2 ^ n<2 ^ 64:=Nat.pow_lt_pow_right Ω a;rw[e,Int.one_mul,show ((2:Int) ^ n)=((2 ^ n:Nat):Int) by simp];generalize 2 ^ n=q at f ⊢;rw[wrap_u64 Ω Ω]
end
def si:Λ:=[0,1,56,2,57,49,28,3,61,58,42,50,38,29,17,4,62,47,59,36,45,43,51,22,53,39,33,30,24,18,12,5,63,55,48,27,60,41,37,16,46,35,44,21,52,32,23,11,54,26,40,15,34,20,31,10,25,14,19,9,13,8,7,6]
def Laid (w:x3):Prop:=w.rangeAt 0 0 (ints .u8 si)
theorem Laid.ext (h:Laid w) (a:Ext w w'):Laid w':=np a h
theorem JO:∀k:Nat,k<64->si[(2 ^ k*285870213051353865 % 2 ^ 64) / 2 ^ 58]? =σ (k:Int):=Φ
theorem JP {x k:Nat} (f:Laid w) (j:x=2 ^ k*(2*m+1)) (p:x<2 ^ 64):
  ai x7 HW [.int .u64 (x:Int)] w λv w'=>v=Δ (k:Int)/\Ext w w':=by
 have z:0<2 ^ k:=Nat.two_pow_pos k;have A:2 ^ k<=x:=by
  have:2 ^ k*1<=2 ^ k*(2*m+1):=Nat.mul_le_mul_left _ Ω;omega
 have hk:k<64:=by
  rcases Nat.lt_or_ge k 64 with h|h
  .exact h
  .have:2 ^ 64<=2 ^ k:=T6 Ω h;omega
 refine aw func177 ?_;simp only[bh,aj];refine⟨λh=>Ω,λ_=>?_⟩;rw[lO];have q:U2.wrap (0-(x:Int))=((2 ^ 64-x:Nat):Int):=by
  simp only[o6.wrap,o6.bits,o6.signed];simp;omega
 rw[q,u64_and p Ω,j,JH Ω];simp only[hP];have r:U2.wrap (((2 ^ k:Nat):Int)*285870213051353865)=((2 ^ k*285870213051353865 % 2 ^ 64:Nat):Int):=by
  have e:((2 ^ k:Nat):Int)*285870213051353865=((2 ^ k*285870213051353865:Nat):Int):=Ξ
  rw[e];simp only[o6.wrap,o6.bits,o6.signed];simp
 have s:(58:Int)=((58:Nat):Int):=rfl;rw[r,s,kZ Ω];have a:=JO k hk;have y:=(x4.1 a).1;rw[vb (t:=rX) rX.u cI.i y,aB Ψ (by rw[U9];exact f _ _ (kS a)),fj cI.u ah.u,wrap_i64 Ω Ω];exact⟨rfl,Ext.refl _⟩
def jn (b n:Nat):x1:=.agg #[.int .u64 (b:Int),Δ (n:Int)]
def lT (b n:Nat):Prop:=n<=32/\b<2 ^ n
theorem AA (s i:Nat):(2 ^ s-1).testBit i=decide (i<s):=Nat.testBit_two_pow_sub_one s i
theorem AB {b:Nat} {v:Int}:ai x7 Ho [jn b n,Δ v] w λr w'=>r= .bool (decide (0<=v/\v<n))/\Ext w w':=by
 refine aw func131 ?_;refine bm λg J f a e=>?_;simp only[cm,cY,aj];refine⟨λh=>?_,λh=>⟨?_,a⟩⟩
 .rw[aA ca.p 1 e rfl];simp only[aR];exact⟨by simp[h],a⟩
 .rw[decide_eq_false];omega
theorem AC {b:Nat}:ai x7 Hb [jn b n] w λr w'=>r=Δ n/\Ext w w':=by
 refine aw func115 ?_;refine bm λg J f a e=>?_;rw[aA ca.p 1 e rfl];exact⟨rfl,a⟩
theorem JQ {n:Int}:ai x7 G9 [Δ n] w λr w'=>Ext w w'/\r=(if 1<=n/\n<=32 then .tuple #[jn (2 ^ n.toNat-1) n.toNat,Δ 0] else .tuple #[jn 0 0,Δ 1]):=by
 refine aw func113 ?_;refine bB ca.i λg J z f j=>?_;refine aU (λv U=>v= .bool (decide (¬(1<=n/\n<=32)))/\J=U) ?_ ?_
 .rintro _ _ ⟨rfl,rfl⟩;simp only[aj];refine⟨λh=>?_,λh=>?_⟩
  .rw[dp (cs:=#[.int .u64 0,Δ 0]) Ψ];refine b3 (vs:=[.int .u64 0,Δ 0]) ca.i rfl rfl (by intro u hu;simp at hu;rcases hu with rfl|rfl<;>rfl) j λs a x e=>?_;rw[fz ca.p ca.i rfl e.range,if_neg h];exact⟨f.then a (by rintro r y rfl;omega),rfl⟩
  .have h:1<=n/\n<=32:=Y3.1 h;obtain⟨m,rfl⟩:∃m:Nat,n=m:=⟨n.toNat,Ω⟩;rw[vu Ω];have A:0<2 ^ m:=Nat.two_pow_pos m;have B:2 ^ m<=2 ^ 32:=T6 Ω Ω;simp only[dZ];rw[wrap_u64 Ω Ω,show (((2 ^ m:Nat):Int)-1)=((2 ^ m-1:Nat):Int) by omega];rw[dp (cs:=#[.int .u64 ((2 ^ m-1:Nat):Int),Δ m]) Ψ];refine b3 (vs:=[.int .u64 ((2 ^ m-1:Nat):Int),Δ m]) ca.i rfl rfl (by intro u hu;simp at hu;rcases hu with rfl|rfl<;>rfl) j λs a x e=>?_;rw[fz ca.p ca.i rfl e.range,if_pos h];exact⟨f.then a (by rintro r y rfl;omega),rfl⟩
 .intro av q;simp only[aR,bT,aj];refine⟨λh=>q _ _ ⟨?_,rfl⟩,λh=>q _ _ ⟨?_,rfl⟩⟩
  .rw[decide_eq_true];omega
  .congr 1;simp;omega
theorem AD {b:Nat} {v:Int} (y:lT b n) (z:Laid w) (G: -1<=v):ai x7 He [jn b n,Δ v] w λr w'=>r=Δ (jI b n v)/\Ext w w':=by
 obtain⟨H,e⟩:=y;have f:b<2 ^ 64:=R5 e (T6 Ω Ω);refine aw func119 ?_;refine bm λg J K a j=>?_;rw[aA ca.p 1 j rfl];simp only[dZ,cY,aj];rw[wrap_i64 Ω Ω];refine⟨λh=>⟨by rw[JL h],a⟩,λL=>?_⟩;rw[aA ca.p 0 j rfl];refine aU (λu U=>J=U/\ ∃r s:Nat,u= .int .u64 (r:Int)/\r<2 ^ 64/\v+1=s/\ ∀i,r.testBit i=(decide (s<=i)&&b.testBit i)) ?_ ?_
 .rintro _ _ ⟨rfl,r,s,rfl,A,I,q⟩;simp only[bh,aj];refine⟨λB=>⟨by rw[JN q Ω I],a⟩,λB=>?_⟩;obtain⟨k,m,hk⟩:=JG r Ω;refine (JP (z.ext a) hk A).mono ?_;rintro _ M _ ⟨rfl,C⟩;exact⟨by rw[JM Ω e q hk I],a.trans C⟩
 .intro av x;refine⟨λh=>?_,λh=>?_⟩
  .obtain⟨s,rfl⟩:∃s:Nat,v=s:=⟨v.toNat,Ω⟩;have N:0<2 ^ (s+1):=Nat.two_pow_pos _;have O:2 ^ (s+1)<=2 ^ 32:=T6 Ω Ω;simp only[aP];rw[wrap_i64 Ω Ω,show ((s:Int)+1)=((s+1:Nat):Int) by omega,vu Ω];simp only[dZ];rw[wrap_u64 Ω Ω,show (((2 ^ (s+1):Nat):Int)-1)=((2 ^ (s+1)-1:Nat):Int) by omega,Az];refine x _ _ ⟨rfl,_,s+1,rfl,JI _ _,Ω,λi=>?_⟩;rw[Ar,AA];by_cases E:i<64
   .by_cases hi:s+1<=i
    .simp[E,hi,show ¬i<s+1 by omega]
    .simp[hi,show i<s+1 by omega]
   .rw[As f Ω];simp
  .exact x _ _ ⟨rfl,b,0,rfl,f,Ω,λi=>Ξ⟩
theorem JR {b:Nat} (e:lT b n) (f:Laid w):ai x7 Hd [jn b n] w λr w'=>r=Δ (jI b n (-1))/\Ext w w':=by
 refine aw func118 ?_;refine bm λg J q a h=>?_;rw[bD ca.p ca.i rfl h.range];refine (AD e (f.ext a) Ω).mono ?_;rintro _ U _ ⟨rfl,j⟩;exact⟨rfl,a.trans j⟩
theorem JS {b:Nat} {v:Int} (H:lT b n):ai x7 Hc [jn b n,Δ v] w λr w'=>r=jn (if 0<=v/\v<n then jH b (2 ^ v.toNat) else b) n/\Ext w w':=by
 refine aw func116 ?_;refine bm λg J R x y=>?_;refine bB ca.i λI U S z A=>?_;have W:=x.size;have X:=y.lt;refine dm (λe=>∃f,ab e g ca [.int .u64 ((f:Nat):Int),Δ (n:Int)]/\ab e I ca [.int .u64 0,Δ 0]/\Ext w e/\f=(if 0<=v/\v<n then jH b (2 ^ v.toNat) else b)) ?_ ?_
 .rintro e ⟨f,K,L,M,rfl⟩;rw[bD ca.p ca.i rfl K.range];refine b3 (vs:=[_,_]) ca.i rfl rfl (by intro u hu;simp at hu;rcases hu with rfl|rfl<;>rfl) L λY N Z O=>?_;rw[fz ca.p ca.i rfl O.range];exact⟨rfl,M.then N (by rintro r P rfl;omega)⟩
 .intro av B;have j:=y.ext z;rw[bD ca.p ca.i rfl j.range];refine AB.mono ?_;rintro _ aa _ ⟨rfl,a⟩;have C:=(x.trans z).trans a;simp only[aj,eo];refine⟨λh ac q _ _=>?_,λh=>B _ ⟨b,j.ext a,A.ext a,C,by rw[if_neg h]⟩⟩;have E:=(j.ext a).ext q;rw[aA ca.p 0 E rfl];obtain⟨s,rfl⟩:∃s:Nat,v=s:=⟨v.toNat,Ω⟩;have ad:=H.1;rw[vu Ω,Az,aQ ca.p rfl];refine bo ft.i rfl rfl E (by simp[jn,x1.cells]) λae G af Q=>?_;refine B _ ⟨_,Q,((A.ext a).ext q).V G Ω,(C.trans q).then G (by rintro r P rfl;omega),?_⟩;rw[if_pos h,r8]
def oL (v:Int):Nat:=if v<0 then 0 else 40-v.toNat
theorem vv (x:Nat):oL x=40-x:=by unfold oL;rw[if_neg Ω];omega
theorem oM {b g:Nat} (e:lT b n):
  oq x7 ke [Γ g] (gm b n).length (λk vs _=>∃v:Nat,(gm b n)[k]? =σ v/\vs=[Δ (v:Int)])
   (λw=>ab w g ca [.int .u64 (b:Int),Δ (n:Int)]/\Laid w):=by
 refine⟨ke.enters,λl av Q w r _ E ⟨s,z⟩ G=>?_⟩;have R:=e.1;refine pQ func117 ?_;rw[bD ca.p ca.i rfl s.range];refine (JR e z).free.mono ?_;rintro _ J ⟨H,rfl,f⟩;refine⟨λv U=>∃k,k<=(gm b n).length/\v=Δ (nF (gm b n)[k]?)/\av k U/\ab U g ca [.int .u64 (b:Int),Δ (n:Int)]/\Laid U,
  λv _=>oL (b2 v),⟨0,X3 _,by rw[JK],r 0 _ _ f H.b G,s.ext f,z.ext f⟩,?_⟩
 rintro _ U ⟨k,hk,rfl,A,I,K⟩;cases a:(gm b n)[k]? with
 |none=>
  have:k=(gm b n).length:=by
   have:=List.getElem?_eq_none_iff.1 a;omega
  subst this;simp only[nF,cY,aj];exact⟨λh=>Ω,λ_=>.inl A⟩
 |some x=>
  have j:=(x4.1 a).1;have S:=(vt.1 (x5 a)).1;simp only[nF,cY,aj];refine⟨λ_=>?_,λh=>Ω⟩;refine⟨rfl,(E k _ U j ⟨I,K⟩ ⟨x,a,rfl⟩ A).mono ?_⟩;rintro _ V (⟨rfl,⟨B,C⟩,L⟩|⟨rfl,M⟩)
  .simp only[bG,Y4,aY];rw[bD ca.p ca.i rfl B.range];refine (AD e C Ω).free.mono ?_;rintro _ W ⟨N,rfl,q⟩;refine⟨⟨k+1,j,congrArg (V0 .i64) (Ax a),r _ _ _ q N.b L.1,B.ext q,C.ext q⟩,?_⟩;rw[Ax a];cases O:(gm b n)[k+1]? with
   |none=>show 0<oL x;rw[vv];omega
   |some y=>
    have X:x<y:=by
     have h1:=(x4.1 a).2;have P:=(x4.1 O).2;rw[<-h1,<-P];exact V2.1 (Au b n) k (k+1) _ _ Ω
    show oL y<oL x;rw[vv,vv];omega
  .simp only[bG,W5,bS];exact .inr ⟨k,j,M⟩
theorem oN {b:Nat}:ai x7 Gn [jn b n] w λr w'=>Ext w w'/\ ∃g,r= .func (.func ke) #[] #[Γ g]/\w.heap.size<=g/\ab w' g ca [.int .u64 (b:Int),Δ (n:Int)]:=by
 refine aw func45 ?_;refine bm λg J f a e=>?_;rw[mq];exact⟨a,g,rfl,Ω,e⟩
abbrev dB (s:Λ):Prop:=∀x∈s,1<=x/\x<=32
theorem dB.tail {s:Λ} (h:dB (k::s)):dB s:=λx a=>h x (.tail _ a)
theorem lU {s:Λ} (h:dB s):1<=aL s:=(mw s h).1
theorem oO:∀ (s t:Λ) (m:Int),cF s t m=(cF s t 0).map λn=>n+m*aL s
 |[],[],m=>by simp[cF,aL]
 |k::s,v::t,m=>by
  unfold cF;split
  .rw[oO s t (m*k+v),oO s t (0*k+v)];simp only[Option.map_map,aL];congr 1;funext n;simp only[Function.comp];rw[Int.add_mul,Int.add_mul,<-Int.mul_assoc];simp;omega
  .rfl
 |[],_::_,_=>rfl
 |_::_,[],_=>rfl
theorem vw {L j:Nat} {rest:List (Λ)} (p:rest.length=L):∀ {kn v:Nat},v<kn-> ∀ {x:Λ},rest[j]? =σ x->
  ((V1 kn).flatMap λ(v:Nat)=>rest.map λt=>(v:Int)::t)[v*L+j]? =σ ((v:Int)::x)
 |0,v,h,_,_=>Ω
 |kn+1,v,h,x,e=>by
  have q:=(x4.1 e).1;have f:((V1 kn).flatMap λ(v:Nat)=>rest.map λt=>(v:Int)::t).length=kn*L:=by
   simp only[List.length_flatMap,u7,p];rw[List.map_const',List.length_range,List.sum_replicate_nat]
  rw[List.range_succ,List.flatMap_append];by_cases a:v<kn
  .have:(v+1)*L<=kn*L:=Y9 _ a;rw[V9] at this;rw[Z8 (by rw[f];omega)];exact vw p a e
  .have a:v=kn:=Ω
   subst a;rw[Z9 (by rw[f];omega),f,show v*L+j-v*L=j by omega];simp[e]
theorem iN:∀ {s:Λ},dB s-> ∀ {i:Nat} {t:Λ},(ba s)[i]? =σ t->cF s t 0=σ (i:Int)
 |[],_,i,t,h=>by
  cases i with
  |zero=>simp[ba] at h;subst h;rfl
  |succ i=>simp[ba] at h
 |k::s,I,i,t,h=>by
  have hk:=I k (.head _);have a:=ib I.tail;have w:=lU I.tail;obtain⟨kn,rfl⟩:∃kn:Nat,k=kn:=⟨k.toNat,Ω⟩;have hi:=(x4.1 h).1;rw[ib I,aL,Int.toNat_mul Ω Ω,<-a,r8] at hi;have p:0<(ba s).length:=Ω
  have e:i / (ba s).length<kn:=Nat.div_lt_of_lt_mul (by rw[Nat.mul_comm];exact hi);have q:i % (ba s).length<(ba s).length:=Nat.mod_lt _ p;obtain⟨x,f⟩:∃x,(ba s)[i % (ba s).length]? =σ x:=⟨_,x6 q⟩;have j:=vw (kn:=kn) rfl e f;rw[Nat.mul_comm,Nat.div_add_mod] at j;have h':((V1 ((kn:Int).toNat)).flatMap λ(v:Nat)=>(ba s).map λt=>(v:Int)::t)[i]? =σ t:=h;rw[r8,j] at h';cases h';unfold cF;rw[if_pos ⟨Int.natCast_nonneg _,Int.ofNat_lt.2 e⟩,oO,iN I.tail f];simp only[Z4,X0,Int.zero_mul,Int.zero_add];have r:aL s=((ba s).length:Int):=by rw[a];omega
  rw[r,<-Int.natCast_mul,<-Int.natCast_add];congr 1;rw[Nat.mul_comm,Nat.add_comm,Nat.div_add_mod]
theorem lV:∀ {s:Λ},dB s-> ∀ {t:Λ} {n:Int},cF s t 0=σ n->(ba s)[n.toNat]? =σ t
 |[],_,[],n,h=>by simp[cF] at h;subst h;rfl
 |k::s,I,v::t,n,h=>by
  have hk:=I k (.head _);have j:=ib I.tail;have w:=lU I.tail;obtain⟨kn,rfl⟩:∃kn:Nat,k=kn:=⟨k.toNat,Ω⟩;unfold cF at h;split at h
  .rename_i x;rw[oO] at h;cases f:cF s t 0 with
   |none=>rw[f] at h;cases h
   |some q=>
    rw[f] at h;simp only[Z4,X0,Int.zero_mul,Int.zero_add] at h;have p:=nz I.tail f;simp only[Int.zero_mul,Int.zero_add,Int.one_mul] at p;obtain⟨a,rfl⟩:∃a:Nat,v=a:=⟨v.toNat,Ω⟩;have r:=vw (kn:=kn) (v:=a) rfl Ω (lV I.tail f);have e:n.toNat=a*(ba s).length+q.toNat:=by
     rw[<-h,j];have:((a*(aL s).toNat:Nat):Int)=(a:Int)*aL s:=by rw[Int.natCast_mul,Int.toNat_of_nonneg Ω]
     omega
    rw[e];show ((V1 ((kn:Int).toNat)).flatMap λ(v:Nat)=>(ba s).map λt=>(v:Int)::t)[_]? =_;rw[r8];exact r
  .cases h
 |[],_,_::_,_,h=>by cases h
 |_::_,_,[],_,h=>by cases h
theorem AE:∀ (s:Λ),dB s-> ∀ (n c:Int),cL s (n+c*aL s)=cL s n
 |[],_,_,_=>rfl
 |k::s,I,n,c=>by
  have a:=lU I.tail;simp only[cL,aL];rw[<-Int.mul_assoc,AE s I.tail,Int.add_mul_ediv_right _ _ Ω,Int.add_mul_emod_self_right]
theorem sj:∀ {s:Λ},dB s-> ∀ {n:Int},0<=n->n<aL s->cF s (cL s n) 0=σ n
 |[],_,n,a,h1=>by simp[aL] at h1;simp[cL,cF];omega
 |k::s,I,n,a,h1=>by
  have hk:=I k (.head _);have j:=lU I.tail;simp only[cL,aL] at h1 ⊢;have f:n / aL s<k:=Int.ediv_lt_of_lt_mul Ω h1;have h:0<=n / aL s:=Int.ediv_nonneg a Ω;have hm:n / aL s % k=n / aL s:=Int.emod_eq_of_lt h f;rw[hm];unfold cF;rw[if_pos ⟨h,f⟩,oO];have e:cL s n=cL s (n % aL s):=by
   have:=AE s I.tail (n % aL s) (n / aL s);rw[<-this];congr 1;have:=Int.emod_add_mul_ediv n (aL s);rw[Int.mul_comm (n / aL s)];omega
  rw[e,sj I.tail (Int.emod_nonneg _ Ω) (Int.emod_lt_of_pos _ Ω)];simp only[Z4,X0,Int.zero_mul,Int.zero_add];have:=Int.emod_add_mul_ediv n (aL s);rw[Int.mul_comm (n / aL s)];omega
theorem nG {s:Λ} (I:dB s) {i:Nat} (h:(i:Int)<aL s):(ba s)[i]? =σ (cL s i):=by
 have:=lV I (sj I (n:=(i:Int)) Ω h);simpa using this
def a7 (s cs t:Λ):Int:=match cF s t 0 with
 |some n=>cs.getD n.toNat 0
 |none=>0
def upto {α:Type} (l:List α) (d:α) (i:Nat):List α:=l.take i++p9 (l.length-i) d
theorem p5 {α:Type} (l:List α) (d:α) (i:Nat):(upto l d i).length=l.length:=by simp[upto];omega
theorem p6 {α:Type} (l:List α) (d:α):upto l d 0=p9 l.length d:=by simp[upto]
theorem p7 {α:Type} (l:List α) (d:α):upto l d l.length=l:=by simp[upto]
theorem qa {α:Type} {l:List α} {d x:α} {i:Nat} (h:l[i]? =σ x):(upto l d i).set i x=upto l d (i+1):=by
 have hi:=(x4.1 h).1;unfold upto;rw[T2 _ _ Θ,u9,h];have e:i-(l.take i).length=0:=Θ
 obtain⟨m,hm⟩:∃m,l.length-i=m+1:=⟨l.length-i-1,Ω⟩;rw[e,hm,show l.length-(i+1)=m by omega];simp[List.replicate_succ]
theorem qb {α:Type} {l:List α} {i:Nat} {x:α} (h:l[i]? =σ x):l.set i x=l:=by
 apply Y2;intro j;rw[X1];split
 .rename_i a;subst a;rw[if_pos (x4.1 h).1,h]
 .rfl
def vx:Λ->Int
 |[]=>0
 |x::l=>l.foldl min x
def AF (P:Int->Prop) (m:Int):Prop:=P m/\ ∀x,P x->m<=x
def dq (s t:Λ):Prop:=∃n,cF s t 0=σ n
theorem JT (k v:Int) (s t:Λ):cF (k::s) (v::t) 0=if 0<=v/\v<k then (cF s t 0).map (λn=>n+(0*k+v)*aL s) else ν:=by
 conv=>lhs;unfold cF
 rw[oO]
theorem AG {v:Int} {s t:Λ}:dq (k::s) (v::t)↔(0<=v/\v<k)/\dq s t:=by
 unfold dq;rw[JT];constructor
 .rintro⟨n,h⟩;split at h
  .rename_i a;cases e:cF s t 0 with
   |none=>rw[e] at h;cases h
   |some q=>exact⟨a,q,rfl⟩
  .cases h
 .rintro⟨a,q,e⟩;rw[if_pos a,e];exact⟨_,rfl⟩
theorem AH {t:Λ}:dq [] t↔t=[]:=by
 cases t with
 |nil=>exact⟨λ_=>rfl,λ_=>⟨0,rfl⟩⟩
 |cons v t=>
  constructor
  .rintro⟨_,h⟩;cases h
  .intro h;cases h
theorem sk {s t:Λ} (h:dq s t):s.length=t.length:=by
 obtain⟨n,h⟩:=h;rcases Nat.decEq s.length t.length with a|a
 .rw[ve s t 0 a] at h;cases h
 .exact a
theorem AI {s t:Λ} (I:dB s) {n:Int} (h:cF s t 0=σ n):cL s n=t:=by
 have f:=nz I h;have h1:=lV I h;simp only[Int.zero_mul,Int.zero_add,Int.one_mul] at f;have a:=nG I (i:=n.toNat) Ω;rw[h1] at a;have e:((n.toNat:Nat):Int)=n:=Ω
 rw[e] at a;exact (c8 a).symm
theorem sm {s cs:Λ} (I:dB s) (a:cs.length=(aL s).toNat):cs=(V1 (aL s).toNat).map λ(q:Nat)=>a7 s cs (cL s q):=by
 apply List.ext_getElem
 .simp[a]
 .intro i h1 e;rw[List.getElem_map,List.getElem_range];have f:=lU I;have hi:(i:Int)<aL s:=Ω
  unfold a7;rw[sj I Ω hi];simp only[r8];rw[u4,x6 h1];rfl
theorem vy {s:Λ} (I:dB s) {q:Nat} (a:q<(aL s).toNat):dq s (cL s q):=⟨_,sj I Ω (by have:=lU I;omega)⟩
theorem JU {s cs a:Λ} (I:dB s) (e:cs.length=(aL s).toNat) (f:a.length=(aL s).toNat) (h:∀t,dq s t->a7 s cs t=a7 s a t):cs=a:=by
 rw[sm I e,sm I f];apply List.map_congr_left;intro q j;exact h _ (vy I (by simpa using j))
theorem JV (h:l≠[]):AF (λc=>c∈l) (vx l):=by
 obtain⟨x,r,rfl⟩:∃v r,l=v::r:=by cases l with
  |nil=>exact absurd rfl h
  |cons v r=>exact⟨v,r,rfl⟩
 clear h;show AF (λc=>c∈x::r) (r.foldl min x);induction r generalizing x with
 |nil=>exact⟨.head _,λy f=>by simp at f;simp[f]⟩
 |cons y r j=>
  rw[List.foldl_cons];obtain⟨h1,e⟩:=j (min x y);refine⟨?_,λz a=>?_⟩
  .rcases W6.1 h1 with h1|h1
   .rw[h1];rcases Int.le_total x y with h|h
    .rw[Int.min_eq_left h];exact .head _
    .rw[Int.min_eq_right h];exact .tail _ (.head _)
   .exact .tail _ (.tail _ h1)
  .rcases W6.1 a with rfl|a
   .have:=e _ (.head _);omega
   .rcases W6.1 a with rfl|a
    .have:=e _ (.head _);omega
    .exact e _ (.tail _ a)
def oP (m:Λ) (i j:Nat):Prop:=∀ (p q:Nat) (x y:Int),p<q->q<=i->q≠j->m[p]? =σ x->m[q]? =σ y->x<=y
def qc (m:Λ) (i:Nat):Prop:=∀ (p q:Nat) (x y:Int),p<q->q<i->m[p]? =σ x->m[q]? =σ y->x<=y
theorem JW {m:Λ} {i:Nat} (h:qc m i):oP m i i:=λp q x y h1 f j a e=>h p q x y h1 Ω a e
theorem JX {m:Λ} {i:Nat} (h:oP m i 0):qc m (i+1):=λp q x y h1 f a e=>h p q x y h1 Ω Ω a e
theorem JY {m:Λ} {i:Nat} {a b:Int} (h:oP m i j) (B:0<j) (r:m[j-1]? =σ a) (w:m[j]? =σ b) (z:a<=b):qc m (i+1):=by
 intro p q x y h1 C e f;by_cases s:q=j
 .subst s;rw[w] at f;cases f;by_cases A:p=q-1
  .subst A;rw[r] at e;cases e;exact z
  .have:=h p (q-1) x a Ω Ω Ω e r;omega
 .exact h p q x y h1 Ω s e f
theorem JZ {m:Λ} {i:Nat} {a b:Int} (h:oP m i j) (H:0<j) (hi:j<=i) (z:m[j-1]? =σ a) (A:m[j]? =σ b) (I:b<a):oP ((m.set j a).set (j-1) b) i (j-1):=by
 intro p q x y h1 w B e f;have C:=(x4.1 A).1;have E:∀ (r:Nat),((m.set j a).set (j-1) b)[r]? =if r=j-1 then σ b else if r=j then σ a else m[r]?:=λr=>by
  by_cases h:r=j-1
  .subst h;rw[j4 Θ,if_pos rfl]
  .rw[Y0 (S3 h),if_neg h];by_cases h':r=j
   .subst h';rw[j4 C,if_pos rfl]
   .rw[Y0 (S3 h'),if_neg h']
 rw[E] at e f;rw[if_neg B] at f;by_cases s:q=j
 .rw[if_pos s] at f;cases f;split at e
  .cases e;omega
  .split at e
   .omega
   .exact h p (j-1) x a Ω Ω Ω e z
 .rw[if_neg s] at f;split at e
  .cases e;have:=h j q b y;by_cases F:j<q
   .exact this F w s A f
   .omega
  .split at e
   .rename_i G;subst G;cases e;exact h (p-1) q a y Ω w s z f
   .exact h p q x y h1 w s e f
theorem swap_perm {m:Λ} {i:Nat} {a b:Int} (q:i<j) (h:m[i]? =σ a) (f:m[j]? =σ b):((m.set j a).set i b).Perm m:=by
 induction m generalizing i j with
 |nil=>simp at h
 |cons x m p=>
  cases j with
  |zero=>omega
  |succ j=>
   cases i with
   |zero=>
    simp at h f ⊢;subst h;obtain⟨r,f⟩:=x4.1 f;rw[show m=m.take j++m[j]::m.drop (j+1) by simp];rw[T2 _ _ Θ];have e:j-(m.take j).length=0:=Θ
    rw[e,f];simp only[List.set_cons_zero];refine (List.Perm.cons b (List.perm_middle)).trans ?_;refine (List.Perm.swap x b _).trans ?_;exact List.Perm.cons x List.perm_middle.symm
   |succ i=>
    simp at h f ⊢;exact p Ω h f
theorem J0 {m:Λ} (h:qc m m.length):m.Pairwise (·<= ·):=by
 rw[V2];intro i j hi a e;exact h i j _ _ e a (x6 hi) (x6 a)
def Good (o:Λ) (n:Nat):Prop:=o.length=n/\ ∀ (i:Nat) (p:Int),o[i]? =σ p->(0<=p/\p<n)/\ ∀j,j<i->o[j]? ≠σ p
theorem Good.inj {o:Λ} {i:Nat} {p:Int} (h:Good o n) (hi:o[i]? =σ p) (a:o[j]? =σ p):i=j:=by
 rcases Nat.lt_trichotomy i j with h1|h1|h1
 .exact absurd hi ((h.2 j p a).2 i h1)
 .exact h1
 .exact absurd a ((h.2 i p hi).2 j h1)
def AJ (m:Λ):Prop:=∀i:Nat,i<m.length->m[i]? =σ (i:Int)
theorem AK {o m:Λ} (h:Good o n) (a:m.Perm o) (I:m.Pairwise (·<= ·)):AJ m:=by
 have s:o.Nodup:=V2.2 λi j hi w C he=>by
  have:=h.inj (i:=i) (j:=j) (p:=o[j]) (by rw[x6 hi,he]) (x6 w);omega
 have y:m.Nodup:=a.nodup_iff.2 s;have E:m.length=n:=by rw[a.length_eq,h.1]
 have q:∀x∈m,0<=x/\x<(n:Int):=λx z=>by
  obtain⟨i,hi,he⟩:=List.getElem_of_mem (a.mem_iff.1 z);exact (h.2 i x (by rw[x6 hi,he])).1
 have r:∀ (i:Nat) (hi:i+1<m.length),m[i]<m[i+1]:=λi hi=>by
  have h1:=V2.1 I i (i+1) Ω hi Ω;have e:=V2.1 y i (i+1) Ω hi Ω;omega
 have A:∀ (i:Nat) (hi:i<m.length),(i:Int)<=m[i]:=by
  intro i;induction i with
  |zero=>intro hi;exact (q _ (T8 hi)).1
  |succ i f=>
   intro hi;have h1:=f Ω;have e:=r i hi;omega
 have B:∀ (d i:Nat) (hi:i<m.length),i+d+1=m.length->m[i]<=(i:Int):=by
  intro d;induction d with
  |zero=>
   intro i hi he;have:=(q _ (T8 hi)).2;omega
  |succ d f=>
   intro i hi he;have h1:=f (i+1) Ω Ω;have e:=r i Ω;omega
 intro i hi;rw[x6 hi];have h1:=A i hi;have e:=B (m.length-i-1) i hi Ω;congr 1;omega
theorem J1 {o m:Λ} (h:AJ m) (e:m.Perm o):Good o m.length:=by
 have s:m.Nodup:=V2.2 λi j hi a x he=>by
  have h1:=h i hi;have f:=h j a;rw[x6 hi] at h1;rw[x6 a] at f;have h1:=c8 h1;have f:=c8 f;omega
 have w:o.Nodup:=e.nodup_iff.1 s;refine⟨e.length_eq.symm,λi p hi=>⟨?_,λj a q=>?_⟩⟩
 .obtain⟨k,hk,he⟩:=List.getElem_of_mem (e.mem_iff.2 (x5 hi));have h1:=h k hk;rw[x6 hk,he] at h1;cases h1;omega
 .have r:i<o.length:=(x4.1 hi).1;have:=V2.1 w j i Ω r a;rw[x6 r] at hi;rw[x6 (show j<o.length by omega)] at q;exact this ((c8 q).trans (c8 hi).symm)
theorem Good.AL {o:Λ} {p:Nat} (h:Good o n) (f:p<n):∃j:Nat,o[j]? =σ (p:Int):=by
 let le:Int->Int->Bool:=λa b=>decide (a<=b);have h1:(o.mergeSort le).Perm o:=List.mergeSort_perm o le;have e:(o.mergeSort le).Pairwise (·<= ·):=by
  refine (List.pairwise_mergeSort (le:=le) (λa b c h1 e=>?_) (λa b=>?_) o).imp λh=>by simpa[le] using h
  .simp[le] at*;omega
  .simp[le];omega
 have q:=AK h h1 e p (by rw[h1.length_eq,h.1];exact f);obtain⟨j,r,he⟩:=List.getElem_of_mem (h1.mem_iff.1 (x5 q));exact⟨j,by rw[x6 r,he]⟩
def lW (o x:Λ):Λ:=(V1 o.length).map λ(p:Nat)=>x.getD (o.idxOf (p:Int)) 0
theorem AM (o x:Λ):(lW o x).length=o.length:=by simp[lW]
theorem AN {o x:Λ} {p:Int} (h:Good o n) (r:x.length=n) (a:o[j]? =σ p):(lW o x)[p.toNat]? =x[j]?:=by
 have h1:=(h.2 j p a).1;have s:j<o.length:=(x4.1 a).1;have hm:p∈o:=x5 a;have e:=List.idxOf_lt_length_of_mem hm;have f:o.idxOf p=j:=h.inj (by rw[x6 e,List.getElem_idxOf e]) a;have q:((p.toNat:Nat):Int)=p:=Ω
 have w:=h.1;unfold lW;rw[x8,List.getElem?_range Ω];simp only[Z4,q,f];rw[u4,x6 (show j<x.length by omega)];rfl
theorem AO {o x y:Λ} (h:Good o n) (f:x.length=n) (s:y.length=n) (q:∀ (j:Nat) (p:Int),o[j]? =σ p->y[p.toNat]? =x[j]?):y=lW o x:=by
 refine Y2 λp=>?_;have w:=h.1;by_cases r:p<n
 .obtain⟨j,a⟩:=h.AL r;have h1:=q j p a;have e:=AN h f a;rw[r8] at h1 e;rw[h1,e]
 .rw[Z3 Ω,Z3 (by rw[AM];omega)]
theorem nH:∀ {s t:Λ},dq s t↔s.length=t.length/\ ∀ (i:Nat) (a v:Int),s[i]? =σ a->t[i]? =σ v->0<=v/\v<a
 |[],t=>by
  rw[AH];exact⟨λh=>⟨by rw[h],λi a v h _=>by simp at h⟩,λh=>b9 h.1.symm⟩
 |k::s,[]=>⟨λh=>absurd (sk h) Ξ,λh=>absurd h.1 Ξ⟩
 |k::s,v::t=>by
  rw[AG,nH (s:=s) (t:=t)];refine⟨λ⟨h1,f,j⟩=>⟨by simp[f],λi a u e hu=>?_⟩,λ⟨h1,f⟩=>⟨f 0 k v rfl rfl,by simpa using h1,λi a u e hu=>f (i+1) a u (by simpa using e) (by simpa using hu)⟩⟩;cases i with
  |zero=>simp at e hu;subst e;subst hu;exact h1
  |succ i=>exact j i a u (by simpa using e) (by simpa using hu)
def et (s o:Λ):Λ:=o.map λp=>s.getD p.toNat 0
theorem sn (s o:Λ):(et s o).length=o.length:=by simp[et]
theorem AP {s o:Λ} {p:Int} (h:Good o n) (I:s.length=n) (a:o[j]? =σ p):(et s o)[j]? =s[p.toNat]?:=by
 have h1:=(h.2 j p a).1;unfold et;rw[x8,a,Z4,u4,x6 (show p.toNat<s.length by omega)];rfl
theorem J2 {s o:Λ} (h:Good o n) (I:s.length=n) {x:Int} (a:x∈et s o):x∈s:=by
 obtain⟨p,e,rfl⟩:=n9.1 a;obtain⟨j,f,he⟩:=List.getElem_of_mem e;have h1:=(h.2 j p (by rw[x6 f,he])).1;rw[u4,x6 (show p.toNat<s.length by omega)];exact T8 _
theorem b5.J3 {s o:Λ} (a:b5 s) (h:Good o n) (I:s.length=n):b5 (et s o):=
 ⟨by rw[sn,h.1,<-I];exact a.1,λx e=>a.2 x (J2 h I e)⟩
theorem J4 {s o x:Λ} (h:Good o n) (I:s.length=n) (w:dq (et s o) x):dq s (lW o x):=by
 obtain⟨h1,y⟩:=nH.1 w;rw[sn,h.1] at h1;refine nH.2 ⟨by rw[AM,h.1,I],λp a v e z=>?_⟩;have A:p<n:=by have:=(x4.1 e).1;omega
 obtain⟨j,f⟩:=h.AL A;have q:=AP h I f;have r:=AN h h1.symm f;rw[r8] at q r;exact y j a v (by rw[q,e]) (by rw[<-r,z])
def nI (s cs o:Λ):Λ:=(V1 (aL (et s o)).toNat).map λ(q:Nat)=>a7 s cs (lW o (cL (et s o) q))
theorem AQ (s cs o:Λ):(nI s cs o).length=(aL (et s o)).toNat:=by simp[nI]
theorem vz {f:Int->Bool} {x:Int}:runN f (x::l)=if f x=true then runN f l+1 else 0:=by
 unfold runN;rw[List.takeWhile_cons];by_cases h:f x=true
 .rw[if_pos h,if_pos h,Z0]
 .rw[if_neg h,if_neg h];rfl
theorem vA (f:Int->Bool):∀l:Λ,l.dropWhile f=l.drop (runN f l)
 |[]=>rfl
 |x::l=>by
  rw[List.dropWhile_cons,vz];by_cases h:f x=true
  .rw[if_pos h,if_pos h,vA f l];rfl
  .rw[if_neg h,if_neg h];rfl
theorem AR (f:Int->Bool):∀l:Λ,l.takeWhile f=l.take (runN f l)
 |[]=>rfl
 |x::l=>by
  rw[List.takeWhile_cons,vz];by_cases h:f x=true
  .rw[if_pos h,if_pos h,List.take_succ_cons,AR f l]
  .rw[if_neg h,if_neg h];rfl
theorem AS {f:Int->Bool}:∀ {l:Λ} {b:Int} {q:Λ},l.dropWhile f=b::q->f b=false
 |x::l,b,q,h=>by
  rw[List.dropWhile_cons] at h;by_cases a:f x=true
  .rw[if_pos a] at h;exact AS h
  .rw[if_neg a] at h;have:=(List.cons.inj h).1;subst this;cases e:f x
   .rfl
   .exact absurd e a
theorem vB {p:Λ} {b:Int} {q:Λ} (h:p.drop a=b::q):p[a]? =σ b:=by
 have:=List.getElem?_drop (xs:=p) (i:=a) (j:=0);rw[h] at this;simpa using this.symm
theorem J5 (p:Λ) (at_:Nat):match oJ p at_ with
  | .word a b=>lex (p.drop at_)=(((p.take b).drop a)::(lex (p.drop b)).1,(lex (p.drop b)).2)
  | .none=>lex (p.drop at_)=([],true)
  | .text _=>lex (p.drop at_)=([],false):=by
 have j:(p.drop at_).dropWhile cz=p.drop (gl p at_):=by rw[vA,List.drop_drop];rfl
 have s:(p.drop (gl p at_)).dropWhile bN=p.drop (iM p (gl p at_)):=by rw[vA,List.drop_drop];rfl
 have y:(p.drop (gl p at_)).takeWhile bN=(p.take (iM p (gl p at_))).drop (gl p at_):=by
  rw[AR,List.drop_take];congr 1;unfold iM;omega
 have h:runN bN (p.drop (gl p at_))=iM p (gl p at_)-gl p at_:=by unfold iM;omega
 have K:gl p at_<=iM p (gl p at_):=by unfold iM;omega
 unfold oJ;generalize gl p at_=a at*;generalize iM p a=b at*;by_cases h1:b<p.length/\(∀c,p[b]? =σ c->cz c=false)
 .rw[if_pos h1];simp only;rw[kk,j];cases e:p.drop a with
  |nil=>
   have:=List.drop_eq_nil_iff.1 e;omega
  |cons x q=>
   simp only;rw[e] at s y h;by_cases f:bN x=true
   .rw[if_pos f,s];cases w:p.drop b with
    |nil=>have:=List.drop_eq_nil_iff.1 w;omega
    |cons c r=>
     simp only;rw[h1.2 c (vB w)];rfl
   .rw[if_neg f]
 .rw[if_neg h1];by_cases z:a=b
  .rw[if_pos z];simp only;subst z;rw[kk,j];cases e:p.drop a with
   |nil=>rfl
   |cons x q=>
    exfalso;have A:=vB e;have F:=(x4.1 A).1;rw[e] at h;rw[e] at j;have G:=AS j;refine h1 ⟨F,λc B=>?_⟩;rw[A] at B;cases B;exact G
  .rw[if_neg z];simp only;rw[kk (p.drop at_),j];cases e:p.drop a with
   |nil=>
    rw[e] at h;have:runN bN []=0:=rfl;omega
   |cons x q=>
    simp only;rw[e] at s y h;have f:bN x=true:=by
     rw[vz] at h;by_cases f:bN x=true
     .exact f
     .rw[if_neg f] at h;omega
    rw[if_pos f,s,y];cases w:p.drop b with
    |nil=>simp only;rw[kk []];rfl
    |cons c r=>
     simp only;have C:=vB w;have H:=(x4.1 C).1;have J:cz c=true:=by
      cases I:cz c with
      |true=>rfl
      |false=>exact absurd ⟨H,λd E=>by rw[C] at E;cases E;exact I⟩ h1
     rw[if_pos J]
def hs (w:x3) (g:Nat) (R:Nat->Prop) (toks:List (Λ)) (clean:Bool):Prop:=∃a p at_,lS w g a p at_ (-1)/\(∀r,leads a r->R r)/\lex (p.drop at_)=(toks,clean)
theorem hs.V {g:Nat} {R:Nat->Prop} {toks:List (Λ)} (h:hs w g R toks clean) (e:ae S w w') (j:¬S g) (q:∀r,R r->¬S r):hs w' g R toks clean:=by
 obtain⟨s,p,a,⟨h1,x,y,z,bl,A⟩,f,B⟩:=h;exact⟨s,p,a,⟨h1,x,y,z.V e j,bl,bn A e λr C=>q r (f r C)⟩,f,B⟩
theorem hs.words {g:Nat} {R:Nat->Prop} {toks:List (Λ)} (h:hs w g R toks clean):toks.length<=100000/\ ∀t∈toks,Bytes t/\t≠[]/\t.length<=100000:=by
 obtain⟨s,p,a,⟨x,y,z,_⟩,_,f⟩:=h;have A:(p.drop a).length<=100000:=by rw[List.length_drop];omega
 have e:=pV _ (p.drop a) (o4 _);rw[f] at e;refine⟨by show toks.length<=_;have e:toks.length<=_:=e;omega,λt q=>?_⟩;have j:=sd _ (p.drop a) (o4 _) t (by rw[f];exact q);refine⟨λb r=>?_,j.1,Ω⟩;have:=of_decide_eq_true (j.2.1 b r);omega
def J6 (w:x3) (g:Nat) (R:Nat->Prop) (toks:List (Λ)) (clean:Bool) (v:x1) (w':x3):Prop:=ae (λr=>r=g) w w'/\match toks with
 |t::l=>hs w' g R l clean/\ ∃n:Int,v= .tuple #[bU t,Δ n,Δ 0]
 |[]=>∃n:Int,v= .tuple #[bU [],Δ n,Δ (if clean then 2 else 11)]
theorem qd {g:Nat} {R:Nat->Prop} {toks:List (Λ)} (h:hs w g R toks clean):ai x7 uT [Γ g] w (J6 w g R toks clean):=by
 obtain⟨z,p,a,h1,A,q⟩:=h;refine (JE h1).mono ?_;intro v w' _ hw;have e:=J5 p a;unfold p3 at hw;cases r:oJ p a with
 |word x y=>
  rw[r] at hw e;simp only at hw e;rw[q] at e;obtain⟨rfl,s,I⟩:=hw;obtain⟨f,j⟩:=Prod.mk.inj e;subst f j;exact⟨s,⟨z,p,y,I,A,rfl⟩,_,rfl⟩
 |none=>
  rw[r] at hw e;simp only at hw e;rw[q] at e;obtain⟨f,j⟩:=Prod.mk.inj e;subst f j;obtain⟨n,rfl,B⟩:=hw;exact⟨B.V _,_,rfl⟩
 |text b=>
  rw[r] at hw e;simp only at hw e;rw[q] at e;obtain⟨f,j⟩:=Prod.mk.inj e;subst f j;obtain⟨rfl,s,_⟩:=hw;exact⟨s,_,rfl⟩
def km (w:Λ):x1:=match gj w with
 |some n=>.tuple #[Δ n,Δ 0]
 |none=>.tuple #[Δ 0,Δ 4]
theorem AT {i:Nat} {b:Int} (hi:l[i]? =σ b):(l.take (i+1)).all gi=((l.take i).all gi&&gi b):=by
 rw[u9,hi,List.all_append];simp
theorem AU {i:Nat} {b:Int} (hi:l[i]? =σ b):(l.take (i+1)).foldl eZ 0=eZ ((l.take i).foldl eZ 0) b:=by
 rw[u9,hi,List.foldl_append];rfl
theorem AV (a:l≠[]) (h:l.all gi=true):kl l=σ (l.foldl eZ 0):=by
 unfold kl;cases l with
 |nil=>exact absurd rfl a
 |cons x l=>simp only[h,if_true]
theorem AW {i:Nat} {b:Int} (hi:l[i]? =σ b) (a:gi b=false):kl l=ν:=by
 unfold kl;cases l with
 |nil=>simp at hi
 |cons x l=>
  simp only;rw[if_neg];intro h;have:=List.all_eq_true.1 h b (x5 hi);rw[a] at this;cases this
def oQ (w l:Λ) (s:Int):Prop:=(s=1\/s= -1)/\gj w=(kl l).map λn=>s*n
theorem AX:oQ (45::l) l (-1):=⟨.inr rfl,by simp only[gj];congr 1;funext n;omega⟩
theorem AY {w:Λ} (h:∀b,w[0]? =σ b->b≠45):oQ w w 1:=⟨.inl rfl,by
 have e:gj w=kl w:=by
  unfold gj;cases w with
  |nil=>rfl
  |cons x l=>
   have:=h x rfl;split
   .rename_i l' he;exact absurd (List.cons.inj he).1 this
   .rfl
 rw[e];cases kl w with
 |none=>rfl
 |some n=>simp⟩
theorem sq {w:Λ} {s:Int} (h:oQ w l s) (a:kl l=ν):km w= .tuple #[Δ 0,Δ 4]:=by
 unfold km;rw[h.2,a];rfl
theorem AZ {w:Λ} {s n:Int} (h:oQ w l s) (a:kl l=σ n):km w= .tuple #[Δ (s*n),Δ 0]:=by
 unfold km;rw[h.2,a];rfl
theorem J7 (B:Bytes l) (L:l.length<=100000):ai x7 Hv [bU l] w λv w'=>v=km l/\Ext w w':=by
 refine aw func139 ?_;rw[Jn];refine iB (λS V J=>Ext w J/\ ∃ (m:Λ) (s:Int),S=bU m/\V=Δ s/\Bytes m/\m.length<=100000/\oQ l m s) ?_ ?_
 .rintro _ _ J ⟨H,m,s,rfl,rfl,I,af,C⟩;rw[Aa I (λb a=>by cases a),aj];refine⟨λe=>⟨by rw[sq C (by rw[e];rfl)],H⟩,λe=>?_⟩;refine vn c3.u cP.u cI.u I Ω λbv U M N _=>?_;rw[aX cP.u N];refine rv.range m.length (λi _ _ c E=>Ext U E/\c=Δ ((m.take i).foldl eZ 0)/\(m.take i).all gi=true) Ω ⟨Ext.refl _,rfl,rfl⟩ ?_ ?_
  .rintro i W t3 _ E X hi ⟨f,rfl,j⟩ Y;obtain⟨b,q⟩:=aI (l:=m) hi;have ag:=I b (x5 q);refine bH Ω ?_;refine Jo (λ_ _ c G=>Ext U G/\c=Δ ((m.take (i+1)).foldl eZ 0)/\(m.take (i+1)).all gi=true) ?_ ?_
   .rintro ah ak c G Z;rw[aP];exact Y _ _ _ _ Z
   intro av p;rw[bd cP.u cI.i Ψ (N.ext f) q];refine aU (λv G=>E=G/\v= .bool (!gi b)) ?_ ?_
   rotate_left
   .intro aa z;rw[aR,aj];refine⟨λh=>z _ _ ⟨rfl,by unfold gi;rw[decide_eq_false Ω];rfl⟩,λh=>?_⟩;rw[bT];refine z _ _ ⟨rfl,?_⟩;unfold gi;congr 1;by_cases O:57<b
    .rw[decide_eq_true O,decide_eq_false Ω];rfl
    .rw[decide_eq_false O,decide_eq_true Ω];rfl
   rintro _ _ ⟨rfl,rfl⟩;cases K:gi b with
   |false=>
    rw[W5,bS];exact⟨by rw[sq C (AW q K)],(H.trans M).trans f⟩
   |true=>
    rw[Y4,aY];have am:=of_decide_eq_true K;have A:=se (l:=m.take i) (n:=0) j ⟨Int.le_refl _,Φ⟩;rw[AU q,AT q,j,K] at p;generalize (m.take i).foldl eZ 0=n at*;have A:0<=n/\n<=4611686018427387904:=A;rw[dZ,wrap_u8 Ω Ω,fj cI.u al.u,wrap_i64 (x:=b-48) Ω Ω,dZ,wrap_i64 Ω Ω,rZ Φ,Int.tdiv_eq_ediv_of_nonneg Ω];rw[wrap_i64 Ω Ω,bT,aj];refine⟨λab=>p _ _ _ _ ⟨f,?_,rfl⟩,λab=>?_⟩
    .congr 1;unfold eZ aq;omega
    .rw[hP,wrap_i64 Ω Ω,aP,wrap_i64 Ω Ω];refine p _ _ _ _ ⟨f,?_,rfl⟩;congr 1;unfold eZ aq;omega
  .rintro W t3 _ E X ⟨f,rfl,j⟩;rw[o5] at j ⊢;refine cd Ω ?_;have A:=se (l:=m) (n:=0) j ⟨Int.le_refl _,Φ⟩;have A:0<=m.foldl eZ 0/\m.foldl eZ 0<=4611686018427387904:=A;rw[hP];have hw:X2.wrap (s*m.foldl eZ 0)=s*m.foldl eZ 0:=by
    rcases C.1 with rfl|rfl<;>exact wrap_i64 Ω Ω
   rw[hw];exact⟨by rw[AZ C (AV e j)],(H.trans M).trans f⟩
 .intro av p;refine aU (λv U=>w=U/\ ∃c:Bool,v= .bool c/\(c=true↔l[0]? =σ 45)) ?_ ?_
  .rintro _ _ ⟨rfl,c,rfl,P⟩;rw[bY];refine⟨λac=>?_,λQ=>?_⟩
   .intro an ad _ _;have R:=P.1 ac;cases l with
    |nil=>simp at R
    |cons x r=>
     have ae:x=45:=by simpa using R
     subst ae;rw[Ab (y:=1) (i:=1) rfl c3.u Ξ];exact p _ _ _ ⟨ad,r,-1,rfl,rfl,λb a=>B b (.tail _ a),by simp at L;omega,AX⟩
   .refine p _ _ _ ⟨Ext.refl _,l,1,rfl,rfl,B,L,AY λb a he=>?_⟩;subst he;rw[P.2 a] at Q;cases Q
  .intro aa z;rw[Js B (λb a=>by cases a),aj];refine⟨λe=>?_,λe=>z _ _ ⟨rfl,false,rfl,⟨λh=>(by cases h),λh=>by rw[Y3.1 e] at h;simp at h⟩⟩⟩;cases l with
   |nil=>exact absurd rfl e
   |cons x r=>
    rw[p0 (y:=0) (i:=0) (b:=x) rfl c3.u B rfl,bh];exact z _ _ ⟨rfl,_,rfl,Ξ⟩
theorem sr {s s':aD} {w:Λ} (h:dS s=σ (w,s')):s.toks=w::s'.toks/\s'={s with toks:=s'.toks}:=by
 unfold dS at h;cases a:s.toks with
 |nil=>rw[a] at h;cases h
 |cons x l=>
  rw[a] at h;simp only[X0,T9] at h;obtain⟨rfl,rfl⟩:=h;exact⟨rfl,rfl⟩
theorem hT {n:Int} {s s':aD} (h:bf lo hi s=σ (n,s')):(lo<=n/\n<=hi)/\(∃w,s.toks=w::s'.toks/\gj w=σ n)/\s'={s with toks:=s'.toks}:=by
 unfold bf at h;cases hw:dS s with
 |none=>rw[hw] at h;cases h
 |some q=>
  obtain⟨w,j⟩:=q;rw[hw] at h;simp only at h;obtain⟨h1,e⟩:=sr hw;cases a:gj w with
  |none=>rw[a] at h;cases h
  |some m=>
   rw[a] at h;simp only at h;split at h
   .rename_i f;simp only[X0,T9] at h;obtain⟨rfl,rfl⟩:=h;exact⟨f,⟨w,h1,a⟩,e⟩
   .cases h
def ig (k:Nat) (s s':aD):Prop:=s.toks.length=s'.toks.length+k/\s'={s with toks:=s'.toks}
theorem ig.refl (s:aD):ig 0 s s:=⟨rfl,rfl⟩
theorem ig.trans {b:Nat} {r s t:aD} (h:ig a r s) (k:ig b s t):ig (a+b) r t:=⟨by have:=h.1;have:=k.1;omega,by rw[k.2,h.2]⟩
theorem dH {n:Int} {s s':aD} (h:bf lo hi s=σ (n,s')):ig 1 s s':=by
 obtain⟨_,⟨w,h1,_⟩,a⟩:=hT h;exact⟨by rw[h1];simp,a⟩
theorem ig.eqs {k:Nat} {s s':aD} (h:ig k s s'):s'.told=s.told/\s'.big=s.big/\s'.shared=s.shared:=by rw[h.2];exact⟨rfl,rfl,rfl⟩
theorem ko {α:Type} {f:List α->aD->Option (α×aD)} (e:List α->aD->Prop) (r:∀acc s a s',e acc s->f acc s=σ (a,s')->e (acc++[a]) s'):
  ∀ (n:Nat) (acc:List α) (s:aD) (l:List α) (s':aD),e acc s->cQ f n acc s=σ (l,s')->e l s'/\l.length=acc.length+n
 |0,acc,s,l,s',j,h=>by
  simp only[cQ,X0,T9] at h;obtain⟨rfl,rfl⟩:=h;exact⟨j,Ω⟩
 |n+1,acc,s,l,s',j,h=>by
  simp only[cQ] at h;cases p:f acc s with
  |none=>rw[p] at h;cases h
  |some q=>
   obtain⟨a,w⟩:=q;rw[p] at h;have:=ko e r n _ _ _ _ (r _ _ _ _ j p) h;exact⟨this.1,by rw[this.2];simp;omega⟩
theorem vC {n:Int} {k:Nat} {s s':aD} (h:e0 n k s=σ (l,s')):ig l.length s s'/\l.length=k/\l.Nodup/\ ∀v∈l,0<=v/\v<n:=by
 have:=ko (λacc t=>ig acc.length s t/\acc.Nodup/\ ∀v∈acc,0<=v/\v<n) (λacc t a br ⟨h1,p,r⟩ h=>by
  cases f:bf 0 (n-1) t with
  |none=>rw[f] at h;cases h
  |some q=>
   obtain⟨v,A⟩:=q;rw[f] at h;simp only at h;split at h
   .cases h
   .rename_i w;simp only[X0,T9] at h;obtain⟨rfl,rfl⟩:=h;have B:=(hT f).1;refine⟨by rw[p8];exact h1.trans (dH f),List.nodup_append.2 ⟨p,Ξ,λx e y j he=>?_⟩,λx e=>?_⟩
    .rw[l9] at j;subst j;subst he;exact w e
    .rcases l7.1 e with e|e
     .exact r x e
     .rw[l9.1 e];omega) k [] s l s' ⟨ig.refl s,List.nodup_nil,λv z=>by cases z⟩ h
 exact⟨this.1.1,by simpa using this.2,this.1.2.1,this.1.2.2⟩
theorem vD:∀ {ks acc:Λ} {s s':aD} {t:Λ},iI ks acc s=σ (t,s')-> ∃u,t=acc++u/\dq ks u/\ig u.length s s'
 |[],acc,s,s',t,h=>by
  simp only[iI,X0,T9] at h;obtain⟨rfl,rfl⟩:=h;exact⟨[],Ξ,AH.2 rfl,ig.refl s⟩
 |k::ks,acc,s,s',t,h=>by
  simp only[iI] at h;cases a:bf 0 (k-1) s with
  |none=>rw[a] at h;cases h
  |some q=>
   obtain⟨v,f⟩:=q;rw[a] at h;obtain⟨u,rfl,hu,e⟩:=vD h;have j:=(hT a).1;exact⟨v::u,Ξ,AG.2 ⟨Ω,hu⟩,by rw[Z0,Nat.add_comm];exact (dH a).trans e⟩
def mC (sizes:Λ) (l:List (Λ×Int)):Prop:=(l.map (·.1)).Nodup/\ ∀p∈l,dq sizes p.1/\0<=p.2
theorem oR {acc:List (Λ×Int)} {s s':aD} {a:Λ×Int} (h:dT sizes acc s=σ (a,s')):a.1∉acc.map (·.1)/\dq sizes a.1/\0<=a.2/\ig (a.1.length+1) s s':=by
 unfold dT at h;cases f:iI sizes [] s with
 |none=>rw[f] at h;cases h
 |some q=>
  obtain⟨t,j⟩:=q;rw[f] at h;simp only at h;obtain⟨u,hu,p,r⟩:=vD f;rw[List.nil_append] at hu;subst hu;cases e:bf 0 aq j with
  |none=>rw[e] at h;cases h
  |some q=>
   obtain⟨c,x⟩:=q;rw[e] at h;simp only at h;split at h
   .cases h
   .rename_i w;simp only[X0,T9] at h;obtain⟨rfl,rfl⟩:=h;exact⟨w,p,(hT e).1.1,r.trans (dH e)⟩
structure A0 (s s':aD):Prop where
 toks:s'.toks.length<s.toks.length
 big:s.big=true->s'.big=true
theorem J8 {s s':aD} {l:List (Λ×Int)} (C:∀q∈s.shared,mC q.1 q.2/\q.2.length<=N) (P:s.toks.length<=N) (h:dU sizes s=σ (l,s')):
  mC sizes l/\l.length<=N/\s'.shared=s.shared/\A0 s s':=by
 unfold dU at h;cases r:bf (-aq) aq s with
 |none=>rw[r] at h;cases h
 |some q=>
  obtain⟨n,f⟩:=q;rw[r] at h;simp only at h;have h1:=dH r;obtain⟨Q,E,w⟩:=h1.eqs;split at h
  .cases I:f.shared[(-n-1).toNat]? with
   |none=>rw[I] at h;cases h
   |some q=>
    obtain⟨z,l'⟩:=q;rw[I] at h;simp only at h;split at h
    .rename_i H;simp only[X0,T9] at h;obtain⟨rfl,rfl⟩:=h;subst H;have hm:=x5 I;rw[w] at hm;exact⟨(C _ hm).1,(C _ hm).2,w,by have:=h1.1;omega,λj=>by rw[E];exact j⟩
    .cases h
  .have:=ko (λacc t=>mC sizes acc/\t.shared=s.shared/\t.toks.length+acc.length<=f.toks.length/\(s.big=true->t.big=true)) (λacc t a br ⟨g1,A,J,B⟩ g=>by
    obtain⟨K,L,M,F⟩:=oR g;obtain⟨f1,f2,f3⟩:=F.eqs;refine⟨⟨?_,λp e=>?_⟩,by rw[f3,A],by have:=F.1;simp only[p8,U6];omega,λj=>by rw[f2];exact B j⟩
    .rw[j6];exact List.nodup_append.2 ⟨g1.1,Ξ,λx O y G he=>by
      simp only[V4,List.map_nil,l9] at G;subst G;subst he;exact K O⟩
    .rcases l7.1 e with e|e
     .exact g1.2 p e
     .rw[l9.1 e];exact⟨L,M⟩) n.toNat [] (bb (decide (16384<min (f.told+n) aq)) {f with told:=min (f.told+n) aq}) l s' ⟨⟨Ξ,λp e=>by cases e⟩,w,by simp[bb],λj=>by simp[bb,E,j]⟩ h
   obtain⟨⟨g1,A,J,B⟩,_⟩:=this;have:=h1.1;exact⟨g1,Ω,A,⟨Ω,B⟩⟩
structure ss (all:Λ) (N:Nat) (f:cv):Prop where
 scope:f.scope.Nodup/\ ∀v∈f.scope,0<=v/\v<all.length
 sizes:f.sizes=f.scope.map λv=>all.getD v.toNat 0
 other:0<=f.other
 lines:mC f.sizes f.lines
 len:f.lines.length<=N
theorem J9 {all:Λ} {s s':aD} {f:cv} (B:∀q∈s.shared,mC q.1 q.2/\q.2.length<=N) (V:s.toks.length<=N) (h:dc all s=σ (f,s')):
  ss all N f/\(∀q∈s'.shared,mC q.1 q.2/\q.2.length<=N)/\A0 s s'/\(s'.big=false->f.scope.length<=6/\dv f.sizes=false):=by
 unfold dc at h;cases C:bf (-aq) aq s with
 |none=>rw[C] at h;cases h
 |some q=>
 obtain⟨a,M⟩:=q;rw[C] at h;simp only at h;have t0:=dH C;obtain⟨W,O,P⟩:=t0.eqs;cases h1:e0 all.length a.natAbs M with
 |none=>rw[h1] at h;cases h
 |some q=>
 obtain⟨sc,w⟩:=q;rw[h1] at h;simp only at h;obtain⟨F,X,Q,R⟩:=vC h1;obtain⟨Y,S,T⟩:=F.eqs;generalize U:sc.map (λv=>all.getD v.toNat 0)=sizes at h;cases y:bf 0 aq (bb (decide (6<a.natAbs)||dv sizes) w) with
 |none=>rw[y] at h;cases h
 |some q=>
 obtain⟨other,p⟩:=q;rw[y] at h;simp only at h;have G:=dH y;obtain⟨Z,z,x⟩:=G.eqs;have x:p.shared=s.shared:=by rw[x];show w.shared=_;rw[T,P]
 have aa:p.toks.length<s.toks.length:=by
  have:=t0.1;have:=F.1;have A:=G.1;have:(bb (decide (6<a.natAbs)||dv sizes) w).toks.length=w.toks.length:=rfl;omega
 cases A:dU sizes p with
 |none=>rw[A] at h;cases h
 |some q=>
 obtain⟨lines,j⟩:=q;rw[A] at h;simp only[X0,T9] at h;obtain⟨rfl,rfl⟩:=h;obtain⟨g1,H,I,J⟩:=J8 (N:=N) (by rw[x];exact B) Ω A;have c4:=J.big;have gt:=J.toks;have K:p.big=true-> ∀E:aD,E=(if a<0 then {j with shared:=j.shared++[(sizes,lines)]} else j)->E.big=true:=λr E he=>by
  rw[he];split<;>exact c4 r
 have z:p.big=(s.big||(decide (6<a.natAbs)||dv sizes)):=by
  rw[z];show (w.big||_)=_;rw[S,O]
 refine⟨⟨⟨Q,R⟩,U.symm,(hT y).1.1,g1,H⟩,λq e=>?_,⟨?_,λr=>K (by rw[z,r];rfl) _ rfl⟩,λr=>?_⟩
 .split at e
  .rcases l7.1 e with e|e
   .rw[show j.shared=s.shared by rw[I,x]] at e;exact B q e
   .rw[l9.1 e];exact⟨g1,H⟩
  .rw[show j.shared=s.shared by rw[I,x]] at e;exact B q e
 .have:(if a<0 then {j with shared:=j.shared++[(sizes,lines)]} else j).toks=j.toks:=by split<;>rfl
  rw[this];omega
 .have L:p.big=false:=by
   cases e:p.big with
   |false=>rfl
   |true=>rw[K e _ rfl] at r;cases r
  rw[z,S2,S2,decide_eq_false_iff_not] at L;show sc.length<=6/\_;exact⟨Ω,L.2.2⟩
structure e7 (N:Nat) (f:b6):Prop where
 name:f.name.length<=64
 k:1<=f.k/\f.k<=2147483648
 sizes:1<=f.sizes.length/\f.sizes.length<=64/\ ∀z∈f.sizes,1<=z/\z<=32
 k0:f.funs.length<=256
 funs:∀x∈f.funs,ss f.sizes N x/\x.scope.length<=6/\dv x.sizes=false
theorem qe {b:Bool} {s:aD} (h:(bb b s).big=false):s.big=false/\b=false:=by
 have h:(s.big||b)=false:=h;exact S2.1 h
theorem Ka {a b:aD} (h:a.big=true->b.big=true) (e:b.big=false):a.big=false:=by
 cases f:a.big with
 |false=>rfl
 |true=>rw[h f] at e;cases e
theorem A1 {s s':aD} {f:b6} (I:s.shared=[]) (h:hR s=σ (f,s')) (e:s'.big=false):e7 s.toks.length f/\f.name∈s.toks:=by
 unfold hR at h;cases M:dS s with
 |none=>rw[M] at h;cases h
 |some q=>
 obtain⟨name,s0⟩:=q;rw[M] at h;simp only at h;obtain⟨J,U⟩:=sr M;cases h1:bf 1 aq (bb (decide (64<name.length)) s0) with
 |none=>rw[h1] at h;cases h
 |some q=>
 obtain⟨n,E⟩:=q;rw[h1] at h;simp only at h;have r:=dH h1;cases N:bf 1 aq (bb (decide (64<n)) E) with
 |none=>rw[N] at h;cases h
 |some q=>
 obtain⟨most,aa⟩:=q;rw[N] at h;simp only at h;have O:=dH N;cases P:bf 0 aq aa with
 |none=>rw[P] at h;cases h
 |some q=>
 obtain⟨F,G⟩:=q;rw[P] at h;simp only at h;have t3:=dH P;cases H:bf 1 aq (bb (decide (256<F)) G) with
 |none=>rw[H] at h;cases h
 |some q=>
 obtain⟨k,A⟩:=q;rw[H] at h;simp only at h;have t4:=dH H;cases Q:cQ (fO most) n.toNat [] (bb (decide (2147483648<k)) A) with
 |none=>rw[Q] at h;cases h
 |some q=>
 obtain⟨sizes,K⟩:=q;rw[Q] at h;simp only at h;cases R:cQ (λ_ s=>dc sizes s) F.toNat [] K with
 |none=>rw[R] at h;cases h
 |some q=>
 obtain⟨funs,ab⟩:=q;rw[R] at h;simp only[X0,T9] at h;obtain⟨rfl,rfl⟩:=h;have ac:=ko (λ(acc:Λ) t=>t.shared=[]/\t.toks.length<=s.toks.length/\(t.big=false->A.big=false/\k<=2147483648/\ ∀z∈acc,1<=z/\z<=32)) (λacc t a br ⟨g1,W,S⟩ g=>by
  unfold fO at g;cases w:bf 1 most t with
  |none=>rw[w] at g;cases g
  |some q=>
   obtain⟨z,r⟩:=q;rw[w] at g;simp only[X0,T9] at g;obtain⟨rfl,rfl⟩:=g;have X:=dH w;obtain⟨aB,ad,ae⟩:=X.eqs;have aC:=(hT w).1;refine⟨by show r.shared=[];rw[ae,g1],by show r.toks.length<=_;have:=X.1;omega,λe=>?_⟩;obtain⟨j,B⟩:=qe e;rw[ad] at j;obtain⟨T,V,af⟩:=S j;refine⟨T,V,λy C=>?_⟩;rcases l7.1 C with C|C
   .exact af y C
   .rw[l9.1 C];have:=of_decide_eq_false B;omega) n.toNat [] (bb (decide (2147483648<k)) A) sizes K ⟨by
     show A.shared=[];rw[t4.eqs.2.2];show G.shared=[];rw[t3.eqs.2.2,O.eqs.2.2];show E.shared=[];rw[r.eqs.2.2];show s0.shared=[];rw[U];exact I,by
     show A.toks.length<=_;have ag:=r.1;have ah:=O.1;have a3:=t3.1;have a4:=t4.1;have j:(bb (decide (64<name.length)) s0).toks=s0.toks:=rfl;have B:(bb (decide (64<n)) E).toks=E.toks:=rfl;have L:(bb (decide (256<F)) G).toks=G.toks:=rfl;rw[j] at ag;rw[B] at ah;rw[L] at a4;rw[J,Z0];omega,λe=>by
     obtain⟨j,B⟩:=qe e;have:=of_decide_eq_false B;exact⟨j,Ω,λz ai=>by cases ai⟩⟩ Q
 obtain⟨⟨aj,ak,al⟩,am⟩:=ac;have an:=ko (λ(acc:List cv) t=>(∀q∈t.shared,mC q.1 q.2/\q.2.length<=s.toks.length)/\t.toks.length<=s.toks.length/\(t.big=false->K.big=false/\ ∀x∈acc,ss sizes s.toks.length x/\x.scope.length<=6/\dv x.sizes=false)) (λacc t a br ⟨g1,W,S⟩ g=>by
  obtain⟨ao,ap,Y,au⟩:=J9 g1 W g;refine⟨ap,by have:=Y.toks;omega,λe=>?_⟩;obtain⟨T,V⟩:=S (Ka Y.big e);refine⟨T,λx p=>?_⟩;rcases l7.1 p with p|p
  .exact V x p
  .rw[l9.1 p];exact⟨ao,au e⟩) F.toNat [] K funs ab ⟨(by rw[aj];intro q w;cases w),ak,λe=>⟨e,λx p=>by cases p⟩⟩ R
 obtain⟨⟨_,_,d3⟩,d4⟩:=an;obtain⟨av,d5⟩:=d3 e;obtain⟨L,aw,ax⟩:=al av;rw[t4.eqs.2.1] at L;obtain⟨Z,ay⟩:=qe L;rw[t3.eqs.2.1,O.eqs.2.1] at Z;obtain⟨j,az⟩:=qe Z;rw[r.eqs.2.1] at j;obtain⟨_,aA⟩:=qe j;have:=of_decide_eq_false ay;have:=of_decide_eq_false az;have:=of_decide_eq_false aA;have aE:=(hT h1).1;have hk:=(hT H).1;simp only[List.length_nil,X5] at am d4;exact⟨⟨by show name.length<=64;omega,⟨hk.1,aw⟩,⟨by show 1<=sizes.length;omega,by show sizes.length<=64;omega,ax⟩,by show funs.length<=256;omega,d5⟩,by rw[J];exact .head _⟩
def jJ (x:cv) (k:Int) (t:Λ):Int:=min (match x.lines.find? (λp=>decide (p.1=t)) with
 |some p=>p.2
 |none=>x.other) k
def bk (l:Λ):Λ:=((V1 64).map λ(v:Nat)=>(v:Int)).filter λv=>decide (v∈l)
def bR (sizes scope:Λ):Λ:=scope.map λv=>sizes.getD v.toNat 0
def oS (scope a t:Λ):Λ:=scope.map λv=>t.getD (a.idxOf v) 0
abbrev cA:Type:=Λ×Λ
def hU (sizes:Λ) (k:Int) (x:cv):cA:=(bk x.scope,(ba (bR sizes (bk x.scope))).map λt=>jJ x k (oS x.scope (bk x.scope) t))
def ea (k:Int) (a b:Λ):Λ:=List.zipWith (λx y=>min (x+y) k) a b
def ih (k:Int) (acc:List cA) (g:cA):List cA:=if g.1∈acc.map (·.1) then acc.map λh=>if h.1=g.1 then (h.1,ea k h.2 g.2) else h else acc++[g]
def jo:Λ->Int
 |[]=>0
 |x::l=>x*64 ^ l.length+jo l
def dd (l:Λ):Int:=l.length*64 ^ 6+jo l
def ht (g:cA):List cA->List cA
 |[]=>[g]
 |h::l=>if dd h.1<dd g.1 then h::ht g l else g::h::l
def fB (g:cA):Bool:=g.2.any λc=>decide (0<c)
def fl (f:b6):List cA:=(f.funs.map (hU f.sizes f.k)).foldl (ih f.k) []
def fC (f:b6):List cA:=((fl f).filter fB).foldl (λl g=>ht g l) []
structure aT where
 k:Int
 sizes:Λ
 zero:Int
 unary:List (Λ)
 funs:List cA
deriving DecidableEq
def dt (f:b6):aT:=(fC f).foldl (λn g=>match g.1 with
 |[]=>{n with zero:=g.2.getD 0 0}
 |[v]=>{n with unary:=n.unary.set v.toNat g.2}
 |_=>{n with funs:=n.funs++[g]}) ⟨f.k,f.sizes,0,f.sizes.map λz=>p9 z.toNat 0,[]⟩
abbrev iO:Type:=Rd (Λ)×Rd (List (Λ×Int))
def bE (g gs:Nat) (A:ag):ag:=λr=>r=g\/r=gs\/A r
def fD (gs:Nat) (e big a f told:Int) (sv:x1):List x1:=[Γ gs,Δ e,Δ big,Δ a,Δ f,Δ told,sv]
def cG (g gs:Nat) (A:ag) (B:ag):ag:=λr=>¬bE g gs A r/\B r
def k1 (w:x3) (g gs:Nat) (A:ag) (B:ag):Prop:=g≠gs/\¬A g/\¬A gs/\(∀r,bE g gs A r->r<w.heap.size)/\ ∀r,B r->r<w.heap.size
def dl (w:x3) (g gs:Nat) (A:ag) (B:ag) (s:aD) (clean:Bool):Prop:=k1 w g gs A B/\hs w gs (cG g gs A B) s.toks clean/\(0<=s.told/\s.told<=aq/\s.shared.length+s.toks.length<=100000)/\
 ∃big a e told sv,ab w g cg (fD gs 0 big a e told sv)/\((s.big=true↔big≠0)/\(s.big=false->told=s.told))/\bj A (cG g gs A B) w [sv] (show List iO from s.shared)
def eC (w:x3) (g gs:Nat) (A:ag) (B:ag):Prop:=k1 w g gs A B/\ ∃ (e big a f told:Int) (sv:x1) (l:List iO),ab w g cg (fD gs e big a f told sv)/\(e≠0/\l.length<=100000)/\bj A (cG g gs A B) w [sv] l
theorem k1.V {g:Nat} {A:ag} {B:ag} (h:k1 w g gs A B) (e:ae S w w'):k1 w' g gs A B:=by
 obtain⟨h1,f,j,p,q⟩:=h;exact⟨h1,f,j,λr a=>R5 (p r a) e.size,λr a=>R5 (q r a) e.size⟩
theorem A2 {g:Nat} {A:ag} {B:ag} (a:∀r,A r->¬S r) (e:∀r,cG g gs A B r->¬S r):∀r,A r\/cG g gs A B r->¬S r:=λr h=>h.elim (a r) (e r)
theorem dl.V {g:Nat} {A:ag} {B:ag} {s:aD} (h:dl w g gs A B s clean) (a:ae S w w') (e:∀r,bE g gs A r->¬S r) (f:∀r,cG g gs A B r->¬S r):dl w' g gs A B s clean:=by
 obtain⟨h1,j,p,big,q,x,told,sv,y,z,C⟩:=h;exact⟨h1.V a,j.V a (e gs (.inr (.inl rfl))) f,p,big,q,x,told,sv,y.V a (e g (.inl rfl)),z,ak.V C a λr _ h=>A2 (λr E=>e r (.inr (.inr E))) f r h⟩
theorem eC.V {g:Nat} {A:ag} {B:ag} (h:eC w g gs A B) (a:ae S w w') (f:∀r,bE g gs A r->¬S r) (j:∀r,cG g gs A B r->¬S r):eC w' g gs A B:=by
 obtain⟨h1,e,big,p,q,told,sv,l,s,x,y⟩:=h;exact⟨h1.V a,e,big,p,q,told,sv,l,s.V a (f g (.inl rfl)),x,ak.V y a λr _ h=>A2 (λr z=>f r (.inr (.inr z))) j r h⟩
theorem dl.ext {g:Nat} {A:ag} {B:ag} {s:aD} (h:dl w g gs A B s clean) (a:Ext w w'):dl w' g gs A B s clean:=h.V (a.V λ_=>False) (λ_ _ h=>h) (λ_ _ h=>h)
theorem eC.ext {g:Nat} {A:ag} {B:ag} (h:eC w g gs A B) (a:Ext w w'):eC w' g gs A B:=h.V (a.V λ_=>False) (λ_ _ h=>h) (λ_ _ h=>h)
def fP (w:x3) (g gs:Nat) (A:ag) (B:ag) (clean:Bool) (s':Option aD) (w':x3):Prop:=ae (bE g gs A) w w'/\match s' with
 |some s'=>dl w' g gs A B s' clean
 |none=>eC w' g gs A B
theorem vE {g:Nat} {e big a f told:Int} (h:ab w g cg (fD gs e big a f told sv)):ai x7 kM [Γ g] w λv w'=>v= .bool (decide (e=0))/\Ext w w':=by
 refine aw func81 ?_;rw[bZ,aQ cg.p rfl,aQ eX.p rfl,aB Ψ (h.cell (o:=0+1+0) rfl),bh];exact⟨rfl,Ext.refl _⟩
theorem oT {g:Nat} {A:ag} {B:ag} {s:aD} (h:dl w g gs A B s clean):ai x7 kM [Γ g] w λv w'=>v= .bool true/\Ext w w':=by
 obtain⟨_,_,_,big,e,f,told,sv,a,_⟩:=h;exact (vE a).mono λ_ _ _ h=>h
theorem nJ {g:Nat} {A:ag} {B:ag} (h:eC w g gs A B):ai x7 kM [Γ g] w λv w'=>v= .bool false/\Ext w w':=by
 obtain⟨_,e,big,p,q,told,sv,l,a,f,_⟩:=h;refine (vE a).mono ?_;rintro _ J _ ⟨rfl,j⟩;exact⟨by rw[decide_eq_false f.1],j⟩
theorem su {g:Nat} {A B:ag} (h:A r\/cG g gs A B r) (a:¬A g):r≠g:=by
 rintro rfl;rcases h with h|h
 .exact a h
 .exact h.1 (.inl rfl)
theorem sw {g:Nat} {A:ag} {B:ag} {big s a told e:Int} {l:List iO} (I:k1 w g gs A B) (x:ab w g cg (fD gs 0 big s a told sv)) (y:bj A (cG g gs A B) w [sv] l) (he:e≠0) (z:l.length<=100000):
  ai x7 nj [Γ g,Δ e,Δ at_] w λ_ w'=>ae (λr=>r=g) w w'/\eC w' g gs A B:=by
 refine aw func84 ?_;rw[bZ,aQ cg.p rfl,aQ eX.p rfl,aB Ψ (x.cell (o:=0+1+0) rfl),bh,aj];refine⟨λ_=>?_,λh=>absurd rfl h⟩;rw[bZ,aQ cg.p rfl,aQ eX.p rfl];refine bo (g:=g) (o:=1) jA.i rfl rfl x (by simp[fD]) λJ C H f=>?_;have f:ab J g cg (fD gs e big s a told sv):=f;rw[bZ,aQ cg.p rfl,aQ eX.p rfl];refine bo (g:=g) (o:=3) ah.i rfl rfl f (by simp[fD]) λU E K j=>?_;have j:ab U g cg (fD gs e big at_ a told sv):=j;have q:=C.trans E;exact⟨q,I.V q,e,big,at_,a,told,sv,l,j,⟨he,z⟩,ak.V y q λr _ h G=>su h I.2.1 G⟩
theorem sx {g:Nat} {A:ag} {B:ag} {s:aD} {e:Int} (h:dl w g gs A B s clean) (he:e≠0):ai x7 nj [Γ g,Δ e,Δ at_] w λ_ w'=>ae (λr=>r=g) w w'/\eC w' g gs A B:=by
 obtain⟨I,_,a,big,p,q,told,sv,f,_,j⟩:=h;exact sw I f j he (by have:=a.2.2;show s.shared.length<=_;omega)
theorem Kb {g:Nat} {A:ag} {B:ag} {e:Int} (h:eC w g gs A B):ai x7 nj [Γ g,Δ e,Δ at_] w λ_ w'=>Ext w w':=by
 obtain⟨_,f,big,j,q,told,sv,l,h1,a,_⟩:=h;refine aw func84 ?_;rw[bZ,aQ cg.p rfl,aQ eX.p rfl,aB Ψ (h1.cell (o:=0+1+0) rfl),bh,aj];exact⟨λh=>absurd h a.1,λ_=>Ext.refl _⟩
theorem sy {g:Nat} {A:ag} {B:ag} {s:aD} {b:Bool} (h:dl w g gs A B s clean):ai x7 pM [Γ g,.bool b,Δ at_] w λ_ w'=>ae (λr=>r=g) w w'/\dl w' g gs A B (bb b s) clean:=by
 obtain⟨I,z,C,big,e,E,told,sv,f,G,H⟩:=id h;refine aw func79 ?_;refine aU (λv J=>w=J/\v= .bool (b&&decide (big=0))) ?_ ?_
 rotate_left
 .intro av q;cases b with
  |false=>rw[aY];exact q _ _ ⟨rfl,rfl⟩
  |true=>
   rw[bS,bZ,aQ cg.p rfl,aQ eX.p rfl,aB Ψ (f.cell (o:=0+1+1) rfl),bh,aj];refine⟨λa=>?_,λa=>q _ _ ⟨rfl,by rw[decide_eq_false a];rfl⟩⟩;rw[bZ,aQ cg.p rfl,aQ eX.p rfl,aB Ψ (f.cell (o:=0+1+0) rfl),bh];exact q _ _ ⟨rfl,by rw[decide_eq_true a];rfl⟩
 rintro _ _ ⟨rfl,rfl⟩;rw[bY];refine⟨λK=>?_,λL=>?_⟩
 .obtain⟨rfl,a⟩:=Bool.and_eq_true_iff.1 K;rw[bZ,aQ cg.p rfl,aQ eX.p rfl];refine bo (g:=g) (o:=2) jA.i rfl rfl f (by simp[fD]) λJ M Q x=>?_;have x:ab J g cg (fD gs 0 5 e E told sv):=x;rw[bZ,aQ cg.p rfl,aQ eX.p rfl];refine bo (g:=g) (o:=4) ah.i rfl rfl x (by simp[fD]) λU N R y=>?_;have y:ab U g cg (fD gs 0 5 e at_ told sv):=y;have j:=M.trans N;exact⟨j,I.V j,z.V j (λhe=>I.1 he.symm) (λr O he=>O.1 (.inl he)),C,5,e,at_,told,sv,y,⟨⟨λ_=>Ω,λ_=>by simp[bb]⟩,λh=>by simp[bb] at h⟩,ak.V H j λr _ h P=>su h I.2.1 P⟩
 .refine⟨ae.refl _ _,I,z,C,big,e,E,told,sv,f,⟨?_,λh=>G.2 (by
   have h:(s.big||b)=false:=h;exact (S2.1 h).1)⟩,H⟩
  show (s.big||b)=true↔big≠0;cases b with
  |false=>rw[Bool.or_false];exact G.1
  |true=>
   have a:big≠0:=of_decide_eq_false (by simpa using L);simp[a]
theorem A3 {g:Nat} {A:ag} {B:ag} {b:Bool} (h:eC w g gs A B):ai x7 pM [Γ g,.bool b,Δ at_] w λ_ w'=>Ext w w':=by
 obtain⟨_,j,big,q,r,told,sv,l,h1,e,_⟩:=h;refine aw func79 ?_;refine aU (λv J=>w=J/\v= .bool false) ?_ ?_
 .rintro _ _ ⟨rfl,rfl⟩;rw[aY];exact Ext.refl _
 intro av a;cases b with
 |false=>rw[aY];exact a _ _ ⟨rfl,rfl⟩
 |true=>
  rw[bS,bZ,aQ cg.p rfl,aQ eX.p rfl,aB Ψ (h1.cell (o:=0+1+1) rfl),bh,aj];refine⟨λf=>?_,λf=>a _ _ ⟨rfl,rfl⟩⟩;rw[bZ,aQ cg.p rfl,aQ eX.p rfl,aB Ψ (h1.cell (o:=0+1+0) rfl),bh];exact a _ _ ⟨rfl,by rw[decide_eq_false e.1]⟩
theorem dl.scan {g:Nat} {A:ag} {B:ag} {s:aD} {l:List (Λ)} (h:dl w g gs A B s clean) (a:ae (λr=>r=gs) w w') (I:hs w' gs (cG g gs A B) l clean) (z:l.length<=s.toks.length):dl w' g gs A B {s with toks:=l} clean:=by
 obtain⟨h1,_,e,big,j,p,told,sv,q,x,y⟩:=h;refine⟨h1.V a,I,⟨e.1,e.2.1,by have:=e.2.2;show s.shared.length+l.length<=100000;omega⟩,big,j,p,told,sv,q.V a h1.1,x,ak.V y a λr _ h f=>?_⟩;have f:r=gs:=f;subst f;rcases h with h|h
 .exact h1.2.2.1 h
 .exact h.1 (.inr (.inl rfl))
theorem A4 {g:Nat} {A:ag} {B:ag} {s:aD} (h:dl w g gs A B s clean):ai x7 y0 [Γ g] w λv w'=>fP w g gs A B clean ((dS s).map (·.2)) w'/\ ∃ (t:Λ) (n:Int),v= .tuple #[bU t,Δ n]/\Bytes t/\t.length<=100000/\ ∀q,dS s=σ q->t=q.1:=by
 refine aw func78 ?_;refine (oT h).mono ?_;rintro _ J _ ⟨rfl,K⟩;rw[bG,Y4,aY];have h1:=h.ext K;obtain⟨_,L,_,big,O,P,told,sv,z,_⟩:=id h1;have Q:=L.words.2;rw[aO cg.p 0 z rfl];refine (qd L).mono ?_;rintro v U _ ⟨j,y⟩;have M:ae (bE g gs A) w U:=(K.V _).trans (j.mono λr _ h=>.inr (.inl h));cases f:s.toks with
 |cons t l=>
  rw[f] at y;obtain⟨R,n,rfl⟩:=y;have S:=h1.scan j R (by rw[f];simp);have C:dS s=σ (t,{s with toks:=l}):=by unfold dS;rw[f]
  have N:=Q t (by rw[f];exact .head _);rw[h6,h7,h8];refine aU (λv E=>U=E/\v=Δ 0) ?_ ?_
  .rintro _ _ ⟨rfl,rfl⟩;refine dm (λx=>U=x) ?_ ?_
   .rintro _ rfl;rw[C];exact⟨⟨M,S⟩,t,n,rfl,N.1,N.2.2,λq G=>by cases G;rfl⟩
   .intro av a;rw[bL,aj];exact⟨λh=>absurd rfl h,λ_=>a _ rfl⟩
  .intro av a;rw[bh,aj];exact⟨λh=>Ω,λ_=>a _ _ ⟨rfl,rfl⟩⟩
 |nil=>
  rw[f] at y;obtain⟨n,rfl⟩:=y;have C:dS s=ν:=by unfold dS;rw[f]
  obtain⟨H,_,W,big,O,P,told,sv,z,ad,X⟩:=id h1;have Y:=z.V j H.1;have Z:=ak.V X j λr _ h I=>by
   have I:r=gs:=I;subst I;rcases h with h|h
   .exact H.2.2.1 h
   .exact h.1 (.inr (.inl rfl))
  rw[h6,h7,h8];refine aU (λv E=>U=E/\ ∃e:Int,v=Δ e/\e≠0) ?_ ?_
  .rintro _ _ ⟨rfl,e,rfl,he⟩;refine dm (λx=>ae (λr=>r=g) U x/\eC x g gs A B) ?_ ?_
   .rintro x ⟨aa,ab⟩;rw[C];exact⟨⟨M.trans (aa.mono λr _ h=>.inl h),ab⟩,[],n,rfl,λb ac=>(by cases ac),Ξ,λq G=>by cases G⟩
   .intro av a;rw[bL,aj];refine⟨λ_=>?_,λh=>absurd he h⟩;exact (sw (H.V j) Y Z he (by have:=W.2.2;show s.shared.length<=_;omega)).mono λ_ w' _ h=>a _ h
  .intro av a;rw[bh,aj];cases clean with
   |true=>exact⟨λ_=>a _ _ ⟨rfl,4,rfl,Ω⟩,λh=>absurd rfl h⟩
   |false=>exact⟨λh=>by simp at h,λ_=>a _ _ ⟨rfl,11,rfl,Ω⟩⟩
theorem Kc {g:Nat} {A:ag} {B:ag} (h:eC w g gs A B):ai x7 y0 [Γ g] w λv w'=>Ext w w'/\v= .tuple #[bU [],Δ 0]:=by
 refine aw func78 ?_;refine (nJ h).mono ?_;rintro _ J _ ⟨rfl,a⟩;rw[bG,W5,bS];exact⟨a,rfl⟩
theorem vF {g:Nat} {A:ag} {B:ag} {s:aD} (h:dl w g gs A B s clean):ai x7 ni [Γ g,Δ lo,Δ hi] w λv w'=>fP w g gs A B clean ((bf lo hi s).map (·.2)) w'/\ ∃n at_:Int,v= .tuple #[Δ n,Δ at_]/\(∀q,bf lo hi s=σ q->n=q.1)/\(bf lo hi s=ν->n=0):=by
 refine aw func80 ?_;refine (A4 h).mono ?_;rintro _ J _ ⟨⟨y,f⟩,t,n,rfl,I,K,hw⟩;rw[bx,bz];cases j:dS s with
 |none=>
  have a:bf lo hi s=ν:=by unfold bf;rw[j]
  rw[j] at f;have f:eC J g gs A B:=f;refine (nJ f).mono ?_;rintro _ U _ ⟨rfl,p⟩;rw[bG,W5,bS,a];exact⟨⟨y.trans (p.V _),f.ext p⟩,0,n,rfl,λq h=>(by cases h),λ_=>rfl⟩
 |some q=>
  obtain⟨br,z⟩:=q;have:=hw _ j;subst this;rw[j] at f;have f:dl J g gs A B z clean:=f;refine (oT f).mono ?_;rintro _ U _ ⟨rfl,p⟩;rw[bG,Y4,aY];refine (J7 I K).mono ?_;rintro _ C _ ⟨rfl,E⟩;have G:=(f.ext p).ext E;have H:ae (bE g gs A) w C:=(y.trans (p.V _)).trans (E.V _);obtain⟨m,e,L,hm⟩:∃m e:Int,km t= .tuple #[Δ m,Δ e]/\((gj t=σ m/\e=0)\/(gj t=ν/\e=4)):=by
   unfold km;cases P:gj t with
   |none=>exact⟨0,4,rfl,.inr ⟨rfl,rfl⟩⟩
   |some m=>exact⟨m,0,rfl,.inl ⟨rfl,rfl⟩⟩
  rw[L,bx,bz];refine aU (λv M=>C=M/\v= .bool (bf lo hi s).isNone) ?_ ?_
  .rintro _ _ ⟨rfl,rfl⟩;cases a:bf lo hi s with
   |none=>
    rw[Option.isNone_none,bS];refine (sx G Ω).mono ?_;rintro _ Q _ ⟨N,O⟩;exact⟨⟨H.trans (N.mono λr _ h=>.inl h),O⟩,0,n,rfl,λq h=>(by cases h),λ_=>rfl⟩
   |some q=>
    rw[Z5,aY];unfold bf at a;rw[j] at a;simp only at a;rcases hm with⟨hm,_⟩|⟨hm,_⟩
    .rw[hm] at a;simp only at a;split at a
     .cases a;exact⟨⟨H,G⟩,m,n,rfl,λq h=>(by cases h;rfl),λh=>(by cases h)⟩
     .cases a
    .rw[hm] at a;cases a
  .intro av x;have a:bf lo hi s=match gj t with
     |none=>ν
     |some n=>if lo<=n/\n<=hi then σ (n,z) else ν:=by
    unfold bf;rw[j];simp only;cases gj t<;>rfl
   rw[bL,aj];rcases hm with⟨hm,rfl⟩|⟨hm,rfl⟩
   .rw[hm] at a;simp only at a;refine⟨λh=>absurd rfl h,λ_=>?_⟩;rw[aR,aj];refine⟨λh=>x _ _ ⟨rfl,by rw[a,if_neg Ω];rfl⟩,λh=>?_⟩;rw[bT];refine x _ _ ⟨rfl,?_⟩;rw[a];by_cases az:hi<m
    .rw[decide_eq_true az,if_neg Ω];rfl
    .rw[decide_eq_false az,if_pos Ω];rfl
   .rw[hm] at a;exact⟨λ_=>x _ _ ⟨rfl,by rw[a];rfl⟩,λh=>absurd (by omega:(4:Int)≠0) h⟩
theorem Kd {g:Nat} {A:ag} {B:ag} (h:eC w g gs A B):ai x7 ni [Γ g,Δ lo,Δ hi] w λv w'=>Ext w w'/\v= .tuple #[Δ 0,Δ 0]:=by
 refine aw func80 ?_;refine (Kc h).mono ?_;rintro _ J _ ⟨a,rfl⟩;rw[bx,bz];refine (nJ (h.ext a)).mono ?_;rintro _ U _ ⟨rfl,e⟩;rw[bG,W5,bS];exact⟨a.trans e,rfl⟩
theorem Ke {x:Int} (h:aH .i64 w sv l):ai x7 GM [sv,Δ x] w λv w'=>Ext w w'/\ ∃r:Int,v=Δ r/\(0<=r↔x∈l):=by
 refine aw func74 ?_;rw[aX ao.u h];refine b1.range l.length (λi _ J=>Ext w J/\x∉l.take i) h.le ⟨Ext.refl _,Ξ⟩ ?_ ?_
 .rintro i _ J k hi ⟨a,e⟩ hk;refine bH Ω ?_;obtain⟨y,f⟩:=aI (l:=l) hi;rw[bd ao.u al.i Ψ (h.ext a) f,bh,aj];refine⟨λhe=>⟨a,i,rfl,⟨λ_=>he▸x5 f,λ_=>Ω⟩⟩,λhe=>?_⟩;rw[aP];refine hk _ _ ⟨a,λhm=>?_⟩;rw[u9,f] at hm;rcases l7.1 hm with hm|hm
  .exact e hm
  .simp at hm;exact he hm
 .rintro _ J k ⟨a,e⟩;rw[o5] at e;rw[aR,aj];exact⟨λh=>Ω,λ_=>⟨a,-1,rfl,⟨λh=>Ω,λh=>absurd h e⟩⟩⟩
theorem vG {x:Int} (h:aH .i64 w sv l):ai x7 Gb [sv,Δ x] w λv w'=>v= .bool (decide (x∈l))/\Ext w w':=by
 refine aw func30 ?_;refine (Ke h).mono ?_;rintro _ J _ ⟨a,r,rfl,e⟩;rw[cY];exact⟨by congr 1;rw[V3,decide_eq_true_eq,decide_eq_true_eq];exact e,a⟩
theorem sz:∀ {l:Λ},(∀z∈l,1<=z)-> ∀i,aL ((l.take i).map λk=>min k 4097)<=aL (l.map λk=>min k 4097)/\1<=aL ((l.take i).map λk=>min k 4097)
 |[],_,i=>by simp[aL]
 |z::l,h,0=>by
  have a:=sz (l:=l) (λx e=>h x (.tail _ e)) l.length;rw[o5] at a;have f:=h z (.head _);simp only[List.take_zero,List.map_nil,V4,aL];have:=Int.mul_le_mul_of_nonneg_left a.2 (show 0<=min z 4097 by omega);omega
 |z::l,h,i+1=>by
  have a:=sz (l:=l) (λx e=>h x (.tail _ e)) i;have f:=h z (.head _);simp only[List.take_succ_cons,V4,aL];have h1:=Int.mul_le_mul_of_nonneg_left a.1 (show 0<=min z 4097 by omega);have j:=Int.mul_le_mul_of_nonneg_left a.2 (show 0<=min z 4097 by omega);exact⟨h1,Ω⟩
theorem A5 (l:Λ) (x:Int):aL (l++[x])=aL l*x:=by
 induction l with
 |nil=>simp[aL]
 |cons a l e=>rw[List.cons_append,aL,e,aL,Int.mul_assoc]
theorem A6 (h:aH .i64 w sv l) (h1:∀z∈l,1<=z):ai x7 Hw [sv] w λv w'=>v= .bool (dv l)/\Ext w w':=by
 refine aw func141 ?_;rw[aX ao.u h];refine om.range l.length (λi _ n J=>Ext w J/\n=Δ (aL ((l.take i).map λk=>min k 4097))/\aL ((l.take i).map λk=>min k 4097)<=4096) h.le ⟨Ext.refl _,by simp[aL],by simp[aL]⟩ ?_ ?_
 .rintro i _ _ J p hi ⟨a,rfl,f⟩ q;refine bH Ω ?_;obtain⟨z,j⟩:=aI (l:=l) hi;have s:=h1 z (x5 j);have x:=sz h1 i;have y:=sz h1 (i+1);have e:aL ((l.take (i+1)).map λk=>min k 4097)=aL ((l.take i).map λk=>min k 4097)*min z 4097:=by
   rw[u9,j,o7,j6,V4,List.map_nil,A5]
  rw[bd ao.u al.i Ψ (h.ext a) j,kR,hP,<-e];have A:aL ((l.take (i+1)).map λk=>min k 4097)<=4096*4097:=by
   rw[e];have B:=Int.mul_le_mul_of_nonneg_right f (show 0<=min z 4097 by omega);have C:=Int.mul_le_mul_of_nonneg_left (show min z 4097<=4097 by omega) (show (0:Int)<=4096 by omega);omega
  rw[wrap_i64 Ω Ω,bT,aj];refine⟨λr=>⟨?_,a⟩,λr=>?_⟩
  .unfold dv;rw[decide_eq_true];omega
  .rw[aP];exact q _ _ _ ⟨a,rfl,Ω⟩
 .rintro _ _ J p ⟨a,rfl,f⟩;rw[o5] at f;rw[aR,aj];refine⟨λh=>Ω,λ_=>⟨?_,a⟩⟩;unfold dv;rw[decide_eq_false];omega
def kp (n:Int) (acc:Λ) (s:aD):Option (Int×aD):=match bf 0 (n-1) s with
 |none=>ν
 |some (v,s)=>if v∈acc then ν else σ (v,s)
theorem oU {α:Type} {f:List α->aD->Option (α×aD)} {acc:List α} {s:aD} (h:f acc s=ν):cQ f (n+1) acc s=ν:=by
 simp only[cQ,h]
theorem sA {α:Type} {f:List α->aD->Option (α×aD)} {acc:List α} {s s':aD} {a:α} (h:f acc s=σ (a,s')):cQ f (n+1) acc s=cQ f n (acc++[a]) s':=by
 simp only[cQ,h]
theorem dl.qf {g:Nat} {A:ag} {B:ag} {s:aD} (h:dl w g gs A B s clean):(∀r,bE g gs A r->r<w.heap.size)/\(∀r,B r->r<w.heap.size):=⟨h.1.2.2.2.1,h.1.2.2.2.2⟩
theorem Kf {g k:Nat} {A B:ag} {s:aD} {m:Int} (h:dl w g gs A B s clean) (hk:k<=4611686018427387904) (hm:0<=m/\m<=1000000):
  ai x7 y8 [Γ g,Δ (k:Int),Δ m] w λv w'=>fP w g gs A B clean ((e0 m k s).map (·.2)) w'/\
   ∃gr l,ap .i64 al w' gr v l/\(∀r,leads v r->w.heap.size<=r)/\l.length<=100001/\ ∀q,e0 m k s=σ q->l=q.1:=by
 obtain⟨ab,az⟩:=h.qf;have aA:=h.2.1.words.1;refine aw func140 ?_;refine⟨λout Q J=>∃i:Nat,Q=Δ (i:Int)/\i<=k/\ae (bE g gs A) w J/\ ∃gr l,ap .i64 al J gr out l/\w.heap.size<=gr/\l.length<=100001/\
  ((∃st,dl J g gs A B st clean/\cQ (kp m) (k-i) l st=e0 m k s/\l.length+st.toks.length<=100000)\/(eC J g gs A B/\e0 m k s=ν)),λ_ Q _=>k-(b2 Q).toNat,
  ⟨0,rfl,X3 _,ae.refl _ _,w.heap.size,[],ap.nil _ _ _ _,o4 _,Ξ,.inl ⟨s,h,rfl,by simpa using aA⟩⟩,?_⟩
 rintro out _ J ⟨i,rfl,aB,ac,gr,l,ad,ba,bb,af⟩;have bc:=ac.size;have R:∀r,leads out r->w.heap.size<=r:=λr y=>by have:=bP ad y;omega
 refine aU (λv U=>Ext J U/\((v= .bool true/\i<k/\ ∃st,dl U g gs A B st clean/\cQ (kp m) (k-i) l st=e0 m k s/\l.length+st.toks.length<=100000)\/
  (v= .bool false/\((∃st,dl U g gs A B st clean/\e0 m k s=σ (l,st))\/(eC U g gs A B/\e0 m k s=ν))))) ?_ ?_
 rotate_left
 .intro av K;rw[aR,aj];refine⟨λbd=>?_,λbe=>?_⟩
  .rcases af with⟨st,z,x,S⟩|⟨E,W⟩
   .refine (oT z).mono ?_;rintro _ U _ ⟨rfl,C⟩;exact K _ _ ⟨C,.inl ⟨rfl,Ω,st,z.ext C,x,S⟩⟩
   .refine (nJ E).mono ?_;rintro _ U _ ⟨rfl,C⟩;exact K _ _ ⟨C,.inr ⟨rfl,.inr ⟨E.ext C,W⟩⟩⟩
  .have aC:k-i=0:=Ω
   rcases af with⟨st,z,x,S⟩|aE
   .rw[aC] at x;exact K _ _ ⟨Ext.refl _,.inr ⟨rfl,.inl ⟨st,z,x.symm⟩⟩⟩
   .exact K _ _ ⟨Ext.refl _,.inr ⟨rfl,.inr aE⟩⟩
 rintro _ U ⟨C,aF⟩;have X:ae (bE g gs A) w U:=ac.trans (C.V _);have L:=ad.ext C;rcases aF with⟨rfl,aB,st,z,x,S⟩|⟨rfl,aG⟩
 rotate_left
 .rw[aY];rcases aG with⟨st,z,H⟩|⟨E,H⟩
  .rw[H];exact⟨⟨X,z⟩,gr,l,L,R,Ω,λq f=>by cases f;rfl⟩
  .rw[H];exact⟨⟨X,E⟩,gr,l,L,R,Ω,λq f=>by cases f⟩
 rw[bS,dZ,wrap_i64 Ω Ω];have aH:k-i=(k-(i+1))+1:=Ω
 rw[aH] at x;refine (vF z).mono ?_;rintro _ M _ ⟨⟨N,O⟩,n,at_,rfl,aI,bg⟩;rw[bx,bz];have ah:∀r,leads out r->¬bE g gs A r:=λr y aJ=>by have:=ab r aJ;have:=R r y;omega
 have bh:∀r,g=r->bE g gs A r:=λr h=>.inl h.symm;refine dm (λe=>ae (bE g gs A) U e/\((∃p,dl e g gs A B p clean/\cQ (kp m) (k-(i+1)) (l++[n]) p=e0 m k s/\l.length+1+p.toks.length<=100000)\/(eC e g gs A B/\e0 m k s=ν))/\l.length+1<=100001) ?_ ?_
 .rintro e ⟨ak,aK,am⟩;have aL:=bn L ak ah;have an:=X.trans ak;have bi:=an.size;refine ep ao.u al.i rfl λa ga aq bj G aM=>?_;refine jk ao.u al.i rfl (aL.ext G) aM.ls Θ Θ λaN aO aQ bk aS Y=>?_;have bl:=G.size;rw[aP,wrap_i64 Ω Ω];have aT:ae (bE g gs A) w aQ:=hr (an.trans (G.V _)) Y λr y he=>by have he:r=gr:=he;omega
  have au:∀r,bE g gs A r->¬(λr=>r=gr) r:=λr y he=>by have:=ab r y;have he:r=gr:=he;omega
  have ax:∀r,cG g gs A B r->¬(λr=>r=gr) r:=λr y he=>by have:=az r y.2;have he:r=gr:=he;omega
  refine⟨⟨i+1,rfl,Ω,aT,aO,l++[n],aS,Ω,Θ,?_⟩,by simp only[b2];omega⟩;rcases aK with⟨p,P,aV,bm⟩|⟨aW,W⟩
  .exact .inl ⟨p,(P.ext G).V Y au ax,aV,Θ⟩
  .exact .inr ⟨(aW.ext G).V Y au ax,W⟩
 .intro bo Z;cases f:bf 0 (m-1) st with
  |none=>
   rw[f] at O;have E:eC M g gs A B:=O;have I:kp m l st=ν:=by unfold kp;rw[f]
   have H:e0 m k s=ν:=by rw[<-x];exact oU I
   refine aU (λv e=>Ext M e/\v= .bool false) ?_ ?_
   rotate_left
   .intro aX aa;refine (nJ E).mono ?_;rintro _ e _ ⟨rfl,j⟩;rw[aY];exact aa _ _ ⟨j,rfl⟩
   rintro _ e ⟨j,rfl⟩;rw[aY];exact Z _ ⟨N.trans (j.V _),.inr ⟨E.ext j,H⟩,Ω⟩
  |some q=>
   obtain⟨aN,p⟩:=q;have aZ:=aI _ f;subst aZ;rw[f] at O;have ay:dl M g gs A B p clean:=O;have a1:=dH f;have am:l.length+1+p.toks.length<=100000:=by have:=a1.1;omega
   refine aU (λv e=>Ext M e/\v= .bool (decide (n∈l))) ?_ ?_
   rotate_left
   .intro aX aa;refine (oT ay).mono ?_;rintro _ e _ ⟨rfl,j⟩;rw[bS];refine (vG ((bn L N ah).ext j).ls).mono ?_;rintro _ aq _ ⟨rfl,G⟩;exact aa _ _ ⟨j.trans G,rfl⟩
   rintro _ e ⟨j,rfl⟩;have P:=ay.ext j;rw[aj];refine⟨λa2=>?_,λa6=>?_⟩
   .have I:kp m l st=ν:=by unfold kp;rw[f];simp only;rw[if_pos a2]
    refine (sx P Ω).mono ?_;rintro _ aq _ ⟨a7,a8⟩;exact Z _ ⟨(N.trans (j.V _)).trans (a7.mono λr _ h=>.inl h),.inr ⟨a8,by rw[<-x];exact oU I⟩,Ω⟩
   .have I:kp m l st=σ (n,p):=by unfold kp;rw[f];simp only;rw[if_neg a6]
    exact Z _ ⟨N.trans (j.V _),.inl ⟨p,P,by rw[<-x];exact (sA I).symm,am⟩,Ω⟩
theorem oV {a b:Int} (e:0<=a/\a<=4294967296) (f:0<=b/\b<=4294967296):ai x7 G5 [Δ a,Δ b,Δ k] w λv w'=>v=Δ (min (a+b) k)/\Ext w w':=by
 refine aw func109 ?_;simp only[aP,bT,aj];rw[wrap_i64 Ω Ω];exact⟨λh=>⟨by rw[Int.min_eq_right Ω],Ext.refl _⟩,λh=>⟨by rw[Int.min_eq_left Ω],Ext.refl _⟩⟩
def qg (a b k:Int):x1:=if cw a k/\cw b k then .tuple #[Δ (min (a+b) k),Δ 0] else .tuple #[Δ 0,Δ 3]
theorem A7 {a b:Int}:ai x7 yX [Δ a,Δ b,Δ k] w λv w'=>v=qg a b k/\Ext w w':=by
 refine aw func66 ?_;refine aU (λv J=>Ext w J/\v= .bool (decide (¬(cw a k/\cw b k)))) ?_ ?_
 .rintro _ J ⟨e,rfl⟩;simp only[aj,aP,kR];refine⟨λh=>⟨by unfold qg;rw[if_neg h],e⟩,λh=>?_⟩;have h:=Y3.1 h;obtain⟨⟨h1,r⟩,s,x⟩:=id h;have:=h1.2;rw[wrap_i64 Ω Ω];exact⟨by unfold qg;rw[if_pos h],e⟩
 .intro av f;refine jG.mono ?_;rintro _ U _ ⟨rfl,j⟩;simp only[bG,bY];refine⟨λh=>f _ _ ⟨j,?_⟩,λh=>?_⟩
  .have:¬cw a k:=by simpa using h
   rw[decide_eq_true];exact λh=>this h.1
  .have p:cw a k:=by simpa using h
   refine jG.mono ?_;rintro _ y _ ⟨rfl,q⟩;simp only[bG];exact f _ _ ⟨j.trans q,by simp[p]⟩
theorem Kg (h:aH .i64 w sv l) (f:l≠[]):
  ai x7 It [sv] w λv w'=>v=Δ (vx l)/\Ext w w':=by
 obtain⟨x,l,rfl⟩:∃x r,l=x::r:=by cases l with
  |nil=>exact absurd rfl f
  |cons x r=>exact⟨x,r,rfl⟩
 have j:=h.le;refine aw func240 ?_;refine dm (λJ=>w=J) ?_ ?_
 .rintro _ rfl;rw[fy (y:=0) (i:=0) rfl ao.u al.i Ψ h (by rfl)];refine⟨λm i U=>Ext w U/\ ∃k:Nat,i=Δ (k+1:Nat)/\k<=l.length/\m=Δ ((l.take k).foldl min x),λ_ i _=>l.length+1-(b2 i).toNat,⟨Ext.refl _,0,rfl,X3 _,rfl⟩,?_⟩;rintro _ _ U ⟨a,k,rfl,hk,rfl⟩;rw[aX ao.u (h.ext a)];simp only[Z0,aR,aj] at j ⊢;refine⟨λq=>?_,λs=>⟨?_,a⟩⟩
  .obtain⟨y,e⟩:=aI (l:=l) (i:=k) Ω;rw[bd ao.u al.i Ψ (h.ext a) (show (x::l)[k+1]? =σ y from e),kR];simp only[aP];rw[wrap_i64 Ω Ω];refine⟨⟨a,k+1,by congr 1,Ω,?_⟩,?_⟩
   .rw[u9,e,List.foldl_append];rfl
   .simp only[b2];omega
  .have:k=l.length:=Ω
   subst this;rw[o5];rfl
 .intro av p;rw[aX ao.u h];simp only[aR,aj];exact⟨λh=>by simp at h;omega,λ_=>p _ rfl⟩
theorem A8 {g:Nat} {cs:Λ} (h:dh w g a sv ad k cs):ai x7 u0 [Γ g] w λv w'=>v=Δ k/\Ext w w':=by
 obtain⟨⟨aZ,gs,e,hm,f⟩,_⟩:=h;refine aw func209 ?_;rw[dn eS.u];simp only[Z5,aY];rw[aO cX.p 1 e rfl];exact⟨rfl,Ext.refl _⟩
theorem mD {g e:Nat} {cs:Λ} (h:dh w g e sv ad k cs):
  ai x7 GU [Γ g] w λv w'=>Ext w w'/\ ∃a,w.heap.size<=a/\ap .i64 al w' a v cs:=by
 obtain⟨⟨aZ,gs,f,hm,j⟩,⟨_,_,q⟩,I,r⟩:=h;refine aw func95 ?_;rw[dn eS.u];simp only[Z5,aY];rw[aO cX.p 2 f rfl];exact vg j.ls Ω
theorem oW {g f:Nat} {cs:Λ} (h:dh w g f sv ad k cs):
  ai x7 HR [Γ g] w λv w'=>v= .agg #[sv]/\Ext w w':=by
 obtain⟨⟨aZ,gs,q,hm,A⟩,_⟩:=h;have s:=hm.ls.cells;refine aw func171 ?_;refine bB bw.i λB J C e x=>?_;rw[dn eS.u];simp only[Z5,aY];rw[bZ,aQ cX.p rfl,bD (cs:=[sv]) bw.p bw.i rfl (nA (q.ext e) (by
  intro j v a
  match j,a with
  |0,a=>exact a))]
 refine b3 (vs:=[sv]) bw.i rfl rfl (by intro u hu;simp at hu;subst hu;exact s.2) x λE y G z=>?_;rw[fz bw.p bw.i rfl z.range];exact⟨rfl,e.then y (by rintro r H rfl;omega)⟩
theorem Ba (h:aH .i64 w sv ad) (q:ad.length<=1000):ai x7 zj [.agg #[sv]] w λv w'=>Ext w w'/\ ∃a,w.heap.size<=a/\ap .i64 ah w' a v ad:=by
 refine aw func208 ?_;refine bm λg J r e f=>?_;rw[aA bw.p 0 f rfl];refine (kV (h.ext e) Ω).mono ?_;rintro v U _ ⟨j,a,s,hm⟩;have x:=e.size;exact⟨e.trans j,a,Ω,hm⟩
theorem Bb (h:aH .i64 w sv ad):ai x7 Ip [.agg #[sv]] w λv w'=>v=Δ ad.length/\Ext w w':=by
 refine aw func227 ?_;refine bm λg J f a e=>?_;rw[aA bw.p 0 e rfl,aX am.u (h.ext a)];exact⟨rfl,a⟩
def hV (ad:Λ) (i:Int):Int:=if 0<=i then ad.getD i.toNat 0 else 0
theorem qh {i:Int} (h:aH .i64 w sv ad):ai x7 Iq [.agg #[sv],Δ i] w λv w'=>v=Δ (hV ad i)/\Ext w w':=by
 refine aw func228 ?_;refine bm λg J r a e=>?_;refine aU (λv U=>v= .bool (decide (i<0\/(ad.length:Int)<=i))/\J=U) ?_ ?_
 .rintro _ _ ⟨rfl,rfl⟩;simp only[aj];refine⟨λh=>⟨?_,a⟩,λq=>?_⟩
  .unfold hV;split
   .rw[u4,Z3 Ω];rfl
   .rfl
  .rw[aA bw.p 0 e rfl];obtain⟨n,rfl⟩:∃n:Nat,i=n:=⟨i.toNat,Ω⟩;have f:n<ad.length:=Ω
   rw[bd am.u ah.i Ψ (h.ext a) (x6 f)];refine⟨?_,a⟩;unfold hV;rw[if_pos Ω,u4,r8,x6 f];rfl
 .intro av j;simp only[aR,aj];refine⟨λh=>j _ _ ⟨by rw[decide_eq_true];omega,rfl⟩,λq=>?_⟩;rw[aA bw.p 0 e rfl,aX am.u (h.ext a)];simp only[cY];exact j _ _ ⟨by congr 1;simp;omega,rfl⟩
theorem sB {g B0:Nat} (I:b5 ad):
  oq x7 kN [Γ g] (aL ad).toNat (λk vs w=>∃aM gt,vs=[Δ (k:Int),aM]/\B0<=gt/\ap .i64 ah w gt aM (cL ad k))
   (λw=>ab w g bw [sv]/\aH .i64 w sv ad/\B0<=w.heap.size):=by
 refine⟨kN.enters,λl av Q w r _ z ⟨s,x,A⟩ B=>?_⟩;have R:=prod_bound I;refine pQ func134 ?_;rw[bD bw.p bw.i rfl s.range];refine (oF x I).free.mono ?_;rintro _ J ⟨C,rfl,a⟩;refine ch.range (aL ad).toNat (λi U=>av i U/\ab U g bw [sv]/\aH .i64 U sv ad/\B0<=U.heap.size) Ω ⟨r 0 _ _ a C.b B,s.ext a,x.ext a,Y5 A a.size⟩ ?_ ?_
 .rintro i U k hi ⟨f,j,q,y⟩ hk;simp only[aR,aj];refine⟨λ_=>?_,λh=>Ω⟩;rw[bD bw.p bw.i rfl j.range];refine (I1 q I Ω Ω).free.mono ?_;rintro _ E ⟨G,e,aM,gt,rfl,H,K⟩;rw[bx,bz];refine⟨rfl,(z i _ E hi ⟨j.ext e,q.ext e,Y5 y e.size⟩ ⟨aM,gt,rfl,Y5 y H,K⟩ (r _ _ _ e G.b f)).mono ?_⟩;rintro _ S (⟨rfl,⟨L,M,N⟩,O⟩|⟨rfl,P⟩)
  .simp only[bG,Y4,aY,aP];exact hk _ ⟨O.1,L,M,N⟩
  .simp only[bG,W5,bS];exact .inr ⟨i,hi,P⟩
 .rintro U k ⟨f,j,q,_⟩;simp only[aR,aj];exact⟨λh=>Ω,λ_=>.inl f⟩
theorem sC:ai x7 GI [.agg #[sv]] w λr w'=>Ext w w'/\ ∃g,r= .func (.func kN) #[] #[Γ g]/\w.heap.size<=g/\ab w' g bw [sv]:=by
 refine aw func70 ?_;refine bm λg J f a e=>?_;rw[mq];exact⟨a,g,rfl,Ω,e⟩
end Go.Proofs.YtjjhhcfgfdepdaaGreatDoor
namespace Go.Vc
open Go Go.RowKit
set_option maxRecDepth 100000
section
variable {P:W3} {w:x3}
theorem ax.ct {α:Type} {s:Sem α} {K:α->x3->Prop} (h:ax P s w λv w'=>cM w w'->K v w'):ax P s w K:=by
 obtain⟨v,w',h1,a,e⟩:=h;exact⟨v,w',h1,a,e a⟩
structure Keys (P:W3) (k:r9) (G:x1->Prop):Prop where
 check:∀ (w:x3) (em:Bool) {v:x1},G v->(Instr.checkKey em 10000 k v).run P w= .ok () w
 find:∀ (w:x3) {x:x1},G x-> ∀es:List MapEntry,(∀e∈es,G e.key)->
  ((Instr.findKey k x es).run P w= .ok ν w/\ ∀e∈es,e.key≠x)\/ ∃j e,(Instr.findKey k x es).run P w= .ok (σ (j,e.val)) w/\es[j]? =σ e/\e.key=x
 stays:∀ (w:x3) {v:x1},G v->(Instr.keyThatStays v v).run P w= .ok v w
theorem Keys.law {k:r9} (K:WideMaps.KeyLaw P k):Keys P k λv=>∃l,keyOf P k v=σ l:=
 ⟨λw a _ ⟨_,h⟩=>K.check w a h,λw _ ⟨_,h⟩ e f=>K.find w h e f,λw _ ⟨_,h⟩=>K.stays w h⟩
theorem Keys.int {k:r9} {a:o6} (hk:P.underlying k=σ (.int a)):Keys P k λv=>∃n,v= .int a n:=by
 have key:∀n,MapKept.IsKey (.int a) (.int a n):=λn=>rfl;refine⟨λw p v ⟨n,h⟩=>?_,λw x ⟨n,h⟩ q r=>?_,λw v ⟨n,h⟩=>?_⟩
 .subst h;exact MapKept.run_checkKey hk (key n) p 9999
 .subst h;rcases MapKept.findNow_spec (key n) q 0 (λe he=>by obtain⟨m,h⟩:=r e he;rw[h];exact key m) with⟨h1,f⟩|⟨j,e,h1,f,s⟩
  .exact .inl ⟨MapKept.run_findKey hk h1,f⟩
  .exact .inr ⟨j,e,by have:=MapKept.run_findKey (P:=P) (w:=w) hk h1;simpa using this,f,s⟩
 .subst h;exact MapKept.run_keyThatStays (d:=.int a) (key n)
def gL (e:MapEntry):x1×x1:=(e.key,e.val)
def c5 (w:x3) (m:Nat) (d:List (x1×x1)):Prop:=∃a e,w.heap[m]? =σ (.map a e)/\MapKept.Stamped a e/\a.toList.map gL=d
theorem c5.ext {d:List (x1×x1)} (h:c5 w m d) (a:Ext w w'):c5 w' m d:=by
 obtain⟨e,c,h1,f⟩:=h;exact⟨e,c,a.aW m _ h1 rfl,f⟩
theorem c5.V {d:List (x1×x1)} (h:c5 w m d) (a:ae S w w') (e:¬S m):c5 w' m d:=by
 obtain⟨f,c,h1,j⟩:=h;exact⟨f,c,a.aW m _ h1 rfl e,j⟩
theorem c5.lt {d:List (x1×x1)} (h:c5 w m d):m<w.heap.size:=by
 obtain⟨a,c,h1,e⟩:=h;exact (j0.1 h1).1
theorem c5.nodup {d:List (x1×x1)} (h:c5 w m d):(d.map (·.1)).Nodup:=by
 obtain⟨e,c,_,⟨_,_,a⟩,rfl⟩:=h;rw[S8];exact a
theorem kq {α:Type} {l:List α} (h:l.Nodup) {i:Nat} {x:α} (hi:l[i]? =σ x) (q:l[j]? =σ x):i=j:=by
 have a:=x4.1 hi;have e:=x4.1 q;have p:=V2.1 h;rcases Nat.lt_trichotomy i j with f|rfl|f
 .exact absurd (a.2.trans e.2.symm) (p i j a.1 e.1 f)
 .rfl
 .exact absurd (e.2.trans a.2.symm) (p j i e.1 a.1 f)
theorem mE {α β:Type} (f:α->β):∀ (l:List α) (i:Nat),(l.map f).eraseIdx i=(l.eraseIdx i).map f
 |[],_=>Ξ
 |_::_,0=>rfl
 |x::l,i+1=>by simp[mE f l i]
theorem c5.uniq {d:List (x1×x1)} (h:c5 w m d) {i:Nat} {p q:x1×x1} (hi:d[i]? =σ p) (a:d[j]? =σ q) (he:p.1=q.1):i=j:=by
 have e:=h.nodup;have h1:(d.map (·.1))[i]? =σ p.1:=by rw[x8,hi];rfl
 have f:(d.map (·.1))[j]? =σ p.1:=by rw[x8,a,he];rfl
 exact kq e h1 f
theorem sD {q:Array MapEntry} {c:Nat} (h:w.heap[m]? =σ (.map q c)) (a:Array MapEntry) (e:Nat):
  ae (λr=>r=m) w {w with heap:=w.heap.setIfInBounds m (.map a e)}/\cM w {w with heap:=w.heap.setIfInBounds m (.map a e)}/\({w with heap:=w.heap.setIfInBounds m (.map a e)}:x3).heap[m]? =σ (.map a e):=by
 have I:=MapKept.heap_set (o':=.map a e) h;refine⟨⟨Ξ,λr o f j s=>?_⟩,⟨rfl,.j3,rfl,Ξ,λr o f j=>?_⟩,I.1⟩
 .show (w.heap.setIfInBounds m _)[r]? =σ o;rw[I.2 r s];exact f
 .show (w.heap.setIfInBounds m _)[r]? =σ o;by_cases p:r=m
  .subst p;rw[h] at f;cases f;cases j
  .rw[I.2 r p];exact f
theorem sE {K:x1->x3->Prop} (h:∀m w',m=w.heap.size->Ext w w'->c5 w' m []->K (.map (σ m)) w'):ax P (Instr.makeMap t ν) w K:=by
 refine .of (run_makeMap t w) (ou w _) (h _ _ rfl (ot w _) ⟨#[],0,?_,MapKept.stamped_empty 0,rfl⟩);exact heap_alloc_new w _
variable {k e:r9} {G:x1->Prop}
theorem qi {c:Bool} {d:List (x1×x1)} {x:x1} (y:P.underlying t=σ (.map k e)) (hk:Keys P k G) (hm:c5 w m d) (z:∀p∈d,G p.1) (q:G x) (a:d[j]? =σ (x,v)):
  aa P (Instr.lookup t (.map (σ m)) x c) w K=K (if c then .tuple #[v,.bool true] else v):=aa.of λw' A=>by
 obtain⟨f,B,r,C,rfl⟩:=hm.ext A;have E:∀e∈f.toList,G e.key:=λe he=>z (gL e) (n9.2 ⟨e,he,rfl⟩);rcases hk.find w' q f.toList E with⟨_,h⟩|⟨i,s,h1,h,F⟩
 .rw[x8] at a;obtain⟨H,I,J⟩:=Y7.1 a;exact absurd (congrArg Prod.fst J) (h H (x5 I))
 .have L:s.val=v:=by
   have hi:(f.toList.map gL)[i]? =σ (gL s):=by rw[x8,h];rfl
   have M:c5 w' m (f.toList.map gL):=⟨f,B,r,C,rfl⟩;have:=M.uniq hi a F;subst this;rw[hi] at a;exact congrArg Prod.snd (c8 a)
  simp only[Instr.lookup,X8,run_underlying y,W0,MapKept.run_getObj_map r,W9,hk.check w' _ q,h1,L]
theorem sF {c:Bool} {d:List (x1×x1)} {x:x1} (r:P.underlying t=σ (.map k e)) (hk:Keys P k G) (a:∃s b,aN P e s b z) (hm:c5 w m d) (y:∀p∈d,G p.1) (f:G x) (A:∀p∈d,p.1≠x):
  aa P (Instr.lookup t (.map (σ m)) x c) w K=K (if c then .tuple #[z,.bool false] else z):=aa.of λw' B=>by
 obtain⟨h,I,C,J,rfl⟩:=hm.ext B;have E:∀e∈h.toList,G e.key:=λe he=>y (gL e) (n9.2 ⟨e,he,rfl⟩);have F:(zeroValue e).run P w'= .ok z w':=by
  obtain⟨s,b,i,hi,_,_,a⟩:=a;simp[zeroValue,typeInfo,hi,a]
 rcases hk.find w' f h.toList E with⟨h1,j⟩|⟨i,q,h1,j,H⟩
 .simp only[Instr.lookup,X8,run_underlying r,W0,MapKept.run_getObj_map C,W9,hk.check w' _ f,h1,F]
 .exact absurd H (A (gL q) (n9.2 ⟨q,x5 j,rfl⟩))
theorem Kh {a:Array MapEntry} {e:MapEntry} {f:MapEntry->MapEntry} (h:a[j]? =σ e):(a.modify j f).toList.map gL=(a.toList.map gL).set j (gL (f e)):=by
 refine Y2 λi=>?_;simp only[x8,S5,Array.getElem?_modify,X1,u7,Array.length_toList];by_cases p:j=i
 .subst p;have:=(j0.1 h);simp[this.1,this.2]
 .simp[p]
theorem qj {d:List (x1×x1)} {x:x1} {K:Unit->x3->Prop} (C:P.underlying t=σ (.map k e)) (hk:Keys P k G) (hm:c5 w m d) (J:∀p∈d,G p.1) (h:G x)
  (h1:∀j v0 w',d[j]? =σ (x,v0)->c5 w' m (d.set j (x,v))->ae (λr=>r=m) w w'->K () w')
  (L:∀w',(∀p∈d,p.1≠x)->c5 w' m (d++[(x,v)])->ae (λr=>r=m) w w'->K () w'):ax P (Instr.mapUpdate t (.map (σ m)) x v) w K:=by
 obtain⟨f,q,a,E,rfl⟩:=hm;have M:∀e∈f.toList,G e.key:=λe he=>J (gL e) (n9.2 ⟨e,he,rfl⟩);rcases hk.find w h f.toList M with⟨s,F⟩|⟨i,H,s,hi,he⟩
 .obtain⟨y,z,A⟩:=sD a (f.push {key:=x,val:=v,born:=q}) (q+1);refine .of (v:=()) (w':=_) ?_ z (L _ (λp N=>?_) ⟨_,_,A,MapKept.stamped_push E F,by simp[gL]⟩ y)
  .simp only[Instr.mapUpdate,X8,run_underlying C,W0,MapKept.run_getObj_map a,hk.check w _ h,s,MapKept.run_setObj_map _ a]
  .obtain⟨O,Q,rfl⟩:=n9.1 N;exact F O Q
 .have B:f[i]? =σ H:=by simpa using hi
  obtain⟨y,z,A⟩:=sD a (f.modify i λe=>{e with key:=x,val:=v}) q;refine .of (v:=()) (w':=_) ?_ z (h1 i H.val _ (by rw[x8,hi];simp[gL,he]) ⟨_,_,A,MapKept.stamped_modify E _ _ (λ_ _=>rfl) (λR _ I=>by rw[B] at I;cases I;exact he.symm),Kh B⟩ y);simp only[Instr.mapUpdate,X8,run_underlying C,W0,MapKept.run_getObj_map a,hk.check w _ h,s,B,Z4,V6,he,hk.stays w h,MapKept.run_setObj_map _ a]
theorem Ki {E F:r9} {d:List (x1×x1)} {x:x1} {K:x1->x3->Prop} (A:P.underlying t=σ (.map k e)) (hk:Keys P k G) (hm:c5 w m d) (H:∀p∈d,G p.1) (h:G x)
  (h1:∀j v0 w',d[j]? =σ (x,v0)->c5 w' m (d.eraseIdx j)->ae (λr=>r=m) w w'->K (.tuple #[]) w')
  (I:∀w',(∀p∈d,p.1≠x)->c5 w' m d->ae (λr=>r=m) w w'->K (.tuple #[]) w'):ax P (Z1.delete_ #[t,E] F #[.map (σ m),x]) w K:=by
 obtain⟨f,B,a,C,rfl⟩:=hm;have J:∀e∈f.toList,G e.key:=λe he=>H (gL e) (n9.2 ⟨e,he,rfl⟩);rcases hk.find w h f.toList J with⟨q,L⟩|⟨i,M,q,hi,he⟩
 .obtain⟨s,y,z⟩:=sD a f B;refine .of (v:=.tuple #[]) (w':=_) ?_ y (I _ (λp N=>?_) ⟨_,_,z,C,rfl⟩ s)
  .simp only[Z1.delete_,List.getElem?_toArray,List.getElem?_cons_zero,List.getElem?_cons_succ,X8,run_underlying A,W0,MapKept.run_getObj_map a,hk.check w _ h,q,MapKept.run_setObj_map _ a,W9]
  .obtain⟨O,Q,rfl⟩:=n9.1 N;exact L O Q
 .obtain⟨s,y,z⟩:=sD a (f.eraseIdxIfInBounds i) B;refine .of (v:=.tuple #[]) (w':=_) ?_ y (h1 i M.val _ (by rw[x8,hi];simp[gL,he]) ⟨_,_,z,MapKept.stamped_erase C _,by rw[mE];simp⟩ s);simp only[Z1.delete_,List.getElem?_toArray,List.getElem?_cons_zero,List.getElem?_cons_succ,X8,run_underlying A,W0,MapKept.run_getObj_map a,hk.check w _ h,q,MapKept.run_setObj_map _ a,W9]
theorem Kj {a:r9} {d:List (x1×x1)} (f:P.underlying t=σ (.map k e)) (hm:c5 w m d):aa P (W7 #[t] a #[.map (σ m)]) w K=K (Δ d.length):=aa.of λw' h=>by
 obtain⟨p,q,j,r,rfl⟩:=hm.ext h;simp[W7,run_underlying f,MapKept.run_getObj_map j,goInt]
def hv (w:x3) (j m:Nat) (d left:List (x1×x1)) (q:Option (x1×x1)):Prop:=∃a f seen gV,w.heap[m]? =σ (.map a f)/\MapKept.Stamped a f/\a.toList.map gL=d/\
 w.heap[j]? =σ (.mapIter (σ m) f seen gV)/\f<=gV/\(leftOf a seen).toList.map gL=left/\ ∀p,q=σ p->gV=f/\ ∃h,a.toList.find? (λe=>e.born == seen.back?.getD 0)=σ h/\seen.back? =σ h.born/\gL h=p
theorem hv.map {d left:List (x1×x1)} {e:Option (x1×x1)} (h:hv w a m d left e):c5 w m d:=by
 obtain⟨f,c,_,_,h1,j,p,_⟩:=h;exact⟨f,c,h1,j,p⟩
theorem hv.aW {d left:List (x1×x1)} {e:Option (x1×x1)} (h:hv w a m d left e) (f:ae S w w') (hm:¬S m) (hi:eW w w'):hv w' a m d left e:=by
 obtain⟨j,c,s,gV,h1,p,q,r,x⟩:=h;exact⟨j,c,s,gV,f.aW m _ h1 rfl hm,p,q,hi a _ r rfl,x⟩
theorem hv.ext {d left:List (x1×x1)} {e:Option (x1×x1)} (h:hv w a m d left e) (f:Ext w w') (hi:eW w w'):hv w' a m d left e:=
 h.aW (f.V λ_=>False) (λh=>h) hi
theorem Kk (a:Array MapEntry):leftOf a #[]=a:=by
 unfold leftOf;exact Array.filter_eq_self.2 λx e=>Ξ
theorem Bc {d:List (x1×x1)} {K:x1->x3->Prop} (r:P.underlying t=σ (.map k e)) (hm:c5 w m d)
  (h:∀a w',a=w.heap.size->Ext w w'->eW w w'->hv w' a m d d ν->K (Γ a) w'):ax P (Instr.range t (.map (σ m))) w K:=by
 obtain⟨j,f,q,s,rfl⟩:=hm;refine .of (run_range_map w t k e m j f r q) (ou w _) (h _ _ rfl (ot w _) (ou w _).j7 ⟨j,f,#[],f,(ot w _).aW m _ q rfl,s,rfl,heap_alloc_new w _,o4 _,by rw[Kk],λp x=>by cases x⟩)
theorem Bd:∀ (l:List MapEntry) (j:Nat) (a:MapEntry),(l.map (·.born)).Nodup->l[j]? =σ a->l.filter (λx=>!(x.born == a.born))=l.eraseIdx j
 |[],j,a,_,h=>by simp at h
 |x::l,0,a,f,h=>by
  simp at h;subst h;have e:=List.nodup_cons.1 (by simpa using f:(x.born::l.map (·.born)).Nodup);simp only[List.filter_cons,beq_self_eq_true,Y4,Bool.false_eq_true,if_false,List.eraseIdx_cons_zero];refine List.filter_eq_self.2 λy p=>?_;have:y.born≠x.born:=λhe=>e.1 (he▸n9.2 ⟨y,p,rfl⟩);simpa using this
 |x::l,j+1,a,f,h=>by
  simp at h;have e:=List.nodup_cons.1 (by simpa using f:(x.born::l.map (·.born)).Nodup);have q:x.born≠a.born:=λhe=>e.1 (he▸n9.2 ⟨a,x5 h,rfl⟩);have r:=Bd l j a e.2 h;simp only[List.filter_cons,List.eraseIdx_cons_succ,r];simp[q]
theorem Be {free:fs} {d left:List (x1×x1)} {T:Option (x1×x1)} {K:x1->x3->Prop} (h:hv w a m d left T) (A:free.1=false->free.2<=a)
  (U:left=[]->K (.tuple #[.bool false]) w)
  (h1:∀j p w',left[j]? =σ p->Ext w w'->cB a w w'->hv w' a m d (left.eraseIdx j) (σ p)->K (.tuple #[.bool true,p.1,p.2]) w'):ri P free (Instr.next (Γ a) false 0) w K:=by
 obtain⟨q,s,seen,gV,B,E,rfl,hi,V,rfl,_⟩:=h;have M:∀x∈q.toList,x.born<s:=E.1;have N:=E.2.1;have O:∀x∈(leftOf q seen).toList,x.born<s:=λx z=>M x (mem_left z).1;have W:∀ (J:x3) (o':Obj),J.heap=w.heap->(setObj a o').run P J= .ok () {J with heap:=J.heap.setIfInBounds a o'}:=λJ o' he=>by
  simp only[setObj,Sem.run];rw[he,hi]
 unfold ri;simp only[Instr.next,getObj,X8,Sem.run,hi,B,W0,next_test_false seen q s gV M V,Bool.false_eq_true,if_false];have X:Array.filter (λe=>!seen.contains e.born) q=leftOf q seen:=rfl;rw[X];have Y:((leftOf q seen).toList.map (·.born)).Nodup:=by
  unfold leftOf;rw[Array.toList_filter];exact (List.Sublist.map _ List.filter_sublist).nodup N
 have Z:∀C:MapEntry,leftOf q (seen.push C.born)=(leftOf q seen).filter λx=>!(x.born == C.born):=λC=>by
  unfold leftOf;rw[Array.filter_filter];congr 1;funext x;rw[contains_push];cases seen.contains x.born<;>cases x.born == C.born<;>rfl
 generalize aa:leftOf q seen=L at*;have ab:L.filter (λx=>decide (x.born<s))=L:=Array.filter_eq_self.2 (λx z=>by simpa using O x (by simpa using z));have ac:L.filter (λx=>decide (x.born≥s))= #[]:=by
  rw[Array.filter_eq_empty_iff];intro x z;have:=O x (by simpa using z);simp;omega
 simp only[ab,ac,Array.append_empty];by_cases Q:L.size=0
 .have ad:L= #[]:=Array.eq_empty_of_size_eq_zero Q;subst ad;refine⟨.tuple #[.bool false],w,?_,λ_=>cB.refl _ _,U rfl⟩;simp[choose,Sem.run,Question.forced]
 .have ae:L.isEmpty=false:=by simp[Array.isEmpty,Q]
  simp only[ae,Bool.false_eq_true,if_false,Array.empty_append,Array.size_map];have af:∃ (j:Nat) (n:Nat),j<L.size/\w.drawn<=n/\(choose (Question.mapNext L.size)).run P w= .ok j {w with drawn:=n}:=by
   by_cases A:L.size<=1
   .exact⟨0,w.drawn,Ω,o4 _,by simp[choose,Sem.run,Question.forced,A]⟩
   .exact⟨_,w.drawn+1,Nat.mod_lt _ Ω,Nat.le_succ _,by
     simp only[choose,Sem.run,Question.forced,decide_eq_true_eq,A,if_false,Question.cut];rfl⟩
  obtain⟨j,n,F,R,ag⟩:=af;have S:L.toList[j]? =σ L[j]:=by simp[F]
  have ah:L[j]∈q.toList:=(mem_left (seen:=seen) (by rw[aa];exact Array.mem_toList_iff.2 (Array.getElem_mem F))).1;refine⟨.tuple #[.bool true,L[j].key,L[j].val],{w with drawn:=n,heap:=w.heap.setIfInBounds a (.mapIter (σ m) s (seen.push L[j].born) s)},?_,?_,?_⟩
  .have I:=W {w with drawn:=n} (.mapIter (σ m) s (seen.push L[j].born) s) rfl;simp only[ag,Array.getElem?_map,Array.getElem?_eq_getElem F,Z4,X8,I,W0,W9]
  .intro ai;have:=A ai;refine⟨rfl,⟨rfl,R⟩,rfl,Ξ,λr o f G=>?_,λr o aj f H=>?_⟩
   .show (w.heap.setIfInBounds a _)[r]? =σ o;by_cases y:r=a
    .subst y;rw[hi] at f;cases f;cases G
    .rw[(MapKept.heap_set hi).2 r y];exact f
   .show (w.heap.setIfInBounds a _)[r]? =σ o;rw[(MapKept.heap_set hi).2 r Ω];exact f
  .refine h1 j (gL L[j]) _ (by rw[x8,S];rfl) ⟨Ξ,λr o f H=>?_⟩ ⟨rfl,⟨rfl,R⟩,rfl,Ξ,λr o f G=>?_,λr o aj f H=>?_⟩ ⟨q,s,seen.push L[j].born,s,?_,E,rfl,?_,o4 _,?_,λp ak=>⟨rfl,L[j],?_,Ξ,c8 ak⟩⟩
   .show (w.heap.setIfInBounds a _)[r]? =σ o;by_cases y:r=a
    .subst y;rw[hi] at f;cases f;cases H
    .rw[(MapKept.heap_set hi).2 r y];exact f
   .show (w.heap.setIfInBounds a _)[r]? =σ o;by_cases y:r=a
    .subst y;rw[hi] at f;cases f;cases G
    .rw[(MapKept.heap_set hi).2 r y];exact f
   .show (w.heap.setIfInBounds a _)[r]? =σ o;rw[(MapKept.heap_set hi).2 r Ω];exact f
   .show (w.heap.setIfInBounds a _)[m]? =_;rw[(MapKept.heap_set hi).2 m (λhe=>by subst he;rw[hi] at B;cases B)];exact B
   .exact (MapKept.heap_set hi).1
   .rw[Z,Array.toList_filter,Bd _ _ _ Y S,mE]
   .simp only[Array.back?_push,V6];exact find_born _ _ N ah
theorem Bf {d left:List (x1×x1)} {p:x1×x1} {K:x1->x3->Prop} (h:hv w a m d left (σ p)) (j:K (.tuple #[p.1,p.2]) w):ax P (Instr.entry (Γ a)) w K:=by
 obtain⟨s,x,seen,gV,q,y,rfl,hi,z,rfl,r⟩:=h;obtain⟨rfl,e,h1,f,rfl⟩:=r p rfl;refine .of (v:=.tuple #[e.key,e.val]) (w':=w) ?_ (cM.refl _) j;rw[f] at h1;simp only[Instr.entry,getObj,X8,Sem.run,hi,q,W0,f,bne_self_eq_false,Bool.false_eq_true,if_false,<-Array.find?_toList];simp only[V6] at h1;rw[h1];rfl
end
end Go.Vc
namespace Go.Proofs.YtjjhhcfgfdepdaaGreatDoor
open Go Go.Vc Go.RowKit Go.Proofs Go.Proofs.Tryz
set_option maxRecDepth 100000
def eg (ks:Λ):x1:=.agg (ints .i8 ks).toArray
def k2 (ks:Λ):Prop:=ks.length=6/\ ∀x∈ks,0<=x/\x<32
theorem Kl {a b:Λ} (h:eg a=eg b):a=b:=by
 unfold eg at h;have h:ints .i8 a=ints .i8 b:=congrArg Array.toList (x1.agg.inj h);have e:∀l:Λ,(ints .i8 l).map valOf=l:=λl=>by
  unfold ints;rw[S8];exact List.map_id l
 rw[<-e a,<-e b,h]
theorem Bg (ks:Λ):(eg ks).cells.toList=ints .i8 ks:=by simp[eg,x1.cells]
theorem Km:WideMaps.ArrKey x7 cE fN 6:=⟨cE.u,Ψ,Ψ,Ψ⟩
theorem keys:Keys x7 cE λv=>∃l,keyOf x7 cE v=σ l:=Keys.law Km.law
theorem vH (h:k2 ks):∃l,keyOf x7 cE (eg ks)=σ l:=by
 obtain⟨s,j⟩:=h
 match ks,s with
 |[a,b,c,d,e,f],_=>
  have w:=j a Ξ;have y:=j b Ξ;have z:=j c Ξ;have rd:=j d Ξ;have A:=j e Ξ;have j3:=j f Ξ;have wf:∀x:Int,0<=x/\x<32->(Lit.int .i8 x).wf=true:=λx p=>by
   simp only[Lit.wf,U4,decide_eq_true_eq];have H:o6.i8.min= -128:=Φ
   have I:o6.i8.max=127:=Φ
   omega
  have q:decide (0<x7.types.size)=true:=Ψ
  have q:=of_decide_eq_true q;obtain⟨n,B⟩:∃n,x7.types.size=n+1:=⟨x7.types.size-1,Ω⟩;have one:∀x:Int,0<=x/\x<32->x7.keyLits (n+1) fN [.int .i8 x]=σ [.int .i8 x]:=λx p=>by
   unfold W3.keyLits;rw[fN.u];simp[wf x p]
  unfold keyOf;rw[cE.u];simp only;have C:x7.keyType cE=true:=Ψ
  have E:x7.cellsOf fN=1:=Ψ
  have r:x7.cellsOf cE=6:=Ψ
  have F:(eg [a,b,c,d,e,f]).formed x7 cE=true:=by
   unfold eg x1.formed;rw[cE.u,r];rfl
  rw[C,F,Bg,B];simp only[Bool.and_self,if_true];unfold W3.keyLits;rw[cE.u];simp only[r,E,ints];have G:V1 6=[0,1,2,3,4,5]:=Φ
  simp[G,one a w,one b y,one c z,one d rd,one e A,one f j3]
def pad (t:Λ):Λ:=t++p9 (6-t.length) 0
theorem Kn {t:Λ} (f:t.length<=6) (a:∀x∈t,0<=x/\x<32):k2 (pad t):=
 ⟨by simp[pad];omega,λx e=>by
  rcases l7.1 e with h|h
  .exact a x h
  .have:=(List.mem_replicate.1 h).2;omega⟩
theorem Ko {a b:Λ} (e:a.length=b.length) (h:pad a=pad b):a=b:=by
 unfold pad at h;exact (List.append_inj h e).1
theorem Bh {t:Λ}:(pad t).take t.length=t:=by simp[pad]
theorem nK {b o:Nat} (a:ks.length=6) (h:w.rangeAt b o (ints .i8 ks)):aa x7 (u5 cE (.pointer (σ ⟨b,o,ν⟩))) w K=K (eg ks):=
 zu cE.u rfl cE.i (by simp[a]) h
theorem Kp {b o:Nat} (a:ks.length=6) (h:w.rangeAt b o (ints .i8 ks)):aa x7 (do loadVar cE (<-asAddr (.pointer (σ ⟨b,o,ν⟩)))) w K=K (eg ks):=aa.of λw' e=>by
 have:=run_loadVar_mid (P:=x7) w' b o cE (ints .i8 ks) (.array 6 fN) (np e h) cE.u rfl (by rw[cE.i.size];simp[a]);simp only[asAddr,X8,W9,Result.andThen_ok,this];rfl
theorem qk {g:Nat} {K:Unit->x3->Prop} (a:ks.length=6) (e:cs.length=6) (f:ab w g cE cs)
  (h:∀w',ae (λr=>r=g) w w'->w'.heap.size=w.heap.size->ab w' g cE (ints .i8 ks)->K () w'):ax x7 (o8 cE (Γ g) (eg ks)) w K:=
 b3 (vs:=ints .i8 ks) cE.i (by simp[a]) e (λv j=>by obtain⟨x,_,rfl⟩:=n9.1 j;rfl) f h
def sG:List x1:=[.int .i8 0,.int .i8 0,.int .i8 0,.int .i8 0,.int .i8 0,.int .i8 0]
theorem Kq {x:Int}:ai x7 rR [Δ x] w λv w'=>v= .bool (decide (¬ic x))/\Ext w w':=by
 refine aw func185 ?_;simp only[cm,aR,bT,aj];refine⟨λh=>⟨?_,Ext.refl _⟩,λh=>⟨?_,Ext.refl _⟩⟩
 .rw[decide_eq_true];intro a;have:=a.1;omega
 .congr 1;have:(32<x)=(¬ic x):=propext ⟨λe a=>by have:=a.2;omega,λe=>by
   by_cases f:32<x
   .exact f
   .exact absurd ⟨Ω,Ω⟩ e⟩
  simp only[this]
theorem Kr (h:aH .i64 w sv l):
  ai x7 zl [sv,.func (.func rR) #[] #[]] w λv w'=>Ext w w'/\ ∃n:Int,v=Δ n/\((0<=n)=¬∀x∈l,ic x):=by
 have z:=h.le;refine aw func221 ?_;rw[aX am.u h];refine⟨λ_ t J=>Ext w J/\ ∃i:Nat,t=Δ i/\i<=l.length/\ ∀x∈l.take i,ic x,λ_ t _=>l.length-(b2 t).toNat,⟨Ext.refl _,0,rfl,X3 _,Ξ⟩,?_⟩;rintro _ _ J ⟨e,i,rfl,hi,f⟩;simp only[aR,aj];refine⟨λA=>?_,λB=>⟨e,-1,rfl,?_⟩⟩
 .obtain⟨x,j⟩:=aI (l:=l) (i:=i) Ω;rw[bd am.u ah.i Ψ (h.ext e) j];show ai x7 rR [Δ x] J _;refine Kq.mono ?_;rintro _ U _ ⟨rfl,p⟩;simp only[aj,aP];refine⟨λq=>⟨e.trans p,i,rfl,?_⟩,λr=>?_⟩
  .exact propext ⟨λ_ s=>q (s x (x5 j)),λ_=>Ω⟩
  .rw[wrap_i64 Ω Ω];refine⟨⟨e.trans p,i+1,rfl,Ω,λy a=>?_⟩,?_⟩
   .rw[u9,j] at a;rcases l7.1 a with a|a
    .exact f y a
    .simp at a;subst a;exact Y3.1 r
   .simp only[b2];omega
 .have:i=l.length:=Ω
  rw[this,o5] at f;exact propext ⟨λh=>Ω,λh=>absurd f h⟩
theorem Bi (h:aH .i64 w sv l):
  ai x7 uX [sv,.func (.func rR) #[] #[]] w λv w'=>v= .bool (decide (¬∀x∈l,ic x))/\Ext w w':=by
 refine aw func186 ?_;refine (Kr h).mono ?_;rintro _ J _ ⟨a,n,rfl,e⟩;simp only[cY];exact⟨by congr 1;simp only[e],a⟩
abbrev Told:=List (Λ×Int)
def jK (p:Λ×Int):x1×x1:=(eg (pad p.1),Δ p.2)
def eM (w:x3) (g m:Nat) (ad:Λ) (k o:Int) (D:Told):Prop:=
 (∃sv gs,ab w g fw [sv,Δ k,Δ o,.map (σ m)]/\ap .i64 ah w gs sv ad)/\c5 w m (D.map jK)/\b5 ad/\cw o k/\ ∀p∈D,dq ad p.1/\cw p.2 k/\p.2≠o
theorem eM.ext {g:Nat} {o:Int} {D:Told} (h:eM w g m ad k o D) (a:Ext w w'):eM w' g m ad k o D:=by
 obtain⟨⟨sv,gs,h1,e⟩,f,j⟩:=h;exact⟨⟨sv,gs,h1.ext a,e.ext a⟩,f.ext a,j⟩
theorem vI {t:Λ} (I:b5 ad) (h:dq ad t):t.length=ad.length/\ ∀x∈t,0<=x/\x<32:=by
 obtain⟨h1,f⟩:=nH.1 h;refine⟨h1.symm,λx j=>?_⟩;obtain⟨i,hi,rfl⟩:=List.getElem_of_mem j;obtain⟨a,e⟩:=aI (l:=ad) (i:=i) Ω;have p:=f i a _ e (x6 hi);have q:=(I.2 a (x5 e)).2;omega
theorem ql {t:Λ} (I:b5 ad) (h:dq ad t):k2 (pad t):=by
 obtain⟨h1,a⟩:=vI I h;exact Kn (by rw[h1];exact I.1) a
theorem eM.oX {g:Nat} {o:Int} {D:Told} (h:eM w g m ad k o D):∀p∈D.map jK,∃l,keyOf x7 cE p.1=σ l:=λp a=>by
 obtain⟨q,e,rfl⟩:=n9.1 a;exact vH (ql h.2.2.1 (h.2.2.2.2 q e).1)
theorem Bj {s t:Λ} (I:dq ad s) (a:dq ad t) (h:eg (pad s)=eg (pad t)):s=t:=
 Ko ((sk I).symm.trans (sk a)) (Kl h)
theorem eM.nodup {g:Nat} {o:Int} {D:Told} (h:eM w g m ad k o D):(D.map (·.1)).Nodup:=by
 have e:=h.2.1.nodup;rw[S8] at e;refine List.Pairwise.of_map (S:=λa b=>a≠b) (λt=>eg (pad t)) (λa b h he=>h (by rw[he])) ?_;rw[S8];exact e
def Ks (w:x3) (l:Λ) (k o:Int) (v:x1) (w':x3):Prop:=
 Ext w w'/\(¬b5 l->v= .tuple #[.pointer ν,Δ 1])/\(b5 l->¬cw o k->v= .tuple #[.pointer ν,Δ 3])/\
  (b5 l->cw o k-> ∃g m,v= .tuple #[Γ g,Δ 0]/\w.heap.size<=g/\w.heap.size<=m/\eM w' g m l k o [])
theorem Bk {o:Int} (h:aH .i64 w sv l):ai x7 ox [sv,Δ k,Δ o] w (Ks w l k o):=by
 refine aw func146 ?_;refine aU (λv J=>Ext w J/\ ∃c,v= .bool c/\(c=true↔¬b5 l)) ?_ ?_
 .rintro _ J ⟨e,c,rfl,f⟩;rw[bY];refine⟨λs=>⟨e,λ_=>rfl,λh=>absurd h (f.1 s),λh=>absurd h (f.1 s)⟩,λz=>?_⟩;have I:b5 l:=Classical.byContradiction λh=>by have:=f.2 h;rw[z] at this;cases this
  have G:=I.1;refine jG.mono ?_;rintro _ U _ ⟨rfl,a⟩;by_cases hi:cw o k
  rotate_left
  .simp only[hi,decide_false,bG,W5,bS];exact⟨e.trans a,λh=>absurd I h,λ_ _=>rfl,λ_ h=>absurd h hi⟩
  simp only[hi,decide_true,bG,Y4,aY];refine (kV ((h.ext e).ext a) Ω).mono ?_;rintro aM H _ ⟨x,A,K,hm⟩;have L:=hm.ls.cells;refine sE λm M N j B=>?_;rw[dp (cs:=#[aM,Δ k,Δ o,.map (σ m)]) (by obtain⟨_,_,_,_,_,rfl,_⟩:=hm.ls;kernel_rfl)];refine bm λg O P q C=>?_;have Q:=e.size;have R:=a.size;have S:=x.size;have V:=j.size;exact⟨((((e.trans a).trans x).trans j).trans q),λh=>absurd I h,λ_ h=>absurd hi h,λ_ _=>⟨g,m,rfl,Ω,Ω,⟨aM,A,C,(hm.ext j).ext q⟩,B.ext q,I,hi,λp E=>by cases E⟩⟩
 .intro av y;rw[aX am.u h];simp only[bT,aj];refine⟨λW=>y _ _ ⟨Ext.refl _,true,rfl,λ_ I=>by have:=I.1;omega,λ_=>rfl⟩,λX=>?_⟩;refine (Bi h).mono ?_;rintro _ U _ ⟨rfl,a⟩;refine y _ _ ⟨a,_,rfl,?_⟩;rw[decide_eq_true_eq];exact⟨λr I=>r I.2,λr I=>r ⟨Ω,I⟩⟩
def iP (t:Λ) (i:Nat):Λ:=t.take i++p9 (6-i) 0
theorem Kt {t:Λ} {i:Nat} (hi:i<=t.length) (a:t.length<=6):(iP t i).length=6:=by simp[iP];omega
theorem Ku {t:Λ} {i:Nat} {x:Int} (a:t[i]? =σ x) (f:t.length<=6):(iP t i).set i x=iP t (i+1):=by
 have hi:=(x4.1 a).1;unfold iP;have e:(t.take i).length=i:=by rw[j5];omega
 rw[T2 _ _ Ω,e,U1,u9,a];have:6-i=(6-(i+1))+1:=Ω
 rw[this,List.replicate_succ];simp
theorem Kv (t:Λ):iP t t.length=pad t:=by simp[iP,pad]
def Bl (w:x3) (ad t:Λ) (v:x1) (w':x3):Prop:=Ext w w'/\ ∃ks e,v= .tuple #[eg ks,Δ e]/\ks.length=6/\(dq ad t->ks=pad t/\e=0)/\(¬dq ad t->e=3)
theorem Kw {g:Nat} {t:Λ} {o:Int} {D:Told} {aM:x1} (h:eM w g m ad k o D) (H:aH .i64 w aM t):ai x7 H0 [Γ g,aM] w (Bl w ad t):=by
 obtain⟨⟨sv,gs,K,hm⟩,_,I,_⟩:=h;have aG:=I.1;refine aw func187 ?_;refine bB cE.i λB J aJ X C=>?_;refine bB cE.i λan U aK L M=>?_;have y:=X.trans L;have aL:=X.size;have aN:=L.size;have aQ:=C.lt;have aS:=M.lt;have aT:=K.lt;have C:=C.ext L;have ak:=K.ext y;rw[dn eR.u];simp only[Z5,aY];have N:∀ {f:x3} {ks:Λ} {e:Int},Ext w f->ab f an cE (ints .i8 ks)->ab f B cE sG->ks.length=6->(dq ad t->ks=pad t/\e=0)->(¬dq ad t->e=3)->
   aa x7 (u5 cE (Γ an)) f λal=>ax x7 (o8 cE (Γ B) al) f λ(_:Unit) O=>aa x7 (do loadVar cE (<-asAddr (Γ B))) O λao=>Bl w ad t (.tuple #[ao,Δ e]) O:=by
  intro f ks e q r z G E P;rw[nK G r.range];refine qk G rfl z λO ap aV aq=>?_;rw[Kp G aq.range];exact⟨q.put ap Ω,ks,e,rfl,G,E,P⟩
 rw[aX am.u (H.ext y),aO fw.p 0 ak rfl,aX am.u (hm.ls.ext y)];simp only[bL,aj];have Y:ints .i8 (iP t 0)=sG:=by simp[iP,sG,ints]
 refine⟨λau=>N y (ks:=iP t 0) (e:=3) (by rw[Y];exact M) C (by simp[iP]) (λE=>absurd (by rw[sk E]) au) (λ_=>rfl),λZ=>?_⟩;have Z:t.length=ad.length:=Ω
 rw[aX am.u (H.ext y)];refine b1.range t.length (λi _ f=>Ext w f/\ab f an cE (ints .i8 (iP t i))/\ab f B cE sG/\ ∀ (j:Nat) (a x:Int),j<i->ad[j]? =σ a->t[j]? =σ x->0<=x/\x<a) Ω
  ⟨y,by rw[Y];exact M,C,λj a x ay=>Ω⟩ ?_ ?_
 .rintro i _ f aA hi ⟨q,r,z,Q⟩ aB;simp only[aR,aj];refine⟨λ_=>?_,λh=>Ω⟩;obtain⟨x,s⟩:=aI (l:=t) hi;obtain⟨a,A⟩:=aI (l:=ad) (i:=i) Ω;have aW:=I.2 a (x5 A);rw[bd am.u ah.i Ψ (H.ext q) s];have ac:=Kt (t:=t) (i:=i) Ω Ω;refine aU (λv aC=>f=aC/\v= .bool (decide (¬(0<=x/\x<a)))) ?_ ?_
  .rintro _ _ ⟨rfl,rfl⟩;simp only[aj];refine⟨λaD=>N q r z ac (λE=>absurd ((nH.1 E).2 i a x A s) aD) (λ_=>rfl),λR=>?_⟩;have R:=Y3.1 R;rw[fj ah.u fN.u,IL Ω Ω,vb cE.u fN.i Ω];refine bo fN.i rfl rfl r (by simp[ac];omega) λaZ ae a1 af=>?_;simp only[aP];refine aB _ _ ⟨q.put ae Ω,?_,z.V ae (by show ¬(B=an);omega),λj a' aE ay S W=>?_⟩
   .have e:(ints .i8 (iP t i)).set (0+i*1) (.int .i8 x)=ints .i8 (iP t (i+1)):=by
     rw[<-Ku s Ω];simp[ints,U3]
    rw[e] at af;exact af
   .by_cases aF:j=i
    .subst aF;rw[A] at S;rw[s] at W;cases S;cases W;exact R
    .exact Q j a' aE Ω S W
  .intro av ag;simp only[aR,aj];refine⟨λa2=>ag _ _ ⟨rfl,by rw[decide_eq_true];omega⟩,λa6=>?_⟩;rw[aO fw.p 0 (K.ext q) rfl,bd am.u ah.i Ψ (hm.ls.ext q) A,cY];refine ag _ _ ⟨rfl,?_⟩;congr 1;exact decide_eq_decide.2 ⟨λh az=>Ω,λh=>Ω⟩
 .rintro _ f aA ⟨q,r,z,Q⟩;simp only[aR,aj];refine⟨λh=>Ω,λ_=>?_⟩;rw[Kv] at r;exact N q r z (by simp[pad];omega) (λ_=>⟨rfl,rfl⟩) (λP=>absurd (nH.2 ⟨Z.symm,λj a x A s=>Q j a x (x4.1 s).1 A s⟩) P)
def ii (D:Told) (o:Int) (t:Λ):Int:=match D.find? (λp=>decide (p.1=t)) with
 |some p=>p.2
 |none=>o
theorem Bm {D:Told} (e:(D.map (·.1)).Nodup) {p q:Λ×Int} (f:p∈D) (r:q∈D) (h:p.1=q.1):p=q:=by
 obtain⟨i,hi⟩:=X4.1 f;obtain⟨j,a⟩:=X4.1 r;have h1:(D.map (·.1))[i]? =σ p.1:=by rw[x8,hi];rfl
 have s:(D.map (·.1))[j]? =σ p.1:=by rw[x8,a,h];rfl
 have:=kq e h1 s;subst this;rw[hi] at a;exact c8 a
theorem qm {D:Told} {o:Int} {t:Λ} (e:(D.map (·.1)).Nodup) (h:(t,c)∈D):ii D o t=c:=by
 unfold ii;cases a:D.find? (λp=>decide (p.1=t)) with
 |none=>
  have:=List.find?_eq_none.1 a _ h;simp at this
 |some p=>
  have h1:=List.find?_some a;have h1:p.1=t:=by simpa using h1
  have:=Bm e (List.mem_of_find?_eq_some a) h h1;rw[this]
theorem qn {D:Told} {o:Int} {t:Λ} (h:∀p∈D,p.1≠t):ii D o t=o:=by
 unfold ii;cases a:D.find? (λp=>decide (p.1=t)) with
 |none=>rfl
 |some p=>
  have h1:=List.find?_some a;have h1:p.1=t:=by simpa using h1
  exact absurd h1 (h p (List.mem_of_find?_eq_some a))
def k3 (D:Told) (t:Λ) (c o:Int) (D':Told):Prop:=(∀p,p∈D'↔(c≠o/\p=(t,c))\/(p∈D/\p.1≠t))/\D'.length<=D.length+1
theorem k3.cost {D D':Told} {t:Λ} {o:Int} (h:k3 D t c o D') (r:(D.map (·.1)).Nodup) (f:(D'.map (·.1)).Nodup) (s:Λ):ii D' o s=if s=t then c else ii D o s:=by
 by_cases I:s=t
 .subst I;rw[if_pos rfl];by_cases j:c=o
  .subst j;exact qn λp a he=>by
    rcases (h.1 p).1 a with e|e
    .exact e.1 rfl
    .exact e.2 he
  .exact qm f ((h.1 _).2 (.inl ⟨j,rfl⟩))
 .rw[if_neg I];by_cases he:∃p∈D,p.1=s
  .obtain⟨p,a,rfl⟩:=he;rw[qm (c:=p.2) r a];exact qm f ((h.1 _).2 (.inr ⟨a,I⟩))
  .have q:∀p∈D,p.1≠s:=λp a h=>he ⟨p,a,h⟩;rw[qn q];exact qn λp a e=>by
    rcases (h.1 p).1 a with⟨_,rfl⟩|⟨w,_⟩
    .exact I e.symm
    .exact q p w e
theorem Kx {D:Told} {t:Λ} {o v0:Int} (q:(D.map (·.1)).Nodup) (f:D[j]? =σ (t,v0)) (r:c≠o):k3 D t c o (D.set j (t,c)):=by
 have h:=(x4.1 f).1;refine⟨λp=>⟨λa=>?_,λa=>?_⟩,Ξ⟩
 .obtain⟨i,hi⟩:=X4.1 a;by_cases e:j=i
  .subst e;rw[j4 h] at hi;exact .inl ⟨r,(c8 hi).symm⟩
  .rw[Y0 e] at hi;refine .inr ⟨x5 hi,λhe=>e ?_⟩;exact kq q (x:=t) (by rw[x8,f];rfl) (by rw[x8,hi,Z4,he])
 .rcases a with⟨_,rfl⟩|⟨a,s⟩
  .exact x5 (j4 h)
  .obtain⟨i,hi⟩:=X4.1 a;have e:j≠i:=λhe=>by subst he;rw[f] at hi;cases hi;exact s rfl
   exact x5 (by rw[Y0 e];exact hi)
theorem Bn {D:Told} {t:Λ} {o:Int} (a:∀p∈D,p.1≠t) (e:c≠o):k3 D t c o (D++[(t,c)]):=by
 refine⟨λp=>?_,Ξ⟩;rw[l7,l9];exact⟨λh=>h.elim (λh=>.inr ⟨h,a p h⟩) (λh=>.inl ⟨e,h⟩),λh=>h.elim (λh=>.inr h.2) (λh=>.inl h.1)⟩
theorem Ky {D:Told} {t:Λ} {o v0:Int} (f:(D.map (·.1)).Nodup) (e:D[j]? =σ (t,v0)):k3 D t o o (D.eraseIdx j):=by
 refine⟨λp=>⟨λa=>?_,λa=>?_⟩,by have:=List.length_eraseIdx_le D j;omega⟩
 .refine .inr ?_;obtain⟨i,q,hi⟩:=List.mem_eraseIdx_iff_getElem?.1 a;refine⟨x5 hi,λhe=>q ?_⟩;exact kq f (x:=t) (by rw[x8,hi,Z4,he]) (by rw[x8,e];rfl)
 .rcases a with⟨h,_⟩|⟨a,r⟩
  .exact absurd rfl h
  .obtain⟨i,hi⟩:=X4.1 a;exact List.mem_eraseIdx_iff_getElem?.2 ⟨i,λhe=>by subst he;rw[e] at hi;cases hi;exact r rfl,hi⟩
theorem Kz {D:Told} {t:Λ} {o:Int} (a:∀p∈D,p.1≠t):k3 D t o o D:=
 ⟨λp=>⟨λh=>.inr ⟨h,a p h⟩,λh=>h.elim (λh=>absurd rfl h.1) (λh=>h.1)⟩,Ω⟩
theorem Bo {g:Nat} {t:Λ} {o:Int} {D:Told} (h:eM w g m ad k o D) (f:dq ad t) (a:(D.map jK)[j]? =σ (eg (pad t),v)):∃c,D[j]? =σ (t,c)/\v=Δ c:=by
 rw[x8] at a;obtain⟨p,e,he⟩:=Y7.1 a;have h1:=Bj (h.2.2.2.2 p (x5 e)).1 f (congrArg Prod.fst he);exact⟨p.2,by rw[e,<-h1],(congrArg Prod.snd he).symm⟩
theorem Bp {g:Nat} {t:Λ} {o:Int} {D:Told} (h:eM w g m ad k o D) (a:∀p∈D.map jK,p.1≠eg (pad t)):∀p∈D,p.1≠t:=λp e he=>a (jK p) (n9.2 ⟨p,e,rfl⟩) (by rw[jK,he])
def KA (w:x3) (g m:Nat) (ad t:Λ) (k o c:Int) (D:Told) (v:x1) (w':x3):Prop:=
 (¬(dq ad t/\cw c k)->v=Δ 3/\Ext w w')/\(dq ad t/\cw c k->v=Δ 0/\ae (λr=>r=m) w w'/\ ∃D',k3 D t c o D'/\eM w' g m ad k o D')
theorem Bq {g:Nat} {t:Λ} {o:Int} {D:Told} {aM:x1} (h:eM w g m ad k o D) (ag:aH .i64 w aM t):ai x7 HB [Γ g,aM,Δ c] w (KA w g m ad t k o c D):=by
 refine aw func147 ?_;refine (Kw h ag).mono ?_;rintro _ J _ ⟨Y,ks,e,rfl,N,ah,ak⟩;rw[bx,bz];refine bB cE.i λan U aF Z aa=>?_;refine qk N rfl aa λO al aG ab=>?_;have aI:=Y.size;have aJ:=Z.size;have aK:=aa.lt;have H:Ext w O:=(Y.trans Z).put al Ω;refine aU (λv P=>v=Δ 0/\(dq ad t/\cw c k)/\ae (λr=>r=m) w P/\ ∃D',k3 D t c o D'/\eM P g m ad k o D') ?_ ?_
 .rintro _ P ⟨_,h1,E⟩;exact⟨λh=>absurd h1 h,λ_=>⟨rfl,E⟩⟩
 intro av am;simp only[bL,aj];by_cases A:dq ad t
 rotate_left
 .have he:=ak A;subst he;exact⟨λ_=>⟨λ_=>⟨rfl,H⟩,λh=>absurd h.1 A⟩,λh=>by simp at h⟩
 obtain⟨rfl,rfl⟩:=ah A;refine⟨λh=>absurd rfl h,λ_=>?_⟩;have x:=h.ext H;obtain⟨⟨sv,gs,y,hm⟩,K,I,ao,ap⟩:=id x;rw[aO fw.p 1 y rfl];refine jG.mono ?_;rintro _ aq _ ⟨rfl,z⟩;have au:=H.trans z;by_cases hi:cw c k
 rotate_left
 .simp only[hi,decide_false,bG,W5,bS];exact⟨λ_=>⟨rfl,au⟩,λh=>absurd h.2 hi⟩
 simp only[hi,decide_true,bG,Y4,aY];rw[aO fw.p 2 (y.ext z) rfl];simp only[bh,aj,eo];have ac:=vH (ql I A);have ax:∀ {D':Told},k3 D t c o D'-> ∀p∈D',dq ad p.1/\cw p.2 k/\p.2≠o:=λhu p ay=>by
  rcases (hu.1 p).1 ay with⟨C,rfl⟩|⟨h1,_⟩
  .exact⟨A,hi,C⟩
  .exact ap p h1
 have L:∀ {G B:x3} {D':Told},Ext aq G->ae (λr=>r=m) G B->c5 B m (D'.map jK)->k3 D t c o D'->av (Δ 0) B:=by
  intro G B D' f q aA hu;have aB:g≠m:=λhe=>by
   obtain⟨aC,aD,az,_⟩:=K;have y:O.heap[g]? =_:=y;rw[he,az] at y;cases y
  have aE:∀r,leads sv r->r≠m:=λr af he=>by
   subst he;obtain⟨aC,aD,az,_⟩:=K;obtain⟨_,⟨rfl,_⟩|⟨cap,cs,rfl,M,_⟩⟩:=hm
   .obtain⟨a,n,c,h1,_⟩:=af;cases h1
   .obtain⟨a,n,c,h1,E⟩:=af;cases h1;have M:O.heap[gs]? =_:=M;have E:gs=r:=E;rw[E,az] at M;cases M
  have Q:=z.trans f;exact am _ _ ⟨rfl,⟨A,hi⟩,((H.trans Q).V _).trans q,D',hu,⟨sv,gs,(y.ext Q).V q aB,bn (hm.ext Q) q aE⟩,aA,I,ao,ax hu⟩
 refine⟨λC G f _ _=>?_,λC G f _ _=>?_⟩
 .rw[aO fw.p 3 ((y.ext z).ext f) rfl,nK N ((ab.ext z).ext f).range];subst C;refine Ki iD.u keys ((K.ext z).ext f) x.oX ac (λj v0 B R s q=>?_) (λB S s q=>?_)
  .obtain⟨gV,W,_⟩:=Bo x A R;rw[mE] at s;exact L f q s (Ky x.nodup W)
  .exact L f q s (Kz (Bp x S))
 .rw[aO fw.p 3 ((y.ext z).ext f) rfl,nK N ((ab.ext z).ext f).range];refine qj iD.u keys ((K.ext z).ext f) x.oX ac (λj v0 B R s q=>?_) (λB S s q=>?_)
  .obtain⟨gV,W,_⟩:=Bo x A R;have X:(D.map jK).set j (eg (pad t),Δ c)=(D.set j (t,c)).map jK:=by rw[U3];rfl
   rw[X] at s;exact L f q s (Kx x.nodup W C)
  .have X:D.map jK++[(eg (pad t),Δ c)]=(D++[(t,c)]).map jK:=by rw[j6];rfl
   rw[X] at s;exact L f q s (Bn (Bp x S) C)
theorem KB {g:Nat} {t:Λ} {o:Int} {D:Told} {b:Bool} (h:eM w g m ad k o D) (e:dq ad t)
  (h1:∀c,(t,c)∈D->K (if b then .tuple #[Δ c,.bool true] else Δ c)) (s:(∀p∈D,p.1≠t)->K (if b then .tuple #[Δ 0,.bool false] else Δ 0)):
  aa x7 (Instr.lookup iD (.map (σ m)) (eg (pad t)) b) w K:=by
 have f:=vH (ql h.2.2.1 e);by_cases he:∃p∈D,p.1=t
 .obtain⟨p,a,rfl⟩:=he;obtain⟨j,x⟩:=X4.1 a;rw[qi iD.u keys h.2.1 h.oX f (j:=j) (v:=Δ p.2) (by rw[x8,x];rfl)];exact h1 p.2 a
 .have r:∀p∈D,p.1≠t:=λp a h=>he ⟨p,a,h⟩;rw[sF iD.u keys ⟨_,_,al.i⟩ h.2.1 h.oX f (λq y hk=>by
   obtain⟨p,a,rfl⟩:=n9.1 y;exact r p a (Bj (h.2.2.2.2 p a).1 e hk))]
  exact s r
theorem KC {g:Nat} {o:Int} {D:Told} (h:eM w g m ad k o D):ai x7 H3 [Γ g] w λv w'=>v=Δ D.length/\Ext w w':=by
 obtain⟨⟨sv,gs,a,hm⟩,e,_⟩:=h;refine aw func192 ?_;rw[dn eR.u];simp only[Z5,aY];rw[aO fw.p 3 a rfl,Kj iD.u e];exact⟨Ξ,Ext.refl _⟩
theorem KD {g:Nat} {o:Int} {D:Told} (h:eM w g m ad k o D):ai x7 Iz [Γ g] w λv w'=>v=Δ k/\Ext w w':=by
 obtain⟨⟨sv,gs,a,hm⟩,_⟩:=h;refine aw func248 ?_;rw[dn eR.u];simp only[Z5,aY];rw[aO fw.p 1 a rfl];exact⟨rfl,Ext.refl _⟩
theorem vJ {g:Nat} {o:Int} {D:Told} (h:eM w g m ad k o D):ai x7 H4 [Γ g] w λv w'=>Ext w w'/\ ∃a,w.heap.size<=a/\ap .i64 ah w' a v ad:=by
 obtain⟨⟨sv,gs,e,hm⟩,_,I,_⟩:=h;have f:=I.1;refine aw func193 ?_;rw[dn eR.u];simp only[Z5,aY];rw[aO fw.p 0 e rfl];exact kV hm.ls Ω
theorem KE {g:Nat} {o:Int} {D:Told} (h:eM w g m ad k o D):ai x7 IA [Γ g] w λv w'=>v=Δ ad.length/\Ext w w':=by
 refine aw func249 ?_;refine (vJ h).mono ?_;rintro v J _ ⟨a,e,_,hm⟩;rw[aX am.u hm.ls];exact⟨rfl,a⟩
end Go.Proofs.YtjjhhcfgfdepdaaGreatDoor
namespace Go.Vc
open Go Go.RowKit
set_option maxRecDepth 100000
def leadsTo (v:x1) (r:Nat):Prop:=∃a n c,v= .slice (σ a) n c/\a.block=r
theorem e8 (h:leadsTo (.slice ν 0 0) r):False:=by
 obtain⟨a,n,c,h,_⟩:=h;cases h
section
variable {α:Type} {f:α->List x1} {k:Nat}
theorem ij:∀ {L:List α},(∀a∈L,(f a).length=k)->(L.flatMap f).length=L.length*k
 |[],_=>Ξ
 |a::L,h=>by
  rw[Y6,p8,h a (.head _),ij λb e=>h b (.tail _ e),Z0,V9];omega
theorem qo:∀ {L:List α} (i:Nat),(∀a∈L,(f a).length=k)->(L.flatMap f).take (i*k)=(L.take i).flatMap f
 |[],i,_=>Ξ
 |a::L,0,_=>Ξ
 |a::L,i+1,h=>by
  have e:=h a (.head _);rw[Y6,List.take_succ_cons,Y6,<-qo i λb j=>h b (.tail _ j),V9,Nat.one_mul,Nat.add_comm,List.take_append,e];congr 1
  .exact o9 Ω
  .congr 1;omega
theorem sH:∀ {L:List α} (i:Nat),(∀a∈L,(f a).length=k)->(L.flatMap f).drop (i*k)=(L.drop i).flatMap f
 |[],i,_=>Ξ
 |a::L,0,_=>Ξ
 |a::L,i+1,h=>by
  have e:=h a (.head _);rw[Y6,List.drop_succ_cons,<-sH i λb j=>h b (.tail _ j),V9,Nat.one_mul,Nat.add_comm,List.drop_append,e];rw[List.drop_of_length_le Ω,List.nil_append];congr 1;omega
theorem oY {L:List α} {i:Nat} {a:α} (h:∀a∈L,(f a).length=k) (hi:L[i]? =σ a) (e:(f a)[j]? =σ v):(L.flatMap f)[i*k+j]? =σ v:=by
 have q:=(x4.1 e).1;rw[<-List.getElem?_drop,sH i h];have p:=x4.1 hi;rw[X7 p.1,p.2,Y6,Z8 q];exact e
theorem vK {L:List α} {i:Nat} {a:α} (h:∀a∈L,(f a).length=k) (e:(f a).length=k) (hi:i<L.length):over (L.flatMap f) (i*k) (f a)=(L.set i a).flatMap f:=by
 have p:=ij h;have j:(i+1)*k<=L.length*k:=Y9 _ hi;rw[V9,Nat.one_mul] at j;rw[mu Ω,e,qo i h,show i*k+k=(i+1)*k by rw[V9,Nat.one_mul],sH (i+1) h,List.set_eq_take_append_cons_drop,if_pos hi,List.flatMap_append,Y6,c9]
theorem sI {vs:List x1} {o:Nat} (h1:o+vs.length<=m) (a:m<=cs.length):(over cs o vs).take m=over (cs.take m) o vs:=by
 rw[mu Ω,mu (by rw[j5];omega),c9,c9,List.take_append,List.take_append,List.take_take,List.take_take,List.drop_take,j5];rw[show min m o=o by omega,show min o m=o by omega,show min o cs.length=o by omega,o9 (l:=vs) Ω];congr 3;omega
def bg (f:α->List x1) (k:Nat) (e:r9) (w:x3) (g:Nat) (v:x1) (L:List α):Prop:=bQ w g e k v L.length (L.flatMap f)/\ ∀a∈L,(f a).length=k
variable {P:W3} {w:x3} {e:r9} {g:Nat} {v:x1} {L:List α}
theorem bg.nil (f:α->List x1) (k:Nat) (e:r9) (w:x3) (g:Nat):bg f k e w g (.slice ν 0 0) []:=⟨bQ.nil w g e k,λa h=>by cases h⟩
theorem bg.leads (h:bg f k e w g v L) (j:leadsTo v r):r=g/\g<w.heap.size:=by
 obtain⟨_,⟨rfl,_⟩|⟨cap,cs,rfl,p,_⟩⟩:=h.1
 .exact (e8 j).elim
 .obtain⟨a,n,c,h1,q⟩:=j;cases h1;exact⟨q.symm,p.lt⟩
theorem bg.V (h:bg f k e w g v L) (a:ae S w w') (j:∀r,leadsTo v r->¬S r):bg f k e w' g v L:=
 ⟨⟨h.1.1,h.1.2.imp id λ⟨cap,cs,h1,p,q⟩=>⟨cap,cs,h1,p.V a (j g ⟨_,_,_,h1,rfl⟩),q⟩⟩,h.2⟩
theorem bg.ext (h:bg f k e w g v L) (a:Ext w w'):bg f k e w' g v L:=h.V (a.V λ_=>False) λ_ _ h=>h
theorem bg.sl (h:bg f k e w g v L):bX w k v L.length (L.flatMap f):=h.1.sl
theorem bg.le (h:bg f k e w g v L):L.length<=9223372036854775807:=by
 have:=bX.le h.sl;simpa[maxLen] using this
theorem eD {a:r9} (j:P.underlying t=σ (.slice e)) (h:bg f k e w g v L):aa P (W7 #[t] a #[v]) w K=K (Δ L.length):=by
 obtain⟨_,_,_,_,_,rfl,_⟩:=h.sl;exact h5 j
theorem de {q:o6} {b:Nat} {i:Nat} (a:y=(i:Int)) (j:P.underlying t=σ (.slice e)) (hi:aN P e k b z) (h:bg f k e w g v L) (p:i<L.length):
  aa P (c7 t v (.int q y)) w K=K (.pointer (σ ⟨g,i*k,ν⟩)):=by
 subst a;obtain⟨_,⟨rfl,r⟩|⟨cap,cs,rfl,s,x⟩⟩:=h.1
 .omega
 .rw[fx j hi p (λ_=>rfl),X5]
theorem bg.range {i:Nat} {a:α} (h:bg f k e w g v L) (hi:L[i]? =σ a):w.rangeAt g (i*k) (f a):=λj u hu=>by
 have h1:=oY h.2 hi hu;have s:=(x4.1 hi).1;obtain⟨_,⟨rfl,x⟩|⟨cap,cs,rfl,q,_,_,y,r⟩⟩:=h.1
 .omega
 .have p:=(x4.1 h1).1;rw[ij h.2] at p;rw[<-r,Y8 p] at h1;exact q.cell h1
theorem KF {b:Nat} {i:Nat} {a:α} {K:Unit->x3->Prop} (hi:aN P t k b z) (h:bg f k e w g v L) (j:(f a).length=k) (h1:∀u∈f a,u.oneCell'=true) (s:i<L.length)
  (A:∀w',ae (λr=>leadsTo v r) w w'->w'.heap.size=w.heap.size->bg f k e w' g v (L.set i a)->K () w'):ax P (o8 t (.pointer (σ ⟨g,i*k,ν⟩)) (.agg (f a).toArray)) w K:=by
 have M:=ij h.2;have B:(i+1)*k<=L.length*k:=Y9 _ s;rw[V9,Nat.one_mul] at B;obtain⟨⟨N,⟨rfl,O⟩|⟨cap,cs,rfl,C,x,E,y,F⟩⟩,p⟩:=h
 .omega
 .have G:L.length*k<=cs.length:=by rw[y];exact Y9 _ x
  refine zx hi j h1 C Ω λw' H I J=>A w' (H.mono λr _ he=>⟨_,_,_,rfl,he.symm⟩) I ⟨⟨?_,.inr ⟨cap,_,Ξ,J,by simpa using x,E,by rw[mr,y],?_⟩⟩,λb q=>?_⟩
  .rw[ij (L:=L.set i a) λb q=>by
    rcases X6 q with h|rfl
    .exact p b h
    .exact j]
  .rw[Z2,<-vK p j s,<-F,sI (by rw[j];omega) G]
  .rcases X6 q with h|rfl
   .exact p b h
   .exact j
theorem oZ {b:Nat} {u:x1} {i:Nat} {a a':α} {K:Unit->x3->Prop} (hi:aN P t 1 b z) (hu:u.cells= #[u]) (h1:u.oneCell'=true) (h:bg f k e w g v L) (s:L[i]? =σ a) (A:f a'=(f a).set j u) (W:j<k)
  (M:∀w',ae (λr=>leadsTo v r) w w'->w'.heap.size=w.heap.size->bg f k e w' g v (L.set i a')->K () w'):ax P (o8 t (.pointer (σ ⟨g,i*k+j,ν⟩)) u) w K:=by
 have B:=(x4.1 s).1;have X:=ij h.2;have N:(i+1)*k<=L.length*k:=Y9 _ B;rw[V9,Nat.one_mul] at N;have O:(f a).length=k:=h.2 a (x5 s);have q:(f a').length=k:=by rw[A,Z2];exact O
 have Q:(L.flatMap f).set (i*k+j) u=(L.set i a').flatMap f:=by
  rw[<-vK h.2 q B];refine Y2 λp=>?_;rw[oD _ _ _ Ω,X1,q];by_cases C:i*k<=p/\p<i*k+k
  .rw[if_pos C,A,X1];by_cases E:i*k+j=p
   .rw[if_pos E,if_pos Ω,if_pos Ω,if_pos Ω]
   .rw[if_neg E,if_neg Ω];obtain⟨y,F⟩:∃y,(f a)[p-i*k]? =σ y:=⟨_,x6 Ω⟩;have:=oY h.2 s F;rw[show i*k+(p-i*k)=p by omega] at this;rw[this,F]
  .rw[if_neg C,if_neg Ω]
 obtain⟨⟨Y,⟨rfl,Z⟩|⟨cap,cs,rfl,R,G,S,H,T⟩⟩,J⟩:=h
 .omega
 .have aa:L.length*k<=cs.length:=by rw[H];exact Y9 _ G
  refine bo hi hu h1 R Ω λw' U I V=>M w' (U.mono λr _ he=>⟨_,_,_,rfl,he.symm⟩) I ⟨⟨?_,.inr ⟨cap,_,Ξ,V,by simpa using G,S,by rw[Z2,H],?_⟩⟩,λb x=>?_⟩
  .rw[ij (L:=L.set i a') λb x=>by
    rcases X6 x with h|rfl
    .exact J b h
    .exact q]
  .rw[Z2,<-Q,<-T,List.take_set]
  .rcases X6 x with h|rfl
   .exact J b h
   .exact q
theorem ik {M:r9} {b:Nat} {x:x1} {a:α} {K:x1->x3->Prop} (A:P.underlying t=σ (.slice e)) (hi:aN P e k b z) (H:z.cells.size=k) (h:bg f k e w g v L) (F:bX w k x 1 (f a)) (h1:∀u∈f a,u.oneCell'=true)
  (B:(L.length+1)*b<=140737488355328) (I:L.length+1<=9223372036854775807)
  (J:∀j p w',bg f k e w' p j (L++[a])->(∀r,leadsTo j r->leadsTo v r\/w.heap.size<=r)->ae (λr=>leadsTo v r) w w'->K j w'):ax P (b8 #[t,t] M #[v,x]) w K:=by
 have N:(f a).length=k:=by have:=F.1;omega
 have C:∀j p w',bQ w' p e k j (L.length+1) (L.flatMap f++f a)->bg f k e w' p j (L++[a]):=λj p w' hm=>⟨by simpa using hm,λb B=>by
  rcases l7.1 B with h'|h'
  .exact h.2 b h'
  .rw[l9.1 h'];exact N⟩
 rcases h.1.2 with⟨q,O⟩|⟨cap,cs,q,Q,_⟩
 .have hm:bQ w w.heap.size e k v L.length (L.flatMap f):=⟨h.1.1,.inl ⟨q,O⟩⟩;subst q;refine lR A A hi H hm F h1 (by simpa using B) (by simpa[maxLen] using I) λj p w' E s G=>J j p w' (C _ _ _ s) (λr y=>.inr ?_) (G.mono λr y h=>Ω);have:=((C _ _ _ s).leads y).1;omega
 .refine lR A A hi H h.1 F h1 (by simpa using B) (by simpa[maxLen] using I) λj p w' E s G=>J j p w' (C _ _ _ s) (λr y=>?_) (G.mono λr y h=>⟨_,_,_,q,h.symm⟩);have:=((C _ _ _ s).leads y).1;rcases E with E|E
  .exact .inl ⟨_,_,_,q,by show g=r;omega⟩
  .exact .inr Ω
theorem KG {p:r9} {b:Nat} {x:x1} {a:α} {K:x1->x3->Prop} (q:P.underlying t=σ (.slice e)) (hi:aN P e k b z) (s:z.cells.size=k) (h:bg f k e w g v L) (y:bX w k x 1 (f a)) (h1:∀a,∀u∈f a,u.oneCell'=true)
  (A:(L.length+1)*b<=140737488355328) (B:L.length+1<=9223372036854775807)
  (C:∀j E w',bg f k e w' E j (L++[a])->(∀r,leadsTo j r->leadsTo v r\/w.heap.size<=r)->ae (λr=>leadsTo v r) w w'->K j w'):ax P (b8 #[t,t] p #[v,x]) w K:=ik q hi s h y (h1 a) A B C
theorem hW {b:Nat} {a:α} {x:x1} {K:x1->x3->Prop} (q:P.underlying t=σ (.slice e)) (hi:aN P e k b z) (B:k<=100000) (j:x.cells=(f a).toArray) (p:(f a).length=k)
  (r:∀v g w',g=w.heap.size->Ext w w'->bg f k e w' g v [a]->K v w'):ax P (Y1 t 1 #[(0,x)]) w K:=
 jj q hi Ω (cs:=x.cells) (zG Ξ (by rw[j];simpa using p)) λg w' s y h=>by
  have h:ab w' g e (f a):=by rw[j] at h;simpa using h
  exact r _ g w' s y ⟨by simpa using bQ.full (k:=k) (n:=1) h Ω (by simp[maxLen]),λc A=>by rw[l9.1 A];exact p⟩
end
end Go.Vc
namespace Go.Proofs.YtjjhhcfgfdepdaaGreatDoor
open Go Go.Vc Go.RowKit Go.Proofs Go.Proofs.Tryz
set_option maxRecDepth 100000
theorem vL {α:Type}:∀ {l:List α} {j:Nat} {x:α},l[j]? =σ x->(x::l.eraseIdx j).Perm l
 |[],j,x,h=>by simp at h
 |a::l,0,x,h=>by simp at h;subst h;exact List.Perm.refl _
 |a::l,j+1,x,h=>by
  simp at h;rw[List.eraseIdx_cons_succ];exact (List.Perm.swap a x _).trans ((vL h).cons a)
theorem Br {α:Type} {l:List α} (h:j<l.length):(l.eraseIdx j).length+1=l.length:=by
 rw[List.length_eraseIdx,if_pos h];omega
def o0 (w:x3) (a:Nat):Nat:=match w.heap[a]? with
 |some (.mapIter (σ m) _ seen _)=>(match w.heap[m]? with
  |some (.map e _)=>(leftOf e seen).size
  |_=>0)
 |_=>0
theorem sJ {d left:List (x1×x1)} {e:Option (x1×x1)} (h:hv w a m d left e):o0 w a=left.length:=by
 obtain⟨j,p,seen,gV,h1,_,_,f,_,rfl,_⟩:=h;unfold o0;rw[f];simp only;rw[h1];simp
theorem KH {w0:x3} {d d0 left:List (x1×x1)} {e:Option (x1×x1)} (h:hv w a m d left e) (hm:c5 w0 m d0) (h1:Ext w0 w) (j:Ext w0 w') (hi:eW w w'):hv w' a m d left e:=by
 obtain⟨p,c,s,gV,q,r,x,y,z⟩:=h;obtain⟨A,B,f1,_⟩:=hm;have g1:=h1.aW m _ f1 rfl;have f:=j.aW m _ f1 rfl;rw[q] at g1;rw[<-g1] at f;exact⟨p,c,s,gV,f,r,x,hi a _ y rfl,z⟩
abbrev nL (w:x3) (g:Nat) (v:x1) (L:List (Λ)):Prop:=bg (ints .i8) 6 cE w g v L
theorem Bs {k:o6}:∀u∈ints k l,u.oneCell'=true:=λu hu=>by
 obtain⟨x,_,rfl⟩:=n9.1 hu;rfl
theorem keysIter {di:Nat} {d:List (x1×x1)} {KS:List (Λ)} {w0:x3} (R:ab w0 di iD [.map (σ m)]) (hm:c5 w0 m d) (S:d.map (·.1)=KS.map eg) (V:∀ks∈KS,ks.length=6):
  oo x7 true lM [Γ di] ([]:List (Λ)) (λh=>h.Perm KS) (λh vs h' _=>∃ks∈KS,h.length<KS.length/\vs=[eg ks]/\h'=h++[ks]) (λw=>Ext w0 w):=by
 refine⟨lM.enters,λl av aF w f _ W q X=>?_⟩;refine pQ func246 ?_;rw[aB Ψ ((R.ext q).Qz rfl)];refine ax.ct (Bc iD.u (hm.ext q) λB J Y r aG Z aa=>?_);refine⟨λU=>∃h a left C,av h U/\Ext w0 U/\w.heap.size<=U.heap.size/\hv U B m d left C/\left.map (·.1)=a.map eg/\(h++a).Perm KS,λU=>o0 U B,
  ⟨[],KS,d,ν,f _ _ _ r aa.b X,q.trans r,r.size,Z,S,List.Perm.refl _⟩,?_⟩
 rintro U ⟨h,a,left,C,E,ac,aH,G,s,e⟩;have ad:left.length=a.length:=by have:=congrArg T1 s;simpa using this
 refine Be G (λh=>by cases h) (λae=>?_) (λj p af H I ag K=>?_)
 .rw[iF (v:=.bool false) rfl,aY];subst ae;have:a=[]:=b9 (by rw[<-ad];rfl);subst this;rw[X9] at e;exact .inl ⟨h,e,E⟩
 .rw[iF (v:=.bool true) rfl,bS];refine Bf K ?_;obtain⟨ks,x,ah⟩:∃ks,a[j]? =σ ks/\p.1=eg ks:=by
   have h1:(left.map (·.1))[j]? =σ p.1:=by rw[x8,H];rfl
   rw[s,x8] at h1;obtain⟨ks,L,ai⟩:=Y7.1 h1;exact⟨ks,L,ai.symm⟩
  have M:ks∈KS:=e.mem_iff.1 (l7.2 (.inr (x5 x)));have N:=V ks M;rw[iF (v:=p.1) rfl,ah];refine ax.ct (bB cE.i λaI aJ aK aj ak al=>?_);refine ax.ct (qk N rfl ak λy am aL an ao=>?_);rw[nK N an.range];have z:Ext af y:=aj.put am Ω;have O:=al.trans ao;have P:Ext w0 y:=(ac.trans I).trans z;have ap:=f _ _ _ I (by rw[<-Y];exact ag) E;have aq:=f _ _ _ z O.b ap;have au:=K.ext z O.j7;have aw:h.length<KS.length:=by
   have h1:=e.length_eq;have L:=(x4.1 x).1;rw[p8] at h1;omega
  refine⟨rfl,(W h (h++[ks]) _ y P ⟨ks,M,aw,rfl,rfl⟩ aq).mono ?_⟩;rintro _ ay (⟨rfl,Q,az,aA⟩|⟨rfl,aC⟩)
  .simp only[bG,Y4,aY];have A:=KH au hm P Q (aA rfl).j7;have aD:w.heap.size<=ay.heap.size:=by
    obtain⟨_,_,_,_,_,_,_,aE,_⟩:=A;have:=(j0.1 aE).1;omega
   refine⟨⟨h++[ks],a.eraseIdx j,left.eraseIdx j,σ p,az,Q,aD,A,?_,?_⟩,?_⟩
   .rw[<-mE,s,mE]
   .refine List.Perm.trans ?_ e;rw[c9];exact List.Perm.append_left h (vL x)
   .rw[sJ A,sJ G];have:=Br (x4.1 H).1;omega
  .simp only[bG,W5,bS];exact .inr ⟨h,aC⟩
theorem KI:ai x7 Ii [.map (σ m)] w λr w'=>Ext w w'/\ ∃g,r= .func (.func lM) #[] #[Γ g]/\w.heap.size<=g/\ab w' g iD [.map (σ m)]:=by
 refine aw func216 ?_;refine bm λg J f a e=>?_;rw[mq];exact⟨a,g,rfl,Ω,e⟩
theorem KJ {di:Nat} {d:List (x1×x1)} {KS:List (Λ)} (Y:ab w di iD [.map (σ m)]) (hm:c5 w m d) (Z:d.map (·.1)=KS.map eg) (G:∀ks∈KS,ks.length=6) (aD:KS.length<=1000000):
  ai x7 IC [.slice ν 0 0,.func (.func lM) #[] #[Γ di]] w λv w'=>Ext w w'/\ ∃g L,(∀r,leadsTo v r->w.heap.size<=r)/\L.Perm KS/\nL w' g v L:=by
 refine jh func259 ?_;refine bm λgs J aE H s=>?_;have s:ab J gs jg [.slice ν 0 0]:=s;have aF:=s.lt;refine lE.old ⟨List (Λ),true,_,_,_,_,_,_,λh w'=>ae (λr=>w.heap.size<=r) w w'/\ ∃v g,ab w' gs jg [v]/\(∀r,leadsTo v r->w.heap.size<=r/\r≠gs)/\nL w' g v h,λ_ _ _=>False,rfl,keysIter Y hm Z G,?_,λ_ _ j h=>h.trans j,
  λ_ _ _ j h=>⟨h.1.trans (j.V _),by obtain⟨v,g,h1,aa,ac⟩:=h.2;exact⟨v,g,h1.ext j,aa,ac.ext j⟩⟩,λ_ _ _ _ _ h=>h,H,⟨H.V _,_,0,s,λr h=>(e8 h).elim,bg.nil _ _ _ _ _⟩,?_,?_,λ_ _ h=>h.elim,λ_ _ _ h=>h.elim⟩
 .rintro h _ h' w' ⟨ks,_,_,rfl,_⟩;rfl
 .rintro a h h' U ad ⟨ks,af,aG,ag,rfl⟩ ⟨I,v,g,z,p,A⟩;cases ag;have B:=G ks af;have aH:h.length<=1000000:=Ω
  refine ax.ct (bB cE.i λaI aJ aK ah K aj=>?_);refine ax.ct (qk B rfl K λak al aL am an=>?_);intro aM M _ ao;have aN:=K.lt;have ap:Ext U ak:=ah.put al Ω;have q:=ap.trans M;rw[aB Ψ ((z.ext q).Qz rfl),nK B (am.ext M).range];refine ax.ct (hW (f:=ints .i8) (a:=ks) jg.u cE.i Ω (by simp[eg,x1.cells]) (by simp[B]) λa ga aO aP x aq au=>?_);have N:=aq.sl;rw[Y6,List.flatMap_nil,X9] at N;refine ax.ct (KG jg.u cE.i rfl ((A.ext q).ext x) N (λa=>Bs) Ω Ω λO av P C aw y ay=>?_);have aQ:=I.size;have aR:=q.size;have aS:=x.size;have aT:=z.lt;have Q:∀r,leadsTo O r->w.heap.size<=r/\r≠gs:=λr e=>by
   rcases aw r e with h|h
   .exact p r h
   .omega
  have E:ab P gs jg [v]:=((z.ext q).ext x).V y (λh=>(p gs h).2 rfl);refine ax.ct (bo jg.i (by obtain⟨_,_,_,_,_,rfl,_⟩:=C.sl;rfl) (by obtain⟨_,_,_,_,_,rfl,_⟩:=C.sl;rfl) E Ξ λR S aU az aA=>?_);have W:ae (λr=>w.heap.size<=r) U R:=(((q.trans x).V _).trans (y.mono λr _ h=>(p r h).1)).trans (S.mono λr _ h=>by show w.heap.size<=r;omega);refine⟨ad.then W (λr e h=>by have h:w.heap.size<=r:=h;omega),⟨I.trans W,O,av,az,Q,C.V S λr e h=>(Q r e).2 h⟩,λ_=>?_⟩;exact ((((aj.j7.trans an.j7).trans ao).trans au.j7).trans ay.j7).trans aA.j7
 .rintro h P aC ⟨y,v,g,E,p,A⟩;rw[aB Ψ (E.Qz rfl)];intro R X _;exact⟨(y.ext λr e h=>by have:w.heap.size<=r:=h;omega).trans X,g,h,λr e=>(p r e).1,aC,A.ext X⟩
theorem KK {di:Nat} {d:List (x1×x1)} {KS:List (Λ)} (a:ab w di iD [.map (σ m)]) (hm:c5 w m d) (e:d.map (·.1)=KS.map eg) (f:∀ks∈KS,ks.length=6) (j:KS.length<=1000000):
  ai x7 Iw [.func (.func lM) #[] #[Γ di]] w λv w'=>Ext w w'/\ ∃g L,(∀r,leadsTo v r->w.heap.size<=r)/\L.Perm KS/\nL w' g v L:=by
 refine aw func244 ?_;exact (KJ a hm e f j).mono λ_ _ _ h=>h
def gn:Λ->Int
 |[]=>0
 |x::l=>x*32 ^ l.length+gn l
theorem vM (n:Nat):(0:Int)<32 ^ n:=Int.pow_pos Ω
theorem sK:∀ (l:Λ),(∀x∈l,0<=x/\x<32)->0<=gn l/\gn l<32 ^ l.length
 |[],_=>by simp[gn]
 |x::l,h=>by
  have j:=sK l λy a=>h y (.tail _ a);have f:=h x (.head _);have p:=vM l.length;simp only[gn,Z0];have e:(32:Int) ^ (l.length+1)=32*32 ^ l.length:=by rw[Int.pow_succ,Int.mul_comm]
  have h1:x*32 ^ l.length<=31*32 ^ l.length:=Int.mul_le_mul_of_nonneg_right Ω Ω;have q:0<=x*32 ^ l.length:=Int.mul_nonneg f.1 Ω;rw[e];omega
def il:Λ->Λ->Int
 |x::a,y::b=>if x<y then-1 else if y<x then 1 else il a b
 |_,_=>0
theorem Bt:∀ (a b:Λ),a.length=b.length->(∀x∈a,0<=x/\x<32)->(∀x∈b,0<=x/\x<32)->(il a b<0↔gn a<gn b)/\(gn a=gn b->a=b)
 |[],[],_,_,_=>by simp[il]
 |[],_::_,h,_,_=>by simp at h
 |_::_,[],h,_,_=>by simp at h
 |x::a,y::b,h,s,w=>by
  have j:a.length=b.length:=by simpa using h
  have p:∀x∈a,0<=x/\x<32:=λz e=>s z (.tail _ e);have q:∀x∈b,0<=x/\x<32:=λz e=>w z (.tail _ e);have r:=Bt a b j p q;have A:=sK a p;have C:=sK b q;have E:=vM b.length;simp only[il,gn];rw[j] at A ⊢;have step:∀u v:Int,u<v->u*32 ^ b.length+32 ^ b.length<=v*32 ^ b.length:=λu v F=>by
   have:=Int.mul_le_mul_of_nonneg_right (show u+1<=v by omega) (show (0:Int)<=32 ^ b.length by omega);rw[Int.add_mul,Int.one_mul] at this;exact this
  by_cases h1:x<y
  .rw[if_pos h1];have:=step x y h1;exact⟨⟨λ_=>Ω,λ_=>Ω⟩,λh=>Ω⟩
  .rw[if_neg h1];by_cases f:y<x
   .rw[if_pos f];have:=step y x f;exact⟨⟨λh=>Ω,λh=>Ω⟩,λh=>Ω⟩
   .rw[if_neg f];have B:x=y:=Ω
    subst B;exact⟨r.1.trans ⟨λh=>Ω,λh=>Ω⟩,λh=>by rw[r.2 Ω]⟩
theorem vN:∀ {a b:Λ} {i:Nat},(∀ (j:Nat) (x y:Int),j<i->a[j]? =σ x->b[j]? =σ y->x=y)->i<=a.length->i<=b.length->il a b=il (a.drop i) (b.drop i)
 |_,_,0,_,_,_=>Ξ
 |[],_,i+1,_,h,_=>by simp at h
 |_::_,[],i+1,_,_,h=>by simp at h
 |x::a,y::b,i+1,he,h1,e=>by
  have f:=he 0 x y Ω rfl rfl;subst f;simp only[il,Int.lt_irrefl,if_false,List.drop_succ_cons];exact vN (λj u v q hu p=>he (j+1) u v Ω hu p) (by simpa using h1) (by simpa using e)
theorem Bu {x:Int}:ai x7 IB [.int .i8 x] w λv w'=>v= .bool false/\Ext w w':=by
 refine aw func258 ?_;simp only[bL];exact⟨Ξ,Ext.refl _⟩
theorem KL {x:Int}:ai x7 Iv [.int .i8 x,.int .i8 y] w λv w'=>v=Δ (if x<y then-1 else if y<x then 1 else 0)/\Ext w w':=by
 refine aw func243 ?_;refine Bu.mono ?_;rintro _ J _ ⟨rfl,a⟩;refine Bu.mono ?_;rintro _ U _ ⟨rfl,e⟩;simp only[aY,aR,bT,aj];exact⟨λh=>⟨by rw[if_pos h],a.trans e⟩,λh=>⟨λf=>⟨by rw[if_neg h,if_pos f],a.trans e⟩,λf=>⟨by rw[if_neg h,if_neg f],a.trans e⟩⟩⟩
theorem KM {be bv:x1} {a b:Λ} (q:aH .i8 w be a) (s:aH .i8 w bv b) (S:a.length=b.length):ai x7 Ig [be,bv] w λv w'=>v=Δ (il a b)/\Ext w w':=by
 refine aw func214 ?_;have V:=q.le;rw[aX kQ.u q];refine b1.range a.length (λi _ J=>Ext w J/\ ∀ (j:Nat) (x y:Int),j<i->a[j]? =σ x->b[j]? =σ y->x=y) Ω ⟨Ext.refl _,λj x y I=>Ω⟩ ?_ ?_
 .rintro i _ J K hi ⟨e,r⟩ L;simp only[aR,aj];refine⟨λ_=>?_,λh=>Ω⟩;obtain⟨x,z⟩:=aI (l:=a) hi;obtain⟨y,A⟩:=aI (l:=b) (i:=i) Ω;rw[bd kQ.u fN.i Ψ (q.ext e) z,aX kQ.u (s.ext e)];simp only[cY,aj];refine⟨λh=>Ω,λ_=>?_⟩;rw[bd kQ.u fN.i Ψ (s.ext e) A];refine KL.mono ?_;rintro _ U _ ⟨rfl,E⟩;have f:il a b=il (a.drop i) (b.drop i):=vN r Ω Ω;have M:a.drop i=x::a.drop (i+1):=by rw[X7 hi,(x4.1 z).2]
  have N:b.drop i=y::b.drop (i+1):=by rw[X7 Ω,(x4.1 A).2]
  rw[M,N] at f;simp only[il] at f;simp only[bL,aj,aP];refine⟨λG=>⟨?_,e.trans E⟩,λO=>L _ _ ⟨e.trans E,λj P Q I B C=>?_⟩⟩
  .rw[f];by_cases h1:x<y
   .rw[if_pos h1,if_pos h1]
   .by_cases p:y<x
    .rw[if_neg h1,if_pos p,if_neg h1,if_pos p]
    .rw[if_neg h1,if_neg p] at G;exact absurd rfl G
  .by_cases R:j=i
   .subst R;rw[z] at B;rw[A] at C;cases B;cases C;have H:=Y3.1 O;by_cases h1:x<y
    .rw[if_pos h1] at H;omega
    .by_cases p:y<x
     .rw[if_neg h1,if_pos p] at H;omega
     .omega
   .exact r j P Q Ω B C
 .rintro _ J K ⟨e,r⟩;simp only[aR,show decide ((a.length:Int)<(a.length:Int))=false from decide_eq_false Ω,aY];rw[aX kQ.u (q.ext e),aX kQ.u (s.ext e)];simp only[aR,aj];refine⟨λh=>Ω,λ_=>⟨?_,e⟩⟩;have f:il a b=il (a.drop a.length) (b.drop a.length):=vN r Ω Ω;rw[f,List.drop_length];cases b.drop a.length<;>rfl
theorem KN {a b:Λ} (p:k2 a) (q:k2 b):ai x7 zk [eg a,eg b] w λv w'=>Ext w w'/\v=Δ (il a b):=by
 have B:∀ {c:Λ},k2 c->(ints .i8 c).length=6:=λh=>by simp[h.1]
 refine aw func213 ?_;refine bm λg1 J C y e=>?_;refine bm λE U G r f=>?_;rw[Bg] at e f;intro s j _ _;have e:=(e.ext r).ext j;have f:=f.ext j;rw[r3 cE.u fN.i (l:=0) (h:=6) (m:=6) kf kg gg Ω Ω Ω,r3 cE.u fN.i (l:=0) (h:=6) (m:=6) kf kg gg Ω Ω Ω];rw[if_neg Ω,if_neg Ω];have ls:∀ {g:Nat} {c:Λ},k2 c->ab s g cE (ints .i8 c)->aH .i8 s (.slice (σ ⟨g,0+0*1,ν⟩) (6-0) (6-0)) c:=λ{g c} x z=>by
  unfold aH;refine⟨Ξ,g,0,_,6,by rw[x.1],by rw[x.1];omega,by simp[maxLen],λ_=>rfl,z.range⟩
 refine (KM (ls p e) (ls q f) (by rw[p.1,q.1])).mono ?_;rintro _ H _ ⟨rfl,A⟩;exact⟨((y.trans r).trans j).trans A,rfl⟩
end Go.Proofs.YtjjhhcfgfdepdaaGreatDoor
namespace Go.Vc
open Go Go.RowKit Go.Shelf Go.Proofs Go.Sort
theorem grown_of (f:Ext w w') (a:cM w w'):∃q os,w'=grow (w.drewN q) os:=by
 refine⟨w'.drawn-w.drawn,w'.heap.extract w.heap.size w'.heap.size,?_⟩;have hk:∀k,k<w.heap.size->w'.heap[k]? =w.heap[k]?:=λk hk=>by
  have e:w.heap[k]? =σ w.heap[k]:=Array.getElem?_eq_getElem hk;rw[e];cases I:fp w.heap[k] with
  |true=>exact f.aW k _ e I
  |false=>exact a.aW k _ e I
 have az:w'.heap=w.heap++w'.heap.extract w.heap.size w'.heap.size:=by
  apply Array.ext_getElem?;intro k;rw[Array.getElem?_append];by_cases h:k<w.heap.size
  .rw[if_pos h,hk k h]
  .rw[if_neg h,Array.getElem?_extract];have:=f.size;by_cases j:k<w'.heap.size
   .rw[if_pos Ω];congr 1;omega
   .rw[if_neg Ω,Array.getElem?_eq_none Ω]
 have h1:=a.os;have j:=a.tape.1;have p:=a.output;have r:w.drawn+(w'.drawn-w.drawn)=w'.drawn:=by have:=a.tape.2;omega
 cases w';simp only[grow,x3.drewN] at*;subst h1 j p;rw[<-az,r]
section
variable {α:Type} [Inhabited α]
theorem Bv (enc:α->List x1) (k:Nat) (hk:∀x,(enc x).length=k) (d:Array α):(flatK enc k d).toList=d.toList.flatMap enc:=by
 apply Y2;intro t;by_cases h:t<d.size*k
 .have j:0<k:=by
   rcases S4 k with e|e
   .rw[e] at h;simp at h
   .exact e
  have p:t / k<d.size:=(Nat.div_lt_iff_lt_mul j).2 h;have q:=Nat.mod_lt t j;have r:(flatK enc k d).toList[t]? =σ ((enc d[t / k]!)[t % k]!):=by
   rw[S5,Array.getElem?_eq_getElem (by simpa using h)];have:=get_flatK enc k d t h;rw[getElem!_pos _ t (by simpa using h)] at this;rw[this]
  have s:d.toList[t / k]? =σ d[t / k]!:=by
   rw[S5,Array.getElem?_eq_getElem p,getElem!_pos d _ p]
  have w:(enc d[t / k]!)[t % k]? =σ ((enc d[t / k]!)[t % k]!):=by
   generalize d[t / k]! =z;rw[x6 (by rw[hk];exact q),getElem!_pos (enc z) _ (by rw[hk];exact q)]
  have:=oY (f:=enc) (k:=k) (λa _=>hk a) s w;rw[r,<-this];congr 1;rw[Nat.mul_comm];exact Nat.div_add_mod t k
 .rw[Z3 (by simpa using h),Z3];rw[ij (k:=k) λa _=>hk a];simpa using h
theorem Bw (enc:α->List x1) (k:Nat) (hk:∀x,(enc x).length=k) {g:Nat} {d:Array α} {os:Array Obj} (h:ab w g e cs) (y:d.size*k<=cs.length):
  ab (sortWorldK enc k w g 0 m d os) g e (d.toList.flatMap enc++cs.drop (d.size*k))/\ ∀r,r<w.heap.size->r≠g->(sortWorldK enc k w g 0 m d os).heap[r]? =w.heap[r]?:=by
 have q:=h.lt;have p:∀r,r<w.heap.size->(sortWorldK enc k w g 0 m d os).heap[r]? =(w.heap.modify g (onCells (putCells id 0 (flatK enc k d))))[r]?:=λr j=>by
  show ((w.heap.modify g (onCells (putCells id 0 (flatK enc k d))))++os)[r]? =_;rw[Array.getElem?_append_left (by simpa using j)]
 refine⟨?_,λr j s=>?_⟩
 .unfold ab at h ⊢;rw[p g q,Array.getElem?_modify,if_pos rfl,h];show σ (Obj.cells (putCells id 0 (flatK enc k d) cs.toArray) e (0,0))=_;refine congrArg σ (congrArg (λc=>Obj.cells c e (0,0)) ?_);apply Array.ext';apply Y2;intro t;show _=(d.toList.flatMap enc++cs.drop (d.size*k))[t]?;rw[List.getElem?_append,ij (k:=k) λa _=>hk a,S5];unfold putCells;rw[Array.getElem?_mapIdx,List.getElem?_toArray];have I:d.toList.length=d.size:=rfl;by_cases f:t<d.size*k
  .rw[if_pos (by rw[I];exact f),x6 Ω,<-Bv enc k hk,S5,Array.getElem?_eq_getElem (by simpa using f)];simp only[Z4,id];rw[if_pos (by simpa using f),Nat.sub_zero,getElem!_pos _ t (by simpa using f)]
  .rw[if_neg (by rw[I];exact f),List.getElem?_drop,I,show d.size*k+(t-d.size*k)=t by omega];cases z:cs[t]? with
   |none=>rfl
   |some x=>
    simp only[Z4];rw[if_neg Θ]
 .rw[p r j,Array.getElem?_modify,if_neg (S3 s)]
end
theorem Bx {P:W3} {E:Ren} (V:SlLaysF0.n6 P E) {α:Type} {f:α->List x1} {k:Nat} {G:α->Prop} {num:α->Int} {cf:α->α->Int} {F:R3} {cap:Array x1}
  (aA:∀w,(isAgg (E.t 24)).run P w= .ok true w) (aB:∀w,(Go.sizeOf (E.t 24)).run P w= .ok k w) (h1:∀a,G a-> ∀u∈f a,u.oneCell'=true) (hk:∀a,G a->(f a).length=k)
  (aC:∀a b,G a->G b->(cf a b<0↔num a<num b)) (ag:Enters P F) {w:x3} {g:Nat} {v:x1} {L:List α} (h:bg f k e w g v L) (J:∀a∈L,G a) (ah:L.length<65536)
  (aD:∀W a b,ae (λr=>r=g) w W->G a->G b->ai P F ([.agg (f a).toArray,.agg (f b).toArray]++cap.toList) W λu aE=>Ext W aE/\u=Δ (cf a b)):
  ai P (E.f 6) [v,.func (.func F) #[] cap] w λ_ w'=>ae (λr=>leadsTo v r) w w'/\ ∃M,M.Perm L/\(∀ (p q:Nat) (x y:α),p<q->M[p]? =σ x->M[q]? =σ y->num x<=num y)/\bg f k e w' g v M:=by
 have aj:Enters P (E.f 6):=λargs w=>V.f6.enters rfl args w;obtain⟨⟨aX,aF⟩,aY⟩:=id h;have ak:∀p c,v= .slice p 0 c->L=[]->ai P (E.f 6) [v,.func (.func F) #[] cap] w λ_ w'=>ae (λr=>leadsTo v r) w w'/\ ∃M,M.Perm L/\(∀ (p q:Nat) (x y:α),p<q->M[p]? =σ x->M[q]? =σ y->num x<=num y)/\bg f k e w' g v M:=λp c K ah=>by
  refine .code aj ?_;rw[K];refine (AnyF.slices_SortFunc_none V p c _ w).mono ?_;rintro aZ w' ⟨rfl,rfl⟩;refine⟨_,rfl,cM.refl _,ae.refl _ _,L,.refl _,λp q x y _ B=>by rw[ah] at B;simp at B,by rw[<-K];exact h⟩
 rcases aF with⟨rfl,aG⟩|⟨c,cs,rfl,C,al,hm,X,aH⟩
 .exact ak _ _ rfl (b9 aG)
 cases Y:L with
 |nil=>subst Y;exact ak _ _ rfl rfl
 |cons a0 a1=>
 rw[<-Y];let β:={a:α // G a};have:Inhabited β:=⟨⟨a0,J a0 (by rw[Y];exact .head _)⟩⟩;let enc:β->List x1:=λx=>f x.1;let d:Array β:=(L.attach.map λx=>(⟨x.1,J x.1 x.2⟩:β)).toArray;have am:d.toList.map Subtype.val=L:=by
  show (L.attach.map λx=>(⟨x.1,J x.1 x.2⟩:β)).map Subtype.val=L;rw[S8];exact List.attach_map_subtype_val L
 have Q:d.size=L.length:=by simp[d]
 have H:∀x:β,(enc x).length=k:=λx=>hk x.1 x.2;have aI:d.toList.flatMap enc=L.flatMap f:=by
  have N:=congrArg (λl=>l.flatMap f) am;rw[<-N];exact (List.flatMap_map Subtype.val f d.toList).symm
 have R:d.size*k<=cs.length:=by rw[Q,X];exact Y9 k al
 have aJ:HoldsK enc k w g 0 d:=by
  intro j S;rw[size_flatK] at S;have an:j<cs.length:=Ω
  have Z:(flatK enc k d)[j]! =cs[j]:=by
   have N:(flatK enc k d).toList[j]? =σ cs[j]:=by
    rw[Bv enc k H,aI,<-aH,Y8 (by rw[<-Q];exact S),x6 an]
   rw[S5] at N;rw[getElem!_pos _ j (by simpa using S)];rw[Array.getElem?_eq_getElem (by simpa using S)] at N;exact c8 N
  refine⟨?_,?_⟩
  .show w.cell? ⟨g,0+j,ν⟩=σ ((flatK enc k d)[j]!);rw[Z];exact C.cell (o:=0+j) (by rw[X5];exact x6 an)
  .unfold x3.frozen?;unfold ab at C;rw[C];simp
 have T:∀x y:β,ltOf (λx y:β=>cf x.1 y.1) x y=decide (num x.1<num y.1):=λx y=>by
  unfold ltOf;exact decide_eq_decide.2 (aC x.1 y.1 x.2 y.2)
 have aK:SWO (ltOf λx y:β=>cf x.1 y.1):=
  ⟨λx=>by rw[T];simp,λx y z p q=>by rw[T] at*;simp at*;omega,λx y z p q=>by rw[T] at*;simp at*;omega⟩
 have ao:∀m (d2:Array β) os,d2.size=d.size->ae (λr=>r=g) w (sortWorldK enc k w g 0 m d2 os)/\cM w (sortWorldK enc k w g 0 m d2 os):=λm d2 os I=>by
  obtain⟨a2,ap⟩:=Bw enc k H (m:=m) (os:=os) C (d:=d2) (by rw[I];exact R);have aq:w.heap.size<=(sortWorldK enc k w g 0 m d2 os).heap.size:=by
   show w.heap.size<=((w.heap.modify g _)++os).size;simp
  refine⟨⟨aq,λr o A _ aa=>?_⟩,rfl,⟨rfl,Nat.le_add_right _ _⟩,rfl,aq,λr o A I=>?_⟩
  .rw[ap r (j0.1 A).1 aa];exact A
  .have aa:r≠g:=λhe=>by subst he;unfold ab at C;rw[C] at A;cases A;cases I
   rw[ap r (j0.1 A).1 aa];exact A
 have aL:CmpLays P F cap enc k (λx y:β=>cf x.1 y.1) g 0 d.size w:=λm os aM I x y=>by
  have B:=(aD _ x.1 y.1 (ao m aM os I).1 x.2 y.2).calls ag;have O:([x1.agg (f x.1).toArray,.agg (f y.1).toArray]++cap.toList).toArray= #[.agg (enc x).toArray,.agg (enc y).toArray]++cap:=by
   apply Array.ext';simp[enc]
  rw[O] at B;refine B.mono ?_;rintro _ w' ⟨_,rfl,aN,aO,rfl⟩;exact⟨rfl,grown_of aO aN⟩
 have au:=AnyQ.slices_SortFunc V k aA aB enc H (λx=>h1 x.1 x.2) (λx y:β=>cf x.1 y.1) aK F cap g 0 c d w (λargs w=>ag args w) aL aJ C.lt (by rw[Q];omega);rw[Q] at au;refine .code aj (au.mono ?_);rintro _ w' ⟨rfl,s,n,os,⟨aP,_,K⟩,aQ,rfl⟩;have ac:s.size=d.size:=aP;obtain⟨aR,aS⟩:=ao n s os ac;obtain⟨aT,_⟩:=Bw enc k H (m:=n) (os:=os) C (d:=s) (by rw[ac];exact R);have U:(s.toList.map Subtype.val).Perm L:=by
  have Z:(s.extract 0 L.length).toList=s.toList:=by rw[show L.length=s.size by omega,Array.extract_size]
  have aU:(d.extract 0 L.length).toList=d.toList:=by rw[show L.length=d.size by omega,Array.extract_size]
  rw[Z,aU] at K;rw[<-am];exact K.map _
 have av:=U.length_eq;refine⟨_,rfl,aS,aR.mono λr _ A=>⟨_,_,_,rfl,A.symm⟩,s.toList.map Subtype.val,U,λp q x y aV B aw=>?_,⟨?_,.inr ⟨c,_,by rw[av],aT,by rw[av];exact al,hm,?_,?_⟩⟩,λa O=>hk a (J a (U.mem_iff.1 O))⟩
 .rw[x8,Y7] at B aw;obtain⟨a6,ax,rfl⟩:=B;obtain⟨a7,ay,rfl⟩:=aw;rw[S5] at ax ay;have az:=(j0.1 ax);have ad:=(j0.1 ay);have:=aQ p q (X3 _) aV (by have:=ad.1;omega);rw[getElem!_pos s p az.1,getElem!_pos s q ad.1,az.2,ad.2,T] at this;simpa using this
 .rw[ij (k:=k) λa O=>hk a (J a (U.mem_iff.1 O))]
 .have af:(s.toList.flatMap enc).length=s.size*k:=by rw[ij (k:=k) λa _=>H a];rfl
  rw[p8,af,List.length_drop,ac,X];rw[X] at R;exact Nat.add_sub_cancel' R
 .have af:(s.toList.flatMap enc).length=s.size*k:=by rw[ij (k:=k) λa _=>H a];rfl
  have aW:(List.map Subtype.val s.toList).length*k=(s.toList.flatMap enc).length:=by rw[af,u7];rfl
  rw[aW,List.take_left,List.flatMap_map]
end Go.Vc
namespace Go.Proofs
open Go.Shelf
def Tryz.vO:Go.Shelf.Ren:=⟨λ|6=>245|15=>206|14=>260|28=>238|29=>239|20=>275|21=>276|22=>277|23=>278|24=>279|25=>280|26=>281|27=>282|46=>290|47=>252|48=>253|49=>291|50=>292|57=>295|n=>n,λ|22=>319|24=>295|25=>318|3=>3|39=>289|0=>0|53=>340|55=>94|4=>4|46=>334|45=>333|50=>111|5=>5|9=>9|66=>349|70=>353|76=>373|77=>374|n=>n,λ|n=>n⟩
theorem Tryz.KO:Go.Proofs.SlLaysF0.n6 Tryz.prog Tryz.vO:={
 mixed:=Ψ,
 f6:=⟨Tryz.f245.name,Φ,Tryz.func245.trans (congrArg σ Ψ)⟩,
 f14:=⟨Tryz.f260.name,Φ,Tryz.func260.trans (congrArg σ Ψ)⟩,
 f15:=Tryz.func206.trans (congrArg σ Ψ),
 f20:=⟨Tryz.f275.name,Φ,Tryz.func275.trans (congrArg σ Ψ)⟩,
 f21:=⟨Tryz.f276.name,Φ,Tryz.func276.trans (congrArg σ Ψ)⟩,
 f22:=⟨Tryz.f277.name,Φ,Tryz.func277.trans (congrArg σ Ψ)⟩,
 f23:=⟨Tryz.f278.name,Φ,Tryz.func278.trans (congrArg σ Ψ)⟩,
 f24:=⟨Tryz.f279.name,Φ,Tryz.func279.trans (congrArg σ Ψ)⟩,
 f25:=⟨Tryz.f280.name,Φ,Tryz.func280.trans (congrArg σ Ψ)⟩,
 f26:=⟨Tryz.f281.name,Φ,Tryz.func281.trans (congrArg σ Ψ)⟩,
 f27:=⟨Tryz.f282.name,Φ,Tryz.func282.trans (congrArg σ Ψ)⟩,
 f28:=Tryz.func238.trans (congrArg σ Ψ),
 f29:=Tryz.func239.trans (congrArg σ Ψ),
 f46:=⟨Tryz.f290.name,Φ,Tryz.func290.trans (congrArg σ Ψ)⟩,
 f47:=Tryz.func252.trans (congrArg σ Ψ),
 f48:=Tryz.func253.trans (congrArg σ Ψ),
 f49:=⟨Tryz.f291.name,Φ,Tryz.func291.trans (congrArg σ Ψ)⟩,
 f50:=⟨Tryz.f292.name,Φ,Tryz.func292.trans (congrArg σ Ψ)⟩,
 f57:=⟨Tryz.f295.name,Φ,Tryz.func295.trans (congrArg σ Ψ)⟩,
 t0:=Tryz.underlying0,
 a0:=Tryz.isAgg0,
 z0:=Tryz.sizeOf0,
 v0:=Tryz.zeroValue0,
 t3:=Tryz.underlying3,
 a3:=Tryz.isAgg3,
 z3:=Tryz.sizeOf3,
 v3:=Tryz.zeroValue3,
 t4:=Tryz.underlying4,
 a4:=Tryz.isAgg4,
 z4:=Tryz.sizeOf4,
 v4:=Tryz.zeroValue4,
 t5:=Tryz.underlying5,
 a5:=Tryz.isAgg5,
 z5:=Tryz.sizeOf5,
 v5:=Tryz.zeroValue5,
 t9:=Tryz.underlying9,
 a9:=Tryz.isAgg9,
 z9:=Tryz.sizeOf9,
 v9:=Tryz.zeroValue9,
 t22:=Tryz.underlying319,
 a22:=Tryz.isAgg319,
 z22:=Tryz.sizeOf319,
 v22:=Tryz.zeroValue319,
 t25:=Tryz.underlying318,
 a25:=Tryz.isAgg318,
 z25:=Tryz.sizeOf318,
 v25:=Tryz.zeroValue318,
 t39:=Tryz.underlying289,
 a39:=Tryz.isAgg289,
 z39:=Tryz.sizeOf289,
 v39:=Tryz.zeroValue289,
 t45:=Tryz.underlying333,
 a45:=Tryz.isAgg333,
 z45:=Tryz.sizeOf333,
 v45:=Tryz.zeroValue333,
 t46:=Tryz.underlying334,
 a46:=Tryz.isAgg334,
 z46:=Tryz.sizeOf334,
 v46:=Tryz.zeroValue334,
 t50:=Tryz.underlying111,
 a50:=Tryz.isAgg111,
 z50:=Tryz.sizeOf111,
 v50:=Tryz.zeroValue111,
 t53:=Tryz.underlying340,
 a53:=Tryz.isAgg340,
 z53:=Tryz.sizeOf340,
 v53:=Tryz.zeroValue340,
 t55:=Tryz.underlying94,
 a55:=Tryz.isAgg94,
 z55:=Tryz.sizeOf94,
 v55:=Tryz.zeroValue94,
 t66:=Tryz.underlying349,
 a66:=Tryz.isAgg349,
 z66:=Tryz.sizeOf349,
 v66:=Tryz.zeroValue349,
 t70:=Tryz.underlying353,
 a70:=Tryz.isAgg353,
 z70:=Tryz.sizeOf353,
 v70:=Tryz.zeroValue353,
 t76:=Tryz.underlying373,
 a76:=Tryz.isAgg373,
 z76:=Tryz.sizeOf373,
 v76:=Tryz.zeroValue373,
 t77:=Tryz.underlying374,
 a77:=Tryz.isAgg374,
 z77:=Tryz.sizeOf374,
 v77:=Tryz.zeroValue374}
def Tryz.vP:Go.Shelf.Ren:=⟨λ|6=>159|15=>206|14=>205|28=>238|29=>239|20=>230|21=>231|22=>232|23=>233|24=>234|25=>235|26=>236|27=>237|46=>251|47=>252|48=>253|49=>254|50=>255|57=>274|n=>n,λ|22=>250|24=>255|25=>265|3=>3|39=>289|0=>0|53=>340|55=>94|4=>4|46=>334|45=>333|50=>111|5=>5|9=>9|66=>349|70=>353|76=>373|77=>374|n=>n,λ|n=>n⟩
theorem Tryz.KP:Go.Proofs.SlLaysF0.n6 Tryz.prog Tryz.vP:={
 mixed:=Ψ,
 f6:=⟨Tryz.f159.name,Φ,Tryz.func159.trans (congrArg σ Ψ)⟩,
 f14:=⟨Tryz.f205.name,Φ,Tryz.func205.trans (congrArg σ Ψ)⟩,
 f15:=Tryz.func206.trans (congrArg σ Ψ),
 f20:=⟨Tryz.f230.name,Φ,Tryz.func230.trans (congrArg σ Ψ)⟩,
 f21:=⟨Tryz.f231.name,Φ,Tryz.func231.trans (congrArg σ Ψ)⟩,
 f22:=⟨Tryz.f232.name,Φ,Tryz.func232.trans (congrArg σ Ψ)⟩,
 f23:=⟨Tryz.f233.name,Φ,Tryz.func233.trans (congrArg σ Ψ)⟩,
 f24:=⟨Tryz.f234.name,Φ,Tryz.func234.trans (congrArg σ Ψ)⟩,
 f25:=⟨Tryz.f235.name,Φ,Tryz.func235.trans (congrArg σ Ψ)⟩,
 f26:=⟨Tryz.f236.name,Φ,Tryz.func236.trans (congrArg σ Ψ)⟩,
 f27:=⟨Tryz.f237.name,Φ,Tryz.func237.trans (congrArg σ Ψ)⟩,
 f28:=Tryz.func238.trans (congrArg σ Ψ),
 f29:=Tryz.func239.trans (congrArg σ Ψ),
 f46:=⟨Tryz.f251.name,Φ,Tryz.func251.trans (congrArg σ Ψ)⟩,
 f47:=Tryz.func252.trans (congrArg σ Ψ),
 f48:=Tryz.func253.trans (congrArg σ Ψ),
 f49:=⟨Tryz.f254.name,Φ,Tryz.func254.trans (congrArg σ Ψ)⟩,
 f50:=⟨Tryz.f255.name,Φ,Tryz.func255.trans (congrArg σ Ψ)⟩,
 f57:=⟨Tryz.f274.name,Φ,Tryz.func274.trans (congrArg σ Ψ)⟩,
 t0:=Tryz.underlying0,
 a0:=Tryz.isAgg0,
 z0:=Tryz.sizeOf0,
 v0:=Tryz.zeroValue0,
 t3:=Tryz.underlying3,
 a3:=Tryz.isAgg3,
 z3:=Tryz.sizeOf3,
 v3:=Tryz.zeroValue3,
 t4:=Tryz.underlying4,
 a4:=Tryz.isAgg4,
 z4:=Tryz.sizeOf4,
 v4:=Tryz.zeroValue4,
 t5:=Tryz.underlying5,
 a5:=Tryz.isAgg5,
 z5:=Tryz.sizeOf5,
 v5:=Tryz.zeroValue5,
 t9:=Tryz.underlying9,
 a9:=Tryz.isAgg9,
 z9:=Tryz.sizeOf9,
 v9:=Tryz.zeroValue9,
 t22:=Tryz.underlying250,
 a22:=Tryz.isAgg250,
 z22:=Tryz.sizeOf250,
 v22:=Tryz.zeroValue250,
 t25:=Tryz.underlying265,
 a25:=Tryz.isAgg265,
 z25:=Tryz.sizeOf265,
 v25:=Tryz.zeroValue265,
 t39:=Tryz.underlying289,
 a39:=Tryz.isAgg289,
 z39:=Tryz.sizeOf289,
 v39:=Tryz.zeroValue289,
 t45:=Tryz.underlying333,
 a45:=Tryz.isAgg333,
 z45:=Tryz.sizeOf333,
 v45:=Tryz.zeroValue333,
 t46:=Tryz.underlying334,
 a46:=Tryz.isAgg334,
 z46:=Tryz.sizeOf334,
 v46:=Tryz.zeroValue334,
 t50:=Tryz.underlying111,
 a50:=Tryz.isAgg111,
 z50:=Tryz.sizeOf111,
 v50:=Tryz.zeroValue111,
 t53:=Tryz.underlying340,
 a53:=Tryz.isAgg340,
 z53:=Tryz.sizeOf340,
 v53:=Tryz.zeroValue340,
 t55:=Tryz.underlying94,
 a55:=Tryz.isAgg94,
 z55:=Tryz.sizeOf94,
 v55:=Tryz.zeroValue94,
 t66:=Tryz.underlying349,
 a66:=Tryz.isAgg349,
 z66:=Tryz.sizeOf349,
 v66:=Tryz.zeroValue349,
 t70:=Tryz.underlying353,
 a70:=Tryz.isAgg353,
 z70:=Tryz.sizeOf353,
 v70:=Tryz.zeroValue353,
 t76:=Tryz.underlying373,
 a76:=Tryz.isAgg373,
 z76:=Tryz.sizeOf373,
 v76:=Tryz.zeroValue373,
 t77:=Tryz.underlying374,
 a77:=Tryz.isAgg374,
 z77:=Tryz.sizeOf374,
 v77:=Tryz.zeroValue374}
theorem Tryz.KQ (w:x3):(isAgg (Tryz.vO.t 24)).run Tryz.prog w= .ok true w:=Tryz.isAgg295 w
theorem Tryz.KR (w:x3):(Go.sizeOf (Tryz.vO.t 24)).run Tryz.prog w= .ok 6 w:=Tryz.sizeOf295 w
theorem Tryz.KT:Tryz.prog.funcs[213]? =σ Tryz.f213:=Tryz.func213
theorem Tryz.KU (w:x3):(isAgg (Tryz.vP.t 24)).run Tryz.prog w= .ok true w:=Tryz.isAgg255 w
theorem Tryz.KV (w:x3):(Go.sizeOf (Tryz.vP.t 24)).run Tryz.prog w= .ok 2 w:=Tryz.sizeOf255 w
theorem Tryz.KW:Tryz.prog.funcs[160]? =σ Tryz.f160:=Tryz.func160
end Go.Proofs
namespace Go.Proofs.YtjjhhcfgfdepdaaGreatDoor
open Go Go.Vc Go.RowKit Go.Proofs Go.Proofs.Tryz
set_option maxRecDepth 100000
def sL {α:Type} (f:α->Int) (L:List α) (a i:Nat):Prop:=∀ (p q:Nat) (x y:α),a<=p->p<q->q<i->L[p]? =σ x->L[q]? =σ y->f x<=f y
def o1 (L:List (Λ)):Prop:=∀ks∈L,k2 ks
theorem o1.perm {L M:List (Λ)} (h:o1 L) (a:M.Perm L):o1 M:=λks hk=>h ks (a.mem_iff.1 hk)
theorem KX {g:Nat} {L:List (Λ)} {i:Nat} (a:y=(i:Int)) (h:nL w g v L) (hi:L[i]? =σ ks):
  aa x7 (c7 jg v (Δ y)) w (λp=>aa x7 (u5 cE p) w K)=K (eg ks):=by
 have e:ks.length=6:=by have:=h.2 ks (x5 hi);simpa using this
 rw[de a jg.u cE.i h (x4.1 hi).1,nK e (h.range hi)]
abbrev By:x1:=.func (.func zk) #[] #[]
theorem sM {P:W3} {k:o6} {s:ByteArray} {i:Nat} (a:P.underlying t=σ .string) (hi:i<s.size):
  aa P (Instr.index t (.string s) (.int k (i:Int))) w K=K (.int .u8 (s[i].toNat:Int)):=aa.of λw' _=>by
 simp[Instr.index,asIntOf,run_underlying a,hi]
def en (n:Nat):Nat:=if n=0 then 0 else Nat.log2 n+1
theorem Bz (h:n<256):en n<=8:=by
 unfold en;by_cases a:n=0
 .rw[if_pos a];omega
 .rw[if_neg a];have e:Nat.log2 n<8:=(Nat.log2_lt a).2 Ω;omega
theorem KY {g:Nat} {L:List (Λ)} (h:nL w g v L) (j:o1 L) (s:L.length<65536):
  ai x7 Ix [v,By] w λ_ w'=>ae (λr=>leadsTo v r) w w'/\ ∃M,M.Perm L/\sL gn M 0 M.length/\nL w' g v M:=by
 refine (Bx KO (G:=k2) (num:=gn) (cf:=il) (cap:=#[]) KQ KR (λa _=>Bs) (λa e=>by simp[e.1]) (λa b e f=>(Bt a b (by rw[e.1,f.1]) e.2 f.2).1) (Enters.of x7 KT rfl Ψ) h j s λH a b _ e f=>KN e f).mono ?_;rintro _ w' _ ⟨z,M,A,hu,hm⟩;exact⟨z,M,A,λp q x y _ B _ C E=>hu p q x y B C E,hm⟩
end Go.Proofs.YtjjhhcfgfdepdaaGreatDoor
namespace Go.Vc
open Go Go.RowKit
set_option maxRecDepth 100000
theorem Keys.str {P:W3} {k:r9} (hk:P.underlying k=σ .string):Keys P k λv=>∃s,v= .string s:=by
 have key:∀s,MapKept.IsKey .string (.string s):=λs=>trivial;refine⟨λw f v ⟨n,h⟩=>?_,λw x ⟨n,h⟩ p q=>?_,λw v ⟨n,h⟩=>?_⟩
 .subst h;exact MapKept.run_checkKey hk (key n) f 9999
 .subst h;rcases MapKept.findNow_spec (key n) p 0 (λe he=>by obtain⟨m,h⟩:=q e he;rw[h];exact key m) with⟨h1,a⟩|⟨j,e,h1,a,r⟩
  .exact .inl ⟨MapKept.run_findKey hk h1,a⟩
  .exact .inr ⟨j,e,by have:=MapKept.run_findKey (P:=P) (w:=w) hk h1;simpa using this,a,r⟩
 .subst h;exact MapKept.run_keyThatStays (d:=.string) (key n)
section
variable {P:W3} {w:x3}
theorem k4 {s:Sem x1} (h:∀K:x1->Prop,aa P s w K=K v):ci P s v w:=by
 have h1:aa P s w (λu=>u=v):=(h λu=>u=v).mpr rfl;obtain⟨u,hu,rfl⟩:=h1;exact hu
variable {k e:r9} {G:x1->Prop}
end
end Go.Vc
namespace Go.Proofs.YtjjhhcfgfdepdaaGreatDoor
open Go Go.Vc Go.RowKit Go.Proofs Go.Proofs.Tryz
set_option maxRecDepth 100000
def gM:Nat->Nat->Λ
 |0,_=>[]
 |n+1,u=>gM n (u / 10)++[48+((u % 10:Nat):Int)]
theorem qp:∀ (n u:Nat),(gM n u).length=n
 |0,_=>rfl
 |n+1,u=>by rw[gM,p8,qp n];rfl
theorem KZ (n u:Nat):gM (n+2) u=gM n (u / 100)++[48+((u / 10 % 10:Nat):Int),48+((u % 10:Nat):Int)]:=by
 rw[gM,gM,c9];rw[show u / 10 / 10=u / 100 by omega];rfl
theorem BA:∀ (n u:Nat),10 ^ n<=u->u<10 ^ (n+1)->gM (n+1) u=fk u
 |0,u,h1,a=>by
  rw[nE,if_pos (by simpa using a)];simp[gM]
 |n+1,u,h1,a=>by
  have e:(10:Nat) ^ (n+1)=10*10 ^ n:=by rw[Nat.pow_succ,Nat.mul_comm]
  have f:(10:Nat) ^ (n+1+1)=10*10 ^ (n+1):=by rw[Nat.pow_succ,Nat.mul_comm]
  have h:1<=10 ^ n:=Nat.one_le_iff_ne_zero.2 Ξ;rw[nE,if_neg Ω,gM,BA n (u / 10) Ω Ω]
def gp (a C:Λ) (nd u:Nat):Prop:=nd<=a.length/\C.length=a.length/\ ∃t,C.drop nd=t/\a=gM nd u++t
theorem gp.two {a:Λ} {nd u:Nat} (h:gp a C (nd+2) u):gp a ((C.set (nd+1) (48+((u % 10:Nat):Int))).set nd (48+((u / 10 % 10:Nat):Int))) nd (u / 100):=by
 obtain⟨h1,e,t,f,j⟩:=h;refine⟨Ω,by simp[e],_,rfl,?_⟩;rw[j,KZ,c9];congr 1;rw[List.drop_set,if_neg Ω,List.drop_set,if_neg Ω,<-f];have p:nd<C.length:=Ω
 have q:nd+1<C.length:=Ω
 rw[X7 p,X7 q,U1,R2];rfl
theorem gp.one {a:Λ} {u:Nat} (h:gp a C 1 u):C.set 0 (48+((u % 10:Nat):Int))=a:=by
 obtain⟨h1,e,t,f,j⟩:=h;rw[j,gM,gM,List.nil_append,<-f];cases C with
 |nil=>simp at e;omega
 |cons c C=>simp
theorem gp.zero {a:Λ} {u:Nat} (h:gp a C 0 u):C=a:=by
 obtain⟨h1,j,t,e,f⟩:=h;rw[f,gM,List.nil_append,<-e,List.drop_zero]
def jL:ByteArray:=⟨#[48,48,48,49,48,50,48,51,48,52,48,53,48,54,48,55,48,56,48,57,49,48,49,49,49,50,49,51,49,52,49,53,49,54,49,55,49,56,49,57,50,48,50,49,50,50,50,51,50,52,50,53,50,54,50,55,50,56,50,57,51,48,51,49,51,50,51,51,51,52,51,53,51,54,51,55,51,56,51,57,52,48,52,49,52,50,52,51,52,52,52,53,52,54,52,55,52,56,52,57,53,48,53,49,53,50,53,51,53,52,53,53,53,54,53,55,53,56,53,57,54,48,54,49,54,50,54,51,54,52,54,53,54,54,54,55,54,56,54,57,55,48,55,49,55,50,55,51,55,52,55,53,55,54,55,55,55,56,55,57,56,48,56,49,56,50,56,51,56,52,56,53,56,54,56,55,56,56,56,57,57,48,57,49,57,50,57,51,57,52,57,53,57,54,57,55,57,56,57,57]⟩
theorem BB:jL.size=200:=by decide+kernel
theorem K0:∀q:Fin 100,jL.data.toList[2*q.val]? =σ (UInt8.ofNat (48+q.val / 10))/\jL.data.toList[2*q.val+1]? =σ (UInt8.ofNat (48+q.val % 10)):=by decide+kernel
theorem vQ {q:Nat} (e:q<100):(∀h,(jL[2*q]'h).toNat=48+q / 10)/\ ∀h,(jL[2*q+1]'h).toNat=48+q % 10:=by
 obtain⟨h1,f⟩:=K0 ⟨q,e⟩;refine⟨λh=>?_,λh=>?_⟩
 .have a:=(x4.1 h1).2;have:jL[2*q]=UInt8.ofNat (48+q / 10):=a;rw[this,UInt8.toNat_ofNat'];omega
 .have a:=(x4.1 f).2;have:jL[2*q+1]=UInt8.ofNat (48+q % 10):=a;rw[this,UInt8.toNat_ofNat'];omega
theorem wrap_u32 {x:Int} (h1:0<=x) (a:x<4294967296):o6.u32.wrap x=x:=by
 simp[o6.wrap,o6.bits,o6.signed];omega
def jM (w:x3) (g o:Nat) (a C e:Λ):Prop:=ab w g mo (ints .u8 (a++C++e))/\a.length=o
theorem vR {g o c i:Nat} {a:o6} (e:y=(i:Int)) (hi:i<n):
  aa x7 (c7 cP (.slice (σ ⟨g,o,ν⟩) n c) (.int a y)) w K=K (.pointer (σ ⟨g,o+i,ν⟩)):=by
 subst e;rw[fx cP.u cI.i hi (λ_=>rfl),U9]
theorem vS {g o i:Nat} {x:Int} {a f:Λ} {K:Unit->x3->Prop} (h:jM w g o a C f) (hi:i<C.length)
  (p:∀w',ae (λr=>r=g) w w'->jM w' g o a (C.set i x) f->K () w'):ax x7 (o8 cI (.pointer (σ ⟨g,o+i,ν⟩)) (.int .u8 x)) w K:=by
 obtain⟨h,rfl⟩:=h;refine bo (g:=g) (o:=a.length+i) cI.i rfl rfl h Θ λw' q I j=>p w' q ⟨?_,rfl⟩;have e:(ints .u8 (a++C++f)).set (a.length+i) (.int .u8 x)=ints .u8 (a++C.set i x++f):=by
  unfold ints;rw[<-U3,c9,T2 _ _ Ω,R2,List.set_append_left _ _ hi,c9]
 rw[e] at j;exact j
theorem nM {g o c nd q i:Nat} {s e t:Int} {f h:Λ} {K:x3->Prop} (x:jM w g o f C h) (X:C.length=n) (Y:n<=1000) (Z:nd<=n) (h1:(nd:Int)-s=((i+1:Nat):Int)) (B:(nd:Int)-e=(i:Int)) (E:i+1<n) (F:t=((2*q:Nat):Int)) (j:q<100)
  (G:∀w',ae (λr=>r=g) w w'->jM w' g o f ((C.set (i+1) (48+((q % 10:Nat):Int))).set i (48+((q / 10:Nat):Int))) h->K w'):
  eo w λU=>
  aa x7 (aJ .sub ah false true (Δ (nd:Int)) (Δ s)) U λH=>
  aa x7 (aJ .sub ah false true (Δ (nd:Int)) (Δ e)) U λy=>
  aa x7 (aJ .add oC false true (.int .u32 t) (.int .u32 1)) U λJ=>
  aa x7 (Instr.index c3 (.string jL) J) U λt50=>
  aa x7 (Instr.index c3 (.string jL) (.int .u32 t)) U λz=>
  aa x7 (c7 cP (.slice (σ ⟨g,o,ν⟩) n c) H) U λt53=>
  ax x7 (o8 cI t53 t50) U λ(_:Unit) a=>
   (Ext U a\/ci x7 (Instr.index c3 (.string jL) (.int .u32 t)) z a/\ci x7 (aJ .sub ah false true (Δ (nd:Int)) (Δ e)) y a/\True)/\
  aa x7 (c7 cP (.slice (σ ⟨g,o,ν⟩) n c) y) a λL=>
   ax x7 (o8 cI L z) a λ(_:Unit) p=>K p:=by
 subst F;intro U A _ _;have M:ae (λr=>r=g) w U:=A.V _;have N:jM U g o f C h:=⟨x.1.ext A,x.2⟩;rw[dZ,wrap_i64 Ω Ω,dZ,wrap_i64 Ω Ω,aP,wrap_u32 Ω Ω];rw[show ((2*q:Nat):Int)+1=((2*q+1:Nat):Int) by omega];have I:=BB;rw[sM c3.u (by rw[I];omega),sM c3.u (by rw[I];omega)];rw[(vQ j).1,(vQ j).2,vR h1 E];refine vS N Ω λa O P=>⟨.inr ⟨k4 λK=>?_,k4 λK=>?_,trivial⟩,?_⟩
 .rw[sM c3.u (by rw[I];omega),(vQ j).1]
 .rw[dZ,wrap_i64 Ω Ω]
 .rw[vR B Ω];refine vS P Θ λp Q R=>G p ((M.trans O).trans Q) ?_;have S:48+((q % 10:Nat):Int)=((48+q % 10:Nat):Int):=Ω
  have W:48+((q / 10:Nat):Int)=((48+q / 10:Nat):Int):=Ω
  rw[S,W];exact R
theorem gp.pair {a:Λ} {nd u q:Nat} (h:gp a C (nd+2) u) (e:q=u % 100):gp a ((C.set (nd+1) (48+((q % 10:Nat):Int))).set nd (48+((q / 10:Nat):Int))) nd (u / 100):=by
 have:=h.two;rw[show u % 10=q % 10 by omega,show u / 10 % 10=q / 10 by omega] at this;exact this
theorem nN {k:o6} {b:Nat} (e:b≠0):aa x7 (aJ .rem t cx cy (.int k (a:Int)) (.int k (b:Int))) w K=K (.int k ((a % b:Nat):Int)):=by
 rw[pR Ω,Int.tmod_eq_emod_of_nonneg Ω,Int.natCast_emod]
theorem u32_quo {b:Nat} (e:b≠0) (f:a<4294967296):aa x7 (aJ .quo t cx cy (.int .u32 (a:Int)) (.int .u32 (b:Int))) w K=K (.int .u32 ((a / b:Nat):Int)):=by
 have:=Nat.div_le_self a b;rw[rZ Ω,Int.tdiv_eq_ediv_of_nonneg Ω,<-Int.natCast_ediv];generalize a / b=m at this ⊢;rw[wrap_u32 Ω Ω]
theorem u64_quo {b:Nat} (e:b≠0) (f:a<18446744073709551616):aa x7 (aJ .quo t cx cy (.int .u64 (a:Int)) (.int .u64 (b:Int))) w K=K (.int .u64 ((a / b:Nat):Int)):=by
 have:=Nat.div_le_self a b;rw[rZ Ω,Int.tdiv_eq_ediv_of_nonneg Ω,<-Int.natCast_ediv];generalize a / b=m at this ⊢;rw[wrap_u64 Ω Ω]
theorem nO {b:Nat} (f:a*b<4294967296):aa x7 (aJ .mul t cx cy (.int .u32 (a:Int)) (.int .u32 (b:Int))) w K=K (.int .u32 ((a*b:Nat):Int)):=by
 have e:(a:Int)*(b:Int)=((a*b:Nat):Int):=Ξ
 rw[hP,e];generalize a*b=m at f ⊢;rw[wrap_u32 Ω Ω]
theorem gp.start {u:Nat} (h:C.length=N):gp (gM N u) C N u:=⟨by rw[qp];omega,by rw[qp,h],[],by rw[List.drop_eq_nil_iff];omega,Ξ⟩
theorem K1 {g o c u:Nat} {B E:Λ} (ag:jM w g o B C E) (ah:C.length=N) (ax:N<=19) (hu:u<10 ^ N):
  ai x7 IF [.slice (σ ⟨g,o,ν⟩) N c,.int .u64 (u:Int)] w λv w'=>v= .tuple #[]/\ae (λr=>r=g) w w'/\jM w' g o B (gM N u) E:=by
 have p:=qp N u;refine aw func263 ?_;rw[h5 cP.u];refine⟨λak Q J=>∃dC nd:Nat,ak= .int .u64 (dC:Int)/\Q=Δ (nd:Int)/\dC<10 ^ nd/\nd<=N/\ae (λr=>r=g) w J/\ ∃G,jM J g o B G E/\gp (gM N u) G nd dC,
  λ_ Q _=>(b2 Q).toNat,⟨u,N,rfl,rfl,hu,o4 _,ae.refl _ _,C,ag,gp.start ah⟩,?_⟩
 rintro _ _ J ⟨dC,nd,rfl,rfl,H,s,R,G,S,M⟩;have ab:G.length=N:=by rw[M.2.1,p]
 have ay:(10:Nat) ^ nd<=10 ^ 19:=T6 Ω Ω;have al:dC<18446744073709551616:=Ω
 have az:(8:Int)=((8:Nat):Int):=rfl;rw[cY,aj];refine⟨λam=>?_,λam=>?_⟩
 .obtain⟨m,rfl⟩:∃m,nd=m+8:=⟨nd-8,Ω⟩;have aA:dC % 100000000<100000000:=Nat.mod_lt _ Ω;rw[show V0 .u64 100000000=V0 .u64 ((100000000:Nat):Int) from rfl,nN Ω,fj ft.u oC.u,wrap_u32 Ω Ω,u64_quo Ω al];rw[show V0 .u32 10000=V0 .u32 ((10000:Nat):Int) from rfl,show V0 .u32 100=V0 .u32 ((100:Nat):Int) from rfl,show V0 .u32 2=V0 .u32 ((2:Nat):Int) from rfl];rw[u32_quo Ω Ω,nN Ω,u32_quo Ω Ω,nO Ω,nN Ω,nO Ω,u32_quo Ω Ω,nO Ω,nN Ω,nO Ω];refine nM (i:=m+6) (q:=dC % 100000000 % 10000 % 100) S ab Ω s Ω Ω Ω Ω Ω λU x z=>?_;have f:=M.pair (q:=dC % 100000000 % 10000 % 100) Ω;have I:=f.2.1.trans p;refine nM (i:=m+4) (q:=dC % 100000000 % 10000 / 100) z I Ω s Ω Ω Ω Ω Ω λA j h=>?_;have e:=gp.pair (nd:=m+4) (q:=dC % 100000000 % 10000 / 100) f Ω;have ac:=e.2.1.trans p;refine nM (i:=m+2) (q:=dC % 100000000 / 10000 % 100) h ac Ω s Ω Ω Ω Ω Ω λan V O=>?_;have ad:=gp.pair (nd:=m+2) (q:=dC % 100000000 / 10000 % 100) e Ω;have ao:=ad.2.1.trans p;refine nM (i:=m) (q:=dC % 100000000 / 10000 / 100) O ao Ω s Ω Ω Ω Ω Ω λaB ap aq=>?_;have af:=gp.pair (nd:=m) (q:=dC % 100000000 / 10000 / 100) ad Ω;rw[dZ,wrap_i64 Ω Ω];refine⟨⟨dC / 100000000,m,rfl,by congr 1;omega,?_,Ω,(((R.trans x).trans j).trans V).trans ap,_,aq,?_⟩,by simp only[b2];omega⟩
  .rw[Nat.pow_add] at H;exact Nat.div_lt_of_lt_mul (by rw[Nat.mul_comm];exact H)
  .rw[show dC / 100 / 100 / 100 / 100=dC / 100000000 by omega] at af;exact af
 .have aC:nd<8:=Ω
  have aD:(10:Nat) ^ nd<=10 ^ 7:=T6 Ω Ω;rw[fj ft.u oC.u,wrap_u32 Ω Ω];refine iB (λa b U=>∃eb m:Nat,a=Δ (m:Int)/\b= .int .u32 (eb:Int)/\eb<10 ^ m/\m<4/\m<=N/\ae (λr=>r=g) w U/\ ∃P,jM U g o B P E/\gp (gM N u) P m eb) ?_ ?_
  rotate_left
  .intro av K;rw[cY,aj];refine⟨λW=>?_,λW=>K _ _ _ ⟨dC,nd,rfl,rfl,H,Ω,s,R,G,S,M⟩⟩;obtain⟨m,rfl⟩:∃m,nd=m+4:=⟨nd-4,Ω⟩;rw[show V0 .u32 10000=V0 .u32 ((10000:Nat):Int) from rfl,show V0 .u32 100=V0 .u32 ((100:Nat):Int) from rfl,show V0 .u32 2=V0 .u32 ((2:Nat):Int) from rfl];rw[nN Ω,u32_quo Ω Ω,u32_quo Ω Ω,nO Ω,nN Ω,nO Ω];refine nM (i:=m+2) (q:=dC % 10000 % 100) S ab Ω s Ω Ω Ω Ω Ω λU x z=>?_;have f:=M.pair (q:=dC % 10000 % 100) Ω;have I:=f.2.1.trans p;refine nM (i:=m) (q:=dC % 10000 / 100) z I Ω s Ω Ω Ω Ω Ω λA j h=>?_;have e:=gp.pair (nd:=m) (q:=dC % 10000 / 100) f Ω;rw[dZ,wrap_i64 Ω Ω];refine K _ _ _ ⟨dC / 10000,m,by congr 1;omega,rfl,?_,Ω,Ω,(R.trans x).trans j,_,h,?_⟩
   .rw[Nat.pow_add] at H;exact Nat.div_lt_of_lt_mul (by rw[Nat.mul_comm];exact H)
   .rw[show dC / 100 / 100=dC / 10000 by omega] at e;exact e
  rintro _ _ U ⟨eb,m,rfl,rfl,X,aE,Y,x,P,z,f⟩;have I:=f.2.1.trans p;have aF:(10:Nat) ^ m<=10 ^ 3:=T6 Ω Ω;refine iB (λa b A=>∃L m:Nat,a=Δ (m:Int)/\b= .int .u32 (L:Int)/\L<10 ^ m/\m<2/\m<=N/\ae (λr=>r=g) w A/\ ∃Z,jM A g o B Z E/\gp (gM N u) Z m L) ?_ ?_
  rotate_left
  .intro av K;rw[cY,aj];refine⟨λW=>?_,λW=>K _ _ _ ⟨eb,m,rfl,rfl,X,Ω,Y,x,P,z,f⟩⟩;obtain⟨m,rfl⟩:∃cn,m=cn+2:=⟨m-2,Ω⟩;rw[show V0 .u32 100=V0 .u32 ((100:Nat):Int) from rfl,show V0 .u32 2=V0 .u32 ((2:Nat):Int) from rfl];rw[nN Ω,nO Ω,u32_quo Ω Ω];refine nM (i:=m) (q:=eb % 100) z I Ω Y Ω Ω Ω Ω Ω λA j h=>?_;have e:=f.pair (q:=eb % 100) rfl;rw[dZ,wrap_i64 Ω Ω];refine K _ _ _ ⟨eb / 100,m,by congr 1;omega,rfl,?_,Ω,Ω,x.trans j,_,h,e⟩;rw[Nat.pow_add] at X;exact Nat.div_lt_of_lt_mul (by rw[Nat.mul_comm];exact X)
  rintro _ _ A ⟨L,m,rfl,rfl,aa,aG,Y,j,Z,h,e⟩;have ac:=e.2.1.trans p;rw[bT,aj];refine⟨λau=>?_,λau=>?_⟩
  .obtain rfl:m=1:=Ω
   have aa:L<10:=by simpa using aa
   rw[aP,wrap_u32 Ω Ω,fj oC.u cI.u,wrap_u8 Ω Ω,vR (y:=0) (i:=0) rfl Ω];refine vS h Ω λan V O=>?_;have:=e.one;rw[Nat.mod_eq_of_lt aa] at this;rw[this] at O;exact⟨rfl,j.trans V,O⟩
  .obtain rfl:m=0:=Ω
   rw[e.zero] at h;exact⟨rfl,j,h⟩
def qq:Λ:=[1,10,100,1000,10000,100000,1000000,10000000,100000000,1000000000,10000000000,100000000000,1000000000000,10000000000000,100000000000000,1000000000000000,10000000000000000,100000000000000000,1000000000000000000,10000000000000000000]
def e1 (w:x3):Prop:=w.rangeAt 1 0 (ints .u64 qq)
theorem e1.ext (h:e1 w) (a:Ext w w'):e1 w':=np a h
theorem K2:∀k:Nat,k<20->qq[k]? =σ (((10 ^ k:Nat)):Int):=Φ
theorem BC {s:Nat} (h:2 ^ s<=n):en n=s+en (n / 2 ^ s):=by
 have I:=Nat.two_pow_pos s;have h1:n / 2 ^ s≠0:=by have:=Nat.div_pos h I;omega
 have f:n≠0:=Ω
 unfold en;rw[if_neg f,if_neg h1];have e:Nat.log2 n=Nat.log2 (n / 2 ^ s)+s:=by
  refine (Nat.log2_eq_iff f).2 ⟨?_,?_⟩
  .rw[Nat.pow_add];have:=Y9 (2 ^ s) (Nat.log2_self_le h1);have:=Nat.div_mul_le_self n (2 ^ s);omega
  .have j:=Nat.lt_log2_self (n:=n / 2 ^ s);rw[show Nat.log2 (n / 2 ^ s)+s+1=(Nat.log2 (n / 2 ^ s)+1)+s by omega,Nat.pow_add];have:=Y9 (2 ^ s) (show n / 2 ^ s+1<=2 ^ (Nat.log2 (n / 2 ^ s)+1) by omega);have p:=Nat.lt_div_mul_add I (a:=n);rw[V9] at this;omega
 omega
def qs:ByteArray:=⟨#[0,1,2,2,3,3,3,3,4,4,4,4,4,4,4,4,5,5,5,5,5,5,5,5,5,5,5,5,5,5,5,5,6,6,6,6,6,6,6,6,6,6,6,6,6,6,6,6,6,6,6,6,6,6,6,6,6,6,6,6,6,6,6,6,7,7,7,7,7,7,7,7,7,7,7,7,7,7,7,7,7,7,7,7,7,7,7,7,7,7,7,7,7,7,7,7,7,7,7,7,7,7,7,7,7,7,7,7,7,7,7,7,7,7,7,7,7,7,7,7,7,7,7,7,7,7,7,7,8,8,8,8,8,8,8,8,8,8,8,8,8,8,8,8,8,8,8,8,8,8,8,8,8,8,8,8,8,8,8,8,8,8,8,8,8,8,8,8,8,8,8,8,8,8,8,8,8,8,8,8,8,8,8,8,8,8,8,8,8,8,8,8,8,8,8,8,8,8,8,8,8,8,8,8,8,8,8,8,8,8,8,8,8,8,8,8,8,8,8,8,8,8,8,8,8,8,8,8,8,8,8,8,8,8,8,8,8,8,8,8,8,8,8,8,8,8,8,8,8,8,8,8,8,8,8,8]⟩
theorem K3:qs.size=256:=by decide+kernel
theorem K4:∀q:Fin 256,qs.data.toList[q.val]? =σ (UInt8.ofNat (en q.val)):=by decide+kernel
theorem K5 {q:Nat} (a:q<256):∀h,(qs[q]'h).toNat=en q:=λh=>by
 have h1:=K4 ⟨q,a⟩;have e:=(x4.1 h1).2;have:qs[q]=UInt8.ofNat (en q):=e;have f:=Bz a;rw[this,UInt8.toNat_ofNat'];omega
theorem K6 (E:n<18446744073709551616):ai x7 Is [.int .u64 (n:Int)] w λv w'=>v=Δ (en n:Int)/\Ext w w':=by
 refine aw func239 ?_;have step:∀ {s x m:Nat} {av:x1->x1->x3->Prop} {y c:Int},s<64->x<18446744073709551616->m+en x=en n->m<=64->y=(2 ^ s:Nat)->c=(s:Int)->2 ^ s<=18446744073709551615->(∀a cn:Nat,a<2 ^ s\/(a=x / 2 ^ s/\cn=m+s)->a<=x->cn+en a=en n->cn<=m+s->av (.int .u64 (a:Int)) (Δ (cn:Int)) w)->
   aa x7 (aJ .geq ft false true (.int .u64 (x:Int)) (.int .u64 y)) w λt4=>
    Split t4 (aa x7 (aJ .shr ft false true (.int .u64 (x:Int)) (.int .u64 c)) w λr=>aa x7 (aJ .add ah false true (Δ (m:Int)) (Δ c)) w λz=>av r z w) (av (.int .u64 (x:Int)) (Δ (m:Int)) w):=by
  intro s x m av y c I f hm G A B p e;subst A B;rw[cY,aj];refine⟨λh=>?_,λh=>e x m (.inl Ω) (o4 _) hm Ω⟩;rw[kZ I,aP,wrap_i64 Ω Ω];have:=BC (n:=x) (s:=s) Ω;have:=e (x / 2 ^ s) (m+s) (.inr ⟨rfl,rfl⟩) (Nat.div_le_self _ _) Ω Ω;exact this
 refine iB (λx m J=>w=J/\ ∃a cn:Nat,x= .int .u64 (a:Int)/\m=Δ (cn:Int)/\a<4294967296/\cn+en a=en n/\cn<=32) ?_ ?_
 rotate_left
 .intro av e;rw[cY,aj];refine⟨λh=>?_,λh=>e _ _ _ ⟨rfl,n,0,rfl,rfl,Ω,Ω,Ω⟩⟩;rw[show V0 .u64 32=V0 .u64 ((32:Nat):Int) from rfl,kZ Ω];have:=BC (n:=n) (s:=32) Ω;exact e _ _ _ ⟨rfl,n / 2 ^ 32,32,rfl,rfl,Ω,Ω,Ω⟩
 rintro _ _ _ ⟨rfl,x,m,rfl,rfl,f,hm,q⟩;refine iB (λx m J=>w=J/\ ∃a cn:Nat,x= .int .u64 (a:Int)/\m=Δ (cn:Int)/\a<65536/\cn+en a=en n/\cn<=48) ?_ ?_
 rotate_left
 .intro av e;refine step (s:=16) Ω Ω hm Ω Ω Ω Ω λa cn h1 p j C=>e _ _ _ ⟨rfl,a,cn,rfl,rfl,?_,j,Ω⟩;rcases h1 with h1|⟨h1,_⟩<;>omega
 rintro _ _ _ ⟨rfl,x,m,rfl,rfl,f,hm,q⟩;refine iB (λx m J=>w=J/\ ∃a cn:Nat,x= .int .u64 (a:Int)/\m=Δ (cn:Int)/\a<256/\cn+en a=en n/\cn<=56) ?_ ?_
 rotate_left
 .intro av e;refine step (s:=8) Ω Ω hm Ω Ω Ω Ω λa cn h1 p j C=>e _ _ _ ⟨rfl,a,cn,rfl,rfl,?_,j,Ω⟩;rcases h1 with h1|⟨h1,_⟩<;>omega
 rintro _ _ _ ⟨rfl,x,m,rfl,rfl,f,hm,q⟩;have I:=K3;have H:=Bz f;rw[fj ft.u cI.u,wrap_u8 Ω Ω];refine (sM (s:=qs) c3.u (by rw[I];omega)).mpr ?_;rw[K5 f,fj cI.u ah.u,wrap_i64 Ω Ω,aP,wrap_i64 Ω Ω];exact⟨by congr 1;omega,Ext.refl _⟩
theorem BD {k:o6} (f:n<64):aa x7 (aJ .shr t cx cy (Δ (a:Int)) (.int k (n:Int))) w K=K (Δ ((a / 2 ^ n:Nat):Int)):=aa.of λw' _=>by
 have e:(a:Int).fdiv (2 ^ min n X2.bits)=((a / 2 ^ n:Nat):Int):=by
  have:min n X2.bits=n:=Nat.min_eq_left (by show n<=64;omega);rw[this,Int.fdiv_eq_ediv_of_nonneg _ (by exact Int.le_of_lt (Int.pow_pos Ω))];simp
 simp only[aJ,eqGuard,binOp,Op.shift,r8,e];rfl
theorem K7:∀L:Fin 64,7<=L.val->2 ^ L.val<=10 ^ (L.val*78913 / 262144+1)/\10 ^ (L.val*78913 / 262144)<=10*2 ^ (L.val-1)/\1<=L.val*78913 / 262144/\L.val*78913 / 262144<19:=by decide+kernel
theorem K8 {d:Nat} (y:e1 w) (h1:100<=d) (E:d<9223372036854775808):ai x7 IE [.int .u64 (d:Int)] w λv w'=>Ext w w'/\ ∃n:Nat,v=Δ ((n+1:Nat):Int)/\n<19/\10 ^ n<=d/\d<10 ^ (n+1):=by
 have j:d≠0:=Ω
 have p:en d=Nat.log2 d+1:=by unfold en;rw[if_neg j]
 have G:2 ^ (en d-1)<=d:=by rw[p];exact Nat.log2_self_le j
 have H:d<2 ^ en d:=by rw[p];exact Nat.lt_log2_self
 have z:7<=en d:=by
  by_cases h:7<=en d
  .exact h
  .have:2 ^ en d<=2 ^ 6:=T6 Ω Ω;omega
 have A:en d<64:=by
  by_cases h:en d<64
  .exact h
  .have:2 ^ 63<=2 ^ (en d-1):=T6 Ω Ω;omega
 obtain⟨B,q,t3,t4⟩:=K7 ⟨en d,A⟩ z;simp only at B q t3 t4;refine aw func262 ?_;refine (K6 Ω).mono ?_;rintro _ J _ ⟨rfl,a⟩;generalize en d=L at*;refine ai.mono (K:=λv U=>v=Δ ((L*78913 / 262144:Nat):Int)/\Ext J U) ?_ ?_
 .refine aw func283 ?_;rw[hP,wrap_i64 Ω Ω,show V0 .u64 18=V0 .u64 ((18:Nat):Int) from rfl,show (L:Int)*78913=((L*78913:Nat):Int) by omega,BD Ω];exact⟨rfl,Ext.refl _⟩
 rintro _ U _ ⟨rfl,e⟩;generalize L*78913 / 262144=t at*;have C:=K2 t Ω;rw[vb (t:=rY) rY.u ft.i Ω,aB Ψ (by rw[U9];exact ((y.ext a).ext e) _ _ (kS C)),cY];refine ai.mono (K:=λv r=>v=Δ ((if 10 ^ t<=d then 1 else 0:Nat):Int)/\Ext U r) ?_ ?_
 .refine aw func284 ?_;rw[aj];refine⟨λh=>⟨by rw[if_pos Ω];rfl,Ext.refl _⟩,λh=>⟨by rw[if_neg Ω];rfl,Ext.refl _⟩⟩
 rintro _ r _ ⟨rfl,x⟩;rw[aP];by_cases f:10 ^ t<=d
 .rw[if_pos f,wrap_i64 Ω Ω];exact⟨(a.trans e).trans x,t,by congr 1,t4,f,Ω⟩
 .rw[if_neg f,wrap_i64 Ω Ω];obtain⟨s,rfl⟩:∃s,t=s+1:=⟨t-1,Ω⟩;rw[Nat.pow_succ] at q;exact⟨(a.trans e).trans x,s,by congr 1,Ω,Ω,Ω⟩
theorem BE {k a:o6} {x:Int} {i:Nat} {s:ByteArray} (e:x=(i:Int)) (f:y=(j:Int)) (p:x7.underlying t=σ .string) (q:i<=j) (r:j<=s.size):
  aa x7 (V5 t (.string s) (σ (.int k x)) (σ (.int a y)) ν) w K=K (.string (s.extract i j)):=aa.of λw' _=>by
 subst e f;have z:=r2 (P:=x7) w' (sl:=false) (n:=s.size) (c:=s.size) (low:=σ (.int k (i:Int))) (high:=σ (.int a (j:Int))) (mx:=ν) (l:=i) (h:=j) (m:=s.size) ⟨k,rfl⟩ ⟨a,rfl⟩ gg q r (o4 _);simp[V5,Instr.slice,run_underlying p,z]
theorem K9:∀q:Fin 100,jL.extract (2*q.val) (2*q.val+2)=strOfNums [48+((q.val / 10:Nat):Int),48+((q.val % 10:Nat):Int)]:=by decide+kernel
def BF:ByteArray:=⟨#[48,49,50,51,52,53,54,55,56,57,97,98,99,100,101,102,103,104,105,106,107,108,109,110,111,112,113,114,115,116,117,118,119,120,121,122]⟩
theorem La:∀q:Fin 10,BF.extract q.val (q.val+1)=strOfNums [48+(q.val:Int)]:=by decide+kernel
theorem BG (h:n<10):fk n=[48+(n:Int)]:=by rw[nE,if_pos h,Nat.mod_eq_of_lt h];rfl
theorem Lb (h1:10<=n) (a:n<100):fk n=[48+((n / 10:Nat):Int),48+((n % 10:Nat):Int)]:=by
 rw[nE,if_neg Ω,BG Ω];rfl
theorem Lc (a:n<100):ai x7 ID [Δ (n:Int)] w λv w'=>v=bU (fk n)/\Ext w w':=by
 refine aw func261 ?_;rw[aR,aj];refine⟨λh=>?_,λh=>?_⟩
 .rw[aP,wrap_i64 Ω Ω];refine (BE (s:=BF) (i:=n) (j:=n+1) rfl Ω c3.u Ω (by show n+1<=36;omega)).mpr ?_;rw[La ⟨n,Ω⟩,BG Ω];exact⟨rfl,Ext.refl _⟩
 .rw[hP,wrap_i64 Ω Ω,hP,wrap_i64 Ω Ω,aP,wrap_i64 Ω Ω];refine (BE (s:=jL) (i:=2*n) (j:=2*n+2) Ω Ω c3.u Ω (by rw[BB];omega)).mpr ?_;rw[K9 ⟨n,a⟩,Lb Ω a];exact⟨rfl,Ext.refl _⟩
theorem Ld {g:Nat} {f h:Λ} (a:jM w g 1 f C h) (p:C.length<=23):aH .u8 w (.slice (σ ⟨g,1,ν⟩) C.length 23) C:=by
 obtain⟨a,q⟩:=a;refine⟨Ξ,g,1,_,23,rfl,p,by simp[maxLen],λ_=>rfl,λj v e=>?_⟩;have r:j<C.length:=by have:=(x4.1 e).1;simpa using this
 refine a.cell ?_;rw[ints,j6,j6,Z8 Θ,Z9 Θ,u7,q,R2];exact e
theorem BH {g:Nat} (a:y=((m+2:Nat):Int)) (hm:m<=22):
  aa x7 (V5 mo (Γ g) (σ (Δ 1)) (σ (Δ y)) ν) w K=K (.slice (σ ⟨g,1,ν⟩) (m+1) 23):=by
 subst a;have:=r3 (w:=w) (b:=g) (o:=0) (low:=σ (Δ 1)) (high:=σ (Δ ((m+2:Nat):Int))) (mx:=ν) (l:=1) (h:=m+2) (m:=24) (K:=K) mo.u cI.i ⟨_,rfl⟩ ⟨_,rfl⟩ gg Ω Ω Ω;rw[this,if_neg Ω];rfl
theorem Le (q:e1 w) (s:n<9223372036854775808):ai x7 Iy [Δ (n:Int),Δ 10] w λv w'=>v=bU (fk n)/\Ext w w':=by
 refine aw func247 ?_;rw[bh];refine (aj).mpr ⟨λ_=>?_,λh=>absurd rfl h⟩;refine aU (λv J=>w=J/\v= .bool (decide (n<100))) ?_ ?_
 rotate_left
 .intro av a;rw[mp,aj];refine⟨λ_=>?_,λh=>Ω⟩;rw[aR];exact a _ _ ⟨rfl,by congr 1;rw[V3,decide_eq_true_eq,decide_eq_true_eq];omega⟩
 rintro _ _ ⟨rfl,rfl⟩;rw[aj];refine⟨λh=>?_,λh=>?_⟩
 .exact (Lc h).mono λ_ _ _ h=>h
 refine bB mo.i λg J E f x=>?_;rw[fj al.u ft.u,wrap_u64 Ω Ω];refine aU (λv U=>J=U/\v= .int .u64 (n:Int)) ?_ ?_
 rotate_left
 .intro av a;rw[aR,aj];exact⟨λh=>Ω,λ_=>a _ _ ⟨rfl,rfl⟩⟩
 rintro _ _ ⟨rfl,rfl⟩;refine (K8 (q.ext f) Ω s).mono ?_;rintro _ U _ ⟨j,m,rfl,hm,y,p⟩;rw[aP,wrap_i64 Ω Ω];rw[BH (m:=m) Ω Ω];have z:jM U g 1 [0] (p9 (m+1) 0) (p9 (22-m) 0):=by
  refine⟨?_,rfl⟩;have e:[0]++p9 (m+1) (0:Int)++p9 (22-m) 0=p9 24 0:=by
   rw[show[(0:Int)]=p9 1 0 from rfl,List.replicate_append_replicate,List.replicate_append_replicate];congr 1;omega
  rw[e];exact x.ext j
 refine (K1 (N:=m+1) z Ξ Ω p).mono ?_;rintro _ G _ ⟨rfl,A,B⟩;refine cd Ω ?_;rw[aP,wrap_i64 Ω Ω];rw[BH (m:=m) Ω Ω];have C:=qp (m+1) n;have I:=Ld B Ω;rw[C] at I;rw[vm cP.u cI.u c3.u I,BA m n y p];refine⟨rfl,(f.trans j).then A λr H he=>?_⟩;have he:r=g:=he;omega
theorem Lf (a:e1 w) (e:n<9223372036854775808):ai x7 uW [Δ (n:Int)] w λv w'=>v=bU (fk n)/\Ext w w':=by
 refine aw func184 ?_;refine ai.mono (K:=λv w'=>v=bU (fk n)/\Ext w w') ?_ (λ_ _ _ h=>h);refine aw func220 ?_;exact (Le a e).mono λ_ _ _ h=>h
theorem e1.V (h:e1 w) (a:ae S w w') (e:¬S 1):e1 w':=jC a e h
def dr (w:x3) (g gs:Nat) (A:ag) (B:ag) (clean:Bool) (s:Option aD):Prop:=match s with
 |some s=>dl w g gs A B s clean
 |none=>eC w g gs A B
theorem fP.of {g:Nat} {A:ag} {B:ag} {s:Option aD} (h:fP w g gs A B clean s w'):ae (bE g gs A) w w'/\dr w' g gs A B clean s:=h
theorem fP.mk {g:Nat} {A:ag} {B:ag} {s:Option aD} (h:ae (bE g gs A) w w') (a:dr w' g gs A B clean s):fP w g gs A B clean s w':=⟨h,a⟩
theorem dr.V {g:Nat} {A:ag} {B:ag} {s:Option aD} (h:dr w g gs A B clean s) (a:ae S w w') (e:∀r,bE g gs A r->¬S r) (f:∀r,cG g gs A B r->¬S r):dr w' g gs A B clean s:=by
 cases s with
 |none=>exact eC.V (g:=g) (gs:=gs) (A:=A) (B:=B) h a e f
 |some s=>exact dl.V (g:=g) (gs:=gs) (A:=A) (B:=B) (s:=s) (clean:=clean) h a e f
theorem dr.ext {g:Nat} {A:ag} {B:ag} {s:Option aD} (h:dr w g gs A B clean s) (a:Ext w w'):dr w' g gs A B clean s:=h.V (a.V λ_=>False) (λ_ _ h=>h) λ_ _ h=>h
theorem dr.side {g:Nat} {A:ag} {B:ag} {s:Option aD} (h:dr w g gs A B clean s):k1 w g gs A B:=by
 cases s with
 |none=>exact h.1
 |some s=>exact h.1
def a8 (lo hi:Int) (s:Option aD):Option (Int×aD):=s.bind (bf lo hi)
theorem lX {g:Nat} {A:ag} {B:ag} {s:Option aD} (h:dr w g gs A B clean s):ai x7 ni [Γ g,Δ lo,Δ hi] w λv w'=>fP w g gs A B clean ((a8 lo hi s).map (·.2)) w'/\ ∃n at_:Int,v= .tuple #[Δ n,Δ at_]/\(∀q,a8 lo hi s=σ q->n=q.1)/\(a8 lo hi s=ν->n=0):=by
 cases s with
 |none=>
  refine (Kd h).mono ?_;rintro _ J _ ⟨a,rfl⟩;exact⟨⟨a.V _,eC.ext (g:=g) (gs:=gs) (A:=A) (B:=B) h a⟩,0,0,rfl,λq h=>(by cases h),λ_=>rfl⟩
 |some s=>exact vF (s:=s) h
theorem o2 {g:Nat} {A:ag} {B:ag} {s:Option aD} (h:dr w g gs A B clean s):ai x7 kM [Γ g] w λv w'=>v= .bool s.isSome/\Ext w w':=by
 cases s with
 |none=>exact nJ h
 |some s=>exact oT h
theorem Lg {g:Nat} {A:ag} {B:ag} {s:Option aD} {e:Int} (h:dr w g gs A B clean s) (he:e≠0):ai x7 nj [Γ g,Δ e,Δ at_] w λ_ w'=>fP w g gs A B clean ν w':=by
 cases s with
 |none=>
  refine (Kb h).mono ?_;rintro _ J _ a;exact⟨a.V _,eC.ext (g:=g) (gs:=gs) (A:=A) (B:=B) h a⟩
 |some s=>
  refine (sx (s:=s) h he).mono ?_;rintro _ J _ ⟨f,j⟩;exact⟨f.mono λr _ h=>.inl h,j⟩
theorem qt {g:Nat} {A:ag} {B:ag} {s:Option aD} {b:Bool} (h:dr w g gs A B clean s):ai x7 pM [Γ g,.bool b,Δ at_] w λ_ w'=>fP w g gs A B clean (s.map (bb b)) w':=by
 cases s with
 |none=>
  refine (A3 h).mono ?_;rintro _ J _ a;exact⟨a.V _,eC.ext (g:=g) (gs:=gs) (A:=A) (B:=B) h a⟩
 |some s=>
  refine (sy (s:=s) h).mono ?_;rintro _ J _ ⟨e,f⟩;exact⟨e.mono λr _ h=>.inl h,f⟩
theorem mF {n:Int} {s:Option aD} {s':aD} (h:a8 lo hi s=σ (n,s')):lo<=n/\n<=hi:=by
 cases s with
 |none=>cases h
 |some s=>exact (hT h).1
def e2 (ks acc:Λ) (s:Option aD):Option (Λ×aD):=s.bind (iI ks acc)
theorem BI {acc:Λ} {s:Option aD}:e2 (k::ks) acc s=match a8 0 (k-1) s with
  |none=>ν
  |some (v,s)=>iI ks (acc++[v]) s:=by
 cases s with
 |none=>rfl
 |some s=>
  show iI (k::ks) acc s=_;rw[iI];show _=match bf 0 (k-1) s with|none=>ν|some (v,s)=>iI ks (acc++[v]) s
  cases bf 0 (k-1) s<;>rfl
theorem BJ:∀ (t:Λ),(∀x∈t,0<=x/\x<=aq)->(ef t).length<=20*t.length
 |[],_=>by simp[ef]
 |x::t,h=>by
  have j:=BJ t λy a=>h y (.tail _ a);have f:=h x (.head _);have p:=vp 19 x.toNat (by unfold aq at f;omega) Ω;have e:ef (x::t)=fk x.toNat++[32]++ef t:=by simp[ef]
  rw[e];simp only[p8,Z0,List.length_nil];omega
theorem Lh {g an:Nat} {A B:ag} {s:Option aD} {aj:x1->x3->Prop}
  (h:dr w g gs A B clean s) (ak:aH .i64 w sv sizes) (aR:∀r,leads sv r->¬bE g gs A r/\r≠an) (aS:∀z∈sizes,1<=z/\z<=aq) (bP:sizes.length<=100001) (aT:e1 w) (h1:cG g gs A B 1)
  (am:ab w an ee [.slice ν 0 0,Δ 0]) (au:¬bE g gs A an) (av:¬B an)
  (aw:∀t w' aM gt,t.length=sizes.length->(∀x∈t,0<=x/\x<=aq)->ae (λr=>bE g gs A r\/r=an) w w'->ab w' an ee [aM,Δ 0]->ap .i64 al w' gt aM t->w.heap.size<=gt->
   dr w' g gs A B clean ((e2 sizes [] s).map (·.2))->(∀q,e2 sizes [] s=σ q->t=q.1)->aj (bU (ef t)) w'):
  b1 (.string ⟨#[]⟩) (Δ 0) w λkey W E aU=>
   aa x7 (aJ .lss ah false false W (Δ (sizes.length:Int))) E λaV=>
   Split aV (aa x7 (c7 ao sv W) E λaW=>
   aa x7 (u5 al aW) E λaX=>
   aa x7 (aJ .sub al false true aX (Δ 1)) E λaY=>
   ai x7 ni [Γ g,(Δ 0),aY] E λay H=>
   aa x7 (Z7 ay 0) H λaz=>
   aa x7 (Z7 ay 1) H λbQ=>
   aa x7 (u6 ee (Γ an) 0) H λaZ=>
   aa x7 (u5 ao aZ) H λa1=>
   ax x7 (Y1 ao 1 #[(0,az)]) H λa2 a6=>
   ax x7 (b8 #[ao,ao] ao #[a1,a2]) a6 λa7 aB=>
   aa x7 (u6 ee (Γ an) 0) aB λba=>
   ax x7 (o8 ao ba a7) aB λ(_:Unit) bb=>
   ai x7 uW [az] bb λbc L=>
   aa x7 (aJ .add c3 false true bc (.string ⟨#[32]⟩)) L λbe=>
   aa x7 (aJ .add c3 false false key be) L λbf=>
   aa x7 (aJ .add ah false true W (Δ 1)) L λbg=>
   aU bf bg L) (aj key E):=by
 have bR:=am.lt;have bh:=h.side;obtain⟨bS,bT,bV,bi,bj⟩:=bh;refine b1.range sizes.length (λj key J=>∃t aM gt f,key=bU (ef t)/\t.length=j/\(∀x∈t,0<=x/\x<=aq)/\ae (λr=>bE g gs A r\/r=an) w J/\ab J an ee [aM,Δ 0]/\ap .i64 al J gt aM t/\w.heap.size<=gt/\
  dr J g gs A B clean f/\e2 sizes [] s=e2 (sizes.drop j) t f) ak.le ⟨[],_,w.heap.size,s,rfl,rfl,λx C=>(by cases C),ae.refl _ _,am,ap.nil _ _ _ _,o4 _,h,rfl⟩ ?_ ?_
 rotate_left
 .rintro _ J bk ⟨t,aM,gt,f,rfl,M,I,G,N,O,X,P,he⟩;refine cd Ω ?_;rw[List.drop_length] at he;cases f with
  |none=>
   have he:e2 sizes [] s=ν:=he;exact aw t J aM gt M I G N O X (by rw[he];exact P) (λq e=>by rw[he] at e;cases e)
  |some f=>
   have he:e2 sizes [] s=σ (t,f):=he;exact aw t J aM gt M I G N O X (by rw[he];exact P) (λq e=>by rw[he] at e;cases e;rfl)
 rintro j _ J bk aC ⟨t,aM,gt,f,rfl,M,I,G,N,O,X,P,he⟩ bl;obtain⟨z,Y⟩:=aI (l:=sizes) aC;have bm:=aS z (x5 Y);have bW:z<=4611686018427387904:=bm.2;have bn:aH .i64 J sv sizes:=hS ak G λr y a n c bp bq=>by
  have:=aR r ⟨a,n,c,bp,bq⟩;exact y.elim this.1 this.2
 have af:∀r,bE g gs A r->r<w.heap.size:=bi;refine bH Ω ?_;rw[bd ao.u al.i Ψ bn Y,dZ,wrap_i64 Ω Ω];refine (lX P).mono ?_;rintro _ U _ ⟨br,n,at_,rfl,aE,bt⟩;obtain⟨Q,bu⟩:=br.of;have aF:0<=n/\n<=aq:=by
  cases e:a8 0 (z-1) f with
  |none=>rw[bt e];exact⟨Ω,by unfold aq;omega⟩
  |some q=>
   rw[aE q e];have:=mF (s':=q.2) (n:=q.1) e;exact⟨this.1,by unfold aq;omega⟩
 rw[bx,bz];have aG:=N.V Q au;have bw:=O.V Q λ_ bA=>by have:=af _ bA;omega
 rw[aA ee.p 0 aG rfl];refine ep ao.u al.i rfl λa ga bB bX K bC=>?_;refine jk ao.u al.i rfl (bw.ext K) bC.ls Θ Θ λaK aL bD bY Z R=>?_;have bZ:=G.size;have b0:=Q.size;have z3:=K.size;have z4:=R.size;rw[aQ ee.p rfl];have bF:=(aG.ext K).V R (λhe=>by have he:an=gt:=he;omega);refine bo (g:=an) (o:=0) ao.i Z.ls.cells.1 Z.ls.cells.2 bF Ξ λaN ac b2 ad=>?_;have ad:ab aN an ee [aK,Δ 0]:=ad;have bG:ae (λr=>bE g gs A r\/r=an) w bB:=(G.trans (Q.mono λr _ h=>.inl h)).trans (K.V _);have bI:ae (λr=>bE g gs A r\/r=an) w bD:=hr bG R λr y he=>by have he:r=gt:=he;omega
 have aO:ae (λr=>bE g gs A r\/r=an) w aN:=bI.trans (ac.mono λr _ h=>.inr h);have bJ:¬(λr=>bE g gs A r\/r=an) 1:=λh=>h.elim h1.1 λh=>av (h▸h1.2);obtain⟨m,rfl⟩:∃m:Nat,n=(m:Int):=⟨n.toNat,Ω⟩;unfold aq at aF;refine (Lf (aT.V aO bJ) Ω).mono ?_;rintro _ b3 _ ⟨rfl,S⟩;have b4:=vp 19 m Ω Ω;have b5:=BJ t I;rw[show (ByteArray.mk #[32])=strOfNums [32] from rfl,vl Θ,vl Θ,aP];refine bl _ _ ⟨t++[(m:Int)],aK,aL,(a8 0 (z-1) f).map (·.2),?_,by simp[M],λx C=>?_,aO.trans (S.V _),ad.ext S,(Z.V ac (λ_ he=>by have he:aL=an:=he;omega)).ext S,Ω,?_,?_⟩
 .rw[Jx,r8]
 .rcases l7.1 C with C|C
  .exact I x C
  .rw[l9.1 C];exact aF
 .refine dr.ext ?_ S;have bK:=bu.ext K;have bL:∀r,bE g gs A r->¬(λr=>r=gt) r:=λr y he=>by have:=af r y;have he:r=gt:=he;omega
  have bM:∀r,cG g gs A B r->¬(λr=>r=gt) r:=λr y he=>by have:=bj r y.2;have he:r=gt:=he;omega
  have bN:∀r,bE g gs A r->¬(λr=>r=an) r:=λr y he=>by have he:r=an:=he;exact au (he▸y)
  have bO:∀r,cG g gs A B r->¬(λr=>r=an) r:=λr y he=>by have he:r=an:=he;exact av (he▸y.2)
  exact (bK.V R bL bM).V ac bN bO
 .rw[he,X7 aC,show sizes[j]=z from (x4.1 Y).2,BI];cases e:a8 0 (z-1) f with
  |none=>rfl
  |some q=>
   rw[aE q e];rfl
def dV (s:aD):Prop:=s.big=false->s.told<=16384
def jN (n:Int) (s:aD):aD:=bb (decide (16384<min (s.told+n) aq)) {s with told:=min (s.told+n) aq}
theorem Li (n:Int) (s:aD):dV (jN n s):=λh=>by
 have h:(s.big||decide (16384<min (s.told+n) aq))=false:=h;have:=of_decide_eq_false (S2.1 h).2;show min (s.told+n) aq<=16384;omega
theorem Lj {g:Nat} {A B:ag} {s:Option aD} {n:Int} {K:x3->Prop} (h:dr w g gs A B clean s) (O:∀t,s=σ t->0<=n/\n<=aq/\dV t)
  (H:∀w',ae (bE g gs A) w w'->dr w' g gs A B clean (s.map (jN n))->K w'):
  aa x7 (bO (Γ g)) w λP=>
  aa x7 (u6 cg P 2) w λQ=>
  aa x7 (u5 al Q) w λR=>
  aa x7 (aJ .add al false false R (Δ n)) w λS=>
  aa x7 (Z1.min_ #[al,al] al #[S,(Δ 4611686018427387904)]) w λW=>
  aa x7 (bO (Γ g)) w λX=>
  aa x7 (u6 cg X 2) w λY=>
  ax x7 (o8 al Y W) w λ(_:Unit) q=>
  aa x7 (bO (Γ g)) q λt77=>
  aa x7 (u6 cg t77 2) q λZ=>
  aa x7 (u5 al Z) q λac=>
  aa x7 (aJ .gtr al false true ac (Δ 16384)) q λad=>
  ai x7 pM [Γ g,ad,Δ at_] q λ_ af=>K af:=by
 cases s with
 |none=>
  obtain⟨I,e,big,y,z,told,sv,l,x,C,E⟩:=id h;rw[aO cg.p 2 x rfl,aP,kR,bZ,aQ cg.p rfl];refine bo (g:=g) (o:=5) al.i rfl rfl x (by simp[fD]) λJ a ah f=>?_;rw[aO cg.p 2 f rfl,bT];have L:eC J g gs A B:=⟨I.V a,e,big,y,z,_,sv,l,f,C,ak.V E a λr _ h G=>su h I.2.1 G⟩;refine (A3 L).mono ?_;rintro _ U _ M;exact H _ ((a.mono λr _ h=>.inl h).trans (M.V _)) (L.ext M)
 |some s=>
  obtain⟨av,aj,hi⟩:=O s rfl;obtain⟨I,am,an,big,y,z,told,sv,x,C,E⟩:=id h;rw[aO cg.p 2 x rfl,aP,kR,bZ,aQ cg.p rfl];refine bo (g:=g) (o:=5) al.i rfl rfl x (by simp[fD]) λJ a ah f=>?_;have f:ab J g cg (fD gs 0 big y z (min (X2.wrap (told+n)) 4611686018427387904) sv):=f;rw[aO cg.p 2 f rfl,bT];have key:s.big=false->min (X2.wrap (told+n)) 4611686018427387904=min (s.told+n) aq:=λj=>by
   rw[C.2 j];have:=hi j;unfold aq at aj ⊢;rw[wrap_i64 Ω Ω]
  have ao:dl J g gs A B {s with told:=min (s.told+n) aq} clean:=⟨I.V a,am.V a (λhe=>I.1 he.symm) (λr ap he=>ap.1 (.inl he)),⟨by show 0<=min _ _;unfold aq;omega,by show min _ _<=_;omega,an.2.2⟩,big,y,z,_,sv,f,⟨C.1,key⟩,ak.V E a λr _ h G=>su h I.2.1 G⟩;refine (sy ao).mono ?_;rintro _ U _ ⟨au,N⟩;refine H _ ((a.trans au).mono λr _ h=>.inl h) ?_;have e:bb (decide (16384<min (X2.wrap (told+n)) 4611686018427387904)) {s with told:=min (s.told+n) aq}=jN n s:=by
   cases j:s.big with
   |false=>rw[key j,<-j];rfl
   |true=>simp[jN,bb,j]
  rw[e] at N;exact N
def iQ (sizes:Λ) (s:Option aD):Option (List (Λ×Int)×aD):=s.bind (dU sizes)
def k5 (w:x3) (m:Nat) (acc:List (Λ×Int)):Prop:=c5 w m (acc.map λp=>(bU (ef p.1),Δ 1))
def kr (w:x3) (m:Nat):Prop:=∃d,c5 w m d/\ ∀p∈d,∃ (k:ByteArray) (c:Int),p=(.string k,Δ c)
theorem k5.any {acc:List (Λ×Int)} (h:k5 w m acc):kr w m:=⟨_,h,λp a=>by
 obtain⟨q,_,rfl⟩:=n9.1 a;exact⟨_,_,rfl⟩⟩
theorem Lk {k:ByteArray} (h:kr w m) (f:∀c:Int,K (Δ c)):aa x7 (Instr.lookup gT (.map (σ m)) (.string k) false) w K:=by
 obtain⟨d,hm,q⟩:=h;have hk:=Keys.str c3.u;have r:∀p∈d,∃s,p.1=x1.string s:=λp a=>by obtain⟨s,c,rfl⟩:=q p a;exact⟨s,rfl⟩
 by_cases he:∃p∈d,p.1=x1.string k
 .obtain⟨p,a,e⟩:=he;obtain⟨j,x⟩:=X4.1 a;obtain⟨s,c,rfl⟩:=q p a;have e:x1.string s=x1.string k:=e;rw[e] at x;rw[qi gT.u hk hm r ⟨k,rfl⟩ x];exact f c
 .have y:∀p∈d,p.1≠x1.string k:=λp a h=>he ⟨p,a,h⟩;rw[sF gT.u hk ⟨_,_,ah.i⟩ hm r ⟨k,rfl⟩ y];exact f 0
theorem Ll {k:ByteArray} {K:Unit->x3->Prop} (h:kr w m) (x:∀w',ae (λr=>r=m) w w'->kr w' m->K () w'):ax x7 (Instr.mapUpdate gT (.map (σ m)) (.string k) (Δ c)) w K:=by
 obtain⟨d,hm,e⟩:=h;have y:∀p∈d,∃s,p.1=x1.string s:=λp a=>by obtain⟨s,c,rfl⟩:=e p a;exact⟨s,rfl⟩
 refine qj gT.u (Keys.str c3.u) hm y ⟨k,rfl⟩ (λj v0 w' z f q=>x w' q ⟨_,f,λp a=>?_⟩) (λw' A f q=>x w' q ⟨_,f,λp a=>?_⟩)
 .rcases X6 a with a|rfl
  .exact e p a
  .exact⟨_,_,rfl⟩
 .rcases l7.1 a with a|a
  .exact e p a
  .rw[l9.1 a];exact⟨_,_,rfl⟩
theorem BK {a b:Λ} (e:∀x∈a,0<=x) (f:∀x∈b,0<=x) (h:bU (ef a)=bU (ef b)):a=b:=by
 have h:strOfNums (ef a)=strOfNums (ef b):=x1.string.inj h;exact Aj e f (str_inj (Ak a) (Ak b) h)
theorem vT {acc:List (Λ×Int)}:∀p∈acc.map λp=>(bU (ef p.1),V0 .i64 1),∃s,p.1=x1.string s:=λp a=>by
 obtain⟨q,_,rfl⟩:=n9.1 a;exact⟨_,rfl⟩
theorem BL {acc:List (Λ×Int)} {t:Λ} (h:k5 w m acc) (f:∀p∈acc,∀x∈p.1,0<=x) (r:∀x∈t,0<=x):
  aa x7 (Instr.lookup gT (.map (σ m)) (bU (ef t)) false) w K=K (Δ (if t∈acc.map (·.1) then 1 else 0)):=by
 have hk:=Keys.str c3.u;by_cases he:t∈acc.map (·.1)
 .rw[if_pos he];obtain⟨p,a,rfl⟩:=n9.1 he;obtain⟨j,s⟩:=X4.1 a;rw[qi gT.u hk h vT ⟨_,rfl⟩ (j:=j) (v:=Δ 1) (by rw[x8,s];rfl)];simp
 .rw[if_neg he];rw[sF gT.u hk ⟨_,_,ah.i⟩ h vT ⟨_,rfl⟩ (λp a y=>?_)]
  .simp
  .obtain⟨q,e,rfl⟩:=n9.1 a;have:=BK (f q e) r y;exact he (n9.2 ⟨q,e,this⟩)
theorem Lm {acc:List (Λ×Int)} {t:Λ} {K:Unit->x3->Prop} (h:k5 w m acc) (z:∀p∈acc,∀x∈p.1,0<=x) (A:∀x∈t,0<=x) (B:t∉acc.map (·.1))
  (C:∀w',ae (λr=>r=m) w w'->k5 w' m (acc++[(t,c)])->K () w'):ax x7 (Instr.mapUpdate gT (.map (σ m)) (bU (ef t)) (Δ 1)) w K:=by
 refine qj gT.u (Keys.str c3.u) h vT ⟨_,rfl⟩ (λj v0 w' e f s=>?_) (λw' _ f s=>C w' s ?_)
 .rw[x8] at e;obtain⟨q,y,a⟩:=Y7.1 e;have a:bU (ef q.1)=bU (ef t):=congrArg Prod.fst a;have:=BK (z q (x5 y)) A a;exact absurd (n9.2 ⟨q,x5 y,this⟩) B
 .unfold k5;rw[j6];exact f
theorem Ln {acc:List (Λ×Int)} {t:Λ} {ok:Prop} {K:Unit->x3->Prop} (e:kr w m) (z:ok->k5 w m acc/\(∀p∈acc,∀x∈p.1,0<=x)/\(∀x∈t,0<=x)/\t∉acc.map (·.1))
  (f:∀w',ae (λr=>r=m) w w'->kr w' m->(ok->k5 w' m (acc++[(t,c)]))->K () w'):
  aa x7 (Instr.lookup gT (.map (σ m)) (bU (ef t)) false) w λA=>
  aa x7 (aJ .add ah false true A (Δ 1)) w λB=>
  ax x7 (Instr.mapUpdate gT (.map (σ m)) (bU (ef t)) B) w K:=by
 by_cases j:ok
 .obtain⟨h1,q,s,y⟩:=z j;rw[BL h1 q s,if_neg y,aP,wrap_i64 Ω Ω];exact Lm (c:=c) h1 q s y λw' a I=>f w' a I.any λ_=>I
 .refine Lk e λgV=>?_;rw[aP];exact Ll e λw' a I=>f w' a I λh=>absurd h j
def fm {α:Type} (f:List α->aD->Option (α×aD)) (n:Nat) (acc:List α) (o:Option aD):Option (List α×aD):=o.bind (cQ f n acc)
theorem kr.V (h:kr w m) (a:ae S w w') (e:¬S m):kr w' m:=by
 obtain⟨d,h1,f⟩:=h;exact⟨d,h1.V a e,f⟩
theorem dr.words {g:Nat} {A:ag} {B:ag} {s:aD} (h:dr w g gs A B clean (σ s)):s.toks.length<=100000:=by
 have h:dl w g gs A B s clean:=h;exact h.2.1.words.1
theorem BM {acc:List (Λ×Int)} {st:aD} {t:Λ} (j:∀q,e2 sizes [] (σ st)=σ q->t=q.1) (a:∀q,a8 0 aq ((e2 sizes [] (σ st)).map (·.2))=σ q->c=q.1):
  (a8 0 aq ((e2 sizes [] (σ st)).map (·.2))=ν->dT sizes acc st=ν)/\ ∀q,a8 0 aq ((e2 sizes [] (σ st)).map (·.2))=σ q->dT sizes acc st=if t∈acc.map (·.1) then ν else σ ((t,c),q.2):=by
 have e:e2 sizes [] (σ st)=iI sizes [] st:=rfl;rw[e] at j a ⊢;unfold dT;cases h1:iI sizes [] st with
 |none=>exact⟨λ_=>rfl,λq f=>(by cases f)⟩
 |some q=>
  obtain⟨br,p⟩:=q;rw[h1] at j a;have:=j _ rfl;subst this;have r:a8 0 aq ((σ (t,p)).map (·.2))=bf 0 aq p:=rfl;rw[r] at a ⊢;simp only;cases s:bf 0 aq p with
  |none=>exact⟨λ_=>rfl,λq f=>(by cases f)⟩
  |some q=>
   obtain⟨w,x⟩:=q;rw[s] at a;have:=a _ rfl;subst this;exact⟨λh=>(by cases h),λq f=>(by cases f;rfl)⟩
theorem Lo {g:Nat} {A B:ag} {s:Option aD} {Q:x1->x3->Prop}
  (h:dr w g gs A B clean s) (bW:aH .i64 w sv sizes) (aT:∀r,leads sv r->¬bE g gs A r/\r<w.heap.size) (bX:∀z∈sizes,1<=z/\z<=aq) (bY:sizes.length<=100001) (bZ:e1 w) (h1:cG g gs A B 1) (b0:(N:Int)<=aq)
  (bp:∀v w' l,fP w g gs A B clean ((fm (dT sizes) N [] s).map (·.2)) w'->bj (eL w.heap.size) bC w' [v] (show List (Λ×Int) from l)->(∀q,fm (dT sizes) N [] s=σ q->l=q.1)->Q v w'):
  ax x7 (Instr.makeMap gT ν) w λaV y=>
 b1 (.slice ν 0 0) (Δ 0) y λout i H k=>
  cm (α:=x1->x3->Prop) (λ(b3:x1) (S:x3)=>
   Split b3 (ax x7 (T7 ee true (.tuple #[])) S λx j=>
  aa x7 (W7 #[ao] ah #[sv]) j λb4=>
  b1 (.string ⟨#[]⟩) (Δ 0) j λkey aW U b5=>
   aa x7 (aJ .lss ah false false aW b4) U λb6=>
   Split b6 (aa x7 (c7 ao sv aW) U λb7=>
   aa x7 (u5 al b7) U λb9=>
   aa x7 (aJ .sub al false true b9 (Δ 1)) U λca=>
   ai x7 ni [Γ g,(Δ 0),ca] U λbq Z=>
   aa x7 (Z7 bq 0) Z λbr=>
   aa x7 (Z7 bq 1) Z λdv=>
   aa x7 (u6 ee x 0) Z λcb=>
   aa x7 (u5 ao cb) Z λcc=>
   ax x7 (Y1 ao 1 #[(0,br)]) Z λcd I=>
   ax x7 (b8 #[ao,ao] ao #[cc,cd]) I λce bt=>
   aa x7 (u6 ee x 0) bt λcg=>
   ax x7 (o8 ao cg ce) bt λ(_:Unit) ch=>
   ai x7 uW [br] ch λci aC=>
   aa x7 (aJ .add c3 false true ci (.string ⟨#[32]⟩)) aC λcj=>
   aa x7 (aJ .add c3 false false key cj) aC λck=>
   aa x7 (aJ .add ah false true aW (Δ 1)) aC λcl=>
   b5 ck cl aC)
    (ai x7 ni [Γ g,(Δ 0),(Δ 4611686018427387904)] U λbu aE=>
  aa x7 (Z7 bu 0) aE λcn=>
  aa x7 (Z7 bu 1) aE λcp=>
  aa x7 (u6 ee x 1) aE λcq=>
  ax x7 (o8 al cq cn) aE λ(_:Unit) cr=>
  cm (α:=x3->Prop) (λ(W:x3)=>
   aa x7 (Instr.lookup gT aV key false) W λct=>
   aa x7 (aJ .add ah false true ct (Δ 1)) W λcu=>
   ax x7 (Instr.mapUpdate gT aV key cu) W λ(_:Unit) ac=>
   aa x7 (u5 ee x) ac λcw=>
   ax x7 (Y1 iC 1 #[(0,cw)]) ac λcz ay=>
   ax x7 (b8 #[iC,iC] iC #[out,cz]) ay λcA aF=>
   aa x7 (aJ .add al false true i (Δ 1)) aF λcB=>
  k cA cB aF) λbw=>
  cm (α:=x1->x3->Prop) (λ(cC:x1) (M:x3)=>
   Split cC (ai x7 nj [Γ g,(Δ 4),cp] M λdw bA=>
    bw bA)
    (bw M)) λbF=>
  ai x7 kM [Γ g] cr λcD ad=>
  Split cD (aa x7 (Instr.lookup gT aV key false) ad λcE=>
  aa x7 (aJ .gtr ah false true cE (Δ 0)) ad λcF=>
  bF cF ad)
   (bF (.bool false) ad)))
    (Q out S)) λbG=>
  aa x7 (aJ .lss al false false i (Δ (N:Int))) H λcH=>
  Split cH (ai x7 kM [Γ g] H λcI cJ=>
  bG cI cJ)
   (bG (.bool false) H):=by
 obtain⟨dx,dy,dz,cK,aG⟩:=h.side;have af:∀r,bE g gs A r->r<w.heap.size:=cK;unfold aq at b0;refine sE λC y dA aZ a1=>?_;have dC:=aZ.size;have dD:=a1.lt;generalize E:fm (dT sizes) N [] s=bH at bp;refine⟨λout a2 H=>∃ (i:Nat) (acc:List (Λ×Int)) (so:Option aD),a2=Δ (i:Int)/\i<=N/\ae (bE g gs A) w H/\y.heap.size<=H.heap.size/\bj (eL y.heap.size) bC H [out] acc/\dr H g gs A B clean so/\
   bH=fm (dT sizes) (N-i) acc so/\kr H C/\acc.length<=100001/\ ∀st,so=σ st->k5 H C acc/\(∀p∈acc,∀x∈p.1,0<=x)/\acc.length+st.toks.length<=100000,
  λ_ a2 _=>N-(b2 a2).toNat,⟨0,[],s,rfl,X3 _,aZ.V _,o4 _,gh,h.ext aZ,E.symm,⟨[],a1,λp L=>(by cases L)⟩,Ξ,λst cL=>⟨a1,λp L=>(by cases L),?_⟩⟩,?_⟩
 .subst cL;have:=h.words;simpa using this
 rintro out _ H ⟨i,acc,so,rfl,dE,bI,z9,bJ,a6,aI,cM,dF,a7⟩;refine aU (λv S=>Ext H S/\((v= .bool true/\i<N/\ ∃st,so=σ st)\/(v= .bool false/\(so=ν\/i=N)))) ?_ ?_
 rotate_left
 .intro av ba;rw[aR,aj];refine⟨λcN=>?_,λdG=>ba _ _ ⟨Ext.refl _,.inr ⟨rfl,.inr Ω⟩⟩⟩;refine (o2 a6).mono ?_;rintro _ S _ ⟨rfl,O⟩;cases so with
  |none=>exact ba _ _ ⟨O,.inr ⟨rfl,.inl rfl⟩⟩
  |some st=>exact ba _ _ ⟨O,.inl ⟨rfl,Ω,st,rfl⟩⟩
 rintro _ S ⟨O,cO⟩;rcases cO with⟨rfl,cN,st,rfl⟩|⟨rfl,cP⟩
 rotate_left
 .rw[aY];have bK:bH=so.map λst=>(acc,st):=by
   rcases cP with rfl|rfl
   .exact aI
   .rw[U1] at aI;rw[aI];cases so<;>rfl
  refine bp out S acc (fP.mk (bI.trans (O.V _)) ?_) (bc (ak.mono bJ (λr _ h=>by have h:y.heap.size<=r:=h;show w.heap.size<=r;omega) λ_ _ h=>h) O) (λq J=>?_)
  .rw[bK,Option.map_map];have e:V8 ((λx=>x.2)∘λst=>(acc,st)) so=so:=by cases so<;>rfl
   rw[e];exact a6.ext O
  .rw[bK] at J;cases so with
   |none=>cases J
   |some st=>cases J;rfl
 rw[bS];obtain⟨a7,bb,dH⟩:=a7 st rfl;have dI:=O.size;refine bB ee.i λan j dJ bL bM=>?_;have az:=O.trans bL;have bd:ae (bE g gs A) w j:=bI.trans (az.V _);have bN:aH .i64 j sv sizes:=hS bW bd λr f a n c cQ cR=>(aT r ⟨a,n,c,cQ,cR⟩).1 f;rw[aX ao.u bN];have aK:¬bE g gs A an:=λE=>by have:=af _ E;omega
 refine Lh (s:=σ st) (a6.ext az) bN (λr f=>⟨(aT r f).1,by have:=(aT r f).2;omega⟩) bX bY (bZ.V bd h1.1) h1 bM aK (λcS=>by have:=aG _ cS;omega) λt U aM gt dK cT bO cU cV cW cX cY=>?_;have dL:=bL.size;have z12:=bO.size;have dM:=bM.lt;have be:∀x∈t,0<=x:=λx cZ=>(cT x cZ).1;refine (lX cX).mono ?_;rintro _ Z _ ⟨bf,c,dN,rfl,c0,dO⟩;obtain⟨aL,c1⟩:=bf.of;have dP:=aL.size;rw[bx,bz,aQ ee.p rfl];refine bo (g:=an) (o:=1) al.i rfl rfl (cU.V aL aK) Ξ λI aN dQ bg=>?_;have bg:ab I an ee [aM,Δ c]:=bg;have c2:ap .i64 al I gt aM t:=(cV.V aL (λ_ E=>by have:=af _ E;omega)).V aN (λ_ he=>by have he:gt=an:=he;omega);have bh:ae (λr=>bE g gs A r\/r=an) j I:=(bO.trans (aL.mono λr _ h=>.inl h)).trans (aN.mono λr _ h=>.inr h);have X:dr I g gs A B clean ((a8 0 aq ((e2 sizes [] (σ st)).map (·.2))).map (·.2)):=c1.V aN (λr f he=>by have he:r=an:=he;exact aK (he▸f)) (λr f he=>by have:=aG r f.2;have he:r=an:=he;omega);have bP:¬(λr=>bE g gs A r\/r=an) C:=λh=>h.elim (λh=>by have:=af _ h;omega) (λh=>Ω);have c4:kr I C:=(cM.V (az.V (λ_=>False)) (λh=>h)).V bh bP;have bQ:k5 I C acc:=(c5.ext a7 az).V bh bP;obtain⟨bi,bk⟩:=BM (acc:=acc) cY c0;refine dm (λW=>ae (bE g gs A) I W/\dr W g gs A B clean ((dT sizes acc st).map (·.2))) ?_ ?_
 .rintro W ⟨am,c6⟩;have bl:¬bE g gs A C:=λh=>by have:=af _ h;omega
  have dR:=aN.size;have dS:=am.size;refine Ln (acc:=acc) (t:=t) (c:=c) (ok:=∃q,dT sizes acc st=σ q) (c4.V am bl) (λ⟨q,J⟩=>⟨c5.V bQ am bl,bb,be,λP=>?_⟩) λac aA c8 c9=>?_
  .cases K:a8 0 aq ((e2 sizes [] (σ st)).map (·.2)) with
   |none=>rw[bi K] at J;cases J
   |some au=>rw[bk au K,if_pos P] at J;cases J
  have dU:=aA.size;have da:ab ac an ee [aM,Δ c]:=(bg.V am aK).V aA (λhe=>by have he:an=C:=he;omega);have db:ap .i64 al ac gt aM t:=(c2.V am (λ_ E=>by have:=af _ E;omega)).V aA (λ_ he=>by have he:gt=C:=he;omega);rw[bD ee.p ee.i rfl da.range];have bR:bj (eL j.heap.size) bC ac [aM,Δ c] (t,c):=⟨[aM],[Δ c],eL j.heap.size,bC,rfl,λ_ h=>h,λ_ h=>h.elim,λ_ _ _ h=>h,ak.mono (ny db) (λr _ h=>by subst h;exact cW) (λ_ _ h=>h),rfl⟩;refine iH (α:=Λ×Int) (a:=(t,c)) (cs:=[aM,Δ c]) (A:=eL j.heap.size) (R:=bC) iC.u ee.i Φ rfl bR λu ay aw _ dc=>?_;have z22:=aw.size;have dd:bj (λr=>eL y.heap.size r/\r<j.heap.size/\r≠an) bC j [out] acc:=bc (ak.mono (mv bJ) (λr _ h=>⟨h.1,by have:=h.2;omega,by have:=h.2;omega⟩) λ_ _ h=>h) az;have bU:ae (λr=>bE g gs A r\/r=an\/r=C) j ay:=(((bh.mono λr _ h=>h.elim .inl λh=>.inr (.inl h)).trans (am.mono λr _ h=>.inl h)).trans (aA.mono λr _ h=>.inr (.inr h))).trans (aw.V _);have de:=ak.V dd bU λr f h E=>by
   rcases h with h|h
   .have aO:y.heap.size<=r:=h.1;rcases E with E|E|E
    .have:=af _ E;omega
    .exact h.2.2 E
    .omega
   .exact h
  refine nx (α:=Λ×Int) (a:=(t,c)) (A:=eL j.heap.size) iC.u ee.i rfl de dc (bc bR aw) (λr _ h h'=>?_) Ω Ω λdV aF df aB=>?_
  .rcases h' with h'|h'
   .have:=h.2;have:j.heap.size<=r:=h';omega
   .exact h'
  have dW:=aB.size;rw[aP,wrap_i64 Ω Ω];have dg:ae (bE g gs A) w ay:=hr bd bU λr f h=>by
   rcases h with h|h|h
   .exact h
   .omega
   .omega
  have dh:ae (bE g gs A) w aF:=hr dg aB λr f h=>by have aO:y.heap.size<=r:=h.1;omega
  have di:dr ay g gs A B clean ((dT sizes acc st).map (·.2)):=(c6.V aA (λr f he=>by have he:r=C:=he;exact bl (he▸f)) (λr f he=>by have:=aG r f.2;have he:r=C:=he;omega)).ext aw;have dj:∀r,bE g gs A r->¬(eL y.heap.size r/\r<j.heap.size/\r≠an):=λr f he=>by have:=af _ f;have aO:y.heap.size<=r:=he.1;omega
  have dk:∀r,cG g gs A B r->¬(eL y.heap.size r/\r<j.heap.size/\r≠an):=λr f he=>by have:=aG r f.2;have aO:y.heap.size<=r:=he.1;omega
  have bV:¬(eL y.heap.size C/\C<j.heap.size/\C≠an):=λhe=>by have aO:y.heap.size<=C:=he.1;omega
  refine⟨⟨i+1,acc++[(t,c)],(dT sizes acc st).map (·.2),rfl,Ω,dh,Ω,?_,di.V aB dj dk,?_,(c8.V (aw.V (λ_=>False)) (λh=>h)).V aB bV,Θ,λdl dn=>?_⟩,by simp only[b2];omega⟩
  .refine ak.mono df (λr _ h=>?_) λ_ _ h=>h;show y.heap.size<=r;rcases h with h|h|h
   .exact h.1
   .have h:j.heap.size<=r:=h;omega
   .omega
  .rw[aI,show N-i=(N-(i+1))+1 by omega];cases G:dT sizes acc st with
   |none=>exact oU G
   |some q=>
    obtain⟨a,dl⟩:=q;have dp:a=(t,c):=by
     cases K:a8 0 aq ((e2 sizes [] (σ st)).map (·.2)) with
     |none=>rw[bi K] at G;cases G
     |some au=>
      rw[bk au K] at G;split at G
      .cases G
      .cases G;rfl
    subst dp;exact sA G
  .obtain⟨q,J,rfl⟩:=Y7.1 dn;have dX:=(oR J).2.2.2.1;refine⟨c5.V ((c5.ext (c9 ⟨q,J⟩) aw)) aB bV,λp L=>?_,by simp only[p8,U6];omega⟩;rcases l7.1 L with L|L
   .exact bb p L
   .rw[l9.1 L];exact be
 .intro dY bm;cases K:a8 0 aq ((e2 sizes [] (σ st)).map (·.2)) with
  |none=>
   rw[K] at X;have G:=bi K;refine aU (λv M=>Ext I M/\v= .bool false) ?_ ?_
   .rintro _ M ⟨Y,rfl⟩;rw[aY];exact bm _ ⟨Y.V _,by rw[G];exact X.ext Y⟩
   .intro dq bn;refine (o2 X).mono ?_;rintro _ ad _ ⟨rfl,aS⟩;rw[show ((ν:Option (Int×aD)).map (·.2)).isSome=false from rfl,aY];exact bn _ _ ⟨aS,rfl⟩
  |some au=>
   rw[K] at X;have G:=bk au K;refine aU (λv M=>Ext I M/\v= .bool (decide (t∈acc.map (·.1)))) ?_ ?_
   .rintro _ M ⟨Y,rfl⟩;rw[aj];refine⟨λP=>?_,λds=>?_⟩
    .refine (Lg (X.ext Y) Ω).mono ?_;rintro _ bA _ bf;obtain⟨dt,du⟩:=bf.of;exact bm _ ⟨(Y.V _).trans dt,by rw[G,if_pos P];exact du⟩
    .exact bm _ ⟨Y.V _,by rw[G,if_neg ds];exact X.ext Y⟩
   .intro dq bn;refine (o2 X).mono ?_;rintro _ ad _ ⟨rfl,aS⟩;rw[show ((σ au:Option (Int×aD)).map (·.2)).isSome=true from rfl,bS,BL (c5.ext bQ aS) bb be,bT];refine bn _ _ ⟨aS,?_⟩;congr 1;by_cases P:t∈acc.map (·.1)
    .rw[if_pos P,decide_eq_true P];rfl
    .rw[if_neg P,decide_eq_false P];rfl
theorem BN (sizes:Λ) (s:Option aD):iQ sizes s=match a8 (-aq) aq s with
 |none=>ν
 |some (n,s)=>
  if n<0 then match s.shared[(-n-1).toNat]? with
   |none=>ν
   |some (z,l)=>if z=sizes then σ (l,s) else ν
  else cQ (dT sizes) n.toNat [] (jN n s):=by
 cases s with
 |none=>rfl
 |some s=>
  show dU sizes s=_;unfold dU;show _=match bf (-aq) aq s with
   |none=>ν
   |some (n,s)=>
    if n<0 then match s.shared[(-n-1).toNat]? with
     |none=>ν
     |some (z,l)=>if z=sizes then σ (l,s) else ν
    else cQ (dT sizes) n.toNat [] (jN n s)
  cases bf (-aq) aq s<;>rfl
theorem BO {m:Bool} {S R:ag} {a:iO} (h:ak.rep (α:=iO) m S R w cs a):∃u v,cs=[u,v]/\ak.rep (α:=Λ) false bC R w [u] a.1/\ak.rep (α:=List (Λ×Int)) false bC R w [v] a.2:=by
 obtain⟨c,d,f,eh,rfl,_,_,_,h1,e⟩:=h;have h1:ak.rep (α:=Λ) false bC R w c a.1:=h1;have e:ak.rep (α:=List (Λ×Int)) false bC R w d a.2:=e;obtain⟨u,rfl⟩:=W8.1 (show c.length=1 from ak.len h1);obtain⟨v,rfl⟩:=W8.1 (show d.length=1 from ak.len e);exact⟨u,v,rfl,h1,e⟩
theorem Lp {g:Nat} {A B:ag} {s:Option aD}
  (h:dr w g gs A B clean s) (hi:∀t,s=σ t->dV t) (az:aH .i64 w sv sizes) (L:∀r,leads sv r->¬bE g gs A r/\r<w.heap.size) (aA:∀z∈sizes,1<=z/\z<=aq) (aC:sizes.length<=100001) (aE:e1 w) (h1:cG g gs A B 1):
  ai x7 Hx [Γ g,sv] w λv w'=>fP w g gs A B clean ((iQ sizes s).map (·.2)) w'/\ ∃l,Seen (λr=>cG g gs A B r\/w.heap.size<=r) w' [v] (show List (Λ×Int) from l)/\ ∀q,iQ sizes s=σ q->l=q.1:=by
 have aF:=h.side;obtain⟨bf,bg,bh,aG,bi⟩:=id aF;have af:∀r,bE g gs A r->r<w.heap.size:=aG;refine aw func142 ?_;refine (lX (lo:=-aq) (hi:=aq) h).mono ?_;rintro _ J _ ⟨aI,n,at_,rfl,X,aJ⟩;obtain⟨M,al⟩:=aI.of;have bk:=M.size;have j:=BN sizes s;rw[bx,bz];have am:aH .i64 J sv sizes:=hS az M λr C a n c O Y=>(L r ⟨a,n,c,O,Y⟩).1 C;have bl:∀r,leads sv r->¬bE g gs A r/\r<J.heap.size:=λr C=>⟨(L r C).1,by have:=(L r C).2;omega⟩;have rest:∀U,Ext J U->(∀q,a8 (-aq) aq s=σ q->¬n<0)-> ∀N:Nat,n=(N:Int)->(N:Int)<=aq-> ∀y,ae (bE g gs A) U y->dr y g gs A B clean (((a8 (-aq) aq s).map (·.2)).map (jN n))->
   ∀v w' l,fP y g gs A B clean ((fm (dT sizes) N [] (((a8 (-aq) aq s).map (·.2)).map (jN n))).map (·.2)) w'->bj (eL y.heap.size) bC w' [v] (show List (Λ×Int) from l)->(∀q,fm (dT sizes) N [] (((a8 (-aq) aq s).map (·.2)).map (jN n))=σ q->l=q.1)->
   fP w g gs A B clean ((iQ sizes s).map (·.2)) w'/\ ∃l,Seen (λr=>cG g gs A B r\/w.heap.size<=r) w' [v] (show List (Λ×Int) from l)/\ ∀q,iQ sizes s=σ q->l=q.1:=by
  intro U x P N Z aa y G ab v w' l aK aL aM;obtain⟨aN,aP⟩:=aK.of;have aS:=x.size;have z3:=G.size;have e:iQ sizes s=fm (dT sizes) N [] (((a8 (-aq) aq s).map (·.2)).map (jN n)):=by
   rw[j];cases f:a8 (-aq) aq s with
   |none=>rfl
   |some q=>
    obtain⟨aT,H⟩:=q;have:=X _ f;subst this;simp only;rw[if_neg (P _ f),Z,r8];rfl
  rw[e];refine⟨fP.mk (((M.trans (x.V _)).trans G).trans aN) aP,l,nt aL λr _ h=>?_,aM⟩;rcases h with h|h
  .have h:y.heap.size<=r:=h;exact .inr Ω
  .exact h.elim
 refine aU (λv U=>Ext J U/\v= .bool (decide (n<0/\(a8 (-aq) aq s).isSome=true))) ?_ ?_
 rotate_left
 .intro av W;refine (o2 al).mono ?_;rintro _ U _ ⟨rfl,x⟩;cases f:a8 (-aq) aq s with
  |none=>
   rw[show ((ν:Option (Int×aD)).map (·.2)).isSome=false from rfl,aY];exact W _ _ ⟨x,by rw[decide_eq_false];rintro⟨_,h⟩;rw[f] at h;cases h⟩
  |some q=>
   rw[show ((σ q:Option (Int×aD)).map (·.2)).isSome=true from rfl,bS,aR];exact W _ _ ⟨x,by congr 1;rw[V3,decide_eq_true_eq,decide_eq_true_eq,f];exact⟨λh=>⟨h,rfl⟩,λh=>h.1⟩⟩
 rintro _ U ⟨x,rfl⟩;have I:=al.ext x;have aS:=x.size;rw[aj];refine⟨λP=>?_,λaV=>?_⟩
 rotate_left
 .have P:∀q,a8 (-aq) aq s=σ q->¬n<0:=λq f h=>aV ⟨h,by rw[f];rfl⟩;obtain⟨N,Z,aa⟩:∃N:Nat,n=(N:Int)/\(N:Int)<=aq:=by
   cases f:a8 (-aq) aq s with
   |none=>rw[aJ f];exact⟨0,rfl,by unfold aq;omega⟩
   |some q=>
    have h1:=P q f;have aW:=mF (n:=q.1) (s':=q.2) f;have aX:=X q f;exact⟨n.toNat,Ω,Ω⟩
  refine Lj (at_:=at_) I (λt aZ=>?_) λy G ab=>?_
  .obtain⟨q,f,rfl⟩:=Y7.1 aZ;have aW:=mF (n:=q.1) (s':=q.2) f;have aX:=X q f;refine⟨Ω,Ω,?_⟩;cases s with
   |none=>cases f
   |some s0=>
    have an:=(dH (n:=q.1) (s':=q.2) f).eqs;have ao:=hi s0 rfl;intro ap;rw[an.1];rw[an.2.1] at ap;exact ao ap
  .have z3:=G.size;have a1:ae (bE g gs A) w y:=(M.trans (x.V _)).trans G;subst Z;refine Lo (N:=N) ab ((hS (am.ext x) G λr C a n c O Y=>(L r ⟨a,n,c,O,Y⟩).1 C)) (λr C=>⟨(L r C).1,by have:=(L r C).2;omega⟩) aA aC (aE.V a1 h1.1) h1 aa λv w' l a b c=>?_;exact rest U x P N rfl aa y G ab v w' l a b c
 .obtain⟨a2,a6⟩:=P;obtain⟨⟨aT,H⟩,f⟩:=Option.isSome_iff_exists.1 a6;have:=X _ f;subst this;have bm:=mF f;rw[f] at j I;simp only at j;rw[if_pos a2] at j;have I:dl U g gs A B H clean:=I;obtain⟨_,ao,bn,big,bo,bp,told,bq,ac,br,ad⟩:=id I;have bt:aq=4611686018427387904:=rfl;refine aU (λv y=>Ext U y/\v= .bool (decide (iQ sizes s=ν))) ?_ ?_
  .rintro _ y ⟨E,rfl⟩;rw[aj];refine⟨λa7=>?_,λau=>?_⟩
   .refine (sx (I.ext E) Ω).mono ?_;rintro _ bu _ ⟨ba,bb⟩;rw[a7];refine⟨fP.mk (((M.trans (x.V _)).trans (E.V _)).trans (ba.mono λr _ h=>.inl h)) bb,[],gh,λq f=>by cases f⟩
   .cases Q:H.shared[(-n-1).toNat]? with
    |none=>rw[Q] at j;exact absurd j au
    |some q=>
     obtain⟨z,l⟩:=q;rw[Q] at j;simp only at j;have bd:z=sizes:=by
      by_cases K:z=sizes
      .exact K
      .rw[if_neg K] at j;exact absurd j au
     rw[if_pos bd] at j;rw[aO cg.p 3 (ac.ext E) rfl,lO,wrap_i64 Ω Ω,dZ,wrap_i64 Ω Ω];refine ia (α:=iO) (m:=true) (S:=A) (R:=cG g gs A B) (i:=(-n-1).toNat) (a:=(z,l)) Ω ho.u jB.i (bc ad E) Q λb o cs ah ak=>?_;obtain⟨u,v,rfl,hu,O⟩:=BO ak;rw[aQ jB.p rfl,aB Ψ (ah 1 v rfl)];rw[j];refine⟨fP.mk ((M.trans (x.V _)).trans (E.V _)) (I.ext E),l,nt O λr _ h=>?_,λq f=>by cases f;rfl⟩;rcases h with h|h
     .exact h.elim
     .exact .inl h
  .intro av W;rw[lO,wrap_i64 Ω Ω,aO cg.p 3 ac rfl,fA ho.u ad,bT,aj];refine⟨λax=>W _ _ ⟨Ext.refl _,?_⟩,λay=>?_⟩
   .have ax:(H.shared.length:Int)<0-n:=ax;rw[Z3 Ω] at j;rw[decide_eq_true j]
   .have ay:¬(H.shared.length:Int)<0-n:=ay;have be:(-n-1).toNat<H.shared.length:=Ω
    obtain⟨⟨z,l⟩,Q⟩:∃q,H.shared[(-n-1).toNat]? =σ q:=⟨_,x6 be⟩;rw[aO cg.p 3 ac rfl,lO,wrap_i64 Ω Ω,dZ,wrap_i64 Ω Ω];refine ia (α:=iO) (m:=true) (S:=A) (R:=cG g gs A B) (i:=(-n-1).toNat) (a:=(z,l)) Ω ho.u jB.i ad Q λb o cs ah ak=>?_;obtain⟨u,v,rfl,hu,O⟩:=BO ak;rw[aQ jB.p rfl,aB Ψ (ah 0 u rfl)];refine (vf (cU hu) (am.ext x)).mono ?_;rintro _ y _ ⟨rfl,E⟩;rw[bG];refine W _ _ ⟨E,?_⟩;rw[Q] at j;simp only at j;by_cases K:z=sizes
    .rw[if_pos K] at j;rw[decide_eq_true K,decide_eq_false (by rw[j];simp)];rfl
    .rw[if_neg K] at j;rw[decide_eq_false K,decide_eq_true j];rfl
end Go.Proofs.YtjjhhcfgfdepdaaGreatDoor
