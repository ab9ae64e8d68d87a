/- own texts, made small by a tool (wip/ holds them as they were written): no statement of the seat. -/
import Derived.Test.YtmgflbkdggdhoaaGreatDoorYa
set_option linter.unusedVariables false
set_option linter.unusedSimpArgs false
set_option linter.unnecessarySimpa false
open Array renaming getElem?_eq_some_iff→n9,getElem?_toList→S4
open BitVec renaming ofInt→U5
open Bool renaming not_true→Y6,not_false→X9,and_eq_true→V1,eq_iff_iff→V6,or_eq_false_iff→S3
open Decidable renaming not_not→Z9
open Go renaming Value→x1,World→x3,TypeId→r9,IntKind→o5,Builtin→Z2,Program→W5,FuncId→R3
open Go.Addr renaming add_mid→T0
open Go.Builtin renaming append_→b9,len_→W8
open Go.Instr renaming loadAt→u4,fieldAt→u5,storeAt→o6,indexAt→j4,extract→Z7,buildSlice→Y4,sliceAt→V4,alloc→S7
open Go.IntKind renaming i64→X2,u64→U3
open Go.Proofs.Tryz renaming prog→x7
open Go.Result renaming andThen→W3
open Go.Sem renaming run_bind→W0,run_pure→V0
open Go.Value renaming int→V2
open Int renaming toNat_natCast→u6
open List renaming getElem?_eq_some_iff→x4,mem_of_getElem?→x5,getElem?_eq_getElem→x6,getElem?_map→x8,getD_eq_getElem?_getD→v8,length_map→u7,take_add_one→u9,replicate→r8,take_length→p9,length_append→o4,mem_append→o7,mem_singleton→o8,mem_map→l9,eq_nil_of_length_eq_zero→j5,length_take→j6,getElem?_set_self→c7,length_set→c8,length_cons→c9,take_of_length_le→b8,map_append→Z0,getElem?_eq_none→Z6,getElem?_take_of_lt→Z8,getElem?_set_ne→Y0,getElem?_append_left→Y1,getElem?_append_right→Y2,ext_getElem?→Y3,getElem?_set→Y7,mem_iff_getElem?→X1,range→X4,drop_eq_getElem_cons→X5,flatMap_cons→X7,mem_or_eq_of_mem_set→X8,length_eq_one_iff→W7,mem_cons→W9,pairwise_iff_getElem→V3,map_set→V8,append_nil→U4,append_assoc→U6,map_cons→U7,foldl_cons→U8,set_append_right→T2,map_map→T7,foldl_append→S1,length→S6,length_singleton→S9,getElem_mem→R8
open Nat renaming le_refl→p8,le_trans→Y9,zero_add→X0,zero_le→X3,mul_le_mul_right→X6,sub_self→V7,mul_one→U1,add_mul→U2,pow_le_pow_right→T8,add_assoc→S8,add_sub_cancel_left→R2,lt_of_lt_of_le→R6,eq_zero_or_pos→R7
open Option renaming toList_some→o9,map_some→Z3,isNone_some→Z4,map_eq_some_iff→Y5,map→V5,getD_some→V9
open Option.some renaming inj→b6,injEq→Y8
open Prod.mk renaming injEq→T9
set_option maxHeartbeats 16000000
open Option renaming some→σ,none→ν
variable {e t:r9}{N a gs j m n r:Nat}{at_ c hi k lo y:Int}{sv v z:x1}{cs:List x1}{K:x1->Prop}{f:o5}{C aj ks l sizes:Λ}{w w':x3}{clean cx cy:Bool}{S:Nat->Prop}
namespace Go.Vc
open Go Go.RowKit
section
variable {P:W5} {w:x3} {m:Bool} {S R:ak}
theorem r2 {b k l h:Nat} {low high:Option x1} (j:P.underlying t=σ (.slice e)) (hi:aT P e k b z)
  (ad:cd w k v n cs) (h1:lF low l) (m:lG high n h) (a:l<=h) (aJ:h<=n) (p:∀f,cd w k f (h-l) ((cs.drop (l*k)).take ((h-l)*k))->K f):
  ac P (V4 t v low high ν) w K:=by
 have q:=ad;obtain⟨_,r,o,base,cap,rfl,s,_⟩:=ad;rw[hK j hi h1 m fz a Ω (p8 _)];exact p _ (cd.part q a aJ Ω (p8 _))
theorem Jh {k:o5} {b i:Nat} (j:y=(i:Int)) (m:P.underlying t=σ (.slice e)) (hi:aT P e 1 b z)
  (h:aF k w v l) (p:i<=l.length) (q:∀a,aF k w a (l.drop i)->K a):ac P (V4 t v (σ (.int f y)) ν ν) w K:=by
 refine r2 m hi h (nf i y j) jw p (p8 _) λa h'=>q a (aF.of (n:=l.length-i) ?_);have r:((ints k l).drop (i*1)).take ((l.length-i)*1)=ints k (l.drop i):=by
  rw[b8 Ξ,U1,ints,<-List.map_drop]
 rw[r] at h';exact h'
theorem Ji {k:o5} {b i:Nat} (j:y=(i:Int)) (m:P.underlying t=σ (.slice e)) (hi:aT P e 1 b z)
  (h:aF k w v l) (p:i<=l.length) (q:∀a,aF k w a (l.take i)->K a):ac P (V4 t v ν (σ (.int f y)) ν) w K:=by
 refine r2 m hi h jv (ng i y j) (X3 _) p λa h'=>q a (aF.of (n:=i) ?_);have r:((ints k l).drop (0*1)).take ((i-0)*1)=ints k (l.take i):=by
  simp[ints,List.map_take]
 rw[r] at h';exact h'
theorem oD {b:Nat} {parts:Array (Nat×x1)} {K:x1->x3->Prop} (a:P.underlying t=σ (.slice e)) (hi:aT P e 1 b (Δ 0)) (q:n<=100000) (f:l.length=n)
  (af:Instr.fill (λj=>σ (j*1,1)) ((Array.range (n*1)).map ((if n*1=0 then #[] else (V2 .i64 0).cells)[·% (if n*1=0 then #[] else (V2 .i64 0).cells).size]!)) parts.toList=σ (ints .i64 l).toArray)
  (h:∀v g w',g=w.heap.size->Ext w w'->au .i64 e w' g v l->K v w'):aD P (Y4 t n parts) w K:=
 j8 a hi Ω af λg w' m J p=>h _ g w' m J (au.of (n:=n) (bW.full (by simpa using p) (by simp[f]) (by simp[maxLen];omega)))
end
section
variable {P:W5} {w:x3}
theorem Jj {h p:r9} {q kn:o5} {b k cap:Nat} {base:Option Addr} {xs:List x1} {K:x1->x3->Prop} (x:y=(k:Int)) (A:P.underlying t=σ (.slice e)) (B:P.underlying h=σ (.int kn)) (hi:aT P e 1 b z) (C:z.cells= #[z])
  (U:cd w 1 (.slice base n cap) n xs) (E:0<k) (r:cap<n+k) (F:(n+k)*b<=140737488355328) (G:n+k<=9223372036854775807)
  (H:∀v g w',g=w.heap.size->Ext w w'->bW w' g e 1 v (n+k) (xs++r8 k z)->K v w'):aD P (b9 #[t,h] p #[.slice base n cap,.int q y]) w K:=by
 subst x;obtain⟨i,hi,I,rfl,J⟩:=hi;obtain⟨f,W,o,X,Y,he,L,Z,M,N⟩:=U;cases he;have O:(Z2.firstCells i.size n (.slice base n cap)).run P w.drew= .ok xs.toArray w.drew:=by
  rcases R7 n with rfl|Q
  .have:xs=[]:=j5 (by simpa using f);subst this;cases base with
   |none=>exact run_firstCells_none w.drew i.size 0 0 cap
   |some a=>exact run_firstCells_some w.drew i.size 0 a 0 cap [] Ξ Ξ
  .have:=M Q;subst this;refine run_firstCells_some w.drew i.size n _ n cap xs (by rw[I];exact f) λj u hu=>?_;rw[T0];exact N j u hu
 have R:k*i.bytes<=281474976710656:=by
  have:k*i.bytes<=(n+k)*i.bytes:=X6 _ Ω;omega
 have S:=Lib.run_append_grow_zeros (P:=P) w t h p e i z q kn A B hi J base n cap xs O k E Ω r Ω R (growslice_fits r F);have T:n+k<=grownCap w (n+k) cap e:=grownCap_ge w _ _ _;have V:grownCap w (n+k) cap e<=maxLen:=grownCap_le_maxLen w (n+k) cap e (by simpa[maxLen] using G);have s:∀m,Z2.zeroCells z.cells m=(r8 m z).toArray:=λm=>by
  rw[C];apply Array.ext
  .simp[size_zeroCells]
  .intro j h1 L;simp[Z2.zeroCells,Nat.mod_one]
 refine .of S ((ps w _ (Nat.le_succ _)).trans (pu _ _)) (H _ w.heap.size _ rfl ((q8 w _).trans (pt _ _)) ⟨by simp at f;simp[f],.inr ⟨_,xs++r8 k z++r8 (grownCap w (n+k) cap e-(n+k)) z,rfl,?_,T,V,?_,?_⟩⟩)
 .rw[s,s];have:=heap_alloc_new w.drew (.cells (xs.toArray++(r8 k z).toArray++(r8 (grownCap w (n+k) cap e-(n+k)) z).toArray) e);rw[List.append_toArray,List.append_toArray] at this ⊢;exact this
 .simp at f;simp[f];omega
 .simp at f;rw[List.take_append_of_le_length (by simp[f]),b8 (by simp[f])]
theorem z1 {a:r9} {base:Option Addr} {c:Nat} (f:P.underlying t=σ (.slice e)):
  ac P (Z2.cap_ #[t] a #[.slice base n c]) w K=K (Δ c):=ac.of λw' _=>by simp[Z2.cap_,run_underlying f,goInt]
theorem Jk {g o k c:Nat} (h:ag w g e cs) (hk:o+k<=cs.length) (a:k<=c) (f:c<=maxLen):cd w 1 (.slice (σ ⟨g,o,ν⟩) k c) k ((cs.drop o).take k):=by
 refine⟨Θ,g,o,_,c,rfl,a,f,λ_=>rfl,λj v ad=>?_⟩;have m:=(x4.1 ad).1;simp at m;rw[Z8 Ω,List.getElem?_drop] at ad;exact h.cell ad
theorem z6 {h m:r9} {p g o cap:Nat} {K:x1->x3->Prop} (q:P.underlying t=σ (.slice e)) (hi:aT P e 1 p z) (s:z.cells= #[z]) (h1:z.oneCell'=true)
  (a:ag w g m cs) (x:0<n) (E:o+n<=cs.length)
  (y:∀w',ah (λr=>r=g) w w'->w'.heap.size=w.heap.size->ag w' g m (over cs o (r8 n z))->K (.tuple #[]) w'):aD P (Z2.clear_ #[t] h #[.slice (σ ⟨g,o,ν⟩) n cap]) w K:=by
 obtain⟨i,hi,F,rfl,A⟩:=hi;have B:=Lib.run_clear_slice (P:=P) w t e h z q (λw=>by simp[zeroValue,typeInfo,hi,A]) s h1 g o n cap x
  (λj G=>by rw[a.cell (x6 (show o+j<cs.length by omega))];rfl) (λj _=>a.frozen _ _)
 obtain⟨C,f⟩:=ni (r8 n z) cs o w a;exact .of B (f.cu a) (y _ f.ab f.size C)
end
section
variable {P:W5} {w:x3}
theorem hj {a:r9} {k:o5} {i b g:Nat} (j:y=(i:Int)) (m:P.underlying t=σ (.slice e)) (hi:aT P e 1 b z)
  (h:au k a w g v l) (p:i<l.length):ac P (j4 t v (.int f y)) w K=K (.pointer (σ ⟨g,i,ν⟩)):=by
 subst j;obtain⟨_,⟨_,q⟩|⟨cap,cs,rfl,_⟩⟩:=h
 .omega
 .rw[e5 m hi p (λ_=>rfl)];simp
theorem oE {a k:o5} {i b:Nat} {x:Int} (f:y=(i:Int)) (j:P.underlying t=σ (.slice e)) (hi:aT P e 1 b z)
  (h:aF k w v l) (J:l[i]? =σ x) (m:∀b o,w.cell? ⟨b,o,ν⟩=σ (.int k x)->K (.pointer (σ ⟨b,o,ν⟩))):ac P (j4 t v (.int a y)) w K:=by
 subst f;have p:=(x4.1 J).1;obtain⟨_,_,_,_,_,rfl,_,_,q,r⟩:=h;rw[e5 j hi p q,U1];exact m _ _ (r i _ (kO J))
theorem hl {a:r9} {k:o5} {i b g:Nat} {x:Int} {K:Unit->x3->Prop} (hi:aT P e 1 b z)
  (h:au k a w g v l) (C:i<l.length) (m:∀w',ah (λr=>r=g) w w'->w'.heap.size=w.heap.size->au k a w' g v (l.set i x)->K () w'):aD P (o6 e (.pointer (σ ⟨g,i,ν⟩)) (.int k x)) w K:=by
 obtain⟨E,⟨_,F⟩|⟨cap,full,rfl,p,q,s,f,j⟩⟩:=h
 .omega
 .have y:i<full.length:=by simp at f;omega
  refine bq hi rfl rfl p y λw' A U B=>m w' A U ⟨Ξ,.inr ⟨cap,full.set i (.int k x),Ξ,B,by simpa using q,s,by simpa using f,?_⟩⟩;simp only[c8,U1] at j ⊢;rw[List.take_set,j,ints,ints,V8]
theorem r3 {b o:Nat} (a:ju P t=true) (h:w.cell? ⟨b,o,ν⟩=σ v):cD P (u4 t (.pointer (σ ⟨b,o,ν⟩))) v w:=λw' J=>by
 have h':=iv J h;unfold ju at a;cases hu:P.underlying t with
 |none=>rw[hu] at a;cases a
 |some d=>
  rw[hu] at a;cases d<;>first|(cases a;done)|simp[u4,Instr.sureAddr,loadVar,isAgg,run_underlying hu,h']
theorem hP {k:o5} {S:ak} (h:aF k w v l) (J:ah S w w') (m:∀r,S r-> ∀a n c,v= .slice (σ a) n c->a.block≠r):aF k w' v l:=by
 obtain⟨h1,b,o,base,cap,rfl,p,q,e,s⟩:=h;refine⟨h1,b,o,base,cap,rfl,p,q,e,?_⟩;rcases R7 l.length with f|f
 .intro j u hu;have:=(x4.1 hu).1;simp at this;omega
 .have x:=e f;subst x;exact j7 J (λh=>m _ h _ _ _ rfl rfl) s
end
end Go.Vc
namespace Go.Vc
open Go Go.RowKit Go.ChangeShapes Go.WideShapes
structure lJ (P:W5) (t:r9) (α:Type) [ao α] (G:α->Prop):Prop where
 op:∀ {H:Type} {enc:r9×x1->H} {w:x3} {base:Nat} {spare:Nat->Bool} {held:Bool} {fuel:Nat} {cs:List x1} {x:DataW H×List MemPlace},
  DataW.trod enc P w base spare held fuel t cs=σ x-> ∃a:α,Seen ee w cs a/\G a
section
variable {P:W5} {α β:Type} [ao α] [ao β]
theorem z7 {k:o5} {n:Int} (h:(Lit.int k n).wf=true):k.min<=n/\n<=k.max:=by simpa[Lit.wf] using h
theorem z8 {k:o5} (a:P.underlying t=σ (.int k)):lJ P t (i9 k) λn=>k.min<=n.val/\n.val<=k.max:=⟨λh=>by
 obtain⟨n,rfl,_,hw⟩:=DataW.trod_int a h;exact⟨(n:Int),rfl,z7 hw⟩⟩
theorem mj (a:P.underlying t=σ (.int .i64)):lJ P t Int λn=>X2.min<=n/\n<=X2.max:=⟨λh=>by
 obtain⟨n,rfl,_,hw⟩:=DataW.trod_int a h;exact⟨n,rfl,z7 hw⟩⟩
theorem Jl (a:Addr) (m n:Nat):(a.add m).add n=a.add (m+n):=by
 unfold Addr.add;by_cases hm:m=0<;>by_cases e:n=0<;>simp[hm,e,S8]
theorem Jm {base:Nat} {a:Addr} (h:w.cells? base a n=σ cs):cs.length=n/\ ∀j v,cs[j]? =σ v->w.cell? (a.add j)=σ v:=by
 unfold x3.cells? at h;split at h
 .have e:cs.length=n:=by
   have:=mapM_some_length h;simpa using this
  refine⟨e,λj v ad=>?_⟩;have f:=(x4.1 ad).1;have:=mapM_some_get h j j (List.getElem?_range Ω);rw[this,ad]
 .cases h
theorem Aa {G:α->Prop} (L:P.underlying t=σ (.slice e)) (he:lJ P e α G) (M:P.cellsOf e=ao.n α) (U:0<ao.n α):lJ P t (List α) λl=>∀a∈l,G a:=by
 constructor;intro H enc w base spare held fuel cs x h;rcases DataW.trod_slice L h with⟨rfl,_⟩|⟨a,len,cap,V,rest,n,_,rfl,rfl,W,X,hm,Y,N,_,_⟩
 .exact⟨[],gE,λ_ h=>by cases h⟩
 .
  have J:∀i,i<len-> ∃ (c:List x1) (y:α),c.length=ao.n α/\(∀j v,c[j]? =σ v->w.cell? (a.add (i*ao.n α+j))=σ v)/\Seen ee w c y/\G y:=by
   intro i hi;have h1:=N i hi;rw[x6 Ω,M,Option.bind_eq_some_iff] at h1;obtain⟨c,q,r⟩:=h1;obtain⟨A,B⟩:=Jm q;obtain⟨y,C,O⟩:=he.op r;exact⟨c,y,A,λj v ad=>by have:=B j v ad;rwa [Jl] at this,C,O⟩
  have all:∀m,m<=len-> ∃ (vs:List (List x1)) (l:List α),vs.length=m/\l.length=m/\(∀c∈vs,c.length=ao.n α)/\(∀ (j:Nat) (v:x1),vs.flatten[j]? =σ v->w.cell? (a.add j)=σ v)/\
    (∀ (i:Nat) (c:List x1) (y:α),vs[i]? =σ c->l[i]? =σ y->Seen ee w c y)/\ ∀y∈l,G y:=by
   intro m;induction m with
   |zero=>exact λ_=>⟨[],[],rfl,rfl,(λ_ h=>by cases h),(λj v h=>by simp at h),(λi c y h=>by simp at h),(λ_ h=>by cases h)⟩
   |succ m Q=>
    intro hm;obtain⟨vs,l,h1,q,r,A,B,C⟩:=Q Ω;obtain⟨c,y,g1,E,R,S⟩:=J m Ω;refine⟨vs++[c],l++[y],by simp[h1],by simp[q],λd f=>?_,λj v ad=>?_,λi d z f p=>?_,λz p=>?_⟩
    .rcases o7.1 f with f|f
     .exact r d f
     .simp at f;subst f;exact g1
    .have s:=pR r;rw[h1] at s;rw[List.flatten_append] at ad;by_cases T:j<m*ao.n α
     .rw[Y1 Ω] at ad;exact A j v ad
     .rw[Y2 Ω,s] at ad;simp at ad;have:=E _ v ad;rwa [show m*ao.n α+(j-m*ao.n α)=j by omega] at this
    .by_cases hi:i<m
     .rw[Y1 Ω] at f p;exact B i d z f p
     .have F:=(x4.1 f).1;simp[h1] at F;have F:i=m:=Ω
      subst F;rw[Y2 Ω,h1] at f;rw[Y2 Ω,q] at p;simp at f p;subst f p;exact R
    .rcases o7.1 p with p|p
     .exact C z p
     .simp at p;subst p;exact S
  obtain⟨vs,l,h1,q,r,A,B,C⟩:=all len (p8 _);have s:=pR r;rw[h1] at s;have K:0<len->a=⟨a.block,a.off,ν⟩:=λI=>by
   obtain⟨c,y,g1,E,_⟩:=J 0 Ω;have:=E 0 c[0] (x6 Ω);rw[Nat.zero_mul] at this;exact uS this
  refine⟨l,⟨_,rfl,vs,0,λ_ _=>False,⟨λ_ _ h=>h.elim,(λh=>by cases h),(λh=>by cases h)⟩,⟨Ω,B⟩,⟨by rw[s,q],a.block,a.off,σ a,cap,by rw[q],Ω,hm,λI=>congrArg σ (K Ω),λ_=>.inr trivial,λj v ad=>?_⟩,λh=>by cases h⟩,C⟩;have:=A j v ad;have T:=(x4.1 ad).1;have I:0<len:=by
   rcases R7 len with h|h
   .rw[h,Nat.zero_mul] at s;omega
   .exact h
  rw[K I,T0] at this;exact this
structure r4 (P:W5) (fs:List Field) (off:Nat) (α:Type) [ao α] (G:α->Prop):Prop where
 op:∀ {H:Type} {enc:r9×x1->H} {w:x3} {base:Nat} {spare:Nat->Bool} {held:Bool} {n:Nat} {cs:List x1},cs.length=off+ao.n α->
  (∀f∈fs,∃x,DataW.trod enc P w base spare held n f.type ((cs.drop f.offset).take (P.cellsOf f.type))=σ x)-> ∃a:α,Seen ee w (cs.drop off) a/\G a
theorem Ab {f:Field} {off:Nat} {G:α->Prop} (h:lJ P f.type α G) (e:f.offset=off) (j:P.cellsOf f.type=ao.n α):r4 P [f] off α G:=by
 constructor;intro H enc w base spare held n cs p af;obtain⟨x,J⟩:=af f (.head _);obtain⟨a,h1,m⟩:=h.op J;rw[e,j,b8 Θ] at h1;exact⟨a,h1,m⟩
theorem ml {f:Field} {e:List Field} {off:Nat} {G:α->Prop} {j:β->Prop} (h:lJ P f.type α G) (m:f.offset=off) (q:P.cellsOf f.type=ao.n α) (r:r4 P e (off+ao.n α) β j):
  r4 P (f::e) off (α×β) λp=>G p.1/\j p.2:=by
 constructor;intro H enc w base spare held n cs B af;obtain⟨x,J⟩:=af f (.head _);obtain⟨a,h1,s⟩:=h.op J;rw[m,q] at h1;have C:ao.n (α×β)=ao.n α+ao.n β:=rfl;obtain⟨b,y,z⟩:=r.op Ω λg A=>af g (.tail _ A);refine⟨(a,b),⟨(cs.drop off).take (ao.n α),cs.drop (off+ao.n α),λ_=>False,λ_=>False,?_,λ_ h=>h,λ_ h=>h,(λh=>by cases h),h1,y⟩,s,z⟩;rw[<-List.drop_drop,List.take_append_drop]
theorem Ac {a:List Field} {G:α->Prop} (e:P.underlying t=σ (.struct a.toArray)) (af:r4 P a 0 α G) (r:P.cellsOf t=ao.n α):lJ P t α G:=by
 constructor;intro H enc w base spare held fuel cs x h;obtain⟨xs,n,_,rfl,s,j,m⟩:=DataW.trod_struct e h;have:=af.op (enc:=enc) (w:=w) (base:=base) (spare:=spare) (held:=held) (n:=n) (cs:=cs) Ω λf p=>by
  obtain⟨i,hi,rfl⟩:=List.mem_iff_getElem.1 p;have q:i<xs.length:=by simpa[j] using hi
  have:=m i a[i] (by simp[hi]);rw[x6 q] at this;exact⟨_,this⟩
 simpa using this
end
end Go.Vc
namespace Go.Vc
open Go Go.RowKit
set_option maxRecDepth 100000
theorem Jn:(⟨#[]⟩:ByteArray)=strOfNums []:=rfl
theorem Jo {aA:x1->x1->x1->x3->Prop} {B:(x1->x1->x1->x3->Prop)->Prop} (G:x1->x1->x1->x3->Prop) (h1:∀t u v w,G t u v w->aA t u v w)
  (e:∀a:x1->x1->x1->x3->Prop,(∀t u v w,G t u v w->a t u v w)->B a):cv aA B:=e aA h1
theorem Ad {aA:x1->x1->x1->x1->x3->Prop} {B:(x1->x1->x1->x1->x3->Prop)->Prop} (G:x1->x1->x1->x1->x3->Prop) (h1:∀s t u v w,G s t u v w->aA s t u v w)
  (e:∀a:x1->x1->x1->x1->x3->Prop,(∀s t u v w,G s t u v w->a s t u v w)->B a):cv aA B:=e aA h1
abbrev bP (l:Λ):x1:=.string (strOfNums l)
def Bytes (l:Λ):Prop:=∀b∈l,0<=b/\b<256
theorem mm (l:Λ):(strOfNums l).size=l.length:=strOfNums_size l
theorem Jp (h:Bytes l) {i:Nat} {b:Int} (hi:l[i]? =σ b):(strOfNums l)[i]? =σ (UInt8.ofNat b.toNat)/\((UInt8.ofNat b.toNat).toNat:Int)=b:=by
 have f:=h b (x5 hi);have e:=x4.1 hi;refine⟨?_,by rw[UInt8.toNat_ofNat'];omega⟩;have U:i<(strOfNums l).size:=by rw[mm];exact e.1
 rw[getElem?_pos (strOfNums l) i U];congr 1;show (strOfNums l).data[i]=_;have a:(strOfNums l).data.toList[i]? =σ (UInt8.ofNat b.toNat):=by rw[strOfNums_data,x8,hi];rfl
 rw[S4] at a;exact (n9.1 a).2
theorem str_inj {a b:Λ} (e:Bytes a) (f:Bytes b) (h:strOfNums a=strOfNums b):a=b:=by
 have h1:(strOfNums a).data.toList=(strOfNums b).data.toList:=by rw[h]
 rw[strOfNums_data,strOfNums_data] at h1;have key:∀ {l:Λ},Bytes l->(l.map λn=>UInt8.ofNat n.toNat).map (λu=>((u.toNat:Nat):Int))=l:=λ{l} j=>by
  rw[T7]
  conv=>rhs;rw[<-List.map_id l]
  refine List.map_congr_left λx J=>?_;have:=j x J;show (((UInt8.ofNat x.toNat).toNat:Nat):Int)=x;rw[UInt8.toNat_ofNat'];omega
 rw[<-key e,<-key f,h1]
theorem Jq (a b:Λ):strOfNums a++strOfNums b=strOfNums (a++b):=by
 apply ByteArray.ext;rw[ByteArray.data_append];simp[strOfNums]
theorem Jr (l:Λ) (i j:Nat):(strOfNums l).extract i j=strOfNums ((l.take j).drop i):=by
 apply ByteArray.ext;rw[ByteArray.data_extract];apply Array.toList_inj.1;rw[Array.toList_extract];simp[strOfNums,List.extract_eq_take_drop,List.map_drop,List.map_take,List.drop_take]
theorem Ae (l:Λ):(strOfNums l).toList=l.map λn=>UInt8.ofNat n.toNat:=by
 rw[ByteArray.toList_eq];exact strOfNums_data l
theorem Af {a b:Λ} (e:Bytes a) (f:Bytes b):((strOfNums a).toList == (strOfNums b).toList)=decide (a=b):=by
 rw[V6,beq_iff_eq,decide_eq_true_eq,Ae,Ae];refine⟨λh=>str_inj e f ?_,λh=>by rw[h]⟩;unfold strOfNums;rw[h]
section
variable {P:W5} {w:x3}
theorem ns {a:r9} (e:P.underlying t=σ .string):ac P (W8 #[t] a #[bP l]) w K=K (Δ l.length):=ac.of λw' _=>by
 simp[W8,run_underlying e,goInt,mm]
theorem pY {k:o5} {b:Int} {i:Nat} (a:y=(i:Int)) (f:P.underlying t=σ .string) (h:Bytes l) (hi:l[i]? =σ b):ac P (Instr.index t (bP l) (.int k y)) w K=K (.int .u8 b):=ac.of λw' _=>by
 subst a;obtain⟨h1,j⟩:=Jp h hi;have e:(0:Int)<=(i:Int):=Ω
 simp only[Instr.index,asIntOf,W0,V0,W3,run_underlying f];rw[if_pos e,u6,h1];simp only[V0,j]
theorem u0 {a b:Λ} (h:a.length+b.length<=9223372036854775807):ac P (aL .add t cx cy (bP a) (bP b)) w K=K (bP (a++b)):=ac.of λw' _=>by
 have:=run_string_add_sum (P:=P) (w:=w') (strOfNums a) (strOfNums b) (by rw[mm,mm];exact h);simp only[aL,eqGuard,binOp];simp[this,Jq]
theorem Ag {a b:Λ} (e:Bytes a) (f:Bytes b):ac P (aL .eql t cx cy (bP a) (bP b)) w K=K (.bool (decide (a=b))):=ac.of λw' _=>by
 simp[aL,eqGuard,binOp,Op.stringOp,Af e f]
theorem Js {a b:Λ} (e:Bytes a) (f:Bytes b):ac P (aL .neq t cx cy (bP a) (bP b)) w K=K (.bool (decide (a≠b))):=ac.of λw' _=>by
 simp[aL,eqGuard,binOp,Op.stringOp,Af e f]
theorem Ah {k:o5} {i:Nat} (a:y=(i:Int)) (f:P.underlying t=σ .string) (hi:i<=l.length):ac P (V4 t (bP l) (σ (.int k y)) ν ν) w K=K (bP (l.drop i)):=ac.of λw' _=>by
 have j:=rS (P:=P) w' (sl:=false) (n:=(strOfNums l).size) (c:=(strOfNums l).size) (low:=σ (.int k y)) (high:=ν) (mx:=ν) (l:=i) (h:=(strOfNums l).size) (m:=(strOfNums l).size) (nf i y a) jw fz (by rw[mm];exact hi) (p8 _) (p8 _);have e:(strOfNums l).extract i (strOfNums l).size=strOfNums (l.drop i):=by rw[Jr,mm,p9]
 simp[V4,Instr.slice,run_underlying f,j,e]
theorem u1 {s:r9} (U:P.underlying s=σ (.slice e)) (he:P.underlying e=σ (.int .u8)) (f:P.underlying t=σ .string) (h:aF .u8 w v l):ac P (convert s t v) w K=K (bP l):=ac.of λw' J=>by
 obtain⟨m,b,o,base,cap,rfl,_,_,q,r⟩:=h.ext J;have m:l.length=l.length*1:=by simpa using m
 by_cases x:0<l.length
 .rw[q x];refine run_convert_bytes_arg w' s e U he b o l.length cap l rfl (λi hi=>?_) t f;have p:l[i]? =σ l[i]:=x6 hi;rw[v8,p];exact r i _ (kO p)
 .have y:l=[]:=j5 Ω;subst y;cases base with
  |none=>
   rw[run_convert_bytes_nil w' s e U he _ _ t f];rfl
  |some a=>
   rw[run_convert_bytes_string w' s t e _ _ _ U he f];have:=run_bytesToString (P:=P) w' a 0 cap [] (by have:=run_loadCells_list (P:=P) w' a [] (λj v z=>by simp at z);simpa using this);simp only[List.length_nil];rw[this];rfl
theorem u2 {s:r9} {u:TypeDesc} {K:x1->x3->Prop} (U:P.underlying s=σ u) (q:P.underlying t=σ (.slice e)) (he:P.underlying e=σ (.int .u8)) (x:Bytes l) (hm:l.length<=1000000000)
  (y:∀v w',Ext w w'->aF .u8 w' v l->(∀r,(∃a n c,v= .slice (σ a) n c/\a.block=r)->w.heap.size<=r)->K v w'):aD P (convert s t (bP l)) w K:=by
 have z:=Lib.bytesWorld_at_new w e (strOfNums l);have m:=λj f=>Lib.bytesWorld_at_old w e (strOfNums l) j f;have A:=Lib.bytesWorld_size w e (strOfNums l);refine .of (Lib.run_convert_string_bytes w s t e (strOfNums l) U q he) ⟨rfl,⟨rfl,Nat.le_succ _⟩,rfl,Ω,λr o h _=>?_⟩ (y _ _ ⟨Ω,λr o h _=>?_⟩ ?_ ?_)
 .rw[m r (n9.1 h).1];exact h
 .rw[m r (n9.1 h).1];exact h
 .rw[mm];refine⟨Ξ,w.heap.size,0,_,_,rfl,?_,?_,λ_=>rfl,λj v ad=>?_⟩
  .exact grownCap_ge w _ _ _
  .exact grownCap_le_maxLen w _ _ _ (by simp[maxLen];omega)
  .have f:j<l.length:=by have:=(x4.1 ad).1;simpa using this
   have p:l[j]? =σ l[j]:=x6 f;rw[X0,Lib.bytesWorld_cell w e (strOfNums l) j (by rw[mm];exact f)];rw[kO p] at ad;rw[<-b6 ad,strOfNums_data,v8,x8,p];have:=x l[j] (R8 f);simp only[Z3,V9];congr 2;rw[UInt8.toNat_ofNat'];omega
 .rintro r ⟨a,n,c,h1,rfl⟩;cases h1;exact p8 _
end
end Go.Vc
namespace Go.Proofs.YtmgflbkdggdhoaaGreatDoor
open Go Go.Vc Go.RowKit Go.Proofs Go.Proofs.Tryz
set_option maxRecDepth 100000
theorem Ai {b:Int} (h:cA b=true):bK b=false:=by
 have h:=of_decide_eq_true h;unfold bK;rw[decide_eq_false_iff_not];omega
theorem Aj {b:Int} {p:Λ} (h:cA b=true):lex (b::p)=lex p:=by
 rw[ke,ke p,List.dropWhile_cons,if_pos h]
theorem Jt {b:Int} {p:Λ} (h:cA b=false) (a:bK b=false):lex (b::p)=([],false):=by
 rw[ke,List.dropWhile_cons,if_neg (by simp[h])];simp only[a,Bool.false_eq_true,if_false]
theorem Ak {b:Int} {p:Λ} (h:bK b=true):lex (b::p)=match p.dropWhile bK with
  |[]=>([b::p.takeWhile bK],true)
  |c::r=>if cA c then ((b::p.takeWhile bK)::(lex (c::r)).1,(lex (c::r)).2) else ([],false):=by
 have U:cA b=false:=by
  cases a:cA b with
  |false=>rfl
  |true=>rw[Ai a] at h;cases h
 rw[ke,List.dropWhile_cons,if_neg (by simp[U])];simp only[h,if_true,List.dropWhile_cons,List.takeWhile_cons]
 all_goals (cases List.dropWhile bK p<;>rfl)
def h5:Λ->List (Λ)->Λ->Bool->List (Λ)×Bool
 |[],out,w,op=>(if op then out++[w] else out,true)
 |b::p,out,w,op=>
  if cA b then h5 p (if op then out++[w] else out) [] false
  else if bK b then h5 p out (if op then w++[b] else[b]) true
  else (out,false)
theorem pZ:∀ (p:Λ) (out:List (Λ)) (w:Λ),h5 p out w false=(out++(lex p).1,(lex p).2)/\
  h5 p out w true=match p.dropWhile bK with
   |[]=>(out++[w++p.takeWhile bK],true)
   |c::r=>if cA c then (out++[w++p.takeWhile bK]++(lex (c::r)).1,(lex (c::r)).2) else (out,false)
 |[],out,w=>by simp[h5,ke []]
 |b::p,out,w=>by
  by_cases U:cA b=true
  .have hw:=Ai U;refine⟨?_,?_⟩
   .rw[h5,if_pos U,(pZ p _ _).1,Aj U];simp
   .rw[h5,if_pos U,if_pos rfl,(pZ p _ _).1,List.dropWhile_cons,if_neg (by simp[hw])];simp only[U,if_true,Aj U,List.takeWhile_cons,hw,Bool.false_eq_true,if_false,U4]
  .have e:cA b=false:=by cases h:cA b;rfl;exact absurd h U
   by_cases hw:bK b=true
   .refine⟨?_,?_⟩
    .rw[h5,if_neg U,if_pos hw,if_neg Ξ,(pZ p _ _).2,Ak hw];cases p.dropWhile bK with
     |nil=>simp
     |cons c r=>
      simp only;by_cases a:cA c=true
      .simp[a]
      .simp[a]
    .rw[h5,if_neg U,if_pos hw,if_pos rfl,(pZ p _ _).2,List.dropWhile_cons,if_pos hw,List.takeWhile_cons,if_pos hw];cases p.dropWhile bK with
     |nil=>simp
     |cons c r=>
      simp only;by_cases a:cA c=true
      .simp[a]
      .simp[a]
   .have f:bK b=false:=by cases h:bK b;rfl;exact absurd h hw
    refine⟨?_,?_⟩
    .rw[h5,if_neg U,if_neg hw,Jt e f];simp
    .rw[h5,if_neg U,if_neg hw,List.dropWhile_cons,if_neg hw];simp[e]
theorem Ju (p:Λ):h5 p [] [] false=lex p:=by rw[(pZ p [] []).1];simp
def oF:Nat->Nat->Λ
 |0,_=>[]
 |k+1,n=>(if n<10 then[] else oF k (n / 10))++[48+((n % 10:Nat):Int)]
def fe (n:Nat):Λ:=oF (n+1) n
theorem Al:∀ {k m n:Nat},n<k->n<m->oF k n=oF m n
 |k+1,m+1,n,h1,a=>by
  unfold oF;by_cases h:n<10
  .rw[if_pos h,if_pos h]
  .rw[if_neg h,if_neg h,Al (k:=k) (m:=m) (n:=n / 10) Ω Ω]
theorem nt (n:Nat):fe n=(if n<10 then[] else fe (n / 10))++[48+((n % 10:Nat):Int)]:=by
 unfold fe;rw[oF];by_cases h:n<10
 .rw[if_pos h,if_pos h]
 .rw[if_neg h,if_neg h,Al (k:=n) (m:=n / 10+1) Ω Ω]
theorem Am:∀ (k n:Nat),n<k-> ∀b∈fe n,48<=b/\b<=57
 |k+1,n,hk,b,a=>by
  rw[nt] at a;rcases o7.1 a with a|a
  .by_cases h:n<10
   .rw[if_pos h] at a;simp at a
   .rw[if_neg h] at a;exact Am k (n / 10) Ω b a
  .rw[o8] at a;omega
theorem An (n:Nat):∀b∈fe n,48<=b/\b<=57:=Am (n+1) n Ω
def p0 (l:Λ):Int:=l.foldl (λn b=>10*n+(b-48)) 0
theorem Jv (l:Λ) (b:Int):p0 (l++[b])=10*p0 l+(b-48):=by simp[p0]
theorem u3:∀ (k n:Nat),n<k->p0 (fe n)=n
 |k+1,n,hk=>by
  rw[nt,Jv];by_cases h:n<10
  .rw[if_pos h];have:p0 []=0:=rfl;omega
  .rw[if_neg h,u3 k (n / 10) Ω];omega
theorem Jw {b:Nat} (h:fe a=fe b):a=b:=by
 have h1:=u3 (a+1) a Ω;have e:=u3 (b+1) b Ω;rw[h,e] at h1;omega
theorem va:∀ (k n:Nat),n<10 ^ k->1<=k->(fe n).length<=k
 |k+1,n,h,_=>by
  rw[nt,o4];by_cases a:n<10
  .rw[if_pos a];simp
  .rw[if_neg a];have hk:1<=k:=by
    rcases k with _|k
    .simp at h;omega
    .omega
   have e:(10:Nat) ^ (k+1)=10*10 ^ k:=by rw[Nat.pow_succ,Nat.mul_comm]
   have:=va k (n / 10) Ω hk;simp only[S9];omega
def dZ (t:Λ):Λ:=t.flatMap λv=>fe v.toNat++[32]
theorem Jx (t:Λ) (v:Int):dZ (t++[v])=dZ t++(fe v.toNat++[32]):=by simp[dZ]
theorem Ao {r:Λ} (a:∀b∈l,b≠32):(l++32::r).takeWhile (λb=>decide (b≠32))=l/\(l++32::r).dropWhile (λb=>decide (b≠32))=32::r:=by
 induction l with
 |nil=>simp
 |cons x l e=>
  have J:=a x (.head _);have:=e λb f=>a b (.tail _ f);simp only[List.cons_append,List.takeWhile_cons,List.dropWhile_cons];simp only[J,ne_eq,not_false_eq_true,decide_true,if_true];exact⟨by rw[this.1],this.2⟩
theorem Ap:∀ {a b:Λ},(∀x∈a,0<=x)->(∀x∈b,0<=x)->dZ a=dZ b->a=b
 |[],[],_,_,_=>rfl
 |[],y::b,_,_,h=>by simp[dZ] at h
 |x::a,[],_,_,h=>by simp[dZ] at h
 |x::a,y::b,m,p,h=>by
  have e:∀ (z:Int) (l:Λ),dZ (z::l)=fe z.toNat++32::dZ l:=λz l=>by simp[dZ]
  rw[e,e] at h;have d:∀z:Int,∀c∈fe z.toNat,c≠32:=λz c s=>by have:=An _ c s;omega
  have f:=Ao (r:=dZ a) (d x);have q:=Ao (r:=dZ b) (d y);rw[h] at f;have w:fe x.toNat=fe y.toNat:=f.1.symm.trans q.1;have A:=f.2.symm.trans q.2;have J:=m x (.head _);have C:=p y (.head _);have:=Jw w;have B:x=y:=Ω
  subst B;rw[Ap (λz j=>m z (.tail _ j)) (λz j=>p z (.tail _ j)) (List.cons.inj A).2]
theorem Aq (t:Λ):Bytes (dZ t):=λb a=>by
 obtain⟨v,_,a⟩:=List.mem_flatMap.1 a;rcases o7.1 a with a|a
 .have:=An _ b a;omega
 .rw[o8] at a;omega
theorem Ar {b:Int}:am x7 Hn [.int .u8 b] w λv w'=>v= .bool (cA b)/\Ext w w':=by
 refine az func143 ?_;refine aV (λv V=>v= .bool (cA b)/\Ext w V) (λ_ _ h=>h) λaA a=>?_;rw[bg,al];refine⟨λh=>a _ _ ⟨by unfold cA;rw[decide_eq_true (.inl h)],Ext.refl _⟩,λh1=>?_⟩;rw[bg,al];refine⟨λh=>a _ _ ⟨by unfold cA;rw[decide_eq_true (.inr (.inl h))],Ext.refl _⟩,λe=>?_⟩;rw[bg,al];refine⟨λh=>a _ _ ⟨by unfold cA;rw[decide_eq_true (.inr (.inr (.inl h)))],Ext.refl _⟩,λf=>?_⟩;rw[bg];refine a _ _ ⟨?_,Ext.refl _⟩;congr 1;unfold cA;rw[V6,decide_eq_true_eq,decide_eq_true_eq];omega
theorem Jy {b:Int}:am x7 Hm [.int .u8 b] w λv w'=>v= .bool (bK b)/\Ext w w':=by
 refine az func142 ?_;refine aV (λv V=>v= .bool (bK b)/\Ext w V) (λ_ _ h=>h) λaA a=>?_;rw[cP,al];refine⟨λh=>?_,λh=>a _ _ ⟨by unfold bK;rw[decide_eq_false Ω],Ext.refl _⟩⟩;rw[md];refine a _ _ ⟨?_,Ext.refl _⟩;congr 1;unfold bK;rw[V6,decide_eq_true_eq,decide_eq_true_eq];omega
def lK (w:x3) (g:Nat) (a:x1) (p:Λ) (at_:Nat) (bad:Int):Prop:=Bytes p/\p.length<=100000/\at_<=p.length/\ag w g hG [a,Δ (at_:Int),Δ bad]/\ ∃bn,au .u8 cJ w bn a p
theorem lK.ext {g:Nat} {a:x1} {p:Λ} {at_:Nat} {bad:Int} (h:lK w g a p at_ bad) (J:Ext w w'):lK w' g a p at_ bad:=by
 obtain⟨h1,e,f,j,bn,m⟩:=h;exact⟨h1,e,f,j.ext J,bn,m.ext J⟩
theorem Jz (h:aF .u8 w v l) (z:l.length<=100000):am x7 Hh [v] w λf w'=>Ext w w'/\ ∃g,au .u8 cJ w' g f l:=by
 have e:=h;obtain⟨A,b,o,base,cap,rfl,B,hm,m,C⟩:=h;refine az func136 ?_;rw[ox cN.u,ce];refine⟨λp=>⟨Ext.refl _,0,?_⟩,λ_=>?_⟩
 .have:l=[]:=by
   cases base with
   |none=>
        by_cases e:0<l.length
        .have:=m e;cases this
        .exact j5 Ω
   |some a=>cases p
  subst this;exact au.nil _ _ _ _
 .refine j8 (k:=1) (cs:=#[]) cN.u cJ.i Ω Ψ λg V E j q=>?_;have r:au .u8 cJ V g (.slice (σ ⟨g,0,ν⟩) 0 0) []:=au.of (n:=0) (bW.full (by simpa using q) rfl Ξ);refine iZ cN.u cJ.i rfl r (e.ext j) Θ Θ λf s aa G x y=>?_;exact⟨j.put y Ω,s,by simpa using x⟩
theorem As (h:aF .u8 w v l) (p:Bytes l) (e:l.length<=100000):am x7 y5 [v] w λq w'=>Ext w w'/\ ∃g,q=Γ g/\w.heap.size<=g/\ ∃a,lK w' g a l 0 (-1):=by
 refine az func73 ?_;refine (Jz h e).mono ?_;rintro a V _ ⟨f,bn,j⟩;rw[dn (cs:=#[a,Δ 0,Δ (-1)]) (by obtain⟨_,_,_,_,_,rfl,_⟩:=j.ls;kernel_rfl)];refine be λg aa s m r=>?_;have x:=f.size;exact⟨f.trans m,g,rfl,Ω,a,p,e,X3 _,r,bn,j.ext m⟩
def runN (f:Int->Bool) (p:Λ):Nat:=(p.takeWhile f).length
theorem JA (f:Int->Bool) (p:Λ):runN f p<=p.length:=(List.takeWhile_sublist f).length_le
theorem Au {f:Int->Bool} {p:Λ} {i:Nat} {b:Int} (hi:p[i]? =σ b) (af:f b=true):i+runN f (p.drop i)=(i+1)+runN f (p.drop (i+1)):=by
 have a:=x4.1 hi;unfold runN;rw[X5 a.1,a.2,List.takeWhile_cons,if_pos af,c9];omega
theorem Av {f:Int->Bool} {p:Λ} {i:Nat} (h:∀b,p[i]? =σ b->f b=false):runN f (p.drop i)=0:=by
 unfold runN;cases a:p[i]? with
 |none=>
  rw[List.drop_of_length_le (List.getElem?_eq_none_iff.1 a)];rfl
 |some b=>
  have e:=x4.1 a;rw[X5 e.1,e.2,List.takeWhile_cons,if_neg (by simp[h b a])];rfl
theorem JB {g at_:Nat} {y:x1} {p:Λ} {bad:Int} (h:lK w g y p at_ bad):am x7 Hl [Γ g] w λv w'=>v=Δ ((at_+runN cA (p.drop at_):Nat):Int)/\Ext w w':=by
 obtain⟨I,J,z,a,bn,m⟩:=h;refine az func141 ?_;rw[aQ hG.p 1 a rfl];refine⟨λv V=>Ext w V/\ ∃i:Nat,v=Δ (i:Int)/\i<=p.length/\i+runN cA (p.drop i)=at_+runN cA (p.drop at_),λv _=>p.length-(bX v).toNat,⟨Ext.refl _,at_,rfl,z,rfl⟩,?_⟩;rintro _ V ⟨j,i,rfl,hi,he⟩;refine aV (λv aa=>Ext w aa/\ ∃c:Bool,v= .bool c/\(c=true↔ ∃b,p[i]? =σ b/\cA b=true)) ?_ ?_
 .rintro _ aa ⟨q,c,rfl,r⟩;rw[ce];refine⟨λA=>?_,λaf=>?_⟩
  .obtain⟨b,e,B⟩:=r.1 A;have C:=(x4.1 e).1;rw[aP,wrap_i64 Ω Ω];exact⟨⟨q,i+1,rfl,C,by rw[<-he,Au e B]⟩,by simp only[bX];omega⟩
  .have E:=Av (f:=cA) (p:=p) (i:=i) λb a=>by
    cases U:cA b with
    |false=>rfl
    |true=>rw[r.2 ⟨b,a,U⟩] at af;cases af
   exact⟨by rw[<-he,E,Nat.add_zero],q⟩
 .intro aA s;have x:=a.ext j;rw[aQ hG.p 0 x rfl,aW cN.u (m.ext j).ls,aO,al];refine⟨λK=>?_,λL=>s _ _ ⟨j,false,rfl,⟨λh=>(by cases h),λ⟨b,a,_⟩=>by have:=(x4.1 a).1;omega⟩⟩⟩;have G:i<p.length:=Ω
  have e:p[i]? =σ p[i]:=x6 G;rw[aQ hG.p 0 x rfl,bc cN.u cJ.i Ψ (m.ext j).ls e];refine Ar.mono ?_;rintro _ M _ ⟨rfl,H⟩;exact s _ _ ⟨j.trans H,_,rfl,⟨λh=>⟨_,e,h⟩,λ⟨b,a,h⟩=>by rw[e] at a;cases a;exact h⟩⟩
inductive JC where
 |word (from_ to:Nat)
 |none
 |text (at_:Nat)
def gj (p:Λ) (at_:Nat):Nat:=at_+runN cA (p.drop at_)
def iA (p:Λ) (a:Nat):Nat:=a+runN bK (p.drop a)
open Classical in
noncomputable def oG (p:Λ) (at_:Nat):JC:=
 if iA p (gj p at_)<p.length/\(∀c,p[iA p (gj p at_)]? =σ c->cA c=false) then .text (iA p (gj p at_)) else if gj p at_=iA p (gj p at_) then .none else .word (gj p at_) (iA p (gj p at_))
def p1 (w:x3) (g:Nat) (e:x1) (p:Λ) (at_:Nat) (v:x1) (w':x3):Prop:=
 match oG p at_ with
 | .word a b=>v= .tuple #[bP ((p.take b).drop a),Δ (a:Int),Δ 0]/\ah (λr=>r=g) w w'/\lK w' g e p b (-1)
 | .none=>∃n:Nat,v= .tuple #[bP [],Δ (n:Int),Δ 2]/\Ext w w'
 | .text b=>v= .tuple #[bP [],Δ (b:Int),Δ 11]/\ah (λr=>r=g) w w'/\lK w' g e p at_ (b:Int)
theorem hn {aX:Nat->Prop} {a b c:x3} (h:ah S a b) (k:ah aX b c) (j:∀r,r<a.heap.size->aX r->S r):ah S a c:=
 ⟨Y9 h.size k.size,λr o e U f=>k.aZ r o (h.aZ r o e U f) U λhu=>f (j r (n9.1 e).1 hu)⟩
theorem b7 {g:Nat} {k:o5} {m:r9} (h:au k e w g v l) (p:ag w j m cs) (s:e≠m) (q:leads v r):r≠j:=by
 obtain⟨rfl,_⟩:=bO h q;obtain⟨_,⟨rfl,_⟩|⟨_,_,_,f,_⟩⟩:=h
 .obtain⟨a,n,c,h,_⟩:=q;cases h
 .rintro rfl;unfold ag at p f;rw[p] at f;injection f with h1;injection h1 with y x;exact s x.symm
theorem JD {s:r9} {e:o5} {b i:Nat} (m:x7.underlying s=σ (.slice t)) (hi:aT x7 t 1 b z)
  (h:aF .u8 w v l) (p:i<=j) (q:j<=l.length) (r:∀a,aF .u8 w a ((l.take j).drop i)->K a):ac x7 (V4 s v (σ (.int e (i:Int))) (σ (.int f (j:Int))) ν) w K:=by
 refine r2 m hi h (nf i _ rfl) (ng j _ rfl) p q λa h'=>r a (aF.of (n:=j-i) ?_);have x:((ints .u8 l).drop (i*1)).take ((j-i)*1)=ints .u8 ((l.take j).drop i):=by
  rw[U1,U1,ints,ints,List.map_drop,List.map_take,List.drop_take]
 rw[x] at h';exact h'
theorem JE {g at_:Nat} {E:x1} {p:Λ} (h:lK w g E p at_ (-1)):am x7 uB [Γ g] w (p1 w g E p at_):=by
 obtain⟨P,Q,an,e,bn,G⟩:=id h;refine az func79 ?_;rw[db rM.u,Z4,a1,aQ hG.p 2 e rfl,cP,al];refine⟨λh=>Ω,λ_=>?_⟩;refine (JB h).mono ?_;rintro _ aa _ ⟨rfl,ao⟩;obtain⟨a,R⟩:∃a,a=at_+runN cA (p.drop at_):=⟨_,rfl⟩;rw[<-R];have ap:a<=p.length:=by have:=JA cA (p.drop at_);rw[List.length_drop] at this;omega
 refine⟨λv H=>Ext aa H/\ ∃i:Nat,v=Δ (i:Int)/\a<=i/\i<=p.length/\i+runN bK (p.drop i)=a+runN bK (p.drop a),λv _=>p.length-(bX v).toNat,⟨Ext.refl _,a,rfl,p8 _,ap,rfl⟩,?_⟩;rintro _ H ⟨S,i,rfl,aq,hi,he⟩;have I:=ao.trans S;have V:=e.ext I;have W:=G.ext I;refine aV (λv y=>Ext H y/\ ∃c:Bool,v= .bool c/\(c=true↔ ∃b,p[i]? =σ b/\bK b=true)) ?_ ?_
 rotate_left
 .intro aA q;rw[aQ hG.p 0 V rfl,aW cN.u W.ls,aO,al];refine⟨λau=>?_,λav=>q _ _ ⟨Ext.refl _,false,rfl,⟨λh=>(by cases h),λ⟨b,e,_⟩=>by have:=(x4.1 e).1;omega⟩⟩⟩;have z:i<p.length:=Ω
  have m:p[i]? =σ p[i]:=x6 z;rw[aQ hG.p 0 V rfl,bc cN.u cJ.i Ψ W.ls m];refine Jy.mono ?_;rintro _ y _ ⟨rfl,A⟩;exact q _ _ ⟨A,_,rfl,⟨λh=>⟨_,m,h⟩,λ⟨b,e,h⟩=>by rw[m] at e;cases e;exact h⟩⟩
 rintro _ y ⟨A,c,rfl,s⟩;have J:=I.trans A;have X:=e.ext J;have Y:=G.ext J;rw[ce];refine⟨λK=>?_,λaf=>?_⟩
 .obtain⟨b,m,aw⟩:=s.1 K;have ax:=(x4.1 m).1;rw[aP,wrap_i64 Ω Ω];exact⟨⟨S.trans A,i+1,rfl,Ω,ax,by rw[<-he,Au m aw]⟩,by simp only[bX];omega⟩
 have aE:=Av (f:=bK) (p:=p) (i:=i) λb e=>by
  cases U:bK b with
  |false=>rfl
  |true=>rw[s.2 ⟨b,e,U⟩] at af;cases af
 have ay:i=a+runN bK (p.drop a):=Ω
 refine aV (λv L=>Ext y L/\ ∃c:Bool,v= .bool c/\(c=true↔i<p.length/\ ∀c,p[i]? =σ c->cA c=false)) ?_ ?_
 rotate_left
 .intro aA q;rw[aQ hG.p 0 X rfl,aW cN.u Y.ls,aO,al];refine⟨λau=>?_,λav=>q _ _ ⟨Ext.refl _,false,rfl,⟨λh=>(by cases h),λh=>Ω⟩⟩⟩;have z:i<p.length:=Ω
  have m:p[i]? =σ p[i]:=x6 z;rw[aQ hG.p 0 X rfl,bc cN.u cJ.i Ψ Y.ls m];refine Ar.mono ?_;rintro _ L _ ⟨rfl,M⟩;rw[bG];refine q _ _ ⟨M,_,rfl,⟨λh=>⟨z,λc s=>?_⟩,λh=>by rw[h.2 _ m];rfl⟩⟩;rw[m] at s;cases s;cases U:cA p[i] with
  |false=>rfl
  |true=>rw[U] at h;cases h
 rintro _ L ⟨M,aF,rfl,Z⟩;have x:=J.trans M;have B:=e.ext x;have C:=G.ext x;have ac:∀r,leads E r->r≠g:=λr aB=>b7 C B Φ aB;have N:oG p at_=open Classical in if i<p.length/\(∀c,p[i]? =σ c->cA c=false) then .text i else if a=i then .none else .word a i:=by
  unfold oG;rw[show gj p at_=a from R.symm,show iA p a=i from ay.symm]
 rw[ce];refine⟨λK=>?_,λad=>?_⟩
 .rw[bV,aU hG.p rfl];refine bq (g:=g) (o:=2) ai.i rfl rfl B Ξ λaG ae aH aC=>?_;unfold p1;rw[N,if_pos (Z.1 K)];exact⟨rfl,(x.ab _).trans ae,P,Q,an,aC,bn,br C ae ac⟩
 .have ag:¬(i<p.length/\ ∀c,p[i]? =σ c->cA c=false):=λh=>by rw[Z.2 h] at ad;cases ad
  rw[bg,al];refine⟨λaI=>?_,λaJ=>?_⟩
  .intro aK O _ _;rw[aQ hG.p 0 (B.ext O) rfl,aW cN.u (C.ext O).ls];unfold p1;rw[N,if_neg ag,if_pos Ω];exact⟨p.length,rfl,x.trans O⟩
  .rw[bV,aU hG.p rfl];refine bq (g:=g) (o:=1) ai.i rfl rfl B Ξ λaL ah aM aj=>?_;have ak:=br C ah ac;rw[aQ hG.p 0 aj rfl];refine JD (i:=a) (j:=i) cN.u cJ.i ak.ls aq hi λaN aD=>?_;rw[u1 cN.u cJ.u cZ.u aD];unfold p1;rw[N,if_neg ag,if_neg Ω];exact⟨rfl,(x.ab _).trans ah,P,Q,hi,aj,bn,ak⟩
abbrev bz:ak:=λ_=>False
abbrev eI (n:Nat):ak:=λr=>n<=r
theorem Aw {a b:Λ} {bf bv:x1} (e:aF .i64 w bf a) (q:aF .i64 w bv b):
  am x7 G6 [bf,bv] w λv w'=>v= .bool (decide (a=b))/\Ext w w':=by
 refine az func124 ?_;rw[aW an.u e,aW an.u q];simp only[bm,al];refine⟨λj=>⟨?_,Ext.refl _⟩,λr=>?_⟩
 .rw[decide_eq_false];rintro rfl;exact j rfl
 .have r:a.length=b.length:=Ω
  rw[aW an.u e];refine bZ.range a.length (λi _ V=>Ext w V/\a.take i=b.take i) e.le ⟨Ext.refl _,rfl⟩ ?_ ?_
  .rintro i t4 V k s ⟨J,m⟩ hk;simp only[aO,al,er];refine⟨λ_ aa z _ _=>?_,λh=>Ω⟩;have J:=J.trans z;obtain⟨x,p⟩:=aH (l:=a) s;obtain⟨y,f⟩:=aH (l:=b) (i:=i) Ω;rw[bc an.u ai.i Ψ (e.ext J) p,bc an.u ai.i Ψ (q.ext J) f];simp only[bm,al,aP];refine⟨λj=>⟨?_,J⟩,λA=>hk _ _ ⟨J,uR m p f Ω⟩⟩;rw[decide_eq_false];rintro rfl;rw[p] at f;cases f;exact j rfl
  .rintro _ V k ⟨J,m⟩;simp only[aO,al];refine⟨λh=>Ω,λ_=>⟨?_,J⟩⟩;rw[decide_eq_true];rwa [p9,r,p9] at m
def jc (rest:List (Λ)) (i:Nat):List (Λ):=(X4 i).flatMap λ(v:Nat)=>rest.map λt=>(v:Int)::t
theorem JF (rest:List (Λ)) (i:Nat):jc rest (i+1)=jc rest i++rest.map λt=>(i:Int)::t:=by
 simp[jc,List.range_succ]
theorem Ax (rest:List (Λ)) (i:Nat):(jc rest i).length=i*rest.length:=by
 simp only[jc,List.length_flatMap,u7];rw[List.map_const',List.length_range,List.sum_replicate_nat]
def oH (l:Λ):Prop:=l.length<=90/\(∀x∈l,1<=x/\x<=32)/\aN l<=1073741824
theorem b1.p (h:b1 l):oH l:=⟨by have:=h.1;omega,h.2,(prod_bound h).2⟩
theorem oH.tail {s:Λ} (h:oH (k::s)):oH s:=by
 have h1:=h.2.1 k (.head _);have a:=(mh s λx J=>h.2.1 x (.tail _ J)).1;have e:k*aN s<=1073741824:=h.2.2;have f:=Int.mul_le_mul_of_nonneg_right h1.1 (show 0<=aN s by omega);refine⟨?_,λx J=>h.2.1 x (.tail _ J),Ω⟩;have:=h.1;rw[c9] at this;omega
theorem Ay:∀ (s:Λ) {sv:x1} {w:x3},aF .i64 w sv s->oH s->
  am x7 y0 [sv] w λv w'=>Ext w w'/\bE (eI w.heap.size) bz w' [v] (bi s)
 |[],sv,w,h,U=>by
  refine az func48 ?_;rw[aW an.u h];simp only[bg,List.length_nil,Int.natCast_zero,decide_true,bQ];refine kc (α:=Λ) (a:=[]) (cs:=[.slice ν 0 0]) (A:=bz) c5.u an.i Φ rfl gE λv w' J f _=>⟨J,ao.mono f (λr _ h=>?_) λ_ _ h=>h⟩;exact h.elim False.elim id
 |k::s,sv,w,h,U=>by
  have ak:1<=aN (k::s)/\aN (k::s)<=1073741824:=⟨(mh _ U.2.1).1,U.2.2⟩;have q:oH s:=U.tail;have hk:=U.2.1 k (.head _);have N:=h3 q.2.1;have ap:1<=aN s/\aN s<=1073741824:=⟨(mh _ q.2.1).1,q.2.2⟩;obtain⟨kn,rfl⟩:∃kn:Nat,k=kn:=⟨k.toNat,Ω⟩;have aq:kn*(bi s).length<=1073741824:=by
   have e:((kn*(bi s).length:Nat):Int)=aN ((kn:Int)::s):=by
    rw[Int.natCast_mul,N,aN,Int.toNat_of_nonneg Ω]
   omega
  refine az func48 ?_;rw[aW an.u h];simp only[bg,al];refine⟨λO=>by simp at O;omega,λ_=>?_⟩;refine Jh (i:=1) rfl an.u ai.i h Ξ λP h'=>?_;refine (Ay s h' q).mono ?_;rintro au aa _ ⟨C,z⟩;have av:=mf z;refine bZ.range kn (λi out V=>Ext aa V/\bE (eI aa.heap.size) bz V [out] (jc (bi s) i)) Ω ⟨Ext.refl _,gE⟩ ?_ ?_
  .rintro i out Q S K ⟨p,f⟩ W;have X:=bI z p;rw[fM (y:=0) (i:=0) rfl an.u ai.i Ψ (h.ext (C.trans p)) (by rfl)];simp only[aO,al];refine⟨λ_=>?_,λh=>Ω⟩;rw[hL c5.u X];refine bZ.range (bi s).length (λj out V=>Ext aa V/\bE (eI aa.heap.size) bz V [out] (jc (bi s) i++((bi s).take j).map λt=>(i:Int)::t)) Ω ⟨p,by simpa using f⟩ ?_ ?_
   .rintro j out m Y Z ⟨B,f⟩ ab;simp only[aO,al];refine⟨λ_=>?_,λh=>Ω⟩;obtain⟨x,E⟩:=aH (l:=(bi s)) Z;have aw:x.length<=100:=by
     have:=uU E;have:=q.1;omega
    refine hM rfl rfl c5.u an.i Ψ (bI z B) E λu hu=>?_;refine ew an.u ai.i rfl λa ga ax ay G ac=>?_;refine iZ an.u ai.i rfl ac (dc (bI hu G)) Θ Θ λb aA ad aB H ae=>?_;have aC:=G.size;have L:Ext m ad:=G.then ae (by rintro r z rfl;omega);have aD:=L.size;refine kc (α:=Λ) (a:=(i:Int)::x) (cs:=[b]) (A:=eI m.heap.size) (R:=bz) c5.u an.i Φ (pS (nn H (R:=bz))) (ao.mono (nn H) (λr _ h=>by subst h;show m.heap.size<=r;omega) λ_ _ h=>h) λc aE I _ af=>?_;have M:=L.trans I;have aG:=I.size;refine nl (α:=Λ) (a:=(i:Int)::x) (A:=eI m.heap.size) c5.u an.i rfl (bI (mf f) M) af (bI (ao.mono (nn H) (λr _ h=>by subst h;show m.heap.size<=r;omega) λ_ _ h=>h) I) (λr _ h h'=>?_) ?_ ?_ λP aI ag ah=>?_
    .rcases h' with h'|h'
     .have:=h.2;have:m.heap.size<=r:=h';omega
     .exact h'
    .have aj:(jc (bi s) i++((bi s).take j).map λt=>(i:Int)::t).length+1<=kn*(bi s).length:=by
      simp only[o4,Ax,u7,j6];have:(i+1)*(bi s).length<=kn*(bi s).length:=X6 _ K;rw[U2] at this;omega
     omega
    .have aj:(jc (bi s) i++((bi s).take j).map λt=>(i:Int)::t).length+1<=kn*(bi s).length:=by
      simp only[o4,Ax,u7,j6];have:(i+1)*(bi s).length<=kn*(bi s).length:=X6 _ K;rw[U2] at this;omega
     omega
    .simp only[aP];have aJ:=B.size;refine ab _ _ ⟨(B.trans M).then ah (λr z h=>?_),?_⟩
     .have:=h.1;have:aa.heap.size<=r:=this;omega
     .have e:jc (bi s) i++((bi s).take (j+1)).map (λt=>(i:Int)::t)=(jc (bi s) i++((bi s).take j).map λt=>(i:Int)::t)++[(i:Int)::x]:=by
       rw[u9,E];simp
      rw[e];refine ao.mono ag (λr _ h=>?_) λ_ _ h=>h;show aa.heap.size<=r;rcases h with h|h|h
      .exact h.1
      .have:m.heap.size<=r:=h;omega
      .omega
   .rintro out m Y ⟨B,f⟩;simp only[aO,al,aP];refine⟨λh=>Ω,λ_=>W _ _ ⟨B,?_⟩⟩;rw[JF];simpa using f
  .rintro out Q S ⟨p,f⟩;rw[fM (y:=0) (i:=0) rfl an.u ai.i Ψ (h.ext (C.trans p)) (by rfl)];simp only[aO,al];refine⟨λh=>Ω,λ_=>⟨C.trans p,?_⟩⟩;have aK:=C.size;have e:bi ((kn:Int)::s)=jc (bi s) kn:=by simp[bi,jc]
   rw[e];exact ao.mono f (λr _ h=>by have:aa.heap.size<=r:=h;show w.heap.size<=r;omega) λ_ _ h=>h
theorem r5 (s:Λ) (h:aF .i64 w sv s) (U:b1 s):am x7 y0 [sv] w λv w'=>Ext w w'/\bE (eI w.heap.size) bz w' [v] (bi s):=Ay s h U.p
def p2 (l:List (Λ)) (t:Λ):Int:=match l.findIdx? (·=t) with
 |some i=>i
 |none=>-1
theorem JG {s t:Λ} {aI:x1} (h:aF .i64 w sv s) (U:b1 s) (y:aF .i64 w aI t):
  am x7 Gi [sv,aI] w λv w'=>v=Δ (p2 (bi s) t)/\Ext w w':=by
 have B:=h3 U.2;have C:=prod_bound U;refine az func51 ?_;refine (r5 s h U).mono ?_;rintro E V _ ⟨m,q⟩;rw[hL c5.u q];refine bZ.range (bi s).length (λi _ aa=>Ext V aa/\ ∀j,j<i->(bi s)[j]? ≠σ t) Ω ⟨Ext.refl _,λj a=>Ω⟩ ?_ ?_
 .rintro i _ aa k hi ⟨e,f⟩ hk;simp only[aO,al];refine⟨λ_=>?_,λh=>Ω⟩;obtain⟨x,p⟩:=aH (l:=(bi s)) hi;refine hM rfl rfl c5.u an.i Ψ (bI q e) p λu hu=>?_;refine (Aw (dc hu) (y.ext (m.trans e))).mono ?_;rintro _ G _ ⟨rfl,r⟩;simp only[al,aP];refine⟨λhe=>⟨?_,(m.trans e).trans r⟩,λz=>hk _ _ ⟨e.trans r,λj a=>?_⟩⟩
  .subst he;have:(bi s).findIdx? (·=x)=σ i:=by
    rw[List.findIdx?_eq_some_iff_getElem];refine⟨hi,by simpa using (x4.1 p).2,λj a=>?_⟩;have:=f j a;rw[x6 Ω] at this;simpa using this
   unfold p2;rw[this]
  .by_cases A:j=i
   .subst A;rw[p];intro h;exact z (by simpa using h)
   .exact f j Ω
 .rintro _ aa k ⟨e,f⟩;simp only[aO,al];refine⟨λh=>Ω,λ_=>⟨?_,m.trans e⟩⟩;have:(bi s).findIdx? (·=t)=ν:=by
   rw[List.findIdx?_eq_none_iff];intro x J;obtain⟨j,a,rfl⟩:=List.mem_iff_getElem.1 J;have:=f j a;rw[x6 a] at this;simpa using this
  unfold p2;rw[this]
theorem JH:∀ (x:Nat),0<x-> ∃k m,x=2 ^ k*(2*m+1):=by
 intro x;induction x using Nat.strongRecOn with
 |_ x a=>
  intro h;by_cases e:x % 2=1
  .exact⟨0,x / 2,Ω⟩
  .obtain⟨k,m,hk⟩:=a (x / 2) Ω Ω;refine⟨k+1,m,?_⟩;rw[Nat.pow_succ,Nat.mul_assoc,Nat.mul_comm 2,<-Nat.mul_assoc,<-hk];omega
theorem vb {k i:Nat}:(2 ^ k*(2*m+1)).testBit i=(decide (i=k)||decide (k<i)&&m.testBit (i-k-1)):=by
 rw[Nat.testBit_two_pow_mul];by_cases h:k<=i
 .obtain⟨d,rfl⟩:=Nat.exists_eq_add_of_le h;cases d with
  |zero=>simp
  |succ d=>
   have e:(2*m+1).testBit (d+1)=m.testBit d:=by rw[Nat.testBit_succ];congr 1;omega
   simp[e,show k+(d+1)-k=d+1 by omega]
 .simp[h,show i≠k by omega,show ¬k<i by omega]
theorem JI {k:Nat} (J:2 ^ k*(2*m+1)<2 ^ 64):(2 ^ k*(2*m+1)) &&& (2 ^ 64-2 ^ k*(2*m+1))=2 ^ k:=by
 have p:0<2 ^ k:=Nat.two_pow_pos k;have hk:k<64:=by
  rcases Nat.lt_or_ge k 64 with h|h
  .exact h
  .have:2 ^ 64<=2 ^ k:=T8 Ω h;have:2 ^ k*1<=2 ^ k*(2*m+1):=Nat.mul_le_mul_left _ Ω;omega
 have e:2 ^ k*(2*m+1)=(2 ^ k*(2*m)+(2 ^ k-1))+1:=by rw[Nat.mul_add];omega
 apply Nat.eq_of_testBit_eq;intro i;rw[Nat.testBit_and,vb]
 conv=>lhs;rhs;rw[e]
 rw[Nat.testBit_two_pow_sub_succ Ω,Nat.testBit_two_pow_mul_add _ Ω,Nat.testBit_two_pow];by_cases h1:i=k
 .subst h1;simp[hk]
 .by_cases a:k<i
  .have f:(2*m).testBit (i-k)=m.testBit (i-k-1):=by
    obtain⟨d,j⟩:∃d,i-k=d+1:=⟨i-k-1,Ω⟩;rw[j,Nat.testBit_succ];congr 1;omega
   simp[h1,a,show ¬i<k by omega,f,show k≠i by omega];intro h;simp[h]
  .simp[h1,a,show k≠i by omega]
def jz (a c:Nat):Nat:=(BitVec.ofNat 64 a &&& ~~~BitVec.ofNat 64 c).toNat
theorem Az (a c i:Nat):(jz a c).testBit i=(decide (i<64)&&(a.testBit i&& !c.testBit i)):=by
 unfold jz;rw[BitVec.testBit_toNat,BitVec.getLsbD_and,BitVec.getLsbD_not,BitVec.getLsbD_ofNat,BitVec.getLsbD_ofNat];by_cases h:i<64<;>simp[h]
theorem JJ (a c:Nat):jz a c<2 ^ 64:=BitVec.isLt _
theorem JK (h:∀i,n<=i->a.testBit i=false):a<2 ^ n:=Nat.lt_pow_two_of_testBit a h
theorem AA {i:Nat} (h:a<2 ^ n) (hi:n<=i):a.testBit i=false:=Nat.testBit_lt_two_pow (R6 h (T8 Ω hi))
def gk (b n:Nat):List Nat:=(X4 n).filter λi=>b.testBit i
theorem AB (b n:Nat):(gk b n).Pairwise (·< ·):=List.Pairwise.filter _ List.pairwise_lt_range
theorem vc {b i:Nat}:i∈gk b n↔i<n/\b.testBit i=true:=by simp[gk]
def nu:Option Nat->Int
 |some i=>(i:Int)
 |none=>-1
def jA (b n:Nat) (v:Int):Int:=nu ((X4 n).find? (λi:Nat=>decide (v<(i:Int))&&b.testBit i))
theorem AC:∀ {l:List Nat} {k x:Nat},l.Pairwise (·< ·)->l[k]? =σ x->l.filter (λi=>decide (x<i))=l.drop (k+1)
 |y::l,0,x,h,hk=>by
  simp at hk;subst hk;rw[List.pairwise_cons] at h;simp only[List.drop_succ_cons,List.drop_zero];rw[List.filter_cons_of_neg Ξ,List.filter_eq_self.2 λa e=>by simpa using h.1 a e]
 |y::l,k+1,x,h,hk=>by
  simp only[List.getElem?_cons_succ] at hk;rw[List.pairwise_cons] at h;have:y<x:=h.1 x (x5 hk);rw[List.filter_cons_of_neg Θ,List.drop_succ_cons];exact AC h.2 hk
theorem AD (b n:Nat) (v:Int):jA b n v=nu (((gk b n).filter (λi:Nat=>decide (v<i))).head?):=by
 unfold jA gk;rw[<-List.head?_filter,List.filter_filter]
theorem JL (b n:Nat):jA b n (-1)=nu ((gk b n)[0]?):=by
 rw[AD,List.filter_eq_self.2 (λa _=>Θ),List.head?_eq_getElem?]
theorem AE {b k x:Nat} (h:(gk b n)[k]? =σ x):jA b n x=nu ((gk b n)[k+1]?):=by
 have e:(λi:Nat=>decide ((x:Int)<i))=λi=>decide (x<i):=by funext i;simp
 rw[AD,e,AC (AB b n) h,List.head?_eq_getElem?,List.getElem?_drop]
theorem JM {b:Nat} {v:Int} (h:(n:Int)-1<=v):jA b n v= -1:=by
 unfold jA;rw[List.find?_eq_none.2 λi hi=>by simp at hi ⊢;omega];rfl
theorem JN {b k s:Nat} (y:n<=64) (f:b<2 ^ n) (e:∀i,r.testBit i=(decide (s<=i)&&b.testBit i)) (hk:r=2 ^ k*(2*m+1)) {v:Int} (ad:v+1=s):jA b n v=k:=by
 have p:r.testBit k=true:=by rw[hk,vb];simp
 have q:∀i,i<k->r.testBit i=false:=λi hi=>by rw[hk,vb];simp[show i≠k by omega,show ¬k<i by omega]
 have a:=p;rw[e] at a;simp at a;have w:k<n:=by
  rcases Nat.lt_or_ge k n with h|h
  .exact h
  .rw[AA f h] at a;cases a.2
 unfold jA;have:(X4 n).find? (λi:Nat=>decide (v<(i:Int))&&b.testBit i)=σ k:=by
  rw[List.find?_range_eq_some];refine⟨by simp[a.2];omega,by simpa using w,λj x=>?_⟩;have:=q j x;rw[e] at this;simp only[Bool.not_eq_true',Bool.and_eq_false_iff,decide_eq_false_iff_not] at this ⊢;rcases this with h|h
  .exact .inl Ω
  .exact .inr h
 rw[this];rfl
theorem JO {b s:Nat} (a:∀i,r.testBit i=(decide (s<=i)&&b.testBit i)) (hk:r=0) {v:Int} (ad:v+1=s):jA b n v= -1:=by
 unfold jA;rw[List.find?_eq_none.2]
 .rfl
 .intro i hi;have:=a i;rw[hk,Nat.zero_testBit] at this;simp at hi this ⊢;intro h;exact this Ω
section
variable {P:W5} {w:x3} {t:r9} {cx cy:Bool} {a b:Nat} {K:x1->Prop}
theorem mn (a:Nat):U5 64 (a:Int)=BitVec.ofNat 64 a:=BitVec.ofInt_natCast _ _
theorem AF (x:BitVec 64):U3.wrap (x.toNat:Int)=(x.toNat:Int):=by
 have:=x.isLt;rw[wrap_u64 Ω Ω]
theorem u64_and (f:a<2 ^ 64) (h:b<2 ^ 64):ac P (aL .and t cx cy (.int .u64 a) (.int .u64 b)) w K=K (.int .u64 ((a &&& b:Nat):Int)):=ac.of λw' _=>by
 have e:(U5 64 (a:Int) &&& U5 64 (b:Int)).toNat=a &&& b:=by
  rw[mn,mn,BitVec.toNat_and,BitVec.toNat_ofNat,BitVec.toNat_ofNat,Nat.mod_eq_of_lt f,Nat.mod_eq_of_lt h]
 have hw:U3.wrap ((a &&& b:Nat):Int)=((a &&& b:Nat):Int):=by rw[<-e];exact AF _
 have j:(U5 U3.bits (a:Int) &&& U5 U3.bits (b:Int)).toNat=a &&& b:=e;simp only[aL,eqGuard,binOp,Op.intBits,j,hw];rfl
theorem AG:ac P (aL .andNot t cx cy (.int .u64 a) (.int .u64 b)) w K=K (.int .u64 (jz a b:Int)):=ac.of λw' _=>by
 have e:(U5 64 (a:Int) &&& ~~~U5 64 (b:Int)).toNat=jz a b:=by rw[mn,mn];rfl
 have hw:U3.wrap (jz a b:Int)=(jz a b:Int):=AF _;have f:(U5 U3.bits (a:Int) &&& ~~~U5 U3.bits (b:Int)).toNat=jz a b:=e;simp only[aL,eqGuard,binOp,Op.intBits,f,hw];rfl
theorem kR {k:o5} (f:n<64):ac P (aL .shr t cx cy (.int .u64 (a:Int)) (.int k (n:Int))) w K=K (.int .u64 ((a / 2 ^ n:Nat):Int)):=ac.of λw' _=>by
 have e:(a:Int).fdiv (2 ^ min n U3.bits)=((a / 2 ^ n:Nat):Int):=by
  have:min n U3.bits=n:=Nat.min_eq_left (by show n<=64;omega);rw[this,Int.fdiv_eq_ediv_of_nonneg _ (by exact Int.le_of_lt (Int.pow_pos Ω))];simp
 simp only[aL,eqGuard,binOp,Op.shift,u6,e];simp[show ¬(n:Int)<0 by omega]
theorem vd {k:o5} (a:n<64):ac P (aL .shl t cx cy (.int .u64 1) (.int k (n:Int))) w K=K (.int .u64 ((2 ^ n:Nat):Int)):=by
 rw[zt Ω];have e:min ((n:Int).toNat) U3.bits=n:=Nat.min_eq_left (by show n<=64;omega);have f:2 ^ n<2 ^ 64:=Nat.pow_lt_pow_right Ω a;rw[e,Int.one_mul,show ((2:Int) ^ n)=((2 ^ n:Nat):Int) by simp];generalize 2 ^ n=q at f ⊢;rw[wrap_u64 Ω Ω]
end
def oI:Λ:=[0,1,56,2,57,49,28,3,61,58,42,50,38,29,17,4,62,47,59,36,45,43,51,22,53,39,33,30,24,18,12,5,63,55,48,27,60,41,37,16,46,35,44,21,52,32,23,11,54,26,40,15,34,20,31,10,25,14,19,9,13,8,7,6]
def Laid (w:x3):Prop:=w.rangeAt 0 0 (ints .u8 oI)
theorem Laid.ext (h:Laid w) (J:Ext w w'):Laid w':=ne J h
theorem JP:∀k:Nat,k<64->oI[(2 ^ k*285870213051353865 % 2 ^ 64) / 2 ^ 58]? =σ (k:Int):=Φ
theorem JQ {x k:Nat} (f:Laid w) (J:x=2 ^ k*(2*m+1)) (j:x<2 ^ 64):
  am x7 Ik [.int .u64 (x:Int)] w λv w'=>v=Δ (k:Int)/\Ext w w':=by
 have y:0<2 ^ k:=Nat.two_pow_pos k;have z:2 ^ k<=x:=by
  have:2 ^ k*1<=2 ^ k*(2*m+1):=Nat.mul_le_mul_left _ Ω;omega
 have hk:k<64:=by
  rcases Nat.lt_or_ge k 64 with h|h
  .exact h
  .have:2 ^ 64<=2 ^ k:=T8 Ω h;omega
 refine az func230 ?_;simp only[bg,al];refine⟨λh=>Ω,λ_=>?_⟩;rw[lD];have p:U3.wrap (0-(x:Int))=((2 ^ 64-x:Nat):Int):=by
  simp only[o5.wrap,o5.bits,o5.signed];simp;omega
 rw[p,u64_and j Ω,J,JI Ω];simp only[hI];have q:U3.wrap (((2 ^ k:Nat):Int)*285870213051353865)=((2 ^ k*285870213051353865 % 2 ^ 64:Nat):Int):=by
  have e:((2 ^ k:Nat):Int)*285870213051353865=((2 ^ k*285870213051353865:Nat):Int):=Ξ
  rw[e];simp only[o5.wrap,o5.bits,o5.signed];simp
 have r:(58:Int)=((58:Nat):Int):=rfl;rw[q,r,kR Ω];have a:=JP k hk;have s:=(x4.1 a).1;rw[uQ (t:=rO) rO.u cJ.i s,ay Ψ (by rw[U1];exact f _ _ (kO a)),fd cJ.u ai.u,wrap_i64 Ω Ω];exact⟨rfl,Ext.refl _⟩
def jd (b n:Nat):x1:=.agg #[.int .u64 (b:Int),Δ (n:Int)]
def lL (b n:Nat):Prop:=n<=32/\b<2 ^ n
theorem AH (s i:Nat):(2 ^ s-1).testBit i=decide (i<s):=Nat.testBit_two_pow_sub_one s i
theorem AI {b:Nat} {v:Int}:am x7 Hf [jd b n,Δ v] w λr w'=>r= .bool (decide (0<=v/\v<n))/\Ext w w':=by
 refine az func134 ?_;refine be λg V f a e=>?_;simp only[cv,cP,al];refine⟨λh=>?_,λh=>⟨?_,a⟩⟩
 .rw[aM b4.p 1 e rfl];simp only[aO];exact⟨by simp[h],a⟩
 .rw[decide_eq_false];omega
theorem ve {b:Nat}:am x7 G7 [jd b n] w λr w'=>r=Δ n/\Ext w w':=by
 refine az func125 ?_;refine be λg V f a e=>?_;rw[aM b4.p 1 e rfl];exact⟨rfl,a⟩
theorem JR {n:Int}:am x7 Ha [Δ n] w λr w'=>Ext w w'/\r=(if 1<=n/\n<=32 then .tuple #[jd (2 ^ n.toNat-1) n.toNat,Δ 0] else .tuple #[jd 0 0,Δ 1]):=by
 refine az func129 ?_;refine bD b4.i λg V z f j=>?_;refine aV (λv aa=>v= .bool (decide (¬(1<=n/\n<=32)))/\V=aa) ?_ ?_
 .rintro _ _ ⟨rfl,rfl⟩;simp only[al];refine⟨λh=>?_,λh=>?_⟩
  .rw[dn (cs:=#[.int .u64 0,Δ 0]) Ψ];refine ch (vs:=[.int .u64 0,Δ 0]) b4.i rfl rfl (by intro u hu;simp at hu;rcases hu with rfl|rfl<;>rfl) j λs a x e=>?_;rw[fN b4.p b4.i rfl e.range,if_neg h];exact⟨f.then a (by rintro r y rfl;omega),rfl⟩
  .have h:1<=n/\n<=32:=Z9.1 h;obtain⟨m,rfl⟩:∃m:Nat,n=m:=⟨n.toNat,Ω⟩;rw[vd Ω];have A:0<2 ^ m:=Nat.two_pow_pos m;have B:2 ^ m<=2 ^ 32:=T8 Ω Ω;simp only[dF];rw[wrap_u64 Ω Ω,show (((2 ^ m:Nat):Int)-1)=((2 ^ m-1:Nat):Int) by omega];rw[dn (cs:=#[.int .u64 ((2 ^ m-1:Nat):Int),Δ m]) Ψ];refine ch (vs:=[.int .u64 ((2 ^ m-1:Nat):Int),Δ m]) b4.i rfl rfl (by intro u hu;simp at hu;rcases hu with rfl|rfl<;>rfl) j λs a x e=>?_;rw[fN b4.p b4.i rfl e.range,if_pos h];exact⟨f.then a (by rintro r y rfl;omega),rfl⟩
 .intro aA q;simp only[aO,bU,al];refine⟨λh=>q _ _ ⟨?_,rfl⟩,λh=>q _ _ ⟨?_,rfl⟩⟩
  .rw[decide_eq_true];omega
  .congr 1;simp;omega
theorem AJ {b:Nat} {v:Int} (y:lL b n) (z:Laid w) (ad: -1<=v):am x7 HP [jd b n,Δ v] w λr w'=>r=Δ (jA b n v)/\Ext w w':=by
 obtain⟨G,e⟩:=y;have f:b<2 ^ 64:=R6 e (T8 Ω Ω);refine az func182 ?_;refine be λg V H a j=>?_;rw[aM b4.p 1 j rfl];simp only[dF,cP,al];rw[wrap_i64 Ω Ω];refine⟨λh=>⟨by rw[JM h],a⟩,λI=>?_⟩;rw[aM b4.p 0 j rfl];refine aV (λu aa=>V=aa/\ ∃r s:Nat,u= .int .u64 (r:Int)/\r<2 ^ 64/\v+1=s/\ ∀i,r.testBit i=(decide (s<=i)&&b.testBit i)) ?_ ?_
 .rintro _ _ ⟨rfl,r,s,rfl,A,U,q⟩;simp only[bg,al];refine⟨λB=>⟨by rw[JO q Ω U],a⟩,λB=>?_⟩;obtain⟨k,m,hk⟩:=JH r Ω;refine (JQ (z.ext a) hk A).mono ?_;rintro _ J _ ⟨rfl,C⟩;exact⟨by rw[JN Ω e q hk U],a.trans C⟩
 .intro aA x;refine⟨λh=>?_,λh=>?_⟩
  .obtain⟨s,rfl⟩:∃s:Nat,v=s:=⟨v.toNat,Ω⟩;have K:0<2 ^ (s+1):=Nat.two_pow_pos _;have L:2 ^ (s+1)<=2 ^ 32:=T8 Ω Ω;simp only[aP];rw[wrap_i64 Ω Ω,show ((s:Int)+1)=((s+1:Nat):Int) by omega,vd Ω];simp only[dF];rw[wrap_u64 Ω Ω,show (((2 ^ (s+1):Nat):Int)-1)=((2 ^ (s+1)-1:Nat):Int) by omega,AG];refine x _ _ ⟨rfl,_,s+1,rfl,JJ _ _,Ω,λi=>?_⟩;rw[Az,AH];by_cases E:i<64
   .by_cases hi:s+1<=i
    .simp[E,hi,show ¬i<s+1 by omega]
    .simp[hi,show i<s+1 by omega]
   .rw[AA f Ω];simp
  .exact x _ _ ⟨rfl,b,0,rfl,f,Ω,λi=>Ξ⟩
theorem JS {b:Nat} (e:lL b n) (f:Laid w):am x7 HO [jd b n] w λr w'=>r=Δ (jA b n (-1))/\Ext w w':=by
 refine az func181 ?_;refine be λg V m a h=>?_;rw[bR b4.p b4.i rfl h.range];refine (AJ e (f.ext a) Ω).mono ?_;rintro _ aa _ ⟨rfl,j⟩;exact⟨rfl,a.trans j⟩
theorem JT {b:Nat} {v:Int} (G:lL b n):am x7 Hc [jd b n,Δ v] w λr w'=>r=jd (if 0<=v/\v<n then jz b (2 ^ v.toNat) else b) n/\Ext w w':=by
 refine az func131 ?_;refine be λg V P q x=>?_;refine bD b4.i λH aa Q y z=>?_;have R:=q.size;have S:=x.lt;refine dg (λe=>∃f,ag e g b4 [.int .u64 ((f:Nat):Int),Δ (n:Int)]/\ag e H b4 [.int .u64 0,Δ 0]/\Ext w e/\f=(if 0<=v/\v<n then jz b (2 ^ v.toNat) else b)) ?_ ?_
 .rintro e ⟨f,I,J,K,rfl⟩;rw[bR b4.p b4.i rfl I.range];refine ch (vs:=[_,_]) b4.i rfl rfl (by intro u hu;simp at hu;rcases hu with rfl|rfl<;>rfl) J λU L W M=>?_;rw[fN b4.p b4.i rfl M.range];exact⟨rfl,K.then L (by rintro r N rfl;omega)⟩
 .intro aA A;have j:=x.ext y;rw[bR b4.p b4.i rfl j.range];refine AI.mono ?_;rintro _ X _ ⟨rfl,a⟩;have B:=(q.trans y).trans a;simp only[al,er];refine⟨λh Y m _ _=>?_,λh=>A _ ⟨b,j.ext a,z.ext a,B,by rw[if_neg h]⟩⟩;have C:=(j.ext a).ext m;rw[aM b4.p 0 C rfl];obtain⟨s,rfl⟩:∃s:Nat,v=s:=⟨v.toNat,Ω⟩;have Z:=G.1;rw[vd Ω,AG,aU b4.p rfl];refine bq fu.i rfl rfl C (by simp[jd,x1.cells]) λac E ad O=>?_;refine A _ ⟨_,O,((z.ext a).ext m).ab E Ω,(B.trans m).then E (by rintro r N rfl;omega),?_⟩;rw[if_pos h,u6]
def oJ (v:Int):Nat:=if v<0 then 0 else 40-v.toNat
theorem vf (x:Nat):oJ x=40-x:=by unfold oJ;rw[if_neg Ω];omega
theorem oK {b g:Nat} (a:lL b n):
  oe x7 jr [Γ g] (gk b n).length (λk vs _=>∃v:Nat,(gk b n)[k]? =σ v/\vs=[Δ (v:Int)])
   (λw=>ag w g b4 [.int .u64 (b:Int),Δ (n:Int)]/\Laid w):=by
 refine⟨jr.enters,λl aA N w j _ A ⟨m,q⟩ B=>?_⟩;have O:=a.1;refine pM func180 ?_;rw[bR b4.p b4.i rfl m.range];refine (JS a q).free.mono ?_;rintro _ V ⟨C,rfl,J⟩;refine⟨λv aa=>∃k,k<=(gk b n).length/\v=Δ (nu (gk b n)[k]?)/\aA k aa/\ag aa g b4 [.int .u64 (b:Int),Δ (n:Int)]/\Laid aa,
  λv _=>oJ (bX v),⟨0,X3 _,by rw[JL],j 0 _ _ J C.b B,m.ext J,q.ext J⟩,?_⟩
 rintro _ aa ⟨k,hk,rfl,r,E,G⟩;cases ad:(gk b n)[k]? with
 |none=>
  have:k=(gk b n).length:=by
   have:=List.getElem?_eq_none_iff.1 ad;omega
  subst this;simp only[nu,cP,al];exact⟨λh=>Ω,λ_=>.inl r⟩
 |some x=>
  have e:=(x4.1 ad).1;have P:=(vc.1 (x5 ad)).1;simp only[nu,cP,al];refine⟨λ_=>?_,λh=>Ω⟩;refine⟨rfl,(A k _ aa e ⟨E,G⟩ ⟨x,ad,rfl⟩ r).mono ?_⟩;rintro _ Q (⟨rfl,⟨s,z⟩,H⟩|⟨rfl,I⟩)
  .simp only[bG,Y6,a1];rw[bR b4.p b4.i rfl s.range];refine (AJ a z Ω).free.mono ?_;rintro _ R ⟨K,rfl,f⟩;refine⟨⟨k+1,e,congrArg (V2 .i64) (AE ad),j _ _ _ f K.b H.1,s.ext f,z.ext f⟩,?_⟩;rw[AE ad];cases L:(gk b n)[k+1]? with
   |none=>show 0<oJ x;rw[vf];omega
   |some y=>
    have S:x<y:=by
     have h1:=(x4.1 ad).2;have M:=(x4.1 L).2;rw[<-h1,<-M];exact V3.1 (AB b n) k (k+1) _ _ Ω
    show oJ y<oJ x;rw[vf,vf];omega
  .simp only[bG,X9,bQ];exact .inr ⟨k,e,I⟩
theorem oL {b:Nat}:am x7 GY [jd b n] w λr w'=>Ext w w'/\ ∃g,r= .func (.func jr) #[] #[Γ g]/\w.heap.size<=g/\ag w' g b4 [.int .u64 (b:Int),Δ (n:Int)]:=by
 refine az func116 ?_;refine be λg V f a e=>?_;rw[ix];exact⟨a,g,rfl,Ω,e⟩
abbrev dG (s:Λ):Prop:=∀x∈s,1<=x/\x<=32
theorem dG.tail {s:Λ} (h:dG (k::s)):dG s:=λx J=>h x (.tail _ J)
theorem lM {s:Λ} (h:dG s):1<=aN s:=(mh s h).1
theorem oM:∀ (s t:Λ) (m:Int),ci s t m=(ci s t 0).map λn=>n+m*aN s
 |[],[],m=>by simp[ci,aN]
 |k::s,v::t,m=>by
  unfold ci;split
  .rw[oM s t (m*k+v),oM s t (0*k+v)];simp only[Option.map_map,aN];congr 1;funext n;simp only[Function.comp];rw[Int.add_mul,Int.add_mul,<-Int.mul_assoc];simp;omega
  .rfl
 |[],_::_,_=>rfl
 |_::_,[],_=>rfl
theorem vg {L j:Nat} {rest:List (Λ)} (e:rest.length=L):∀ {kn v:Nat},v<kn-> ∀ {x:Λ},rest[j]? =σ x->
  ((X4 kn).flatMap λ(v:Nat)=>rest.map λt=>(v:Int)::t)[v*L+j]? =σ ((v:Int)::x)
 |0,v,h,_,_=>Ω
 |kn+1,v,h,x,J=>by
  have f:=(x4.1 J).1;have a:((X4 kn).flatMap λ(v:Nat)=>rest.map λt=>(v:Int)::t).length=kn*L:=by
   simp only[List.length_flatMap,u7,e];rw[List.map_const',List.length_range,List.sum_replicate_nat]
  rw[List.range_succ,List.flatMap_append];by_cases ad:v<kn
  .have:(v+1)*L<=kn*L:=X6 _ ad;rw[U2] at this;rw[Y1 (by rw[a];omega)];exact vg e ad J
  .have ad:v=kn:=Ω
   subst ad;rw[Y2 (by rw[a];omega),a,show v*L+j-v*L=j by omega];simp[J]
theorem je:∀ {s:Λ},dG s-> ∀ {i:Nat} {t:Λ},(bi s)[i]? =σ t->ci s t 0=σ (i:Int)
 |[],_,i,t,h=>by
  cases i with
  |zero=>simp[bi] at h;subst h;rfl
  |succ i=>simp[bi] at h
 |k::s,U,i,t,h=>by
  have hk:=U k (.head _);have a:=h3 U.tail;have p:=lM U.tail;obtain⟨kn,rfl⟩:∃kn:Nat,k=kn:=⟨k.toNat,Ω⟩;have hi:=(x4.1 h).1;rw[h3 U,aN,Int.toNat_mul Ω Ω,<-a,u6] at hi;have f:0<(bi s).length:=Ω
  have ad:i / (bi s).length<kn:=Nat.div_lt_of_lt_mul (by rw[Nat.mul_comm];exact hi);have j:i % (bi s).length<(bi s).length:=Nat.mod_lt _ f;obtain⟨x,J⟩:∃x,(bi s)[i % (bi s).length]? =σ x:=⟨_,x6 j⟩;have e:=vg (kn:=kn) rfl ad J;rw[Nat.mul_comm,Nat.div_add_mod] at e;have h':((X4 ((kn:Int).toNat)).flatMap λ(v:Nat)=>(bi s).map λt=>(v:Int)::t)[i]? =σ t:=h;rw[u6,e] at h';cases h';unfold ci;rw[if_pos ⟨Int.natCast_nonneg _,Int.ofNat_lt.2 ad⟩,oM,je U.tail J];simp only[Z3,Y8,Int.zero_mul,Int.zero_add];have m:aN s=((bi s).length:Int):=by rw[a];omega
  rw[m,<-Int.natCast_mul,<-Int.natCast_add];congr 1;rw[Nat.mul_comm,Nat.add_comm,Nat.div_add_mod]
theorem kg:∀ {s:Λ},dG s-> ∀ {t:Λ} {n:Int},ci s t 0=σ n->(bi s)[n.toNat]? =σ t
 |[],_,[],n,h=>by simp[ci] at h;subst h;rfl
 |k::s,U,v::t,n,h=>by
  have hk:=U k (.head _);have j:=h3 U.tail;have r:=lM U.tail;obtain⟨kn,rfl⟩:∃kn:Nat,k=kn:=⟨k.toNat,Ω⟩;unfold ci at h;split at h
  .rename_i ad;rw[oM] at h;cases f:ci s t 0 with
   |none=>rw[f] at h;cases h
   |some q=>
    rw[f] at h;simp only[Z3,Y8,Int.zero_mul,Int.zero_add] at h;have m:=np U.tail f;simp only[Int.zero_mul,Int.zero_add,Int.one_mul] at m;obtain⟨a,rfl⟩:∃a:Nat,v=a:=⟨v.toNat,Ω⟩;have p:=vg (kn:=kn) (v:=a) rfl Ω (kg U.tail f);have e:n.toNat=a*(bi s).length+q.toNat:=by
     rw[<-h,j];have:((a*(aN s).toNat:Nat):Int)=(a:Int)*aN s:=by rw[Int.natCast_mul,Int.toNat_of_nonneg Ω]
     omega
    rw[e];show ((X4 ((kn:Int).toNat)).flatMap λ(v:Nat)=>(bi s).map λt=>(v:Int)::t)[_]? =_;rw[u6];exact p
  .cases h
 |[],_,_::_,_,h=>by cases h
 |_::_,_,[],_,h=>by cases h
theorem AK:∀ (s:Λ),dG s-> ∀ (n c:Int),cS s (n+c*aN s)=cS s n
 |[],_,_,_=>rfl
 |k::s,U,n,c=>by
  have a:=lM U.tail;simp only[cS,aN];rw[<-Int.mul_assoc,AK s U.tail,Int.add_mul_ediv_right _ _ Ω,Int.add_mul_emod_self_right]
theorem r6:∀ {s:Λ},dG s-> ∀ {n:Int},0<=n->n<aN s->ci s (cS s n) 0=σ n
 |[],_,n,a,h1=>by simp[aN] at h1;simp[cS,ci];omega
 |k::s,U,n,a,h1=>by
  have hk:=U k (.head _);have j:=lM U.tail;simp only[cS,aN] at h1 ⊢;have f:n / aN s<k:=Int.ediv_lt_of_lt_mul Ω h1;have h:0<=n / aN s:=Int.ediv_nonneg a Ω;have hm:n / aN s % k=n / aN s:=Int.emod_eq_of_lt h f;rw[hm];unfold ci;rw[if_pos ⟨h,f⟩,oM];have e:cS s n=cS s (n % aN s):=by
   have:=AK s U.tail (n % aN s) (n / aN s);rw[<-this];congr 1;have:=Int.emod_add_mul_ediv n (aN s);rw[Int.mul_comm (n / aN s)];omega
  rw[e,r6 U.tail (Int.emod_nonneg _ Ω) (Int.emod_lt_of_pos _ Ω)];simp only[Z3,Y8,Int.zero_mul,Int.zero_add];have:=Int.emod_add_mul_ediv n (aN s);rw[Int.mul_comm (n / aN s)];omega
theorem p3 {s:Λ} (U:dG s) {i:Nat} (h:(i:Int)<aN s):(bi s)[i]? =σ (cS s i):=by
 have:=kg U (r6 U (n:=(i:Int)) Ω h);simpa using this
def bj (s cs t:Λ):Int:=match ci s t 0 with
 |some n=>cs.getD n.toNat 0
 |none=>0
def upto {α:Type} (l:List α) (d:α) (i:Nat):List α:=l.take i++r8 (l.length-i) d
theorem p4 {α:Type} (l:List α) (d:α) (i:Nat):(upto l d i).length=l.length:=by simp[upto];omega
theorem p5 {α:Type} (l:List α) (d:α):upto l d 0=r8 l.length d:=by simp[upto]
theorem p6 {α:Type} (l:List α) (d:α):upto l d l.length=l:=by simp[upto]
theorem p7 {α:Type} {l:List α} {d x:α} {i:Nat} (h:l[i]? =σ x):(upto l d i).set i x=upto l d (i+1):=by
 have hi:=(x4.1 h).1;unfold upto;rw[T2 _ _ Θ,u9,h];have e:i-(l.take i).length=0:=Θ
 obtain⟨m,hm⟩:∃m,l.length-i=m+1:=⟨l.length-i-1,Ω⟩;rw[e,hm,show l.length-(i+1)=m by omega];simp[List.replicate_succ]
theorem qa {α:Type} {l:List α} {i:Nat} {x:α} (h:l[i]? =σ x):l.set i x=l:=by
 apply Y3;intro j;rw[Y7];split
 .rename_i a;subst a;rw[if_pos (x4.1 h).1,h]
 .rfl
def vh:Λ->Int
 |[]=>0
 |x::l=>l.foldl min x
def AL (P:Int->Prop) (m:Int):Prop:=P m/\ ∀x,P x->m<=x
def dh (s t:Λ):Prop:=∃n,ci s t 0=σ n
theorem JU (k v:Int) (s t:Λ):ci (k::s) (v::t) 0=if 0<=v/\v<k then (ci s t 0).map (λn=>n+(0*k+v)*aN s) else ν:=by
 conv=>lhs;unfold ci
 rw[oM]
theorem AM {v:Int} {s t:Λ}:dh (k::s) (v::t)↔(0<=v/\v<k)/\dh s t:=by
 unfold dh;rw[JU];constructor
 .rintro⟨n,h⟩;split at h
  .rename_i ad;cases a:ci s t 0 with
   |none=>rw[a] at h;cases h
   |some q=>exact⟨ad,q,rfl⟩
  .cases h
 .rintro⟨ad,q,a⟩;rw[if_pos ad,a];exact⟨_,rfl⟩
theorem AN {t:Λ}:dh [] t↔t=[]:=by
 cases t with
 |nil=>exact⟨λ_=>rfl,λ_=>⟨0,rfl⟩⟩
 |cons v t=>
  constructor
  .rintro⟨_,h⟩;cases h
  .intro h;cases h
theorem r7 {s t:Λ} (h:dh s t):s.length=t.length:=by
 obtain⟨n,h⟩:=h;rcases Nat.decEq s.length t.length with a|a
 .rw[uT s t 0 a] at h;cases h
 .exact a
theorem AO {s t:Λ} (U:dG s) {n:Int} (h:ci s t 0=σ n):cS s n=t:=by
 have f:=np U h;have h1:=kg U h;simp only[Int.zero_mul,Int.zero_add,Int.one_mul] at f;have a:=p3 U (i:=n.toNat) Ω;rw[h1] at a;have e:((n.toNat:Nat):Int)=n:=Ω
 rw[e] at a;exact (b6 a).symm
theorem sa {s cs:Λ} (U:dG s) (a:cs.length=(aN s).toNat):cs=(X4 (aN s).toNat).map λ(q:Nat)=>bj s cs (cS s q):=by
 apply List.ext_getElem
 .simp[a]
 .intro i h1 e;rw[List.getElem_map,List.getElem_range];have f:=lM U;have hi:(i:Int)<aN s:=Ω
  unfold bj;rw[r6 U Ω hi];simp only[u6];rw[v8,x6 h1];rfl
theorem vi {s:Λ} (U:dG s) {q:Nat} (a:q<(aN s).toNat):dh s (cS s q):=⟨_,r6 U Ω (by have:=lM U;omega)⟩
theorem JV {s cs a:Λ} (U:dG s) (e:cs.length=(aN s).toNat) (f:a.length=(aN s).toNat) (h:∀t,dh s t->bj s cs t=bj s a t):cs=a:=by
 rw[sa U e,sa U f];apply List.map_congr_left;intro q j;exact h _ (vi U (by simpa using j))
theorem JW (h:l≠[]):AL (λc=>c∈l) (vh l):=by
 obtain⟨x,r,rfl⟩:∃v r,l=v::r:=by cases l with
  |nil=>exact absurd rfl h
  |cons v r=>exact⟨v,r,rfl⟩
 clear h;show AL (λc=>c∈x::r) (r.foldl min x);induction r generalizing x with
 |nil=>exact⟨.head _,λy f=>by simp at f;simp[f]⟩
 |cons y r j=>
  rw[U8];obtain⟨h1,e⟩:=j (min x y);refine⟨?_,λz a=>?_⟩
  .rcases W9.1 h1 with h1|h1
   .rw[h1];rcases Int.le_total x y with h|h
    .rw[Int.min_eq_left h];exact .head _
    .rw[Int.min_eq_right h];exact .tail _ (.head _)
   .exact .tail _ (.tail _ h1)
  .rcases W9.1 a with rfl|a
   .have:=e _ (.head _);omega
   .rcases W9.1 a with rfl|a
    .have:=e _ (.head _);omega
    .exact e _ (.tail _ a)
def oN (m:Λ) (i j:Nat):Prop:=∀ (p q:Nat) (x y:Int),p<q->q<=i->q≠j->m[p]? =σ x->m[q]? =σ y->x<=y
def qb (m:Λ) (i:Nat):Prop:=∀ (p q:Nat) (x y:Int),p<q->q<i->m[p]? =σ x->m[q]? =σ y->x<=y
theorem JX {m:Λ} {i:Nat} (h:qb m i):oN m i i:=λp q x y h1 f j a e=>h p q x y h1 Ω a e
theorem JY {m:Λ} {i:Nat} (h:oN m i 0):qb m (i+1):=λp q x y h1 f a e=>h p q x y h1 Ω Ω a e
theorem JZ {m:Λ} {i:Nat} {a b:Int} (h:oN m i j) (B:0<j) (r:m[j-1]? =σ a) (w:m[j]? =σ b) (z:a<=b):qb m (i+1):=by
 intro p q x y h1 C e f;by_cases s:q=j
 .subst s;rw[w] at f;cases f;by_cases A:p=q-1
  .subst A;rw[r] at e;cases e;exact z
  .have:=h p (q-1) x a Ω Ω Ω e r;omega
 .exact h p q x y h1 Ω s e f
theorem J0 {m:Λ} {i:Nat} {a b:Int} (h:oN m i j) (H:0<j) (hi:j<=i) (z:m[j-1]? =σ a) (A:m[j]? =σ b) (I:b<a):oN ((m.set j a).set (j-1) b) i (j-1):=by
 intro p q x y h1 w B e f;have C:=(x4.1 A).1;have E:∀ (r:Nat),((m.set j a).set (j-1) b)[r]? =if r=j-1 then σ b else if r=j then σ a else m[r]?:=λr=>by
  by_cases h:r=j-1
  .subst h;rw[c7 Θ,if_pos rfl]
  .rw[Y0 (Ne.symm h),if_neg h];by_cases h':r=j
   .subst h';rw[c7 C,if_pos rfl]
   .rw[Y0 (Ne.symm h'),if_neg h']
 rw[E] at e f;rw[if_neg B] at f;by_cases s:q=j
 .rw[if_pos s] at f;cases f;split at e
  .cases e;omega
  .split at e
   .omega
   .exact h p (j-1) x a Ω Ω Ω e z
 .rw[if_neg s] at f;split at e
  .cases e;have:=h j q b y;by_cases F:j<q
   .exact this F w s A f
   .omega
  .split at e
   .rename_i G;subst G;cases e;exact h (p-1) q a y Ω w s z f
   .exact h p q x y h1 w s e f
theorem swap_perm {m:Λ} {i:Nat} {a b:Int} (q:i<j) (h:m[i]? =σ a) (f:m[j]? =σ b):((m.set j a).set i b).Perm m:=by
 induction m generalizing i j with
 |nil=>simp at h
 |cons x m p=>
  cases j with
  |zero=>omega
  |succ j=>
   cases i with
   |zero=>
    simp at h f ⊢;subst h;obtain⟨r,f⟩:=x4.1 f;rw[show m=m.take j++m[j]::m.drop (j+1) by simp];rw[T2 _ _ Θ];have e:j-(m.take j).length=0:=Θ
    rw[e,f];simp only[List.set_cons_zero];refine (List.Perm.cons b (List.perm_middle)).trans ?_;refine (List.Perm.swap x b _).trans ?_;exact List.Perm.cons x List.perm_middle.symm
   |succ i=>
    simp at h f ⊢;exact p Ω h f
theorem J1 {m:Λ} (h:qb m m.length):m.Pairwise (·<= ·):=by
 rw[V3];intro i j hi a e;exact h i j _ _ e a (x6 hi) (x6 a)
def Good (o:Λ) (n:Nat):Prop:=o.length=n/\ ∀ (i:Nat) (p:Int),o[i]? =σ p->(0<=p/\p<n)/\ ∀j,j<i->o[j]? ≠σ p
theorem Good.inj {o:Λ} {i:Nat} {p:Int} (h:Good o n) (hi:o[i]? =σ p) (a:o[j]? =σ p):i=j:=by
 rcases Nat.lt_trichotomy i j with h1|h1|h1
 .exact absurd hi ((h.2 j p a).2 i h1)
 .exact h1
 .exact absurd a ((h.2 i p hi).2 j h1)
def AP (m:Λ):Prop:=∀i:Nat,i<m.length->m[i]? =σ (i:Int)
theorem AQ {o m:Λ} (h:Good o n) (a:m.Perm o) (U:m.Pairwise (·<= ·)):AP m:=by
 have s:o.Nodup:=V3.2 λi j hi w B he=>by
  have:=h.inj (i:=i) (j:=j) (p:=o[j]) (by rw[x6 hi,he]) (x6 w);omega
 have y:m.Nodup:=a.nodup_iff.2 s;have C:m.length=n:=by rw[a.length_eq,h.1]
 have q:∀x∈m,0<=x/\x<(n:Int):=λx J=>by
  obtain⟨i,hi,he⟩:=List.getElem_of_mem (a.mem_iff.1 J);exact (h.2 i x (by rw[x6 hi,he])).1
 have r:∀ (i:Nat) (hi:i+1<m.length),m[i]<m[i+1]:=λi hi=>by
  have h1:=V3.1 U i (i+1) Ω hi Ω;have e:=V3.1 y i (i+1) Ω hi Ω;omega
 have z:∀ (i:Nat) (hi:i<m.length),(i:Int)<=m[i]:=by
  intro i;induction i with
  |zero=>intro hi;exact (q _ (R8 hi)).1
  |succ i f=>
   intro hi;have h1:=f Ω;have e:=r i hi;omega
 have A:∀ (d i:Nat) (hi:i<m.length),i+d+1=m.length->m[i]<=(i:Int):=by
  intro d;induction d with
  |zero=>
   intro i hi he;have:=(q _ (R8 hi)).2;omega
  |succ d f=>
   intro i hi he;have h1:=f (i+1) Ω Ω;have e:=r i Ω;omega
 intro i hi;rw[x6 hi];have h1:=z i hi;have e:=A (m.length-i-1) i hi Ω;congr 1;omega
theorem J2 {o m:Λ} (h:AP m) (e:m.Perm o):Good o m.length:=by
 have s:m.Nodup:=V3.2 λi j hi a x he=>by
  have h1:=h i hi;have f:=h j a;rw[x6 hi] at h1;rw[x6 a] at f;have h1:=b6 h1;have f:=b6 f;omega
 have w:o.Nodup:=e.nodup_iff.1 s;refine⟨e.length_eq.symm,λi p hi=>⟨?_,λj a q=>?_⟩⟩
 .obtain⟨k,hk,he⟩:=List.getElem_of_mem (e.mem_iff.2 (x5 hi));have h1:=h k hk;rw[x6 hk,he] at h1;cases h1;omega
 .have r:i<o.length:=(x4.1 hi).1;have:=V3.1 w j i Ω r a;rw[x6 r] at hi;rw[x6 (show j<o.length by omega)] at q;exact this ((b6 q).trans (b6 hi).symm)
theorem Good.AR {o:Λ} {p:Nat} (h:Good o n) (f:p<n):∃j:Nat,o[j]? =σ (p:Int):=by
 let le:Int->Int->Bool:=λa b=>decide (a<=b);have h1:(o.mergeSort le).Perm o:=List.mergeSort_perm o le;have e:(o.mergeSort le).Pairwise (·<= ·):=by
  refine (List.pairwise_mergeSort (le:=le) (λa b c h1 e=>?_) (λa b=>?_) o).imp λh=>by simpa[le] using h
  .simp[le] at*;omega
  .simp[le];omega
 have m:=AQ h h1 e p (by rw[h1.length_eq,h.1];exact f);obtain⟨j,q,he⟩:=List.getElem_of_mem (h1.mem_iff.1 (x5 m));exact⟨j,by rw[x6 q,he]⟩
def lN (o x:Λ):Λ:=(X4 o.length).map λ(p:Nat)=>x.getD (o.idxOf (p:Int)) 0
theorem AS (o x:Λ):(lN o x).length=o.length:=by simp[lN]
theorem AT {o x:Λ} {p:Int} (h:Good o n) (J:x.length=n) (a:o[j]? =σ p):(lN o x)[p.toNat]? =x[j]?:=by
 have h1:=(h.2 j p a).1;have q:j<o.length:=(x4.1 a).1;have hm:p∈o:=x5 a;have e:=List.idxOf_lt_length_of_mem hm;have f:o.idxOf p=j:=h.inj (by rw[x6 e,List.getElem_idxOf e]) a;have m:((p.toNat:Nat):Int)=p:=Ω
 have r:=h.1;unfold lN;rw[x8,List.getElem?_range Ω];simp only[Z3,m,f];rw[v8,x6 (show j<x.length by omega)];rfl
theorem AU {o x y:Λ} (h:Good o n) (J:x.length=n) (q:y.length=n) (f:∀ (j:Nat) (p:Int),o[j]? =σ p->y[p.toNat]? =x[j]?):y=lN o x:=by
 refine Y3 λp=>?_;have r:=h.1;by_cases m:p<n
 .obtain⟨j,a⟩:=h.AR m;have h1:=f j p a;have e:=AT h J a;rw[u6] at h1 e;rw[h1,e]
 .rw[Z6 Ω,Z6 (by rw[AS];omega)]
theorem nv:∀ {s t:Λ},dh s t↔s.length=t.length/\ ∀ (i:Nat) (a v:Int),s[i]? =σ a->t[i]? =σ v->0<=v/\v<a
 |[],t=>by
  rw[AN];exact⟨λh=>⟨by rw[h],λi a v h _=>by simp at h⟩,λh=>j5 h.1.symm⟩
 |k::s,[]=>⟨λh=>absurd (r7 h) Ξ,λh=>absurd h.1 Ξ⟩
 |k::s,v::t=>by
  rw[AM,nv (s:=s) (t:=t)];refine⟨λ⟨h1,f,j⟩=>⟨by simp[f],λi a u e hu=>?_⟩,λ⟨h1,f⟩=>⟨f 0 k v rfl rfl,by simpa using h1,λi a u e hu=>f (i+1) a u (by simpa using e) (by simpa using hu)⟩⟩;cases i with
  |zero=>simp at e hu;subst e;subst hu;exact h1
  |succ i=>exact j i a u (by simpa using e) (by simpa using hu)
def ei (s o:Λ):Λ:=o.map λp=>s.getD p.toNat 0
theorem sb (s o:Λ):(ei s o).length=o.length:=by simp[ei]
theorem AV {s o:Λ} {p:Int} (h:Good o n) (U:s.length=n) (a:o[j]? =σ p):(ei s o)[j]? =s[p.toNat]?:=by
 have h1:=(h.2 j p a).1;unfold ei;rw[x8,a,Z3,v8,x6 (show p.toNat<s.length by omega)];rfl
theorem J3 {s o:Λ} (h:Good o n) (U:s.length=n) {x:Int} (J:x∈ei s o):x∈s:=by
 obtain⟨p,a,rfl⟩:=l9.1 J;obtain⟨j,e,he⟩:=List.getElem_of_mem a;have h1:=(h.2 j p (by rw[x6 e,he])).1;rw[v8,x6 (show p.toNat<s.length by omega)];exact R8 _
theorem b1.J4 {s o:Λ} (a:b1 s) (h:Good o n) (U:s.length=n):b1 (ei s o):=
 ⟨by rw[sb,h.1,<-U];exact a.1,λx J=>a.2 x (J3 h U J)⟩
theorem J5 {s o x:Λ} (h:Good o n) (U:s.length=n) (J:dh (ei s o) x):dh s (lN o x):=by
 obtain⟨h1,r⟩:=nv.1 J;rw[sb,h.1] at h1;refine nv.2 ⟨by rw[AS,h.1,U],λp a v e ad=>?_⟩;have w:p<n:=by have:=(x4.1 e).1;omega
 obtain⟨j,f⟩:=h.AR w;have m:=AV h U f;have q:=AT h h1.symm f;rw[u6] at m q;exact r j a v (by rw[m,e]) (by rw[<-q,ad])
def nw (s cs o:Λ):Λ:=(X4 (aN (ei s o)).toNat).map λ(q:Nat)=>bj s cs (lN o (cS (ei s o) q))
theorem AW (s cs o:Λ):(nw s cs o).length=(aN (ei s o)).toNat:=by simp[nw]
theorem vj {f:Int->Bool} {x:Int}:runN f (x::l)=if f x=true then runN f l+1 else 0:=by
 unfold runN;rw[List.takeWhile_cons];by_cases h:f x=true
 .rw[if_pos h,if_pos h,c9]
 .rw[if_neg h,if_neg h];rfl
theorem vk (f:Int->Bool):∀l:Λ,l.dropWhile f=l.drop (runN f l)
 |[]=>rfl
 |x::l=>by
  rw[List.dropWhile_cons,vj];by_cases h:f x=true
  .rw[if_pos h,if_pos h,vk f l];rfl
  .rw[if_neg h,if_neg h];rfl
theorem AX (f:Int->Bool):∀l:Λ,l.takeWhile f=l.take (runN f l)
 |[]=>rfl
 |x::l=>by
  rw[List.takeWhile_cons,vj];by_cases h:f x=true
  .rw[if_pos h,if_pos h,List.take_succ_cons,AX f l]
  .rw[if_neg h,if_neg h];rfl
theorem AY {f:Int->Bool}:∀ {l:Λ} {b:Int} {q:Λ},l.dropWhile f=b::q->f b=false
 |x::l,b,q,h=>by
  rw[List.dropWhile_cons] at h;by_cases J:f x=true
  .rw[if_pos J] at h;exact AY h
  .rw[if_neg J] at h;have:=(List.cons.inj h).1;subst this;cases af:f x
   .rfl
   .exact absurd af J
theorem vl {p:Λ} {b:Int} {q:Λ} (h:p.drop a=b::q):p[a]? =σ b:=by
 have:=List.getElem?_drop (xs:=p) (i:=a) (j:=0);rw[h] at this;simpa using this.symm
theorem J6 (p:Λ) (at_:Nat):match oG p at_ with
  | .word a b=>lex (p.drop at_)=(((p.take b).drop a)::(lex (p.drop b)).1,(lex (p.drop b)).2)
  | .none=>lex (p.drop at_)=([],true)
  | .text _=>lex (p.drop at_)=([],false):=by
 have h:(p.drop at_).dropWhile cA=p.drop (gj p at_):=by rw[vk,List.drop_drop];rfl
 have j:(p.drop (gj p at_)).dropWhile bK=p.drop (iA p (gj p at_)):=by rw[vk,List.drop_drop];rfl
 have s:(p.drop (gj p at_)).takeWhile bK=(p.take (iA p (gj p at_))).drop (gj p at_):=by
  rw[AX,List.drop_take];congr 1;unfold iA;omega
 have f:runN bK (p.drop (gj p at_))=iA p (gj p at_)-gj p at_:=by unfold iA;omega
 have H:gj p at_<=iA p (gj p at_):=by unfold iA;omega
 unfold oG;generalize gj p at_=a at*;generalize iA p a=b at*;by_cases h1:b<p.length/\(∀c,p[b]? =σ c->cA c=false)
 .rw[if_pos h1];simp only;rw[ke,h];cases e:p.drop a with
  |nil=>
   have:=List.drop_eq_nil_iff.1 e;omega
  |cons x q=>
   simp only;rw[e] at j s f;by_cases J:bK x=true
   .rw[if_pos J,j];cases m:p.drop b with
    |nil=>have:=List.drop_eq_nil_iff.1 m;omega
    |cons c r=>
     simp only;rw[h1.2 c (vl m)];rfl
   .rw[if_neg J]
 .rw[if_neg h1];by_cases w:a=b
  .rw[if_pos w];simp only;subst w;rw[ke,h];cases e:p.drop a with
   |nil=>rfl
   |cons x q=>
    exfalso;have y:=vl e;have C:=(x4.1 y).1;rw[e] at f;rw[e] at h;have E:=AY h;refine h1 ⟨C,λc z=>?_⟩;rw[y] at z;cases z;exact E
  .rw[if_neg w];simp only;rw[ke (p.drop at_),h];cases e:p.drop a with
   |nil=>
    rw[e] at f;have:runN bK []=0:=rfl;omega
   |cons x q=>
    simp only;rw[e] at j s f;have J:bK x=true:=by
     rw[vj] at f;by_cases J:bK x=true
     .exact J
     .rw[if_neg J] at f;omega
    rw[if_pos J,j,s];cases m:p.drop b with
    |nil=>simp only;rw[ke []];rfl
    |cons c r=>
     simp only;have A:=vl m;have F:=(x4.1 A).1;have G:cA c=true:=by
      cases U:cA c with
      |true=>rfl
      |false=>exact absurd ⟨F,λd B=>by rw[A] at B;cases B;exact U⟩ h1
     rw[if_pos G]
def ho (w:x3) (g:Nat) (R:Nat->Prop) (toks:List (Λ)) (clean:Bool):Prop:=∃a p at_,lK w g a p at_ (-1)/\(∀r,leads a r->R r)/\lex (p.drop at_)=(toks,clean)
theorem ho.ab {g:Nat} {R:Nat->Prop} {toks:List (Λ)} (h:ho w g R toks clean) (J:ah S w w') (f:¬S g) (j:∀r,R r->¬S r):ho w' g R toks clean:=by
 obtain⟨m,p,a,⟨h1,q,s,x,bn,y⟩,e,z⟩:=h;exact⟨m,p,a,⟨h1,q,s,x.ab J f,bn,br y J λr A=>j r (e r A)⟩,e,z⟩
theorem ho.words {g:Nat} {R:Nat->Prop} {toks:List (Λ)} (h:ho w g R toks clean):toks.length<=100000/\ ∀t∈toks,Bytes t/\t≠[]/\t.length<=100000:=by
 obtain⟨r,p,a,⟨s,x,y,_⟩,_,f⟩:=h;have z:(p.drop a).length<=100000:=by rw[List.length_drop];omega
 have e:=pV _ (p.drop a) (p8 _);rw[f] at e;refine⟨by show toks.length<=_;have e:toks.length<=_:=e;omega,λt m=>?_⟩;have j:=rZ _ (p.drop a) (p8 _) t (by rw[f];exact m);refine⟨λb q=>?_,j.1,Ω⟩;have:=of_decide_eq_true (j.2.1 b q);omega
def J7 (w:x3) (g:Nat) (R:Nat->Prop) (toks:List (Λ)) (clean:Bool) (v:x1) (w':x3):Prop:=ah (λr=>r=g) w w'/\match toks with
 |t::l=>ho w' g R l clean/\ ∃n:Int,v= .tuple #[bP t,Δ n,Δ 0]
 |[]=>∃n:Int,v= .tuple #[bP [],Δ n,Δ (if clean then 2 else 11)]
theorem qc {g:Nat} {R:Nat->Prop} {toks:List (Λ)} (h:ho w g R toks clean):am x7 uB [Γ g] w (J7 w g R toks clean):=by
 obtain⟨s,p,a,h1,z,m⟩:=h;refine (JE h1).mono ?_;intro v w' _ hw;have e:=J6 p a;unfold p1 at hw;cases q:oG p a with
 |word x y=>
  rw[q] at hw e;simp only at hw e;rw[m] at e;obtain⟨rfl,r,U⟩:=hw;obtain⟨f,j⟩:=Prod.mk.inj e;subst f j;exact⟨r,⟨s,p,y,U,z,rfl⟩,_,rfl⟩
 |none=>
  rw[q] at hw e;simp only at hw e;rw[m] at e;obtain⟨f,j⟩:=Prod.mk.inj e;subst f j;obtain⟨n,rfl,J⟩:=hw;exact⟨J.ab _,_,rfl⟩
 |text b=>
  rw[q] at hw e;simp only at hw e;rw[m] at e;obtain⟨f,j⟩:=Prod.mk.inj e;subst f j;obtain⟨rfl,r,_⟩:=hw;exact⟨r,_,rfl⟩
def kh (w:Λ):x1:=match gh w with
 |some n=>.tuple #[Δ n,Δ 0]
 |none=>.tuple #[Δ 0,Δ 4]
theorem AZ {i:Nat} {b:Int} (hi:l[i]? =σ b):(l.take (i+1)).all gg=((l.take i).all gg&&gg b):=by
 rw[u9,hi,List.all_append];simp
theorem A0 {i:Nat} {b:Int} (hi:l[i]? =σ b):(l.take (i+1)).foldl eY 0=eY ((l.take i).foldl eY 0) b:=by
 rw[u9,hi,S1];rfl
theorem A1 (a:l≠[]) (h:l.all gg=true):kf l=σ (l.foldl eY 0):=by
 unfold kf;cases l with
 |nil=>exact absurd rfl a
 |cons x l=>simp only[h,if_true]
theorem A2 {i:Nat} {b:Int} (hi:l[i]? =σ b) (a:gg b=false):kf l=ν:=by
 unfold kf;cases l with
 |nil=>simp at hi
 |cons x l=>
  simp only;rw[if_neg];intro h;have:=List.all_eq_true.1 h b (x5 hi);rw[a] at this;cases this
def oO (w l:Λ) (s:Int):Prop:=(s=1\/s= -1)/\gh w=(kf l).map λn=>s*n
theorem A3:oO (45::l) l (-1):=⟨.inr rfl,by simp only[gh];congr 1;funext n;omega⟩
theorem A4 {w:Λ} (h:∀b,w[0]? =σ b->b≠45):oO w w 1:=⟨.inl rfl,by
 have e:gh w=kf w:=by
  unfold gh;cases w with
  |nil=>rfl
  |cons x l=>
   have:=h x rfl;split
   .rename_i l' he;exact absurd (List.cons.inj he).1 this
   .rfl
 rw[e];cases kf w with
 |none=>rfl
 |some n=>simp⟩
theorem sd {w:Λ} {s:Int} (h:oO w l s) (a:kf l=ν):kh w= .tuple #[Δ 0,Δ 4]:=by
 unfold kh;rw[h.2,a];rfl
theorem A5 {w:Λ} {s n:Int} (h:oO w l s) (a:kf l=σ n):kh w= .tuple #[Δ (s*n),Δ 0]:=by
 unfold kh;rw[h.2,a];rfl
theorem J8 (B:Bytes l) (K:l.length<=100000):am x7 Hi [bP l] w λv w'=>v=kh l/\Ext w w':=by
 refine az func137 ?_;rw[Jn];refine gO (λQ R V=>Ext w V/\ ∃ (m:Λ) (s:Int),Q=bP m/\R=Δ s/\Bytes m/\m.length<=100000/\oO l m s) ?_ ?_
 .rintro _ _ V ⟨H,m,s,rfl,rfl,I,ae,C⟩;rw[Ag I (λb a=>by cases a),al];refine⟨λe=>⟨by rw[sd C (by rw[e];rfl)],H⟩,λe=>?_⟩;refine u2 cZ.u cN.u cJ.u I Ω λbv aa L M _=>?_;rw[aW cN.u M];refine rm.range m.length (λi _ _ c E=>Ext aa E/\c=Δ ((m.take i).foldl eY 0)/\(m.take i).all gg=true) Ω ⟨Ext.refl _,rfl,rfl⟩ ?_ ?_
  .rintro i S t3 _ E U hi ⟨f,rfl,j⟩ W;obtain⟨b,q⟩:=aH (l:=m) hi;have ag:=I b (x5 q);refine bH Ω ?_;refine Jo (λ_ _ c G=>Ext aa G/\c=Δ ((m.take (i+1)).foldl eY 0)/\(m.take (i+1)).all gg=true) ?_ ?_
   .rintro ah ai c G X;rw[aP];exact W _ _ _ _ X
   intro aA p;rw[bc cN.u cJ.i Ψ (M.ext f) q];refine aV (λv G=>E=G/\v= .bool (!gg b)) ?_ ?_
   rotate_left
   .intro Y z;rw[aO,al];refine⟨λh=>z _ _ ⟨rfl,by unfold gg;rw[decide_eq_false Ω];rfl⟩,λh=>?_⟩;rw[bU];refine z _ _ ⟨rfl,?_⟩;unfold gg;congr 1;by_cases N:57<b
    .rw[decide_eq_true N,decide_eq_false Ω];rfl
    .rw[decide_eq_false N,decide_eq_true Ω];rfl
   rintro _ _ ⟨rfl,rfl⟩;cases J:gg b with
   |false=>
    rw[X9,bQ];exact⟨by rw[sd C (A2 q J)],(H.trans L).trans f⟩
   |true=>
    rw[Y6,a1];have aj:=of_decide_eq_true J;have A:=r0 (l:=m.take i) (n:=0) j ⟨Int.le_refl _,Φ⟩;rw[A0 q,AZ q,j,J] at p;generalize (m.take i).foldl eY 0=n at*;have A:0<=n/\n<=4611686018427387904:=A;rw[dF,wrap_u8 Ω Ω,fd cJ.u ap.u,wrap_i64 (x:=b-48) Ω Ω,dF,wrap_i64 Ω Ω,rQ Φ,Int.tdiv_eq_ediv_of_nonneg Ω];rw[wrap_i64 Ω Ω,bU,al];refine⟨λZ=>p _ _ _ _ ⟨f,?_,rfl⟩,λZ=>?_⟩
    .congr 1;unfold eY aw;omega
    .rw[hI,wrap_i64 Ω Ω,aP,wrap_i64 Ω Ω];refine p _ _ _ _ ⟨f,?_,rfl⟩;congr 1;unfold eY aw;omega
  .rintro S t3 _ E U ⟨f,rfl,j⟩;rw[p9] at j ⊢;refine cp Ω ?_;have A:=r0 (l:=m) (n:=0) j ⟨Int.le_refl _,Φ⟩;have A:0<=m.foldl eY 0/\m.foldl eY 0<=4611686018427387904:=A;rw[hI];have hw:X2.wrap (s*m.foldl eY 0)=s*m.foldl eY 0:=by
    rcases C.1 with rfl|rfl<;>exact wrap_i64 Ω Ω
   rw[hw];exact⟨by rw[A5 C (A1 e j)],(H.trans L).trans f⟩
 .intro aA p;refine aV (λv aa=>w=aa/\ ∃c:Bool,v= .bool c/\(c=true↔l[0]? =σ 45)) ?_ ?_
  .rintro _ _ ⟨rfl,c,rfl,O⟩;rw[ce];refine⟨λab=>?_,λaf=>?_⟩
   .intro ak ac _ _;have P:=O.1 ab;cases l with
    |nil=>simp at P
    |cons x r=>
     have ad:x=45:=by simpa using P
     subst ad;rw[Ah (y:=1) (i:=1) rfl cZ.u Ξ];exact p _ _ _ ⟨ac,r,-1,rfl,rfl,λb a=>B b (.tail _ a),by simp at K;omega,A3⟩
   .refine p _ _ _ ⟨Ext.refl _,l,1,rfl,rfl,B,K,A4 λb a he=>?_⟩;subst he;rw[O.2 a] at af;cases af
  .intro Y z;rw[Js B (λb a=>by cases a),al];refine⟨λe=>?_,λe=>z _ _ ⟨rfl,false,rfl,⟨λh=>(by cases h),λh=>by rw[Z9.1 e] at h;simp at h⟩⟩⟩;cases l with
   |nil=>exact absurd rfl e
   |cons x r=>
    rw[pY (y:=0) (i:=0) (b:=x) rfl cZ.u B rfl,bg];exact z _ _ ⟨rfl,_,rfl,Ξ⟩
theorem se {s s':aE} {w:Λ} (h:dN s=σ (w,s')):s.toks=w::s'.toks/\s'={s with toks:=s'.toks}:=by
 unfold dN at h;cases a:s.toks with
 |nil=>rw[a] at h;cases h
 |cons x l=>
  rw[a] at h;simp only[Y8,T9] at h;obtain⟨rfl,rfl⟩:=h;exact⟨rfl,rfl⟩
theorem hQ {n:Int} {s s':aE} (h:bh lo hi s=σ (n,s')):(lo<=n/\n<=hi)/\(∃w,s.toks=w::s'.toks/\gh w=σ n)/\s'={s with toks:=s'.toks}:=by
 unfold bh at h;cases hw:dN s with
 |none=>rw[hw] at h;cases h
 |some q=>
  obtain⟨w,j⟩:=q;rw[hw] at h;simp only at h;obtain⟨h1,e⟩:=se hw;cases a:gh w with
  |none=>rw[a] at h;cases h
  |some m=>
   rw[a] at h;simp only at h;split at h
   .rename_i f;simp only[Y8,T9] at h;obtain⟨rfl,rfl⟩:=h;exact⟨f,⟨w,h1,a⟩,e⟩
   .cases h
def h6 (k:Nat) (s s':aE):Prop:=s.toks.length=s'.toks.length+k/\s'={s with toks:=s'.toks}
theorem h6.refl (s:aE):h6 0 s s:=⟨rfl,rfl⟩
theorem h6.trans {b:Nat} {r s t:aE} (h:h6 a r s) (k:h6 b s t):h6 (a+b) r t:=⟨by have:=h.1;have:=k.1;omega,by rw[k.2,h.2]⟩
theorem dC {n:Int} {s s':aE} (h:bh lo hi s=σ (n,s')):h6 1 s s':=by
 obtain⟨_,⟨w,h1,_⟩,a⟩:=hQ h;exact⟨by rw[h1];simp,a⟩
theorem h6.eqs {k:Nat} {s s':aE} (h:h6 k s s'):s'.told=s.told/\s'.big=s.big/\s'.shared=s.shared:=by rw[h.2];exact⟨rfl,rfl,rfl⟩
theorem ki {α:Type} {f:List α->aE->Option (α×aE)} (I:List α->aE->Prop) (af:∀acc s a s',I acc s->f acc s=σ (a,s')->I (acc++[a]) s'):
  ∀ (n:Nat) (acc:List α) (s:aE) (l:List α) (s':aE),I acc s->cO f n acc s=σ (l,s')->I l s'/\l.length=acc.length+n
 |0,acc,s,l,s',e,h=>by
  simp only[cO,Y8,T9] at h;obtain⟨rfl,rfl⟩:=h;exact⟨e,Ω⟩
 |n+1,acc,s,l,s',e,h=>by
  simp only[cO] at h;cases j:f acc s with
  |none=>rw[j] at h;cases h
  |some q=>
   obtain⟨a,m⟩:=q;rw[j] at h;have:=ki I af n _ _ _ _ (af _ _ _ _ e j) h;exact⟨this.1,by rw[this.2];simp;omega⟩
theorem vm {n:Int} {k:Nat} {s s':aE} (h:eZ n k s=σ (l,s')):h6 l.length s s'/\l.length=k/\l.Nodup/\ ∀v∈l,0<=v/\v<n:=by
 have:=ki (λacc t=>h6 acc.length s t/\acc.Nodup/\ ∀v∈acc,0<=v/\v<n) (λacc t a bu ⟨h1,j,m⟩ h=>by
  cases e:bh 0 (n-1) t with
  |none=>rw[e] at h;cases h
  |some q=>
   obtain⟨v,r⟩:=q;rw[e] at h;simp only at h;split at h
   .cases h
   .rename_i p;simp only[Y8,T9] at h;obtain⟨rfl,rfl⟩:=h;have w:=(hQ e).1;refine⟨by rw[o4];exact h1.trans (dC e),List.nodup_append.2 ⟨j,Ξ,λx J y f he=>?_⟩,λx J=>?_⟩
    .rw[o8] at f;subst f;subst he;exact p J
    .rcases o7.1 J with J|J
     .exact m x J
     .rw[o8.1 J];omega) k [] s l s' ⟨h6.refl s,List.nodup_nil,λv ad=>by cases ad⟩ h
 exact⟨this.1.1,by simpa using this.2,this.1.2.1,this.1.2.2⟩
theorem vn:∀ {ks acc:Λ} {s s':aE} {t:Λ},iy ks acc s=σ (t,s')-> ∃u,t=acc++u/\dh ks u/\h6 u.length s s'
 |[],acc,s,s',t,h=>by
  simp only[iy,Y8,T9] at h;obtain⟨rfl,rfl⟩:=h;exact⟨[],Ξ,AN.2 rfl,h6.refl s⟩
 |k::ks,acc,s,s',t,h=>by
  simp only[iy] at h;cases a:bh 0 (k-1) s with
  |none=>rw[a] at h;cases h
  |some q=>
   obtain⟨v,f⟩:=q;rw[a] at h;obtain⟨u,rfl,hu,e⟩:=vn h;have j:=(hQ a).1;exact⟨v::u,Ξ,AM.2 ⟨Ω,hu⟩,by rw[c9,Nat.add_comm];exact (dC a).trans e⟩
def mo (sizes:Λ) (l:List (Λ×Int)):Prop:=(l.map (·.1)).Nodup/\ ∀p∈l,dh sizes p.1/\0<=p.2
theorem oP {acc:List (Λ×Int)} {s s':aE} {a:Λ×Int} (h:dO sizes acc s=σ (a,s')):a.1∉acc.map (·.1)/\dh sizes a.1/\0<=a.2/\h6 (a.1.length+1) s s':=by
 unfold dO at h;cases f:iy sizes [] s with
 |none=>rw[f] at h;cases h
 |some q=>
  obtain⟨t,j⟩:=q;rw[f] at h;simp only at h;obtain⟨u,hu,ad,m⟩:=vn f;rw[List.nil_append] at hu;subst hu;cases e:bh 0 aw j with
  |none=>rw[e] at h;cases h
  |some q=>
   obtain⟨c,r⟩:=q;rw[e] at h;simp only at h;split at h
   .cases h
   .rename_i p;simp only[Y8,T9] at h;obtain⟨rfl,rfl⟩:=h;exact⟨p,ad,(hQ e).1.1,m.trans (dC e)⟩
structure A6 (s s':aE):Prop where
 toks:s'.toks.length<s.toks.length
 big:s.big=true->s'.big=true
theorem J9 {s s':aE} {l:List (Λ×Int)} (B:∀q∈s.shared,mo q.1 q.2/\q.2.length<=N) (M:s.toks.length<=N) (h:dP sizes s=σ (l,s')):
  mo sizes l/\l.length<=N/\s'.shared=s.shared/\A6 s s':=by
 unfold dP at h;cases m:bh (-aw) aw s with
 |none=>rw[m] at h;cases h
 |some q=>
  obtain⟨n,f⟩:=q;rw[m] at h;simp only at h;have h1:=dC m;obtain⟨O,C,r⟩:=h1.eqs;split at h
  .cases U:f.shared[(-n-1).toNat]? with
   |none=>rw[U] at h;cases h
   |some q=>
    obtain⟨z,l'⟩:=q;rw[U] at h;simp only at h;split at h
    .rename_i G;simp only[Y8,T9] at h;obtain⟨rfl,rfl⟩:=h;subst G;have hm:=x5 U;rw[r] at hm;exact⟨(B _ hm).1,(B _ hm).2,r,by have:=h1.1;omega,λj=>by rw[C];exact j⟩
    .cases h
  .have:=ki (λacc t=>mo sizes acc/\t.shared=s.shared/\t.toks.length+acc.length<=f.toks.length/\(s.big=true->t.big=true)) (λacc t a bu ⟨g1,w,H,A⟩ g=>by
    obtain⟨I,K,L,E⟩:=oP g;obtain⟨f1,f2,f3⟩:=E.eqs;refine⟨⟨?_,λp e=>?_⟩,by rw[f3,w],by have:=E.1;simp only[o4,S9];omega,λj=>by rw[f2];exact A j⟩
    .rw[Z0];exact List.nodup_append.2 ⟨g1.1,Ξ,λx J y F he=>by
      simp only[U7,List.map_nil,o8] at F;subst F;subst he;exact I J⟩
    .rcases o7.1 e with e|e
     .exact g1.2 p e
     .rw[o8.1 e];exact⟨K,L⟩) n.toNat [] (bd (decide (16384<min (f.told+n) aw)) {f with told:=min (f.told+n) aw}) l s' ⟨⟨Ξ,λp e=>by cases e⟩,r,by simp[bd],λj=>by simp[bd,C,j]⟩ h
   obtain⟨⟨g1,w,H,A⟩,_⟩:=this;have:=h1.1;exact⟨g1,Ω,w,⟨Ω,A⟩⟩
structure sf (all:Λ) (N:Nat) (f:cw):Prop where
 scope:f.scope.Nodup/\ ∀v∈f.scope,0<=v/\v<all.length
 sizes:f.sizes=f.scope.map λv=>all.getD v.toNat 0
 other:0<=f.other
 lines:mo f.sizes f.lines
 len:f.lines.length<=N
theorem Ka {all:Λ} {s s':aE} {f:cw} (A:∀q∈s.shared,mo q.1 q.2/\q.2.length<=N) (V:s.toks.length<=N) (h:c6 all s=σ (f,s')):
  sf all N f/\(∀q∈s'.shared,mo q.1 q.2/\q.2.length<=N)/\A6 s s'/\(s'.big=false->f.scope.length<=6/\dq f.sizes=false):=by
 unfold c6 at h;cases B:bh (-aw) aw s with
 |none=>rw[B] at h;cases h
 |some q=>
 obtain⟨a,L⟩:=q;rw[B] at h;simp only at h;have t0:=dC B;obtain⟨W,M,O⟩:=t0.eqs;cases h1:eZ all.length a.natAbs L with
 |none=>rw[h1] at h;cases h
 |some q=>
 obtain⟨sc,r⟩:=q;rw[h1] at h;simp only at h;obtain⟨E,X,P,Q⟩:=vm h1;obtain⟨Y,R,S⟩:=E.eqs;generalize T:sc.map (λv=>all.getD v.toNat 0)=sizes at h;cases x:bh 0 aw (bd (decide (6<a.natAbs)||dq sizes) r) with
 |none=>rw[x] at h;cases h
 |some q=>
 obtain⟨other,m⟩:=q;rw[x] at h;simp only at h;have F:=dC x;obtain⟨Z,y,w⟩:=F.eqs;have w:m.shared=s.shared:=by rw[w];show r.shared=_;rw[S,O]
 have aa:m.toks.length<s.toks.length:=by
  have:=t0.1;have:=E.1;have z:=F.1;have:(bd (decide (6<a.natAbs)||dq sizes) r).toks.length=r.toks.length:=rfl;omega
 cases z:dP sizes m with
 |none=>rw[z] at h;cases h
 |some q=>
 obtain⟨lines,j⟩:=q;rw[z] at h;simp only[Y8,T9] at h;obtain⟨rfl,rfl⟩:=h;obtain⟨g1,G,H,I⟩:=J9 (N:=N) (by rw[w];exact A) Ω z;have U:=I.big;have gt:=I.toks;have J:m.big=true-> ∀C:aE,C=(if a<0 then {j with shared:=j.shared++[(sizes,lines)]} else j)->C.big=true:=λp C he=>by
  rw[he];split<;>exact U p
 have y:m.big=(s.big||(decide (6<a.natAbs)||dq sizes)):=by
  rw[y];show (r.big||_)=_;rw[R,M]
 refine⟨⟨⟨P,Q⟩,T.symm,(hQ x).1.1,g1,G⟩,λq e=>?_,⟨?_,λp=>J (by rw[y,p];rfl) _ rfl⟩,λp=>?_⟩
 .split at e
  .rcases o7.1 e with e|e
   .rw[show j.shared=s.shared by rw[H,w]] at e;exact A q e
   .rw[o8.1 e];exact⟨g1,G⟩
  .rw[show j.shared=s.shared by rw[H,w]] at e;exact A q e
 .have:(if a<0 then {j with shared:=j.shared++[(sizes,lines)]} else j).toks=j.toks:=by split<;>rfl
  rw[this];omega
 .have K:m.big=false:=by
   cases e:m.big with
   |false=>rfl
   |true=>rw[J e _ rfl] at p;cases p
  rw[y,S3,S3,decide_eq_false_iff_not] at K;show sc.length<=6/\_;exact⟨Ω,K.2.2⟩
structure e6 (N:Nat) (f:b2):Prop where
 name:f.name.length<=64
 k:1<=f.k/\f.k<=2147483648
 sizes:1<=f.sizes.length/\f.sizes.length<=64/\ ∀z∈f.sizes,1<=z/\z<=32
 kS:f.funs.length<=256
 funs:∀x∈f.funs,sf f.sizes N x/\x.scope.length<=6/\dq x.sizes=false
theorem qd {b:Bool} {s:aE} (h:(bd b s).big=false):s.big=false/\b=false:=by
 have h:(s.big||b)=false:=h;exact S3.1 h
theorem Kb {a b:aE} (h:a.big=true->b.big=true) (e:b.big=false):a.big=false:=by
 cases f:a.big with
 |false=>rfl
 |true=>rw[h f] at e;cases e
theorem A7 {s s':aE} {f:b2} (U:s.shared=[]) (h:hN s=σ (f,s')) (e:s'.big=false):e6 s.toks.length f/\f.name∈s.toks:=by
 unfold hN at h;cases I:dN s with
 |none=>rw[I] at h;cases h
 |some q=>
 obtain⟨name,s0⟩:=q;rw[I] at h;simp only at h;obtain⟨V,aa⟩:=se I;cases h1:bh 1 aw (bd (decide (64<name.length)) s0) with
 |none=>rw[h1] at h;cases h
 |some q=>
 obtain⟨n,B⟩:=q;rw[h1] at h;simp only at h;have m:=dC h1;cases K:bh 1 aw (bd (decide (64<n)) B) with
 |none=>rw[K] at h;cases h
 |some q=>
 obtain⟨most,Y⟩:=q;rw[K] at h;simp only at h;have L:=dC K;cases M:bh 0 aw Y with
 |none=>rw[M] at h;cases h
 |some q=>
 obtain⟨C,E⟩:=q;rw[M] at h;simp only at h;have t3:=dC M;cases F:bh 1 aw (bd (decide (256<C)) E) with
 |none=>rw[F] at h;cases h
 |some q=>
 obtain⟨k,r⟩:=q;rw[F] at h;simp only at h;have t4:=dC F;cases N:cO (fR most) n.toNat [] (bd (decide (2147483648<k)) r) with
 |none=>rw[N] at h;cases h
 |some q=>
 obtain⟨sizes,G⟩:=q;rw[N] at h;simp only at h;cases O:cO (λ_ s=>c6 sizes s) C.toNat [] G with
 |none=>rw[O] at h;cases h
 |some q=>
 obtain⟨funs,Z⟩:=q;rw[O] at h;simp only[Y8,T9] at h;obtain⟨rfl,rfl⟩:=h;have ab:=ki (λ(acc:Λ) t=>t.shared=[]/\t.toks.length<=s.toks.length/\(t.big=false->r.big=false/\k<=2147483648/\ ∀z∈acc,1<=z/\z<=32)) (λacc t a bu ⟨g1,S,P⟩ g=>by
  unfold fR at g;cases p:bh 1 most t with
  |none=>rw[p] at g;cases g
  |some q=>
   obtain⟨z,m⟩:=q;rw[p] at g;simp only[Y8,T9] at g;obtain⟨rfl,rfl⟩:=g;have T:=dC p;obtain⟨aA,ac,ad⟩:=T.eqs;have aB:=(hQ p).1;refine⟨by show m.shared=[];rw[ad,g1],by show m.toks.length<=_;have:=T.1;omega,λe=>?_⟩;obtain⟨j,w⟩:=qd e;rw[ac] at j;obtain⟨Q,R,ae⟩:=P j;refine⟨Q,R,λy A=>?_⟩;rcases o7.1 A with A|A
   .exact ae y A
   .rw[o8.1 A];have:=of_decide_eq_false w;omega) n.toNat [] (bd (decide (2147483648<k)) r) sizes G ⟨by
     show r.shared=[];rw[t4.eqs.2.2];show E.shared=[];rw[t3.eqs.2.2,L.eqs.2.2];show B.shared=[];rw[m.eqs.2.2];show s0.shared=[];rw[aa];exact U,by
     show r.toks.length<=_;have af:=m.1;have ag:=L.1;have a3:=t3.1;have a4:=t4.1;have j:(bd (decide (64<name.length)) s0).toks=s0.toks:=rfl;have w:(bd (decide (64<n)) B).toks=B.toks:=rfl;have H:(bd (decide (256<C)) E).toks=E.toks:=rfl;rw[j] at af;rw[w] at ag;rw[H] at a4;rw[V,c9];omega,λe=>by
     obtain⟨j,w⟩:=qd e;have:=of_decide_eq_false w;exact⟨j,Ω,λz ah=>by cases ah⟩⟩ N
 obtain⟨⟨ai,aj,ak⟩,al⟩:=ab;have am:=ki (λ(acc:List cw) t=>(∀q∈t.shared,mo q.1 q.2/\q.2.length<=s.toks.length)/\t.toks.length<=s.toks.length/\(t.big=false->G.big=false/\ ∀x∈acc,sf sizes s.toks.length x/\x.scope.length<=6/\dq x.sizes=false)) (λacc t a bu ⟨g1,S,P⟩ g=>by
  obtain⟨an,ao,W,ap⟩:=Ka g1 S g;refine⟨ao,by have:=W.toks;omega,λe=>?_⟩;obtain⟨Q,R⟩:=P (Kb W.big e);refine⟨Q,λx J=>?_⟩;rcases o7.1 J with J|J
  .exact R x J
  .rw[o8.1 J];exact⟨an,ap e⟩) C.toNat [] G funs Z ⟨(by rw[ai];intro q p;cases p),aj,λe=>⟨e,λx J=>by cases J⟩⟩ O
 obtain⟨⟨_,_,d3⟩,d4⟩:=am;obtain⟨aq,d5⟩:=d3 e;obtain⟨H,au,av⟩:=ak aq;rw[t4.eqs.2.1] at H;obtain⟨X,ax⟩:=qd H;rw[t3.eqs.2.1,L.eqs.2.1] at X;obtain⟨j,ay⟩:=qd X;rw[m.eqs.2.1] at j;obtain⟨_,az⟩:=qd j;have:=of_decide_eq_false ax;have:=of_decide_eq_false ay;have:=of_decide_eq_false az;have aC:=(hQ h1).1;have hk:=(hQ F).1;simp only[List.length_nil,X0] at al d4;exact⟨⟨by show name.length<=64;omega,⟨hk.1,au⟩,⟨by show 1<=sizes.length;omega,by show sizes.length<=64;omega,av⟩,by show funs.length<=256;omega,d5⟩,by rw[V];exact .head _⟩
def jB (x:cw) (k:Int) (t:Λ):Int:=min (match x.lines.find? (λp=>decide (p.1=t)) with
 |some p=>p.2
 |none=>x.other) k
def bl (l:Λ):Λ:=((X4 64).map λ(v:Nat)=>(v:Int)).filter λv=>decide (v∈l)
def bS (sizes scope:Λ):Λ:=scope.map λv=>sizes.getD v.toNat 0
def oQ (scope a t:Λ):Λ:=scope.map λv=>t.getD (a.idxOf v) 0
abbrev cK:Type:=Λ×Λ
def hR (sizes:Λ) (k:Int) (x:cw):cK:=(bl x.scope,(bi (bS sizes (bl x.scope))).map λt=>jB x k (oQ x.scope (bl x.scope) t))
def dU (k:Int) (a b:Λ):Λ:=List.zipWith (λx y=>min (x+y) k) a b
def h7 (k:Int) (acc:List cK) (g:cK):List cK:=if g.1∈acc.map (·.1) then acc.map λh=>if h.1=g.1 then (h.1,dU k h.2 g.2) else h else acc++[g]
def jf:Λ->Int
 |[]=>0
 |x::l=>x*64 ^ l.length+jf l
def da (l:Λ):Int:=l.length*64 ^ 6+jf l
def hp (g:cK):List cK->List cK
 |[]=>[g]
 |h::l=>if da h.1<da g.1 then h::hp g l else g::h::l
def fA (g:cK):Bool:=g.2.any λc=>decide (0<c)
def ff (f:b2):List cK:=(f.funs.map (hR f.sizes f.k)).foldl (h7 f.k) []
def fB (f:b2):List cK:=((ff f).filter fA).foldl (λl g=>hp g l) []
structure aR where
 k:Int
 sizes:Λ
 zero:Int
 unary:List (Λ)
 funs:List cK
deriving DecidableEq
def cQ (f:b2):aR:=(fB f).foldl (λn g=>match g.1 with
 |[]=>{n with zero:=g.2.getD 0 0}
 |[v]=>{n with unary:=n.unary.set v.toNat g.2}
 |_=>{n with funs:=n.funs++[g]}) ⟨f.k,f.sizes,0,f.sizes.map λz=>r8 z.toNat 0,[]⟩
abbrev iB:Type:=Rd (Λ)×Rd (List (Λ×Int))
def bC (g gs:Nat) (A:ak):ak:=λr=>r=g\/r=gs\/A r
def fC (gs:Nat) (e big a f told:Int) (sv:x1):List x1:=[Γ gs,Δ e,Δ big,Δ a,Δ f,Δ told,sv]
def cH (g gs:Nat) (A:ak) (B:ak):ak:=λr=>¬bC g gs A r/\B r
def kT (w:x3) (g gs:Nat) (A:ak) (B:ak):Prop:=g≠gs/\¬A g/\¬A gs/\(∀r,bC g gs A r->r<w.heap.size)/\ ∀r,B r->r<w.heap.size
def df (w:x3) (g gs:Nat) (A:ak) (B:ak) (s:aE) (clean:Bool):Prop:=kT w g gs A B/\ho w gs (cH g gs A B) s.toks clean/\(0<=s.told/\s.told<=aw/\s.shared.length+s.toks.length<=100000)/\
 ∃big a e told sv,ag w g cc (fC gs 0 big a e told sv)/\((s.big=true↔big≠0)/\(s.big=false->told=s.told))/\bE A (cH g gs A B) w [sv] (show List iB from s.shared)
def ey (w:x3) (g gs:Nat) (A:ak) (B:ak):Prop:=kT w g gs A B/\ ∃ (e big a f told:Int) (sv:x1) (l:List iB),ag w g cc (fC gs e big a f told sv)/\(e≠0/\l.length<=100000)/\bE A (cH g gs A B) w [sv] l
theorem kT.ab {g:Nat} {A:ak} {B:ak} (h:kT w g gs A B) (J:ah S w w'):kT w' g gs A B:=by
 obtain⟨h1,e,f,j,m⟩:=h;exact⟨h1,e,f,λr a=>R6 (j r a) J.size,λr a=>R6 (m r a) J.size⟩
theorem A8 {g:Nat} {A:ak} {B:ak} (a:∀r,A r->¬S r) (e:∀r,cH g gs A B r->¬S r):∀r,A r\/cH g gs A B r->¬S r:=λr h=>h.elim (a r) (e r)
theorem df.ab {g:Nat} {A:ak} {B:ak} {s:aE} (h:df w g gs A B s clean) (J:ah S w w') (a:∀r,bC g gs A r->¬S r) (e:∀r,cH g gs A B r->¬S r):df w' g gs A B s clean:=by
 obtain⟨h1,f,j,big,m,p,told,sv,q,x,y⟩:=h;exact⟨h1.ab J,f.ab J (a gs (.inr (.inl rfl))) e,j,big,m,p,told,sv,q.ab J (a g (.inl rfl)),x,ao.ab y J λr _ h=>A8 (λr z=>a r (.inr (.inr z))) e r h⟩
theorem ey.ab {g:Nat} {A:ak} {B:ak} (h:ey w g gs A B) (J:ah S w w') (a:∀r,bC g gs A r->¬S r) (f:∀r,cH g gs A B r->¬S r):ey w' g gs A B:=by
 obtain⟨h1,e,big,j,m,told,sv,l,p,q,s⟩:=h;exact⟨h1.ab J,e,big,j,m,told,sv,l,p.ab J (a g (.inl rfl)),q,ao.ab s J λr _ h=>A8 (λr x=>a r (.inr (.inr x))) f r h⟩
theorem df.ext {g:Nat} {A:ak} {B:ak} {s:aE} (h:df w g gs A B s clean) (J:Ext w w'):df w' g gs A B s clean:=h.ab (J.ab λ_=>False) (λ_ _ h=>h) (λ_ _ h=>h)
theorem ey.ext {g:Nat} {A:ak} {B:ak} (h:ey w g gs A B) (J:Ext w w'):ey w' g gs A B:=h.ab (J.ab λ_=>False) (λ_ _ h=>h) (λ_ _ h=>h)
def fS (w:x3) (g gs:Nat) (A:ak) (B:ak) (clean:Bool) (s':Option aE) (w':x3):Prop:=ah (bC g gs A) w w'/\match s' with
 |some s'=>df w' g gs A B s' clean
 |none=>ey w' g gs A B
theorem vo {g:Nat} {e big a f told:Int} (h:ag w g cc (fC gs e big a f told sv)):am x7 kK [Γ g] w λv w'=>v= .bool (decide (e=0))/\Ext w w':=by
 refine az func77 ?_;rw[bV,aU cc.p rfl,aU eX.p rfl,ay Ψ (h.cell (o:=0+1+0) rfl),bg];exact⟨rfl,Ext.refl _⟩
theorem oR {g:Nat} {A:ak} {B:ak} {s:aE} (h:df w g gs A B s clean):am x7 kK [Γ g] w λv w'=>v= .bool true/\Ext w w':=by
 obtain⟨_,_,_,big,e,f,told,sv,a,_⟩:=h;exact (vo a).mono λ_ _ _ h=>h
theorem nx {g:Nat} {A:ak} {B:ak} (h:ey w g gs A B):am x7 kK [Γ g] w λv w'=>v= .bool false/\Ext w w':=by
 obtain⟨_,e,big,j,m,told,sv,l,a,f,_⟩:=h;refine (vo a).mono ?_;rintro _ V _ ⟨rfl,J⟩;exact⟨by rw[decide_eq_false f.1],J⟩
theorem sg {g:Nat} {A B:ak} (h:A r\/cH g gs A B r) (a:¬A g):r≠g:=by
 rintro rfl;rcases h with h|h
 .exact a h
 .exact h.1 (.inl rfl)
theorem sh {g:Nat} {A:ak} {B:ak} {big q a told e:Int} {l:List iB} (U:kT w g gs A B) (s:ag w g cc (fC gs 0 big q a told sv)) (x:bE A (cH g gs A B) w [sv] l) (he:e≠0) (y:l.length<=100000):
  am x7 m7 [Γ g,Δ e,Δ at_] w λ_ w'=>ah (λr=>r=g) w w'/\ey w' g gs A B:=by
 refine az func80 ?_;rw[bV,aU cc.p rfl,aU eX.p rfl,ay Ψ (s.cell (o:=0+1+0) rfl),bg,al];refine⟨λ_=>?_,λh=>absurd rfl h⟩;rw[bV,aU cc.p rfl,aU eX.p rfl];refine bq (g:=g) (o:=1) js.i rfl rfl s (by simp[fC]) λV z G f=>?_;have f:ag V g cc (fC gs e big q a told sv):=f;rw[bV,aU cc.p rfl,aU eX.p rfl];refine bq (g:=g) (o:=3) ai.i rfl rfl f (by simp[fC]) λaa C H j=>?_;have j:ag aa g cc (fC gs e big at_ a told sv):=j;have m:=z.trans C;exact⟨m,U.ab m,e,big,at_,a,told,sv,l,j,⟨he,y⟩,ao.ab x m λr _ h E=>sg h U.2.1 E⟩
theorem si {g:Nat} {A:ak} {B:ak} {s:aE} {e:Int} (h:df w g gs A B s clean) (he:e≠0):am x7 m7 [Γ g,Δ e,Δ at_] w λ_ w'=>ah (λr=>r=g) w w'/\ey w' g gs A B:=by
 obtain⟨U,_,a,big,m,p,told,sv,f,_,j⟩:=h;exact sh U f j he (by have:=a.2.2;show s.shared.length<=_;omega)
theorem Kc {g:Nat} {A:ak} {B:ak} {e:Int} (h:ey w g gs A B):am x7 m7 [Γ g,Δ e,Δ at_] w λ_ w'=>Ext w w':=by
 obtain⟨_,f,big,j,m,told,sv,l,h1,a,_⟩:=h;refine az func80 ?_;rw[bV,aU cc.p rfl,aU eX.p rfl,ay Ψ (h1.cell (o:=0+1+0) rfl),bg,al];exact⟨λh=>absurd h a.1,λ_=>Ext.refl _⟩
theorem sj {g:Nat} {A:ak} {B:ak} {s:aE} {b:Bool} (h:df w g gs A B s clean):am x7 pI [Γ g,.bool b,Δ at_] w λ_ w'=>ah (λr=>r=g) w w'/\df w' g gs A B (bd b s) clean:=by
 obtain⟨U,y,z,big,e,C,told,sv,f,E,G⟩:=id h;refine az func75 ?_;refine aV (λv V=>w=V/\v= .bool (b&&decide (big=0))) ?_ ?_
 rotate_left
 .intro aA m;cases b with
  |false=>rw[a1];exact m _ _ ⟨rfl,rfl⟩
  |true=>
   rw[bQ,bV,aU cc.p rfl,aU eX.p rfl,ay Ψ (f.cell (o:=0+1+1) rfl),bg,al];refine⟨λa=>?_,λa=>m _ _ ⟨rfl,by rw[decide_eq_false a];rfl⟩⟩;rw[bV,aU cc.p rfl,aU eX.p rfl,ay Ψ (f.cell (o:=0+1+0) rfl),bg];exact m _ _ ⟨rfl,by rw[decide_eq_true a];rfl⟩
 rintro _ _ ⟨rfl,rfl⟩;rw[ce];refine⟨λH=>?_,λaf=>?_⟩
 .obtain⟨rfl,a⟩:=Bool.and_eq_true_iff.1 H;rw[bV,aU cc.p rfl,aU eX.p rfl];refine bq (g:=g) (o:=2) js.i rfl rfl f (by simp[fC]) λV I M q=>?_;have q:ag V g cc (fC gs 0 5 e C told sv):=q;rw[bV,aU cc.p rfl,aU eX.p rfl];refine bq (g:=g) (o:=4) ai.i rfl rfl q (by simp[fC]) λaa J N x=>?_;have x:ag aa g cc (fC gs 0 5 e at_ told sv):=x;have j:=I.trans J;exact⟨j,U.ab j,y.ab j (λhe=>U.1 he.symm) (λr K he=>K.1 (.inl he)),z,5,e,at_,told,sv,x,⟨⟨λ_=>Ω,λ_=>by simp[bd]⟩,λh=>by simp[bd] at h⟩,ao.ab G j λr _ h L=>sg h U.2.1 L⟩
 .refine⟨ah.refl _ _,U,y,z,big,e,C,told,sv,f,⟨?_,λh=>E.2 (by
   have h:(s.big||b)=false:=h;exact (S3.1 h).1)⟩,G⟩
  show (s.big||b)=true↔big≠0;cases b with
  |false=>rw[Bool.or_false];exact E.1
  |true=>
   have a:big≠0:=of_decide_eq_false (by simpa using af);simp[a]
theorem Ba {g:Nat} {A:ak} {B:ak} {b:Bool} (h:ey w g gs A B):am x7 pI [Γ g,.bool b,Δ at_] w λ_ w'=>Ext w w':=by
 obtain⟨_,j,big,m,q,told,sv,l,h1,e,_⟩:=h;refine az func75 ?_;refine aV (λv V=>w=V/\v= .bool false) ?_ ?_
 .rintro _ _ ⟨rfl,rfl⟩;rw[a1];exact Ext.refl _
 intro aA a;cases b with
 |false=>rw[a1];exact a _ _ ⟨rfl,rfl⟩
 |true=>
  rw[bQ,bV,aU cc.p rfl,aU eX.p rfl,ay Ψ (h1.cell (o:=0+1+1) rfl),bg,al];refine⟨λf=>?_,λf=>a _ _ ⟨rfl,rfl⟩⟩;rw[bV,aU cc.p rfl,aU eX.p rfl,ay Ψ (h1.cell (o:=0+1+0) rfl),bg];exact a _ _ ⟨rfl,by rw[decide_eq_false e.1]⟩
theorem df.scan {g:Nat} {A:ak} {B:ak} {s:aE} {l:List (Λ)} (h:df w g gs A B s clean) (a:ah (λr=>r=gs) w w') (U:ho w' gs (cH g gs A B) l clean) (y:l.length<=s.toks.length):df w' g gs A B {s with toks:=l} clean:=by
 obtain⟨h1,_,e,big,j,m,told,sv,p,q,x⟩:=h;refine⟨h1.ab a,U,⟨e.1,e.2.1,by have:=e.2.2;show s.shared.length+l.length<=100000;omega⟩,big,j,m,told,sv,p.ab a h1.1,q,ao.ab x a λr _ h f=>?_⟩;have f:r=gs:=f;subst f;rcases h with h|h
 .exact h1.2.2.1 h
 .exact h.1 (.inr (.inl rfl))
theorem Bb {g:Nat} {A:ak} {B:ak} {s:aE} (h:df w g gs A B s clean):am x7 y6 [Γ g] w λv w'=>fS w g gs A B clean ((dN s).map (·.2)) w'/\ ∃ (t:Λ) (n:Int),v= .tuple #[bP t,Δ n]/\Bytes t/\t.length<=100000/\ ∀q,dN s=σ q->t=q.1:=by
 refine az func74 ?_;refine (oR h).mono ?_;rintro _ V _ ⟨rfl,H⟩;rw[bG,Y6,a1];have h1:=h.ext H;obtain⟨_,I,_,big,L,M,told,sv,x,_⟩:=id h1;have N:=I.words.2;rw[aQ cc.p 0 x rfl];refine (qc I).mono ?_;rintro v aa _ ⟨j,ad⟩;have J:ah (bC g gs A) w aa:=(H.ab _).trans (j.mono λr _ h=>.inr (.inl h));cases f:s.toks with
 |cons t l=>
  rw[f] at ad;obtain⟨O,n,rfl⟩:=ad;have P:=h1.scan j O (by rw[f];simp);have y:dN s=σ (t,{s with toks:=l}):=by unfold dN;rw[f]
  have K:=N t (by rw[f];exact .head _);rw[fO,fP,fQ];refine aV (λv z=>aa=z/\v=Δ 0) ?_ ?_
  .rintro _ _ ⟨rfl,rfl⟩;refine dg (λm=>aa=m) ?_ ?_
   .rintro _ rfl;rw[y];exact⟨⟨J,P⟩,t,n,rfl,K.1,K.2.2,λq C=>by cases C;rfl⟩
   .intro aA a;rw[bm,al];exact⟨λh=>absurd rfl h,λ_=>a _ rfl⟩
  .intro aA a;rw[bg,al];exact⟨λh=>Ω,λ_=>a _ _ ⟨rfl,rfl⟩⟩
 |nil=>
  rw[f] at ad;obtain⟨n,rfl⟩:=ad;have y:dN s=ν:=by unfold dN;rw[f]
  obtain⟨E,_,Q,big,L,M,told,sv,x,Z,R⟩:=id h1;have S:=x.ab j E.1;have U:=ao.ab R j λr _ h G=>by
   have G:r=gs:=G;subst G;rcases h with h|h
   .exact E.2.2.1 h
   .exact h.1 (.inr (.inl rfl))
  rw[fO,fP,fQ];refine aV (λv z=>aa=z/\ ∃e:Int,v=Δ e/\e≠0) ?_ ?_
  .rintro _ _ ⟨rfl,e,rfl,he⟩;refine dg (λm=>ah (λr=>r=g) aa m/\ey m g gs A B) ?_ ?_
   .rintro m ⟨W,X⟩;rw[y];exact⟨⟨J.trans (W.mono λr _ h=>.inl h),X⟩,[],n,rfl,λb Y=>(by cases Y),Ξ,λq C=>by cases C⟩
   .intro aA a;rw[bm,al];refine⟨λ_=>?_,λh=>absurd he h⟩;exact (sh (E.ab j) S U he (by have:=Q.2.2;show s.shared.length<=_;omega)).mono λ_ w' _ h=>a _ h
  .intro aA a;rw[bg,al];cases clean with
   |true=>exact⟨λ_=>a _ _ ⟨rfl,4,rfl,Ω⟩,λh=>absurd rfl h⟩
   |false=>exact⟨λh=>by simp at h,λ_=>a _ _ ⟨rfl,11,rfl,Ω⟩⟩
theorem Kd {g:Nat} {A:ak} {B:ak} (h:ey w g gs A B):am x7 y6 [Γ g] w λv w'=>Ext w w'/\v= .tuple #[bP [],Δ 0]:=by
 refine az func74 ?_;refine (nx h).mono ?_;rintro _ V _ ⟨rfl,a⟩;rw[bG,X9,bQ];exact⟨a,rfl⟩
theorem vp {g:Nat} {A:ak} {B:ak} {s:aE} (h:df w g gs A B s clean):am x7 m4 [Γ g,Δ lo,Δ hi] w λv w'=>fS w g gs A B clean ((bh lo hi s).map (·.2)) w'/\ ∃n at_:Int,v= .tuple #[Δ n,Δ at_]/\(∀q,bh lo hi s=σ q->n=q.1)/\(bh lo hi s=ν->n=0):=by
 refine az func76 ?_;refine (Bb h).mono ?_;rintro _ V _ ⟨⟨y,f⟩,t,n,rfl,I,J,hw⟩;rw[bo,bp];cases j:dN s with
 |none=>
  have a:bh lo hi s=ν:=by unfold bh;rw[j]
  rw[j] at f;have f:ey V g gs A B:=f;refine (nx f).mono ?_;rintro _ aa _ ⟨rfl,p⟩;rw[bG,X9,bQ,a];exact⟨⟨y.trans (p.ab _),f.ext p⟩,0,n,rfl,λq h=>(by cases h),λ_=>rfl⟩
 |some q=>
  obtain⟨bu,z⟩:=q;have:=hw _ j;subst this;rw[j] at f;have f:df V g gs A B z clean:=f;refine (oR f).mono ?_;rintro _ aa _ ⟨rfl,p⟩;rw[bG,Y6,a1];refine (J8 I J).mono ?_;rintro _ C _ ⟨rfl,E⟩;have G:=(f.ext p).ext E;have H:ah (bC g gs A) w C:=(y.trans (p.ab _)).trans (E.ab _);obtain⟨m,e,ad,hm⟩:∃m e:Int,kh t= .tuple #[Δ m,Δ e]/\((gh t=σ m/\e=0)\/(gh t=ν/\e=4)):=by
   unfold kh;cases N:gh t with
   |none=>exact⟨0,4,rfl,.inr ⟨rfl,rfl⟩⟩
   |some m=>exact⟨m,0,rfl,.inl ⟨rfl,rfl⟩⟩
  rw[ad,bo,bp];refine aV (λv K=>C=K/\v= .bool (bh lo hi s).isNone) ?_ ?_
  .rintro _ _ ⟨rfl,rfl⟩;cases a:bh lo hi s with
   |none=>
    rw[Option.isNone_none,bQ];refine (si G Ω).mono ?_;rintro _ O _ ⟨L,M⟩;exact⟨⟨H.trans (L.mono λr _ h=>.inl h),M⟩,0,n,rfl,λq h=>(by cases h),λ_=>rfl⟩
   |some q=>
    rw[Z4,a1];unfold bh at a;rw[j] at a;simp only at a;rcases hm with⟨hm,_⟩|⟨hm,_⟩
    .rw[hm] at a;simp only at a;split at a
     .cases a;exact⟨⟨H,G⟩,m,n,rfl,λq h=>(by cases h;rfl),λh=>(by cases h)⟩
     .cases a
    .rw[hm] at a;cases a
  .intro aA x;have a:bh lo hi s=match gh t with
     |none=>ν
     |some n=>if lo<=n/\n<=hi then σ (n,z) else ν:=by
    unfold bh;rw[j];simp only;cases gh t<;>rfl
   rw[bm,al];rcases hm with⟨hm,rfl⟩|⟨hm,rfl⟩
   .rw[hm] at a;simp only at a;refine⟨λh=>absurd rfl h,λ_=>?_⟩;rw[aO,al];refine⟨λh=>x _ _ ⟨rfl,by rw[a,if_neg Ω];rfl⟩,λh=>?_⟩;rw[bU];refine x _ _ ⟨rfl,?_⟩;rw[a];by_cases aJ:hi<m
    .rw[decide_eq_true aJ,if_neg Ω];rfl
    .rw[decide_eq_false aJ,if_pos Ω];rfl
   .rw[hm] at a;exact⟨λ_=>x _ _ ⟨rfl,by rw[a];rfl⟩,λh=>absurd (by omega:(4:Int)≠0) h⟩
theorem Ke {g:Nat} {A:ak} {B:ak} (h:ey w g gs A B):am x7 m4 [Γ g,Δ lo,Δ hi] w λv w'=>Ext w w'/\v= .tuple #[Δ 0,Δ 0]:=by
 refine az func76 ?_;refine (Kd h).mono ?_;rintro _ V _ ⟨a,rfl⟩;rw[bo,bp];refine (nx (h.ext a)).mono ?_;rintro _ aa _ ⟨rfl,e⟩;rw[bG,X9,bQ];exact⟨a.trans e,rfl⟩
theorem Kf {x:Int} (h:aF .i64 w sv l):am x7 Il [sv,Δ x] w λv w'=>Ext w w'/\ ∃r:Int,v=Δ r/\(0<=r↔x∈l):=by
 refine az func231 ?_;rw[aW ax.u h];refine bZ.range l.length (λi _ V=>Ext w V/\x∉l.take i) h.le ⟨Ext.refl _,Ξ⟩ ?_ ?_
 .rintro i _ V k hi ⟨a,e⟩ hk;refine bH Ω ?_;obtain⟨y,f⟩:=aH (l:=l) hi;rw[bc ax.u ap.i Ψ (h.ext a) f,bg,al];refine⟨λhe=>⟨a,i,rfl,⟨λ_=>he▸x5 f,λ_=>Ω⟩⟩,λhe=>?_⟩;rw[aP];refine hk _ _ ⟨a,λhm=>?_⟩;rw[u9,f] at hm;rcases o7.1 hm with hm|hm
  .exact e hm
  .simp at hm;exact he hm
 .rintro _ V k ⟨a,e⟩;rw[p9] at e;rw[aO,al];exact⟨λh=>Ω,λ_=>⟨a,-1,rfl,⟨λh=>Ω,λh=>absurd h e⟩⟩⟩
theorem Kg {x:Int} (h:aF .i64 w sv l):am x7 HU [sv,Δ x] w λv w'=>v= .bool (decide (x∈l))/\Ext w w':=by
 refine az func187 ?_;refine (Kf h).mono ?_;rintro _ V _ ⟨J,r,rfl,a⟩;rw[cP];exact⟨by congr 1;rw[V6,decide_eq_true_eq,decide_eq_true_eq];exact a,J⟩
theorem sk:∀ {l:Λ},(∀z∈l,1<=z)-> ∀i,aN ((l.take i).map λk=>min k 4097)<=aN (l.map λk=>min k 4097)/\1<=aN ((l.take i).map λk=>min k 4097)
 |[],_,i=>by simp[aN]
 |z::l,h,0=>by
  have a:=sk (l:=l) (λx J=>h x (.tail _ J)) l.length;rw[p9] at a;have e:=h z (.head _);simp only[List.take_zero,List.map_nil,U7,aN];have:=Int.mul_le_mul_of_nonneg_left a.2 (show 0<=min z 4097 by omega);omega
 |z::l,h,i+1=>by
  have a:=sk (l:=l) (λx J=>h x (.tail _ J)) i;have e:=h z (.head _);simp only[List.take_succ_cons,U7,aN];have h1:=Int.mul_le_mul_of_nonneg_left a.1 (show 0<=min z 4097 by omega);have f:=Int.mul_le_mul_of_nonneg_left a.2 (show 0<=min z 4097 by omega);exact⟨h1,Ω⟩
theorem Bc (l:Λ) (x:Int):aN (l++[x])=aN l*x:=by
 induction l with
 |nil=>simp[aN]
 |cons a l e=>rw[List.cons_append,aN,e,aN,Int.mul_assoc]
theorem Bd (h:aF .i64 w sv l) (h1:∀z∈l,1<=z):am x7 Hj [sv] w λv w'=>v= .bool (dq l)/\Ext w w':=by
 refine az func139 ?_;rw[aW ax.u h];refine jZ.range l.length (λi _ n V=>Ext w V/\n=Δ (aN ((l.take i).map λk=>min k 4097))/\aN ((l.take i).map λk=>min k 4097)<=4096) h.le ⟨Ext.refl _,by simp[aN],by simp[aN]⟩ ?_ ?_
 .rintro i _ _ V m hi ⟨a,rfl,f⟩ p;refine bH Ω ?_;obtain⟨z,j⟩:=aH (l:=l) hi;have r:=h1 z (x5 j);have s:=sk h1 i;have x:=sk h1 (i+1);have e:aN ((l.take (i+1)).map λk=>min k 4097)=aN ((l.take i).map λk=>min k 4097)*min z 4097:=by
   rw[u9,j,o9,Z0,U7,List.map_nil,Bc]
  rw[bc ax.u ap.i Ψ (h.ext a) j,lE,hI,<-e];have y:aN ((l.take (i+1)).map λk=>min k 4097)<=4096*4097:=by
   rw[e];have A:=Int.mul_le_mul_of_nonneg_right f (show 0<=min z 4097 by omega);have B:=Int.mul_le_mul_of_nonneg_left (show min z 4097<=4097 by omega) (show (0:Int)<=4096 by omega);omega
  rw[wrap_i64 Ω Ω,bU,al];refine⟨λq=>⟨?_,a⟩,λq=>?_⟩
  .unfold dq;rw[decide_eq_true];omega
  .rw[aP];exact p _ _ _ ⟨a,rfl,Ω⟩
 .rintro _ _ V m ⟨a,rfl,f⟩;rw[p9] at f;rw[aO,al];refine⟨λh=>Ω,λ_=>⟨?_,a⟩⟩;unfold dq;rw[decide_eq_false];omega
def kj (n:Int) (acc:Λ) (s:aE):Option (Int×aE):=match bh 0 (n-1) s with
 |none=>ν
 |some (v,s)=>if v∈acc then ν else σ (v,s)
theorem oS {α:Type} {f:List α->aE->Option (α×aE)} {acc:List α} {s:aE} (h:f acc s=ν):cO f (n+1) acc s=ν:=by
 simp only[cO,h]
theorem sm {α:Type} {f:List α->aE->Option (α×aE)} {acc:List α} {s s':aE} {a:α} (h:f acc s=σ (a,s')):cO f (n+1) acc s=cO f n (acc++[a]) s':=by
 simp only[cO,h]
theorem df.qe {g:Nat} {A:ak} {B:ak} {s:aE} (h:df w g gs A B s clean):(∀r,bC g gs A r->r<w.heap.size)/\(∀r,B r->r<w.heap.size):=⟨h.1.2.2.2.1,h.1.2.2.2.2⟩
theorem Kh {g k:Nat} {A B:ak} {s:aE} {m:Int} (h:df w g gs A B s clean) (hk:k<=4611686018427387904) (hm:0<=m/\m<=1000000):
  am x7 zc [Γ g,Δ (k:Int),Δ m] w λv w'=>fS w g gs A B clean ((eZ m k s).map (·.2)) w'/\
   ∃gr l,au .i64 ap w' gr v l/\(∀r,leads v r->w.heap.size<=r)/\l.length<=100001/\ ∀q,eZ m k s=σ q->l=q.1:=by
 obtain⟨Z,aw⟩:=h.qe;have ay:=h.2.1.words.1;refine az func138 ?_;refine⟨λout P V=>∃i:Nat,P=Δ (i:Int)/\i<=k/\ah (bC g gs A) w V/\ ∃gr l,au .i64 ap V gr out l/\w.heap.size<=gr/\l.length<=100001/\
  ((∃st,df V g gs A B st clean/\cO (kj m) (k-i) l st=eZ m k s/\l.length+st.toks.length<=100000)\/(ey V g gs A B/\eZ m k s=ν)),λ_ P _=>k-(bX P).toNat,
  ⟨0,rfl,X3 _,ah.refl _ _,w.heap.size,[],au.nil _ _ _ _,p8 _,Ξ,.inl ⟨s,h,rfl,by simpa using ay⟩⟩,?_⟩
 rintro out _ V ⟨i,rfl,aB,ac,gr,l,ad,ba,bb,ae⟩;have bc:=ac.size;have Q:∀r,leads out r->w.heap.size<=r:=λr y=>by have:=bO ad y;omega
 refine aV (λv aa=>Ext V aa/\((v= .bool true/\i<k/\ ∃st,df aa g gs A B st clean/\cO (kj m) (k-i) l st=eZ m k s/\l.length+st.toks.length<=100000)\/
  (v= .bool false/\((∃st,df aa g gs A B st clean/\eZ m k s=σ (l,st))\/(ey aa g gs A B/\eZ m k s=ν))))) ?_ ?_
 rotate_left
 .intro aA J;rw[aO,al];refine⟨λbd=>?_,λbe=>?_⟩
  .rcases ae with⟨st,z,x,R⟩|⟨E,S⟩
   .refine (oR z).mono ?_;rintro _ aa _ ⟨rfl,C⟩;exact J _ _ ⟨C,.inl ⟨rfl,Ω,st,z.ext C,x,R⟩⟩
   .refine (nx E).mono ?_;rintro _ aa _ ⟨rfl,C⟩;exact J _ _ ⟨C,.inr ⟨rfl,.inr ⟨E.ext C,S⟩⟩⟩
  .have aC:k-i=0:=Ω
   rcases ae with⟨st,z,x,R⟩|aD
   .rw[aC] at x;exact J _ _ ⟨Ext.refl _,.inr ⟨rfl,.inl ⟨st,z,x.symm⟩⟩⟩
   .exact J _ _ ⟨Ext.refl _,.inr ⟨rfl,.inr aD⟩⟩
 rintro _ aa ⟨C,aF⟩;have U:ah (bC g gs A) w aa:=ac.trans (C.ab _);have K:=ad.ext C;rcases aF with⟨rfl,aB,st,z,x,R⟩|⟨rfl,aG⟩
 rotate_left
 .rw[a1];rcases aG with⟨st,z,H⟩|⟨E,H⟩
  .rw[H];exact⟨⟨U,z⟩,gr,l,K,Q,Ω,λq f=>by cases f;rfl⟩
  .rw[H];exact⟨⟨U,E⟩,gr,l,K,Q,Ω,λq f=>by cases f⟩
 rw[bQ,dF,wrap_i64 Ω Ω];have aH:k-i=(k-(i+1))+1:=Ω
 rw[aH] at x;refine (vp z).mono ?_;rintro _ L _ ⟨⟨M,N⟩,n,at_,rfl,aI,bf⟩;rw[bo,bp];have af:∀r,leads out r->¬bC g gs A r:=λr y aJ=>by have:=Z r aJ;have:=Q r y;omega
 have bg:∀r,g=r->bC g gs A r:=λr h=>.inl h.symm;refine dg (λe=>ah (bC g gs A) aa e/\((∃p,df e g gs A B p clean/\cO (kj m) (k-(i+1)) (l++[n]) p=eZ m k s/\l.length+1+p.toks.length<=100000)\/(ey e g gs A B/\eZ m k s=ν))/\l.length+1<=100001) ?_ ?_
 .rintro e ⟨ag,aK,ai⟩;have aL:=br K ag af;have aj:=U.trans ag;have bi:=aj.size;refine ew ax.u ap.i rfl λa ga an bj G aM=>?_;refine iZ ax.u ap.i rfl (aL.ext G) aM.ls Θ Θ λaN aQ aR bk aS W=>?_;have bl:=G.size;rw[aP,wrap_i64 Ω Ω];have aT:ah (bC g gs A) w aR:=hn (aj.trans (G.ab _)) W λr y he=>by have he:r=gr:=he;omega
  have ao:∀r,bC g gs A r->¬(λr=>r=gr) r:=λr y he=>by have:=Z r y;have he:r=gr:=he;omega
  have aq:∀r,cH g gs A B r->¬(λr=>r=gr) r:=λr y he=>by have:=aw r y.2;have he:r=gr:=he;omega
  refine⟨⟨i+1,rfl,Ω,aT,aQ,l++[n],aS,Ω,Θ,?_⟩,by simp only[bX];omega⟩;rcases aK with⟨p,O,aU,bm⟩|⟨aW,S⟩
  .exact .inl ⟨p,(O.ext G).ab W ao aq,aU,Θ⟩
  .exact .inr ⟨(aW.ext G).ab W ao aq,S⟩
 .intro bn X;cases f:bh 0 (m-1) st with
  |none=>
   rw[f] at N;have E:ey L g gs A B:=N;have I:kj m l st=ν:=by unfold kj;rw[f]
   have H:eZ m k s=ν:=by rw[<-x];exact oS I
   refine aV (λv e=>Ext L e/\v= .bool false) ?_ ?_
   rotate_left
   .intro aX Y;refine (nx E).mono ?_;rintro _ e _ ⟨rfl,j⟩;rw[a1];exact Y _ _ ⟨j,rfl⟩
   rintro _ e ⟨j,rfl⟩;rw[a1];exact X _ ⟨M.trans (j.ab _),.inr ⟨E.ext j,H⟩,Ω⟩
  |some q=>
   obtain⟨aN,p⟩:=q;have aY:=aI _ f;subst aY;rw[f] at N;have av:df L g gs A B p clean:=N;have aZ:=dC f;have ai:l.length+1+p.toks.length<=100000:=by have:=aZ.1;omega
   refine aV (λv e=>Ext L e/\v= .bool (decide (n∈l))) ?_ ?_
   rotate_left
   .intro aX Y;refine (oR av).mono ?_;rintro _ e _ ⟨rfl,j⟩;rw[bQ];refine (Kg ((br K M af).ext j).ls).mono ?_;rintro _ an _ ⟨rfl,G⟩;exact Y _ _ ⟨j.trans G,rfl⟩
   rintro _ e ⟨j,rfl⟩;have O:=av.ext j;rw[al];refine⟨λa2=>?_,λa6=>?_⟩
   .have I:kj m l st=ν:=by unfold kj;rw[f];simp only;rw[if_pos a2]
    refine (si O Ω).mono ?_;rintro _ an _ ⟨a7,a8⟩;exact X _ ⟨(M.trans (j.ab _)).trans (a7.mono λr _ h=>.inl h),.inr ⟨a8,by rw[<-x];exact oS I⟩,Ω⟩
   .have I:kj m l st=σ (n,p):=by unfold kj;rw[f];simp only;rw[if_neg a6]
    exact X _ ⟨M.trans (j.ab _),.inl ⟨p,O,by rw[<-x];exact (sm I).symm,ai⟩,Ω⟩
theorem Ki {s t:Λ} (U:dG s):p2 (bi s) t=match ci s t 0 with
  |some n=>n
  |none=>-1:=by
 unfold p2;cases af:(bi s).findIdx? (λx=>decide (x=t)) with
 |none=>
  cases hi:ci s t 0 with
  |none=>rfl
  |some n=>
   have:=kg U hi;rw[List.findIdx?_eq_none_iff] at af;have:=af t (x5 this);simp at this
 |some i=>
  rw[List.findIdx?_eq_some_iff_getElem] at af;obtain⟨hi,h1,_⟩:=af;have h1:(bi s)[i]=t:=by simpa using h1
  have:=je U (i:=i) (t:=t) (by rw[x6 hi,h1]);rw[this]
theorem mp {a b:Int} (e:0<=a/\a<=4294967296) (f:0<=b/\b<=4294967296):am x7 FX [Δ a,Δ b,Δ k] w λv w'=>v=Δ (min (a+b) k)/\Ext w w':=by
 refine az func22 ?_;simp only[aP,bU,al];rw[wrap_i64 Ω Ω];exact⟨λh=>⟨by rw[Int.min_eq_right Ω],Ext.refl _⟩,λh=>⟨by rw[Int.min_eq_left Ω],Ext.refl _⟩⟩
def ny (a b k:Int):x1:=if cq a k/\cq b k then .tuple #[Δ (min (a+b) k),Δ 0] else .tuple #[Δ 0,Δ 3]
theorem vq {a b:Int}:am x7 y4 [Δ a,Δ b,Δ k] w λv w'=>v=ny a b k/\Ext w w':=by
 refine az func71 ?_;refine aV (λv V=>Ext w V/\v= .bool (decide (¬(cq a k/\cq b k)))) ?_ ?_
 .rintro _ V ⟨J,rfl⟩;simp only[al,aP,lE];refine⟨λh=>⟨by unfold ny;rw[if_neg h],J⟩,λh=>?_⟩;have h:=Z9.1 h;obtain⟨⟨h1,p⟩,q,r⟩:=id h;have:=h1.2;rw[wrap_i64 Ω Ω];exact⟨by unfold ny;rw[if_pos h],J⟩
 .intro aA e;refine jy.mono ?_;rintro _ aa _ ⟨rfl,f⟩;simp only[bG,ce];refine⟨λh=>e _ _ ⟨f,?_⟩,λh=>?_⟩
  .have:¬cq a k:=by simpa using h
   rw[decide_eq_true];exact λh=>this h.1
  .have j:cq a k:=by simpa using h
   refine jy.mono ?_;rintro _ s _ ⟨rfl,m⟩;simp only[bG];exact e _ _ ⟨f.trans m,by simp[j]⟩
theorem Kj (h:aF .i64 w sv l) (f:l≠[]):
  am x7 Iv [sv] w λv w'=>v=Δ (vh l)/\Ext w w':=by
 obtain⟨x,l,rfl⟩:∃x r,l=x::r:=by cases l with
  |nil=>exact absurd rfl f
  |cons x r=>exact⟨x,r,rfl⟩
 have j:=h.le;refine az func254 ?_;refine dg (λV=>w=V) ?_ ?_
 .rintro _ rfl;rw[fM (y:=0) (i:=0) rfl ax.u ap.i Ψ h (by rfl)];refine⟨λm i aa=>Ext w aa/\ ∃k:Nat,i=Δ (k+1:Nat)/\k<=l.length/\m=Δ ((l.take k).foldl min x),λ_ i _=>l.length+1-(bX i).toNat,⟨Ext.refl _,0,rfl,X3 _,rfl⟩,?_⟩;rintro _ _ aa ⟨a,k,rfl,hk,rfl⟩;rw[aW ax.u (h.ext a)];simp only[c9,aO,al] at j ⊢;refine⟨λq=>?_,λs=>⟨?_,a⟩⟩
  .obtain⟨y,e⟩:=aH (l:=l) (i:=k) Ω;rw[bc ax.u ap.i Ψ (h.ext a) (show (x::l)[k+1]? =σ y from e),lE];simp only[aP];rw[wrap_i64 Ω Ω];refine⟨⟨a,k+1,by congr 1,Ω,?_⟩,?_⟩
   .rw[u9,e,S1];rfl
   .simp only[bX];omega
  .have:k=l.length:=Ω
   subst this;rw[p9];rfl
 .intro aA p;rw[aW ax.u h];simp only[aO,al];exact⟨λh=>by simp at h;omega,λ_=>p _ rfl⟩
theorem Be {g:Nat} {cs:Λ} (h:dd w g a sv aj k cs):am x7 uJ [Γ g] w λv w'=>v=Δ k/\Ext w w':=by
 obtain⟨⟨a6,gs,e,hm,f⟩,_⟩:=h;refine az func214 ?_;rw[db eP.u];simp only[Z4,a1];rw[aQ cW.p 1 e rfl];exact⟨rfl,Ext.refl _⟩
theorem mq {g e:Nat} {cs:Λ} (h:dd w g e sv aj k cs):
  am x7 GC [Γ g] w λv w'=>Ext w w'/\ ∃a,w.heap.size<=a/\au .i64 ap w' a v cs:=by
 obtain⟨⟨a6,gs,f,hm,j⟩,⟨_,_,m⟩,U,q⟩:=h;refine az func91 ?_;rw[db eP.u];simp only[Z4,a1];rw[aQ cW.p 2 f rfl];exact uV j.ls Ω
theorem oT {g e:Nat} {cs:Λ} (h:dd w g e sv aj k cs):
  am x7 HE [Γ g] w λv w'=>v= .agg #[sv]/\Ext w w':=by
 obtain⟨⟨a6,gs,f,hm,y⟩,_⟩:=h;have m:=hm.ls.cells;refine az func168 ?_;refine bD bA.i λz V A a q=>?_;rw[db eP.u];simp only[Z4,a1];rw[bV,aU cW.p rfl,bR (cs:=[sv]) bA.p bA.i rfl (nq (f.ext a) (by
  intro j v ad
  match j,ad with
  |0,ad=>exact ad))]
 refine ch (vs:=[sv]) bA.i rfl rfl (by intro u hu;simp at hu;subst hu;exact m.2) q λB s C x=>?_;rw[fN bA.p bA.i rfl x.range];exact⟨rfl,a.then s (by rintro r E rfl;omega)⟩
theorem Bf (h:aF .i64 w sv aj) (m:aj.length<=1000):am x7 zm [.agg #[sv]] w λv w'=>Ext w w'/\ ∃a,w.heap.size<=a/\au .i64 ai w' a v aj:=by
 refine az func213 ?_;refine be λg V q e f=>?_;rw[aM bA.p 0 f rfl];refine (kd (h.ext e) Ω).mono ?_;rintro v aa _ ⟨j,a,r,hm⟩;have s:=e.size;exact⟨e.trans j,a,Ω,hm⟩
theorem Bg (h:aF .i64 w sv aj):am x7 Iq [.agg #[sv]] w λv w'=>v=Δ aj.length/\Ext w w':=by
 refine az func239 ?_;refine be λg V f a e=>?_;rw[aM bA.p 0 e rfl,aW an.u (h.ext a)];exact⟨rfl,a⟩
def hS (aj:Λ) (i:Int):Int:=if 0<=i then aj.getD i.toNat 0 else 0
theorem qf {i:Int} (h:aF .i64 w sv aj):am x7 Ir [.agg #[sv],Δ i] w λv w'=>v=Δ (hS aj i)/\Ext w w':=by
 refine az func240 ?_;refine be λg V q a e=>?_;refine aV (λv aa=>v= .bool (decide (i<0\/(aj.length:Int)<=i))/\V=aa) ?_ ?_
 .rintro _ _ ⟨rfl,rfl⟩;simp only[al];refine⟨λh=>⟨?_,a⟩,λm=>?_⟩
  .unfold hS;split
   .rw[v8,Z6 Ω];rfl
   .rfl
  .rw[aM bA.p 0 e rfl];obtain⟨n,rfl⟩:∃n:Nat,i=n:=⟨i.toNat,Ω⟩;have f:n<aj.length:=Ω
   rw[bc an.u ai.i Ψ (h.ext a) (x6 f)];refine⟨?_,a⟩;unfold hS;rw[if_pos Ω,v8,u6,x6 f];rfl
 .intro aA j;simp only[aO,al];refine⟨λh=>j _ _ ⟨by rw[decide_eq_true];omega,rfl⟩,λm=>?_⟩;rw[aM bA.p 0 e rfl,aW an.u (h.ext a)];simp only[cP];exact j _ _ ⟨by congr 1;simp;omega,rfl⟩
theorem vr {g B0:Nat} (U:b1 aj):
  oe x7 lA [Γ g] (aN aj).toNat (λk vs w=>∃aI gt,vs=[Δ (k:Int),aI]/\B0<=gt/\au .i64 ai w gt aI (cS aj k))
   (λw=>ag w g bA [sv]/\aF .i64 w sv aj/\B0<=w.heap.size):=by
 refine⟨lA.enters,λl aA N w m _ x ⟨q,r,y⟩ z=>?_⟩;have O:=prod_bound U;refine pM func242 ?_;rw[bR bA.p bA.i rfl q.range];refine (oA r U).free.mono ?_;rintro _ V ⟨A,rfl,J⟩;refine cz.range (aN aj).toNat (λi aa=>aA i aa/\ag aa g bA [sv]/\aF .i64 aa sv aj/\B0<=aa.heap.size) Ω ⟨m 0 _ _ J A.b z,q.ext J,r.ext J,Y9 y J.size⟩ ?_ ?_
 .rintro i aa k hi ⟨e,f,j,s⟩ hk;simp only[aO,al];refine⟨λ_=>?_,λh=>Ω⟩;rw[bR bA.p bA.i rfl f.range];refine (I3 j U Ω Ω).free.mono ?_;rintro _ B ⟨C,a,aI,gt,rfl,E,G⟩;rw[bo,bp];refine⟨rfl,(x i _ B hi ⟨f.ext a,j.ext a,Y9 s a.size⟩ ⟨aI,gt,rfl,Y9 s E,G⟩ (m _ _ _ a C.b e)).mono ?_⟩;rintro _ P (⟨rfl,⟨H,I,K⟩,L⟩|⟨rfl,M⟩)
  .simp only[bG,Y6,a1,aP];exact hk _ ⟨L.1,H,I,K⟩
  .simp only[bG,X9,bQ];exact .inr ⟨i,hi,M⟩
 .rintro aa k ⟨e,f,j,_⟩;simp only[aO,al];exact⟨λh=>Ω,λ_=>.inl e⟩
theorem vt:am x7 H5 [.agg #[sv]] w λr w'=>Ext w w'/\ ∃g,r= .func (.func lA) #[] #[Γ g]/\w.heap.size<=g/\ag w' g bA [sv]:=by
 refine az func206 ?_;refine be λg V f a e=>?_;rw[ix];exact⟨a,g,rfl,Ω,e⟩
end Go.Proofs.YtmgflbkdggdhoaaGreatDoor
namespace Go.Vc
open Go Go.RowKit
set_option maxRecDepth 100000
section
variable {P:W5} {w:x3}
theorem aD.cu {α:Type} {s:Sem α} {K:α->x3->Prop} (h:aD P s w λv w'=>cM w w'->K v w'):aD P s w K:=by
 obtain⟨v,w',h1,a,e⟩:=h;exact⟨v,w',h1,a,e a⟩
structure Keys (P:W5) (k:r9) (G:x1->Prop):Prop where
 check:∀ (w:x3) (em:Bool) {v:x1},G v->(Instr.checkKey em 10000 k v).run P w= .ok () w
 find:∀ (w:x3) {x:x1},G x-> ∀es:List MapEntry,(∀e∈es,G e.key)->
  ((Instr.findKey k x es).run P w= .ok ν w/\ ∀e∈es,e.key≠x)\/ ∃j e,(Instr.findKey k x es).run P w= .ok (σ (j,e.val)) w/\es[j]? =σ e/\e.key=x
 stays:∀ (w:x3) {v:x1},G v->(Instr.keyThatStays v v).run P w= .ok v w
theorem Keys.law {k:r9} (K:WideMaps.KeyLaw P k):Keys P k λv=>∃l,keyOf P k v=σ l:=
 ⟨λw a _ ⟨_,h⟩=>K.check w a h,λw _ ⟨_,h⟩ e f=>K.find w h e f,λw _ ⟨_,h⟩=>K.stays w h⟩
theorem Keys.int {k:r9} {a:o5} (hk:P.underlying k=σ (.int a)):Keys P k λv=>∃n,v= .int a n:=by
 have key:∀n,MapKept.IsKey (.int a) (.int a n):=λn=>rfl;refine⟨λw p v ⟨n,h⟩=>?_,λw x ⟨n,h⟩ q r=>?_,λw v ⟨n,h⟩=>?_⟩
 .subst h;exact MapKept.run_checkKey hk (key n) p 9999
 .subst h;rcases MapKept.findNow_spec (key n) q 0 (λe he=>by obtain⟨m,h⟩:=r e he;rw[h];exact key m) with⟨h1,f⟩|⟨j,e,h1,f,s⟩
  .exact .inl ⟨MapKept.run_findKey hk h1,f⟩
  .exact .inr ⟨j,e,by have:=MapKept.run_findKey (P:=P) (w:=w) hk h1;simpa using this,f,s⟩
 .subst h;exact MapKept.run_keyThatStays (d:=.int a) (key n)
def gF (e:MapEntry):x1×x1:=(e.key,e.val)
def c3 (w:x3) (m:Nat) (d:List (x1×x1)):Prop:=∃a e,w.heap[m]? =σ (.map a e)/\MapKept.Stamped a e/\a.toList.map gF=d
theorem c3.ext {d:List (x1×x1)} (h:c3 w m d) (J:Ext w w'):c3 w' m d:=by
 obtain⟨a,c,h1,e⟩:=h;exact⟨a,c,J.aZ m _ h1 rfl,e⟩
theorem c3.ab {d:List (x1×x1)} (h:c3 w m d) (J:ah S w w') (a:¬S m):c3 w' m d:=by
 obtain⟨e,c,h1,f⟩:=h;exact⟨e,c,J.aZ m _ h1 rfl a,f⟩
theorem c3.lt {d:List (x1×x1)} (h:c3 w m d):m<w.heap.size:=by
 obtain⟨a,c,h1,e⟩:=h;exact (n9.1 h1).1
theorem c3.nodup {d:List (x1×x1)} (h:c3 w m d):(d.map (·.1)).Nodup:=by
 obtain⟨e,c,_,⟨_,_,a⟩,rfl⟩:=h;rw[T7];exact a
theorem kk {α:Type} {l:List α} (h:l.Nodup) {i:Nat} {x:α} (hi:l[i]? =σ x) (p:l[j]? =σ x):i=j:=by
 have a:=x4.1 hi;have e:=x4.1 p;have m:=V3.1 h;rcases Nat.lt_trichotomy i j with f|rfl|f
 .exact absurd (a.2.trans e.2.symm) (m i j a.1 e.1 f)
 .rfl
 .exact absurd (e.2.trans a.2.symm) (m j i e.1 a.1 f)
theorem mr {α β:Type} (f:α->β):∀ (l:List α) (i:Nat),(l.map f).eraseIdx i=(l.eraseIdx i).map f
 |[],_=>Ξ
 |_::_,0=>rfl
 |x::l,i+1=>by simp[mr f l i]
theorem c3.uniq {d:List (x1×x1)} (h:c3 w m d) {i:Nat} {p q:x1×x1} (hi:d[i]? =σ p) (a:d[j]? =σ q) (he:p.1=q.1):i=j:=by
 have e:=h.nodup;have h1:(d.map (·.1))[i]? =σ p.1:=by rw[x8,hi];rfl
 have f:(d.map (·.1))[j]? =σ p.1:=by rw[x8,a,he];rfl
 exact kk e h1 f
theorem sn {q:Array MapEntry} {c:Nat} (h:w.heap[m]? =σ (.map q c)) (a:Array MapEntry) (e:Nat):
  ah (λr=>r=m) w {w with heap:=w.heap.setIfInBounds m (.map a e)}/\cM w {w with heap:=w.heap.setIfInBounds m (.map a e)}/\({w with heap:=w.heap.setIfInBounds m (.map a e)}:x3).heap[m]? =σ (.map a e):=by
 have U:=MapKept.heap_set (o':=.map a e) h;refine⟨⟨Ξ,λr o f j s=>?_⟩,⟨rfl,.jV,rfl,Ξ,λr o f j=>?_⟩,U.1⟩
 .show (w.heap.setIfInBounds m _)[r]? =σ o;rw[U.2 r s];exact f
 .show (w.heap.setIfInBounds m _)[r]? =σ o;by_cases p:r=m
  .subst p;rw[h] at f;cases f;cases j
  .rw[U.2 r p];exact f
theorem sq {K:x1->x3->Prop} (h:∀m w',m=w.heap.size->Ext w w'->c3 w' m []->K (.map (σ m)) w'):aD P (Instr.makeMap t ν) w K:=by
 refine .of (run_makeMap t w) (oi w _) (h _ _ rfl (oh w _) ⟨#[],0,?_,MapKept.stamped_empty 0,rfl⟩);exact heap_alloc_new w _
variable {k e:r9} {G:x1->Prop}
theorem qg {c:Bool} {d:List (x1×x1)} {x:x1} (s:P.underlying t=σ (.map k e)) (hk:Keys P k G) (hm:c3 w m d) (y:∀p∈d,G p.1) (J:G x) (a:d[j]? =σ (x,v)):
  ac P (Instr.lookup t (.map (σ m)) x c) w K=K (if c then .tuple #[v,.bool true] else v):=ac.of λw' z=>by
 obtain⟨f,A,q,B,rfl⟩:=hm.ext z;have C:∀e∈f.toList,G e.key:=λe he=>y (gF e) (l9.2 ⟨e,he,rfl⟩);rcases hk.find w' J f.toList C with⟨_,h⟩|⟨i,r,h1,h,E⟩
 .rw[x8] at a;obtain⟨F,H,I⟩:=Y5.1 a;exact absurd (congrArg Prod.fst I) (h F (x5 H))
 .have ad:r.val=v:=by
   have hi:(f.toList.map gF)[i]? =σ (gF r):=by rw[x8,h];rfl
   have L:c3 w' m (f.toList.map gF):=⟨f,A,q,B,rfl⟩;have:=L.uniq hi a E;subst this;rw[hi] at a;exact congrArg Prod.snd (b6 a)
  simp only[Instr.lookup,W0,run_underlying s,W3,MapKept.run_getObj_map q,V0,hk.check w' _ J,h1,ad]
theorem sr {c:Bool} {d:List (x1×x1)} {x:x1} (q:P.underlying t=σ (.map k e)) (hk:Keys P k G) (a:∃s b,aT P e s b z) (hm:c3 w m d) (r:∀p∈d,G p.1) (J:G x) (y:∀p∈d,p.1≠x):
  ac P (Instr.lookup t (.map (σ m)) x c) w K=K (if c then .tuple #[z,.bool false] else z):=ac.of λw' A=>by
 obtain⟨f,H,B,I,rfl⟩:=hm.ext A;have C:∀e∈f.toList,G e.key:=λe he=>r (gF e) (l9.2 ⟨e,he,rfl⟩);have E:(zeroValue e).run P w'= .ok z w':=by
  obtain⟨s,b,i,hi,_,_,a⟩:=a;simp[zeroValue,typeInfo,hi,a]
 rcases hk.find w' J f.toList C with⟨h1,h⟩|⟨i,j,h1,h,F⟩
 .simp only[Instr.lookup,W0,run_underlying q,W3,MapKept.run_getObj_map B,V0,hk.check w' _ J,h1,E]
 .exact absurd F (y (gF j) (l9.2 ⟨j,x5 h,rfl⟩))
theorem Kk {a:Array MapEntry} {e:MapEntry} {f:MapEntry->MapEntry} (h:a[j]? =σ e):(a.modify j f).toList.map gF=(a.toList.map gF).set j (gF (f e)):=by
 refine Y3 λi=>?_;simp only[x8,S4,Array.getElem?_modify,Y7,u7,Array.length_toList];by_cases m:j=i
 .subst m;have:=(n9.1 h);simp[this.1,this.2]
 .simp[m]
theorem qh {d:List (x1×x1)} {x:x1} {K:Unit->x3->Prop} (A:P.underlying t=σ (.map k e)) (hk:Keys P k G) (hm:c3 w m d) (H:∀p∈d,G p.1) (J:G x)
  (h1:∀j v0 w',d[j]? =σ (x,v0)->c3 w' m (d.set j (x,v))->ah (λr=>r=m) w w'->K () w')
  (I:∀w',(∀p∈d,p.1≠x)->c3 w' m (d++[(x,v)])->ah (λr=>r=m) w w'->K () w'):aD P (Instr.mapUpdate t (.map (σ m)) x v) w K:=by
 obtain⟨f,h,a,B,rfl⟩:=hm;have L:∀e∈f.toList,G e.key:=λe he=>H (gF e) (l9.2 ⟨e,he,rfl⟩);rcases hk.find w J f.toList L with⟨af,C⟩|⟨i,E,af,hi,he⟩
 .obtain⟨q,s,y⟩:=sn a (f.push {key:=x,val:=v,born:=h}) (h+1);refine .of (v:=()) (w':=_) ?_ s (I _ (λp M=>?_) ⟨_,_,y,MapKept.stamped_push B C,by simp[gF]⟩ q)
  .simp only[Instr.mapUpdate,W0,run_underlying A,W3,MapKept.run_getObj_map a,hk.check w _ J,af,MapKept.run_setObj_map _ a]
  .obtain⟨N,O,rfl⟩:=l9.1 M;exact C N O
 .have z:f[i]? =σ E:=by simpa using hi
  obtain⟨q,s,y⟩:=sn a (f.modify i λe=>{e with key:=x,val:=v}) h;refine .of (v:=()) (w':=_) ?_ s (h1 i E.val _ (by rw[x8,hi];simp[gF,he]) ⟨_,_,y,MapKept.stamped_modify B _ _ (λ_ _=>rfl) (λQ _ F=>by rw[z] at F;cases F;exact he.symm),Kk z⟩ q);simp only[Instr.mapUpdate,W0,run_underlying A,W3,MapKept.run_getObj_map a,hk.check w _ J,af,z,Z3,V9,he,hk.stays w J,MapKept.run_setObj_map _ a]
theorem Kl {B C:r9} {d:List (x1×x1)} {x:x1} {K:x1->x3->Prop} (y:P.underlying t=σ (.map k e)) (hk:Keys P k G) (hm:c3 w m d) (E:∀p∈d,G p.1) (J:G x)
  (h1:∀j v0 w',d[j]? =σ (x,v0)->c3 w' m (d.eraseIdx j)->ah (λr=>r=m) w w'->K (.tuple #[]) w')
  (F:∀w',(∀p∈d,p.1≠x)->c3 w' m d->ah (λr=>r=m) w w'->K (.tuple #[]) w'):aD P (Z2.delete_ #[t,B] C #[.map (σ m),x]) w K:=by
 obtain⟨f,z,a,A,rfl⟩:=hm;have H:∀e∈f.toList,G e.key:=λe he=>E (gF e) (l9.2 ⟨e,he,rfl⟩);rcases hk.find w J f.toList H with⟨af,I⟩|⟨i,L,af,hi,he⟩
 .obtain⟨h,q,s⟩:=sn a f z;refine .of (v:=.tuple #[]) (w':=_) ?_ q (F _ (λp M=>?_) ⟨_,_,s,A,rfl⟩ h)
  .simp only[Z2.delete_,List.getElem?_toArray,List.getElem?_cons_zero,List.getElem?_cons_succ,W0,run_underlying y,W3,MapKept.run_getObj_map a,hk.check w _ J,af,MapKept.run_setObj_map _ a,V0]
  .obtain⟨N,O,rfl⟩:=l9.1 M;exact I N O
 .obtain⟨h,q,s⟩:=sn a (f.eraseIdxIfInBounds i) z;refine .of (v:=.tuple #[]) (w':=_) ?_ q (h1 i L.val _ (by rw[x8,hi];simp[gF,he]) ⟨_,_,s,MapKept.stamped_erase A _,by rw[mr];simp⟩ h);simp only[Z2.delete_,List.getElem?_toArray,List.getElem?_cons_zero,List.getElem?_cons_succ,W0,run_underlying y,W3,MapKept.run_getObj_map a,hk.check w _ J,af,MapKept.run_setObj_map _ a,V0]
theorem Km {a:r9} {d:List (x1×x1)} (f:P.underlying t=σ (.map k e)) (hm:c3 w m d):ac P (W8 #[t] a #[.map (σ m)]) w K=K (Δ d.length):=ac.of λw' h=>by
 obtain⟨p,q,j,r,rfl⟩:=hm.ext h;simp[W8,run_underlying f,MapKept.run_getObj_map j,goInt]
def hq (w:x3) (j m:Nat) (d left:List (x1×x1)) (q:Option (x1×x1)):Prop:=∃a f seen gR,w.heap[m]? =σ (.map a f)/\MapKept.Stamped a f/\a.toList.map gF=d/\
 w.heap[j]? =σ (.mapIter (σ m) f seen gR)/\f<=gR/\(leftOf a seen).toList.map gF=left/\ ∀p,q=σ p->gR=f/\ ∃h,a.toList.find? (λe=>e.born == seen.back?.getD 0)=σ h/\seen.back? =σ h.born/\gF h=p
theorem hq.map {d left:List (x1×x1)} {e:Option (x1×x1)} (h:hq w a m d left e):c3 w m d:=by
 obtain⟨f,c,_,_,h1,j,p,_⟩:=h;exact⟨f,c,h1,j,p⟩
theorem hq.aZ {d left:List (x1×x1)} {e:Option (x1×x1)} (h:hq w a m d left e) (J:ah S w w') (hm:¬S m) (hi:eW w w'):hq w' a m d left e:=by
 obtain⟨f,c,s,gR,h1,j,p,q,r⟩:=h;exact⟨f,c,s,gR,J.aZ m _ h1 rfl hm,j,p,hi a _ q rfl,r⟩
theorem hq.ext {d left:List (x1×x1)} {e:Option (x1×x1)} (h:hq w a m d left e) (J:Ext w w') (hi:eW w w'):hq w' a m d left e:=
 h.aZ (J.ab λ_=>False) (λh=>h) hi
theorem Kn (a:Array MapEntry):leftOf a #[]=a:=by
 unfold leftOf;exact Array.filter_eq_self.2 λx J=>Ξ
theorem Bh {d:List (x1×x1)} {K:x1->x3->Prop} (r:P.underlying t=σ (.map k e)) (hm:c3 w m d)
  (h:∀a w',a=w.heap.size->Ext w w'->eW w w'->hq w' a m d d ν->K (Γ a) w'):aD P (Instr.range t (.map (σ m))) w K:=by
 obtain⟨j,f,q,s,rfl⟩:=hm;refine .of (run_range_map w t k e m j f r q) (oi w _) (h _ _ rfl (oh w _) (oi w _).jW ⟨j,f,#[],f,(oh w _).aZ m _ q rfl,s,rfl,heap_alloc_new w _,p8 _,by rw[Kn],λp x=>by cases x⟩)
theorem Bi:∀ (l:List MapEntry) (j:Nat) (a:MapEntry),(l.map (·.born)).Nodup->l[j]? =σ a->l.filter (λx=>!(x.born == a.born))=l.eraseIdx j
 |[],j,a,_,h=>by simp at h
 |x::l,0,a,f,h=>by
  simp at h;subst h;have e:=List.nodup_cons.1 (by simpa using f:(x.born::l.map (·.born)).Nodup);simp only[List.filter_cons,beq_self_eq_true,Y6,Bool.false_eq_true,if_false,List.eraseIdx_cons_zero];refine List.filter_eq_self.2 λy m=>?_;have:y.born≠x.born:=λhe=>e.1 (he▸l9.2 ⟨y,m,rfl⟩);simpa using this
 |x::l,j+1,a,f,h=>by
  simp at h;have e:=List.nodup_cons.1 (by simpa using f:(x.born::l.map (·.born)).Nodup);have J:x.born≠a.born:=λhe=>e.1 (he▸l9.2 ⟨a,x5 h,rfl⟩);have p:=Bi l j a e.2 h;simp only[List.filter_cons,List.eraseIdx_cons_succ,p];simp[J]
theorem Bj {free:ft} {d left:List (x1×x1)} {Q:Option (x1×x1)} {K:x1->x3->Prop} (h:hq w a m d left Q) (af:free.1=false->free.2<=a)
  (R:left=[]->K (.tuple #[.bool false]) w)
  (h1:∀j p w',left[j]? =σ p->Ext w w'->cC a w w'->hq w' a m d (left.eraseIdx j) (σ p)->K (.tuple #[.bool true,p.1,p.2]) w'):q9 P free (Instr.next (Γ a) false 0) w K:=by
 obtain⟨q,s,seen,gR,z,B,rfl,hi,S,rfl,_⟩:=h;have G:∀x∈q.toList,x.born<s:=B.1;have H:=B.2.1;have I:∀x∈(leftOf q seen).toList,x.born<s:=λx J=>G x (mem_left J).1;have T:∀ (V:x3) (o':Obj),V.heap=w.heap->(setObj a o').run P V= .ok () {V with heap:=V.heap.setIfInBounds a o'}:=λV o' he=>by
  simp only[setObj,Sem.run];rw[he,hi]
 unfold q9;simp only[Instr.next,getObj,W0,Sem.run,hi,z,W3,next_test_false seen q s gR G S,Bool.false_eq_true,if_false];have W:Array.filter (λe=>!seen.contains e.born) q=leftOf q seen:=rfl;rw[W];have X:((leftOf q seen).toList.map (·.born)).Nodup:=by
  unfold leftOf;rw[Array.toList_filter];exact (List.Sublist.map _ List.filter_sublist).nodup H
 have Y:∀A:MapEntry,leftOf q (seen.push A.born)=(leftOf q seen).filter λx=>!(x.born == A.born):=λA=>by
  unfold leftOf;rw[Array.filter_filter];congr 1;funext x;rw[contains_push];cases seen.contains x.born<;>cases x.born == A.born<;>rfl
 generalize Z:leftOf q seen=L at*;have aa:L.filter (λx=>decide (x.born<s))=L:=Array.filter_eq_self.2 (λx J=>by simpa using I x (by simpa using J));have ab:L.filter (λx=>decide (x.born≥s))= #[]:=by
  rw[Array.filter_eq_empty_iff];intro x J;have:=I x (by simpa using J);simp;omega
 simp only[aa,ab,Array.append_empty];by_cases M:L.size=0
 .have ac:L= #[]:=Array.eq_empty_of_size_eq_zero M;subst ac;refine⟨.tuple #[.bool false],w,?_,λ_=>cC.refl _ _,R rfl⟩;simp[choose,Sem.run,Question.forced]
 .have ad:L.isEmpty=false:=by simp[Array.isEmpty,M]
  simp only[ad,Bool.false_eq_true,if_false,Array.empty_append,Array.size_map];have ae:∃ (j:Nat) (n:Nat),j<L.size/\w.drawn<=n/\(choose (Question.mapNext L.size)).run P w= .ok j {w with drawn:=n}:=by
   by_cases af:L.size<=1
   .exact⟨0,w.drawn,Ω,p8 _,by simp[choose,Sem.run,Question.forced,af]⟩
   .exact⟨_,w.drawn+1,Nat.mod_lt _ Ω,Nat.le_succ _,by
     simp only[choose,Sem.run,Question.forced,decide_eq_true_eq,af,if_false,Question.cut];rfl⟩
  obtain⟨j,n,C,N,ag⟩:=ae;have O:L.toList[j]? =σ L[j]:=by simp[C]
  have ah:L[j]∈q.toList:=(mem_left (seen:=seen) (by rw[Z];exact Array.mem_toList_iff.2 (Array.getElem_mem C))).1;refine⟨.tuple #[.bool true,L[j].key,L[j].val],{w with drawn:=n,heap:=w.heap.setIfInBounds a (.mapIter (σ m) s (seen.push L[j].born) s)},?_,?_,?_⟩
  .have U:=T {w with drawn:=n} (.mapIter (σ m) s (seen.push L[j].born) s) rfl;simp only[ag,Array.getElem?_map,Array.getElem?_eq_getElem C,Z3,W0,U,W3,V0]
  .intro ai;have:=af ai;refine⟨rfl,⟨rfl,N⟩,rfl,Ξ,λr o f E=>?_,λr o aj f F=>?_⟩
   .show (w.heap.setIfInBounds a _)[r]? =σ o;by_cases y:r=a
    .subst y;rw[hi] at f;cases f;cases E
    .rw[(MapKept.heap_set hi).2 r y];exact f
   .show (w.heap.setIfInBounds a _)[r]? =σ o;rw[(MapKept.heap_set hi).2 r Ω];exact f
  .refine h1 j (gF L[j]) _ (by rw[x8,O];rfl) ⟨Ξ,λr o f F=>?_⟩ ⟨rfl,⟨rfl,N⟩,rfl,Ξ,λr o f E=>?_,λr o aj f F=>?_⟩ ⟨q,s,seen.push L[j].born,s,?_,B,rfl,?_,p8 _,?_,λp ak=>⟨rfl,L[j],?_,Ξ,b6 ak⟩⟩
   .show (w.heap.setIfInBounds a _)[r]? =σ o;by_cases y:r=a
    .subst y;rw[hi] at f;cases f;cases F
    .rw[(MapKept.heap_set hi).2 r y];exact f
   .show (w.heap.setIfInBounds a _)[r]? =σ o;by_cases y:r=a
    .subst y;rw[hi] at f;cases f;cases E
    .rw[(MapKept.heap_set hi).2 r y];exact f
   .show (w.heap.setIfInBounds a _)[r]? =σ o;rw[(MapKept.heap_set hi).2 r Ω];exact f
   .show (w.heap.setIfInBounds a _)[m]? =_;rw[(MapKept.heap_set hi).2 m (λhe=>by subst he;rw[hi] at z;cases z)];exact z
   .exact (MapKept.heap_set hi).1
   .rw[Y,Array.toList_filter,Bi _ _ _ X O,mr]
   .simp only[Array.back?_push,V9];exact find_born _ _ H ah
theorem Bk {d left:List (x1×x1)} {p:x1×x1} {K:x1->x3->Prop} (h:hq w a m d left (σ p)) (j:K (.tuple #[p.1,p.2]) w):aD P (Instr.entry (Γ a)) w K:=by
 obtain⟨s,x,seen,gR,q,y,rfl,hi,z,rfl,r⟩:=h;obtain⟨rfl,e,h1,f,rfl⟩:=r p rfl;refine .of (v:=.tuple #[e.key,e.val]) (w':=w) ?_ (cM.refl _) j;rw[f] at h1;simp only[Instr.entry,getObj,W0,Sem.run,hi,q,W3,f,bne_self_eq_false,Bool.false_eq_true,if_false,<-Array.find?_toList];simp only[V9] at h1;rw[h1];rfl
end
end Go.Vc
namespace Go.Proofs.YtmgflbkdggdhoaaGreatDoor
open Go Go.Vc Go.RowKit Go.Proofs Go.Proofs.Tryz
set_option maxRecDepth 100000
def ea (ks:Λ):x1:=.agg (ints .i8 ks).toArray
def kU (ks:Λ):Prop:=ks.length=6/\ ∀x∈ks,0<=x/\x<32
theorem Ko {a b:Λ} (h:ea a=ea b):a=b:=by
 unfold ea at h;have h:ints .i8 a=ints .i8 b:=congrArg Array.toList (x1.agg.inj h);have e:∀l:Λ,(ints .i8 l).map valOf=l:=λl=>by
  unfold ints;rw[T7];exact List.map_id l
 rw[<-e a,<-e b,h]
theorem Bl (ks:Λ):(ea ks).cells.toList=ints .i8 ks:=by simp[ea,x1.cells]
theorem Kp:WideMaps.ArrKey x7 cG fL 6:=⟨cG.u,Ψ,Ψ,Ψ⟩
theorem keys:Keys x7 cG λv=>∃l,keyOf x7 cG v=σ l:=Keys.law Kp.law
theorem vu (h:kU ks):∃l,keyOf x7 cG (ea ks)=σ l:=by
 obtain⟨q,j⟩:=h
 match ks,q with
 |[a,b,c,d,e,f],_=>
  have r:=j a Ξ;have s:=j b Ξ;have w:=j c Ξ;have rd:=j d Ξ;have y:=j e Ξ;have jV:=j f Ξ;have wf:∀x:Int,0<=x/\x<32->(Lit.int .i8 x).wf=true:=λx J=>by
   simp only[Lit.wf,V1,decide_eq_true_eq];have E:o5.i8.min= -128:=Φ
   have F:o5.i8.max=127:=Φ
   omega
  have m:decide (0<x7.types.size)=true:=Ψ
  have m:=of_decide_eq_true m;obtain⟨n,z⟩:∃n,x7.types.size=n+1:=⟨x7.types.size-1,Ω⟩;have one:∀x:Int,0<=x/\x<32->x7.keyLits (n+1) fL [.int .i8 x]=σ [.int .i8 x]:=λx J=>by
   unfold W5.keyLits;rw[fL.u];simp[wf x J]
  unfold keyOf;rw[cG.u];simp only;have A:x7.keyType cG=true:=Ψ
  have B:x7.cellsOf fL=1:=Ψ
  have p:x7.cellsOf cG=6:=Ψ
  have af:(ea [a,b,c,d,e,f]).formed x7 cG=true:=by
   unfold ea x1.formed;rw[cG.u,p];rfl
  rw[A,af,Bl,z];simp only[Bool.and_self,if_true];unfold W5.keyLits;rw[cG.u];simp only[p,B,ints];have C:X4 6=[0,1,2,3,4,5]:=Φ
  simp[C,one a r,one b s,one c w,one d rd,one e y,one f jV]
def pad (t:Λ):Λ:=t++r8 (6-t.length) 0
theorem Kq {t:Λ} (e:t.length<=6) (a:∀x∈t,0<=x/\x<32):kU (pad t):=
 ⟨by simp[pad];omega,λx J=>by
  rcases o7.1 J with h|h
  .exact a x h
  .have:=(List.mem_replicate.1 h).2;omega⟩
theorem Kr {a b:Λ} (e:a.length=b.length) (h:pad a=pad b):a=b:=by
 unfold pad at h;exact (List.append_inj h e).1
theorem Bm {t:Λ}:(pad t).take t.length=t:=by simp[pad]
theorem nz {b o:Nat} (a:ks.length=6) (h:w.rangeAt b o (ints .i8 ks)):ac x7 (u4 cG (.pointer (σ ⟨b,o,ν⟩))) w K=K (ea ks):=
 zw cG.u rfl cG.i (by simp[a]) h
theorem Ks {b o:Nat} (a:ks.length=6) (h:w.rangeAt b o (ints .i8 ks)):ac x7 (do loadVar cG (<-asAddr (.pointer (σ ⟨b,o,ν⟩)))) w K=K (ea ks):=ac.of λw' J=>by
 have:=run_loadVar_mid (P:=x7) w' b o cG (ints .i8 ks) (.array 6 fL) (ne J h) cG.u rfl (by rw[cG.i.size];simp[a]);simp only[asAddr,W0,V0,Result.andThen_ok,this];rfl
theorem qi {g:Nat} {K:Unit->x3->Prop} (a:ks.length=6) (e:cs.length=6) (f:ag w g cG cs)
  (h:∀w',ah (λr=>r=g) w w'->w'.heap.size=w.heap.size->ag w' g cG (ints .i8 ks)->K () w'):aD x7 (o6 cG (Γ g) (ea ks)) w K:=
 ch (vs:=ints .i8 ks) cG.i (by simp[a]) e (λv ad=>by obtain⟨x,_,rfl⟩:=l9.1 ad;rfl) f h
def ss:List x1:=[.int .i8 0,.int .i8 0,.int .i8 0,.int .i8 0,.int .i8 0,.int .i8 0]
theorem Kt {x:Int}:am x7 rJ [Δ x] w λv w'=>v= .bool (decide (¬h4 x))/\Ext w w':=by
 refine az func190 ?_;simp only[cv,aO,bU,al];refine⟨λh=>⟨?_,Ext.refl _⟩,λh=>⟨?_,Ext.refl _⟩⟩
 .rw[decide_eq_true];intro a;have:=a.1;omega
 .congr 1;have:(32<x)=(¬h4 x):=propext ⟨λe a=>by have:=a.2;omega,λe=>by
   by_cases f:32<x
   .exact f
   .exact absurd ⟨Ω,Ω⟩ e⟩
  simp only[this]
theorem Ku (h:aF .i64 w sv l):
  am x7 uD [sv,.func (.func rJ) #[] #[]] w λv w'=>Ext w w'/\ ∃n:Int,v=Δ n/\((0<=n)=¬∀x∈l,h4 x):=by
 have r:=h.le;refine az func102 ?_;rw[aW an.u h];refine⟨λ_ t V=>Ext w V/\ ∃i:Nat,t=Δ i/\i<=l.length/\ ∀x∈l.take i,h4 x,λ_ t _=>l.length-(bX t).toNat,⟨Ext.refl _,0,rfl,X3 _,Ξ⟩,?_⟩;rintro _ _ V ⟨J,i,rfl,hi,e⟩;simp only[aO,al];refine⟨λs=>?_,λz=>⟨J,-1,rfl,?_⟩⟩
 .obtain⟨x,f⟩:=aH (l:=l) (i:=i) Ω;rw[bc an.u ai.i Ψ (h.ext J) f];show am x7 rJ [Δ x] V _;refine Kt.mono ?_;rintro _ aa _ ⟨rfl,j⟩;simp only[al,aP];refine⟨λm=>⟨J.trans j,i,rfl,?_⟩,λp=>?_⟩
  .exact propext ⟨λ_ q=>m (q x (x5 f)),λ_=>Ω⟩
  .rw[wrap_i64 Ω Ω];refine⟨⟨J.trans j,i+1,rfl,Ω,λy a=>?_⟩,?_⟩
   .rw[u9,f] at a;rcases o7.1 a with a|a
    .exact e y a
    .simp at a;subst a;exact Z9.1 p
   .simp only[bX];omega
 .have:i=l.length:=Ω
  rw[this,p9] at e;exact propext ⟨λh=>Ω,λh=>absurd e h⟩
theorem Bn (h:aF .i64 w sv l):
  am x7 uG [sv,.func (.func rJ) #[] #[]] w λv w'=>v= .bool (decide (¬∀x∈l,h4 x))/\Ext w w':=by
 refine az func191 ?_;refine (Ku h).mono ?_;rintro _ V _ ⟨J,n,rfl,a⟩;simp only[cP];exact⟨by congr 1;simp only[a],J⟩
abbrev Told:=List (Λ×Int)
def jC (p:Λ×Int):x1×x1:=(ea (pad p.1),Δ p.2)
def eJ (w:x3) (g m:Nat) (aj:Λ) (k o:Int) (D:Told):Prop:=
 (∃sv gs,ag w g fy [sv,Δ k,Δ o,.map (σ m)]/\au .i64 ai w gs sv aj)/\c3 w m (D.map jC)/\b1 aj/\cq o k/\ ∀p∈D,dh aj p.1/\cq p.2 k/\p.2≠o
theorem eJ.ext {g:Nat} {o:Int} {D:Told} (h:eJ w g m aj k o D) (J:Ext w w'):eJ w' g m aj k o D:=by
 obtain⟨⟨sv,gs,h1,a⟩,e,f⟩:=h;exact⟨⟨sv,gs,h1.ext J,a.ext J⟩,e.ext J,f⟩
theorem vv {t:Λ} (U:b1 aj) (h:dh aj t):t.length=aj.length/\ ∀x∈t,0<=x/\x<32:=by
 obtain⟨h1,f⟩:=nv.1 h;refine⟨h1.symm,λx J=>?_⟩;obtain⟨i,hi,rfl⟩:=List.getElem_of_mem J;obtain⟨a,e⟩:=aH (l:=aj) (i:=i) Ω;have j:=f i a _ e (x6 hi);have m:=(U.2 a (x5 e)).2;omega
theorem qj {t:Λ} (U:b1 aj) (h:dh aj t):kU (pad t):=by
 obtain⟨h1,a⟩:=vv U h;exact Kq (by rw[h1];exact U.1) a
theorem eJ.oU {g:Nat} {o:Int} {D:Told} (h:eJ w g m aj k o D):∀p∈D.map jC,∃l,keyOf x7 cG p.1=σ l:=λp a=>by
 obtain⟨q,e,rfl⟩:=l9.1 a;exact vu (qj h.2.2.1 (h.2.2.2.2 q e).1)
theorem Bo {s t:Λ} (U:dh aj s) (a:dh aj t) (h:ea (pad s)=ea (pad t)):s=t:=
 Kr ((r7 U).symm.trans (r7 a)) (Ko h)
theorem eJ.nodup {g:Nat} {o:Int} {D:Told} (h:eJ w g m aj k o D):(D.map (·.1)).Nodup:=by
 have e:=h.2.1.nodup;rw[T7] at e;refine List.Pairwise.of_map (S:=λa b=>a≠b) (λt=>ea (pad t)) (λa b h he=>h (by rw[he])) ?_;rw[T7];exact e
def Kv (w:x3) (l:Λ) (k o:Int) (v:x1) (w':x3):Prop:=
 Ext w w'/\(¬b1 l->v= .tuple #[.pointer ν,Δ 1])/\(b1 l->¬cq o k->v= .tuple #[.pointer ν,Δ 3])/\
  (b1 l->cq o k-> ∃g m,v= .tuple #[Γ g,Δ 0]/\w.heap.size<=g/\w.heap.size<=m/\eJ w' g m l k o [])
theorem Bp {o:Int} (h:aF .i64 w sv l):am x7 om [sv,Δ k,Δ o] w (Kv w l k o):=by
 refine az func144 ?_;refine aV (λv V=>Ext w V/\ ∃c,v= .bool c/\(c=true↔¬b1 l)) ?_ ?_
 .rintro _ V ⟨e,c,rfl,f⟩;rw[ce];refine⟨λs=>⟨e,λ_=>rfl,λh=>absurd h (f.1 s),λh=>absurd h (f.1 s)⟩,λaf=>?_⟩;have U:b1 l:=Classical.byContradiction λh=>by have:=f.2 h;rw[af] at this;cases this
  have E:=U.1;refine jy.mono ?_;rintro _ aa _ ⟨rfl,a⟩;by_cases hi:cq o k
  rotate_left
  .simp only[hi,decide_false,bG,X9,bQ];exact⟨e.trans a,λh=>absurd U h,λ_ _=>rfl,λ_ h=>absurd h hi⟩
  simp only[hi,decide_true,bG,Y6,a1];refine (kd ((h.ext e).ext a) Ω).mono ?_;rintro aI G _ ⟨x,z,H,hm⟩;have I:=hm.ls.cells;refine sq λm J K j A=>?_;rw[dn (cs:=#[aI,Δ k,Δ o,.map (σ m)]) (by obtain⟨_,_,_,_,_,rfl,_⟩:=hm.ls;kernel_rfl)];refine be λg L M q B=>?_;have N:=e.size;have O:=a.size;have P:=x.size;have Q:=j.size;exact⟨((((e.trans a).trans x).trans j).trans q),λh=>absurd U h,λ_ h=>absurd hi h,λ_ _=>⟨g,m,rfl,Ω,Ω,⟨aI,z,B,(hm.ext j).ext q⟩,A.ext q,U,hi,λp C=>by cases C⟩⟩
 .intro aA y;rw[aW an.u h];simp only[bU,al];refine⟨λR=>y _ _ ⟨Ext.refl _,true,rfl,λ_ U=>by have:=U.1;omega,λ_=>rfl⟩,λS=>?_⟩;refine (Bn h).mono ?_;rintro _ aa _ ⟨rfl,a⟩;refine y _ _ ⟨a,_,rfl,?_⟩;rw[decide_eq_true_eq];exact⟨λr U=>r U.2,λr U=>r ⟨Ω,U⟩⟩
def iC (t:Λ) (i:Nat):Λ:=t.take i++r8 (6-i) 0
theorem Kw {t:Λ} {i:Nat} (hi:i<=t.length) (a:t.length<=6):(iC t i).length=6:=by simp[iC];omega
theorem Kx {t:Λ} {i:Nat} {x:Int} (J:t[i]? =σ x) (e:t.length<=6):(iC t i).set i x=iC t (i+1):=by
 have hi:=(x4.1 J).1;unfold iC;have a:(t.take i).length=i:=by rw[j6];omega
 rw[T2 _ _ Ω,a,V7,u9,J];have:6-i=(6-(i+1))+1:=Ω
 rw[this,List.replicate_succ];simp
theorem Ky (t:Λ):iC t t.length=pad t:=by simp[iC,pad]
def Bq (w:x3) (aj t:Λ) (v:x1) (w':x3):Prop:=Ext w w'/\ ∃ks e,v= .tuple #[ea ks,Δ e]/\ks.length=6/\(dh aj t->ks=pad t/\e=0)/\(¬dh aj t->e=3)
theorem Kz {g:Nat} {t:Λ} {o:Int} {D:Told} {aI:x1} (h:eJ w g m aj k o D) (E:aF .i64 w aI t):am x7 HV [Γ g,aI] w (Bq w aj t):=by
 obtain⟨⟨sv,gs,G,hm⟩,_,U,_⟩:=h;have aG:=U.1;refine az func192 ?_;refine bD cG.i λA V aK R B=>?_;refine bD cG.i λaq aa aL H I=>?_;have s:=R.trans H;have aM:=R.size;have aN:=H.size;have aR:=B.lt;have aS:=I.lt;have aT:=G.lt;have B:=B.ext H;have af:=G.ext s;rw[db eO.u];simp only[Z4,a1];have K:∀ {f:x3} {ks:Λ} {e:Int},Ext w f->ag f aq cG (ints .i8 ks)->ag f A cG ss->ks.length=6->(dh aj t->ks=pad t/\e=0)->(¬dh aj t->e=3)->
   ac x7 (u4 cG (Γ aq)) f λah=>aD x7 (o6 cG (Γ A) ah) f λ(_:Unit) L=>ac x7 (do loadVar cG (<-asAddr (Γ A))) L λak=>Bq w aj t (.tuple #[ak,Δ e]) L:=by
  intro f ks e q r y C ad M;rw[nz C r.range];refine qi C rfl y λL ao aU ap=>?_;rw[Ks C ap.range];exact⟨q.put ao Ω,ks,e,rfl,C,ad,M⟩
 rw[aW an.u (E.ext s),aQ fy.p 0 af rfl,aW an.u (hm.ls.ext s)];simp only[bm,al];have S:ints .i8 (iC t 0)=ss:=by simp[iC,ss,ints]
 refine⟨λau=>K s (ks:=iC t 0) (e:=3) (by rw[S];exact I) B (by simp[iC]) (λad=>absurd (by rw[r7 ad]) au) (λ_=>rfl),λW=>?_⟩;have W:t.length=aj.length:=Ω
 rw[aW an.u (E.ext s)];refine bZ.range t.length (λi _ f=>Ext w f/\ag f aq cG (ints .i8 (iC t i))/\ag f A cG ss/\ ∀ (j:Nat) (a x:Int),j<i->aj[j]? =σ a->t[j]? =σ x->0<=x/\x<a) Ω
  ⟨s,by rw[S];exact I,B,λj a x av=>Ω⟩ ?_ ?_
 .rintro i _ f aw hi ⟨q,r,y,N⟩ ax;simp only[aO,al];refine⟨λ_=>?_,λh=>Ω⟩;obtain⟨x,J⟩:=aH (l:=t) hi;obtain⟨a,z⟩:=aH (l:=aj) (i:=i) Ω;have aX:=U.2 a (x5 z);rw[bc an.u ai.i Ψ (E.ext q) J];have X:=Kw (t:=t) (i:=i) Ω Ω;refine aV (λv ay=>f=ay/\v= .bool (decide (¬(0<=x/\x<a)))) ?_ ?_
  .rintro _ _ ⟨rfl,rfl⟩;simp only[al];refine⟨λaB=>K q r y X (λad=>absurd ((nv.1 ad).2 i a x z J) aB) (λ_=>rfl),λO=>?_⟩;have O:=Z9.1 O;rw[fd ai.u fL.u,IR Ω Ω,uQ cG.u fL.i Ω];refine bq fL.i rfl rfl r (by simp[X];omega) λaY Y aZ Z=>?_;simp only[aP];refine ax _ _ ⟨q.put Y Ω,?_,y.ab Y (by show ¬(A=aq);omega),λj a' aC av P Q=>?_⟩
   .have e:(ints .i8 (iC t i)).set (0+i*1) (.int .i8 x)=ints .i8 (iC t (i+1)):=by
     rw[<-Kx J Ω];simp[ints,V8]
    rw[e] at Z;exact Z
   .by_cases aE:j=i
    .subst aE;rw[z] at P;rw[J] at Q;cases P;cases Q;exact O
    .exact N j a' aC Ω P Q
  .intro aA ae;simp only[aO,al];refine⟨λa2=>ae _ _ ⟨rfl,by rw[decide_eq_true];omega⟩,λa6=>?_⟩;rw[aQ fy.p 0 (G.ext q) rfl,bc an.u ai.i Ψ (hm.ls.ext q) z,cP];refine ae _ _ ⟨rfl,?_⟩;congr 1;exact decide_eq_decide.2 ⟨λh aJ=>Ω,λh=>Ω⟩
 .rintro _ f aw ⟨q,r,y,N⟩;simp only[aO,al];refine⟨λh=>Ω,λ_=>?_⟩;rw[Ky] at r;exact K q r y (by simp[pad];omega) (λ_=>⟨rfl,rfl⟩) (λM=>absurd (nv.2 ⟨W.symm,λj a x z J=>N j a x (x4.1 J).1 z J⟩) M)
def h8 (D:Told) (o:Int) (t:Λ):Int:=match D.find? (λp=>decide (p.1=t)) with
 |some p=>p.2
 |none=>o
theorem Br {D:Told} (e:(D.map (·.1)).Nodup) {p q:Λ×Int} (f:p∈D) (m:q∈D) (h:p.1=q.1):p=q:=by
 obtain⟨i,hi⟩:=X1.1 f;obtain⟨j,a⟩:=X1.1 m;have h1:(D.map (·.1))[i]? =σ p.1:=by rw[x8,hi];rfl
 have r:(D.map (·.1))[j]? =σ p.1:=by rw[x8,a,h];rfl
 have:=kk e h1 r;subst this;rw[hi] at a;exact b6 a
theorem qk {D:Told} {o:Int} {t:Λ} (a:(D.map (·.1)).Nodup) (h:(t,c)∈D):h8 D o t=c:=by
 unfold h8;cases af:D.find? (λp=>decide (p.1=t)) with
 |none=>
  have:=List.find?_eq_none.1 af _ h;simp at this
 |some p=>
  have h1:=List.find?_some af;have h1:p.1=t:=by simpa using h1
  have:=Br a (List.mem_of_find?_eq_some af) h h1;rw[this]
theorem ql {D:Told} {o:Int} {t:Λ} (h:∀p∈D,p.1≠t):h8 D o t=o:=by
 unfold h8;cases af:D.find? (λp=>decide (p.1=t)) with
 |none=>rfl
 |some p=>
  have h1:=List.find?_some af;have h1:p.1=t:=by simpa using h1
  exact absurd h1 (h p (List.mem_of_find?_eq_some af))
def kV (D:Told) (t:Λ) (c o:Int) (D':Told):Prop:=(∀p,p∈D'↔(c≠o/\p=(t,c))\/(p∈D/\p.1≠t))/\D'.length<=D.length+1
theorem kV.cost {D D':Told} {t:Λ} {o:Int} (h:kV D t c o D') (q:(D.map (·.1)).Nodup) (f:(D'.map (·.1)).Nodup) (s:Λ):h8 D' o s=if s=t then c else h8 D o s:=by
 by_cases U:s=t
 .subst U;rw[if_pos rfl];by_cases j:c=o
  .subst j;exact ql λp a he=>by
    rcases (h.1 p).1 a with e|e
    .exact e.1 rfl
    .exact e.2 he
  .exact qk f ((h.1 _).2 (.inl ⟨j,rfl⟩))
 .rw[if_neg U];by_cases he:∃p∈D,p.1=s
  .obtain⟨p,a,rfl⟩:=he;rw[qk (c:=p.2) q a];exact qk f ((h.1 _).2 (.inr ⟨a,U⟩))
  .have m:∀p∈D,p.1≠s:=λp a h=>he ⟨p,a,h⟩;rw[ql m];exact ql λp a e=>by
    rcases (h.1 p).1 a with⟨_,rfl⟩|⟨r,_⟩
    .exact U e.symm
    .exact m p r e
theorem KA {D:Told} {t:Λ} {o v0:Int} (m:(D.map (·.1)).Nodup) (f:D[j]? =σ (t,v0)) (q:c≠o):kV D t c o (D.set j (t,c)):=by
 have h:=(x4.1 f).1;refine⟨λp=>⟨λa=>?_,λa=>?_⟩,Ξ⟩
 .obtain⟨i,hi⟩:=X1.1 a;by_cases e:j=i
  .subst e;rw[c7 h] at hi;exact .inl ⟨q,(b6 hi).symm⟩
  .rw[Y0 e] at hi;refine .inr ⟨x5 hi,λhe=>e ?_⟩;exact kk m (x:=t) (by rw[x8,f];rfl) (by rw[x8,hi,Z3,he])
 .rcases a with⟨_,rfl⟩|⟨a,r⟩
  .exact x5 (c7 h)
  .obtain⟨i,hi⟩:=X1.1 a;have e:j≠i:=λhe=>by subst he;rw[f] at hi;cases hi;exact r rfl
   exact x5 (by rw[Y0 e];exact hi)
theorem Bs {D:Told} {t:Λ} {o:Int} (a:∀p∈D,p.1≠t) (e:c≠o):kV D t c o (D++[(t,c)]):=by
 refine⟨λp=>?_,Ξ⟩;rw[o7,o8];exact⟨λh=>h.elim (λh=>.inr ⟨h,a p h⟩) (λh=>.inl ⟨e,h⟩),λh=>h.elim (λh=>.inr h.2) (λh=>.inl h.1)⟩
theorem KB {D:Told} {t:Λ} {o v0:Int} (f:(D.map (·.1)).Nodup) (e:D[j]? =σ (t,v0)):kV D t o o (D.eraseIdx j):=by
 refine⟨λp=>⟨λa=>?_,λa=>?_⟩,by have:=List.length_eraseIdx_le D j;omega⟩
 .refine .inr ?_;obtain⟨i,m,hi⟩:=List.mem_eraseIdx_iff_getElem?.1 a;refine⟨x5 hi,λhe=>m ?_⟩;exact kk f (x:=t) (by rw[x8,hi,Z3,he]) (by rw[x8,e];rfl)
 .rcases a with⟨h,_⟩|⟨a,q⟩
  .exact absurd rfl h
  .obtain⟨i,hi⟩:=X1.1 a;exact List.mem_eraseIdx_iff_getElem?.2 ⟨i,λhe=>by subst he;rw[e] at hi;cases hi;exact q rfl,hi⟩
theorem KC {D:Told} {t:Λ} {o:Int} (a:∀p∈D,p.1≠t):kV D t o o D:=
 ⟨λp=>⟨λh=>.inr ⟨h,a p h⟩,λh=>h.elim (λh=>absurd rfl h.1) (λh=>h.1)⟩,Ω⟩
theorem Bt {g:Nat} {t:Λ} {o:Int} {D:Told} (h:eJ w g m aj k o D) (f:dh aj t) (a:(D.map jC)[j]? =σ (ea (pad t),v)):∃c,D[j]? =σ (t,c)/\v=Δ c:=by
 rw[x8] at a;obtain⟨p,e,he⟩:=Y5.1 a;have h1:=Bo (h.2.2.2.2 p (x5 e)).1 f (congrArg Prod.fst he);exact⟨p.2,by rw[e,<-h1],(congrArg Prod.snd he).symm⟩
theorem Bu {g:Nat} {t:Λ} {o:Int} {D:Told} (h:eJ w g m aj k o D) (a:∀p∈D.map jC,p.1≠ea (pad t)):∀p∈D,p.1≠t:=λp e he=>a (jC p) (l9.2 ⟨p,e,rfl⟩) (by rw[jC,he])
def KD (w:x3) (g m:Nat) (aj t:Λ) (k o c:Int) (D:Told) (v:x1) (w':x3):Prop:=
 (¬(dh aj t/\cq c k)->v=Δ 3/\Ext w w')/\(dh aj t/\cq c k->v=Δ 0/\ah (λr=>r=m) w w'/\ ∃D',kV D t c o D'/\eJ w' g m aj k o D')
theorem Bv {g:Nat} {t:Λ} {o:Int} {D:Told} {aI:x1} (h:eJ w g m aj k o D) (ae:aF .i64 w aI t):am x7 Ho [Γ g,aI,Δ c] w (KD w g m aj t k o c D):=by
 refine az func145 ?_;refine (Kz h ae).mono ?_;rintro _ V _ ⟨S,ks,e,rfl,K,af,ag⟩;rw[bo,bp];refine bD cG.i λaq aa aE W X=>?_;refine qi K rfl X λL ai aG Y=>?_;have aH:=S.size;have aK:=W.size;have aL:=X.lt;have G:Ext w L:=(S.trans W).put ai Ω;refine aV (λv M=>v=Δ 0/\(dh aj t/\cq c k)/\ah (λr=>r=m) w M/\ ∃D',kV D t c o D'/\eJ M g m aj k o D') ?_ ?_
 .rintro _ M ⟨_,h1,C⟩;exact⟨λh=>absurd h1 h,λ_=>⟨rfl,C⟩⟩
 intro aA ak;simp only[bm,al];by_cases ad:dh aj t
 rotate_left
 .have he:=ag ad;subst he;exact⟨λ_=>⟨λ_=>⟨rfl,G⟩,λh=>absurd h.1 ad⟩,λh=>by simp at h⟩
 obtain⟨rfl,rfl⟩:=af ad;refine⟨λh=>absurd rfl h,λ_=>?_⟩;have x:=h.ext G;obtain⟨⟨sv,gs,y,hm⟩,H,U,an,ao⟩:=id x;rw[aQ fy.p 1 y rfl];refine jy.mono ?_;rintro _ ap _ ⟨rfl,z⟩;have au:=G.trans z;by_cases hi:cq c k
 rotate_left
 .simp only[hi,decide_false,bG,X9,bQ];exact⟨λ_=>⟨rfl,au⟩,λh=>absurd h.2 hi⟩
 simp only[hi,decide_true,bG,Y6,a1];rw[aQ fy.p 2 (y.ext z) rfl];simp only[bg,al,er];have Z:=vu (qj U ad);have av:∀ {D':Told},kV D t c o D'-> ∀p∈D',dh aj p.1/\cq p.2 k/\p.2≠o:=λhu p aw=>by
  rcases (hu.1 p).1 aw with⟨B,rfl⟩|⟨h1,_⟩
  .exact⟨ad,hi,B⟩
  .exact ao p h1
 have I:∀ {E A:x3} {D':Told},Ext ap E->ah (λr=>r=m) E A->c3 A m (D'.map jC)->kV D t c o D'->aA (Δ 0) A:=by
  intro E A D' f q ax hu;have ay:g≠m:=λhe=>by
   obtain⟨aB,aC,aJ,_⟩:=H;have y:L.heap[g]? =_:=y;rw[he,aJ] at y;cases y
  have aD:∀r,leads sv r->r≠m:=λr ac he=>by
   subst he;obtain⟨aB,aC,aJ,_⟩:=H;obtain⟨_,⟨rfl,_⟩|⟨cap,cs,rfl,J,_⟩⟩:=hm
   .obtain⟨a,n,c,h1,_⟩:=ac;cases h1
   .obtain⟨a,n,c,h1,C⟩:=ac;cases h1;have J:L.heap[gs]? =_:=J;have C:gs=r:=C;rw[C,aJ] at J;cases J
  have N:=z.trans f;exact ak _ _ ⟨rfl,⟨ad,hi⟩,((G.trans N).ab _).trans q,D',hu,⟨sv,gs,(y.ext N).ab q ay,br (hm.ext N) q aD⟩,ax,U,an,av hu⟩
 refine⟨λB E f _ _=>?_,λB E f _ _=>?_⟩
 .rw[aQ fy.p 3 ((y.ext z).ext f) rfl,nz K ((Y.ext z).ext f).range];subst B;refine Kl iu.u keys ((H.ext z).ext f) x.oU Z (λj v0 A O s q=>?_) (λA P s q=>?_)
  .obtain⟨gR,Q,_⟩:=Bt x ad O;rw[mr] at s;exact I f q s (KB x.nodup Q)
  .exact I f q s (KC (Bu x P))
 .rw[aQ fy.p 3 ((y.ext z).ext f) rfl,nz K ((Y.ext z).ext f).range];refine qh iu.u keys ((H.ext z).ext f) x.oU Z (λj v0 A O s q=>?_) (λA P s q=>?_)
  .obtain⟨gR,Q,_⟩:=Bt x ad O;have R:(D.map jC).set j (ea (pad t),Δ c)=(D.set j (t,c)).map jC:=by rw[V8];rfl
   rw[R] at s;exact I f q s (KA x.nodup Q B)
  .have R:D.map jC++[(ea (pad t),Δ c)]=(D++[(t,c)]).map jC:=by rw[Z0];rfl
   rw[R] at s;exact I f q s (Bs (Bu x P) B)
theorem KE {g:Nat} {t:Λ} {o:Int} {D:Told} {b:Bool} (h:eJ w g m aj k o D) (ad:dh aj t)
  (h1:∀c,(t,c)∈D->K (if b then .tuple #[Δ c,.bool true] else Δ c)) (r:(∀p∈D,p.1≠t)->K (if b then .tuple #[Δ 0,.bool false] else Δ 0)):
  ac x7 (Instr.lookup iu (.map (σ m)) (ea (pad t)) b) w K:=by
 have e:=vu (qj h.2.2.1 ad);by_cases he:∃p∈D,p.1=t
 .obtain⟨p,a,rfl⟩:=he;obtain⟨j,s⟩:=X1.1 a;rw[qg iu.u keys h.2.1 h.oU e (j:=j) (v:=Δ p.2) (by rw[x8,s];rfl)];exact h1 p.2 a
 .have f:∀p∈D,p.1≠t:=λp a h=>he ⟨p,a,h⟩;rw[sr iu.u keys ⟨_,_,ap.i⟩ h.2.1 h.oU e (λq x hk=>by
   obtain⟨p,a,rfl⟩:=l9.1 x;exact f p a (Bo (h.2.2.2.2 p a).1 ad hk))]
  exact r f
theorem KF {g:Nat} {o:Int} {D:Told} (h:eJ w g m aj k o D):am x7 HY [Γ g] w λv w'=>v=Δ D.length/\Ext w w':=by
 obtain⟨⟨sv,gs,a,hm⟩,e,_⟩:=h;refine az func197 ?_;rw[db eO.u];simp only[Z4,a1];rw[aQ fy.p 3 a rfl,Km iu.u e];exact⟨Ξ,Ext.refl _⟩
theorem KG {g:Nat} {o:Int} {D:Told} (h:eJ w g m aj k o D):am x7 IB [Γ g] w λv w'=>v=Δ k/\Ext w w':=by
 obtain⟨⟨sv,gs,a,hm⟩,_⟩:=h;refine az func262 ?_;rw[db eO.u];simp only[Z4,a1];rw[aQ fy.p 1 a rfl];exact⟨rfl,Ext.refl _⟩
theorem vw {g:Nat} {o:Int} {D:Told} (h:eJ w g m aj k o D):am x7 HZ [Γ g] w λv w'=>Ext w w'/\ ∃a,w.heap.size<=a/\au .i64 ai w' a v aj:=by
 obtain⟨⟨sv,gs,e,hm⟩,_,U,_⟩:=h;have f:=U.1;refine az func198 ?_;rw[db eO.u];simp only[Z4,a1];rw[aQ fy.p 0 e rfl];exact kd hm.ls Ω
theorem KH {g:Nat} {o:Int} {D:Told} (h:eJ w g m aj k o D):am x7 IC [Γ g] w λv w'=>v=Δ aj.length/\Ext w w':=by
 refine az func263 ?_;refine (vw h).mono ?_;rintro v V _ ⟨J,a,_,hm⟩;rw[aW an.u hm.ls];exact⟨rfl,J⟩
end Go.Proofs.YtmgflbkdggdhoaaGreatDoor
namespace Go.Vc
open Go Go.RowKit
set_option maxRecDepth 100000
def leadsTo (v:x1) (r:Nat):Prop:=∃a n c,v= .slice (σ a) n c/\a.block=r
theorem fg (h:leadsTo (.slice ν 0 0) r):False:=by
 obtain⟨a,n,c,h,_⟩:=h;cases h
section
variable {α:Type} {f:α->List x1} {k:Nat}
theorem h9:∀ {L:List α},(∀a∈L,(f a).length=k)->(L.flatMap f).length=L.length*k
 |[],_=>Ξ
 |a::L,h=>by
  rw[X7,o4,h a (.head _),h9 λb e=>h b (.tail _ e),c9,U2];omega
theorem qm:∀ {L:List α} (i:Nat),(∀a∈L,(f a).length=k)->(L.flatMap f).take (i*k)=(L.take i).flatMap f
 |[],i,_=>Ξ
 |a::L,0,_=>Ξ
 |a::L,i+1,h=>by
  have e:=h a (.head _);rw[X7,List.take_succ_cons,X7,<-qm i λb j=>h b (.tail _ j),U2,Nat.one_mul,Nat.add_comm,List.take_append,e];congr 1
  .exact b8 Ω
  .congr 1;omega
theorem su:∀ {L:List α} (i:Nat),(∀a∈L,(f a).length=k)->(L.flatMap f).drop (i*k)=(L.drop i).flatMap f
 |[],i,_=>Ξ
 |a::L,0,_=>Ξ
 |a::L,i+1,h=>by
  have e:=h a (.head _);rw[X7,List.drop_succ_cons,<-su i λb j=>h b (.tail _ j),U2,Nat.one_mul,Nat.add_comm,List.drop_append,e];rw[List.drop_of_length_le Ω,List.nil_append];congr 1;omega
theorem oV {L:List α} {i:Nat} {a:α} (h:∀a∈L,(f a).length=k) (hi:L[i]? =σ a) (e:(f a)[j]? =σ v):(L.flatMap f)[i*k+j]? =σ v:=by
 have p:=(x4.1 e).1;rw[<-List.getElem?_drop,su i h];have m:=x4.1 hi;rw[X5 m.1,m.2,X7,Y1 p];exact e
theorem vx {L:List α} {i:Nat} {a:α} (h:∀a∈L,(f a).length=k) (e:(f a).length=k) (hi:i<L.length):over (L.flatMap f) (i*k) (f a)=(L.set i a).flatMap f:=by
 have m:=h9 h;have j:(i+1)*k<=L.length*k:=X6 _ hi;rw[U2,Nat.one_mul] at j;rw[me Ω,e,qm i h,show i*k+k=(i+1)*k by rw[U2,Nat.one_mul],su (i+1) h,List.set_eq_take_append_cons_drop,if_pos hi,List.flatMap_append,X7,U6]
theorem sw {vs:List x1} {o:Nat} (h1:o+vs.length<=m) (a:m<=cs.length):(over cs o vs).take m=over (cs.take m) o vs:=by
 rw[me Ω,me (by rw[j6];omega),U6,U6,List.take_append,List.take_append,List.take_take,List.take_take,List.drop_take,j6];rw[show min m o=o by omega,show min o m=o by omega,show min o cs.length=o by omega,b8 (l:=vs) Ω];congr 3;omega
def bk (f:α->List x1) (k:Nat) (e:r9) (w:x3) (g:Nat) (v:x1) (L:List α):Prop:=bW w g e k v L.length (L.flatMap f)/\ ∀a∈L,(f a).length=k
variable {P:W5} {w:x3} {e:r9} {g:Nat} {v:x1} {L:List α}
theorem bk.nil (f:α->List x1) (k:Nat) (e:r9) (w:x3) (g:Nat):bk f k e w g (.slice ν 0 0) []:=⟨bW.nil w g e k,λa h=>by cases h⟩
theorem bk.leads (h:bk f k e w g v L) (j:leadsTo v r):r=g/\g<w.heap.size:=by
 obtain⟨_,⟨rfl,_⟩|⟨cap,cs,rfl,m,_⟩⟩:=h.1
 .exact (fg j).elim
 .obtain⟨a,n,c,h1,p⟩:=j;cases h1;exact⟨p.symm,m.lt⟩
theorem bk.ab (h:bk f k e w g v L) (J:ah S w w') (a:∀r,leadsTo v r->¬S r):bk f k e w' g v L:=
 ⟨⟨h.1.1,h.1.2.imp id λ⟨cap,cs,h1,j,m⟩=>⟨cap,cs,h1,j.ab J (a g ⟨_,_,_,h1,rfl⟩),m⟩⟩,h.2⟩
theorem bk.ext (h:bk f k e w g v L) (J:Ext w w'):bk f k e w' g v L:=h.ab (J.ab λ_=>False) λ_ _ h=>h
theorem bk.sl (h:bk f k e w g v L):cd w k v L.length (L.flatMap f):=h.1.sl
theorem bk.le (h:bk f k e w g v L):L.length<=9223372036854775807:=by
 have:=cd.le h.sl;simpa[maxLen] using this
theorem fh {a:r9} (j:P.underlying t=σ (.slice e)) (h:bk f k e w g v L):ac P (W8 #[t] a #[v]) w K=K (Δ L.length):=by
 obtain⟨_,_,_,_,_,rfl,_⟩:=h.sl;exact hJ j
theorem dx {q:o5} {b:Nat} {i:Nat} (a:y=(i:Int)) (j:P.underlying t=σ (.slice e)) (hi:aT P e k b z) (h:bk f k e w g v L) (m:i<L.length):
  ac P (j4 t v (.int q y)) w K=K (.pointer (σ ⟨g,i*k,ν⟩)):=by
 subst a;obtain⟨_,⟨rfl,p⟩|⟨cap,cs,rfl,r,s⟩⟩:=h.1
 .omega
 .rw[e5 j hi m (λ_=>rfl),X0]
theorem bk.range {i:Nat} {a:α} (h:bk f k e w g v L) (hi:L[i]? =σ a):w.rangeAt g (i*k) (f a):=λj u hu=>by
 have h1:=oV h.2 hi hu;have r:=(x4.1 hi).1;obtain⟨_,⟨rfl,s⟩|⟨cap,cs,rfl,p,_,_,x,q⟩⟩:=h.1
 .omega
 .have m:=(x4.1 h1).1;rw[h9 h.2] at m;rw[<-q,Z8 m] at h1;exact p.cell h1
theorem KI {b:Nat} {i:Nat} {a:α} {K:Unit->x3->Prop} (hi:aT P t k b z) (h:bk f k e w g v L) (j:(f a).length=k) (h1:∀u∈f a,u.oneCell'=true) (q:i<L.length)
  (y:∀w',ah (λr=>leadsTo v r) w w'->w'.heap.size=w.heap.size->bk f k e w' g v (L.set i a)->K () w'):aD P (o6 t (.pointer (σ ⟨g,i*k,ν⟩)) (.agg (f a).toArray)) w K:=by
 have I:=h9 h.2;have A:(i+1)*k<=L.length*k:=X6 _ q;rw[U2,Nat.one_mul] at A;obtain⟨⟨J,⟨rfl,M⟩|⟨cap,cs,rfl,B,s,C,x,E⟩⟩,m⟩:=h
 .omega
 .have F:L.length*k<=cs.length:=by rw[x];exact X6 _ s
  refine zz hi j h1 B Ω λw' G U H=>y w' (G.mono λr _ he=>⟨_,_,_,rfl,he.symm⟩) U ⟨⟨?_,.inr ⟨cap,_,Ξ,H,by simpa using s,C,by rw[lH,x],?_⟩⟩,λb p=>?_⟩
  .rw[h9 (L:=L.set i a) λb p=>by
    rcases X8 p with h|rfl
    .exact m b h
    .exact j]
  .rw[c8,<-vx m j q,<-E,sw (by rw[j];omega) F]
  .rcases X8 p with h|rfl
   .exact m b h
   .exact j
theorem oW {b:Nat} {u:x1} {i:Nat} {a a':α} {K:Unit->x3->Prop} (hi:aT P t 1 b z) (hu:u.cells= #[u]) (h1:u.oneCell'=true) (h:bk f k e w g v L) (q:L[i]? =σ a) (af:f a'=(f a).set j u) (T:j<k)
  (H:∀w',ah (λr=>leadsTo v r) w w'->w'.heap.size=w.heap.size->bk f k e w' g v (L.set i a')->K () w'):aD P (o6 t (.pointer (σ ⟨g,i*k+j,ν⟩)) u) w K:=by
 have x:=(x4.1 q).1;have V:=h9 h.2;have I:(i+1)*k<=L.length*k:=X6 _ x;rw[U2,Nat.one_mul] at I;have J:(f a).length=k:=h.2 a (x5 q);have m:(f a').length=k:=by rw[af,c8];exact J
 have M:(L.flatMap f).set (i*k+j) u=(L.set i a').flatMap f:=by
  rw[<-vx h.2 m x];refine Y3 λp=>?_;rw[nh _ _ _ Ω,Y7,m];by_cases A:i*k<=p/\p<i*k+k
  .rw[if_pos A,af,Y7];by_cases B:i*k+j=p
   .rw[if_pos B,if_pos Ω,if_pos Ω,if_pos Ω]
   .rw[if_neg B,if_neg Ω];obtain⟨y,C⟩:∃y,(f a)[p-i*k]? =σ y:=⟨_,x6 Ω⟩;have:=oV h.2 q C;rw[show i*k+(p-i*k)=p by omega] at this;rw[this,C]
  .rw[if_neg A,if_neg Ω]
 obtain⟨⟨W,⟨rfl,X⟩|⟨cap,cs,rfl,N,E,O,F,Q⟩⟩,G⟩:=h
 .omega
 .have Y:L.length*k<=cs.length:=by rw[F];exact X6 _ E
  refine bq hi hu h1 N Ω λw' R U S=>H w' (R.mono λr _ he=>⟨_,_,_,rfl,he.symm⟩) U ⟨⟨?_,.inr ⟨cap,_,Ξ,S,by simpa using E,O,by rw[c8,F],?_⟩⟩,λb s=>?_⟩
  .rw[h9 (L:=L.set i a') λb s=>by
    rcases X8 s with h|rfl
    .exact G b h
    .exact m]
  .rw[c8,<-M,<-Q,List.take_set]
  .rcases X8 s with h|rfl
   .exact G b h
   .exact m
theorem iD {H:r9} {b:Nat} {x:x1} {a:α} {K:x1->x3->Prop} (s:P.underlying t=σ (.slice e)) (hi:aT P e k b z) (E:z.cells.size=k) (h:bk f k e w g v L) (J:cd w k x 1 (f a)) (h1:∀u∈f a,u.oneCell'=true)
  (y:(L.length+1)*b<=140737488355328) (F:L.length+1<=9223372036854775807)
  (G:∀j m w',bk f k e w' m j (L++[a])->(∀r,leadsTo j r->leadsTo v r\/w.heap.size<=r)->ah (λr=>leadsTo v r) w w'->K j w'):aD P (b9 #[t,t] H #[v,x]) w K:=by
 have I:(f a).length=k:=by have:=J.1;omega
 have A:∀j m w',bW w' m e k j (L.length+1) (L.flatMap f++f a)->bk f k e w' m j (L++[a]):=λj m w' hm=>⟨by simpa using hm,λb y=>by
  rcases o7.1 y with h'|h'
  .exact h.2 b h'
  .rw[o8.1 h'];exact I⟩
 rcases h.1.2 with⟨ad,M⟩|⟨cap,cs,ad,N,_⟩
 .have hm:bW w w.heap.size e k v L.length (L.flatMap f):=⟨h.1.1,.inl ⟨ad,M⟩⟩;subst ad;refine nj s s hi E hm J h1 (by simpa using y) (by simpa[maxLen] using F) λj m w' B p C=>G j m w' (A _ _ _ p) (λr q=>.inr ?_) (C.mono λr q h=>Ω);have:=((A _ _ _ p).leads q).1;omega
 .refine nj s s hi E h.1 J h1 (by simpa using y) (by simpa[maxLen] using F) λj m w' B p C=>G j m w' (A _ _ _ p) (λr q=>?_) (C.mono λr q h=>⟨_,_,_,ad,h.symm⟩);have:=((A _ _ _ p).leads q).1;rcases B with B|B
  .exact .inl ⟨_,_,_,ad,by show g=r;omega⟩
  .exact .inr Ω
theorem KJ {m:r9} {b:Nat} {x:x1} {a:α} {K:x1->x3->Prop} (p:P.underlying t=σ (.slice e)) (hi:aT P e k b z) (q:z.cells.size=k) (h:bk f k e w g v L) (J:cd w k x 1 (f a)) (h1:∀a,∀u∈f a,u.oneCell'=true)
  (s:(L.length+1)*b<=140737488355328) (y:L.length+1<=9223372036854775807)
  (A:∀j B w',bk f k e w' B j (L++[a])->(∀r,leadsTo j r->leadsTo v r\/w.heap.size<=r)->ah (λr=>leadsTo v r) w w'->K j w'):aD P (b9 #[t,t] m #[v,x]) w K:=iD p hi q h J (h1 a) s y A
theorem ia {b:Nat} {a:α} {x:x1} {K:x1->x3->Prop} (m:P.underlying t=σ (.slice e)) (hi:aT P e k b z) (y:k<=100000) (J:x.cells=(f a).toArray) (j:(f a).length=k)
  (p:∀v g w',g=w.heap.size->Ext w w'->bk f k e w' g v [a]->K v w'):aD P (Y4 t 1 #[(0,x)]) w K:=
 j8 m hi Ω (cs:=x.cells) (zJ Ξ (by rw[J];simpa using j)) λg w' q r h=>by
  have h:ag w' g e (f a):=by rw[J] at h;simpa using h
  exact p _ g w' q r ⟨by simpa using bW.full (k:=k) (n:=1) h Ω (by simp[maxLen]),λc s=>by rw[o8.1 s];exact j⟩
end
end Go.Vc
namespace Go.Proofs.YtmgflbkdggdhoaaGreatDoor
open Go Go.Vc Go.RowKit Go.Proofs Go.Proofs.Tryz
set_option maxRecDepth 100000
theorem vy {α:Type}:∀ {l:List α} {j:Nat} {x:α},l[j]? =σ x->(x::l.eraseIdx j).Perm l
 |[],j,x,h=>by simp at h
 |a::l,0,x,h=>by simp at h;subst h;exact List.Perm.refl _
 |a::l,j+1,x,h=>by
  simp at h;rw[List.eraseIdx_cons_succ];exact (List.Perm.swap a x _).trans ((vy h).cons a)
theorem Bw {α:Type} {l:List α} (h:j<l.length):(l.eraseIdx j).length+1=l.length:=by
 rw[List.length_eraseIdx,if_pos h];omega
def oX (w:x3) (a:Nat):Nat:=match w.heap[a]? with
 |some (.mapIter (σ m) _ seen _)=>(match w.heap[m]? with
  |some (.map e _)=>(leftOf e seen).size
  |_=>0)
 |_=>0
theorem sx {d left:List (x1×x1)} {e:Option (x1×x1)} (h:hq w a m d left e):oX w a=left.length:=by
 obtain⟨j,p,seen,gR,h1,_,_,f,_,rfl,_⟩:=h;unfold oX;rw[f];simp only;rw[h1];simp
theorem KK {w0:x3} {d d0 left:List (x1×x1)} {e:Option (x1×x1)} (h:hq w a m d left e) (hm:c3 w0 m d0) (h1:Ext w0 w) (j:Ext w0 w') (hi:eW w w'):hq w' a m d left e:=by
 obtain⟨p,c,s,gR,q,r,x,y,z⟩:=h;obtain⟨A,B,f1,_⟩:=hm;have g1:=h1.aZ m _ f1 rfl;have f:=j.aZ m _ f1 rfl;rw[q] at g1;rw[<-g1] at f;exact⟨p,c,s,gR,f,r,x,hi a _ y rfl,z⟩
abbrev nA (w:x3) (g:Nat) (v:x1) (L:List (Λ)):Prop:=bk (ints .i8) 6 cG w g v L
theorem Bx {k:o5}:∀u∈ints k l,u.oneCell'=true:=λu hu=>by
 obtain⟨x,_,rfl⟩:=l9.1 hu;rfl
theorem keysIter {de:Nat} {d:List (x1×x1)} {KS:List (Λ)} {w0:x3} (Q:ag w0 de iu [.map (σ m)]) (hm:c3 w0 m d) (R:d.map (·.1)=KS.map ea) (S:∀ks∈KS,ks.length=6):
  od x7 true lB [Γ de] ([]:List (Λ)) (λh=>h.Perm KS) (λh vs h' _=>∃ks∈KS,h.length<KS.length/\vs=[ea ks]/\h'=h++[ks]) (λw=>Ext w0 w):=by
 refine⟨lB.enters,λl aA aF w f _ U J W=>?_⟩;refine pM func260 ?_;rw[ay Ψ ((Q.ext J).Qz rfl)];refine aD.cu (Bh iu.u (hm.ext J) λA V X q aG Y Z=>?_);refine⟨λaa=>∃h a left B,aA h aa/\Ext w0 aa/\w.heap.size<=aa.heap.size/\hq aa A m d left B/\left.map (·.1)=a.map ea/\(h++a).Perm KS,λaa=>oX aa A,
  ⟨[],KS,d,ν,f _ _ _ q Z.b W,J.trans q,q.size,Y,R,List.Perm.refl _⟩,?_⟩
 rintro aa ⟨h,a,left,B,C,ab,aH,E,r,e⟩;have ac:left.length=a.length:=by have:=congrArg S6 r;simpa using this
 refine Bj E (λh=>by cases h) (λad=>?_) (λj p ae G H af I=>?_)
 .rw[iw (v:=.bool false) rfl,a1];subst ad;have:a=[]:=j5 (by rw[<-ac];rfl);subst this;rw[U4] at e;exact .inl ⟨h,e,C⟩
 .rw[iw (v:=.bool true) rfl,bQ];refine Bk I ?_;obtain⟨ks,s,ah⟩:∃ks,a[j]? =σ ks/\p.1=ea ks:=by
   have h1:(left.map (·.1))[j]? =σ p.1:=by rw[x8,G];rfl
   rw[r,x8] at h1;obtain⟨ks,K,ai⟩:=Y5.1 h1;exact⟨ks,K,ai.symm⟩
  have L:ks∈KS:=e.mem_iff.1 (o7.2 (.inr (x5 s)));have M:=S ks L;rw[iw (v:=p.1) rfl,ah];refine aD.cu (bD cG.i λaI aJ aK aj ak al=>?_);refine aD.cu (qi M rfl ak λx am aL an ao=>?_);rw[nz M an.range];have y:Ext ae x:=aj.put am Ω;have N:=al.trans ao;have O:Ext w0 x:=(ab.trans H).trans y;have ap:=f _ _ _ H (by rw[<-X];exact af) C;have aq:=f _ _ _ y N.b ap;have au:=I.ext y N.jW;have av:h.length<KS.length:=by
   have h1:=e.length_eq;have K:=(x4.1 s).1;rw[o4] at h1;omega
  refine⟨rfl,(U h (h++[ks]) _ x O ⟨ks,L,av,rfl,rfl⟩ aq).mono ?_⟩;rintro _ aw (⟨rfl,P,ax,az⟩|⟨rfl,aB⟩)
  .simp only[bG,Y6,a1];have z:=KK au hm O P (az rfl).jW;have aC:w.heap.size<=aw.heap.size:=by
    obtain⟨_,_,_,_,_,_,_,aE,_⟩:=z;have:=(n9.1 aE).1;omega
   refine⟨⟨h++[ks],a.eraseIdx j,left.eraseIdx j,σ p,ax,P,aC,z,?_,?_⟩,?_⟩
   .rw[<-mr,r,mr]
   .refine List.Perm.trans ?_ e;rw[U6];exact List.Perm.append_left h (vy s)
   .rw[sx z,sx E];have:=Bw (x4.1 G).1;omega
  .simp only[bG,X9,bQ];exact .inr ⟨h,aB⟩
theorem KL:am x7 If [.map (σ m)] w λr w'=>Ext w w'/\ ∃g,r= .func (.func lB) #[] #[Γ g]/\w.heap.size<=g/\ag w' g iu [.map (σ m)]:=by
 refine az func222 ?_;refine be λg V f a e=>?_;rw[ix];exact⟨a,g,rfl,Ω,e⟩
theorem KM {de:Nat} {d:List (x1×x1)} {KS:List (Λ)} (U:ag w de iu [.map (σ m)]) (hm:c3 w m d) (W:d.map (·.1)=KS.map ea) (C:∀ks∈KS,ks.length=6) (aC:KS.length<=1000000):
  am x7 IG [.slice ν 0 0,.func (.func lB) #[] #[Γ de]] w λv w'=>Ext w w'/\ ∃g L,(∀r,leadsTo v r->w.heap.size<=r)/\L.Perm KS/\nA w' g v L:=by
 refine h2 func275 ?_;refine be λgs V aE E q=>?_;have q:ag V gs iX [.slice ν 0 0]:=q;have aF:=q.lt;refine kF.old ⟨List (Λ),true,_,_,_,_,_,_,λh w'=>ah (λr=>w.heap.size<=r) w w'/\ ∃v g,ag w' gs iX [v]/\(∀r,leadsTo v r->w.heap.size<=r/\r≠gs)/\nA w' g v h,λ_ _ _=>False,rfl,keysIter U hm W C,?_,λ_ _ J h=>h.trans J,
  λ_ _ _ J h=>⟨h.1.trans (J.ab _),by obtain⟨v,g,h1,X,Y⟩:=h.2;exact⟨v,g,h1.ext J,X,Y.ext J⟩⟩,λ_ _ _ _ _ h=>h,E,⟨E.ab _,_,0,q,λr h=>(fg h).elim,bk.nil _ _ _ _ _⟩,?_,?_,λ_ _ h=>h.elim,λ_ _ _ h=>h.elim⟩
 .rintro h _ h' w' ⟨ks,_,_,rfl,_⟩;rfl
 .rintro a h h' aa Z ⟨ks,ac,aG,ae,rfl⟩ ⟨G,v,g,y,j,ad⟩;cases ae;have z:=C ks ac;have aH:h.length<=1000000:=Ω
  refine aD.cu (bD cG.i λaI aJ aK af H ai=>?_);refine aD.cu (qi z rfl H λaj ak aL al an=>?_);intro aM I _ ao;have aN:=H.lt;have ap:Ext aa aj:=af.put ak Ω;have p:=ap.trans I;rw[ay Ψ ((y.ext p).Qz rfl),nz z (al.ext I).range];refine aD.cu (ia (f:=ints .i8) (a:=ks) iX.u cG.i Ω (by simp[ea,x1.cells]) (by simp[z]) λa ga aO aP s aq au=>?_);have K:=aq.sl;rw[X7,List.flatMap_nil,U4] at K;refine aD.cu (KJ iX.u cG.i rfl ((ad.ext p).ext s) K (λa=>Bx) Ω Ω λM av N A aw x ax=>?_);have aQ:=G.size;have aR:=p.size;have aS:=s.size;have aT:=y.lt;have O:∀r,leadsTo M r->w.heap.size<=r/\r≠gs:=λr e=>by
   rcases aw r e with h|h
   .exact j r h
   .omega
  have B:ag N gs iX [v]:=((y.ext p).ext s).ab x (λh=>(j gs h).2 rfl);refine aD.cu (bq iX.i (by obtain⟨_,_,_,_,_,rfl,_⟩:=A.sl;rfl) (by obtain⟨_,_,_,_,_,rfl,_⟩:=A.sl;rfl) B Ξ λP Q aU az aA=>?_);have R:ah (λr=>w.heap.size<=r) aa P:=(((p.trans s).ab _).trans (x.mono λr _ h=>(j r h).1)).trans (Q.mono λr _ h=>by show w.heap.size<=r;omega);refine⟨Z.then R (λr e h=>by have h:w.heap.size<=r:=h;omega),⟨G.trans R,M,av,az,O,A.ab Q λr e h=>(O r e).2 h⟩,λ_=>?_⟩;exact ((((ai.jW.trans an.jW).trans ao).trans au.jW).trans ax.jW).trans aA.jW
 .rintro h N aB ⟨x,v,g,B,j,ad⟩;rw[ay Ψ (B.Qz rfl)];intro P S _;exact⟨(x.ext λr e h=>by have:w.heap.size<=r:=h;omega).trans S,g,h,λr e=>(j r e).1,aB,ad.ext S⟩
theorem KN {de:Nat} {d:List (x1×x1)} {KS:List (Λ)} (a:ag w de iu [.map (σ m)]) (hm:c3 w m d) (e:d.map (·.1)=KS.map ea) (f:∀ks∈KS,ks.length=6) (j:KS.length<=1000000):
  am x7 Iy [.func (.func lB) #[] #[Γ de]] w λv w'=>Ext w w'/\ ∃g L,(∀r,leadsTo v r->w.heap.size<=r)/\L.Perm KS/\nA w' g v L:=by
 refine az func258 ?_;exact (KM a hm e f j).mono λ_ _ _ h=>h
def gl:Λ->Int
 |[]=>0
 |x::l=>x*32 ^ l.length+gl l
theorem vz (n:Nat):(0:Int)<32 ^ n:=Int.pow_pos Ω
theorem sy:∀ (l:Λ),(∀x∈l,0<=x/\x<32)->0<=gl l/\gl l<32 ^ l.length
 |[],_=>by simp[gl]
 |x::l,h=>by
  have f:=sy l λy a=>h y (.tail _ a);have J:=h x (.head _);have j:=vz l.length;simp only[gl,c9];have e:(32:Int) ^ (l.length+1)=32*32 ^ l.length:=by rw[Int.pow_succ,Int.mul_comm]
  have h1:x*32 ^ l.length<=31*32 ^ l.length:=Int.mul_le_mul_of_nonneg_right Ω Ω;have m:0<=x*32 ^ l.length:=Int.mul_nonneg J.1 Ω;rw[e];omega
def ib:Λ->Λ->Int
 |x::a,y::b=>if x<y then-1 else if y<x then 1 else ib a b
 |_,_=>0
theorem By:∀ (a b:Λ),a.length=b.length->(∀x∈a,0<=x/\x<32)->(∀x∈b,0<=x/\x<32)->(ib a b<0↔gl a<gl b)/\(gl a=gl b->a=b)
 |[],[],_,_,_=>by simp[ib]
 |[],_::_,h,_,_=>by simp at h
 |_::_,[],h,_,_=>by simp at h
 |x::a,y::b,h,r,s=>by
  have j:a.length=b.length:=by simpa using h
  have m:∀x∈a,0<=x/\x<32:=λz e=>r z (.tail _ e);have p:∀x∈b,0<=x/\x<32:=λz e=>s z (.tail _ e);have q:=By a b j m p;have w:=sy a m;have B:=sy b p;have C:=vz b.length;simp only[ib,gl];rw[j] at w ⊢;have step:∀u v:Int,u<v->u*32 ^ b.length+32 ^ b.length<=v*32 ^ b.length:=λu v E=>by
   have:=Int.mul_le_mul_of_nonneg_right (show u+1<=v by omega) (show (0:Int)<=32 ^ b.length by omega);rw[Int.add_mul,Int.one_mul] at this;exact this
  by_cases h1:x<y
  .rw[if_pos h1];have:=step x y h1;exact⟨⟨λ_=>Ω,λ_=>Ω⟩,λh=>Ω⟩
  .rw[if_neg h1];by_cases f:y<x
   .rw[if_pos f];have:=step y x f;exact⟨⟨λh=>Ω,λh=>Ω⟩,λh=>Ω⟩
   .rw[if_neg f];have A:x=y:=Ω
    subst A;exact⟨q.1.trans ⟨λh=>Ω,λh=>Ω⟩,λh=>by rw[q.2 Ω]⟩
theorem vA:∀ {a b:Λ} {i:Nat},(∀ (j:Nat) (x y:Int),j<i->a[j]? =σ x->b[j]? =σ y->x=y)->i<=a.length->i<=b.length->ib a b=ib (a.drop i) (b.drop i)
 |_,_,0,_,_,_=>Ξ
 |[],_,i+1,_,h,_=>by simp at h
 |_::_,[],i+1,_,_,h=>by simp at h
 |x::a,y::b,i+1,he,h1,e=>by
  have f:=he 0 x y Ω rfl rfl;subst f;simp only[ib,Int.lt_irrefl,if_false,List.drop_succ_cons];exact vA (λj u v m hu ad=>he (j+1) u v Ω hu ad) (by simpa using h1) (by simpa using e)
theorem Bz {x:Int}:am x7 IF [.int .i8 x] w λv w'=>v= .bool false/\Ext w w':=by
 refine az func274 ?_;simp only[bm];exact⟨Ξ,Ext.refl _⟩
theorem KO {x:Int}:am x7 Ix [.int .i8 x,.int .i8 y] w λv w'=>v=Δ (if x<y then-1 else if y<x then 1 else 0)/\Ext w w':=by
 refine az func257 ?_;refine Bz.mono ?_;rintro _ V _ ⟨rfl,a⟩;refine Bz.mono ?_;rintro _ aa _ ⟨rfl,e⟩;simp only[a1,aO,bU,al];exact⟨λh=>⟨by rw[if_pos h],a.trans e⟩,λh=>⟨λf=>⟨by rw[if_neg h,if_pos f],a.trans e⟩,λf=>⟨by rw[if_neg h,if_neg f],a.trans e⟩⟩⟩
theorem KP {bf bv:x1} {a b:Λ} (p:aF .i8 w bf a) (r:aF .i8 w bv b) (Q:a.length=b.length):am x7 Ic [bf,bv] w λv w'=>v=Δ (ib a b)/\Ext w w':=by
 refine az func220 ?_;have R:=p.le;rw[aW kN.u p];refine bZ.range a.length (λi _ V=>Ext w V/\ ∀ (j:Nat) (x y:Int),j<i->a[j]? =σ x->b[j]? =σ y->x=y) Ω ⟨Ext.refl _,λj x y G=>Ω⟩ ?_ ?_
 .rintro i _ V H hi ⟨e,q⟩ I;simp only[aO,al];refine⟨λ_=>?_,λh=>Ω⟩;obtain⟨x,J⟩:=aH (l:=a) hi;obtain⟨y,s⟩:=aH (l:=b) (i:=i) Ω;rw[bc kN.u fL.i Ψ (p.ext e) J,aW kN.u (r.ext e)];simp only[cP,al];refine⟨λh=>Ω,λ_=>?_⟩;rw[bc kN.u fL.i Ψ (r.ext e) s];refine KO.mono ?_;rintro _ aa _ ⟨rfl,B⟩;have f:ib a b=ib (a.drop i) (b.drop i):=vA q Ω Ω;have K:a.drop i=x::a.drop (i+1):=by rw[X5 hi,(x4.1 J).2]
  have L:b.drop i=y::b.drop (i+1):=by rw[X5 Ω,(x4.1 s).2]
  rw[K,L] at f;simp only[ib] at f;simp only[bm,al,aP];refine⟨λC=>⟨?_,e.trans B⟩,λM=>I _ _ ⟨e.trans B,λj N O G z A=>?_⟩⟩
  .rw[f];by_cases h1:x<y
   .rw[if_pos h1,if_pos h1]
   .by_cases m:y<x
    .rw[if_neg h1,if_pos m,if_neg h1,if_pos m]
    .rw[if_neg h1,if_neg m] at C;exact absurd rfl C
  .by_cases P:j=i
   .subst P;rw[J] at z;rw[s] at A;cases z;cases A;have E:=Z9.1 M;by_cases h1:x<y
    .rw[if_pos h1] at E;omega
    .by_cases m:y<x
     .rw[if_neg h1,if_pos m] at E;omega
     .omega
   .exact q j N O Ω z A
 .rintro _ V H ⟨e,q⟩;simp only[aO,show decide ((a.length:Int)<(a.length:Int))=false from decide_eq_false Ω,a1];rw[aW kN.u (p.ext e),aW kN.u (r.ext e)];simp only[aO,al];refine⟨λh=>Ω,λ_=>⟨?_,e⟩⟩;have f:ib a b=ib (a.drop a.length) (b.drop a.length):=vA q Ω Ω;rw[f,List.drop_length];cases b.drop a.length<;>rfl
theorem KQ {a b:Λ} (p:kU a) (q:kU b):am x7 zn [ea a,ea b] w λv w'=>Ext w w'/\v=Δ (ib a b):=by
 have B:∀ {c:Λ},kU c->(ints .i8 c).length=6:=λh=>by simp[h.1]
 refine az func219 ?_;refine be λg1 V C y e=>?_;refine be λE aa G r f=>?_;rw[Bl] at e f;intro s j _ _;have e:=(e.ext r).ext j;have f:=f.ext j;rw[rT cG.u fL.i (l:=0) (h:=6) (m:=6) jv jw fz Ω Ω Ω,rT cG.u fL.i (l:=0) (h:=6) (m:=6) jv jw fz Ω Ω Ω];rw[if_neg Ω,if_neg Ω];have ls:∀ {g:Nat} {c:Λ},kU c->ag s g cG (ints .i8 c)->aF .i8 s (.slice (σ ⟨g,0+0*1,ν⟩) (6-0) (6-0)) c:=λ{g c} x z=>by
  unfold aF;refine⟨Ξ,g,0,_,6,by rw[x.1],by rw[x.1];omega,by simp[maxLen],λ_=>rfl,z.range⟩
 refine (KP (ls p e) (ls q f) (by rw[p.1,q.1])).mono ?_;rintro _ H _ ⟨rfl,A⟩;exact⟨((y.trans r).trans j).trans A,rfl⟩
end Go.Proofs.YtmgflbkdggdhoaaGreatDoor
namespace Go.Vc
open Go Go.RowKit Go.Shelf Go.Proofs Go.Sort
theorem grown_of (J:Ext w w') (a:cM w w'):∃q os,w'=grow (w.drewN q) os:=by
 refine⟨w'.drawn-w.drawn,w'.heap.extract w.heap.size w'.heap.size,?_⟩;have hk:∀k,k<w.heap.size->w'.heap[k]? =w.heap[k]?:=λk hk=>by
  have e:w.heap[k]? =σ w.heap[k]:=Array.getElem?_eq_getElem hk;rw[e];cases U:fq w.heap[k] with
  |true=>exact J.aZ k _ e U
  |false=>exact a.aZ k _ e U
 have aJ:w'.heap=w.heap++w'.heap.extract w.heap.size w'.heap.size:=by
  apply Array.ext_getElem?;intro k;rw[Array.getElem?_append];by_cases h:k<w.heap.size
  .rw[if_pos h,hk k h]
  .rw[if_neg h,Array.getElem?_extract];have:=J.size;by_cases f:k<w'.heap.size
   .rw[if_pos Ω];congr 1;omega
   .rw[if_neg Ω,Array.getElem?_eq_none Ω]
 have h1:=a.os;have f:=a.tape.1;have j:=a.output;have m:w.drawn+(w'.drawn-w.drawn)=w'.drawn:=by have:=a.tape.2;omega
 cases w';simp only[grow,x3.drewN] at*;subst h1 f j;rw[<-aJ,m]
section
variable {α:Type} [Inhabited α]
theorem BA (enc:α->List x1) (k:Nat) (hk:∀x,(enc x).length=k) (d:Array α):(flatK enc k d).toList=d.toList.flatMap enc:=by
 apply Y3;intro t;by_cases h:t<d.size*k
 .have j:0<k:=by
   rcases R7 k with e|e
   .rw[e] at h;simp at h
   .exact e
  have m:t / k<d.size:=(Nat.div_lt_iff_lt_mul j).2 h;have p:=Nat.mod_lt t j;have q:(flatK enc k d).toList[t]? =σ ((enc d[t / k]!)[t % k]!):=by
   rw[S4,Array.getElem?_eq_getElem (by simpa using h)];have:=get_flatK enc k d t h;rw[getElem!_pos _ t (by simpa using h)] at this;rw[this]
  have r:d.toList[t / k]? =σ d[t / k]!:=by
   rw[S4,Array.getElem?_eq_getElem m,getElem!_pos d _ m]
  have ad:(enc d[t / k]!)[t % k]? =σ ((enc d[t / k]!)[t % k]!):=by
   generalize d[t / k]! =z;rw[x6 (by rw[hk];exact p),getElem!_pos (enc z) _ (by rw[hk];exact p)]
  have:=oV (f:=enc) (k:=k) (λa _=>hk a) r ad;rw[q,<-this];congr 1;rw[Nat.mul_comm];exact Nat.div_add_mod t k
 .rw[Z6 (by simpa using h),Z6];rw[h9 (k:=k) λa _=>hk a];simpa using h
theorem BB (enc:α->List x1) (k:Nat) (hk:∀x,(enc x).length=k) {g:Nat} {d:Array α} {os:Array Obj} (h:ag w g e cs) (y:d.size*k<=cs.length):
  ag (sortWorldK enc k w g 0 m d os) g e (d.toList.flatMap enc++cs.drop (d.size*k))/\ ∀r,r<w.heap.size->r≠g->(sortWorldK enc k w g 0 m d os).heap[r]? =w.heap[r]?:=by
 have q:=h.lt;have p:∀r,r<w.heap.size->(sortWorldK enc k w g 0 m d os).heap[r]? =(w.heap.modify g (onCells (putCells id 0 (flatK enc k d))))[r]?:=λr j=>by
  show ((w.heap.modify g (onCells (putCells id 0 (flatK enc k d))))++os)[r]? =_;rw[Array.getElem?_append_left (by simpa using j)]
 refine⟨?_,λr j s=>?_⟩
 .unfold ag at h ⊢;rw[p g q,Array.getElem?_modify,if_pos rfl,h];show σ (Obj.cells (putCells id 0 (flatK enc k d) cs.toArray) e (0,0))=_;refine congrArg σ (congrArg (λc=>Obj.cells c e (0,0)) ?_);apply Array.ext';apply Y3;intro t;show _=(d.toList.flatMap enc++cs.drop (d.size*k))[t]?;rw[List.getElem?_append,h9 (k:=k) λa _=>hk a,S4];unfold putCells;rw[Array.getElem?_mapIdx,List.getElem?_toArray];have U:d.toList.length=d.size:=rfl;by_cases f:t<d.size*k
  .rw[if_pos (by rw[U];exact f),x6 Ω,<-BA enc k hk,S4,Array.getElem?_eq_getElem (by simpa using f)];simp only[Z3,id];rw[if_pos (by simpa using f),Nat.sub_zero,getElem!_pos _ t (by simpa using f)]
  .rw[if_neg (by rw[U];exact f),List.getElem?_drop,U,show d.size*k+(t-d.size*k)=t by omega];cases z:cs[t]? with
   |none=>rfl
   |some x=>
    simp only[Z3];rw[if_neg Θ]
 .rw[p r j,Array.getElem?_modify,if_neg (Ne.symm s)]
end
theorem BC {P:W5} {C:Ren} (V:SlLaysF0.n6 P C) {α:Type} {f:α->List x1} {k:Nat} {G:α->Prop} {num:α->Int} {cf:α->α->Int} {E:R3} {cap:Array x1}
  (aB:∀w,(isAgg (C.t 24)).run P w= .ok true w) (aC:∀w,(Go.sizeOf (C.t 24)).run P w= .ok k w) (h1:∀a,G a-> ∀u∈f a,u.oneCell'=true) (hk:∀a,G a->(f a).length=k)
  (aD:∀a b,G a->G b->(cf a b<0↔num a<num b)) (af:Enters P E) {w:x3} {g:Nat} {v:x1} {L:List α} (h:bk f k e w g v L) (H:∀a∈L,G a) (ai:L.length<65536)
  (aE:∀W a b,ah (λr=>r=g) w W->G a->G b->am P E ([.agg (f a).toArray,.agg (f b).toArray]++cap.toList) W λu aF=>Ext W aF/\u=Δ (cf a b)):
  am P (C.f 6) [v,.func (.func E) #[] cap] w λ_ w'=>ah (λr=>leadsTo v r) w w'/\ ∃M,M.Perm L/\(∀ (p q:Nat) (x y:α),p<q->M[p]? =σ x->M[q]? =σ y->num x<=num y)/\bk f k e w' g v M:=by
 have aj:Enters P (C.f 6):=λargs w=>V.f6.enters rfl args w;obtain⟨⟨aX,ad⟩,aY⟩:=id h;have ak:∀p c,v= .slice p 0 c->L=[]->am P (C.f 6) [v,.func (.func E) #[] cap] w λ_ w'=>ah (λr=>leadsTo v r) w w'/\ ∃M,M.Perm L/\(∀ (p q:Nat) (x y:α),p<q->M[p]? =σ x->M[q]? =σ y->num x<=num y)/\bk f k e w' g v M:=λp c I ai=>by
  refine .code aj ?_;rw[I];refine (AnyF.slices_SortFunc_none V p c _ w).mono ?_;rintro aZ w' ⟨rfl,rfl⟩;refine⟨_,rfl,cM.refl _,ah.refl _ _,L,.refl _,λp q x y _ J=>by rw[ai] at J;simp at J,by rw[<-I];exact h⟩
 rcases ad with⟨rfl,aG⟩|⟨c,cs,rfl,B,al,hm,X,aH⟩
 .exact ak _ _ rfl (j5 aG)
 cases Y:L with
 |nil=>subst Y;exact ak _ _ rfl rfl
 |cons a0 a1=>
 rw[<-Y];let β:={a:α // G a};have:Inhabited β:=⟨⟨a0,H a0 (by rw[Y];exact .head _)⟩⟩;let enc:β->List x1:=λx=>f x.1;let d:Array β:=(L.attach.map λx=>(⟨x.1,H x.1 x.2⟩:β)).toArray;have an:d.toList.map Subtype.val=L:=by
  show (L.attach.map λx=>(⟨x.1,H x.1 x.2⟩:β)).map Subtype.val=L;rw[T7];exact List.attach_map_subtype_val L
 have O:d.size=L.length:=by simp[d]
 have F:∀x:β,(enc x).length=k:=λx=>hk x.1 x.2;have aI:d.toList.flatMap enc=L.flatMap f:=by
  have K:=congrArg (λl=>l.flatMap f) an;rw[<-K];exact (List.flatMap_map Subtype.val f d.toList).symm
 have Q:d.size*k<=cs.length:=by rw[O,X];exact X6 k al
 have aJ:HoldsK enc k w g 0 d:=by
  intro j R;rw[size_flatK] at R;have ao:j<cs.length:=Ω
  have Z:(flatK enc k d)[j]! =cs[j]:=by
   have K:(flatK enc k d).toList[j]? =σ cs[j]:=by
    rw[BA enc k F,aI,<-aH,Z8 (by rw[<-O];exact R),x6 ao]
   rw[S4] at K;rw[getElem!_pos _ j (by simpa using R)];rw[Array.getElem?_eq_getElem (by simpa using R)] at K;exact b6 K
  refine⟨?_,?_⟩
  .show w.cell? ⟨g,0+j,ν⟩=σ ((flatK enc k d)[j]!);rw[Z];exact B.cell (o:=0+j) (by rw[X0];exact x6 ao)
  .unfold x3.frozen?;unfold ag at B;rw[B];simp
 have S:∀x y:β,ltOf (λx y:β=>cf x.1 y.1) x y=decide (num x.1<num y.1):=λx y=>by
  unfold ltOf;exact decide_eq_decide.2 (aD x.1 y.1 x.2 y.2)
 have aK:SWO (ltOf λx y:β=>cf x.1 y.1):=
  ⟨λx=>by rw[S];simp,λx y z p q=>by rw[S] at*;simp at*;omega,λx y z p q=>by rw[S] at*;simp at*;omega⟩
 have ap:∀m (d2:Array β) os,d2.size=d.size->ah (λr=>r=g) w (sortWorldK enc k w g 0 m d2 os)/\cM w (sortWorldK enc k w g 0 m d2 os):=λm d2 os U=>by
  obtain⟨a2,aq⟩:=BB enc k F (m:=m) (os:=os) B (d:=d2) (by rw[U];exact Q);have au:w.heap.size<=(sortWorldK enc k w g 0 m d2 os).heap.size:=by
   show w.heap.size<=((w.heap.modify g _)++os).size;simp
  refine⟨⟨au,λr o A _ aa=>?_⟩,rfl,⟨rfl,Nat.le_add_right _ _⟩,rfl,au,λr o A U=>?_⟩
  .rw[aq r (n9.1 A).1 aa];exact A
  .have aa:r≠g:=λhe=>by subst he;unfold ag at B;rw[B] at A;cases A;cases U
   rw[aq r (n9.1 A).1 aa];exact A
 have aL:CmpLays P E cap enc k (λx y:β=>cf x.1 y.1) g 0 d.size w:=λm os aM U x y=>by
  have J:=(aE _ x.1 y.1 (ap m aM os U).1 x.2 y.2).calls af;have N:([x1.agg (f x.1).toArray,.agg (f y.1).toArray]++cap.toList).toArray= #[.agg (enc x).toArray,.agg (enc y).toArray]++cap:=by
   apply Array.ext';simp[enc]
  rw[N] at J;refine J.mono ?_;rintro _ w' ⟨_,rfl,aN,aO,rfl⟩;exact⟨rfl,grown_of aO aN⟩
 have av:=AnyQ.slices_SortFunc V k aB aC enc F (λx=>h1 x.1 x.2) (λx y:β=>cf x.1 y.1) aK E cap g 0 c d w (λargs w=>af args w) aL aJ B.lt (by rw[O];omega);rw[O] at av;refine .code aj (av.mono ?_);rintro _ w' ⟨rfl,s,n,os,⟨aP,_,I⟩,aQ,rfl⟩;have ab:s.size=d.size:=aP;obtain⟨aR,aS⟩:=ap n s os ab;obtain⟨aT,_⟩:=BB enc k F (m:=n) (os:=os) B (d:=s) (by rw[ab];exact Q);have T:(s.toList.map Subtype.val).Perm L:=by
  have Z:(s.extract 0 L.length).toList=s.toList:=by rw[show L.length=s.size by omega,Array.extract_size]
  have aU:(d.extract 0 L.length).toList=d.toList:=by rw[show L.length=d.size by omega,Array.extract_size]
  rw[Z,aU] at I;rw[<-an];exact I.map _
 have aw:=T.length_eq;refine⟨_,rfl,aS,aR.mono λr _ A=>⟨_,_,_,rfl,A.symm⟩,s.toList.map Subtype.val,T,λp q x y aV J ax=>?_,⟨?_,.inr ⟨c,_,by rw[aw],aT,by rw[aw];exact al,hm,?_,?_⟩⟩,λa N=>hk a (H a (T.mem_iff.1 N))⟩
 .rw[x8,Y5] at J ax;obtain⟨a6,ay,rfl⟩:=J;obtain⟨a7,az,rfl⟩:=ax;rw[S4] at ay az;have aA:=(n9.1 ay);have ac:=(n9.1 az);have:=aQ p q (X3 _) aV (by have:=ac.1;omega);rw[getElem!_pos s p aA.1,getElem!_pos s q ac.1,aA.2,ac.2,S] at this;simpa using this
 .rw[h9 (k:=k) λa N=>hk a (H a (T.mem_iff.1 N))]
 .have ae:(s.toList.flatMap enc).length=s.size*k:=by rw[h9 (k:=k) λa _=>F a];rfl
  rw[o4,ae,List.length_drop,ab,X];rw[X] at Q;exact Nat.add_sub_cancel' Q
 .have ae:(s.toList.flatMap enc).length=s.size*k:=by rw[h9 (k:=k) λa _=>F a];rfl
  have aW:(List.map Subtype.val s.toList).length*k=(s.toList.flatMap enc).length:=by rw[ae,u7];rfl
  rw[aW,List.take_left,List.flatMap_map]
end Go.Vc
namespace Go.Proofs
open Go.Shelf
def Tryz.vB:Go.Shelf.Ren:=⟨λ|6=>259|15=>211|14=>276|28=>252|29=>253|20=>291|21=>292|22=>293|23=>294|24=>295|25=>296|26=>297|27=>298|46=>306|47=>268|48=>269|49=>307|50=>308|57=>311|n=>n,λ|22=>317|24=>289|25=>316|3=>3|39=>282|0=>0|53=>340|55=>82|4=>4|46=>334|45=>333|50=>271|5=>5|9=>9|66=>351|70=>355|76=>375|77=>376|n=>n,λ|n=>n⟩
theorem Tryz.KR:Go.Proofs.SlLaysF0.n6 Tryz.prog Tryz.vB:={
 mixed:=Ψ,
 f6:=⟨Tryz.f259.name,Φ,Tryz.func259.trans (congrArg σ Ψ)⟩,
 f14:=⟨Tryz.f276.name,Φ,Tryz.func276.trans (congrArg σ Ψ)⟩,
 f15:=Tryz.func211.trans (congrArg σ Ψ),
 f20:=⟨Tryz.f291.name,Φ,Tryz.func291.trans (congrArg σ Ψ)⟩,
 f21:=⟨Tryz.f292.name,Φ,Tryz.func292.trans (congrArg σ Ψ)⟩,
 f22:=⟨Tryz.f293.name,Φ,Tryz.func293.trans (congrArg σ Ψ)⟩,
 f23:=⟨Tryz.f294.name,Φ,Tryz.func294.trans (congrArg σ Ψ)⟩,
 f24:=⟨Tryz.f295.name,Φ,Tryz.func295.trans (congrArg σ Ψ)⟩,
 f25:=⟨Tryz.f296.name,Φ,Tryz.func296.trans (congrArg σ Ψ)⟩,
 f26:=⟨Tryz.f297.name,Φ,Tryz.func297.trans (congrArg σ Ψ)⟩,
 f27:=⟨Tryz.f298.name,Φ,Tryz.func298.trans (congrArg σ Ψ)⟩,
 f28:=Tryz.func252.trans (congrArg σ Ψ),
 f29:=Tryz.func253.trans (congrArg σ Ψ),
 f46:=⟨Tryz.f306.name,Φ,Tryz.func306.trans (congrArg σ Ψ)⟩,
 f47:=Tryz.func268.trans (congrArg σ Ψ),
 f48:=Tryz.func269.trans (congrArg σ Ψ),
 f49:=⟨Tryz.f307.name,Φ,Tryz.func307.trans (congrArg σ Ψ)⟩,
 f50:=⟨Tryz.f308.name,Φ,Tryz.func308.trans (congrArg σ Ψ)⟩,
 f57:=⟨Tryz.f311.name,Φ,Tryz.func311.trans (congrArg σ Ψ)⟩,
 t0:=Tryz.underlying0,
 a0:=Tryz.isAgg0,
 z0:=Tryz.sizeOf0,
 v0:=Tryz.zeroValue0,
 t3:=Tryz.underlying3,
 a3:=Tryz.isAgg3,
 z3:=Tryz.sizeOf3,
 v3:=Tryz.zeroValue3,
 t4:=Tryz.underlying4,
 a4:=Tryz.isAgg4,
 z4:=Tryz.sizeOf4,
 v4:=Tryz.zeroValue4,
 t5:=Tryz.underlying5,
 a5:=Tryz.isAgg5,
 z5:=Tryz.sizeOf5,
 v5:=Tryz.zeroValue5,
 t9:=Tryz.underlying9,
 a9:=Tryz.isAgg9,
 z9:=Tryz.sizeOf9,
 v9:=Tryz.zeroValue9,
 t22:=Tryz.underlying317,
 a22:=Tryz.isAgg317,
 z22:=Tryz.sizeOf317,
 v22:=Tryz.zeroValue317,
 t25:=Tryz.underlying316,
 a25:=Tryz.isAgg316,
 z25:=Tryz.sizeOf316,
 v25:=Tryz.zeroValue316,
 t39:=Tryz.underlying282,
 a39:=Tryz.isAgg282,
 z39:=Tryz.sizeOf282,
 v39:=Tryz.zeroValue282,
 t45:=Tryz.underlying333,
 a45:=Tryz.isAgg333,
 z45:=Tryz.sizeOf333,
 v45:=Tryz.zeroValue333,
 t46:=Tryz.underlying334,
 a46:=Tryz.isAgg334,
 z46:=Tryz.sizeOf334,
 v46:=Tryz.zeroValue334,
 t50:=Tryz.underlying271,
 a50:=Tryz.isAgg271,
 z50:=Tryz.sizeOf271,
 v50:=Tryz.zeroValue271,
 t53:=Tryz.underlying340,
 a53:=Tryz.isAgg340,
 z53:=Tryz.sizeOf340,
 v53:=Tryz.zeroValue340,
 t55:=Tryz.underlying82,
 a55:=Tryz.isAgg82,
 z55:=Tryz.sizeOf82,
 v55:=Tryz.zeroValue82,
 t66:=Tryz.underlying351,
 a66:=Tryz.isAgg351,
 z66:=Tryz.sizeOf351,
 v66:=Tryz.zeroValue351,
 t70:=Tryz.underlying355,
 a70:=Tryz.isAgg355,
 z70:=Tryz.sizeOf355,
 v70:=Tryz.zeroValue355,
 t76:=Tryz.underlying375,
 a76:=Tryz.isAgg375,
 z76:=Tryz.sizeOf375,
 v76:=Tryz.zeroValue375,
 t77:=Tryz.underlying376,
 a77:=Tryz.isAgg376,
 z77:=Tryz.sizeOf376,
 v77:=Tryz.zeroValue376}
def Tryz.vC:Go.Shelf.Ren:=⟨λ|6=>157|15=>211|14=>210|28=>252|29=>253|20=>244|21=>245|22=>246|23=>247|24=>248|25=>249|26=>250|27=>251|46=>267|47=>268|48=>269|49=>270|50=>271|57=>290|n=>n,λ|22=>240|24=>245|25=>254|3=>3|39=>282|0=>0|53=>340|55=>82|4=>4|46=>334|45=>333|50=>271|5=>5|9=>9|66=>351|70=>355|76=>375|77=>376|n=>n,λ|n=>n⟩
theorem Tryz.KT:Go.Proofs.SlLaysF0.n6 Tryz.prog Tryz.vC:={
 mixed:=Ψ,
 f6:=⟨Tryz.f157.name,Φ,Tryz.func157.trans (congrArg σ Ψ)⟩,
 f14:=⟨Tryz.f210.name,Φ,Tryz.func210.trans (congrArg σ Ψ)⟩,
 f15:=Tryz.func211.trans (congrArg σ Ψ),
 f20:=⟨Tryz.f244.name,Φ,Tryz.func244.trans (congrArg σ Ψ)⟩,
 f21:=⟨Tryz.f245.name,Φ,Tryz.func245.trans (congrArg σ Ψ)⟩,
 f22:=⟨Tryz.f246.name,Φ,Tryz.func246.trans (congrArg σ Ψ)⟩,
 f23:=⟨Tryz.f247.name,Φ,Tryz.func247.trans (congrArg σ Ψ)⟩,
 f24:=⟨Tryz.f248.name,Φ,Tryz.func248.trans (congrArg σ Ψ)⟩,
 f25:=⟨Tryz.f249.name,Φ,Tryz.func249.trans (congrArg σ Ψ)⟩,
 f26:=⟨Tryz.f250.name,Φ,Tryz.func250.trans (congrArg σ Ψ)⟩,
 f27:=⟨Tryz.f251.name,Φ,Tryz.func251.trans (congrArg σ Ψ)⟩,
 f28:=Tryz.func252.trans (congrArg σ Ψ),
 f29:=Tryz.func253.trans (congrArg σ Ψ),
 f46:=⟨Tryz.f267.name,Φ,Tryz.func267.trans (congrArg σ Ψ)⟩,
 f47:=Tryz.func268.trans (congrArg σ Ψ),
 f48:=Tryz.func269.trans (congrArg σ Ψ),
 f49:=⟨Tryz.f270.name,Φ,Tryz.func270.trans (congrArg σ Ψ)⟩,
 f50:=⟨Tryz.f271.name,Φ,Tryz.func271.trans (congrArg σ Ψ)⟩,
 f57:=⟨Tryz.f290.name,Φ,Tryz.func290.trans (congrArg σ Ψ)⟩,
 t0:=Tryz.underlying0,
 a0:=Tryz.isAgg0,
 z0:=Tryz.sizeOf0,
 v0:=Tryz.zeroValue0,
 t3:=Tryz.underlying3,
 a3:=Tryz.isAgg3,
 z3:=Tryz.sizeOf3,
 v3:=Tryz.zeroValue3,
 t4:=Tryz.underlying4,
 a4:=Tryz.isAgg4,
 z4:=Tryz.sizeOf4,
 v4:=Tryz.zeroValue4,
 t5:=Tryz.underlying5,
 a5:=Tryz.isAgg5,
 z5:=Tryz.sizeOf5,
 v5:=Tryz.zeroValue5,
 t9:=Tryz.underlying9,
 a9:=Tryz.isAgg9,
 z9:=Tryz.sizeOf9,
 v9:=Tryz.zeroValue9,
 t22:=Tryz.underlying240,
 a22:=Tryz.isAgg240,
 z22:=Tryz.sizeOf240,
 v22:=Tryz.zeroValue240,
 t25:=Tryz.underlying254,
 a25:=Tryz.isAgg254,
 z25:=Tryz.sizeOf254,
 v25:=Tryz.zeroValue254,
 t39:=Tryz.underlying282,
 a39:=Tryz.isAgg282,
 z39:=Tryz.sizeOf282,
 v39:=Tryz.zeroValue282,
 t45:=Tryz.underlying333,
 a45:=Tryz.isAgg333,
 z45:=Tryz.sizeOf333,
 v45:=Tryz.zeroValue333,
 t46:=Tryz.underlying334,
 a46:=Tryz.isAgg334,
 z46:=Tryz.sizeOf334,
 v46:=Tryz.zeroValue334,
 t50:=Tryz.underlying271,
 a50:=Tryz.isAgg271,
 z50:=Tryz.sizeOf271,
 v50:=Tryz.zeroValue271,
 t53:=Tryz.underlying340,
 a53:=Tryz.isAgg340,
 z53:=Tryz.sizeOf340,
 v53:=Tryz.zeroValue340,
 t55:=Tryz.underlying82,
 a55:=Tryz.isAgg82,
 z55:=Tryz.sizeOf82,
 v55:=Tryz.zeroValue82,
 t66:=Tryz.underlying351,
 a66:=Tryz.isAgg351,
 z66:=Tryz.sizeOf351,
 v66:=Tryz.zeroValue351,
 t70:=Tryz.underlying355,
 a70:=Tryz.isAgg355,
 z70:=Tryz.sizeOf355,
 v70:=Tryz.zeroValue355,
 t76:=Tryz.underlying375,
 a76:=Tryz.isAgg375,
 z76:=Tryz.sizeOf375,
 v76:=Tryz.zeroValue375,
 t77:=Tryz.underlying376,
 a77:=Tryz.isAgg376,
 z77:=Tryz.sizeOf376,
 v77:=Tryz.zeroValue376}
theorem Tryz.KU (w:x3):(isAgg (Tryz.vB.t 24)).run Tryz.prog w= .ok true w:=Tryz.isAgg289 w
theorem Tryz.KV (w:x3):(Go.sizeOf (Tryz.vB.t 24)).run Tryz.prog w= .ok 6 w:=Tryz.sizeOf289 w
theorem Tryz.KW:Tryz.prog.funcs[219]? =σ Tryz.f219:=Tryz.func219
theorem Tryz.KX (w:x3):(isAgg (Tryz.vC.t 24)).run Tryz.prog w= .ok true w:=Tryz.isAgg245 w
theorem Tryz.KY (w:x3):(Go.sizeOf (Tryz.vC.t 24)).run Tryz.prog w= .ok 2 w:=Tryz.sizeOf245 w
theorem Tryz.KZ:Tryz.prog.funcs[158]? =σ Tryz.f158:=Tryz.func158
end Go.Proofs
namespace Go.Proofs.YtmgflbkdggdhoaaGreatDoor
open Go Go.Vc Go.RowKit Go.Proofs Go.Proofs.Tryz
set_option maxRecDepth 100000
def sz {α:Type} (f:α->Int) (L:List α) (a i:Nat):Prop:=∀ (p q:Nat) (x y:α),a<=p->p<q->q<i->L[p]? =σ x->L[q]? =σ y->f x<=f y
def oY (L:List (Λ)):Prop:=∀ks∈L,kU ks
theorem oY.perm {L M:List (Λ)} (h:oY L) (a:M.Perm L):oY M:=λks hk=>h ks (a.mem_iff.1 hk)
theorem K0 {g:Nat} {L:List (Λ)} {i:Nat} (a:y=(i:Int)) (h:nA w g v L) (hi:L[i]? =σ ks):
  ac x7 (j4 iX v (Δ y)) w (λp=>ac x7 (u4 cG p) w K)=K (ea ks):=by
 have e:ks.length=6:=by have:=h.2 ks (x5 hi);simpa using this
 rw[dx a iX.u cG.i h (x4.1 hi).1,nz e (h.range hi)]
abbrev BD:x1:=.func (.func zn) #[] #[]
theorem sA {P:W5} {k:o5} {s:ByteArray} {i:Nat} (a:P.underlying t=σ .string) (hi:i<s.size):
  ac P (Instr.index t (.string s) (.int k (i:Int))) w K=K (.int .u8 (s[i].toNat:Int)):=ac.of λw' _=>by
 simp[Instr.index,asIntOf,run_underlying a,hi]
def ef (n:Nat):Nat:=if n=0 then 0 else Nat.log2 n+1
theorem BE (h:n<256):ef n<=8:=by
 unfold ef;by_cases a:n=0
 .rw[if_pos a];omega
 .rw[if_neg a];have e:Nat.log2 n<8:=(Nat.log2_lt a).2 Ω;omega
theorem K1 {g:Nat} {L:List (Λ)} (h:nA w g v L) (j:oY L) (m:L.length<65536):
  am x7 Iz [v,BD] w λ_ w'=>ah (λr=>leadsTo v r) w w'/\ ∃M,M.Perm L/\sz gl M 0 M.length/\nA w' g v M:=by
 refine (BC KR (G:=kU) (num:=gl) (cf:=ib) (cap:=#[]) KU KV (λa _=>Bx) (λa e=>by simp[e.1]) (λa b e f=>(By a b (by rw[e.1,f.1]) e.2 f.2).1) (Enters.of x7 KW rfl Ψ) h j m λC a b _ e f=>KQ e f).mono ?_;rintro _ w' _ ⟨s,M,z,hu,hm⟩;exact⟨s,M,z,λp q x y _ A _ J B=>hu p q x y A J B,hm⟩
end Go.Proofs.YtmgflbkdggdhoaaGreatDoor
namespace Go.Vc
open Go Go.RowKit
set_option maxRecDepth 100000
theorem Keys.str {P:W5} {k:r9} (hk:P.underlying k=σ .string):Keys P k λv=>∃s,v= .string s:=by
 have key:∀s,MapKept.IsKey .string (.string s):=λs=>trivial;refine⟨λw f v ⟨n,h⟩=>?_,λw x ⟨n,h⟩ p q=>?_,λw v ⟨n,h⟩=>?_⟩
 .subst h;exact MapKept.run_checkKey hk (key n) f 9999
 .subst h;rcases MapKept.findNow_spec (key n) p 0 (λe he=>by obtain⟨m,h⟩:=q e he;rw[h];exact key m) with⟨h1,a⟩|⟨j,e,h1,a,r⟩
  .exact .inl ⟨MapKept.run_findKey hk h1,a⟩
  .exact .inr ⟨j,e,by have:=MapKept.run_findKey (P:=P) (w:=w) hk h1;simpa using this,a,r⟩
 .subst h;exact MapKept.run_keyThatStays (d:=.string) (key n)
section
variable {P:W5} {w:x3}
theorem kW {s:Sem x1} (h:∀K:x1->Prop,ac P s w K=K v):cD P s v w:=by
 have h1:ac P s w (λu=>u=v):=(h λu=>u=v).mpr rfl;obtain⟨u,hu,rfl⟩:=h1;exact hu
variable {k e:r9} {G:x1->Prop}
end
end Go.Vc
namespace Go.Proofs.YtmgflbkdggdhoaaGreatDoor
open Go Go.Vc Go.RowKit Go.Proofs Go.Proofs.Tryz
set_option maxRecDepth 100000
def gG:Nat->Nat->Λ
 |0,_=>[]
 |n+1,u=>gG n (u / 10)++[48+((u % 10:Nat):Int)]
theorem qn:∀ (n u:Nat),(gG n u).length=n
 |0,_=>rfl
 |n+1,u=>by rw[gG,o4,qn n];rfl
theorem K2 (n u:Nat):gG (n+2) u=gG n (u / 100)++[48+((u / 10 % 10:Nat):Int),48+((u % 10:Nat):Int)]:=by
 rw[gG,gG,U6];rw[show u / 10 / 10=u / 100 by omega];rfl
theorem BF:∀ (n u:Nat),10 ^ n<=u->u<10 ^ (n+1)->gG (n+1) u=fe u
 |0,u,h1,a=>by
  rw[nt,if_pos (by simpa using a)];simp[gG]
 |n+1,u,h1,a=>by
  have e:(10:Nat) ^ (n+1)=10*10 ^ n:=by rw[Nat.pow_succ,Nat.mul_comm]
  have f:(10:Nat) ^ (n+1+1)=10*10 ^ (n+1):=by rw[Nat.pow_succ,Nat.mul_comm]
  have h:1<=10 ^ n:=Nat.one_le_iff_ne_zero.2 Ξ;rw[nt,if_neg Ω,gG,BF n (u / 10) Ω Ω]
def gm (a C:Λ) (nd u:Nat):Prop:=nd<=a.length/\C.length=a.length/\ ∃t,C.drop nd=t/\a=gG nd u++t
theorem gm.two {a:Λ} {nd u:Nat} (h:gm a C (nd+2) u):gm a ((C.set (nd+1) (48+((u % 10:Nat):Int))).set nd (48+((u / 10 % 10:Nat):Int))) nd (u / 100):=by
 obtain⟨h1,e,t,f,j⟩:=h;refine⟨Ω,by simp[e],_,rfl,?_⟩;rw[j,K2,U6];congr 1;rw[List.drop_set,if_neg Ω,List.drop_set,if_neg Ω,<-f];have m:nd<C.length:=Ω
 have p:nd+1<C.length:=Ω
 rw[X5 m,X5 p,V7,R2];rfl
theorem gm.one {a:Λ} {u:Nat} (h:gm a C 1 u):C.set 0 (48+((u % 10:Nat):Int))=a:=by
 obtain⟨h1,e,t,f,j⟩:=h;rw[j,gG,gG,List.nil_append,<-f];cases C with
 |nil=>simp at e;omega
 |cons c C=>simp
theorem gm.zero {a:Λ} {u:Nat} (h:gm a C 0 u):C=a:=by
 obtain⟨h1,j,t,e,f⟩:=h;rw[f,gG,List.nil_append,<-e,List.drop_zero]
def jD:ByteArray:=⟨#[48,48,48,49,48,50,48,51,48,52,48,53,48,54,48,55,48,56,48,57,49,48,49,49,49,50,49,51,49,52,49,53,49,54,49,55,49,56,49,57,50,48,50,49,50,50,50,51,50,52,50,53,50,54,50,55,50,56,50,57,51,48,51,49,51,50,51,51,51,52,51,53,51,54,51,55,51,56,51,57,52,48,52,49,52,50,52,51,52,52,52,53,52,54,52,55,52,56,52,57,53,48,53,49,53,50,53,51,53,52,53,53,53,54,53,55,53,56,53,57,54,48,54,49,54,50,54,51,54,52,54,53,54,54,54,55,54,56,54,57,55,48,55,49,55,50,55,51,55,52,55,53,55,54,55,55,55,56,55,57,56,48,56,49,56,50,56,51,56,52,56,53,56,54,56,55,56,56,56,57,57,48,57,49,57,50,57,51,57,52,57,53,57,54,57,55,57,56,57,57]⟩
theorem BG:jD.size=200:=by decide+kernel
theorem K3:∀q:Fin 100,jD.data.toList[2*q.val]? =σ (UInt8.ofNat (48+q.val / 10))/\jD.data.toList[2*q.val+1]? =σ (UInt8.ofNat (48+q.val % 10)):=by decide+kernel
theorem vD {q:Nat} (e:q<100):(∀h,(jD[2*q]'h).toNat=48+q / 10)/\ ∀h,(jD[2*q+1]'h).toNat=48+q % 10:=by
 obtain⟨h1,f⟩:=K3 ⟨q,e⟩;refine⟨λh=>?_,λh=>?_⟩
 .have a:=(x4.1 h1).2;have:jD[2*q]=UInt8.ofNat (48+q / 10):=a;rw[this,UInt8.toNat_ofNat'];omega
 .have a:=(x4.1 f).2;have:jD[2*q+1]=UInt8.ofNat (48+q % 10):=a;rw[this,UInt8.toNat_ofNat'];omega
theorem wrap_u32 {x:Int} (h1:0<=x) (a:x<4294967296):o5.u32.wrap x=x:=by
 simp[o5.wrap,o5.bits,o5.signed];omega
def jE (w:x3) (g o:Nat) (a C e:Λ):Prop:=ag w g mc (ints .u8 (a++C++e))/\a.length=o
theorem vE {g o c i:Nat} {a:o5} (e:y=(i:Int)) (hi:i<n):
  ac x7 (j4 cN (.slice (σ ⟨g,o,ν⟩) n c) (.int a y)) w K=K (.pointer (σ ⟨g,o+i,ν⟩)):=by
 subst e;rw[e5 cN.u cJ.i hi (λ_=>rfl),U1]
theorem vF {g o i:Nat} {x:Int} {a f:Λ} {K:Unit->x3->Prop} (h:jE w g o a C f) (hi:i<C.length)
  (m:∀w',ah (λr=>r=g) w w'->jE w' g o a (C.set i x) f->K () w'):aD x7 (o6 cJ (.pointer (σ ⟨g,o+i,ν⟩)) (.int .u8 x)) w K:=by
 obtain⟨h,rfl⟩:=h;refine bq (g:=g) (o:=a.length+i) cJ.i rfl rfl h Θ λw' p U j=>m w' p ⟨?_,rfl⟩;have e:(ints .u8 (a++C++f)).set (a.length+i) (.int .u8 x)=ints .u8 (a++C.set i x++f):=by
  unfold ints;rw[<-V8,U6,T2 _ _ Ω,R2,List.set_append_left _ _ hi,U6]
 rw[e] at j;exact j
theorem nB {g o c nd q i:Nat} {p e t:Int} {f h:Λ} {K:x3->Prop} (s:jE w g o f C h) (S:C.length=n) (V:n<=1000) (W:nd<=n) (h1:(nd:Int)-p=((i+1:Nat):Int)) (A:(nd:Int)-e=(i:Int)) (B:i+1<n) (E:t=((2*q:Nat):Int)) (j:q<100)
  (F:∀w',ah (λr=>r=g) w w'->jE w' g o f ((C.set (i+1) (48+((q % 10:Nat):Int))).set i (48+((q / 10:Nat):Int))) h->K w'):
  er w λaa=>
  ac x7 (aL .sub ai false true (Δ (nd:Int)) (Δ p)) aa λG=>
  ac x7 (aL .sub ai false true (Δ (nd:Int)) (Δ e)) aa λx=>
  ac x7 (aL .add ow false true (.int .u32 t) (.int .u32 1)) aa λH=>
  ac x7 (Instr.index cZ (.string jD) H) aa λt50=>
  ac x7 (Instr.index cZ (.string jD) (.int .u32 t)) aa λy=>
  ac x7 (j4 cN (.slice (σ ⟨g,o,ν⟩) n c) G) aa λt53=>
  aD x7 (o6 cJ t53 t50) aa λ(_:Unit) a=>
   (Ext aa a\/cD x7 (Instr.index cZ (.string jD) (.int .u32 t)) y a/\cD x7 (aL .sub ai false true (Δ (nd:Int)) (Δ e)) x a/\True)/\
  ac x7 (j4 cN (.slice (σ ⟨g,o,ν⟩) n c) x) a λI=>
   aD x7 (o6 cJ I y) a λ(_:Unit) m=>K m:=by
 subst E;intro aa z _ _;have J:ah (λr=>r=g) w aa:=z.ab _;have L:jE aa g o f C h:=⟨s.1.ext z,s.2⟩;rw[dF,wrap_i64 Ω Ω,dF,wrap_i64 Ω Ω,aP,wrap_u32 Ω Ω];rw[show ((2*q:Nat):Int)+1=((2*q+1:Nat):Int) by omega];have U:=BG;rw[sA cZ.u (by rw[U];omega),sA cZ.u (by rw[U];omega)];rw[(vD j).1,(vD j).2,vE h1 B];refine vF L Ω λa M N=>⟨.inr ⟨kW λK=>?_,kW λK=>?_,trivial⟩,?_⟩
 .rw[sA cZ.u (by rw[U];omega),(vD j).1]
 .rw[dF,wrap_i64 Ω Ω]
 .rw[vE A Ω];refine vF N Θ λm O P=>F m ((J.trans M).trans O) ?_;have Q:48+((q % 10:Nat):Int)=((48+q % 10:Nat):Int):=Ω
  have R:48+((q / 10:Nat):Int)=((48+q / 10:Nat):Int):=Ω
  rw[Q,R];exact P
theorem gm.pair {a:Λ} {nd u q:Nat} (h:gm a C (nd+2) u) (e:q=u % 100):gm a ((C.set (nd+1) (48+((q % 10:Nat):Int))).set nd (48+((q / 10:Nat):Int))) nd (u / 100):=by
 have:=h.two;rw[show u % 10=q % 10 by omega,show u / 10 % 10=q / 10 by omega] at this;exact this
theorem nC {k:o5} {b:Nat} (e:b≠0):ac x7 (aL .rem t cx cy (.int k (a:Int)) (.int k (b:Int))) w K=K (.int k ((a % b:Nat):Int)):=by
 rw[rR Ω,Int.tmod_eq_emod_of_nonneg Ω,Int.natCast_emod]
theorem u32_quo {b:Nat} (e:b≠0) (f:a<4294967296):ac x7 (aL .quo t cx cy (.int .u32 (a:Int)) (.int .u32 (b:Int))) w K=K (.int .u32 ((a / b:Nat):Int)):=by
 have:=Nat.div_le_self a b;rw[rQ Ω,Int.tdiv_eq_ediv_of_nonneg Ω,<-Int.natCast_ediv];generalize a / b=m at this ⊢;rw[wrap_u32 Ω Ω]
theorem u64_quo {b:Nat} (e:b≠0) (f:a<18446744073709551616):ac x7 (aL .quo t cx cy (.int .u64 (a:Int)) (.int .u64 (b:Int))) w K=K (.int .u64 ((a / b:Nat):Int)):=by
 have:=Nat.div_le_self a b;rw[rQ Ω,Int.tdiv_eq_ediv_of_nonneg Ω,<-Int.natCast_ediv];generalize a / b=m at this ⊢;rw[wrap_u64 Ω Ω]
theorem nD {b:Nat} (f:a*b<4294967296):ac x7 (aL .mul t cx cy (.int .u32 (a:Int)) (.int .u32 (b:Int))) w K=K (.int .u32 ((a*b:Nat):Int)):=by
 have e:(a:Int)*(b:Int)=((a*b:Nat):Int):=Ξ
 rw[hI,e];generalize a*b=m at f ⊢;rw[wrap_u32 Ω Ω]
theorem gm.start {u:Nat} (h:C.length=N):gm (gG N u) C N u:=⟨by rw[qn];omega,by rw[qn,h],[],by rw[List.drop_eq_nil_iff];omega,Ξ⟩
theorem K4 {g o c u:Nat} {B E:Λ} (ae:jE w g o B C E) (ag:C.length=N) (av:N<=19) (hu:u<10 ^ N):
  am x7 IJ [.slice (σ ⟨g,o,ν⟩) N c,.int .u64 (u:Int)] w λv w'=>v= .tuple #[]/\ah (λr=>r=g) w w'/\jE w' g o B (gG N u) E:=by
 have p:=qn N u;refine az func279 ?_;rw[hJ cN.u];refine⟨λai O V=>∃eQ nd:Nat,ai= .int .u64 (eQ:Int)/\O=Δ (nd:Int)/\eQ<10 ^ nd/\nd<=N/\ah (λr=>r=g) w V/\ ∃G,jE V g o B G E/\gm (gG N u) G nd eQ,
  λ_ O _=>(bX O).toNat,⟨u,N,rfl,rfl,hu,p8 _,ah.refl _ _,C,ae,gm.start ag⟩,?_⟩
 rintro _ _ V ⟨eQ,nd,rfl,rfl,H,s,P,G,Q,af⟩;have Z:G.length=N:=by rw[af.2.1,p]
 have aw:(10:Nat) ^ nd<=10 ^ 19:=T8 Ω Ω;have aj:eQ<18446744073709551616:=Ω
 have ax:(8:Int)=((8:Nat):Int):=rfl;rw[cP,al];refine⟨λak=>?_,λak=>?_⟩
 .obtain⟨m,rfl⟩:∃m,nd=m+8:=⟨nd-8,Ω⟩;have ay:eQ % 100000000<100000000:=Nat.mod_lt _ Ω;rw[show V2 .u64 100000000=V2 .u64 ((100000000:Nat):Int) from rfl,nC Ω,fd fu.u ow.u,wrap_u32 Ω Ω,u64_quo Ω aj];rw[show V2 .u32 10000=V2 .u32 ((10000:Nat):Int) from rfl,show V2 .u32 100=V2 .u32 ((100:Nat):Int) from rfl,show V2 .u32 2=V2 .u32 ((2:Nat):Int) from rfl];rw[u32_quo Ω Ω,nC Ω,u32_quo Ω Ω,nD Ω,nC Ω,nD Ω,u32_quo Ω Ω,nD Ω,nC Ω,nD Ω];refine nB (i:=m+6) (q:=eQ % 100000000 % 10000 % 100) Q Z Ω s Ω Ω Ω Ω Ω λaa x z=>?_;have f:=af.pair (q:=eQ % 100000000 % 10000 % 100) Ω;have I:=f.2.1.trans p;refine nB (i:=m+4) (q:=eQ % 100000000 % 10000 / 100) z I Ω s Ω Ω Ω Ω Ω λA j h=>?_;have e:=gm.pair (nd:=m+4) (q:=eQ % 100000000 % 10000 / 100) f Ω;have ab:=e.2.1.trans p;refine nB (i:=m+2) (q:=eQ % 100000000 / 10000 % 100) h ab Ω s Ω Ω Ω Ω Ω λan R L=>?_;have ac:=gm.pair (nd:=m+2) (q:=eQ % 100000000 / 10000 % 100) e Ω;have ao:=ac.2.1.trans p;refine nB (i:=m) (q:=eQ % 100000000 / 10000 / 100) L ao Ω s Ω Ω Ω Ω Ω λaB ap aq=>?_;have ad:=gm.pair (nd:=m) (q:=eQ % 100000000 / 10000 / 100) ac Ω;rw[dF,wrap_i64 Ω Ω];refine⟨⟨eQ / 100000000,m,rfl,by congr 1;omega,?_,Ω,(((P.trans x).trans j).trans R).trans ap,_,aq,?_⟩,by simp only[bX];omega⟩
  .rw[Nat.pow_add] at H;exact Nat.div_lt_of_lt_mul (by rw[Nat.mul_comm];exact H)
  .rw[show eQ / 100 / 100 / 100 / 100=eQ / 100000000 by omega] at ad;exact ad
 .have aC:nd<8:=Ω
  have aD:(10:Nat) ^ nd<=10 ^ 7:=T8 Ω Ω;rw[fd fu.u ow.u,wrap_u32 Ω Ω];refine gO (λa b aa=>∃eR m:Nat,a=Δ (m:Int)/\b= .int .u32 (eR:Int)/\eR<10 ^ m/\m<4/\m<=N/\ah (λr=>r=g) w aa/\ ∃M,jE aa g o B M E/\gm (gG N u) M m eR) ?_ ?_
  rotate_left
  .intro aA J;rw[cP,al];refine⟨λS=>?_,λS=>J _ _ _ ⟨eQ,nd,rfl,rfl,H,Ω,s,P,G,Q,af⟩⟩;obtain⟨m,rfl⟩:∃m,nd=m+4:=⟨nd-4,Ω⟩;rw[show V2 .u32 10000=V2 .u32 ((10000:Nat):Int) from rfl,show V2 .u32 100=V2 .u32 ((100:Nat):Int) from rfl,show V2 .u32 2=V2 .u32 ((2:Nat):Int) from rfl];rw[nC Ω,u32_quo Ω Ω,u32_quo Ω Ω,nD Ω,nC Ω,nD Ω];refine nB (i:=m+2) (q:=eQ % 10000 % 100) Q Z Ω s Ω Ω Ω Ω Ω λaa x z=>?_;have f:=af.pair (q:=eQ % 10000 % 100) Ω;have I:=f.2.1.trans p;refine nB (i:=m) (q:=eQ % 10000 / 100) z I Ω s Ω Ω Ω Ω Ω λA j h=>?_;have e:=gm.pair (nd:=m) (q:=eQ % 10000 / 100) f Ω;rw[dF,wrap_i64 Ω Ω];refine J _ _ _ ⟨eQ / 10000,m,by congr 1;omega,rfl,?_,Ω,Ω,(P.trans x).trans j,_,h,?_⟩
   .rw[Nat.pow_add] at H;exact Nat.div_lt_of_lt_mul (by rw[Nat.mul_comm];exact H)
   .rw[show eQ / 100 / 100=eQ / 10000 by omega] at e;exact e
  rintro _ _ aa ⟨eR,m,rfl,rfl,U,aE,W,x,M,z,f⟩;have I:=f.2.1.trans p;have aF:(10:Nat) ^ m<=10 ^ 3:=T8 Ω Ω;refine gO (λa b A=>∃K m:Nat,a=Δ (m:Int)/\b= .int .u32 (K:Int)/\K<10 ^ m/\m<2/\m<=N/\ah (λr=>r=g) w A/\ ∃X,jE A g o B X E/\gm (gG N u) X m K) ?_ ?_
  rotate_left
  .intro aA J;rw[cP,al];refine⟨λS=>?_,λS=>J _ _ _ ⟨eR,m,rfl,rfl,U,Ω,W,x,M,z,f⟩⟩;obtain⟨m,rfl⟩:∃cm,m=cm+2:=⟨m-2,Ω⟩;rw[show V2 .u32 100=V2 .u32 ((100:Nat):Int) from rfl,show V2 .u32 2=V2 .u32 ((2:Nat):Int) from rfl];rw[nC Ω,nD Ω,u32_quo Ω Ω];refine nB (i:=m) (q:=eR % 100) z I Ω W Ω Ω Ω Ω Ω λA j h=>?_;have e:=f.pair (q:=eR % 100) rfl;rw[dF,wrap_i64 Ω Ω];refine J _ _ _ ⟨eR / 100,m,by congr 1;omega,rfl,?_,Ω,Ω,x.trans j,_,h,e⟩;rw[Nat.pow_add] at U;exact Nat.div_lt_of_lt_mul (by rw[Nat.mul_comm];exact U)
  rintro _ _ A ⟨K,m,rfl,rfl,Y,aG,W,j,X,h,e⟩;have ab:=e.2.1.trans p;rw[bU,al];refine⟨λau=>?_,λau=>?_⟩
  .obtain rfl:m=1:=Ω
   have Y:K<10:=by simpa using Y
   rw[aP,wrap_u32 Ω Ω,fd ow.u cJ.u,wrap_u8 Ω Ω,vE (y:=0) (i:=0) rfl Ω];refine vF h Ω λan R L=>?_;have:=e.one;rw[Nat.mod_eq_of_lt Y] at this;rw[this] at L;exact⟨rfl,j.trans R,L⟩
  .obtain rfl:m=0:=Ω
   rw[e.zero] at h;exact⟨rfl,j,h⟩
def mu:Λ:=[1,10,100,1000,10000,100000,1000000,10000000,100000000,1000000000,10000000000,100000000000,1000000000000,10000000000000,100000000000000,1000000000000000,10000000000000000,100000000000000000,1000000000000000000,10000000000000000000]
def ej (w:x3):Prop:=w.rangeAt 1 0 (ints .u64 mu)
theorem ej.ext (h:ej w) (J:Ext w w'):ej w':=ne J h
theorem K5:∀k:Nat,k<20->mu[k]? =σ (((10 ^ k:Nat)):Int):=Φ
theorem BH {s:Nat} (h:2 ^ s<=n):ef n=s+ef (n / 2 ^ s):=by
 have U:=Nat.two_pow_pos s;have h1:n / 2 ^ s≠0:=by have:=Nat.div_pos h U;omega
 have f:n≠0:=Ω
 unfold ef;rw[if_neg f,if_neg h1];have e:Nat.log2 n=Nat.log2 (n / 2 ^ s)+s:=by
  refine (Nat.log2_eq_iff f).2 ⟨?_,?_⟩
  .rw[Nat.pow_add];have:=X6 (2 ^ s) (Nat.log2_self_le h1);have:=Nat.div_mul_le_self n (2 ^ s);omega
  .have j:=Nat.lt_log2_self (n:=n / 2 ^ s);rw[show Nat.log2 (n / 2 ^ s)+s+1=(Nat.log2 (n / 2 ^ s)+1)+s by omega,Nat.pow_add];have:=X6 (2 ^ s) (show n / 2 ^ s+1<=2 ^ (Nat.log2 (n / 2 ^ s)+1) by omega);have m:=Nat.lt_div_mul_add U (a:=n);rw[U2] at this;omega
 omega
def qo:ByteArray:=⟨#[0,1,2,2,3,3,3,3,4,4,4,4,4,4,4,4,5,5,5,5,5,5,5,5,5,5,5,5,5,5,5,5,6,6,6,6,6,6,6,6,6,6,6,6,6,6,6,6,6,6,6,6,6,6,6,6,6,6,6,6,6,6,6,6,7,7,7,7,7,7,7,7,7,7,7,7,7,7,7,7,7,7,7,7,7,7,7,7,7,7,7,7,7,7,7,7,7,7,7,7,7,7,7,7,7,7,7,7,7,7,7,7,7,7,7,7,7,7,7,7,7,7,7,7,7,7,7,7,8,8,8,8,8,8,8,8,8,8,8,8,8,8,8,8,8,8,8,8,8,8,8,8,8,8,8,8,8,8,8,8,8,8,8,8,8,8,8,8,8,8,8,8,8,8,8,8,8,8,8,8,8,8,8,8,8,8,8,8,8,8,8,8,8,8,8,8,8,8,8,8,8,8,8,8,8,8,8,8,8,8,8,8,8,8,8,8,8,8,8,8,8,8,8,8,8,8,8,8,8,8,8,8,8,8,8,8,8,8,8,8,8,8,8,8,8,8,8,8,8,8,8,8,8,8,8,8]⟩
theorem K6:qo.size=256:=by decide+kernel
theorem K7:∀q:Fin 256,qo.data.toList[q.val]? =σ (UInt8.ofNat (ef q.val)):=by decide+kernel
theorem K8 {q:Nat} (a:q<256):∀h,(qo[q]'h).toNat=ef q:=λh=>by
 have h1:=K7 ⟨q,a⟩;have e:=(x4.1 h1).2;have:qo[q]=UInt8.ofNat (ef q):=e;have f:=BE a;rw[this,UInt8.toNat_ofNat'];omega
theorem K9 (C:n<18446744073709551616):am x7 Iu [.int .u64 (n:Int)] w λv w'=>v=Δ (ef n:Int)/\Ext w w':=by
 refine az func253 ?_;have step:∀ {s x m:Nat} {aA:x1->x1->x3->Prop} {y c:Int},s<64->x<18446744073709551616->m+ef x=ef n->m<=64->y=(2 ^ s:Nat)->c=(s:Int)->2 ^ s<=18446744073709551615->(∀a cm:Nat,a<2 ^ s\/(a=x / 2 ^ s/\cm=m+s)->a<=x->cm+ef a=ef n->cm<=m+s->aA (.int .u64 (a:Int)) (Δ (cm:Int)) w)->
   ac x7 (aL .geq fu false true (.int .u64 (x:Int)) (.int .u64 y)) w λt4=>
    Split t4 (ac x7 (aL .shr fu false true (.int .u64 (x:Int)) (.int .u64 c)) w λq=>ac x7 (aL .add ai false true (Δ (m:Int)) (Δ c)) w λr=>aA q r w) (aA (.int .u64 (x:Int)) (Δ (m:Int)) w):=by
  intro s x m aA y c U J hm E z A j e;subst z A;rw[cP,al];refine⟨λh=>?_,λh=>e x m (.inl Ω) (p8 _) hm Ω⟩;rw[kR U,aP,wrap_i64 Ω Ω];have:=BH (n:=x) (s:=s) Ω;have:=e (x / 2 ^ s) (m+s) (.inr ⟨rfl,rfl⟩) (Nat.div_le_self _ _) Ω Ω;exact this
 refine gO (λx m V=>w=V/\ ∃a cm:Nat,x= .int .u64 (a:Int)/\m=Δ (cm:Int)/\a<4294967296/\cm+ef a=ef n/\cm<=32) ?_ ?_
 rotate_left
 .intro aA e;rw[cP,al];refine⟨λh=>?_,λh=>e _ _ _ ⟨rfl,n,0,rfl,rfl,Ω,Ω,Ω⟩⟩;rw[show V2 .u64 32=V2 .u64 ((32:Nat):Int) from rfl,kR Ω];have:=BH (n:=n) (s:=32) Ω;exact e _ _ _ ⟨rfl,n / 2 ^ 32,32,rfl,rfl,Ω,Ω,Ω⟩
 rintro _ _ _ ⟨rfl,x,m,rfl,rfl,J,hm,p⟩;refine gO (λx m V=>w=V/\ ∃a cm:Nat,x= .int .u64 (a:Int)/\m=Δ (cm:Int)/\a<65536/\cm+ef a=ef n/\cm<=48) ?_ ?_
 rotate_left
 .intro aA e;refine step (s:=16) Ω Ω hm Ω Ω Ω Ω λa cm h1 j f B=>e _ _ _ ⟨rfl,a,cm,rfl,rfl,?_,f,Ω⟩;rcases h1 with h1|⟨h1,_⟩<;>omega
 rintro _ _ _ ⟨rfl,x,m,rfl,rfl,J,hm,p⟩;refine gO (λx m V=>w=V/\ ∃a cm:Nat,x= .int .u64 (a:Int)/\m=Δ (cm:Int)/\a<256/\cm+ef a=ef n/\cm<=56) ?_ ?_
 rotate_left
 .intro aA e;refine step (s:=8) Ω Ω hm Ω Ω Ω Ω λa cm h1 j f B=>e _ _ _ ⟨rfl,a,cm,rfl,rfl,?_,f,Ω⟩;rcases h1 with h1|⟨h1,_⟩<;>omega
 rintro _ _ _ ⟨rfl,x,m,rfl,rfl,J,hm,p⟩;have U:=K6;have G:=BE J;rw[fd fu.u cJ.u,wrap_u8 Ω Ω];refine (sA (s:=qo) cZ.u (by rw[U];omega)).mpr ?_;rw[K8 J,fd cJ.u ai.u,wrap_i64 Ω Ω,aP,wrap_i64 Ω Ω];exact⟨by congr 1;omega,Ext.refl _⟩
theorem BI {k:o5} (f:n<64):ac x7 (aL .shr t cx cy (Δ (a:Int)) (.int k (n:Int))) w K=K (Δ ((a / 2 ^ n:Nat):Int)):=ac.of λw' _=>by
 have e:(a:Int).fdiv (2 ^ min n X2.bits)=((a / 2 ^ n:Nat):Int):=by
  have:min n X2.bits=n:=Nat.min_eq_left (by show n<=64;omega);rw[this,Int.fdiv_eq_ediv_of_nonneg _ (by exact Int.le_of_lt (Int.pow_pos Ω))];simp
 simp only[aL,eqGuard,binOp,Op.shift,u6,e];rfl
theorem La:∀L:Fin 64,7<=L.val->2 ^ L.val<=10 ^ (L.val*78913 / 262144+1)/\10 ^ (L.val*78913 / 262144)<=10*2 ^ (L.val-1)/\1<=L.val*78913 / 262144/\L.val*78913 / 262144<19:=by decide+kernel
theorem Lb {d:Nat} (x:ej w) (h1:100<=d) (C:d<9223372036854775808):am x7 II [.int .u64 (d:Int)] w λv w'=>Ext w w'/\ ∃n:Nat,v=Δ ((n+1:Nat):Int)/\n<19/\10 ^ n<=d/\d<10 ^ (n+1):=by
 have j:d≠0:=Ω
 have m:ef d=Nat.log2 d+1:=by unfold ef;rw[if_neg j]
 have E:2 ^ (ef d-1)<=d:=by rw[m];exact Nat.log2_self_le j
 have G:d<2 ^ ef d:=by rw[m];exact Nat.lt_log2_self
 have y:7<=ef d:=by
  by_cases h:7<=ef d
  .exact h
  .have:2 ^ ef d<=2 ^ 6:=T8 Ω Ω;omega
 have z:ef d<64:=by
  by_cases h:ef d<64
  .exact h
  .have:2 ^ 63<=2 ^ (ef d-1):=T8 Ω Ω;omega
 obtain⟨A,p,t3,t4⟩:=La ⟨ef d,z⟩ y;simp only at A p t3 t4;refine az func278 ?_;refine (K9 Ω).mono ?_;rintro _ V _ ⟨rfl,a⟩;generalize ef d=L at*;refine am.mono (K:=λv aa=>v=Δ ((L*78913 / 262144:Nat):Int)/\Ext V aa) ?_ ?_
 .refine az func299 ?_;rw[hI,wrap_i64 Ω Ω,show V2 .u64 18=V2 .u64 ((18:Nat):Int) from rfl,show (L:Int)*78913=((L*78913:Nat):Int) by omega,BI Ω];exact⟨rfl,Ext.refl _⟩
 rintro _ aa _ ⟨rfl,e⟩;generalize L*78913 / 262144=t at*;have B:=K5 t Ω;rw[uQ (t:=rP) rP.u fu.i Ω,ay Ψ (by rw[U1];exact ((x.ext a).ext e) _ _ (kO B)),cP];refine am.mono (K:=λv q=>v=Δ ((if 10 ^ t<=d then 1 else 0:Nat):Int)/\Ext aa q) ?_ ?_
 .refine az func300 ?_;rw[al];refine⟨λh=>⟨by rw[if_pos Ω];rfl,Ext.refl _⟩,λh=>⟨by rw[if_neg Ω];rfl,Ext.refl _⟩⟩
 rintro _ q _ ⟨rfl,r⟩;rw[aP];by_cases f:10 ^ t<=d
 .rw[if_pos f,wrap_i64 Ω Ω];exact⟨(a.trans e).trans r,t,by congr 1,t4,f,Ω⟩
 .rw[if_neg f,wrap_i64 Ω Ω];obtain⟨s,rfl⟩:∃s,t=s+1:=⟨t-1,Ω⟩;rw[Nat.pow_succ] at p;exact⟨(a.trans e).trans r,s,by congr 1,Ω,Ω,Ω⟩
theorem BJ {k a:o5} {x:Int} {i:Nat} {s:ByteArray} (J:x=(i:Int)) (e:y=(j:Int)) (f:x7.underlying t=σ .string) (p:i<=j) (q:j<=s.size):
  ac x7 (V4 t (.string s) (σ (.int k x)) (σ (.int a y)) ν) w K=K (.string (s.extract i j)):=ac.of λw' _=>by
 subst J e;have r:=rS (P:=x7) w' (sl:=false) (n:=s.size) (c:=s.size) (low:=σ (.int k (i:Int))) (high:=σ (.int a (j:Int))) (mx:=ν) (l:=i) (h:=j) (m:=s.size) ⟨k,rfl⟩ ⟨a,rfl⟩ fz p q (p8 _);simp[V4,Instr.slice,run_underlying f,r]
theorem Lc:∀q:Fin 100,jD.extract (2*q.val) (2*q.val+2)=strOfNums [48+((q.val / 10:Nat):Int),48+((q.val % 10:Nat):Int)]:=by decide+kernel
def BK:ByteArray:=⟨#[48,49,50,51,52,53,54,55,56,57,97,98,99,100,101,102,103,104,105,106,107,108,109,110,111,112,113,114,115,116,117,118,119,120,121,122]⟩
theorem Ld:∀q:Fin 10,BK.extract q.val (q.val+1)=strOfNums [48+(q.val:Int)]:=by decide+kernel
theorem BL (h:n<10):fe n=[48+(n:Int)]:=by rw[nt,if_pos h,Nat.mod_eq_of_lt h];rfl
theorem Le (h1:10<=n) (a:n<100):fe n=[48+((n / 10:Nat):Int),48+((n % 10:Nat):Int)]:=by
 rw[nt,if_neg Ω,BL Ω];rfl
theorem Lf (a:n<100):am x7 IH [Δ (n:Int)] w λv w'=>v=bP (fe n)/\Ext w w':=by
 refine az func277 ?_;rw[aO,al];refine⟨λh=>?_,λh=>?_⟩
 .rw[aP,wrap_i64 Ω Ω];refine (BJ (s:=BK) (i:=n) (j:=n+1) rfl Ω cZ.u Ω (by show n+1<=36;omega)).mpr ?_;rw[Ld ⟨n,Ω⟩,BL Ω];exact⟨rfl,Ext.refl _⟩
 .rw[hI,wrap_i64 Ω Ω,hI,wrap_i64 Ω Ω,aP,wrap_i64 Ω Ω];refine (BJ (s:=jD) (i:=2*n) (j:=2*n+2) Ω Ω cZ.u Ω (by rw[BG];omega)).mpr ?_;rw[Lc ⟨n,a⟩,Le Ω a];exact⟨rfl,Ext.refl _⟩
theorem Lg {g:Nat} {e f:Λ} (a:jE w g 1 e C f) (h:C.length<=23):aF .u8 w (.slice (σ ⟨g,1,ν⟩) C.length 23) C:=by
 obtain⟨a,m⟩:=a;refine⟨Ξ,g,1,_,23,rfl,h,by simp[maxLen],λ_=>rfl,λj v ad=>?_⟩;have p:j<C.length:=by have:=(x4.1 ad).1;simpa using this
 refine a.cell ?_;rw[ints,Z0,Z0,Y1 Θ,Y2 Θ,u7,m,R2];exact ad
theorem BM {g:Nat} (a:y=((m+2:Nat):Int)) (hm:m<=22):
  ac x7 (V4 mc (Γ g) (σ (Δ 1)) (σ (Δ y)) ν) w K=K (.slice (σ ⟨g,1,ν⟩) (m+1) 23):=by
 subst a;have:=rT (w:=w) (b:=g) (o:=0) (low:=σ (Δ 1)) (high:=σ (Δ ((m+2:Nat):Int))) (mx:=ν) (l:=1) (h:=m+2) (m:=24) (K:=K) mc.u cJ.i ⟨_,rfl⟩ ⟨_,rfl⟩ fz Ω Ω Ω;rw[this,if_neg Ω];rfl
theorem Lh (q:ej w) (s:n<9223372036854775808):am x7 IA [Δ (n:Int),Δ 10] w λv w'=>v=bP (fe n)/\Ext w w':=by
 refine az func261 ?_;rw[bg];refine (al).mpr ⟨λ_=>?_,λh=>absurd rfl h⟩;refine aV (λv V=>w=V/\v= .bool (decide (n<100))) ?_ ?_
 rotate_left
 .intro aA a;rw[md,al];refine⟨λ_=>?_,λh=>Ω⟩;rw[aO];exact a _ _ ⟨rfl,by congr 1;rw[V6,decide_eq_true_eq,decide_eq_true_eq];omega⟩
 rintro _ _ ⟨rfl,rfl⟩;rw[al];refine⟨λh=>?_,λh=>?_⟩
 .exact (Lf h).mono λ_ _ _ h=>h
 refine bD mc.i λg V E f x=>?_;rw[fd ap.u fu.u,wrap_u64 Ω Ω];refine aV (λv aa=>V=aa/\v= .int .u64 (n:Int)) ?_ ?_
 rotate_left
 .intro aA a;rw[aO,al];exact⟨λh=>Ω,λ_=>a _ _ ⟨rfl,rfl⟩⟩
 rintro _ _ ⟨rfl,rfl⟩;refine (Lb (q.ext f) Ω s).mono ?_;rintro _ aa _ ⟨j,m,rfl,hm,y,p⟩;rw[aP,wrap_i64 Ω Ω];rw[BM (m:=m) Ω Ω];have z:jE aa g 1 [0] (r8 (m+1) 0) (r8 (22-m) 0):=by
  refine⟨?_,rfl⟩;have e:[0]++r8 (m+1) (0:Int)++r8 (22-m) 0=r8 24 0:=by
   rw[show[(0:Int)]=r8 1 0 from rfl,List.replicate_append_replicate,List.replicate_append_replicate];congr 1;omega
  rw[e];exact x.ext j
 refine (K4 (N:=m+1) z Ξ Ω p).mono ?_;rintro _ G _ ⟨rfl,A,B⟩;refine cp Ω ?_;rw[aP,wrap_i64 Ω Ω];rw[BM (m:=m) Ω Ω];have C:=qn (m+1) n;have U:=Lg B Ω;rw[C] at U;rw[u1 cN.u cJ.u cZ.u U,BF m n y p];refine⟨rfl,(f.trans j).then A λr H he=>?_⟩;have he:r=g:=he;omega
theorem Li (a:ej w) (e:n<9223372036854775808):am x7 uF [Δ (n:Int)] w λv w'=>v=bP (fe n)/\Ext w w':=by
 refine az func189 ?_;refine am.mono (K:=λv w'=>v=bP (fe n)/\Ext w w') ?_ (λ_ _ _ h=>h);refine az func232 ?_;exact (Lh a e).mono λ_ _ _ h=>h
theorem ej.ab (h:ej w) (J:ah S w w') (a:¬S 1):ej w':=j7 J a h
def di (w:x3) (g gs:Nat) (A:ak) (B:ak) (clean:Bool) (s:Option aE):Prop:=match s with
 |some s=>df w g gs A B s clean
 |none=>ey w g gs A B
theorem fS.of {g:Nat} {A:ak} {B:ak} {s:Option aE} (h:fS w g gs A B clean s w'):ah (bC g gs A) w w'/\di w' g gs A B clean s:=h
theorem fS.mk {g:Nat} {A:ak} {B:ak} {s:Option aE} (h:ah (bC g gs A) w w') (a:di w' g gs A B clean s):fS w g gs A B clean s w':=⟨h,a⟩
theorem di.ab {g:Nat} {A:ak} {B:ak} {s:Option aE} (h:di w g gs A B clean s) (J:ah S w w') (a:∀r,bC g gs A r->¬S r) (e:∀r,cH g gs A B r->¬S r):di w' g gs A B clean s:=by
 cases s with
 |none=>exact ey.ab (g:=g) (gs:=gs) (A:=A) (B:=B) h J a e
 |some s=>exact df.ab (g:=g) (gs:=gs) (A:=A) (B:=B) (s:=s) (clean:=clean) h J a e
theorem di.ext {g:Nat} {A:ak} {B:ak} {s:Option aE} (h:di w g gs A B clean s) (J:Ext w w'):di w' g gs A B clean s:=h.ab (J.ab λ_=>False) (λ_ _ h=>h) λ_ _ h=>h
theorem di.side {g:Nat} {A:ak} {B:ak} {s:Option aE} (h:di w g gs A B clean s):kT w g gs A B:=by
 cases s with
 |none=>exact h.1
 |some s=>exact h.1
def bb (lo hi:Int) (s:Option aE):Option (Int×aE):=s.bind (bh lo hi)
theorem lO {g:Nat} {A:ak} {B:ak} {s:Option aE} (h:di w g gs A B clean s):am x7 m4 [Γ g,Δ lo,Δ hi] w λv w'=>fS w g gs A B clean ((bb lo hi s).map (·.2)) w'/\ ∃n at_:Int,v= .tuple #[Δ n,Δ at_]/\(∀q,bb lo hi s=σ q->n=q.1)/\(bb lo hi s=ν->n=0):=by
 cases s with
 |none=>
  refine (Ke h).mono ?_;rintro _ V _ ⟨J,rfl⟩;exact⟨⟨J.ab _,ey.ext (g:=g) (gs:=gs) (A:=A) (B:=B) h J⟩,0,0,rfl,λq h=>(by cases h),λ_=>rfl⟩
 |some s=>exact vp (s:=s) h
theorem oZ {g:Nat} {A:ak} {B:ak} {s:Option aE} (h:di w g gs A B clean s):am x7 kK [Γ g] w λv w'=>v= .bool s.isSome/\Ext w w':=by
 cases s with
 |none=>exact nx h
 |some s=>exact oR h
theorem Lj {g:Nat} {A:ak} {B:ak} {s:Option aE} {e:Int} (h:di w g gs A B clean s) (he:e≠0):am x7 m7 [Γ g,Δ e,Δ at_] w λ_ w'=>fS w g gs A B clean ν w':=by
 cases s with
 |none=>
  refine (Kc h).mono ?_;rintro _ V _ J;exact⟨J.ab _,ey.ext (g:=g) (gs:=gs) (A:=A) (B:=B) h J⟩
 |some s=>
  refine (si (s:=s) h he).mono ?_;rintro _ V _ ⟨a,f⟩;exact⟨a.mono λr _ h=>.inl h,f⟩
theorem qp {g:Nat} {A:ak} {B:ak} {s:Option aE} {b:Bool} (h:di w g gs A B clean s):am x7 pI [Γ g,.bool b,Δ at_] w λ_ w'=>fS w g gs A B clean (s.map (bd b)) w':=by
 cases s with
 |none=>
  refine (Ba h).mono ?_;rintro _ V _ J;exact⟨J.ab _,ey.ext (g:=g) (gs:=gs) (A:=A) (B:=B) h J⟩
 |some s=>
  refine (sj (s:=s) h).mono ?_;rintro _ V _ ⟨a,e⟩;exact⟨a.mono λr _ h=>.inl h,e⟩
theorem mv {n:Int} {s:Option aE} {s':aE} (h:bb lo hi s=σ (n,s')):lo<=n/\n<=hi:=by
 cases s with
 |none=>cases h
 |some s=>exact (hQ h).1
def e0 (ks acc:Λ) (s:Option aE):Option (Λ×aE):=s.bind (iy ks acc)
theorem BN {acc:Λ} {s:Option aE}:e0 (k::ks) acc s=match bb 0 (k-1) s with
  |none=>ν
  |some (v,s)=>iy ks (acc++[v]) s:=by
 cases s with
 |none=>rfl
 |some s=>
  show iy (k::ks) acc s=_;rw[iy];show _=match bh 0 (k-1) s with|none=>ν|some (v,s)=>iy ks (acc++[v]) s
  cases bh 0 (k-1) s<;>rfl
theorem BO:∀ (t:Λ),(∀x∈t,0<=x/\x<=aw)->(dZ t).length<=20*t.length
 |[],_=>by simp[dZ]
 |x::t,h=>by
  have f:=BO t λy a=>h y (.tail _ a);have J:=h x (.head _);have j:=va 19 x.toNat (by unfold aw at J;omega) Ω;have e:dZ (x::t)=fe x.toNat++[32]++dZ t:=by simp[dZ]
  rw[e];simp only[o4,c9,List.length_nil];omega
theorem Lk {g aq:Nat} {A B:ak} {s:Option aE} {ae:x1->x3->Prop}
  (h:di w g gs A B clean s) (af:aF .i64 w sv sizes) (aQ:∀r,leads sv r->¬bC g gs A r/\r≠aq) (aR:∀z∈sizes,1<=z/\z<=aw) (bO:sizes.length<=100001) (aS:ej w) (h1:cH g gs A B 1)
  (aj:ag w aq dX [.slice ν 0 0,Δ 0]) (al:¬bC g gs A aq) (an:¬B aq)
  (ao:∀t w' aI gt,t.length=sizes.length->(∀x∈t,0<=x/\x<=aw)->ah (λr=>bC g gs A r\/r=aq) w w'->ag w' aq dX [aI,Δ 0]->au .i64 ap w' gt aI t->w.heap.size<=gt->
   di w' g gs A B clean ((e0 sizes [] s).map (·.2))->(∀q,e0 sizes [] s=σ q->t=q.1)->ae (bP (dZ t)) w'):
  bZ (.string ⟨#[]⟩) (Δ 0) w λkey S C aT=>
   ac x7 (aL .lss ai false false S (Δ (sizes.length:Int))) C λaV=>
   Split aV (ac x7 (j4 ax sv S) C λaW=>
   ac x7 (u4 ap aW) C λaX=>
   ac x7 (aL .sub ap false true aX (Δ 1)) C λaY=>
   am x7 m4 [Γ g,(Δ 0),aY] C λav G=>
   ac x7 (Z7 av 0) G λay=>
   ac x7 (Z7 av 1) G λbQ=>
   ac x7 (u5 dX (Γ aq) 0) G λaZ=>
   ac x7 (u4 ax aZ) G λa1=>
   aD x7 (Y4 ax 1 #[(0,ay)]) G λa2 a6=>
   aD x7 (b9 #[ax,ax] ax #[a1,a2]) a6 λa7 az=>
   ac x7 (u5 dX (Γ aq) 0) az λa8=>
   aD x7 (o6 ax a8 a7) az λ(_:Unit) ba=>
   am x7 uF [ay] ba λbd K=>
   ac x7 (aL .add cZ false true bd (.string ⟨#[32]⟩)) K λbe=>
   ac x7 (aL .add cZ false false key be) K λbf=>
   ac x7 (aL .add ai false true S (Δ 1)) K λbg=>
   aT bf bg K) (ae key C):=by
 have bR:=aj.lt;have bh:=h.side;obtain⟨bS,bT,bU,bi,bj⟩:=bh;refine bZ.range sizes.length (λj key V=>∃t aI gt f,key=bP (dZ t)/\t.length=j/\(∀x∈t,0<=x/\x<=aw)/\ah (λr=>bC g gs A r\/r=aq) w V/\ag V aq dX [aI,Δ 0]/\au .i64 ap V gt aI t/\w.heap.size<=gt/\
  di V g gs A B clean f/\e0 sizes [] s=e0 (sizes.drop j) t f) af.le ⟨[],_,w.heap.size,s,rfl,rfl,λx J=>(by cases J),ah.refl _ _,aj,au.nil _ _ _ _,p8 _,h,rfl⟩ ?_ ?_
 rotate_left
 .rintro _ V bk ⟨t,aI,gt,f,rfl,L,H,E,M,N,U,O,he⟩;refine cp Ω ?_;rw[List.drop_length] at he;cases f with
  |none=>
   have he:e0 sizes [] s=ν:=he;exact ao t V aI gt L H E M N U (by rw[he];exact O) (λq e=>by rw[he] at e;cases e)
  |some f=>
   have he:e0 sizes [] s=σ (t,f):=he;exact ao t V aI gt L H E M N U (by rw[he];exact O) (λq e=>by rw[he] at e;cases e;rfl)
 rintro j _ V bk aA ⟨t,aI,gt,f,rfl,L,H,E,M,N,U,O,he⟩ bl;obtain⟨z,W⟩:=aH (l:=sizes) aA;have bm:=aR z (x5 W);have bV:z<=4611686018427387904:=bm.2;have bn:aF .i64 V sv sizes:=hP af E λr y a n c ad br=>by
  have:=aQ r ⟨a,n,c,ad,br⟩;exact y.elim this.1 this.2
 have gT:∀r,bC g gs A r->r<w.heap.size:=bi;refine bH Ω ?_;rw[bc ax.u ap.i Ψ bn W,dF,wrap_i64 Ω Ω];refine (lO O).mono ?_;rintro _ aa _ ⟨bt,n,at_,rfl,aB,bu⟩;obtain⟨P,bw⟩:=bt.of;have aC:0<=n/\n<=aw:=by
  cases e:bb 0 (z-1) f with
  |none=>rw[bu e];exact⟨Ω,by unfold aw;omega⟩
  |some q=>
   rw[aB q e];have:=mv (s':=q.2) (n:=q.1) e;exact⟨this.1,by unfold aw;omega⟩
 rw[bo,bp];have aG:=M.ab P al;have bx:=N.ab P λ_ bz=>by have:=gT _ bz;omega
 rw[aM dX.p 0 aG rfl];refine ew ax.u ap.i rfl λa ga bA bW I bB=>?_;refine iZ ax.u ap.i rfl (bx.ext I) bB.ls Θ Θ λaJ aK bD bX X Q=>?_;have bY:=E.size;have b0:=P.size;have z3:=I.size;have z4:=Q.size;rw[aU dX.p rfl];have bE:=(aG.ext I).ab Q (λhe=>by have he:aq=gt:=he;omega);refine bq (g:=aq) (o:=0) ax.i X.ls.cells.1 X.ls.cells.2 bE Ξ λaN Y b1 Z=>?_;have Z:ag aN aq dX [aJ,Δ 0]:=Z;have bF:ah (λr=>bC g gs A r\/r=aq) w bA:=(E.trans (P.mono λr _ h=>.inl h)).trans (I.ab _);have bG:ah (λr=>bC g gs A r\/r=aq) w bD:=hn bF Q λr y he=>by have he:r=gt:=he;omega
 have aO:ah (λr=>bC g gs A r\/r=aq) w aN:=bG.trans (Y.mono λr _ h=>.inr h);have bI:¬(λr=>bC g gs A r\/r=aq) 1:=λh=>h.elim h1.1 λh=>an (h▸h1.2);obtain⟨m,rfl⟩:∃m:Nat,n=(m:Int):=⟨n.toNat,Ω⟩;unfold aw at aC;refine (Li (aS.ab aO bI) Ω).mono ?_;rintro _ b2 _ ⟨rfl,R⟩;have b3:=va 19 m Ω Ω;have b4:=BO t H;rw[show (ByteArray.mk #[32])=strOfNums [32] from rfl,u0 Θ,u0 Θ,aP];refine bl _ _ ⟨t++[(m:Int)],aJ,aK,(bb 0 (z-1) f).map (·.2),?_,by simp[L],λx J=>?_,aO.trans (R.ab _),Z.ext R,(X.ab Y (λ_ he=>by have he:aK=aq:=he;omega)).ext R,Ω,?_,?_⟩
 .rw[Jx,u6]
 .rcases o7.1 J with J|J
  .exact H x J
  .rw[o8.1 J];exact aC
 .refine di.ext ?_ R;have bJ:=bw.ext I;have bK:∀r,bC g gs A r->¬(λr=>r=gt) r:=λr y he=>by have:=gT r y;have he:r=gt:=he;omega
  have bL:∀r,cH g gs A B r->¬(λr=>r=gt) r:=λr y he=>by have:=bj r y.2;have he:r=gt:=he;omega
  have bM:∀r,bC g gs A r->¬(λr=>r=aq) r:=λr y he=>by have he:r=aq:=he;exact al (he▸y)
  have bN:∀r,cH g gs A B r->¬(λr=>r=aq) r:=λr y he=>by have he:r=aq:=he;exact an (he▸y.2)
  exact (bJ.ab Q bK bL).ab Y bM bN
 .rw[he,X5 aA,show sizes[j]=z from (x4.1 W).2,BN];cases e:bb 0 (z-1) f with
  |none=>rfl
  |some q=>
   rw[aB q e];rfl
def dQ (s:aE):Prop:=s.big=false->s.told<=16384
def jF (n:Int) (s:aE):aE:=bd (decide (16384<min (s.told+n) aw)) {s with told:=min (s.told+n) aw}
theorem Ll (n:Int) (s:aE):dQ (jF n s):=λh=>by
 have h:(s.big||decide (16384<min (s.told+n) aw))=false:=h;have:=of_decide_eq_false (S3.1 h).2;show min (s.told+n) aw<=16384;omega
theorem Lm {g:Nat} {A B:ak} {s:Option aE} {n:Int} {K:x3->Prop} (h:di w g gs A B clean s) (L:∀t,s=σ t->0<=n/\n<=aw/\dQ t)
  (G:∀w',ah (bC g gs A) w w'->di w' g gs A B clean (s.map (jF n))->K w'):
  ac x7 (bM (Γ g)) w λM=>
  ac x7 (u5 cc M 2) w λN=>
  ac x7 (u4 ap N) w λO=>
  ac x7 (aL .add ap false false O (Δ n)) w λP=>
  ac x7 (Z2.min_ #[ap,ap] ap #[P,(Δ 4611686018427387904)]) w λQ=>
  ac x7 (bM (Γ g)) w λR=>
  ac x7 (u5 cc R 2) w λS=>
  aD x7 (o6 ap S Q) w λ(_:Unit) m=>
  ac x7 (bM (Γ g)) m λt77=>
  ac x7 (u5 cc t77 2) m λW=>
  ac x7 (u4 ap W) m λX=>
  ac x7 (aL .gtr ap false true X (Δ 16384)) m λY=>
  am x7 pI [Γ g,Y,Δ at_] m λ_ Z=>K Z:=by
 cases s with
 |none=>
  obtain⟨U,e,big,x,y,told,sv,l,q,z,C⟩:=id h;rw[aQ cc.p 2 q rfl,aP,lE,bV,aU cc.p rfl];refine bq (g:=g) (o:=5) ap.i rfl rfl q (by simp[fC]) λV a ad f=>?_;rw[aQ cc.p 2 f rfl,bU];have H:ey V g gs A B:=⟨U.ab a,e,big,x,y,_,sv,l,f,z,ao.ab C a λr _ h E=>sg h U.2.1 E⟩;refine (Ba H).mono ?_;rintro _ aa _ I;exact G _ ((a.mono λr _ h=>.inl h).trans (I.ab _)) (H.ext I)
 |some s=>
  obtain⟨aq,ae,hi⟩:=L s rfl;obtain⟨U,af,ai,big,x,y,told,sv,q,z,C⟩:=id h;rw[aQ cc.p 2 q rfl,aP,lE,bV,aU cc.p rfl];refine bq (g:=g) (o:=5) ap.i rfl rfl q (by simp[fC]) λV a ad f=>?_;have f:ag V g cc (fC gs 0 big x y (min (X2.wrap (told+n)) 4611686018427387904) sv):=f;rw[aQ cc.p 2 f rfl,bU];have key:s.big=false->min (X2.wrap (told+n)) 4611686018427387904=min (s.told+n) aw:=λj=>by
   rw[z.2 j];have:=hi j;unfold aw at ae ⊢;rw[wrap_i64 Ω Ω]
  have aj:df V g gs A B {s with told:=min (s.told+n) aw} clean:=⟨U.ab a,af.ab a (λhe=>U.1 he.symm) (λr al he=>al.1 (.inl he)),⟨by show 0<=min _ _;unfold aw;omega,by show min _ _<=_;omega,ai.2.2⟩,big,x,y,_,sv,f,⟨z.1,key⟩,ao.ab C a λr _ h E=>sg h U.2.1 E⟩;refine (sj aj).mono ?_;rintro _ aa _ ⟨an,J⟩;refine G _ ((a.trans an).mono λr _ h=>.inl h) ?_;have e:bd (decide (16384<min (X2.wrap (told+n)) 4611686018427387904)) {s with told:=min (s.told+n) aw}=jF n s:=by
   cases j:s.big with
   |false=>rw[key j,<-j];rfl
   |true=>simp[jF,bd,j]
  rw[e] at J;exact J
def iE (sizes:Λ) (s:Option aE):Option (List (Λ×Int)×aE):=s.bind (dP sizes)
def kX (w:x3) (m:Nat) (acc:List (Λ×Int)):Prop:=c3 w m (acc.map λp=>(bP (dZ p.1),Δ 1))
def kl (w:x3) (m:Nat):Prop:=∃d,c3 w m d/\ ∀p∈d,∃ (k:ByteArray) (c:Int),p=(.string k,Δ c)
theorem kX.any {acc:List (Λ×Int)} (h:kX w m acc):kl w m:=⟨_,h,λp a=>by
 obtain⟨q,_,rfl⟩:=l9.1 a;exact⟨_,_,rfl⟩⟩
theorem Ln {k:ByteArray} (h:kl w m) (f:∀c:Int,K (Δ c)):ac x7 (Instr.lookup gP (.map (σ m)) (.string k) false) w K:=by
 obtain⟨d,hm,q⟩:=h;have hk:=Keys.str cZ.u;have r:∀p∈d,∃s,p.1=x1.string s:=λp a=>by obtain⟨s,c,rfl⟩:=q p a;exact⟨s,rfl⟩
 by_cases he:∃p∈d,p.1=x1.string k
 .obtain⟨p,a,e⟩:=he;obtain⟨j,x⟩:=X1.1 a;obtain⟨s,c,rfl⟩:=q p a;have e:x1.string s=x1.string k:=e;rw[e] at x;rw[qg gP.u hk hm r ⟨k,rfl⟩ x];exact f c
 .have y:∀p∈d,p.1≠x1.string k:=λp a h=>he ⟨p,a,h⟩;rw[sr gP.u hk ⟨_,_,ai.i⟩ hm r ⟨k,rfl⟩ y];exact f 0
theorem Lo {k:ByteArray} {K:Unit->x3->Prop} (h:kl w m) (x:∀w',ah (λr=>r=m) w w'->kl w' m->K () w'):aD x7 (Instr.mapUpdate gP (.map (σ m)) (.string k) (Δ c)) w K:=by
 obtain⟨d,hm,e⟩:=h;have y:∀p∈d,∃s,p.1=x1.string s:=λp a=>by obtain⟨s,c,rfl⟩:=e p a;exact⟨s,rfl⟩
 refine qh gP.u (Keys.str cZ.u) hm y ⟨k,rfl⟩ (λj v0 w' z f q=>x w' q ⟨_,f,λp a=>?_⟩) (λw' A f q=>x w' q ⟨_,f,λp a=>?_⟩)
 .rcases X8 a with a|rfl
  .exact e p a
  .exact⟨_,_,rfl⟩
 .rcases o7.1 a with a|a
  .exact e p a
  .rw[o8.1 a];exact⟨_,_,rfl⟩
theorem BP {a b:Λ} (e:∀x∈a,0<=x) (f:∀x∈b,0<=x) (h:bP (dZ a)=bP (dZ b)):a=b:=by
 have h:strOfNums (dZ a)=strOfNums (dZ b):=x1.string.inj h;exact Ap e f (str_inj (Aq a) (Aq b) h)
theorem vG {acc:List (Λ×Int)}:∀p∈acc.map λp=>(bP (dZ p.1),V2 .i64 1),∃s,p.1=x1.string s:=λp a=>by
 obtain⟨q,_,rfl⟩:=l9.1 a;exact⟨_,rfl⟩
theorem BQ {acc:List (Λ×Int)} {t:Λ} (h:kX w m acc) (f:∀p∈acc,∀x∈p.1,0<=x) (r:∀x∈t,0<=x):
  ac x7 (Instr.lookup gP (.map (σ m)) (bP (dZ t)) false) w K=K (Δ (if t∈acc.map (·.1) then 1 else 0)):=by
 have hk:=Keys.str cZ.u;by_cases he:t∈acc.map (·.1)
 .rw[if_pos he];obtain⟨p,a,rfl⟩:=l9.1 he;obtain⟨j,s⟩:=X1.1 a;rw[qg gP.u hk h vG ⟨_,rfl⟩ (j:=j) (v:=Δ 1) (by rw[x8,s];rfl)];simp
 .rw[if_neg he];rw[sr gP.u hk ⟨_,_,ai.i⟩ h vG ⟨_,rfl⟩ (λp a y=>?_)]
  .simp
  .obtain⟨q,e,rfl⟩:=l9.1 a;have:=BP (f q e) r y;exact he (l9.2 ⟨q,e,this⟩)
theorem Lp {acc:List (Λ×Int)} {t:Λ} {K:Unit->x3->Prop} (h:kX w m acc) (z:∀p∈acc,∀x∈p.1,0<=x) (A:∀x∈t,0<=x) (B:t∉acc.map (·.1))
  (C:∀w',ah (λr=>r=m) w w'->kX w' m (acc++[(t,c)])->K () w'):aD x7 (Instr.mapUpdate gP (.map (σ m)) (bP (dZ t)) (Δ 1)) w K:=by
 refine qh gP.u (Keys.str cZ.u) h vG ⟨_,rfl⟩ (λj v0 w' e f s=>?_) (λw' _ f s=>C w' s ?_)
 .rw[x8] at e;obtain⟨q,y,a⟩:=Y5.1 e;have a:bP (dZ q.1)=bP (dZ t):=congrArg Prod.fst a;have:=BP (z q (x5 y)) A a;exact absurd (l9.2 ⟨q,x5 y,this⟩) B
 .unfold kX;rw[Z0];exact f
theorem Lq {acc:List (Λ×Int)} {t:Λ} {ok:Prop} {K:Unit->x3->Prop} (e:kl w m) (z:ok->kX w m acc/\(∀p∈acc,∀x∈p.1,0<=x)/\(∀x∈t,0<=x)/\t∉acc.map (·.1))
  (f:∀w',ah (λr=>r=m) w w'->kl w' m->(ok->kX w' m (acc++[(t,c)]))->K () w'):
  ac x7 (Instr.lookup gP (.map (σ m)) (bP (dZ t)) false) w λA=>
  ac x7 (aL .add ai false true A (Δ 1)) w λB=>
  aD x7 (Instr.mapUpdate gP (.map (σ m)) (bP (dZ t)) B) w K:=by
 by_cases j:ok
 .obtain⟨h1,q,s,y⟩:=z j;rw[BQ h1 q s,if_neg y,aP,wrap_i64 Ω Ω];exact Lp (c:=c) h1 q s y λw' a U=>f w' a U.any λ_=>U
 .refine Ln e λgR=>?_;rw[aP];exact Lo e λw' a U=>f w' a U λh=>absurd h j
def fi {α:Type} (f:List α->aE->Option (α×aE)) (n:Nat) (acc:List α) (o:Option aE):Option (List α×aE):=o.bind (cO f n acc)
theorem kl.ab (h:kl w m) (J:ah S w w') (a:¬S m):kl w' m:=by
 obtain⟨d,h1,e⟩:=h;exact⟨d,h1.ab J a,e⟩
theorem di.words {g:Nat} {A:ak} {B:ak} {s:aE} (h:di w g gs A B clean (σ s)):s.toks.length<=100000:=by
 have h:df w g gs A B s clean:=h;exact h.2.1.words.1
theorem BR {acc:List (Λ×Int)} {st:aE} {t:Λ} (j:∀q,e0 sizes [] (σ st)=σ q->t=q.1) (a:∀q,bb 0 aw ((e0 sizes [] (σ st)).map (·.2))=σ q->c=q.1):
  (bb 0 aw ((e0 sizes [] (σ st)).map (·.2))=ν->dO sizes acc st=ν)/\ ∀q,bb 0 aw ((e0 sizes [] (σ st)).map (·.2))=σ q->dO sizes acc st=if t∈acc.map (·.1) then ν else σ ((t,c),q.2):=by
 have e:e0 sizes [] (σ st)=iy sizes [] st:=rfl;rw[e] at j a ⊢;unfold dO;cases h1:iy sizes [] st with
 |none=>exact⟨λ_=>rfl,λq f=>(by cases f)⟩
 |some q=>
  obtain⟨bu,m⟩:=q;rw[h1] at j a;have:=j _ rfl;subst this;have p:bb 0 aw ((σ (t,m)).map (·.2))=bh 0 aw m:=rfl;rw[p] at a ⊢;simp only;cases r:bh 0 aw m with
  |none=>exact⟨λ_=>rfl,λq f=>(by cases f)⟩
  |some q=>
   obtain⟨s,w⟩:=q;rw[r] at a;have:=a _ rfl;subst this;exact⟨λh=>(by cases h),λq f=>(by cases f;rfl)⟩
theorem Lr {g:Nat} {A B:ak} {s:Option aE} {Q:x1->x3->Prop}
  (h:di w g gs A B clean s) (bW:aF .i64 w sv sizes) (aS:∀r,leads sv r->¬bC g gs A r/\r<w.heap.size) (bY:∀z∈sizes,1<=z/\z<=aw) (b0:sizes.length<=100001) (b1:ej w) (h1:cH g gs A B 1) (b2:(N:Int)<=aw)
  (bm:∀v w' l,fS w g gs A B clean ((fi (dO sizes) N [] s).map (·.2)) w'->bE (eI w.heap.size) bz w' [v] (show List (Λ×Int) from l)->(∀q,fi (dO sizes) N [] s=σ q->l=q.1)->Q v w'):
  aD x7 (Instr.makeMap gP ν) w λaT m=>
 bZ (.slice ν 0 0) (Δ 0) m λout i G k=>
  cv (α:=x1->x3->Prop) (λ(b3:x1) (S:x3)=>
   Split b3 (aD x7 (S7 dX true (.tuple #[])) S λx j=>
  ac x7 (W8 #[ax] ai #[sv]) j λb4=>
  bZ (.string ⟨#[]⟩) (Δ 0) j λkey aX U b5=>
   ac x7 (aL .lss ai false false aX b4) U λb6=>
   Split b6 (ac x7 (j4 ax sv aX) U λb7=>
   ac x7 (u4 ap b7) U λb8=>
   ac x7 (aL .sub ap false true b8 (Δ 1)) U λca=>
   am x7 m4 [Γ g,(Δ 0),ca] U λbn Y=>
   ac x7 (Z7 bn 0) Y λbr=>
   ac x7 (Z7 bn 1) Y λdr=>
   ac x7 (u5 dX x 0) Y λcb=>
   ac x7 (u4 ax cb) Y λcc=>
   aD x7 (Y4 ax 1 #[(0,br)]) Y λcd H=>
   aD x7 (b9 #[ax,ax] ax #[cc,cd]) H λce bt=>
   ac x7 (u5 dX x 0) bt λcg=>
   aD x7 (o6 ax cg ce) bt λ(_:Unit) ch=>
   am x7 uF [br] ch λci aB=>
   ac x7 (aL .add cZ false true ci (.string ⟨#[32]⟩)) aB λcj=>
   ac x7 (aL .add cZ false false key cj) aB λck=>
   ac x7 (aL .add ai false true aX (Δ 1)) aB λcl=>
   b5 ck cl aB)
    (am x7 m4 [Γ g,(Δ 0),(Δ 4611686018427387904)] U λbu aC=>
  ac x7 (Z7 bu 0) aC λcm=>
  ac x7 (Z7 bu 1) aC λcn=>
  ac x7 (u5 dX x 1) aC λcp=>
  aD x7 (o6 ap cp cm) aC λ(_:Unit) cq=>
  cv (α:=x3->Prop) (λ(V:x3)=>
   ac x7 (Instr.lookup gP aT key false) V λcr=>
   ac x7 (aL .add ai false true cr (Δ 1)) V λct=>
   aD x7 (Instr.mapUpdate gP aT key ct) V λ(_:Unit) Z=>
   ac x7 (u4 dX x) Z λcu=>
   aD x7 (Y4 ir 1 #[(0,cu)]) Z λcw an=>
   aD x7 (b9 #[ir,ir] ir #[out,cw]) an λcz aG=>
   ac x7 (aL .add ap false true i (Δ 1)) aG λcA=>
  k cz cA aG) λbw=>
  cv (α:=x1->x3->Prop) (λ(cB:x1) (M:x3)=>
   Split cB (am x7 m7 [Γ g,(Δ 4),cn] M λds bx=>
    bw bx)
    (bw M)) λbA=>
  am x7 kK [Γ g] cq λcC aa=>
  Split cC (ac x7 (Instr.lookup gP aT key false) aa λcD=>
  ac x7 (aL .gtr ai false true cD (Δ 0)) aa λcE=>
  bA cE aa)
   (bA (.bool false) aa)))
    (Q out S)) λbB=>
  ac x7 (aL .lss ap false false i (Δ (N:Int))) G λcF=>
  Split cF (am x7 kK [Γ g] G λcG cI=>
  bB cG cI)
   (bB (.bool false) G):=by
 obtain⟨dt,du,dv,cJ,aH⟩:=h.side;have gT:∀r,bC g gs A r->r<w.heap.size:=cJ;unfold aw at b2;refine sq λy m dw aY aZ=>?_;have dx:=aY.size;have dy:=aZ.lt;generalize C:fi (dO sizes) N [] s=bF at bm;refine⟨λout a2 G=>∃ (i:Nat) (acc:List (Λ×Int)) (so:Option aE),a2=Δ (i:Int)/\i<=N/\ah (bC g gs A) w G/\m.heap.size<=G.heap.size/\bE (eI m.heap.size) bz G [out] acc/\di G g gs A B clean so/\
   bF=fi (dO sizes) (N-i) acc so/\kl G y/\acc.length<=100001/\ ∀st,so=σ st->kX G y acc/\(∀p∈acc,∀x∈p.1,0<=x)/\acc.length+st.toks.length<=100000,
  λ_ a2 _=>N-(bX a2).toNat,⟨0,[],s,rfl,X3 _,aY.ab _,p8 _,gE,h.ext aY,C.symm,⟨[],aZ,λp L=>(by cases L)⟩,Ξ,λst cK=>⟨aZ,λp L=>(by cases L),?_⟩⟩,?_⟩
 .subst cK;have:=h.words;simpa using this
 rintro out _ G ⟨i,acc,so,rfl,dz,bG,z9,bH,a6,aJ,cL,dA,a7⟩;refine aV (λv S=>Ext G S/\((v= .bool true/\i<N/\ ∃st,so=σ st)\/(v= .bool false/\(so=ν\/i=N)))) ?_ ?_
 rotate_left
 .intro aA a8;rw[aO,al];refine⟨λcM=>?_,λdC=>a8 _ _ ⟨Ext.refl _,.inr ⟨rfl,.inr Ω⟩⟩⟩;refine (oZ a6).mono ?_;rintro _ S _ ⟨rfl,O⟩;cases so with
  |none=>exact a8 _ _ ⟨O,.inr ⟨rfl,.inl rfl⟩⟩
  |some st=>exact a8 _ _ ⟨O,.inl ⟨rfl,Ω,st,rfl⟩⟩
 rintro _ S ⟨O,cN⟩;rcases cN with⟨rfl,cM,st,rfl⟩|⟨rfl,cO⟩
 rotate_left
 .rw[a1];have bJ:bF=so.map λst=>(acc,st):=by
   rcases cO with rfl|rfl
   .exact aJ
   .rw[V7] at aJ;rw[aJ];cases so<;>rfl
  refine bm out S acc (fS.mk (bG.trans (O.ab _)) ?_) (bI (ao.mono bH (λr _ h=>by have h:m.heap.size<=r:=h;show w.heap.size<=r;omega) λ_ _ h=>h) O) (λq I=>?_)
  .rw[bJ,Option.map_map];have e:V5 ((λx=>x.2)∘λst=>(acc,st)) so=so:=by cases so<;>rfl
   rw[e];exact a6.ext O
  .rw[bJ] at I;cases so with
   |none=>cases I
   |some st=>cases I;rfl
 rw[bQ];obtain⟨a7,ba,dD⟩:=a7 st rfl;have dE:=O.size;refine bD dX.i λaq j dF bK bL=>?_;have av:=O.trans bK;have bc:ah (bC g gs A) w j:=bG.trans (av.ab _);have bM:aF .i64 j sv sizes:=hP bW bc λr f a n c ad cP=>(aS r ⟨a,n,c,ad,cP⟩).1 f;rw[aW ax.u bM];have aK:¬bC g gs A aq:=λC=>by have:=gT _ C;omega
 refine Lk (s:=σ st) (a6.ext av) bM (λr f=>⟨(aS r f).1,by have:=(aS r f).2;omega⟩) bY b0 (b1.ab bc h1.1) h1 bL aK (λcQ=>by have:=aH _ cQ;omega) λt U aI gt dG cR bN cS cT cU cV cW=>?_;have dH:=bK.size;have z12:=bN.size;have dI:=bL.lt;have bd:∀x∈t,0<=x:=λx J=>(cR x J).1;refine (lO cV).mono ?_;rintro _ Y _ ⟨be,c,dJ,rfl,cX,dK⟩;obtain⟨aM,cY⟩:=be.of;have dL:=aM.size;rw[bo,bp,aU dX.p rfl];refine bq (g:=aq) (o:=1) ap.i rfl rfl (cS.ab aM aK) Ξ λH aN dM bf=>?_;have bf:ag H aq dX [aI,Δ c]:=bf;have c0:au .i64 ap H gt aI t:=(cT.ab aM (λ_ C=>by have:=gT _ C;omega)).ab aN (λ_ he=>by have he:gt=aq:=he;omega);have bg:ah (λr=>bC g gs A r\/r=aq) j H:=(bN.trans (aM.mono λr _ h=>.inl h)).trans (aN.mono λr _ h=>.inr h);have W:di H g gs A B clean ((bb 0 aw ((e0 sizes [] (σ st)).map (·.2))).map (·.2)):=cY.ab aN (λr f he=>by have he:r=aq:=he;exact aK (he▸f)) (λr f he=>by have:=aH r f.2;have he:r=aq:=he;omega);have bO:¬(λr=>bC g gs A r\/r=aq) y:=λh=>h.elim (λh=>by have:=gT _ h;omega) (λh=>Ω);have c1:kl H y:=(cL.ab (av.ab (λ_=>False)) (λh=>h)).ab bg bO;have bP:kX H y acc:=(c3.ext a7 av).ab bg bO;obtain⟨bh,bi⟩:=BR (acc:=acc) cW cX;refine dg (λV=>ah (bC g gs A) H V/\di V g gs A B clean ((dO sizes acc st).map (·.2))) ?_ ?_
 .rintro V ⟨ae,c2⟩;have bj:¬bC g gs A y:=λh=>by have:=gT _ h;omega
  have dN:=aN.size;have dP:=ae.size;refine Lq (acc:=acc) (t:=t) (c:=c) (ok:=∃q,dO sizes acc st=σ q) (c1.ab ae bj) (λ⟨q,I⟩=>⟨c3.ab bP ae bj,ba,bd,λP=>?_⟩) λZ ay c4 c5=>?_
  .cases K:bb 0 aw ((e0 sizes [] (σ st)).map (·.2)) with
   |none=>rw[bh K] at I;cases I
   |some af=>rw[bi af K,if_pos P] at I;cases I
  have dQ:=ay.size;have c6:ag Z aq dX [aI,Δ c]:=(bf.ab ae aK).ab ay (λhe=>by have he:aq=y:=he;omega);have c7:au .i64 ap Z gt aI t:=(c0.ab ae (λ_ C=>by have:=gT _ C;omega)).ab ay (λ_ he=>by have he:gt=y:=he;omega);rw[bR dX.p dX.i rfl c6.range];have bS:bE (eI j.heap.size) bz Z [aI,Δ c] (t,c):=⟨[aI],[Δ c],eI j.heap.size,bz,rfl,λ_ h=>h,λ_ h=>h.elim,λ_ _ _ h=>h,ao.mono (nn c7) (λr _ h=>by subst h;exact cU) (λ_ _ h=>h),rfl⟩;refine kc (α:=Λ×Int) (a:=(t,c)) (cs:=[aI,Δ c]) (A:=eI j.heap.size) (R:=bz) ir.u dX.i Φ rfl bS λu an aj _ c8=>?_;have z22:=aj.size;have c9:bE (λr=>eI m.heap.size r/\r<j.heap.size/\r≠aq) bz j [out] acc:=bI (ao.mono (mf bH) (λr _ h=>⟨h.1,by have:=h.2;omega,by have:=h.2;omega⟩) λ_ _ h=>h) av;have bT:ah (λr=>bC g gs A r\/r=aq\/r=y) j an:=(((bg.mono λr _ h=>h.elim .inl λh=>.inr (.inl h)).trans (ae.mono λr _ h=>.inl h)).trans (ay.mono λr _ h=>.inr (.inr h))).trans (aj.ab _);have da:=ao.ab c9 bT λr f h C=>by
   rcases h with h|h
   .have aQ:m.heap.size<=r:=h.1;rcases C with C|C|C
    .have:=gT _ C;omega
    .exact h.2.2 C
    .omega
   .exact h
  refine nl (α:=Λ×Int) (a:=(t,c)) (A:=eI j.heap.size) ir.u dX.i rfl da c8 (bI bS aj) (λr _ h h'=>?_) Ω Ω λdR aG db az=>?_
  .rcases h' with h'|h'
   .have:=h.2;have:j.heap.size<=r:=h';omega
   .exact h'
  have dS:=az.size;rw[aP,wrap_i64 Ω Ω];have dc:ah (bC g gs A) w an:=hn bc bT λr f h=>by
   rcases h with h|h|h
   .exact h
   .omega
   .omega
  have dd:ah (bC g gs A) w aG:=hn dc az λr f h=>by have aQ:m.heap.size<=r:=h.1;omega
  have de:di an g gs A B clean ((dO sizes acc st).map (·.2)):=(c2.ab ay (λr f he=>by have he:r=y:=he;exact bj (he▸f)) (λr f he=>by have:=aH r f.2;have he:r=y:=he;omega)).ext aj;have df:∀r,bC g gs A r->¬(eI m.heap.size r/\r<j.heap.size/\r≠aq):=λr f he=>by have:=gT _ f;have aQ:m.heap.size<=r:=he.1;omega
  have dh:∀r,cH g gs A B r->¬(eI m.heap.size r/\r<j.heap.size/\r≠aq):=λr f he=>by have:=aH r f.2;have aQ:m.heap.size<=r:=he.1;omega
  have bV:¬(eI m.heap.size y/\y<j.heap.size/\y≠aq):=λhe=>by have aQ:m.heap.size<=y:=he.1;omega
  refine⟨⟨i+1,acc++[(t,c)],(dO sizes acc st).map (·.2),rfl,Ω,dd,Ω,?_,de.ab az df dh,?_,(c4.ab (aj.ab (λ_=>False)) (λh=>h)).ab az bV,Θ,λdj dk=>?_⟩,by simp only[bX];omega⟩
  .refine ao.mono db (λr _ h=>?_) λ_ _ h=>h;show m.heap.size<=r;rcases h with h|h|h
   .exact h.1
   .have h:j.heap.size<=r:=h;omega
   .omega
  .rw[aJ,show N-i=(N-(i+1))+1 by omega];cases E:dO sizes acc st with
   |none=>exact oS E
   |some q=>
    obtain⟨a,dj⟩:=q;have dl:a=(t,c):=by
     cases K:bb 0 aw ((e0 sizes [] (σ st)).map (·.2)) with
     |none=>rw[bh K] at E;cases E
     |some af=>
      rw[bi af K] at E;split at E
      .cases E
      .cases E;rfl
    subst dl;exact sm E
  .obtain⟨q,I,rfl⟩:=Y5.1 dk;have dT:=(oP I).2.2.2.1;refine⟨c3.ab ((c3.ext (c5 ⟨q,I⟩) aj)) az bV,λp L=>?_,by simp only[o4,S9];omega⟩;rcases o7.1 L with L|L
   .exact ba p L
   .rw[o8.1 L];exact bd
 .intro dU bk;cases K:bb 0 aw ((e0 sizes [] (σ st)).map (·.2)) with
  |none=>
   rw[K] at W;have E:=bh K;refine aV (λv M=>Ext H M/\v= .bool false) ?_ ?_
   .rintro _ M ⟨X,rfl⟩;rw[a1];exact bk _ ⟨X.ab _,by rw[E];exact W.ext X⟩
   .intro dm bl;refine (oZ W).mono ?_;rintro _ aa _ ⟨rfl,aR⟩;rw[show ((ν:Option (Int×aE)).map (·.2)).isSome=false from rfl,a1];exact bl _ _ ⟨aR,rfl⟩
  |some af=>
   rw[K] at W;have E:=bi af K;refine aV (λv M=>Ext H M/\v= .bool (decide (t∈acc.map (·.1)))) ?_ ?_
   .rintro _ M ⟨X,rfl⟩;rw[al];refine⟨λP=>?_,λdn=>?_⟩
    .refine (Lj (W.ext X) Ω).mono ?_;rintro _ bx _ be;obtain⟨dp,dq⟩:=be.of;exact bk _ ⟨(X.ab _).trans dp,by rw[E,if_pos P];exact dq⟩
    .exact bk _ ⟨X.ab _,by rw[E,if_neg dn];exact W.ext X⟩
   .intro dm bl;refine (oZ W).mono ?_;rintro _ aa _ ⟨rfl,aR⟩;rw[show ((σ af:Option (Int×aE)).map (·.2)).isSome=true from rfl,bQ,BQ (c3.ext bP aR) ba bd,bU];refine bl _ _ ⟨aR,?_⟩;congr 1;by_cases P:t∈acc.map (·.1)
    .rw[if_pos P,decide_eq_true P];rfl
    .rw[if_neg P,decide_eq_false P];rfl
theorem BS (sizes:Λ) (s:Option aE):iE sizes s=match bb (-aw) aw s with
 |none=>ν
 |some (n,s)=>
  if n<0 then match s.shared[(-n-1).toNat]? with
   |none=>ν
   |some (z,l)=>if z=sizes then σ (l,s) else ν
  else cO (dO sizes) n.toNat [] (jF n s):=by
 cases s with
 |none=>rfl
 |some s=>
  show dP sizes s=_;unfold dP;show _=match bh (-aw) aw s with
   |none=>ν
   |some (n,s)=>
    if n<0 then match s.shared[(-n-1).toNat]? with
     |none=>ν
     |some (z,l)=>if z=sizes then σ (l,s) else ν
    else cO (dO sizes) n.toNat [] (jF n s)
  cases bh (-aw) aw s<;>rfl
theorem BT {m:Bool} {S R:ak} {a:iB} (h:ao.rep (α:=iB) m S R w cs a):∃u v,cs=[u,v]/\ao.rep (α:=Λ) false bz R w [u] a.1/\ao.rep (α:=List (Λ×Int)) false bz R w [v] a.2:=by
 obtain⟨c,d,f,j,rfl,_,_,_,h1,e⟩:=h;have h1:ao.rep (α:=Λ) false bz R w c a.1:=h1;have e:ao.rep (α:=List (Λ×Int)) false bz R w d a.2:=e;obtain⟨u,rfl⟩:=W7.1 (show c.length=1 from ao.len h1);obtain⟨v,rfl⟩:=W7.1 (show d.length=1 from ao.len e);exact⟨u,v,rfl,h1,e⟩
theorem Ls {g:Nat} {A B:ak} {s:Option aE}
  (h:di w g gs A B clean s) (hi:∀t,s=σ t->dQ t) (av:aF .i64 w sv sizes) (K:∀r,leads sv r->¬bC g gs A r/\r<w.heap.size) (ax:∀z∈sizes,1<=z/\z<=aw) (aB:sizes.length<=100001) (aC:ej w) (h1:cH g gs A B 1):
  am x7 Hk [Γ g,sv] w λv w'=>fS w g gs A B clean ((iE sizes s).map (·.2)) w'/\ ∃l,Seen (λr=>cH g gs A B r\/w.heap.size<=r) w' [v] (show List (Λ×Int) from l)/\ ∀q,iE sizes s=σ q->l=q.1:=by
 have aD:=h.side;obtain⟨bd,be,bf,aG,bg⟩:=id aD;have gT:∀r,bC g gs A r->r<w.heap.size:=aG;refine az func140 ?_;refine (lO (lo:=-aw) (hi:=aw) h).mono ?_;rintro _ V _ ⟨aH,n,at_,rfl,Q,aI⟩;obtain⟨L,ag⟩:=aH.of;have bh:=L.size;have j:=BS sizes s;rw[bo,bp];have ai:aF .i64 V sv sizes:=hP av L λr C a n c ad U=>(K r ⟨a,n,c,ad,U⟩).1 C;have bi:∀r,leads sv r->¬bC g gs A r/\r<V.heap.size:=λr C=>⟨(K r C).1,by have:=(K r C).2;omega⟩;have rest:∀aa,Ext V aa->(∀q,bb (-aw) aw s=σ q->¬n<0)-> ∀N:Nat,n=(N:Int)->(N:Int)<=aw-> ∀y,ah (bC g gs A) aa y->di y g gs A B clean (((bb (-aw) aw s).map (·.2)).map (jF n))->
   ∀v w' l,fS y g gs A B clean ((fi (dO sizes) N [] (((bb (-aw) aw s).map (·.2)).map (jF n))).map (·.2)) w'->bE (eI y.heap.size) bz w' [v] (show List (Λ×Int) from l)->(∀q,fi (dO sizes) N [] (((bb (-aw) aw s).map (·.2)).map (jF n))=σ q->l=q.1)->
   fS w g gs A B clean ((iE sizes s).map (·.2)) w'/\ ∃l,Seen (λr=>cH g gs A B r\/w.heap.size<=r) w' [v] (show List (Λ×Int) from l)/\ ∀q,iE sizes s=σ q->l=q.1:=by
  intro aa x M N W X y G Y v w' l aJ aK aL;obtain⟨aM,aN⟩:=aJ.of;have aP:=x.size;have z3:=G.size;have e:iE sizes s=fi (dO sizes) N [] (((bb (-aw) aw s).map (·.2)).map (jF n)):=by
   rw[j];cases f:bb (-aw) aw s with
   |none=>rfl
   |some q=>
    obtain⟨aR,H⟩:=q;have:=Q _ f;subst this;simp only;rw[if_neg (M _ f),W,u6];rfl
  rw[e];refine⟨fS.mk (((L.trans (x.ab _)).trans G).trans aM) aN,l,pQ aK λr _ h=>?_,aL⟩;rcases h with h|h
  .have h:y.heap.size<=r:=h;exact .inr Ω
  .exact h.elim
 refine aV (λv aa=>Ext V aa/\v= .bool (decide (n<0/\(bb (-aw) aw s).isSome=true))) ?_ ?_
 rotate_left
 .intro aA P;refine (oZ ag).mono ?_;rintro _ aa _ ⟨rfl,x⟩;cases f:bb (-aw) aw s with
  |none=>
   rw[show ((ν:Option (Int×aE)).map (·.2)).isSome=false from rfl,a1];exact P _ _ ⟨x,by rw[decide_eq_false];rintro⟨_,h⟩;rw[f] at h;cases h⟩
  |some q=>
   rw[show ((σ q:Option (Int×aE)).map (·.2)).isSome=true from rfl,bQ,aO];exact P _ _ ⟨x,by congr 1;rw[V6,decide_eq_true_eq,decide_eq_true_eq,f];exact⟨λh=>⟨h,rfl⟩,λh=>h.1⟩⟩
 rintro _ aa ⟨x,rfl⟩;have I:=ag.ext x;have aP:=x.size;rw[al];refine⟨λM=>?_,λaS=>?_⟩
 rotate_left
 .have M:∀q,bb (-aw) aw s=σ q->¬n<0:=λq f h=>aS ⟨h,by rw[f];rfl⟩;obtain⟨N,W,X⟩:∃N:Nat,n=(N:Int)/\(N:Int)<=aw:=by
   cases f:bb (-aw) aw s with
   |none=>rw[aI f];exact⟨0,rfl,by unfold aw;omega⟩
   |some q=>
    have h1:=M q f;have aT:=mv (n:=q.1) (s':=q.2) f;have aW:=Q q f;exact⟨n.toNat,Ω,Ω⟩
  refine Lm (at_:=at_) I (λt aX=>?_) λy G Y=>?_
  .obtain⟨q,f,rfl⟩:=Y5.1 aX;have aT:=mv (n:=q.1) (s':=q.2) f;have aW:=Q q f;refine⟨Ω,Ω,?_⟩;cases s with
   |none=>cases f
   |some s0=>
    have aj:=(dC (n:=q.1) (s':=q.2) f).eqs;have an:=hi s0 rfl;intro ao;rw[aj.1];rw[aj.2.1] at ao;exact an ao
  .have z3:=G.size;have aY:ah (bC g gs A) w y:=(L.trans (x.ab _)).trans G;subst W;refine Lr (N:=N) Y ((hP (ai.ext x) G λr C a n c ad U=>(K r ⟨a,n,c,ad,U⟩).1 C)) (λr C=>⟨(K r C).1,by have:=(K r C).2;omega⟩) ax aB (aC.ab aY h1.1) h1 X λv w' l a b c=>?_;exact rest aa x M N rfl X y G Y v w' l a b c
 .obtain⟨aZ,a2⟩:=M;obtain⟨⟨aR,H⟩,f⟩:=Option.isSome_iff_exists.1 a2;have:=Q _ f;subst this;have bj:=mv f;rw[f] at j I;simp only at j;rw[if_pos aZ] at j;have I:df aa g gs A B H clean:=I;obtain⟨_,an,bk,big,bl,bm,told,bn,Z,bq,ac⟩:=id I;have br:aw=4611686018427387904:=rfl;refine aV (λv y=>Ext aa y/\v= .bool (decide (iE sizes s=ν))) ?_ ?_
  .rintro _ y ⟨E,rfl⟩;rw[al];refine⟨λa6=>?_,λap=>?_⟩
   .refine (si (I.ext E) Ω).mono ?_;rintro _ bt _ ⟨a7,a8⟩;rw[a6];refine⟨fS.mk (((L.trans (x.ab _)).trans (E.ab _)).trans (a7.mono λr _ h=>.inl h)) a8,[],gE,λq f=>by cases f⟩
   .cases O:H.shared[(-n-1).toNat]? with
    |none=>rw[O] at j;exact absurd j ap
    |some q=>
     obtain⟨z,l⟩:=q;rw[O] at j;simp only at j;have ba:z=sizes:=by
      by_cases J:z=sizes
      .exact J
      .rw[if_neg J] at j;exact absurd j ap
     rw[if_pos ba] at j;rw[aQ cc.p 3 (Z.ext E) rfl,lD,wrap_i64 Ω Ω,dF,wrap_i64 Ω Ω];refine kb (α:=iB) (m:=true) (S:=A) (R:=cH g gs A B) (i:=(-n-1).toNat) (a:=(z,l)) Ω hg.u jt.i (bI ac E) O λb o cs ae af=>?_;obtain⟨u,v,rfl,hu,ad⟩:=BT af;rw[aU jt.p rfl,ay Ψ (ae 1 v rfl)];rw[j];refine⟨fS.mk ((L.trans (x.ab _)).trans (E.ab _)) (I.ext E),l,pQ ad λr _ h=>?_,λq f=>by cases f;rfl⟩;rcases h with h|h
     .exact h.elim
     .exact .inl h
  .intro aA P;rw[lD,wrap_i64 Ω Ω,aQ cc.p 3 Z rfl,hL hg.u ac,bU,al];refine⟨λaq=>P _ _ ⟨Ext.refl _,?_⟩,λau=>?_⟩
   .have aq:(H.shared.length:Int)<0-n:=aq;rw[Z6 Ω] at j;rw[decide_eq_true j]
   .have au:¬(H.shared.length:Int)<0-n:=au;have bc:(-n-1).toNat<H.shared.length:=Ω
    obtain⟨⟨z,l⟩,O⟩:∃q,H.shared[(-n-1).toNat]? =σ q:=⟨_,x6 bc⟩;rw[aQ cc.p 3 Z rfl,lD,wrap_i64 Ω Ω,dF,wrap_i64 Ω Ω];refine kb (α:=iB) (m:=true) (S:=A) (R:=cH g gs A B) (i:=(-n-1).toNat) (a:=(z,l)) Ω hg.u jt.i ac O λb o cs ae af=>?_;obtain⟨u,v,rfl,hu,ad⟩:=BT af;rw[aU jt.p rfl,ay Ψ (ae 0 u rfl)];refine (I2 (dc hu) (ai.ext x)).mono ?_;rintro _ y _ ⟨rfl,E⟩;rw[bG];refine P _ _ ⟨E,?_⟩;rw[O] at j;simp only at j;by_cases J:z=sizes
    .rw[if_pos J] at j;rw[decide_eq_true J,decide_eq_false (by rw[j];simp)];rfl
    .rw[if_neg J] at j;rw[decide_eq_false J,decide_eq_true j];rfl
end Go.Proofs.YtmgflbkdggdhoaaGreatDoor
