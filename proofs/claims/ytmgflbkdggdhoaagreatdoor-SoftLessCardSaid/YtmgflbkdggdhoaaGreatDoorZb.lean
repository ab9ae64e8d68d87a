/- own texts, made small by a tool (wip/ holds them as they were written): no statement of the seat. -/
import Derived.Test.YtmgflbkdggdhoaaGreatDoorZa
set_option linter.unusedVariables false
set_option linter.unusedSimpArgs false
set_option linter.unnecessarySimpa false
open Array renaming getElem?_eq_some_iff→o8,getElem?_toList→S5
open BitVec renaming ofInt→U5
open Bool renaming not_true→Y7,not_false→W5,and_eq_true→V0,eq_iff_iff→V5,or_eq_false_iff→T4
open Decidable renaming not_not→Z9
open Go renaming Value→x1,World→x3,TypeId→r8,IntKind→o4,Builtin→Z0,Program→W0,FuncId→R4
open Go.Addr renaming add_mid→T1
open Go.Builtin renaming append_→b8,len_→W6
open Go.Instr renaming loadAt→u4,fieldAt→u5,storeAt→o6,indexAt→j5,extract→Z4,buildSlice→Y0,sliceAt→V3,alloc→R7
open Go.IntKind renaming i64→X2,u64→U1
open Go.Proofs.Tryz renaming prog→x7
open Go.Result renaming andThen→X9
open Go.Sem renaming run_bind→X8,run_pure→W7
open Go.Value renaming int→W8
open Int renaming toNat_natCast→u6,le_refl→T2
open List renaming getElem?_eq_some_iff→x4,mem_of_getElem?→x5,getElem?_eq_getElem→x6,getElem?_map→x8,getD_eq_getElem?_getD→v8,length_map→u7,take_add_one→u9,replicate→r9,length_append→p9,take_length→o5,mem_append→o7,mem_singleton→o9,mem_map→n9,length_take→l9,take_of_length_le→j9,length_cons→c7,eq_nil_of_length_eq_zero→c8,getElem?_set_self→c9,map_append→b6,length_set→Z2,getElem?_eq_none→Z6,getElem?_take_of_lt→Z7,range→Z8,getElem?_append_left→Y1,getElem?_set_ne→Y2,getElem?_set→Y3,getElem?_append_right→Y4,ext_getElem?→Y6,mem_iff_getElem?→X1,flatMap_cons→X5,mem_or_eq_of_mem_set→X6,drop_eq_getElem_cons→X7,length_eq_one_iff→W3,mem_cons→W9,pairwise_iff_getElem→V2,map_set→V7,append_nil→U2,map_cons→U6,foldl_cons→U7,foldl_append→U9,append_assoc→T0,set_append_right→T3,getElem_mem→T9,length→S7,map_map→S8,length_singleton→R2
open Nat renaming le_refl→p8,le_trans→Y9,zero_add→X0,zero_le→X3,mul_le_mul_right→X4,sub_self→V6,mul_one→V8,add_mul→V9,pow_le_pow_right→T7,add_assoc→S9,add_sub_cancel_left→R3,lt_of_lt_of_le→R8,eq_zero_or_pos→Q0
open Option renaming toList_some→l7,isNone_some→b9,map_some→Z3,map_eq_some_iff→Y5,getD_some→V1,map→V4
open Option.some renaming inj→j6,injEq→Y8
open Prod.mk renaming injEq→S0
set_option maxHeartbeats 16000000
open Option renaming some→σ,none→ν
variable {e t:r8}{N a gs j m n r:Nat}{at_ c hi k lo y:Int}{sv v z:x1}{cs:List x1}{K:x1->Prop}{f:o4}{C aj ks l sizes:Λ}{w w':x3}{clean cx cy:Bool}{S:Nat->Prop}
namespace Go.Vc
open Go Go.RowKit
section
variable {P:W0} {w:x3} {m:Bool} {S R:ak}
theorem r4 {b k l h:Nat} {low high:Option x1} (j:P.underlying t=σ (.slice e)) (hi:aS P e k b z)
  (ac:ca w k v n cs) (h1:lF low l) (m:lG high n h) (a:l<=h) (aG:h<=n) (p:∀f,ca w k f (h-l) ((cs.drop (l*k)).take ((h-l)*k))->K f):
  aa P (V3 t v low high ν) w K:=by
 have q:=ac;obtain⟨_,r,o,base,cap,rfl,s,_⟩:=ac;rw[hF j hi h1 m fw a Ω (p8 _)];exact p _ (ca.part q a aG Ω (p8 _))
theorem Jd {k:o4} {b i:Nat} (j:y=(i:Int)) (m:P.underlying t=σ (.slice e)) (hi:aS P e 1 b z)
  (h:aF k w v l) (p:i<=l.length) (q:∀a,aF k w a (l.drop i)->K a):aa P (V3 t v (σ (.int f y)) ν ν) w K:=by
 refine r4 m hi h (ng i y j) jv p (p8 _) λa h'=>q a (aF.of (n:=l.length-i) ?_);have r:((ints k l).drop (i*1)).take ((l.length-i)*1)=ints k (l.drop i):=by
  rw[j9 Ξ,V8,ints,<-List.map_drop]
 rw[r] at h';exact h'
theorem Je {k:o4} {b i:Nat} (j:y=(i:Int)) (m:P.underlying t=σ (.slice e)) (hi:aS P e 1 b z)
  (h:aF k w v l) (p:i<=l.length) (q:∀a,aF k w a (l.take i)->K a):aa P (V3 t v ν (σ (.int f y)) ν) w K:=by
 refine r4 m hi h ju (nh i y j) (X3 _) p λa h'=>q a (aF.of (n:=i) ?_);have r:((ints k l).drop (0*1)).take ((i-0)*1)=ints k (l.take i):=by
  simp[ints,List.map_take]
 rw[r] at h';exact h'
theorem r5 {b:Nat} {parts:Array (Nat×x1)} {K:x1->x3->Prop} (a:P.underlying t=σ (.slice e)) (hi:aS P e 1 b (Δ 0)) (q:n<=100000) (f:l.length=n)
  (ae:Instr.fill (λj=>σ (j*1,1)) ((Array.range (n*1)).map ((if n*1=0 then #[] else (W8 .i64 0).cells)[·% (if n*1=0 then #[] else (W8 .i64 0).cells).size]!)) parts.toList=σ (ints .i64 l).toArray)
  (h:∀v g w',g=w.heap.size->Ext w w'->au .i64 e w' g v l->K v w'):aC P (Y0 t n parts) w K:=
 j1 a hi Ω ae λg w' m I p=>h _ g w' m I (au.of (n:=n) (bT.full (by simpa using p) (by simp[f]) (by simp[maxLen];omega)))
end
section
variable {P:W0} {w:x3}
theorem Jf {h p:r8} {q kn:o4} {b k cap:Nat} {base:Option Addr} {xs:List x1} {K:x1->x3->Prop} (x:y=(k:Int)) (A:P.underlying t=σ (.slice e)) (B:P.underlying h=σ (.int kn)) (hi:aS P e 1 b z) (C:z.cells= #[z])
  (J:ca w 1 (.slice base n cap) n xs) (E:0<k) (r:cap<n+k) (F:(n+k)*b<=140737488355328) (G:n+k<=9223372036854775807)
  (H:∀v g w',g=w.heap.size->Ext w w'->bT w' g e 1 v (n+k) (xs++r9 k z)->K v w'):aC P (b8 #[t,h] p #[.slice base n cap,.int q y]) w K:=by
 subst x;obtain⟨i,hi,I,rfl,L⟩:=hi;obtain⟨f,W,o,X,Y,he,M,Z,N,O⟩:=J;cases he;have Q:(Z0.firstCells i.size n (.slice base n cap)).run P w.drew= .ok xs.toArray w.drew:=by
  rcases Q0 n with rfl|R
  .have:xs=[]:=c8 (by simpa using f);subst this;cases base with
   |none=>exact run_firstCells_none w.drew i.size 0 0 cap
   |some a=>exact run_firstCells_some w.drew i.size 0 a 0 cap [] Ξ Ξ
  .have:=N R;subst this;refine run_firstCells_some w.drew i.size n _ n cap xs (by rw[I];exact f) λj u hu=>?_;rw[T1];exact O j u hu
 have S:k*i.bytes<=281474976710656:=by
  have:k*i.bytes<=(n+k)*i.bytes:=X4 _ Ω;omega
 have T:=Lib.run_append_grow_zeros (P:=P) w t h p e i z q kn A B hi L base n cap xs Q k E Ω r Ω S (growslice_fits r F);have U:n+k<=grownCap w (n+k) cap e:=grownCap_ge w _ _ _;have V:grownCap w (n+k) cap e<=maxLen:=grownCap_le_maxLen w (n+k) cap e (by simpa[maxLen] using G);have s:∀m,Z0.zeroCells z.cells m=(r9 m z).toArray:=λm=>by
  rw[C];apply Array.ext
  .simp[size_zeroCells]
  .intro j h1 M;simp[Z0.zeroCells,Nat.mod_one]
 refine .of T ((px w _ (Nat.le_succ _)).trans (pz _ _)) (H _ w.heap.size _ rfl ((rb w _).trans (py _ _)) ⟨by simp at f;simp[f],.inr ⟨_,xs++r9 k z++r9 (grownCap w (n+k) cap e-(n+k)) z,rfl,?_,U,V,?_,?_⟩⟩)
 .rw[s,s];have:=heap_alloc_new w.drew (.cells (xs.toArray++(r9 k z).toArray++(r9 (grownCap w (n+k) cap e-(n+k)) z).toArray) e);rw[List.append_toArray,List.append_toArray] at this ⊢;exact this
 .simp at f;simp[f];omega
 .simp at f;rw[List.take_append_of_le_length (by simp[f]),j9 (by simp[f])]
theorem Ab {a:r8} {base:Option Addr} {c:Nat} (f:P.underlying t=σ (.slice e)):
  aa P (Z0.cap_ #[t] a #[.slice base n c]) w K=K (Δ c):=aa.of λw' _=>by simp[Z0.cap_,run_underlying f,goInt]
theorem Jg {g o k c:Nat} (h:af w g e cs) (hk:o+k<=cs.length) (a:k<=c) (f:c<=maxLen):ca w 1 (.slice (σ ⟨g,o,ν⟩) k c) k ((cs.drop o).take k):=by
 refine⟨Θ,g,o,_,c,rfl,a,f,λ_=>rfl,λj v ac=>?_⟩;have m:=(x4.1 ac).1;simp at m;rw[Z7 Ω,List.getElem?_drop] at ac;exact h.cell ac
theorem Ac {h m:r8} {p g o cap:Nat} {K:x1->x3->Prop} (q:P.underlying t=σ (.slice e)) (hi:aS P e 1 p z) (s:z.cells= #[z]) (h1:z.oneCell'=true)
  (a:af w g m cs) (x:0<n) (E:o+n<=cs.length)
  (y:∀w',ah (λr=>r=g) w w'->w'.heap.size=w.heap.size->af w' g m (over cs o (r9 n z))->K (.tuple #[]) w'):aC P (Z0.clear_ #[t] h #[.slice (σ ⟨g,o,ν⟩) n cap]) w K:=by
 obtain⟨i,hi,F,rfl,A⟩:=hi;have B:=Lib.run_clear_slice (P:=P) w t e h z q (λw=>by simp[zeroValue,typeInfo,hi,A]) s h1 g o n cap x
  (λj G=>by rw[a.cell (x6 (show o+j<cs.length by omega))];rfl) (λj _=>a.frozen _ _)
 obtain⟨C,f⟩:=nj (r9 n z) cs o w a;exact .of B (f.ct a) (y _ f.ab f.size C)
end
section
variable {P:W0} {w:x3}
theorem hn {a:r8} {k:o4} {i b g:Nat} (j:y=(i:Int)) (m:P.underlying t=σ (.slice e)) (hi:aS P e 1 b z)
  (h:au k a w g v l) (p:i<l.length):aa P (j5 t v (.int f y)) w K=K (.pointer (σ ⟨g,i,ν⟩)):=by
 subst j;obtain⟨_,⟨_,q⟩|⟨cap,cs,rfl,_⟩⟩:=h
 .omega
 .rw[e6 m hi p (λ_=>rfl)];simp
theorem p1 {a k:o4} {i b:Nat} {x:Int} (f:y=(i:Int)) (j:P.underlying t=σ (.slice e)) (hi:aS P e 1 b z)
  (h:aF k w v l) (I:l[i]? =σ x) (m:∀b o,w.cell? ⟨b,o,ν⟩=σ (.int k x)->K (.pointer (σ ⟨b,o,ν⟩))):aa P (j5 t v (.int a y)) w K:=by
 subst f;have p:=(x4.1 I).1;obtain⟨_,_,_,_,_,rfl,_,_,q,r⟩:=h;rw[e6 j hi p q,V8];exact m _ _ (r i _ (kK I))
theorem ho {a:r8} {k:o4} {i b g:Nat} {x:Int} {K:Unit->x3->Prop} (hi:aS P e 1 b z)
  (h:au k a w g v l) (C:i<l.length) (m:∀w',ah (λr=>r=g) w w'->w'.heap.size=w.heap.size->au k a w' g v (l.set i x)->K () w'):aC P (o6 e (.pointer (σ ⟨g,i,ν⟩)) (.int k x)) w K:=by
 obtain⟨E,⟨_,F⟩|⟨cap,full,rfl,p,q,s,f,j⟩⟩:=h
 .omega
 .have y:i<full.length:=by simp at f;omega
  refine bt hi rfl rfl p y λw' A J B=>m w' A J ⟨Ξ,.inr ⟨cap,full.set i (.int k x),Ξ,B,by simpa using q,s,by simpa using f,?_⟩⟩;simp only[Z2,V8] at j ⊢;rw[List.take_set,j,ints,ints,V7]
theorem r6 {b o:Nat} (a:jt P t=true) (h:w.cell? ⟨b,o,ν⟩=σ v):cC P (u4 t (.pointer (σ ⟨b,o,ν⟩))) v w:=λw' I=>by
 have h':=il I h;unfold jt at a;cases hu:P.underlying t with
 |none=>rw[hu] at a;cases a
 |some d=>
  rw[hu] at a;cases d<;>first|(cases a;done)|simp[u4,Instr.sureAddr,loadVar,isAgg,run_underlying hu,h']
theorem hI {k:o4} {S:ak} (h:aF k w v l) (I:ah S w w') (m:∀r,S r-> ∀a n c,v= .slice (σ a) n c->a.block≠r):aF k w' v l:=by
 obtain⟨h1,b,o,base,cap,rfl,p,q,e,s⟩:=h;refine⟨h1,b,o,base,cap,rfl,p,q,e,?_⟩;rcases Q0 l.length with f|f
 .intro j u hu;have:=(x4.1 hu).1;simp at this;omega
 .have x:=e f;subst x;exact js I (λh=>m _ h _ _ _ rfl rfl) s
end
end Go.Vc
namespace Go.Vc
open Go Go.RowKit Go.ChangeShapes Go.WideShapes
structure lK (P:W0) (t:r8) (α:Type) [ao α] (G:α->Prop):Prop where
 op:∀ {H:Type} {enc:r8×x1->H} {w:x3} {base:Nat} {spare:Nat->Bool} {held:Bool} {fuel:Nat} {cs:List x1} {x:DataW H×List MemPlace},
  DataW.trod enc P w base spare held fuel t cs=σ x-> ∃a:α,Seen eX w cs a/\G a
section
variable {P:W0} {α β:Type} [ao α] [ao β]
theorem Ad {k:o4} {n:Int} (h:(Lit.int k n).wf=true):k.min<=n/\n<=k.max:=by simpa[Lit.wf] using h
theorem Ae {k:o4} (a:P.underlying t=σ (.int k)):lK P t (iW k) λn=>k.min<=n.val/\n.val<=k.max:=⟨λh=>by
 obtain⟨n,rfl,_,hw⟩:=DataW.trod_int a h;exact⟨(n:Int),rfl,Ad hw⟩⟩
theorem ml (a:P.underlying t=σ (.int .i64)):lK P t Int λn=>X2.min<=n/\n<=X2.max:=⟨λh=>by
 obtain⟨n,rfl,_,hw⟩:=DataW.trod_int a h;exact⟨n,rfl,Ad hw⟩⟩
theorem Jh (a:Addr) (m n:Nat):(a.add m).add n=a.add (m+n):=by
 unfold Addr.add;by_cases hm:m=0<;>by_cases e:n=0<;>simp[hm,e,S9]
theorem Ji {base:Nat} {a:Addr} (h:w.cells? base a n=σ cs):cs.length=n/\ ∀j v,cs[j]? =σ v->w.cell? (a.add j)=σ v:=by
 unfold x3.cells? at h;split at h
 .have e:cs.length=n:=by
   have:=mapM_some_length h;simpa using this
  refine⟨e,λj v ac=>?_⟩;have f:=(x4.1 ac).1;have:=mapM_some_get h j j (List.getElem?_range Ω);rw[this,ac]
 .cases h
theorem Af {G:α->Prop} (L:P.underlying t=σ (.slice e)) (he:lK P e α G) (M:P.cellsOf e=ao.n α) (U:0<ao.n α):lK P t (List α) λl=>∀a∈l,G a:=by
 constructor;intro H enc w base spare held fuel cs x h;rcases DataW.trod_slice L h with⟨rfl,_⟩|⟨a,len,cap,V,rest,n,_,rfl,rfl,W,X,hm,Y,N,_,_⟩
 .exact⟨[],gS,λ_ h=>by cases h⟩
 .
  have J:∀i,i<len-> ∃ (c:List x1) (y:α),c.length=ao.n α/\(∀j v,c[j]? =σ v->w.cell? (a.add (i*ao.n α+j))=σ v)/\Seen eX w c y/\G y:=by
   intro i hi;have h1:=N i hi;rw[x6 Ω,M,Option.bind_eq_some_iff] at h1;obtain⟨c,q,r⟩:=h1;obtain⟨A,B⟩:=Ji q;obtain⟨y,C,O⟩:=he.op r;exact⟨c,y,A,λj v ac=>by have:=B j v ac;rwa [Jh] at this,C,O⟩
  have all:∀m,m<=len-> ∃ (vs:List (List x1)) (l:List α),vs.length=m/\l.length=m/\(∀c∈vs,c.length=ao.n α)/\(∀ (j:Nat) (v:x1),vs.flatten[j]? =σ v->w.cell? (a.add j)=σ v)/\
    (∀ (i:Nat) (c:List x1) (y:α),vs[i]? =σ c->l[i]? =σ y->Seen eX w c y)/\ ∀y∈l,G y:=by
   intro m;induction m with
   |zero=>exact λ_=>⟨[],[],rfl,rfl,(λ_ h=>by cases h),(λj v h=>by simp at h),(λi c y h=>by simp at h),(λ_ h=>by cases h)⟩
   |succ m Q=>
    intro hm;obtain⟨vs,l,h1,q,r,A,B,C⟩:=Q Ω;obtain⟨c,y,g1,E,R,S⟩:=J m Ω;refine⟨vs++[c],l++[y],by simp[h1],by simp[q],λd f=>?_,λj v ac=>?_,λi d z f p=>?_,λz p=>?_⟩
    .rcases o7.1 f with f|f
     .exact r d f
     .simp at f;subst f;exact g1
    .have s:=pW r;rw[h1] at s;rw[List.flatten_append] at ac;by_cases T:j<m*ao.n α
     .rw[Y1 Ω] at ac;exact A j v ac
     .rw[Y4 Ω,s] at ac;simp at ac;have:=E _ v ac;rwa [show m*ao.n α+(j-m*ao.n α)=j by omega] at this
    .by_cases hi:i<m
     .rw[Y1 Ω] at f p;exact B i d z f p
     .have F:=(x4.1 f).1;simp[h1] at F;have F:i=m:=Ω
      subst F;rw[Y4 Ω,h1] at f;rw[Y4 Ω,q] at p;simp at f p;subst f p;exact R
    .rcases o7.1 p with p|p
     .exact C z p
     .simp at p;subst p;exact S
  obtain⟨vs,l,h1,q,r,A,B,C⟩:=all len (p8 _);have s:=pW r;rw[h1] at s;have K:0<len->a=⟨a.block,a.off,ν⟩:=λI=>by
   obtain⟨c,y,g1,E,_⟩:=J 0 Ω;have:=E 0 c[0] (x6 Ω);rw[Nat.zero_mul] at this;exact u2 this
  refine⟨l,⟨_,rfl,vs,0,λ_ _=>False,⟨λ_ _ h=>h.elim,(λh=>by cases h),(λh=>by cases h)⟩,⟨Ω,B⟩,⟨by rw[s,q],a.block,a.off,σ a,cap,by rw[q],Ω,hm,λI=>congrArg σ (K Ω),λ_=>.inr trivial,λj v ac=>?_⟩,λh=>by cases h⟩,C⟩;have:=A j v ac;have T:=(x4.1 ac).1;have I:0<len:=by
   rcases Q0 len with h|h
   .rw[h,Nat.zero_mul] at s;omega
   .exact h
  rw[K I,T1] at this;exact this
structure r7 (P:W0) (fs:List Field) (off:Nat) (α:Type) [ao α] (G:α->Prop):Prop where
 op:∀ {H:Type} {enc:r8×x1->H} {w:x3} {base:Nat} {spare:Nat->Bool} {held:Bool} {n:Nat} {cs:List x1},cs.length=off+ao.n α->
  (∀f∈fs,∃x,DataW.trod enc P w base spare held n f.type ((cs.drop f.offset).take (P.cellsOf f.type))=σ x)-> ∃a:α,Seen eX w (cs.drop off) a/\G a
theorem Ag {f:Field} {off:Nat} {G:α->Prop} (h:lK P f.type α G) (e:f.offset=off) (j:P.cellsOf f.type=ao.n α):r7 P [f] off α G:=by
 constructor;intro H enc w base spare held n cs p ae;obtain⟨x,I⟩:=ae f (.head _);obtain⟨a,h1,m⟩:=h.op I;rw[e,j,j9 Θ] at h1;exact⟨a,h1,m⟩
theorem mm {f:Field} {e:List Field} {off:Nat} {G:α->Prop} {j:β->Prop} (h:lK P f.type α G) (m:f.offset=off) (q:P.cellsOf f.type=ao.n α) (r:r7 P e (off+ao.n α) β j):
  r7 P (f::e) off (α×β) λp=>G p.1/\j p.2:=by
 constructor;intro H enc w base spare held n cs B ae;obtain⟨x,I⟩:=ae f (.head _);obtain⟨a,h1,s⟩:=h.op I;rw[m,q] at h1;have C:ao.n (α×β)=ao.n α+ao.n β:=rfl;obtain⟨b,y,z⟩:=r.op Ω λg A=>ae g (.tail _ A);refine⟨(a,b),⟨(cs.drop off).take (ao.n α),cs.drop (off+ao.n α),λ_=>False,λ_=>False,?_,λ_ h=>h,λ_ h=>h,(λh=>by cases h),h1,y⟩,s,z⟩;rw[<-List.drop_drop,List.take_append_drop]
theorem Ah {a:List Field} {G:α->Prop} (e:P.underlying t=σ (.struct a.toArray)) (ae:r7 P a 0 α G) (r:P.cellsOf t=ao.n α):lK P t α G:=by
 constructor;intro H enc w base spare held fuel cs x h;obtain⟨xs,n,_,rfl,s,j,m⟩:=DataW.trod_struct e h;have:=ae.op (enc:=enc) (w:=w) (base:=base) (spare:=spare) (held:=held) (n:=n) (cs:=cs) Ω λf p=>by
  obtain⟨i,hi,rfl⟩:=List.mem_iff_getElem.1 p;have q:i<xs.length:=by simpa[j] using hi
  have:=m i a[i] (by simp[hi]);rw[x6 q] at this;exact⟨_,this⟩
 simpa using this
end
end Go.Vc
namespace Go.Vc
open Go Go.RowKit
set_option maxRecDepth 100000
theorem Jj:(⟨#[]⟩:ByteArray)=strOfNums []:=rfl
theorem Jk {ay:x1->x1->x1->x3->Prop} {B:(x1->x1->x1->x3->Prop)->Prop} (G:x1->x1->x1->x3->Prop) (h1:∀t u v w,G t u v w->ay t u v w)
  (e:∀a:x1->x1->x1->x3->Prop,(∀t u v w,G t u v w->a t u v w)->B a):cu ay B:=e ay h1
theorem vf {ay:x1->x1->x1->x1->x3->Prop} {B:(x1->x1->x1->x1->x3->Prop)->Prop} (G:x1->x1->x1->x1->x3->Prop) (h1:∀s t u v w,G s t u v w->ay s t u v w)
  (e:∀a:x1->x1->x1->x1->x3->Prop,(∀s t u v w,G s t u v w->a s t u v w)->B a):cu ay B:=e ay h1
abbrev bN (l:Λ):x1:=.string (strOfNums l)
def Bytes (l:Λ):Prop:=∀b∈l,0<=b/\b<256
theorem mn (l:Λ):(strOfNums l).size=l.length:=strOfNums_size l
theorem Jl (h:Bytes l) {i:Nat} {b:Int} (hi:l[i]? =σ b):(strOfNums l)[i]? =σ (UInt8.ofNat b.toNat)/\((UInt8.ofNat b.toNat).toNat:Int)=b:=by
 have f:=h b (x5 hi);have e:=x4.1 hi;refine⟨?_,by rw[UInt8.toNat_ofNat'];omega⟩;have J:i<(strOfNums l).size:=by rw[mn];exact e.1
 rw[getElem?_pos (strOfNums l) i J];congr 1;show (strOfNums l).data[i]=_;have a:(strOfNums l).data.toList[i]? =σ (UInt8.ofNat b.toNat):=by rw[strOfNums_data,x8,hi];rfl
 rw[S5] at a;exact (o8.1 a).2
theorem str_inj {a b:Λ} (e:Bytes a) (f:Bytes b) (h:strOfNums a=strOfNums b):a=b:=by
 have h1:(strOfNums a).data.toList=(strOfNums b).data.toList:=by rw[h]
 rw[strOfNums_data,strOfNums_data] at h1;have key:∀ {l:Λ},Bytes l->(l.map λn=>UInt8.ofNat n.toNat).map (λu=>((u.toNat:Nat):Int))=l:=λ{l} j=>by
  rw[S8]
  conv=>rhs;rw[<-List.map_id l]
  refine List.map_congr_left λx I=>?_;have:=j x I;show (((UInt8.ofNat x.toNat).toNat:Nat):Int)=x;rw[UInt8.toNat_ofNat'];omega
 rw[<-key e,<-key f,h1]
theorem Jm (a b:Λ):strOfNums a++strOfNums b=strOfNums (a++b):=by
 apply ByteArray.ext;rw[ByteArray.data_append];simp[strOfNums]
theorem Jn (l:Λ) (i j:Nat):(strOfNums l).extract i j=strOfNums ((l.take j).drop i):=by
 apply ByteArray.ext;rw[ByteArray.data_extract];apply Array.toList_inj.1;rw[Array.toList_extract];simp[strOfNums,List.extract_eq_take_drop,List.map_drop,List.map_take,List.drop_take]
theorem Ai (l:Λ):(strOfNums l).toList=l.map λn=>UInt8.ofNat n.toNat:=by
 rw[ByteArray.toList_eq];exact strOfNums_data l
theorem Aj {a b:Λ} (e:Bytes a) (f:Bytes b):((strOfNums a).toList == (strOfNums b).toList)=decide (a=b):=by
 rw[V5,beq_iff_eq,decide_eq_true_eq,Ai,Ai];refine⟨λh=>str_inj e f ?_,λh=>by rw[h]⟩;unfold strOfNums;rw[h]
section
variable {P:W0} {w:x3}
theorem nt {a:r8} (e:P.underlying t=σ .string):aa P (W6 #[t] a #[bN l]) w K=K (Δ l.length):=aa.of λw' _=>by
 simp[W6,run_underlying e,goInt,mn]
theorem p2 {k:o4} {b:Int} {i:Nat} (a:y=(i:Int)) (f:P.underlying t=σ .string) (h:Bytes l) (hi:l[i]? =σ b):aa P (Instr.index t (bN l) (.int k y)) w K=K (.int .u8 b):=aa.of λw' _=>by
 subst a;obtain⟨h1,j⟩:=Jl h hi;have e:(0:Int)<=(i:Int):=Ω
 simp only[Instr.index,asIntOf,X8,W7,X9,run_underlying f];rw[if_pos e,u6,h1];simp only[W7,j]
theorem vg {a b:Λ} (h:a.length+b.length<=9223372036854775807):aa P (aJ .add t cx cy (bN a) (bN b)) w K=K (bN (a++b)):=aa.of λw' _=>by
 have:=run_string_add_sum (P:=P) (w:=w') (strOfNums a) (strOfNums b) (by rw[mn,mn];exact h);simp only[aJ,eqGuard,binOp];simp[this,Jm]
theorem Ak {a b:Λ} (e:Bytes a) (f:Bytes b):aa P (aJ .eql t cx cy (bN a) (bN b)) w K=K (.bool (decide (a=b))):=aa.of λw' _=>by
 simp[aJ,eqGuard,binOp,Op.stringOp,Aj e f]
theorem Jo {a b:Λ} (e:Bytes a) (f:Bytes b):aa P (aJ .neq t cx cy (bN a) (bN b)) w K=K (.bool (decide (a≠b))):=aa.of λw' _=>by
 simp[aJ,eqGuard,binOp,Op.stringOp,Aj e f]
theorem Al {k:o4} {i:Nat} (a:y=(i:Int)) (f:P.underlying t=σ .string) (hi:i<=l.length):aa P (V3 t (bN l) (σ (.int k y)) ν ν) w K=K (bN (l.drop i)):=aa.of λw' _=>by
 have j:=rU (P:=P) w' (sl:=false) (n:=(strOfNums l).size) (c:=(strOfNums l).size) (low:=σ (.int k y)) (high:=ν) (mx:=ν) (l:=i) (h:=(strOfNums l).size) (m:=(strOfNums l).size) (ng i y a) jv fw (by rw[mn];exact hi) (p8 _) (p8 _);have e:(strOfNums l).extract i (strOfNums l).size=strOfNums (l.drop i):=by rw[Jn,mn,o5]
 simp[V3,Instr.slice,run_underlying f,j,e]
theorem vh {s:r8} (J:P.underlying s=σ (.slice e)) (he:P.underlying e=σ (.int .u8)) (f:P.underlying t=σ .string) (h:aF .u8 w v l):aa P (convert s t v) w K=K (bN l):=aa.of λw' I=>by
 obtain⟨m,b,o,base,cap,rfl,_,_,q,r⟩:=h.ext I;have m:l.length=l.length*1:=by simpa using m
 by_cases x:0<l.length
 .rw[q x];refine run_convert_bytes_arg w' s e J he b o l.length cap l rfl (λi hi=>?_) t f;have p:l[i]? =σ l[i]:=x6 hi;rw[v8,p];exact r i _ (kK p)
 .have y:l=[]:=c8 Ω;subst y;cases base with
  |none=>
   rw[run_convert_bytes_nil w' s e J he _ _ t f];rfl
  |some a=>
   rw[run_convert_bytes_string w' s t e _ _ _ J he f];have:=run_bytesToString (P:=P) w' a 0 cap [] (by have:=run_loadCells_list (P:=P) w' a [] (λj v z=>by simp at z);simpa using this);simp only[List.length_nil];rw[this];rfl
theorem vi {s:r8} {u:TypeDesc} {K:x1->x3->Prop} (J:P.underlying s=σ u) (q:P.underlying t=σ (.slice e)) (he:P.underlying e=σ (.int .u8)) (x:Bytes l) (hm:l.length<=1000000000)
  (y:∀v w',Ext w w'->aF .u8 w' v l->(∀r,(∃a n c,v= .slice (σ a) n c/\a.block=r)->w.heap.size<=r)->K v w'):aC P (convert s t (bN l)) w K:=by
 have z:=Lib.bytesWorld_at_new w e (strOfNums l);have m:=λj f=>Lib.bytesWorld_at_old w e (strOfNums l) j f;have A:=Lib.bytesWorld_size w e (strOfNums l);refine .of (Lib.run_convert_string_bytes w s t e (strOfNums l) J q he) ⟨rfl,⟨rfl,Nat.le_succ _⟩,rfl,Ω,λr o h _=>?_⟩ (y _ _ ⟨Ω,λr o h _=>?_⟩ ?_ ?_)
 .rw[m r (o8.1 h).1];exact h
 .rw[m r (o8.1 h).1];exact h
 .rw[mn];refine⟨Ξ,w.heap.size,0,_,_,rfl,?_,?_,λ_=>rfl,λj v ac=>?_⟩
  .exact grownCap_ge w _ _ _
  .exact grownCap_le_maxLen w _ _ _ (by simp[maxLen];omega)
  .have f:j<l.length:=by have:=(x4.1 ac).1;simpa using this
   have p:l[j]? =σ l[j]:=x6 f;rw[X0,Lib.bytesWorld_cell w e (strOfNums l) j (by rw[mn];exact f)];rw[kK p] at ac;rw[<-j6 ac,strOfNums_data,v8,x8,p];have:=x l[j] (T9 f);simp only[Z3,V1];congr 2;rw[UInt8.toNat_ofNat'];omega
 .rintro r ⟨a,n,c,h1,rfl⟩;cases h1;exact p8 _
end
end Go.Vc
namespace Go.Proofs.YtmgflbkdggdhoaaGreatDoor
open Go Go.Vc Go.RowKit Go.Proofs Go.Proofs.Tryz
set_option maxRecDepth 100000
theorem Am {b:Int} (h:cw b=true):bJ b=false:=by
 have h:=of_decide_eq_true h;unfold bJ;rw[decide_eq_false_iff_not];omega
theorem An {b:Int} {p:Λ} (h:cw b=true):lex (b::p)=lex p:=by
 rw[j3,j3 p,List.dropWhile_cons,if_pos h]
theorem Jp {b:Int} {p:Λ} (h:cw b=false) (a:bJ b=false):lex (b::p)=([],false):=by
 rw[j3,List.dropWhile_cons,if_neg (by simp[h])];simp only[a,Bool.false_eq_true,if_false]
theorem Ao {b:Int} {p:Λ} (h:bJ b=true):lex (b::p)=match p.dropWhile bJ with
  |[]=>([b::p.takeWhile bJ],true)
  |c::r=>if cw c then ((b::p.takeWhile bJ)::(lex (c::r)).1,(lex (c::r)).2) else ([],false):=by
 have J:cw b=false:=by
  cases a:cw b with
  |false=>rfl
  |true=>rw[Am a] at h;cases h
 rw[j3,List.dropWhile_cons,if_neg (by simp[J])];simp only[h,if_true,List.dropWhile_cons,List.takeWhile_cons]
 all_goals (cases List.dropWhile bJ p<;>rfl)
def hW:Λ->List (Λ)->Λ->Bool->List (Λ)×Bool
 |[],out,w,op=>(if op then out++[w] else out,true)
 |b::p,out,w,op=>
  if cw b then hW p (if op then out++[w] else out) [] false
  else if bJ b then hW p out (if op then w++[b] else[b]) true
  else (out,false)
theorem p3:∀ (p:Λ) (out:List (Λ)) (w:Λ),hW p out w false=(out++(lex p).1,(lex p).2)/\
  hW p out w true=match p.dropWhile bJ with
   |[]=>(out++[w++p.takeWhile bJ],true)
   |c::r=>if cw c then (out++[w++p.takeWhile bJ]++(lex (c::r)).1,(lex (c::r)).2) else (out,false)
 |[],out,w=>by simp[hW,j3 []]
 |b::p,out,w=>by
  by_cases J:cw b=true
  .have hw:=Am J;refine⟨?_,?_⟩
   .rw[hW,if_pos J,(p3 p _ _).1,An J];simp
   .rw[hW,if_pos J,if_pos rfl,(p3 p _ _).1,List.dropWhile_cons,if_neg (by simp[hw])];simp only[J,if_true,An J,List.takeWhile_cons,hw,Bool.false_eq_true,if_false,U2]
  .have e:cw b=false:=by cases h:cw b;rfl;exact absurd h J
   by_cases hw:bJ b=true
   .refine⟨?_,?_⟩
    .rw[hW,if_neg J,if_pos hw,if_neg Ξ,(p3 p _ _).2,Ao hw];cases p.dropWhile bJ with
     |nil=>simp
     |cons c r=>
      simp only;by_cases a:cw c=true
      .simp[a]
      .simp[a]
    .rw[hW,if_neg J,if_pos hw,if_pos rfl,(p3 p _ _).2,List.dropWhile_cons,if_pos hw,List.takeWhile_cons,if_pos hw];cases p.dropWhile bJ with
     |nil=>simp
     |cons c r=>
      simp only;by_cases a:cw c=true
      .simp[a]
      .simp[a]
   .have f:bJ b=false:=by cases h:bJ b;rfl;exact absurd h hw
    refine⟨?_,?_⟩
    .rw[hW,if_neg J,if_neg hw,Jp e f];simp
    .rw[hW,if_neg J,if_neg hw,List.dropWhile_cons,if_neg hw];simp[e]
theorem Jq (p:Λ):hW p [] [] false=lex p:=by rw[(p3 p [] []).1];simp
def oI:Nat->Nat->Λ
 |0,_=>[]
 |k+1,n=>(if n<10 then[] else oI k (n / 10))++[48+((n % 10:Nat):Int)]
def fe (n:Nat):Λ:=oI (n+1) n
theorem Ap:∀ {k m n:Nat},n<k->n<m->oI k n=oI m n
 |k+1,m+1,n,h1,a=>by
  unfold oI;by_cases h:n<10
  .rw[if_pos h,if_pos h]
  .rw[if_neg h,if_neg h,Ap (k:=k) (m:=m) (n:=n / 10) Ω Ω]
theorem nu (n:Nat):fe n=(if n<10 then[] else fe (n / 10))++[48+((n % 10:Nat):Int)]:=by
 unfold fe;rw[oI];by_cases h:n<10
 .rw[if_pos h,if_pos h]
 .rw[if_neg h,if_neg h,Ap (k:=n) (m:=n / 10+1) Ω Ω]
theorem Aq:∀ (k n:Nat),n<k-> ∀b∈fe n,48<=b/\b<=57
 |k+1,n,hk,b,a=>by
  rw[nu] at a;rcases o7.1 a with a|a
  .by_cases h:n<10
   .rw[if_pos h] at a;simp at a
   .rw[if_neg h] at a;exact Aq k (n / 10) Ω b a
  .rw[o9] at a;omega
theorem Ar (n:Nat):∀b∈fe n,48<=b/\b<=57:=Aq (n+1) n Ω
def p4 (l:Λ):Int:=l.foldl (λn b=>10*n+(b-48)) 0
theorem Jr (l:Λ) (b:Int):p4 (l++[b])=10*p4 l+(b-48):=by simp[p4]
theorem vj:∀ (k n:Nat),n<k->p4 (fe n)=n
 |k+1,n,hk=>by
  rw[nu,Jr];by_cases h:n<10
  .rw[if_pos h];have:p4 []=0:=rfl;omega
  .rw[if_neg h,vj k (n / 10) Ω];omega
theorem Js {b:Nat} (h:fe a=fe b):a=b:=by
 have h1:=vj (a+1) a Ω;have e:=vj (b+1) b Ω;rw[h,e] at h1;omega
theorem vk:∀ (k n:Nat),n<10 ^ k->1<=k->(fe n).length<=k
 |k+1,n,h,_=>by
  rw[nu,p9];by_cases a:n<10
  .rw[if_pos a];simp
  .rw[if_neg a];have hk:1<=k:=by
    rcases k with _|k
    .simp at h;omega
    .omega
   have e:(10:Nat) ^ (k+1)=10*10 ^ k:=by rw[Nat.pow_succ,Nat.mul_comm]
   have:=vk k (n / 10) Ω hk;simp only[R2];omega
def dW (t:Λ):Λ:=t.flatMap λv=>fe v.toNat++[32]
theorem Jt (t:Λ) (v:Int):dW (t++[v])=dW t++(fe v.toNat++[32]):=by simp[dW]
theorem As {r:Λ} (a:∀b∈l,b≠32):(l++32::r).takeWhile (λb=>decide (b≠32))=l/\(l++32::r).dropWhile (λb=>decide (b≠32))=32::r:=by
 induction l with
 |nil=>simp
 |cons x l e=>
  have I:=a x (.head _);have:=e λb f=>a b (.tail _ f);simp only[List.cons_append,List.takeWhile_cons,List.dropWhile_cons];simp only[I,ne_eq,not_false_eq_true,decide_true,if_true];exact⟨by rw[this.1],this.2⟩
theorem Au:∀ {a b:Λ},(∀x∈a,0<=x)->(∀x∈b,0<=x)->dW a=dW b->a=b
 |[],[],_,_,_=>rfl
 |[],y::b,_,_,h=>by simp[dW] at h
 |x::a,[],_,_,h=>by simp[dW] at h
 |x::a,y::b,m,p,h=>by
  have e:∀ (z:Int) (l:Λ),dW (z::l)=fe z.toNat++32::dW l:=λz l=>by simp[dW]
  rw[e,e] at h;have d:∀z:Int,∀c∈fe z.toNat,c≠32:=λz c s=>by have:=Ar _ c s;omega
  have f:=As (r:=dW a) (d x);have q:=As (r:=dW b) (d y);rw[h] at f;have w:fe x.toNat=fe y.toNat:=f.1.symm.trans q.1;have A:=f.2.symm.trans q.2;have I:=m x (.head _);have C:=p y (.head _);have:=Js w;have B:x=y:=Ω
  subst B;rw[Au (λz j=>m z (.tail _ j)) (λz j=>p z (.tail _ j)) (List.cons.inj A).2]
theorem Av (t:Λ):Bytes (dW t):=λb a=>by
 obtain⟨v,_,a⟩:=List.mem_flatMap.1 a;rcases o7.1 a with a|a
 .have:=Ar _ b a;omega
 .rw[o9] at a;omega
theorem Aw {b:Int}:am x7 Hi [.int .u8 b] w λv w'=>v= .bool (cw b)/\Ext w w':=by
 refine az func143 ?_;refine aV (λv U=>v= .bool (cw b)/\Ext w U) (λ_ _ h=>h) λay a=>?_;rw[bh,al];refine⟨λh=>a _ _ ⟨by unfold cw;rw[decide_eq_true (.inl h)],Ext.refl _⟩,λh1=>?_⟩;rw[bh,al];refine⟨λh=>a _ _ ⟨by unfold cw;rw[decide_eq_true (.inr (.inl h))],Ext.refl _⟩,λe=>?_⟩;rw[bh,al];refine⟨λh=>a _ _ ⟨by unfold cw;rw[decide_eq_true (.inr (.inr (.inl h)))],Ext.refl _⟩,λf=>?_⟩;rw[bh];refine a _ _ ⟨?_,Ext.refl _⟩;congr 1;unfold cw;rw[V5,decide_eq_true_eq,decide_eq_true_eq];omega
theorem Ju {b:Int}:am x7 Hh [.int .u8 b] w λv w'=>v= .bool (bJ b)/\Ext w w':=by
 refine az func142 ?_;refine aV (λv U=>v= .bool (bJ b)/\Ext w U) (λ_ _ h=>h) λay a=>?_;rw[cO,al];refine⟨λh=>?_,λh=>a _ _ ⟨by unfold bJ;rw[decide_eq_false Ω],Ext.refl _⟩⟩;rw[lC];refine a _ _ ⟨?_,Ext.refl _⟩;congr 1;unfold bJ;rw[V5,decide_eq_true_eq,decide_eq_true_eq];omega
def lL (w:x3) (g:Nat) (a:x1) (p:Λ) (at_:Nat) (bad:Int):Prop:=Bytes p/\p.length<=100000/\at_<=p.length/\af w g hD [a,Δ (at_:Int),Δ bad]/\ ∃bm,au .u8 cD w bm a p
theorem lL.ext {g:Nat} {a:x1} {p:Λ} {at_:Nat} {bad:Int} (h:lL w g a p at_ bad) (I:Ext w w'):lL w' g a p at_ bad:=by
 obtain⟨h1,e,f,j,bm,m⟩:=h;exact⟨h1,e,f,j.ext I,bm,m.ext I⟩
theorem Jv (h:aF .u8 w v l) (z:l.length<=100000):am x7 Hc [v] w λf w'=>Ext w w'/\ ∃g,au .u8 cD w' g f l:=by
 have e:=h;obtain⟨A,b,o,base,cap,rfl,B,hm,m,C⟩:=h;refine az func136 ?_;rw[rT cM.u,cb];refine⟨λp=>⟨Ext.refl _,0,?_⟩,λ_=>?_⟩
 .have:l=[]:=by
   cases base with
   |none=>
        by_cases e:0<l.length
        .have:=m e;cases this
        .exact c8 Ω
   |some a=>cases p
  subst this;exact au.nil _ _ _ _
 .refine j1 (k:=1) (cs:=#[]) cM.u cD.i Ω Ψ λg U E j q=>?_;have r:au .u8 cD U g (.slice (σ ⟨g,0,ν⟩) 0 0) []:=au.of (n:=0) (bT.full (by simpa using q) rfl Ξ);refine iT cM.u cD.i rfl r (e.ext j) Θ Θ λf s V G x y=>?_;exact⟨j.put y Ω,s,by simpa using x⟩
theorem Ax (h:aF .u8 w v l) (p:Bytes l) (e:l.length<=100000):am x7 za [v] w λq w'=>Ext w w'/\ ∃g,q=Γ g/\w.heap.size<=g/\ ∃a,lL w' g a l 0 (-1):=by
 refine az func73 ?_;refine (Jv h e).mono ?_;rintro a U _ ⟨f,bm,j⟩;rw[dn (cs:=#[a,Δ 0,Δ (-1)]) (by obtain⟨_,_,_,_,_,rfl,_⟩:=j.ls;kernel_rfl)];refine bo λg V s m r=>?_;have x:=f.size;exact⟨f.trans m,g,rfl,Ω,a,p,e,X3 _,r,bm,j.ext m⟩
def runN (f:Int->Bool) (p:Λ):Nat:=(p.takeWhile f).length
theorem Jw (f:Int->Bool) (p:Λ):runN f p<=p.length:=(List.takeWhile_sublist f).length_le
theorem Ay {f:Int->Bool} {p:Λ} {i:Nat} {b:Int} (hi:p[i]? =σ b) (ae:f b=true):i+runN f (p.drop i)=(i+1)+runN f (p.drop (i+1)):=by
 have a:=x4.1 hi;unfold runN;rw[X7 a.1,a.2,List.takeWhile_cons,if_pos ae,c7];omega
theorem Az {f:Int->Bool} {p:Λ} {i:Nat} (h:∀b,p[i]? =σ b->f b=false):runN f (p.drop i)=0:=by
 unfold runN;cases a:p[i]? with
 |none=>
  rw[List.drop_of_length_le (List.getElem?_eq_none_iff.1 a)];rfl
 |some b=>
  have e:=x4.1 a;rw[X7 e.1,e.2,List.takeWhile_cons,if_neg (by simp[h b a])];rfl
theorem Jx {g at_:Nat} {y:x1} {p:Λ} {bad:Int} (h:lL w g y p at_ bad):am x7 Hg [Γ g] w λv w'=>v=Δ ((at_+runN cw (p.drop at_):Nat):Int)/\Ext w w':=by
 obtain⟨I,K,z,a,bm,m⟩:=h;refine az func141 ?_;rw[aO hD.p 1 a rfl];refine⟨λv U=>Ext w U/\ ∃i:Nat,v=Δ (i:Int)/\i<=p.length/\i+runN cw (p.drop i)=at_+runN cw (p.drop at_),λv _=>p.length-(bU v).toNat,⟨Ext.refl _,at_,rfl,z,rfl⟩,?_⟩;rintro _ U ⟨j,i,rfl,hi,he⟩;refine aV (λv V=>Ext w V/\ ∃c:Bool,v= .bool c/\(c=true↔ ∃b,p[i]? =σ b/\cw b=true)) ?_ ?_
 .rintro _ V ⟨q,c,rfl,r⟩;rw[cb];refine⟨λA=>?_,λae=>?_⟩
  .obtain⟨b,e,B⟩:=r.1 A;have C:=(x4.1 e).1;rw[aM,wrap_i64 Ω Ω];exact⟨⟨q,i+1,rfl,C,by rw[<-he,Ay e B]⟩,by simp only[bU];omega⟩
  .have E:=Az (f:=cw) (p:=p) (i:=i) λb a=>by
    cases J:cw b with
    |false=>rfl
    |true=>rw[r.2 ⟨b,a,J⟩] at ae;cases ae
   exact⟨by rw[<-he,E,Nat.add_zero],q⟩
 .intro ay s;have x:=a.ext j;rw[aO hD.p 0 x rfl,aU cM.u (m.ext j).ls,aN,al];refine⟨λL=>?_,λM=>s _ _ ⟨j,false,rfl,⟨λh=>(by cases h),λ⟨b,a,_⟩=>by have:=(x4.1 a).1;omega⟩⟩⟩;have G:i<p.length:=Ω
  have e:p[i]? =σ p[i]:=x6 G;rw[aO hD.p 0 x rfl,be cM.u cD.i Ψ (m.ext j).ls e];refine Aw.mono ?_;rintro _ N _ ⟨rfl,H⟩;exact s _ _ ⟨j.trans H,_,rfl,⟨λh=>⟨_,e,h⟩,λ⟨b,a,h⟩=>by rw[e] at a;cases a;exact h⟩⟩
inductive Jy where
 |word (from_ to:Nat)
 |none
 |text (at_:Nat)
def gn (p:Λ) (at_:Nat):Nat:=at_+runN cw (p.drop at_)
def ir (p:Λ) (a:Nat):Nat:=a+runN bJ (p.drop a)
open Classical in
noncomputable def oJ (p:Λ) (at_:Nat):Jy:=
 if ir p (gn p at_)<p.length/\(∀c,p[ir p (gn p at_)]? =σ c->cw c=false) then .text (ir p (gn p at_)) else if gn p at_=ir p (gn p at_) then .none else .word (gn p at_) (ir p (gn p at_))
def p5 (w:x3) (g:Nat) (e:x1) (p:Λ) (at_:Nat) (v:x1) (w':x3):Prop:=
 match oJ p at_ with
 | .word a b=>v= .tuple #[bN ((p.take b).drop a),Δ (a:Int),Δ 0]/\ah (λr=>r=g) w w'/\lL w' g e p b (-1)
 | .none=>∃n:Nat,v= .tuple #[bN [],Δ (n:Int),Δ 2]/\Ext w w'
 | .text b=>v= .tuple #[bN [],Δ (b:Int),Δ 11]/\ah (λr=>r=g) w w'/\lL w' g e p at_ (b:Int)
theorem hp {aX:Nat->Prop} {a b c:x3} (h:ah S a b) (k:ah aX b c) (j:∀r,r<a.heap.size->aX r->S r):ah S a c:=
 ⟨Y9 h.size k.size,λr o e J f=>k.aZ r o (h.aZ r o e J f) J λhu=>f (j r (o8.1 e).1 hu)⟩
theorem b4 {g:Nat} {k:o4} {m:r8} (h:au k e w g v l) (p:af w j m cs) (s:e≠m) (q:leads v r):r≠j:=by
 obtain⟨rfl,_⟩:=bM h q;obtain⟨_,⟨rfl,_⟩|⟨_,_,_,f,_⟩⟩:=h
 .obtain⟨a,n,c,h,_⟩:=q;cases h
 .rintro rfl;unfold af at p f;rw[p] at f;injection f with h1;injection h1 with y x;exact s x.symm
theorem Jz {s:r8} {e:o4} {b i:Nat} (m:x7.underlying s=σ (.slice t)) (hi:aS x7 t 1 b z)
  (h:aF .u8 w v l) (p:i<=j) (q:j<=l.length) (r:∀a,aF .u8 w a ((l.take j).drop i)->K a):aa x7 (V3 s v (σ (.int e (i:Int))) (σ (.int f (j:Int))) ν) w K:=by
 refine r4 m hi h (ng i _ rfl) (nh j _ rfl) p q λa h'=>r a (aF.of (n:=j-i) ?_);have x:((ints .u8 l).drop (i*1)).take ((j-i)*1)=ints .u8 ((l.take j).drop i):=by
  rw[V8,V8,ints,ints,List.map_drop,List.map_take,List.drop_take]
 rw[x] at h';exact h'
theorem JA {g at_:Nat} {E:x1} {p:Λ} (h:lL w g E p at_ (-1)):am x7 uM [Γ g] w (p5 w g E p at_):=by
 obtain⟨Q,R,an,e,bm,G⟩:=id h;refine az func79 ?_;rw[c5 rP.u,b9,aY,aO hD.p 2 e rfl,cO,al];refine⟨λh=>Ω,λ_=>?_⟩;refine (Jx h).mono ?_;rintro _ V _ ⟨rfl,ao⟩;obtain⟨a,S⟩:∃a,a=at_+runN cw (p.drop at_):=⟨_,rfl⟩;rw[<-S];have ap:a<=p.length:=by have:=Jw cw (p.drop at_);rw[List.length_drop] at this;omega
 refine⟨λv H=>Ext V H/\ ∃i:Nat,v=Δ (i:Int)/\a<=i/\i<=p.length/\i+runN bJ (p.drop i)=a+runN bJ (p.drop a),λv _=>p.length-(bU v).toNat,⟨Ext.refl _,a,rfl,p8 _,ap,rfl⟩,?_⟩;rintro _ H ⟨U,i,rfl,aq,hi,he⟩;have I:=ao.trans U;have W:=e.ext I;have X:=G.ext I;refine aV (λv y=>Ext H y/\ ∃c:Bool,v= .bool c/\(c=true↔ ∃b,p[i]? =σ b/\bJ b=true)) ?_ ?_
 rotate_left
 .intro ay q;rw[aO hD.p 0 W rfl,aU cM.u X.ls,aN,al];refine⟨λau=>?_,λav=>q _ _ ⟨Ext.refl _,false,rfl,⟨λh=>(by cases h),λ⟨b,e,_⟩=>by have:=(x4.1 e).1;omega⟩⟩⟩;have z:i<p.length:=Ω
  have m:p[i]? =σ p[i]:=x6 z;rw[aO hD.p 0 W rfl,be cM.u cD.i Ψ X.ls m];refine Ju.mono ?_;rintro _ y _ ⟨rfl,A⟩;exact q _ _ ⟨A,_,rfl,⟨λh=>⟨_,m,h⟩,λ⟨b,e,h⟩=>by rw[m] at e;cases e;exact h⟩⟩
 rintro _ y ⟨A,c,rfl,s⟩;have K:=I.trans A;have Y:=e.ext K;have Z:=G.ext K;rw[cb];refine⟨λL=>?_,λae=>?_⟩
 .obtain⟨b,m,aw⟩:=s.1 L;have ax:=(x4.1 m).1;rw[aM,wrap_i64 Ω Ω];exact⟨⟨U.trans A,i+1,rfl,Ω,ax,by rw[<-he,Ay m aw]⟩,by simp only[bU];omega⟩
 have aE:=Az (f:=bJ) (p:=p) (i:=i) λb e=>by
  cases J:bJ b with
  |false=>rfl
  |true=>rw[s.2 ⟨b,e,J⟩] at ae;cases ae
 have aA:i=a+runN bJ (p.drop a):=Ω
 refine aV (λv M=>Ext y M/\ ∃c:Bool,v= .bool c/\(c=true↔i<p.length/\ ∀c,p[i]? =σ c->cw c=false)) ?_ ?_
 rotate_left
 .intro ay q;rw[aO hD.p 0 Y rfl,aU cM.u Z.ls,aN,al];refine⟨λau=>?_,λav=>q _ _ ⟨Ext.refl _,false,rfl,⟨λh=>(by cases h),λh=>Ω⟩⟩⟩;have z:i<p.length:=Ω
  have m:p[i]? =σ p[i]:=x6 z;rw[aO hD.p 0 Y rfl,be cM.u cD.i Ψ Z.ls m];refine Aw.mono ?_;rintro _ M _ ⟨rfl,N⟩;rw[bI];refine q _ _ ⟨N,_,rfl,⟨λh=>⟨z,λc s=>?_⟩,λh=>by rw[h.2 _ m];rfl⟩⟩;rw[m] at s;cases s;cases J:cw p[i] with
  |false=>rfl
  |true=>rw[J] at h;cases h
 rintro _ M ⟨N,aF,rfl,aa⟩;have x:=K.trans N;have B:=e.ext x;have C:=G.ext x;have ac:∀r,leads E r->r≠g:=λr aB=>b4 C B Φ aB;have O:oJ p at_=open Classical in if i<p.length/\(∀c,p[i]? =σ c->cw c=false) then .text i else if a=i then .none else .word a i:=by
  unfold oJ;rw[show gn p at_=a from S.symm,show ir p a=i from aA.symm]
 rw[cb];refine⟨λL=>?_,λad=>?_⟩
 .rw[bS,aW hD.p rfl];refine bt (g:=g) (o:=2) ai.i rfl rfl B Ξ λaG af aH aC=>?_;unfold p5;rw[O,if_pos (aa.1 L)];exact⟨rfl,(x.ab _).trans af,Q,R,an,aC,bm,bp C af ac⟩
 .have ag:¬(i<p.length/\ ∀c,p[i]? =σ c->cw c=false):=λh=>by rw[aa.2 h] at ad;cases ad
  rw[bh,al];refine⟨λaI=>?_,λaJ=>?_⟩
  .intro aK P _ _;rw[aO hD.p 0 (B.ext P) rfl,aU cM.u (C.ext P).ls];unfold p5;rw[O,if_neg ag,if_pos Ω];exact⟨p.length,rfl,x.trans P⟩
  .rw[bS,aW hD.p rfl];refine bt (g:=g) (o:=1) ai.i rfl rfl B Ξ λaL ah aP aj=>?_;have ak:=bp C ah ac;rw[aO hD.p 0 aj rfl];refine Jz (i:=a) (j:=i) cM.u cD.i ak.ls aq hi λaQ aD=>?_;rw[vh cM.u cD.u c0.u aD];unfold p5;rw[O,if_neg ag,if_neg Ω];exact⟨rfl,(x.ab _).trans ah,Q,R,hi,aj,bm,ak⟩
abbrev bu:ak:=λ_=>False
abbrev ea (n:Nat):ak:=λr=>n<=r
theorem JB {a b:Λ} {ba bv:x1} (e:aF .i64 w ba a) (q:aF .i64 w bv b):
  am x7 G1 [ba,bv] w λv w'=>v= .bool (decide (a=b))/\Ext w w':=by
 refine az func124 ?_;rw[aU an.u e,aU an.u q];simp only[bz,al];refine⟨λj=>⟨?_,Ext.refl _⟩,λr=>?_⟩
 .rw[decide_eq_false];rintro rfl;exact j rfl
 .have r:a.length=b.length:=Ω
  rw[aU an.u e];refine bX.range a.length (λi _ U=>Ext w U/\a.take i=b.take i) e.le ⟨Ext.refl _,rfl⟩ ?_ ?_
  .rintro i t4 U k s ⟨I,m⟩ hk;simp only[aN,al,en];refine⟨λ_ V z _ _=>?_,λh=>Ω⟩;have I:=I.trans z;obtain⟨x,p⟩:=aH (l:=a) s;obtain⟨y,f⟩:=aH (l:=b) (i:=i) Ω;rw[be an.u ai.i Ψ (e.ext I) p,be an.u ai.i Ψ (q.ext I) f];simp only[bz,al,aM];refine⟨λj=>⟨?_,I⟩,λA=>hk _ _ ⟨I,u1 m p f Ω⟩⟩;rw[decide_eq_false];rintro rfl;rw[p] at f;cases f;exact j rfl
  .rintro _ U k ⟨I,m⟩;simp only[aN,al];refine⟨λh=>Ω,λ_=>⟨?_,I⟩⟩;rw[decide_eq_true];rwa [o5,r,o5] at m
def i9 (rest:List (Λ)) (i:Nat):List (Λ):=(Z8 i).flatMap λ(v:Nat)=>rest.map λt=>(v:Int)::t
theorem JC (rest:List (Λ)) (i:Nat):i9 rest (i+1)=i9 rest i++rest.map λt=>(i:Int)::t:=by
 simp[i9,List.range_succ]
theorem AA (rest:List (Λ)) (i:Nat):(i9 rest i).length=i*rest.length:=by
 simp only[i9,List.length_flatMap,u7];rw[List.map_const',List.length_range,List.sum_replicate_nat]
def oK (l:Λ):Prop:=l.length<=90/\(∀x∈l,1<=x/\x<=32)/\aK l<=1073741824
theorem b1.p (h:b1 l):oK l:=⟨by have:=h.1;omega,h.2,(prod_bound h).2⟩
theorem oK.tail {s:Λ} (h:oK (k::s)):oK s:=by
 have h1:=h.2.1 k (.head _);have a:=(kN s λx I=>h.2.1 x (.tail _ I)).1;have e:k*aK s<=1073741824:=h.2.2;have f:=Int.mul_le_mul_of_nonneg_right h1.1 (show 0<=aK s by omega);refine⟨?_,λx I=>h.2.1 x (.tail _ I),Ω⟩;have:=h.1;rw[c7] at this;omega
theorem vl:∀ (s:Λ) {sv:x1} {w:x3},aF .i64 w sv s->oK s->
  am x7 y6 [sv] w λv w'=>Ext w w'/\bC (ea w.heap.size) bu w' [v] (bk s)
 |[],sv,w,h,J=>by
  refine az func48 ?_;rw[aU an.u h];simp only[bh,List.length_nil,Int.natCast_zero,decide_true,bQ];refine jw (α:=Λ) (a:=[]) (cs:=[.slice ν 0 0]) (A:=bu) de.u an.i Φ rfl gS λv w' I f _=>⟨I,ao.mono f (λr _ h=>?_) λ_ _ h=>h⟩;exact h.elim False.elim id
 |k::s,sv,w,h,J=>by
  have ak:1<=aK (k::s)/\aK (k::s)<=1073741824:=⟨(kN _ J.2.1).1,J.2.2⟩;have q:oK s:=J.tail;have hk:=J.2.1 k (.head _);have O:=i7 q.2.1;have ap:1<=aK s/\aK s<=1073741824:=⟨(kN _ q.2.1).1,q.2.2⟩;obtain⟨kn,rfl⟩:∃kn:Nat,k=kn:=⟨k.toNat,Ω⟩;have aq:kn*(bk s).length<=1073741824:=by
   have e:((kn*(bk s).length:Nat):Int)=aK ((kn:Int)::s):=by
    rw[Int.natCast_mul,O,aK,Int.toNat_of_nonneg Ω]
   omega
  refine az func48 ?_;rw[aU an.u h];simp only[bh,al];refine⟨λP=>by simp at P;omega,λ_=>?_⟩;refine Jd (i:=1) rfl an.u ai.i h Ξ λQ h'=>?_;refine (vl s h' q).mono ?_;rintro au V _ ⟨C,z⟩;have av:=lI z;refine bX.range kn (λi out U=>Ext V U/\bC (ea V.heap.size) bu U [out] (i9 (bk s) i)) Ω ⟨Ext.refl _,gS⟩ ?_ ?_
  .rintro i out S W L ⟨p,f⟩ X;have Y:=bW z p;rw[fx (y:=0) (i:=0) rfl an.u ai.i Ψ (h.ext (C.trans p)) (by rfl)];simp only[aN,al];refine⟨λ_=>?_,λh=>Ω⟩;rw[io de.u Y];refine bX.range (bk s).length (λj out U=>Ext V U/\bC (ea V.heap.size) bu U [out] (i9 (bk s) i++((bk s).take j).map λt=>(i:Int)::t)) Ω ⟨p,by simpa using f⟩ ?_ ?_
   .rintro j out m Z aa ⟨B,f⟩ ab;simp only[aN,al];refine⟨λ_=>?_,λh=>Ω⟩;obtain⟨x,E⟩:=aH (l:=(bk s)) aa;have aw:x.length<=100:=by
     have:=zU E;have:=q.1;omega
    refine kL rfl rfl de.u an.i Ψ (bW z B) E λu hu=>?_;refine eo an.u ai.i rfl λa ga ax ay G ac=>?_;refine iT an.u ai.i rfl ac (eE (bW hu G)) Θ Θ λb aA ad aB H ae=>?_;have aC:=G.size;have M:Ext m ad:=G.then ae (by rintro r z rfl;omega);have aD:=M.size;refine jw (α:=Λ) (a:=(i:Int)::x) (cs:=[b]) (A:=ea m.heap.size) (R:=bu) de.u an.i Φ (oC (kM H (R:=bu))) (ao.mono (kM H) (λr _ h=>by subst h;show m.heap.size<=r;omega) λ_ _ h=>h) λc aE K _ af=>?_;have N:=M.trans K;have aG:=K.size;refine mi (α:=Λ) (a:=(i:Int)::x) (A:=ea m.heap.size) de.u an.i rfl (bW (lI f) N) af (bW (ao.mono (kM H) (λr _ h=>by subst h;show m.heap.size<=r;omega) λ_ _ h=>h) K) (λr _ h h'=>?_) ?_ ?_ λQ aI ag ah=>?_
    .rcases h' with h'|h'
     .have:=h.2;have:m.heap.size<=r:=h';omega
     .exact h'
    .have aj:(i9 (bk s) i++((bk s).take j).map λt=>(i:Int)::t).length+1<=kn*(bk s).length:=by
      simp only[p9,AA,u7,l9];have:(i+1)*(bk s).length<=kn*(bk s).length:=X4 _ L;rw[V9] at this;omega
     omega
    .have aj:(i9 (bk s) i++((bk s).take j).map λt=>(i:Int)::t).length+1<=kn*(bk s).length:=by
      simp only[p9,AA,u7,l9];have:(i+1)*(bk s).length<=kn*(bk s).length:=X4 _ L;rw[V9] at this;omega
     omega
    .simp only[aM];have aJ:=B.size;refine ab _ _ ⟨(B.trans N).then ah (λr z h=>?_),?_⟩
     .have:=h.1;have:V.heap.size<=r:=this;omega
     .have e:i9 (bk s) i++((bk s).take (j+1)).map (λt=>(i:Int)::t)=(i9 (bk s) i++((bk s).take j).map λt=>(i:Int)::t)++[(i:Int)::x]:=by
       rw[u9,E];simp
      rw[e];refine ao.mono ag (λr _ h=>?_) λ_ _ h=>h;show V.heap.size<=r;rcases h with h|h|h
      .exact h.1
      .have:m.heap.size<=r:=h;omega
      .omega
   .rintro out m Z ⟨B,f⟩;simp only[aN,al,aM];refine⟨λh=>Ω,λ_=>X _ _ ⟨B,?_⟩⟩;rw[JC];simpa using f
  .rintro out S W ⟨p,f⟩;rw[fx (y:=0) (i:=0) rfl an.u ai.i Ψ (h.ext (C.trans p)) (by rfl)];simp only[aN,al];refine⟨λh=>Ω,λ_=>⟨C.trans p,?_⟩⟩;have aL:=C.size;have e:bk ((kn:Int)::s)=i9 (bk s) kn:=by simp[bk,i9]
   rw[e];exact ao.mono f (λr _ h=>by have:V.heap.size<=r:=h;show w.heap.size<=r;omega) λ_ _ h=>h
theorem AB (s:Λ) (h:aF .i64 w sv s) (J:b1 s):am x7 y6 [sv] w λv w'=>Ext w w'/\bC (ea w.heap.size) bu w' [v] (bk s):=vl s h J.p
theorem JD:∀ (x:Nat),0<x-> ∃k m,x=2 ^ k*(2*m+1):=by
 intro x;induction x using Nat.strongRecOn with
 |_ x a=>
  intro h;by_cases e:x % 2=1
  .exact⟨0,x / 2,Ω⟩
  .obtain⟨k,m,hk⟩:=a (x / 2) Ω Ω;refine⟨k+1,m,?_⟩;rw[Nat.pow_succ,Nat.mul_assoc,Nat.mul_comm 2,<-Nat.mul_assoc,<-hk];omega
theorem vm {k i:Nat}:(2 ^ k*(2*m+1)).testBit i=(decide (i=k)||decide (k<i)&&m.testBit (i-k-1)):=by
 rw[Nat.testBit_two_pow_mul];by_cases h:k<=i
 .obtain⟨d,rfl⟩:=Nat.exists_eq_add_of_le h;cases d with
  |zero=>simp
  |succ d=>
   have e:(2*m+1).testBit (d+1)=m.testBit d:=by rw[Nat.testBit_succ];congr 1;omega
   simp[e,show k+(d+1)-k=d+1 by omega]
 .simp[h,show i≠k by omega,show ¬k<i by omega]
theorem JE {k:Nat} (I:2 ^ k*(2*m+1)<2 ^ 64):(2 ^ k*(2*m+1)) &&& (2 ^ 64-2 ^ k*(2*m+1))=2 ^ k:=by
 have p:0<2 ^ k:=Nat.two_pow_pos k;have hk:k<64:=by
  rcases Nat.lt_or_ge k 64 with h|h
  .exact h
  .have:2 ^ 64<=2 ^ k:=T7 Ω h;have:2 ^ k*1<=2 ^ k*(2*m+1):=Nat.mul_le_mul_left _ Ω;omega
 have e:2 ^ k*(2*m+1)=(2 ^ k*(2*m)+(2 ^ k-1))+1:=by rw[Nat.mul_add];omega
 apply Nat.eq_of_testBit_eq;intro i;rw[Nat.testBit_and,vm]
 conv=>lhs;rhs;rw[e]
 rw[Nat.testBit_two_pow_sub_succ Ω,Nat.testBit_two_pow_mul_add _ Ω,Nat.testBit_two_pow];by_cases h1:i=k
 .subst h1;simp[hk]
 .by_cases a:k<i
  .have f:(2*m).testBit (i-k)=m.testBit (i-k-1):=by
    obtain⟨d,j⟩:∃d,i-k=d+1:=⟨i-k-1,Ω⟩;rw[j,Nat.testBit_succ];congr 1;omega
   simp[h1,a,show ¬i<k by omega,f,show k≠i by omega];intro h;simp[h]
  .simp[h1,a,show k≠i by omega]
def jy (a c:Nat):Nat:=(BitVec.ofNat 64 a &&& ~~~BitVec.ofNat 64 c).toNat
theorem AC (a c i:Nat):(jy a c).testBit i=(decide (i<64)&&(a.testBit i&& !c.testBit i)):=by
 unfold jy;rw[BitVec.testBit_toNat,BitVec.getLsbD_and,BitVec.getLsbD_not,BitVec.getLsbD_ofNat,BitVec.getLsbD_ofNat];by_cases h:i<64<;>simp[h]
theorem JF (a c:Nat):jy a c<2 ^ 64:=BitVec.isLt _
theorem JG (h:∀i,n<=i->a.testBit i=false):a<2 ^ n:=Nat.lt_pow_two_of_testBit a h
theorem AD {i:Nat} (h:a<2 ^ n) (hi:n<=i):a.testBit i=false:=Nat.testBit_lt_two_pow (R8 h (T7 Ω hi))
def gp (b n:Nat):List Nat:=(Z8 n).filter λi=>b.testBit i
theorem AE (b n:Nat):(gp b n).Pairwise (·< ·):=List.Pairwise.filter _ List.pairwise_lt_range
theorem vn {b i:Nat}:i∈gp b n↔i<n/\b.testBit i=true:=by simp[gp]
def nv:Option Nat->Int
 |some i=>(i:Int)
 |none=>-1
def jz (b n:Nat) (v:Int):Int:=nv ((Z8 n).find? (λi:Nat=>decide (v<(i:Int))&&b.testBit i))
theorem AF:∀ {l:List Nat} {k x:Nat},l.Pairwise (·< ·)->l[k]? =σ x->l.filter (λi=>decide (x<i))=l.drop (k+1)
 |y::l,0,x,h,hk=>by
  simp at hk;subst hk;rw[List.pairwise_cons] at h;simp only[List.drop_succ_cons,List.drop_zero];rw[List.filter_cons_of_neg Ξ,List.filter_eq_self.2 λa e=>by simpa using h.1 a e]
 |y::l,k+1,x,h,hk=>by
  simp only[List.getElem?_cons_succ] at hk;rw[List.pairwise_cons] at h;have:y<x:=h.1 x (x5 hk);rw[List.filter_cons_of_neg Θ,List.drop_succ_cons];exact AF h.2 hk
theorem AG (b n:Nat) (v:Int):jz b n v=nv (((gp b n).filter (λi:Nat=>decide (v<i))).head?):=by
 unfold jz gp;rw[<-List.head?_filter,List.filter_filter]
theorem JH (b n:Nat):jz b n (-1)=nv ((gp b n)[0]?):=by
 rw[AG,List.filter_eq_self.2 (λa _=>Θ),List.head?_eq_getElem?]
theorem AH {b k x:Nat} (h:(gp b n)[k]? =σ x):jz b n x=nv ((gp b n)[k+1]?):=by
 have e:(λi:Nat=>decide ((x:Int)<i))=λi=>decide (x<i):=by funext i;simp
 rw[AG,e,AF (AE b n) h,List.head?_eq_getElem?,List.getElem?_drop]
theorem JI {b:Nat} {v:Int} (h:(n:Int)-1<=v):jz b n v= -1:=by
 unfold jz;rw[List.find?_eq_none.2 λi hi=>by simp at hi ⊢;omega];rfl
theorem JJ {b k s:Nat} (y:n<=64) (f:b<2 ^ n) (e:∀i,r.testBit i=(decide (s<=i)&&b.testBit i)) (hk:r=2 ^ k*(2*m+1)) {v:Int} (ac:v+1=s):jz b n v=k:=by
 have p:r.testBit k=true:=by rw[hk,vm];simp
 have q:∀i,i<k->r.testBit i=false:=λi hi=>by rw[hk,vm];simp[show i≠k by omega,show ¬k<i by omega]
 have a:=p;rw[e] at a;simp at a;have w:k<n:=by
  rcases Nat.lt_or_ge k n with h|h
  .exact h
  .rw[AD f h] at a;cases a.2
 unfold jz;have:(Z8 n).find? (λi:Nat=>decide (v<(i:Int))&&b.testBit i)=σ k:=by
  rw[List.find?_range_eq_some];refine⟨by simp[a.2];omega,by simpa using w,λj x=>?_⟩;have:=q j x;rw[e] at this;simp only[Bool.not_eq_true',Bool.and_eq_false_iff,decide_eq_false_iff_not] at this ⊢;rcases this with h|h
  .exact .inl Ω
  .exact .inr h
 rw[this];rfl
theorem JK {b s:Nat} (a:∀i,r.testBit i=(decide (s<=i)&&b.testBit i)) (hk:r=0) {v:Int} (ac:v+1=s):jz b n v= -1:=by
 unfold jz;rw[List.find?_eq_none.2]
 .rfl
 .intro i hi;have:=a i;rw[hk,Nat.zero_testBit] at this;simp at hi this ⊢;intro h;exact this Ω
section
variable {P:W0} {w:x3} {t:r8} {cx cy:Bool} {a b:Nat} {K:x1->Prop}
theorem mo (a:Nat):U5 64 (a:Int)=BitVec.ofNat 64 a:=BitVec.ofInt_natCast _ _
theorem AI (x:BitVec 64):U1.wrap (x.toNat:Int)=(x.toNat:Int):=by
 have:=x.isLt;rw[wrap_u64 Ω Ω]
theorem u64_and (f:a<2 ^ 64) (h:b<2 ^ 64):aa P (aJ .and t cx cy (.int .u64 a) (.int .u64 b)) w K=K (.int .u64 ((a &&& b:Nat):Int)):=aa.of λw' _=>by
 have e:(U5 64 (a:Int) &&& U5 64 (b:Int)).toNat=a &&& b:=by
  rw[mo,mo,BitVec.toNat_and,BitVec.toNat_ofNat,BitVec.toNat_ofNat,Nat.mod_eq_of_lt f,Nat.mod_eq_of_lt h]
 have hw:U1.wrap ((a &&& b:Nat):Int)=((a &&& b:Nat):Int):=by rw[<-e];exact AI _
 have j:(U5 U1.bits (a:Int) &&& U5 U1.bits (b:Int)).toNat=a &&& b:=e;simp only[aJ,eqGuard,binOp,Op.intBits,j,hw];rfl
theorem AJ:aa P (aJ .andNot t cx cy (.int .u64 a) (.int .u64 b)) w K=K (.int .u64 (jy a b:Int)):=aa.of λw' _=>by
 have e:(U5 64 (a:Int) &&& ~~~U5 64 (b:Int)).toNat=jy a b:=by rw[mo,mo];rfl
 have hw:U1.wrap (jy a b:Int)=(jy a b:Int):=AI _;have f:(U5 U1.bits (a:Int) &&& ~~~U5 U1.bits (b:Int)).toNat=jy a b:=e;simp only[aJ,eqGuard,binOp,Op.intBits,f,hw];rfl
theorem kR {k:o4} (f:n<64):aa P (aJ .shr t cx cy (.int .u64 (a:Int)) (.int k (n:Int))) w K=K (.int .u64 ((a / 2 ^ n:Nat):Int)):=aa.of λw' _=>by
 have e:(a:Int).fdiv (2 ^ min n U1.bits)=((a / 2 ^ n:Nat):Int):=by
  have:min n U1.bits=n:=Nat.min_eq_left (by show n<=64;omega);rw[this,Int.fdiv_eq_ediv_of_nonneg _ (by exact Int.le_of_lt (Int.pow_pos Ω))];simp
 simp only[aJ,eqGuard,binOp,Op.shift,u6,e];simp[show ¬(n:Int)<0 by omega]
theorem vo {k:o4} (a:n<64):aa P (aJ .shl t cx cy (.int .u64 1) (.int k (n:Int))) w K=K (.int .u64 ((2 ^ n:Nat):Int)):=by
 rw[zx Ω];have e:min ((n:Int).toNat) U1.bits=n:=Nat.min_eq_left (by show n<=64;omega);have f:2 ^ n<2 ^ 64:=Nat.pow_lt_pow_right Ω a;rw[e,Int.one_mul,show ((2:Int) ^ n)=((2 ^ n:Nat):Int) by simp];generalize 2 ^ n=q at f ⊢;rw[wrap_u64 Ω Ω]
end
def oL:Λ:=[0,1,56,2,57,49,28,3,61,58,42,50,38,29,17,4,62,47,59,36,45,43,51,22,53,39,33,30,24,18,12,5,63,55,48,27,60,41,37,16,46,35,44,21,52,32,23,11,54,26,40,15,34,20,31,10,25,14,19,9,13,8,7,6]
def Laid (w:x3):Prop:=w.rangeAt 0 0 (ints .u8 oL)
theorem Laid.ext (h:Laid w) (I:Ext w w'):Laid w':=ne I h
theorem JL:∀k:Nat,k<64->oL[(2 ^ k*285870213051353865 % 2 ^ 64) / 2 ^ 58]? =σ (k:Int):=Φ
theorem JM {x k:Nat} (f:Laid w) (I:x=2 ^ k*(2*m+1)) (j:x<2 ^ 64):
  am x7 If [.int .u64 (x:Int)] w λv w'=>v=Δ (k:Int)/\Ext w w':=by
 have y:0<2 ^ k:=Nat.two_pow_pos k;have z:2 ^ k<=x:=by
  have:2 ^ k*1<=2 ^ k*(2*m+1):=Nat.mul_le_mul_left _ Ω;omega
 have hk:k<64:=by
  rcases Nat.lt_or_ge k 64 with h|h
  .exact h
  .have:2 ^ 64<=2 ^ k:=T7 Ω h;omega
 refine az func230 ?_;simp only[bh,al];refine⟨λh=>Ω,λ_=>?_⟩;rw[lD];have p:U1.wrap (0-(x:Int))=((2 ^ 64-x:Nat):Int):=by
  simp only[o4.wrap,o4.bits,o4.signed];simp;omega
 rw[p,u64_and j Ω,I,JE Ω];simp only[gE];have q:U1.wrap (((2 ^ k:Nat):Int)*285870213051353865)=((2 ^ k*285870213051353865 % 2 ^ 64:Nat):Int):=by
  have e:((2 ^ k:Nat):Int)*285870213051353865=((2 ^ k*285870213051353865:Nat):Int):=Ξ
  rw[e];simp only[o4.wrap,o4.bits,o4.signed];simp
 have r:(58:Int)=((58:Nat):Int):=rfl;rw[q,r,kR Ω];have a:=JL k hk;have s:=(x4.1 a).1;rw[u0 (t:=rR) rR.u cD.i s,aA Ψ (by rw[V8];exact f _ _ (kK a)),eW cD.u ai.u,wrap_i64 Ω Ω];exact⟨rfl,Ext.refl _⟩
def ja (b n:Nat):x1:=.agg #[.int .u64 (b:Int),Δ (n:Int)]
def lM (b n:Nat):Prop:=n<=32/\b<2 ^ n
theorem AK (s i:Nat):(2 ^ s-1).testBit i=decide (i<s):=Nat.testBit_two_pow_sub_one s i
theorem AL {b:Nat} {v:Int}:am x7 Ha [ja b n,Δ v] w λr w'=>r= .bool (decide (0<=v/\v<n))/\Ext w w':=by
 refine az func134 ?_;refine bo λg U f a e=>?_;simp only[cu,cO,al];refine⟨λh=>?_,λh=>⟨?_,a⟩⟩
 .rw[aT b2.p 1 e rfl];simp only[aN];exact⟨by simp[h],a⟩
 .rw[decide_eq_false];omega
theorem vp {b:Nat}:am x7 G2 [ja b n] w λr w'=>r=Δ n/\Ext w w':=by
 refine az func125 ?_;refine bo λg U f a e=>?_;rw[aT b2.p 1 e rfl];exact⟨rfl,a⟩
theorem JN {n:Int}:am x7 G5 [Δ n] w λr w'=>Ext w w'/\r=(if 1<=n/\n<=32 then .tuple #[ja (2 ^ n.toNat-1) n.toNat,Δ 0] else .tuple #[ja 0 0,Δ 1]):=by
 refine az func129 ?_;refine bG b2.i λg U z f j=>?_;refine aV (λv V=>v= .bool (decide (¬(1<=n/\n<=32)))/\U=V) ?_ ?_
 .rintro _ _ ⟨rfl,rfl⟩;simp only[al];refine⟨λh=>?_,λh=>?_⟩
  .rw[dn (cs:=#[.int .u64 0,Δ 0]) Ψ];refine ck (vs:=[.int .u64 0,Δ 0]) b2.i rfl rfl (by intro u hu;simp at hu;rcases hu with rfl|rfl<;>rfl) j λs a x e=>?_;rw[fO b2.p b2.i rfl e.range,if_neg h];exact⟨f.then a (by rintro r y rfl;omega),rfl⟩
  .have h:1<=n/\n<=32:=Z9.1 h;obtain⟨m,rfl⟩:∃m:Nat,n=m:=⟨n.toNat,Ω⟩;rw[vo Ω];have A:0<2 ^ m:=Nat.two_pow_pos m;have B:2 ^ m<=2 ^ 32:=T7 Ω Ω;simp only[dJ];rw[wrap_u64 Ω Ω,show (((2 ^ m:Nat):Int)-1)=((2 ^ m-1:Nat):Int) by omega];rw[dn (cs:=#[.int .u64 ((2 ^ m-1:Nat):Int),Δ m]) Ψ];refine ck (vs:=[.int .u64 ((2 ^ m-1:Nat):Int),Δ m]) b2.i rfl rfl (by intro u hu;simp at hu;rcases hu with rfl|rfl<;>rfl) j λs a x e=>?_;rw[fO b2.p b2.i rfl e.range,if_pos h];exact⟨f.then a (by rintro r y rfl;omega),rfl⟩
 .intro ay q;simp only[aN,bR,al];refine⟨λh=>q _ _ ⟨?_,rfl⟩,λh=>q _ _ ⟨?_,rfl⟩⟩
  .rw[decide_eq_true];omega
  .congr 1;simp;omega
theorem AM {b:Nat} {v:Int} (y:lM b n) (z:Laid w) (ac: -1<=v):am x7 HK [ja b n,Δ v] w λr w'=>r=Δ (jz b n v)/\Ext w w':=by
 obtain⟨G,e⟩:=y;have f:b<2 ^ 64:=R8 e (T7 Ω Ω);refine az func182 ?_;refine bo λg U H a j=>?_;rw[aT b2.p 1 j rfl];simp only[dJ,cO,al];rw[wrap_i64 Ω Ω];refine⟨λh=>⟨by rw[JI h],a⟩,λI=>?_⟩;rw[aT b2.p 0 j rfl];refine aV (λu V=>U=V/\ ∃r s:Nat,u= .int .u64 (r:Int)/\r<2 ^ 64/\v+1=s/\ ∀i,r.testBit i=(decide (s<=i)&&b.testBit i)) ?_ ?_
 .rintro _ _ ⟨rfl,r,s,rfl,A,J,q⟩;simp only[bh,al];refine⟨λB=>⟨by rw[JK q Ω J],a⟩,λB=>?_⟩;obtain⟨k,m,hk⟩:=JD r Ω;refine (JM (z.ext a) hk A).mono ?_;rintro _ K _ ⟨rfl,C⟩;exact⟨by rw[JJ Ω e q hk J],a.trans C⟩
 .intro ay x;refine⟨λh=>?_,λh=>?_⟩
  .obtain⟨s,rfl⟩:∃s:Nat,v=s:=⟨v.toNat,Ω⟩;have L:0<2 ^ (s+1):=Nat.two_pow_pos _;have M:2 ^ (s+1)<=2 ^ 32:=T7 Ω Ω;simp only[aM];rw[wrap_i64 Ω Ω,show ((s:Int)+1)=((s+1:Nat):Int) by omega,vo Ω];simp only[dJ];rw[wrap_u64 Ω Ω,show (((2 ^ (s+1):Nat):Int)-1)=((2 ^ (s+1)-1:Nat):Int) by omega,AJ];refine x _ _ ⟨rfl,_,s+1,rfl,JF _ _,Ω,λi=>?_⟩;rw[AC,AK];by_cases E:i<64
   .by_cases hi:s+1<=i
    .simp[E,hi,show ¬i<s+1 by omega]
    .simp[hi,show i<s+1 by omega]
   .rw[AD f Ω];simp
  .exact x _ _ ⟨rfl,b,0,rfl,f,Ω,λi=>Ξ⟩
theorem JO {b:Nat} (e:lM b n) (f:Laid w):am x7 HJ [ja b n] w λr w'=>r=Δ (jz b n (-1))/\Ext w w':=by
 refine az func181 ?_;refine bo λg U m a h=>?_;rw[bO b2.p b2.i rfl h.range];refine (AM e (f.ext a) Ω).mono ?_;rintro _ V _ ⟨rfl,j⟩;exact⟨rfl,a.trans j⟩
theorem JP {b:Nat} {v:Int} (G:lM b n):am x7 G7 [ja b n,Δ v] w λr w'=>r=ja (if 0<=v/\v<n then jy b (2 ^ v.toNat) else b) n/\Ext w w':=by
 refine az func131 ?_;refine bo λg U P q x=>?_;refine bG b2.i λH V Q y z=>?_;have R:=q.size;have S:=x.lt;refine dh (λe=>∃f,af e g b2 [.int .u64 ((f:Nat):Int),Δ (n:Int)]/\af e H b2 [.int .u64 0,Δ 0]/\Ext w e/\f=(if 0<=v/\v<n then jy b (2 ^ v.toNat) else b)) ?_ ?_
 .rintro e ⟨f,I,J,K,rfl⟩;rw[bO b2.p b2.i rfl I.range];refine ck (vs:=[_,_]) b2.i rfl rfl (by intro u hu;simp at hu;rcases hu with rfl|rfl<;>rfl) J λW L X M=>?_;rw[fO b2.p b2.i rfl M.range];exact⟨rfl,K.then L (by rintro r N rfl;omega)⟩
 .intro ay A;have j:=x.ext y;rw[bO b2.p b2.i rfl j.range];refine AL.mono ?_;rintro _ Y _ ⟨rfl,a⟩;have B:=(q.trans y).trans a;simp only[al,en];refine⟨λh Z m _ _=>?_,λh=>A _ ⟨b,j.ext a,z.ext a,B,by rw[if_neg h]⟩⟩;have C:=(j.ext a).ext m;rw[aT b2.p 0 C rfl];obtain⟨s,rfl⟩:∃s:Nat,v=s:=⟨v.toNat,Ω⟩;have aa:=G.1;rw[vo Ω,AJ,aW b2.p rfl];refine bt fs.i rfl rfl C (by simp[ja,x1.cells]) λac E ad O=>?_;refine A _ ⟨_,O,((z.ext a).ext m).ab E Ω,(B.trans m).then E (by rintro r N rfl;omega),?_⟩;rw[if_pos h,u6]
def oM (v:Int):Nat:=if v<0 then 0 else 40-v.toNat
theorem vq (x:Nat):oM x=40-x:=by unfold oM;rw[if_neg Ω];omega
theorem p6 {b g:Nat} (a:lM b n):
  oj x7 jZ [Γ g] (gp b n).length (λk vs _=>∃v:Nat,(gp b n)[k]? =σ v/\vs=[Δ (v:Int)])
   (λw=>af w g b2 [.int .u64 (b:Int),Δ (n:Int)]/\Laid w):=by
 refine⟨jZ.enters,λl ay N w j _ A ⟨m,q⟩ B=>?_⟩;have O:=a.1;refine pQ func180 ?_;rw[bO b2.p b2.i rfl m.range];refine (JO a q).free.mono ?_;rintro _ U ⟨C,rfl,I⟩;refine⟨λv V=>∃k,k<=(gp b n).length/\v=Δ (nv (gp b n)[k]?)/\ay k V/\af V g b2 [.int .u64 (b:Int),Δ (n:Int)]/\Laid V,
  λv _=>oM (bU v),⟨0,X3 _,by rw[JH],j 0 _ _ I C.b B,m.ext I,q.ext I⟩,?_⟩
 rintro _ V ⟨k,hk,rfl,r,E,G⟩;cases ac:(gp b n)[k]? with
 |none=>
  have:k=(gp b n).length:=by
   have:=List.getElem?_eq_none_iff.1 ac;omega
  subst this;simp only[nv,cO,al];exact⟨λh=>Ω,λ_=>.inl r⟩
 |some x=>
  have e:=(x4.1 ac).1;have P:=(vn.1 (x5 ac)).1;simp only[nv,cO,al];refine⟨λ_=>?_,λh=>Ω⟩;refine⟨rfl,(A k _ V e ⟨E,G⟩ ⟨x,ac,rfl⟩ r).mono ?_⟩;rintro _ Q (⟨rfl,⟨s,z⟩,H⟩|⟨rfl,J⟩)
  .simp only[bI,Y7,aY];rw[bO b2.p b2.i rfl s.range];refine (AM a z Ω).free.mono ?_;rintro _ R ⟨K,rfl,f⟩;refine⟨⟨k+1,e,congrArg (W8 .i64) (AH ac),j _ _ _ f K.b H.1,s.ext f,z.ext f⟩,?_⟩;rw[AH ac];cases L:(gp b n)[k+1]? with
   |none=>show 0<oM x;rw[vq];omega
   |some y=>
    have S:x<y:=by
     have h1:=(x4.1 ac).2;have M:=(x4.1 L).2;rw[<-h1,<-M];exact V2.1 (AE b n) k (k+1) _ _ Ω
    show oM y<oM x;rw[vq,vq];omega
  .simp only[bI,W5,bQ];exact .inr ⟨k,e,J⟩
theorem p7 {b:Nat}:am x7 GS [ja b n] w λr w'=>Ext w w'/\ ∃g,r= .func (.func jZ) #[] #[Γ g]/\w.heap.size<=g/\af w' g b2 [.int .u64 (b:Int),Δ (n:Int)]:=by
 refine az func116 ?_;refine bo λg U f a e=>?_;rw[iR];exact⟨a,g,rfl,Ω,e⟩
abbrev dO (s:Λ):Prop:=∀x∈s,1<=x/\x<=32
theorem dO.tail {s:Λ} (h:dO (k::s)):dO s:=λx I=>h x (.tail _ I)
theorem lN {s:Λ} (h:dO s):1<=aK s:=(kN s h).1
theorem oN:∀ (s t:Λ) (m:Int),cJ s t m=(cJ s t 0).map λn=>n+m*aK s
 |[],[],m=>by simp[cJ,aK]
 |k::s,v::t,m=>by
  unfold cJ;split
  .rw[oN s t (m*k+v),oN s t (0*k+v)];simp only[Option.map_map,aK];congr 1;funext n;simp only[Function.comp];rw[Int.add_mul,Int.add_mul,<-Int.mul_assoc];simp;omega
  .rfl
 |[],_::_,_=>rfl
 |_::_,[],_=>rfl
theorem vr {L j:Nat} {rest:List (Λ)} (e:rest.length=L):∀ {kn v:Nat},v<kn-> ∀ {x:Λ},rest[j]? =σ x->
  ((Z8 kn).flatMap λ(v:Nat)=>rest.map λt=>(v:Int)::t)[v*L+j]? =σ ((v:Int)::x)
 |0,v,h,_,_=>Ω
 |kn+1,v,h,x,I=>by
  have f:=(x4.1 I).1;have a:((Z8 kn).flatMap λ(v:Nat)=>rest.map λt=>(v:Int)::t).length=kn*L:=by
   simp only[List.length_flatMap,u7,e];rw[List.map_const',List.length_range,List.sum_replicate_nat]
  rw[List.range_succ,List.flatMap_append];by_cases ac:v<kn
  .have:(v+1)*L<=kn*L:=X4 _ ac;rw[V9] at this;rw[Y1 (by rw[a];omega)];exact vr e ac I
  .have ac:v=kn:=Ω
   subst ac;rw[Y4 (by rw[a];omega),a,show v*L+j-v*L=j by omega];simp[I]
theorem jA:∀ {s:Λ},dO s-> ∀ {i:Nat} {t:Λ},(bk s)[i]? =σ t->cJ s t 0=σ (i:Int)
 |[],_,i,t,h=>by
  cases i with
  |zero=>simp[bk] at h;subst h;rfl
  |succ i=>simp[bk] at h
 |k::s,J,i,t,h=>by
  have hk:=J k (.head _);have a:=i7 J.tail;have p:=lN J.tail;obtain⟨kn,rfl⟩:∃kn:Nat,k=kn:=⟨k.toNat,Ω⟩;have hi:=(x4.1 h).1;rw[i7 J,aK,Int.toNat_mul Ω Ω,<-a,u6] at hi;have f:0<(bk s).length:=Ω
  have ac:i / (bk s).length<kn:=Nat.div_lt_of_lt_mul (by rw[Nat.mul_comm];exact hi);have j:i % (bk s).length<(bk s).length:=Nat.mod_lt _ f;obtain⟨x,I⟩:∃x,(bk s)[i % (bk s).length]? =σ x:=⟨_,x6 j⟩;have e:=vr (kn:=kn) rfl ac I;rw[Nat.mul_comm,Nat.div_add_mod] at e;have h':((Z8 ((kn:Int).toNat)).flatMap λ(v:Nat)=>(bk s).map λt=>(v:Int)::t)[i]? =σ t:=h;rw[u6,e] at h';cases h';unfold cJ;rw[if_pos ⟨Int.natCast_nonneg _,Int.ofNat_lt.2 ac⟩,oN,jA J.tail I];simp only[Z3,Y8,Int.zero_mul,Int.zero_add];have m:aK s=((bk s).length:Int):=by rw[a];omega
  rw[m,<-Int.natCast_mul,<-Int.natCast_add];congr 1;rw[Nat.mul_comm,Nat.add_comm,Nat.div_add_mod]
theorem mp:∀ {s:Λ},dO s-> ∀ {t:Λ} {n:Int},cJ s t 0=σ n->(bk s)[n.toNat]? =σ t
 |[],_,[],n,h=>by simp[cJ] at h;subst h;rfl
 |k::s,J,v::t,n,h=>by
  have hk:=J k (.head _);have j:=i7 J.tail;have r:=lN J.tail;obtain⟨kn,rfl⟩:∃kn:Nat,k=kn:=⟨k.toNat,Ω⟩;unfold cJ at h;split at h
  .rename_i ac;rw[oN] at h;cases f:cJ s t 0 with
   |none=>rw[f] at h;cases h
   |some q=>
    rw[f] at h;simp only[Z3,Y8,Int.zero_mul,Int.zero_add] at h;have m:=nq J.tail f;simp only[Int.zero_mul,Int.zero_add,Int.one_mul] at m;obtain⟨a,rfl⟩:∃a:Nat,v=a:=⟨v.toNat,Ω⟩;have p:=vr (kn:=kn) (v:=a) rfl Ω (mp J.tail f);have e:n.toNat=a*(bk s).length+q.toNat:=by
     rw[<-h,j];have:((a*(aK s).toNat:Nat):Int)=(a:Int)*aK s:=by rw[Int.natCast_mul,Int.toNat_of_nonneg Ω]
     omega
    rw[e];show ((Z8 ((kn:Int).toNat)).flatMap λ(v:Nat)=>(bk s).map λt=>(v:Int)::t)[_]? =_;rw[u6];exact p
  .cases h
 |[],_,_::_,_,h=>by cases h
 |_::_,_,[],_,h=>by cases h
theorem AN:∀ (s:Λ),dO s-> ∀ (n c:Int),cR s (n+c*aK s)=cR s n
 |[],_,_,_=>rfl
 |k::s,J,n,c=>by
  have a:=lN J.tail;simp only[cR,aK];rw[<-Int.mul_assoc,AN s J.tail,Int.add_mul_ediv_right _ _ Ω,Int.add_mul_emod_self_right]
theorem sa:∀ {s:Λ},dO s-> ∀ {n:Int},0<=n->n<aK s->cJ s (cR s n) 0=σ n
 |[],_,n,a,h1=>by simp[aK] at h1;simp[cR,cJ];omega
 |k::s,J,n,a,h1=>by
  have hk:=J k (.head _);have j:=lN J.tail;simp only[cR,aK] at h1 ⊢;have f:n / aK s<k:=Int.ediv_lt_of_lt_mul Ω h1;have h:0<=n / aK s:=Int.ediv_nonneg a Ω;have hm:n / aK s % k=n / aK s:=Int.emod_eq_of_lt h f;rw[hm];unfold cJ;rw[if_pos ⟨h,f⟩,oN];have e:cR s n=cR s (n % aK s):=by
   have:=AN s J.tail (n % aK s) (n / aK s);rw[<-this];congr 1;have:=Int.emod_add_mul_ediv n (aK s);rw[Int.mul_comm (n / aK s)];omega
  rw[e,sa J.tail (Int.emod_nonneg _ Ω) (Int.emod_lt_of_pos _ Ω)];simp only[Z3,Y8,Int.zero_mul,Int.zero_add];have:=Int.emod_add_mul_ediv n (aK s);rw[Int.mul_comm (n / aK s)];omega
theorem qa {s:Λ} (J:dO s) {i:Nat} (h:(i:Int)<aK s):(bk s)[i]? =σ (cR s i):=by
 have:=mp J (sa J (n:=(i:Int)) Ω h);simpa using this
def bn (s cs t:Λ):Int:=match cJ s t 0 with
 |some n=>cs.getD n.toNat 0
 |none=>0
def upto {α:Type} (l:List α) (d:α) (i:Nat):List α:=l.take i++r9 (l.length-i) d
theorem nw {α:Type} (l:List α) (d:α) (i:Nat):(upto l d i).length=l.length:=by simp[upto];omega
theorem oO {α:Type} (l:List α) (d:α):upto l d 0=r9 l.length d:=by simp[upto]
theorem oP {α:Type} (l:List α) (d:α):upto l d l.length=l:=by simp[upto]
theorem oQ {α:Type} {l:List α} {d x:α} {i:Nat} (h:l[i]? =σ x):(upto l d i).set i x=upto l d (i+1):=by
 have hi:=(x4.1 h).1;unfold upto;rw[T3 _ _ Θ,u9,h];have e:i-(l.take i).length=0:=Θ
 obtain⟨m,hm⟩:∃m,l.length-i=m+1:=⟨l.length-i-1,Ω⟩;rw[e,hm,show l.length-(i+1)=m by omega];simp[List.replicate_succ]
theorem qb {α:Type} {l:List α} {i:Nat} {x:α} (h:l[i]? =σ x):l.set i x=l:=by
 apply Y6;intro j;rw[Y3];split
 .rename_i a;subst a;rw[if_pos (x4.1 h).1,h]
 .rfl
def vt:Λ->Int
 |[]=>0
 |x::l=>l.foldl min x
def AO (P:Int->Prop) (m:Int):Prop:=P m/\ ∀x,P x->m<=x
def di (s t:Λ):Prop:=∃n,cJ s t 0=σ n
theorem JQ (k v:Int) (s t:Λ):cJ (k::s) (v::t) 0=if 0<=v/\v<k then (cJ s t 0).map (λn=>n+(0*k+v)*aK s) else ν:=by
 conv=>lhs;unfold cJ
 rw[oN]
theorem AP {v:Int} {s t:Λ}:di (k::s) (v::t)↔(0<=v/\v<k)/\di s t:=by
 unfold di;rw[JQ];constructor
 .rintro⟨n,h⟩;split at h
  .rename_i ac;cases a:cJ s t 0 with
   |none=>rw[a] at h;cases h
   |some q=>exact⟨ac,q,rfl⟩
  .cases h
 .rintro⟨ac,q,a⟩;rw[if_pos ac,a];exact⟨_,rfl⟩
theorem AQ {t:Λ}:di [] t↔t=[]:=by
 cases t with
 |nil=>exact⟨λ_=>rfl,λ_=>⟨0,rfl⟩⟩
 |cons v t=>
  constructor
  .rintro⟨_,h⟩;cases h
  .intro h;cases h
theorem sb {s t:Λ} (h:di s t):s.length=t.length:=by
 obtain⟨n,h⟩:=h;rcases Nat.decEq s.length t.length with a|a
 .rw[u3 s t 0 a] at h;cases h
 .exact a
theorem AR {s t:Λ} (J:dO s) {n:Int} (h:cJ s t 0=σ n):cR s n=t:=by
 have f:=nq J h;have h1:=mp J h;simp only[Int.zero_mul,Int.zero_add,Int.one_mul] at f;have a:=qa J (i:=n.toNat) Ω;rw[h1] at a;have e:((n.toNat:Nat):Int)=n:=Ω
 rw[e] at a;exact (j6 a).symm
theorem sd {s cs:Λ} (J:dO s) (a:cs.length=(aK s).toNat):cs=(Z8 (aK s).toNat).map λ(q:Nat)=>bn s cs (cR s q):=by
 apply List.ext_getElem
 .simp[a]
 .intro i h1 e;rw[List.getElem_map,List.getElem_range];have f:=lN J;have hi:(i:Int)<aK s:=Ω
  unfold bn;rw[sa J Ω hi];simp only[u6];rw[v8,x6 h1];rfl
theorem vu {s:Λ} (J:dO s) {q:Nat} (a:q<(aK s).toNat):di s (cR s q):=⟨_,sa J Ω (by have:=lN J;omega)⟩
theorem JR {s cs a:Λ} (J:dO s) (e:cs.length=(aK s).toNat) (f:a.length=(aK s).toNat) (h:∀t,di s t->bn s cs t=bn s a t):cs=a:=by
 rw[sd J e,sd J f];apply List.map_congr_left;intro q j;exact h _ (vu J (by simpa using j))
theorem JS (h:l≠[]):AO (λc=>c∈l) (vt l):=by
 obtain⟨x,r,rfl⟩:∃v r,l=v::r:=by cases l with
  |nil=>exact absurd rfl h
  |cons v r=>exact⟨v,r,rfl⟩
 clear h;show AO (λc=>c∈x::r) (r.foldl min x);induction r generalizing x with
 |nil=>exact⟨.head _,λy f=>by simp at f;simp[f]⟩
 |cons y r j=>
  rw[U7];obtain⟨h1,e⟩:=j (min x y);refine⟨?_,λz a=>?_⟩
  .rcases W9.1 h1 with h1|h1
   .rw[h1];rcases Int.le_total x y with h|h
    .rw[Int.min_eq_left h];exact .head _
    .rw[Int.min_eq_right h];exact .tail _ (.head _)
   .exact .tail _ (.tail _ h1)
  .rcases W9.1 a with rfl|a
   .have:=e _ (.head _);omega
   .rcases W9.1 a with rfl|a
    .have:=e _ (.head _);omega
    .exact e _ (.tail _ a)
def oR (m:Λ) (i j:Nat):Prop:=∀ (p q:Nat) (x y:Int),p<q->q<=i->q≠j->m[p]? =σ x->m[q]? =σ y->x<=y
def qc (m:Λ) (i:Nat):Prop:=∀ (p q:Nat) (x y:Int),p<q->q<i->m[p]? =σ x->m[q]? =σ y->x<=y
theorem JT {m:Λ} {i:Nat} (h:qc m i):oR m i i:=λp q x y h1 f j a e=>h p q x y h1 Ω a e
theorem JU {m:Λ} {i:Nat} (h:oR m i 0):qc m (i+1):=λp q x y h1 f a e=>h p q x y h1 Ω Ω a e
theorem JV {m:Λ} {i:Nat} {a b:Int} (h:oR m i j) (B:0<j) (r:m[j-1]? =σ a) (w:m[j]? =σ b) (z:a<=b):qc m (i+1):=by
 intro p q x y h1 C e f;by_cases s:q=j
 .subst s;rw[w] at f;cases f;by_cases A:p=q-1
  .subst A;rw[r] at e;cases e;exact z
  .have:=h p (q-1) x a Ω Ω Ω e r;omega
 .exact h p q x y h1 Ω s e f
theorem JW {m:Λ} {i:Nat} {a b:Int} (h:oR m i j) (H:0<j) (hi:j<=i) (z:m[j-1]? =σ a) (A:m[j]? =σ b) (I:b<a):oR ((m.set j a).set (j-1) b) i (j-1):=by
 intro p q x y h1 w B e f;have C:=(x4.1 A).1;have E:∀ (r:Nat),((m.set j a).set (j-1) b)[r]? =if r=j-1 then σ b else if r=j then σ a else m[r]?:=λr=>by
  by_cases h:r=j-1
  .subst h;rw[c9 Θ,if_pos rfl]
  .rw[Y2 (Ne.symm h),if_neg h];by_cases h':r=j
   .subst h';rw[c9 C,if_pos rfl]
   .rw[Y2 (Ne.symm h'),if_neg h']
 rw[E] at e f;rw[if_neg B] at f;by_cases s:q=j
 .rw[if_pos s] at f;cases f;split at e
  .cases e;omega
  .split at e
   .omega
   .exact h p (j-1) x a Ω Ω Ω e z
 .rw[if_neg s] at f;split at e
  .cases e;have:=h j q b y;by_cases F:j<q
   .exact this F w s A f
   .omega
  .split at e
   .rename_i G;subst G;cases e;exact h (p-1) q a y Ω w s z f
   .exact h p q x y h1 w s e f
theorem swap_perm {m:Λ} {i:Nat} {a b:Int} (q:i<j) (h:m[i]? =σ a) (f:m[j]? =σ b):((m.set j a).set i b).Perm m:=by
 induction m generalizing i j with
 |nil=>simp at h
 |cons x m p=>
  cases j with
  |zero=>omega
  |succ j=>
   cases i with
   |zero=>
    simp at h f ⊢;subst h;obtain⟨r,f⟩:=x4.1 f;rw[show m=m.take j++m[j]::m.drop (j+1) by simp];rw[T3 _ _ Θ];have e:j-(m.take j).length=0:=Θ
    rw[e,f];simp only[List.set_cons_zero];refine (List.Perm.cons b (List.perm_middle)).trans ?_;refine (List.Perm.swap x b _).trans ?_;exact List.Perm.cons x List.perm_middle.symm
   |succ i=>
    simp at h f ⊢;exact p Ω h f
theorem JX {m:Λ} (h:qc m m.length):m.Pairwise (·<= ·):=by
 rw[V2];intro i j hi a e;exact h i j _ _ e a (x6 hi) (x6 a)
def Good (o:Λ) (n:Nat):Prop:=o.length=n/\ ∀ (i:Nat) (p:Int),o[i]? =σ p->(0<=p/\p<n)/\ ∀j,j<i->o[j]? ≠σ p
theorem Good.inj {o:Λ} {i:Nat} {p:Int} (h:Good o n) (hi:o[i]? =σ p) (a:o[j]? =σ p):i=j:=by
 rcases Nat.lt_trichotomy i j with h1|h1|h1
 .exact absurd hi ((h.2 j p a).2 i h1)
 .exact h1
 .exact absurd a ((h.2 i p hi).2 j h1)
def AS (m:Λ):Prop:=∀i:Nat,i<m.length->m[i]? =σ (i:Int)
theorem AT {o m:Λ} (h:Good o n) (a:m.Perm o) (J:m.Pairwise (·<= ·)):AS m:=by
 have s:o.Nodup:=V2.2 λi j hi w B he=>by
  have:=h.inj (i:=i) (j:=j) (p:=o[j]) (by rw[x6 hi,he]) (x6 w);omega
 have y:m.Nodup:=a.nodup_iff.2 s;have C:m.length=n:=by rw[a.length_eq,h.1]
 have q:∀x∈m,0<=x/\x<(n:Int):=λx I=>by
  obtain⟨i,hi,he⟩:=List.getElem_of_mem (a.mem_iff.1 I);exact (h.2 i x (by rw[x6 hi,he])).1
 have r:∀ (i:Nat) (hi:i+1<m.length),m[i]<m[i+1]:=λi hi=>by
  have h1:=V2.1 J i (i+1) Ω hi Ω;have e:=V2.1 y i (i+1) Ω hi Ω;omega
 have z:∀ (i:Nat) (hi:i<m.length),(i:Int)<=m[i]:=by
  intro i;induction i with
  |zero=>intro hi;exact (q _ (T9 hi)).1
  |succ i f=>
   intro hi;have h1:=f Ω;have e:=r i hi;omega
 have A:∀ (d i:Nat) (hi:i<m.length),i+d+1=m.length->m[i]<=(i:Int):=by
  intro d;induction d with
  |zero=>
   intro i hi he;have:=(q _ (T9 hi)).2;omega
  |succ d f=>
   intro i hi he;have h1:=f (i+1) Ω Ω;have e:=r i Ω;omega
 intro i hi;rw[x6 hi];have h1:=z i hi;have e:=A (m.length-i-1) i hi Ω;congr 1;omega
theorem JY {o m:Λ} (h:AS m) (e:m.Perm o):Good o m.length:=by
 have s:m.Nodup:=V2.2 λi j hi a x he=>by
  have h1:=h i hi;have f:=h j a;rw[x6 hi] at h1;rw[x6 a] at f;have h1:=j6 h1;have f:=j6 f;omega
 have w:o.Nodup:=e.nodup_iff.1 s;refine⟨e.length_eq.symm,λi p hi=>⟨?_,λj a q=>?_⟩⟩
 .obtain⟨k,hk,he⟩:=List.getElem_of_mem (e.mem_iff.2 (x5 hi));have h1:=h k hk;rw[x6 hk,he] at h1;cases h1;omega
 .have r:i<o.length:=(x4.1 hi).1;have:=V2.1 w j i Ω r a;rw[x6 r] at hi;rw[x6 (show j<o.length by omega)] at q;exact this ((j6 q).trans (j6 hi).symm)
theorem Good.AU {o:Λ} {p:Nat} (h:Good o n) (f:p<n):∃j:Nat,o[j]? =σ (p:Int):=by
 let le:Int->Int->Bool:=λa b=>decide (a<=b);have h1:(o.mergeSort le).Perm o:=List.mergeSort_perm o le;have e:(o.mergeSort le).Pairwise (·<= ·):=by
  refine (List.pairwise_mergeSort (le:=le) (λa b c h1 e=>?_) (λa b=>?_) o).imp λh=>by simpa[le] using h
  .simp[le] at*;omega
  .simp[le];omega
 have m:=AT h h1 e p (by rw[h1.length_eq,h.1];exact f);obtain⟨j,q,he⟩:=List.getElem_of_mem (h1.mem_iff.1 (x5 m));exact⟨j,by rw[x6 q,he]⟩
def lO (o x:Λ):Λ:=(Z8 o.length).map λ(p:Nat)=>x.getD (o.idxOf (p:Int)) 0
theorem AV (o x:Λ):(lO o x).length=o.length:=by simp[lO]
theorem AW {o x:Λ} {p:Int} (h:Good o n) (I:x.length=n) (a:o[j]? =σ p):(lO o x)[p.toNat]? =x[j]?:=by
 have h1:=(h.2 j p a).1;have q:j<o.length:=(x4.1 a).1;have hm:p∈o:=x5 a;have e:=List.idxOf_lt_length_of_mem hm;have f:o.idxOf p=j:=h.inj (by rw[x6 e,List.getElem_idxOf e]) a;have m:((p.toNat:Nat):Int)=p:=Ω
 have r:=h.1;unfold lO;rw[x8,List.getElem?_range Ω];simp only[Z3,m,f];rw[v8,x6 (show j<x.length by omega)];rfl
theorem AX {o x y:Λ} (h:Good o n) (I:x.length=n) (q:y.length=n) (f:∀ (j:Nat) (p:Int),o[j]? =σ p->y[p.toNat]? =x[j]?):y=lO o x:=by
 refine Y6 λp=>?_;have r:=h.1;by_cases m:p<n
 .obtain⟨j,a⟩:=h.AU m;have h1:=f j p a;have e:=AW h I a;rw[u6] at h1 e;rw[h1,e]
 .rw[Z6 Ω,Z6 (by rw[AV];omega)]
theorem nx:∀ {s t:Λ},di s t↔s.length=t.length/\ ∀ (i:Nat) (a v:Int),s[i]? =σ a->t[i]? =σ v->0<=v/\v<a
 |[],t=>by
  rw[AQ];exact⟨λh=>⟨by rw[h],λi a v h _=>by simp at h⟩,λh=>c8 h.1.symm⟩
 |k::s,[]=>⟨λh=>absurd (sb h) Ξ,λh=>absurd h.1 Ξ⟩
 |k::s,v::t=>by
  rw[AP,nx (s:=s) (t:=t)];refine⟨λ⟨h1,f,j⟩=>⟨by simp[f],λi a u e hu=>?_⟩,λ⟨h1,f⟩=>⟨f 0 k v rfl rfl,by simpa using h1,λi a u e hu=>f (i+1) a u (by simpa using e) (by simpa using hu)⟩⟩;cases i with
  |zero=>simp at e hu;subst e;subst hu;exact h1
  |succ i=>exact j i a u (by simpa using e) (by simpa using hu)
def ef (s o:Λ):Λ:=o.map λp=>s.getD p.toNat 0
theorem se (s o:Λ):(ef s o).length=o.length:=by simp[ef]
theorem AY {s o:Λ} {p:Int} (h:Good o n) (J:s.length=n) (a:o[j]? =σ p):(ef s o)[j]? =s[p.toNat]?:=by
 have h1:=(h.2 j p a).1;unfold ef;rw[x8,a,Z3,v8,x6 (show p.toNat<s.length by omega)];rfl
theorem JZ {s o:Λ} (h:Good o n) (J:s.length=n) {x:Int} (I:x∈ef s o):x∈s:=by
 obtain⟨p,a,rfl⟩:=n9.1 I;obtain⟨j,e,he⟩:=List.getElem_of_mem a;have h1:=(h.2 j p (by rw[x6 e,he])).1;rw[v8,x6 (show p.toNat<s.length by omega)];exact T9 _
theorem b1.J0 {s o:Λ} (a:b1 s) (h:Good o n) (J:s.length=n):b1 (ef s o):=
 ⟨by rw[se,h.1,<-J];exact a.1,λx I=>a.2 x (JZ h J I)⟩
theorem J1 {s o x:Λ} (h:Good o n) (J:s.length=n) (I:di (ef s o) x):di s (lO o x):=by
 obtain⟨h1,r⟩:=nx.1 I;rw[se,h.1] at h1;refine nx.2 ⟨by rw[AV,h.1,J],λp a v e ac=>?_⟩;have w:p<n:=by have:=(x4.1 e).1;omega
 obtain⟨j,f⟩:=h.AU w;have m:=AY h J f;have q:=AW h h1.symm f;rw[u6] at m q;exact r j a v (by rw[m,e]) (by rw[<-q,ac])
def ny (s cs o:Λ):Λ:=(Z8 (aK (ef s o)).toNat).map λ(q:Nat)=>bn s cs (lO o (cR (ef s o) q))
theorem AZ (s cs o:Λ):(ny s cs o).length=(aK (ef s o)).toNat:=by simp[ny]
theorem vv {f:Int->Bool} {x:Int}:runN f (x::l)=if f x=true then runN f l+1 else 0:=by
 unfold runN;rw[List.takeWhile_cons];by_cases h:f x=true
 .rw[if_pos h,if_pos h,c7]
 .rw[if_neg h,if_neg h];rfl
theorem vw (f:Int->Bool):∀l:Λ,l.dropWhile f=l.drop (runN f l)
 |[]=>rfl
 |x::l=>by
  rw[List.dropWhile_cons,vv];by_cases h:f x=true
  .rw[if_pos h,if_pos h,vw f l];rfl
  .rw[if_neg h,if_neg h];rfl
theorem A0 (f:Int->Bool):∀l:Λ,l.takeWhile f=l.take (runN f l)
 |[]=>rfl
 |x::l=>by
  rw[List.takeWhile_cons,vv];by_cases h:f x=true
  .rw[if_pos h,if_pos h,List.take_succ_cons,A0 f l]
  .rw[if_neg h,if_neg h];rfl
theorem A1 {f:Int->Bool}:∀ {l:Λ} {b:Int} {q:Λ},l.dropWhile f=b::q->f b=false
 |x::l,b,q,h=>by
  rw[List.dropWhile_cons] at h;by_cases I:f x=true
  .rw[if_pos I] at h;exact A1 h
  .rw[if_neg I] at h;have:=(List.cons.inj h).1;subst this;cases ae:f x
   .rfl
   .exact absurd ae I
theorem vx {p:Λ} {b:Int} {q:Λ} (h:p.drop a=b::q):p[a]? =σ b:=by
 have:=List.getElem?_drop (xs:=p) (i:=a) (j:=0);rw[h] at this;simpa using this.symm
theorem J2 (p:Λ) (at_:Nat):match oJ p at_ with
  | .word a b=>lex (p.drop at_)=(((p.take b).drop a)::(lex (p.drop b)).1,(lex (p.drop b)).2)
  | .none=>lex (p.drop at_)=([],true)
  | .text _=>lex (p.drop at_)=([],false):=by
 have h:(p.drop at_).dropWhile cw=p.drop (gn p at_):=by rw[vw,List.drop_drop];rfl
 have j:(p.drop (gn p at_)).dropWhile bJ=p.drop (ir p (gn p at_)):=by rw[vw,List.drop_drop];rfl
 have s:(p.drop (gn p at_)).takeWhile bJ=(p.take (ir p (gn p at_))).drop (gn p at_):=by
  rw[A0,List.drop_take];congr 1;unfold ir;omega
 have f:runN bJ (p.drop (gn p at_))=ir p (gn p at_)-gn p at_:=by unfold ir;omega
 have H:gn p at_<=ir p (gn p at_):=by unfold ir;omega
 unfold oJ;generalize gn p at_=a at*;generalize ir p a=b at*;by_cases h1:b<p.length/\(∀c,p[b]? =σ c->cw c=false)
 .rw[if_pos h1];simp only;rw[j3,h];cases e:p.drop a with
  |nil=>
   have:=List.drop_eq_nil_iff.1 e;omega
  |cons x q=>
   simp only;rw[e] at j s f;by_cases I:bJ x=true
   .rw[if_pos I,j];cases m:p.drop b with
    |nil=>have:=List.drop_eq_nil_iff.1 m;omega
    |cons c r=>
     simp only;rw[h1.2 c (vx m)];rfl
   .rw[if_neg I]
 .rw[if_neg h1];by_cases w:a=b
  .rw[if_pos w];simp only;subst w;rw[j3,h];cases e:p.drop a with
   |nil=>rfl
   |cons x q=>
    exfalso;have y:=vx e;have C:=(x4.1 y).1;rw[e] at f;rw[e] at h;have E:=A1 h;refine h1 ⟨C,λc z=>?_⟩;rw[y] at z;cases z;exact E
  .rw[if_neg w];simp only;rw[j3 (p.drop at_),h];cases e:p.drop a with
   |nil=>
    rw[e] at f;have:runN bJ []=0:=rfl;omega
   |cons x q=>
    simp only;rw[e] at j s f;have I:bJ x=true:=by
     rw[vv] at f;by_cases I:bJ x=true
     .exact I
     .rw[if_neg I] at f;omega
    rw[if_pos I,j,s];cases m:p.drop b with
    |nil=>simp only;rw[j3 []];rfl
    |cons c r=>
     simp only;have A:=vx m;have F:=(x4.1 A).1;have G:cw c=true:=by
      cases J:cw c with
      |true=>rfl
      |false=>exact absurd ⟨F,λd B=>by rw[A] at B;cases B;exact J⟩ h1
     rw[if_pos G]
def hq (w:x3) (g:Nat) (R:Nat->Prop) (toks:List (Λ)) (clean:Bool):Prop:=∃a p at_,lL w g a p at_ (-1)/\(∀r,leads a r->R r)/\lex (p.drop at_)=(toks,clean)
theorem hq.ab {g:Nat} {R:Nat->Prop} {toks:List (Λ)} (h:hq w g R toks clean) (I:ah S w w') (f:¬S g) (j:∀r,R r->¬S r):hq w' g R toks clean:=by
 obtain⟨m,p,a,⟨h1,q,s,x,bm,y⟩,e,z⟩:=h;exact⟨m,p,a,⟨h1,q,s,x.ab I f,bm,bp y I λr A=>j r (e r A)⟩,e,z⟩
theorem hq.words {g:Nat} {R:Nat->Prop} {toks:List (Λ)} (h:hq w g R toks clean):toks.length<=100000/\ ∀t∈toks,Bytes t/\t≠[]/\t.length<=100000:=by
 obtain⟨r,p,a,⟨s,x,y,_⟩,_,f⟩:=h;have z:(p.drop a).length<=100000:=by rw[List.length_drop];omega
 have e:=pY _ (p.drop a) (p8 _);rw[f] at e;refine⟨by show toks.length<=_;have e:toks.length<=_:=e;omega,λt m=>?_⟩;have j:=r1 _ (p.drop a) (p8 _) t (by rw[f];exact m);refine⟨λb q=>?_,j.1,Ω⟩;have:=of_decide_eq_true (j.2.1 b q);omega
def J3 (w:x3) (g:Nat) (R:Nat->Prop) (toks:List (Λ)) (clean:Bool) (v:x1) (w':x3):Prop:=ah (λr=>r=g) w w'/\match toks with
 |t::l=>hq w' g R l clean/\ ∃n:Int,v= .tuple #[bN t,Δ n,Δ 0]
 |[]=>∃n:Int,v= .tuple #[bN [],Δ n,Δ (if clean then 2 else 11)]
theorem qd {g:Nat} {R:Nat->Prop} {toks:List (Λ)} (h:hq w g R toks clean):am x7 uM [Γ g] w (J3 w g R toks clean):=by
 obtain⟨s,p,a,h1,z,m⟩:=h;refine (JA h1).mono ?_;intro v w' _ hw;have e:=J2 p a;unfold p5 at hw;cases q:oJ p a with
 |word x y=>
  rw[q] at hw e;simp only at hw e;rw[m] at e;obtain⟨rfl,r,J⟩:=hw;obtain⟨f,j⟩:=Prod.mk.inj e;subst f j;exact⟨r,⟨s,p,y,J,z,rfl⟩,_,rfl⟩
 |none=>
  rw[q] at hw e;simp only at hw e;rw[m] at e;obtain⟨f,j⟩:=Prod.mk.inj e;subst f j;obtain⟨n,rfl,I⟩:=hw;exact⟨I.ab _,_,rfl⟩
 |text b=>
  rw[q] at hw e;simp only at hw e;rw[m] at e;obtain⟨f,j⟩:=Prod.mk.inj e;subst f j;obtain⟨rfl,r,_⟩:=hw;exact⟨r,_,rfl⟩
def j8 (w:Λ):x1:=match gl w with
 |some n=>.tuple #[Δ n,Δ 0]
 |none=>.tuple #[Δ 0,Δ 4]
theorem A2 {i:Nat} {b:Int} (hi:l[i]? =σ b):(l.take (i+1)).all gk=((l.take i).all gk&&gk b):=by
 rw[u9,hi,List.all_append];simp
theorem A3 {i:Nat} {b:Int} (hi:l[i]? =σ b):(l.take (i+1)).foldl eY 0=eY ((l.take i).foldl eY 0) b:=by
 rw[u9,hi,U9];rfl
theorem A4 (a:l≠[]) (h:l.all gk=true):j7 l=σ (l.foldl eY 0):=by
 unfold j7;cases l with
 |nil=>exact absurd rfl a
 |cons x l=>simp only[h,if_true]
theorem A5 {i:Nat} {b:Int} (hi:l[i]? =σ b) (a:gk b=false):j7 l=ν:=by
 unfold j7;cases l with
 |nil=>simp at hi
 |cons x l=>
  simp only;rw[if_neg];intro h;have:=List.all_eq_true.1 h b (x5 hi);rw[a] at this;cases this
def oS (w l:Λ) (s:Int):Prop:=(s=1\/s= -1)/\gl w=(j7 l).map λn=>s*n
theorem A6:oS (45::l) l (-1):=⟨.inr rfl,by simp only[gl];congr 1;funext n;omega⟩
theorem A7 {w:Λ} (h:∀b,w[0]? =σ b->b≠45):oS w w 1:=⟨.inl rfl,by
 have e:gl w=j7 w:=by
  unfold gl;cases w with
  |nil=>rfl
  |cons x l=>
   have:=h x rfl;split
   .rename_i l' he;exact absurd (List.cons.inj he).1 this
   .rfl
 rw[e];cases j7 w with
 |none=>rfl
 |some n=>simp⟩
theorem sf {w:Λ} {s:Int} (h:oS w l s) (a:j7 l=ν):j8 w= .tuple #[Δ 0,Δ 4]:=by
 unfold j8;rw[h.2,a];rfl
theorem A8 {w:Λ} {s n:Int} (h:oS w l s) (a:j7 l=σ n):j8 w= .tuple #[Δ (s*n),Δ 0]:=by
 unfold j8;rw[h.2,a];rfl
theorem J4 (B:Bytes l) (K:l.length<=100000):am x7 Hd [bN l] w λv w'=>v=j8 l/\Ext w w':=by
 refine az func137 ?_;rw[Jj];refine ii (λQ R U=>Ext w U/\ ∃ (m:Λ) (s:Int),Q=bN m/\R=Δ s/\Bytes m/\m.length<=100000/\oS l m s) ?_ ?_
 .rintro _ _ U ⟨H,m,s,rfl,rfl,I,af,C⟩;rw[Ak I (λb a=>by cases a),al];refine⟨λe=>⟨by rw[sf C (by rw[e];rfl)],H⟩,λe=>?_⟩;refine vi c0.u cM.u cD.u I Ω λbv V L M _=>?_;rw[aU cM.u M];refine rq.range m.length (λi _ _ c E=>Ext V E/\c=Δ ((m.take i).foldl eY 0)/\(m.take i).all gk=true) Ω ⟨Ext.refl _,rfl,rfl⟩ ?_ ?_
  .rintro i S t3 _ E W hi ⟨f,rfl,j⟩ X;obtain⟨b,q⟩:=aH (l:=m) hi;have ag:=I b (x5 q);refine bE Ω ?_;refine Jk (λ_ _ c G=>Ext V G/\c=Δ ((m.take (i+1)).foldl eY 0)/\(m.take (i+1)).all gk=true) ?_ ?_
   .rintro ah ai c G Y;rw[aM];exact X _ _ _ _ Y
   intro ay p;rw[be cM.u cD.i Ψ (M.ext f) q];refine aV (λv G=>E=G/\v= .bool (!gk b)) ?_ ?_
   rotate_left
   .intro Z z;rw[aN,al];refine⟨λh=>z _ _ ⟨rfl,by unfold gk;rw[decide_eq_false Ω];rfl⟩,λh=>?_⟩;rw[bR];refine z _ _ ⟨rfl,?_⟩;unfold gk;congr 1;by_cases N:57<b
    .rw[decide_eq_true N,decide_eq_false Ω];rfl
    .rw[decide_eq_false N,decide_eq_true Ω];rfl
   rintro _ _ ⟨rfl,rfl⟩;cases J:gk b with
   |false=>
    rw[W5,bQ];exact⟨by rw[sf C (A5 q J)],(H.trans L).trans f⟩
   |true=>
    rw[Y7,aY];have aj:=of_decide_eq_true J;have A:=r2 (l:=m.take i) (n:=0) j ⟨T2 _,Φ⟩;rw[A3 q,A2 q,j,J] at p;generalize (m.take i).foldl eY 0=n at*;have A:0<=n/\n<=4611686018427387904:=A;rw[dJ,wrap_u8 Ω Ω,eW cD.u ap.u,wrap_i64 (x:=b-48) Ω Ω,dJ,wrap_i64 Ω Ω,pR Φ,Int.tdiv_eq_ediv_of_nonneg Ω];rw[wrap_i64 Ω Ω,bR,al];refine⟨λaa=>p _ _ _ _ ⟨f,?_,rfl⟩,λaa=>?_⟩
    .congr 1;unfold eY aw;omega
    .rw[gE,wrap_i64 Ω Ω,aM,wrap_i64 Ω Ω];refine p _ _ _ _ ⟨f,?_,rfl⟩;congr 1;unfold eY aw;omega
  .rintro S t3 _ E W ⟨f,rfl,j⟩;rw[o5] at j ⊢;refine cm Ω ?_;have A:=r2 (l:=m) (n:=0) j ⟨T2 _,Φ⟩;have A:0<=m.foldl eY 0/\m.foldl eY 0<=4611686018427387904:=A;rw[gE];have hw:X2.wrap (s*m.foldl eY 0)=s*m.foldl eY 0:=by
    rcases C.1 with rfl|rfl<;>exact wrap_i64 Ω Ω
   rw[hw];exact⟨by rw[A8 C (A4 e j)],(H.trans L).trans f⟩
 .intro ay p;refine aV (λv V=>w=V/\ ∃c:Bool,v= .bool c/\(c=true↔l[0]? =σ 45)) ?_ ?_
  .rintro _ _ ⟨rfl,c,rfl,O⟩;rw[cb];refine⟨λab=>?_,λae=>?_⟩
   .intro ak ac _ _;have P:=O.1 ab;cases l with
    |nil=>simp at P
    |cons x r=>
     have ad:x=45:=by simpa using P
     subst ad;rw[Al (y:=1) (i:=1) rfl c0.u Ξ];exact p _ _ _ ⟨ac,r,-1,rfl,rfl,λb a=>B b (.tail _ a),by simp at K;omega,A6⟩
   .refine p _ _ _ ⟨Ext.refl _,l,1,rfl,rfl,B,K,A7 λb a he=>?_⟩;subst he;rw[O.2 a] at ae;cases ae
  .intro Z z;rw[Jo B (λb a=>by cases a),al];refine⟨λe=>?_,λe=>z _ _ ⟨rfl,false,rfl,⟨λh=>(by cases h),λh=>by rw[Z9.1 e] at h;simp at h⟩⟩⟩;cases l with
   |nil=>exact absurd rfl e
   |cons x r=>
    rw[p2 (y:=0) (i:=0) (b:=x) rfl c0.u B rfl,bh];exact z _ _ ⟨rfl,_,rfl,Ξ⟩
theorem sg {s s':aD} {w:Λ} (h:dL s=σ (w,s')):s.toks=w::s'.toks/\s'={s with toks:=s'.toks}:=by
 unfold dL at h;cases a:s.toks with
 |nil=>rw[a] at h;cases h
 |cons x l=>
  rw[a] at h;simp only[Y8,S0] at h;obtain⟨rfl,rfl⟩:=h;exact⟨rfl,rfl⟩
theorem hJ {n:Int} {s s':aD} (h:bf lo hi s=σ (n,s')):(lo<=n/\n<=hi)/\(∃w,s.toks=w::s'.toks/\gl w=σ n)/\s'={s with toks:=s'.toks}:=by
 unfold bf at h;cases hw:dL s with
 |none=>rw[hw] at h;cases h
 |some q=>
  obtain⟨w,j⟩:=q;rw[hw] at h;simp only at h;obtain⟨h1,e⟩:=sg hw;cases a:gl w with
  |none=>rw[a] at h;cases h
  |some m=>
   rw[a] at h;simp only at h;split at h
   .rename_i f;simp only[Y8,S0] at h;obtain⟨rfl,rfl⟩:=h;exact⟨f,⟨w,h1,a⟩,e⟩
   .cases h
def hX (k:Nat) (s s':aD):Prop:=s.toks.length=s'.toks.length+k/\s'={s with toks:=s'.toks}
theorem hX.refl (s:aD):hX 0 s s:=⟨rfl,rfl⟩
theorem hX.trans {b:Nat} {r s t:aD} (h:hX a r s) (k:hX b s t):hX (a+b) r t:=⟨by have:=h.1;have:=k.1;omega,by rw[k.2,h.2]⟩
theorem dB {n:Int} {s s':aD} (h:bf lo hi s=σ (n,s')):hX 1 s s':=by
 obtain⟨_,⟨w,h1,_⟩,a⟩:=hJ h;exact⟨by rw[h1];simp,a⟩
theorem hX.eqs {k:Nat} {s s':aD} (h:hX k s s'):s'.told=s.told/\s'.big=s.big/\s'.shared=s.shared:=by rw[h.2];exact⟨rfl,rfl,rfl⟩
theorem ka {α:Type} {f:List α->aD->Option (α×aD)} (e:List α->aD->Prop) (ae:∀acc s a s',e acc s->f acc s=σ (a,s')->e (acc++[a]) s'):
  ∀ (n:Nat) (acc:List α) (s:aD) (l:List α) (s':aD),e acc s->cN f n acc s=σ (l,s')->e l s'/\l.length=acc.length+n
 |0,acc,s,l,s',j,h=>by
  simp only[cN,Y8,S0] at h;obtain⟨rfl,rfl⟩:=h;exact⟨j,Ω⟩
 |n+1,acc,s,l,s',j,h=>by
  simp only[cN] at h;cases m:f acc s with
  |none=>rw[m] at h;cases h
  |some q=>
   obtain⟨a,p⟩:=q;rw[m] at h;have:=ka e ae n _ _ _ _ (ae _ _ _ _ j m) h;exact⟨this.1,by rw[this.2];simp;omega⟩
theorem vy {n:Int} {k:Nat} {s s':aD} (h:eZ n k s=σ (l,s')):hX l.length s s'/\l.length=k/\l.Nodup/\ ∀v∈l,0<=v/\v<n:=by
 have:=ka (λacc t=>hX acc.length s t/\acc.Nodup/\ ∀v∈acc,0<=v/\v<n) (λacc t a bw ⟨h1,j,m⟩ h=>by
  cases e:bf 0 (n-1) t with
  |none=>rw[e] at h;cases h
  |some q=>
   obtain⟨v,r⟩:=q;rw[e] at h;simp only at h;split at h
   .cases h
   .rename_i p;simp only[Y8,S0] at h;obtain⟨rfl,rfl⟩:=h;have w:=(hJ e).1;refine⟨by rw[p9];exact h1.trans (dB e),List.nodup_append.2 ⟨j,Ξ,λx I y f he=>?_⟩,λx I=>?_⟩
    .rw[o9] at f;subst f;subst he;exact p I
    .rcases o7.1 I with I|I
     .exact m x I
     .rw[o9.1 I];omega) k [] s l s' ⟨hX.refl s,List.nodup_nil,λv ac=>by cases ac⟩ h
 exact⟨this.1.1,by simpa using this.2,this.1.2.1,this.1.2.2⟩
theorem vz:∀ {ks acc:Λ} {s s':aD} {t:Λ},ip ks acc s=σ (t,s')-> ∃u,t=acc++u/\di ks u/\hX u.length s s'
 |[],acc,s,s',t,h=>by
  simp only[ip,Y8,S0] at h;obtain⟨rfl,rfl⟩:=h;exact⟨[],Ξ,AQ.2 rfl,hX.refl s⟩
 |k::ks,acc,s,s',t,h=>by
  simp only[ip] at h;cases a:bf 0 (k-1) s with
  |none=>rw[a] at h;cases h
  |some q=>
   obtain⟨v,f⟩:=q;rw[a] at h;obtain⟨u,rfl,hu,e⟩:=vz h;have j:=(hJ a).1;exact⟨v::u,Ξ,AP.2 ⟨Ω,hu⟩,by rw[c7,Nat.add_comm];exact (dB a).trans e⟩
def mq (sizes:Λ) (l:List (Λ×Int)):Prop:=(l.map (·.1)).Nodup/\ ∀p∈l,di sizes p.1/\0<=p.2
theorem oT {acc:List (Λ×Int)} {s s':aD} {a:Λ×Int} (h:dM sizes acc s=σ (a,s')):a.1∉acc.map (·.1)/\di sizes a.1/\0<=a.2/\hX (a.1.length+1) s s':=by
 unfold dM at h;cases f:ip sizes [] s with
 |none=>rw[f] at h;cases h
 |some q=>
  obtain⟨t,j⟩:=q;rw[f] at h;simp only at h;obtain⟨u,hu,ac,m⟩:=vz f;rw[List.nil_append] at hu;subst hu;cases e:bf 0 aw j with
  |none=>rw[e] at h;cases h
  |some q=>
   obtain⟨c,r⟩:=q;rw[e] at h;simp only at h;split at h
   .cases h
   .rename_i p;simp only[Y8,S0] at h;obtain⟨rfl,rfl⟩:=h;exact⟨p,ac,(hJ e).1.1,m.trans (dB e)⟩
structure Ba (s s':aD):Prop where
 toks:s'.toks.length<s.toks.length
 big:s.big=true->s'.big=true
theorem J5 {s s':aD} {l:List (Λ×Int)} (B:∀q∈s.shared,mq q.1 q.2/\q.2.length<=N) (O:s.toks.length<=N) (h:dN sizes s=σ (l,s')):
  mq sizes l/\l.length<=N/\s'.shared=s.shared/\Ba s s':=by
 unfold dN at h;cases m:bf (-aw) aw s with
 |none=>rw[m] at h;cases h
 |some q=>
  obtain⟨n,f⟩:=q;rw[m] at h;simp only at h;have h1:=dB m;obtain⟨P,C,r⟩:=h1.eqs;split at h
  .cases J:f.shared[(-n-1).toNat]? with
   |none=>rw[J] at h;cases h
   |some q=>
    obtain⟨z,l'⟩:=q;rw[J] at h;simp only at h;split at h
    .rename_i G;simp only[Y8,S0] at h;obtain⟨rfl,rfl⟩:=h;subst G;have hm:=x5 J;rw[r] at hm;exact⟨(B _ hm).1,(B _ hm).2,r,by have:=h1.1;omega,λj=>by rw[C];exact j⟩
    .cases h
  .have:=ka (λacc t=>mq sizes acc/\t.shared=s.shared/\t.toks.length+acc.length<=f.toks.length/\(s.big=true->t.big=true)) (λacc t a bw ⟨g1,w,H,A⟩ g=>by
    obtain⟨K,L,M,E⟩:=oT g;obtain⟨f1,f2,f3⟩:=E.eqs;refine⟨⟨?_,λp e=>?_⟩,by rw[f3,w],by have:=E.1;simp only[p9,R2];omega,λj=>by rw[f2];exact A j⟩
    .rw[b6];exact List.nodup_append.2 ⟨g1.1,Ξ,λx I y F he=>by
      simp only[U6,List.map_nil,o9] at F;subst F;subst he;exact K I⟩
    .rcases o7.1 e with e|e
     .exact g1.2 p e
     .rw[o9.1 e];exact⟨L,M⟩) n.toNat [] (bd (decide (16384<min (f.told+n) aw)) {f with told:=min (f.told+n) aw}) l s' ⟨⟨Ξ,λp e=>by cases e⟩,r,by simp[bd],λj=>by simp[bd,C,j]⟩ h
   obtain⟨⟨g1,w,H,A⟩,_⟩:=this;have:=h1.1;exact⟨g1,Ω,w,⟨Ω,A⟩⟩
structure sh (all:Λ) (N:Nat) (f:cv):Prop where
 scope:f.scope.Nodup/\ ∀v∈f.scope,0<=v/\v<all.length
 sizes:f.sizes=f.scope.map λv=>all.getD v.toNat 0
 other:0<=f.other
 lines:mq f.sizes f.lines
 len:f.lines.length<=N
theorem J6 {all:Λ} {s s':aD} {f:cv} (A:∀q∈s.shared,mq q.1 q.2/\q.2.length<=N) (V:s.toks.length<=N) (h:c6 all s=σ (f,s')):
  sh all N f/\(∀q∈s'.shared,mq q.1 q.2/\q.2.length<=N)/\Ba s s'/\(s'.big=false->f.scope.length<=6/\dq f.sizes=false):=by
 unfold c6 at h;cases B:bf (-aw) aw s with
 |none=>rw[B] at h;cases h
 |some q=>
 obtain⟨a,L⟩:=q;rw[B] at h;simp only at h;have t0:=dB B;obtain⟨W,M,O⟩:=t0.eqs;cases h1:eZ all.length a.natAbs L with
 |none=>rw[h1] at h;cases h
 |some q=>
 obtain⟨sc,r⟩:=q;rw[h1] at h;simp only at h;obtain⟨E,X,P,Q⟩:=vy h1;obtain⟨Y,R,S⟩:=E.eqs;generalize T:sc.map (λv=>all.getD v.toNat 0)=sizes at h;cases x:bf 0 aw (bd (decide (6<a.natAbs)||dq sizes) r) with
 |none=>rw[x] at h;cases h
 |some q=>
 obtain⟨other,m⟩:=q;rw[x] at h;simp only at h;have F:=dB x;obtain⟨Z,y,w⟩:=F.eqs;have w:m.shared=s.shared:=by rw[w];show r.shared=_;rw[S,O]
 have aa:m.toks.length<s.toks.length:=by
  have:=t0.1;have:=E.1;have z:=F.1;have:(bd (decide (6<a.natAbs)||dq sizes) r).toks.length=r.toks.length:=rfl;omega
 cases z:dN sizes m with
 |none=>rw[z] at h;cases h
 |some q=>
 obtain⟨lines,j⟩:=q;rw[z] at h;simp only[Y8,S0] at h;obtain⟨rfl,rfl⟩:=h;obtain⟨g1,G,H,I⟩:=J5 (N:=N) (by rw[w];exact A) Ω z;have U:=I.big;have gt:=I.toks;have J:m.big=true-> ∀C:aD,C=(if a<0 then {j with shared:=j.shared++[(sizes,lines)]} else j)->C.big=true:=λp C he=>by
  rw[he];split<;>exact U p
 have y:m.big=(s.big||(decide (6<a.natAbs)||dq sizes)):=by
  rw[y];show (r.big||_)=_;rw[R,M]
 refine⟨⟨⟨P,Q⟩,T.symm,(hJ x).1.1,g1,G⟩,λq e=>?_,⟨?_,λp=>J (by rw[y,p];rfl) _ rfl⟩,λp=>?_⟩
 .split at e
  .rcases o7.1 e with e|e
   .rw[show j.shared=s.shared by rw[H,w]] at e;exact A q e
   .rw[o9.1 e];exact⟨g1,G⟩
  .rw[show j.shared=s.shared by rw[H,w]] at e;exact A q e
 .have:(if a<0 then {j with shared:=j.shared++[(sizes,lines)]} else j).toks=j.toks:=by split<;>rfl
  rw[this];omega
 .have K:m.big=false:=by
   cases e:m.big with
   |false=>rfl
   |true=>rw[J e _ rfl] at p;cases p
  rw[y,T4,T4,decide_eq_false_iff_not] at K;show sc.length<=6/\_;exact⟨Ω,K.2.2⟩
structure e8 (N:Nat) (f:bZ):Prop where
 name:f.name.length<=64
 k:1<=f.k/\f.k<=2147483648
 sizes:1<=f.sizes.length/\f.sizes.length<=64/\ ∀z∈f.sizes,1<=z/\z<=32
 kS:f.funs.length<=256
 funs:∀x∈f.funs,sh f.sizes N x/\x.scope.length<=6/\dq x.sizes=false
theorem qe {b:Bool} {s:aD} (h:(bd b s).big=false):s.big=false/\b=false:=by
 have h:(s.big||b)=false:=h;exact T4.1 h
theorem J7 {a b:aD} (h:a.big=true->b.big=true) (e:b.big=false):a.big=false:=by
 cases f:a.big with
 |false=>rfl
 |true=>rw[h f] at e;cases e
theorem Bb {s s':aD} {f:bZ} (J:s.shared=[]) (h:hG s=σ (f,s')) (e:s'.big=false):e8 s.toks.length f/\f.name∈s.toks:=by
 unfold hG at h;cases K:dL s with
 |none=>rw[K] at h;cases h
 |some q=>
 obtain⟨name,s0⟩:=q;rw[K] at h;simp only at h;obtain⟨U,V⟩:=sg K;cases h1:bf 1 aw (bd (decide (64<name.length)) s0) with
 |none=>rw[h1] at h;cases h
 |some q=>
 obtain⟨n,B⟩:=q;rw[h1] at h;simp only at h;have m:=dB h1;cases L:bf 1 aw (bd (decide (64<n)) B) with
 |none=>rw[L] at h;cases h
 |some q=>
 obtain⟨most,Z⟩:=q;rw[L] at h;simp only at h;have M:=dB L;cases N:bf 0 aw Z with
 |none=>rw[N] at h;cases h
 |some q=>
 obtain⟨C,E⟩:=q;rw[N] at h;simp only at h;have t3:=dB N;cases F:bf 1 aw (bd (decide (256<C)) E) with
 |none=>rw[F] at h;cases h
 |some q=>
 obtain⟨k,r⟩:=q;rw[F] at h;simp only at h;have t4:=dB F;cases O:cN (fP most) n.toNat [] (bd (decide (2147483648<k)) r) with
 |none=>rw[O] at h;cases h
 |some q=>
 obtain⟨sizes,G⟩:=q;rw[O] at h;simp only at h;cases P:cN (λ_ s=>c6 sizes s) C.toNat [] G with
 |none=>rw[P] at h;cases h
 |some q=>
 obtain⟨funs,aa⟩:=q;rw[P] at h;simp only[Y8,S0] at h;obtain⟨rfl,rfl⟩:=h;have ab:=ka (λ(acc:Λ) t=>t.shared=[]/\t.toks.length<=s.toks.length/\(t.big=false->r.big=false/\k<=2147483648/\ ∀z∈acc,1<=z/\z<=32)) (λacc t a bw ⟨g1,T,Q⟩ g=>by
  unfold fP at g;cases p:bf 1 most t with
  |none=>rw[p] at g;cases g
  |some q=>
   obtain⟨z,m⟩:=q;rw[p] at g;simp only[Y8,S0] at g;obtain⟨rfl,rfl⟩:=g;have W:=dB p;obtain⟨aA,ac,ad⟩:=W.eqs;have aB:=(hJ p).1;refine⟨by show m.shared=[];rw[ad,g1],by show m.toks.length<=_;have:=W.1;omega,λe=>?_⟩;obtain⟨j,w⟩:=qe e;rw[ac] at j;obtain⟨R,S,ae⟩:=Q j;refine⟨R,S,λy A=>?_⟩;rcases o7.1 A with A|A
   .exact ae y A
   .rw[o9.1 A];have:=of_decide_eq_false w;omega) n.toNat [] (bd (decide (2147483648<k)) r) sizes G ⟨by
     show r.shared=[];rw[t4.eqs.2.2];show E.shared=[];rw[t3.eqs.2.2,M.eqs.2.2];show B.shared=[];rw[m.eqs.2.2];show s0.shared=[];rw[V];exact J,by
     show r.toks.length<=_;have af:=m.1;have ag:=M.1;have a3:=t3.1;have a4:=t4.1;have j:(bd (decide (64<name.length)) s0).toks=s0.toks:=rfl;have w:(bd (decide (64<n)) B).toks=B.toks:=rfl;have H:(bd (decide (256<C)) E).toks=E.toks:=rfl;rw[j] at af;rw[w] at ag;rw[H] at a4;rw[U,c7];omega,λe=>by
     obtain⟨j,w⟩:=qe e;have:=of_decide_eq_false w;exact⟨j,Ω,λz ah=>by cases ah⟩⟩ O
 obtain⟨⟨ai,aj,ak⟩,al⟩:=ab;have am:=ka (λ(acc:List cv) t=>(∀q∈t.shared,mq q.1 q.2/\q.2.length<=s.toks.length)/\t.toks.length<=s.toks.length/\(t.big=false->G.big=false/\ ∀x∈acc,sh sizes s.toks.length x/\x.scope.length<=6/\dq x.sizes=false)) (λacc t a bw ⟨g1,T,Q⟩ g=>by
  obtain⟨an,ao,X,ap⟩:=J6 g1 T g;refine⟨ao,by have:=X.toks;omega,λe=>?_⟩;obtain⟨R,S⟩:=Q (J7 X.big e);refine⟨R,λx I=>?_⟩;rcases o7.1 I with I|I
  .exact S x I
  .rw[o9.1 I];exact⟨an,ap e⟩) C.toNat [] G funs aa ⟨(by rw[ai];intro q p;cases p),aj,λe=>⟨e,λx I=>by cases I⟩⟩ P
 obtain⟨⟨_,_,d3⟩,d4⟩:=am;obtain⟨aq,d5⟩:=d3 e;obtain⟨H,au,av⟩:=ak aq;rw[t4.eqs.2.1] at H;obtain⟨Y,ax⟩:=qe H;rw[t3.eqs.2.1,M.eqs.2.1] at Y;obtain⟨j,ay⟩:=qe Y;rw[m.eqs.2.1] at j;obtain⟨_,az⟩:=qe j;have:=of_decide_eq_false ax;have:=of_decide_eq_false ay;have:=of_decide_eq_false az;have aC:=(hJ h1).1;have hk:=(hJ F).1;simp only[List.length_nil,X0] at al d4;exact⟨⟨by show name.length<=64;omega,⟨hk.1,au⟩,⟨by show 1<=sizes.length;omega,by show sizes.length<=64;omega,av⟩,by show funs.length<=256;omega,d5⟩,by rw[U];exact .head _⟩
def jB (x:cv) (k:Int) (t:Λ):Int:=min (match x.lines.find? (λp=>decide (p.1=t)) with
 |some p=>p.2
 |none=>x.other) k
def bl (l:Λ):Λ:=((Z8 64).map λ(v:Nat)=>(v:Int)).filter λv=>decide (v∈l)
def bV (sizes scope:Λ):Λ:=scope.map λv=>sizes.getD v.toNat 0
def oU (scope a t:Λ):Λ:=scope.map λv=>t.getD (a.idxOf v) 0
abbrev cK:Type:=Λ×Λ
def hK (sizes:Λ) (k:Int) (x:cv):cK:=(bl x.scope,(bk (bV sizes (bl x.scope))).map λt=>jB x k (oU x.scope (bl x.scope) t))
def dS (k:Int) (a b:Λ):Λ:=List.zipWith (λx y=>min (x+y) k) a b
def hY (k:Int) (acc:List cK) (g:cK):List cK:=if g.1∈acc.map (·.1) then acc.map λh=>if h.1=g.1 then (h.1,dS k h.2 g.2) else h else acc++[g]
def jb:Λ->Int
 |[]=>0
 |x::l=>x*64 ^ l.length+jb l
def da (l:Λ):Int:=l.length*64 ^ 6+jb l
def hr (g:cK):List cK->List cK
 |[]=>[g]
 |h::l=>if da h.1<da g.1 then h::hr g l else g::h::l
def fB (g:cK):Bool:=g.2.any λc=>decide (0<c)
def ff (f:bZ):List cK:=(f.funs.map (hK f.sizes f.k)).foldl (hY f.k) []
def fC (f:bZ):List cK:=((ff f).filter fB).foldl (λl g=>hr g l) []
structure aR where
 k:Int
 sizes:Λ
 zero:Int
 unary:List (Λ)
 funs:List cK
deriving DecidableEq
def cP (f:bZ):aR:=(fC f).foldl (λn g=>match g.1 with
 |[]=>{n with zero:=g.2.getD 0 0}
 |[v]=>{n with unary:=n.unary.set v.toNat g.2}
 |_=>{n with funs:=n.funs++[g]}) ⟨f.k,f.sizes,0,f.sizes.map λz=>r9 z.toNat 0,[]⟩
abbrev iu:Type:=Rd (Λ)×Rd (List (Λ×Int))
def bD (g gs:Nat) (A:ak):ak:=λr=>r=g\/r=gs\/A r
def fD (gs:Nat) (e big a f told:Int) (sv:x1):List x1:=[Γ gs,Δ e,Δ big,Δ a,Δ f,Δ told,sv]
def cI (g gs:Nat) (A:ak) (B:ak):ak:=λr=>¬bD g gs A r/\B r
def kT (w:x3) (g gs:Nat) (A:ak) (B:ak):Prop:=g≠gs/\¬A g/\¬A gs/\(∀r,bD g gs A r->r<w.heap.size)/\ ∀r,B r->r<w.heap.size
def df (w:x3) (g gs:Nat) (A:ak) (B:ak) (s:aD) (clean:Bool):Prop:=kT w g gs A B/\hq w gs (cI g gs A B) s.toks clean/\(0<=s.told/\s.told<=aw/\s.shared.length+s.toks.length<=100000)/\
 ∃big a e told sv,af w g b7 (fD gs 0 big a e told sv)/\((s.big=true↔big≠0)/\(s.big=false->told=s.told))/\bC A (cI g gs A B) w [sv] (show List iu from s.shared)
def et (w:x3) (g gs:Nat) (A:ak) (B:ak):Prop:=kT w g gs A B/\ ∃ (e big a f told:Int) (sv:x1) (l:List iu),af w g b7 (fD gs e big a f told sv)/\(e≠0/\l.length<=100000)/\bC A (cI g gs A B) w [sv] l
theorem kT.ab {g:Nat} {A:ak} {B:ak} (h:kT w g gs A B) (I:ah S w w'):kT w' g gs A B:=by
 obtain⟨h1,e,f,j,m⟩:=h;exact⟨h1,e,f,λr a=>R8 (j r a) I.size,λr a=>R8 (m r a) I.size⟩
theorem Bc {g:Nat} {A:ak} {B:ak} (a:∀r,A r->¬S r) (e:∀r,cI g gs A B r->¬S r):∀r,A r\/cI g gs A B r->¬S r:=λr h=>h.elim (a r) (e r)
theorem df.ab {g:Nat} {A:ak} {B:ak} {s:aD} (h:df w g gs A B s clean) (I:ah S w w') (a:∀r,bD g gs A r->¬S r) (e:∀r,cI g gs A B r->¬S r):df w' g gs A B s clean:=by
 obtain⟨h1,f,j,big,m,p,told,sv,q,x,y⟩:=h;exact⟨h1.ab I,f.ab I (a gs (.inr (.inl rfl))) e,j,big,m,p,told,sv,q.ab I (a g (.inl rfl)),x,ao.ab y I λr _ h=>Bc (λr z=>a r (.inr (.inr z))) e r h⟩
theorem et.ab {g:Nat} {A:ak} {B:ak} (h:et w g gs A B) (I:ah S w w') (a:∀r,bD g gs A r->¬S r) (f:∀r,cI g gs A B r->¬S r):et w' g gs A B:=by
 obtain⟨h1,e,big,j,m,told,sv,l,p,q,s⟩:=h;exact⟨h1.ab I,e,big,j,m,told,sv,l,p.ab I (a g (.inl rfl)),q,ao.ab s I λr _ h=>Bc (λr x=>a r (.inr (.inr x))) f r h⟩
theorem df.ext {g:Nat} {A:ak} {B:ak} {s:aD} (h:df w g gs A B s clean) (I:Ext w w'):df w' g gs A B s clean:=h.ab (I.ab λ_=>False) (λ_ _ h=>h) (λ_ _ h=>h)
theorem et.ext {g:Nat} {A:ak} {B:ak} (h:et w g gs A B) (I:Ext w w'):et w' g gs A B:=h.ab (I.ab λ_=>False) (λ_ _ h=>h) (λ_ _ h=>h)
def fQ (w:x3) (g gs:Nat) (A:ak) (B:ak) (clean:Bool) (s':Option aD) (w':x3):Prop:=ah (bD g gs A) w w'/\match s' with
 |some s'=>df w' g gs A B s' clean
 |none=>et w' g gs A B
theorem vA {g:Nat} {e big a f told:Int} (h:af w g b7 (fD gs e big a f told sv)):am x7 kG [Γ g] w λv w'=>v= .bool (decide (e=0))/\Ext w w':=by
 refine az func77 ?_;rw[bS,aW b7.p rfl,aW eV.p rfl,aA Ψ (h.cell (o:=0+1+0) rfl),bh];exact⟨rfl,Ext.refl _⟩
theorem oV {g:Nat} {A:ak} {B:ak} {s:aD} (h:df w g gs A B s clean):am x7 kG [Γ g] w λv w'=>v= .bool true/\Ext w w':=by
 obtain⟨_,_,_,big,e,f,told,sv,a,_⟩:=h;exact (vA a).mono λ_ _ _ h=>h
theorem nz {g:Nat} {A:ak} {B:ak} (h:et w g gs A B):am x7 kG [Γ g] w λv w'=>v= .bool false/\Ext w w':=by
 obtain⟨_,e,big,j,m,told,sv,l,a,f,_⟩:=h;refine (vA a).mono ?_;rintro _ U _ ⟨rfl,I⟩;exact⟨by rw[decide_eq_false f.1],I⟩
theorem si {g:Nat} {A B:ak} (h:A r\/cI g gs A B r) (a:¬A g):r≠g:=by
 rintro rfl;rcases h with h|h
 .exact a h
 .exact h.1 (.inl rfl)
theorem sj {g:Nat} {A:ak} {B:ak} {big q a told e:Int} {l:List iu} (J:kT w g gs A B) (s:af w g b7 (fD gs 0 big q a told sv)) (x:bC A (cI g gs A B) w [sv] l) (he:e≠0) (y:l.length<=100000):
  am x7 m7 [Γ g,Δ e,Δ at_] w λ_ w'=>ah (λr=>r=g) w w'/\et w' g gs A B:=by
 refine az func80 ?_;rw[bS,aW b7.p rfl,aW eV.p rfl,aA Ψ (s.cell (o:=0+1+0) rfl),bh,al];refine⟨λ_=>?_,λh=>absurd rfl h⟩;rw[bS,aW b7.p rfl,aW eV.p rfl];refine bt (g:=g) (o:=1) jq.i rfl rfl s (by simp[fD]) λU z G f=>?_;have f:af U g b7 (fD gs e big q a told sv):=f;rw[bS,aW b7.p rfl,aW eV.p rfl];refine bt (g:=g) (o:=3) ai.i rfl rfl f (by simp[fD]) λV C H j=>?_;have j:af V g b7 (fD gs e big at_ a told sv):=j;have m:=z.trans C;exact⟨m,J.ab m,e,big,at_,a,told,sv,l,j,⟨he,y⟩,ao.ab x m λr _ h E=>si h J.2.1 E⟩
theorem sk {g:Nat} {A:ak} {B:ak} {s:aD} {e:Int} (h:df w g gs A B s clean) (he:e≠0):am x7 m7 [Γ g,Δ e,Δ at_] w λ_ w'=>ah (λr=>r=g) w w'/\et w' g gs A B:=by
 obtain⟨J,_,a,big,m,p,told,sv,f,_,j⟩:=h;exact sj J f j he (by have:=a.2.2;show s.shared.length<=_;omega)
theorem J8 {g:Nat} {A:ak} {B:ak} {e:Int} (h:et w g gs A B):am x7 m7 [Γ g,Δ e,Δ at_] w λ_ w'=>Ext w w':=by
 obtain⟨_,f,big,j,m,told,sv,l,h1,a,_⟩:=h;refine az func80 ?_;rw[bS,aW b7.p rfl,aW eV.p rfl,aA Ψ (h1.cell (o:=0+1+0) rfl),bh,al];exact⟨λh=>absurd h a.1,λ_=>Ext.refl _⟩
theorem sm {g:Nat} {A:ak} {B:ak} {s:aD} {b:Bool} (h:df w g gs A B s clean):am x7 pM [Γ g,.bool b,Δ at_] w λ_ w'=>ah (λr=>r=g) w w'/\df w' g gs A B (bd b s) clean:=by
 obtain⟨J,y,z,big,e,C,told,sv,f,E,G⟩:=id h;refine az func75 ?_;refine aV (λv U=>w=U/\v= .bool (b&&decide (big=0))) ?_ ?_
 rotate_left
 .intro ay m;cases b with
  |false=>rw[aY];exact m _ _ ⟨rfl,rfl⟩
  |true=>
   rw[bQ,bS,aW b7.p rfl,aW eV.p rfl,aA Ψ (f.cell (o:=0+1+1) rfl),bh,al];refine⟨λa=>?_,λa=>m _ _ ⟨rfl,by rw[decide_eq_false a];rfl⟩⟩;rw[bS,aW b7.p rfl,aW eV.p rfl,aA Ψ (f.cell (o:=0+1+0) rfl),bh];exact m _ _ ⟨rfl,by rw[decide_eq_true a];rfl⟩
 rintro _ _ ⟨rfl,rfl⟩;rw[cb];refine⟨λH=>?_,λae=>?_⟩
 .obtain⟨rfl,a⟩:=Bool.and_eq_true_iff.1 H;rw[bS,aW b7.p rfl,aW eV.p rfl];refine bt (g:=g) (o:=2) jq.i rfl rfl f (by simp[fD]) λU I N q=>?_;have q:af U g b7 (fD gs 0 5 e C told sv):=q;rw[bS,aW b7.p rfl,aW eV.p rfl];refine bt (g:=g) (o:=4) ai.i rfl rfl q (by simp[fD]) λV K O x=>?_;have x:af V g b7 (fD gs 0 5 e at_ told sv):=x;have j:=I.trans K;exact⟨j,J.ab j,y.ab j (λhe=>J.1 he.symm) (λr L he=>L.1 (.inl he)),z,5,e,at_,told,sv,x,⟨⟨λ_=>Ω,λ_=>by simp[bd]⟩,λh=>by simp[bd] at h⟩,ao.ab G j λr _ h M=>si h J.2.1 M⟩
 .refine⟨ah.refl _ _,J,y,z,big,e,C,told,sv,f,⟨?_,λh=>E.2 (by
   have h:(s.big||b)=false:=h;exact (T4.1 h).1)⟩,G⟩
  show (s.big||b)=true↔big≠0;cases b with
  |false=>rw[Bool.or_false];exact E.1
  |true=>
   have a:big≠0:=of_decide_eq_false (by simpa using ae);simp[a]
theorem Bd {g:Nat} {A:ak} {B:ak} {b:Bool} (h:et w g gs A B):am x7 pM [Γ g,.bool b,Δ at_] w λ_ w'=>Ext w w':=by
 obtain⟨_,j,big,m,q,told,sv,l,h1,e,_⟩:=h;refine az func75 ?_;refine aV (λv U=>w=U/\v= .bool false) ?_ ?_
 .rintro _ _ ⟨rfl,rfl⟩;rw[aY];exact Ext.refl _
 intro ay a;cases b with
 |false=>rw[aY];exact a _ _ ⟨rfl,rfl⟩
 |true=>
  rw[bQ,bS,aW b7.p rfl,aW eV.p rfl,aA Ψ (h1.cell (o:=0+1+1) rfl),bh,al];refine⟨λf=>?_,λf=>a _ _ ⟨rfl,rfl⟩⟩;rw[bS,aW b7.p rfl,aW eV.p rfl,aA Ψ (h1.cell (o:=0+1+0) rfl),bh];exact a _ _ ⟨rfl,by rw[decide_eq_false e.1]⟩
theorem df.scan {g:Nat} {A:ak} {B:ak} {s:aD} {l:List (Λ)} (h:df w g gs A B s clean) (a:ah (λr=>r=gs) w w') (J:hq w' gs (cI g gs A B) l clean) (y:l.length<=s.toks.length):df w' g gs A B {s with toks:=l} clean:=by
 obtain⟨h1,_,e,big,j,m,told,sv,p,q,x⟩:=h;refine⟨h1.ab a,J,⟨e.1,e.2.1,by have:=e.2.2;show s.shared.length+l.length<=100000;omega⟩,big,j,m,told,sv,p.ab a h1.1,q,ao.ab x a λr _ h f=>?_⟩;have f:r=gs:=f;subst f;rcases h with h|h
 .exact h1.2.2.1 h
 .exact h.1 (.inr (.inl rfl))
theorem Be {g:Nat} {A:ak} {B:ak} {s:aD} (h:df w g gs A B s clean):am x7 zb [Γ g] w λv w'=>fQ w g gs A B clean ((dL s).map (·.2)) w'/\ ∃ (t:Λ) (n:Int),v= .tuple #[bN t,Δ n]/\Bytes t/\t.length<=100000/\ ∀q,dL s=σ q->t=q.1:=by
 refine az func74 ?_;refine (oV h).mono ?_;rintro _ U _ ⟨rfl,H⟩;rw[bI,Y7,aY];have h1:=h.ext H;obtain⟨_,I,_,big,L,M,told,sv,x,_⟩:=id h1;have N:=I.words.2;rw[aO b7.p 0 x rfl];refine (qd I).mono ?_;rintro v V _ ⟨j,ac⟩;have J:ah (bD g gs A) w V:=(H.ab _).trans (j.mono λr _ h=>.inr (.inl h));cases f:s.toks with
 |cons t l=>
  rw[f] at ac;obtain⟨O,n,rfl⟩:=ac;have P:=h1.scan j O (by rw[f];simp);have y:dL s=σ (t,{s with toks:=l}):=by unfold dL;rw[f]
  have K:=N t (by rw[f];exact .head _);rw[fy,fz,fA];refine aV (λv z=>V=z/\v=Δ 0) ?_ ?_
  .rintro _ _ ⟨rfl,rfl⟩;refine dh (λm=>V=m) ?_ ?_
   .rintro _ rfl;rw[y];exact⟨⟨J,P⟩,t,n,rfl,K.1,K.2.2,λq C=>by cases C;rfl⟩
   .intro ay a;rw[bz,al];exact⟨λh=>absurd rfl h,λ_=>a _ rfl⟩
  .intro ay a;rw[bh,al];exact⟨λh=>Ω,λ_=>a _ _ ⟨rfl,rfl⟩⟩
 |nil=>
  rw[f] at ac;obtain⟨n,rfl⟩:=ac;have y:dL s=ν:=by unfold dL;rw[f]
  obtain⟨E,_,Q,big,L,M,told,sv,x,aa,R⟩:=id h1;have S:=x.ab j E.1;have W:=ao.ab R j λr _ h G=>by
   have G:r=gs:=G;subst G;rcases h with h|h
   .exact E.2.2.1 h
   .exact h.1 (.inr (.inl rfl))
  rw[fy,fz,fA];refine aV (λv z=>V=z/\ ∃e:Int,v=Δ e/\e≠0) ?_ ?_
  .rintro _ _ ⟨rfl,e,rfl,he⟩;refine dh (λm=>ah (λr=>r=g) V m/\et m g gs A B) ?_ ?_
   .rintro m ⟨X,Y⟩;rw[y];exact⟨⟨J.trans (X.mono λr _ h=>.inl h),Y⟩,[],n,rfl,λb Z=>(by cases Z),Ξ,λq C=>by cases C⟩
   .intro ay a;rw[bz,al];refine⟨λ_=>?_,λh=>absurd he h⟩;exact (sj (E.ab j) S W he (by have:=Q.2.2;show s.shared.length<=_;omega)).mono λ_ w' _ h=>a _ h
  .intro ay a;rw[bh,al];cases clean with
   |true=>exact⟨λ_=>a _ _ ⟨rfl,4,rfl,Ω⟩,λh=>absurd rfl h⟩
   |false=>exact⟨λh=>by simp at h,λ_=>a _ _ ⟨rfl,11,rfl,Ω⟩⟩
theorem J9 {g:Nat} {A:ak} {B:ak} (h:et w g gs A B):am x7 zb [Γ g] w λv w'=>Ext w w'/\v= .tuple #[bN [],Δ 0]:=by
 refine az func74 ?_;refine (nz h).mono ?_;rintro _ U _ ⟨rfl,a⟩;rw[bI,W5,bQ];exact⟨a,rfl⟩
theorem vB {g:Nat} {A:ak} {B:ak} {s:aD} (h:df w g gs A B s clean):am x7 m4 [Γ g,Δ lo,Δ hi] w λv w'=>fQ w g gs A B clean ((bf lo hi s).map (·.2)) w'/\ ∃n at_:Int,v= .tuple #[Δ n,Δ at_]/\(∀q,bf lo hi s=σ q->n=q.1)/\(bf lo hi s=ν->n=0):=by
 refine az func76 ?_;refine (Be h).mono ?_;rintro _ U _ ⟨⟨y,f⟩,t,n,rfl,I,J,hw⟩;rw[bi,bj];cases j:dL s with
 |none=>
  have a:bf lo hi s=ν:=by unfold bf;rw[j]
  rw[j] at f;have f:et U g gs A B:=f;refine (nz f).mono ?_;rintro _ V _ ⟨rfl,p⟩;rw[bI,W5,bQ,a];exact⟨⟨y.trans (p.ab _),f.ext p⟩,0,n,rfl,λq h=>(by cases h),λ_=>rfl⟩
 |some q=>
  obtain⟨bw,z⟩:=q;have:=hw _ j;subst this;rw[j] at f;have f:df U g gs A B z clean:=f;refine (oV f).mono ?_;rintro _ V _ ⟨rfl,p⟩;rw[bI,Y7,aY];refine (J4 I J).mono ?_;rintro _ C _ ⟨rfl,E⟩;have G:=(f.ext p).ext E;have H:ah (bD g gs A) w C:=(y.trans (p.ab _)).trans (E.ab _);obtain⟨m,e,ac,hm⟩:∃m e:Int,j8 t= .tuple #[Δ m,Δ e]/\((gl t=σ m/\e=0)\/(gl t=ν/\e=4)):=by
   unfold j8;cases N:gl t with
   |none=>exact⟨0,4,rfl,.inr ⟨rfl,rfl⟩⟩
   |some m=>exact⟨m,0,rfl,.inl ⟨rfl,rfl⟩⟩
  rw[ac,bi,bj];refine aV (λv K=>C=K/\v= .bool (bf lo hi s).isNone) ?_ ?_
  .rintro _ _ ⟨rfl,rfl⟩;cases a:bf lo hi s with
   |none=>
    rw[Option.isNone_none,bQ];refine (sk G Ω).mono ?_;rintro _ O _ ⟨L,M⟩;exact⟨⟨H.trans (L.mono λr _ h=>.inl h),M⟩,0,n,rfl,λq h=>(by cases h),λ_=>rfl⟩
   |some q=>
    rw[b9,aY];unfold bf at a;rw[j] at a;simp only at a;rcases hm with⟨hm,_⟩|⟨hm,_⟩
    .rw[hm] at a;simp only at a;split at a
     .cases a;exact⟨⟨H,G⟩,m,n,rfl,λq h=>(by cases h;rfl),λh=>(by cases h)⟩
     .cases a
    .rw[hm] at a;cases a
  .intro ay x;have a:bf lo hi s=match gl t with
     |none=>ν
     |some n=>if lo<=n/\n<=hi then σ (n,z) else ν:=by
    unfold bf;rw[j];simp only;cases gl t<;>rfl
   rw[bz,al];rcases hm with⟨hm,rfl⟩|⟨hm,rfl⟩
   .rw[hm] at a;simp only at a;refine⟨λh=>absurd rfl h,λ_=>?_⟩;rw[aN,al];refine⟨λh=>x _ _ ⟨rfl,by rw[a,if_neg Ω];rfl⟩,λh=>?_⟩;rw[bR];refine x _ _ ⟨rfl,?_⟩;rw[a];by_cases aG:hi<m
    .rw[decide_eq_true aG,if_neg Ω];rfl
    .rw[decide_eq_false aG,if_pos Ω];rfl
   .rw[hm] at a;exact⟨λ_=>x _ _ ⟨rfl,by rw[a];rfl⟩,λh=>absurd (by omega:(4:Int)≠0) h⟩
theorem Ka {g:Nat} {A:ak} {B:ak} (h:et w g gs A B):am x7 m4 [Γ g,Δ lo,Δ hi] w λv w'=>Ext w w'/\v= .tuple #[Δ 0,Δ 0]:=by
 refine az func76 ?_;refine (J9 h).mono ?_;rintro _ U _ ⟨a,rfl⟩;rw[bi,bj];refine (nz (h.ext a)).mono ?_;rintro _ V _ ⟨rfl,e⟩;rw[bI,W5,bQ];exact⟨a.trans e,rfl⟩
theorem Kb {x:Int} (h:aF .i64 w sv l):am x7 Ig [sv,Δ x] w λv w'=>Ext w w'/\ ∃r:Int,v=Δ r/\(0<=r↔x∈l):=by
 refine az func231 ?_;rw[aU ax.u h];refine bX.range l.length (λi _ U=>Ext w U/\x∉l.take i) h.le ⟨Ext.refl _,Ξ⟩ ?_ ?_
 .rintro i _ U k hi ⟨a,e⟩ hk;refine bE Ω ?_;obtain⟨y,f⟩:=aH (l:=l) hi;rw[be ax.u ap.i Ψ (h.ext a) f,bh,al];refine⟨λhe=>⟨a,i,rfl,⟨λ_=>he▸x5 f,λ_=>Ω⟩⟩,λhe=>?_⟩;rw[aM];refine hk _ _ ⟨a,λhm=>?_⟩;rw[u9,f] at hm;rcases o7.1 hm with hm|hm
  .exact e hm
  .simp at hm;exact he hm
 .rintro _ U k ⟨a,e⟩;rw[o5] at e;rw[aN,al];exact⟨λh=>Ω,λ_=>⟨a,-1,rfl,⟨λh=>Ω,λh=>absurd h e⟩⟩⟩
theorem Kc {x:Int} (h:aF .i64 w sv l):am x7 HP [sv,Δ x] w λv w'=>v= .bool (decide (x∈l))/\Ext w w':=by
 refine az func187 ?_;refine (Kb h).mono ?_;rintro _ U _ ⟨I,r,rfl,a⟩;rw[cO];exact⟨by congr 1;rw[V5,decide_eq_true_eq,decide_eq_true_eq];exact a,I⟩
theorem sn:∀ {l:Λ},(∀z∈l,1<=z)-> ∀i,aK ((l.take i).map λk=>min k 4097)<=aK (l.map λk=>min k 4097)/\1<=aK ((l.take i).map λk=>min k 4097)
 |[],_,i=>by simp[aK]
 |z::l,h,0=>by
  have a:=sn (l:=l) (λx I=>h x (.tail _ I)) l.length;rw[o5] at a;have e:=h z (.head _);simp only[List.take_zero,List.map_nil,U6,aK];have:=Int.mul_le_mul_of_nonneg_left a.2 (show 0<=min z 4097 by omega);omega
 |z::l,h,i+1=>by
  have a:=sn (l:=l) (λx I=>h x (.tail _ I)) i;have e:=h z (.head _);simp only[List.take_succ_cons,U6,aK];have h1:=Int.mul_le_mul_of_nonneg_left a.1 (show 0<=min z 4097 by omega);have f:=Int.mul_le_mul_of_nonneg_left a.2 (show 0<=min z 4097 by omega);exact⟨h1,Ω⟩
theorem Bf (l:Λ) (x:Int):aK (l++[x])=aK l*x:=by
 induction l with
 |nil=>simp[aK]
 |cons a l e=>rw[List.cons_append,aK,e,aK,Int.mul_assoc]
theorem Bg (h:aF .i64 w sv l) (h1:∀z∈l,1<=z):am x7 He [sv] w λv w'=>v= .bool (dq l)/\Ext w w':=by
 refine az func139 ?_;rw[aU ax.u h];refine l8.range l.length (λi _ n U=>Ext w U/\n=Δ (aK ((l.take i).map λk=>min k 4097))/\aK ((l.take i).map λk=>min k 4097)<=4096) h.le ⟨Ext.refl _,by simp[aK],by simp[aK]⟩ ?_ ?_
 .rintro i _ _ U m hi ⟨a,rfl,f⟩ p;refine bE Ω ?_;obtain⟨z,j⟩:=aH (l:=l) hi;have r:=h1 z (x5 j);have s:=sn h1 i;have x:=sn h1 (i+1);have e:aK ((l.take (i+1)).map λk=>min k 4097)=aK ((l.take i).map λk=>min k 4097)*min z 4097:=by
   rw[u9,j,l7,b6,U6,List.map_nil,Bf]
  rw[be ax.u ap.i Ψ (h.ext a) j,lE,gE,<-e];have y:aK ((l.take (i+1)).map λk=>min k 4097)<=4096*4097:=by
   rw[e];have A:=Int.mul_le_mul_of_nonneg_right f (show 0<=min z 4097 by omega);have B:=Int.mul_le_mul_of_nonneg_left (show min z 4097<=4097 by omega) (show (0:Int)<=4096 by omega);omega
  rw[wrap_i64 Ω Ω,bR,al];refine⟨λq=>⟨?_,a⟩,λq=>?_⟩
  .unfold dq;rw[decide_eq_true];omega
  .rw[aM];exact p _ _ _ ⟨a,rfl,Ω⟩
 .rintro _ _ U m ⟨a,rfl,f⟩;rw[o5] at f;rw[aN,al];refine⟨λh=>Ω,λ_=>⟨?_,a⟩⟩;unfold dq;rw[decide_eq_false];omega
def kb (n:Int) (acc:Λ) (s:aD):Option (Int×aD):=match bf 0 (n-1) s with
 |none=>ν
 |some (v,s)=>if v∈acc then ν else σ (v,s)
theorem oW {α:Type} {f:List α->aD->Option (α×aD)} {acc:List α} {s:aD} (h:f acc s=ν):cN f (n+1) acc s=ν:=by
 simp only[cN,h]
theorem sq {α:Type} {f:List α->aD->Option (α×aD)} {acc:List α} {s s':aD} {a:α} (h:f acc s=σ (a,s')):cN f (n+1) acc s=cN f n (acc++[a]) s':=by
 simp only[cN,h]
theorem df.qf {g:Nat} {A:ak} {B:ak} {s:aD} (h:df w g gs A B s clean):(∀r,bD g gs A r->r<w.heap.size)/\(∀r,B r->r<w.heap.size):=⟨h.1.2.2.2.1,h.1.2.2.2.2⟩
theorem Kd {g k:Nat} {A B:ak} {s:aD} {m:Int} (h:df w g gs A B s clean) (hk:k<=4611686018427387904) (hm:0<=m/\m<=1000000):
  am x7 zh [Γ g,Δ (k:Int),Δ m] w λv w'=>fQ w g gs A B clean ((eZ m k s).map (·.2)) w'/\
   ∃gr l,au .i64 ap w' gr v l/\(∀r,leads v r->w.heap.size<=r)/\l.length<=100001/\ ∀q,eZ m k s=σ q->l=q.1:=by
 obtain⟨aa,aw⟩:=h.qf;have aA:=h.2.1.words.1;refine az func138 ?_;refine⟨λout P U=>∃i:Nat,P=Δ (i:Int)/\i<=k/\ah (bD g gs A) w U/\ ∃gr l,au .i64 ap U gr out l/\w.heap.size<=gr/\l.length<=100001/\
  ((∃st,df U g gs A B st clean/\cN (kb m) (k-i) l st=eZ m k s/\l.length+st.toks.length<=100000)\/(et U g gs A B/\eZ m k s=ν)),λ_ P _=>k-(bU P).toNat,
  ⟨0,rfl,X3 _,ah.refl _ _,w.heap.size,[],au.nil _ _ _ _,p8 _,Ξ,.inl ⟨s,h,rfl,by simpa using aA⟩⟩,?_⟩
 rintro out _ U ⟨i,rfl,aB,ac,gr,l,ad,ba,bb,ae⟩;have bc:=ac.size;have Q:∀r,leads out r->w.heap.size<=r:=λr y=>by have:=bM ad y;omega
 refine aV (λv V=>Ext U V/\((v= .bool true/\i<k/\ ∃st,df V g gs A B st clean/\cN (kb m) (k-i) l st=eZ m k s/\l.length+st.toks.length<=100000)\/
  (v= .bool false/\((∃st,df V g gs A B st clean/\eZ m k s=σ (l,st))\/(et V g gs A B/\eZ m k s=ν))))) ?_ ?_
 rotate_left
 .intro ay J;rw[aN,al];refine⟨λbd=>?_,λbe=>?_⟩
  .rcases ae with⟨st,z,x,R⟩|⟨E,S⟩
   .refine (oV z).mono ?_;rintro _ V _ ⟨rfl,C⟩;exact J _ _ ⟨C,.inl ⟨rfl,Ω,st,z.ext C,x,R⟩⟩
   .refine (nz E).mono ?_;rintro _ V _ ⟨rfl,C⟩;exact J _ _ ⟨C,.inr ⟨rfl,.inr ⟨E.ext C,S⟩⟩⟩
  .have aC:k-i=0:=Ω
   rcases ae with⟨st,z,x,R⟩|aE
   .rw[aC] at x;exact J _ _ ⟨Ext.refl _,.inr ⟨rfl,.inl ⟨st,z,x.symm⟩⟩⟩
   .exact J _ _ ⟨Ext.refl _,.inr ⟨rfl,.inr aE⟩⟩
 rintro _ V ⟨C,aF⟩;have W:ah (bD g gs A) w V:=ac.trans (C.ab _);have K:=ad.ext C;rcases aF with⟨rfl,aB,st,z,x,R⟩|⟨rfl,aG⟩
 rotate_left
 .rw[aY];rcases aG with⟨st,z,H⟩|⟨E,H⟩
  .rw[H];exact⟨⟨W,z⟩,gr,l,K,Q,Ω,λq f=>by cases f;rfl⟩
  .rw[H];exact⟨⟨W,E⟩,gr,l,K,Q,Ω,λq f=>by cases f⟩
 rw[bQ,dJ,wrap_i64 Ω Ω];have aH:k-i=(k-(i+1))+1:=Ω
 rw[aH] at x;refine (vB z).mono ?_;rintro _ L _ ⟨⟨M,N⟩,n,at_,rfl,aI,bg⟩;rw[bi,bj];have af:∀r,leads out r->¬bD g gs A r:=λr y aJ=>by have:=aa r aJ;have:=Q r y;omega
 have bh:∀r,g=r->bD g gs A r:=λr h=>.inl h.symm;refine dh (λe=>ah (bD g gs A) V e/\((∃p,df e g gs A B p clean/\cN (kb m) (k-(i+1)) (l++[n]) p=eZ m k s/\l.length+1+p.toks.length<=100000)\/(et e g gs A B/\eZ m k s=ν))/\l.length+1<=100001) ?_ ?_
 .rintro e ⟨ag,aK,ai⟩;have aL:=bp K ag af;have aj:=W.trans ag;have bk:=aj.size;refine eo ax.u ap.i rfl λa ga an bl G aO=>?_;refine iT ax.u ap.i rfl (aL.ext G) aO.ls Θ Θ λaP aQ aR bm aS X=>?_;have bn:=G.size;rw[aM,wrap_i64 Ω Ω];have aT:ah (bD g gs A) w aR:=hp (aj.trans (G.ab _)) X λr y he=>by have he:r=gr:=he;omega
  have ao:∀r,bD g gs A r->¬(λr=>r=gr) r:=λr y he=>by have:=aa r y;have he:r=gr:=he;omega
  have aq:∀r,cI g gs A B r->¬(λr=>r=gr) r:=λr y he=>by have:=aw r y.2;have he:r=gr:=he;omega
  refine⟨⟨i+1,rfl,Ω,aT,aQ,l++[n],aS,Ω,Θ,?_⟩,by simp only[bU];omega⟩;rcases aK with⟨p,O,aU,bo⟩|⟨aW,S⟩
  .exact .inl ⟨p,(O.ext G).ab X ao aq,aU,Θ⟩
  .exact .inr ⟨(aW.ext G).ab X ao aq,S⟩
 .intro bq Y;cases f:bf 0 (m-1) st with
  |none=>
   rw[f] at N;have E:et L g gs A B:=N;have I:kb m l st=ν:=by unfold kb;rw[f]
   have H:eZ m k s=ν:=by rw[<-x];exact oW I
   refine aV (λv e=>Ext L e/\v= .bool false) ?_ ?_
   rotate_left
   .intro aX Z;refine (nz E).mono ?_;rintro _ e _ ⟨rfl,j⟩;rw[aY];exact Z _ _ ⟨j,rfl⟩
   rintro _ e ⟨j,rfl⟩;rw[aY];exact Y _ ⟨M.trans (j.ab _),.inr ⟨E.ext j,H⟩,Ω⟩
  |some q=>
   obtain⟨aP,p⟩:=q;have aZ:=aI _ f;subst aZ;rw[f] at N;have av:df L g gs A B p clean:=N;have a1:=dB f;have ai:l.length+1+p.toks.length<=100000:=by have:=a1.1;omega
   refine aV (λv e=>Ext L e/\v= .bool (decide (n∈l))) ?_ ?_
   rotate_left
   .intro aX Z;refine (oV av).mono ?_;rintro _ e _ ⟨rfl,j⟩;rw[bQ];refine (Kc ((bp K M af).ext j).ls).mono ?_;rintro _ an _ ⟨rfl,G⟩;exact Z _ _ ⟨j.trans G,rfl⟩
   rintro _ e ⟨j,rfl⟩;have O:=av.ext j;rw[al];refine⟨λa2=>?_,λa6=>?_⟩
   .have I:kb m l st=ν:=by unfold kb;rw[f];simp only;rw[if_pos a2]
    refine (sk O Ω).mono ?_;rintro _ an _ ⟨a7,a8⟩;exact Y _ ⟨(M.trans (j.ab _)).trans (a7.mono λr _ h=>.inl h),.inr ⟨a8,by rw[<-x];exact oW I⟩,Ω⟩
   .have I:kb m l st=σ (n,p):=by unfold kb;rw[f];simp only;rw[if_neg a6]
    exact Y _ ⟨M.trans (j.ab _),.inl ⟨p,O,by rw[<-x];exact (sq I).symm,ai⟩,Ω⟩
theorem nA {a b:Int} (e:0<=a/\a<=4294967296) (f:0<=b/\b<=4294967296):am x7 FS [Δ a,Δ b,Δ k] w λv w'=>v=Δ (min (a+b) k)/\Ext w w':=by
 refine az func22 ?_;simp only[aM,bR,al];rw[wrap_i64 Ω Ω];exact⟨λh=>⟨by rw[Int.min_eq_right Ω],Ext.refl _⟩,λh=>⟨by rw[Int.min_eq_left Ω],Ext.refl _⟩⟩
def nB (a b k:Int):x1:=if cn a k/\cn b k then .tuple #[Δ (min (a+b) k),Δ 0] else .tuple #[Δ 0,Δ 3]
theorem vC {a b:Int}:am x7 uL [Δ a,Δ b,Δ k] w λv w'=>v=nB a b k/\Ext w w':=by
 refine az func71 ?_;refine aV (λv U=>Ext w U/\v= .bool (decide (¬(cn a k/\cn b k)))) ?_ ?_
 .rintro _ U ⟨I,rfl⟩;simp only[al,aM,lE];refine⟨λh=>⟨by unfold nB;rw[if_neg h],I⟩,λh=>?_⟩;have h:=Z9.1 h;obtain⟨⟨h1,p⟩,q,r⟩:=id h;have:=h1.2;rw[wrap_i64 Ω Ω];exact⟨by unfold nB;rw[if_pos h],I⟩
 .intro ay e;refine jx.mono ?_;rintro _ V _ ⟨rfl,f⟩;simp only[bI,cb];refine⟨λh=>e _ _ ⟨f,?_⟩,λh=>?_⟩
  .have:¬cn a k:=by simpa using h
   rw[decide_eq_true];exact λh=>this h.1
  .have j:cn a k:=by simpa using h
   refine jx.mono ?_;rintro _ s _ ⟨rfl,m⟩;simp only[bI];exact e _ _ ⟨f.trans m,by simp[j]⟩
theorem Ke (h:aF .i64 w sv l) (f:l≠[]):
  am x7 Iq [sv] w λv w'=>v=Δ (vt l)/\Ext w w':=by
 obtain⟨x,l,rfl⟩:∃x r,l=x::r:=by cases l with
  |nil=>exact absurd rfl f
  |cons x r=>exact⟨x,r,rfl⟩
 have j:=h.le;refine az func254 ?_;refine dh (λU=>w=U) ?_ ?_
 .rintro _ rfl;rw[fx (y:=0) (i:=0) rfl ax.u ap.i Ψ h (by rfl)];refine⟨λm i V=>Ext w V/\ ∃k:Nat,i=Δ (k+1:Nat)/\k<=l.length/\m=Δ ((l.take k).foldl min x),λ_ i _=>l.length+1-(bU i).toNat,⟨Ext.refl _,0,rfl,X3 _,rfl⟩,?_⟩;rintro _ _ V ⟨a,k,rfl,hk,rfl⟩;rw[aU ax.u (h.ext a)];simp only[c7,aN,al] at j ⊢;refine⟨λq=>?_,λs=>⟨?_,a⟩⟩
  .obtain⟨y,e⟩:=aH (l:=l) (i:=k) Ω;rw[be ax.u ap.i Ψ (h.ext a) (show (x::l)[k+1]? =σ y from e),lE];simp only[aM];rw[wrap_i64 Ω Ω];refine⟨⟨a,k+1,by congr 1,Ω,?_⟩,?_⟩
   .rw[u9,e,U9];rfl
   .simp only[bU];omega
  .have:k=l.length:=Ω
   subst this;rw[o5];rfl
 .intro ay p;rw[aU ax.u h];simp only[aN,al];exact⟨λh=>by simp at h;omega,λ_=>p _ rfl⟩
theorem Bh {g:Nat} {cs:Λ} (h:db w g a sv aj k cs):am x7 uU [Γ g] w λv w'=>v=Δ k/\Ext w w':=by
 obtain⟨⟨a7,gs,e,hm,f⟩,_⟩:=h;refine az func214 ?_;rw[c5 eP.u];simp only[b9,aY];rw[aO cX.p 1 e rfl];exact⟨rfl,Ext.refl _⟩
theorem mr {g e:Nat} {cs:Λ} (h:db w g e sv aj k cs):
  am x7 Gx [Γ g] w λv w'=>Ext w w'/\ ∃a,w.heap.size<=a/\au .i64 ap w' a v cs:=by
 obtain⟨⟨a7,gs,f,hm,j⟩,⟨_,_,m⟩,J,q⟩:=h;refine az func91 ?_;rw[c5 eP.u];simp only[b9,aY];rw[aO cX.p 2 f rfl];exact va j.ls Ω
theorem oX {g e:Nat} {cs:Λ} (h:db w g e sv aj k cs):
  am x7 Hz [Γ g] w λv w'=>v= .agg #[sv]/\Ext w w':=by
 obtain⟨⟨a7,gs,f,hm,y⟩,_⟩:=h;have m:=hm.ls.cells;refine az func168 ?_;refine bG bB.i λz U A a q=>?_;rw[c5 eP.u];simp only[b9,aY];rw[bS,aW cX.p rfl,bO (cs:=[sv]) bB.p bB.i rfl (nr (f.ext a) (by
  intro j v ac
  match j,ac with
  |0,ac=>exact ac))]
 refine ck (vs:=[sv]) bB.i rfl rfl (by intro u hu;simp at hu;subst hu;exact m.2) q λB s C x=>?_;rw[fO bB.p bB.i rfl x.range];exact⟨rfl,a.then s (by rintro r E rfl;omega)⟩
theorem Bi (h:aF .i64 w sv aj) (m:aj.length<=1000):am x7 zr [.agg #[sv]] w λv w'=>Ext w w'/\ ∃a,w.heap.size<=a/\au .i64 ai w' a v aj:=by
 refine az func213 ?_;refine bo λg U q e f=>?_;rw[aT bB.p 0 f rfl];refine (kP (h.ext e) Ω).mono ?_;rintro v V _ ⟨j,a,r,hm⟩;have s:=e.size;exact⟨e.trans j,a,Ω,hm⟩
theorem Bj (h:aF .i64 w sv aj):am x7 Il [.agg #[sv]] w λv w'=>v=Δ aj.length/\Ext w w':=by
 refine az func239 ?_;refine bo λg U f a e=>?_;rw[aT bB.p 0 e rfl,aU an.u (h.ext a)];exact⟨rfl,a⟩
def hL (aj:Λ) (i:Int):Int:=if 0<=i then aj.getD i.toNat 0 else 0
theorem qg {i:Int} (h:aF .i64 w sv aj):am x7 Im [.agg #[sv],Δ i] w λv w'=>v=Δ (hL aj i)/\Ext w w':=by
 refine az func240 ?_;refine bo λg U q a e=>?_;refine aV (λv V=>v= .bool (decide (i<0\/(aj.length:Int)<=i))/\U=V) ?_ ?_
 .rintro _ _ ⟨rfl,rfl⟩;simp only[al];refine⟨λh=>⟨?_,a⟩,λm=>?_⟩
  .unfold hL;split
   .rw[v8,Z6 Ω];rfl
   .rfl
  .rw[aT bB.p 0 e rfl];obtain⟨n,rfl⟩:∃n:Nat,i=n:=⟨i.toNat,Ω⟩;have f:n<aj.length:=Ω
   rw[be an.u ai.i Ψ (h.ext a) (x6 f)];refine⟨?_,a⟩;unfold hL;rw[if_pos Ω,v8,u6,x6 f];rfl
 .intro ay j;simp only[aN,al];refine⟨λh=>j _ _ ⟨by rw[decide_eq_true];omega,rfl⟩,λm=>?_⟩;rw[aT bB.p 0 e rfl,aU an.u (h.ext a)];simp only[cO];exact j _ _ ⟨by congr 1;simp;omega,rfl⟩
theorem vD {g B0:Nat} (J:b1 aj):
  oj x7 lz [Γ g] (aK aj).toNat (λk vs w=>∃aL gt,vs=[Δ (k:Int),aL]/\B0<=gt/\au .i64 ai w gt aL (cR aj k))
   (λw=>af w g bB [sv]/\aF .i64 w sv aj/\B0<=w.heap.size):=by
 refine⟨lz.enters,λl ay O w m _ x ⟨q,r,y⟩ z=>?_⟩;have P:=prod_bound J;refine pQ func242 ?_;rw[bO bB.p bB.i rfl q.range];refine (oF r J).free.mono ?_;rintro _ U ⟨A,rfl,I⟩;refine ch.range (aK aj).toNat (λi V=>ay i V/\af V g bB [sv]/\aF .i64 V sv aj/\B0<=V.heap.size) Ω ⟨m 0 _ _ I A.b z,q.ext I,r.ext I,Y9 y I.size⟩ ?_ ?_
 .rintro i V k hi ⟨e,f,j,s⟩ hk;simp only[aN,al];refine⟨λ_=>?_,λh=>Ω⟩;rw[bO bB.p bB.i rfl f.range];refine (IZ j J Ω Ω).free.mono ?_;rintro _ B ⟨C,a,aL,gt,rfl,E,G⟩;rw[bi,bj];refine⟨rfl,(x i _ B hi ⟨f.ext a,j.ext a,Y9 s a.size⟩ ⟨aL,gt,rfl,Y9 s E,G⟩ (m _ _ _ a C.b e)).mono ?_⟩;rintro _ Q (⟨rfl,⟨H,K,L⟩,M⟩|⟨rfl,N⟩)
  .simp only[bI,Y7,aY,aM];exact hk _ ⟨M.1,H,K,L⟩
  .simp only[bI,W5,bQ];exact .inr ⟨i,hi,N⟩
 .rintro V k ⟨e,f,j,_⟩;simp only[aN,al];exact⟨λh=>Ω,λ_=>.inl e⟩
theorem vE:am x7 H0 [.agg #[sv]] w λr w'=>Ext w w'/\ ∃g,r= .func (.func lz) #[] #[Γ g]/\w.heap.size<=g/\af w' g bB [sv]:=by
 refine az func206 ?_;refine bo λg U f a e=>?_;rw[iR];exact⟨a,g,rfl,Ω,e⟩
end Go.Proofs.YtmgflbkdggdhoaaGreatDoor
namespace Go.Vc
open Go Go.RowKit
set_option maxRecDepth 100000
section
variable {P:W0} {w:x3}
theorem aC.ct {α:Type} {s:Sem α} {K:α->x3->Prop} (h:aC P s w λv w'=>cL w w'->K v w'):aC P s w K:=by
 obtain⟨v,w',h1,a,e⟩:=h;exact⟨v,w',h1,a,e a⟩
structure Keys (P:W0) (k:r8) (G:x1->Prop):Prop where
 check:∀ (w:x3) (em:Bool) {v:x1},G v->(Instr.checkKey em 10000 k v).run P w= .ok () w
 find:∀ (w:x3) {x:x1},G x-> ∀es:List MapEntry,(∀e∈es,G e.key)->
  ((Instr.findKey k x es).run P w= .ok ν w/\ ∀e∈es,e.key≠x)\/ ∃j e,(Instr.findKey k x es).run P w= .ok (σ (j,e.val)) w/\es[j]? =σ e/\e.key=x
 stays:∀ (w:x3) {v:x1},G v->(Instr.keyThatStays v v).run P w= .ok v w
theorem Keys.law {k:r8} (K:WideMaps.KeyLaw P k):Keys P k λv=>∃l,keyOf P k v=σ l:=
 ⟨λw a _ ⟨_,h⟩=>K.check w a h,λw _ ⟨_,h⟩ e f=>K.find w h e f,λw _ ⟨_,h⟩=>K.stays w h⟩
theorem Keys.int {k:r8} {a:o4} (hk:P.underlying k=σ (.int a)):Keys P k λv=>∃n,v= .int a n:=by
 have key:∀n,MapKept.IsKey (.int a) (.int a n):=λn=>rfl;refine⟨λw p v ⟨n,h⟩=>?_,λw x ⟨n,h⟩ q r=>?_,λw v ⟨n,h⟩=>?_⟩
 .subst h;exact MapKept.run_checkKey hk (key n) p 9999
 .subst h;rcases MapKept.findNow_spec (key n) q 0 (λe he=>by obtain⟨m,h⟩:=r e he;rw[h];exact key m) with⟨h1,f⟩|⟨j,e,h1,f,s⟩
  .exact .inl ⟨MapKept.run_findKey hk h1,f⟩
  .exact .inr ⟨j,e,by have:=MapKept.run_findKey (P:=P) (w:=w) hk h1;simpa using this,f,s⟩
 .subst h;exact MapKept.run_keyThatStays (d:=.int a) (key n)
def gG (e:MapEntry):x1×x1:=(e.key,e.val)
def c4 (w:x3) (m:Nat) (d:List (x1×x1)):Prop:=∃a e,w.heap[m]? =σ (.map a e)/\MapKept.Stamped a e/\a.toList.map gG=d
theorem c4.ext {d:List (x1×x1)} (h:c4 w m d) (I:Ext w w'):c4 w' m d:=by
 obtain⟨a,c,h1,e⟩:=h;exact⟨a,c,I.aZ m _ h1 rfl,e⟩
theorem c4.ab {d:List (x1×x1)} (h:c4 w m d) (I:ah S w w') (a:¬S m):c4 w' m d:=by
 obtain⟨e,c,h1,f⟩:=h;exact⟨e,c,I.aZ m _ h1 rfl a,f⟩
theorem c4.lt {d:List (x1×x1)} (h:c4 w m d):m<w.heap.size:=by
 obtain⟨a,c,h1,e⟩:=h;exact (o8.1 h1).1
theorem c4.nodup {d:List (x1×x1)} (h:c4 w m d):(d.map (·.1)).Nodup:=by
 obtain⟨e,c,_,⟨_,_,a⟩,rfl⟩:=h;rw[S8];exact a
theorem kc {α:Type} {l:List α} (h:l.Nodup) {i:Nat} {x:α} (hi:l[i]? =σ x) (p:l[j]? =σ x):i=j:=by
 have a:=x4.1 hi;have e:=x4.1 p;have m:=V2.1 h;rcases Nat.lt_trichotomy i j with f|rfl|f
 .exact absurd (a.2.trans e.2.symm) (m i j a.1 e.1 f)
 .rfl
 .exact absurd (e.2.trans a.2.symm) (m j i e.1 a.1 f)
theorem mu {α β:Type} (f:α->β):∀ (l:List α) (i:Nat),(l.map f).eraseIdx i=(l.eraseIdx i).map f
 |[],_=>Ξ
 |_::_,0=>rfl
 |x::l,i+1=>by simp[mu f l i]
theorem c4.uniq {d:List (x1×x1)} (h:c4 w m d) {i:Nat} {p q:x1×x1} (hi:d[i]? =σ p) (a:d[j]? =σ q) (he:p.1=q.1):i=j:=by
 have e:=h.nodup;have h1:(d.map (·.1))[i]? =σ p.1:=by rw[x8,hi];rfl
 have f:(d.map (·.1))[j]? =σ p.1:=by rw[x8,a,he];rfl
 exact kc e h1 f
theorem sr {q:Array MapEntry} {c:Nat} (h:w.heap[m]? =σ (.map q c)) (a:Array MapEntry) (e:Nat):
  ah (λr=>r=m) w {w with heap:=w.heap.setIfInBounds m (.map a e)}/\cL w {w with heap:=w.heap.setIfInBounds m (.map a e)}/\({w with heap:=w.heap.setIfInBounds m (.map a e)}:x3).heap[m]? =σ (.map a e):=by
 have J:=MapKept.heap_set (o':=.map a e) h;refine⟨⟨Ξ,λr o f j s=>?_⟩,⟨rfl,.jS,rfl,Ξ,λr o f j=>?_⟩,J.1⟩
 .show (w.heap.setIfInBounds m _)[r]? =σ o;rw[J.2 r s];exact f
 .show (w.heap.setIfInBounds m _)[r]? =σ o;by_cases p:r=m
  .subst p;rw[h] at f;cases f;cases j
  .rw[J.2 r p];exact f
theorem ss {K:x1->x3->Prop} (h:∀m w',m=w.heap.size->Ext w w'->c4 w' m []->K (.map (σ m)) w'):aC P (Instr.makeMap t ν) w K:=by
 refine .of (run_makeMap t w) (oo w _) (h _ _ rfl (om w _) ⟨#[],0,?_,MapKept.stamped_empty 0,rfl⟩);exact heap_alloc_new w _
variable {k e:r8} {G:x1->Prop}
theorem qh {c:Bool} {d:List (x1×x1)} {x:x1} (s:P.underlying t=σ (.map k e)) (hk:Keys P k G) (hm:c4 w m d) (y:∀p∈d,G p.1) (I:G x) (a:d[j]? =σ (x,v)):
  aa P (Instr.lookup t (.map (σ m)) x c) w K=K (if c then .tuple #[v,.bool true] else v):=aa.of λw' z=>by
 obtain⟨f,A,q,B,rfl⟩:=hm.ext z;have C:∀e∈f.toList,G e.key:=λe he=>y (gG e) (n9.2 ⟨e,he,rfl⟩);rcases hk.find w' I f.toList C with⟨_,h⟩|⟨i,r,h1,h,E⟩
 .rw[x8] at a;obtain⟨F,H,J⟩:=Y5.1 a;exact absurd (congrArg Prod.fst J) (h F (x5 H))
 .have ac:r.val=v:=by
   have hi:(f.toList.map gG)[i]? =σ (gG r):=by rw[x8,h];rfl
   have L:c4 w' m (f.toList.map gG):=⟨f,A,q,B,rfl⟩;have:=L.uniq hi a E;subst this;rw[hi] at a;exact congrArg Prod.snd (j6 a)
  simp only[Instr.lookup,X8,run_underlying s,X9,MapKept.run_getObj_map q,W7,hk.check w' _ I,h1,ac]
theorem su {c:Bool} {d:List (x1×x1)} {x:x1} (q:P.underlying t=σ (.map k e)) (hk:Keys P k G) (a:∃s b,aS P e s b z) (hm:c4 w m d) (r:∀p∈d,G p.1) (I:G x) (y:∀p∈d,p.1≠x):
  aa P (Instr.lookup t (.map (σ m)) x c) w K=K (if c then .tuple #[z,.bool false] else z):=aa.of λw' A=>by
 obtain⟨f,H,B,J,rfl⟩:=hm.ext A;have C:∀e∈f.toList,G e.key:=λe he=>r (gG e) (n9.2 ⟨e,he,rfl⟩);have E:(zeroValue e).run P w'= .ok z w':=by
  obtain⟨s,b,i,hi,_,_,a⟩:=a;simp[zeroValue,typeInfo,hi,a]
 rcases hk.find w' I f.toList C with⟨h1,h⟩|⟨i,j,h1,h,F⟩
 .simp only[Instr.lookup,X8,run_underlying q,X9,MapKept.run_getObj_map B,W7,hk.check w' _ I,h1,E]
 .exact absurd F (y (gG j) (n9.2 ⟨j,x5 h,rfl⟩))
theorem Kf {a:Array MapEntry} {e:MapEntry} {f:MapEntry->MapEntry} (h:a[j]? =σ e):(a.modify j f).toList.map gG=(a.toList.map gG).set j (gG (f e)):=by
 refine Y6 λi=>?_;simp only[x8,S5,Array.getElem?_modify,Y3,u7,Array.length_toList];by_cases m:j=i
 .subst m;have:=(o8.1 h);simp[this.1,this.2]
 .simp[m]
theorem qi {d:List (x1×x1)} {x:x1} {K:Unit->x3->Prop} (A:P.underlying t=σ (.map k e)) (hk:Keys P k G) (hm:c4 w m d) (H:∀p∈d,G p.1) (I:G x)
  (h1:∀j v0 w',d[j]? =σ (x,v0)->c4 w' m (d.set j (x,v))->ah (λr=>r=m) w w'->K () w')
  (J:∀w',(∀p∈d,p.1≠x)->c4 w' m (d++[(x,v)])->ah (λr=>r=m) w w'->K () w'):aC P (Instr.mapUpdate t (.map (σ m)) x v) w K:=by
 obtain⟨f,h,a,B,rfl⟩:=hm;have L:∀e∈f.toList,G e.key:=λe he=>H (gG e) (n9.2 ⟨e,he,rfl⟩);rcases hk.find w I f.toList L with⟨ae,C⟩|⟨i,E,ae,hi,he⟩
 .obtain⟨q,s,y⟩:=sr a (f.push {key:=x,val:=v,born:=h}) (h+1);refine .of (v:=()) (w':=_) ?_ s (J _ (λp M=>?_) ⟨_,_,y,MapKept.stamped_push B C,by simp[gG]⟩ q)
  .simp only[Instr.mapUpdate,X8,run_underlying A,X9,MapKept.run_getObj_map a,hk.check w _ I,ae,MapKept.run_setObj_map _ a]
  .obtain⟨N,O,rfl⟩:=n9.1 M;exact C N O
 .have z:f[i]? =σ E:=by simpa using hi
  obtain⟨q,s,y⟩:=sr a (f.modify i λe=>{e with key:=x,val:=v}) h;refine .of (v:=()) (w':=_) ?_ s (h1 i E.val _ (by rw[x8,hi];simp[gG,he]) ⟨_,_,y,MapKept.stamped_modify B _ _ (λ_ _=>rfl) (λQ _ F=>by rw[z] at F;cases F;exact he.symm),Kf z⟩ q);simp only[Instr.mapUpdate,X8,run_underlying A,X9,MapKept.run_getObj_map a,hk.check w _ I,ae,z,Z3,V1,he,hk.stays w I,MapKept.run_setObj_map _ a]
theorem Kg {B C:r8} {d:List (x1×x1)} {x:x1} {K:x1->x3->Prop} (y:P.underlying t=σ (.map k e)) (hk:Keys P k G) (hm:c4 w m d) (E:∀p∈d,G p.1) (I:G x)
  (h1:∀j v0 w',d[j]? =σ (x,v0)->c4 w' m (d.eraseIdx j)->ah (λr=>r=m) w w'->K (.tuple #[]) w')
  (F:∀w',(∀p∈d,p.1≠x)->c4 w' m d->ah (λr=>r=m) w w'->K (.tuple #[]) w'):aC P (Z0.delete_ #[t,B] C #[.map (σ m),x]) w K:=by
 obtain⟨f,z,a,A,rfl⟩:=hm;have H:∀e∈f.toList,G e.key:=λe he=>E (gG e) (n9.2 ⟨e,he,rfl⟩);rcases hk.find w I f.toList H with⟨ae,J⟩|⟨i,L,ae,hi,he⟩
 .obtain⟨h,q,s⟩:=sr a f z;refine .of (v:=.tuple #[]) (w':=_) ?_ q (F _ (λp M=>?_) ⟨_,_,s,A,rfl⟩ h)
  .simp only[Z0.delete_,List.getElem?_toArray,List.getElem?_cons_zero,List.getElem?_cons_succ,X8,run_underlying y,X9,MapKept.run_getObj_map a,hk.check w _ I,ae,MapKept.run_setObj_map _ a,W7]
  .obtain⟨N,O,rfl⟩:=n9.1 M;exact J N O
 .obtain⟨h,q,s⟩:=sr a (f.eraseIdxIfInBounds i) z;refine .of (v:=.tuple #[]) (w':=_) ?_ q (h1 i L.val _ (by rw[x8,hi];simp[gG,he]) ⟨_,_,s,MapKept.stamped_erase A _,by rw[mu];simp⟩ h);simp only[Z0.delete_,List.getElem?_toArray,List.getElem?_cons_zero,List.getElem?_cons_succ,X8,run_underlying y,X9,MapKept.run_getObj_map a,hk.check w _ I,ae,MapKept.run_setObj_map _ a,W7]
theorem Kh {a:r8} {d:List (x1×x1)} (f:P.underlying t=σ (.map k e)) (hm:c4 w m d):aa P (W6 #[t] a #[.map (σ m)]) w K=K (Δ d.length):=aa.of λw' h=>by
 obtain⟨p,q,j,r,rfl⟩:=hm.ext h;simp[W6,run_underlying f,MapKept.run_getObj_map j,goInt]
def hs (w:x3) (j m:Nat) (d left:List (x1×x1)) (q:Option (x1×x1)):Prop:=∃a f seen gR,w.heap[m]? =σ (.map a f)/\MapKept.Stamped a f/\a.toList.map gG=d/\
 w.heap[j]? =σ (.mapIter (σ m) f seen gR)/\f<=gR/\(leftOf a seen).toList.map gG=left/\ ∀p,q=σ p->gR=f/\ ∃h,a.toList.find? (λe=>e.born == seen.back?.getD 0)=σ h/\seen.back? =σ h.born/\gG h=p
theorem hs.map {d left:List (x1×x1)} {e:Option (x1×x1)} (h:hs w a m d left e):c4 w m d:=by
 obtain⟨f,c,_,_,h1,j,p,_⟩:=h;exact⟨f,c,h1,j,p⟩
theorem hs.aZ {d left:List (x1×x1)} {e:Option (x1×x1)} (h:hs w a m d left e) (I:ah S w w') (hm:¬S m) (hi:eU w w'):hs w' a m d left e:=by
 obtain⟨f,c,s,gR,h1,j,p,q,r⟩:=h;exact⟨f,c,s,gR,I.aZ m _ h1 rfl hm,j,p,hi a _ q rfl,r⟩
theorem hs.ext {d left:List (x1×x1)} {e:Option (x1×x1)} (h:hs w a m d left e) (I:Ext w w') (hi:eU w w'):hs w' a m d left e:=
 h.aZ (I.ab λ_=>False) (λh=>h) hi
theorem Ki (a:Array MapEntry):leftOf a #[]=a:=by
 unfold leftOf;exact Array.filter_eq_self.2 λx I=>Ξ
theorem Bk {d:List (x1×x1)} {K:x1->x3->Prop} (r:P.underlying t=σ (.map k e)) (hm:c4 w m d)
  (h:∀a w',a=w.heap.size->Ext w w'->eU w w'->hs w' a m d d ν->K (Γ a) w'):aC P (Instr.range t (.map (σ m))) w K:=by
 obtain⟨j,f,q,s,rfl⟩:=hm;refine .of (run_range_map w t k e m j f r q) (oo w _) (h _ _ rfl (om w _) (oo w _).jT ⟨j,f,#[],f,(om w _).aZ m _ q rfl,s,rfl,heap_alloc_new w _,p8 _,by rw[Ki],λp x=>by cases x⟩)
theorem Bl:∀ (l:List MapEntry) (j:Nat) (a:MapEntry),(l.map (·.born)).Nodup->l[j]? =σ a->l.filter (λx=>!(x.born == a.born))=l.eraseIdx j
 |[],j,a,_,h=>by simp at h
 |x::l,0,a,f,h=>by
  simp at h;subst h;have e:=List.nodup_cons.1 (by simpa using f:(x.born::l.map (·.born)).Nodup);simp only[List.filter_cons,beq_self_eq_true,Y7,Bool.false_eq_true,if_false,List.eraseIdx_cons_zero];refine List.filter_eq_self.2 λy m=>?_;have:y.born≠x.born:=λhe=>e.1 (he▸n9.2 ⟨y,m,rfl⟩);simpa using this
 |x::l,j+1,a,f,h=>by
  simp at h;have e:=List.nodup_cons.1 (by simpa using f:(x.born::l.map (·.born)).Nodup);have I:x.born≠a.born:=λhe=>e.1 (he▸n9.2 ⟨a,x5 h,rfl⟩);have p:=Bl l j a e.2 h;simp only[List.filter_cons,List.eraseIdx_cons_succ,p];simp[I]
theorem Bm {free:fp} {d left:List (x1×x1)} {R:Option (x1×x1)} {K:x1->x3->Prop} (h:hs w a m d left R) (ae:free.1=false->free.2<=a)
  (S:left=[]->K (.tuple #[.bool false]) w)
  (h1:∀j p w',left[j]? =σ p->Ext w w'->cB a w w'->hs w' a m d (left.eraseIdx j) (σ p)->K (.tuple #[.bool true,p.1,p.2]) w'):re P free (Instr.next (Γ a) false 0) w K:=by
 obtain⟨q,s,seen,gR,z,B,rfl,hi,T,rfl,_⟩:=h;have G:∀x∈q.toList,x.born<s:=B.1;have H:=B.2.1;have M:∀x∈(leftOf q seen).toList,x.born<s:=λx I=>G x (mem_left I).1;have V:∀ (U:x3) (o':Obj),U.heap=w.heap->(setObj a o').run P U= .ok () {U with heap:=U.heap.setIfInBounds a o'}:=λU o' he=>by
  simp only[setObj,Sem.run];rw[he,hi]
 unfold re;simp only[Instr.next,getObj,X8,Sem.run,hi,z,X9,next_test_false seen q s gR G T,Bool.false_eq_true,if_false];have W:Array.filter (λe=>!seen.contains e.born) q=leftOf q seen:=rfl;rw[W];have X:((leftOf q seen).toList.map (·.born)).Nodup:=by
  unfold leftOf;rw[Array.toList_filter];exact (List.Sublist.map _ List.filter_sublist).nodup H
 have Y:∀A:MapEntry,leftOf q (seen.push A.born)=(leftOf q seen).filter λx=>!(x.born == A.born):=λA=>by
  unfold leftOf;rw[Array.filter_filter];congr 1;funext x;rw[contains_push];cases seen.contains x.born<;>cases x.born == A.born<;>rfl
 generalize Z:leftOf q seen=L at*;have aa:L.filter (λx=>decide (x.born<s))=L:=Array.filter_eq_self.2 (λx I=>by simpa using M x (by simpa using I));have ab:L.filter (λx=>decide (x.born≥s))= #[]:=by
  rw[Array.filter_eq_empty_iff];intro x I;have:=M x (by simpa using I);simp;omega
 simp only[aa,ab,Array.append_empty];by_cases N:L.size=0
 .have ac:L= #[]:=Array.eq_empty_of_size_eq_zero N;subst ac;refine⟨.tuple #[.bool false],w,?_,λ_=>cB.refl _ _,S rfl⟩;simp[choose,Sem.run,Question.forced]
 .have ad:L.isEmpty=false:=by simp[Array.isEmpty,N]
  simp only[ad,Bool.false_eq_true,if_false,Array.empty_append,Array.size_map];have af:∃ (j:Nat) (n:Nat),j<L.size/\w.drawn<=n/\(choose (Question.mapNext L.size)).run P w= .ok j {w with drawn:=n}:=by
   by_cases ae:L.size<=1
   .exact⟨0,w.drawn,Ω,p8 _,by simp[choose,Sem.run,Question.forced,ae]⟩
   .exact⟨_,w.drawn+1,Nat.mod_lt _ Ω,Nat.le_succ _,by
     simp only[choose,Sem.run,Question.forced,decide_eq_true_eq,ae,if_false,Question.cut];rfl⟩
  obtain⟨j,n,C,O,ag⟩:=af;have Q:L.toList[j]? =σ L[j]:=by simp[C]
  have ah:L[j]∈q.toList:=(mem_left (seen:=seen) (by rw[Z];exact Array.mem_toList_iff.2 (Array.getElem_mem C))).1;refine⟨.tuple #[.bool true,L[j].key,L[j].val],{w with drawn:=n,heap:=w.heap.setIfInBounds a (.mapIter (σ m) s (seen.push L[j].born) s)},?_,?_,?_⟩
  .have J:=V {w with drawn:=n} (.mapIter (σ m) s (seen.push L[j].born) s) rfl;simp only[ag,Array.getElem?_map,Array.getElem?_eq_getElem C,Z3,X8,J,X9,W7]
  .intro ai;have:=ae ai;refine⟨rfl,⟨rfl,O⟩,rfl,Ξ,λr o f E=>?_,λr o aj f F=>?_⟩
   .show (w.heap.setIfInBounds a _)[r]? =σ o;by_cases y:r=a
    .subst y;rw[hi] at f;cases f;cases E
    .rw[(MapKept.heap_set hi).2 r y];exact f
   .show (w.heap.setIfInBounds a _)[r]? =σ o;rw[(MapKept.heap_set hi).2 r Ω];exact f
  .refine h1 j (gG L[j]) _ (by rw[x8,Q];rfl) ⟨Ξ,λr o f F=>?_⟩ ⟨rfl,⟨rfl,O⟩,rfl,Ξ,λr o f E=>?_,λr o aj f F=>?_⟩ ⟨q,s,seen.push L[j].born,s,?_,B,rfl,?_,p8 _,?_,λp ak=>⟨rfl,L[j],?_,Ξ,j6 ak⟩⟩
   .show (w.heap.setIfInBounds a _)[r]? =σ o;by_cases y:r=a
    .subst y;rw[hi] at f;cases f;cases F
    .rw[(MapKept.heap_set hi).2 r y];exact f
   .show (w.heap.setIfInBounds a _)[r]? =σ o;by_cases y:r=a
    .subst y;rw[hi] at f;cases f;cases E
    .rw[(MapKept.heap_set hi).2 r y];exact f
   .show (w.heap.setIfInBounds a _)[r]? =σ o;rw[(MapKept.heap_set hi).2 r Ω];exact f
   .show (w.heap.setIfInBounds a _)[m]? =_;rw[(MapKept.heap_set hi).2 m (λhe=>by subst he;rw[hi] at z;cases z)];exact z
   .exact (MapKept.heap_set hi).1
   .rw[Y,Array.toList_filter,Bl _ _ _ X Q,mu]
   .simp only[Array.back?_push,V1];exact find_born _ _ H ah
theorem Bn {d left:List (x1×x1)} {p:x1×x1} {K:x1->x3->Prop} (h:hs w a m d left (σ p)) (j:K (.tuple #[p.1,p.2]) w):aC P (Instr.entry (Γ a)) w K:=by
 obtain⟨s,x,seen,gR,q,y,rfl,hi,z,rfl,r⟩:=h;obtain⟨rfl,e,h1,f,rfl⟩:=r p rfl;refine .of (v:=.tuple #[e.key,e.val]) (w':=w) ?_ (cL.refl _) j;rw[f] at h1;simp only[Instr.entry,getObj,X8,Sem.run,hi,q,X9,f,bne_self_eq_false,Bool.false_eq_true,if_false,<-Array.find?_toList];simp only[V1] at h1;rw[h1];rfl
end
end Go.Vc
namespace Go.Proofs.YtmgflbkdggdhoaaGreatDoor
open Go Go.Vc Go.RowKit Go.Proofs Go.Proofs.Tryz
set_option maxRecDepth 100000
def dX (ks:Λ):x1:=.agg (ints .i8 ks).toArray
def kU (ks:Λ):Prop:=ks.length=6/\ ∀x∈ks,0<=x/\x<32
theorem Kj {a b:Λ} (h:dX a=dX b):a=b:=by
 unfold dX at h;have h:ints .i8 a=ints .i8 b:=congrArg Array.toList (x1.agg.inj h);have e:∀l:Λ,(ints .i8 l).map valOf=l:=λl=>by
  unfold ints;rw[S8];exact List.map_id l
 rw[<-e a,<-e b,h]
theorem Bo (ks:Λ):(dX ks).cells.toList=ints .i8 ks:=by simp[dX,x1.cells]
theorem Kk:WideMaps.ArrKey x7 cH fN 6:=⟨cH.u,Ψ,Ψ,Ψ⟩
theorem keys:Keys x7 cH λv=>∃l,keyOf x7 cH v=σ l:=Keys.law Kk.law
theorem vF (h:kU ks):∃l,keyOf x7 cH (dX ks)=σ l:=by
 obtain⟨q,j⟩:=h
 match ks,q with
 |[a,b,c,d,e,f],_=>
  have r:=j a Ξ;have s:=j b Ξ;have w:=j c Ξ;have rd:=j d Ξ;have y:=j e Ξ;have jS:=j f Ξ;have wf:∀x:Int,0<=x/\x<32->(Lit.int .i8 x).wf=true:=λx I=>by
   simp only[Lit.wf,V0,decide_eq_true_eq];have E:o4.i8.min= -128:=Φ
   have F:o4.i8.max=127:=Φ
   omega
  have m:decide (0<x7.types.size)=true:=Ψ
  have m:=of_decide_eq_true m;obtain⟨n,z⟩:∃n,x7.types.size=n+1:=⟨x7.types.size-1,Ω⟩;have one:∀x:Int,0<=x/\x<32->x7.keyLits (n+1) fN [.int .i8 x]=σ [.int .i8 x]:=λx I=>by
   unfold W0.keyLits;rw[fN.u];simp[wf x I]
  unfold keyOf;rw[cH.u];simp only;have A:x7.keyType cH=true:=Ψ
  have B:x7.cellsOf fN=1:=Ψ
  have p:x7.cellsOf cH=6:=Ψ
  have ae:(dX [a,b,c,d,e,f]).formed x7 cH=true:=by
   unfold dX x1.formed;rw[cH.u,p];rfl
  rw[A,ae,Bo,z];simp only[Bool.and_self,if_true];unfold W0.keyLits;rw[cH.u];simp only[p,B,ints];have C:Z8 6=[0,1,2,3,4,5]:=Φ
  simp[C,one a r,one b s,one c w,one d rd,one e y,one f jS]
def pad (t:Λ):Λ:=t++r9 (6-t.length) 0
theorem Kl {t:Λ} (e:t.length<=6) (a:∀x∈t,0<=x/\x<32):kU (pad t):=
 ⟨by simp[pad];omega,λx I=>by
  rcases o7.1 I with h|h
  .exact a x h
  .have:=(List.mem_replicate.1 h).2;omega⟩
theorem Km {a b:Λ} (e:a.length=b.length) (h:pad a=pad b):a=b:=by
 unfold pad at h;exact (List.append_inj h e).1
theorem Bp {t:Λ}:(pad t).take t.length=t:=by simp[pad]
theorem nC {b o:Nat} (a:ks.length=6) (h:w.rangeAt b o (ints .i8 ks)):aa x7 (u4 cH (.pointer (σ ⟨b,o,ν⟩))) w K=K (dX ks):=
 zB cH.u rfl cH.i (by simp[a]) h
theorem Kn {b o:Nat} (a:ks.length=6) (h:w.rangeAt b o (ints .i8 ks)):aa x7 (do loadVar cH (<-asAddr (.pointer (σ ⟨b,o,ν⟩)))) w K=K (dX ks):=aa.of λw' I=>by
 have:=run_loadVar_mid (P:=x7) w' b o cH (ints .i8 ks) (.array 6 fN) (ne I h) cH.u rfl (by rw[cH.i.size];simp[a]);simp only[asAddr,X8,W7,Result.andThen_ok,this];rfl
theorem qj {g:Nat} {K:Unit->x3->Prop} (a:ks.length=6) (e:cs.length=6) (f:af w g cH cs)
  (h:∀w',ah (λr=>r=g) w w'->w'.heap.size=w.heap.size->af w' g cH (ints .i8 ks)->K () w'):aC x7 (o6 cH (Γ g) (dX ks)) w K:=
 ck (vs:=ints .i8 ks) cH.i (by simp[a]) e (λv ac=>by obtain⟨x,_,rfl⟩:=n9.1 ac;rfl) f h
def sw:List x1:=[.int .i8 0,.int .i8 0,.int .i8 0,.int .i8 0,.int .i8 0,.int .i8 0]
theorem Ko {x:Int}:am x7 rM [Δ x] w λv w'=>v= .bool (decide (¬hV x))/\Ext w w':=by
 refine az func190 ?_;simp only[cu,aN,bR,al];refine⟨λh=>⟨?_,Ext.refl _⟩,λh=>⟨?_,Ext.refl _⟩⟩
 .rw[decide_eq_true];intro a;have:=a.1;omega
 .congr 1;have:(32<x)=(¬hV x):=propext ⟨λe a=>by have:=a.2;omega,λe=>by
   by_cases f:32<x
   .exact f
   .exact absurd ⟨Ω,Ω⟩ e⟩
  simp only[this]
theorem Kp (h:aF .i64 w sv l):
  am x7 uO [sv,.func (.func rM) #[] #[]] w λv w'=>Ext w w'/\ ∃n:Int,v=Δ n/\((0<=n)=¬∀x∈l,hV x):=by
 have r:=h.le;refine az func102 ?_;rw[aU an.u h];refine⟨λ_ t U=>Ext w U/\ ∃i:Nat,t=Δ i/\i<=l.length/\ ∀x∈l.take i,hV x,λ_ t _=>l.length-(bU t).toNat,⟨Ext.refl _,0,rfl,X3 _,Ξ⟩,?_⟩;rintro _ _ U ⟨I,i,rfl,hi,e⟩;simp only[aN,al];refine⟨λs=>?_,λz=>⟨I,-1,rfl,?_⟩⟩
 .obtain⟨x,f⟩:=aH (l:=l) (i:=i) Ω;rw[be an.u ai.i Ψ (h.ext I) f];show am x7 rM [Δ x] U _;refine Ko.mono ?_;rintro _ V _ ⟨rfl,j⟩;simp only[al,aM];refine⟨λm=>⟨I.trans j,i,rfl,?_⟩,λp=>?_⟩
  .exact propext ⟨λ_ q=>m (q x (x5 f)),λ_=>Ω⟩
  .rw[wrap_i64 Ω Ω];refine⟨⟨I.trans j,i+1,rfl,Ω,λy a=>?_⟩,?_⟩
   .rw[u9,f] at a;rcases o7.1 a with a|a
    .exact e y a
    .simp at a;subst a;exact Z9.1 p
   .simp only[bU];omega
 .have:i=l.length:=Ω
  rw[this,o5] at e;exact propext ⟨λh=>Ω,λh=>absurd e h⟩
theorem Bq (h:aF .i64 w sv l):
  am x7 uR [sv,.func (.func rM) #[] #[]] w λv w'=>v= .bool (decide (¬∀x∈l,hV x))/\Ext w w':=by
 refine az func191 ?_;refine (Kp h).mono ?_;rintro _ U _ ⟨I,n,rfl,a⟩;simp only[cO];exact⟨by congr 1;simp only[a],I⟩
abbrev Told:=List (Λ×Int)
def jC (p:Λ×Int):x1×x1:=(dX (pad p.1),Δ p.2)
def eF (w:x3) (g m:Nat) (aj:Λ) (k o:Int) (D:Told):Prop:=
 (∃sv gs,af w g fv [sv,Δ k,Δ o,.map (σ m)]/\au .i64 ai w gs sv aj)/\c4 w m (D.map jC)/\b1 aj/\cn o k/\ ∀p∈D,di aj p.1/\cn p.2 k/\p.2≠o
theorem eF.ext {g:Nat} {o:Int} {D:Told} (h:eF w g m aj k o D) (I:Ext w w'):eF w' g m aj k o D:=by
 obtain⟨⟨sv,gs,h1,a⟩,e,f⟩:=h;exact⟨⟨sv,gs,h1.ext I,a.ext I⟩,e.ext I,f⟩
theorem vG {t:Λ} (J:b1 aj) (h:di aj t):t.length=aj.length/\ ∀x∈t,0<=x/\x<32:=by
 obtain⟨h1,f⟩:=nx.1 h;refine⟨h1.symm,λx I=>?_⟩;obtain⟨i,hi,rfl⟩:=List.getElem_of_mem I;obtain⟨a,e⟩:=aH (l:=aj) (i:=i) Ω;have j:=f i a _ e (x6 hi);have m:=(J.2 a (x5 e)).2;omega
theorem qk {t:Λ} (J:b1 aj) (h:di aj t):kU (pad t):=by
 obtain⟨h1,a⟩:=vG J h;exact Kl (by rw[h1];exact J.1) a
theorem eF.oY {g:Nat} {o:Int} {D:Told} (h:eF w g m aj k o D):∀p∈D.map jC,∃l,keyOf x7 cH p.1=σ l:=λp a=>by
 obtain⟨q,e,rfl⟩:=n9.1 a;exact vF (qk h.2.2.1 (h.2.2.2.2 q e).1)
theorem Br {s t:Λ} (J:di aj s) (a:di aj t) (h:dX (pad s)=dX (pad t)):s=t:=
 Km ((sb J).symm.trans (sb a)) (Kj h)
theorem eF.nodup {g:Nat} {o:Int} {D:Told} (h:eF w g m aj k o D):(D.map (·.1)).Nodup:=by
 have e:=h.2.1.nodup;rw[S8] at e;refine List.Pairwise.of_map (S:=λa b=>a≠b) (λt=>dX (pad t)) (λa b h he=>h (by rw[he])) ?_;rw[S8];exact e
def Kq (w:x3) (l:Λ) (k o:Int) (v:x1) (w':x3):Prop:=
 Ext w w'/\(¬b1 l->v= .tuple #[.pointer ν,Δ 1])/\(b1 l->¬cn o k->v= .tuple #[.pointer ν,Δ 3])/\
  (b1 l->cn o k-> ∃g m,v= .tuple #[Γ g,Δ 0]/\w.heap.size<=g/\w.heap.size<=m/\eF w' g m l k o [])
theorem Bs {o:Int} (h:aF .i64 w sv l):am x7 ou [sv,Δ k,Δ o] w (Kq w l k o):=by
 refine az func144 ?_;refine aV (λv U=>Ext w U/\ ∃c,v= .bool c/\(c=true↔¬b1 l)) ?_ ?_
 .rintro _ U ⟨e,c,rfl,f⟩;rw[cb];refine⟨λs=>⟨e,λ_=>rfl,λh=>absurd h (f.1 s),λh=>absurd h (f.1 s)⟩,λae=>?_⟩;have J:b1 l:=Classical.byContradiction λh=>by have:=f.2 h;rw[ae] at this;cases this
  have E:=J.1;refine jx.mono ?_;rintro _ V _ ⟨rfl,a⟩;by_cases hi:cn o k
  rotate_left
  .simp only[hi,decide_false,bI,W5,bQ];exact⟨e.trans a,λh=>absurd J h,λ_ _=>rfl,λ_ h=>absurd h hi⟩
  simp only[hi,decide_true,bI,Y7,aY];refine (kP ((h.ext e).ext a) Ω).mono ?_;rintro aL G _ ⟨x,z,H,hm⟩;have I:=hm.ls.cells;refine ss λm K L j A=>?_;rw[dn (cs:=#[aL,Δ k,Δ o,.map (σ m)]) (by obtain⟨_,_,_,_,_,rfl,_⟩:=hm.ls;kernel_rfl)];refine bo λg M N q B=>?_;have O:=e.size;have P:=a.size;have Q:=x.size;have R:=j.size;exact⟨((((e.trans a).trans x).trans j).trans q),λh=>absurd J h,λ_ h=>absurd hi h,λ_ _=>⟨g,m,rfl,Ω,Ω,⟨aL,z,B,(hm.ext j).ext q⟩,A.ext q,J,hi,λp C=>by cases C⟩⟩
 .intro ay y;rw[aU an.u h];simp only[bR,al];refine⟨λS=>y _ _ ⟨Ext.refl _,true,rfl,λ_ J=>by have:=J.1;omega,λ_=>rfl⟩,λW=>?_⟩;refine (Bq h).mono ?_;rintro _ V _ ⟨rfl,a⟩;refine y _ _ ⟨a,_,rfl,?_⟩;rw[decide_eq_true_eq];exact⟨λr J=>r J.2,λr J=>r ⟨Ω,J⟩⟩
def iv (t:Λ) (i:Nat):Λ:=t.take i++r9 (6-i) 0
theorem Kr {t:Λ} {i:Nat} (hi:i<=t.length) (a:t.length<=6):(iv t i).length=6:=by simp[iv];omega
theorem Ks {t:Λ} {i:Nat} {x:Int} (I:t[i]? =σ x) (e:t.length<=6):(iv t i).set i x=iv t (i+1):=by
 have hi:=(x4.1 I).1;unfold iv;have a:(t.take i).length=i:=by rw[l9];omega
 rw[T3 _ _ Ω,a,V6,u9,I];have:6-i=(6-(i+1))+1:=Ω
 rw[this,List.replicate_succ];simp
theorem Kt (t:Λ):iv t t.length=pad t:=by simp[iv,pad]
def Bt (w:x3) (aj t:Λ) (v:x1) (w':x3):Prop:=Ext w w'/\ ∃ks e,v= .tuple #[dX ks,Δ e]/\ks.length=6/\(di aj t->ks=pad t/\e=0)/\(¬di aj t->e=3)
theorem Ku {g:Nat} {t:Λ} {o:Int} {D:Told} {aL:x1} (h:eF w g m aj k o D) (E:aF .i64 w aL t):am x7 HQ [Γ g,aL] w (Bt w aj t):=by
 obtain⟨⟨sv,gs,G,hm⟩,_,J,_⟩:=h;have aI:=J.1;refine az func192 ?_;refine bG cH.i λA U aJ S B=>?_;refine bG cH.i λaq V aK H K=>?_;have s:=S.trans H;have aP:=S.size;have aQ:=H.size;have aR:=B.lt;have aS:=K.lt;have aT:=G.lt;have B:=B.ext H;have ag:=G.ext s;rw[c5 eO.u];simp only[b9,aY];have L:∀ {f:x3} {ks:Λ} {e:Int},Ext w f->af f aq cH (ints .i8 ks)->af f A cH sw->ks.length=6->(di aj t->ks=pad t/\e=0)->(¬di aj t->e=3)->
   aa x7 (u4 cH (Γ aq)) f λah=>aC x7 (o6 cH (Γ A) ah) f λ(_:Unit) M=>aa x7 (do loadVar cH (<-asAddr (Γ A))) M λak=>Bt w aj t (.tuple #[ak,Δ e]) M:=by
  intro f ks e q r y C ac N;rw[nC C r.range];refine qj C rfl y λM ao aW ap=>?_;rw[Kn C ap.range];exact⟨q.put ao Ω,ks,e,rfl,C,ac,N⟩
 rw[aU an.u (E.ext s),aO fv.p 0 ag rfl,aU an.u (hm.ls.ext s)];simp only[bz,al];have W:ints .i8 (iv t 0)=sw:=by simp[iv,sw,ints]
 refine⟨λau=>L s (ks:=iv t 0) (e:=3) (by rw[W];exact K) B (by simp[iv]) (λac=>absurd (by rw[sb ac]) au) (λ_=>rfl),λX=>?_⟩;have X:t.length=aj.length:=Ω
 rw[aU an.u (E.ext s)];refine bX.range t.length (λi _ f=>Ext w f/\af f aq cH (ints .i8 (iv t i))/\af f A cH sw/\ ∀ (j:Nat) (a x:Int),j<i->aj[j]? =σ a->t[j]? =σ x->0<=x/\x<a) Ω
  ⟨s,by rw[W];exact K,B,λj a x av=>Ω⟩ ?_ ?_
 .rintro i _ f aw hi ⟨q,r,y,O⟩ ax;simp only[aN,al];refine⟨λ_=>?_,λh=>Ω⟩;obtain⟨x,I⟩:=aH (l:=t) hi;obtain⟨a,z⟩:=aH (l:=aj) (i:=i) Ω;have aX:=J.2 a (x5 z);rw[be an.u ai.i Ψ (E.ext q) I];have Y:=Kr (t:=t) (i:=i) Ω Ω;refine aV (λv aA=>f=aA/\v= .bool (decide (¬(0<=x/\x<a)))) ?_ ?_
  .rintro _ _ ⟨rfl,rfl⟩;simp only[al];refine⟨λaB=>L q r y Y (λac=>absurd ((nx.1 ac).2 i a x z I) aB) (λ_=>rfl),λP=>?_⟩;have P:=Z9.1 P;rw[eW ai.u fN.u,IL Ω Ω,u0 cH.u fN.i Ω];refine bt fN.i rfl rfl r (by simp[Y];omega) λaZ Z a1 ad=>?_;simp only[aM];refine ax _ _ ⟨q.put Z Ω,?_,y.ab Z (by show ¬(A=aq);omega),λj a' aD av Q R=>?_⟩
   .have e:(ints .i8 (iv t i)).set (0+i*1) (.int .i8 x)=ints .i8 (iv t (i+1)):=by
     rw[<-Ks I Ω];simp[ints,V7]
    rw[e] at ad;exact ad
   .by_cases aE:j=i
    .subst aE;rw[z] at Q;rw[I] at R;cases Q;cases R;exact P
    .exact O j a' aD Ω Q R
  .intro ay ae;simp only[aN,al];refine⟨λa2=>ae _ _ ⟨rfl,by rw[decide_eq_true];omega⟩,λa6=>?_⟩;rw[aO fv.p 0 (G.ext q) rfl,be an.u ai.i Ψ (hm.ls.ext q) z,cO];refine ae _ _ ⟨rfl,?_⟩;congr 1;exact decide_eq_decide.2 ⟨λh aG=>Ω,λh=>Ω⟩
 .rintro _ f aw ⟨q,r,y,O⟩;simp only[aN,al];refine⟨λh=>Ω,λ_=>?_⟩;rw[Kt] at r;exact L q r y (by simp[pad];omega) (λ_=>⟨rfl,rfl⟩) (λN=>absurd (nx.2 ⟨X.symm,λj a x z I=>O j a x (x4.1 I).1 z I⟩) N)
def hZ (D:Told) (o:Int) (t:Λ):Int:=match D.find? (λp=>decide (p.1=t)) with
 |some p=>p.2
 |none=>o
theorem Bu {D:Told} (e:(D.map (·.1)).Nodup) {p q:Λ×Int} (f:p∈D) (m:q∈D) (h:p.1=q.1):p=q:=by
 obtain⟨i,hi⟩:=X1.1 f;obtain⟨j,a⟩:=X1.1 m;have h1:(D.map (·.1))[i]? =σ p.1:=by rw[x8,hi];rfl
 have r:(D.map (·.1))[j]? =σ p.1:=by rw[x8,a,h];rfl
 have:=kc e h1 r;subst this;rw[hi] at a;exact j6 a
theorem ql {D:Told} {o:Int} {t:Λ} (a:(D.map (·.1)).Nodup) (h:(t,c)∈D):hZ D o t=c:=by
 unfold hZ;cases ae:D.find? (λp=>decide (p.1=t)) with
 |none=>
  have:=List.find?_eq_none.1 ae _ h;simp at this
 |some p=>
  have h1:=List.find?_some ae;have h1:p.1=t:=by simpa using h1
  have:=Bu a (List.mem_of_find?_eq_some ae) h h1;rw[this]
theorem qm {D:Told} {o:Int} {t:Λ} (h:∀p∈D,p.1≠t):hZ D o t=o:=by
 unfold hZ;cases ae:D.find? (λp=>decide (p.1=t)) with
 |none=>rfl
 |some p=>
  have h1:=List.find?_some ae;have h1:p.1=t:=by simpa using h1
  exact absurd h1 (h p (List.mem_of_find?_eq_some ae))
def kV (D:Told) (t:Λ) (c o:Int) (D':Told):Prop:=(∀p,p∈D'↔(c≠o/\p=(t,c))\/(p∈D/\p.1≠t))/\D'.length<=D.length+1
theorem kV.cost {D D':Told} {t:Λ} {o:Int} (h:kV D t c o D') (q:(D.map (·.1)).Nodup) (f:(D'.map (·.1)).Nodup) (s:Λ):hZ D' o s=if s=t then c else hZ D o s:=by
 by_cases J:s=t
 .subst J;rw[if_pos rfl];by_cases j:c=o
  .subst j;exact qm λp a he=>by
    rcases (h.1 p).1 a with e|e
    .exact e.1 rfl
    .exact e.2 he
  .exact ql f ((h.1 _).2 (.inl ⟨j,rfl⟩))
 .rw[if_neg J];by_cases he:∃p∈D,p.1=s
  .obtain⟨p,a,rfl⟩:=he;rw[ql (c:=p.2) q a];exact ql f ((h.1 _).2 (.inr ⟨a,J⟩))
  .have m:∀p∈D,p.1≠s:=λp a h=>he ⟨p,a,h⟩;rw[qm m];exact qm λp a e=>by
    rcases (h.1 p).1 a with⟨_,rfl⟩|⟨r,_⟩
    .exact J e.symm
    .exact m p r e
theorem Kv {D:Told} {t:Λ} {o v0:Int} (m:(D.map (·.1)).Nodup) (f:D[j]? =σ (t,v0)) (q:c≠o):kV D t c o (D.set j (t,c)):=by
 have h:=(x4.1 f).1;refine⟨λp=>⟨λa=>?_,λa=>?_⟩,Ξ⟩
 .obtain⟨i,hi⟩:=X1.1 a;by_cases e:j=i
  .subst e;rw[c9 h] at hi;exact .inl ⟨q,(j6 hi).symm⟩
  .rw[Y2 e] at hi;refine .inr ⟨x5 hi,λhe=>e ?_⟩;exact kc m (x:=t) (by rw[x8,f];rfl) (by rw[x8,hi,Z3,he])
 .rcases a with⟨_,rfl⟩|⟨a,r⟩
  .exact x5 (c9 h)
  .obtain⟨i,hi⟩:=X1.1 a;have e:j≠i:=λhe=>by subst he;rw[f] at hi;cases hi;exact r rfl
   exact x5 (by rw[Y2 e];exact hi)
theorem Bv {D:Told} {t:Λ} {o:Int} (a:∀p∈D,p.1≠t) (e:c≠o):kV D t c o (D++[(t,c)]):=by
 refine⟨λp=>?_,Ξ⟩;rw[o7,o9];exact⟨λh=>h.elim (λh=>.inr ⟨h,a p h⟩) (λh=>.inl ⟨e,h⟩),λh=>h.elim (λh=>.inr h.2) (λh=>.inl h.1)⟩
theorem Kw {D:Told} {t:Λ} {o v0:Int} (f:(D.map (·.1)).Nodup) (e:D[j]? =σ (t,v0)):kV D t o o (D.eraseIdx j):=by
 refine⟨λp=>⟨λa=>?_,λa=>?_⟩,by have:=List.length_eraseIdx_le D j;omega⟩
 .refine .inr ?_;obtain⟨i,m,hi⟩:=List.mem_eraseIdx_iff_getElem?.1 a;refine⟨x5 hi,λhe=>m ?_⟩;exact kc f (x:=t) (by rw[x8,hi,Z3,he]) (by rw[x8,e];rfl)
 .rcases a with⟨h,_⟩|⟨a,q⟩
  .exact absurd rfl h
  .obtain⟨i,hi⟩:=X1.1 a;exact List.mem_eraseIdx_iff_getElem?.2 ⟨i,λhe=>by subst he;rw[e] at hi;cases hi;exact q rfl,hi⟩
theorem Kx {D:Told} {t:Λ} {o:Int} (a:∀p∈D,p.1≠t):kV D t o o D:=
 ⟨λp=>⟨λh=>.inr ⟨h,a p h⟩,λh=>h.elim (λh=>absurd rfl h.1) (λh=>h.1)⟩,Ω⟩
theorem Bw {g:Nat} {t:Λ} {o:Int} {D:Told} (h:eF w g m aj k o D) (f:di aj t) (a:(D.map jC)[j]? =σ (dX (pad t),v)):∃c,D[j]? =σ (t,c)/\v=Δ c:=by
 rw[x8] at a;obtain⟨p,e,he⟩:=Y5.1 a;have h1:=Br (h.2.2.2.2 p (x5 e)).1 f (congrArg Prod.fst he);exact⟨p.2,by rw[e,<-h1],(congrArg Prod.snd he).symm⟩
theorem Bx {g:Nat} {t:Λ} {o:Int} {D:Told} (h:eF w g m aj k o D) (a:∀p∈D.map jC,p.1≠dX (pad t)):∀p∈D,p.1≠t:=λp e he=>a (jC p) (n9.2 ⟨p,e,rfl⟩) (by rw[jC,he])
def Ky (w:x3) (g m:Nat) (aj t:Λ) (k o c:Int) (D:Told) (v:x1) (w':x3):Prop:=
 (¬(di aj t/\cn c k)->v=Δ 3/\Ext w w')/\(di aj t/\cn c k->v=Δ 0/\ah (λr=>r=m) w w'/\ ∃D',kV D t c o D'/\eF w' g m aj k o D')
theorem By {g:Nat} {t:Λ} {o:Int} {D:Told} {aL:x1} (h:eF w g m aj k o D) (ae:aF .i64 w aL t):am x7 Hj [Γ g,aL,Δ c] w (Ky w g m aj t k o c D):=by
 refine az func145 ?_;refine (Ku h ae).mono ?_;rintro _ U _ ⟨W,ks,e,rfl,L,af,ag⟩;rw[bi,bj];refine bG cH.i λaq V aE X Y=>?_;refine qj L rfl Y λM ai aH Z=>?_;have aI:=W.size;have aJ:=X.size;have aK:=Y.lt;have G:Ext w M:=(W.trans X).put ai Ω;refine aV (λv N=>v=Δ 0/\(di aj t/\cn c k)/\ah (λr=>r=m) w N/\ ∃D',kV D t c o D'/\eF N g m aj k o D') ?_ ?_
 .rintro _ N ⟨_,h1,C⟩;exact⟨λh=>absurd h1 h,λ_=>⟨rfl,C⟩⟩
 intro ay ak;simp only[bz,al];by_cases ac:di aj t
 rotate_left
 .have he:=ag ac;subst he;exact⟨λ_=>⟨λ_=>⟨rfl,G⟩,λh=>absurd h.1 ac⟩,λh=>by simp at h⟩
 obtain⟨rfl,rfl⟩:=af ac;refine⟨λh=>absurd rfl h,λ_=>?_⟩;have x:=h.ext G;obtain⟨⟨sv,gs,y,hm⟩,H,J,an,ao⟩:=id x;rw[aO fv.p 1 y rfl];refine jx.mono ?_;rintro _ ap _ ⟨rfl,z⟩;have au:=G.trans z;by_cases hi:cn c k
 rotate_left
 .simp only[hi,decide_false,bI,W5,bQ];exact⟨λ_=>⟨rfl,au⟩,λh=>absurd h.2 hi⟩
 simp only[hi,decide_true,bI,Y7,aY];rw[aO fv.p 2 (y.ext z) rfl];simp only[bh,al,en];have aa:=vF (qk J ac);have av:∀ {D':Told},kV D t c o D'-> ∀p∈D',di aj p.1/\cn p.2 k/\p.2≠o:=λhu p aw=>by
  rcases (hu.1 p).1 aw with⟨B,rfl⟩|⟨h1,_⟩
  .exact⟨ac,hi,B⟩
  .exact ao p h1
 have I:∀ {E A:x3} {D':Told},Ext ap E->ah (λr=>r=m) E A->c4 A m (D'.map jC)->kV D t c o D'->ay (Δ 0) A:=by
  intro E A D' f q ax hu;have aA:g≠m:=λhe=>by
   obtain⟨aB,aC,aG,_⟩:=H;have y:M.heap[g]? =_:=y;rw[he,aG] at y;cases y
  have aD:∀r,leads sv r->r≠m:=λr ad he=>by
   subst he;obtain⟨aB,aC,aG,_⟩:=H;obtain⟨_,⟨rfl,_⟩|⟨cap,cs,rfl,K,_⟩⟩:=hm
   .obtain⟨a,n,c,h1,_⟩:=ad;cases h1
   .obtain⟨a,n,c,h1,C⟩:=ad;cases h1;have K:M.heap[gs]? =_:=K;have C:gs=r:=C;rw[C,aG] at K;cases K
  have O:=z.trans f;exact ak _ _ ⟨rfl,⟨ac,hi⟩,((G.trans O).ab _).trans q,D',hu,⟨sv,gs,(y.ext O).ab q aA,bp (hm.ext O) q aD⟩,ax,J,an,av hu⟩
 refine⟨λB E f _ _=>?_,λB E f _ _=>?_⟩
 .rw[aO fv.p 3 ((y.ext z).ext f) rfl,nC L ((Z.ext z).ext f).range];subst B;refine Kg ik.u keys ((H.ext z).ext f) x.oY aa (λj v0 A P s q=>?_) (λA Q s q=>?_)
  .obtain⟨gR,R,_⟩:=Bw x ac P;rw[mu] at s;exact I f q s (Kw x.nodup R)
  .exact I f q s (Kx (Bx x Q))
 .rw[aO fv.p 3 ((y.ext z).ext f) rfl,nC L ((Z.ext z).ext f).range];refine qi ik.u keys ((H.ext z).ext f) x.oY aa (λj v0 A P s q=>?_) (λA Q s q=>?_)
  .obtain⟨gR,R,_⟩:=Bw x ac P;have S:(D.map jC).set j (dX (pad t),Δ c)=(D.set j (t,c)).map jC:=by rw[V7];rfl
   rw[S] at s;exact I f q s (Kv x.nodup R B)
  .have S:D.map jC++[(dX (pad t),Δ c)]=(D++[(t,c)]).map jC:=by rw[b6];rfl
   rw[S] at s;exact I f q s (Bv (Bx x Q) B)
theorem Kz {g:Nat} {t:Λ} {o:Int} {D:Told} {b:Bool} (h:eF w g m aj k o D) (ac:di aj t)
  (h1:∀c,(t,c)∈D->K (if b then .tuple #[Δ c,.bool true] else Δ c)) (r:(∀p∈D,p.1≠t)->K (if b then .tuple #[Δ 0,.bool false] else Δ 0)):
  aa x7 (Instr.lookup ik (.map (σ m)) (dX (pad t)) b) w K:=by
 have e:=vF (qk h.2.2.1 ac);by_cases he:∃p∈D,p.1=t
 .obtain⟨p,a,rfl⟩:=he;obtain⟨j,s⟩:=X1.1 a;rw[qh ik.u keys h.2.1 h.oY e (j:=j) (v:=Δ p.2) (by rw[x8,s];rfl)];exact h1 p.2 a
 .have f:∀p∈D,p.1≠t:=λp a h=>he ⟨p,a,h⟩;rw[su ik.u keys ⟨_,_,ap.i⟩ h.2.1 h.oY e (λq x hk=>by
   obtain⟨p,a,rfl⟩:=n9.1 x;exact f p a (Br (h.2.2.2.2 p a).1 ac hk))]
  exact r f
theorem KA {g:Nat} {o:Int} {D:Told} (h:eF w g m aj k o D):am x7 HT [Γ g] w λv w'=>v=Δ D.length/\Ext w w':=by
 obtain⟨⟨sv,gs,a,hm⟩,e,_⟩:=h;refine az func197 ?_;rw[c5 eO.u];simp only[b9,aY];rw[aO fv.p 3 a rfl,Kh ik.u e];exact⟨Ξ,Ext.refl _⟩
theorem KB {g:Nat} {o:Int} {D:Told} (h:eF w g m aj k o D):am x7 Iw [Γ g] w λv w'=>v=Δ k/\Ext w w':=by
 obtain⟨⟨sv,gs,a,hm⟩,_⟩:=h;refine az func262 ?_;rw[c5 eO.u];simp only[b9,aY];rw[aO fv.p 1 a rfl];exact⟨rfl,Ext.refl _⟩
theorem vH {g:Nat} {o:Int} {D:Told} (h:eF w g m aj k o D):am x7 HU [Γ g] w λv w'=>Ext w w'/\ ∃a,w.heap.size<=a/\au .i64 ai w' a v aj:=by
 obtain⟨⟨sv,gs,e,hm⟩,_,J,_⟩:=h;have f:=J.1;refine az func198 ?_;rw[c5 eO.u];simp only[b9,aY];rw[aO fv.p 0 e rfl];exact kP hm.ls Ω
theorem KC {g:Nat} {o:Int} {D:Told} (h:eF w g m aj k o D):am x7 Ix [Γ g] w λv w'=>v=Δ aj.length/\Ext w w':=by
 refine az func263 ?_;refine (vH h).mono ?_;rintro v U _ ⟨I,a,_,hm⟩;rw[aU an.u hm.ls];exact⟨rfl,I⟩
end Go.Proofs.YtmgflbkdggdhoaaGreatDoor
namespace Go.Vc
open Go Go.RowKit
set_option maxRecDepth 100000
def leadsTo (v:x1) (r:Nat):Prop:=∃a n c,v= .slice (σ a) n c/\a.block=r
theorem fg (h:leadsTo (.slice ν 0 0) r):False:=by
 obtain⟨a,n,c,h,_⟩:=h;cases h
section
variable {α:Type} {f:α->List x1} {k:Nat}
theorem h0:∀ {L:List α},(∀a∈L,(f a).length=k)->(L.flatMap f).length=L.length*k
 |[],_=>Ξ
 |a::L,h=>by
  rw[X5,p9,h a (.head _),h0 λb e=>h b (.tail _ e),c7,V9];omega
theorem qn:∀ {L:List α} (i:Nat),(∀a∈L,(f a).length=k)->(L.flatMap f).take (i*k)=(L.take i).flatMap f
 |[],i,_=>Ξ
 |a::L,0,_=>Ξ
 |a::L,i+1,h=>by
  have e:=h a (.head _);rw[X5,List.take_succ_cons,X5,<-qn i λb j=>h b (.tail _ j),V9,Nat.one_mul,Nat.add_comm,List.take_append,e];congr 1
  .exact j9 Ω
  .congr 1;omega
theorem sx:∀ {L:List α} (i:Nat),(∀a∈L,(f a).length=k)->(L.flatMap f).drop (i*k)=(L.drop i).flatMap f
 |[],i,_=>Ξ
 |a::L,0,_=>Ξ
 |a::L,i+1,h=>by
  have e:=h a (.head _);rw[X5,List.drop_succ_cons,<-sx i λb j=>h b (.tail _ j),V9,Nat.one_mul,Nat.add_comm,List.drop_append,e];rw[List.drop_of_length_le Ω,List.nil_append];congr 1;omega
theorem oZ {L:List α} {i:Nat} {a:α} (h:∀a∈L,(f a).length=k) (hi:L[i]? =σ a) (e:(f a)[j]? =σ v):(L.flatMap f)[i*k+j]? =σ v:=by
 have p:=(x4.1 e).1;rw[<-List.getElem?_drop,sx i h];have m:=x4.1 hi;rw[X7 m.1,m.2,X5,Y1 p];exact e
theorem vI {L:List α} {i:Nat} {a:α} (h:∀a∈L,(f a).length=k) (e:(f a).length=k) (hi:i<L.length):over (L.flatMap f) (i*k) (f a)=(L.set i a).flatMap f:=by
 have m:=h0 h;have j:(i+1)*k<=L.length*k:=X4 _ hi;rw[V9,Nat.one_mul] at j;rw[mg Ω,e,qn i h,show i*k+k=(i+1)*k by rw[V9,Nat.one_mul],sx (i+1) h,List.set_eq_take_append_cons_drop,if_pos hi,List.flatMap_append,X5,T0]
theorem sy {vs:List x1} {o:Nat} (h1:o+vs.length<=m) (a:m<=cs.length):(over cs o vs).take m=over (cs.take m) o vs:=by
 rw[mg Ω,mg (by rw[l9];omega),T0,T0,List.take_append,List.take_append,List.take_take,List.take_take,List.drop_take,l9];rw[show min m o=o by omega,show min o m=o by omega,show min o cs.length=o by omega,j9 (l:=vs) Ω];congr 3;omega
def bg (f:α->List x1) (k:Nat) (e:r8) (w:x3) (g:Nat) (v:x1) (L:List α):Prop:=bT w g e k v L.length (L.flatMap f)/\ ∀a∈L,(f a).length=k
variable {P:W0} {w:x3} {e:r8} {g:Nat} {v:x1} {L:List α}
theorem bg.nil (f:α->List x1) (k:Nat) (e:r8) (w:x3) (g:Nat):bg f k e w g (.slice ν 0 0) []:=⟨bT.nil w g e k,λa h=>by cases h⟩
theorem bg.leads (h:bg f k e w g v L) (j:leadsTo v r):r=g/\g<w.heap.size:=by
 obtain⟨_,⟨rfl,_⟩|⟨cap,cs,rfl,m,_⟩⟩:=h.1
 .exact (fg j).elim
 .obtain⟨a,n,c,h1,p⟩:=j;cases h1;exact⟨p.symm,m.lt⟩
theorem bg.ab (h:bg f k e w g v L) (I:ah S w w') (a:∀r,leadsTo v r->¬S r):bg f k e w' g v L:=
 ⟨⟨h.1.1,h.1.2.imp id λ⟨cap,cs,h1,j,m⟩=>⟨cap,cs,h1,j.ab I (a g ⟨_,_,_,h1,rfl⟩),m⟩⟩,h.2⟩
theorem bg.ext (h:bg f k e w g v L) (I:Ext w w'):bg f k e w' g v L:=h.ab (I.ab λ_=>False) λ_ _ h=>h
theorem bg.sl (h:bg f k e w g v L):ca w k v L.length (L.flatMap f):=h.1.sl
theorem bg.le (h:bg f k e w g v L):L.length<=9223372036854775807:=by
 have:=ca.le h.sl;simpa[maxLen] using this
theorem e9 {a:r8} (j:P.underlying t=σ (.slice e)) (h:bg f k e w g v L):aa P (W6 #[t] a #[v]) w K=K (Δ L.length):=by
 obtain⟨_,_,_,_,_,rfl,_⟩:=h.sl;exact hE j
theorem dr {q:o4} {b:Nat} {i:Nat} (a:y=(i:Int)) (j:P.underlying t=σ (.slice e)) (hi:aS P e k b z) (h:bg f k e w g v L) (m:i<L.length):
  aa P (j5 t v (.int q y)) w K=K (.pointer (σ ⟨g,i*k,ν⟩)):=by
 subst a;obtain⟨_,⟨rfl,p⟩|⟨cap,cs,rfl,r,s⟩⟩:=h.1
 .omega
 .rw[e6 j hi m (λ_=>rfl),X0]
theorem bg.range {i:Nat} {a:α} (h:bg f k e w g v L) (hi:L[i]? =σ a):w.rangeAt g (i*k) (f a):=λj u hu=>by
 have h1:=oZ h.2 hi hu;have r:=(x4.1 hi).1;obtain⟨_,⟨rfl,s⟩|⟨cap,cs,rfl,p,_,_,x,q⟩⟩:=h.1
 .omega
 .have m:=(x4.1 h1).1;rw[h0 h.2] at m;rw[<-q,Z7 m] at h1;exact p.cell h1
theorem KD {b:Nat} {i:Nat} {a:α} {K:Unit->x3->Prop} (hi:aS P t k b z) (h:bg f k e w g v L) (j:(f a).length=k) (h1:∀u∈f a,u.oneCell'=true) (q:i<L.length)
  (y:∀w',ah (λr=>leadsTo v r) w w'->w'.heap.size=w.heap.size->bg f k e w' g v (L.set i a)->K () w'):aC P (o6 t (.pointer (σ ⟨g,i*k,ν⟩)) (.agg (f a).toArray)) w K:=by
 have I:=h0 h.2;have A:(i+1)*k<=L.length*k:=X4 _ q;rw[V9,Nat.one_mul] at A;obtain⟨⟨M,⟨rfl,N⟩|⟨cap,cs,rfl,B,s,C,x,E⟩⟩,m⟩:=h
 .omega
 .have F:L.length*k<=cs.length:=by rw[x];exact X4 _ s
  refine zE hi j h1 B Ω λw' G J H=>y w' (G.mono λr _ he=>⟨_,_,_,rfl,he.symm⟩) J ⟨⟨?_,.inr ⟨cap,_,Ξ,H,by simpa using s,C,by rw[lH,x],?_⟩⟩,λb p=>?_⟩
  .rw[h0 (L:=L.set i a) λb p=>by
    rcases X6 p with h|rfl
    .exact m b h
    .exact j]
  .rw[Z2,<-vI m j q,<-E,sy (by rw[j];omega) F]
  .rcases X6 p with h|rfl
   .exact m b h
   .exact j
theorem o0 {b:Nat} {u:x1} {i:Nat} {a a':α} {K:Unit->x3->Prop} (hi:aS P t 1 b z) (hu:u.cells= #[u]) (h1:u.oneCell'=true) (h:bg f k e w g v L) (q:L[i]? =σ a) (ae:f a'=(f a).set j u) (U:j<k)
  (H:∀w',ah (λr=>leadsTo v r) w w'->w'.heap.size=w.heap.size->bg f k e w' g v (L.set i a')->K () w'):aC P (o6 t (.pointer (σ ⟨g,i*k+j,ν⟩)) u) w K:=by
 have x:=(x4.1 q).1;have V:=h0 h.2;have I:(i+1)*k<=L.length*k:=X4 _ x;rw[V9,Nat.one_mul] at I;have M:(f a).length=k:=h.2 a (x5 q);have m:(f a').length=k:=by rw[ae,Z2];exact M
 have N:(L.flatMap f).set (i*k+j) u=(L.set i a').flatMap f:=by
  rw[<-vI h.2 m x];refine Y6 λp=>?_;rw[ni _ _ _ Ω,Y3,m];by_cases A:i*k<=p/\p<i*k+k
  .rw[if_pos A,ae,Y3];by_cases B:i*k+j=p
   .rw[if_pos B,if_pos Ω,if_pos Ω,if_pos Ω]
   .rw[if_neg B,if_neg Ω];obtain⟨y,C⟩:∃y,(f a)[p-i*k]? =σ y:=⟨_,x6 Ω⟩;have:=oZ h.2 q C;rw[show i*k+(p-i*k)=p by omega] at this;rw[this,C]
  .rw[if_neg A,if_neg Ω]
 obtain⟨⟨W,⟨rfl,X⟩|⟨cap,cs,rfl,O,E,Q,F,R⟩⟩,G⟩:=h
 .omega
 .have Y:L.length*k<=cs.length:=by rw[F];exact X4 _ E
  refine bt hi hu h1 O Ω λw' S J T=>H w' (S.mono λr _ he=>⟨_,_,_,rfl,he.symm⟩) J ⟨⟨?_,.inr ⟨cap,_,Ξ,T,by simpa using E,Q,by rw[Z2,F],?_⟩⟩,λb s=>?_⟩
  .rw[h0 (L:=L.set i a') λb s=>by
    rcases X6 s with h|rfl
    .exact G b h
    .exact m]
  .rw[Z2,<-N,<-R,List.take_set]
  .rcases X6 s with h|rfl
   .exact G b h
   .exact m
theorem iw {H:r8} {b:Nat} {x:x1} {a:α} {K:x1->x3->Prop} (s:P.underlying t=σ (.slice e)) (hi:aS P e k b z) (E:z.cells.size=k) (h:bg f k e w g v L) (I:ca w k x 1 (f a)) (h1:∀u∈f a,u.oneCell'=true)
  (y:(L.length+1)*b<=140737488355328) (F:L.length+1<=9223372036854775807)
  (G:∀j m w',bg f k e w' m j (L++[a])->(∀r,leadsTo j r->leadsTo v r\/w.heap.size<=r)->ah (λr=>leadsTo v r) w w'->K j w'):aC P (b8 #[t,t] H #[v,x]) w K:=by
 have J:(f a).length=k:=by have:=I.1;omega
 have A:∀j m w',bT w' m e k j (L.length+1) (L.flatMap f++f a)->bg f k e w' m j (L++[a]):=λj m w' hm=>⟨by simpa using hm,λb y=>by
  rcases o7.1 y with h'|h'
  .exact h.2 b h'
  .rw[o9.1 h'];exact J⟩
 rcases h.1.2 with⟨ac,M⟩|⟨cap,cs,ac,N,_⟩
 .have hm:bT w w.heap.size e k v L.length (L.flatMap f):=⟨h.1.1,.inl ⟨ac,M⟩⟩;subst ac;refine nk s s hi E hm I h1 (by simpa using y) (by simpa[maxLen] using F) λj m w' B p C=>G j m w' (A _ _ _ p) (λr q=>.inr ?_) (C.mono λr q h=>Ω);have:=((A _ _ _ p).leads q).1;omega
 .refine nk s s hi E h.1 I h1 (by simpa using y) (by simpa[maxLen] using F) λj m w' B p C=>G j m w' (A _ _ _ p) (λr q=>?_) (C.mono λr q h=>⟨_,_,_,ac,h.symm⟩);have:=((A _ _ _ p).leads q).1;rcases B with B|B
  .exact .inl ⟨_,_,_,ac,by show g=r;omega⟩
  .exact .inr Ω
theorem KE {m:r8} {b:Nat} {x:x1} {a:α} {K:x1->x3->Prop} (p:P.underlying t=σ (.slice e)) (hi:aS P e k b z) (q:z.cells.size=k) (h:bg f k e w g v L) (I:ca w k x 1 (f a)) (h1:∀a,∀u∈f a,u.oneCell'=true)
  (s:(L.length+1)*b<=140737488355328) (y:L.length+1<=9223372036854775807)
  (A:∀j B w',bg f k e w' B j (L++[a])->(∀r,leadsTo j r->leadsTo v r\/w.heap.size<=r)->ah (λr=>leadsTo v r) w w'->K j w'):aC P (b8 #[t,t] m #[v,x]) w K:=iw p hi q h I (h1 a) s y A
theorem h2 {b:Nat} {a:α} {x:x1} {K:x1->x3->Prop} (m:P.underlying t=σ (.slice e)) (hi:aS P e k b z) (y:k<=100000) (I:x.cells=(f a).toArray) (j:(f a).length=k)
  (p:∀v g w',g=w.heap.size->Ext w w'->bg f k e w' g v [a]->K v w'):aC P (Y0 t 1 #[(0,x)]) w K:=
 j1 m hi Ω (cs:=x.cells) (zO Ξ (by rw[I];simpa using j)) λg w' q r h=>by
  have h:af w' g e (f a):=by rw[I] at h;simpa using h
  exact p _ g w' q r ⟨by simpa using bT.full (k:=k) (n:=1) h Ω (by simp[maxLen]),λc s=>by rw[o9.1 s];exact j⟩
end
end Go.Vc
namespace Go.Proofs.YtmgflbkdggdhoaaGreatDoor
open Go Go.Vc Go.RowKit Go.Proofs Go.Proofs.Tryz
set_option maxRecDepth 100000
theorem vJ {α:Type}:∀ {l:List α} {j:Nat} {x:α},l[j]? =σ x->(x::l.eraseIdx j).Perm l
 |[],j,x,h=>by simp at h
 |a::l,0,x,h=>by simp at h;subst h;exact List.Perm.refl _
 |a::l,j+1,x,h=>by
  simp at h;rw[List.eraseIdx_cons_succ];exact (List.Perm.swap a x _).trans ((vJ h).cons a)
theorem Bz {α:Type} {l:List α} (h:j<l.length):(l.eraseIdx j).length+1=l.length:=by
 rw[List.length_eraseIdx,if_pos h];omega
def o1 (w:x3) (a:Nat):Nat:=match w.heap[a]? with
 |some (.mapIter (σ m) _ seen _)=>(match w.heap[m]? with
  |some (.map e _)=>(leftOf e seen).size
  |_=>0)
 |_=>0
theorem sz {d left:List (x1×x1)} {e:Option (x1×x1)} (h:hs w a m d left e):o1 w a=left.length:=by
 obtain⟨j,p,seen,gR,h1,_,_,f,_,rfl,_⟩:=h;unfold o1;rw[f];simp only;rw[h1];simp
theorem KF {w0:x3} {d d0 left:List (x1×x1)} {e:Option (x1×x1)} (h:hs w a m d left e) (hm:c4 w0 m d0) (h1:Ext w0 w) (j:Ext w0 w') (hi:eU w w'):hs w' a m d left e:=by
 obtain⟨p,c,s,gR,q,r,x,y,z⟩:=h;obtain⟨A,B,f1,_⟩:=hm;have g1:=h1.aZ m _ f1 rfl;have f:=j.aZ m _ f1 rfl;rw[q] at g1;rw[<-g1] at f;exact⟨p,c,s,gR,f,r,x,hi a _ y rfl,z⟩
abbrev nD (w:x3) (g:Nat) (v:x1) (L:List (Λ)):Prop:=bg (ints .i8) 6 cH w g v L
theorem BA {k:o4}:∀u∈ints k l,u.oneCell'=true:=λu hu=>by
 obtain⟨x,_,rfl⟩:=n9.1 hu;rfl
theorem keysIter {dc:Nat} {d:List (x1×x1)} {KS:List (Λ)} {w0:x3} (Q:af w0 dc ik [.map (σ m)]) (hm:c4 w0 m d) (R:d.map (·.1)=KS.map dX) (S:∀ks∈KS,ks.length=6):
  oi x7 true lA [Γ dc] ([]:List (Λ)) (λh=>h.Perm KS) (λh vs h' _=>∃ks∈KS,h.length<KS.length/\vs=[dX ks]/\h'=h++[ks]) (λw=>Ext w0 w):=by
 refine⟨lA.enters,λl ay aF w f _ W I X=>?_⟩;refine pQ func260 ?_;rw[aA Ψ ((Q.ext I).Qz rfl)];refine aC.ct (Bk ik.u (hm.ext I) λA U Y q aG Z aa=>?_);refine⟨λV=>∃h a left B,ay h V/\Ext w0 V/\w.heap.size<=V.heap.size/\hs V A m d left B/\left.map (·.1)=a.map dX/\(h++a).Perm KS,λV=>o1 V A,
  ⟨[],KS,d,ν,f _ _ _ q aa.b X,I.trans q,q.size,Z,R,List.Perm.refl _⟩,?_⟩
 rintro V ⟨h,a,left,B,C,ab,aH,E,r,e⟩;have ac:left.length=a.length:=by have:=congrArg S7 r;simpa using this
 refine Bm E (λh=>by cases h) (λad=>?_) (λj p ae G H ag J=>?_)
 .rw[im (v:=.bool false) rfl,aY];subst ad;have:a=[]:=c8 (by rw[<-ac];rfl);subst this;rw[U2] at e;exact .inl ⟨h,e,C⟩
 .rw[im (v:=.bool true) rfl,bQ];refine Bn J ?_;obtain⟨ks,s,ah⟩:∃ks,a[j]? =σ ks/\p.1=dX ks:=by
   have h1:(left.map (·.1))[j]? =σ p.1:=by rw[x8,G];rfl
   rw[r,x8] at h1;obtain⟨ks,K,ai⟩:=Y5.1 h1;exact⟨ks,K,ai.symm⟩
  have L:ks∈KS:=e.mem_iff.1 (o7.2 (.inr (x5 s)));have M:=S ks L;rw[im (v:=p.1) rfl,ah];refine aC.ct (bG cH.i λaI aJ aK aj ak al=>?_);refine aC.ct (qj M rfl ak λx am aL an ao=>?_);rw[nC M an.range];have y:Ext ae x:=aj.put am Ω;have N:=al.trans ao;have O:Ext w0 x:=(ab.trans H).trans y;have ap:=f _ _ _ H (by rw[<-Y];exact ag) C;have aq:=f _ _ _ y N.b ap;have au:=J.ext y N.jT;have av:h.length<KS.length:=by
   have h1:=e.length_eq;have K:=(x4.1 s).1;rw[p9] at h1;omega
  refine⟨rfl,(W h (h++[ks]) _ x O ⟨ks,L,av,rfl,rfl⟩ aq).mono ?_⟩;rintro _ aw (⟨rfl,P,ax,az⟩|⟨rfl,aB⟩)
  .simp only[bI,Y7,aY];have z:=KF au hm O P (az rfl).jT;have aD:w.heap.size<=aw.heap.size:=by
    obtain⟨_,_,_,_,_,_,_,aE,_⟩:=z;have:=(o8.1 aE).1;omega
   refine⟨⟨h++[ks],a.eraseIdx j,left.eraseIdx j,σ p,ax,P,aD,z,?_,?_⟩,?_⟩
   .rw[<-mu,r,mu]
   .refine List.Perm.trans ?_ e;rw[T0];exact List.Perm.append_left h (vJ s)
   .rw[sz z,sz E];have:=Bz (x4.1 G).1;omega
  .simp only[bI,W5,bQ];exact .inr ⟨h,aB⟩
theorem KG:am x7 H9 [.map (σ m)] w λr w'=>Ext w w'/\ ∃g,r= .func (.func lA) #[] #[Γ g]/\w.heap.size<=g/\af w' g ik [.map (σ m)]:=by
 refine az func222 ?_;refine bo λg U f a e=>?_;rw[iR];exact⟨a,g,rfl,Ω,e⟩
theorem KH {dc:Nat} {d:List (x1×x1)} {KS:List (Λ)} (W:af w dc ik [.map (σ m)]) (hm:c4 w m d) (X:d.map (·.1)=KS.map dX) (C:∀ks∈KS,ks.length=6) (aD:KS.length<=1000000):
  am x7 IB [.slice ν 0 0,.func (.func lA) #[] #[Γ dc]] w λv w'=>Ext w w'/\ ∃g L,(∀r,leadsTo v r->w.heap.size<=r)/\L.Perm KS/\nD w' g v L:=by
 refine iQ func275 ?_;refine bo λgs U aE E q=>?_;have q:af U gs iP [.slice ν 0 0]:=q;have aF:=q.lt;refine ln.old ⟨List (Λ),true,_,_,_,_,_,_,λh w'=>ah (λr=>w.heap.size<=r) w w'/\ ∃v g,af w' gs iP [v]/\(∀r,leadsTo v r->w.heap.size<=r/\r≠gs)/\nD w' g v h,λ_ _ _=>False,rfl,keysIter W hm X C,?_,λ_ _ I h=>h.trans I,
  λ_ _ _ I h=>⟨h.1.trans (I.ab _),by obtain⟨v,g,h1,Y,Z⟩:=h.2;exact⟨v,g,h1.ext I,Y,Z.ext I⟩⟩,λ_ _ _ _ _ h=>h,E,⟨E.ab _,_,0,q,λr h=>(fg h).elim,bg.nil _ _ _ _ _⟩,?_,?_,λ_ _ h=>h.elim,λ_ _ _ h=>h.elim⟩
 .rintro h _ h' w' ⟨ks,_,_,rfl,_⟩;rfl
 .rintro a h h' V aa ⟨ks,ad,aG,ae,rfl⟩ ⟨G,v,g,y,j,ac⟩;cases ae;have z:=C ks ad;have aH:h.length<=1000000:=Ω
  refine aC.ct (bG cH.i λaI aJ aK ag H ai=>?_);refine aC.ct (qj z rfl H λaj ak aL al an=>?_);intro aM J _ ao;have aN:=H.lt;have ap:Ext V aj:=ag.put ak Ω;have p:=ap.trans J;rw[aA Ψ ((y.ext p).Qz rfl),nC z (al.ext J).range];refine aC.ct (h2 (f:=ints .i8) (a:=ks) iP.u cH.i Ω (by simp[dX,x1.cells]) (by simp[z]) λa ga aO aP s aq au=>?_);have K:=aq.sl;rw[X5,List.flatMap_nil,U2] at K;refine aC.ct (KE iP.u cH.i rfl ((ac.ext p).ext s) K (λa=>BA) Ω Ω λM av N A aw x ax=>?_);have aQ:=G.size;have aR:=p.size;have aS:=s.size;have aT:=y.lt;have O:∀r,leadsTo M r->w.heap.size<=r/\r≠gs:=λr e=>by
   rcases aw r e with h|h
   .exact j r h
   .omega
  have B:af N gs iP [v]:=((y.ext p).ext s).ab x (λh=>(j gs h).2 rfl);refine aC.ct (bt iP.i (by obtain⟨_,_,_,_,_,rfl,_⟩:=A.sl;rfl) (by obtain⟨_,_,_,_,_,rfl,_⟩:=A.sl;rfl) B Ξ λP Q aU ay az=>?_);have R:ah (λr=>w.heap.size<=r) V P:=(((p.trans s).ab _).trans (x.mono λr _ h=>(j r h).1)).trans (Q.mono λr _ h=>by show w.heap.size<=r;omega);refine⟨aa.then R (λr e h=>by have h:w.heap.size<=r:=h;omega),⟨G.trans R,M,av,ay,O,A.ab Q λr e h=>(O r e).2 h⟩,λ_=>?_⟩;exact ((((ai.jT.trans an.jT).trans ao).trans au.jT).trans ax.jT).trans az.jT
 .rintro h N aB ⟨x,v,g,B,j,ac⟩;rw[aA Ψ (B.Qz rfl)];intro P S _;exact⟨(x.ext λr e h=>by have:w.heap.size<=r:=h;omega).trans S,g,h,λr e=>(j r e).1,aB,ac.ext S⟩
theorem KI {dc:Nat} {d:List (x1×x1)} {KS:List (Λ)} (a:af w dc ik [.map (σ m)]) (hm:c4 w m d) (e:d.map (·.1)=KS.map dX) (f:∀ks∈KS,ks.length=6) (j:KS.length<=1000000):
  am x7 It [.func (.func lA) #[] #[Γ dc]] w λv w'=>Ext w w'/\ ∃g L,(∀r,leadsTo v r->w.heap.size<=r)/\L.Perm KS/\nD w' g v L:=by
 refine az func258 ?_;exact (KH a hm e f j).mono λ_ _ _ h=>h
def gq:Λ->Int
 |[]=>0
 |x::l=>x*32 ^ l.length+gq l
theorem vK (n:Nat):(0:Int)<32 ^ n:=Int.pow_pos Ω
theorem sA:∀ (l:Λ),(∀x∈l,0<=x/\x<32)->0<=gq l/\gq l<32 ^ l.length
 |[],_=>by simp[gq]
 |x::l,h=>by
  have f:=sA l λy a=>h y (.tail _ a);have I:=h x (.head _);have j:=vK l.length;simp only[gq,c7];have e:(32:Int) ^ (l.length+1)=32*32 ^ l.length:=by rw[Int.pow_succ,Int.mul_comm]
  have h1:x*32 ^ l.length<=31*32 ^ l.length:=Int.mul_le_mul_of_nonneg_right Ω Ω;have m:0<=x*32 ^ l.length:=Int.mul_nonneg I.1 Ω;rw[e];omega
def h3:Λ->Λ->Int
 |x::a,y::b=>if x<y then-1 else if y<x then 1 else h3 a b
 |_,_=>0
theorem BB:∀ (a b:Λ),a.length=b.length->(∀x∈a,0<=x/\x<32)->(∀x∈b,0<=x/\x<32)->(h3 a b<0↔gq a<gq b)/\(gq a=gq b->a=b)
 |[],[],_,_,_=>by simp[h3]
 |[],_::_,h,_,_=>by simp at h
 |_::_,[],h,_,_=>by simp at h
 |x::a,y::b,h,r,s=>by
  have j:a.length=b.length:=by simpa using h
  have m:∀x∈a,0<=x/\x<32:=λz e=>r z (.tail _ e);have p:∀x∈b,0<=x/\x<32:=λz e=>s z (.tail _ e);have q:=BB a b j m p;have w:=sA a m;have B:=sA b p;have C:=vK b.length;simp only[h3,gq];rw[j] at w ⊢;have step:∀u v:Int,u<v->u*32 ^ b.length+32 ^ b.length<=v*32 ^ b.length:=λu v E=>by
   have:=Int.mul_le_mul_of_nonneg_right (show u+1<=v by omega) (show (0:Int)<=32 ^ b.length by omega);rw[Int.add_mul,Int.one_mul] at this;exact this
  by_cases h1:x<y
  .rw[if_pos h1];have:=step x y h1;exact⟨⟨λ_=>Ω,λ_=>Ω⟩,λh=>Ω⟩
  .rw[if_neg h1];by_cases f:y<x
   .rw[if_pos f];have:=step y x f;exact⟨⟨λh=>Ω,λh=>Ω⟩,λh=>Ω⟩
   .rw[if_neg f];have A:x=y:=Ω
    subst A;exact⟨q.1.trans ⟨λh=>Ω,λh=>Ω⟩,λh=>by rw[q.2 Ω]⟩
theorem vL:∀ {a b:Λ} {i:Nat},(∀ (j:Nat) (x y:Int),j<i->a[j]? =σ x->b[j]? =σ y->x=y)->i<=a.length->i<=b.length->h3 a b=h3 (a.drop i) (b.drop i)
 |_,_,0,_,_,_=>Ξ
 |[],_,i+1,_,h,_=>by simp at h
 |_::_,[],i+1,_,_,h=>by simp at h
 |x::a,y::b,i+1,he,h1,e=>by
  have f:=he 0 x y Ω rfl rfl;subst f;simp only[h3,Int.lt_irrefl,if_false,List.drop_succ_cons];exact vL (λj u v m hu ac=>he (j+1) u v Ω hu ac) (by simpa using h1) (by simpa using e)
theorem BC {x:Int}:am x7 IA [.int .i8 x] w λv w'=>v= .bool false/\Ext w w':=by
 refine az func274 ?_;simp only[bz];exact⟨Ξ,Ext.refl _⟩
theorem KJ {x:Int}:am x7 Is [.int .i8 x,.int .i8 y] w λv w'=>v=Δ (if x<y then-1 else if y<x then 1 else 0)/\Ext w w':=by
 refine az func257 ?_;refine BC.mono ?_;rintro _ U _ ⟨rfl,a⟩;refine BC.mono ?_;rintro _ V _ ⟨rfl,e⟩;simp only[aY,aN,bR,al];exact⟨λh=>⟨by rw[if_pos h],a.trans e⟩,λh=>⟨λf=>⟨by rw[if_neg h,if_pos f],a.trans e⟩,λf=>⟨by rw[if_neg h,if_neg f],a.trans e⟩⟩⟩
theorem KK {ba bv:x1} {a b:Λ} (p:aF .i8 w ba a) (r:aF .i8 w bv b) (Q:a.length=b.length):am x7 H7 [ba,bv] w λv w'=>v=Δ (h3 a b)/\Ext w w':=by
 refine az func220 ?_;have R:=p.le;rw[aU kJ.u p];refine bX.range a.length (λi _ U=>Ext w U/\ ∀ (j:Nat) (x y:Int),j<i->a[j]? =σ x->b[j]? =σ y->x=y) Ω ⟨Ext.refl _,λj x y G=>Ω⟩ ?_ ?_
 .rintro i _ U H hi ⟨e,q⟩ J;simp only[aN,al];refine⟨λ_=>?_,λh=>Ω⟩;obtain⟨x,I⟩:=aH (l:=a) hi;obtain⟨y,s⟩:=aH (l:=b) (i:=i) Ω;rw[be kJ.u fN.i Ψ (p.ext e) I,aU kJ.u (r.ext e)];simp only[cO,al];refine⟨λh=>Ω,λ_=>?_⟩;rw[be kJ.u fN.i Ψ (r.ext e) s];refine KJ.mono ?_;rintro _ V _ ⟨rfl,B⟩;have f:h3 a b=h3 (a.drop i) (b.drop i):=vL q Ω Ω;have K:a.drop i=x::a.drop (i+1):=by rw[X7 hi,(x4.1 I).2]
  have L:b.drop i=y::b.drop (i+1):=by rw[X7 Ω,(x4.1 s).2]
  rw[K,L] at f;simp only[h3] at f;simp only[bz,al,aM];refine⟨λC=>⟨?_,e.trans B⟩,λM=>J _ _ ⟨e.trans B,λj N O G z A=>?_⟩⟩
  .rw[f];by_cases h1:x<y
   .rw[if_pos h1,if_pos h1]
   .by_cases m:y<x
    .rw[if_neg h1,if_pos m,if_neg h1,if_pos m]
    .rw[if_neg h1,if_neg m] at C;exact absurd rfl C
  .by_cases P:j=i
   .subst P;rw[I] at z;rw[s] at A;cases z;cases A;have E:=Z9.1 M;by_cases h1:x<y
    .rw[if_pos h1] at E;omega
    .by_cases m:y<x
     .rw[if_neg h1,if_pos m] at E;omega
     .omega
   .exact q j N O Ω z A
 .rintro _ U H ⟨e,q⟩;simp only[aN,show decide ((a.length:Int)<(a.length:Int))=false from decide_eq_false Ω,aY];rw[aU kJ.u (p.ext e),aU kJ.u (r.ext e)];simp only[aN,al];refine⟨λh=>Ω,λ_=>⟨?_,e⟩⟩;have f:h3 a b=h3 (a.drop a.length) (b.drop a.length):=vL q Ω Ω;rw[f,List.drop_length];cases b.drop a.length<;>rfl
theorem KL {a b:Λ} (p:kU a) (q:kU b):am x7 zs [dX a,dX b] w λv w'=>Ext w w'/\v=Δ (h3 a b):=by
 have B:∀ {c:Λ},kU c->(ints .i8 c).length=6:=λh=>by simp[h.1]
 refine az func219 ?_;refine bo λg1 U C y e=>?_;refine bo λE V G r f=>?_;rw[Bo] at e f;intro s j _ _;have e:=(e.ext r).ext j;have f:=f.ext j;rw[rV cH.u fN.i (l:=0) (h:=6) (m:=6) ju jv fw Ω Ω Ω,rV cH.u fN.i (l:=0) (h:=6) (m:=6) ju jv fw Ω Ω Ω];rw[if_neg Ω,if_neg Ω];have ls:∀ {g:Nat} {c:Λ},kU c->af s g cH (ints .i8 c)->aF .i8 s (.slice (σ ⟨g,0+0*1,ν⟩) (6-0) (6-0)) c:=λ{g c} x z=>by
  unfold aF;refine⟨Ξ,g,0,_,6,by rw[x.1],by rw[x.1];omega,by simp[maxLen],λ_=>rfl,z.range⟩
 refine (KK (ls p e) (ls q f) (by rw[p.1,q.1])).mono ?_;rintro _ H _ ⟨rfl,A⟩;exact⟨((y.trans r).trans j).trans A,rfl⟩
end Go.Proofs.YtmgflbkdggdhoaaGreatDoor
namespace Go.Vc
open Go Go.RowKit Go.Shelf Go.Proofs Go.Sort
theorem grown_of (I:Ext w w') (a:cL w w'):∃q os,w'=grow (w.drewN q) os:=by
 refine⟨w'.drawn-w.drawn,w'.heap.extract w.heap.size w'.heap.size,?_⟩;have hk:∀k,k<w.heap.size->w'.heap[k]? =w.heap[k]?:=λk hk=>by
  have e:w.heap[k]? =σ w.heap[k]:=Array.getElem?_eq_getElem hk;rw[e];cases J:fm w.heap[k] with
  |true=>exact I.aZ k _ e J
  |false=>exact a.aZ k _ e J
 have aG:w'.heap=w.heap++w'.heap.extract w.heap.size w'.heap.size:=by
  apply Array.ext_getElem?;intro k;rw[Array.getElem?_append];by_cases h:k<w.heap.size
  .rw[if_pos h,hk k h]
  .rw[if_neg h,Array.getElem?_extract];have:=I.size;by_cases f:k<w'.heap.size
   .rw[if_pos Ω];congr 1;omega
   .rw[if_neg Ω,Array.getElem?_eq_none Ω]
 have h1:=a.os;have f:=a.tape.1;have j:=a.output;have m:w.drawn+(w'.drawn-w.drawn)=w'.drawn:=by have:=a.tape.2;omega
 cases w';simp only[grow,x3.drewN] at*;subst h1 f j;rw[<-aG,m]
section
variable {α:Type} [Inhabited α]
theorem BD (enc:α->List x1) (k:Nat) (hk:∀x,(enc x).length=k) (d:Array α):(flatK enc k d).toList=d.toList.flatMap enc:=by
 apply Y6;intro t;by_cases h:t<d.size*k
 .have j:0<k:=by
   rcases Q0 k with e|e
   .rw[e] at h;simp at h
   .exact e
  have m:t / k<d.size:=(Nat.div_lt_iff_lt_mul j).2 h;have p:=Nat.mod_lt t j;have q:(flatK enc k d).toList[t]? =σ ((enc d[t / k]!)[t % k]!):=by
   rw[S5,Array.getElem?_eq_getElem (by simpa using h)];have:=get_flatK enc k d t h;rw[getElem!_pos _ t (by simpa using h)] at this;rw[this]
  have r:d.toList[t / k]? =σ d[t / k]!:=by
   rw[S5,Array.getElem?_eq_getElem m,getElem!_pos d _ m]
  have ac:(enc d[t / k]!)[t % k]? =σ ((enc d[t / k]!)[t % k]!):=by
   generalize d[t / k]! =z;rw[x6 (by rw[hk];exact p),getElem!_pos (enc z) _ (by rw[hk];exact p)]
  have:=oZ (f:=enc) (k:=k) (λa _=>hk a) r ac;rw[q,<-this];congr 1;rw[Nat.mul_comm];exact Nat.div_add_mod t k
 .rw[Z6 (by simpa using h),Z6];rw[h0 (k:=k) λa _=>hk a];simpa using h
theorem BE (enc:α->List x1) (k:Nat) (hk:∀x,(enc x).length=k) {g:Nat} {d:Array α} {os:Array Obj} (h:af w g e cs) (y:d.size*k<=cs.length):
  af (sortWorldK enc k w g 0 m d os) g e (d.toList.flatMap enc++cs.drop (d.size*k))/\ ∀r,r<w.heap.size->r≠g->(sortWorldK enc k w g 0 m d os).heap[r]? =w.heap[r]?:=by
 have q:=h.lt;have p:∀r,r<w.heap.size->(sortWorldK enc k w g 0 m d os).heap[r]? =(w.heap.modify g (onCells (putCells id 0 (flatK enc k d))))[r]?:=λr j=>by
  show ((w.heap.modify g (onCells (putCells id 0 (flatK enc k d))))++os)[r]? =_;rw[Array.getElem?_append_left (by simpa using j)]
 refine⟨?_,λr j s=>?_⟩
 .unfold af at h ⊢;rw[p g q,Array.getElem?_modify,if_pos rfl,h];show σ (Obj.cells (putCells id 0 (flatK enc k d) cs.toArray) e (0,0))=_;refine congrArg σ (congrArg (λc=>Obj.cells c e (0,0)) ?_);apply Array.ext';apply Y6;intro t;show _=(d.toList.flatMap enc++cs.drop (d.size*k))[t]?;rw[List.getElem?_append,h0 (k:=k) λa _=>hk a,S5];unfold putCells;rw[Array.getElem?_mapIdx,List.getElem?_toArray];have J:d.toList.length=d.size:=rfl;by_cases f:t<d.size*k
  .rw[if_pos (by rw[J];exact f),x6 Ω,<-BD enc k hk,S5,Array.getElem?_eq_getElem (by simpa using f)];simp only[Z3,id];rw[if_pos (by simpa using f),Nat.sub_zero,getElem!_pos _ t (by simpa using f)]
  .rw[if_neg (by rw[J];exact f),List.getElem?_drop,J,show d.size*k+(t-d.size*k)=t by omega];cases z:cs[t]? with
   |none=>rfl
   |some x=>
    simp only[Z3];rw[if_neg Θ]
 .rw[p r j,Array.getElem?_modify,if_neg (Ne.symm s)]
end
theorem BF {P:W0} {C:Ren} (V:SlLaysF0.n6 P C) {α:Type} {f:α->List x1} {k:Nat} {G:α->Prop} {num:α->Int} {cf:α->α->Int} {E:R4} {cap:Array x1}
  (aB:∀w,(isAgg (C.t 24)).run P w= .ok true w) (aC:∀w,(Go.sizeOf (C.t 24)).run P w= .ok k w) (h1:∀a,G a-> ∀u∈f a,u.oneCell'=true) (hk:∀a,G a->(f a).length=k)
  (aD:∀a b,G a->G b->(cf a b<0↔num a<num b)) (ag:Enters P E) {w:x3} {g:Nat} {v:x1} {L:List α} (h:bg f k e w g v L) (H:∀a∈L,G a) (ai:L.length<65536)
  (aE:∀W a b,ah (λr=>r=g) w W->G a->G b->am P E ([.agg (f a).toArray,.agg (f b).toArray]++cap.toList) W λu aF=>Ext W aF/\u=Δ (cf a b)):
  am P (C.f 6) [v,.func (.func E) #[] cap] w λ_ w'=>ah (λr=>leadsTo v r) w w'/\ ∃M,M.Perm L/\(∀ (p q:Nat) (x y:α),p<q->M[p]? =σ x->M[q]? =σ y->num x<=num y)/\bg f k e w' g v M:=by
 have aj:Enters P (C.f 6):=λargs w=>V.f6.enters rfl args w;obtain⟨⟨aX,ac⟩,aY⟩:=id h;have ak:∀p c,v= .slice p 0 c->L=[]->am P (C.f 6) [v,.func (.func E) #[] cap] w λ_ w'=>ah (λr=>leadsTo v r) w w'/\ ∃M,M.Perm L/\(∀ (p q:Nat) (x y:α),p<q->M[p]? =σ x->M[q]? =σ y->num x<=num y)/\bg f k e w' g v M:=λp c K ai=>by
  refine .code aj ?_;rw[K];refine (AnyF.slices_SortFunc_none V p c _ w).mono ?_;rintro aZ w' ⟨rfl,rfl⟩;refine⟨_,rfl,cL.refl _,ah.refl _ _,L,.refl _,λp q x y _ I=>by rw[ai] at I;simp at I,by rw[<-K];exact h⟩
 rcases ac with⟨rfl,aG⟩|⟨c,cs,rfl,B,al,hm,X,aH⟩
 .exact ak _ _ rfl (c8 aG)
 cases Y:L with
 |nil=>subst Y;exact ak _ _ rfl rfl
 |cons a0 a1=>
 rw[<-Y];let β:={a:α // G a};have:Inhabited β:=⟨⟨a0,H a0 (by rw[Y];exact .head _)⟩⟩;let enc:β->List x1:=λx=>f x.1;let d:Array β:=(L.attach.map λx=>(⟨x.1,H x.1 x.2⟩:β)).toArray;have an:d.toList.map Subtype.val=L:=by
  show (L.attach.map λx=>(⟨x.1,H x.1 x.2⟩:β)).map Subtype.val=L;rw[S8];exact List.attach_map_subtype_val L
 have Q:d.size=L.length:=by simp[d]
 have F:∀x:β,(enc x).length=k:=λx=>hk x.1 x.2;have aI:d.toList.flatMap enc=L.flatMap f:=by
  have N:=congrArg (λl=>l.flatMap f) an;rw[<-N];exact (List.flatMap_map Subtype.val f d.toList).symm
 have R:d.size*k<=cs.length:=by rw[Q,X];exact X4 k al
 have aJ:HoldsK enc k w g 0 d:=by
  intro j S;rw[size_flatK] at S;have ao:j<cs.length:=Ω
  have Z:(flatK enc k d)[j]! =cs[j]:=by
   have N:(flatK enc k d).toList[j]? =σ cs[j]:=by
    rw[BD enc k F,aI,<-aH,Z7 (by rw[<-Q];exact S),x6 ao]
   rw[S5] at N;rw[getElem!_pos _ j (by simpa using S)];rw[Array.getElem?_eq_getElem (by simpa using S)] at N;exact j6 N
  refine⟨?_,?_⟩
  .show w.cell? ⟨g,0+j,ν⟩=σ ((flatK enc k d)[j]!);rw[Z];exact B.cell (o:=0+j) (by rw[X0];exact x6 ao)
  .unfold x3.frozen?;unfold af at B;rw[B];simp
 have T:∀x y:β,ltOf (λx y:β=>cf x.1 y.1) x y=decide (num x.1<num y.1):=λx y=>by
  unfold ltOf;exact decide_eq_decide.2 (aD x.1 y.1 x.2 y.2)
 have aK:SWO (ltOf λx y:β=>cf x.1 y.1):=
  ⟨λx=>by rw[T];simp,λx y z p q=>by rw[T] at*;simp at*;omega,λx y z p q=>by rw[T] at*;simp at*;omega⟩
 have ap:∀m (d2:Array β) os,d2.size=d.size->ah (λr=>r=g) w (sortWorldK enc k w g 0 m d2 os)/\cL w (sortWorldK enc k w g 0 m d2 os):=λm d2 os J=>by
  obtain⟨a2,aq⟩:=BE enc k F (m:=m) (os:=os) B (d:=d2) (by rw[J];exact R);have au:w.heap.size<=(sortWorldK enc k w g 0 m d2 os).heap.size:=by
   show w.heap.size<=((w.heap.modify g _)++os).size;simp
  refine⟨⟨au,λr o A _ aa=>?_⟩,rfl,⟨rfl,Nat.le_add_right _ _⟩,rfl,au,λr o A J=>?_⟩
  .rw[aq r (o8.1 A).1 aa];exact A
  .have aa:r≠g:=λhe=>by subst he;unfold af at B;rw[B] at A;cases A;cases J
   rw[aq r (o8.1 A).1 aa];exact A
 have aL:CmpLays P E cap enc k (λx y:β=>cf x.1 y.1) g 0 d.size w:=λm os aM J x y=>by
  have I:=(aE _ x.1 y.1 (ap m aM os J).1 x.2 y.2).calls ag;have O:([x1.agg (f x.1).toArray,.agg (f y.1).toArray]++cap.toList).toArray= #[.agg (enc x).toArray,.agg (enc y).toArray]++cap:=by
   apply Array.ext';simp[enc]
  rw[O] at I;refine I.mono ?_;rintro _ w' ⟨_,rfl,aN,aO,rfl⟩;exact⟨rfl,grown_of aO aN⟩
 have av:=AnyQ.slices_SortFunc V k aB aC enc F (λx=>h1 x.1 x.2) (λx y:β=>cf x.1 y.1) aK E cap g 0 c d w (λargs w=>ag args w) aL aJ B.lt (by rw[Q];omega);rw[Q] at av;refine .code aj (av.mono ?_);rintro _ w' ⟨rfl,s,n,os,⟨aP,_,K⟩,aQ,rfl⟩;have ab:s.size=d.size:=aP;obtain⟨aR,aS⟩:=ap n s os ab;obtain⟨aT,_⟩:=BE enc k F (m:=n) (os:=os) B (d:=s) (by rw[ab];exact R);have U:(s.toList.map Subtype.val).Perm L:=by
  have Z:(s.extract 0 L.length).toList=s.toList:=by rw[show L.length=s.size by omega,Array.extract_size]
  have aU:(d.extract 0 L.length).toList=d.toList:=by rw[show L.length=d.size by omega,Array.extract_size]
  rw[Z,aU] at K;rw[<-an];exact K.map _
 have aw:=U.length_eq;refine⟨_,rfl,aS,aR.mono λr _ A=>⟨_,_,_,rfl,A.symm⟩,s.toList.map Subtype.val,U,λp q x y aV I ax=>?_,⟨?_,.inr ⟨c,_,by rw[aw],aT,by rw[aw];exact al,hm,?_,?_⟩⟩,λa O=>hk a (H a (U.mem_iff.1 O))⟩
 .rw[x8,Y5] at I ax;obtain⟨a6,ay,rfl⟩:=I;obtain⟨a7,az,rfl⟩:=ax;rw[S5] at ay az;have aA:=(o8.1 ay);have ad:=(o8.1 az);have:=aQ p q (X3 _) aV (by have:=ad.1;omega);rw[getElem!_pos s p aA.1,getElem!_pos s q ad.1,aA.2,ad.2,T] at this;simpa using this
 .rw[h0 (k:=k) λa O=>hk a (H a (U.mem_iff.1 O))]
 .have ae:(s.toList.flatMap enc).length=s.size*k:=by rw[h0 (k:=k) λa _=>F a];rfl
  rw[p9,ae,List.length_drop,ab,X];rw[X] at R;exact Nat.add_sub_cancel' R
 .have ae:(s.toList.flatMap enc).length=s.size*k:=by rw[h0 (k:=k) λa _=>F a];rfl
  have aW:(List.map Subtype.val s.toList).length*k=(s.toList.flatMap enc).length:=by rw[ae,u7];rfl
  rw[aW,List.take_left,List.flatMap_map]
end Go.Vc
namespace Go.Proofs
open Go.Shelf
def Tryz.vM:Go.Shelf.Ren:=⟨λ|6=>259|15=>211|14=>276|28=>252|29=>253|20=>291|21=>292|22=>293|23=>294|24=>295|25=>296|26=>297|27=>298|46=>306|47=>268|48=>269|49=>307|50=>308|57=>311|n=>n,λ|22=>317|24=>289|25=>316|3=>3|39=>282|0=>0|53=>340|55=>82|4=>4|46=>334|45=>333|50=>271|5=>5|9=>9|66=>351|70=>355|76=>375|77=>376|n=>n,λ|n=>n⟩
theorem Tryz.KM:Go.Proofs.SlLaysF0.n6 Tryz.prog Tryz.vM:={
 mixed:=Ψ,
 f6:=⟨Tryz.f259.name,Φ,Tryz.func259.trans (congrArg σ Ψ)⟩,
 f14:=⟨Tryz.f276.name,Φ,Tryz.func276.trans (congrArg σ Ψ)⟩,
 f15:=Tryz.func211.trans (congrArg σ Ψ),
 f20:=⟨Tryz.f291.name,Φ,Tryz.func291.trans (congrArg σ Ψ)⟩,
 f21:=⟨Tryz.f292.name,Φ,Tryz.func292.trans (congrArg σ Ψ)⟩,
 f22:=⟨Tryz.f293.name,Φ,Tryz.func293.trans (congrArg σ Ψ)⟩,
 f23:=⟨Tryz.f294.name,Φ,Tryz.func294.trans (congrArg σ Ψ)⟩,
 f24:=⟨Tryz.f295.name,Φ,Tryz.func295.trans (congrArg σ Ψ)⟩,
 f25:=⟨Tryz.f296.name,Φ,Tryz.func296.trans (congrArg σ Ψ)⟩,
 f26:=⟨Tryz.f297.name,Φ,Tryz.func297.trans (congrArg σ Ψ)⟩,
 f27:=⟨Tryz.f298.name,Φ,Tryz.func298.trans (congrArg σ Ψ)⟩,
 f28:=Tryz.func252.trans (congrArg σ Ψ),
 f29:=Tryz.func253.trans (congrArg σ Ψ),
 f46:=⟨Tryz.f306.name,Φ,Tryz.func306.trans (congrArg σ Ψ)⟩,
 f47:=Tryz.func268.trans (congrArg σ Ψ),
 f48:=Tryz.func269.trans (congrArg σ Ψ),
 f49:=⟨Tryz.f307.name,Φ,Tryz.func307.trans (congrArg σ Ψ)⟩,
 f50:=⟨Tryz.f308.name,Φ,Tryz.func308.trans (congrArg σ Ψ)⟩,
 f57:=⟨Tryz.f311.name,Φ,Tryz.func311.trans (congrArg σ Ψ)⟩,
 t0:=Tryz.underlying0,
 a0:=Tryz.isAgg0,
 z0:=Tryz.sizeOf0,
 v0:=Tryz.zeroValue0,
 t3:=Tryz.underlying3,
 a3:=Tryz.isAgg3,
 z3:=Tryz.sizeOf3,
 v3:=Tryz.zeroValue3,
 t4:=Tryz.underlying4,
 a4:=Tryz.isAgg4,
 z4:=Tryz.sizeOf4,
 v4:=Tryz.zeroValue4,
 t5:=Tryz.underlying5,
 a5:=Tryz.isAgg5,
 z5:=Tryz.sizeOf5,
 v5:=Tryz.zeroValue5,
 t9:=Tryz.underlying9,
 a9:=Tryz.isAgg9,
 z9:=Tryz.sizeOf9,
 v9:=Tryz.zeroValue9,
 t22:=Tryz.underlying317,
 a22:=Tryz.isAgg317,
 z22:=Tryz.sizeOf317,
 v22:=Tryz.zeroValue317,
 t25:=Tryz.underlying316,
 a25:=Tryz.isAgg316,
 z25:=Tryz.sizeOf316,
 v25:=Tryz.zeroValue316,
 t39:=Tryz.underlying282,
 a39:=Tryz.isAgg282,
 z39:=Tryz.sizeOf282,
 v39:=Tryz.zeroValue282,
 t45:=Tryz.underlying333,
 a45:=Tryz.isAgg333,
 z45:=Tryz.sizeOf333,
 v45:=Tryz.zeroValue333,
 t46:=Tryz.underlying334,
 a46:=Tryz.isAgg334,
 z46:=Tryz.sizeOf334,
 v46:=Tryz.zeroValue334,
 t50:=Tryz.underlying271,
 a50:=Tryz.isAgg271,
 z50:=Tryz.sizeOf271,
 v50:=Tryz.zeroValue271,
 t53:=Tryz.underlying340,
 a53:=Tryz.isAgg340,
 z53:=Tryz.sizeOf340,
 v53:=Tryz.zeroValue340,
 t55:=Tryz.underlying82,
 a55:=Tryz.isAgg82,
 z55:=Tryz.sizeOf82,
 v55:=Tryz.zeroValue82,
 t66:=Tryz.underlying351,
 a66:=Tryz.isAgg351,
 z66:=Tryz.sizeOf351,
 v66:=Tryz.zeroValue351,
 t70:=Tryz.underlying355,
 a70:=Tryz.isAgg355,
 z70:=Tryz.sizeOf355,
 v70:=Tryz.zeroValue355,
 t76:=Tryz.underlying375,
 a76:=Tryz.isAgg375,
 z76:=Tryz.sizeOf375,
 v76:=Tryz.zeroValue375,
 t77:=Tryz.underlying376,
 a77:=Tryz.isAgg376,
 z77:=Tryz.sizeOf376,
 v77:=Tryz.zeroValue376}
def Tryz.vN:Go.Shelf.Ren:=⟨λ|6=>157|15=>211|14=>210|28=>252|29=>253|20=>244|21=>245|22=>246|23=>247|24=>248|25=>249|26=>250|27=>251|46=>267|47=>268|48=>269|49=>270|50=>271|57=>290|n=>n,λ|22=>240|24=>245|25=>254|3=>3|39=>282|0=>0|53=>340|55=>82|4=>4|46=>334|45=>333|50=>271|5=>5|9=>9|66=>351|70=>355|76=>375|77=>376|n=>n,λ|n=>n⟩
theorem Tryz.KN:Go.Proofs.SlLaysF0.n6 Tryz.prog Tryz.vN:={
 mixed:=Ψ,
 f6:=⟨Tryz.f157.name,Φ,Tryz.func157.trans (congrArg σ Ψ)⟩,
 f14:=⟨Tryz.f210.name,Φ,Tryz.func210.trans (congrArg σ Ψ)⟩,
 f15:=Tryz.func211.trans (congrArg σ Ψ),
 f20:=⟨Tryz.f244.name,Φ,Tryz.func244.trans (congrArg σ Ψ)⟩,
 f21:=⟨Tryz.f245.name,Φ,Tryz.func245.trans (congrArg σ Ψ)⟩,
 f22:=⟨Tryz.f246.name,Φ,Tryz.func246.trans (congrArg σ Ψ)⟩,
 f23:=⟨Tryz.f247.name,Φ,Tryz.func247.trans (congrArg σ Ψ)⟩,
 f24:=⟨Tryz.f248.name,Φ,Tryz.func248.trans (congrArg σ Ψ)⟩,
 f25:=⟨Tryz.f249.name,Φ,Tryz.func249.trans (congrArg σ Ψ)⟩,
 f26:=⟨Tryz.f250.name,Φ,Tryz.func250.trans (congrArg σ Ψ)⟩,
 f27:=⟨Tryz.f251.name,Φ,Tryz.func251.trans (congrArg σ Ψ)⟩,
 f28:=Tryz.func252.trans (congrArg σ Ψ),
 f29:=Tryz.func253.trans (congrArg σ Ψ),
 f46:=⟨Tryz.f267.name,Φ,Tryz.func267.trans (congrArg σ Ψ)⟩,
 f47:=Tryz.func268.trans (congrArg σ Ψ),
 f48:=Tryz.func269.trans (congrArg σ Ψ),
 f49:=⟨Tryz.f270.name,Φ,Tryz.func270.trans (congrArg σ Ψ)⟩,
 f50:=⟨Tryz.f271.name,Φ,Tryz.func271.trans (congrArg σ Ψ)⟩,
 f57:=⟨Tryz.f290.name,Φ,Tryz.func290.trans (congrArg σ Ψ)⟩,
 t0:=Tryz.underlying0,
 a0:=Tryz.isAgg0,
 z0:=Tryz.sizeOf0,
 v0:=Tryz.zeroValue0,
 t3:=Tryz.underlying3,
 a3:=Tryz.isAgg3,
 z3:=Tryz.sizeOf3,
 v3:=Tryz.zeroValue3,
 t4:=Tryz.underlying4,
 a4:=Tryz.isAgg4,
 z4:=Tryz.sizeOf4,
 v4:=Tryz.zeroValue4,
 t5:=Tryz.underlying5,
 a5:=Tryz.isAgg5,
 z5:=Tryz.sizeOf5,
 v5:=Tryz.zeroValue5,
 t9:=Tryz.underlying9,
 a9:=Tryz.isAgg9,
 z9:=Tryz.sizeOf9,
 v9:=Tryz.zeroValue9,
 t22:=Tryz.underlying240,
 a22:=Tryz.isAgg240,
 z22:=Tryz.sizeOf240,
 v22:=Tryz.zeroValue240,
 t25:=Tryz.underlying254,
 a25:=Tryz.isAgg254,
 z25:=Tryz.sizeOf254,
 v25:=Tryz.zeroValue254,
 t39:=Tryz.underlying282,
 a39:=Tryz.isAgg282,
 z39:=Tryz.sizeOf282,
 v39:=Tryz.zeroValue282,
 t45:=Tryz.underlying333,
 a45:=Tryz.isAgg333,
 z45:=Tryz.sizeOf333,
 v45:=Tryz.zeroValue333,
 t46:=Tryz.underlying334,
 a46:=Tryz.isAgg334,
 z46:=Tryz.sizeOf334,
 v46:=Tryz.zeroValue334,
 t50:=Tryz.underlying271,
 a50:=Tryz.isAgg271,
 z50:=Tryz.sizeOf271,
 v50:=Tryz.zeroValue271,
 t53:=Tryz.underlying340,
 a53:=Tryz.isAgg340,
 z53:=Tryz.sizeOf340,
 v53:=Tryz.zeroValue340,
 t55:=Tryz.underlying82,
 a55:=Tryz.isAgg82,
 z55:=Tryz.sizeOf82,
 v55:=Tryz.zeroValue82,
 t66:=Tryz.underlying351,
 a66:=Tryz.isAgg351,
 z66:=Tryz.sizeOf351,
 v66:=Tryz.zeroValue351,
 t70:=Tryz.underlying355,
 a70:=Tryz.isAgg355,
 z70:=Tryz.sizeOf355,
 v70:=Tryz.zeroValue355,
 t76:=Tryz.underlying375,
 a76:=Tryz.isAgg375,
 z76:=Tryz.sizeOf375,
 v76:=Tryz.zeroValue375,
 t77:=Tryz.underlying376,
 a77:=Tryz.isAgg376,
 z77:=Tryz.sizeOf376,
 v77:=Tryz.zeroValue376}
theorem Tryz.KO (w:x3):(isAgg (Tryz.vM.t 24)).run Tryz.prog w= .ok true w:=Tryz.isAgg289 w
theorem Tryz.KP (w:x3):(Go.sizeOf (Tryz.vM.t 24)).run Tryz.prog w= .ok 6 w:=Tryz.sizeOf289 w
theorem Tryz.KQ:Tryz.prog.funcs[219]? =σ Tryz.f219:=Tryz.func219
theorem Tryz.KR (w:x3):(isAgg (Tryz.vN.t 24)).run Tryz.prog w= .ok true w:=Tryz.isAgg245 w
theorem Tryz.KT (w:x3):(Go.sizeOf (Tryz.vN.t 24)).run Tryz.prog w= .ok 2 w:=Tryz.sizeOf245 w
theorem Tryz.KU:Tryz.prog.funcs[158]? =σ Tryz.f158:=Tryz.func158
end Go.Proofs
namespace Go.Proofs.YtmgflbkdggdhoaaGreatDoor
open Go Go.Vc Go.RowKit Go.Proofs Go.Proofs.Tryz
set_option maxRecDepth 100000
def sB {α:Type} (f:α->Int) (L:List α) (a i:Nat):Prop:=∀ (p q:Nat) (x y:α),a<=p->p<q->q<i->L[p]? =σ x->L[q]? =σ y->f x<=f y
def o2 (L:List (Λ)):Prop:=∀ks∈L,kU ks
theorem o2.perm {L M:List (Λ)} (h:o2 L) (a:M.Perm L):o2 M:=λks hk=>h ks (a.mem_iff.1 hk)
theorem KV {g:Nat} {L:List (Λ)} {i:Nat} (a:y=(i:Int)) (h:nD w g v L) (hi:L[i]? =σ ks):
  aa x7 (j5 iP v (Δ y)) w (λp=>aa x7 (u4 cH p) w K)=K (dX ks):=by
 have e:ks.length=6:=by have:=h.2 ks (x5 hi);simpa using this
 rw[dr a iP.u cH.i h (x4.1 hi).1,nC e (h.range hi)]
abbrev BG:x1:=.func (.func zs) #[] #[]
theorem sC {P:W0} {k:o4} {s:ByteArray} {i:Nat} (a:P.underlying t=σ .string) (hi:i<s.size):
  aa P (Instr.index t (.string s) (.int k (i:Int))) w K=K (.int .u8 (s[i].toNat:Int)):=aa.of λw' _=>by
 simp[Instr.index,asIntOf,run_underlying a,hi]
def eb (n:Nat):Nat:=if n=0 then 0 else Nat.log2 n+1
theorem BH (h:n<256):eb n<=8:=by
 unfold eb;by_cases a:n=0
 .rw[if_pos a];omega
 .rw[if_neg a];have e:Nat.log2 n<8:=(Nat.log2_lt a).2 Ω;omega
theorem KW {g:Nat} {L:List (Λ)} (h:nD w g v L) (j:o2 L) (m:L.length<65536):
  am x7 Iu [v,BG] w λ_ w'=>ah (λr=>leadsTo v r) w w'/\ ∃M,M.Perm L/\sB gq M 0 M.length/\nD w' g v M:=by
 refine (BF KM (G:=kU) (num:=gq) (cf:=h3) (cap:=#[]) KO KP (λa _=>BA) (λa e=>by simp[e.1]) (λa b e f=>(BB a b (by rw[e.1,f.1]) e.2 f.2).1) (Enters.of x7 KQ rfl Ψ) h j m λC a b _ e f=>KL e f).mono ?_;rintro _ w' _ ⟨s,M,z,hu,hm⟩;exact⟨s,M,z,λp q x y _ A _ I B=>hu p q x y A I B,hm⟩
end Go.Proofs.YtmgflbkdggdhoaaGreatDoor
namespace Go.Vc
open Go Go.RowKit
set_option maxRecDepth 100000
theorem Keys.str {P:W0} {k:r8} (hk:P.underlying k=σ .string):Keys P k λv=>∃s,v= .string s:=by
 have key:∀s,MapKept.IsKey .string (.string s):=λs=>trivial;refine⟨λw f v ⟨n,h⟩=>?_,λw x ⟨n,h⟩ p q=>?_,λw v ⟨n,h⟩=>?_⟩
 .subst h;exact MapKept.run_checkKey hk (key n) f 9999
 .subst h;rcases MapKept.findNow_spec (key n) p 0 (λe he=>by obtain⟨m,h⟩:=q e he;rw[h];exact key m) with⟨h1,a⟩|⟨j,e,h1,a,r⟩
  .exact .inl ⟨MapKept.run_findKey hk h1,a⟩
  .exact .inr ⟨j,e,by have:=MapKept.run_findKey (P:=P) (w:=w) hk h1;simpa using this,a,r⟩
 .subst h;exact MapKept.run_keyThatStays (d:=.string) (key n)
section
variable {P:W0} {w:x3}
theorem kW {s:Sem x1} (h:∀K:x1->Prop,aa P s w K=K v):cC P s v w:=by
 have h1:aa P s w (λu=>u=v):=(h λu=>u=v).mpr rfl;obtain⟨u,hu,rfl⟩:=h1;exact hu
variable {k e:r8} {G:x1->Prop}
end
end Go.Vc
namespace Go.Proofs.YtmgflbkdggdhoaaGreatDoor
open Go Go.Vc Go.RowKit Go.Proofs Go.Proofs.Tryz
set_option maxRecDepth 100000
def gH:Nat->Nat->Λ
 |0,_=>[]
 |n+1,u=>gH n (u / 10)++[48+((u % 10:Nat):Int)]
theorem qo:∀ (n u:Nat),(gH n u).length=n
 |0,_=>rfl
 |n+1,u=>by rw[gH,p9,qo n];rfl
theorem KX (n u:Nat):gH (n+2) u=gH n (u / 100)++[48+((u / 10 % 10:Nat):Int),48+((u % 10:Nat):Int)]:=by
 rw[gH,gH,T0];rw[show u / 10 / 10=u / 100 by omega];rfl
theorem BI:∀ (n u:Nat),10 ^ n<=u->u<10 ^ (n+1)->gH (n+1) u=fe u
 |0,u,h1,a=>by
  rw[nu,if_pos (by simpa using a)];simp[gH]
 |n+1,u,h1,a=>by
  have e:(10:Nat) ^ (n+1)=10*10 ^ n:=by rw[Nat.pow_succ,Nat.mul_comm]
  have f:(10:Nat) ^ (n+1+1)=10*10 ^ (n+1):=by rw[Nat.pow_succ,Nat.mul_comm]
  have h:1<=10 ^ n:=Nat.one_le_iff_ne_zero.2 Ξ;rw[nu,if_neg Ω,gH,BI n (u / 10) Ω Ω]
def gu (a C:Λ) (nd u:Nat):Prop:=nd<=a.length/\C.length=a.length/\ ∃t,C.drop nd=t/\a=gH nd u++t
theorem gu.two {a:Λ} {nd u:Nat} (h:gu a C (nd+2) u):gu a ((C.set (nd+1) (48+((u % 10:Nat):Int))).set nd (48+((u / 10 % 10:Nat):Int))) nd (u / 100):=by
 obtain⟨h1,e,t,f,j⟩:=h;refine⟨Ω,by simp[e],_,rfl,?_⟩;rw[j,KX,T0];congr 1;rw[List.drop_set,if_neg Ω,List.drop_set,if_neg Ω,<-f];have m:nd<C.length:=Ω
 have p:nd+1<C.length:=Ω
 rw[X7 m,X7 p,V6,R3];rfl
theorem gu.one {a:Λ} {u:Nat} (h:gu a C 1 u):C.set 0 (48+((u % 10:Nat):Int))=a:=by
 obtain⟨h1,e,t,f,j⟩:=h;rw[j,gH,gH,List.nil_append,<-f];cases C with
 |nil=>simp at e;omega
 |cons c C=>simp
theorem gu.zero {a:Λ} {u:Nat} (h:gu a C 0 u):C=a:=by
 obtain⟨h1,j,t,e,f⟩:=h;rw[f,gH,List.nil_append,<-e,List.drop_zero]
def jD:ByteArray:=⟨#[48,48,48,49,48,50,48,51,48,52,48,53,48,54,48,55,48,56,48,57,49,48,49,49,49,50,49,51,49,52,49,53,49,54,49,55,49,56,49,57,50,48,50,49,50,50,50,51,50,52,50,53,50,54,50,55,50,56,50,57,51,48,51,49,51,50,51,51,51,52,51,53,51,54,51,55,51,56,51,57,52,48,52,49,52,50,52,51,52,52,52,53,52,54,52,55,52,56,52,57,53,48,53,49,53,50,53,51,53,52,53,53,53,54,53,55,53,56,53,57,54,48,54,49,54,50,54,51,54,52,54,53,54,54,54,55,54,56,54,57,55,48,55,49,55,50,55,51,55,52,55,53,55,54,55,55,55,56,55,57,56,48,56,49,56,50,56,51,56,52,56,53,56,54,56,55,56,56,56,57,57,48,57,49,57,50,57,51,57,52,57,53,57,54,57,55,57,56,57,57]⟩
theorem BJ:jD.size=200:=by decide+kernel
theorem KY:∀q:Fin 100,jD.data.toList[2*q.val]? =σ (UInt8.ofNat (48+q.val / 10))/\jD.data.toList[2*q.val+1]? =σ (UInt8.ofNat (48+q.val % 10)):=by decide+kernel
theorem vO {q:Nat} (e:q<100):(∀h,(jD[2*q]'h).toNat=48+q / 10)/\ ∀h,(jD[2*q+1]'h).toNat=48+q % 10:=by
 obtain⟨h1,f⟩:=KY ⟨q,e⟩;refine⟨λh=>?_,λh=>?_⟩
 .have a:=(x4.1 h1).2;have:jD[2*q]=UInt8.ofNat (48+q / 10):=a;rw[this,UInt8.toNat_ofNat'];omega
 .have a:=(x4.1 f).2;have:jD[2*q+1]=UInt8.ofNat (48+q % 10):=a;rw[this,UInt8.toNat_ofNat'];omega
theorem wrap_u32 {x:Int} (h1:0<=x) (a:x<4294967296):o4.u32.wrap x=x:=by
 simp[o4.wrap,o4.bits,o4.signed];omega
def jE (w:x3) (g o:Nat) (a C e:Λ):Prop:=af w g mf (ints .u8 (a++C++e))/\a.length=o
theorem vP {g o c i:Nat} {a:o4} (e:y=(i:Int)) (hi:i<n):
  aa x7 (j5 cM (.slice (σ ⟨g,o,ν⟩) n c) (.int a y)) w K=K (.pointer (σ ⟨g,o+i,ν⟩)):=by
 subst e;rw[e6 cM.u cD.i hi (λ_=>rfl),V8]
theorem vQ {g o i:Nat} {x:Int} {a f:Λ} {K:Unit->x3->Prop} (h:jE w g o a C f) (hi:i<C.length)
  (m:∀w',ah (λr=>r=g) w w'->jE w' g o a (C.set i x) f->K () w'):aC x7 (o6 cD (.pointer (σ ⟨g,o+i,ν⟩)) (.int .u8 x)) w K:=by
 obtain⟨h,rfl⟩:=h;refine bt (g:=g) (o:=a.length+i) cD.i rfl rfl h Θ λw' p J j=>m w' p ⟨?_,rfl⟩;have e:(ints .u8 (a++C++f)).set (a.length+i) (.int .u8 x)=ints .u8 (a++C.set i x++f):=by
  unfold ints;rw[<-V7,T0,T3 _ _ Ω,R3,List.set_append_left _ _ hi,T0]
 rw[e] at j;exact j
theorem nE {g o c nd q i:Nat} {p e t:Int} {f h:Λ} {K:x3->Prop} (s:jE w g o f C h) (U:C.length=n) (W:n<=1000) (X:nd<=n) (h1:(nd:Int)-p=((i+1:Nat):Int)) (A:(nd:Int)-e=(i:Int)) (B:i+1<n) (E:t=((2*q:Nat):Int)) (j:q<100)
  (F:∀w',ah (λr=>r=g) w w'->jE w' g o f ((C.set (i+1) (48+((q % 10:Nat):Int))).set i (48+((q / 10:Nat):Int))) h->K w'):
  en w λV=>
  aa x7 (aJ .sub ai false true (Δ (nd:Int)) (Δ p)) V λG=>
  aa x7 (aJ .sub ai false true (Δ (nd:Int)) (Δ e)) V λx=>
  aa x7 (aJ .add oA false true (.int .u32 t) (.int .u32 1)) V λH=>
  aa x7 (Instr.index c0 (.string jD) H) V λt50=>
  aa x7 (Instr.index c0 (.string jD) (.int .u32 t)) V λy=>
  aa x7 (j5 cM (.slice (σ ⟨g,o,ν⟩) n c) G) V λt53=>
  aC x7 (o6 cD t53 t50) V λ(_:Unit) a=>
   (Ext V a\/cC x7 (Instr.index c0 (.string jD) (.int .u32 t)) y a/\cC x7 (aJ .sub ai false true (Δ (nd:Int)) (Δ e)) x a/\True)/\
  aa x7 (j5 cM (.slice (σ ⟨g,o,ν⟩) n c) x) a λI=>
   aC x7 (o6 cD I y) a λ(_:Unit) m=>K m:=by
 subst E;intro V z _ _;have L:ah (λr=>r=g) w V:=z.ab _;have M:jE V g o f C h:=⟨s.1.ext z,s.2⟩;rw[dJ,wrap_i64 Ω Ω,dJ,wrap_i64 Ω Ω,aM,wrap_u32 Ω Ω];rw[show ((2*q:Nat):Int)+1=((2*q+1:Nat):Int) by omega];have J:=BJ;rw[sC c0.u (by rw[J];omega),sC c0.u (by rw[J];omega)];rw[(vO j).1,(vO j).2,vP h1 B];refine vQ M Ω λa N O=>⟨.inr ⟨kW λK=>?_,kW λK=>?_,trivial⟩,?_⟩
 .rw[sC c0.u (by rw[J];omega),(vO j).1]
 .rw[dJ,wrap_i64 Ω Ω]
 .rw[vP A Ω];refine vQ O Θ λm P Q=>F m ((L.trans N).trans P) ?_;have R:48+((q % 10:Nat):Int)=((48+q % 10:Nat):Int):=Ω
  have S:48+((q / 10:Nat):Int)=((48+q / 10:Nat):Int):=Ω
  rw[R,S];exact Q
theorem gu.pair {a:Λ} {nd u q:Nat} (h:gu a C (nd+2) u) (e:q=u % 100):gu a ((C.set (nd+1) (48+((q % 10:Nat):Int))).set nd (48+((q / 10:Nat):Int))) nd (u / 100):=by
 have:=h.two;rw[show u % 10=q % 10 by omega,show u / 10 % 10=q / 10 by omega] at this;exact this
theorem nF {k:o4} {b:Nat} (e:b≠0):aa x7 (aJ .rem t cx cy (.int k (a:Int)) (.int k (b:Int))) w K=K (.int k ((a % b:Nat):Int)):=by
 rw[nf Ω,Int.tmod_eq_emod_of_nonneg Ω,Int.natCast_emod]
theorem u32_quo {b:Nat} (e:b≠0) (f:a<4294967296):aa x7 (aJ .quo t cx cy (.int .u32 (a:Int)) (.int .u32 (b:Int))) w K=K (.int .u32 ((a / b:Nat):Int)):=by
 have:=Nat.div_le_self a b;rw[pR Ω,Int.tdiv_eq_ediv_of_nonneg Ω,<-Int.natCast_ediv];generalize a / b=m at this ⊢;rw[wrap_u32 Ω Ω]
theorem u64_quo {b:Nat} (e:b≠0) (f:a<18446744073709551616):aa x7 (aJ .quo t cx cy (.int .u64 (a:Int)) (.int .u64 (b:Int))) w K=K (.int .u64 ((a / b:Nat):Int)):=by
 have:=Nat.div_le_self a b;rw[pR Ω,Int.tdiv_eq_ediv_of_nonneg Ω,<-Int.natCast_ediv];generalize a / b=m at this ⊢;rw[wrap_u64 Ω Ω]
theorem nG {b:Nat} (f:a*b<4294967296):aa x7 (aJ .mul t cx cy (.int .u32 (a:Int)) (.int .u32 (b:Int))) w K=K (.int .u32 ((a*b:Nat):Int)):=by
 have e:(a:Int)*(b:Int)=((a*b:Nat):Int):=Ξ
 rw[gE,e];generalize a*b=m at f ⊢;rw[wrap_u32 Ω Ω]
theorem gu.start {u:Nat} (h:C.length=N):gu (gH N u) C N u:=⟨by rw[qo];omega,by rw[qo,h],[],by rw[List.drop_eq_nil_iff];omega,Ξ⟩
theorem KZ {g o c u:Nat} {B E:Λ} (af:jE w g o B C E) (ag:C.length=N) (av:N<=19) (hu:u<10 ^ N):
  am x7 IE [.slice (σ ⟨g,o,ν⟩) N c,.int .u64 (u:Int)] w λv w'=>v= .tuple #[]/\ah (λr=>r=g) w w'/\jE w' g o B (gH N u) E:=by
 have p:=qo N u;refine az func279 ?_;rw[hE cM.u];refine⟨λai O U=>∃eQ nd:Nat,ai= .int .u64 (eQ:Int)/\O=Δ (nd:Int)/\eQ<10 ^ nd/\nd<=N/\ah (λr=>r=g) w U/\ ∃G,jE U g o B G E/\gu (gH N u) G nd eQ,
  λ_ O _=>(bU O).toNat,⟨u,N,rfl,rfl,hu,p8 _,ah.refl _ _,C,af,gu.start ag⟩,?_⟩
 rintro _ _ U ⟨eQ,nd,rfl,rfl,H,s,P,G,Q,ae⟩;have aa:G.length=N:=by rw[ae.2.1,p]
 have aw:(10:Nat) ^ nd<=10 ^ 19:=T7 Ω Ω;have aj:eQ<18446744073709551616:=Ω
 have ax:(8:Int)=((8:Nat):Int):=rfl;rw[cO,al];refine⟨λak=>?_,λak=>?_⟩
 .obtain⟨m,rfl⟩:∃m,nd=m+8:=⟨nd-8,Ω⟩;have aA:eQ % 100000000<100000000:=Nat.mod_lt _ Ω;rw[show W8 .u64 100000000=W8 .u64 ((100000000:Nat):Int) from rfl,nF Ω,eW fs.u oA.u,wrap_u32 Ω Ω,u64_quo Ω aj];rw[show W8 .u32 10000=W8 .u32 ((10000:Nat):Int) from rfl,show W8 .u32 100=W8 .u32 ((100:Nat):Int) from rfl,show W8 .u32 2=W8 .u32 ((2:Nat):Int) from rfl];rw[u32_quo Ω Ω,nF Ω,u32_quo Ω Ω,nG Ω,nF Ω,nG Ω,u32_quo Ω Ω,nG Ω,nF Ω,nG Ω];refine nE (i:=m+6) (q:=eQ % 100000000 % 10000 % 100) Q aa Ω s Ω Ω Ω Ω Ω λV x z=>?_;have f:=ae.pair (q:=eQ % 100000000 % 10000 % 100) Ω;have I:=f.2.1.trans p;refine nE (i:=m+4) (q:=eQ % 100000000 % 10000 / 100) z I Ω s Ω Ω Ω Ω Ω λA j h=>?_;have e:=gu.pair (nd:=m+4) (q:=eQ % 100000000 % 10000 / 100) f Ω;have ab:=e.2.1.trans p;refine nE (i:=m+2) (q:=eQ % 100000000 / 10000 % 100) h ab Ω s Ω Ω Ω Ω Ω λan R L=>?_;have ac:=gu.pair (nd:=m+2) (q:=eQ % 100000000 / 10000 % 100) e Ω;have ao:=ac.2.1.trans p;refine nE (i:=m) (q:=eQ % 100000000 / 10000 / 100) L ao Ω s Ω Ω Ω Ω Ω λaB ap aq=>?_;have ad:=gu.pair (nd:=m) (q:=eQ % 100000000 / 10000 / 100) ac Ω;rw[dJ,wrap_i64 Ω Ω];refine⟨⟨eQ / 100000000,m,rfl,by congr 1;omega,?_,Ω,(((P.trans x).trans j).trans R).trans ap,_,aq,?_⟩,by simp only[bU];omega⟩
  .rw[Nat.pow_add] at H;exact Nat.div_lt_of_lt_mul (by rw[Nat.mul_comm];exact H)
  .rw[show eQ / 100 / 100 / 100 / 100=eQ / 100000000 by omega] at ad;exact ad
 .have aC:nd<8:=Ω
  have aD:(10:Nat) ^ nd<=10 ^ 7:=T7 Ω Ω;rw[eW fs.u oA.u,wrap_u32 Ω Ω];refine ii (λa b V=>∃eR m:Nat,a=Δ (m:Int)/\b= .int .u32 (eR:Int)/\eR<10 ^ m/\m<4/\m<=N/\ah (λr=>r=g) w V/\ ∃M,jE V g o B M E/\gu (gH N u) M m eR) ?_ ?_
  rotate_left
  .intro ay J;rw[cO,al];refine⟨λS=>?_,λS=>J _ _ _ ⟨eQ,nd,rfl,rfl,H,Ω,s,P,G,Q,ae⟩⟩;obtain⟨m,rfl⟩:∃m,nd=m+4:=⟨nd-4,Ω⟩;rw[show W8 .u32 10000=W8 .u32 ((10000:Nat):Int) from rfl,show W8 .u32 100=W8 .u32 ((100:Nat):Int) from rfl,show W8 .u32 2=W8 .u32 ((2:Nat):Int) from rfl];rw[nF Ω,u32_quo Ω Ω,u32_quo Ω Ω,nG Ω,nF Ω,nG Ω];refine nE (i:=m+2) (q:=eQ % 10000 % 100) Q aa Ω s Ω Ω Ω Ω Ω λV x z=>?_;have f:=ae.pair (q:=eQ % 10000 % 100) Ω;have I:=f.2.1.trans p;refine nE (i:=m) (q:=eQ % 10000 / 100) z I Ω s Ω Ω Ω Ω Ω λA j h=>?_;have e:=gu.pair (nd:=m) (q:=eQ % 10000 / 100) f Ω;rw[dJ,wrap_i64 Ω Ω];refine J _ _ _ ⟨eQ / 10000,m,by congr 1;omega,rfl,?_,Ω,Ω,(P.trans x).trans j,_,h,?_⟩
   .rw[Nat.pow_add] at H;exact Nat.div_lt_of_lt_mul (by rw[Nat.mul_comm];exact H)
   .rw[show eQ / 100 / 100=eQ / 10000 by omega] at e;exact e
  rintro _ _ V ⟨eR,m,rfl,rfl,W,aE,X,x,M,z,f⟩;have I:=f.2.1.trans p;have aF:(10:Nat) ^ m<=10 ^ 3:=T7 Ω Ω;refine ii (λa b A=>∃K m:Nat,a=Δ (m:Int)/\b= .int .u32 (K:Int)/\K<10 ^ m/\m<2/\m<=N/\ah (λr=>r=g) w A/\ ∃Y,jE A g o B Y E/\gu (gH N u) Y m K) ?_ ?_
  rotate_left
  .intro ay J;rw[cO,al];refine⟨λS=>?_,λS=>J _ _ _ ⟨eR,m,rfl,rfl,W,Ω,X,x,M,z,f⟩⟩;obtain⟨m,rfl⟩:∃ci,m=ci+2:=⟨m-2,Ω⟩;rw[show W8 .u32 100=W8 .u32 ((100:Nat):Int) from rfl,show W8 .u32 2=W8 .u32 ((2:Nat):Int) from rfl];rw[nF Ω,nG Ω,u32_quo Ω Ω];refine nE (i:=m) (q:=eR % 100) z I Ω X Ω Ω Ω Ω Ω λA j h=>?_;have e:=f.pair (q:=eR % 100) rfl;rw[dJ,wrap_i64 Ω Ω];refine J _ _ _ ⟨eR / 100,m,by congr 1;omega,rfl,?_,Ω,Ω,x.trans j,_,h,e⟩;rw[Nat.pow_add] at W;exact Nat.div_lt_of_lt_mul (by rw[Nat.mul_comm];exact W)
  rintro _ _ A ⟨K,m,rfl,rfl,Z,aG,X,j,Y,h,e⟩;have ab:=e.2.1.trans p;rw[bR,al];refine⟨λau=>?_,λau=>?_⟩
  .obtain rfl:m=1:=Ω
   have Z:K<10:=by simpa using Z
   rw[aM,wrap_u32 Ω Ω,eW oA.u cD.u,wrap_u8 Ω Ω,vP (y:=0) (i:=0) rfl Ω];refine vQ h Ω λan R L=>?_;have:=e.one;rw[Nat.mod_eq_of_lt Z] at this;rw[this] at L;exact⟨rfl,j.trans R,L⟩
  .obtain rfl:m=0:=Ω
   rw[e.zero] at h;exact⟨rfl,j,h⟩
def mv:Λ:=[1,10,100,1000,10000,100000,1000000,10000000,100000000,1000000000,10000000000,100000000000,1000000000000,10000000000000,100000000000000,1000000000000000,10000000000000000,100000000000000000,1000000000000000000,10000000000000000000]
def eg (w:x3):Prop:=w.rangeAt 1 0 (ints .u64 mv)
theorem eg.ext (h:eg w) (I:Ext w w'):eg w':=ne I h
theorem K0:∀k:Nat,k<20->mv[k]? =σ (((10 ^ k:Nat)):Int):=Φ
theorem BK {s:Nat} (h:2 ^ s<=n):eb n=s+eb (n / 2 ^ s):=by
 have J:=Nat.two_pow_pos s;have h1:n / 2 ^ s≠0:=by have:=Nat.div_pos h J;omega
 have f:n≠0:=Ω
 unfold eb;rw[if_neg f,if_neg h1];have e:Nat.log2 n=Nat.log2 (n / 2 ^ s)+s:=by
  refine (Nat.log2_eq_iff f).2 ⟨?_,?_⟩
  .rw[Nat.pow_add];have:=X4 (2 ^ s) (Nat.log2_self_le h1);have:=Nat.div_mul_le_self n (2 ^ s);omega
  .have j:=Nat.lt_log2_self (n:=n / 2 ^ s);rw[show Nat.log2 (n / 2 ^ s)+s+1=(Nat.log2 (n / 2 ^ s)+1)+s by omega,Nat.pow_add];have:=X4 (2 ^ s) (show n / 2 ^ s+1<=2 ^ (Nat.log2 (n / 2 ^ s)+1) by omega);have m:=Nat.lt_div_mul_add J (a:=n);rw[V9] at this;omega
 omega
def qp:ByteArray:=⟨#[0,1,2,2,3,3,3,3,4,4,4,4,4,4,4,4,5,5,5,5,5,5,5,5,5,5,5,5,5,5,5,5,6,6,6,6,6,6,6,6,6,6,6,6,6,6,6,6,6,6,6,6,6,6,6,6,6,6,6,6,6,6,6,6,7,7,7,7,7,7,7,7,7,7,7,7,7,7,7,7,7,7,7,7,7,7,7,7,7,7,7,7,7,7,7,7,7,7,7,7,7,7,7,7,7,7,7,7,7,7,7,7,7,7,7,7,7,7,7,7,7,7,7,7,7,7,7,7,8,8,8,8,8,8,8,8,8,8,8,8,8,8,8,8,8,8,8,8,8,8,8,8,8,8,8,8,8,8,8,8,8,8,8,8,8,8,8,8,8,8,8,8,8,8,8,8,8,8,8,8,8,8,8,8,8,8,8,8,8,8,8,8,8,8,8,8,8,8,8,8,8,8,8,8,8,8,8,8,8,8,8,8,8,8,8,8,8,8,8,8,8,8,8,8,8,8,8,8,8,8,8,8,8,8,8,8,8,8,8,8,8,8,8,8,8,8,8,8,8,8,8,8,8,8,8,8]⟩
theorem K1:qp.size=256:=by decide+kernel
theorem K2:∀q:Fin 256,qp.data.toList[q.val]? =σ (UInt8.ofNat (eb q.val)):=by decide+kernel
theorem K3 {q:Nat} (a:q<256):∀h,(qp[q]'h).toNat=eb q:=λh=>by
 have h1:=K2 ⟨q,a⟩;have e:=(x4.1 h1).2;have:qp[q]=UInt8.ofNat (eb q):=e;have f:=BH a;rw[this,UInt8.toNat_ofNat'];omega
theorem K4 (C:n<18446744073709551616):am x7 Ip [.int .u64 (n:Int)] w λv w'=>v=Δ (eb n:Int)/\Ext w w':=by
 refine az func253 ?_;have step:∀ {s x m:Nat} {ay:x1->x1->x3->Prop} {y c:Int},s<64->x<18446744073709551616->m+eb x=eb n->m<=64->y=(2 ^ s:Nat)->c=(s:Int)->2 ^ s<=18446744073709551615->(∀a ci:Nat,a<2 ^ s\/(a=x / 2 ^ s/\ci=m+s)->a<=x->ci+eb a=eb n->ci<=m+s->ay (.int .u64 (a:Int)) (Δ (ci:Int)) w)->
   aa x7 (aJ .geq fs false true (.int .u64 (x:Int)) (.int .u64 y)) w λt4=>
    Split t4 (aa x7 (aJ .shr fs false true (.int .u64 (x:Int)) (.int .u64 c)) w λq=>aa x7 (aJ .add ai false true (Δ (m:Int)) (Δ c)) w λr=>ay q r w) (ay (.int .u64 (x:Int)) (Δ (m:Int)) w):=by
  intro s x m ay y c J I hm E z A j e;subst z A;rw[cO,al];refine⟨λh=>?_,λh=>e x m (.inl Ω) (p8 _) hm Ω⟩;rw[kR J,aM,wrap_i64 Ω Ω];have:=BK (n:=x) (s:=s) Ω;have:=e (x / 2 ^ s) (m+s) (.inr ⟨rfl,rfl⟩) (Nat.div_le_self _ _) Ω Ω;exact this
 refine ii (λx m U=>w=U/\ ∃a ci:Nat,x= .int .u64 (a:Int)/\m=Δ (ci:Int)/\a<4294967296/\ci+eb a=eb n/\ci<=32) ?_ ?_
 rotate_left
 .intro ay e;rw[cO,al];refine⟨λh=>?_,λh=>e _ _ _ ⟨rfl,n,0,rfl,rfl,Ω,Ω,Ω⟩⟩;rw[show W8 .u64 32=W8 .u64 ((32:Nat):Int) from rfl,kR Ω];have:=BK (n:=n) (s:=32) Ω;exact e _ _ _ ⟨rfl,n / 2 ^ 32,32,rfl,rfl,Ω,Ω,Ω⟩
 rintro _ _ _ ⟨rfl,x,m,rfl,rfl,I,hm,p⟩;refine ii (λx m U=>w=U/\ ∃a ci:Nat,x= .int .u64 (a:Int)/\m=Δ (ci:Int)/\a<65536/\ci+eb a=eb n/\ci<=48) ?_ ?_
 rotate_left
 .intro ay e;refine step (s:=16) Ω Ω hm Ω Ω Ω Ω λa ci h1 j f B=>e _ _ _ ⟨rfl,a,ci,rfl,rfl,?_,f,Ω⟩;rcases h1 with h1|⟨h1,_⟩<;>omega
 rintro _ _ _ ⟨rfl,x,m,rfl,rfl,I,hm,p⟩;refine ii (λx m U=>w=U/\ ∃a ci:Nat,x= .int .u64 (a:Int)/\m=Δ (ci:Int)/\a<256/\ci+eb a=eb n/\ci<=56) ?_ ?_
 rotate_left
 .intro ay e;refine step (s:=8) Ω Ω hm Ω Ω Ω Ω λa ci h1 j f B=>e _ _ _ ⟨rfl,a,ci,rfl,rfl,?_,f,Ω⟩;rcases h1 with h1|⟨h1,_⟩<;>omega
 rintro _ _ _ ⟨rfl,x,m,rfl,rfl,I,hm,p⟩;have J:=K1;have G:=BH I;rw[eW fs.u cD.u,wrap_u8 Ω Ω];refine (sC (s:=qp) c0.u (by rw[J];omega)).mpr ?_;rw[K3 I,eW cD.u ai.u,wrap_i64 Ω Ω,aM,wrap_i64 Ω Ω];exact⟨by congr 1;omega,Ext.refl _⟩
theorem BL {k:o4} (f:n<64):aa x7 (aJ .shr t cx cy (Δ (a:Int)) (.int k (n:Int))) w K=K (Δ ((a / 2 ^ n:Nat):Int)):=aa.of λw' _=>by
 have e:(a:Int).fdiv (2 ^ min n X2.bits)=((a / 2 ^ n:Nat):Int):=by
  have:min n X2.bits=n:=Nat.min_eq_left (by show n<=64;omega);rw[this,Int.fdiv_eq_ediv_of_nonneg _ (by exact Int.le_of_lt (Int.pow_pos Ω))];simp
 simp only[aJ,eqGuard,binOp,Op.shift,u6,e];rfl
theorem K5:∀L:Fin 64,7<=L.val->2 ^ L.val<=10 ^ (L.val*78913 / 262144+1)/\10 ^ (L.val*78913 / 262144)<=10*2 ^ (L.val-1)/\1<=L.val*78913 / 262144/\L.val*78913 / 262144<19:=by decide+kernel
theorem K6 {d:Nat} (x:eg w) (h1:100<=d) (C:d<9223372036854775808):am x7 ID [.int .u64 (d:Int)] w λv w'=>Ext w w'/\ ∃n:Nat,v=Δ ((n+1:Nat):Int)/\n<19/\10 ^ n<=d/\d<10 ^ (n+1):=by
 have j:d≠0:=Ω
 have m:eb d=Nat.log2 d+1:=by unfold eb;rw[if_neg j]
 have E:2 ^ (eb d-1)<=d:=by rw[m];exact Nat.log2_self_le j
 have G:d<2 ^ eb d:=by rw[m];exact Nat.lt_log2_self
 have y:7<=eb d:=by
  by_cases h:7<=eb d
  .exact h
  .have:2 ^ eb d<=2 ^ 6:=T7 Ω Ω;omega
 have z:eb d<64:=by
  by_cases h:eb d<64
  .exact h
  .have:2 ^ 63<=2 ^ (eb d-1):=T7 Ω Ω;omega
 obtain⟨A,p,t3,t4⟩:=K5 ⟨eb d,z⟩ y;simp only at A p t3 t4;refine az func278 ?_;refine (K4 Ω).mono ?_;rintro _ U _ ⟨rfl,a⟩;generalize eb d=L at*;refine am.mono (K:=λv V=>v=Δ ((L*78913 / 262144:Nat):Int)/\Ext U V) ?_ ?_
 .refine az func299 ?_;rw[gE,wrap_i64 Ω Ω,show W8 .u64 18=W8 .u64 ((18:Nat):Int) from rfl,show (L:Int)*78913=((L*78913:Nat):Int) by omega,BL Ω];exact⟨rfl,Ext.refl _⟩
 rintro _ V _ ⟨rfl,e⟩;generalize L*78913 / 262144=t at*;have B:=K0 t Ω;rw[u0 (t:=rS) rS.u fs.i Ω,aA Ψ (by rw[V8];exact ((x.ext a).ext e) _ _ (kK B)),cO];refine am.mono (K:=λv q=>v=Δ ((if 10 ^ t<=d then 1 else 0:Nat):Int)/\Ext V q) ?_ ?_
 .refine az func300 ?_;rw[al];refine⟨λh=>⟨by rw[if_pos Ω];rfl,Ext.refl _⟩,λh=>⟨by rw[if_neg Ω];rfl,Ext.refl _⟩⟩
 rintro _ q _ ⟨rfl,r⟩;rw[aM];by_cases f:10 ^ t<=d
 .rw[if_pos f,wrap_i64 Ω Ω];exact⟨(a.trans e).trans r,t,by congr 1,t4,f,Ω⟩
 .rw[if_neg f,wrap_i64 Ω Ω];obtain⟨s,rfl⟩:∃s,t=s+1:=⟨t-1,Ω⟩;rw[Nat.pow_succ] at p;exact⟨(a.trans e).trans r,s,by congr 1,Ω,Ω,Ω⟩
theorem BM {k a:o4} {x:Int} {i:Nat} {s:ByteArray} (I:x=(i:Int)) (e:y=(j:Int)) (f:x7.underlying t=σ .string) (p:i<=j) (q:j<=s.size):
  aa x7 (V3 t (.string s) (σ (.int k x)) (σ (.int a y)) ν) w K=K (.string (s.extract i j)):=aa.of λw' _=>by
 subst I e;have r:=rU (P:=x7) w' (sl:=false) (n:=s.size) (c:=s.size) (low:=σ (.int k (i:Int))) (high:=σ (.int a (j:Int))) (mx:=ν) (l:=i) (h:=j) (m:=s.size) ⟨k,rfl⟩ ⟨a,rfl⟩ fw p q (p8 _);simp[V3,Instr.slice,run_underlying f,r]
theorem K7:∀q:Fin 100,jD.extract (2*q.val) (2*q.val+2)=strOfNums [48+((q.val / 10:Nat):Int),48+((q.val % 10:Nat):Int)]:=by decide+kernel
def BN:ByteArray:=⟨#[48,49,50,51,52,53,54,55,56,57,97,98,99,100,101,102,103,104,105,106,107,108,109,110,111,112,113,114,115,116,117,118,119,120,121,122]⟩
theorem K8:∀q:Fin 10,BN.extract q.val (q.val+1)=strOfNums [48+(q.val:Int)]:=by decide+kernel
theorem BO (h:n<10):fe n=[48+(n:Int)]:=by rw[nu,if_pos h,Nat.mod_eq_of_lt h];rfl
theorem K9 (h1:10<=n) (a:n<100):fe n=[48+((n / 10:Nat):Int),48+((n % 10:Nat):Int)]:=by
 rw[nu,if_neg Ω,BO Ω];rfl
theorem La (a:n<100):am x7 IC [Δ (n:Int)] w λv w'=>v=bN (fe n)/\Ext w w':=by
 refine az func277 ?_;rw[aN,al];refine⟨λh=>?_,λh=>?_⟩
 .rw[aM,wrap_i64 Ω Ω];refine (BM (s:=BN) (i:=n) (j:=n+1) rfl Ω c0.u Ω (by show n+1<=36;omega)).mpr ?_;rw[K8 ⟨n,Ω⟩,BO Ω];exact⟨rfl,Ext.refl _⟩
 .rw[gE,wrap_i64 Ω Ω,gE,wrap_i64 Ω Ω,aM,wrap_i64 Ω Ω];refine (BM (s:=jD) (i:=2*n) (j:=2*n+2) Ω Ω c0.u Ω (by rw[BJ];omega)).mpr ?_;rw[K7 ⟨n,a⟩,K9 Ω a];exact⟨rfl,Ext.refl _⟩
theorem Lb {g:Nat} {e f:Λ} (a:jE w g 1 e C f) (h:C.length<=23):aF .u8 w (.slice (σ ⟨g,1,ν⟩) C.length 23) C:=by
 obtain⟨a,m⟩:=a;refine⟨Ξ,g,1,_,23,rfl,h,by simp[maxLen],λ_=>rfl,λj v ac=>?_⟩;have p:j<C.length:=by have:=(x4.1 ac).1;simpa using this
 refine a.cell ?_;rw[ints,b6,b6,Y1 Θ,Y4 Θ,u7,m,R3];exact ac
theorem BP {g:Nat} (a:y=((m+2:Nat):Int)) (hm:m<=22):
  aa x7 (V3 mf (Γ g) (σ (Δ 1)) (σ (Δ y)) ν) w K=K (.slice (σ ⟨g,1,ν⟩) (m+1) 23):=by
 subst a;have:=rV (w:=w) (b:=g) (o:=0) (low:=σ (Δ 1)) (high:=σ (Δ ((m+2:Nat):Int))) (mx:=ν) (l:=1) (h:=m+2) (m:=24) (K:=K) mf.u cD.i ⟨_,rfl⟩ ⟨_,rfl⟩ fw Ω Ω Ω;rw[this,if_neg Ω];rfl
theorem Lc (q:eg w) (s:n<9223372036854775808):am x7 Iv [Δ (n:Int),Δ 10] w λv w'=>v=bN (fe n)/\Ext w w':=by
 refine az func261 ?_;rw[bh];refine (al).mpr ⟨λ_=>?_,λh=>absurd rfl h⟩;refine aV (λv U=>w=U/\v= .bool (decide (n<100))) ?_ ?_
 rotate_left
 .intro ay a;rw[lC,al];refine⟨λ_=>?_,λh=>Ω⟩;rw[aN];exact a _ _ ⟨rfl,by congr 1;rw[V5,decide_eq_true_eq,decide_eq_true_eq];omega⟩
 rintro _ _ ⟨rfl,rfl⟩;rw[al];refine⟨λh=>?_,λh=>?_⟩
 .exact (La h).mono λ_ _ _ h=>h
 refine bG mf.i λg U E f x=>?_;rw[eW ap.u fs.u,wrap_u64 Ω Ω];refine aV (λv V=>U=V/\v= .int .u64 (n:Int)) ?_ ?_
 rotate_left
 .intro ay a;rw[aN,al];exact⟨λh=>Ω,λ_=>a _ _ ⟨rfl,rfl⟩⟩
 rintro _ _ ⟨rfl,rfl⟩;refine (K6 (q.ext f) Ω s).mono ?_;rintro _ V _ ⟨j,m,rfl,hm,y,p⟩;rw[aM,wrap_i64 Ω Ω];rw[BP (m:=m) Ω Ω];have z:jE V g 1 [0] (r9 (m+1) 0) (r9 (22-m) 0):=by
  refine⟨?_,rfl⟩;have e:[0]++r9 (m+1) (0:Int)++r9 (22-m) 0=r9 24 0:=by
   rw[show[(0:Int)]=r9 1 0 from rfl,List.replicate_append_replicate,List.replicate_append_replicate];congr 1;omega
  rw[e];exact x.ext j
 refine (KZ (N:=m+1) z Ξ Ω p).mono ?_;rintro _ G _ ⟨rfl,A,B⟩;refine cm Ω ?_;rw[aM,wrap_i64 Ω Ω];rw[BP (m:=m) Ω Ω];have C:=qo (m+1) n;have J:=Lb B Ω;rw[C] at J;rw[vh cM.u cD.u c0.u J,BI m n y p];refine⟨rfl,(f.trans j).then A λr H he=>?_⟩;have he:r=g:=he;omega
theorem Ld (a:eg w) (e:n<9223372036854775808):am x7 uQ [Δ (n:Int)] w λv w'=>v=bN (fe n)/\Ext w w':=by
 refine az func189 ?_;refine am.mono (K:=λv w'=>v=bN (fe n)/\Ext w w') ?_ (λ_ _ _ h=>h);refine az func232 ?_;exact (Lc a e).mono λ_ _ _ h=>h
theorem eg.ab (h:eg w) (I:ah S w w') (a:¬S 1):eg w':=js I a h
def dj (w:x3) (g gs:Nat) (A:ak) (B:ak) (clean:Bool) (s:Option aD):Prop:=match s with
 |some s=>df w g gs A B s clean
 |none=>et w g gs A B
theorem fQ.of {g:Nat} {A:ak} {B:ak} {s:Option aD} (h:fQ w g gs A B clean s w'):ah (bD g gs A) w w'/\dj w' g gs A B clean s:=h
theorem fQ.mk {g:Nat} {A:ak} {B:ak} {s:Option aD} (h:ah (bD g gs A) w w') (a:dj w' g gs A B clean s):fQ w g gs A B clean s w':=⟨h,a⟩
theorem dj.ab {g:Nat} {A:ak} {B:ak} {s:Option aD} (h:dj w g gs A B clean s) (I:ah S w w') (a:∀r,bD g gs A r->¬S r) (e:∀r,cI g gs A B r->¬S r):dj w' g gs A B clean s:=by
 cases s with
 |none=>exact et.ab (g:=g) (gs:=gs) (A:=A) (B:=B) h I a e
 |some s=>exact df.ab (g:=g) (gs:=gs) (A:=A) (B:=B) (s:=s) (clean:=clean) h I a e
theorem dj.ext {g:Nat} {A:ak} {B:ak} {s:Option aD} (h:dj w g gs A B clean s) (I:Ext w w'):dj w' g gs A B clean s:=h.ab (I.ab λ_=>False) (λ_ _ h=>h) λ_ _ h=>h
theorem dj.side {g:Nat} {A:ak} {B:ak} {s:Option aD} (h:dj w g gs A B clean s):kT w g gs A B:=by
 cases s with
 |none=>exact h.1
 |some s=>exact h.1
def bb (lo hi:Int) (s:Option aD):Option (Int×aD):=s.bind (bf lo hi)
theorem lP {g:Nat} {A:ak} {B:ak} {s:Option aD} (h:dj w g gs A B clean s):am x7 m4 [Γ g,Δ lo,Δ hi] w λv w'=>fQ w g gs A B clean ((bb lo hi s).map (·.2)) w'/\ ∃n at_:Int,v= .tuple #[Δ n,Δ at_]/\(∀q,bb lo hi s=σ q->n=q.1)/\(bb lo hi s=ν->n=0):=by
 cases s with
 |none=>
  refine (Ka h).mono ?_;rintro _ U _ ⟨I,rfl⟩;exact⟨⟨I.ab _,et.ext (g:=g) (gs:=gs) (A:=A) (B:=B) h I⟩,0,0,rfl,λq h=>(by cases h),λ_=>rfl⟩
 |some s=>exact vB (s:=s) h
theorem o3 {g:Nat} {A:ak} {B:ak} {s:Option aD} (h:dj w g gs A B clean s):am x7 kG [Γ g] w λv w'=>v= .bool s.isSome/\Ext w w':=by
 cases s with
 |none=>exact nz h
 |some s=>exact oV h
theorem Le {g:Nat} {A:ak} {B:ak} {s:Option aD} {e:Int} (h:dj w g gs A B clean s) (he:e≠0):am x7 m7 [Γ g,Δ e,Δ at_] w λ_ w'=>fQ w g gs A B clean ν w':=by
 cases s with
 |none=>
  refine (J8 h).mono ?_;rintro _ U _ I;exact⟨I.ab _,et.ext (g:=g) (gs:=gs) (A:=A) (B:=B) h I⟩
 |some s=>
  refine (sk (s:=s) h he).mono ?_;rintro _ U _ ⟨a,f⟩;exact⟨a.mono λr _ h=>.inl h,f⟩
theorem qq {g:Nat} {A:ak} {B:ak} {s:Option aD} {b:Bool} (h:dj w g gs A B clean s):am x7 pM [Γ g,.bool b,Δ at_] w λ_ w'=>fQ w g gs A B clean (s.map (bd b)) w':=by
 cases s with
 |none=>
  refine (Bd h).mono ?_;rintro _ U _ I;exact⟨I.ab _,et.ext (g:=g) (gs:=gs) (A:=A) (B:=B) h I⟩
 |some s=>
  refine (sm (s:=s) h).mono ?_;rintro _ U _ ⟨a,e⟩;exact⟨a.mono λr _ h=>.inl h,e⟩
theorem mw {n:Int} {s:Option aD} {s':aD} (h:bb lo hi s=σ (n,s')):lo<=n/\n<=hi:=by
 cases s with
 |none=>cases h
 |some s=>exact (hJ h).1
def e0 (ks acc:Λ) (s:Option aD):Option (Λ×aD):=s.bind (ip ks acc)
theorem BQ {acc:Λ} {s:Option aD}:e0 (k::ks) acc s=match bb 0 (k-1) s with
  |none=>ν
  |some (v,s)=>ip ks (acc++[v]) s:=by
 cases s with
 |none=>rfl
 |some s=>
  show ip (k::ks) acc s=_;rw[ip];show _=match bf 0 (k-1) s with|none=>ν|some (v,s)=>ip ks (acc++[v]) s
  cases bf 0 (k-1) s<;>rfl
theorem BR:∀ (t:Λ),(∀x∈t,0<=x/\x<=aw)->(dW t).length<=20*t.length
 |[],_=>by simp[dW]
 |x::t,h=>by
  have f:=BR t λy a=>h y (.tail _ a);have I:=h x (.head _);have j:=vk 19 x.toNat (by unfold aw at I;omega) Ω;have e:dW (x::t)=fe x.toNat++[32]++dW t:=by simp[dW]
  rw[e];simp only[p9,c7,List.length_nil];omega
theorem Lf {g aq:Nat} {A B:ak} {s:Option aD} {ae:x1->x3->Prop}
  (h:dj w g gs A B clean s) (aj:aF .i64 w sv sizes) (aQ:∀r,leads sv r->¬bD g gs A r/\r≠aq) (aR:∀z∈sizes,1<=z/\z<=aw) (bQ:sizes.length<=100001) (aS:eg w) (h1:cI g gs A B 1)
  (al:af w aq dV [.slice ν 0 0,Δ 0]) (an:¬bD g gs A aq) (ao:¬B aq)
  (av:∀t w' aL gt,t.length=sizes.length->(∀x∈t,0<=x/\x<=aw)->ah (λr=>bD g gs A r\/r=aq) w w'->af w' aq dV [aL,Δ 0]->au .i64 ap w' gt aL t->w.heap.size<=gt->
   dj w' g gs A B clean ((e0 sizes [] s).map (·.2))->(∀q,e0 sizes [] s=σ q->t=q.1)->ae (bN (dW t)) w'):
  bX (.string ⟨#[]⟩) (Δ 0) w λkey S C aU=>
   aa x7 (aJ .lss ai false false S (Δ (sizes.length:Int))) C λaV=>
   Split aV (aa x7 (j5 ax sv S) C λaX=>
   aa x7 (u4 ap aX) C λaY=>
   aa x7 (aJ .sub ap false true aY (Δ 1)) C λaZ=>
   am x7 m4 [Γ g,(Δ 0),aZ] C λay G=>
   aa x7 (Z4 ay 0) G λaz=>
   aa x7 (Z4 ay 1) G λbR=>
   aa x7 (u5 dV (Γ aq) 0) G λa1=>
   aa x7 (u4 ax a1) G λa2=>
   aC x7 (Y0 ax 1 #[(0,az)]) G λa6 a7=>
   aC x7 (b8 #[ax,ax] ax #[a2,a6]) a7 λa8 aA=>
   aa x7 (u5 dV (Γ aq) 0) aA λba=>
   aC x7 (o6 ax ba a8) aA λ(_:Unit) bc=>
   am x7 uQ [az] bc λbd K=>
   aa x7 (aJ .add c0 false true bd (.string ⟨#[32]⟩)) K λbf=>
   aa x7 (aJ .add c0 false false key bf) K λbg=>
   aa x7 (aJ .add ai false true S (Δ 1)) K λbh=>
   aU bg bh K) (ae key C):=by
 have bS:=al.lt;have bk:=h.side;obtain⟨bT,bU,bV,bl,bm⟩:=bk;refine bX.range sizes.length (λj key U=>∃t aL gt f,key=bN (dW t)/\t.length=j/\(∀x∈t,0<=x/\x<=aw)/\ah (λr=>bD g gs A r\/r=aq) w U/\af U aq dV [aL,Δ 0]/\au .i64 ap U gt aL t/\w.heap.size<=gt/\
  dj U g gs A B clean f/\e0 sizes [] s=e0 (sizes.drop j) t f) aj.le ⟨[],_,w.heap.size,s,rfl,rfl,λx I=>(by cases I),ah.refl _ _,al,au.nil _ _ _ _,p8 _,h,rfl⟩ ?_ ?_
 rotate_left
 .rintro _ U bn ⟨t,aL,gt,f,rfl,L,H,E,M,N,W,O,he⟩;refine cm Ω ?_;rw[List.drop_length] at he;cases f with
  |none=>
   have he:e0 sizes [] s=ν:=he;exact av t U aL gt L H E M N W (by rw[he];exact O) (λq e=>by rw[he] at e;cases e)
  |some f=>
   have he:e0 sizes [] s=σ (t,f):=he;exact av t U aL gt L H E M N W (by rw[he];exact O) (λq e=>by rw[he] at e;cases e;rfl)
 rintro j _ U bn aB ⟨t,aL,gt,f,rfl,L,H,E,M,N,W,O,he⟩ bo;obtain⟨z,X⟩:=aH (l:=sizes) aB;have bp:=aR z (x5 X);have bW:z<=4611686018427387904:=bp.2;have bq:aF .i64 U sv sizes:=hI aj E λr y a n c ac br=>by
  have:=aQ r ⟨a,n,c,ac,br⟩;exact y.elim this.1 this.2
 have ag:∀r,bD g gs A r->r<w.heap.size:=bl;refine bE Ω ?_;rw[be ax.u ap.i Ψ bq X,dJ,wrap_i64 Ω Ω];refine (lP O).mono ?_;rintro _ V _ ⟨bu,n,at_,rfl,aE,bw⟩;obtain⟨P,bx⟩:=bu.of;have aG:0<=n/\n<=aw:=by
  cases e:bb 0 (z-1) f with
  |none=>rw[bw e];exact⟨Ω,by unfold aw;omega⟩
  |some q=>
   rw[aE q e];have:=mw (s':=q.2) (n:=q.1) e;exact⟨this.1,by unfold aw;omega⟩
 rw[bi,bj];have aI:=M.ab P an;have bz:=N.ab P λ_ bA=>by have:=ag _ bA;omega
 rw[aT dV.p 0 aI rfl];refine eo ax.u ap.i rfl λa ga bB bY J bC=>?_;refine iT ax.u ap.i rfl (bz.ext J) bC.ls Θ Θ λaK aN bF bZ Y Q=>?_;have b0:=E.size;have b1:=P.size;have z3:=J.size;have z4:=Q.size;rw[aW dV.p rfl];have bG:=(aI.ext J).ab Q (λhe=>by have he:aq=gt:=he;omega);refine bt (g:=aq) (o:=0) ax.i Y.ls.cells.1 Y.ls.cells.2 bG Ξ λaO Z b2 ad=>?_;have ad:af aO aq dV [aK,Δ 0]:=ad;have bH:ah (λr=>bD g gs A r\/r=aq) w bB:=(E.trans (P.mono λr _ h=>.inl h)).trans (J.ab _);have bI:ah (λr=>bD g gs A r\/r=aq) w bF:=hp bH Q λr y he=>by have he:r=gt:=he;omega
 have aP:ah (λr=>bD g gs A r\/r=aq) w aO:=bI.trans (Z.mono λr _ h=>.inr h);have bJ:¬(λr=>bD g gs A r\/r=aq) 1:=λh=>h.elim h1.1 λh=>ao (h▸h1.2);obtain⟨m,rfl⟩:∃m:Nat,n=(m:Int):=⟨n.toNat,Ω⟩;unfold aw at aG;refine (Ld (aS.ab aP bJ) Ω).mono ?_;rintro _ b3 _ ⟨rfl,R⟩;have b4:=vk 19 m Ω Ω;have b5:=BR t H;rw[show (ByteArray.mk #[32])=strOfNums [32] from rfl,vg Θ,vg Θ,aM];refine bo _ _ ⟨t++[(m:Int)],aK,aN,(bb 0 (z-1) f).map (·.2),?_,by simp[L],λx I=>?_,aP.trans (R.ab _),ad.ext R,(Y.ab Z (λ_ he=>by have he:aN=aq:=he;omega)).ext R,Ω,?_,?_⟩
 .rw[Jt,u6]
 .rcases o7.1 I with I|I
  .exact H x I
  .rw[o9.1 I];exact aG
 .refine dj.ext ?_ R;have bK:=bx.ext J;have bL:∀r,bD g gs A r->¬(λr=>r=gt) r:=λr y he=>by have:=ag r y;have he:r=gt:=he;omega
  have bM:∀r,cI g gs A B r->¬(λr=>r=gt) r:=λr y he=>by have:=bm r y.2;have he:r=gt:=he;omega
  have bO:∀r,bD g gs A r->¬(λr=>r=aq) r:=λr y he=>by have he:r=aq:=he;exact an (he▸y)
  have bP:∀r,cI g gs A B r->¬(λr=>r=aq) r:=λr y he=>by have he:r=aq:=he;exact ao (he▸y.2)
  exact (bK.ab Q bL bM).ab Z bO bP
 .rw[he,X7 aB,show sizes[j]=z from (x4.1 X).2,BQ];cases e:bb 0 (z-1) f with
  |none=>rfl
  |some q=>
   rw[aE q e];rfl
def dP (s:aD):Prop:=s.big=false->s.told<=16384
def jF (n:Int) (s:aD):aD:=bd (decide (16384<min (s.told+n) aw)) {s with told:=min (s.told+n) aw}
theorem Lg (n:Int) (s:aD):dP (jF n s):=λh=>by
 have h:(s.big||decide (16384<min (s.told+n) aw))=false:=h;have:=of_decide_eq_false (T4.1 h).2;show min (s.told+n) aw<=16384;omega
theorem Lh {g:Nat} {A B:ak} {s:Option aD} {n:Int} {K:x3->Prop} (h:dj w g gs A B clean s) (M:∀t,s=σ t->0<=n/\n<=aw/\dP t)
  (G:∀w',ah (bD g gs A) w w'->dj w' g gs A B clean (s.map (jF n))->K w'):
  aa x7 (bK (Γ g)) w λN=>
  aa x7 (u5 b7 N 2) w λO=>
  aa x7 (u4 ap O) w λP=>
  aa x7 (aJ .add ap false false P (Δ n)) w λQ=>
  aa x7 (Z0.min_ #[ap,ap] ap #[Q,(Δ 4611686018427387904)]) w λR=>
  aa x7 (bK (Γ g)) w λS=>
  aa x7 (u5 b7 S 2) w λW=>
  aC x7 (o6 ap W R) w λ(_:Unit) m=>
  aa x7 (bK (Γ g)) m λt77=>
  aa x7 (u5 b7 t77 2) m λX=>
  aa x7 (u4 ap X) m λY=>
  aa x7 (aJ .gtr ap false true Y (Δ 16384)) m λZ=>
  am x7 pM [Γ g,Z,Δ at_] m λ_ ac=>K ac:=by
 cases s with
 |none=>
  obtain⟨J,e,big,x,y,told,sv,l,q,z,C⟩:=id h;rw[aO b7.p 2 q rfl,aM,lE,bS,aW b7.p rfl];refine bt (g:=g) (o:=5) ap.i rfl rfl q (by simp[fD]) λU a ad f=>?_;rw[aO b7.p 2 f rfl,bR];have H:et U g gs A B:=⟨J.ab a,e,big,x,y,_,sv,l,f,z,ao.ab C a λr _ h E=>si h J.2.1 E⟩;refine (Bd H).mono ?_;rintro _ V _ I;exact G _ ((a.mono λr _ h=>.inl h).trans (I.ab _)) (H.ext I)
 |some s=>
  obtain⟨aq,ae,hi⟩:=M s rfl;obtain⟨J,ag,ai,big,x,y,told,sv,q,z,C⟩:=id h;rw[aO b7.p 2 q rfl,aM,lE,bS,aW b7.p rfl];refine bt (g:=g) (o:=5) ap.i rfl rfl q (by simp[fD]) λU a ad f=>?_;have f:af U g b7 (fD gs 0 big x y (min (X2.wrap (told+n)) 4611686018427387904) sv):=f;rw[aO b7.p 2 f rfl,bR];have key:s.big=false->min (X2.wrap (told+n)) 4611686018427387904=min (s.told+n) aw:=λj=>by
   rw[z.2 j];have:=hi j;unfold aw at ae ⊢;rw[wrap_i64 Ω Ω]
  have aj:df U g gs A B {s with told:=min (s.told+n) aw} clean:=⟨J.ab a,ag.ab a (λhe=>J.1 he.symm) (λr al he=>al.1 (.inl he)),⟨by show 0<=min _ _;unfold aw;omega,by show min _ _<=_;omega,ai.2.2⟩,big,x,y,_,sv,f,⟨z.1,key⟩,ao.ab C a λr _ h E=>si h J.2.1 E⟩;refine (sm aj).mono ?_;rintro _ V _ ⟨an,L⟩;refine G _ ((a.trans an).mono λr _ h=>.inl h) ?_;have e:bd (decide (16384<min (X2.wrap (told+n)) 4611686018427387904)) {s with told:=min (s.told+n) aw}=jF n s:=by
   cases j:s.big with
   |false=>rw[key j,<-j];rfl
   |true=>simp[jF,bd,j]
  rw[e] at L;exact L
def ix (sizes:Λ) (s:Option aD):Option (List (Λ×Int)×aD):=s.bind (dN sizes)
def kX (w:x3) (m:Nat) (acc:List (Λ×Int)):Prop:=c4 w m (acc.map λp=>(bN (dW p.1),Δ 1))
def kd (w:x3) (m:Nat):Prop:=∃d,c4 w m d/\ ∀p∈d,∃ (k:ByteArray) (c:Int),p=(.string k,Δ c)
theorem kX.any {acc:List (Λ×Int)} (h:kX w m acc):kd w m:=⟨_,h,λp a=>by
 obtain⟨q,_,rfl⟩:=n9.1 a;exact⟨_,_,rfl⟩⟩
theorem Li {k:ByteArray} (h:kd w m) (f:∀c:Int,K (Δ c)):aa x7 (Instr.lookup gQ (.map (σ m)) (.string k) false) w K:=by
 obtain⟨d,hm,q⟩:=h;have hk:=Keys.str c0.u;have r:∀p∈d,∃s,p.1=x1.string s:=λp a=>by obtain⟨s,c,rfl⟩:=q p a;exact⟨s,rfl⟩
 by_cases he:∃p∈d,p.1=x1.string k
 .obtain⟨p,a,e⟩:=he;obtain⟨j,x⟩:=X1.1 a;obtain⟨s,c,rfl⟩:=q p a;have e:x1.string s=x1.string k:=e;rw[e] at x;rw[qh gQ.u hk hm r ⟨k,rfl⟩ x];exact f c
 .have y:∀p∈d,p.1≠x1.string k:=λp a h=>he ⟨p,a,h⟩;rw[su gQ.u hk ⟨_,_,ai.i⟩ hm r ⟨k,rfl⟩ y];exact f 0
theorem Lj {k:ByteArray} {K:Unit->x3->Prop} (h:kd w m) (x:∀w',ah (λr=>r=m) w w'->kd w' m->K () w'):aC x7 (Instr.mapUpdate gQ (.map (σ m)) (.string k) (Δ c)) w K:=by
 obtain⟨d,hm,e⟩:=h;have y:∀p∈d,∃s,p.1=x1.string s:=λp a=>by obtain⟨s,c,rfl⟩:=e p a;exact⟨s,rfl⟩
 refine qi gQ.u (Keys.str c0.u) hm y ⟨k,rfl⟩ (λj v0 w' z f q=>x w' q ⟨_,f,λp a=>?_⟩) (λw' A f q=>x w' q ⟨_,f,λp a=>?_⟩)
 .rcases X6 a with a|rfl
  .exact e p a
  .exact⟨_,_,rfl⟩
 .rcases o7.1 a with a|a
  .exact e p a
  .rw[o9.1 a];exact⟨_,_,rfl⟩
theorem BS {a b:Λ} (e:∀x∈a,0<=x) (f:∀x∈b,0<=x) (h:bN (dW a)=bN (dW b)):a=b:=by
 have h:strOfNums (dW a)=strOfNums (dW b):=x1.string.inj h;exact Au e f (str_inj (Av a) (Av b) h)
theorem vR {acc:List (Λ×Int)}:∀p∈acc.map λp=>(bN (dW p.1),W8 .i64 1),∃s,p.1=x1.string s:=λp a=>by
 obtain⟨q,_,rfl⟩:=n9.1 a;exact⟨_,rfl⟩
theorem BT {acc:List (Λ×Int)} {t:Λ} (h:kX w m acc) (f:∀p∈acc,∀x∈p.1,0<=x) (r:∀x∈t,0<=x):
  aa x7 (Instr.lookup gQ (.map (σ m)) (bN (dW t)) false) w K=K (Δ (if t∈acc.map (·.1) then 1 else 0)):=by
 have hk:=Keys.str c0.u;by_cases he:t∈acc.map (·.1)
 .rw[if_pos he];obtain⟨p,a,rfl⟩:=n9.1 he;obtain⟨j,s⟩:=X1.1 a;rw[qh gQ.u hk h vR ⟨_,rfl⟩ (j:=j) (v:=Δ 1) (by rw[x8,s];rfl)];simp
 .rw[if_neg he];rw[su gQ.u hk ⟨_,_,ai.i⟩ h vR ⟨_,rfl⟩ (λp a y=>?_)]
  .simp
  .obtain⟨q,e,rfl⟩:=n9.1 a;have:=BS (f q e) r y;exact he (n9.2 ⟨q,e,this⟩)
theorem Lk {acc:List (Λ×Int)} {t:Λ} {K:Unit->x3->Prop} (h:kX w m acc) (z:∀p∈acc,∀x∈p.1,0<=x) (A:∀x∈t,0<=x) (B:t∉acc.map (·.1))
  (C:∀w',ah (λr=>r=m) w w'->kX w' m (acc++[(t,c)])->K () w'):aC x7 (Instr.mapUpdate gQ (.map (σ m)) (bN (dW t)) (Δ 1)) w K:=by
 refine qi gQ.u (Keys.str c0.u) h vR ⟨_,rfl⟩ (λj v0 w' e f s=>?_) (λw' _ f s=>C w' s ?_)
 .rw[x8] at e;obtain⟨q,y,a⟩:=Y5.1 e;have a:bN (dW q.1)=bN (dW t):=congrArg Prod.fst a;have:=BS (z q (x5 y)) A a;exact absurd (n9.2 ⟨q,x5 y,this⟩) B
 .unfold kX;rw[b6];exact f
theorem Ll {acc:List (Λ×Int)} {t:Λ} {ok:Prop} {K:Unit->x3->Prop} (e:kd w m) (z:ok->kX w m acc/\(∀p∈acc,∀x∈p.1,0<=x)/\(∀x∈t,0<=x)/\t∉acc.map (·.1))
  (f:∀w',ah (λr=>r=m) w w'->kd w' m->(ok->kX w' m (acc++[(t,c)]))->K () w'):
  aa x7 (Instr.lookup gQ (.map (σ m)) (bN (dW t)) false) w λA=>
  aa x7 (aJ .add ai false true A (Δ 1)) w λB=>
  aC x7 (Instr.mapUpdate gQ (.map (σ m)) (bN (dW t)) B) w K:=by
 by_cases j:ok
 .obtain⟨h1,q,s,y⟩:=z j;rw[BT h1 q s,if_neg y,aM,wrap_i64 Ω Ω];exact Lk (c:=c) h1 q s y λw' a J=>f w' a J.any λ_=>J
 .refine Li e λgR=>?_;rw[aM];exact Lj e λw' a J=>f w' a J λh=>absurd h j
def fh {α:Type} (f:List α->aD->Option (α×aD)) (n:Nat) (acc:List α) (o:Option aD):Option (List α×aD):=o.bind (cN f n acc)
theorem kd.ab (h:kd w m) (I:ah S w w') (a:¬S m):kd w' m:=by
 obtain⟨d,h1,e⟩:=h;exact⟨d,h1.ab I a,e⟩
theorem dj.words {g:Nat} {A:ak} {B:ak} {s:aD} (h:dj w g gs A B clean (σ s)):s.toks.length<=100000:=by
 have h:df w g gs A B s clean:=h;exact h.2.1.words.1
theorem BU {acc:List (Λ×Int)} {st:aD} {t:Λ} (j:∀q,e0 sizes [] (σ st)=σ q->t=q.1) (a:∀q,bb 0 aw ((e0 sizes [] (σ st)).map (·.2))=σ q->c=q.1):
  (bb 0 aw ((e0 sizes [] (σ st)).map (·.2))=ν->dM sizes acc st=ν)/\ ∀q,bb 0 aw ((e0 sizes [] (σ st)).map (·.2))=σ q->dM sizes acc st=if t∈acc.map (·.1) then ν else σ ((t,c),q.2):=by
 have e:e0 sizes [] (σ st)=ip sizes [] st:=rfl;rw[e] at j a ⊢;unfold dM;cases h1:ip sizes [] st with
 |none=>exact⟨λ_=>rfl,λq f=>(by cases f)⟩
 |some q=>
  obtain⟨bw,m⟩:=q;rw[h1] at j a;have:=j _ rfl;subst this;have p:bb 0 aw ((σ (t,m)).map (·.2))=bf 0 aw m:=rfl;rw[p] at a ⊢;simp only;cases r:bf 0 aw m with
  |none=>exact⟨λ_=>rfl,λq f=>(by cases f)⟩
  |some q=>
   obtain⟨s,w⟩:=q;rw[r] at a;have:=a _ rfl;subst this;exact⟨λh=>(by cases h),λq f=>(by cases f;rfl)⟩
theorem Lm {g:Nat} {A B:ak} {s:Option aD} {Q:x1->x3->Prop}
  (h:dj w g gs A B clean s) (bZ:aF .i64 w sv sizes) (aT:∀r,leads sv r->¬bD g gs A r/\r<w.heap.size) (b0:∀z∈sizes,1<=z/\z<=aw) (b1:sizes.length<=100001) (b2:eg w) (h1:cI g gs A B 1) (b3:(N:Int)<=aw)
  (bp:∀v w' l,fQ w g gs A B clean ((fh (dM sizes) N [] s).map (·.2)) w'->bC (ea w.heap.size) bu w' [v] (show List (Λ×Int) from l)->(∀q,fh (dM sizes) N [] s=σ q->l=q.1)->Q v w'):
  aC x7 (Instr.makeMap gQ ν) w λaX m=>
 bX (.slice ν 0 0) (Δ 0) m λout i G k=>
  cu (α:=x1->x3->Prop) (λ(b4:x1) (S:x3)=>
   Split b4 (aC x7 (R7 dV true (.tuple #[])) S λx j=>
  aa x7 (W6 #[ax] ai #[sv]) j λb5=>
  bX (.string ⟨#[]⟩) (Δ 0) j λkey aZ U b6=>
   aa x7 (aJ .lss ai false false aZ b5) U λb7=>
   Split b7 (aa x7 (j5 ax sv aZ) U λb9=>
   aa x7 (u4 ap b9) U λca=>
   aa x7 (aJ .sub ap false true ca (Δ 1)) U λcb=>
   am x7 m4 [Γ g,(Δ 0),cb] U λbq Y=>
   aa x7 (Z4 bq 0) Y λbr=>
   aa x7 (Z4 bq 1) Y λdt=>
   aa x7 (u5 dV x 0) Y λcc=>
   aa x7 (u4 ax cc) Y λcd=>
   aC x7 (Y0 ax 1 #[(0,br)]) Y λce H=>
   aC x7 (b8 #[ax,ax] ax #[cd,ce]) H λcg bw=>
   aa x7 (u5 dV x 0) bw λch=>
   aC x7 (o6 ax ch cg) bw λ(_:Unit) ci=>
   am x7 uQ [br] ci λcj aE=>
   aa x7 (aJ .add c0 false true cj (.string ⟨#[32]⟩)) aE λck=>
   aa x7 (aJ .add c0 false false key ck) aE λcl=>
   aa x7 (aJ .add ai false true aZ (Δ 1)) aE λcm=>
   b6 cl cm aE)
    (am x7 m4 [Γ g,(Δ 0),(Δ 4611686018427387904)] U λbx aG=>
  aa x7 (Z4 bx 0) aG λcn=>
  aa x7 (Z4 bx 1) aG λcp=>
  aa x7 (u5 dV x 1) aG λcq=>
  aC x7 (o6 ap cq cn) aG λ(_:Unit) cr=>
  cu (α:=x3->Prop) (λ(V:x3)=>
   aa x7 (Instr.lookup gQ aX key false) V λct=>
   aa x7 (aJ .add ai false true ct (Δ 1)) V λcw=>
   aC x7 (Instr.mapUpdate gQ aX key cw) V λ(_:Unit) Z=>
   aa x7 (u4 dV x) Z λcz=>
   aC x7 (Y0 ij 1 #[(0,cz)]) Z λcA av=>
   aC x7 (b8 #[ij,ij] ij #[out,cA]) av λcB aH=>
   aa x7 (aJ .add ap false true i (Δ 1)) aH λcC=>
  k cB cC aH) λbz=>
  cu (α:=x1->x3->Prop) (λ(cD:x1) (M:x3)=>
   Split cD (am x7 m7 [Γ g,(Δ 4),cp] M λdu bA=>
    bz bA)
    (bz M)) λbB=>
  am x7 kG [Γ g] cr λcE ad=>
  Split cE (aa x7 (Instr.lookup gQ aX key false) ad λcF=>
  aa x7 (aJ .gtr ai false true cF (Δ 0)) ad λcG=>
  bB cG ad)
   (bB (.bool false) ad)))
    (Q out S)) λbE=>
  aa x7 (aJ .lss ap false false i (Δ (N:Int))) G λcH=>
  Split cH (am x7 kG [Γ g] G λcJ cK=>
  bE cJ cK)
   (bE (.bool false) G):=by
 obtain⟨dv,dw,dx,cL,aI⟩:=h.side;have ag:∀r,bD g gs A r->r<w.heap.size:=cL;unfold aw at b3;refine ss λy m dy a1 a2=>?_;have dz:=a1.size;have dA:=a2.lt;generalize C:fh (dM sizes) N [] s=bF at bp;refine⟨λout a6 G=>∃ (i:Nat) (acc:List (Λ×Int)) (so:Option aD),a6=Δ (i:Int)/\i<=N/\ah (bD g gs A) w G/\m.heap.size<=G.heap.size/\bC (ea m.heap.size) bu G [out] acc/\dj G g gs A B clean so/\
   bF=fh (dM sizes) (N-i) acc so/\kd G y/\acc.length<=100001/\ ∀st,so=σ st->kX G y acc/\(∀p∈acc,∀x∈p.1,0<=x)/\acc.length+st.toks.length<=100000,
  λ_ a6 _=>N-(bU a6).toNat,⟨0,[],s,rfl,X3 _,a1.ab _,p8 _,gS,h.ext a1,C.symm,⟨[],a2,λp L=>(by cases L)⟩,Ξ,λst cM=>⟨a2,λp L=>(by cases L),?_⟩⟩,?_⟩
 .subst cM;have:=h.words;simpa using this
 rintro out _ G ⟨i,acc,so,rfl,dC,bH,z9,bI,a7,aK,cN,dD,a8⟩;refine aV (λv S=>Ext G S/\((v= .bool true/\i<N/\ ∃st,so=σ st)\/(v= .bool false/\(so=ν\/i=N)))) ?_ ?_
 rotate_left
 .intro ay ba;rw[aN,al];refine⟨λcO=>?_,λdE=>ba _ _ ⟨Ext.refl _,.inr ⟨rfl,.inr Ω⟩⟩⟩;refine (o3 a7).mono ?_;rintro _ S _ ⟨rfl,O⟩;cases so with
  |none=>exact ba _ _ ⟨O,.inr ⟨rfl,.inl rfl⟩⟩
  |some st=>exact ba _ _ ⟨O,.inl ⟨rfl,Ω,st,rfl⟩⟩
 rintro _ S ⟨O,cP⟩;rcases cP with⟨rfl,cO,st,rfl⟩|⟨rfl,cQ⟩
 rotate_left
 .rw[aY];have bJ:bF=so.map λst=>(acc,st):=by
   rcases cQ with rfl|rfl
   .exact aK
   .rw[V6] at aK;rw[aK];cases so<;>rfl
  refine bp out S acc (fQ.mk (bH.trans (O.ab _)) ?_) (bW (ao.mono bI (λr _ h=>by have h:m.heap.size<=r:=h;show w.heap.size<=r;omega) λ_ _ h=>h) O) (λq J=>?_)
  .rw[bJ,Option.map_map];have e:V4 ((λx=>x.2)∘λst=>(acc,st)) so=so:=by cases so<;>rfl
   rw[e];exact a7.ext O
  .rw[bJ] at J;cases so with
   |none=>cases J
   |some st=>cases J;rfl
 rw[bQ];obtain⟨a8,bc,dF⟩:=a8 st rfl;have dG:=O.size;refine bG dV.i λaq j dH bK bL=>?_;have az:=O.trans bK;have bd:ah (bD g gs A) w j:=bH.trans (az.ab _);have bM:aF .i64 j sv sizes:=hI bZ bd λr f a n c ac cR=>(aT r ⟨a,n,c,ac,cR⟩).1 f;rw[aU ax.u bM];have aO:¬bD g gs A aq:=λC=>by have:=ag _ C;omega
 refine Lf (s:=σ st) (a7.ext az) bM (λr f=>⟨(aT r f).1,by have:=(aT r f).2;omega⟩) b0 b1 (b2.ab bd h1.1) h1 bL aO (λcS=>by have:=aI _ cS;omega) λt U aL gt dI cT bN cU cV cW cX cY=>?_;have dJ:=bK.size;have z12:=bN.size;have dK:=bL.lt;have be:∀x∈t,0<=x:=λx I=>(cT x I).1;refine (lP cX).mono ?_;rintro _ Y _ ⟨bf,c,dL,rfl,cZ,dN⟩;obtain⟨aP,c1⟩:=bf.of;have dO:=aP.size;rw[bi,bj,aW dV.p rfl];refine bt (g:=aq) (o:=1) ap.i rfl rfl (cU.ab aP aO) Ξ λH aQ dP bg=>?_;have bg:af H aq dV [aL,Δ c]:=bg;have c2:au .i64 ap H gt aL t:=(cV.ab aP (λ_ C=>by have:=ag _ C;omega)).ab aQ (λ_ he=>by have he:gt=aq:=he;omega);have bh:ah (λr=>bD g gs A r\/r=aq) j H:=(bN.trans (aP.mono λr _ h=>.inl h)).trans (aQ.mono λr _ h=>.inr h);have W:dj H g gs A B clean ((bb 0 aw ((e0 sizes [] (σ st)).map (·.2))).map (·.2)):=c1.ab aQ (λr f he=>by have he:r=aq:=he;exact aO (he▸f)) (λr f he=>by have:=aI r f.2;have he:r=aq:=he;omega);have bP:¬(λr=>bD g gs A r\/r=aq) y:=λh=>h.elim (λh=>by have:=ag _ h;omega) (λh=>Ω);have c3:kd H y:=(cN.ab (az.ab (λ_=>False)) (λh=>h)).ab bh bP;have bS:kX H y acc:=(c4.ext a8 az).ab bh bP;obtain⟨bk,bl⟩:=BU (acc:=acc) cY cZ;refine dh (λV=>ah (bD g gs A) H V/\dj V g gs A B clean ((dM sizes acc st).map (·.2))) ?_ ?_
 .rintro V ⟨ae,c5⟩;have bm:¬bD g gs A y:=λh=>by have:=ag _ h;omega
  have dQ:=aQ.size;have dR:=ae.size;refine Ll (acc:=acc) (t:=t) (c:=c) (ok:=∃q,dM sizes acc st=σ q) (c3.ab ae bm) (λ⟨q,J⟩=>⟨c4.ab bS ae bm,bc,be,λP=>?_⟩) λZ aA c6 c7=>?_
  .cases K:bb 0 aw ((e0 sizes [] (σ st)).map (·.2)) with
   |none=>rw[bk K] at J;cases J
   |some aj=>rw[bl aj K,if_pos P] at J;cases J
  have dS:=aA.size;have c8:af Z aq dV [aL,Δ c]:=(bg.ab ae aO).ab aA (λhe=>by have he:aq=y:=he;omega);have c9:au .i64 ap Z gt aL t:=(c2.ab ae (λ_ C=>by have:=ag _ C;omega)).ab aA (λ_ he=>by have he:gt=y:=he;omega);rw[bO dV.p dV.i rfl c8.range];have bT:bC (ea j.heap.size) bu Z [aL,Δ c] (t,c):=⟨[aL],[Δ c],ea j.heap.size,bu,rfl,λ_ h=>h,λ_ h=>h.elim,λ_ _ _ h=>h,ao.mono (kM c9) (λr _ h=>by subst h;exact cW) (λ_ _ h=>h),rfl⟩;refine jw (α:=Λ×Int) (a:=(t,c)) (cs:=[aL,Δ c]) (A:=ea j.heap.size) (R:=bu) ij.u dV.i Φ rfl bT λu av an _ da=>?_;have z22:=an.size;have db:bC (λr=>ea m.heap.size r/\r<j.heap.size/\r≠aq) bu j [out] acc:=bW (ao.mono (lI bI) (λr _ h=>⟨h.1,by have:=h.2;omega,by have:=h.2;omega⟩) λ_ _ h=>h) az;have bV:ah (λr=>bD g gs A r\/r=aq\/r=y) j av:=(((bh.mono λr _ h=>h.elim .inl λh=>.inr (.inl h)).trans (ae.mono λr _ h=>.inl h)).trans (aA.mono λr _ h=>.inr (.inr h))).trans (an.ab _);have dc:=ao.ab db bV λr f h C=>by
   rcases h with h|h
   .have aR:m.heap.size<=r:=h.1;rcases C with C|C|C
    .have:=ag _ C;omega
    .exact h.2.2 C
    .omega
   .exact h
  refine mi (α:=Λ×Int) (a:=(t,c)) (A:=ea j.heap.size) ij.u dV.i rfl dc da (bW bT an) (λr _ h h'=>?_) Ω Ω λdT aH dd aB=>?_
  .rcases h' with h'|h'
   .have:=h.2;have:j.heap.size<=r:=h';omega
   .exact h'
  have dU:=aB.size;rw[aM,wrap_i64 Ω Ω];have de:ah (bD g gs A) w av:=hp bd bV λr f h=>by
   rcases h with h|h|h
   .exact h
   .omega
   .omega
  have df:ah (bD g gs A) w aH:=hp de aB λr f h=>by have aR:m.heap.size<=r:=h.1;omega
  have dg:dj av g gs A B clean ((dM sizes acc st).map (·.2)):=(c5.ab aA (λr f he=>by have he:r=y:=he;exact bm (he▸f)) (λr f he=>by have:=aI r f.2;have he:r=y:=he;omega)).ext an;have di:∀r,bD g gs A r->¬(ea m.heap.size r/\r<j.heap.size/\r≠aq):=λr f he=>by have:=ag _ f;have aR:m.heap.size<=r:=he.1;omega
  have dk:∀r,cI g gs A B r->¬(ea m.heap.size r/\r<j.heap.size/\r≠aq):=λr f he=>by have:=aI r f.2;have aR:m.heap.size<=r:=he.1;omega
  have bY:¬(ea m.heap.size y/\y<j.heap.size/\y≠aq):=λhe=>by have aR:m.heap.size<=y:=he.1;omega
  refine⟨⟨i+1,acc++[(t,c)],(dM sizes acc st).map (·.2),rfl,Ω,df,Ω,?_,dg.ab aB di dk,?_,(c6.ab (an.ab (λ_=>False)) (λh=>h)).ab aB bY,Θ,λdl dm=>?_⟩,by simp only[bU];omega⟩
  .refine ao.mono dd (λr _ h=>?_) λ_ _ h=>h;show m.heap.size<=r;rcases h with h|h|h
   .exact h.1
   .have h:j.heap.size<=r:=h;omega
   .omega
  .rw[aK,show N-i=(N-(i+1))+1 by omega];cases E:dM sizes acc st with
   |none=>exact oW E
   |some q=>
    obtain⟨a,dl⟩:=q;have dn:a=(t,c):=by
     cases K:bb 0 aw ((e0 sizes [] (σ st)).map (·.2)) with
     |none=>rw[bk K] at E;cases E
     |some aj=>
      rw[bl aj K] at E;split at E
      .cases E
      .cases E;rfl
    subst dn;exact sq E
  .obtain⟨q,J,rfl⟩:=Y5.1 dm;have dW:=(oT J).2.2.2.1;refine⟨c4.ab ((c4.ext (c7 ⟨q,J⟩) an)) aB bY,λp L=>?_,by simp only[p9,R2];omega⟩;rcases o7.1 L with L|L
   .exact bc p L
   .rw[o9.1 L];exact be
 .intro dX bn;cases K:bb 0 aw ((e0 sizes [] (σ st)).map (·.2)) with
  |none=>
   rw[K] at W;have E:=bk K;refine aV (λv M=>Ext H M/\v= .bool false) ?_ ?_
   .rintro _ M ⟨X,rfl⟩;rw[aY];exact bn _ ⟨X.ab _,by rw[E];exact W.ext X⟩
   .intro dp bo;refine (o3 W).mono ?_;rintro _ ad _ ⟨rfl,aS⟩;rw[show ((ν:Option (Int×aD)).map (·.2)).isSome=false from rfl,aY];exact bo _ _ ⟨aS,rfl⟩
  |some aj=>
   rw[K] at W;have E:=bl aj K;refine aV (λv M=>Ext H M/\v= .bool (decide (t∈acc.map (·.1)))) ?_ ?_
   .rintro _ M ⟨X,rfl⟩;rw[al];refine⟨λP=>?_,λdq=>?_⟩
    .refine (Le (W.ext X) Ω).mono ?_;rintro _ bA _ bf;obtain⟨dr,ds⟩:=bf.of;exact bn _ ⟨(X.ab _).trans dr,by rw[E,if_pos P];exact ds⟩
    .exact bn _ ⟨X.ab _,by rw[E,if_neg dq];exact W.ext X⟩
   .intro dp bo;refine (o3 W).mono ?_;rintro _ ad _ ⟨rfl,aS⟩;rw[show ((σ aj:Option (Int×aD)).map (·.2)).isSome=true from rfl,bQ,BT (c4.ext bS aS) bc be,bR];refine bo _ _ ⟨aS,?_⟩;congr 1;by_cases P:t∈acc.map (·.1)
    .rw[if_pos P,decide_eq_true P];rfl
    .rw[if_neg P,decide_eq_false P];rfl
theorem BV (sizes:Λ) (s:Option aD):ix sizes s=match bb (-aw) aw s with
 |none=>ν
 |some (n,s)=>
  if n<0 then match s.shared[(-n-1).toNat]? with
   |none=>ν
   |some (z,l)=>if z=sizes then σ (l,s) else ν
  else cN (dM sizes) n.toNat [] (jF n s):=by
 cases s with
 |none=>rfl
 |some s=>
  show dN sizes s=_;unfold dN;show _=match bf (-aw) aw s with
   |none=>ν
   |some (n,s)=>
    if n<0 then match s.shared[(-n-1).toNat]? with
     |none=>ν
     |some (z,l)=>if z=sizes then σ (l,s) else ν
    else cN (dM sizes) n.toNat [] (jF n s)
  cases bf (-aw) aw s<;>rfl
theorem BW {m:Bool} {S R:ak} {a:iu} (h:ao.rep (α:=iu) m S R w cs a):∃u v,cs=[u,v]/\ao.rep (α:=Λ) false bu R w [u] a.1/\ao.rep (α:=List (Λ×Int)) false bu R w [v] a.2:=by
 obtain⟨c,d,f,j,rfl,_,_,_,h1,e⟩:=h;have h1:ao.rep (α:=Λ) false bu R w c a.1:=h1;have e:ao.rep (α:=List (Λ×Int)) false bu R w d a.2:=e;obtain⟨u,rfl⟩:=W3.1 (show c.length=1 from ao.len h1);obtain⟨v,rfl⟩:=W3.1 (show d.length=1 from ao.len e);exact⟨u,v,rfl,h1,e⟩
theorem Ln {g:Nat} {A B:ak} {s:Option aD}
  (h:dj w g gs A B clean s) (hi:∀t,s=σ t->dP t) (ax:aF .i64 w sv sizes) (K:∀r,leads sv r->¬bD g gs A r/\r<w.heap.size) (aB:∀z∈sizes,1<=z/\z<=aw) (aC:sizes.length<=100001) (aE:eg w) (h1:cI g gs A B 1):
  am x7 Hf [Γ g,sv] w λv w'=>fQ w g gs A B clean ((ix sizes s).map (·.2)) w'/\ ∃l,Seen (λr=>cI g gs A B r\/w.heap.size<=r) w' [v] (show List (Λ×Int) from l)/\ ∀q,ix sizes s=σ q->l=q.1:=by
 have aG:=h.side;obtain⟨be,bf,bg,aH,bh⟩:=id aG;have ag:∀r,bD g gs A r->r<w.heap.size:=aH;refine az func140 ?_;refine (lP (lo:=-aw) (hi:=aw) h).mono ?_;rintro _ U _ ⟨aI,n,at_,rfl,Q,aJ⟩;obtain⟨L,ai⟩:=aI.of;have bk:=L.size;have j:=BV sizes s;rw[bi,bj];have aj:aF .i64 U sv sizes:=hI ax L λr C a n c ac W=>(K r ⟨a,n,c,ac,W⟩).1 C;have bl:∀r,leads sv r->¬bD g gs A r/\r<U.heap.size:=λr C=>⟨(K r C).1,by have:=(K r C).2;omega⟩;have rest:∀V,Ext U V->(∀q,bb (-aw) aw s=σ q->¬n<0)-> ∀N:Nat,n=(N:Int)->(N:Int)<=aw-> ∀y,ah (bD g gs A) V y->dj y g gs A B clean (((bb (-aw) aw s).map (·.2)).map (jF n))->
   ∀v w' l,fQ y g gs A B clean ((fh (dM sizes) N [] (((bb (-aw) aw s).map (·.2)).map (jF n))).map (·.2)) w'->bC (ea y.heap.size) bu w' [v] (show List (Λ×Int) from l)->(∀q,fh (dM sizes) N [] (((bb (-aw) aw s).map (·.2)).map (jF n))=σ q->l=q.1)->
   fQ w g gs A B clean ((ix sizes s).map (·.2)) w'/\ ∃l,Seen (λr=>cI g gs A B r\/w.heap.size<=r) w' [v] (show List (Λ×Int) from l)/\ ∀q,ix sizes s=σ q->l=q.1:=by
  intro V x M N X Y y G Z v w' l aK aL aM;obtain⟨aP,aQ⟩:=aK.of;have aR:=x.size;have z3:=G.size;have e:ix sizes s=fh (dM sizes) N [] (((bb (-aw) aw s).map (·.2)).map (jF n)):=by
   rw[j];cases f:bb (-aw) aw s with
   |none=>rfl
   |some q=>
    obtain⟨aS,H⟩:=q;have:=Q _ f;subst this;simp only;rw[if_neg (M _ f),X,u6];rfl
  rw[e];refine⟨fQ.mk (((L.trans (x.ab _)).trans G).trans aP) aQ,l,pV aL λr _ h=>?_,aM⟩;rcases h with h|h
  .have h:y.heap.size<=r:=h;exact .inr Ω
  .exact h.elim
 refine aV (λv V=>Ext U V/\v= .bool (decide (n<0/\(bb (-aw) aw s).isSome=true))) ?_ ?_
 rotate_left
 .intro ay P;refine (o3 ai).mono ?_;rintro _ V _ ⟨rfl,x⟩;cases f:bb (-aw) aw s with
  |none=>
   rw[show ((ν:Option (Int×aD)).map (·.2)).isSome=false from rfl,aY];exact P _ _ ⟨x,by rw[decide_eq_false];rintro⟨_,h⟩;rw[f] at h;cases h⟩
  |some q=>
   rw[show ((σ q:Option (Int×aD)).map (·.2)).isSome=true from rfl,bQ,aN];exact P _ _ ⟨x,by congr 1;rw[V5,decide_eq_true_eq,decide_eq_true_eq,f];exact⟨λh=>⟨h,rfl⟩,λh=>h.1⟩⟩
 rintro _ V ⟨x,rfl⟩;have I:=ai.ext x;have aR:=x.size;rw[al];refine⟨λM=>?_,λaT=>?_⟩
 rotate_left
 .have M:∀q,bb (-aw) aw s=σ q->¬n<0:=λq f h=>aT ⟨h,by rw[f];rfl⟩;obtain⟨N,X,Y⟩:∃N:Nat,n=(N:Int)/\(N:Int)<=aw:=by
   cases f:bb (-aw) aw s with
   |none=>rw[aJ f];exact⟨0,rfl,by unfold aw;omega⟩
   |some q=>
    have h1:=M q f;have aU:=mw (n:=q.1) (s':=q.2) f;have aX:=Q q f;exact⟨n.toNat,Ω,Ω⟩
  refine Lh (at_:=at_) I (λt aZ=>?_) λy G Z=>?_
  .obtain⟨q,f,rfl⟩:=Y5.1 aZ;have aU:=mw (n:=q.1) (s':=q.2) f;have aX:=Q q f;refine⟨Ω,Ω,?_⟩;cases s with
   |none=>cases f
   |some s0=>
    have an:=(dB (n:=q.1) (s':=q.2) f).eqs;have ao:=hi s0 rfl;intro ap;rw[an.1];rw[an.2.1] at ap;exact ao ap
  .have z3:=G.size;have a1:ah (bD g gs A) w y:=(L.trans (x.ab _)).trans G;subst X;refine Lm (N:=N) Z ((hI (aj.ext x) G λr C a n c ac W=>(K r ⟨a,n,c,ac,W⟩).1 C)) (λr C=>⟨(K r C).1,by have:=(K r C).2;omega⟩) aB aC (aE.ab a1 h1.1) h1 Y λv w' l a b c=>?_;exact rest V x M N rfl Y y G Z v w' l a b c
 .obtain⟨a2,a6⟩:=M;obtain⟨⟨aS,H⟩,f⟩:=Option.isSome_iff_exists.1 a6;have:=Q _ f;subst this;have bm:=mw f;rw[f] at j I;simp only at j;rw[if_pos a2] at j;have I:df V g gs A B H clean:=I;obtain⟨_,ao,bn,big,bo,bp,told,bq,aa,br,ad⟩:=id I;have bt:aw=4611686018427387904:=rfl;refine aV (λv y=>Ext V y/\v= .bool (decide (ix sizes s=ν))) ?_ ?_
  .rintro _ y ⟨E,rfl⟩;rw[al];refine⟨λa7=>?_,λaq=>?_⟩
   .refine (sk (I.ext E) Ω).mono ?_;rintro _ bw _ ⟨a8,ba⟩;rw[a7];refine⟨fQ.mk (((L.trans (x.ab _)).trans (E.ab _)).trans (a8.mono λr _ h=>.inl h)) ba,[],gS,λq f=>by cases f⟩
   .cases O:H.shared[(-n-1).toNat]? with
    |none=>rw[O] at j;exact absurd j aq
    |some q=>
     obtain⟨z,l⟩:=q;rw[O] at j;simp only at j;have bc:z=sizes:=by
      by_cases J:z=sizes
      .exact J
      .rw[if_neg J] at j;exact absurd j aq
     rw[if_pos bc] at j;rw[aO b7.p 3 (aa.ext E) rfl,lD,wrap_i64 Ω Ω,dJ,wrap_i64 Ω Ω];refine lJ (α:=iu) (m:=true) (S:=A) (R:=cI g gs A B) (i:=(-n-1).toNat) (a:=(z,l)) Ω hh.u jr.i (bW ad E) O λb o cs ae af=>?_;obtain⟨u,v,rfl,hu,ac⟩:=BW af;rw[aW jr.p rfl,aA Ψ (ae 1 v rfl)];rw[j];refine⟨fQ.mk ((L.trans (x.ab _)).trans (E.ab _)) (I.ext E),l,pV ac λr _ h=>?_,λq f=>by cases f;rfl⟩;rcases h with h|h
     .exact h.elim
     .exact .inl h
  .intro ay P;rw[lD,wrap_i64 Ω Ω,aO b7.p 3 aa rfl,io hh.u ad,bR,al];refine⟨λau=>P _ _ ⟨Ext.refl _,?_⟩,λav=>?_⟩
   .have au:(H.shared.length:Int)<0-n:=au;rw[Z6 Ω] at j;rw[decide_eq_true j]
   .have av:¬(H.shared.length:Int)<0-n:=av;have bd:(-n-1).toNat<H.shared.length:=Ω
    obtain⟨⟨z,l⟩,O⟩:∃q,H.shared[(-n-1).toNat]? =σ q:=⟨_,x6 bd⟩;rw[aO b7.p 3 aa rfl,lD,wrap_i64 Ω Ω,dJ,wrap_i64 Ω Ω];refine lJ (α:=iu) (m:=true) (S:=A) (R:=cI g gs A B) (i:=(-n-1).toNat) (a:=(z,l)) Ω hh.u jr.i ad O λb o cs ae af=>?_;obtain⟨u,v,rfl,hu,ac⟩:=BW af;rw[aW jr.p rfl,aA Ψ (ae 0 u rfl)];refine (IY (eE hu) (aj.ext x)).mono ?_;rintro _ y _ ⟨rfl,E⟩;rw[bI];refine P _ _ ⟨E,?_⟩;rw[O] at j;simp only at j;by_cases J:z=sizes
    .rw[if_pos J] at j;rw[decide_eq_true J,decide_eq_false (by rw[j];simp)];rfl
    .rw[if_neg J] at j;rw[decide_eq_false J,decide_eq_true j];rfl
end Go.Proofs.YtmgflbkdggdhoaaGreatDoor
