/- own texts, made small by a tool (wip/ holds them as they were written): no statement of the seat. -/
import Derived.Test.YtikkpokkcdocoaaGreatDoorYa
set_option linter.unusedVariables false
set_option linter.unusedSimpArgs false
set_option linter.unnecessarySimpa false
open Array renaming getElem?_eq_some_iff→j6,getElem?_toList→S7
open BitVec renaming ofInt→T0
open Bool renaming not_true→Y9,not_false→X9,eq_iff_iff→V7,and_eq_true→U1,or_eq_false_iff→U3
open Decidable renaming not_not→X2
open Go renaming Value→x3,World→x4,TypeId→r9,IntKind→o9,Builtin→Z4,Program→W9,FuncId→R6
open Go.Addr renaming add_mid→T4
open Go.Builtin renaming append_→Z3,len_→W7
open Go.Instr renaming loadAt→u5,fieldAt→u6,storeAt→o8,indexAt→j5,extract→Y2,buildSlice→Y8,sliceAt→V8
open Go.IntKind renaming i64→X7,u64→U8
open Go.Proofs.Tryz renaming prog→x8
open Go.Result renaming andThen→W8
open Go.Sem renaming run_bind→W6,run_pure→V3
open Go.Value renaming int→V5
open Int renaming toNat_natCast→u9,le_refl→Q1
open List renaming getElem?_eq_some_iff→x5,mem_of_getElem?→x6,getElem?_eq_getElem→x7,getElem?_map→v8,getD_eq_getElem?_getD→u4,length_map→u7,take_add_one→r8,replicate→o4,take_length→o6,length_append→o7,length_take→n9,mem_append→l9,mem_map→j0,mem_singleton→j4,take_of_length_le→j9,getElem?_set_self→c9,eq_nil_of_length_eq_zero→b9,map_append→Z2,length_cons→Z5,length_set→Z9,getElem?_take_of_lt→Y0,getElem?_append_left→Y1,getElem?_append_right→Y3,getElem?_eq_none→Y4,getElem?_set_ne→Y5,ext_getElem?→Y7,getElem?_set→X1,mem_iff_getElem?→X6,drop_eq_getElem_cons→X8,range→W3,mem_or_eq_of_mem_set→W5,length_eq_one_iff→V0,mem_cons→V1,flatMap_cons→V4,pairwise_iff_getElem→V6,map_set→U5,append_nil→U9,map_cons→T1,append_assoc→T3,foldl_cons→T7,set_append_right→T8,getElem?_drop→S2,length_singleton→S3,map_map→R2,foldl_append→R5,length→Q0,getElem_mem→Q3
open Nat renaming le_refl→o5,le_trans→X0,zero_add→X3,zero_le→X5,mul_le_mul_right→W0,mul_one→U2,sub_self→U4,add_mul→U7,lt_of_lt_of_le→T5,pow_le_pow_right→T6,add_assoc→R3,add_sub_cancel_left→R4,eq_zero_or_pos→Q2
open Ne renaming symm→S6
open Option renaming toList_some→l7,some→b8,isNone_some→Z6,map_some→Z7,map_eq_some_iff→Y6,getD_some→V2,map→V9
open Option.some renaming inj→Z0,injEq→X4
open Prod.mk renaming injEq→S1
set_option maxHeartbeats 16000000
open Option renaming some→σ,none→ν
variable{e t:r9}{N a gs j n r:Nat}{at_ c hi k lo y:Int}{sv v z:x3}{cs:List x3}{K:x3->Prop}{f:o9}{C ah ks l sizes:Λ}{w w':x4}{clean cx cy:Bool}{S:Nat->Prop}
namespace Go.Vc
open Go Go.RowKit
section
variable{P:W9}{w:x4}{m:Bool}{S R:af}
theorem se{b k l h:Nat}{low high:Option x3}(p:P.underlying t=σ (.slice e))(hi:aP P e k b z)(a:cc w k v n cs)(h1:lS low l)(q:lT high n h)(f:l<=h)(ap:h<=n)(r:∀j,cc w k j (h-l) ((cs.drop (l*k)).take ((h-l)*k))->K j):
  V P (V8 t v low high ν) w K:=by
 have s:=a;obtain⟨_,x,o,base,cap,rfl,y,_⟩:=a;rw[hR p hi h1 q fE f Ω (o5 _)];exact r _ (cc.part s f ap Ω (o5 _))
theorem Jz{k:o9}{b i:Nat}(j:y=(i:Int))(p:P.underlying t=σ (.slice e))(hi:aP P e 1 b z)(h:aH k w v l)(q:i<=l.length)(r:∀a,aH k w a (l.drop i)->K a):V P (V8 t v (σ (.int f y)) ν ν) w K:=by
 refine se p hi h (nv i y j) jE q (o5 _) λa h'=>r a (aH.of (n:=l.length-i) ?_);have s:((ints k l).drop (i*1)).take ((l.length-i)*1)=ints k (l.drop i):=by
  rw[j9 Ξ,U2,ints,<-List.map_drop]
 rw[s]at h';exact h'
theorem JA{k:o9}{b i:Nat}(j:y=(i:Int))(p:P.underlying t=σ (.slice e))(hi:aP P e 1 b z)(h:aH k w v l)(q:i<=l.length)(r:∀a,aH k w a (l.take i)->K a):V P (V8 t v ν (σ (.int f y)) ν) w K:=by
 refine se p hi h jD (nw i y j) (X5 _) q λa h'=>r a (aH.of (n:=i) ?_);have s:((ints k l).drop (0*1)).take ((i-0)*1)=ints k (l.take i):=by
  simp[ints,List.map_take]
 rw[s]at h';exact h'
theorem Ab{b:Nat}{parts:Array (Nat×x3)}{K:x3->x4->Prop}(a:P.underlying t=σ (.slice e))(hi:aP P e 1 b (Δ 0))(x:n<=100000)(f:l.length=n)(h:Instr.fill (λj=>σ (j*1,1)) ((Array.range (n*1)).map ((if n*1=0 then#[]else(V5 .i64 0).cells)[·% (if n*1=0 then#[]else(V5 .i64 0).cells).size]!)) parts.toList=σ (ints .i64 l).toArray)(p:∀v g w',g=w.heap.size->Ext w w'->aq .i64 e w' g v l->K v w'):aC P (Y8 t n parts) w K:=
 jF a hi Ω h λg w' q r s=>p _ g w' q r (aq.of (n:=n) (bW.full (by simpa using s) (by simp[f]) (by simp[maxLen];omega)))
end
section
variable{P:W9}{w:x4}
theorem JB{h p:r9}{q kn:o9}{b k cap:Nat}{base:Option Addr}{xs:List x3}{K:x3->x4->Prop}(x:y=(k:Int))(A:P.underlying t=σ (.slice e))(B:P.underlying h=σ (.int kn))(hi:aP P e 1 b z)(C:z.cells= #[z])(I:cc w 1 (.slice base n cap) n xs)(E:0<k)(r:cap<n+k)(F:(n+k)*b<=140737488355328)(G:n+k<=9223372036854775807)(H:∀v g w',g=w.heap.size->Ext w w'->bW w' g e 1 v (n+k) (xs++o4 k z)->K v w'):aC P (Z3 #[t,h] p #[.slice base n cap,.int q y]) w K:=by
 subst x;obtain⟨i,hi,J,rfl,L⟩:=hi;obtain⟨f,W,o,X,Y,he,M,Z,N,O⟩:=I;cases he;have Q:(Z4.firstCells i.size n (.slice base n cap)).run P w.drew= .ok xs.toArray w.drew:=by
  rcases Q2 n with rfl|R
  .have:xs=[]:=b9 (by simpa using f);subst this;cases base with
   |none=>exact run_firstCells_none w.drew i.size 0 0 cap
   |some a=>exact run_firstCells_some w.drew i.size 0 a 0 cap [] Ξ Ξ
  .have:=N R;subst this;refine run_firstCells_some w.drew i.size n _ n cap xs (by rw[J];exact f) λj u hu=>?_;rw[T4];exact O j u hu
 have S:k*i.bytes<=281474976710656:=by
  have:k*i.bytes<=(n+k)*i.bytes:=W0 _ Ω;omega
 have T:=Lib.run_append_grow_zeros (P:=P) w t h p e i z q kn A B hi L base n cap xs Q k E Ω r Ω S (growslice_fits r F);have U:n+k<=grownCap w (n+k) cap e:=grownCap_ge w _ _ _;have V:grownCap w (n+k) cap e<=maxLen:=grownCap_le_maxLen w (n+k) cap e (by simpa[maxLen]using G);have s:∀m,Z4.zeroCells z.cells m=(o4 m z).toArray:=λm=>by
  rw[C];apply Array.ext
  .simp[size_zeroCells]
  .intro j h1 M;simp[Z4.zeroCells,Nat.mod_one]
 refine .of T ((pG w _ (Nat.le_succ _)).trans (pI _ _)) (H _ w.heap.size _ rfl ((rm w _).trans (pH _ _)) ⟨by simp at f;simp[f],.inr ⟨_,xs++o4 k z++o4 (grownCap w (n+k) cap e-(n+k)) z,rfl,?_,U,V,?_,?_⟩⟩)
 .rw[s,s];have:=heap_alloc_new w.drew (.cells (xs.toArray++(o4 k z).toArray++(o4 (grownCap w (n+k) cap e-(n+k)) z).toArray) e);rw[List.append_toArray,List.append_toArray]at this ⊢;exact this
 .simp at f;simp[f];omega
 .simp at f;rw[List.take_append_of_le_length (by simp[f]),j9 (by simp[f])]
theorem Ac{a:r9}{base:Option Addr}{c:Nat}(f:P.underlying t=σ (.slice e)):
  V P (Z4.cap_ #[t] a #[.slice base n c]) w K=K (Δ c):=V.of λw' _=>by simp[Z4.cap_,run_underlying f,goInt]
theorem JC{g o k c:Nat}(h:ad w g e cs)(hk:o+k<=cs.length)(f:k<=c)(p:c<=maxLen):cc w 1 (.slice (σ ⟨g,o,ν⟩) k c) k ((cs.drop o).take k):=by
 refine⟨Θ,g,o,_,c,rfl,f,p,λ_=>rfl,λj v a=>?_⟩;have q:=(x5.1 a).1;simp at q;rw[Y0 Ω,S2]at a;exact h.cell a
theorem Ad{h p:r9}{q g o cap:Nat}{K:x3->x4->Prop}(s:P.underlying t=σ (.slice e))(hi:aP P e 1 q z)(x:z.cells= #[z])(h1:z.oneCell'=true)(a:ad w g p cs)(y:0<n)(F:o+n<=cs.length)(A:∀w',ae (λr=>r=g) w w'->w'.heap.size=w.heap.size->ad w' g p (over cs o (o4 n z))->K (.tuple #[]) w'):aC P (Z4.clear_ #[t] h #[.slice (σ ⟨g,o,ν⟩) n cap]) w K:=by
 obtain⟨i,hi,G,rfl,B⟩:=hi;have C:=Lib.run_clear_slice (P:=P) w t e h z s (λw=>by simp[zeroValue,typeInfo,hi,B]) x h1 g o n cap y
  (λj H=>by rw[a.cell (x7 (show o+j<cs.length by omega))];rfl) (λj _=>a.frozen _ _)
 obtain⟨E,f⟩:=ny (o4 n z) cs o w a;exact .of C (f.cu a) (A _ f.aa f.size E)
end
section
variable{P:W9}{w:x4}
theorem hV{a:r9}{k:o9}{i b g:Nat}(j:y=(i:Int))(p:P.underlying t=σ (.slice e))(hi:aP P e 1 b z)(h:aq k a w g v l)(q:i<l.length):V P (j5 t v (.int f y)) w K=K (.pointer (σ ⟨g,i,ν⟩)):=by
 subst j;obtain⟨_,⟨_,r⟩|⟨cap,cs,rfl,_⟩⟩:=h
 .omega
 .rw[eL p hi q (λ_=>rfl)];simp
theorem sf{k:o9}{i b:Nat}{x:Int}(j:y=(i:Int))(p:P.underlying t=σ (.slice e))(hi:aP P e 1 b z)(h:aH k w v l)(a:l[i]?=σ x)(q:∀b o,w.cell? ⟨b,o,ν⟩=σ (.int k x)->K (.pointer (σ ⟨b,o,ν⟩))):V P (j5 t v (.int f y)) w K:=by
 subst j;have r:=(x5.1 a).1;obtain⟨_,_,_,_,_,rfl,_,_,s,A⟩:=h;rw[eL p hi r s,U2];exact q _ _ (A i _ (kW a))
theorem hW{a:r9}{k:o9}{i b g:Nat}{x:Int}{K:Unit->x4->Prop}(hi:aP P e 1 b z)(h:aq k a w g v l)(E:i<l.length)(p:∀w',ae (λr=>r=g) w w'->w'.heap.size=w.heap.size->aq k a w' g v (l.set i x)->K () w'):aC P (o8 e (.pointer (σ ⟨g,i,ν⟩)) (.int k x)) w K:=by
 obtain⟨F,⟨_,G⟩|⟨cap,full,rfl,q,s,y,f,j⟩⟩:=h
 .omega
 .have A:i<full.length:=by simp at f;omega
  refine bq hi rfl rfl q A λw' B I C=>p w' B I ⟨Ξ,.inr ⟨cap,full.set i (.int k x),Ξ,C,by simpa using s,y,by simpa using f,?_⟩⟩;simp only[Z9,U2]at j ⊢;rw[List.take_set,j,ints,ints,U5]
theorem sg{b o:Nat}(a:jC P t=true)(h:w.cell? ⟨b,o,ν⟩=σ v):bZ P (u5 t (.pointer (σ ⟨b,o,ν⟩))) v w:=λw' e=>by
 have h':=iG e h;unfold jC at a;cases hu:P.underlying t with
 |none=>rw[hu]at a;cases a
 |some d=>
  rw[hu]at a;cases d<;>first|(cases a;done)|simp[u5,Instr.sureAddr,loadVar,isAgg,run_underlying hu,h']
theorem hX{k:o9}{S:af}(h:aH k w v l)(p:ae S w w')(q:∀r,S r->∀a n c,v= .slice (σ a) n c->a.block≠r):aH k w' v l:=by
 obtain⟨h1,b,o,base,cap,rfl,s,x,e,y⟩:=h;refine⟨h1,b,o,base,cap,rfl,s,x,e,?_⟩;rcases Q2 l.length with f|f
 .intro j u hu;have:=(x5.1 hu).1;simp at this;omega
 .have z:=e f;subst z;exact hP p (λh=>q _ h _ _ _ rfl rfl) y
end
end Go.Vc
namespace Go.Vc
open Go Go.RowKit Go.ChangeShapes Go.WideShapes
structure lY(P:W9)(t:r9)(α:Type)[ak α](G:α->Prop):Prop where
 op:∀{H:Type}{enc:r9×x3->H}{w:x4}{base:Nat}{spare:Nat->Bool}{held:Bool}{fuel:Nat}{cs:List x3}{x:DataW H×List MemPlace},
  DataW.trod enc P w base spare held fuel t cs=σ x->∃a:α,Seen eN w cs a/\G a
section
variable{P:W9}{α β:Type}[ak α][ak β]
theorem Ae{k:o9}{n:Int}(h:(Lit.int k n).wf=true):k.min<=n/\n<=k.max:=by simpa[Lit.wf]using h
theorem Af{k:o9}(a:P.underlying t=σ (.int k)):lY P t (jh k) λn=>k.min<=n.val/\n.val<=k.max:=⟨λh=>by
 obtain⟨n,rfl,_,hw⟩:=DataW.trod_int a h;exact⟨(n:Int),rfl,Ae hw⟩⟩
theorem mA(a:P.underlying t=σ (.int .i64)):lY P t Int λn=>X7.min<=n/\n<=X7.max:=⟨λh=>by
 obtain⟨n,rfl,_,hw⟩:=DataW.trod_int a h;exact⟨n,rfl,Ae hw⟩⟩
theorem JD(a:Addr)(m n:Nat):(a.add m).add n=a.add (m+n):=by
 unfold Addr.add;by_cases hm:m=0<;>by_cases e:n=0<;>simp[hm,e,R3]
theorem JE{base:Nat}{a:Addr}(h:w.cells? base a n=σ cs):cs.length=n/\∀j v,cs[j]?=σ v->w.cell? (a.add j)=σ v:=by
 unfold x4.cells? at h;split at h
 .have f:cs.length=n:=by
   have:=mapM_some_length h;simpa using this
  refine⟨f,λj v e=>?_⟩;have p:=(x5.1 e).1;have:=mapM_some_get h j j (List.getElem?_range Ω);rw[this,e]
 .cases h
theorem Ag{G:α->Prop}(M:P.underlying t=σ (.slice e))(he:lY P e α G)(N:P.cellsOf e=ak.n α)(V:0<ak.n α):lY P t (List α) λl=>∀a∈l,G a:=by
 constructor;intro H enc w base spare held fuel cs x h;rcases DataW.trod_slice M h with⟨rfl,_⟩|⟨a,len,cap,W,rest,n,_,rfl,rfl,X,Y,hm,Z,O,_,_⟩
 .exact⟨[],fV,λ_ h=>by cases h⟩
 .
  have K:∀i,i<len->∃(c:List x3)(y:α),c.length=ak.n α/\(∀j v,c[j]?=σ v->w.cell? (a.add (i*ak.n α+j))=σ v)/\Seen eN w c y/\G y:=by
   intro i hi;have h1:=O i hi;rw[x7 Ω,N,Option.bind_eq_some_iff]at h1;obtain⟨c,r,s⟩:=h1;obtain⟨B,C⟩:=JE r;obtain⟨y,E,Q⟩:=he.op s;exact⟨c,y,B,λj v q=>by have:=C j v q;rwa [JD]at this,E,Q⟩
  have all:∀m,m<=len->∃(vs:List (List x3))(l:List α),vs.length=m/\l.length=m/\(∀c∈vs,c.length=ak.n α)/\(∀(j:Nat)(v:x3),vs.flatten[j]?=σ v->w.cell? (a.add j)=σ v)/\
    (∀(i:Nat)(c:List x3)(y:α),vs[i]?=σ c->l[i]?=σ y->Seen eN w c y)/\∀y∈l,G y:=by
   intro m;induction m with
   |zero=>exact λ_=>⟨[],[],rfl,rfl,(λ_ h=>by cases h),(λj v h=>by simp at h),(λi c y h=>by simp at h),(λ_ h=>by cases h)⟩
   |succ m R=>
    intro hm;obtain⟨vs,l,h1,r,s,B,C,E⟩:=R Ω;obtain⟨c,y,g1,F,S,T⟩:=K m Ω;refine⟨vs++[c],l++[y],by simp[h1],by simp[r],λd f=>?_,λj v q=>?_,λi d z f p=>?_,λz p=>?_⟩
    .rcases l9.1 f with f|f
     .exact s d f
     .simp at f;subst f;exact g1
    .have A:=p7 s;rw[h1]at A;rw[List.flatten_append]at q;by_cases U:j<m*ak.n α
     .rw[Y1 Ω]at q;exact B j v q
     .rw[Y3 Ω,A]at q;simp at q;have:=F _ v q;rwa [show m*ak.n α+(j-m*ak.n α)=j by omega]at this
    .by_cases hi:i<m
     .rw[Y1 Ω]at f p;exact C i d z f p
     .have I:=(x5.1 f).1;simp[h1]at I;have I:i=m:=Ω
      subst I;rw[Y3 Ω,h1]at f;rw[Y3 Ω,r]at p;simp at f p;subst f p;exact S
    .rcases l9.1 p with p|p
     .exact E z p
     .simp at p;subst p;exact T
  obtain⟨vs,l,h1,r,s,B,C,E⟩:=all len (o5 _);have A:=p7 s;rw[h1]at A;have L:0<len->a=⟨a.block,a.off,ν⟩:=λJ=>by
   obtain⟨c,y,g1,F,_⟩:=K 0 Ω;have:=F 0 c[0] (x7 Ω);rw[Nat.zero_mul]at this;exact u1 this
  refine⟨l,⟨_,rfl,vs,0,λ_ _=>False,⟨λ_ _ h=>h.elim,(λh=>by cases h),(λh=>by cases h)⟩,⟨Ω,C⟩,⟨by rw[A,r],a.block,a.off,σ a,cap,by rw[r],Ω,hm,λJ=>congrArg σ (L Ω),λ_=>.inr trivial,λj v q=>?_⟩,λh=>by cases h⟩,E⟩;have:=B j v q;have U:=(x5.1 q).1;have J:0<len:=by
   rcases Q2 len with h|h
   .rw[h,Nat.zero_mul]at A;omega
   .exact h
  rw[L J,T4]at this;exact this
structure sh(P:W9)(fs:List Field)(off:Nat)(α:Type)[ak α](G:α->Prop):Prop where
 op:∀{H:Type}{enc:r9×x3->H}{w:x4}{base:Nat}{spare:Nat->Bool}{held:Bool}{n:Nat}{cs:List x3},cs.length=off+ak.n α->
  (∀f∈fs,∃x,DataW.trod enc P w base spare held n f.type ((cs.drop f.offset).take (P.cellsOf f.type))=σ x)->∃a:α,Seen eN w (cs.drop off) a/\G a
theorem Ah{f:Field}{off:Nat}{G:α->Prop}(h:lY P f.type α G)(e:f.offset=off)(j:P.cellsOf f.type=ak.n α):sh P [f] off α G:=by
 constructor;intro H enc w base spare held n cs s p;obtain⟨x,q⟩:=p f (.head _);obtain⟨a,h1,r⟩:=h.op q;rw[e,j,j9 Θ]at h1;exact⟨a,h1,r⟩
theorem mB{f:Field}{e:List Field}{off:Nat}{G:α->Prop}{j:β->Prop}(h:lY P f.type α G)(r:f.offset=off)(s:P.cellsOf f.type=ak.n α)(y:sh P e (off+ak.n α) β j):
  sh P (f::e) off (α×β) λp=>G p.1/\j p.2:=by
 constructor;intro H enc w base spare held n cs F q;obtain⟨x,z⟩:=q f (.head _);obtain⟨a,h1,A⟩:=h.op z;rw[r,s]at h1;have I:ak.n (α×β)=ak.n α+ak.n β:=rfl;obtain⟨b,B,C⟩:=y.op Ω λg E=>q g (.tail _ E);refine⟨(a,b),⟨(cs.drop off).take (ak.n α),cs.drop (off+ak.n α),λ_=>False,λ_=>False,?_,λ_ h=>h,λ_ h=>h,(λh=>by cases h),h1,B⟩,A,C⟩;rw[<-List.drop_drop,List.take_append_drop]
theorem Ai{a:List Field}{G:α->Prop}(e:P.underlying t=σ (.struct a.toArray))(j:sh P a 0 α G)(y:P.cellsOf t=ak.n α):lY P t α G:=by
 constructor;intro H enc w base spare held fuel cs x h;obtain⟨xs,n,_,rfl,z,p,q⟩:=DataW.trod_struct e h;have:=j.op (enc:=enc) (w:=w) (base:=base) (spare:=spare) (held:=held) (n:=n) (cs:=cs) Ω λf r=>by
  obtain⟨i,hi,rfl⟩:=List.mem_iff_getElem.1 r;have s:i<xs.length:=by simpa[p]using hi
  have:=q i a[i] (by simp[hi]);rw[x7 s]at this;exact⟨_,this⟩
 simpa using this
end
end Go.Vc
namespace Go.Vc
open Go Go.RowKit
set_option maxRecDepth 100000
theorem JF:(⟨#[]⟩:ByteArray)=strOfNums []:=rfl
theorem Aj{aw:x3->x3->x3->x4->Prop}{B:(x3->x3->x3->x4->Prop)->Prop}(G:x3->x3->x3->x4->Prop)(h1:∀t u v w,G t u v w->aw t u v w)(e:∀a:x3->x3->x3->x4->Prop,(∀t u v w,G t u v w->a t u v w)->B a):cv aw B:=e aw h1
theorem Ak{aw:x3->x3->x3->x3->x4->Prop}{B:(x3->x3->x3->x3->x4->Prop)->Prop}(G:x3->x3->x3->x3->x4->Prop)(h1:∀s t u v w,G s t u v w->aw s t u v w)(e:∀a:x3->x3->x3->x3->x4->Prop,(∀s t u v w,G s t u v w->a s t u v w)->B a):cv aw B:=e aw h1
abbrev bU(l:Λ):x3:=.string (strOfNums l)
def Bytes(l:Λ):Prop:=∀b∈l,0<=b/\b<256
theorem mC(l:Λ):(strOfNums l).size=l.length:=strOfNums_size l
theorem JG(h:Bytes l){i:Nat}{b:Int}(hi:l[i]?=σ b):(strOfNums l)[i]?=σ (UInt8.ofNat b.toNat)/\((UInt8.ofNat b.toNat).toNat:Int)=b:=by
 have f:=h b (x6 hi);have e:=x5.1 hi;refine⟨?_,by rw[UInt8.toNat_ofNat'];omega⟩;have I:i<(strOfNums l).size:=by rw[mC];exact e.1
 rw[getElem?_pos (strOfNums l) i I];congr 1;show(strOfNums l).data[i]=_;have a:(strOfNums l).data.toList[i]?=σ (UInt8.ofNat b.toNat):=by rw[strOfNums_data,v8,hi];rfl
 rw[S7]at a;exact(j6.1 a).2
theorem str_inj{a b:Λ}(e:Bytes a)(f:Bytes b)(h:strOfNums a=strOfNums b):a=b:=by
 have h1:(strOfNums a).data.toList=(strOfNums b).data.toList:=by rw[h]
 rw[strOfNums_data,strOfNums_data]at h1;have key:∀{l:Λ},Bytes l->(l.map λn=>UInt8.ofNat n.toNat).map (λu=>((u.toNat:Nat):Int))=l:=λ{l}j=>by
  rw[R2]
  conv=>rhs;rw[<-List.map_id l]
  refine List.map_congr_left λx p=>?_;have:=j x p;show(((UInt8.ofNat x.toNat).toNat:Nat):Int)=x;rw[UInt8.toNat_ofNat'];omega
 rw[<-key e,<-key f,h1]
theorem JH(a b:Λ):strOfNums a++strOfNums b=strOfNums (a++b):=by
 apply ByteArray.ext;rw[ByteArray.data_append];simp[strOfNums]
theorem JI(l:Λ)(i j:Nat):(strOfNums l).extract i j=strOfNums ((l.take j).drop i):=by
 apply ByteArray.ext;rw[ByteArray.data_extract];apply Array.toList_inj.1;rw[Array.toList_extract];simp[strOfNums,List.extract_eq_take_drop,List.map_drop,List.map_take,List.drop_take]
theorem Al(l:Λ):(strOfNums l).toList=l.map λn=>UInt8.ofNat n.toNat:=by
 rw[ByteArray.toList_eq];exact strOfNums_data l
theorem Am{a b:Λ}(e:Bytes a)(f:Bytes b):((strOfNums a).toList == (strOfNums b).toList)=decide (a=b):=by
 rw[V7,beq_iff_eq,decide_eq_true_eq,Al,Al];refine⟨λh=>str_inj e f ?_,λh=>by rw[h]⟩;unfold strOfNums;rw[h]
section
variable{P:W9}{w:x4}
theorem nF{a:r9}(e:P.underlying t=σ .string):V P (W7 #[t] a #[bU l]) w K=K (Δ l.length):=V.of λw' _=>by
 simp[W7,run_underlying e,goInt,mC]
theorem qc{k:o9}{b:Int}{i:Nat}(a:y=(i:Int))(f:P.underlying t=σ .string)(h:Bytes l)(hi:l[i]?=σ b):V P (Instr.index t (bU l) (.int k y)) w K=K (.int .u8 b):=V.of λw' _=>by
 subst a;obtain⟨h1,j⟩:=JG h hi;have e:(0:Int)<=(i:Int):=Ω
 simp only[Instr.index,asIntOf,W6,V3,W8,run_underlying f];rw[if_pos e,u9,h1];simp only[V3,j]
theorem ve{a b:Λ}(h:a.length+b.length<=9223372036854775807):V P (aJ .add t cx cy (bU a) (bU b)) w K=K (bU (a++b)):=V.of λw' _=>by
 have:=run_string_add_sum (P:=P) (w:=w') (strOfNums a) (strOfNums b) (by rw[mC,mC];exact h);simp only[aJ,eqGuard,binOp];simp[this,JH]
theorem An{a b:Λ}(e:Bytes a)(f:Bytes b):V P (aJ .eql t cx cy (bU a) (bU b)) w K=K (.bool (decide (a=b))):=V.of λw' _=>by
 simp[aJ,eqGuard,binOp,Op.stringOp,Am e f]
theorem JJ{a b:Λ}(e:Bytes a)(f:Bytes b):V P (aJ .neq t cx cy (bU a) (bU b)) w K=K (.bool (decide (a≠b))):=V.of λw' _=>by
 simp[aJ,eqGuard,binOp,Op.stringOp,Am e f]
theorem Ao{k:o9}{i:Nat}(a:y=(i:Int))(f:P.underlying t=σ .string)(hi:i<=l.length):V P (V8 t (bU l) (σ (.int k y)) ν ν) w K=K (bU (l.drop i)):=V.of λw' _=>by
 have j:=r2 (P:=P) w' (sl:=false) (n:=(strOfNums l).size) (c:=(strOfNums l).size) (low:=σ (.int k y)) (high:=ν) (mx:=ν) (l:=i) (h:=(strOfNums l).size) (m:=(strOfNums l).size) (nv i y a) jE fE (by rw[mC];exact hi) (o5 _) (o5 _);have e:(strOfNums l).extract i (strOfNums l).size=strOfNums (l.drop i):=by rw[JI,mC,o6]
 simp[V8,Instr.slice,run_underlying f,j,e]
theorem vf{s:r9}(I:P.underlying s=σ (.slice e))(he:P.underlying e=σ (.int .u8))(f:P.underlying t=σ .string)(h:aH .u8 w v l):V P (convert s t v) w K=K (bU l):=V.of λw' r=>by
 obtain⟨p,b,o,base,cap,rfl,_,_,x,y⟩:=h.ext r;have p:l.length=l.length*1:=by simpa using p
 by_cases z:0<l.length
 .rw[x z];refine run_convert_bytes_arg w' s e I he b o l.length cap l rfl (λi hi=>?_) t f;have q:l[i]?=σ l[i]:=x7 hi;rw[u4,q];exact y i _ (kW q)
 .have A:l=[]:=b9 Ω;subst A;cases base with
  |none=>
   rw[run_convert_bytes_nil w' s e I he _ _ t f];rfl
  |some a=>
   rw[run_convert_bytes_string w' s t e _ _ _ I he f];have:=run_bytesToString (P:=P) w' a 0 cap [] (by have:=run_loadCells_list (P:=P) w' a [] (λj v B=>by simp at B);simpa using this);simp only[List.length_nil];rw[this];rfl
theorem vg{s:r9}{u:TypeDesc}{K:x3->x4->Prop}(I:P.underlying s=σ u)(y:P.underlying t=σ (.slice e))(he:P.underlying e=σ (.int .u8))(z:Bytes l)(hm:l.length<=1000000000)(A:∀v w',Ext w w'->aH .u8 w' v l->(∀r,(∃a n c,v= .slice (σ a) n c/\a.block=r)->w.heap.size<=r)->K v w'):aC P (convert s t (bU l)) w K:=by
 have B:=Lib.bytesWorld_at_new w e (strOfNums l);have q:=λj f=>Lib.bytesWorld_at_old w e (strOfNums l) j f;have C:=Lib.bytesWorld_size w e (strOfNums l);refine .of (Lib.run_convert_string_bytes w s t e (strOfNums l) I y he) ⟨rfl,⟨rfl,Nat.le_succ _⟩,rfl,Ω,λr o h _=>?_⟩ (A _ _ ⟨Ω,λr o h _=>?_⟩ ?_ ?_)
 .rw[q r (j6.1 h).1];exact h
 .rw[q r (j6.1 h).1];exact h
 .rw[mC];refine⟨Ξ,w.heap.size,0,_,_,rfl,?_,?_,λ_=>rfl,λj v p=>?_⟩
  .exact grownCap_ge w _ _ _
  .exact grownCap_le_maxLen w _ _ _ (by simp[maxLen];omega)
  .have f:j<l.length:=by have:=(x5.1 p).1;simpa using this
   have x:l[j]?=σ l[j]:=x7 f;rw[X3,Lib.bytesWorld_cell w e (strOfNums l) j (by rw[mC];exact f)];rw[kW x]at p;rw[<-Z0 p,strOfNums_data,u4,v8,x];have:=z l[j] (Q3 f);simp only[Z7,V2];congr 2;rw[UInt8.toNat_ofNat'];omega
 .rintro r ⟨a,n,c,h1,rfl⟩;cases h1;exact o5 _
end
end Go.Vc
namespace Go.Proofs.YtikkpokkcdocoaaGreatDoor
open Go Go.Vc Go.RowKit Go.Proofs Go.Proofs.Tryz
set_option maxRecDepth 100000
theorem Ap{b:Int}(h:cA b=true):bO b=false:=by
 have h:=of_decide_eq_true h;unfold bO;rw[decide_eq_false_iff_not];omega
theorem Aq{b:Int}{p:Λ}(h:cA b=true):lex (b::p)=lex p:=by
 rw[kk,kk p,List.dropWhile_cons,if_pos h]
theorem JK{b:Int}{p:Λ}(h:cA b=false)(a:bO b=false):lex (b::p)=([],false):=by
 rw[kk,List.dropWhile_cons,if_neg (by simp[h])];simp only[a,Bool.false_eq_true,if_false]
theorem Ar{b:Int}{p:Λ}(h:bO b=true):lex (b::p)=match p.dropWhile bO with
  |[]=>([b::p.takeWhile bO],true)
  |c::r=>if cA c then((b::p.takeWhile bO)::(lex (c::r)).1,(lex (c::r)).2)else([],false):=by
 have I:cA b=false:=by
  cases a:cA b with
  |false=>rfl
  |true=>rw[Ap a]at h;cases h
 rw[kk,List.dropWhile_cons,if_neg (by simp[I])];simp only[h,if_true,List.dropWhile_cons,List.takeWhile_cons]
 all_goals (cases List.dropWhile bO p<;>rfl)
def ij:Λ->List (Λ)->Λ->Bool->List (Λ)×Bool
 |[],out,w,op=>(if op then out++[w]else out,true)
 |b::p,out,w,op=>
  if cA b then ij p (if op then out++[w]else out) [] false
  else if bO b then ij p out (if op then w++[b]else[b]) true
  else(out,false)
theorem qd:∀(p:Λ)(out:List (Λ))(w:Λ),ij p out w false=(out++(lex p).1,(lex p).2)/\
  ij p out w true=match p.dropWhile bO with
   |[]=>(out++[w++p.takeWhile bO],true)
   |c::r=>if cA c then(out++[w++p.takeWhile bO]++(lex (c::r)).1,(lex (c::r)).2)else(out,false)
 |[],out,w=>by simp[ij,kk []]
 |b::p,out,w=>by
  by_cases I:cA b=true
  .have hw:=Ap I;refine⟨?_,?_⟩
   .rw[ij,if_pos I,(qd p _ _).1,Aq I];simp
   .rw[ij,if_pos I,if_pos rfl,(qd p _ _).1,List.dropWhile_cons,if_neg (by simp[hw])];simp only[I,if_true,Aq I,List.takeWhile_cons,hw,Bool.false_eq_true,if_false,U9]
  .have e:cA b=false:=by cases h:cA b;rfl;exact absurd h I
   by_cases hw:bO b=true
   .refine⟨?_,?_⟩
    .rw[ij,if_neg I,if_pos hw,if_neg Ξ,(qd p _ _).2,Ar hw];cases p.dropWhile bO with
     |nil=>simp
     |cons c r=>
      simp only;by_cases a:cA c=true
      .simp[a]
      .simp[a]
    .rw[ij,if_neg I,if_pos hw,if_pos rfl,(qd p _ _).2,List.dropWhile_cons,if_pos hw,List.takeWhile_cons,if_pos hw];cases p.dropWhile bO with
     |nil=>simp
     |cons c r=>
      simp only;by_cases a:cA c=true
      .simp[a]
      .simp[a]
   .have f:bO b=false:=by cases h:bO b;rfl;exact absurd h hw
    refine⟨?_,?_⟩
    .rw[ij,if_neg I,if_neg hw,JK e f];simp
    .rw[ij,if_neg I,if_neg hw,List.dropWhile_cons,if_neg hw];simp[e]
theorem JL(p:Λ):ij p [] [] false=lex p:=by rw[(qd p [] []).1];simp
def oT:Nat->Nat->Λ
 |0,_=>[]
 |k+1,n=>(if n<10 then[]else oT k (n / 10))++[48+((n % 10:Nat):Int)]
def fp(n:Nat):Λ:=oT (n+1) n
theorem As:∀{k m n:Nat},n<k->n<m->oT k n=oT m n
 |k+1,m+1,n,h1,a=>by
  unfold oT;by_cases h:n<10
  .rw[if_pos h,if_pos h]
  .rw[if_neg h,if_neg h,As (k:=k) (m:=m) (n:=n / 10) Ω Ω]
theorem nG(n:Nat):fp n=(if n<10 then[]else fp (n / 10))++[48+((n % 10:Nat):Int)]:=by
 unfold fp;rw[oT];by_cases h:n<10
 .rw[if_pos h,if_pos h]
 .rw[if_neg h,if_neg h,As (k:=n) (m:=n / 10+1) Ω Ω]
theorem Au:∀(k n:Nat),n<k->∀b∈fp n,48<=b/\b<=57
 |k+1,n,hk,b,a=>by
  rw[nG]at a;rcases l9.1 a with a|a
  .by_cases h:n<10
   .rw[if_pos h]at a;simp at a
   .rw[if_neg h]at a;exact Au k (n / 10) Ω b a
  .rw[j4]at a;omega
theorem Av(n:Nat):∀b∈fp n,48<=b/\b<=57:=Au (n+1) n Ω
def qe(l:Λ):Int:=l.foldl (λn b=>10*n+(b-48)) 0
theorem JM(l:Λ)(b:Int):qe (l++[b])=10*qe l+(b-48):=by simp[qe]
theorem vh:∀(k n:Nat),n<k->qe (fp n)=n
 |k+1,n,hk=>by
  rw[nG,JM];by_cases h:n<10
  .rw[if_pos h];have:qe []=0:=rfl;omega
  .rw[if_neg h,vh k (n / 10) Ω];omega
theorem JN{b:Nat}(h:fp a=fp b):a=b:=by
 have h1:=vh (a+1) a Ω;have e:=vh (b+1) b Ω;rw[h,e]at h1;omega
theorem vi:∀(k n:Nat),n<10 ^ k->1<=k->(fp n).length<=k
 |k+1,n,h,_=>by
  rw[nG,o7];by_cases a:n<10
  .rw[if_pos a];simp
  .rw[if_neg a];have hk:1<=k:=by
    rcases k with _|k
    .simp at h;omega
    .omega
   have e:(10:Nat) ^ (k+1)=10*10 ^ k:=by rw[Nat.pow_succ,Nat.mul_comm]
   have:=vi k (n / 10) Ω hk;simp only[S3];omega
def ek(t:Λ):Λ:=t.flatMap λv=>fp v.toNat++[32]
theorem JO(t:Λ)(v:Int):ek (t++[v])=ek t++(fp v.toNat++[32]):=by simp[ek]
theorem Aw{r:Λ}(a:∀b∈l,b≠32):(l++32::r).takeWhile (λb=>decide (b≠32))=l/\(l++32::r).dropWhile (λb=>decide (b≠32))=32::r:=by
 induction l with
 |nil=>simp
 |cons x l e=>
  have f:=a x (.head _);have:=e λb h=>a b (.tail _ h);simp only[List.cons_append,List.takeWhile_cons,List.dropWhile_cons];simp only[f,ne_eq,not_false_eq_true,decide_true,if_true];exact⟨by rw[this.1],this.2⟩
theorem Ax:∀{a b:Λ},(∀x∈a,0<=x)->(∀x∈b,0<=x)->ek a=ek b->a=b
 |[],[],_,_,_=>rfl
 |[],y::b,_,_,h=>by simp[ek]at h
 |x::a,[],_,_,h=>by simp[ek]at h
 |x::a,y::b,j,p,h=>by
  have e:∀(z:Int)(l:Λ),ek (z::l)=fp z.toNat++32::ek l:=λz l=>by simp[ek]
  rw[e,e]at h;have d:∀z:Int,∀c∈fp z.toNat,c≠32:=λz c s=>by have:=Av _ c s;omega
  have s1:=Aw (r:=ek a) (d x);have q:=Aw (r:=ek b) (d y);rw[h]at s1;have w:fp x.toNat=fp y.toNat:=s1.1.symm.trans q.1;have A:=s1.2.symm.trans q.2;have C:=j x (.head _);have E:=p y (.head _);have:=JN w;have B:x=y:=Ω
  subst B;rw[Ax (λz f=>j z (.tail _ f)) (λz f=>p z (.tail _ f)) (List.cons.inj A).2]
theorem Ay(t:Λ):Bytes (ek t):=λb a=>by
 obtain⟨v,_,a⟩:=List.mem_flatMap.1 a;rcases l9.1 a with a|a
 .have:=Av _ b a;omega
 .rw[j4]at a;omega
theorem Az{b:Int}:ai x8 HQ [.int .u8 b] w λv w'=>v= .bool (cA b)/\Ext w w':=by
 refine ay func170 ?_;refine aW (λv J=>v= .bool (cA b)/\Ext w J) (λ_ _ h=>h) λaw a=>?_;rw[bb,aj];refine⟨λh=>a _ _ ⟨by unfold cA;rw[decide_eq_true (.inl h)],Ext.refl _⟩,λh1=>?_⟩;rw[bb,aj];refine⟨λh=>a _ _ ⟨by unfold cA;rw[decide_eq_true (.inr (.inl h))],Ext.refl _⟩,λe=>?_⟩;rw[bb,aj];refine⟨λh=>a _ _ ⟨by unfold cA;rw[decide_eq_true (.inr (.inr (.inl h)))],Ext.refl _⟩,λf=>?_⟩;rw[bb];refine a _ _ ⟨?_,Ext.refl _⟩;congr 1;unfold cA;rw[V7,decide_eq_true_eq,decide_eq_true_eq];omega
theorem JP{b:Int}:ai x8 HP [.int .u8 b] w λv w'=>v= .bool (bO b)/\Ext w w':=by
 refine ay func169 ?_;refine aW (λv J=>v= .bool (bO b)/\Ext w J) (λ_ _ h=>h) λaw a=>?_;rw[cQ,aj];refine⟨λh=>?_,λh=>a _ _ ⟨by unfold bO;rw[decide_eq_false Ω],Ext.refl _⟩⟩;rw[kT];refine a _ _ ⟨?_,Ext.refl _⟩;congr 1;unfold bO;rw[V7,decide_eq_true_eq,decide_eq_true_eq];omega
def lZ(w:x4)(g:Nat)(a:x3)(p:Λ)(at_:Nat)(bad:Int):Prop:=Bytes p/\p.length<=100000/\at_<=p.length/\ad w g hN [a,Δ (at_:Int),Δ bad]/\∃bp,aq .u8 cH w bp a p
theorem lZ.ext{g:Nat}{a:x3}{p:Λ}{at_:Nat}{bad:Int}(h:lZ w g a p at_ bad)(e:Ext w w'):lZ w' g a p at_ bad:=by
 obtain⟨h1,f,j,q,bp,r⟩:=h;exact⟨h1,f,j,q.ext e,bp,r.ext e⟩
theorem JQ(h:aH .u8 w v l)(A:l.length<=100000):ai x8 HK [v] w λf w'=>Ext w w'/\∃g,aq .u8 cH w' g f l:=by
 have e:=h;obtain⟨B,b,o,base,cap,rfl,C,hm,p,E⟩:=h;refine ay func163 ?_;rw[r1 cL.u,cj];refine⟨λq=>⟨Ext.refl _,0,?_⟩,λ_=>?_⟩
 .have:l=[]:=by
   cases base with
   |none=>
        by_cases e:0<l.length
        .have:=p e;cases this
        .exact b9 Ω
   |some a=>cases q
  subst this;exact aq.nil _ _ _ _
 .refine jF (k:=1) (cs:=#[]) cL.u cH.i Ω Ψ λg J G j r=>?_;have s:aq .u8 cH J g (.slice (σ ⟨g,0,ν⟩) 0 0) []:=aq.of (n:=0) (bW.full (by simpa using r) rfl Ξ);refine jg cL.u cH.i rfl s (e.ext j) Θ Θ λf x U H y z=>?_;exact⟨j.put z Ω,x,by simpa using y⟩
theorem AA(h:aH .u8 w v l)(q:Bytes l)(e:l.length<=100000):ai x8 y5 [v] w λr w'=>Ext w w'/\∃g,r=Γ g/\w.heap.size<=g/\∃a,lZ w' g a l 0 (-1):=by
 refine ay func108 ?_;refine(JQ h e).mono ?_;rintro a J _ ⟨f,bp,j⟩;rw[dn (cs:=#[a,Δ 0,Δ (-1)]) (by obtain⟨_,_,_,_,_,rfl,_⟩:=j.ls;kernel_rfl)];refine bk λg U x p s=>?_;have s1:=f.size;exact⟨f.trans p,g,rfl,Ω,a,q,e,X5 _,s,bp,j.ext p⟩
def runN(f:Int->Bool)(p:Λ):Nat:=(p.takeWhile f).length
theorem JR(f:Int->Bool)(p:Λ):runN f p<=p.length:=(List.takeWhile_sublist f).length_le
theorem AB{f:Int->Bool}{p:Λ}{i:Nat}{b:Int}(hi:p[i]?=σ b)(e:f b=true):i+runN f (p.drop i)=(i+1)+runN f (p.drop (i+1)):=by
 have a:=x5.1 hi;unfold runN;rw[X8 a.1,a.2,List.takeWhile_cons,if_pos e,Z5];omega
theorem AC{f:Int->Bool}{p:Λ}{i:Nat}(h:∀b,p[i]?=σ b->f b=false):runN f (p.drop i)=0:=by
 unfold runN;cases a:p[i]? with
 |none=>
  rw[List.drop_of_length_le (List.getElem?_eq_none_iff.1 a)];rfl
 |some b=>
  have e:=x5.1 a;rw[X8 e.1,e.2,List.takeWhile_cons,if_neg (by simp[h b a])];rfl
theorem JS{g at_:Nat}{A:x3}{p:Λ}{bad:Int}(h:lZ w g A p at_ bad):ai x8 HO [Γ g] w λv w'=>v=Δ ((at_+runN cA (p.drop at_):Nat):Int)/\Ext w w':=by
 obtain⟨M,N,B,a,bp,q⟩:=h;refine ay func168 ?_;rw[aQ hN.p 1 a rfl];refine⟨λv J=>Ext w J/\∃i:Nat,v=Δ (i:Int)/\i<=p.length/\i+runN cA (p.drop i)=at_+runN cA (p.drop at_),λv _=>p.length-(b0 v).toNat,⟨Ext.refl _,at_,rfl,B,rfl⟩,?_⟩;rintro _ J ⟨j,i,rfl,hi,he⟩;refine aW (λv U=>Ext w U/\∃c:Bool,v= .bool c/\(c=true↔ ∃b,p[i]?=σ b/\cA b=true)) ?_ ?_
 .rintro _ U ⟨r,c,rfl,s⟩;rw[cj];refine⟨λC=>?_,λx=>?_⟩
  .obtain⟨b,e,E⟩:=s.1 C;have G:=(x5.1 e).1;rw[aM,wrap_i64 Ω Ω];exact⟨⟨r,i+1,rfl,G,by rw[<-he,AB e E]⟩,by simp only[b0];omega⟩
  .have H:=AC (f:=cA) (p:=p) (i:=i) λb a=>by
    cases I:cA b with
    |false=>rfl
    |true=>rw[s.2 ⟨b,a,I⟩]at x;cases x
   exact⟨by rw[<-he,H,Nat.add_zero],r⟩
 .intro aw y;have z:=a.ext j;rw[aQ hN.p 0 z rfl,aV cL.u (q.ext j).ls,aR,aj];refine⟨λO=>?_,λP=>y _ _ ⟨j,false,rfl,⟨λh=>(by cases h),λ⟨b,a,_⟩=>by have:=(x5.1 a).1;omega⟩⟩⟩;have K:i<p.length:=Ω
  have e:p[i]?=σ p[i]:=x7 K;rw[aQ hN.p 0 z rfl,bc cL.u cH.i Ψ (q.ext j).ls e];refine Az.mono ?_;rintro _ Q _ ⟨rfl,L⟩;exact y _ _ ⟨j.trans L,_,rfl,⟨λh=>⟨_,e,h⟩,λ⟨b,a,h⟩=>by rw[e]at a;cases a;exact h⟩⟩
inductive JT where
 |word (from_ to:Nat)
 |none
 |text (at_:Nat)
def gC(p:Λ)(at_:Nat):Nat:=at_+runN cA (p.drop at_)
def iJ(p:Λ)(a:Nat):Nat:=a+runN bO (p.drop a)
open Classical in
noncomputable def oU(p:Λ)(at_:Nat):JT:=
 if iJ p (gC p at_)<p.length/\(∀c,p[iJ p (gC p at_)]?=σ c->cA c=false)then .text (iJ p (gC p at_))else if gC p at_=iJ p (gC p at_)then .none else .word (gC p at_) (iJ p (gC p at_))
def qf(w:x4)(g:Nat)(e:x3)(p:Λ)(at_:Nat)(v:x3)(w':x4):Prop:=
 match oU p at_ with
 | .word a b=>v= .tuple #[bU ((p.take b).drop a),Δ (a:Int),Δ 0]/\ae (λr=>r=g) w w'/\lZ w' g e p b (-1)
 | .none=>∃n:Nat,v= .tuple #[bU [],Δ (n:Int),Δ 2]/\Ext w w'
 | .text b=>v= .tuple #[bU [],Δ (b:Int),Δ 11]/\ae (λr=>r=g) w w'/\lZ w' g e p at_ (b:Int)
theorem hx{aT:Nat->Prop}{a b c:x4}(h:ae S a b)(k:ae aT b c)(j:∀r,r<a.heap.size->aT r->S r):ae S a c:=
 ⟨X0 h.size k.size,λr o e I f=>k.aU r o (h.aU r o e I f) I λhu=>f (j r (j6.1 e).1 hu)⟩
theorem ce{g:Nat}{k:o9}{p:r9}(h:aq k e w g v l)(q:ad w j p cs)(x:e≠p)(s:leads v r):r≠j:=by
 obtain⟨rfl,_⟩:=bR h s;obtain⟨_,⟨rfl,_⟩|⟨_,_,_,f,_⟩⟩:=h
 .obtain⟨a,n,c,h,_⟩:=s;cases h
 .rintro rfl;unfold ad at q f;rw[q]at f;injection f with h1;injection h1 with z y;exact x y.symm
theorem JU{s:r9}{e:o9}{b i:Nat}(p:x8.underlying s=σ (.slice t))(hi:aP x8 t 1 b z)(h:aH .u8 w v l)(q:i<=j)(r:j<=l.length)(x:∀a,aH .u8 w a ((l.take j).drop i)->K a):V x8 (V8 s v (σ (.int e (i:Int))) (σ (.int f (j:Int))) ν) w K:=by
 refine se p hi h (nv i _ rfl) (nw j _ rfl) q r λa h'=>x a (aH.of (n:=j-i) ?_);have y:((ints .u8 l).drop (i*1)).take ((j-i)*1)=ints .u8 ((l.take j).drop i):=by
  rw[U2,U2,ints,ints,List.map_drop,List.map_take,List.drop_take]
 rw[y]at h';exact h'
theorem JV{g at_:Nat}{G:x3}{p:Λ}(h:lZ w g G p at_ (-1)):ai x8 uM [Γ g] w (qf w g G p at_):=by
 obtain⟨R,S,ao,e,bp,H⟩:=id h;refine ay func114 ?_;rw[da rY.u,Z6,aY,aQ hN.p 2 e rfl,cQ,aj];refine⟨λh=>Ω,λ_=>?_⟩;refine(JS h).mono ?_;rintro _ U _ ⟨rfl,ap⟩;obtain⟨a,V⟩:∃a,a=at_+runN cA (p.drop at_):=⟨_,rfl⟩;rw[<-V];have aq:a<=p.length:=by have:=JR cA (p.drop at_);rw[List.length_drop]at this;omega
 refine⟨λv J=>Ext U J/\∃i:Nat,v=Δ (i:Int)/\a<=i/\i<=p.length/\i+runN bO (p.drop i)=a+runN bO (p.drop a),λv _=>p.length-(b0 v).toNat,⟨Ext.refl _,a,rfl,o5 _,aq,rfl⟩,?_⟩;rintro _ J ⟨W,i,rfl,au,hi,he⟩;have K:=ap.trans W;have X:=e.ext K;have Y:=H.ext K;refine aW (λv z=>Ext J z/\∃c:Bool,v= .bool c/\(c=true↔ ∃b,p[i]?=σ b/\bO b=true)) ?_ ?_
 rotate_left
 .intro aw s;rw[aQ hN.p 0 X rfl,aV cL.u Y.ls,aR,aj];refine⟨λav=>?_,λax=>s _ _ ⟨Ext.refl _,false,rfl,⟨λh=>(by cases h),λ⟨b,e,_⟩=>by have:=(x5.1 e).1;omega⟩⟩⟩;have A:i<p.length:=Ω
  have q:p[i]?=σ p[i]:=x7 A;rw[aQ hN.p 0 X rfl,bc cL.u cH.i Ψ Y.ls q];refine JP.mono ?_;rintro _ z _ ⟨rfl,B⟩;exact s _ _ ⟨B,_,rfl,⟨λh=>⟨_,q,h⟩,λ⟨b,e,h⟩=>by rw[q]at e;cases e;exact h⟩⟩
 rintro _ z ⟨B,c,rfl,x⟩;have L:=K.trans B;have Z:=e.ext L;have ab:=H.ext L;rw[cj];refine⟨λM=>?_,λac=>?_⟩
 .obtain⟨b,q,az⟩:=x.1 M;have aA:=(x5.1 q).1;rw[aM,wrap_i64 Ω Ω];exact⟨⟨W.trans B,i+1,rfl,Ω,aA,by rw[<-he,AB q az]⟩,by simp only[b0];omega⟩
 have aF:=AC (f:=bO) (p:=p) (i:=i) λb e=>by
  cases I:bO b with
  |false=>rfl
  |true=>rw[x.2 ⟨b,e,I⟩]at ac;cases ac
 have aB:i=a+runN bO (p.drop a):=Ω
 refine aW (λv N=>Ext z N/\∃c:Bool,v= .bool c/\(c=true↔i<p.length/\∀c,p[i]?=σ c->cA c=false)) ?_ ?_
 rotate_left
 .intro aw s;rw[aQ hN.p 0 Z rfl,aV cL.u ab.ls,aR,aj];refine⟨λav=>?_,λax=>s _ _ ⟨Ext.refl _,false,rfl,⟨λh=>(by cases h),λh=>Ω⟩⟩⟩;have A:i<p.length:=Ω
  have q:p[i]?=σ p[i]:=x7 A;rw[aQ hN.p 0 Z rfl,bc cL.u cH.i Ψ ab.ls q];refine Az.mono ?_;rintro _ N _ ⟨rfl,O⟩;rw[bJ];refine s _ _ ⟨O,_,rfl,⟨λh=>⟨A,λc x=>?_⟩,λh=>by rw[h.2 _ q];rfl⟩⟩;rw[q]at x;cases x;cases I:cA p[i]with
  |false=>rfl
  |true=>rw[I]at h;cases h
 rintro _ N ⟨O,aG,rfl,ad⟩;have y:=L.trans O;have C:=e.ext y;have E:=H.ext y;have ae:∀r,leads G r->r≠g:=λr aC=>ce E C Φ aC;have P:oU p at_=open Classical in if i<p.length/\(∀c,p[i]?=σ c->cA c=false)then .text i else if a=i then .none else .word a i:=by
  unfold oU;rw[show gC p at_=a from V.symm,show iJ p a=i from aB.symm]
 rw[cj];refine⟨λM=>?_,λaf=>?_⟩
 .rw[bX,aS hN.p rfl];refine bq (g:=g) (o:=2) ag.i rfl rfl C Ξ λaH ah aI aD=>?_;unfold qf;rw[P,if_pos (ad.1 M)];exact⟨rfl,(y.aa _).trans ah,R,S,ao,aD,bp,br E ah ae⟩
 .have ak:¬(i<p.length/\∀c,p[i]?=σ c->cA c=false):=λh=>by rw[ad.2 h]at af;cases af
  rw[bb,aj];refine⟨λaJ=>?_,λaK=>?_⟩
  .intro aL Q _ _;rw[aQ hN.p 0 (C.ext Q) rfl,aV cL.u (E.ext Q).ls];unfold qf;rw[P,if_neg ak,if_pos Ω];exact⟨p.length,rfl,y.trans Q⟩
  .rw[bX,aS hN.p rfl];refine bq (g:=g) (o:=1) ag.i rfl rfl C Ξ λaN al aO am=>?_;have an:=br E al ae;rw[aQ hN.p 0 am rfl];refine JU (i:=a) (j:=i) cL.u cH.i an.ls au hi λaP aE=>?_;rw[vf cL.u cH.u c5.u aE];unfold qf;rw[P,if_neg ak,if_neg Ω];exact⟨rfl,(y.aa _).trans al,R,S,hi,am,bp,an⟩
abbrev bx:af:=λ_=>False
abbrev eo(n:Nat):af:=λr=>n<=r
theorem JW{a b:Λ}{a8 bv:x3}(f:aH .i64 w a8 a)(s:aH .i64 w bv b):
  ai x8 Ia [a8,bv] w λv w'=>v= .bool (decide (a=b))/\Ext w w':=by
 refine ay func199 ?_;rw[aV an.u f,aV an.u s];simp only[bK,aj];refine⟨λp=>⟨?_,Ext.refl _⟩,λz=>?_⟩
 .rw[decide_eq_false];rintro rfl;exact p rfl
 .have z:a.length=b.length:=Ω
  rw[aV an.u f];refine b3.range a.length (λi _ J=>Ext w J/\a.take i=b.take i) f.le ⟨Ext.refl _,rfl⟩ ?_ ?_
  .rintro i t4 J k A ⟨e,q⟩ hk;simp only[aR,aj,eg];refine⟨λ_ U B _ _=>?_,λh=>Ω⟩;have e:=e.trans B;obtain⟨x,r⟩:=aD (l:=a) A;obtain⟨y,j⟩:=aD (l:=b) (i:=i) Ω;rw[bc an.u ag.i Ψ (f.ext e) r,bc an.u ag.i Ψ (s.ext e) j];simp only[bK,aj,aM];refine⟨λp=>⟨?_,e⟩,λC=>hk _ _ ⟨e,u0 q r j Ω⟩⟩;rw[decide_eq_false];rintro rfl;rw[r]at j;cases j;exact p rfl
  .rintro _ J k ⟨e,q⟩;simp only[aR,aj];refine⟨λh=>Ω,λ_=>⟨?_,e⟩⟩;rw[decide_eq_true];rwa [o6,z,o6]at q
def jk(rest:List (Λ))(i:Nat):List (Λ):=(W3 i).flatMap λ(v:Nat)=>rest.map λt=>(v:Int)::t
theorem JX(rest:List (Λ))(i:Nat):jk rest (i+1)=jk rest i++rest.map λt=>(i:Int)::t:=by
 simp[jk,List.range_succ]
theorem AD(rest:List (Λ))(i:Nat):(jk rest i).length=i*rest.length:=by
 simp only[jk,List.length_flatMap,u7];rw[List.map_const',List.length_range,List.sum_replicate_nat]
def oV(l:Λ):Prop:=l.length<=90/\(∀x∈l,1<=x/\x<=32)/\aN l<=1073741824
theorem cd.p(h:cd l):oV l:=⟨by have:=h.1;omega,h.2,(prod_bound h).2⟩
theorem oV.tail{s:Λ}(h:oV (k::s)):oV s:=by
 have h1:=h.2.1 k (.head _);have e:=(kY s λx a=>h.2.1 x (.tail _ a)).1;have f:k*aN s<=1073741824:=h.2.2;have j:=Int.mul_le_mul_of_nonneg_right h1.1 (show 0<=aN s by omega);refine⟨?_,λx a=>h.2.1 x (.tail _ a),Ω⟩;have:=h.1;rw[Z5]at this;omega
theorem vj:∀(s:Λ){sv:x3}{w:x4},aH .i64 w sv s->oV s->
  ai x8 uJ [sv] w λv w'=>Ext w w'/\bl (eo w.heap.size) bx w' [v] (bj s)
 |[],sv,w,h,I=>by
  refine ay func30 ?_;rw[aV an.u h];simp only[bb,List.length_nil,Int.natCast_zero,decide_true,bQ];refine ig (α:=Λ) (a:=[]) (cs:=[.slice ν 0 0]) (A:=bx) b2.u an.i Φ rfl fV λv w' P f _=>⟨P,ak.mono f (λr _ h=>?_) λ_ _ h=>h⟩;exact h.elim False.elim id
 |k::s,sv,w,h,I=>by
  have ap:1<=aN (k::s)/\aN (k::s)<=1073741824:=⟨(kY _ I.2.1).1,I.2.2⟩;have z:oV s:=I.tail;have hk:=I.2.1 k (.head _);have Q:=jj z.2.1;have aq:1<=aN s/\aN s<=1073741824:=⟨(kY _ z.2.1).1,z.2.2⟩;obtain⟨kn,rfl⟩:∃kn:Nat,k=kn:=⟨k.toNat,Ω⟩;have au:kn*(bj s).length<=1073741824:=by
   have e:((kn*(bj s).length:Nat):Int)=aN ((kn:Int)::s):=by
    rw[Int.natCast_mul,Q,aN,Int.toNat_of_nonneg Ω]
   omega
  refine ay func30 ?_;rw[aV an.u h];simp only[bb,aj];refine⟨λS=>by simp at S;omega,λ_=>?_⟩;refine Jz (i:=1) rfl an.u ag.i h Ξ λV h'=>?_;refine(vj s h' z).mono ?_;rintro av U _ ⟨E,B⟩;have aw:=lV B;refine b3.range kn (λi out J=>Ext U J/\bl (eo U.heap.size) bx J [out] (jk (bj s) i)) Ω ⟨Ext.refl _,fV⟩ ?_ ?_
  .rintro i out W X M ⟨q,f⟩ Y;have Z:=bi B q;rw[fF (y:=0) (i:=0) rfl an.u ag.i Ψ (h.ext (E.trans q)) (by rfl)];simp only[aR,aj];refine⟨λ_=>?_,λh=>Ω⟩;rw[fG b2.u Z];refine b3.range (bj s).length (λj out J=>Ext U J/\bl (eo U.heap.size) bx J [out] (jk (bj s) i++((bj s).take j).map λt=>(i:Int)::t)) Ω ⟨q,by simpa using f⟩ ?_ ?_
   .rintro j out p aa ab ⟨C,f⟩ ac;simp only[aR,aj];refine⟨λ_=>?_,λh=>Ω⟩;obtain⟨x,G⟩:=aD (l:=(bj s)) ab;have ax:x.length<=100:=by
     have:=zU G;have:=z.1;omega
    refine gw rfl rfl b2.u an.i Ψ (bi B C) G λu hu=>?_;refine eM an.u ag.i rfl λa ga az aA H ad=>?_;refine jg an.u ag.i rfl ad (dD (bi hu H)) Θ Θ λb aB ae aC K af=>?_;have aE:=H.size;have N:Ext p ae:=H.then af (by rintro r B rfl;omega);have aF:=N.size;refine ig (α:=Λ) (a:=(i:Int)::x) (cs:=[b]) (A:=eo p.heap.size) (R:=bx) b2.u an.i Φ (kj (kX K (R:=bx))) (ak.mono (kX K) (λr _ h=>by subst h;show p.heap.size<=r;omega) λ_ _ h=>h) λc aG L _ ah=>?_;have O:=N.trans L;have aI:=L.size;refine my (α:=Λ) (a:=(i:Int)::x) (A:=eo p.heap.size) b2.u an.i rfl (bi (lV f) O) ah (bi (ak.mono (kX K) (λr _ h=>by subst h;show p.heap.size<=r;omega) λ_ _ h=>h) L) (λr _ h h'=>?_) ?_ ?_ λV aJ al am=>?_
    .rcases h' with h'|h'
     .have:=h.2;have:p.heap.size<=r:=h';omega
     .exact h'
    .have ao:(jk (bj s) i++((bj s).take j).map λt=>(i:Int)::t).length+1<=kn*(bj s).length:=by
      simp only[o7,AD,u7,n9];have:(i+1)*(bj s).length<=kn*(bj s).length:=W0 _ M;rw[U7]at this;omega
     omega
    .have ao:(jk (bj s) i++((bj s).take j).map λt=>(i:Int)::t).length+1<=kn*(bj s).length:=by
      simp only[o7,AD,u7,n9];have:(i+1)*(bj s).length<=kn*(bj s).length:=W0 _ M;rw[U7]at this;omega
     omega
    .simp only[aM];have aK:=C.size;refine ac _ _ ⟨(C.trans O).then am (λr B h=>?_),?_⟩
     .have:=h.1;have:U.heap.size<=r:=this;omega
     .have e:jk (bj s) i++((bj s).take (j+1)).map (λt=>(i:Int)::t)=(jk (bj s) i++((bj s).take j).map λt=>(i:Int)::t)++[(i:Int)::x]:=by
       rw[r8,G];simp
      rw[e];refine ak.mono al (λr _ h=>?_) λ_ _ h=>h;show U.heap.size<=r;rcases h with h|h|h
      .exact h.1
      .have:p.heap.size<=r:=h;omega
      .omega
   .rintro out p aa ⟨C,f⟩;simp only[aR,aj,aM];refine⟨λh=>Ω,λ_=>Y _ _ ⟨C,?_⟩⟩;rw[JX];simpa using f
  .rintro out W X ⟨q,f⟩;rw[fF (y:=0) (i:=0) rfl an.u ag.i Ψ (h.ext (E.trans q)) (by rfl)];simp only[aR,aj];refine⟨λh=>Ω,λ_=>⟨E.trans q,?_⟩⟩;have aL:=E.size;have e:bj ((kn:Int)::s)=jk (bj s) kn:=by simp[bj,jk]
   rw[e];exact ak.mono f (λr _ h=>by have:U.heap.size<=r:=h;show w.heap.size<=r;omega) λ_ _ h=>h
theorem vk(s:Λ)(h:aH .i64 w sv s)(I:cd s):ai x8 uJ [sv] w λv w'=>Ext w w'/\bl (eo w.heap.size) bx w' [v] (bj s):=vj s h I.p
theorem JY:∀(x:Nat),0<x->∃k m,x=2 ^ k*(2*m+1):=by
 intro x;induction x using Nat.strongRecOn with
 |_ x a=>
  intro h;by_cases e:x % 2=1
  .exact⟨0,x / 2,Ω⟩
  .obtain⟨k,m,hk⟩:=a (x / 2) Ω Ω;refine⟨k+1,m,?_⟩;rw[Nat.pow_succ,Nat.mul_assoc,Nat.mul_comm 2,<-Nat.mul_assoc,<-hk];omega
theorem vl{k m i:Nat}:(2 ^ k*(2*m+1)).testBit i=(decide (i=k)||decide (k<i)&&m.testBit (i-k-1)):=by
 rw[Nat.testBit_two_pow_mul];by_cases h:k<=i
 .obtain⟨d,rfl⟩:=Nat.exists_eq_add_of_le h;cases d with
  |zero=>simp
  |succ d=>
   have e:(2*m+1).testBit (d+1)=m.testBit d:=by rw[Nat.testBit_succ];congr 1;omega
   simp[e,show k+(d+1)-k=d+1 by omega]
 .simp[h,show i≠k by omega,show¬k<i by omega]
theorem JZ{k m:Nat}(p:2 ^ k*(2*m+1)<2 ^ 64):(2 ^ k*(2*m+1)) &&& (2 ^ 64-2 ^ k*(2*m+1))=2 ^ k:=by
 have q:0<2 ^ k:=Nat.two_pow_pos k;have hk:k<64:=by
  rcases Nat.lt_or_ge k 64 with h|h
  .exact h
  .have:2 ^ 64<=2 ^ k:=T6 Ω h;have:2 ^ k*1<=2 ^ k*(2*m+1):=Nat.mul_le_mul_left _ Ω;omega
 have e:2 ^ k*(2*m+1)=(2 ^ k*(2*m)+(2 ^ k-1))+1:=by rw[Nat.mul_add];omega
 apply Nat.eq_of_testBit_eq;intro i;rw[Nat.testBit_and,vl]
 conv=>lhs;rhs;rw[e]
 rw[Nat.testBit_two_pow_sub_succ Ω,Nat.testBit_two_pow_mul_add _ Ω,Nat.testBit_two_pow];by_cases h1:i=k
 .subst h1;simp[hk]
 .by_cases a:k<i
  .have f:(2*m).testBit (i-k)=m.testBit (i-k-1):=by
    obtain⟨d,j⟩:∃d,i-k=d+1:=⟨i-k-1,Ω⟩;rw[j,Nat.testBit_succ];congr 1;omega
   simp[h1,a,show¬i<k by omega,f,show k≠i by omega];intro h;simp[h]
  .simp[h1,a,show k≠i by omega]
def jK(a c:Nat):Nat:=(BitVec.ofNat 64 a &&& ~~~BitVec.ofNat 64 c).toNat
theorem AE(a c i:Nat):(jK a c).testBit i=(decide (i<64)&&(a.testBit i&& !c.testBit i)):=by
 unfold jK;rw[BitVec.testBit_toNat,BitVec.getLsbD_and,BitVec.getLsbD_not,BitVec.getLsbD_ofNat,BitVec.getLsbD_ofNat];by_cases h:i<64<;>simp[h]
theorem J0(a c:Nat):jK a c<2 ^ 64:=BitVec.isLt _
theorem J1(h:∀i,n<=i->a.testBit i=false):a<2 ^ n:=Nat.lt_pow_two_of_testBit a h
theorem AF{i:Nat}(h:a<2 ^ n)(hi:n<=i):a.testBit i=false:=Nat.testBit_lt_two_pow (T5 h (T6 Ω hi))
def gD(b n:Nat):List Nat:=(W3 n).filter λi=>b.testBit i
theorem AG(b n:Nat):(gD b n).Pairwise (·< ·):=List.Pairwise.filter _ List.pairwise_lt_range
theorem vm{b i:Nat}:i∈gD b n↔i<n/\b.testBit i=true:=by simp[gD]
def nH:Option Nat->Int
 |some i=>(i:Int)
 |none=>-1
def jL(b n:Nat)(v:Int):Int:=nH ((W3 n).find? (λi:Nat=>decide (v<(i:Int))&&b.testBit i))
theorem AH:∀{l:List Nat}{k x:Nat},l.Pairwise (·< ·)->l[k]?=σ x->l.filter (λi=>decide (x<i))=l.drop (k+1)
 |y::l,0,x,h,hk=>by
  simp at hk;subst hk;rw[List.pairwise_cons]at h;simp only[List.drop_succ_cons,List.drop_zero];rw[List.filter_cons_of_neg Ξ,List.filter_eq_self.2 λa e=>by simpa using h.1 a e]
 |y::l,k+1,x,h,hk=>by
  simp only[List.getElem?_cons_succ]at hk;rw[List.pairwise_cons]at h;have:y<x:=h.1 x (x6 hk);rw[List.filter_cons_of_neg Θ,List.drop_succ_cons];exact AH h.2 hk
theorem AI(b n:Nat)(v:Int):jL b n v=nH (((gD b n).filter (λi:Nat=>decide (v<i))).head?):=by
 unfold jL gD;rw[<-List.head?_filter,List.filter_filter]
theorem J2(b n:Nat):jL b n (-1)=nH ((gD b n)[0]?):=by
 rw[AI,List.filter_eq_self.2 (λa _=>Θ),List.head?_eq_getElem?]
theorem AJ{b k x:Nat}(h:(gD b n)[k]?=σ x):jL b n x=nH ((gD b n)[k+1]?):=by
 have e:(λi:Nat=>decide ((x:Int)<i))=λi=>decide (x<i):=by funext i;simp
 rw[AI,e,AH (AG b n) h,List.head?_eq_getElem?,S2]
theorem J3{b:Nat}{v:Int}(h:(n:Int)-1<=v):jL b n v= -1:=by
 unfold jL;rw[List.find?_eq_none.2 λi hi=>by simp at hi ⊢;omega];rfl
theorem J4{b k m s:Nat}(y:n<=64)(f:b<2 ^ n)(e:∀i,r.testBit i=(decide (s<=i)&&b.testBit i))(hk:r=2 ^ k*(2*m+1)){v:Int}(z:v+1=s):jL b n v=k:=by
 have p:r.testBit k=true:=by rw[hk,vl];simp
 have q:∀i,i<k->r.testBit i=false:=λi hi=>by rw[hk,vl];simp[show i≠k by omega,show¬k<i by omega]
 have a:=p;rw[e]at a;simp at a;have w:k<n:=by
  rcases Nat.lt_or_ge k n with h|h
  .exact h
  .rw[AF f h]at a;cases a.2
 unfold jL;have:(W3 n).find? (λi:Nat=>decide (v<(i:Int))&&b.testBit i)=σ k:=by
  rw[List.find?_range_eq_some];refine⟨by simp[a.2];omega,by simpa using w,λj x=>?_⟩;have:=q j x;rw[e]at this;simp only[Bool.not_eq_true',Bool.and_eq_false_iff,decide_eq_false_iff_not]at this ⊢;rcases this with h|h
  .exact .inl Ω
  .exact .inr h
 rw[this];rfl
theorem J5{b s:Nat}(a:∀i,r.testBit i=(decide (s<=i)&&b.testBit i))(hk:r=0){v:Int}(e:v+1=s):jL b n v= -1:=by
 unfold jL;rw[List.find?_eq_none.2]
 .rfl
 .intro i hi;have:=a i;rw[hk,Nat.zero_testBit]at this;simp at hi this ⊢;intro h;exact this Ω
section
variable{P:W9}{w:x4}{t:r9}{cx cy:Bool}{a b:Nat}{K:x3->Prop}
theorem mD(a:Nat):T0 64 (a:Int)=BitVec.ofNat 64 a:=BitVec.ofInt_natCast _ _
theorem AK(x:BitVec 64):U8.wrap (x.toNat:Int)=(x.toNat:Int):=by
 have:=x.isLt;rw[wrap_u64 Ω Ω]
theorem u64_and(f:a<2 ^ 64)(h:b<2 ^ 64):V P (aJ .and t cx cy (.int .u64 a) (.int .u64 b)) w K=K (.int .u64 ((a &&& b:Nat):Int)):=V.of λw' _=>by
 have e:(T0 64 (a:Int) &&& T0 64 (b:Int)).toNat=a &&& b:=by
  rw[mD,mD,BitVec.toNat_and,BitVec.toNat_ofNat,BitVec.toNat_ofNat,Nat.mod_eq_of_lt f,Nat.mod_eq_of_lt h]
 have hw:U8.wrap ((a &&& b:Nat):Int)=((a &&& b:Nat):Int):=by rw[<-e];exact AK _
 have j:(T0 U8.bits (a:Int) &&& T0 U8.bits (b:Int)).toNat=a &&& b:=e;simp only[aJ,eqGuard,binOp,Op.intBits,j,hw];rfl
theorem AL:V P (aJ .andNot t cx cy (.int .u64 a) (.int .u64 b)) w K=K (.int .u64 (jK a b:Int)):=V.of λw' _=>by
 have e:(T0 64 (a:Int) &&& ~~~T0 64 (b:Int)).toNat=jK a b:=by rw[mD,mD];rfl
 have hw:U8.wrap (jK a b:Int)=(jK a b:Int):=AK _;have f:(T0 U8.bits (a:Int) &&& ~~~T0 U8.bits (b:Int)).toNat=jK a b:=e;simp only[aJ,eqGuard,binOp,Op.intBits,f,hw];rfl
theorem k2{k:o9}(f:n<64):V P (aJ .shr t cx cy (.int .u64 (a:Int)) (.int k (n:Int))) w K=K (.int .u64 ((a / 2 ^ n:Nat):Int)):=V.of λw' _=>by
 have e:(a:Int).fdiv (2 ^ min n U8.bits)=((a / 2 ^ n:Nat):Int):=by
  have:min n U8.bits=n:=Nat.min_eq_left (by show n<=64;omega);rw[this,Int.fdiv_eq_ediv_of_nonneg _ (by exact Int.le_of_lt (Int.pow_pos Ω))];simp
 simp only[aJ,eqGuard,binOp,Op.shift,u9,e];simp[show¬(n:Int)<0 by omega]
theorem vn{k:o9}(a:n<64):V P (aJ .shl t cx cy (.int .u64 1) (.int k (n:Int))) w K=K (.int .u64 ((2 ^ n:Nat):Int)):=by
 rw[zw Ω];have e:min ((n:Int).toNat) U8.bits=n:=Nat.min_eq_left (by show n<=64;omega);have f:2 ^ n<2 ^ 64:=Nat.pow_lt_pow_right Ω a;rw[e,Int.one_mul,show((2:Int) ^ n)=((2 ^ n:Nat):Int) by simp];generalize 2 ^ n=q at f ⊢;rw[wrap_u64 Ω Ω]
end
def oW:Λ:=[0,1,56,2,57,49,28,3,61,58,42,50,38,29,17,4,62,47,59,36,45,43,51,22,53,39,33,30,24,18,12,5,63,55,48,27,60,41,37,16,46,35,44,21,52,32,23,11,54,26,40,15,34,20,31,10,25,14,19,9,13,8,7,6]
def Laid(w:x4):Prop:=w.rangeAt 0 0 (ints .u8 oW)
theorem Laid.ext(h:Laid w)(a:Ext w w'):Laid w':=nu a h
theorem J6:∀k:Nat,k<64->oW[(2 ^ k*285870213051353865 % 2 ^ 64) / 2 ^ 58]?=σ (k:Int):=Φ
theorem J7{x k m:Nat}(f:Laid w)(j:x=2 ^ k*(2*m+1))(p:x<2 ^ 64):
  ai x8 HC [.int .u64 (x:Int)] w λv w'=>v=Δ (k:Int)/\Ext w w':=by
 have z:0<2 ^ k:=Nat.two_pow_pos k;have A:2 ^ k<=x:=by
  have:2 ^ k*1<=2 ^ k*(2*m+1):=Nat.mul_le_mul_left _ Ω;omega
 have hk:k<64:=by
  rcases Nat.lt_or_ge k 64 with h|h
  .exact h
  .have:2 ^ 64<=2 ^ k:=T6 Ω h;omega
 refine ay func150 ?_;simp only[bb,aj];refine⟨λh=>Ω,λ_=>?_⟩;rw[lR];have q:U8.wrap (0-(x:Int))=((2 ^ 64-x:Nat):Int):=by
  simp only[o9.wrap,o9.bits,o9.signed];simp;omega
 rw[q,u64_and p Ω,j,JZ Ω];simp only[gp];have r:U8.wrap (((2 ^ k:Nat):Int)*285870213051353865)=((2 ^ k*285870213051353865 % 2 ^ 64:Nat):Int):=by
  have e:((2 ^ k:Nat):Int)*285870213051353865=((2 ^ k*285870213051353865:Nat):Int):=Ξ
  rw[e];simp only[o9.wrap,o9.bits,o9.signed];simp
 have s:(58:Int)=((58:Nat):Int):=rfl;rw[r,s,k2 Ω];have a:=J6 k hk;have y:=(x5.1 a).1;rw[uZ (t:=rZ) rZ.u cH.i y,aF Ψ (by rw[U2];exact f _ _ (kW a)),fo cH.u ag.u,wrap_i64 Ω Ω];exact⟨rfl,Ext.refl _⟩
def iK(b n:Nat):x3:=.agg #[.int .u64 (b:Int),Δ (n:Int)]
def k3(b n:Nat):Prop:=n<=32/\b<2 ^ n
theorem AM(s i:Nat):(2 ^ s-1).testBit i=decide (i<s):=Nat.testBit_two_pow_sub_one s i
theorem AN{b:Nat}{v:Int}:ai x8 Hq [iK b n,Δ v] w λr w'=>r= .bool (decide (0<=v/\v<n))/\Ext w w':=by
 refine ay func137 ?_;refine bk λg J f a e=>?_;simp only[cv,cQ,aj];refine⟨λh=>?_,λh=>⟨?_,a⟩⟩
 .rw[aG b4.p 1 e rfl];simp only[aR];exact⟨by simp[h],a⟩
 .rw[decide_eq_false];omega
theorem vo{b:Nat}:ai x8 GM [iK b n] w λr w'=>r=Δ n/\Ext w w':=by
 refine ay func68 ?_;refine bk λg J f a e=>?_;rw[aG b4.p 1 e rfl];exact⟨rfl,a⟩
theorem J8{n:Int}:ai x8 GK [Δ n] w λr w'=>Ext w w'/\r=(if 1<=n/\n<=32 then .tuple #[iK (2 ^ n.toNat-1) n.toNat,Δ 0]else .tuple #[iK 0 0,Δ 1]):=by
 refine ay func66 ?_;refine bw b4.i λg J z f j=>?_;refine aW (λv U=>v= .bool (decide (¬(1<=n/\n<=32)))/\J=U) ?_ ?_
 .rintro _ _ ⟨rfl,rfl⟩;simp only[aj];refine⟨λh=>?_,λh=>?_⟩
  .rw[dn (cs:=#[.int .u64 0,Δ 0]) Ψ];refine bT (vs:=[.int .u64 0,Δ 0]) b4.i rfl rfl (by intro u hu;simp at hu;rcases hu with rfl|rfl<;>rfl) j λs a x e=>?_;rw[e6 b4.p b4.i rfl e.range,if_neg h];exact⟨f.then a (by rintro r y rfl;omega),rfl⟩
  .have h:1<=n/\n<=32:=X2.1 h;obtain⟨m,rfl⟩:∃m:Nat,n=m:=⟨n.toNat,Ω⟩;rw[vn Ω];have A:0<2 ^ m:=Nat.two_pow_pos m;have B:2 ^ m<=2 ^ 32:=T6 Ω Ω;simp only[ec];rw[wrap_u64 Ω Ω,show(((2 ^ m:Nat):Int)-1)=((2 ^ m-1:Nat):Int) by omega];rw[dn (cs:=#[.int .u64 ((2 ^ m-1:Nat):Int),Δ m]) Ψ];refine bT (vs:=[.int .u64 ((2 ^ m-1:Nat):Int),Δ m]) b4.i rfl rfl (by intro u hu;simp at hu;rcases hu with rfl|rfl<;>rfl) j λs a x e=>?_;rw[e6 b4.p b4.i rfl e.range,if_pos h];exact⟨f.then a (by rintro r y rfl;omega),rfl⟩
 .intro aw q;simp only[aR,bS,aj];refine⟨λh=>q _ _ ⟨?_,rfl⟩,λh=>q _ _ ⟨?_,rfl⟩⟩
  .rw[decide_eq_true];omega
  .congr 1;simp;omega
theorem AO{b:Nat}{v:Int}(y:k3 b n)(z:Laid w)(G: -1<=v):ai x8 GZ [iK b n,Δ v] w λr w'=>r=Δ (jL b n v)/\Ext w w':=by
 obtain⟨H,e⟩:=y;have f:b<2 ^ 64:=T5 e (T6 Ω Ω);refine ay func83 ?_;refine bk λg J K a j=>?_;rw[aG b4.p 1 j rfl];simp only[ec,cQ,aj];rw[wrap_i64 Ω Ω];refine⟨λh=>⟨by rw[J3 h],a⟩,λL=>?_⟩;rw[aG b4.p 0 j rfl];refine aW (λu U=>J=U/\∃r s:Nat,u= .int .u64 (r:Int)/\r<2 ^ 64/\v+1=s/\∀i,r.testBit i=(decide (s<=i)&&b.testBit i)) ?_ ?_
 .rintro _ _ ⟨rfl,r,s,rfl,A,I,q⟩;simp only[bb,aj];refine⟨λB=>⟨by rw[J5 q Ω I],a⟩,λB=>?_⟩;obtain⟨k,m,hk⟩:=JY r Ω;refine(J7 (z.ext a) hk A).mono ?_;rintro _ M _ ⟨rfl,C⟩;exact⟨by rw[J4 Ω e q hk I],a.trans C⟩
 .intro aw x;refine⟨λh=>?_,λh=>?_⟩
  .obtain⟨s,rfl⟩:∃s:Nat,v=s:=⟨v.toNat,Ω⟩;have N:0<2 ^ (s+1):=Nat.two_pow_pos _;have O:2 ^ (s+1)<=2 ^ 32:=T6 Ω Ω;simp only[aM];rw[wrap_i64 Ω Ω,show((s:Int)+1)=((s+1:Nat):Int) by omega,vn Ω];simp only[ec];rw[wrap_u64 Ω Ω,show(((2 ^ (s+1):Nat):Int)-1)=((2 ^ (s+1)-1:Nat):Int) by omega,AL];refine x _ _ ⟨rfl,_,s+1,rfl,J0 _ _,Ω,λi=>?_⟩;rw[AE,AM];by_cases E:i<64
   .by_cases hi:s+1<=i
    .simp[E,hi,show¬i<s+1 by omega]
    .simp[hi,show i<s+1 by omega]
   .rw[AF f Ω];simp
  .exact x _ _ ⟨rfl,b,0,rfl,f,Ω,λi=>Ξ⟩
theorem J9{b:Nat}(e:k3 b n)(f:Laid w):ai x8 GY [iK b n] w λr w'=>r=Δ (jL b n (-1))/\Ext w w':=by
 refine ay func82 ?_;refine bk λg J q a h=>?_;rw[bF b4.p b4.i rfl h.range];refine(AO e (f.ext a) Ω).mono ?_;rintro _ U _ ⟨rfl,j⟩;exact⟨rfl,a.trans j⟩
theorem Ka{b:Nat}{v:Int}(H:k3 b n):ai x8 GN [iK b n,Δ v] w λr w'=>r=iK (if 0<=v/\v<n then jK b (2 ^ v.toNat)else b) n/\Ext w w':=by
 refine ay func69 ?_;refine bk λg J R x y=>?_;refine bw b4.i λI U S z A=>?_;have s1:=x.size;have V:=y.lt;refine dl (λe=>∃f,ad e g b4 [.int .u64 ((f:Nat):Int),Δ (n:Int)]/\ad e I b4 [.int .u64 0,Δ 0]/\Ext w e/\f=(if 0<=v/\v<n then jK b (2 ^ v.toNat)else b)) ?_ ?_
 .rintro e ⟨f,K,L,M,rfl⟩;rw[bF b4.p b4.i rfl K.range];refine bT (vs:=[_,_]) b4.i rfl rfl (by intro u hu;simp at hu;rcases hu with rfl|rfl<;>rfl) L λW N X O=>?_;rw[e6 b4.p b4.i rfl O.range];exact⟨rfl,M.then N (by rintro r P rfl;omega)⟩
 .intro aw B;have j:=y.ext z;rw[bF b4.p b4.i rfl j.range];refine AN.mono ?_;rintro _ Y _ ⟨rfl,a⟩;have C:=(x.trans z).trans a;simp only[aj,eg];refine⟨λh Z q _ _=>?_,λh=>B _ ⟨b,j.ext a,A.ext a,C,by rw[if_neg h]⟩⟩;have E:=(j.ext a).ext q;rw[aG b4.p 0 E rfl];obtain⟨s,rfl⟩:∃s:Nat,v=s:=⟨v.toNat,Ω⟩;have ab:=H.1;rw[vn Ω,AL,aS b4.p rfl];refine bq fA.i rfl rfl E (by simp[iK,x3.cells]) λac G ae Q=>?_;refine B _ ⟨_,Q,((A.ext a).ext q).aa G Ω,(C.trans q).then G (by rintro r P rfl;omega),?_⟩;rw[if_pos h,u9]
def oX(v:Int):Nat:=if v<0 then 0 else 40-v.toNat
theorem vp(x:Nat):oX x=40-x:=by unfold oX;rw[if_neg Ω];omega
theorem nI{b g:Nat}(e:k3 b n):
  oC x8 jz [Γ g] (gD b n).length (λk vs _=>∃v:Nat,(gD b n)[k]?=σ v/\vs=[Δ (v:Int)])
   (λw=>ad w g b4 [.int .u64 (b:Int),Δ (n:Int)]/\Laid w):=by
 refine⟨jz.enters,λl aw Q w r _ E ⟨s,z⟩ G=>?_⟩;have R:=e.1;refine p1 func81 ?_;rw[bF b4.p b4.i rfl s.range];refine(J9 e z).free.mono ?_;rintro _ J ⟨H,rfl,f⟩;refine⟨λv U=>∃k,k<=(gD b n).length/\v=Δ (nH (gD b n)[k]?)/\aw k U/\ad U g b4 [.int .u64 (b:Int),Δ (n:Int)]/\Laid U,
  λv _=>oX (b0 v),⟨0,X5 _,by rw[J2],r 0 _ _ f H.b G,s.ext f,z.ext f⟩,?_⟩
 rintro _ U ⟨k,hk,rfl,A,I,K⟩;cases a:(gD b n)[k]? with
 |none=>
  have:k=(gD b n).length:=by
   have:=List.getElem?_eq_none_iff.1 a;omega
  subst this;simp only[nH,cQ,aj];exact⟨λh=>Ω,λ_=>.inl A⟩
 |some x=>
  have j:=(x5.1 a).1;have S:=(vm.1 (x6 a)).1;simp only[nH,cQ,aj];refine⟨λ_=>?_,λh=>Ω⟩;refine⟨rfl,(E k _ U j ⟨I,K⟩ ⟨x,a,rfl⟩ A).mono ?_⟩;rintro _ V (⟨rfl,⟨B,C⟩,L⟩|⟨rfl,M⟩)
  .simp only[bJ,Y9,aY];rw[bF b4.p b4.i rfl B.range];refine(AO e C Ω).free.mono ?_;rintro _ W ⟨N,rfl,q⟩;refine⟨⟨k+1,j,congrArg (V5 .i64) (AJ a),r _ _ _ q N.b L.1,B.ext q,C.ext q⟩,?_⟩;rw[AJ a];cases O:(gD b n)[k+1]? with
   |none=>show 0<oX x;rw[vp];omega
   |some y=>
    have X:x<y:=by
     have h1:=(x5.1 a).2;have P:=(x5.1 O).2;rw[<-h1,<-P];exact V6.1 (AG b n) k (k+1) _ _ Ω
    show oX y<oX x;rw[vp,vp];omega
  .simp only[bJ,X9,bQ];exact .inr ⟨k,j,M⟩
theorem nJ{b:Nat}:ai x8 yY [iK b n] w λr w'=>Ext w w'/\∃g,r= .func (.func jz) #[] #[Γ g]/\w.heap.size<=g/\ad w' g b4 [.int .u64 (b:Int),Δ (n:Int)]:=by
 refine ay func36 ?_;refine bk λg J f a e=>?_;rw[kV];exact⟨a,g,rfl,Ω,e⟩
abbrev dP(s:Λ):Prop:=∀x∈s,1<=x/\x<=32
theorem dP.tail{s:Λ}(h:dP (k::s)):dP s:=λx a=>h x (.tail _ a)
theorem l0{s:Λ}(h:dP s):1<=aN s:=(kY s h).1
theorem oY:∀(s t:Λ)(m:Int),ck s t m=(ck s t 0).map λn=>n+m*aN s
 |[],[],m=>by simp[ck,aN]
 |k::s,v::t,m=>by
  unfold ck;split
  .rw[oY s t (m*k+v),oY s t (0*k+v)];simp only[Option.map_map,aN];congr 1;funext n;simp only[Function.comp];rw[Int.add_mul,Int.add_mul,<-Int.mul_assoc];simp;omega
  .rfl
 |[],_::_,_=>rfl
 |_::_,[],_=>rfl
theorem vq{L j:Nat}{rest:List (Λ)}(p:rest.length=L):∀{kn v:Nat},v<kn->∀{x:Λ},rest[j]?=σ x->
  ((W3 kn).flatMap λ(v:Nat)=>rest.map λt=>(v:Int)::t)[v*L+j]?=σ ((v:Int)::x)
 |0,v,h,_,_=>Ω
 |kn+1,v,h,x,e=>by
  have q:=(x5.1 e).1;have f:((W3 kn).flatMap λ(v:Nat)=>rest.map λt=>(v:Int)::t).length=kn*L:=by
   simp only[List.length_flatMap,u7,p];rw[List.map_const',List.length_range,List.sum_replicate_nat]
  rw[List.range_succ,List.flatMap_append];by_cases a:v<kn
  .have:(v+1)*L<=kn*L:=W0 _ a;rw[U7]at this;rw[Y1 (by rw[f];omega)];exact vq p a e
  .have a:v=kn:=Ω
   subst a;rw[Y3 (by rw[f];omega),f,show v*L+j-v*L=j by omega];simp[e]
theorem jl:∀{s:Λ},dP s->∀{i:Nat}{t:Λ},(bj s)[i]?=σ t->ck s t 0=σ (i:Int)
 |[],_,i,t,h=>by
  cases i with
  |zero=>simp[bj]at h;subst h;rfl
  |succ i=>simp[bj]at h
 |k::s,I,i,t,h=>by
  have hk:=I k (.head _);have a:=jj I.tail;have w:=l0 I.tail;obtain⟨kn,rfl⟩:∃kn:Nat,k=kn:=⟨k.toNat,Ω⟩;have hi:=(x5.1 h).1;rw[jj I,aN,Int.toNat_mul Ω Ω,<-a,u9]at hi;have p:0<(bj s).length:=Ω
  have e:i / (bj s).length<kn:=Nat.div_lt_of_lt_mul (by rw[Nat.mul_comm];exact hi);have q:i % (bj s).length<(bj s).length:=Nat.mod_lt _ p;obtain⟨x,f⟩:∃x,(bj s)[i % (bj s).length]?=σ x:=⟨_,x7 q⟩;have j:=vq (kn:=kn) rfl e f;rw[Nat.mul_comm,Nat.div_add_mod]at j;have h':((W3 ((kn:Int).toNat)).flatMap λ(v:Nat)=>(bj s).map λt=>(v:Int)::t)[i]?=σ t:=h;rw[u9,j]at h';cases h';unfold ck;rw[if_pos ⟨Int.natCast_nonneg _,Int.ofNat_lt.2 e⟩,oY,jl I.tail f];simp only[Z7,X4,Int.zero_mul,Int.zero_add];have r:aN s=((bj s).length:Int):=by rw[a];omega
  rw[r,<-Int.natCast_mul,<-Int.natCast_add];congr 1;rw[Nat.mul_comm,Nat.add_comm,Nat.div_add_mod]
theorem mE:∀{s:Λ},dP s->∀{t:Λ}{n:Int},ck s t 0=σ n->(bj s)[n.toNat]?=σ t
 |[],_,[],n,h=>by simp[ck]at h;subst h;rfl
 |k::s,I,v::t,n,h=>by
  have hk:=I k (.head _);have j:=jj I.tail;have w:=l0 I.tail;obtain⟨kn,rfl⟩:∃kn:Nat,k=kn:=⟨k.toNat,Ω⟩;unfold ck at h;split at h
  .rename_i x;rw[oY]at h;cases f:ck s t 0 with
   |none=>rw[f]at h;cases h
   |some q=>
    rw[f]at h;simp only[Z7,X4,Int.zero_mul,Int.zero_add]at h;have p:=kZ I.tail f;simp only[Int.zero_mul,Int.zero_add,Int.one_mul]at p;obtain⟨a,rfl⟩:∃a:Nat,v=a:=⟨v.toNat,Ω⟩;have r:=vq (kn:=kn) (v:=a) rfl Ω (mE I.tail f);have e:n.toNat=a*(bj s).length+q.toNat:=by
     rw[<-h,j];have:((a*(aN s).toNat:Nat):Int)=(a:Int)*aN s:=by rw[Int.natCast_mul,Int.toNat_of_nonneg Ω]
     omega
    rw[e];show((W3 ((kn:Int).toNat)).flatMap λ(v:Nat)=>(bj s).map λt=>(v:Int)::t)[_]?=_;rw[u9];exact r
  .cases h
 |[],_,_::_,_,h=>by cases h
 |_::_,_,[],_,h=>by cases h
theorem AP:∀(s:Λ),dP s->∀(n c:Int),cR s (n+c*aN s)=cR s n
 |[],_,_,_=>rfl
 |k::s,I,n,c=>by
  have a:=l0 I.tail;simp only[cR,aN];rw[<-Int.mul_assoc,AP s I.tail,Int.add_mul_ediv_right _ _ Ω,Int.add_mul_emod_self_right]
theorem si:∀{s:Λ},dP s->∀{n:Int},0<=n->n<aN s->ck s (cR s n) 0=σ n
 |[],_,n,a,h1=>by simp[aN]at h1;simp[cR,ck];omega
 |k::s,I,n,a,h1=>by
  have hk:=I k (.head _);have j:=l0 I.tail;simp only[cR,aN]at h1 ⊢;have f:n / aN s<k:=Int.ediv_lt_of_lt_mul Ω h1;have h:0<=n / aN s:=Int.ediv_nonneg a Ω;have hm:n / aN s % k=n / aN s:=Int.emod_eq_of_lt h f;rw[hm];unfold ck;rw[if_pos ⟨h,f⟩,oY];have e:cR s n=cR s (n % aN s):=by
   have:=AP s I.tail (n % aN s) (n / aN s);rw[<-this];congr 1;have:=Int.emod_add_mul_ediv n (aN s);rw[Int.mul_comm (n / aN s)];omega
  rw[e,si I.tail (Int.emod_nonneg _ Ω) (Int.emod_lt_of_pos _ Ω)];simp only[Z7,X4,Int.zero_mul,Int.zero_add];have:=Int.emod_add_mul_ediv n (aN s);rw[Int.mul_comm (n / aN s)];omega
theorem qg{s:Λ}(I:dP s){i:Nat}(h:(i:Int)<aN s):(bj s)[i]?=σ (cR s i):=by
 have:=mE I (si I (n:=(i:Int)) Ω h);simpa using this
def bm(s cs t:Λ):Int:=match ck s t 0 with
 |some n=>cs.getD n.toNat 0
 |none=>0
def upto{α:Type}(l:List α)(d:α)(i:Nat):List α:=l.take i++o4 (l.length-i) d
theorem nK{α:Type}(l:List α)(d:α)(i:Nat):(upto l d i).length=l.length:=by simp[upto];omega
theorem oZ{α:Type}(l:List α)(d:α):upto l d 0=o4 l.length d:=by simp[upto]
theorem o0{α:Type}(l:List α)(d:α):upto l d l.length=l:=by simp[upto]
theorem o1{α:Type}{l:List α}{d x:α}{i:Nat}(h:l[i]?=σ x):(upto l d i).set i x=upto l d (i+1):=by
 have hi:=(x5.1 h).1;unfold upto;rw[T8 _ _ Θ,r8,h];have e:i-(l.take i).length=0:=Θ
 obtain⟨m,hm⟩:∃m,l.length-i=m+1:=⟨l.length-i-1,Ω⟩;rw[e,hm,show l.length-(i+1)=m by omega];simp[List.replicate_succ]
theorem qh{α:Type}{l:List α}{i:Nat}{x:α}(h:l[i]?=σ x):l.set i x=l:=by
 apply Y7;intro j;rw[X1];split
 .rename_i a;subst a;rw[if_pos (x5.1 h).1,h]
 .rfl
def vr:Λ->Int
 |[]=>0
 |x::l=>l.foldl min x
def AQ(P:Int->Prop)(m:Int):Prop:=P m/\∀x,P x->m<=x
def dp(s t:Λ):Prop:=∃n,ck s t 0=σ n
theorem Kb(k v:Int)(s t:Λ):ck (k::s) (v::t) 0=if 0<=v/\v<k then(ck s t 0).map (λn=>n+(0*k+v)*aN s)else ν:=by
 conv=>lhs;unfold ck
 rw[oY]
theorem AR{v:Int}{s t:Λ}:dp (k::s) (v::t)↔(0<=v/\v<k)/\dp s t:=by
 unfold dp;rw[Kb];constructor
 .rintro⟨n,h⟩;split at h
  .rename_i a;cases e:ck s t 0 with
   |none=>rw[e]at h;cases h
   |some q=>exact⟨a,q,rfl⟩
  .cases h
 .rintro⟨a,q,e⟩;rw[if_pos a,e];exact⟨_,rfl⟩
theorem AS{t:Λ}:dp [] t↔t=[]:=by
 cases t with
 |nil=>exact⟨λ_=>rfl,λ_=>⟨0,rfl⟩⟩
 |cons v t=>
  constructor
  .rintro⟨_,h⟩;cases h
  .intro h;cases h
theorem sj{s t:Λ}(h:dp s t):s.length=t.length:=by
 obtain⟨n,h⟩:=h;rcases Nat.decEq s.length t.length with a|a
 .rw[u2 s t 0 a]at h;cases h
 .exact a
theorem AT{s t:Λ}(I:dP s){n:Int}(h:ck s t 0=σ n):cR s n=t:=by
 have f:=kZ I h;have h1:=mE I h;simp only[Int.zero_mul,Int.zero_add,Int.one_mul]at f;have a:=qg I (i:=n.toNat) Ω;rw[h1]at a;have e:((n.toNat:Nat):Int)=n:=Ω
 rw[e]at a;exact(Z0 a).symm
theorem sk{s cs:Λ}(I:dP s)(a:cs.length=(aN s).toNat):cs=(W3 (aN s).toNat).map λ(q:Nat)=>bm s cs (cR s q):=by
 apply List.ext_getElem
 .simp[a]
 .intro i h1 e;rw[List.getElem_map,List.getElem_range];have f:=l0 I;have hi:(i:Int)<aN s:=Ω
  unfold bm;rw[si I Ω hi];simp only[u9];rw[u4,x7 h1];rfl
theorem vt{s:Λ}(I:dP s){q:Nat}(a:q<(aN s).toNat):dp s (cR s q):=⟨_,si I Ω (by have:=l0 I;omega)⟩
theorem Kc{s cs a:Λ}(I:dP s)(e:cs.length=(aN s).toNat)(f:a.length=(aN s).toNat)(h:∀t,dp s t->bm s cs t=bm s a t):cs=a:=by
 rw[sk I e,sk I f];apply List.map_congr_left;intro q j;exact h _ (vt I (by simpa using j))
theorem Kd(h:l≠[]):AQ (λc=>c∈l) (vr l):=by
 obtain⟨x,r,rfl⟩:∃v r,l=v::r:=by cases l with
  |nil=>exact absurd rfl h
  |cons v r=>exact⟨v,r,rfl⟩
 clear h;show AQ (λc=>c∈x::r) (r.foldl min x);induction r generalizing x with
 |nil=>exact⟨.head _,λy f=>by simp at f;simp[f]⟩
 |cons y r j=>
  rw[T7];obtain⟨h1,e⟩:=j (min x y);refine⟨?_,λz a=>?_⟩
  .rcases V1.1 h1 with h1|h1
   .rw[h1];rcases Int.le_total x y with h|h
    .rw[Int.min_eq_left h];exact .head _
    .rw[Int.min_eq_right h];exact .tail _ (.head _)
   .exact .tail _ (.tail _ h1)
  .rcases V1.1 a with rfl|a
   .have:=e _ (.head _);omega
   .rcases V1.1 a with rfl|a
    .have:=e _ (.head _);omega
    .exact e _ (.tail _ a)
def o2(m:Λ)(i j:Nat):Prop:=∀(p q:Nat)(x y:Int),p<q->q<=i->q≠j->m[p]?=σ x->m[q]?=σ y->x<=y
def qi(m:Λ)(i:Nat):Prop:=∀(p q:Nat)(x y:Int),p<q->q<i->m[p]?=σ x->m[q]?=σ y->x<=y
theorem Ke{m:Λ}{i:Nat}(h:qi m i):o2 m i i:=λp q x y h1 f j a e=>h p q x y h1 Ω a e
theorem Kf{m:Λ}{i:Nat}(h:o2 m i 0):qi m (i+1):=λp q x y h1 f a e=>h p q x y h1 Ω Ω a e
theorem Kg{m:Λ}{i:Nat}{a b:Int}(h:o2 m i j)(B:0<j)(r:m[j-1]?=σ a)(w:m[j]?=σ b)(z:a<=b):qi m (i+1):=by
 intro p q x y h1 C e f;by_cases s:q=j
 .subst s;rw[w]at f;cases f;by_cases A:p=q-1
  .subst A;rw[r]at e;cases e;exact z
  .have:=h p (q-1) x a Ω Ω Ω e r;omega
 .exact h p q x y h1 Ω s e f
theorem Kh{m:Λ}{i:Nat}{a b:Int}(h:o2 m i j)(H:0<j)(hi:j<=i)(z:m[j-1]?=σ a)(A:m[j]?=σ b)(I:b<a):o2 ((m.set j a).set (j-1) b) i (j-1):=by
 intro p q x y h1 w B e f;have C:=(x5.1 A).1;have E:∀(r:Nat),((m.set j a).set (j-1) b)[r]?=if r=j-1 then σ b else if r=j then σ a else m[r]?:=λr=>by
  by_cases h:r=j-1
  .subst h;rw[c9 Θ,if_pos rfl]
  .rw[Y5 (S6 h),if_neg h];by_cases h':r=j
   .subst h';rw[c9 C,if_pos rfl]
   .rw[Y5 (S6 h'),if_neg h']
 rw[E]at e f;rw[if_neg B]at f;by_cases s:q=j
 .rw[if_pos s]at f;cases f;split at e
  .cases e;omega
  .split at e
   .omega
   .exact h p (j-1) x a Ω Ω Ω e z
 .rw[if_neg s]at f;split at e
  .cases e;have:=h j q b y;by_cases F:j<q
   .exact this F w s A f
   .omega
  .split at e
   .rename_i G;subst G;cases e;exact h (p-1) q a y Ω w s z f
   .exact h p q x y h1 w s e f
theorem swap_perm{m:Λ}{i:Nat}{a b:Int}(q:i<j)(h:m[i]?=σ a)(f:m[j]?=σ b):((m.set j a).set i b).Perm m:=by
 induction m generalizing i j with
 |nil=>simp at h
 |cons x m p=>
  cases j with
  |zero=>omega
  |succ j=>
   cases i with
   |zero=>
    simp at h f ⊢;subst h;obtain⟨r,f⟩:=x5.1 f;rw[show m=m.take j++m[j]::m.drop (j+1) by simp];rw[T8 _ _ Θ];have e:j-(m.take j).length=0:=Θ
    rw[e,f];simp only[List.set_cons_zero];refine(List.Perm.cons b (List.perm_middle)).trans ?_;refine(List.Perm.swap x b _).trans ?_;exact List.Perm.cons x List.perm_middle.symm
   |succ i=>
    simp at h f ⊢;exact p Ω h f
theorem Ki{m:Λ}(h:qi m m.length):m.Pairwise (·<= ·):=by
 rw[V6];intro i j hi a e;exact h i j _ _ e a (x7 hi) (x7 a)
def Good(o:Λ)(n:Nat):Prop:=o.length=n/\∀(i:Nat)(p:Int),o[i]?=σ p->(0<=p/\p<n)/\∀j,j<i->o[j]? ≠σ p
theorem Good.inj{o:Λ}{i:Nat}{p:Int}(h:Good o n)(hi:o[i]?=σ p)(a:o[j]?=σ p):i=j:=by
 rcases Nat.lt_trichotomy i j with h1|h1|h1
 .exact absurd hi ((h.2 j p a).2 i h1)
 .exact h1
 .exact absurd a ((h.2 i p hi).2 j h1)
def AU(m:Λ):Prop:=∀i:Nat,i<m.length->m[i]?=σ (i:Int)
theorem AV{o m:Λ}(h:Good o n)(a:m.Perm o)(I:m.Pairwise (·<= ·)):AU m:=by
 have s:o.Nodup:=V6.2 λi j hi w C he=>by
  have:=h.inj (i:=i) (j:=j) (p:=o[j]) (by rw[x7 hi,he]) (x7 w);omega
 have y:m.Nodup:=a.nodup_iff.2 s;have E:m.length=n:=by rw[a.length_eq,h.1]
 have q:∀x∈m,0<=x/\x<(n:Int):=λx z=>by
  obtain⟨i,hi,he⟩:=List.getElem_of_mem (a.mem_iff.1 z);exact(h.2 i x (by rw[x7 hi,he])).1
 have r:∀(i:Nat)(hi:i+1<m.length),m[i]<m[i+1]:=λi hi=>by
  have h1:=V6.1 I i (i+1) Ω hi Ω;have e:=V6.1 y i (i+1) Ω hi Ω;omega
 have A:∀(i:Nat)(hi:i<m.length),(i:Int)<=m[i]:=by
  intro i;induction i with
  |zero=>intro hi;exact(q _ (Q3 hi)).1
  |succ i f=>
   intro hi;have h1:=f Ω;have e:=r i hi;omega
 have B:∀(d i:Nat)(hi:i<m.length),i+d+1=m.length->m[i]<=(i:Int):=by
  intro d;induction d with
  |zero=>
   intro i hi he;have:=(q _ (Q3 hi)).2;omega
  |succ d f=>
   intro i hi he;have h1:=f (i+1) Ω Ω;have e:=r i Ω;omega
 intro i hi;rw[x7 hi];have h1:=A i hi;have e:=B (m.length-i-1) i hi Ω;congr 1;omega
theorem Kj{o m:Λ}(h:AU m)(e:m.Perm o):Good o m.length:=by
 have s:m.Nodup:=V6.2 λi j hi a x he=>by
  have h1:=h i hi;have f:=h j a;rw[x7 hi]at h1;rw[x7 a]at f;have h1:=Z0 h1;have f:=Z0 f;omega
 have w:o.Nodup:=e.nodup_iff.1 s;refine⟨e.length_eq.symm,λi p hi=>⟨?_,λj a q=>?_⟩⟩
 .obtain⟨k,hk,he⟩:=List.getElem_of_mem (e.mem_iff.2 (x6 hi));have h1:=h k hk;rw[x7 hk,he]at h1;cases h1;omega
 .have r:i<o.length:=(x5.1 hi).1;have:=V6.1 w j i Ω r a;rw[x7 r]at hi;rw[x7 (show j<o.length by omega)]at q;exact this ((Z0 q).trans (Z0 hi).symm)
theorem Good.AW{o:Λ}{p:Nat}(h:Good o n)(f:p<n):∃j:Nat,o[j]?=σ (p:Int):=by
 let le:Int->Int->Bool:=λa b=>decide (a<=b);have h1:(o.mergeSort le).Perm o:=List.mergeSort_perm o le;have e:(o.mergeSort le).Pairwise (·<= ·):=by
  refine(List.pairwise_mergeSort (le:=le) (λa b c h1 e=>?_) (λa b=>?_) o).imp λh=>by simpa[le]using h
  .simp[le]at*;omega
  .simp[le];omega
 have q:=AV h h1 e p (by rw[h1.length_eq,h.1];exact f);obtain⟨j,r,he⟩:=List.getElem_of_mem (h1.mem_iff.1 (x6 q));exact⟨j,by rw[x7 r,he]⟩
def l1(o x:Λ):Λ:=(W3 o.length).map λ(p:Nat)=>x.getD (o.idxOf (p:Int)) 0
theorem AX(o x:Λ):(l1 o x).length=o.length:=by simp[l1]
theorem AY{o x:Λ}{p:Int}(h:Good o n)(r:x.length=n)(a:o[j]?=σ p):(l1 o x)[p.toNat]?=x[j]?:=by
 have h1:=(h.2 j p a).1;have s:j<o.length:=(x5.1 a).1;have hm:p∈o:=x6 a;have e:=List.idxOf_lt_length_of_mem hm;have f:o.idxOf p=j:=h.inj (by rw[x7 e,List.getElem_idxOf e]) a;have q:((p.toNat:Nat):Int)=p:=Ω
 have w:=h.1;unfold l1;rw[v8,List.getElem?_range Ω];simp only[Z7,q,f];rw[u4,x7 (show j<x.length by omega)];rfl
theorem AZ{o x y:Λ}(h:Good o n)(f:x.length=n)(s:y.length=n)(q:∀(j:Nat)(p:Int),o[j]?=σ p->y[p.toNat]?=x[j]?):y=l1 o x:=by
 refine Y7 λp=>?_;have w:=h.1;by_cases r:p<n
 .obtain⟨j,a⟩:=h.AW r;have h1:=q j p a;have e:=AY h f a;rw[u9]at h1 e;rw[h1,e]
 .rw[Y4 Ω,Y4 (by rw[AX];omega)]
theorem nL:∀{s t:Λ},dp s t↔s.length=t.length/\∀(i:Nat)(a v:Int),s[i]?=σ a->t[i]?=σ v->0<=v/\v<a
 |[],t=>by
  rw[AS];exact⟨λh=>⟨by rw[h],λi a v h _=>by simp at h⟩,λh=>b9 h.1.symm⟩
 |k::s,[]=>⟨λh=>absurd (sj h) Ξ,λh=>absurd h.1 Ξ⟩
 |k::s,v::t=>by
  rw[AR,nL (s:=s) (t:=t)];refine⟨λ⟨h1,f,j⟩=>⟨by simp[f],λi a u e hu=>?_⟩,λ⟨h1,f⟩=>⟨f 0 k v rfl rfl,by simpa using h1,λi a u e hu=>f (i+1) a u (by simpa using e) (by simpa using hu)⟩⟩;cases i with
  |zero=>simp at e hu;subst e;subst hu;exact h1
  |succ i=>exact j i a u (by simpa using e) (by simpa using hu)
def et(s o:Λ):Λ:=o.map λp=>s.getD p.toNat 0
theorem sm(s o:Λ):(et s o).length=o.length:=by simp[et]
theorem A0{s o:Λ}{p:Int}(h:Good o n)(I:s.length=n)(a:o[j]?=σ p):(et s o)[j]?=s[p.toNat]?:=by
 have h1:=(h.2 j p a).1;unfold et;rw[v8,a,Z7,u4,x7 (show p.toNat<s.length by omega)];rfl
theorem Kk{s o:Λ}(h:Good o n)(I:s.length=n){x:Int}(a:x∈et s o):x∈s:=by
 obtain⟨p,e,rfl⟩:=j0.1 a;obtain⟨j,f,he⟩:=List.getElem_of_mem e;have h1:=(h.2 j p (by rw[x7 f,he])).1;rw[u4,x7 (show p.toNat<s.length by omega)];exact Q3 _
theorem cd.Kl{s o:Λ}(a:cd s)(h:Good o n)(I:s.length=n):cd (et s o):=
 ⟨by rw[sm,h.1,<-I];exact a.1,λx e=>a.2 x (Kk h I e)⟩
theorem Km{s o x:Λ}(h:Good o n)(I:s.length=n)(w:dp (et s o) x):dp s (l1 o x):=by
 obtain⟨h1,y⟩:=nL.1 w;rw[sm,h.1]at h1;refine nL.2 ⟨by rw[AX,h.1,I],λp a v e z=>?_⟩;have A:p<n:=by have:=(x5.1 e).1;omega
 obtain⟨j,f⟩:=h.AW A;have q:=A0 h I f;have r:=AY h h1.symm f;rw[u9]at q r;exact y j a v (by rw[q,e]) (by rw[<-r,z])
def nM(s cs o:Λ):Λ:=(W3 (aN (et s o)).toNat).map λ(q:Nat)=>bm s cs (l1 o (cR (et s o) q))
theorem A1(s cs o:Λ):(nM s cs o).length=(aN (et s o)).toNat:=by simp[nM]
theorem vu{f:Int->Bool}{x:Int}:runN f (x::l)=if f x=true then runN f l+1 else 0:=by
 unfold runN;rw[List.takeWhile_cons];by_cases h:f x=true
 .rw[if_pos h,if_pos h,Z5]
 .rw[if_neg h,if_neg h];rfl
theorem vv(f:Int->Bool):∀l:Λ,l.dropWhile f=l.drop (runN f l)
 |[]=>rfl
 |x::l=>by
  rw[List.dropWhile_cons,vu];by_cases h:f x=true
  .rw[if_pos h,if_pos h,vv f l];rfl
  .rw[if_neg h,if_neg h];rfl
theorem A2(f:Int->Bool):∀l:Λ,l.takeWhile f=l.take (runN f l)
 |[]=>rfl
 |x::l=>by
  rw[List.takeWhile_cons,vu];by_cases h:f x=true
  .rw[if_pos h,if_pos h,List.take_succ_cons,A2 f l]
  .rw[if_neg h,if_neg h];rfl
theorem A3{f:Int->Bool}:∀{l:Λ}{b:Int}{q:Λ},l.dropWhile f=b::q->f b=false
 |x::l,b,q,h=>by
  rw[List.dropWhile_cons]at h;by_cases a:f x=true
  .rw[if_pos a]at h;exact A3 h
  .rw[if_neg a]at h;have:=(List.cons.inj h).1;subst this;cases e:f x
   .rfl
   .exact absurd e a
theorem vw{p:Λ}{b:Int}{q:Λ}(h:p.drop a=b::q):p[a]?=σ b:=by
 have:=S2 (xs:=p) (i:=a) (j:=0);rw[h]at this;simpa using this.symm
theorem Kn(p:Λ)(at_:Nat):match oU p at_ with
  | .word a b=>lex (p.drop at_)=(((p.take b).drop a)::(lex (p.drop b)).1,(lex (p.drop b)).2)
  | .none=>lex (p.drop at_)=([],true)
  | .text _=>lex (p.drop at_)=([],false):=by
 have j:(p.drop at_).dropWhile cA=p.drop (gC p at_):=by rw[vv,List.drop_drop];rfl
 have s:(p.drop (gC p at_)).dropWhile bO=p.drop (iJ p (gC p at_)):=by rw[vv,List.drop_drop];rfl
 have y:(p.drop (gC p at_)).takeWhile bO=(p.take (iJ p (gC p at_))).drop (gC p at_):=by
  rw[A2,List.drop_take];congr 1;unfold iJ;omega
 have h:runN bO (p.drop (gC p at_))=iJ p (gC p at_)-gC p at_:=by unfold iJ;omega
 have K:gC p at_<=iJ p (gC p at_):=by unfold iJ;omega
 unfold oU;generalize gC p at_=a at*;generalize iJ p a=b at*;by_cases h1:b<p.length/\(∀c,p[b]?=σ c->cA c=false)
 .rw[if_pos h1];simp only;rw[kk,j];cases e:p.drop a with
  |nil=>
   have:=List.drop_eq_nil_iff.1 e;omega
  |cons x q=>
   simp only;rw[e]at s y h;by_cases f:bO x=true
   .rw[if_pos f,s];cases w:p.drop b with
    |nil=>have:=List.drop_eq_nil_iff.1 w;omega
    |cons c r=>
     simp only;rw[h1.2 c (vw w)];rfl
   .rw[if_neg f]
 .rw[if_neg h1];by_cases z:a=b
  .rw[if_pos z];simp only;subst z;rw[kk,j];cases e:p.drop a with
   |nil=>rfl
   |cons x q=>
    exfalso;have A:=vw e;have F:=(x5.1 A).1;rw[e]at h;rw[e]at j;have G:=A3 j;refine h1 ⟨F,λc B=>?_⟩;rw[A]at B;cases B;exact G
  .rw[if_neg z];simp only;rw[kk (p.drop at_),j];cases e:p.drop a with
   |nil=>
    rw[e]at h;have:runN bO []=0:=rfl;omega
   |cons x q=>
    simp only;rw[e]at s y h;have f:bO x=true:=by
     rw[vu]at h;by_cases f:bO x=true
     .exact f
     .rw[if_neg f]at h;omega
    rw[if_pos f,s,y];cases w:p.drop b with
    |nil=>simp only;rw[kk []];rfl
    |cons c r=>
     simp only;have C:=vw w;have H:=(x5.1 C).1;have J:cA c=true:=by
      cases I:cA c with
      |true=>rfl
      |false=>exact absurd ⟨H,λd E=>by rw[C]at E;cases E;exact I⟩ h1
     rw[if_pos J]
def hy(w:x4)(g:Nat)(R:Nat->Prop)(toks:List (Λ))(clean:Bool):Prop:=∃a p at_,lZ w g a p at_ (-1)/\(∀r,leads a r->R r)/\lex (p.drop at_)=(toks,clean)
theorem hy.aa{g:Nat}{R:Nat->Prop}{toks:List (Λ)}(h:hy w g R toks clean)(e:ae S w w')(j:¬S g)(q:∀r,R r->¬S r):hy w' g R toks clean:=by
 obtain⟨s,p,a,⟨h1,x,y,z,bp,A⟩,f,B⟩:=h;exact⟨s,p,a,⟨h1,x,y,z.aa e j,bp,br A e λr C=>q r (f r C)⟩,f,B⟩
theorem hy.words{g:Nat}{R:Nat->Prop}{toks:List (Λ)}(h:hy w g R toks clean):toks.length<=100000/\∀t∈toks,Bytes t/\t≠[]/\t.length<=100000:=by
 obtain⟨s,p,a,⟨x,y,z,_⟩,_,f⟩:=h;have A:(p.drop a).length<=100000:=by rw[List.length_drop];omega
 have e:=p9 _ (p.drop a) (o5 _);rw[f]at e;refine⟨by show toks.length<=_;have e:toks.length<=_:=e;omega,λt q=>?_⟩;have j:=sa _ (p.drop a) (o5 _) t (by rw[f];exact q);refine⟨λb r=>?_,j.1,Ω⟩;have:=of_decide_eq_true (j.2.1 b r);omega
def Ko(w:x4)(g:Nat)(R:Nat->Prop)(toks:List (Λ))(clean:Bool)(v:x3)(w':x4):Prop:=ae (λr=>r=g) w w'/\match toks with
 |t::l=>hy w' g R l clean/\∃n:Int,v= .tuple #[bU t,Δ n,Δ 0]
 |[]=>∃n:Int,v= .tuple #[bU [],Δ n,Δ (if clean then 2 else 11)]
theorem qj{g:Nat}{R:Nat->Prop}{toks:List (Λ)}(h:hy w g R toks clean):ai x8 uM [Γ g] w (Ko w g R toks clean):=by
 obtain⟨z,p,a,h1,A,q⟩:=h;refine(JV h1).mono ?_;intro v w' _ hw;have e:=Kn p a;unfold qf at hw;cases r:oU p a with
 |word x y=>
  rw[r]at hw e;simp only at hw e;rw[q]at e;obtain⟨rfl,s,I⟩:=hw;obtain⟨f,j⟩:=Prod.mk.inj e;subst f j;exact⟨s,⟨z,p,y,I,A,rfl⟩,_,rfl⟩
 |none=>
  rw[r]at hw e;simp only at hw e;rw[q]at e;obtain⟨f,j⟩:=Prod.mk.inj e;subst f j;obtain⟨n,rfl,B⟩:=hw;exact⟨B.aa _,_,rfl⟩
 |text b=>
  rw[r]at hw e;simp only at hw e;rw[q]at e;obtain⟨f,j⟩:=Prod.mk.inj e;subst f j;obtain⟨rfl,s,_⟩:=hw;exact⟨s,_,rfl⟩
def km(w:Λ):x3:=match gA w with
 |some n=>.tuple #[Δ n,Δ 0]
 |none=>.tuple #[Δ 0,Δ 4]
theorem A4{i:Nat}{b:Int}(hi:l[i]?=σ b):(l.take (i+1)).all gx=((l.take i).all gx&&gx b):=by
 rw[r8,hi,List.all_append];simp
theorem A5{i:Nat}{b:Int}(hi:l[i]?=σ b):(l.take (i+1)).foldl e7 0=e7 ((l.take i).foldl e7 0) b:=by
 rw[r8,hi,R5];rfl
theorem A6(a:l≠[])(h:l.all gx=true):kl l=σ (l.foldl e7 0):=by
 unfold kl;cases l with
 |nil=>exact absurd rfl a
 |cons x l=>simp only[h,if_true]
theorem A7{i:Nat}{b:Int}(hi:l[i]?=σ b)(a:gx b=false):kl l=ν:=by
 unfold kl;cases l with
 |nil=>simp at hi
 |cons x l=>
  simp only;rw[if_neg];intro h;have:=List.all_eq_true.1 h b (x6 hi);rw[a]at this;cases this
def o3(w l:Λ)(s:Int):Prop:=(s=1\/s= -1)/\gA w=(kl l).map λn=>s*n
theorem A8:o3 (45::l) l (-1):=⟨.inr rfl,by simp only[gA];congr 1;funext n;omega⟩
theorem Ba{w:Λ}(h:∀b,w[0]?=σ b->b≠45):o3 w w 1:=⟨.inl rfl,by
 have e:gA w=kl w:=by
  unfold gA;cases w with
  |nil=>rfl
  |cons x l=>
   have:=h x rfl;split
   .rename_i l' he;exact absurd (List.cons.inj he).1 this
   .rfl
 rw[e];cases kl w with
 |none=>rfl
 |some n=>simp⟩
theorem sn{w:Λ}{s:Int}(h:o3 w l s)(a:kl l=ν):km w= .tuple #[Δ 0,Δ 4]:=by
 unfold km;rw[h.2,a];rfl
theorem Bb{w:Λ}{s n:Int}(h:o3 w l s)(a:kl l=σ n):km w= .tuple #[Δ (s*n),Δ 0]:=by
 unfold km;rw[h.2,a];rfl
theorem Kp(B:Bytes l)(L:l.length<=100000):ai x8 HL [bU l] w λv w'=>v=km l/\Ext w w':=by
 refine ay func164 ?_;rw[JF];refine ib (λS V J=>Ext w J/\∃(m:Λ)(s:Int),S=bU m/\V=Δ s/\Bytes m/\m.length<=100000/\o3 l m s) ?_ ?_
 .rintro _ _ J ⟨H,m,s,rfl,rfl,I,af,C⟩;rw[An I (λb a=>by cases a),aj];refine⟨λe=>⟨by rw[sn C (by rw[e];rfl)],H⟩,λe=>?_⟩;refine vg c5.u cL.u cH.u I Ω λbv U M N _=>?_;rw[aV cL.u N];refine pN.range m.length (λi _ _ c E=>Ext U E/\c=Δ ((m.take i).foldl e7 0)/\(m.take i).all gx=true) Ω ⟨Ext.refl _,rfl,rfl⟩ ?_ ?_
  .rintro i W t3 _ E X hi ⟨f,rfl,j⟩ Y;obtain⟨b,q⟩:=aD (l:=m) hi;have ag:=I b (x6 q);refine bD Ω ?_;refine Aj (λ_ _ c G=>Ext U G/\c=Δ ((m.take (i+1)).foldl e7 0)/\(m.take (i+1)).all gx=true) ?_ ?_
   .rintro ah ak c G Z;rw[aM];exact Y _ _ _ _ Z
   intro aw p;rw[bc cL.u cH.i Ψ (N.ext f) q];refine aW (λv G=>E=G/\v= .bool (!gx b)) ?_ ?_
   rotate_left
   .intro aa z;rw[aR,aj];refine⟨λh=>z _ _ ⟨rfl,by unfold gx;rw[decide_eq_false Ω];rfl⟩,λh=>?_⟩;rw[bS];refine z _ _ ⟨rfl,?_⟩;unfold gx;congr 1;by_cases O:57<b
    .rw[decide_eq_true O,decide_eq_false Ω];rfl
    .rw[decide_eq_false O,decide_eq_true Ω];rfl
   rintro _ _ ⟨rfl,rfl⟩;cases K:gx b with
   |false=>
    rw[X9,bQ];exact⟨by rw[sn C (A7 q K)],(H.trans M).trans f⟩
   |true=>
    rw[Y9,aY];have al:=of_decide_eq_true K;have A:=sb (l:=m.take i) (n:=0) j ⟨Q1 _,Φ⟩;rw[A5 q,A4 q,j,K]at p;generalize (m.take i).foldl e7 0=n at*;have A:0<=n/\n<=4611686018427387904:=A;rw[ec,wrap_u8 Ω Ω,fo cH.u ao.u,wrap_i64 (x:=b-48) Ω Ω,ec,wrap_i64 Ω Ω,p2 Φ,Int.tdiv_eq_ediv_of_nonneg Ω];rw[wrap_i64 Ω Ω,bS,aj];refine⟨λab=>p _ _ _ _ ⟨f,?_,rfl⟩,λab=>?_⟩
    .congr 1;unfold e7 av;omega
    .rw[gp,wrap_i64 Ω Ω,aM,wrap_i64 Ω Ω];refine p _ _ _ _ ⟨f,?_,rfl⟩;congr 1;unfold e7 av;omega
  .rintro W t3 _ E X ⟨f,rfl,j⟩;rw[o6]at j ⊢;refine b7 Ω ?_;have A:=sb (l:=m) (n:=0) j ⟨Q1 _,Φ⟩;have A:0<=m.foldl e7 0/\m.foldl e7 0<=4611686018427387904:=A;rw[gp];have hw:X7.wrap (s*m.foldl e7 0)=s*m.foldl e7 0:=by
    rcases C.1 with rfl|rfl<;>exact wrap_i64 Ω Ω
   rw[hw];exact⟨by rw[Bb C (A6 e j)],(H.trans M).trans f⟩
 .intro aw p;refine aW (λv U=>w=U/\∃c:Bool,v= .bool c/\(c=true↔l[0]?=σ 45)) ?_ ?_
  .rintro _ _ ⟨rfl,c,rfl,P⟩;rw[cj];refine⟨λac=>?_,λQ=>?_⟩
   .intro am ad _ _;have R:=P.1 ac;cases l with
    |nil=>simp at R
    |cons x r=>
     have ae:x=45:=by simpa using R
     subst ae;rw[Ao (y:=1) (i:=1) rfl c5.u Ξ];exact p _ _ _ ⟨ad,r,-1,rfl,rfl,λb a=>B b (.tail _ a),by simp at L;omega,A8⟩
   .refine p _ _ _ ⟨Ext.refl _,l,1,rfl,rfl,B,L,Ba λb a he=>?_⟩;subst he;rw[P.2 a]at Q;cases Q
  .intro aa z;rw[JJ B (λb a=>by cases a),aj];refine⟨λe=>?_,λe=>z _ _ ⟨rfl,false,rfl,⟨λh=>(by cases h),λh=>by rw[X2.1 e]at h;simp at h⟩⟩⟩;cases l with
   |nil=>exact absurd rfl e
   |cons x r=>
    rw[qc (y:=0) (i:=0) (b:=x) rfl c5.u B rfl,bb];exact z _ _ ⟨rfl,_,rfl,Ξ⟩
theorem sq{s s':aE}{w:Λ}(h:dU s=σ (w,s')):s.toks=w::s'.toks/\s'={s with toks:=s'.toks}:=by
 unfold dU at h;cases a:s.toks with
 |nil=>rw[a]at h;cases h
 |cons x l=>
  rw[a]at h;simp only[X4,S1]at h;obtain⟨rfl,rfl⟩:=h;exact⟨rfl,rfl⟩
theorem hY{n:Int}{s s':aE}(h:bd lo hi s=σ (n,s')):(lo<=n/\n<=hi)/\(∃w,s.toks=w::s'.toks/\gA w=σ n)/\s'={s with toks:=s'.toks}:=by
 unfold bd at h;cases hw:dU s with
 |none=>rw[hw]at h;cases h
 |some q=>
  obtain⟨w,s1⟩:=q;rw[hw]at h;simp only at h;obtain⟨h1,e⟩:=sq hw;cases a:gA w with
  |none=>rw[a]at h;cases h
  |some m=>
   rw[a]at h;simp only at h;split at h
   .rename_i f;simp only[X4,S1]at h;obtain⟨rfl,rfl⟩:=h;exact⟨f,⟨w,h1,a⟩,e⟩
   .cases h
def ik(k:Nat)(s s':aE):Prop:=s.toks.length=s'.toks.length+k/\s'={s with toks:=s'.toks}
theorem ik.refl(s:aE):ik 0 s s:=⟨rfl,rfl⟩
theorem ik.trans{b:Nat}{r s t:aE}(h:ik a r s)(k:ik b s t):ik (a+b) r t:=⟨by have:=h.1;have:=k.1;omega,by rw[k.2,h.2]⟩
theorem dK{n:Int}{s s':aE}(h:bd lo hi s=σ (n,s')):ik 1 s s':=by
 obtain⟨_,⟨w,h1,_⟩,a⟩:=hY h;exact⟨by rw[h1];simp,a⟩
theorem ik.eqs{k:Nat}{s s':aE}(h:ik k s s'):s'.told=s.told/\s'.big=s.big/\s'.shared=s.shared:=by rw[h.2];exact⟨rfl,rfl,rfl⟩
theorem ko{α:Type}{f:List α->aE->Option (α×aE)}(e:List α->aE->Prop)(r:∀acc s a s',e acc s->f acc s=σ (a,s')->e (acc++[a]) s'):
  ∀(n:Nat)(acc:List α)(s:aE)(l:List α)(s':aE),e acc s->cM f n acc s=σ (l,s')->e l s'/\l.length=acc.length+n
 |0,acc,s,l,s',j,h=>by
  simp only[cM,X4,S1]at h;obtain⟨rfl,rfl⟩:=h;exact⟨j,Ω⟩
 |n+1,acc,s,l,s',j,h=>by
  simp only[cM]at h;cases p:f acc s with
  |none=>rw[p]at h;cases h
  |some q=>
   obtain⟨a,s1⟩:=q;rw[p]at h;have:=ko e r n _ _ _ _ (r _ _ _ _ j p) h;exact⟨this.1,by rw[this.2];simp;omega⟩
theorem vx{n:Int}{k:Nat}{s s':aE}(h:e8 n k s=σ (l,s')):ik l.length s s'/\l.length=k/\l.Nodup/\∀v∈l,0<=v/\v<n:=by
 have:=ko (λacc t=>ik acc.length s t/\acc.Nodup/\∀v∈acc,0<=v/\v<n) (λacc t a bn ⟨h1,p,r⟩ h=>by
  cases f:bd 0 (n-1) t with
  |none=>rw[f]at h;cases h
  |some q=>
   obtain⟨v,A⟩:=q;rw[f]at h;simp only at h;split at h
   .cases h
   .rename_i w;simp only[X4,S1]at h;obtain⟨rfl,rfl⟩:=h;have B:=(hY f).1;refine⟨by rw[o7];exact h1.trans (dK f),List.nodup_append.2 ⟨p,Ξ,λx e y j he=>?_⟩,λx e=>?_⟩
    .rw[j4]at j;subst j;subst he;exact w e
    .rcases l9.1 e with e|e
     .exact r x e
     .rw[j4.1 e];omega) k [] s l s' ⟨ik.refl s,List.nodup_nil,λv z=>by cases z⟩ h
 exact⟨this.1.1,by simpa using this.2,this.1.2.1,this.1.2.2⟩
theorem vy:∀{ks acc:Λ}{s s':aE}{t:Λ},iI ks acc s=σ (t,s')->∃u,t=acc++u/\dp ks u/\ik u.length s s'
 |[],acc,s,s',t,h=>by
  simp only[iI,X4,S1]at h;obtain⟨rfl,rfl⟩:=h;exact⟨[],Ξ,AS.2 rfl,ik.refl s⟩
 |k::ks,acc,s,s',t,h=>by
  simp only[iI]at h;cases a:bd 0 (k-1) s with
  |none=>rw[a]at h;cases h
  |some q=>
   obtain⟨v,s1⟩:=q;rw[a]at h;obtain⟨u,rfl,hu,e⟩:=vy h;have f:=(hY a).1;exact⟨v::u,Ξ,AR.2 ⟨Ω,hu⟩,by rw[Z5,Nat.add_comm];exact(dK a).trans e⟩
def mF(sizes:Λ)(l:List (Λ×Int)):Prop:=(l.map (·.1)).Nodup/\∀p∈l,dp sizes p.1/\0<=p.2
theorem pa{acc:List (Λ×Int)}{s s':aE}{a:Λ×Int}(h:dV sizes acc s=σ (a,s')):a.1∉acc.map (·.1)/\dp sizes a.1/\0<=a.2/\ik (a.1.length+1) s s':=by
 unfold dV at h;cases f:iI sizes [] s with
 |none=>rw[f]at h;cases h
 |some q=>
  obtain⟨t,s1⟩:=q;rw[f]at h;simp only at h;obtain⟨u,hu,j,p⟩:=vy f;rw[List.nil_append]at hu;subst hu;cases e:bd 0 av s1 with
  |none=>rw[e]at h;cases h
  |some q=>
   obtain⟨c,w⟩:=q;rw[e]at h;simp only at h;split at h
   .cases h
   .rename_i r;simp only[X4,S1]at h;obtain⟨rfl,rfl⟩:=h;exact⟨r,j,(hY e).1.1,p.trans (dK e)⟩
structure Bc(s s':aE):Prop where
 toks:s'.toks.length<s.toks.length
 big:s.big=true->s'.big=true
theorem Kq{s s':aE}{l:List (Λ×Int)}(B:∀q∈s.shared,mF q.1 q.2/\q.2.length<=N)(O:s.toks.length<=N)(h:dW sizes s=σ (l,s')):
  mF sizes l/\l.length<=N/\s'.shared=s.shared/\Bc s s':=by
 unfold dW at h;cases j:bd (-av) av s with
 |none=>rw[j]at h;cases h
 |some q=>
  obtain⟨n,s1⟩:=q;rw[j]at h;simp only at h;have h1:=dK j;obtain⟨P,C,r⟩:=h1.eqs;split at h
  .cases I:s1.shared[(-n-1).toNat]? with
   |none=>rw[I]at h;cases h
   |some q=>
    obtain⟨z,l'⟩:=q;rw[I]at h;simp only at h;split at h
    .rename_i G;simp only[X4,S1]at h;obtain⟨rfl,rfl⟩:=h;subst G;have hm:=x6 I;rw[r]at hm;exact⟨(B _ hm).1,(B _ hm).2,r,by have:=h1.1;omega,λf=>by rw[C];exact f⟩
    .cases h
  .have:=ko (λacc t=>mF sizes acc/\t.shared=s.shared/\t.toks.length+acc.length<=s1.toks.length/\(s.big=true->t.big=true)) (λacc t a bn ⟨g1,w,H,A⟩ g=>by
    obtain⟨J,K,L,E⟩:=pa g;obtain⟨f1,f2,f3⟩:=E.eqs;refine⟨⟨?_,λp e=>?_⟩,by rw[f3,w],by have:=E.1;simp only[o7,S3];omega,λf=>by rw[f2];exact A f⟩
    .rw[Z2];exact List.nodup_append.2 ⟨g1.1,Ξ,λx M y F he=>by
      simp only[T1,List.map_nil,j4]at F;subst F;subst he;exact J M⟩
    .rcases l9.1 e with e|e
     .exact g1.2 p e
     .rw[j4.1 e];exact⟨K,L⟩) n.toNat [] (ba (decide (16384<min (s1.told+n) av)) {s1 with told:=min (s1.told+n) av}) l s' ⟨⟨Ξ,λp e=>by cases e⟩,r,by simp[ba],λf=>by simp[ba,C,f]⟩ h
   obtain⟨⟨g1,w,H,A⟩,_⟩:=this;have:=h1.1;exact⟨g1,Ω,w,⟨Ω,A⟩⟩
structure sr(all:Λ)(N:Nat)(f:cw):Prop where
 scope:f.scope.Nodup/\∀v∈f.scope,0<=v/\v<all.length
 sizes:f.sizes=f.scope.map λv=>all.getD v.toNat 0
 other:0<=f.other
 lines:mF f.sizes f.lines
 len:f.lines.length<=N
theorem Kr{all:Λ}{s s':aE}{f:cw}(B:∀q∈s.shared,mF q.1 q.2/\q.2.length<=N)(V:s.toks.length<=N)(h:db all s=σ (f,s')):
  sr all N f/\(∀q∈s'.shared,mF q.1 q.2/\q.2.length<=N)/\Bc s s'/\(s'.big=false->f.scope.length<=6/\dt f.sizes=false):=by
 unfold db at h;cases C:bd (-av) av s with
 |none=>rw[C]at h;cases h
 |some q=>
 obtain⟨a,s1⟩:=q;rw[C]at h;simp only at h;have t0:=dK C;obtain⟨W,M,O⟩:=t0.eqs;cases h1:e8 all.length a.natAbs s1 with
 |none=>rw[h1]at h;cases h
 |some q=>
 obtain⟨sc,w⟩:=q;rw[h1]at h;simp only at h;obtain⟨F,X,P,Q⟩:=vx h1;obtain⟨Y,R,S⟩:=F.eqs;generalize T:sc.map (λv=>all.getD v.toNat 0)=sizes at h;cases y:bd 0 av (ba (decide (6<a.natAbs)||dt sizes) w)with
 |none=>rw[y]at h;cases h
 |some q=>
 obtain⟨other,p⟩:=q;rw[y]at h;simp only at h;have G:=dK y;obtain⟨Z,z,x⟩:=G.eqs;have x:p.shared=s.shared:=by rw[x];show w.shared=_;rw[S,O]
 have aa:p.toks.length<s.toks.length:=by
  have:=t0.1;have:=F.1;have A:=G.1;have:(ba (decide (6<a.natAbs)||dt sizes) w).toks.length=w.toks.length:=rfl;omega
 cases A:dW sizes p with
 |none=>rw[A]at h;cases h
 |some q=>
 obtain⟨lines,j⟩:=q;rw[A]at h;simp only[X4,S1]at h;obtain⟨rfl,rfl⟩:=h;obtain⟨g1,H,I,J⟩:=Kq (N:=N) (by rw[x];exact B) Ω A;have U:=J.big;have gt:=J.toks;have K:p.big=true->∀E:aE,E=(if a<0 then{j with shared:=j.shared++[(sizes,lines)]}else j)->E.big=true:=λr E he=>by
  rw[he];split<;>exact U r
 have z:p.big=(s.big||(decide (6<a.natAbs)||dt sizes)):=by
  rw[z];show(w.big||_)=_;rw[R,M]
 refine⟨⟨⟨P,Q⟩,T.symm,(hY y).1.1,g1,H⟩,λq e=>?_,⟨?_,λr=>K (by rw[z,r];rfl) _ rfl⟩,λr=>?_⟩
 .split at e
  .rcases l9.1 e with e|e
   .rw[show j.shared=s.shared by rw[I,x]]at e;exact B q e
   .rw[j4.1 e];exact⟨g1,H⟩
  .rw[show j.shared=s.shared by rw[I,x]]at e;exact B q e
 .have:(if a<0 then{j with shared:=j.shared++[(sizes,lines)]}else j).toks=j.toks:=by split<;>rfl
  rw[this];omega
 .have L:p.big=false:=by
   cases e:p.big with
   |false=>rfl
   |true=>rw[K e _ rfl]at r;cases r
  rw[z,U3,U3,decide_eq_false_iff_not]at L;show sc.length<=6/\_;exact⟨Ω,L.2.2⟩
structure ff(N:Nat)(f:ca):Prop where
 name:f.name.length<=64
 k:1<=f.k/\f.k<=2147483648
 sizes:1<=f.sizes.length/\f.sizes.length<=64/\∀z∈f.sizes,1<=z/\z<=32
 k4:f.funs.length<=256
 funs:∀x∈f.funs,sr f.sizes N x/\x.scope.length<=6/\dt x.sizes=false
theorem qk{b:Bool}{s:aE}(h:(ba b s).big=false):s.big=false/\b=false:=by
 have h:(s.big||b)=false:=h;exact U3.1 h
theorem Ks{a b:aE}(h:a.big=true->b.big=true)(e:b.big=false):a.big=false:=by
 cases f:a.big with
 |false=>rfl
 |true=>rw[h f]at e;cases e
theorem Bd{s s':aE}{f:ca}(I:s.shared=[])(h:hU s=σ (f,s'))(e:s'.big=false):ff s.toks.length f/\f.name∈s.toks:=by
 unfold hU at h;cases L:dU s with
 |none=>rw[L]at h;cases h
 |some q=>
 obtain⟨name,s0⟩:=q;rw[L]at h;simp only at h;obtain⟨J,U⟩:=sq L;cases h1:bd 1 av (ba (decide (64<name.length)) s0)with
 |none=>rw[h1]at h;cases h
 |some q=>
 obtain⟨n,s1⟩:=q;rw[h1]at h;simp only at h;have r:=dK h1;cases M:bd 1 av (ba (decide (64<n)) s1)with
 |none=>rw[M]at h;cases h
 |some q=>
 obtain⟨most,Z⟩:=q;rw[M]at h;simp only at h;have N:=dK M;cases O:bd 0 av Z with
 |none=>rw[O]at h;cases h
 |some q=>
 obtain⟨E,F⟩:=q;rw[O]at h;simp only at h;have t3:=dK O;cases G:bd 1 av (ba (decide (256<E)) F)with
 |none=>rw[G]at h;cases h
 |some q=>
 obtain⟨k,A⟩:=q;rw[G]at h;simp only at h;have t4:=dK G;cases P:cM (fW most) n.toNat [] (ba (decide (2147483648<k)) A)with
 |none=>rw[P]at h;cases h
 |some q=>
 obtain⟨sizes,H⟩:=q;rw[P]at h;simp only at h;cases Q:cM (λ_ s=>db sizes s) E.toNat [] H with
 |none=>rw[Q]at h;cases h
 |some q=>
 obtain⟨funs,aa⟩:=q;rw[Q]at h;simp only[X4,S1]at h;obtain⟨rfl,rfl⟩:=h;have ab:=ko (λ(acc:Λ)t=>t.shared=[]/\t.toks.length<=s.toks.length/\(t.big=false->A.big=false/\k<=2147483648/\∀z∈acc,1<=z/\z<=32)) (λacc t a bn ⟨g1,V,R⟩ g=>by
  unfold fW at g;cases w:bd 1 most t with
  |none=>rw[w]at g;cases g
  |some q=>
   obtain⟨z,r⟩:=q;rw[w]at g;simp only[X4,S1]at g;obtain⟨rfl,rfl⟩:=g;have W:=dK w;obtain⟨aA,ac,ad⟩:=W.eqs;have aB:=(hY w).1;refine⟨by show r.shared=[];rw[ad,g1],by show r.toks.length<=_;have:=W.1;omega,λe=>?_⟩;obtain⟨j,B⟩:=qk e;rw[ac]at j;obtain⟨S,T,ae⟩:=R j;refine⟨S,T,λy C=>?_⟩;rcases l9.1 C with C|C
   .exact ae y C
   .rw[j4.1 C];have:=of_decide_eq_false B;omega) n.toNat [] (ba (decide (2147483648<k)) A) sizes H ⟨by
     show A.shared=[];rw[t4.eqs.2.2];show F.shared=[];rw[t3.eqs.2.2,N.eqs.2.2];show s1.shared=[];rw[r.eqs.2.2];show s0.shared=[];rw[U];exact I,by
     show A.toks.length<=_;have af:=r.1;have ag:=N.1;have a3:=t3.1;have a4:=t4.1;have j:(ba (decide (64<name.length)) s0).toks=s0.toks:=rfl;have B:(ba (decide (64<n)) s1).toks=s1.toks:=rfl;have K:(ba (decide (256<E)) F).toks=F.toks:=rfl;rw[j]at af;rw[B]at ag;rw[K]at a4;rw[J,Z5];omega,λe=>by
     obtain⟨j,B⟩:=qk e;have:=of_decide_eq_false B;exact⟨j,Ω,λz ah=>by cases ah⟩⟩ P
 obtain⟨⟨ai,aj,ak⟩,al⟩:=ab;have am:=ko (λ(acc:List cw)t=>(∀q∈t.shared,mF q.1 q.2/\q.2.length<=s.toks.length)/\t.toks.length<=s.toks.length/\(t.big=false->H.big=false/\∀x∈acc,sr sizes s.toks.length x/\x.scope.length<=6/\dt x.sizes=false)) (λacc t a bn ⟨g1,V,R⟩ g=>by
  obtain⟨an,ao,X,ap⟩:=Kr g1 V g;refine⟨ao,by have:=X.toks;omega,λe=>?_⟩;obtain⟨S,T⟩:=R (Ks X.big e);refine⟨S,λx p=>?_⟩;rcases l9.1 p with p|p
  .exact T x p
  .rw[j4.1 p];exact⟨an,ap e⟩) E.toNat [] H funs aa ⟨(by rw[ai];intro q w;cases w),aj,λe=>⟨e,λx p=>by cases p⟩⟩ Q
 obtain⟨⟨_,_,d3⟩,d4⟩:=am;obtain⟨aq,d5⟩:=d3 e;obtain⟨K,au,aw⟩:=ak aq;rw[t4.eqs.2.1]at K;obtain⟨Y,ax⟩:=qk K;rw[t3.eqs.2.1,N.eqs.2.1]at Y;obtain⟨j,ay⟩:=qk Y;rw[r.eqs.2.1]at j;obtain⟨_,az⟩:=qk j;have:=of_decide_eq_false ax;have:=of_decide_eq_false ay;have:=of_decide_eq_false az;have aC:=(hY h1).1;have hk:=(hY G).1;simp only[List.length_nil,X3]at al d4;exact⟨⟨by show name.length<=64;omega,⟨hk.1,au⟩,⟨by show 1<=sizes.length;omega,by show sizes.length<=64;omega,aw⟩,by show funs.length<=256;omega,d5⟩,by rw[J];exact .head _⟩
def jM(x:cw)(k:Int)(t:Λ):Int:=min (match x.lines.find? (λp=>decide (p.1=t))with
 |some p=>p.2
 |none=>x.other) k
def bo(l:Λ):Λ:=((W3 64).map λ(v:Nat)=>(v:Int)).filter λv=>decide (v∈l)
def bI(sizes scope:Λ):Λ:=scope.map λv=>sizes.getD v.toNat 0
def pb(scope a t:Λ):Λ:=scope.map λv=>t.getD (a.idxOf v) 0
abbrev cI:Type:=Λ×Λ
def hZ(sizes:Λ)(k:Int)(x:cw):cI:=(bo x.scope,(bj (bI sizes (bo x.scope))).map λt=>jM x k (pb x.scope (bo x.scope) t))
def ed(k:Int)(a b:Λ):Λ:=List.zipWith (λx y=>min (x+y) k) a b
def il(k:Int)(acc:List cI)(g:cI):List cI:=if g.1∈acc.map (·.1)then acc.map λh=>if h.1=g.1 then(h.1,ed k h.2 g.2)else h else acc++[g]
def jm:Λ->Int
 |[]=>0
 |x::l=>x*64 ^ l.length+jm l
def dc(l:Λ):Int:=l.length*64 ^ 6+jm l
def hz(g:cI):List cI->List cI
 |[]=>[g]
 |h::l=>if dc h.1<dc g.1 then h::hz g l else g::h::l
def fH(g:cI):Bool:=g.2.any λc=>decide (0<c)
def fq(f:ca):List cI:=(f.funs.map (hZ f.sizes f.k)).foldl (il f.k) []
def fI(f:ca):List cI:=((fq f).filter fH).foldl (λl g=>hz g l) []
structure aK where
 k:Int
 sizes:Λ
 zero:Int
 unary:List (Λ)
 funs:List cI
deriving DecidableEq
def cg(f:ca):aK:=(fI f).foldl (λn g=>match g.1 with
 |[]=>{n with zero:=g.2.getD 0 0}
 |[v]=>{n with unary:=n.unary.set v.toNat g.2}
 |_=>{n with funs:=n.funs++[g]}) ⟨f.k,f.sizes,0,f.sizes.map λz=>o4 z.toNat 0,[]⟩
abbrev iL:Type:=Rd (Λ)×Rd (List (Λ×Int))
def bG(g gs:Nat)(A:af):af:=λr=>r=g\/r=gs\/A r
def fJ(gs:Nat)(e big a f told:Int)(sv:x3):List x3:=[Γ gs,Δ e,Δ big,Δ a,Δ f,Δ told,sv]
def cF(g gs:Nat)(A:af)(B:af):af:=λr=>¬bG g gs A r/\B r
def k5(w:x4)(g gs:Nat)(A:af)(B:af):Prop:=g≠gs/\¬A g/\¬A gs/\(∀r,bG g gs A r->r<w.heap.size)/\∀r,B r->r<w.heap.size
def dk(w:x4)(g gs:Nat)(A:af)(B:af)(s:aE)(clean:Bool):Prop:=k5 w g gs A B/\hy w gs (cF g gs A B) s.toks clean/\(0<=s.told/\s.told<=av/\s.shared.length+s.toks.length<=100000)/\
 ∃big a e told sv,ad w g ci (fJ gs 0 big a e told sv)/\((s.big=true↔big≠0)/\(s.big=false->told=s.told))/\bl A (cF g gs A B) w [sv] (show List iL from s.shared)
def eF(w:x4)(g gs:Nat)(A:af)(B:af):Prop:=k5 w g gs A B/\∃(e big a f told:Int)(sv:x3)(l:List iL),ad w g ci (fJ gs e big a f told sv)/\(e≠0/\l.length<=100000)/\bl A (cF g gs A B) w [sv] l
theorem k5.aa{g:Nat}{A:af}{B:af}(h:k5 w g gs A B)(e:ae S w w'):k5 w' g gs A B:=by
 obtain⟨h1,f,j,p,q⟩:=h;exact⟨h1,f,j,λr a=>T5 (p r a) e.size,λr a=>T5 (q r a) e.size⟩
theorem Be{g:Nat}{A:af}{B:af}(a:∀r,A r->¬S r)(e:∀r,cF g gs A B r->¬S r):∀r,A r\/cF g gs A B r->¬S r:=λr h=>h.elim (a r) (e r)
theorem dk.aa{g:Nat}{A:af}{B:af}{s:aE}(h:dk w g gs A B s clean)(a:ae S w w')(e:∀r,bG g gs A r->¬S r)(f:∀r,cF g gs A B r->¬S r):dk w' g gs A B s clean:=by
 obtain⟨h1,j,p,big,q,x,told,sv,y,z,C⟩:=h;exact⟨h1.aa a,j.aa a (e gs (.inr (.inl rfl))) f,p,big,q,x,told,sv,y.aa a (e g (.inl rfl)),z,ak.aa C a λr _ h=>Be (λr E=>e r (.inr (.inr E))) f r h⟩
theorem eF.aa{g:Nat}{A:af}{B:af}(h:eF w g gs A B)(a:ae S w w')(f:∀r,bG g gs A r->¬S r)(j:∀r,cF g gs A B r->¬S r):eF w' g gs A B:=by
 obtain⟨h1,e,big,p,q,told,sv,l,s,x,y⟩:=h;exact⟨h1.aa a,e,big,p,q,told,sv,l,s.aa a (f g (.inl rfl)),x,ak.aa y a λr _ h=>Be (λr z=>f r (.inr (.inr z))) j r h⟩
theorem dk.ext{g:Nat}{A:af}{B:af}{s:aE}(h:dk w g gs A B s clean)(a:Ext w w'):dk w' g gs A B s clean:=h.aa (a.aa λ_=>False) (λ_ _ h=>h) (λ_ _ h=>h)
theorem eF.ext{g:Nat}{A:af}{B:af}(h:eF w g gs A B)(a:Ext w w'):eF w' g gs A B:=h.aa (a.aa λ_=>False) (λ_ _ h=>h) (λ_ _ h=>h)
def fX(w:x4)(g gs:Nat)(A:af)(B:af)(clean:Bool)(s':Option aE)(w':x4):Prop:=ae (bG g gs A) w w'/\match s' with
 |some s'=>dk w' g gs A B s' clean
 |none=>eF w' g gs A B
theorem vz{g:Nat}{e big a f told:Int}(h:ad w g ci (fJ gs e big a f told sv)):ai x8 kP [Γ g] w λv w'=>v= .bool (decide (e=0))/\Ext w w':=by
 refine ay func112 ?_;rw[bX,aS ci.p rfl,aS e5.p rfl,aF Ψ (h.cell (o:=0+1+0) rfl),bb];exact⟨rfl,Ext.refl _⟩
theorem pc{g:Nat}{A:af}{B:af}{s:aE}(h:dk w g gs A B s clean):ai x8 kP [Γ g] w λv w'=>v= .bool true/\Ext w w':=by
 obtain⟨_,_,_,big,e,f,told,sv,a,_⟩:=h;exact(vz a).mono λ_ _ _ h=>h
theorem nN{g:Nat}{A:af}{B:af}(h:eF w g gs A B):ai x8 kP [Γ g] w λv w'=>v= .bool false/\Ext w w':=by
 obtain⟨_,e,big,p,q,told,sv,l,a,f,_⟩:=h;refine(vz a).mono ?_;rintro _ J _ ⟨rfl,j⟩;exact⟨by rw[decide_eq_false f.1],j⟩
theorem ss{g:Nat}{A B:af}(h:A r\/cF g gs A B r)(a:¬A g):r≠g:=by
 rintro rfl;rcases h with h|h
 .exact a h
 .exact h.1 (.inl rfl)
theorem su{g:Nat}{A:af}{B:af}{big s a told e:Int}{l:List iL}(I:k5 w g gs A B)(x:ad w g ci (fJ gs 0 big s a told sv))(y:bl A (cF g gs A B) w [sv] l)(he:e≠0)(z:l.length<=100000):
  ai x8 nn [Γ g,Δ e,Δ at_] w λ_ w'=>ae (λr=>r=g) w w'/\eF w' g gs A B:=by
 refine ay func115 ?_;rw[bX,aS ci.p rfl,aS e5.p rfl,aF Ψ (x.cell (o:=0+1+0) rfl),bb,aj];refine⟨λ_=>?_,λh=>absurd rfl h⟩;rw[bX,aS ci.p rfl,aS e5.p rfl];refine bq (g:=g) (o:=1) jA.i rfl rfl x (by simp[fJ]) λJ C H f=>?_;have f:ad J g ci (fJ gs e big s a told sv):=f;rw[bX,aS ci.p rfl,aS e5.p rfl];refine bq (g:=g) (o:=3) ag.i rfl rfl f (by simp[fJ]) λU E K j=>?_;have j:ad U g ci (fJ gs e big at_ a told sv):=j;have q:=C.trans E;exact⟨q,I.aa q,e,big,at_,a,told,sv,l,j,⟨he,z⟩,ak.aa y q λr _ h G=>ss h I.2.1 G⟩
theorem sw{g:Nat}{A:af}{B:af}{s:aE}{e:Int}(h:dk w g gs A B s clean)(he:e≠0):ai x8 nn [Γ g,Δ e,Δ at_] w λ_ w'=>ae (λr=>r=g) w w'/\eF w' g gs A B:=by
 obtain⟨I,_,a,big,p,q,told,sv,f,_,j⟩:=h;exact su I f j he (by have:=a.2.2;show s.shared.length<=_;omega)
theorem Kt{g:Nat}{A:af}{B:af}{e:Int}(h:eF w g gs A B):ai x8 nn [Γ g,Δ e,Δ at_] w λ_ w'=>Ext w w':=by
 obtain⟨_,f,big,j,q,told,sv,l,h1,a,_⟩:=h;refine ay func115 ?_;rw[bX,aS ci.p rfl,aS e5.p rfl,aF Ψ (h1.cell (o:=0+1+0) rfl),bb,aj];exact⟨λh=>absurd h a.1,λ_=>Ext.refl _⟩
theorem sx{g:Nat}{A:af}{B:af}{s:aE}{b:Bool}(h:dk w g gs A B s clean):ai x8 pW [Γ g,.bool b,Δ at_] w λ_ w'=>ae (λr=>r=g) w w'/\dk w' g gs A B (ba b s) clean:=by
 obtain⟨I,z,C,big,e,E,told,sv,f,G,H⟩:=id h;refine ay func110 ?_;refine aW (λv J=>w=J/\v= .bool (b&&decide (big=0))) ?_ ?_
 rotate_left
 .intro aw q;cases b with
  |false=>rw[aY];exact q _ _ ⟨rfl,rfl⟩
  |true=>
   rw[bQ,bX,aS ci.p rfl,aS e5.p rfl,aF Ψ (f.cell (o:=0+1+1) rfl),bb,aj];refine⟨λa=>?_,λa=>q _ _ ⟨rfl,by rw[decide_eq_false a];rfl⟩⟩;rw[bX,aS ci.p rfl,aS e5.p rfl,aF Ψ (f.cell (o:=0+1+0) rfl),bb];exact q _ _ ⟨rfl,by rw[decide_eq_true a];rfl⟩
 rintro _ _ ⟨rfl,rfl⟩;rw[cj];refine⟨λK=>?_,λL=>?_⟩
 .obtain⟨rfl,a⟩:=Bool.and_eq_true_iff.1 K;rw[bX,aS ci.p rfl,aS e5.p rfl];refine bq (g:=g) (o:=2) jA.i rfl rfl f (by simp[fJ]) λJ M Q x=>?_;have x:ad J g ci (fJ gs 0 5 e E told sv):=x;rw[bX,aS ci.p rfl,aS e5.p rfl];refine bq (g:=g) (o:=4) ag.i rfl rfl x (by simp[fJ]) λU N R y=>?_;have y:ad U g ci (fJ gs 0 5 e at_ told sv):=y;have j:=M.trans N;exact⟨j,I.aa j,z.aa j (λhe=>I.1 he.symm) (λr O he=>O.1 (.inl he)),C,5,e,at_,told,sv,y,⟨⟨λ_=>Ω,λ_=>by simp[ba]⟩,λh=>by simp[ba]at h⟩,ak.aa H j λr _ h P=>ss h I.2.1 P⟩
 .refine⟨ae.refl _ _,I,z,C,big,e,E,told,sv,f,⟨?_,λh=>G.2 (by
   have h:(s.big||b)=false:=h;exact(U3.1 h).1)⟩,H⟩
  show(s.big||b)=true↔big≠0;cases b with
  |false=>rw[Bool.or_false];exact G.1
  |true=>
   have a:big≠0:=of_decide_eq_false (by simpa using L);simp[a]
theorem Bf{g:Nat}{A:af}{B:af}{b:Bool}(h:eF w g gs A B):ai x8 pW [Γ g,.bool b,Δ at_] w λ_ w'=>Ext w w':=by
 obtain⟨_,j,big,q,r,told,sv,l,h1,e,_⟩:=h;refine ay func110 ?_;refine aW (λv J=>w=J/\v= .bool false) ?_ ?_
 .rintro _ _ ⟨rfl,rfl⟩;rw[aY];exact Ext.refl _
 intro aw a;cases b with
 |false=>rw[aY];exact a _ _ ⟨rfl,rfl⟩
 |true=>
  rw[bQ,bX,aS ci.p rfl,aS e5.p rfl,aF Ψ (h1.cell (o:=0+1+1) rfl),bb,aj];refine⟨λf=>?_,λf=>a _ _ ⟨rfl,rfl⟩⟩;rw[bX,aS ci.p rfl,aS e5.p rfl,aF Ψ (h1.cell (o:=0+1+0) rfl),bb];exact a _ _ ⟨rfl,by rw[decide_eq_false e.1]⟩
theorem dk.scan{g:Nat}{A:af}{B:af}{s:aE}{l:List (Λ)}(h:dk w g gs A B s clean)(a:ae (λr=>r=gs) w w')(I:hy w' gs (cF g gs A B) l clean)(z:l.length<=s.toks.length):dk w' g gs A B {s with toks:=l} clean:=by
 obtain⟨h1,_,e,big,j,p,told,sv,q,x,y⟩:=h;refine⟨h1.aa a,I,⟨e.1,e.2.1,by have:=e.2.2;show s.shared.length+l.length<=100000;omega⟩,big,j,p,told,sv,q.aa a h1.1,x,ak.aa y a λr _ h f=>?_⟩;have f:r=gs:=f;subst f;rcases h with h|h
 .exact h1.2.2.1 h
 .exact h.1 (.inr (.inl rfl))
theorem Bg{g:Nat}{A:af}{B:af}{s:aE}(h:dk w g gs A B s clean):ai x8 y6 [Γ g] w λv w'=>fX w g gs A B clean ((dU s).map (·.2)) w'/\∃(t:Λ)(n:Int),v= .tuple #[bU t,Δ n]/\Bytes t/\t.length<=100000/\∀q,dU s=σ q->t=q.1:=by
 refine ay func109 ?_;refine(pc h).mono ?_;rintro _ J _ ⟨rfl,K⟩;rw[bJ,Y9,aY];have h1:=h.ext K;obtain⟨_,L,_,big,O,P,told,sv,z,_⟩:=id h1;have Q:=L.words.2;rw[aQ ci.p 0 z rfl];refine(qj L).mono ?_;rintro v U _ ⟨j,y⟩;have M:ae (bG g gs A) w U:=(K.aa _).trans (j.mono λr _ h=>.inr (.inl h));cases f:s.toks with
 |cons t l=>
  rw[f]at y;obtain⟨R,n,rfl⟩:=y;have S:=h1.scan j R (by rw[f];simp);have C:dU s=σ (t,{s with toks:=l}):=by unfold dU;rw[f]
  have N:=Q t (by rw[f];exact .head _);rw[gq,gu,gv];refine aW (λv E=>U=E/\v=Δ 0) ?_ ?_
  .rintro _ _ ⟨rfl,rfl⟩;refine dl (λx=>U=x) ?_ ?_
   .rintro _ rfl;rw[C];exact⟨⟨M,S⟩,t,n,rfl,N.1,N.2.2,λq G=>by cases G;rfl⟩
   .intro aw a;rw[bK,aj];exact⟨λh=>absurd rfl h,λ_=>a _ rfl⟩
  .intro aw a;rw[bb,aj];exact⟨λh=>Ω,λ_=>a _ _ ⟨rfl,rfl⟩⟩
 |nil=>
  rw[f]at y;obtain⟨n,rfl⟩:=y;have C:dU s=ν:=by unfold dU;rw[f]
  obtain⟨H,_,V,big,O,P,told,sv,z,ad,W⟩:=id h1;have X:=z.aa j H.1;have Y:=ak.aa W j λr _ h I=>by
   have I:r=gs:=I;subst I;rcases h with h|h
   .exact H.2.2.1 h
   .exact h.1 (.inr (.inl rfl))
  rw[gq,gu,gv];refine aW (λv E=>U=E/\∃e:Int,v=Δ e/\e≠0) ?_ ?_
  .rintro _ _ ⟨rfl,e,rfl,he⟩;refine dl (λx=>ae (λr=>r=g) U x/\eF x g gs A B) ?_ ?_
   .rintro x ⟨Z,ab⟩;rw[C];exact⟨⟨M.trans (Z.mono λr _ h=>.inl h),ab⟩,[],n,rfl,λb ac=>(by cases ac),Ξ,λq G=>by cases G⟩
   .intro aw a;rw[bK,aj];refine⟨λ_=>?_,λh=>absurd he h⟩;exact(su (H.aa j) X Y he (by have:=V.2.2;show s.shared.length<=_;omega)).mono λ_ w' _ h=>a _ h
  .intro aw a;rw[bb,aj];cases clean with
   |true=>exact⟨λ_=>a _ _ ⟨rfl,4,rfl,Ω⟩,λh=>absurd rfl h⟩
   |false=>exact⟨λh=>by simp at h,λ_=>a _ _ ⟨rfl,11,rfl,Ω⟩⟩
theorem Ku{g:Nat}{A:af}{B:af}(h:eF w g gs A B):ai x8 y6 [Γ g] w λv w'=>Ext w w'/\v= .tuple #[bU [],Δ 0]:=by
 refine ay func109 ?_;refine(nN h).mono ?_;rintro _ J _ ⟨rfl,a⟩;rw[bJ,X9,bQ];exact⟨a,rfl⟩
theorem vA{g:Nat}{A:af}{B:af}{s:aE}(h:dk w g gs A B s clean):ai x8 nl [Γ g,Δ lo,Δ hi] w λv w'=>fX w g gs A B clean ((bd lo hi s).map (·.2)) w'/\∃n at_:Int,v= .tuple #[Δ n,Δ at_]/\(∀q,bd lo hi s=σ q->n=q.1)/\(bd lo hi s=ν->n=0):=by
 refine ay func111 ?_;refine(Bg h).mono ?_;rintro _ J _ ⟨⟨y,f⟩,t,n,rfl,H,I,hw⟩;rw[bz,bA];cases j:dU s with
 |none=>
  have a:bd lo hi s=ν:=by unfold bd;rw[j]
  rw[j]at f;have f:eF J g gs A B:=f;refine(nN f).mono ?_;rintro _ U _ ⟨rfl,p⟩;rw[bJ,X9,bQ,a];exact⟨⟨y.trans (p.aa _),f.ext p⟩,0,n,rfl,λq h=>(by cases h),λ_=>rfl⟩
 |some q=>
  obtain⟨bn,s1⟩:=q;have:=hw _ j;subst this;rw[j]at f;have f:dk J g gs A B s1 clean:=f;refine(pc f).mono ?_;rintro _ U _ ⟨rfl,p⟩;rw[bJ,Y9,aY];refine(Kp H I).mono ?_;rintro _ z _ ⟨rfl,C⟩;have E:=(f.ext p).ext C;have G:ae (bG g gs A) w z:=(y.trans (p.aa _)).trans (C.aa _);obtain⟨m,e,K,hm⟩:∃m e:Int,km t= .tuple #[Δ m,Δ e]/\((gA t=σ m/\e=0)\/(gA t=ν/\e=4)):=by
   unfold km;cases O:gA t with
   |none=>exact⟨0,4,rfl,.inr ⟨rfl,rfl⟩⟩
   |some m=>exact⟨m,0,rfl,.inl ⟨rfl,rfl⟩⟩
  rw[K,bz,bA];refine aW (λv L=>z=L/\v= .bool (bd lo hi s).isNone) ?_ ?_
  .rintro _ _ ⟨rfl,rfl⟩;cases a:bd lo hi s with
   |none=>
    rw[Option.isNone_none,bQ];refine(sw E Ω).mono ?_;rintro _ P _ ⟨M,N⟩;exact⟨⟨G.trans (M.mono λr _ h=>.inl h),N⟩,0,n,rfl,λq h=>(by cases h),λ_=>rfl⟩
   |some q=>
    rw[Z6,aY];unfold bd at a;rw[j]at a;simp only at a;rcases hm with⟨hm,_⟩|⟨hm,_⟩
    .rw[hm]at a;simp only at a;split at a
     .cases a;exact⟨⟨G,E⟩,m,n,rfl,λq h=>(by cases h;rfl),λh=>(by cases h)⟩
     .cases a
    .rw[hm]at a;cases a
  .intro aw x;have a:bd lo hi s=match gA t with
     |none=>ν
     |some n=>if lo<=n/\n<=hi then σ (n,s1)else ν:=by
    unfold bd;rw[j];simp only;cases gA t<;>rfl
   rw[bK,aj];rcases hm with⟨hm,rfl⟩|⟨hm,rfl⟩
   .rw[hm]at a;simp only at a;refine⟨λh=>absurd rfl h,λ_=>?_⟩;rw[aR,aj];refine⟨λh=>x _ _ ⟨rfl,by rw[a,if_neg Ω];rfl⟩,λh=>?_⟩;rw[bS];refine x _ _ ⟨rfl,?_⟩;rw[a];by_cases ap:hi<m
    .rw[decide_eq_true ap,if_neg Ω];rfl
    .rw[decide_eq_false ap,if_pos Ω];rfl
   .rw[hm]at a;exact⟨λ_=>x _ _ ⟨rfl,by rw[a];rfl⟩,λh=>absurd (by omega:(4:Int)≠0) h⟩
theorem Kv{g:Nat}{A:af}{B:af}(h:eF w g gs A B):ai x8 nl [Γ g,Δ lo,Δ hi] w λv w'=>Ext w w'/\v= .tuple #[Δ 0,Δ 0]:=by
 refine ay func111 ?_;refine(Ku h).mono ?_;rintro _ J _ ⟨a,rfl⟩;rw[bz,bA];refine(nN (h.ext a)).mono ?_;rintro _ U _ ⟨rfl,e⟩;rw[bJ,X9,bQ];exact⟨a.trans e,rfl⟩
theorem Kw{x:Int}(h:aH .i64 w sv l):ai x8 IG [sv,Δ x] w λv w'=>Ext w w'/\∃r:Int,v=Δ r/\(0<=r↔x∈l):=by
 refine ay func251 ?_;rw[aV au.u h];refine b3.range l.length (λi _ J=>Ext w J/\x∉l.take i) h.le ⟨Ext.refl _,Ξ⟩ ?_ ?_
 .rintro i _ J k hi ⟨a,e⟩ hk;refine bD Ω ?_;obtain⟨y,f⟩:=aD (l:=l) hi;rw[bc au.u ao.i Ψ (h.ext a) f,bb,aj];refine⟨λhe=>⟨a,i,rfl,⟨λ_=>he▸x6 f,λ_=>Ω⟩⟩,λhe=>?_⟩;rw[aM];refine hk _ _ ⟨a,λhm=>?_⟩;rw[r8,f]at hm;rcases l9.1 hm with hm|hm
  .exact e hm
  .simp at hm;exact he hm
 .rintro _ J k ⟨a,e⟩;rw[o6]at e;rw[aR,aj];exact⟨λh=>Ω,λ_=>⟨a,-1,rfl,⟨λh=>Ω,λh=>absurd h e⟩⟩⟩
theorem Kx{x:Int}(h:aH .i64 w sv l):ai x8 Ij [sv,Δ x] w λv w'=>v= .bool (decide (x∈l))/\Ext w w':=by
 refine ay func211 ?_;refine(Kw h).mono ?_;rintro _ J _ ⟨a,r,rfl,e⟩;rw[cQ];exact⟨by congr 1;rw[V7,decide_eq_true_eq,decide_eq_true_eq];exact e,a⟩
theorem sy:∀{l:Λ},(∀z∈l,1<=z)->∀i,aN ((l.take i).map λk=>min k 4097)<=aN (l.map λk=>min k 4097)/\1<=aN ((l.take i).map λk=>min k 4097)
 |[],_,i=>by simp[aN]
 |z::l,h,0=>by
  have a:=sy (l:=l) (λx e=>h x (.tail _ e)) l.length;rw[o6]at a;have f:=h z (.head _);simp only[List.take_zero,List.map_nil,T1,aN];have:=Int.mul_le_mul_of_nonneg_left a.2 (show 0<=min z 4097 by omega);omega
 |z::l,h,i+1=>by
  have a:=sy (l:=l) (λx e=>h x (.tail _ e)) i;have f:=h z (.head _);simp only[List.take_succ_cons,T1,aN];have h1:=Int.mul_le_mul_of_nonneg_left a.1 (show 0<=min z 4097 by omega);have j:=Int.mul_le_mul_of_nonneg_left a.2 (show 0<=min z 4097 by omega);exact⟨h1,Ω⟩
theorem Bh(l:Λ)(x:Int):aN (l++[x])=aN l*x:=by
 induction l with
 |nil=>simp[aN]
 |cons a l e=>rw[List.cons_append,aN,e,aN,Int.mul_assoc]
theorem Bi(h:aH .i64 w sv l)(h1:∀z∈l,1<=z):ai x8 HM [sv] w λv w'=>v= .bool (dt l)/\Ext w w':=by
 refine ay func166 ?_;rw[aV au.u h];refine mm.range l.length (λi _ n J=>Ext w J/\n=Δ (aN ((l.take i).map λk=>min k 4097))/\aN ((l.take i).map λk=>min k 4097)<=4096) h.le ⟨Ext.refl _,by simp[aN],by simp[aN]⟩ ?_ ?_
 .rintro i _ _ J p hi ⟨a,rfl,f⟩ q;refine bD Ω ?_;obtain⟨z,j⟩:=aD (l:=l) hi;have s:=h1 z (x6 j);have x:=sy h1 i;have y:=sy h1 (i+1);have e:aN ((l.take (i+1)).map λk=>min k 4097)=aN ((l.take i).map λk=>min k 4097)*min z 4097:=by
   rw[r8,j,l7,Z2,T1,List.map_nil,Bh]
  rw[bc au.u ao.i Ψ (h.ext a) j,kU,gp,<-e];have A:aN ((l.take (i+1)).map λk=>min k 4097)<=4096*4097:=by
   rw[e];have B:=Int.mul_le_mul_of_nonneg_right f (show 0<=min z 4097 by omega);have C:=Int.mul_le_mul_of_nonneg_left (show min z 4097<=4097 by omega) (show(0:Int)<=4096 by omega);omega
  rw[wrap_i64 Ω Ω,bS,aj];refine⟨λr=>⟨?_,a⟩,λr=>?_⟩
  .unfold dt;rw[decide_eq_true];omega
  .rw[aM];exact q _ _ _ ⟨a,rfl,Ω⟩
 .rintro _ _ J p ⟨a,rfl,f⟩;rw[o6]at f;rw[aR,aj];refine⟨λh=>Ω,λ_=>⟨?_,a⟩⟩;unfold dt;rw[decide_eq_false];omega
def kp(n:Int)(acc:Λ)(s:aE):Option (Int×aE):=match bd 0 (n-1) s with
 |none=>ν
 |some (v,s)=>if v∈acc then ν else σ (v,s)
theorem pd{α:Type}{f:List α->aE->Option (α×aE)}{acc:List α}{s:aE}(h:f acc s=ν):cM f (n+1) acc s=ν:=by
 simp only[cM,h]
theorem sz{α:Type}{f:List α->aE->Option (α×aE)}{acc:List α}{s s':aE}{a:α}(h:f acc s=σ (a,s')):cM f (n+1) acc s=cM f n (acc++[a]) s':=by
 simp only[cM,h]
theorem dk.ql{g:Nat}{A:af}{B:af}{s:aE}(h:dk w g gs A B s clean):(∀r,bG g gs A r->r<w.heap.size)/\(∀r,B r->r<w.heap.size):=⟨h.1.2.2.2.1,h.1.2.2.2.2⟩
theorem Ky{g k:Nat}{A B:af}{s:aE}{m:Int}(h:dk w g gs A B s clean)(hk:k<=4611686018427387904)(hm:0<=m/\m<=1000000):
  ai x8 zf [Γ g,Δ (k:Int),Δ m] w λv w'=>fX w g gs A B clean ((e8 m k s).map (·.2)) w'/\
   ∃gr l,aq .i64 ao w' gr v l/\(∀r,leads v r->w.heap.size<=r)/\l.length<=100001/\∀q,e8 m k s=σ q->l=q.1:=by
 obtain⟨ab,az⟩:=h.ql;have aA:=h.2.1.words.1;refine ay func165 ?_;refine⟨λout Q J=>∃i:Nat,Q=Δ (i:Int)/\i<=k/\ae (bG g gs A) w J/\∃gr l,aq .i64 ao J gr out l/\w.heap.size<=gr/\l.length<=100001/\
  ((∃st,dk J g gs A B st clean/\cM (kp m) (k-i) l st=e8 m k s/\l.length+st.toks.length<=100000)\/(eF J g gs A B/\e8 m k s=ν)),λ_ Q _=>k-(b0 Q).toNat,
  ⟨0,rfl,X5 _,ae.refl _ _,w.heap.size,[],aq.nil _ _ _ _,o5 _,Ξ,.inl ⟨s,h,rfl,by simpa using aA⟩⟩,?_⟩
 rintro out _ J ⟨i,rfl,aB,ac,gr,l,ad,ba,bb,ag⟩;have s1:=ac.size;have R:∀r,leads out r->w.heap.size<=r:=λr y=>by have:=bR ad y;omega
 refine aW (λv U=>Ext J U/\((v= .bool true/\i<k/\∃st,dk U g gs A B st clean/\cM (kp m) (k-i) l st=e8 m k s/\l.length+st.toks.length<=100000)\/
  (v= .bool false/\((∃st,dk U g gs A B st clean/\e8 m k s=σ (l,st))\/(eF U g gs A B/\e8 m k s=ν))))) ?_ ?_
 rotate_left
 .intro aw K;rw[aR,aj];refine⟨λbc=>?_,λbe=>?_⟩
  .rcases ag with⟨st,z,x,S⟩|⟨E,V⟩
   .refine (pc z).mono ?_;rintro _ U _ ⟨rfl,C⟩;exact K _ _ ⟨C,.inl ⟨rfl,Ω,st,z.ext C,x,S⟩⟩
   .refine (nN E).mono ?_;rintro _ U _ ⟨rfl,C⟩;exact K _ _ ⟨C,.inr ⟨rfl,.inr ⟨E.ext C,V⟩⟩⟩
  .have aC:k-i=0:=Ω
   rcases ag with⟨st,z,x,S⟩|aD
   .rw[aC]at x;exact K _ _ ⟨Ext.refl _,.inr ⟨rfl,.inl ⟨st,z,x.symm⟩⟩⟩
   .exact K _ _ ⟨Ext.refl _,.inr ⟨rfl,.inr aD⟩⟩
 rintro _ U ⟨C,aF⟩;have W:ae (bG g gs A) w U:=ac.trans (C.aa _);have L:=ad.ext C;rcases aF with⟨rfl,aB,st,z,x,S⟩|⟨rfl,aG⟩
 rotate_left
 .rw[aY];rcases aG with⟨st,z,H⟩|⟨E,H⟩
  .rw[H];exact⟨⟨W,z⟩,gr,l,L,R,Ω,λq f=>by cases f;rfl⟩
  .rw[H];exact⟨⟨W,E⟩,gr,l,L,R,Ω,λq f=>by cases f⟩
 rw[bQ,ec,wrap_i64 Ω Ω];have aH:k-i=(k-(i+1))+1:=Ω
 rw[aH]at x;refine(vA z).mono ?_;rintro _ M _ ⟨⟨N,O⟩,n,at_,rfl,aI,bf⟩;rw[bz,bA];have ah:∀r,leads out r->¬bG g gs A r:=λr y aJ=>by have:=ab r aJ;have:=R r y;omega
 have bg:∀r,g=r->bG g gs A r:=λr h=>.inl h.symm;refine dl (λe=>ae (bG g gs A) U e/\((∃p,dk e g gs A B p clean/\cM (kp m) (k-(i+1)) (l++[n]) p=e8 m k s/\l.length+1+p.toks.length<=100000)\/(eF e g gs A B/\e8 m k s=ν))/\l.length+1<=100001) ?_ ?_
 .rintro e ⟨ak,aK,al⟩;have aL:=br L ak ah;have am:=W.trans ak;have bh:=am.size;refine eM au.u ao.i rfl λa ga an bi G aN=>?_;refine jg au.u ao.i rfl (aL.ext G) aN.ls Θ Θ λaO aP aQ bj aS X=>?_;have bk:=G.size;rw[aM,wrap_i64 Ω Ω];have aT:ae (bG g gs A) w aQ:=hx (am.trans (G.aa _)) X λr y he=>by have he:r=gr:=he;omega
  have ap:∀r,bG g gs A r->¬(λr=>r=gr) r:=λr y he=>by have:=ab r y;have he:r=gr:=he;omega
  have av:∀r,cF g gs A B r->¬(λr=>r=gr) r:=λr y he=>by have:=az r y.2;have he:r=gr:=he;omega
  refine⟨⟨i+1,rfl,Ω,aT,aP,l++[n],aS,Ω,Θ,?_⟩,by simp only[b0];omega⟩;rcases aK with⟨p,P,aU,bl⟩|⟨aV,V⟩
  .exact .inl ⟨p,(P.ext G).aa X ap av,aU,Θ⟩
  .exact .inr ⟨(aV.ext G).aa X ap av,V⟩
 .intro bm Y;cases f:bd 0 (m-1) st with
  |none=>
   rw[f]at O;have E:eF M g gs A B:=O;have I:kp m l st=ν:=by unfold kp;rw[f]
   have H:e8 m k s=ν:=by rw[<-x];exact pd I
   refine aW (λv e=>Ext M e/\v= .bool false) ?_ ?_
   rotate_left
   .intro aX Z;refine(nN E).mono ?_;rintro _ e _ ⟨rfl,j⟩;rw[aY];exact Z _ _ ⟨j,rfl⟩
   rintro _ e ⟨j,rfl⟩;rw[aY];exact Y _ ⟨N.trans (j.aa _),.inr ⟨E.ext j,H⟩,Ω⟩
  |some q=>
   obtain⟨aO,p⟩:=q;have aZ:=aI _ f;subst aZ;rw[f]at O;have ax:dk M g gs A B p clean:=O;have a1:=dK f;have al:l.length+1+p.toks.length<=100000:=by have:=a1.1;omega
   refine aW (λv e=>Ext M e/\v= .bool (decide (n∈l))) ?_ ?_
   rotate_left
   .intro aX Z;refine(pc ax).mono ?_;rintro _ e _ ⟨rfl,j⟩;rw[bQ];refine(Kx ((br L N ah).ext j).ls).mono ?_;rintro _ an _ ⟨rfl,G⟩;exact Z _ _ ⟨j.trans G,rfl⟩
   rintro _ e ⟨j,rfl⟩;have P:=ax.ext j;rw[aj];refine⟨λa2=>?_,λa6=>?_⟩
   .have I:kp m l st=ν:=by unfold kp;rw[f];simp only;rw[if_pos a2]
    refine(sw P Ω).mono ?_;rintro _ an _ ⟨a7,a8⟩;exact Y _ ⟨(N.trans (j.aa _)).trans (a7.mono λr _ h=>.inl h),.inr ⟨a8,by rw[<-x];exact pd I⟩,Ω⟩
   .have I:kp m l st=σ (n,p):=by unfold kp;rw[f];simp only;rw[if_neg a6]
    exact Y _ ⟨N.trans (j.aa _),.inl ⟨p,P,by rw[<-x];exact(sz I).symm,al⟩,Ω⟩
theorem l2{a b:Int}(e:0<=a/\a<=4294967296)(f:0<=b/\b<=4294967296):ai x8 Gq [Δ a,Δ b,Δ k] w λv w'=>v=Δ (min (a+b) k)/\Ext w w':=by
 refine ay func32 ?_;simp only[aM,bS,aj];rw[wrap_i64 Ω Ω];exact⟨λh=>⟨by rw[Int.min_eq_right Ω],Ext.refl _⟩,λh=>⟨by rw[Int.min_eq_left Ω],Ext.refl _⟩⟩
def qm(a b k:Int):x3:=if cz a k/\cz b k then .tuple #[Δ (min (a+b) k),Δ 0]else .tuple #[Δ 0,Δ 3]
theorem Bj{a b:Int}:ai x8 ze [Δ a,Δ b,Δ k] w λv w'=>v=qm a b k/\Ext w w':=by
 refine ay func160 ?_;refine aW (λv J=>Ext w J/\v= .bool (decide (¬(cz a k/\cz b k)))) ?_ ?_
 .rintro _ J ⟨e,rfl⟩;simp only[aj,aM,kU];refine⟨λh=>⟨by unfold qm;rw[if_neg h],e⟩,λh=>?_⟩;have h:=X2.1 h;obtain⟨⟨h1,r⟩,s,x⟩:=id h;have:=h1.2;rw[wrap_i64 Ω Ω];exact⟨by unfold qm;rw[if_pos h],e⟩
 .intro aw f;refine jI.mono ?_;rintro _ U _ ⟨rfl,j⟩;simp only[bJ,cj];refine⟨λh=>f _ _ ⟨j,?_⟩,λh=>?_⟩
  .have:¬cz a k:=by simpa using h
   rw[decide_eq_true];exact λh=>this h.1
  .have p:cz a k:=by simpa using h
   refine jI.mono ?_;rintro _ y _ ⟨rfl,q⟩;simp only[bJ];exact f _ _ ⟨j.trans q,by simp[p]⟩
theorem Kz(h:aH .i64 w sv l)(f:l≠[]):
  ai x8 IP [sv] w λv w'=>v=Δ (vr l)/\Ext w w':=by
 obtain⟨x,l,rfl⟩:∃x r,l=x::r:=by cases l with
  |nil=>exact absurd rfl f
  |cons x r=>exact⟨x,r,rfl⟩
 have j:=h.le;refine ay func271 ?_;refine dl (λJ=>w=J) ?_ ?_
 .rintro _ rfl;rw[fF (y:=0) (i:=0) rfl au.u ao.i Ψ h (by rfl)];refine⟨λm i U=>Ext w U/\∃k:Nat,i=Δ (k+1:Nat)/\k<=l.length/\m=Δ ((l.take k).foldl min x),λ_ i _=>l.length+1-(b0 i).toNat,⟨Ext.refl _,0,rfl,X5 _,rfl⟩,?_⟩;rintro _ _ U ⟨a,k,rfl,hk,rfl⟩;rw[aV au.u (h.ext a)];simp only[Z5,aR,aj]at j ⊢;refine⟨λq=>?_,λs=>⟨?_,a⟩⟩
  .obtain⟨y,e⟩:=aD (l:=l) (i:=k) Ω;rw[bc au.u ao.i Ψ (h.ext a) (show(x::l)[k+1]?=σ y from e),kU];simp only[aM];rw[wrap_i64 Ω Ω];refine⟨⟨a,k+1,by congr 1,Ω,?_⟩,?_⟩
   .rw[r8,e,R5];rfl
   .simp only[b0];omega
  .have:k=l.length:=Ω
   subst this;rw[o6];rfl
 .intro aw p;rw[aV au.u h];simp only[aR,aj];exact⟨λh=>by simp at h;omega,λ_=>p _ rfl⟩
theorem Bk{g:Nat}{cs:Λ}(h:df w g a sv ah k cs):ai x8 uU [Γ g] w λv w'=>v=Δ k/\Ext w w':=by
 obtain⟨⟨aZ,gs,e,hm,f⟩,_⟩:=h;refine ay func237 ?_;rw[da e0.u];simp only[Z6,aY];rw[aQ cX.p 1 e rfl];exact⟨rfl,Ext.refl _⟩
theorem mG{g e:Nat}{cs:Λ}(h:df w g e sv ah k cs):
  ai x8 Hi [Γ g] w λv w'=>Ext w w'/\∃a,w.heap.size<=a/\aq .i64 ao w' a v cs:=by
 obtain⟨⟨aZ,gs,f,hm,j⟩,⟨_,_,q⟩,I,r⟩:=h;refine ay func126 ?_;rw[da e0.u];simp only[Z6,aY];rw[aQ cX.p 2 f rfl];exact u3 j.ls Ω
theorem pe{g f:Nat}{cs:Λ}(h:df w g f sv ah k cs):
  ai x8 H7 [Γ g] w λv w'=>v= .agg #[sv]/\Ext w w':=by
 obtain⟨⟨aZ,gs,q,hm,A⟩,_⟩:=h;have s:=hm.ls.cells;refine ay func196 ?_;refine bw bE.i λB J C e x=>?_;rw[da e0.u];simp only[Z6,aY];rw[bX,aS cX.p rfl,bF (cs:=[sv]) bE.p bE.i rfl (nD (q.ext e) (by
  intro j v a
  match j,a with
  |0,a=>exact a))]
 refine bT (vs:=[sv]) bE.i rfl rfl (by intro u hu;simp at hu;subst hu;exact s.2) x λE y G z=>?_;rw[e6 bE.p bE.i rfl z.range];exact⟨rfl,e.then y (by rintro r H rfl;omega)⟩
theorem Bl(h:aH .i64 w sv ah)(q:ah.length<=1000):ai x8 zr [.agg #[sv]] w λv w'=>Ext w w'/\∃a,w.heap.size<=a/\aq .i64 ag w' a v ah:=by
 refine ay func236 ?_;refine bk λg J r e f=>?_;rw[aG bE.p 0 f rfl];refine(jJ (h.ext e) Ω).mono ?_;rintro v U _ ⟨j,a,s,hm⟩;have s1:=e.size;exact⟨e.trans j,a,Ω,hm⟩
theorem Bm(h:aH .i64 w sv ah):ai x8 IK [.agg #[sv]] w λv w'=>v=Δ ah.length/\Ext w w':=by
 refine ay func258 ?_;refine bk λg J f a e=>?_;rw[aG bE.p 0 e rfl,aV an.u (h.ext a)];exact⟨rfl,a⟩
def h0(ah:Λ)(i:Int):Int:=if 0<=i then ah.getD i.toNat 0 else 0
theorem qn{i:Int}(h:aH .i64 w sv ah):ai x8 IL [.agg #[sv],Δ i] w λv w'=>v=Δ (h0 ah i)/\Ext w w':=by
 refine ay func259 ?_;refine bk λg J r a e=>?_;refine aW (λv U=>v= .bool (decide (i<0\/(ah.length:Int)<=i))/\J=U) ?_ ?_
 .rintro _ _ ⟨rfl,rfl⟩;simp only[aj];refine⟨λh=>⟨?_,a⟩,λq=>?_⟩
  .unfold h0;split
   .rw[u4,Y4 Ω];rfl
   .rfl
  .rw[aG bE.p 0 e rfl];obtain⟨n,rfl⟩:∃n:Nat,i=n:=⟨i.toNat,Ω⟩;have f:n<ah.length:=Ω
   rw[bc an.u ag.i Ψ (h.ext a) (x7 f)];refine⟨?_,a⟩;unfold h0;rw[if_pos Ω,u4,u9,x7 f];rfl
 .intro aw j;simp only[aR,aj];refine⟨λh=>j _ _ ⟨by rw[decide_eq_true];omega,rfl⟩,λq=>?_⟩;rw[aG bE.p 0 e rfl,aV an.u (h.ext a)];simp only[cQ];exact j _ _ ⟨by congr 1;simp;omega,rfl⟩
theorem vB{g B0:Nat}(I:cd ah):
  oC x8 lL [Γ g] (aN ah).toNat (λk vs w=>∃aO gt,vs=[Δ (k:Int),aO]/\B0<=gt/\aq .i64 ag w gt aO (cR ah k))
   (λw=>ad w g bE [sv]/\aH .i64 w sv ah/\B0<=w.heap.size):=by
 refine⟨lL.enters,λl aw Q w r _ z ⟨s,x,A⟩ B=>?_⟩;have R:=prod_bound I;refine p1 func94 ?_;rw[bF bE.p bE.i rfl s.range];refine(oQ x I).free.mono ?_;rintro _ J ⟨C,rfl,a⟩;refine b1.range (aN ah).toNat (λi U=>aw i U/\ad U g bE [sv]/\aH .i64 U sv ah/\B0<=U.heap.size) Ω ⟨r 0 _ _ a C.b B,s.ext a,x.ext a,X0 A a.size⟩ ?_ ?_
 .rintro i U k hi ⟨f,j,q,y⟩ hk;simp only[aR,aj];refine⟨λ_=>?_,λh=>Ω⟩;rw[bF bE.p bE.i rfl j.range];refine(Jl q I Ω Ω).free.mono ?_;rintro _ E ⟨G,e,aO,gt,rfl,H,K⟩;rw[bz,bA];refine⟨rfl,(z i _ E hi ⟨j.ext e,q.ext e,X0 y e.size⟩ ⟨aO,gt,rfl,X0 y H,K⟩ (r _ _ _ e G.b f)).mono ?_⟩;rintro _ S (⟨rfl,⟨L,M,N⟩,O⟩|⟨rfl,P⟩)
  .simp only[bJ,Y9,aY,aM];exact hk _ ⟨O.1,L,M,N⟩
  .simp only[bJ,X9,bQ];exact .inr ⟨i,hi,P⟩
 .rintro U k ⟨f,j,q,_⟩;simp only[aR,aj];exact⟨λh=>Ω,λ_=>.inl f⟩
theorem vC:ai x8 Gz [.agg #[sv]] w λr w'=>Ext w w'/\∃g,r= .func (.func lL) #[] #[Γ g]/\w.heap.size<=g/\ad w' g bE [sv]:=by
 refine ay func51 ?_;refine bk λg J f a e=>?_;rw[kV];exact⟨a,g,rfl,Ω,e⟩
end Go.Proofs.YtikkpokkcdocoaaGreatDoor
namespace Go.Vc
open Go Go.RowKit
set_option maxRecDepth 100000
section
variable{P:W9}{w:x4}
theorem aC.cu{α:Type}{s:Sem α}{K:α->x4->Prop}(h:aC P s w λv w'=>cJ w w'->K v w'):aC P s w K:=by
 obtain⟨v,w',h1,a,e⟩:=h;exact⟨v,w',h1,a,e a⟩
structure Keys(P:W9)(k:r9)(G:x3->Prop):Prop where
 check:∀(w:x4)(em:Bool){v:x3},G v->(Instr.checkKey em 10000 k v).run P w= .ok () w
 find:∀(w:x4){x:x3},G x->∀es:List MapEntry,(∀e∈es,G e.key)->
  ((Instr.findKey k x es).run P w= .ok ν w/\∀e∈es,e.key≠x)\/∃j e,(Instr.findKey k x es).run P w= .ok (σ (j,e.val)) w/\es[j]?=σ e/\e.key=x
 stays:∀(w:x4){v:x3},G v->(Instr.keyThatStays v v).run P w= .ok v w
theorem Keys.law{k:r9}(K:WideMaps.KeyLaw P k):Keys P k λv=>∃l,keyOf P k v=σ l:=
 ⟨λw a _ ⟨_,h⟩=>K.check w a h,λw _ ⟨_,h⟩ e f=>K.find w h e f,λw _ ⟨_,h⟩=>K.stays w h⟩
theorem Keys.int{k:r9}{a:o9}(hk:P.underlying k=σ (.int a)):Keys P k λv=>∃n,v= .int a n:=by
 have key:∀n,MapKept.IsKey (.int a) (.int a n):=λn=>rfl;refine⟨λw p v ⟨n,h⟩=>?_,λw x ⟨n,h⟩ q r=>?_,λw v ⟨n,h⟩=>?_⟩
 .subst h;exact MapKept.run_checkKey hk (key n) p 9999
 .subst h;rcases MapKept.findNow_spec (key n) q 0 (λe he=>by obtain⟨m,h⟩:=r e he;rw[h];exact key m)with⟨h1,f⟩|⟨j,e,h1,f,s⟩
  .exact .inl ⟨MapKept.run_findKey hk h1,f⟩
  .exact .inr ⟨j,e,by have:=MapKept.run_findKey (P:=P) (w:=w) hk h1;simpa using this,f,s⟩
 .subst h;exact MapKept.run_keyThatStays (d:=.int a) (key n)
def gM(e:MapEntry):x3×x3:=(e.key,e.val)
def c7(w:x4)(m:Nat)(d:List (x3×x3)):Prop:=∃a e,w.heap[m]?=σ (.map a e)/\MapKept.Stamped a e/\a.toList.map gM=d
theorem c7.ext{m:Nat}{d:List (x3×x3)}(h:c7 w m d)(a:Ext w w'):c7 w' m d:=by
 obtain⟨e,c,h1,f⟩:=h;exact⟨e,c,a.aU m _ h1 rfl,f⟩
theorem c7.aa{m:Nat}{d:List (x3×x3)}(h:c7 w m d)(a:ae S w w')(e:¬S m):c7 w' m d:=by
 obtain⟨f,c,h1,j⟩:=h;exact⟨f,c,a.aU m _ h1 rfl e,j⟩
theorem c7.lt{m:Nat}{d:List (x3×x3)}(h:c7 w m d):m<w.heap.size:=by
 obtain⟨a,c,h1,e⟩:=h;exact(j6.1 h1).1
theorem c7.nodup{m:Nat}{d:List (x3×x3)}(h:c7 w m d):(d.map (·.1)).Nodup:=by
 obtain⟨e,c,_,⟨_,_,a⟩,rfl⟩:=h;rw[R2];exact a
theorem kq{α:Type}{l:List α}(h:l.Nodup){i:Nat}{x:α}(hi:l[i]?=σ x)(q:l[j]?=σ x):i=j:=by
 have a:=x5.1 hi;have e:=x5.1 q;have p:=V6.1 h;rcases Nat.lt_trichotomy i j with f|rfl|f
 .exact absurd (a.2.trans e.2.symm) (p i j a.1 e.1 f)
 .rfl
 .exact absurd (e.2.trans a.2.symm) (p j i e.1 a.1 f)
theorem mH{α β:Type}(f:α->β):∀(l:List α)(i:Nat),(l.map f).eraseIdx i=(l.eraseIdx i).map f
 |[],_=>Ξ
 |_::_,0=>rfl
 |x::l,i+1=>by simp[mH f l i]
theorem c7.uniq{m:Nat}{d:List (x3×x3)}(h:c7 w m d){i:Nat}{p q:x3×x3}(hi:d[i]?=σ p)(a:d[j]?=σ q)(he:p.1=q.1):i=j:=by
 have e:=h.nodup;have h1:(d.map (·.1))[i]?=σ p.1:=by rw[v8,hi];rfl
 have f:(d.map (·.1))[j]?=σ p.1:=by rw[v8,a,he];rfl
 exact kq e h1 f
theorem sA{m:Nat}{q:Array MapEntry}{c:Nat}(h:w.heap[m]?=σ (.map q c))(a:Array MapEntry)(e:Nat):
  ae (λr=>r=m) w {w with heap:=w.heap.setIfInBounds m (.map a e)}/\cJ w {w with heap:=w.heap.setIfInBounds m (.map a e)}/\({w with heap:=w.heap.setIfInBounds m (.map a e)}:x4).heap[m]?=σ (.map a e):=by
 have I:=MapKept.heap_set (o':=.map a e) h;refine⟨⟨Ξ,λr o f j s=>?_⟩,⟨rfl,.kb,rfl,Ξ,λr o f j=>?_⟩,I.1⟩
 .show (w.heap.setIfInBounds m _)[r]?=σ o;rw[I.2 r s];exact f
 .show (w.heap.setIfInBounds m _)[r]?=σ o;by_cases p:r=m
  .subst p;rw[h]at f;cases f;cases j
  .rw[I.2 r p];exact f
theorem sB{K:x3->x4->Prop}(h:∀m w',m=w.heap.size->Ext w w'->c7 w' m []->K (.map (σ m)) w'):aC P (Instr.makeMap t ν) w K:=by
 refine .of (run_makeMap t w) (oF w _) (h _ _ rfl (oE w _) ⟨#[],0,?_,MapKept.stamped_empty 0,rfl⟩);exact heap_alloc_new w _
variable{k e:r9}{G:x3->Prop}
theorem qo{c:Bool}{m:Nat}{d:List (x3×x3)}{x:x3}(y:P.underlying t=σ (.map k e))(hk:Keys P k G)(hm:c7 w m d)(z:∀p∈d,G p.1)(q:G x)(a:d[j]?=σ (x,v)):
  V P (Instr.lookup t (.map (σ m)) x c) w K=K (if c then .tuple #[v,.bool true]else v):=V.of λw' A=>by
 obtain⟨f,B,r,C,rfl⟩:=hm.ext A;have E:∀e∈f.toList,G e.key:=λe he=>z (gM e) (j0.2 ⟨e,he,rfl⟩);rcases hk.find w' q f.toList E with⟨_,h⟩|⟨i,s,h1,h,F⟩
 .rw[v8]at a;obtain⟨H,I,J⟩:=Y6.1 a;exact absurd (congrArg Prod.fst J) (h H (x6 I))
 .have L:s.val=v:=by
   have hi:(f.toList.map gM)[i]?=σ (gM s):=by rw[v8,h];rfl
   have M:c7 w' m (f.toList.map gM):=⟨f,B,r,C,rfl⟩;have:=M.uniq hi a F;subst this;rw[hi]at a;exact congrArg Prod.snd (Z0 a)
  simp only[Instr.lookup,W6,run_underlying y,W8,MapKept.run_getObj_map r,V3,hk.check w' _ q,h1,L]
theorem sC{c:Bool}{m:Nat}{d:List (x3×x3)}{x:x3}(r:P.underlying t=σ (.map k e))(hk:Keys P k G)(a:∃s b,aP P e s b z)(hm:c7 w m d)(y:∀p∈d,G p.1)(f:G x)(A:∀p∈d,p.1≠x):
  V P (Instr.lookup t (.map (σ m)) x c) w K=K (if c then .tuple #[z,.bool false]else z):=V.of λw' B=>by
 obtain⟨h,I,C,J,rfl⟩:=hm.ext B;have E:∀e∈h.toList,G e.key:=λe he=>y (gM e) (j0.2 ⟨e,he,rfl⟩);have F:(zeroValue e).run P w'= .ok z w':=by
  obtain⟨s,b,i,hi,_,_,a⟩:=a;simp[zeroValue,typeInfo,hi,a]
 rcases hk.find w' f h.toList E with⟨h1,j⟩|⟨i,q,h1,j,H⟩
 .simp only[Instr.lookup,W6,run_underlying r,W8,MapKept.run_getObj_map C,V3,hk.check w' _ f,h1,F]
 .exact absurd H (A (gM q) (j0.2 ⟨q,x6 j,rfl⟩))
theorem KA{a:Array MapEntry}{e:MapEntry}{f:MapEntry->MapEntry}(h:a[j]?=σ e):(a.modify j f).toList.map gM=(a.toList.map gM).set j (gM (f e)):=by
 refine Y7 λi=>?_;simp only[v8,S7,Array.getElem?_modify,X1,u7,Array.length_toList];by_cases p:j=i
 .subst p;have:=(j6.1 h);simp[this.1,this.2]
 .simp[p]
theorem qp{m:Nat}{d:List (x3×x3)}{x:x3}{K:Unit->x4->Prop}(C:P.underlying t=σ (.map k e))(hk:Keys P k G)(hm:c7 w m d)(J:∀p∈d,G p.1)(h:G x)(h1:∀j v0 w',d[j]?=σ (x,v0)->c7 w' m (d.set j (x,v))->ae (λr=>r=m) w w'->K () w')(L:∀w',(∀p∈d,p.1≠x)->c7 w' m (d++[(x,v)])->ae (λr=>r=m) w w'->K () w'):aC P (Instr.mapUpdate t (.map (σ m)) x v) w K:=by
 obtain⟨f,q,a,E,rfl⟩:=hm;have M:∀e∈f.toList,G e.key:=λe he=>J (gM e) (j0.2 ⟨e,he,rfl⟩);rcases hk.find w h f.toList M with⟨s,F⟩|⟨i,H,s,hi,he⟩
 .obtain⟨y,z,A⟩:=sA a (f.push {key:=x,val:=v,born:=q}) (q+1);refine .of (v:=()) (w':=_) ?_ z (L _ (λp N=>?_) ⟨_,_,A,MapKept.stamped_push E F,by simp[gM]⟩ y)
  .simp only[Instr.mapUpdate,W6,run_underlying C,W8,MapKept.run_getObj_map a,hk.check w _ h,s,MapKept.run_setObj_map _ a]
  .obtain⟨O,Q,rfl⟩:=j0.1 N;exact F O Q
 .have B:f[i]?=σ H:=by simpa using hi
  obtain⟨y,z,A⟩:=sA a (f.modify i λe=>{e with key:=x,val:=v}) q;refine .of (v:=()) (w':=_) ?_ z (h1 i H.val _ (by rw[v8,hi];simp[gM,he]) ⟨_,_,A,MapKept.stamped_modify E _ _ (λ_ _=>rfl) (λR _ I=>by rw[B]at I;cases I;exact he.symm),KA B⟩ y);simp only[Instr.mapUpdate,W6,run_underlying C,W8,MapKept.run_getObj_map a,hk.check w _ h,s,B,Z7,V2,he,hk.stays w h,MapKept.run_setObj_map _ a]
theorem KB{E F:r9}{m:Nat}{d:List (x3×x3)}{x:x3}{K:x3->x4->Prop}(A:P.underlying t=σ (.map k e))(hk:Keys P k G)(hm:c7 w m d)(H:∀p∈d,G p.1)(h:G x)(h1:∀j v0 w',d[j]?=σ (x,v0)->c7 w' m (d.eraseIdx j)->ae (λr=>r=m) w w'->K (.tuple #[]) w')(I:∀w',(∀p∈d,p.1≠x)->c7 w' m d->ae (λr=>r=m) w w'->K (.tuple #[]) w'):aC P (Z4.delete_ #[t,E] F #[.map (σ m),x]) w K:=by
 obtain⟨f,B,a,C,rfl⟩:=hm;have J:∀e∈f.toList,G e.key:=λe he=>H (gM e) (j0.2 ⟨e,he,rfl⟩);rcases hk.find w h f.toList J with⟨q,L⟩|⟨i,M,q,hi,he⟩
 .obtain⟨s,y,z⟩:=sA a f B;refine .of (v:=.tuple #[]) (w':=_) ?_ y (I _ (λp N=>?_) ⟨_,_,z,C,rfl⟩ s)
  .simp only[Z4.delete_,List.getElem?_toArray,List.getElem?_cons_zero,List.getElem?_cons_succ,W6,run_underlying A,W8,MapKept.run_getObj_map a,hk.check w _ h,q,MapKept.run_setObj_map _ a,V3]
  .obtain⟨O,Q,rfl⟩:=j0.1 N;exact L O Q
 .obtain⟨s,y,z⟩:=sA a (f.eraseIdxIfInBounds i) B;refine .of (v:=.tuple #[]) (w':=_) ?_ y (h1 i M.val _ (by rw[v8,hi];simp[gM,he]) ⟨_,_,z,MapKept.stamped_erase C _,by rw[mH];simp⟩ s);simp only[Z4.delete_,List.getElem?_toArray,List.getElem?_cons_zero,List.getElem?_cons_succ,W6,run_underlying A,W8,MapKept.run_getObj_map a,hk.check w _ h,q,MapKept.run_setObj_map _ a,V3]
theorem KC{a:r9}{m:Nat}{d:List (x3×x3)}(f:P.underlying t=σ (.map k e))(hm:c7 w m d):V P (W7 #[t] a #[.map (σ m)]) w K=K (Δ d.length):=V.of λw' h=>by
 obtain⟨p,q,j,r,rfl⟩:=hm.ext h;simp[W7,run_underlying f,MapKept.run_getObj_map j,goInt]
def hA(w:x4)(j m:Nat)(d left:List (x3×x3))(q:Option (x3×x3)):Prop:=∃a f seen gX,w.heap[m]?=σ (.map a f)/\MapKept.Stamped a f/\a.toList.map gM=d/\
 w.heap[j]?=σ (.mapIter (σ m) f seen gX)/\f<=gX/\(leftOf a seen).toList.map gM=left/\∀p,q=σ p->gX=f/\∃h,a.toList.find? (λe=>e.born == seen.back?.getD 0)=σ h/\seen.back? =σ h.born/\gM h=p
theorem hA.map{m:Nat}{d left:List (x3×x3)}{e:Option (x3×x3)}(h:hA w a m d left e):c7 w m d:=by
 obtain⟨f,c,_,_,h1,j,p,_⟩:=h;exact⟨f,c,h1,j,p⟩
theorem hA.aU{m:Nat}{d left:List (x3×x3)}{e:Option (x3×x3)}(h:hA w a m d left e)(f:ae S w w')(hm:¬S m)(hi:e4 w w'):hA w' a m d left e:=by
 obtain⟨j,c,s,gX,h1,p,q,r,x⟩:=h;exact⟨j,c,s,gX,f.aU m _ h1 rfl hm,p,q,hi a _ r rfl,x⟩
theorem hA.ext{m:Nat}{d left:List (x3×x3)}{e:Option (x3×x3)}(h:hA w a m d left e)(f:Ext w w')(hi:e4 w w'):hA w' a m d left e:=
 h.aU (f.aa λ_=>False) (λh=>h) hi
theorem KD(a:Array MapEntry):leftOf a #[]=a:=by
 unfold leftOf;exact Array.filter_eq_self.2 λx e=>Ξ
theorem Bn{m:Nat}{d:List (x3×x3)}{K:x3->x4->Prop}(r:P.underlying t=σ (.map k e))(hm:c7 w m d)(h:∀a w',a=w.heap.size->Ext w w'->e4 w w'->hA w' a m d d ν->K (Γ a) w'):aC P (Instr.range t (.map (σ m))) w K:=by
 obtain⟨j,f,q,s,rfl⟩:=hm;refine .of (run_range_map w t k e m j f r q) (oF w _) (h _ _ rfl (oE w _) (oF w _).kc ⟨j,f,#[],f,(oE w _).aU m _ q rfl,s,rfl,heap_alloc_new w _,o5 _,by rw[KD],λp x=>by cases x⟩)
theorem Bo:∀(l:List MapEntry)(j:Nat)(a:MapEntry),(l.map (·.born)).Nodup->l[j]?=σ a->l.filter (λx=>!(x.born == a.born))=l.eraseIdx j
 |[],j,a,_,h=>by simp at h
 |x::l,0,a,f,h=>by
  simp at h;subst h;have e:=List.nodup_cons.1 (by simpa using f:(x.born::l.map (·.born)).Nodup);simp only[List.filter_cons,beq_self_eq_true,Y9,Bool.false_eq_true,if_false,List.eraseIdx_cons_zero];refine List.filter_eq_self.2 λy p=>?_;have:y.born≠x.born:=λhe=>e.1 (he▸j0.2 ⟨y,p,rfl⟩);simpa using this
 |x::l,j+1,a,f,h=>by
  simp at h;have e:=List.nodup_cons.1 (by simpa using f:(x.born::l.map (·.born)).Nodup);have q:x.born≠a.born:=λhe=>e.1 (he▸j0.2 ⟨a,x6 h,rfl⟩);have r:=Bo l j a e.2 h;simp only[List.filter_cons,List.eraseIdx_cons_succ,r];simp[q]
theorem Bp{free:fz}{m:Nat}{d left:List (x3×x3)}{T:Option (x3×x3)}{K:x3->x4->Prop}(h:hA w a m d left T)(A:free.1=false->free.2<=a)(U:left=[]->K (.tuple #[.bool false]) w)(h1:∀j p w',left[j]?=σ p->Ext w w'->cB a w w'->hA w' a m d (left.eraseIdx j) (σ p)->K (.tuple #[.bool true,p.1,p.2]) w'):rn P free (Instr.next (Γ a) false 0) w K:=by
 obtain⟨q,s,seen,gX,B,E,rfl,hi,V,rfl,_⟩:=h;have M:∀x∈q.toList,x.born<s:=E.1;have N:=E.2.1;have O:∀x∈(leftOf q seen).toList,x.born<s:=λx z=>M x (mem_left z).1;have W:∀(J:x4)(o':Obj),J.heap=w.heap->(setObj a o').run P J= .ok () {J with heap:=J.heap.setIfInBounds a o'}:=λJ o' he=>by
  simp only[setObj,Sem.run];rw[he,hi]
 unfold rn;simp only[Instr.next,getObj,W6,Sem.run,hi,B,W8,next_test_false seen q s gX M V,Bool.false_eq_true,if_false];have X:Array.filter (λe=>!seen.contains e.born) q=leftOf q seen:=rfl;rw[X];have Y:((leftOf q seen).toList.map (·.born)).Nodup:=by
  unfold leftOf;rw[Array.toList_filter];exact(List.Sublist.map _ List.filter_sublist).nodup N
 have Z:∀C:MapEntry,leftOf q (seen.push C.born)=(leftOf q seen).filter λx=>!(x.born == C.born):=λC=>by
  unfold leftOf;rw[Array.filter_filter];congr 1;funext x;rw[contains_push];cases seen.contains x.born<;>cases x.born == C.born<;>rfl
 generalize aa:leftOf q seen=L at*;have ab:L.filter (λx=>decide (x.born<s))=L:=Array.filter_eq_self.2 (λx z=>by simpa using O x (by simpa using z));have ac:L.filter (λx=>decide (x.born≥s))= #[]:=by
  rw[Array.filter_eq_empty_iff];intro x z;have:=O x (by simpa using z);simp;omega
 simp only[ab,ac,Array.append_empty];by_cases Q:L.size=0
 .have ad:L= #[]:=Array.eq_empty_of_size_eq_zero Q;subst ad;refine⟨.tuple #[.bool false],w,?_,λ_=>cB.refl _ _,U rfl⟩;simp[choose,Sem.run,Question.forced]
 .have ae:L.isEmpty=false:=by simp[Array.isEmpty,Q]
  simp only[ae,Bool.false_eq_true,if_false,Array.empty_append,Array.size_map];have af:∃(j:Nat)(n:Nat),j<L.size/\w.drawn<=n/\(choose (Question.mapNext L.size)).run P w= .ok j {w with drawn:=n}:=by
   by_cases A:L.size<=1
   .exact⟨0,w.drawn,Ω,o5 _,by simp[choose,Sem.run,Question.forced,A]⟩
   .exact⟨_,w.drawn+1,Nat.mod_lt _ Ω,Nat.le_succ _,by
     simp only[choose,Sem.run,Question.forced,decide_eq_true_eq,A,if_false,Question.cut];rfl⟩
  obtain⟨j,n,F,R,ag⟩:=af;have S:L.toList[j]?=σ L[j]:=by simp[F]
  have ah:L[j]∈q.toList:=(mem_left (seen:=seen) (by rw[aa];exact Array.mem_toList_iff.2 (Array.getElem_mem F))).1;refine⟨.tuple #[.bool true,L[j].key,L[j].val],{w with drawn:=n,heap:=w.heap.setIfInBounds a (.mapIter (σ m) s (seen.push L[j].born) s)},?_,?_,?_⟩
  .have I:=W {w with drawn:=n} (.mapIter (σ m) s (seen.push L[j].born) s) rfl;simp only[ag,Array.getElem?_map,Array.getElem?_eq_getElem F,Z7,W6,I,W8,V3]
  .intro ai;have:=A ai;refine⟨rfl,⟨rfl,R⟩,rfl,Ξ,λr o f G=>?_,λr o aj f H=>?_⟩
   .show (w.heap.setIfInBounds a _)[r]?=σ o;by_cases y:r=a
    .subst y;rw[hi]at f;cases f;cases G
    .rw[(MapKept.heap_set hi).2 r y];exact f
   .show (w.heap.setIfInBounds a _)[r]?=σ o;rw[(MapKept.heap_set hi).2 r Ω];exact f
  .refine h1 j (gM L[j]) _ (by rw[v8,S];rfl) ⟨Ξ,λr o f H=>?_⟩ ⟨rfl,⟨rfl,R⟩,rfl,Ξ,λr o f G=>?_,λr o aj f H=>?_⟩ ⟨q,s,seen.push L[j].born,s,?_,E,rfl,?_,o5 _,?_,λp ak=>⟨rfl,L[j],?_,Ξ,Z0 ak⟩⟩
   .show (w.heap.setIfInBounds a _)[r]?=σ o;by_cases y:r=a
    .subst y;rw[hi]at f;cases f;cases H
    .rw[(MapKept.heap_set hi).2 r y];exact f
   .show (w.heap.setIfInBounds a _)[r]?=σ o;by_cases y:r=a
    .subst y;rw[hi]at f;cases f;cases G
    .rw[(MapKept.heap_set hi).2 r y];exact f
   .show (w.heap.setIfInBounds a _)[r]?=σ o;rw[(MapKept.heap_set hi).2 r Ω];exact f
   .show (w.heap.setIfInBounds a _)[m]?=_;rw[(MapKept.heap_set hi).2 m (λhe=>by subst he;rw[hi]at B;cases B)];exact B
   .exact (MapKept.heap_set hi).1
   .rw[Z,Array.toList_filter,Bo _ _ _ Y S,mH]
   .simp only[Array.back?_push,V2];exact find_born _ _ N ah
theorem Bq{m:Nat}{d left:List (x3×x3)}{p:x3×x3}{K:x3->x4->Prop}(h:hA w a m d left (σ p))(j:K (.tuple #[p.1,p.2]) w):aC P (Instr.entry (Γ a)) w K:=by
 obtain⟨s,x,seen,gX,q,y,rfl,hi,z,rfl,r⟩:=h;obtain⟨rfl,e,h1,f,rfl⟩:=r p rfl;refine .of (v:=.tuple #[e.key,e.val]) (w':=w) ?_ (cJ.refl _) j;rw[f]at h1;simp only[Instr.entry,getObj,W6,Sem.run,hi,q,W8,f,bne_self_eq_false,Bool.false_eq_true,if_false,<-Array.find?_toList];simp only[V2]at h1;rw[h1];rfl
end
end Go.Vc
namespace Go.Proofs.YtikkpokkcdocoaaGreatDoor
open Go Go.Vc Go.RowKit Go.Proofs Go.Proofs.Tryz
set_option maxRecDepth 100000
def en(ks:Λ):x3:=.agg (ints .i8 ks).toArray
def k6(ks:Λ):Prop:=ks.length=6/\∀x∈ks,0<=x/\x<32
theorem KE{a b:Λ}(h:en a=en b):a=b:=by
 unfold en at h;have h:ints .i8 a=ints .i8 b:=congrArg Array.toList (x3.agg.inj h);have e:∀l:Λ,(ints .i8 l).map valOf=l:=λl=>by
  unfold ints;rw[R2];exact List.map_id l
 rw[<-e a,<-e b,h]
theorem Br(ks:Λ):(en ks).cells.toList=ints .i8 ks:=by simp[en,x3.cells]
theorem KF:WideMaps.ArrKey x8 cE fU 6:=⟨cE.u,Ψ,Ψ,Ψ⟩
theorem keys:Keys x8 cE λv=>∃l,keyOf x8 cE v=σ l:=Keys.law KF.law
theorem vD(h:k6 ks):∃l,keyOf x8 cE (en ks)=σ l:=by
 obtain⟨s,j⟩:=h
 match ks,s with
 |[a,b,c,d,e,f],_=>
  have w:=j a Ξ;have y:=j b Ξ;have z:=j c Ξ;have rd:=j d Ξ;have A:=j e Ξ;have kb:=j f Ξ;have wf:∀x:Int,0<=x/\x<32->(Lit.int .i8 x).wf=true:=λx p=>by
   simp only[Lit.wf,U1,decide_eq_true_eq];have H:o9.i8.min= -128:=Φ
   have I:o9.i8.max=127:=Φ
   omega
  have q:decide (0<x8.types.size)=true:=Ψ
  have q:=of_decide_eq_true q;obtain⟨n,B⟩:∃n,x8.types.size=n+1:=⟨x8.types.size-1,Ω⟩;have one:∀x:Int,0<=x/\x<32->x8.keyLits (n+1) fU [.int .i8 x]=σ [.int .i8 x]:=λx p=>by
   unfold W9.keyLits;rw[fU.u];simp[wf x p]
  unfold keyOf;rw[cE.u];simp only;have C:x8.keyType cE=true:=Ψ
  have E:x8.cellsOf fU=1:=Ψ
  have r:x8.cellsOf cE=6:=Ψ
  have F:(en [a,b,c,d,e,f]).formed x8 cE=true:=by
   unfold en x3.formed;rw[cE.u,r];rfl
  rw[C,F,Br,B];simp only[Bool.and_self,if_true];unfold W9.keyLits;rw[cE.u];simp only[r,E,ints];have G:W3 6=[0,1,2,3,4,5]:=Φ
  simp[G,one a w,one b y,one c z,one d rd,one e A,one f kb]
def pad(t:Λ):Λ:=t++o4 (6-t.length) 0
theorem KG{t:Λ}(f:t.length<=6)(a:∀x∈t,0<=x/\x<32):k6 (pad t):=
 ⟨by simp[pad];omega,λx e=>by
  rcases l9.1 e with h|h
  .exact a x h
  .have:=(List.mem_replicate.1 h).2;omega⟩
theorem KH{a b:Λ}(e:a.length=b.length)(h:pad a=pad b):a=b:=by
 unfold pad at h;exact(List.append_inj h e).1
theorem Bs{t:Λ}:(pad t).take t.length=t:=by simp[pad]
theorem nO{b o:Nat}(a:ks.length=6)(h:w.rangeAt b o (ints .i8 ks)):V x8 (u5 cE (.pointer (σ ⟨b,o,ν⟩))) w K=K (en ks):=
 zA cE.u rfl cE.i (by simp[a]) h
theorem KI{b o:Nat}(a:ks.length=6)(h:w.rangeAt b o (ints .i8 ks)):V x8 (do loadVar cE (<-asAddr (.pointer (σ ⟨b,o,ν⟩)))) w K=K (en ks):=V.of λw' e=>by
 have:=run_loadVar_mid (P:=x8) w' b o cE (ints .i8 ks) (.array 6 fU) (nu e h) cE.u rfl (by rw[cE.i.size];simp[a]);simp only[asAddr,W6,V3,Result.andThen_ok,this];rfl
theorem qq{g:Nat}{K:Unit->x4->Prop}(a:ks.length=6)(e:cs.length=6)(f:ad w g cE cs)(h:∀w',ae (λr=>r=g) w w'->w'.heap.size=w.heap.size->ad w' g cE (ints .i8 ks)->K () w'):aC x8 (o8 cE (Γ g) (en ks)) w K:=
 bT (vs:=ints .i8 ks) cE.i (by simp[a]) e (λv j=>by obtain⟨x,_,rfl⟩:=j0.1 j;rfl) f h
def sD:List x3:=[.int .i8 0,.int .i8 0,.int .i8 0,.int .i8 0,.int .i8 0,.int .i8 0]
theorem KJ{x:Int}:ai x8 rU [Δ x] w λv w'=>v= .bool (decide (¬ih x))/\Ext w w':=by
 refine ay func213 ?_;simp only[cv,aR,bS,aj];refine⟨λh=>⟨?_,Ext.refl _⟩,λh=>⟨?_,Ext.refl _⟩⟩
 .rw[decide_eq_true];intro a;have:=a.1;omega
 .congr 1;have:(32<x)=(¬ih x):=propext ⟨λe a=>by have:=a.2;omega,λe=>by
   by_cases f:32<x
   .exact f
   .exact absurd ⟨Ω,Ω⟩ e⟩
  simp only[this]
theorem KK(h:aH .i64 w sv l):
  ai x8 uO [sv,.func (.func rU) #[] #[]] w λv w'=>Ext w w'/\∃n:Int,v=Δ n/\((0<=n)=¬∀x∈l,ih x):=by
 have z:=h.le;refine ay func138 ?_;rw[aV an.u h];refine⟨λ_ t J=>Ext w J/\∃i:Nat,t=Δ i/\i<=l.length/\∀x∈l.take i,ih x,λ_ t _=>l.length-(b0 t).toNat,⟨Ext.refl _,0,rfl,X5 _,Ξ⟩,?_⟩;rintro _ _ J ⟨e,i,rfl,hi,f⟩;simp only[aR,aj];refine⟨λA=>?_,λB=>⟨e,-1,rfl,?_⟩⟩
 .obtain⟨x,j⟩:=aD (l:=l) (i:=i) Ω;rw[bc an.u ag.i Ψ (h.ext e) j];show ai x8 rU [Δ x] J _;refine KJ.mono ?_;rintro _ U _ ⟨rfl,p⟩;simp only[aj,aM];refine⟨λq=>⟨e.trans p,i,rfl,?_⟩,λr=>?_⟩
  .exact propext ⟨λ_ s=>q (s x (x6 j)),λ_=>Ω⟩
  .rw[wrap_i64 Ω Ω];refine⟨⟨e.trans p,i+1,rfl,Ω,λy a=>?_⟩,?_⟩
   .rw[r8,j]at a;rcases l9.1 a with a|a
    .exact f y a
    .simp at a;subst a;exact X2.1 r
   .simp only[b0];omega
 .have:i=l.length:=Ω
  rw[this,o6]at f;exact propext ⟨λh=>Ω,λh=>absurd f h⟩
theorem Bt(h:aH .i64 w sv l):
  ai x8 uR [sv,.func (.func rU) #[] #[]] w λv w'=>v= .bool (decide (¬∀x∈l,ih x))/\Ext w w':=by
 refine ay func214 ?_;refine(KK h).mono ?_;rintro _ J _ ⟨a,n,rfl,e⟩;simp only[cQ];exact⟨by congr 1;simp only[e],a⟩
abbrev Told:=List (Λ×Int)
def jN(p:Λ×Int):x3×x3:=(en (pad p.1),Δ p.2)
def eO(w:x4)(g m:Nat)(ah:Λ)(k o:Int)(D:Told):Prop:=
 (∃sv gs,ad w g fD [sv,Δ k,Δ o,.map (σ m)]/\aq .i64 ag w gs sv ah)/\c7 w m (D.map jN)/\cd ah/\cz o k/\∀p∈D,dp ah p.1/\cz p.2 k/\p.2≠o
theorem eO.ext{g m:Nat}{o:Int}{D:Told}(h:eO w g m ah k o D)(a:Ext w w'):eO w' g m ah k o D:=by
 obtain⟨⟨sv,gs,h1,e⟩,f,j⟩:=h;exact⟨⟨sv,gs,h1.ext a,e.ext a⟩,f.ext a,j⟩
theorem vE{t:Λ}(I:cd ah)(h:dp ah t):t.length=ah.length/\∀x∈t,0<=x/\x<32:=by
 obtain⟨h1,f⟩:=nL.1 h;refine⟨h1.symm,λx j=>?_⟩;obtain⟨i,hi,rfl⟩:=List.getElem_of_mem j;obtain⟨a,e⟩:=aD (l:=ah) (i:=i) Ω;have p:=f i a _ e (x7 hi);have q:=(I.2 a (x6 e)).2;omega
theorem qs{t:Λ}(I:cd ah)(h:dp ah t):k6 (pad t):=by
 obtain⟨h1,a⟩:=vE I h;exact KG (by rw[h1];exact I.1) a
theorem eO.pf{g m:Nat}{o:Int}{D:Told}(h:eO w g m ah k o D):∀p∈D.map jN,∃l,keyOf x8 cE p.1=σ l:=λp a=>by
 obtain⟨q,e,rfl⟩:=j0.1 a;exact vD (qs h.2.2.1 (h.2.2.2.2 q e).1)
theorem Bu{s t:Λ}(I:dp ah s)(a:dp ah t)(h:en (pad s)=en (pad t)):s=t:=
 KH ((sj I).symm.trans (sj a)) (KE h)
theorem eO.nodup{g m:Nat}{o:Int}{D:Told}(h:eO w g m ah k o D):(D.map (·.1)).Nodup:=by
 have e:=h.2.1.nodup;rw[R2]at e;refine List.Pairwise.of_map (S:=λa b=>a≠b) (λt=>en (pad t)) (λa b h he=>h (by rw[he])) ?_;rw[R2];exact e
def KL(w:x4)(l:Λ)(k o:Int)(v:x3)(w':x4):Prop:=
 Ext w w'/\(¬cd l->v= .tuple #[.pointer ν,Δ 1])/\(cd l->¬cz o k->v= .tuple #[.pointer ν,Δ 3])/\
  (cd l->cz o k->∃g m,v= .tuple #[Γ g,Δ 0]/\w.heap.size<=g/\w.heap.size<=m/\eO w' g m l k o [])
theorem Bv{o:Int}(h:aH .i64 w sv l):ai x8 oI [sv,Δ k,Δ o] w (KL w l k o):=by
 refine ay func171 ?_;refine aW (λv J=>Ext w J/\∃c,v= .bool c/\(c=true↔¬cd l)) ?_ ?_
 .rintro _ J ⟨e,c,rfl,f⟩;rw[cj];refine⟨λs=>⟨e,λ_=>rfl,λh=>absurd h (f.1 s),λh=>absurd h (f.1 s)⟩,λz=>?_⟩;have I:cd l:=Classical.byContradiction λh=>by have:=f.2 h;rw[z]at this;cases this
  have G:=I.1;refine jI.mono ?_;rintro _ U _ ⟨rfl,a⟩;by_cases hi:cz o k
  rotate_left
  .simp only[hi,decide_false,bJ,X9,bQ];exact⟨e.trans a,λh=>absurd I h,λ_ _=>rfl,λ_ h=>absurd h hi⟩
  simp only[hi,decide_true,bJ,Y9,aY];refine(jJ ((h.ext e).ext a) Ω).mono ?_;rintro aO H _ ⟨x,A,K,hm⟩;have L:=hm.ls.cells;refine sB λm M N j B=>?_;rw[dn (cs:=#[aO,Δ k,Δ o,.map (σ m)]) (by obtain⟨_,_,_,_,_,rfl,_⟩:=hm.ls;kernel_rfl)];refine bk λg O P q C=>?_;have s1:=e.size;have Q:=a.size;have R:=x.size;have S:=j.size;exact⟨((((e.trans a).trans x).trans j).trans q),λh=>absurd I h,λ_ h=>absurd hi h,λ_ _=>⟨g,m,rfl,Ω,Ω,⟨aO,A,C,(hm.ext j).ext q⟩,B.ext q,I,hi,λp E=>by cases E⟩⟩
 .intro aw y;rw[aV an.u h];simp only[bS,aj];refine⟨λV=>y _ _ ⟨Ext.refl _,true,rfl,λ_ I=>by have:=I.1;omega,λ_=>rfl⟩,λW=>?_⟩;refine(Bt h).mono ?_;rintro _ U _ ⟨rfl,a⟩;refine y _ _ ⟨a,_,rfl,?_⟩;rw[decide_eq_true_eq];exact⟨λr I=>r I.2,λr I=>r ⟨Ω,I⟩⟩
def iM(t:Λ)(i:Nat):Λ:=t.take i++o4 (6-i) 0
theorem KM{t:Λ}{i:Nat}(hi:i<=t.length)(a:t.length<=6):(iM t i).length=6:=by simp[iM];omega
theorem KN{t:Λ}{i:Nat}{x:Int}(a:t[i]?=σ x)(f:t.length<=6):(iM t i).set i x=iM t (i+1):=by
 have hi:=(x5.1 a).1;unfold iM;have e:(t.take i).length=i:=by rw[n9];omega
 rw[T8 _ _ Ω,e,U4,r8,a];have:6-i=(6-(i+1))+1:=Ω
 rw[this,List.replicate_succ];simp
theorem KO(t:Λ):iM t t.length=pad t:=by simp[iM,pad]
def Bw(w:x4)(ah t:Λ)(v:x3)(w':x4):Prop:=Ext w w'/\∃ks e,v= .tuple #[en ks,Δ e]/\ks.length=6/\(dp ah t->ks=pad t/\e=0)/\(¬dp ah t->e=3)
theorem KP{g m:Nat}{t:Λ}{o:Int}{D:Told}{aO:x3}(h:eO w g m ah k o D)(H:aH .i64 w aO t):ai x8 Ik [Γ g,aO] w (Bw w ah t):=by
 obtain⟨⟨sv,gs,K,hm⟩,_,I,_⟩:=h;have aI:=I.1;refine ay func215 ?_;refine bw cE.i λB J aJ X C=>?_;refine bw cE.i λal U aK L M=>?_;have y:=X.trans L;have s1:=X.size;have aL:=L.size;have aN:=C.lt;have aP:=M.lt;have aS:=K.lt;have C:=C.ext L;have ak:=K.ext y;rw[da eZ.u];simp only[Z6,aY];have N:∀{f:x4}{ks:Λ}{e:Int},Ext w f->ad f al cE (ints .i8 ks)->ad f B cE sD->ks.length=6->(dp ah t->ks=pad t/\e=0)->(¬dp ah t->e=3)->
   V x8 (u5 cE (Γ al)) f λam=>aC x8 (o8 cE (Γ B) am) f λ(_:Unit)O=>V x8 (do loadVar cE (<-asAddr (Γ B))) O λao=>Bw w ah t (.tuple #[ao,Δ e]) O:=by
  intro f ks e q r z G E P;rw[nO G r.range];refine qq G rfl z λO aq aT au=>?_;rw[KI G au.range];exact⟨q.put aq Ω,ks,e,rfl,G,E,P⟩
 rw[aV an.u (H.ext y),aQ fD.p 0 ak rfl,aV an.u (hm.ls.ext y)];simp only[bK,aj];have Y:ints .i8 (iM t 0)=sD:=by simp[iM,sD,ints]
 refine⟨λav=>N y (ks:=iM t 0) (e:=3) (by rw[Y];exact M) C (by simp[iM]) (λE=>absurd (by rw[sj E]) av) (λ_=>rfl),λZ=>?_⟩;have Z:t.length=ah.length:=Ω
 rw[aV an.u (H.ext y)];refine b3.range t.length (λi _ f=>Ext w f/\ad f al cE (ints .i8 (iM t i))/\ad f B cE sD/\∀(j:Nat)(a x:Int),j<i->ah[j]?=σ a->t[j]?=σ x->0<=x/\x<a) Ω
  ⟨y,by rw[Y];exact M,C,λj a x ax=>Ω⟩ ?_ ?_
 .rintro i _ f az hi ⟨q,r,z,Q⟩ aA;simp only[aR,aj];refine⟨λ_=>?_,λh=>Ω⟩;obtain⟨x,s⟩:=aD (l:=t) hi;obtain⟨a,A⟩:=aD (l:=ah) (i:=i) Ω;have aU:=I.2 a (x6 A);rw[bc an.u ag.i Ψ (H.ext q) s];have ab:=KM (t:=t) (i:=i) Ω Ω;refine aW (λv aB=>f=aB/\v= .bool (decide (¬(0<=x/\x<a)))) ?_ ?_
  .rintro _ _ ⟨rfl,rfl⟩;simp only[aj];refine⟨λaE=>N q r z ab (λE=>absurd ((nL.1 E).2 i a x A s) aE) (λ_=>rfl),λR=>?_⟩;have R:=X2.1 R;rw[fo ag.u fU.u,I9 Ω Ω,uZ cE.u fU.i Ω];refine bq fU.i rfl rfl r (by simp[ab];omega) λaX ac aZ ae=>?_;simp only[aM];refine aA _ _ ⟨q.put ac Ω,?_,z.aa ac (by show¬(B=al);omega),λj a' aF ax S W=>?_⟩
   .have e:(ints .i8 (iM t i)).set (0+i*1) (.int .i8 x)=ints .i8 (iM t (i+1)):=by
     rw[<-KN s Ω];simp[ints,U5]
    rw[e]at ae;exact ae
   .by_cases aG:j=i
    .subst aG;rw[A]at S;rw[s]at W;cases S;cases W;exact R
    .exact Q j a' aF Ω S W
  .intro aw af;simp only[aR,aj];refine⟨λa1=>af _ _ ⟨rfl,by rw[decide_eq_true];omega⟩,λa2=>?_⟩;rw[aQ fD.p 0 (K.ext q) rfl,bc an.u ag.i Ψ (hm.ls.ext q) A,cQ];refine af _ _ ⟨rfl,?_⟩;congr 1;exact decide_eq_decide.2 ⟨λh ap=>Ω,λh=>Ω⟩
 .rintro _ f az ⟨q,r,z,Q⟩;simp only[aR,aj];refine⟨λh=>Ω,λ_=>?_⟩;rw[KO]at r;exact N q r z (by simp[pad];omega) (λ_=>⟨rfl,rfl⟩) (λP=>absurd (nL.2 ⟨Z.symm,λj a x A s=>Q j a x (x5.1 s).1 A s⟩) P)
def im(D:Told)(o:Int)(t:Λ):Int:=match D.find? (λp=>decide (p.1=t))with
 |some p=>p.2
 |none=>o
theorem Bx{D:Told}(e:(D.map (·.1)).Nodup){p q:Λ×Int}(f:p∈D)(r:q∈D)(h:p.1=q.1):p=q:=by
 obtain⟨i,hi⟩:=X6.1 f;obtain⟨j,a⟩:=X6.1 r;have h1:(D.map (·.1))[i]?=σ p.1:=by rw[v8,hi];rfl
 have s:(D.map (·.1))[j]?=σ p.1:=by rw[v8,a,h];rfl
 have:=kq e h1 s;subst this;rw[hi]at a;exact Z0 a
theorem qt{D:Told}{o:Int}{t:Λ}(e:(D.map (·.1)).Nodup)(h:(t,c)∈D):im D o t=c:=by
 unfold im;cases a:D.find? (λp=>decide (p.1=t))with
 |none=>
  have:=List.find?_eq_none.1 a _ h;simp at this
 |some p=>
  have h1:=List.find?_some a;have h1:p.1=t:=by simpa using h1
  have:=Bx e (List.mem_of_find?_eq_some a) h h1;rw[this]
theorem qu{D:Told}{o:Int}{t:Λ}(h:∀p∈D,p.1≠t):im D o t=o:=by
 unfold im;cases a:D.find? (λp=>decide (p.1=t))with
 |none=>rfl
 |some p=>
  have h1:=List.find?_some a;have h1:p.1=t:=by simpa using h1
  exact absurd h1 (h p (List.mem_of_find?_eq_some a))
def k7(D:Told)(t:Λ)(c o:Int)(D':Told):Prop:=(∀p,p∈D'↔(c≠o/\p=(t,c))\/(p∈D/\p.1≠t))/\D'.length<=D.length+1
theorem k7.cost{D D':Told}{t:Λ}{o:Int}(h:k7 D t c o D')(r:(D.map (·.1)).Nodup)(f:(D'.map (·.1)).Nodup)(s:Λ):im D' o s=if s=t then c else im D o s:=by
 by_cases I:s=t
 .subst I;rw[if_pos rfl];by_cases j:c=o
  .subst j;exact qu λp a he=>by
    rcases(h.1 p).1 a with e|e
    .exact e.1 rfl
    .exact e.2 he
  .exact qt f ((h.1 _).2 (.inl ⟨j,rfl⟩))
 .rw[if_neg I];by_cases he:∃p∈D,p.1=s
  .obtain⟨p,a,rfl⟩:=he;rw[qt (c:=p.2) r a];exact qt f ((h.1 _).2 (.inr ⟨a,I⟩))
  .have q:∀p∈D,p.1≠s:=λp a h=>he ⟨p,a,h⟩;rw[qu q];exact qu λp a e=>by
    rcases(h.1 p).1 a with⟨_,rfl⟩|⟨w,_⟩
    .exact I e.symm
    .exact q p w e
theorem KQ{D:Told}{t:Λ}{o v0:Int}(q:(D.map (·.1)).Nodup)(f:D[j]?=σ (t,v0))(r:c≠o):k7 D t c o (D.set j (t,c)):=by
 have h:=(x5.1 f).1;refine⟨λp=>⟨λa=>?_,λa=>?_⟩,Ξ⟩
 .obtain⟨i,hi⟩:=X6.1 a;by_cases e:j=i
  .subst e;rw[c9 h]at hi;exact .inl ⟨r,(Z0 hi).symm⟩
  .rw[Y5 e]at hi;refine .inr ⟨x6 hi,λhe=>e ?_⟩;exact kq q (x:=t) (by rw[v8,f];rfl) (by rw[v8,hi,Z7,he])
 .rcases a with⟨_,rfl⟩|⟨a,s⟩
  .exact x6 (c9 h)
  .obtain⟨i,hi⟩:=X6.1 a;have e:j≠i:=λhe=>by subst he;rw[f]at hi;cases hi;exact s rfl
   exact x6 (by rw[Y5 e];exact hi)
theorem By{D:Told}{t:Λ}{o:Int}(a:∀p∈D,p.1≠t)(e:c≠o):k7 D t c o (D++[(t,c)]):=by
 refine⟨λp=>?_,Ξ⟩;rw[l9,j4];exact⟨λh=>h.elim (λh=>.inr ⟨h,a p h⟩) (λh=>.inl ⟨e,h⟩),λh=>h.elim (λh=>.inr h.2) (λh=>.inl h.1)⟩
theorem KR{D:Told}{t:Λ}{o v0:Int}(f:(D.map (·.1)).Nodup)(e:D[j]?=σ (t,v0)):k7 D t o o (D.eraseIdx j):=by
 refine⟨λp=>⟨λa=>?_,λa=>?_⟩,by have:=List.length_eraseIdx_le D j;omega⟩
 .refine .inr ?_;obtain⟨i,q,hi⟩:=List.mem_eraseIdx_iff_getElem?.1 a;refine⟨x6 hi,λhe=>q ?_⟩;exact kq f (x:=t) (by rw[v8,hi,Z7,he]) (by rw[v8,e];rfl)
 .rcases a with⟨h,_⟩|⟨a,r⟩
  .exact absurd rfl h
  .obtain⟨i,hi⟩:=X6.1 a;exact List.mem_eraseIdx_iff_getElem?.2 ⟨i,λhe=>by subst he;rw[e]at hi;cases hi;exact r rfl,hi⟩
theorem KT{D:Told}{t:Λ}{o:Int}(a:∀p∈D,p.1≠t):k7 D t o o D:=
 ⟨λp=>⟨λh=>.inr ⟨h,a p h⟩,λh=>h.elim (λh=>absurd rfl h.1) (λh=>h.1)⟩,Ω⟩
theorem Bz{g m:Nat}{t:Λ}{o:Int}{D:Told}(h:eO w g m ah k o D)(f:dp ah t)(a:(D.map jN)[j]?=σ (en (pad t),v)):∃c,D[j]?=σ (t,c)/\v=Δ c:=by
 rw[v8]at a;obtain⟨p,e,he⟩:=Y6.1 a;have h1:=Bu (h.2.2.2.2 p (x6 e)).1 f (congrArg Prod.fst he);exact⟨p.2,by rw[e,<-h1],(congrArg Prod.snd he).symm⟩
theorem BA{g m:Nat}{t:Λ}{o:Int}{D:Told}(h:eO w g m ah k o D)(a:∀p∈D.map jN,p.1≠en (pad t)):∀p∈D,p.1≠t:=λp e he=>a (jN p) (j0.2 ⟨p,e,rfl⟩) (by rw[jN,he])
def KU(w:x4)(g m:Nat)(ah t:Λ)(k o c:Int)(D:Told)(v:x3)(w':x4):Prop:=
 (¬(dp ah t/\cz c k)->v=Δ 3/\Ext w w')/\(dp ah t/\cz c k->v=Δ 0/\ae (λr=>r=m) w w'/\∃D',k7 D t c o D'/\eO w' g m ah k o D')
theorem BB{g m:Nat}{t:Λ}{o:Int}{D:Told}{aO:x3}(h:eO w g m ah k o D)(af:aH .i64 w aO t):ai x8 HR [Γ g,aO,Δ c] w (KU w g m ah t k o c D):=by
 refine ay func172 ?_;refine(KP h af).mono ?_;rintro _ J _ ⟨X,ks,e,rfl,N,ag,ak⟩;rw[bz,bA];refine bw cE.i λal U aF Y Z=>?_;refine qq N rfl Z λO am aG ab=>?_;have s1:=X.size;have aI:=Y.size;have aJ:=Z.lt;have H:Ext w O:=(X.trans Y).put am Ω;refine aW (λv P=>v=Δ 0/\(dp ah t/\cz c k)/\ae (λr=>r=m) w P/\∃D',k7 D t c o D'/\eO P g m ah k o D') ?_ ?_
 .rintro _ P ⟨_,h1,E⟩;exact⟨λh=>absurd h1 h,λ_=>⟨rfl,E⟩⟩
 intro aw an;simp only[bK,aj];by_cases A:dp ah t
 rotate_left
 .have he:=ak A;subst he;exact⟨λ_=>⟨λ_=>⟨rfl,H⟩,λh=>absurd h.1 A⟩,λh=>by simp at h⟩
 obtain⟨rfl,rfl⟩:=ag A;refine⟨λh=>absurd rfl h,λ_=>?_⟩;have x:=h.ext H;obtain⟨⟨sv,gs,y,hm⟩,K,I,ao,aq⟩:=id x;rw[aQ fD.p 1 y rfl];refine jI.mono ?_;rintro _ au _ ⟨rfl,z⟩;have av:=H.trans z;by_cases hi:cz c k
 rotate_left
 .simp only[hi,decide_false,bJ,X9,bQ];exact⟨λ_=>⟨rfl,av⟩,λh=>absurd h.2 hi⟩
 simp only[hi,decide_true,bJ,Y9,aY];rw[aQ fD.p 2 (y.ext z) rfl];simp only[bb,aj,eg];have ac:=vD (qs I A);have ax:∀{D':Told},k7 D t c o D'->∀p∈D',dp ah p.1/\cz p.2 k/\p.2≠o:=λhu p az=>by
  rcases(hu.1 p).1 az with⟨C,rfl⟩|⟨h1,_⟩
  .exact⟨A,hi,C⟩
  .exact aq p h1
 have L:∀{G B:x4}{D':Told},Ext au G->ae (λr=>r=m) G B->c7 B m (D'.map jN)->k7 D t c o D'->aw (Δ 0) B:=by
  intro G B D' f q aA hu;have aB:g≠m:=λhe=>by
   obtain⟨aC,aD,ap,_⟩:=K;have y:O.heap[g]?=_:=y;rw[he,ap]at y;cases y
  have aE:∀r,leads sv r->r≠m:=λr ad he=>by
   subst he;obtain⟨aC,aD,ap,_⟩:=K;obtain⟨_,⟨rfl,_⟩|⟨cap,cs,rfl,M,_⟩⟩:=hm
   .obtain⟨a,n,c,h1,_⟩:=ad;cases h1
   .obtain⟨a,n,c,h1,E⟩:=ad;cases h1;have M:O.heap[gs]?=_:=M;have E:gs=r:=E;rw[E,ap]at M;cases M
  have Q:=z.trans f;exact an _ _ ⟨rfl,⟨A,hi⟩,((H.trans Q).aa _).trans q,D',hu,⟨sv,gs,(y.ext Q).aa q aB,br (hm.ext Q) q aE⟩,aA,I,ao,ax hu⟩
 refine⟨λC G f _ _=>?_,λC G f _ _=>?_⟩
 .rw[aQ fD.p 3 ((y.ext z).ext f) rfl,nO N ((ab.ext z).ext f).range];subst C;refine KB iE.u keys ((K.ext z).ext f) x.pf ac (λj v0 B R s q=>?_) (λB S s q=>?_)
  .obtain⟨gX,V,_⟩:=Bz x A R;rw[mH]at s;exact L f q s (KR x.nodup V)
  .exact L f q s (KT (BA x S))
 .rw[aQ fD.p 3 ((y.ext z).ext f) rfl,nO N ((ab.ext z).ext f).range];refine qp iE.u keys ((K.ext z).ext f) x.pf ac (λj v0 B R s q=>?_) (λB S s q=>?_)
  .obtain⟨gX,V,_⟩:=Bz x A R;have W:(D.map jN).set j (en (pad t),Δ c)=(D.set j (t,c)).map jN:=by rw[U5];rfl
   rw[W]at s;exact L f q s (KQ x.nodup V C)
  .have W:D.map jN++[(en (pad t),Δ c)]=(D++[(t,c)]).map jN:=by rw[Z2];rfl
   rw[W]at s;exact L f q s (By (BA x S) C)
theorem KV{g m:Nat}{t:Λ}{o:Int}{D:Told}{b:Bool}(h:eO w g m ah k o D)(e:dp ah t)(h1:∀c,(t,c)∈D->K (if b then .tuple #[Δ c,.bool true]else Δ c))(s:(∀p∈D,p.1≠t)->K (if b then .tuple #[Δ 0,.bool false]else Δ 0)):
  V x8 (Instr.lookup iE (.map (σ m)) (en (pad t)) b) w K:=by
 have f:=vD (qs h.2.2.1 e);by_cases he:∃p∈D,p.1=t
 .obtain⟨p,a,rfl⟩:=he;obtain⟨j,x⟩:=X6.1 a;rw[qo iE.u keys h.2.1 h.pf f (j:=j) (v:=Δ p.2) (by rw[v8,x];rfl)];exact h1 p.2 a
 .have r:∀p∈D,p.1≠t:=λp a h=>he ⟨p,a,h⟩;rw[sC iE.u keys ⟨_,_,ao.i⟩ h.2.1 h.pf f (λq y hk=>by
   obtain⟨p,a,rfl⟩:=j0.1 y;exact r p a (Bu (h.2.2.2.2 p a).1 e hk))]
  exact s r
theorem KW{g m:Nat}{o:Int}{D:Told}(h:eO w g m ah k o D):ai x8 In [Γ g] w λv w'=>v=Δ D.length/\Ext w w':=by
 obtain⟨⟨sv,gs,a,hm⟩,e,_⟩:=h;refine ay func220 ?_;rw[da eZ.u];simp only[Z6,aY];rw[aQ fD.p 3 a rfl,KC iE.u e];exact⟨Ξ,Ext.refl _⟩
theorem KX{g m:Nat}{o:Int}{D:Told}(h:eO w g m ah k o D):ai x8 IV [Γ g] w λv w'=>v=Δ k/\Ext w w':=by
 obtain⟨⟨sv,gs,a,hm⟩,_⟩:=h;refine ay func279 ?_;rw[da eZ.u];simp only[Z6,aY];rw[aQ fD.p 1 a rfl];exact⟨rfl,Ext.refl _⟩
theorem vF{g m:Nat}{o:Int}{D:Told}(h:eO w g m ah k o D):ai x8 Io [Γ g] w λv w'=>Ext w w'/\∃a,w.heap.size<=a/\aq .i64 ag w' a v ah:=by
 obtain⟨⟨sv,gs,e,hm⟩,_,I,_⟩:=h;have f:=I.1;refine ay func221 ?_;rw[da eZ.u];simp only[Z6,aY];rw[aQ fD.p 0 e rfl];exact jJ hm.ls Ω
theorem KY{g m:Nat}{o:Int}{D:Told}(h:eO w g m ah k o D):ai x8 IW [Γ g] w λv w'=>v=Δ ah.length/\Ext w w':=by
 refine ay func280 ?_;refine(vF h).mono ?_;rintro v J _ ⟨a,e,_,hm⟩;rw[aV an.u hm.ls];exact⟨rfl,a⟩
end Go.Proofs.YtikkpokkcdocoaaGreatDoor
namespace Go.Vc
open Go Go.RowKit
set_option maxRecDepth 100000
def leadsTo(v:x3)(r:Nat):Prop:=∃a n c,v= .slice (σ a) n c/\a.block=r
theorem fg(h:leadsTo (.slice ν 0 0) r):False:=by
 obtain⟨a,n,c,h,_⟩:=h;cases h
section
variable{α:Type}{f:α->List x3}{k:Nat}
theorem io:∀{L:List α},(∀a∈L,(f a).length=k)->(L.flatMap f).length=L.length*k
 |[],_=>Ξ
 |a::L,h=>by
  rw[V4,o7,h a (.head _),io λb e=>h b (.tail _ e),Z5,U7];omega
theorem qv:∀{L:List α}(i:Nat),(∀a∈L,(f a).length=k)->(L.flatMap f).take (i*k)=(L.take i).flatMap f
 |[],i,_=>Ξ
 |a::L,0,_=>Ξ
 |a::L,i+1,h=>by
  have e:=h a (.head _);rw[V4,List.take_succ_cons,V4,<-qv i λb j=>h b (.tail _ j),U7,Nat.one_mul,Nat.add_comm,List.take_append,e];congr 1
  .exact j9 Ω
  .congr 1;omega
theorem sE:∀{L:List α}(i:Nat),(∀a∈L,(f a).length=k)->(L.flatMap f).drop (i*k)=(L.drop i).flatMap f
 |[],i,_=>Ξ
 |a::L,0,_=>Ξ
 |a::L,i+1,h=>by
  have e:=h a (.head _);rw[V4,List.drop_succ_cons,<-sE i λb j=>h b (.tail _ j),U7,Nat.one_mul,Nat.add_comm,List.drop_append,e];rw[List.drop_of_length_le Ω,List.nil_append];congr 1;omega
theorem pg{L:List α}{i:Nat}{a:α}(h:∀a∈L,(f a).length=k)(hi:L[i]?=σ a)(e:(f a)[j]?=σ v):(L.flatMap f)[i*k+j]?=σ v:=by
 have q:=(x5.1 e).1;rw[<-S2,sE i h];have p:=x5.1 hi;rw[X8 p.1,p.2,V4,Y1 q];exact e
theorem vG{L:List α}{i:Nat}{a:α}(h:∀a∈L,(f a).length=k)(e:(f a).length=k)(hi:i<L.length):over (L.flatMap f) (i*k) (f a)=(L.set i a).flatMap f:=by
 have p:=io h;have j:(i+1)*k<=L.length*k:=W0 _ hi;rw[U7,Nat.one_mul]at j;rw[mv Ω,e,qv i h,show i*k+k=(i+1)*k by rw[U7,Nat.one_mul],sE (i+1) h,List.set_eq_take_append_cons_drop,if_pos hi,List.flatMap_append,V4,T3]
theorem sF{vs:List x3}{o m:Nat}(h1:o+vs.length<=m)(a:m<=cs.length):(over cs o vs).take m=over (cs.take m) o vs:=by
 rw[mv Ω,mv (by rw[n9];omega),T3,T3,List.take_append,List.take_append,List.take_take,List.take_take,List.drop_take,n9];rw[show min m o=o by omega,show min o m=o by omega,show min o cs.length=o by omega,j9 (l:=vs) Ω];congr 3;omega
def be(f:α->List x3)(k:Nat)(e:r9)(w:x4)(g:Nat)(v:x3)(L:List α):Prop:=bW w g e k v L.length (L.flatMap f)/\∀a∈L,(f a).length=k
variable{P:W9}{w:x4}{e:r9}{g:Nat}{v:x3}{L:List α}
theorem be.nil(f:α->List x3)(k:Nat)(e:r9)(w:x4)(g:Nat):be f k e w g (.slice ν 0 0) []:=⟨bW.nil w g e k,λa h=>by cases h⟩
theorem be.leads(h:be f k e w g v L)(j:leadsTo v r):r=g/\g<w.heap.size:=by
 obtain⟨_,⟨rfl,_⟩|⟨cap,cs,rfl,p,_⟩⟩:=h.1
 .exact (fg j).elim
 .obtain⟨a,n,c,h1,q⟩:=j;cases h1;exact⟨q.symm,p.lt⟩
theorem be.aa(h:be f k e w g v L)(a:ae S w w')(j:∀r,leadsTo v r->¬S r):be f k e w' g v L:=
 ⟨⟨h.1.1,h.1.2.imp id λ⟨cap,cs,h1,p,q⟩=>⟨cap,cs,h1,p.aa a (j g ⟨_,_,_,h1,rfl⟩),q⟩⟩,h.2⟩
theorem be.ext(h:be f k e w g v L)(a:Ext w w'):be f k e w' g v L:=h.aa (a.aa λ_=>False) λ_ _ h=>h
theorem be.sl(h:be f k e w g v L):cc w k v L.length (L.flatMap f):=h.1.sl
theorem be.le(h:be f k e w g v L):L.length<=9223372036854775807:=by
 have:=cc.le h.sl;simpa[maxLen]using this
theorem e9{a:r9}(j:P.underlying t=σ (.slice e))(h:be f k e w g v L):V P (W7 #[t] a #[v]) w K=K (Δ L.length):=by
 obtain⟨_,_,_,_,_,rfl,_⟩:=h.sl;exact hQ j
theorem dE{q:o9}{b:Nat}{i:Nat}(a:y=(i:Int))(j:P.underlying t=σ (.slice e))(hi:aP P e k b z)(h:be f k e w g v L)(p:i<L.length):
  V P (j5 t v (.int q y)) w K=K (.pointer (σ ⟨g,i*k,ν⟩)):=by
 subst a;obtain⟨_,⟨rfl,r⟩|⟨cap,cs,rfl,s,x⟩⟩:=h.1
 .omega
 .rw[eL j hi p (λ_=>rfl),X3]
theorem be.range{i:Nat}{a:α}(h:be f k e w g v L)(hi:L[i]?=σ a):w.rangeAt g (i*k) (f a):=λj u hu=>by
 have h1:=pg h.2 hi hu;have s:=(x5.1 hi).1;obtain⟨_,⟨rfl,x⟩|⟨cap,cs,rfl,q,_,_,y,r⟩⟩:=h.1
 .omega
 .have p:=(x5.1 h1).1;rw[io h.2]at p;rw[<-r,Y0 p]at h1;exact q.cell h1
theorem KZ{b:Nat}{i:Nat}{a:α}{K:Unit->x4->Prop}(hi:aP P t k b z)(h:be f k e w g v L)(j:(f a).length=k)(h1:∀u∈f a,u.oneCell'=true)(s:i<L.length)(A:∀w',ae (λr=>leadsTo v r) w w'->w'.heap.size=w.heap.size->be f k e w' g v (L.set i a)->K () w'):aC P (o8 t (.pointer (σ ⟨g,i*k,ν⟩)) (.agg (f a).toArray)) w K:=by
 have M:=io h.2;have B:(i+1)*k<=L.length*k:=W0 _ s;rw[U7,Nat.one_mul]at B;obtain⟨⟨N,⟨rfl,O⟩|⟨cap,cs,rfl,C,x,E,y,F⟩⟩,p⟩:=h
 .omega
 .have G:L.length*k<=cs.length:=by rw[y];exact W0 _ x
  refine zD hi j h1 C Ω λw' H I J=>A w' (H.mono λr _ he=>⟨_,_,_,rfl,he.symm⟩) I ⟨⟨?_,.inr ⟨cap,_,Ξ,J,by simpa using x,E,by rw[lU,y],?_⟩⟩,λb q=>?_⟩
  .rw[io (L:=L.set i a) λb q=>by
    rcases W5 q with h|rfl
    .exact p b h
    .exact j]
  .rw[Z9,<-vG p j s,<-F,sF (by rw[j];omega) G]
  .rcases W5 q with h|rfl
   .exact p b h
   .exact j
theorem ph{b:Nat}{u:x3}{i:Nat}{a a':α}{K:Unit->x4->Prop}(hi:aP P t 1 b z)(hu:u.cells= #[u])(h1:u.oneCell'=true)(h:be f k e w g v L)(s:L[i]?=σ a)(A:f a'=(f a).set j u)(W:j<k)(M:∀w',ae (λr=>leadsTo v r) w w'->w'.heap.size=w.heap.size->be f k e w' g v (L.set i a')->K () w'):aC P (o8 t (.pointer (σ ⟨g,i*k+j,ν⟩)) u) w K:=by
 have B:=(x5.1 s).1;have X:=io h.2;have N:(i+1)*k<=L.length*k:=W0 _ B;rw[U7,Nat.one_mul]at N;have O:(f a).length=k:=h.2 a (x6 s);have q:(f a').length=k:=by rw[A,Z9];exact O
 have Q:(L.flatMap f).set (i*k+j) u=(L.set i a').flatMap f:=by
  rw[<-vG h.2 q B];refine Y7 λp=>?_;rw[nx _ _ _ Ω,X1,q];by_cases C:i*k<=p/\p<i*k+k
  .rw[if_pos C,A,X1];by_cases E:i*k+j=p
   .rw[if_pos E,if_pos Ω,if_pos Ω,if_pos Ω]
   .rw[if_neg E,if_neg Ω];obtain⟨y,F⟩:∃y,(f a)[p-i*k]?=σ y:=⟨_,x7 Ω⟩;have:=pg h.2 s F;rw[show i*k+(p-i*k)=p by omega]at this;rw[this,F]
  .rw[if_neg C,if_neg Ω]
 obtain⟨⟨Y,⟨rfl,Z⟩|⟨cap,cs,rfl,R,G,S,H,T⟩⟩,J⟩:=h
 .omega
 .have aa:L.length*k<=cs.length:=by rw[H];exact W0 _ G
  refine bq hi hu h1 R Ω λw' U I V=>M w' (U.mono λr _ he=>⟨_,_,_,rfl,he.symm⟩) I ⟨⟨?_,.inr ⟨cap,_,Ξ,V,by simpa using G,S,by rw[Z9,H],?_⟩⟩,λb x=>?_⟩
  .rw[io (L:=L.set i a') λb x=>by
    rcases W5 x with h|rfl
    .exact J b h
    .exact q]
  .rw[Z9,<-Q,<-T,List.take_set]
  .rcases W5 x with h|rfl
   .exact J b h
   .exact q
theorem ip{M:r9}{b:Nat}{x:x3}{a:α}{K:x3->x4->Prop}(A:P.underlying t=σ (.slice e))(hi:aP P e k b z)(H:z.cells.size=k)(h:be f k e w g v L)(F:cc w k x 1 (f a))(h1:∀u∈f a,u.oneCell'=true)(B:(L.length+1)*b<=140737488355328)(I:L.length+1<=9223372036854775807)(J:∀j p w',be f k e w' p j (L++[a])->(∀r,leadsTo j r->leadsTo v r\/w.heap.size<=r)->ae (λr=>leadsTo v r) w w'->K j w'):aC P (Z3 #[t,t] M #[v,x]) w K:=by
 have N:(f a).length=k:=by have:=F.1;omega
 have C:∀j p w',bW w' p e k j (L.length+1) (L.flatMap f++f a)->be f k e w' p j (L++[a]):=λj p w' hm=>⟨by simpa using hm,λb B=>by
  rcases l9.1 B with h'|h'
  .exact h.2 b h'
  .rw[j4.1 h'];exact N⟩
 rcases h.1.2 with⟨q,O⟩|⟨cap,cs,q,Q,_⟩
 .have hm:bW w w.heap.size e k v L.length (L.flatMap f):=⟨h.1.1,.inl ⟨q,O⟩⟩;subst q;refine nz A A hi H hm F h1 (by simpa using B) (by simpa[maxLen]using I) λj p w' E s G=>J j p w' (C _ _ _ s) (λr y=>.inr ?_) (G.mono λr y h=>Ω);have:=((C _ _ _ s).leads y).1;omega
 .refine nz A A hi H h.1 F h1 (by simpa using B) (by simpa[maxLen]using I) λj p w' E s G=>J j p w' (C _ _ _ s) (λr y=>?_) (G.mono λr y h=>⟨_,_,_,q,h.symm⟩);have:=((C _ _ _ s).leads y).1;rcases E with E|E
  .exact .inl ⟨_,_,_,q,by show g=r;omega⟩
  .exact .inr Ω
theorem K0{p:r9}{b:Nat}{x:x3}{a:α}{K:x3->x4->Prop}(q:P.underlying t=σ (.slice e))(hi:aP P e k b z)(s:z.cells.size=k)(h:be f k e w g v L)(y:cc w k x 1 (f a))(h1:∀a,∀u∈f a,u.oneCell'=true)(A:(L.length+1)*b<=140737488355328)(B:L.length+1<=9223372036854775807)(C:∀j E w',be f k e w' E j (L++[a])->(∀r,leadsTo j r->leadsTo v r\/w.heap.size<=r)->ae (λr=>leadsTo v r) w w'->K j w'):aC P (Z3 #[t,t] p #[v,x]) w K:=ip q hi s h y (h1 a) A B C
theorem h2{b:Nat}{a:α}{x:x3}{K:x3->x4->Prop}(q:P.underlying t=σ (.slice e))(hi:aP P e k b z)(B:k<=100000)(j:x.cells=(f a).toArray)(p:(f a).length=k)(r:∀v g w',g=w.heap.size->Ext w w'->be f k e w' g v [a]->K v w'):aC P (Y8 t 1 #[(0,x)]) w K:=
 jF q hi Ω (cs:=x.cells) (zO Ξ (by rw[j];simpa using p)) λg w' s y h=>by
  have h:ad w' g e (f a):=by rw[j]at h;simpa using h
  exact r _ g w' s y ⟨by simpa using bW.full (k:=k) (n:=1) h Ω (by simp[maxLen]),λc A=>by rw[j4.1 A];exact p⟩
end
end Go.Vc
namespace Go.Proofs.YtikkpokkcdocoaaGreatDoor
open Go Go.Vc Go.RowKit Go.Proofs Go.Proofs.Tryz
set_option maxRecDepth 100000
theorem vH{α:Type}:∀{l:List α}{j:Nat}{x:α},l[j]?=σ x->(x::l.eraseIdx j).Perm l
 |[],j,x,h=>by simp at h
 |a::l,0,x,h=>by simp at h;subst h;exact List.Perm.refl _
 |a::l,j+1,x,h=>by
  simp at h;rw[List.eraseIdx_cons_succ];exact(List.Perm.swap a x _).trans ((vH h).cons a)
theorem BC{α:Type}{l:List α}(h:j<l.length):(l.eraseIdx j).length+1=l.length:=by
 rw[List.length_eraseIdx,if_pos h];omega
def pi(w:x4)(a:Nat):Nat:=match w.heap[a]? with
 |some (.mapIter (σ m) _ seen _)=>(match w.heap[m]? with
  |some (.map e _)=>(leftOf e seen).size
  |_=>0)
 |_=>0
theorem sG{m:Nat}{d left:List (x3×x3)}{e:Option (x3×x3)}(h:hA w a m d left e):pi w a=left.length:=by
 obtain⟨j,p,seen,gX,h1,_,_,f,_,rfl,_⟩:=h;unfold pi;rw[f];simp only;rw[h1];simp
theorem K1{w0:x4}{m:Nat}{d d0 left:List (x3×x3)}{e:Option (x3×x3)}(h:hA w a m d left e)(hm:c7 w0 m d0)(h1:Ext w0 w)(j:Ext w0 w')(hi:e4 w w'):hA w' a m d left e:=by
 obtain⟨p,c,s,gX,q,r,x,y,z⟩:=h;obtain⟨A,B,f1,_⟩:=hm;have g1:=h1.aU m _ f1 rfl;have f:=j.aU m _ f1 rfl;rw[q]at g1;rw[<-g1]at f;exact⟨p,c,s,gX,f,r,x,hi a _ y rfl,z⟩
abbrev nP(w:x4)(g:Nat)(v:x3)(L:List (Λ)):Prop:=be (ints .i8) 6 cE w g v L
theorem BD{k:o9}:∀u∈ints k l,u.oneCell'=true:=λu hu=>by
 obtain⟨x,_,rfl⟩:=j0.1 hu;rfl
theorem keysIter{dg m:Nat}{d:List (x3×x3)}{KS:List (Λ)}{w0:x4}(R:ad w0 dg iE [.map (σ m)])(hm:c7 w0 m d)(S:d.map (·.1)=KS.map en)(V:∀ks∈KS,ks.length=6):
  oB x8 true lP [Γ dg] ([]:List (Λ)) (λh=>h.Perm KS) (λh vs h' _=>∃ks∈KS,h.length<KS.length/\vs=[en ks]/\h'=h++[ks]) (λw=>Ext w0 w):=by
 refine⟨lP.enters,λl aw aE w f _ W q X=>?_⟩;refine p1 func277 ?_;rw[aF Ψ ((R.ext q).Qz rfl)];refine aC.cu (Bn iE.u (hm.ext q) λB J Y r aG Z aa=>?_);refine⟨λU=>∃h a left C,aw h U/\Ext w0 U/\w.heap.size<=U.heap.size/\hA U B m d left C/\left.map (·.1)=a.map en/\(h++a).Perm KS,λU=>pi U B,
  ⟨[],KS,d,ν,f _ _ _ r aa.b X,q.trans r,r.size,Z,S,List.Perm.refl _⟩,?_⟩
 rintro U ⟨h,a,left,C,E,ab,aH,G,s,e⟩;have ac:left.length=a.length:=by have:=congrArg Q0 s;simpa using this
 refine Bp G (λh=>by cases h) (λae=>?_) (λj p af H I ag K=>?_)
 .rw[iH (v:=.bool false) rfl,aY];subst ae;have:a=[]:=b9 (by rw[<-ac];rfl);subst this;rw[U9]at e;exact .inl ⟨h,e,E⟩
 .rw[iH (v:=.bool true) rfl,bQ];refine Bq K ?_;obtain⟨ks,x,ah⟩:∃ks,a[j]?=σ ks/\p.1=en ks:=by
   have h1:(left.map (·.1))[j]?=σ p.1:=by rw[v8,H];rfl
   rw[s,v8]at h1;obtain⟨ks,L,ai⟩:=Y6.1 h1;exact⟨ks,L,ai.symm⟩
  have M:ks∈KS:=e.mem_iff.1 (l9.2 (.inr (x6 x)));have N:=V ks M;rw[iH (v:=p.1) rfl,ah];refine aC.cu (bw cE.i λaI aJ aK aj ak al=>?_);refine aC.cu (qq N rfl ak λy am aL an ao=>?_);rw[nO N an.range];have z:Ext af y:=aj.put am Ω;have O:=al.trans ao;have P:Ext w0 y:=(ab.trans I).trans z;have ap:=f _ _ _ I (by rw[<-Y];exact ag) E;have aq:=f _ _ _ z O.b ap;have au:=K.ext z O.kc;have av:h.length<KS.length:=by
   have h1:=e.length_eq;have L:=(x5.1 x).1;rw[o7]at h1;omega
  refine⟨rfl,(W h (h++[ks]) _ y P ⟨ks,M,av,rfl,rfl⟩ aq).mono ?_⟩;rintro _ ax (⟨rfl,Q,ay,az⟩|⟨rfl,aA⟩)
  .simp only[bJ,Y9,aY];have A:=K1 au hm P Q (az rfl).kc;have aB:w.heap.size<=ax.heap.size:=by
    obtain⟨_,_,_,_,_,_,_,aD,_⟩:=A;have:=(j6.1 aD).1;omega
   refine⟨⟨h++[ks],a.eraseIdx j,left.eraseIdx j,σ p,ay,Q,aB,A,?_,?_⟩,?_⟩
   .rw[<-mH,s,mH]
   .refine List.Perm.trans ?_ e;rw[T3];exact List.Perm.append_left h (vH x)
   .rw[sG A,sG G];have:=BC (x5.1 H).1;omega
  .simp only[bJ,X9,bQ];exact .inr ⟨h,aA⟩
theorem K2{m:Nat}:ai x8 IB [.map (σ m)] w λr w'=>Ext w w'/\∃g,r= .func (.func lP) #[] #[Γ g]/\w.heap.size<=g/\ad w' g iE [.map (σ m)]:=by
 refine ay func244 ?_;refine bk λg J f a e=>?_;rw[kV];exact⟨a,g,rfl,Ω,e⟩
theorem K3{dg m:Nat}{d:List (x3×x3)}{KS:List (Λ)}(W:ad w dg iE [.map (σ m)])(hm:c7 w m d)(X:d.map (·.1)=KS.map en)(E:∀ks∈KS,ks.length=6)(aA:KS.length<=1000000):
  ai x8 IY [.slice ν 0 0,.func (.func lP) #[] #[Γ dg]] w λv w'=>Ext w w'/\∃g L,(∀r,leadsTo v r->w.heap.size<=r)/\L.Perm KS/\nP w' g v L:=by
 refine iF func290 ?_;refine bk λgs J aB G q=>?_;have q:ad J gs je [.slice ν 0 0]:=q;have aD:=q.lt;refine kK.old ⟨List (Λ),true,_,_,_,_,_,_,λh w'=>ae (λr=>w.heap.size<=r) w w'/\∃v g,ad w' gs je [v]/\(∀r,leadsTo v r->w.heap.size<=r/\r≠gs)/\nP w' g v h,λ_ _ _=>False,rfl,keysIter W hm X E,?_,λ_ _ j h=>h.trans j,
  λ_ _ _ j h=>⟨h.1.trans (j.aa _),by obtain⟨v,g,h1,Y,Z⟩:=h.2;exact⟨v,g,h1.ext j,Y,Z.ext j⟩⟩,λ_ _ _ _ _ h=>h,G,⟨G.aa _,_,0,q,λr h=>(fg h).elim,be.nil _ _ _ _ _⟩,?_,?_,λ_ _ h=>h.elim,λ_ _ _ h=>h.elim⟩
 .rintro h _ h' w' ⟨ks,_,_,rfl,_⟩;rfl
 .rintro a h h' U ab ⟨ks,ac,aE,af,rfl⟩ ⟨H,v,g,y,c8,z⟩;cases af;have A:=E ks ac;have aG:h.length<=1000000:=Ω
  refine aC.cu (bw cE.i λaH aI aJ ag I ah=>?_);refine aC.cu (qq A rfl I λaj ak aK al am=>?_);intro aL K _ an;have aM:=I.lt;have ao:Ext U aj:=ag.put ak Ω;have p:=ao.trans K;rw[aF Ψ ((y.ext p).Qz rfl),nO A (al.ext K).range];refine aC.cu (h2 (f:=ints .i8) (a:=ks) je.u cE.i Ω (by simp[en,x3.cells]) (by simp[A]) λa ga aN aO s ap aq=>?_);have M:=ap.sl;rw[V4,List.flatMap_nil,U9]at M;refine aC.cu (K0 je.u cE.i rfl ((z.ext p).ext s) M (λa=>BD) Ω Ω λN au O B av x aw=>?_);have aP:=H.size;have aQ:=p.size;have aR:=s.size;have aS:=y.lt;have P:∀r,leadsTo N r->w.heap.size<=r/\r≠gs:=λr e=>by
   rcases av r e with h|h
   .exact c8 r h
   .omega
  have C:ad O gs je [v]:=((y.ext p).ext s).aa x (λh=>(c8 gs h).2 rfl);refine aC.cu (bq je.i (by obtain⟨_,_,_,_,_,rfl,_⟩:=B.sl;rfl) (by obtain⟨_,_,_,_,_,rfl,_⟩:=B.sl;rfl) C Ξ λQ R aT ax ay=>?_);have S:ae (λr=>w.heap.size<=r) U Q:=(((p.trans s).aa _).trans (x.mono λr _ h=>(c8 r h).1)).trans (R.mono λr _ h=>by show w.heap.size<=r;omega);refine⟨ab.then S (λr e h=>by have h:w.heap.size<=r:=h;omega),⟨H.trans S,N,au,ax,P,B.aa R λr e h=>(P r e).2 h⟩,λ_=>?_⟩;exact((((ah.kc.trans am.kc).trans an).trans aq.kc).trans aw.kc).trans ay.kc
 .rintro h O az ⟨x,v,g,C,c8,z⟩;rw[aF Ψ (C.Qz rfl)];intro Q V _;exact⟨(x.ext λr e h=>by have:w.heap.size<=r:=h;omega).trans V,g,h,λr e=>(c8 r e).1,az,z.ext V⟩
theorem K4{dg m:Nat}{d:List (x3×x3)}{KS:List (Λ)}(a:ad w dg iE [.map (σ m)])(hm:c7 w m d)(e:d.map (·.1)=KS.map en)(f:∀ks∈KS,ks.length=6)(j:KS.length<=1000000):
  ai x8 IS [.func (.func lP) #[] #[Γ dg]] w λv w'=>Ext w w'/\∃g L,(∀r,leadsTo v r->w.heap.size<=r)/\L.Perm KS/\nP w' g v L:=by
 refine ay func275 ?_;exact(K3 a hm e f j).mono λ_ _ _ h=>h
def gE:Λ->Int
 |[]=>0
 |x::l=>x*32 ^ l.length+gE l
theorem vI(n:Nat):(0:Int)<32 ^ n:=Int.pow_pos Ω
theorem sH:∀(l:Λ),(∀x∈l,0<=x/\x<32)->0<=gE l/\gE l<32 ^ l.length
 |[],_=>by simp[gE]
 |x::l,h=>by
  have j:=sH l λy a=>h y (.tail _ a);have f:=h x (.head _);have p:=vI l.length;simp only[gE,Z5];have e:(32:Int) ^ (l.length+1)=32*32 ^ l.length:=by rw[Int.pow_succ,Int.mul_comm]
  have h1:x*32 ^ l.length<=31*32 ^ l.length:=Int.mul_le_mul_of_nonneg_right Ω Ω;have q:0<=x*32 ^ l.length:=Int.mul_nonneg f.1 Ω;rw[e];omega
def iq:Λ->Λ->Int
 |x::a,y::b=>if x<y then-1 else if y<x then 1 else iq a b
 |_,_=>0
theorem BE:∀(a b:Λ),a.length=b.length->(∀x∈a,0<=x/\x<32)->(∀x∈b,0<=x/\x<32)->(iq a b<0↔gE a<gE b)/\(gE a=gE b->a=b)
 |[],[],_,_,_=>by simp[iq]
 |[],_::_,h,_,_=>by simp at h
 |_::_,[],h,_,_=>by simp at h
 |x::a,y::b,h,s,w=>by
  have j:a.length=b.length:=by simpa using h
  have p:∀x∈a,0<=x/\x<32:=λz e=>s z (.tail _ e);have q:∀x∈b,0<=x/\x<32:=λz e=>w z (.tail _ e);have r:=BE a b j p q;have A:=sH a p;have C:=sH b q;have E:=vI b.length;simp only[iq,gE];rw[j]at A ⊢;have step:∀u v:Int,u<v->u*32 ^ b.length+32 ^ b.length<=v*32 ^ b.length:=λu v F=>by
   have:=Int.mul_le_mul_of_nonneg_right (show u+1<=v by omega) (show(0:Int)<=32 ^ b.length by omega);rw[Int.add_mul,Int.one_mul]at this;exact this
  by_cases h1:x<y
  .rw[if_pos h1];have:=step x y h1;exact⟨⟨λ_=>Ω,λ_=>Ω⟩,λh=>Ω⟩
  .rw[if_neg h1];by_cases f:y<x
   .rw[if_pos f];have:=step y x f;exact⟨⟨λh=>Ω,λh=>Ω⟩,λh=>Ω⟩
   .rw[if_neg f];have B:x=y:=Ω
    subst B;exact⟨r.1.trans ⟨λh=>Ω,λh=>Ω⟩,λh=>by rw[r.2 Ω]⟩
theorem vJ:∀{a b:Λ}{i:Nat},(∀(j:Nat)(x y:Int),j<i->a[j]?=σ x->b[j]?=σ y->x=y)->i<=a.length->i<=b.length->iq a b=iq (a.drop i) (b.drop i)
 |_,_,0,_,_,_=>Ξ
 |[],_,i+1,_,h,_=>by simp at h
 |_::_,[],i+1,_,_,h=>by simp at h
 |x::a,y::b,i+1,he,h1,e=>by
  have f:=he 0 x y Ω rfl rfl;subst f;simp only[iq,Int.lt_irrefl,if_false,List.drop_succ_cons];exact vJ (λj u v q hu p=>he (j+1) u v Ω hu p) (by simpa using h1) (by simpa using e)
theorem BF{x:Int}:ai x8 IX [.int .i8 x] w λv w'=>v= .bool false/\Ext w w':=by
 refine ay func289 ?_;simp only[bK];exact⟨Ξ,Ext.refl _⟩
theorem K5{x:Int}:ai x8 IR [.int .i8 x,.int .i8 y] w λv w'=>v=Δ (if x<y then-1 else if y<x then 1 else 0)/\Ext w w':=by
 refine ay func274 ?_;refine BF.mono ?_;rintro _ J _ ⟨rfl,a⟩;refine BF.mono ?_;rintro _ U _ ⟨rfl,e⟩;simp only[aY,aR,bS,aj];exact⟨λh=>⟨by rw[if_pos h],a.trans e⟩,λh=>⟨λf=>⟨by rw[if_neg h,if_pos f],a.trans e⟩,λf=>⟨by rw[if_neg h,if_neg f],a.trans e⟩⟩⟩
theorem K6{a8 bv:x3}{a b:Λ}(q:aH .i8 w a8 a)(s:aH .i8 w bv b)(S:a.length=b.length):ai x8 Iz [a8,bv] w λv w'=>v=Δ (iq a b)/\Ext w w':=by
 refine ay func242 ?_;have V:=q.le;rw[aV kS.u q];refine b3.range a.length (λi _ J=>Ext w J/\∀(j:Nat)(x y:Int),j<i->a[j]?=σ x->b[j]?=σ y->x=y) Ω ⟨Ext.refl _,λj x y I=>Ω⟩ ?_ ?_
 .rintro i _ J K hi ⟨e,r⟩ L;simp only[aR,aj];refine⟨λ_=>?_,λh=>Ω⟩;obtain⟨x,z⟩:=aD (l:=a) hi;obtain⟨y,A⟩:=aD (l:=b) (i:=i) Ω;rw[bc kS.u fU.i Ψ (q.ext e) z,aV kS.u (s.ext e)];simp only[cQ,aj];refine⟨λh=>Ω,λ_=>?_⟩;rw[bc kS.u fU.i Ψ (s.ext e) A];refine K5.mono ?_;rintro _ U _ ⟨rfl,E⟩;have f:iq a b=iq (a.drop i) (b.drop i):=vJ r Ω Ω;have M:a.drop i=x::a.drop (i+1):=by rw[X8 hi,(x5.1 z).2]
  have N:b.drop i=y::b.drop (i+1):=by rw[X8 Ω,(x5.1 A).2]
  rw[M,N]at f;simp only[iq]at f;simp only[bK,aj,aM];refine⟨λG=>⟨?_,e.trans E⟩,λO=>L _ _ ⟨e.trans E,λj P Q I B C=>?_⟩⟩
  .rw[f];by_cases h1:x<y
   .rw[if_pos h1,if_pos h1]
   .by_cases p:y<x
    .rw[if_neg h1,if_pos p,if_neg h1,if_pos p]
    .rw[if_neg h1,if_neg p]at G;exact absurd rfl G
  .by_cases R:j=i
   .subst R;rw[z]at B;rw[A]at C;cases B;cases C;have H:=X2.1 O;by_cases h1:x<y
    .rw[if_pos h1]at H;omega
    .by_cases p:y<x
     .rw[if_neg h1,if_pos p]at H;omega
     .omega
   .exact r j P Q Ω B C
 .rintro _ J K ⟨e,r⟩;simp only[aR,show decide ((a.length:Int)<(a.length:Int))=false from decide_eq_false Ω,aY];rw[aV kS.u (q.ext e),aV kS.u (s.ext e)];simp only[aR,aj];refine⟨λh=>Ω,λ_=>⟨?_,e⟩⟩;have f:iq a b=iq (a.drop a.length) (b.drop a.length):=vJ r Ω Ω;rw[f,List.drop_length];cases b.drop a.length<;>rfl
theorem K7{a b:Λ}(p:k6 a)(q:k6 b):ai x8 zs [en a,en b] w λv w'=>Ext w w'/\v=Δ (iq a b):=by
 have B:∀{c:Λ},k6 c->(ints .i8 c).length=6:=λh=>by simp[h.1]
 refine ay func241 ?_;refine bk λg1 J C y e=>?_;refine bk λE U G r f=>?_;rw[Br]at e f;intro s j _ _;have e:=(e.ext r).ext j;have f:=f.ext j;rw[r3 cE.u fU.i (l:=0) (h:=6) (m:=6) jD jE fE Ω Ω Ω,r3 cE.u fU.i (l:=0) (h:=6) (m:=6) jD jE fE Ω Ω Ω];rw[if_neg Ω,if_neg Ω];have ls:∀{g:Nat}{c:Λ},k6 c->ad s g cE (ints .i8 c)->aH .i8 s (.slice (σ ⟨g,0+0*1,ν⟩) (6-0) (6-0)) c:=λ{g c}x z=>by
  unfold aH;refine⟨Ξ,g,0,_,6,by rw[x.1],by rw[x.1];omega,by simp[maxLen],λ_=>rfl,z.range⟩
 refine(K6 (ls p e) (ls q f) (by rw[p.1,q.1])).mono ?_;rintro _ H _ ⟨rfl,A⟩;exact⟨((y.trans r).trans j).trans A,rfl⟩
end Go.Proofs.YtikkpokkcdocoaaGreatDoor
namespace Go.Vc
open Go Go.RowKit Go.Shelf Go.Proofs Go.Sort
theorem grown_of(f:Ext w w')(a:cJ w w'):∃q os,w'=grow (w.drewN q) os:=by
 refine⟨w'.drawn-w.drawn,w'.heap.extract w.heap.size w'.heap.size,?_⟩;have hk:∀k,k<w.heap.size->w'.heap[k]?=w.heap[k]?:=λk hk=>by
  have e:w.heap[k]?=σ w.heap[k]:=Array.getElem?_eq_getElem hk;rw[e];cases I:fx w.heap[k]with
  |true=>exact f.aU k _ e I
  |false=>exact a.aU k _ e I
 have ap:w'.heap=w.heap++w'.heap.extract w.heap.size w'.heap.size:=by
  apply Array.ext_getElem?;intro k;rw[Array.getElem?_append];by_cases h:k<w.heap.size
  .rw[if_pos h,hk k h]
  .rw[if_neg h,Array.getElem?_extract];have:=f.size;by_cases j:k<w'.heap.size
   .rw[if_pos Ω];congr 1;omega
   .rw[if_neg Ω,Array.getElem?_eq_none Ω]
 have h1:=a.os;have j:=a.tape.1;have p:=a.output;have r:w.drawn+(w'.drawn-w.drawn)=w'.drawn:=by have:=a.tape.2;omega
 cases w';simp only[grow,x4.drewN]at*;subst h1 j p;rw[<-ap,r]
section
variable{α:Type}[Inhabited α]
theorem BG(enc:α->List x3)(k:Nat)(hk:∀x,(enc x).length=k)(d:Array α):(flatK enc k d).toList=d.toList.flatMap enc:=by
 apply Y7;intro t;by_cases h:t<d.size*k
 .have j:0<k:=by
   rcases Q2 k with e|e
   .rw[e]at h;simp at h
   .exact e
  have p:t / k<d.size:=(Nat.div_lt_iff_lt_mul j).2 h;have q:=Nat.mod_lt t j;have r:(flatK enc k d).toList[t]?=σ ((enc d[t / k]!)[t % k]!):=by
   rw[S7,Array.getElem?_eq_getElem (by simpa using h)];have:=get_flatK enc k d t h;rw[getElem!_pos _ t (by simpa using h)]at this;rw[this]
  have s:d.toList[t / k]?=σ d[t / k]!:=by
   rw[S7,Array.getElem?_eq_getElem p,getElem!_pos d _ p]
  have w:(enc d[t / k]!)[t % k]?=σ ((enc d[t / k]!)[t % k]!):=by
   generalize d[t / k]! =z;rw[x7 (by rw[hk];exact q),getElem!_pos (enc z) _ (by rw[hk];exact q)]
  have:=pg (f:=enc) (k:=k) (λa _=>hk a) s w;rw[r,<-this];congr 1;rw[Nat.mul_comm];exact Nat.div_add_mod t k
 .rw[Y4 (by simpa using h),Y4];rw[io (k:=k) λa _=>hk a];simpa using h
theorem BH(enc:α->List x3)(k:Nat)(hk:∀x,(enc x).length=k){g m:Nat}{d:Array α}{os:Array Obj}(h:ad w g e cs)(y:d.size*k<=cs.length):
  ad (sortWorldK enc k w g 0 m d os) g e (d.toList.flatMap enc++cs.drop (d.size*k))/\∀r,r<w.heap.size->r≠g->(sortWorldK enc k w g 0 m d os).heap[r]?=w.heap[r]?:=by
 have q:=h.lt;have p:∀r,r<w.heap.size->(sortWorldK enc k w g 0 m d os).heap[r]?=(w.heap.modify g (onCells (putCells id 0 (flatK enc k d))))[r]?:=λr j=>by
  show((w.heap.modify g (onCells (putCells id 0 (flatK enc k d))))++os)[r]?=_;rw[Array.getElem?_append_left (by simpa using j)]
 refine⟨?_,λr j s=>?_⟩
 .unfold ad at h ⊢;rw[p g q,Array.getElem?_modify,if_pos rfl,h];show σ (Obj.cells (putCells id 0 (flatK enc k d) cs.toArray) e (0,0))=_;refine congrArg σ (congrArg (λc=>Obj.cells c e (0,0)) ?_);apply Array.ext';apply Y7;intro t;show _=(d.toList.flatMap enc++cs.drop (d.size*k))[t]?;rw[List.getElem?_append,io (k:=k) λa _=>hk a,S7];unfold putCells;rw[Array.getElem?_mapIdx,List.getElem?_toArray];have I:d.toList.length=d.size:=rfl;by_cases f:t<d.size*k
  .rw[if_pos (by rw[I];exact f),x7 Ω,<-BG enc k hk,S7,Array.getElem?_eq_getElem (by simpa using f)];simp only[Z7,id];rw[if_pos (by simpa using f),Nat.sub_zero,getElem!_pos _ t (by simpa using f)]
  .rw[if_neg (by rw[I];exact f),S2,I,show d.size*k+(t-d.size*k)=t by omega];cases z:cs[t]? with
   |none=>rfl
   |some x=>
    simp only[Z7];rw[if_neg Θ]
 .rw[p r j,Array.getElem?_modify,if_neg (S6 s)]
end
theorem BI{P:W9}{E:Ren}(V:SlLaysF0.n6 P E){α:Type}{f:α->List x3}{k:Nat}{G:α->Prop}{num:α->Int}{cf:α->α->Int}{F:R6}{cap:Array x3}(aA:∀w,(isAgg (E.t 24)).run P w= .ok true w)(aB:∀w,(Go.sizeOf (E.t 24)).run P w= .ok k w)(h1:∀a,G a->∀u∈f a,u.oneCell'=true)(hk:∀a,G a->(f a).length=k)(aC:∀a b,G a->G b->(cf a b<0↔num a<num b))(ag:Enters P F){w:x4}{g:Nat}{v:x3}{L:List α}(h:be f k e w g v L)(J:∀a∈L,G a)(ah:L.length<65536)(aD:∀W a b,ae (λr=>r=g) w W->G a->G b->ai P F ([.agg (f a).toArray,.agg (f b).toArray]++cap.toList) W λu aE=>Ext W aE/\u=Δ (cf a b)):
  ai P (E.f 6) [v,.func (.func F) #[] cap] w λ_ w'=>ae (λr=>leadsTo v r) w w'/\∃M,M.Perm L/\(∀(p q:Nat)(x y:α),p<q->M[p]?=σ x->M[q]?=σ y->num x<=num y)/\be f k e w' g v M:=by
 have aj:Enters P (E.f 6):=λargs w=>V.f6.enters rfl args w;obtain⟨⟨aX,aF⟩,aY⟩:=id h;have ak:∀p c,v= .slice p 0 c->L=[]->ai P (E.f 6) [v,.func (.func F) #[] cap] w λ_ w'=>ae (λr=>leadsTo v r) w w'/\∃M,M.Perm L/\(∀(p q:Nat)(x y:α),p<q->M[p]?=σ x->M[q]?=σ y->num x<=num y)/\be f k e w' g v M:=λp c K ah=>by
  refine .code aj ?_;rw[K];refine(AnyF.slices_SortFunc_none V p c _ w).mono ?_;rintro aZ w' ⟨rfl,rfl⟩;refine⟨_,rfl,cJ.refl _,ae.refl _ _,L,.refl _,λp q x y _ B=>by rw[ah]at B;simp at B,by rw[<-K];exact h⟩
 rcases aF with⟨rfl,aG⟩|⟨c,cs,rfl,C,al,hm,X,aH⟩
 .exact ak _ _ rfl (b9 aG)
 cases Y:L with
 |nil=>subst Y;exact ak _ _ rfl rfl
 |cons a0 a1=>
 rw[<-Y];let β:={a:α // G a};have:Inhabited β:=⟨⟨a0,J a0 (by rw[Y];exact .head _)⟩⟩;let enc:β->List x3:=λx=>f x.1;let d:Array β:=(L.attach.map λx=>(⟨x.1,J x.1 x.2⟩:β)).toArray;have am:d.toList.map Subtype.val=L:=by
  show(L.attach.map λx=>(⟨x.1,J x.1 x.2⟩:β)).map Subtype.val=L;rw[R2];exact List.attach_map_subtype_val L
 have Q:d.size=L.length:=by simp[d]
 have H:∀x:β,(enc x).length=k:=λx=>hk x.1 x.2;have aI:d.toList.flatMap enc=L.flatMap f:=by
  have N:=congrArg (λl=>l.flatMap f) am;rw[<-N];exact(List.flatMap_map Subtype.val f d.toList).symm
 have R:d.size*k<=cs.length:=by rw[Q,X];exact W0 k al
 have aJ:HoldsK enc k w g 0 d:=by
  intro j S;rw[size_flatK]at S;have an:j<cs.length:=Ω
  have Z:(flatK enc k d)[j]! =cs[j]:=by
   have N:(flatK enc k d).toList[j]?=σ cs[j]:=by
    rw[BG enc k H,aI,<-aH,Y0 (by rw[<-Q];exact S),x7 an]
   rw[S7]at N;rw[getElem!_pos _ j (by simpa using S)];rw[Array.getElem?_eq_getElem (by simpa using S)]at N;exact Z0 N
  refine⟨?_,?_⟩
  .show w.cell? ⟨g,0+j,ν⟩=σ ((flatK enc k d)[j]!);rw[Z];exact C.cell (o:=0+j) (by rw[X3];exact x7 an)
  .unfold x4.frozen?;unfold ad at C;rw[C];simp
 have T:∀x y:β,ltOf (λx y:β=>cf x.1 y.1) x y=decide (num x.1<num y.1):=λx y=>by
  unfold ltOf;exact decide_eq_decide.2 (aC x.1 y.1 x.2 y.2)
 have aK:SWO (ltOf λx y:β=>cf x.1 y.1):=
  ⟨λx=>by rw[T];simp,λx y z p q=>by rw[T]at*;simp at*;omega,λx y z p q=>by rw[T]at*;simp at*;omega⟩
 have ao:∀m (d2:Array β) os,d2.size=d.size->ae (λr=>r=g) w (sortWorldK enc k w g 0 m d2 os)/\cJ w (sortWorldK enc k w g 0 m d2 os):=λm d2 os I=>by
  obtain⟨a2,ap⟩:=BH enc k H (m:=m) (os:=os) C (d:=d2) (by rw[I];exact R);have aq:w.heap.size<=(sortWorldK enc k w g 0 m d2 os).heap.size:=by
   show w.heap.size<=((w.heap.modify g _)++os).size;simp
  refine⟨⟨aq,λr o A _ aa=>?_⟩,rfl,⟨rfl,Nat.le_add_right _ _⟩,rfl,aq,λr o A I=>?_⟩
  .rw[ap r (j6.1 A).1 aa];exact A
  .have aa:r≠g:=λhe=>by subst he;unfold ad at C;rw[C]at A;cases A;cases I
   rw[ap r (j6.1 A).1 aa];exact A
 have aL:CmpLays P F cap enc k (λx y:β=>cf x.1 y.1) g 0 d.size w:=λm os aM I x y=>by
  have B:=(aD _ x.1 y.1 (ao m aM os I).1 x.2 y.2).calls ag;have O:([x3.agg (f x.1).toArray,.agg (f y.1).toArray]++cap.toList).toArray= #[.agg (enc x).toArray,.agg (enc y).toArray]++cap:=by
   apply Array.ext';simp[enc]
  rw[O]at B;refine B.mono ?_;rintro _ w' ⟨_,rfl,aN,aO,rfl⟩;exact⟨rfl,grown_of aO aN⟩
 have au:=AnyQ.slices_SortFunc V k aA aB enc H (λx=>h1 x.1 x.2) (λx y:β=>cf x.1 y.1) aK F cap g 0 c d w (λargs w=>ag args w) aL aJ C.lt (by rw[Q];omega);rw[Q]at au;refine .code aj (au.mono ?_);rintro _ w' ⟨rfl,s,n,os,⟨aP,_,K⟩,aQ,rfl⟩;have ab:s.size=d.size:=aP;obtain⟨aR,aS⟩:=ao n s os ab;obtain⟨aT,_⟩:=BH enc k H (m:=n) (os:=os) C (d:=s) (by rw[ab];exact R);have U:(s.toList.map Subtype.val).Perm L:=by
  have Z:(s.extract 0 L.length).toList=s.toList:=by rw[show L.length=s.size by omega,Array.extract_size]
  have aU:(d.extract 0 L.length).toList=d.toList:=by rw[show L.length=d.size by omega,Array.extract_size]
  rw[Z,aU]at K;rw[<-am];exact K.map _
 have av:=U.length_eq;refine⟨_,rfl,aS,aR.mono λr _ A=>⟨_,_,_,rfl,A.symm⟩,s.toList.map Subtype.val,U,λp q x y aV B aw=>?_,⟨?_,.inr ⟨c,_,by rw[av],aT,by rw[av];exact al,hm,?_,?_⟩⟩,λa O=>hk a (J a (U.mem_iff.1 O))⟩
 .rw[v8,Y6]at B aw;obtain⟨a6,ax,rfl⟩:=B;obtain⟨a7,ay,rfl⟩:=aw;rw[S7]at ax ay;have az:=(j6.1 ax);have ac:=(j6.1 ay);have:=aQ p q (X5 _) aV (by have:=ac.1;omega);rw[getElem!_pos s p az.1,getElem!_pos s q ac.1,az.2,ac.2,T]at this;simpa using this
 .rw[io (k:=k) λa O=>hk a (J a (U.mem_iff.1 O))]
 .have af:(s.toList.flatMap enc).length=s.size*k:=by rw[io (k:=k) λa _=>H a];rfl
  rw[o7,af,List.length_drop,ab,X];rw[X]at R;exact Nat.add_sub_cancel' R
 .have af:(s.toList.flatMap enc).length=s.size*k:=by rw[io (k:=k) λa _=>H a];rfl
  have aW:(List.map Subtype.val s.toList).length*k=(s.toList.flatMap enc).length:=by rw[af,u7];rfl
  rw[aW,List.take_left,List.flatMap_map]
end Go.Vc
namespace Go.Proofs
open Go.Shelf
def Tryz.vK:Go.Shelf.Ren:=⟨λ|6=>276|15=>234|14=>291|28=>269|29=>270|20=>306|21=>307|22=>308|23=>309|24=>310|25=>311|26=>312|27=>313|46=>321|47=>283|48=>284|49=>322|50=>323|57=>326|n=>n,λ|22=>337|24=>312|25=>336|3=>3|39=>228|0=>0|53=>357|55=>58|4=>4|46=>351|45=>350|50=>297|5=>5|9=>9|66=>366|70=>370|76=>390|77=>391|n=>n,λ|n=>n⟩
theorem Tryz.K8:Go.Proofs.SlLaysF0.n6 Tryz.prog Tryz.vK:={
 mixed:=Ψ,
 f6:=⟨Tryz.f276.name,Φ,Tryz.func276.trans (congrArg σ Ψ)⟩,
 f14:=⟨Tryz.f291.name,Φ,Tryz.func291.trans (congrArg σ Ψ)⟩,
 f15:=Tryz.func234.trans (congrArg σ Ψ),
 f20:=⟨Tryz.f306.name,Φ,Tryz.func306.trans (congrArg σ Ψ)⟩,
 f21:=⟨Tryz.f307.name,Φ,Tryz.func307.trans (congrArg σ Ψ)⟩,
 f22:=⟨Tryz.f308.name,Φ,Tryz.func308.trans (congrArg σ Ψ)⟩,
 f23:=⟨Tryz.f309.name,Φ,Tryz.func309.trans (congrArg σ Ψ)⟩,
 f24:=⟨Tryz.f310.name,Φ,Tryz.func310.trans (congrArg σ Ψ)⟩,
 f25:=⟨Tryz.f311.name,Φ,Tryz.func311.trans (congrArg σ Ψ)⟩,
 f26:=⟨Tryz.f312.name,Φ,Tryz.func312.trans (congrArg σ Ψ)⟩,
 f27:=⟨Tryz.f313.name,Φ,Tryz.func313.trans (congrArg σ Ψ)⟩,
 f28:=Tryz.func269.trans (congrArg σ Ψ),
 f29:=Tryz.func270.trans (congrArg σ Ψ),
 f46:=⟨Tryz.f321.name,Φ,Tryz.func321.trans (congrArg σ Ψ)⟩,
 f47:=Tryz.func283.trans (congrArg σ Ψ),
 f48:=Tryz.func284.trans (congrArg σ Ψ),
 f49:=⟨Tryz.f322.name,Φ,Tryz.func322.trans (congrArg σ Ψ)⟩,
 f50:=⟨Tryz.f323.name,Φ,Tryz.func323.trans (congrArg σ Ψ)⟩,
 f57:=⟨Tryz.f326.name,Φ,Tryz.func326.trans (congrArg σ Ψ)⟩,
 t0:=Tryz.underlying0,
 a0:=Tryz.isAgg0,
 z0:=Tryz.sizeOf0,
 v0:=Tryz.zeroValue0,
 t3:=Tryz.underlying3,
 a3:=Tryz.isAgg3,
 z3:=Tryz.sizeOf3,
 v3:=Tryz.zeroValue3,
 t4:=Tryz.underlying4,
 a4:=Tryz.isAgg4,
 z4:=Tryz.sizeOf4,
 v4:=Tryz.zeroValue4,
 t5:=Tryz.underlying5,
 a5:=Tryz.isAgg5,
 z5:=Tryz.sizeOf5,
 v5:=Tryz.zeroValue5,
 t9:=Tryz.underlying9,
 a9:=Tryz.isAgg9,
 z9:=Tryz.sizeOf9,
 v9:=Tryz.zeroValue9,
 t22:=Tryz.underlying337,
 a22:=Tryz.isAgg337,
 z22:=Tryz.sizeOf337,
 v22:=Tryz.zeroValue337,
 t25:=Tryz.underlying336,
 a25:=Tryz.isAgg336,
 z25:=Tryz.sizeOf336,
 v25:=Tryz.zeroValue336,
 t39:=Tryz.underlying228,
 a39:=Tryz.isAgg228,
 z39:=Tryz.sizeOf228,
 v39:=Tryz.zeroValue228,
 t45:=Tryz.underlying350,
 a45:=Tryz.isAgg350,
 z45:=Tryz.sizeOf350,
 v45:=Tryz.zeroValue350,
 t46:=Tryz.underlying351,
 a46:=Tryz.isAgg351,
 z46:=Tryz.sizeOf351,
 v46:=Tryz.zeroValue351,
 t50:=Tryz.underlying297,
 a50:=Tryz.isAgg297,
 z50:=Tryz.sizeOf297,
 v50:=Tryz.zeroValue297,
 t53:=Tryz.underlying357,
 a53:=Tryz.isAgg357,
 z53:=Tryz.sizeOf357,
 v53:=Tryz.zeroValue357,
 t55:=Tryz.underlying58,
 a55:=Tryz.isAgg58,
 z55:=Tryz.sizeOf58,
 v55:=Tryz.zeroValue58,
 t66:=Tryz.underlying366,
 a66:=Tryz.isAgg366,
 z66:=Tryz.sizeOf366,
 v66:=Tryz.zeroValue366,
 t70:=Tryz.underlying370,
 a70:=Tryz.isAgg370,
 z70:=Tryz.sizeOf370,
 v70:=Tryz.zeroValue370,
 t76:=Tryz.underlying390,
 a76:=Tryz.isAgg390,
 z76:=Tryz.sizeOf390,
 v76:=Tryz.zeroValue390,
 t77:=Tryz.underlying391,
 a77:=Tryz.isAgg391,
 z77:=Tryz.sizeOf391,
 v77:=Tryz.zeroValue391}
def Tryz.vL:Go.Shelf.Ren:=⟨λ|6=>185|15=>234|14=>233|28=>269|29=>270|20=>261|21=>262|22=>263|23=>264|24=>265|25=>266|26=>267|27=>268|46=>282|47=>283|48=>284|49=>285|50=>286|57=>305|n=>n,λ|22=>265|24=>270|25=>280|3=>3|39=>228|0=>0|53=>357|55=>58|4=>4|46=>351|45=>350|50=>297|5=>5|9=>9|66=>366|70=>370|76=>390|77=>391|n=>n,λ|n=>n⟩
theorem Tryz.K9:Go.Proofs.SlLaysF0.n6 Tryz.prog Tryz.vL:={
 mixed:=Ψ,
 f6:=⟨Tryz.f185.name,Φ,Tryz.func185.trans (congrArg σ Ψ)⟩,
 f14:=⟨Tryz.f233.name,Φ,Tryz.func233.trans (congrArg σ Ψ)⟩,
 f15:=Tryz.func234.trans (congrArg σ Ψ),
 f20:=⟨Tryz.f261.name,Φ,Tryz.func261.trans (congrArg σ Ψ)⟩,
 f21:=⟨Tryz.f262.name,Φ,Tryz.func262.trans (congrArg σ Ψ)⟩,
 f22:=⟨Tryz.f263.name,Φ,Tryz.func263.trans (congrArg σ Ψ)⟩,
 f23:=⟨Tryz.f264.name,Φ,Tryz.func264.trans (congrArg σ Ψ)⟩,
 f24:=⟨Tryz.f265.name,Φ,Tryz.func265.trans (congrArg σ Ψ)⟩,
 f25:=⟨Tryz.f266.name,Φ,Tryz.func266.trans (congrArg σ Ψ)⟩,
 f26:=⟨Tryz.f267.name,Φ,Tryz.func267.trans (congrArg σ Ψ)⟩,
 f27:=⟨Tryz.f268.name,Φ,Tryz.func268.trans (congrArg σ Ψ)⟩,
 f28:=Tryz.func269.trans (congrArg σ Ψ),
 f29:=Tryz.func270.trans (congrArg σ Ψ),
 f46:=⟨Tryz.f282.name,Φ,Tryz.func282.trans (congrArg σ Ψ)⟩,
 f47:=Tryz.func283.trans (congrArg σ Ψ),
 f48:=Tryz.func284.trans (congrArg σ Ψ),
 f49:=⟨Tryz.f285.name,Φ,Tryz.func285.trans (congrArg σ Ψ)⟩,
 f50:=⟨Tryz.f286.name,Φ,Tryz.func286.trans (congrArg σ Ψ)⟩,
 f57:=⟨Tryz.f305.name,Φ,Tryz.func305.trans (congrArg σ Ψ)⟩,
 t0:=Tryz.underlying0,
 a0:=Tryz.isAgg0,
 z0:=Tryz.sizeOf0,
 v0:=Tryz.zeroValue0,
 t3:=Tryz.underlying3,
 a3:=Tryz.isAgg3,
 z3:=Tryz.sizeOf3,
 v3:=Tryz.zeroValue3,
 t4:=Tryz.underlying4,
 a4:=Tryz.isAgg4,
 z4:=Tryz.sizeOf4,
 v4:=Tryz.zeroValue4,
 t5:=Tryz.underlying5,
 a5:=Tryz.isAgg5,
 z5:=Tryz.sizeOf5,
 v5:=Tryz.zeroValue5,
 t9:=Tryz.underlying9,
 a9:=Tryz.isAgg9,
 z9:=Tryz.sizeOf9,
 v9:=Tryz.zeroValue9,
 t22:=Tryz.underlying265,
 a22:=Tryz.isAgg265,
 z22:=Tryz.sizeOf265,
 v22:=Tryz.zeroValue265,
 t25:=Tryz.underlying280,
 a25:=Tryz.isAgg280,
 z25:=Tryz.sizeOf280,
 v25:=Tryz.zeroValue280,
 t39:=Tryz.underlying228,
 a39:=Tryz.isAgg228,
 z39:=Tryz.sizeOf228,
 v39:=Tryz.zeroValue228,
 t45:=Tryz.underlying350,
 a45:=Tryz.isAgg350,
 z45:=Tryz.sizeOf350,
 v45:=Tryz.zeroValue350,
 t46:=Tryz.underlying351,
 a46:=Tryz.isAgg351,
 z46:=Tryz.sizeOf351,
 v46:=Tryz.zeroValue351,
 t50:=Tryz.underlying297,
 a50:=Tryz.isAgg297,
 z50:=Tryz.sizeOf297,
 v50:=Tryz.zeroValue297,
 t53:=Tryz.underlying357,
 a53:=Tryz.isAgg357,
 z53:=Tryz.sizeOf357,
 v53:=Tryz.zeroValue357,
 t55:=Tryz.underlying58,
 a55:=Tryz.isAgg58,
 z55:=Tryz.sizeOf58,
 v55:=Tryz.zeroValue58,
 t66:=Tryz.underlying366,
 a66:=Tryz.isAgg366,
 z66:=Tryz.sizeOf366,
 v66:=Tryz.zeroValue366,
 t70:=Tryz.underlying370,
 a70:=Tryz.isAgg370,
 z70:=Tryz.sizeOf370,
 v70:=Tryz.zeroValue370,
 t76:=Tryz.underlying390,
 a76:=Tryz.isAgg390,
 z76:=Tryz.sizeOf390,
 v76:=Tryz.zeroValue390,
 t77:=Tryz.underlying391,
 a77:=Tryz.isAgg391,
 z77:=Tryz.sizeOf391,
 v77:=Tryz.zeroValue391}
theorem Tryz.La(w:x4):(isAgg (Tryz.vK.t 24)).run Tryz.prog w= .ok true w:=Tryz.isAgg312 w
theorem Tryz.Lb(w:x4):(Go.sizeOf (Tryz.vK.t 24)).run Tryz.prog w= .ok 6 w:=Tryz.sizeOf312 w
theorem Tryz.Lc:Tryz.prog.funcs[241]?=σ Tryz.f241:=Tryz.func241
theorem Tryz.Ld(w:x4):(isAgg (Tryz.vL.t 24)).run Tryz.prog w= .ok true w:=Tryz.isAgg270 w
theorem Tryz.Le(w:x4):(Go.sizeOf (Tryz.vL.t 24)).run Tryz.prog w= .ok 2 w:=Tryz.sizeOf270 w
theorem Tryz.Lf:Tryz.prog.funcs[186]?=σ Tryz.f186:=Tryz.func186
end Go.Proofs
namespace Go.Proofs.YtikkpokkcdocoaaGreatDoor
open Go Go.Vc Go.RowKit Go.Proofs Go.Proofs.Tryz
set_option maxRecDepth 100000
def sI{α:Type}(f:α->Int)(L:List α)(a i:Nat):Prop:=∀(p q:Nat)(x y:α),a<=p->p<q->q<i->L[p]?=σ x->L[q]?=σ y->f x<=f y
def pj(L:List (Λ)):Prop:=∀ks∈L,k6 ks
theorem pj.perm{L M:List (Λ)}(h:pj L)(a:M.Perm L):pj M:=λks hk=>h ks (a.mem_iff.1 hk)
theorem Lg{g:Nat}{L:List (Λ)}{i:Nat}(a:y=(i:Int))(h:nP w g v L)(hi:L[i]?=σ ks):
  V x8 (j5 je v (Δ y)) w (λp=>V x8 (u5 cE p) w K)=K (en ks):=by
 have e:ks.length=6:=by have:=h.2 ks (x6 hi);simpa using this
 rw[dE a je.u cE.i h (x5.1 hi).1,nO e (h.range hi)]
abbrev BJ:x3:=.func (.func zs) #[] #[]
theorem sJ{P:W9}{k:o9}{s:ByteArray}{i:Nat}(a:P.underlying t=σ .string)(hi:i<s.size):
  V P (Instr.index t (.string s) (.int k (i:Int))) w K=K (.int .u8 (s[i].toNat:Int)):=V.of λw' _=>by
 simp[Instr.index,asIntOf,run_underlying a,hi]
def ep(n:Nat):Nat:=if n=0 then 0 else Nat.log2 n+1
theorem BK(h:n<256):ep n<=8:=by
 unfold ep;by_cases a:n=0
 .rw[if_pos a];omega
 .rw[if_neg a];have e:Nat.log2 n<8:=(Nat.log2_lt a).2 Ω;omega
theorem Lh{g:Nat}{L:List (Λ)}(h:nP w g v L)(j:pj L)(s:L.length<65536):
  ai x8 IT [v,BJ] w λ_ w'=>ae (λr=>leadsTo v r) w w'/\∃M,M.Perm L/\sI gE M 0 M.length/\nP w' g v M:=by
 refine(BI K8 (G:=k6) (num:=gE) (cf:=iq) (cap:=#[]) La Lb (λa _=>BD) (λa e=>by simp[e.1]) (λa b e f=>(BE a b (by rw[e.1,f.1]) e.2 f.2).1) (Enters.of x8 Lc rfl Ψ) h j s λH a b _ e f=>K7 e f).mono ?_;rintro _ w' _ ⟨z,M,A,hu,hm⟩;exact⟨z,M,A,λp q x y _ B _ C E=>hu p q x y B C E,hm⟩
end Go.Proofs.YtikkpokkcdocoaaGreatDoor
namespace Go.Vc
open Go Go.RowKit
set_option maxRecDepth 100000
theorem Keys.str{P:W9}{k:r9}(hk:P.underlying k=σ .string):Keys P k λv=>∃s,v= .string s:=by
 have key:∀s,MapKept.IsKey .string (.string s):=λs=>trivial;refine⟨λw f v ⟨n,h⟩=>?_,λw x ⟨n,h⟩ p q=>?_,λw v ⟨n,h⟩=>?_⟩
 .subst h;exact MapKept.run_checkKey hk (key n) f 9999
 .subst h;rcases MapKept.findNow_spec (key n) p 0 (λe he=>by obtain⟨m,h⟩:=q e he;rw[h];exact key m)with⟨h1,a⟩|⟨j,e,h1,a,r⟩
  .exact .inl ⟨MapKept.run_findKey hk h1,a⟩
  .exact .inr ⟨j,e,by have:=MapKept.run_findKey (P:=P) (w:=w) hk h1;simpa using this,a,r⟩
 .subst h;exact MapKept.run_keyThatStays (d:=.string) (key n)
section
variable{P:W9}{w:x4}
theorem k8{s:Sem x3}(h:∀K:x3->Prop,V P s w K=K v):bZ P s v w:=by
 have h1:V P s w (λu=>u=v):=(h λu=>u=v).mpr rfl;obtain⟨u,hu,rfl⟩:=h1;exact hu
variable{k e:r9}{G:x3->Prop}
end
end Go.Vc
namespace Go.Proofs.YtikkpokkcdocoaaGreatDoor
open Go Go.Vc Go.RowKit Go.Proofs Go.Proofs.Tryz
set_option maxRecDepth 100000
def gN:Nat->Nat->Λ
 |0,_=>[]
 |n+1,u=>gN n (u / 10)++[48+((u % 10:Nat):Int)]
theorem qw:∀(n u:Nat),(gN n u).length=n
 |0,_=>rfl
 |n+1,u=>by rw[gN,o7,qw n];rfl
theorem Li(n u:Nat):gN (n+2) u=gN n (u / 100)++[48+((u / 10 % 10:Nat):Int),48+((u % 10:Nat):Int)]:=by
 rw[gN,gN,T3];rw[show u / 10 / 10=u / 100 by omega];rfl
theorem BL:∀(n u:Nat),10 ^ n<=u->u<10 ^ (n+1)->gN (n+1) u=fp u
 |0,u,h1,a=>by
  rw[nG,if_pos (by simpa using a)];simp[gN]
 |n+1,u,h1,a=>by
  have e:(10:Nat) ^ (n+1)=10*10 ^ n:=by rw[Nat.pow_succ,Nat.mul_comm]
  have f:(10:Nat) ^ (n+1+1)=10*10 ^ (n+1):=by rw[Nat.pow_succ,Nat.mul_comm]
  have h:1<=10 ^ n:=Nat.one_le_iff_ne_zero.2 Ξ;rw[nG,if_neg Ω,gN,BL n (u / 10) Ω Ω]
def gF(a C:Λ)(nd u:Nat):Prop:=nd<=a.length/\C.length=a.length/\∃t,C.drop nd=t/\a=gN nd u++t
theorem gF.two{a:Λ}{nd u:Nat}(h:gF a C (nd+2) u):gF a ((C.set (nd+1) (48+((u % 10:Nat):Int))).set nd (48+((u / 10 % 10:Nat):Int))) nd (u / 100):=by
 obtain⟨h1,e,t,f,j⟩:=h;refine⟨Ω,by simp[e],_,rfl,?_⟩;rw[j,Li,T3];congr 1;rw[List.drop_set,if_neg Ω,List.drop_set,if_neg Ω,<-f];have p:nd<C.length:=Ω
 have q:nd+1<C.length:=Ω
 rw[X8 p,X8 q,U4,R4];rfl
theorem gF.one{a:Λ}{u:Nat}(h:gF a C 1 u):C.set 0 (48+((u % 10:Nat):Int))=a:=by
 obtain⟨h1,e,t,f,j⟩:=h;rw[j,gN,gN,List.nil_append,<-f];cases C with
 |nil=>simp at e;omega
 |cons c C=>simp
theorem gF.zero{a:Λ}{u:Nat}(h:gF a C 0 u):C=a:=by
 obtain⟨h1,j,t,e,f⟩:=h;rw[f,gN,List.nil_append,<-e,List.drop_zero]
def jO:ByteArray:=⟨#[48,48,48,49,48,50,48,51,48,52,48,53,48,54,48,55,48,56,48,57,49,48,49,49,49,50,49,51,49,52,49,53,49,54,49,55,49,56,49,57,50,48,50,49,50,50,50,51,50,52,50,53,50,54,50,55,50,56,50,57,51,48,51,49,51,50,51,51,51,52,51,53,51,54,51,55,51,56,51,57,52,48,52,49,52,50,52,51,52,52,52,53,52,54,52,55,52,56,52,57,53,48,53,49,53,50,53,51,53,52,53,53,53,54,53,55,53,56,53,57,54,48,54,49,54,50,54,51,54,52,54,53,54,54,54,55,54,56,54,57,55,48,55,49,55,50,55,51,55,52,55,53,55,54,55,55,55,56,55,57,56,48,56,49,56,50,56,51,56,52,56,53,56,54,56,55,56,56,56,57,57,48,57,49,57,50,57,51,57,52,57,53,57,54,57,55,57,56,57,57]⟩
theorem BM:jO.size=200:=by decide+kernel
theorem Lj:∀q:Fin 100,jO.data.toList[2*q.val]?=σ (UInt8.ofNat (48+q.val / 10))/\jO.data.toList[2*q.val+1]?=σ (UInt8.ofNat (48+q.val % 10)):=by decide+kernel
theorem vM{q:Nat}(e:q<100):(∀h,(jO[2*q]'h).toNat=48+q / 10)/\∀h,(jO[2*q+1]'h).toNat=48+q % 10:=by
 obtain⟨h1,f⟩:=Lj ⟨q,e⟩;refine⟨λh=>?_,λh=>?_⟩
 .have a:=(x5.1 h1).2;have:jO[2*q]=UInt8.ofNat (48+q / 10):=a;rw[this,UInt8.toNat_ofNat'];omega
 .have a:=(x5.1 f).2;have:jO[2*q+1]=UInt8.ofNat (48+q % 10):=a;rw[this,UInt8.toNat_ofNat'];omega
theorem wrap_u32{x:Int}(h1:0<=x)(a:x<4294967296):o9.u32.wrap x=x:=by
 simp[o9.wrap,o9.bits,o9.signed];omega
def jP(w:x4)(g o:Nat)(a C e:Λ):Prop:=ad w g mu (ints .u8 (a++C++e))/\a.length=o
theorem vN{g o c i:Nat}{a:o9}(e:y=(i:Int))(hi:i<n):
  V x8 (j5 cL (.slice (σ ⟨g,o,ν⟩) n c) (.int a y)) w K=K (.pointer (σ ⟨g,o+i,ν⟩)):=by
 subst e;rw[eL cL.u cH.i hi (λ_=>rfl),U2]
theorem vO{g o i:Nat}{x:Int}{a f:Λ}{K:Unit->x4->Prop}(h:jP w g o a C f)(hi:i<C.length)(p:∀w',ae (λr=>r=g) w w'->jP w' g o a (C.set i x) f->K () w'):aC x8 (o8 cH (.pointer (σ ⟨g,o+i,ν⟩)) (.int .u8 x)) w K:=by
 obtain⟨h,rfl⟩:=h;refine bq (g:=g) (o:=a.length+i) cH.i rfl rfl h Θ λw' q I j=>p w' q ⟨?_,rfl⟩;have e:(ints .u8 (a++C++f)).set (a.length+i) (.int .u8 x)=ints .u8 (a++C.set i x++f):=by
  unfold ints;rw[<-U5,T3,T8 _ _ Ω,R4,List.set_append_left _ _ hi,T3]
 rw[e]at j;exact j
theorem nQ{g o c nd q i:Nat}{s e t:Int}{f h:Λ}{K:x4->Prop}(x:jP w g o f C h)(X:C.length=n)(Y:n<=1000)(Z:nd<=n)(h1:(nd:Int)-s=((i+1:Nat):Int))(B:(nd:Int)-e=(i:Int))(E:i+1<n)(F:t=((2*q:Nat):Int))(j:q<100)(G:∀w',ae (λr=>r=g) w w'->jP w' g o f ((C.set (i+1) (48+((q % 10:Nat):Int))).set i (48+((q / 10:Nat):Int))) h->K w'):
  eg w λU=>
  V x8 (aJ .sub ag false true (Δ (nd:Int)) (Δ s)) U λH=>
  V x8 (aJ .sub ag false true (Δ (nd:Int)) (Δ e)) U λy=>
  V x8 (aJ .add oN false true (.int .u32 t) (.int .u32 1)) U λJ=>
  V x8 (Instr.index c5 (.string jO) J) U λt50=>
  V x8 (Instr.index c5 (.string jO) (.int .u32 t)) U λz=>
  V x8 (j5 cL (.slice (σ ⟨g,o,ν⟩) n c) H) U λt53=>
  aC x8 (o8 cH t53 t50) U λ(_:Unit)a=>
   (Ext U a\/bZ x8 (Instr.index c5 (.string jO) (.int .u32 t)) z a/\bZ x8 (aJ .sub ag false true (Δ (nd:Int)) (Δ e)) y a/\True)/\
  V x8 (j5 cL (.slice (σ ⟨g,o,ν⟩) n c) y) a λL=>
   aC x8 (o8 cH L z) a λ(_:Unit)p=>K p:=by
 subst F;intro U A _ _;have M:ae (λr=>r=g) w U:=A.aa _;have N:jP U g o f C h:=⟨x.1.ext A,x.2⟩;rw[ec,wrap_i64 Ω Ω,ec,wrap_i64 Ω Ω,aM,wrap_u32 Ω Ω];rw[show((2*q:Nat):Int)+1=((2*q+1:Nat):Int) by omega];have I:=BM;rw[sJ c5.u (by rw[I];omega),sJ c5.u (by rw[I];omega)];rw[(vM j).1,(vM j).2,vN h1 E];refine vO N Ω λa O P=>⟨.inr ⟨k8 λK=>?_,k8 λK=>?_,trivial⟩,?_⟩
 .rw[sJ c5.u (by rw[I];omega),(vM j).1]
 .rw[ec,wrap_i64 Ω Ω]
 .rw[vN B Ω];refine vO P Θ λp Q R=>G p ((M.trans O).trans Q) ?_;have S:48+((q % 10:Nat):Int)=((48+q % 10:Nat):Int):=Ω
  have W:48+((q / 10:Nat):Int)=((48+q / 10:Nat):Int):=Ω
  rw[S,W];exact R
theorem gF.pair{a:Λ}{nd u q:Nat}(h:gF a C (nd+2) u)(e:q=u % 100):gF a ((C.set (nd+1) (48+((q % 10:Nat):Int))).set nd (48+((q / 10:Nat):Int))) nd (u / 100):=by
 have:=h.two;rw[show u % 10=q % 10 by omega,show u / 10 % 10=q / 10 by omega]at this;exact this
theorem nR{k:o9}{b:Nat}(e:b≠0):V x8 (aJ .rem t cx cy (.int k (a:Int)) (.int k (b:Int))) w K=K (.int k ((a % b:Nat):Int)):=by
 rw[p3 Ω,Int.tmod_eq_emod_of_nonneg Ω,Int.natCast_emod]
theorem u32_quo{b:Nat}(e:b≠0)(f:a<4294967296):V x8 (aJ .quo t cx cy (.int .u32 (a:Int)) (.int .u32 (b:Int))) w K=K (.int .u32 ((a / b:Nat):Int)):=by
 have:=Nat.div_le_self a b;rw[p2 Ω,Int.tdiv_eq_ediv_of_nonneg Ω,<-Int.natCast_ediv];generalize a / b=m at this ⊢;rw[wrap_u32 Ω Ω]
theorem u64_quo{b:Nat}(e:b≠0)(f:a<18446744073709551616):V x8 (aJ .quo t cx cy (.int .u64 (a:Int)) (.int .u64 (b:Int))) w K=K (.int .u64 ((a / b:Nat):Int)):=by
 have:=Nat.div_le_self a b;rw[p2 Ω,Int.tdiv_eq_ediv_of_nonneg Ω,<-Int.natCast_ediv];generalize a / b=m at this ⊢;rw[wrap_u64 Ω Ω]
theorem nS{b:Nat}(f:a*b<4294967296):V x8 (aJ .mul t cx cy (.int .u32 (a:Int)) (.int .u32 (b:Int))) w K=K (.int .u32 ((a*b:Nat):Int)):=by
 have e:(a:Int)*(b:Int)=((a*b:Nat):Int):=Ξ
 rw[gp,e];generalize a*b=m at f ⊢;rw[wrap_u32 Ω Ω]
theorem gF.start{u:Nat}(h:C.length=N):gF (gN N u) C N u:=⟨by rw[qw];omega,by rw[qw,h],[],by rw[List.drop_eq_nil_iff];omega,Ξ⟩
theorem Lk{g o c u:Nat}{B E:Λ}(ag:jP w g o B C E)(ah:C.length=N)(av:N<=19)(hu:u<10 ^ N):
  ai x8 I1 [.slice (σ ⟨g,o,ν⟩) N c,.int .u64 (u:Int)] w λv w'=>v= .tuple #[]/\ae (λr=>r=g) w w'/\jP w' g o B (gN N u) E:=by
 have p:=qw N u;refine ay func294 ?_;rw[hQ cL.u];refine⟨λak Q J=>∃eP nd:Nat,ak= .int .u64 (eP:Int)/\Q=Δ (nd:Int)/\eP<10 ^ nd/\nd<=N/\ae (λr=>r=g) w J/\∃G,jP J g o B G E/\gF (gN N u) G nd eP,
  λ_ Q _=>(b0 Q).toNat,⟨u,N,rfl,rfl,hu,o5 _,ae.refl _ _,C,ag,gF.start ah⟩,?_⟩
 rintro _ _ J ⟨eP,nd,rfl,rfl,H,s,R,G,S,M⟩;have ab:G.length=N:=by rw[M.2.1,p]
 have ax:(10:Nat) ^ nd<=10 ^ 19:=T6 Ω Ω;have al:eP<18446744073709551616:=Ω
 have az:(8:Int)=((8:Nat):Int):=rfl;rw[cQ,aj];refine⟨λam=>?_,λam=>?_⟩
 .obtain⟨m,rfl⟩:∃m,nd=m+8:=⟨nd-8,Ω⟩;have aA:eP % 100000000<100000000:=Nat.mod_lt _ Ω;rw[show V5 .u64 100000000=V5 .u64 ((100000000:Nat):Int)from rfl,nR Ω,fo fA.u oN.u,wrap_u32 Ω Ω,u64_quo Ω al];rw[show V5 .u32 10000=V5 .u32 ((10000:Nat):Int)from rfl,show V5 .u32 100=V5 .u32 ((100:Nat):Int)from rfl,show V5 .u32 2=V5 .u32 ((2:Nat):Int)from rfl];rw[u32_quo Ω Ω,nR Ω,u32_quo Ω Ω,nS Ω,nR Ω,nS Ω,u32_quo Ω Ω,nS Ω,nR Ω,nS Ω];refine nQ (i:=m+6) (q:=eP % 100000000 % 10000 % 100) S ab Ω s Ω Ω Ω Ω Ω λU x z=>?_;have f:=M.pair (q:=eP % 100000000 % 10000 % 100) Ω;have I:=f.2.1.trans p;refine nQ (i:=m+4) (q:=eP % 100000000 % 10000 / 100) z I Ω s Ω Ω Ω Ω Ω λA j h=>?_;have e:=gF.pair (nd:=m+4) (q:=eP % 100000000 % 10000 / 100) f Ω;have ac:=e.2.1.trans p;refine nQ (i:=m+2) (q:=eP % 100000000 / 10000 % 100) h ac Ω s Ω Ω Ω Ω Ω λan V O=>?_;have ad:=gF.pair (nd:=m+2) (q:=eP % 100000000 / 10000 % 100) e Ω;have ao:=ad.2.1.trans p;refine nQ (i:=m) (q:=eP % 100000000 / 10000 / 100) O ao Ω s Ω Ω Ω Ω Ω λaB ap aq=>?_;have af:=gF.pair (nd:=m) (q:=eP % 100000000 / 10000 / 100) ad Ω;rw[ec,wrap_i64 Ω Ω];refine⟨⟨eP / 100000000,m,rfl,by congr 1;omega,?_,Ω,(((R.trans x).trans j).trans V).trans ap,_,aq,?_⟩,by simp only[b0];omega⟩
  .rw[Nat.pow_add]at H;exact Nat.div_lt_of_lt_mul (by rw[Nat.mul_comm];exact H)
  .rw[show eP / 100 / 100 / 100 / 100=eP / 100000000 by omega]at af;exact af
 .have aC:nd<8:=Ω
  have aD:(10:Nat) ^ nd<=10 ^ 7:=T6 Ω Ω;rw[fo fA.u oN.u,wrap_u32 Ω Ω];refine ib (λa b U=>∃eQ m:Nat,a=Δ (m:Int)/\b= .int .u32 (eQ:Int)/\eQ<10 ^ m/\m<4/\m<=N/\ae (λr=>r=g) w U/\∃P,jP U g o B P E/\gF (gN N u) P m eQ) ?_ ?_
  rotate_left
  .intro aw K;rw[cQ,aj];refine⟨λW=>?_,λW=>K _ _ _ ⟨eP,nd,rfl,rfl,H,Ω,s,R,G,S,M⟩⟩;obtain⟨m,rfl⟩:∃m,nd=m+4:=⟨nd-4,Ω⟩;rw[show V5 .u32 10000=V5 .u32 ((10000:Nat):Int)from rfl,show V5 .u32 100=V5 .u32 ((100:Nat):Int)from rfl,show V5 .u32 2=V5 .u32 ((2:Nat):Int)from rfl];rw[nR Ω,u32_quo Ω Ω,u32_quo Ω Ω,nS Ω,nR Ω,nS Ω];refine nQ (i:=m+2) (q:=eP % 10000 % 100) S ab Ω s Ω Ω Ω Ω Ω λU x z=>?_;have f:=M.pair (q:=eP % 10000 % 100) Ω;have I:=f.2.1.trans p;refine nQ (i:=m) (q:=eP % 10000 / 100) z I Ω s Ω Ω Ω Ω Ω λA j h=>?_;have e:=gF.pair (nd:=m) (q:=eP % 10000 / 100) f Ω;rw[ec,wrap_i64 Ω Ω];refine K _ _ _ ⟨eP / 10000,m,by congr 1;omega,rfl,?_,Ω,Ω,(R.trans x).trans j,_,h,?_⟩
   .rw[Nat.pow_add]at H;exact Nat.div_lt_of_lt_mul (by rw[Nat.mul_comm];exact H)
   .rw[show eP / 100 / 100=eP / 10000 by omega]at e;exact e
  rintro _ _ U ⟨eQ,m,rfl,rfl,X,aE,Y,x,P,z,f⟩;have I:=f.2.1.trans p;have aF:(10:Nat) ^ m<=10 ^ 3:=T6 Ω Ω;refine ib (λa b A=>∃L m:Nat,a=Δ (m:Int)/\b= .int .u32 (L:Int)/\L<10 ^ m/\m<2/\m<=N/\ae (λr=>r=g) w A/\∃Z,jP A g o B Z E/\gF (gN N u) Z m L) ?_ ?_
  rotate_left
  .intro aw K;rw[cQ,aj];refine⟨λW=>?_,λW=>K _ _ _ ⟨eQ,m,rfl,rfl,X,Ω,Y,x,P,z,f⟩⟩;obtain⟨m,rfl⟩:∃bV,m=bV+2:=⟨m-2,Ω⟩;rw[show V5 .u32 100=V5 .u32 ((100:Nat):Int)from rfl,show V5 .u32 2=V5 .u32 ((2:Nat):Int)from rfl];rw[nR Ω,nS Ω,u32_quo Ω Ω];refine nQ (i:=m) (q:=eQ % 100) z I Ω Y Ω Ω Ω Ω Ω λA j h=>?_;have e:=f.pair (q:=eQ % 100) rfl;rw[ec,wrap_i64 Ω Ω];refine K _ _ _ ⟨eQ / 100,m,by congr 1;omega,rfl,?_,Ω,Ω,x.trans j,_,h,e⟩;rw[Nat.pow_add]at X;exact Nat.div_lt_of_lt_mul (by rw[Nat.mul_comm];exact X)
  rintro _ _ A ⟨L,m,rfl,rfl,aa,aG,Y,j,Z,h,e⟩;have ac:=e.2.1.trans p;rw[bS,aj];refine⟨λau=>?_,λau=>?_⟩
  .obtain rfl:m=1:=Ω
   have aa:L<10:=by simpa using aa
   rw[aM,wrap_u32 Ω Ω,fo oN.u cH.u,wrap_u8 Ω Ω,vN (y:=0) (i:=0) rfl Ω];refine vO h Ω λan V O=>?_;have:=e.one;rw[Nat.mod_eq_of_lt aa]at this;rw[this]at O;exact⟨rfl,j.trans V,O⟩
  .obtain rfl:m=0:=Ω
   rw[e.zero]at h;exact⟨rfl,j,h⟩
def mI:Λ:=[1,10,100,1000,10000,100000,1000000,10000000,100000000,1000000000,10000000000,100000000000,1000000000000,10000000000000,100000000000000,1000000000000000,10000000000000000,100000000000000000,1000000000000000000,10000000000000000000]
def eu(w:x4):Prop:=w.rangeAt 1 0 (ints .u64 mI)
theorem eu.ext(h:eu w)(a:Ext w w'):eu w':=nu a h
theorem Ll:∀k:Nat,k<20->mI[k]?=σ (((10 ^ k:Nat)):Int):=Φ
theorem BN{s:Nat}(h:2 ^ s<=n):ep n=s+ep (n / 2 ^ s):=by
 have I:=Nat.two_pow_pos s;have h1:n / 2 ^ s≠0:=by have:=Nat.div_pos h I;omega
 have f:n≠0:=Ω
 unfold ep;rw[if_neg f,if_neg h1];have e:Nat.log2 n=Nat.log2 (n / 2 ^ s)+s:=by
  refine(Nat.log2_eq_iff f).2 ⟨?_,?_⟩
  .rw[Nat.pow_add];have:=W0 (2 ^ s) (Nat.log2_self_le h1);have:=Nat.div_mul_le_self n (2 ^ s);omega
  .have j:=Nat.lt_log2_self (n:=n / 2 ^ s);rw[show Nat.log2 (n / 2 ^ s)+s+1=(Nat.log2 (n / 2 ^ s)+1)+s by omega,Nat.pow_add];have:=W0 (2 ^ s) (show n / 2 ^ s+1<=2 ^ (Nat.log2 (n / 2 ^ s)+1) by omega);have p:=Nat.lt_div_mul_add I (a:=n);rw[U7]at this;omega
 omega
def qx:ByteArray:=⟨#[0,1,2,2,3,3,3,3,4,4,4,4,4,4,4,4,5,5,5,5,5,5,5,5,5,5,5,5,5,5,5,5,6,6,6,6,6,6,6,6,6,6,6,6,6,6,6,6,6,6,6,6,6,6,6,6,6,6,6,6,6,6,6,6,7,7,7,7,7,7,7,7,7,7,7,7,7,7,7,7,7,7,7,7,7,7,7,7,7,7,7,7,7,7,7,7,7,7,7,7,7,7,7,7,7,7,7,7,7,7,7,7,7,7,7,7,7,7,7,7,7,7,7,7,7,7,7,7,8,8,8,8,8,8,8,8,8,8,8,8,8,8,8,8,8,8,8,8,8,8,8,8,8,8,8,8,8,8,8,8,8,8,8,8,8,8,8,8,8,8,8,8,8,8,8,8,8,8,8,8,8,8,8,8,8,8,8,8,8,8,8,8,8,8,8,8,8,8,8,8,8,8,8,8,8,8,8,8,8,8,8,8,8,8,8,8,8,8,8,8,8,8,8,8,8,8,8,8,8,8,8,8,8,8,8,8,8,8,8,8,8,8,8,8,8,8,8,8,8,8,8,8,8,8,8,8]⟩
theorem Lm:qx.size=256:=by decide+kernel
theorem Ln:∀q:Fin 256,qx.data.toList[q.val]?=σ (UInt8.ofNat (ep q.val)):=by decide+kernel
theorem Lo{q:Nat}(a:q<256):∀h,(qx[q]'h).toNat=ep q:=λh=>by
 have h1:=Ln ⟨q,a⟩;have e:=(x5.1 h1).2;have:qx[q]=UInt8.ofNat (ep q):=e;have f:=BK a;rw[this,UInt8.toNat_ofNat'];omega
theorem Lp(E:n<18446744073709551616):ai x8 IN [.int .u64 (n:Int)] w λv w'=>v=Δ (ep n:Int)/\Ext w w':=by
 refine ay func270 ?_;have step:∀{s x m:Nat}{aw:x3->x3->x4->Prop}{y c:Int},s<64->x<18446744073709551616->m+ep x=ep n->m<=64->y=(2 ^ s:Nat)->c=(s:Int)->2 ^ s<=18446744073709551615->(∀a bV:Nat,a<2 ^ s\/(a=x / 2 ^ s/\bV=m+s)->a<=x->bV+ep a=ep n->bV<=m+s->aw (.int .u64 (a:Int)) (Δ (bV:Int)) w)->
   V x8 (aJ .geq fA false true (.int .u64 (x:Int)) (.int .u64 y)) w λt4=>
    Split t4 (V x8 (aJ .shr fA false true (.int .u64 (x:Int)) (.int .u64 c)) w λr=>V x8 (aJ .add ag false true (Δ (m:Int)) (Δ c)) w λz=>aw r z w) (aw (.int .u64 (x:Int)) (Δ (m:Int)) w):=by
  intro s x m aw y c I f hm G A B p e;subst A B;rw[cQ,aj];refine⟨λh=>?_,λh=>e x m (.inl Ω) (o5 _) hm Ω⟩;rw[k2 I,aM,wrap_i64 Ω Ω];have:=BN (n:=x) (s:=s) Ω;have:=e (x / 2 ^ s) (m+s) (.inr ⟨rfl,rfl⟩) (Nat.div_le_self _ _) Ω Ω;exact this
 refine ib (λx m J=>w=J/\∃a bV:Nat,x= .int .u64 (a:Int)/\m=Δ (bV:Int)/\a<4294967296/\bV+ep a=ep n/\bV<=32) ?_ ?_
 rotate_left
 .intro aw e;rw[cQ,aj];refine⟨λh=>?_,λh=>e _ _ _ ⟨rfl,n,0,rfl,rfl,Ω,Ω,Ω⟩⟩;rw[show V5 .u64 32=V5 .u64 ((32:Nat):Int)from rfl,k2 Ω];have:=BN (n:=n) (s:=32) Ω;exact e _ _ _ ⟨rfl,n / 2 ^ 32,32,rfl,rfl,Ω,Ω,Ω⟩
 rintro _ _ _ ⟨rfl,x,m,rfl,rfl,f,hm,q⟩;refine ib (λx m J=>w=J/\∃a bV:Nat,x= .int .u64 (a:Int)/\m=Δ (bV:Int)/\a<65536/\bV+ep a=ep n/\bV<=48) ?_ ?_
 rotate_left
 .intro aw e;refine step (s:=16) Ω Ω hm Ω Ω Ω Ω λa bV h1 p j C=>e _ _ _ ⟨rfl,a,bV,rfl,rfl,?_,j,Ω⟩;rcases h1 with h1|⟨h1,_⟩<;>omega
 rintro _ _ _ ⟨rfl,x,m,rfl,rfl,f,hm,q⟩;refine ib (λx m J=>w=J/\∃a bV:Nat,x= .int .u64 (a:Int)/\m=Δ (bV:Int)/\a<256/\bV+ep a=ep n/\bV<=56) ?_ ?_
 rotate_left
 .intro aw e;refine step (s:=8) Ω Ω hm Ω Ω Ω Ω λa bV h1 p j C=>e _ _ _ ⟨rfl,a,bV,rfl,rfl,?_,j,Ω⟩;rcases h1 with h1|⟨h1,_⟩<;>omega
 rintro _ _ _ ⟨rfl,x,m,rfl,rfl,f,hm,q⟩;have I:=Lm;have H:=BK f;rw[fo fA.u cH.u,wrap_u8 Ω Ω];refine(sJ (s:=qx) c5.u (by rw[I];omega)).mpr ?_;rw[Lo f,fo cH.u ag.u,wrap_i64 Ω Ω,aM,wrap_i64 Ω Ω];exact⟨by congr 1;omega,Ext.refl _⟩
theorem BO{k:o9}(f:n<64):V x8 (aJ .shr t cx cy (Δ (a:Int)) (.int k (n:Int))) w K=K (Δ ((a / 2 ^ n:Nat):Int)):=V.of λw' _=>by
 have e:(a:Int).fdiv (2 ^ min n X7.bits)=((a / 2 ^ n:Nat):Int):=by
  have:min n X7.bits=n:=Nat.min_eq_left (by show n<=64;omega);rw[this,Int.fdiv_eq_ediv_of_nonneg _ (by exact Int.le_of_lt (Int.pow_pos Ω))];simp
 simp only[aJ,eqGuard,binOp,Op.shift,u9,e];rfl
theorem Lq:∀L:Fin 64,7<=L.val->2 ^ L.val<=10 ^ (L.val*78913 / 262144+1)/\10 ^ (L.val*78913 / 262144)<=10*2 ^ (L.val-1)/\1<=L.val*78913 / 262144/\L.val*78913 / 262144<19:=by decide+kernel
theorem Lr{d:Nat}(y:eu w)(h1:100<=d)(E:d<9223372036854775808):ai x8 I0 [.int .u64 (d:Int)] w λv w'=>Ext w w'/\∃n:Nat,v=Δ ((n+1:Nat):Int)/\n<19/\10 ^ n<=d/\d<10 ^ (n+1):=by
 have j:d≠0:=Ω
 have p:ep d=Nat.log2 d+1:=by unfold ep;rw[if_neg j]
 have G:2 ^ (ep d-1)<=d:=by rw[p];exact Nat.log2_self_le j
 have H:d<2 ^ ep d:=by rw[p];exact Nat.lt_log2_self
 have z:7<=ep d:=by
  by_cases h:7<=ep d
  .exact h
  .have:2 ^ ep d<=2 ^ 6:=T6 Ω Ω;omega
 have A:ep d<64:=by
  by_cases h:ep d<64
  .exact h
  .have:2 ^ 63<=2 ^ (ep d-1):=T6 Ω Ω;omega
 obtain⟨B,q,t3,t4⟩:=Lq ⟨ep d,A⟩ z;simp only at B q t3 t4;refine ay func293 ?_;refine(Lp Ω).mono ?_;rintro _ J _ ⟨rfl,a⟩;generalize ep d=L at*;refine ai.mono (K:=λv U=>v=Δ ((L*78913 / 262144:Nat):Int)/\Ext J U) ?_ ?_
 .refine ay func314 ?_;rw[gp,wrap_i64 Ω Ω,show V5 .u64 18=V5 .u64 ((18:Nat):Int)from rfl,show(L:Int)*78913=((L*78913:Nat):Int) by omega,BO Ω];exact⟨rfl,Ext.refl _⟩
 rintro _ U _ ⟨rfl,e⟩;generalize L*78913 / 262144=t at*;have C:=Ll t Ω;rw[uZ (t:=r0) r0.u fA.i Ω,aF Ψ (by rw[U2];exact((y.ext a).ext e) _ _ (kW C)),cQ];refine ai.mono (K:=λv r=>v=Δ ((if 10 ^ t<=d then 1 else 0:Nat):Int)/\Ext U r) ?_ ?_
 .refine ay func315 ?_;rw[aj];refine⟨λh=>⟨by rw[if_pos Ω];rfl,Ext.refl _⟩,λh=>⟨by rw[if_neg Ω];rfl,Ext.refl _⟩⟩
 rintro _ r _ ⟨rfl,x⟩;rw[aM];by_cases f:10 ^ t<=d
 .rw[if_pos f,wrap_i64 Ω Ω];exact⟨(a.trans e).trans x,t,by congr 1,t4,f,Ω⟩
 .rw[if_neg f,wrap_i64 Ω Ω];obtain⟨s,rfl⟩:∃s,t=s+1:=⟨t-1,Ω⟩;rw[Nat.pow_succ]at q;exact⟨(a.trans e).trans x,s,by congr 1,Ω,Ω,Ω⟩
theorem BP{k a:o9}{x:Int}{i:Nat}{s:ByteArray}(e:x=(i:Int))(f:y=(j:Int))(p:x8.underlying t=σ .string)(q:i<=j)(r:j<=s.size):
  V x8 (V8 t (.string s) (σ (.int k x)) (σ (.int a y)) ν) w K=K (.string (s.extract i j)):=V.of λw' _=>by
 subst e f;have z:=r2 (P:=x8) w' (sl:=false) (n:=s.size) (c:=s.size) (low:=σ (.int k (i:Int))) (high:=σ (.int a (j:Int))) (mx:=ν) (l:=i) (h:=j) (m:=s.size) ⟨k,rfl⟩ ⟨a,rfl⟩ fE q r (o5 _);simp[V8,Instr.slice,run_underlying p,z]
theorem Ls:∀q:Fin 100,jO.extract (2*q.val) (2*q.val+2)=strOfNums [48+((q.val / 10:Nat):Int),48+((q.val % 10:Nat):Int)]:=by decide+kernel
def BQ:ByteArray:=⟨#[48,49,50,51,52,53,54,55,56,57,97,98,99,100,101,102,103,104,105,106,107,108,109,110,111,112,113,114,115,116,117,118,119,120,121,122]⟩
theorem Lt:∀q:Fin 10,BQ.extract q.val (q.val+1)=strOfNums [48+(q.val:Int)]:=by decide+kernel
theorem BR(h:n<10):fp n=[48+(n:Int)]:=by rw[nG,if_pos h,Nat.mod_eq_of_lt h];rfl
theorem Lu(h1:10<=n)(a:n<100):fp n=[48+((n / 10:Nat):Int),48+((n % 10:Nat):Int)]:=by
 rw[nG,if_neg Ω,BR Ω];rfl
theorem Lv(a:n<100):ai x8 IZ [Δ (n:Int)] w λv w'=>v=bU (fp n)/\Ext w w':=by
 refine ay func292 ?_;rw[aR,aj];refine⟨λh=>?_,λh=>?_⟩
 .rw[aM,wrap_i64 Ω Ω];refine(BP (s:=BQ) (i:=n) (j:=n+1) rfl Ω c5.u Ω (by show n+1<=36;omega)).mpr ?_;rw[Lt ⟨n,Ω⟩,BR Ω];exact⟨rfl,Ext.refl _⟩
 .rw[gp,wrap_i64 Ω Ω,gp,wrap_i64 Ω Ω,aM,wrap_i64 Ω Ω];refine(BP (s:=jO) (i:=2*n) (j:=2*n+2) Ω Ω c5.u Ω (by rw[BM];omega)).mpr ?_;rw[Ls ⟨n,a⟩,Lu Ω a];exact⟨rfl,Ext.refl _⟩
theorem Lw{g:Nat}{f h:Λ}(a:jP w g 1 f C h)(p:C.length<=23):aH .u8 w (.slice (σ ⟨g,1,ν⟩) C.length 23) C:=by
 obtain⟨a,q⟩:=a;refine⟨Ξ,g,1,_,23,rfl,p,by simp[maxLen],λ_=>rfl,λj v e=>?_⟩;have r:j<C.length:=by have:=(x5.1 e).1;simpa using this
 refine a.cell ?_;rw[ints,Z2,Z2,Y1 Θ,Y3 Θ,u7,q,R4];exact e
theorem BS{g m:Nat}(a:y=((m+2:Nat):Int))(hm:m<=22):
  V x8 (V8 mu (Γ g) (σ (Δ 1)) (σ (Δ y)) ν) w K=K (.slice (σ ⟨g,1,ν⟩) (m+1) 23):=by
 subst a;have:=r3 (w:=w) (b:=g) (o:=0) (low:=σ (Δ 1)) (high:=σ (Δ ((m+2:Nat):Int))) (mx:=ν) (l:=1) (h:=m+2) (m:=24) (K:=K) mu.u cH.i ⟨_,rfl⟩ ⟨_,rfl⟩ fE Ω Ω Ω;rw[this,if_neg Ω];rfl
theorem Lx(q:eu w)(s:n<9223372036854775808):ai x8 IU [Δ (n:Int),Δ 10] w λv w'=>v=bU (fp n)/\Ext w w':=by
 refine ay func278 ?_;rw[bb];refine(aj).mpr ⟨λ_=>?_,λh=>absurd rfl h⟩;refine aW (λv J=>w=J/\v= .bool (decide (n<100))) ?_ ?_
 rotate_left
 .intro aw a;rw[kT,aj];refine⟨λ_=>?_,λh=>Ω⟩;rw[aR];exact a _ _ ⟨rfl,by congr 1;rw[V7,decide_eq_true_eq,decide_eq_true_eq];omega⟩
 rintro _ _ ⟨rfl,rfl⟩;rw[aj];refine⟨λh=>?_,λh=>?_⟩
 .exact (Lv h).mono λ_ _ _ h=>h
 refine bw mu.i λg J E f x=>?_;rw[fo ao.u fA.u,wrap_u64 Ω Ω];refine aW (λv U=>J=U/\v= .int .u64 (n:Int)) ?_ ?_
 rotate_left
 .intro aw a;rw[aR,aj];exact⟨λh=>Ω,λ_=>a _ _ ⟨rfl,rfl⟩⟩
 rintro _ _ ⟨rfl,rfl⟩;refine(Lr (q.ext f) Ω s).mono ?_;rintro _ U _ ⟨j,m,rfl,hm,y,p⟩;rw[aM,wrap_i64 Ω Ω];rw[BS (m:=m) Ω Ω];have z:jP U g 1 [0] (o4 (m+1) 0) (o4 (22-m) 0):=by
  refine⟨?_,rfl⟩;have e:[0]++o4 (m+1) (0:Int)++o4 (22-m) 0=o4 24 0:=by
   rw[show[(0:Int)]=o4 1 0 from rfl,List.replicate_append_replicate,List.replicate_append_replicate];congr 1;omega
  rw[e];exact x.ext j
 refine(Lk (N:=m+1) z Ξ Ω p).mono ?_;rintro _ G _ ⟨rfl,A,B⟩;refine b7 Ω ?_;rw[aM,wrap_i64 Ω Ω];rw[BS (m:=m) Ω Ω];have C:=qw (m+1) n;have I:=Lw B Ω;rw[C]at I;rw[vf cL.u cH.u c5.u I,BL m n y p];refine⟨rfl,(f.trans j).then A λr H he=>?_⟩;have he:r=g:=he;omega
theorem Ly(a:eu w)(e:n<9223372036854775808):ai x8 uQ [Δ (n:Int)] w λv w'=>v=bU (fp n)/\Ext w w':=by
 refine ay func212 ?_;refine ai.mono (K:=λv w'=>v=bU (fp n)/\Ext w w') ?_ (λ_ _ _ h=>h);refine ay func252 ?_;exact(Lx a e).mono λ_ _ _ h=>h
theorem eu.aa(h:eu w)(a:ae S w w')(e:¬S 1):eu w':=hP a e h
def dq(w:x4)(g gs:Nat)(A:af)(B:af)(clean:Bool)(s:Option aE):Prop:=match s with
 |some s=>dk w g gs A B s clean
 |none=>eF w g gs A B
theorem fX.of{g:Nat}{A:af}{B:af}{s:Option aE}(h:fX w g gs A B clean s w'):ae (bG g gs A) w w'/\dq w' g gs A B clean s:=h
theorem fX.mk{g:Nat}{A:af}{B:af}{s:Option aE}(h:ae (bG g gs A) w w')(a:dq w' g gs A B clean s):fX w g gs A B clean s w':=⟨h,a⟩
theorem dq.aa{g:Nat}{A:af}{B:af}{s:Option aE}(h:dq w g gs A B clean s)(a:ae S w w')(e:∀r,bG g gs A r->¬S r)(f:∀r,cF g gs A B r->¬S r):dq w' g gs A B clean s:=by
 cases s with
 |none=>exact eF.aa (g:=g) (gs:=gs) (A:=A) (B:=B) h a e f
 |some s=>exact dk.aa (g:=g) (gs:=gs) (A:=A) (B:=B) (s:=s) (clean:=clean) h a e f
theorem dq.ext{g:Nat}{A:af}{B:af}{s:Option aE}(h:dq w g gs A B clean s)(a:Ext w w'):dq w' g gs A B clean s:=h.aa (a.aa λ_=>False) (λ_ _ h=>h) λ_ _ h=>h
theorem dq.side{g:Nat}{A:af}{B:af}{s:Option aE}(h:dq w g gs A B clean s):k5 w g gs A B:=by
 cases s with
 |none=>exact h.1
 |some s=>exact h.1
def a7(lo hi:Int)(s:Option aE):Option (Int×aE):=s.bind (bd lo hi)
theorem l3{g:Nat}{A:af}{B:af}{s:Option aE}(h:dq w g gs A B clean s):ai x8 nl [Γ g,Δ lo,Δ hi] w λv w'=>fX w g gs A B clean ((a7 lo hi s).map (·.2)) w'/\∃n at_:Int,v= .tuple #[Δ n,Δ at_]/\(∀q,a7 lo hi s=σ q->n=q.1)/\(a7 lo hi s=ν->n=0):=by
 cases s with
 |none=>
  refine(Kv h).mono ?_;rintro _ J _ ⟨a,rfl⟩;exact⟨⟨a.aa _,eF.ext (g:=g) (gs:=gs) (A:=A) (B:=B) h a⟩,0,0,rfl,λq h=>(by cases h),λ_=>rfl⟩
 |some s=>exact vA (s:=s) h
theorem pk{g:Nat}{A:af}{B:af}{s:Option aE}(h:dq w g gs A B clean s):ai x8 kP [Γ g] w λv w'=>v= .bool s.isSome/\Ext w w':=by
 cases s with
 |none=>exact nN h
 |some s=>exact pc h
theorem Lz{g:Nat}{A:af}{B:af}{s:Option aE}{e:Int}(h:dq w g gs A B clean s)(he:e≠0):ai x8 nn [Γ g,Δ e,Δ at_] w λ_ w'=>fX w g gs A B clean ν w':=by
 cases s with
 |none=>
  refine(Kt h).mono ?_;rintro _ J _ a;exact⟨a.aa _,eF.ext (g:=g) (gs:=gs) (A:=A) (B:=B) h a⟩
 |some s=>
  refine(sw (s:=s) h he).mono ?_;rintro _ J _ ⟨f,j⟩;exact⟨f.mono λr _ h=>.inl h,j⟩
theorem qy{g:Nat}{A:af}{B:af}{s:Option aE}{b:Bool}(h:dq w g gs A B clean s):ai x8 pW [Γ g,.bool b,Δ at_] w λ_ w'=>fX w g gs A B clean (s.map (ba b)) w':=by
 cases s with
 |none=>
  refine(Bf h).mono ?_;rintro _ J _ a;exact⟨a.aa _,eF.ext (g:=g) (gs:=gs) (A:=A) (B:=B) h a⟩
 |some s=>
  refine(sx (s:=s) h).mono ?_;rintro _ J _ ⟨e,f⟩;exact⟨e.mono λr _ h=>.inl h,f⟩
theorem mJ{n:Int}{s:Option aE}{s':aE}(h:a7 lo hi s=σ (n,s')):lo<=n/\n<=hi:=by
 cases s with
 |none=>cases h
 |some s=>exact(hY h).1
def fa(ks acc:Λ)(s:Option aE):Option (Λ×aE):=s.bind (iI ks acc)
theorem BT{acc:Λ}{s:Option aE}:fa (k::ks) acc s=match a7 0 (k-1) s with
  |none=>ν
  |some (v,s)=>iI ks (acc++[v]) s:=by
 cases s with
 |none=>rfl
 |some s=>
  show iI (k::ks) acc s=_;rw[iI];show _=match bd 0 (k-1) s with|none=>ν|some (v,s)=>iI ks (acc++[v]) s
  cases bd 0 (k-1) s<;>rfl
theorem BU:∀(t:Λ),(∀x∈t,0<=x/\x<=av)->(ek t).length<=20*t.length
 |[],_=>by simp[ek]
 |x::t,h=>by
  have j:=BU t λy a=>h y (.tail _ a);have f:=h x (.head _);have p:=vi 19 x.toNat (by unfold av at f;omega) Ω;have e:ek (x::t)=fp x.toNat++[32]++ek t:=by simp[ek]
  rw[e];simp only[o7,Z5,List.length_nil];omega
theorem LA{g al:Nat}{A B:af}{s:Option aE}{ah:x3->x4->Prop}(h:dq w g gs A B clean s)(aj:aH .i64 w sv sizes)(aP:∀r,leads sv r->¬bG g gs A r/\r≠al)(aQ:∀z∈sizes,1<=z/\z<=av)(bO:sizes.length<=100001)(aR:eu w)(h1:cF g gs A B 1)(ak:ad w al ej [.slice ν 0 0,Δ 0])(am:¬bG g gs A al)(an:¬B al)(ap:∀t w' aO gt,t.length=sizes.length->(∀x∈t,0<=x/\x<=av)->ae (λr=>bG g gs A r\/r=al) w w'->ad w' al ej [aO,Δ 0]->aq .i64 ao w' gt aO t->w.heap.size<=gt->
   dq w' g gs A B clean ((fa sizes [] s).map (·.2))->(∀q,fa sizes [] s=σ q->t=q.1)->ah (bU (ek t)) w'):
  b3 (.string ⟨#[]⟩) (Δ 0) w λkey S C aT=>
   V x8 (aJ .lss ag false false S (Δ (sizes.length:Int))) C λaU=>
   Split aU (V x8 (j5 au sv S) C λaV=>
   V x8 (u5 ao aV) C λaW=>
   V x8 (aJ .sub ao false true aW (Δ 1)) C λaX=>
   ai x8 nl [Γ g,(Δ 0),aX] C λaw G=>
   V x8 (Y2 aw 0) G λax=>
   V x8 (Y2 aw 1) G λbP=>
   V x8 (u6 ej (Γ al) 0) G λaY=>
   V x8 (u5 au aY) G λaZ=>
   aC x8 (Y8 au 1 #[(0,ax)]) G λa1 a2=>
   aC x8 (Z3 #[au,au] au #[aZ,a1]) a2 λa6 ay=>
   V x8 (u6 ej (Γ al) 0) ay λa8=>
   aC x8 (o8 au a8 a6) ay λ(_:Unit)ba=>
   ai x8 uQ [ax] ba λbb K=>
   V x8 (aJ .add c5 false true bb (.string ⟨#[32]⟩)) K λbd=>
   V x8 (aJ .add c5 false false key bd) K λbe=>
   V x8 (aJ .add ag false true S (Δ 1)) K λbf=>
   aT be bf K) (ah key C):=by
 have bQ:=ak.lt;have bg:=h.side;obtain⟨bR,bS,bT,bh,bi⟩:=bg;refine b3.range sizes.length (λj key J=>∃t aO gt s1,key=bU (ek t)/\t.length=j/\(∀x∈t,0<=x/\x<=av)/\ae (λr=>bG g gs A r\/r=al) w J/\ad J al ej [aO,Δ 0]/\aq .i64 ao J gt aO t/\w.heap.size<=gt/\
  dq J g gs A B clean s1/\fa sizes [] s=fa (sizes.drop j) t s1) aj.le ⟨[],_,w.heap.size,s,rfl,rfl,λx y=>(by cases y),ae.refl _ _,ak,aq.nil _ _ _ _,o5 _,h,rfl⟩ ?_ ?_
 rotate_left
 .rintro _ J bj ⟨t,aO,gt,s1,rfl,L,H,E,M,N,W,O,he⟩;refine b7 Ω ?_;rw[List.drop_length]at he;cases s1 with
  |none=>
   have he:fa sizes [] s=ν:=he;exact ap t J aO gt L H E M N W (by rw[he];exact O) (λq e=>by rw[he]at e;cases e)
  |some s1=>
   have he:fa sizes [] s=σ (t,s1):=he;exact ap t J aO gt L H E M N W (by rw[he];exact O) (λq e=>by rw[he]at e;cases e;rfl)
 rintro j _ J bj az ⟨t,aO,gt,s1,rfl,L,H,E,M,N,W,O,he⟩ bk;obtain⟨z,X⟩:=aD (l:=sizes) az;have bl:=aQ z (x6 X);have bV:z<=4611686018427387904:=bl.2;have bm:aH .i64 J sv sizes:=hX aj E λr f a n c bn bo=>by
  have:=aP r ⟨a,n,c,bn,bo⟩;exact f.elim this.1 this.2
 have ac:∀r,bG g gs A r->r<w.heap.size:=bh;refine bD Ω ?_;rw[bc au.u ao.i Ψ bm X,ec,wrap_i64 Ω Ω];refine(l3 O).mono ?_;rintro _ U _ ⟨bp,n,at_,rfl,aA,br⟩;obtain⟨P,bt⟩:=bp.of;have aB:0<=n/\n<=av:=by
  cases e:a7 0 (z-1) s1 with
  |none=>rw[br e];exact⟨Ω,by unfold av;omega⟩
  |some q=>
   rw[aA q e];have:=mJ (s':=q.2) (n:=q.1) e;exact⟨this.1,by unfold av;omega⟩
 rw[bz,bA];have aF:=M.aa P am;have bu:=N.aa P λ_ bw=>by have:=ac _ bw;omega
 rw[aG ej.p 0 aF rfl];refine eM au.u ao.i rfl λa ga bx bW I bB=>?_;refine jg au.u ao.i rfl (bu.ext I) bB.ls Θ Θ λaI aK bC bX Y Q=>?_;have bY:=E.size;have bZ:=P.size;have z3:=I.size;have z4:=Q.size;rw[aS ej.p rfl];have bE:=(aF.ext I).aa Q (λhe=>by have he:al=gt:=he;omega);refine bq (g:=al) (o:=0) au.i Y.ls.cells.1 Y.ls.cells.2 bE Ξ λaL Z b0 ab=>?_;have ab:ad aL al ej [aI,Δ 0]:=ab;have bF:ae (λr=>bG g gs A r\/r=al) w bx:=(E.trans (P.mono λr _ h=>.inl h)).trans (I.aa _);have bH:ae (λr=>bG g gs A r\/r=al) w bC:=hx bF Q λr f he=>by have he:r=gt:=he;omega
 have aN:ae (λr=>bG g gs A r\/r=al) w aL:=bH.trans (Z.mono λr _ h=>.inr h);have bI:¬(λr=>bG g gs A r\/r=al) 1:=λh=>h.elim h1.1 λh=>an (h▸h1.2);obtain⟨m,rfl⟩:∃m:Nat,n=(m:Int):=⟨n.toNat,Ω⟩;unfold av at aB;refine(Ly (aR.aa aN bI) Ω).mono ?_;rintro _ b1 _ ⟨rfl,R⟩;have b2:=vi 19 m Ω Ω;have b4:=BU t H;rw[show(ByteArray.mk #[32])=strOfNums [32]from rfl,ve Θ,ve Θ,aM];refine bk _ _ ⟨t++[(m:Int)],aI,aK,(a7 0 (z-1) s1).map (·.2),?_,by simp[L],λx y=>?_,aN.trans (R.aa _),ab.ext R,(Y.aa Z (λ_ he=>by have he:aK=al:=he;omega)).ext R,Ω,?_,?_⟩
 .rw[JO,u9]
 .rcases l9.1 y with y|y
  .exact H x y
  .rw[j4.1 y];exact aB
 .refine dq.ext ?_ R;have bJ:=bt.ext I;have bK:∀r,bG g gs A r->¬(λr=>r=gt) r:=λr f he=>by have:=ac r f;have he:r=gt:=he;omega
  have bL:∀r,cF g gs A B r->¬(λr=>r=gt) r:=λr f he=>by have:=bi r f.2;have he:r=gt:=he;omega
  have bM:∀r,bG g gs A r->¬(λr=>r=al) r:=λr f he=>by have he:r=al:=he;exact am (he▸f)
  have bN:∀r,cF g gs A B r->¬(λr=>r=al) r:=λr f he=>by have he:r=al:=he;exact an (he▸f.2)
  exact(bJ.aa Q bK bL).aa Z bM bN
 .rw[he,X8 az,show sizes[j]=z from(x5.1 X).2,BT];cases e:a7 0 (z-1) s1 with
  |none=>rfl
  |some q=>
   rw[aA q e];rfl
def dX(s:aE):Prop:=s.big=false->s.told<=16384
def jQ(n:Int)(s:aE):aE:=ba (decide (16384<min (s.told+n) av)) {s with told:=min (s.told+n) av}
theorem LB(n:Int)(s:aE):dX (jQ n s):=λh=>by
 have h:(s.big||decide (16384<min (s.told+n) av))=false:=h;have:=of_decide_eq_false (U3.1 h).2;show min (s.told+n) av<=16384;omega
theorem LC{g:Nat}{A B:af}{s:Option aE}{n:Int}{K:x4->Prop}(h:dq w g gs A B clean s)(O:∀t,s=σ t->0<=n/\n<=av/\dX t)(H:∀w',ae (bG g gs A) w w'->dq w' g gs A B clean (s.map (jQ n))->K w'):
  V x8 (bP (Γ g)) w λP=>
  V x8 (u6 ci P 2) w λQ=>
  V x8 (u5 ao Q) w λR=>
  V x8 (aJ .add ao false false R (Δ n)) w λS=>
  V x8 (Z4.min_ #[ao,ao] ao #[S,(Δ 4611686018427387904)]) w λW=>
  V x8 (bP (Γ g)) w λX=>
  V x8 (u6 ci X 2) w λY=>
  aC x8 (o8 ao Y W) w λ(_:Unit)q=>
  V x8 (bP (Γ g)) q λt77=>
  V x8 (u6 ci t77 2) q λZ=>
  V x8 (u5 ao Z) q λab=>
  V x8 (aJ .gtr ao false true ab (Δ 16384)) q λac=>
  ai x8 pW [Γ g,ac,Δ at_] q λ_ ag=>K ag:=by
 cases s with
 |none=>
  obtain⟨I,e,big,y,z,told,sv,l,x,C,E⟩:=id h;rw[aQ ci.p 2 x rfl,aM,kU,bX,aS ci.p rfl];refine bq (g:=g) (o:=5) ao.i rfl rfl x (by simp[fJ]) λJ a ah f=>?_;rw[aQ ci.p 2 f rfl,bS];have L:eF J g gs A B:=⟨I.aa a,e,big,y,z,_,sv,l,f,C,ak.aa E a λr _ h G=>ss h I.2.1 G⟩;refine(Bf L).mono ?_;rintro _ U _ M;exact H _ ((a.mono λr _ h=>.inl h).trans (M.aa _)) (L.ext M)
 |some s=>
  obtain⟨au,aj,hi⟩:=O s rfl;obtain⟨I,al,am,big,y,z,told,sv,x,C,E⟩:=id h;rw[aQ ci.p 2 x rfl,aM,kU,bX,aS ci.p rfl];refine bq (g:=g) (o:=5) ao.i rfl rfl x (by simp[fJ]) λJ a ah f=>?_;have f:ad J g ci (fJ gs 0 big y z (min (X7.wrap (told+n)) 4611686018427387904) sv):=f;rw[aQ ci.p 2 f rfl,bS];have key:s.big=false->min (X7.wrap (told+n)) 4611686018427387904=min (s.told+n) av:=λj=>by
   rw[C.2 j];have:=hi j;unfold av at aj ⊢;rw[wrap_i64 Ω Ω]
  have an:dk J g gs A B {s with told:=min (s.told+n) av} clean:=⟨I.aa a,al.aa a (λhe=>I.1 he.symm) (λr ap he=>ap.1 (.inl he)),⟨by show 0<=min _ _;unfold av;omega,by show min _ _<=_;omega,am.2.2⟩,big,y,z,_,sv,f,⟨C.1,key⟩,ak.aa E a λr _ h G=>ss h I.2.1 G⟩;refine(sx an).mono ?_;rintro _ U _ ⟨aq,N⟩;refine H _ ((a.trans aq).mono λr _ h=>.inl h) ?_;have e:ba (decide (16384<min (X7.wrap (told+n)) 4611686018427387904)) {s with told:=min (s.told+n) av}=jQ n s:=by
   cases j:s.big with
   |false=>rw[key j,<-j];rfl
   |true=>simp[jQ,ba,j]
  rw[e]at N;exact N
def iN(sizes:Λ)(s:Option aE):Option (List (Λ×Int)×aE):=s.bind (dW sizes)
def k9(w:x4)(m:Nat)(acc:List (Λ×Int)):Prop:=c7 w m (acc.map λp=>(bU (ek p.1),Δ 1))
def kr(w:x4)(m:Nat):Prop:=∃d,c7 w m d/\∀p∈d,∃(k:ByteArray)(c:Int),p=(.string k,Δ c)
theorem k9.any{m:Nat}{acc:List (Λ×Int)}(h:k9 w m acc):kr w m:=⟨_,h,λp a=>by
 obtain⟨q,_,rfl⟩:=j0.1 a;exact⟨_,_,rfl⟩⟩
theorem LD{m:Nat}{k:ByteArray}(h:kr w m)(f:∀c:Int,K (Δ c)):V x8 (Instr.lookup gW (.map (σ m)) (.string k) false) w K:=by
 obtain⟨d,hm,q⟩:=h;have hk:=Keys.str c5.u;have r:∀p∈d,∃s,p.1=x3.string s:=λp a=>by obtain⟨s,c,rfl⟩:=q p a;exact⟨s,rfl⟩
 by_cases he:∃p∈d,p.1=x3.string k
 .obtain⟨p,a,e⟩:=he;obtain⟨j,x⟩:=X6.1 a;obtain⟨s,c,rfl⟩:=q p a;have e:x3.string s=x3.string k:=e;rw[e]at x;rw[qo gW.u hk hm r ⟨k,rfl⟩ x];exact f c
 .have y:∀p∈d,p.1≠x3.string k:=λp a h=>he ⟨p,a,h⟩;rw[sC gW.u hk ⟨_,_,ag.i⟩ hm r ⟨k,rfl⟩ y];exact f 0
theorem LF{m:Nat}{k:ByteArray}{K:Unit->x4->Prop}(h:kr w m)(x:∀w',ae (λr=>r=m) w w'->kr w' m->K () w'):aC x8 (Instr.mapUpdate gW (.map (σ m)) (.string k) (Δ c)) w K:=by
 obtain⟨d,hm,e⟩:=h;have y:∀p∈d,∃s,p.1=x3.string s:=λp a=>by obtain⟨s,c,rfl⟩:=e p a;exact⟨s,rfl⟩
 refine qp gW.u (Keys.str c5.u) hm y ⟨k,rfl⟩ (λj v0 w' z f q=>x w' q ⟨_,f,λp a=>?_⟩) (λw' A f q=>x w' q ⟨_,f,λp a=>?_⟩)
 .rcases W5 a with a|rfl
  .exact e p a
  .exact⟨_,_,rfl⟩
 .rcases l9.1 a with a|a
  .exact e p a
  .rw[j4.1 a];exact⟨_,_,rfl⟩
theorem BV{a b:Λ}(e:∀x∈a,0<=x)(f:∀x∈b,0<=x)(h:bU (ek a)=bU (ek b)):a=b:=by
 have h:strOfNums (ek a)=strOfNums (ek b):=x3.string.inj h;exact Ax e f (str_inj (Ay a) (Ay b) h)
theorem vP{acc:List (Λ×Int)}:∀p∈acc.map λp=>(bU (ek p.1),V5 .i64 1),∃s,p.1=x3.string s:=λp a=>by
 obtain⟨q,_,rfl⟩:=j0.1 a;exact⟨_,rfl⟩
theorem BW{m:Nat}{acc:List (Λ×Int)}{t:Λ}(h:k9 w m acc)(f:∀p∈acc,∀x∈p.1,0<=x)(r:∀x∈t,0<=x):
  V x8 (Instr.lookup gW (.map (σ m)) (bU (ek t)) false) w K=K (Δ (if t∈acc.map (·.1)then 1 else 0)):=by
 have hk:=Keys.str c5.u;by_cases he:t∈acc.map (·.1)
 .rw[if_pos he];obtain⟨p,a,rfl⟩:=j0.1 he;obtain⟨j,s⟩:=X6.1 a;rw[qo gW.u hk h vP ⟨_,rfl⟩ (j:=j) (v:=Δ 1) (by rw[v8,s];rfl)];simp
 .rw[if_neg he];rw[sC gW.u hk ⟨_,_,ag.i⟩ h vP ⟨_,rfl⟩ (λp a y=>?_)]
  .simp
  .obtain⟨q,e,rfl⟩:=j0.1 a;have:=BV (f q e) r y;exact he (j0.2 ⟨q,e,this⟩)
theorem LG{m:Nat}{acc:List (Λ×Int)}{t:Λ}{K:Unit->x4->Prop}(h:k9 w m acc)(z:∀p∈acc,∀x∈p.1,0<=x)(A:∀x∈t,0<=x)(B:t∉acc.map (·.1))(C:∀w',ae (λr=>r=m) w w'->k9 w' m (acc++[(t,c)])->K () w'):aC x8 (Instr.mapUpdate gW (.map (σ m)) (bU (ek t)) (Δ 1)) w K:=by
 refine qp gW.u (Keys.str c5.u) h vP ⟨_,rfl⟩ (λj v0 w' e f s=>?_) (λw' _ f s=>C w' s ?_)
 .rw[v8]at e;obtain⟨q,y,a⟩:=Y6.1 e;have a:bU (ek q.1)=bU (ek t):=congrArg Prod.fst a;have:=BV (z q (x6 y)) A a;exact absurd (j0.2 ⟨q,x6 y,this⟩) B
 .unfold k9;rw[Z2];exact f
theorem LH{m:Nat}{acc:List (Λ×Int)}{t:Λ}{ok:Prop}{K:Unit->x4->Prop}(e:kr w m)(z:ok->k9 w m acc/\(∀p∈acc,∀x∈p.1,0<=x)/\(∀x∈t,0<=x)/\t∉acc.map (·.1))(f:∀w',ae (λr=>r=m) w w'->kr w' m->(ok->k9 w' m (acc++[(t,c)]))->K () w'):
  V x8 (Instr.lookup gW (.map (σ m)) (bU (ek t)) false) w λA=>
  V x8 (aJ .add ag false true A (Δ 1)) w λB=>
  aC x8 (Instr.mapUpdate gW (.map (σ m)) (bU (ek t)) B) w K:=by
 by_cases j:ok
 .obtain⟨h1,q,s,y⟩:=z j;rw[BW h1 q s,if_neg y,aM,wrap_i64 Ω Ω];exact LG (c:=c) h1 q s y λw' a I=>f w' a I.any λ_=>I
 .refine LD e λgX=>?_;rw[aM];exact LF e λw' a I=>f w' a I λh=>absurd h j
def fs{α:Type}(f:List α->aE->Option (α×aE))(n:Nat)(acc:List α)(o:Option aE):Option (List α×aE):=o.bind (cM f n acc)
theorem kr.aa{m:Nat}(h:kr w m)(a:ae S w w')(e:¬S m):kr w' m:=by
 obtain⟨d,h1,f⟩:=h;exact⟨d,h1.aa a e,f⟩
theorem dq.words{g:Nat}{A:af}{B:af}{s:aE}(h:dq w g gs A B clean (σ s)):s.toks.length<=100000:=by
 have h:dk w g gs A B s clean:=h;exact h.2.1.words.1
theorem BX{acc:List (Λ×Int)}{st:aE}{t:Λ}(j:∀q,fa sizes [] (σ st)=σ q->t=q.1)(a:∀q,a7 0 av ((fa sizes [] (σ st)).map (·.2))=σ q->c=q.1):
  (a7 0 av ((fa sizes [] (σ st)).map (·.2))=ν->dV sizes acc st=ν)/\∀q,a7 0 av ((fa sizes [] (σ st)).map (·.2))=σ q->dV sizes acc st=if t∈acc.map (·.1)then ν else σ ((t,c),q.2):=by
 have e:fa sizes [] (σ st)=iI sizes [] st:=rfl;rw[e]at j a ⊢;unfold dV;cases h1:iI sizes [] st with
 |none=>exact⟨λ_=>rfl,λq f=>(by cases f)⟩
 |some q=>
  obtain⟨bn,s1⟩:=q;rw[h1]at j a;have:=j _ rfl;subst this;have p:a7 0 av ((σ (t,s1)).map (·.2))=bd 0 av s1:=rfl;rw[p]at a ⊢;simp only;cases r:bd 0 av s1 with
  |none=>exact⟨λ_=>rfl,λq f=>(by cases f)⟩
  |some q=>
   obtain⟨s,w⟩:=q;rw[r]at a;have:=a _ rfl;subst this;exact⟨λh=>(by cases h),λq f=>(by cases f;rfl)⟩
theorem LI{g:Nat}{A B:af}{s:Option aE}{Q:x3->x4->Prop}(h:dq w g gs A B clean s)(bW:aH .i64 w sv sizes)(aT:∀r,leads sv r->¬bG g gs A r/\r<w.heap.size)(bX:∀z∈sizes,1<=z/\z<=av)(bY:sizes.length<=100001)(bZ:eu w)(h1:cF g gs A B 1)(b1:(N:Int)<=av)(bo:∀v w' l,fX w g gs A B clean ((fs (dV sizes) N [] s).map (·.2)) w'->bl (eo w.heap.size) bx w' [v] (show List (Λ×Int)from l)->(∀q,fs (dV sizes) N [] s=σ q->l=q.1)->Q v w'):
  aC x8 (Instr.makeMap gW ν) w λaU y=>
 b3 (.slice ν 0 0) (Δ 0) y λout i H k=>
  cv (α:=x3->x4->Prop) (λ(b2:x3)(S:x4)=>
   Split b2 (aC x8 (Instr.alloc ej true (.tuple #[])) S λx j=>
  V x8 (W7 #[au] ag #[sv]) j λb4=>
  b3 (.string ⟨#[]⟩) (Δ 0) j λkey aX U b5=>
   V x8 (aJ .lss ag false false aX b4) U λb6=>
   Split b6 (V x8 (j5 au sv aX) U λb7=>
   V x8 (u5 ao b7) U λb8=>
   V x8 (aJ .sub ao false true b8 (Δ 1)) U λb9=>
   ai x8 nl [Γ g,(Δ 0),b9] U λbp Z=>
   V x8 (Y2 bp 0) Z λbr=>
   V x8 (Y2 bp 1) Z λds=>
   V x8 (u6 ej x 0) Z λca=>
   V x8 (u5 au ca) Z λcb=>
   aC x8 (Y8 au 1 #[(0,br)]) Z λcc I=>
   aC x8 (Z3 #[au,au] au #[cb,cc]) I λcd bt=>
   V x8 (u6 ej x 0) bt λce=>
   aC x8 (o8 au ce cd) bt λ(_:Unit)cg=>
   ai x8 uQ [br] cg λch aB=>
   V x8 (aJ .add c5 false true ch (.string ⟨#[32]⟩)) aB λci=>
   V x8 (aJ .add c5 false false key ci) aB λcj=>
   V x8 (aJ .add ag false true aX (Δ 1)) aB λck=>
   b5 cj ck aB)
    (ai x8 nl [Γ g,(Δ 0),(Δ 4611686018427387904)] U λbu aD=>
  V x8 (Y2 bu 0) aD λcl=>
  V x8 (Y2 bu 1) aD λcm=>
  V x8 (u6 ej x 1) aD λcn=>
  aC x8 (o8 ao cn cl) aD λ(_:Unit)cp=>
  cv (α:=x4->Prop) (λ(W:x4)=>
   V x8 (Instr.lookup gW aU key false) W λcq=>
   V x8 (aJ .add ag false true cq (Δ 1)) W λcr=>
   aC x8 (Instr.mapUpdate gW aU key cr) W λ(_:Unit)ab=>
   V x8 (u5 ej x) ab λct=>
   aC x8 (Y8 iD 1 #[(0,ct)]) ab λcu ax=>
   aC x8 (Z3 #[iD,iD] iD #[out,cu]) ax λcw aF=>
   V x8 (aJ .add ao false true i (Δ 1)) aF λcz=>
  k cw cz aF) λbB=>
  cv (α:=x3->x4->Prop) (λ(cA:x3)(M:x4)=>
   Split cA (ai x8 nn [Γ g,(Δ 4),cm] M λdt bC=>
    bB bC)
    (bB M)) λbD=>
  ai x8 kP [Γ g] cp λcB ah=>
  Split cB (V x8 (Instr.lookup gW aU key false) ah λcC=>
  V x8 (aJ .gtr ag false true cC (Δ 0)) ah λcD=>
  bD cD ah)
   (bD (.bool false) ah)))
    (Q out S)) λbE=>
  V x8 (aJ .lss ao false false i (Δ (N:Int))) H λcE=>
  Split cE (ai x8 kP [Γ g] H λcG cH=>
  bE cG cH)
   (bE (.bool false) H):=by
 obtain⟨du,dv,dw,cI,aG⟩:=h.side;have ac:∀r,bG g gs A r->r<w.heap.size:=cI;unfold av at b1;refine sB λC y dx aZ a1=>?_;have dy:=aZ.size;have dz:=a1.lt;generalize E:fs (dV sizes) N [] s=bH at bo;refine⟨λout a2 H=>∃(i:Nat)(acc:List (Λ×Int))(so:Option aE),a2=Δ (i:Int)/\i<=N/\ae (bG g gs A) w H/\y.heap.size<=H.heap.size/\bl (eo y.heap.size) bx H [out] acc/\dq H g gs A B clean so/\
   bH=fs (dV sizes) (N-i) acc so/\kr H C/\acc.length<=100001/\∀st,so=σ st->k9 H C acc/\(∀p∈acc,∀x∈p.1,0<=x)/\acc.length+st.toks.length<=100000,
  λ_ a2 _=>N-(b0 a2).toNat,⟨0,[],s,rfl,X5 _,aZ.aa _,o5 _,fV,h.ext aZ,E.symm,⟨[],a1,λp L=>(by cases L)⟩,Ξ,λst cJ=>⟨a1,λp L=>(by cases L),?_⟩⟩,?_⟩
 .subst cJ;have:=h.words;simpa using this
 rintro out _ H ⟨i,acc,so,rfl,dA,bI,z9,bJ,a6,aI,cK,dC,a8⟩;refine aW (λv S=>Ext H S/\((v= .bool true/\i<N/\∃st,so=σ st)\/(v= .bool false/\(so=ν\/i=N)))) ?_ ?_
 rotate_left
 .intro aw ba;rw[aR,aj];refine⟨λcL=>?_,λdD=>ba _ _ ⟨Ext.refl _,.inr ⟨rfl,.inr Ω⟩⟩⟩;refine(pk a6).mono ?_;rintro _ S _ ⟨rfl,O⟩;cases so with
  |none=>exact ba _ _ ⟨O,.inr ⟨rfl,.inl rfl⟩⟩
  |some st=>exact ba _ _ ⟨O,.inl ⟨rfl,Ω,st,rfl⟩⟩
 rintro _ S ⟨O,cM⟩;rcases cM with⟨rfl,cL,st,rfl⟩|⟨rfl,cN⟩
 rotate_left
 .rw[aY];have bK:bH=so.map λst=>(acc,st):=by
   rcases cN with rfl|rfl
   .exact aI
   .rw[U4]at aI;rw[aI];cases so<;>rfl
  refine bo out S acc (fX.mk (bI.trans (O.aa _)) ?_) (bi (ak.mono bJ (λr _ h=>by have h:y.heap.size<=r:=h;show w.heap.size<=r;omega) λ_ _ h=>h) O) (λq J=>?_)
  .rw[bK,Option.map_map];have e:V9 ((λx=>x.2)∘λst=>(acc,st)) so=so:=by cases so<;>rfl
   rw[e];exact a6.ext O
  .rw[bK]at J;cases so with
   |none=>cases J
   |some st=>cases J;rfl
 rw[bQ];obtain⟨a8,bb,dE⟩:=a8 st rfl;have dF:=O.size;refine bw ej.i λal j dG bL bM=>?_;have ay:=O.trans bL;have bc:ae (bG g gs A) w j:=bI.trans (ay.aa _);have bN:aH .i64 j sv sizes:=hX bW bc λr f a n c cO cP=>(aT r ⟨a,n,c,cO,cP⟩).1 f;rw[aV au.u bN];have aK:¬bG g gs A al:=λE=>by have:=ac _ E;omega
 refine LA (s:=σ st) (a6.ext ay) bN (λr f=>⟨(aT r f).1,by have:=(aT r f).2;omega⟩) bX bY (bZ.aa bc h1.1) h1 bM aK (λcQ=>by have:=aG _ cQ;omega) λt U aO gt dH cR bO cS cT cU cV cW=>?_;have dI:=bL.size;have z12:=bO.size;have dJ:=bM.lt;have bd:∀x∈t,0<=x:=λx cX=>(cR x cX).1;refine(l3 cV).mono ?_;rintro _ Z _ ⟨be,c,dK,rfl,cY,dL⟩;obtain⟨aL,cZ⟩:=be.of;have dM:=aL.size;rw[bz,bA,aS ej.p rfl];refine bq (g:=al) (o:=1) ao.i rfl rfl (cS.aa aL aK) Ξ λI aN dN bf=>?_;have bf:ad I al ej [aO,Δ c]:=bf;have c0:aq .i64 ao I gt aO t:=(cT.aa aL (λ_ E=>by have:=ac _ E;omega)).aa aN (λ_ he=>by have he:gt=al:=he;omega);have bg:ae (λr=>bG g gs A r\/r=al) j I:=(bO.trans (aL.mono λr _ h=>.inl h)).trans (aN.mono λr _ h=>.inr h);have X:dq I g gs A B clean ((a7 0 av ((fa sizes [] (σ st)).map (·.2))).map (·.2)):=cZ.aa aN (λr f he=>by have he:r=al:=he;exact aK (he▸f)) (λr f he=>by have:=aG r f.2;have he:r=al:=he;omega);have bP:¬(λr=>bG g gs A r\/r=al) C:=λh=>h.elim (λh=>by have:=ac _ h;omega) (λh=>Ω);have c1:kr I C:=(cK.aa (ay.aa (λ_=>False)) (λh=>h)).aa bg bP;have bR:k9 I C acc:=(c7.ext a8 ay).aa bg bP;obtain⟨bh,bj⟩:=BX (acc:=acc) cW cY;refine dl (λW=>ae (bG g gs A) I W/\dq W g gs A B clean ((dV sizes acc st).map (·.2))) ?_ ?_
 .rintro W ⟨am,c2⟩;have bk:¬bG g gs A C:=λh=>by have:=ac _ h;omega
  have dO:=aN.size;have dP:=am.size;refine LH (acc:=acc) (t:=t) (c:=c) (ok:=∃q,dV sizes acc st=σ q) (c1.aa am bk) (λ⟨q,J⟩=>⟨c7.aa bR am bk,bb,bd,λP=>?_⟩) λab az c3 c4=>?_
  .cases K:a7 0 av ((fa sizes [] (σ st)).map (·.2))with
   |none=>rw[bh K]at J;cases J
   |some an=>rw[bj an K,if_pos P]at J;cases J
  have dQ:=az.size;have c6:ad ab al ej [aO,Δ c]:=(bf.aa am aK).aa az (λhe=>by have he:al=C:=he;omega);have c8:aq .i64 ao ab gt aO t:=(c0.aa am (λ_ E=>by have:=ac _ E;omega)).aa az (λ_ he=>by have he:gt=C:=he;omega);rw[bF ej.p ej.i rfl c6.range];have bT:bl (eo j.heap.size) bx ab [aO,Δ c] (t,c):=⟨[aO],[Δ c],eo j.heap.size,bx,rfl,λ_ h=>h,λ_ h=>h.elim,λ_ _ _ h=>h,ak.mono (kX c8) (λr _ h=>by subst h;exact cU) (λ_ _ h=>h),rfl⟩;refine ig (α:=Λ×Int) (a:=(t,c)) (cs:=[aO,Δ c]) (A:=eo j.heap.size) (R:=bx) iD.u ej.i Φ rfl bT λu ax ap _ c9=>?_;have z22:=ap.size;have da:bl (λr=>eo y.heap.size r/\r<j.heap.size/\r≠al) bx j [out] acc:=bi (ak.mono (lV bJ) (λr _ h=>⟨h.1,by have:=h.2;omega,by have:=h.2;omega⟩) λ_ _ h=>h) ay;have bU:ae (λr=>bG g gs A r\/r=al\/r=C) j ax:=(((bg.mono λr _ h=>h.elim .inl λh=>.inr (.inl h)).trans (am.mono λr _ h=>.inl h)).trans (az.mono λr _ h=>.inr (.inr h))).trans (ap.aa _);have db:=ak.aa da bU λr f h E=>by
   rcases h with h|h
   .have aP:y.heap.size<=r:=h.1;rcases E with E|E|E
    .have:=ac _ E;omega
    .exact h.2.2 E
    .omega
   .exact h
  refine my (α:=Λ×Int) (a:=(t,c)) (A:=eo j.heap.size) iD.u ej.i rfl db c9 (bi bT ap) (λr _ h h'=>?_) Ω Ω λdR aF dc aA=>?_
  .rcases h' with h'|h'
   .have:=h.2;have:j.heap.size<=r:=h';omega
   .exact h'
  have dS:=aA.size;rw[aM,wrap_i64 Ω Ω];have dd:ae (bG g gs A) w ax:=hx bc bU λr f h=>by
   rcases h with h|h|h
   .exact h
   .omega
   .omega
  have de:ae (bG g gs A) w aF:=hx dd aA λr f h=>by have aP:y.heap.size<=r:=h.1;omega
  have df:dq ax g gs A B clean ((dV sizes acc st).map (·.2)):=(c2.aa az (λr f he=>by have he:r=C:=he;exact bk (he▸f)) (λr f he=>by have:=aG r f.2;have he:r=C:=he;omega)).ext ap;have dg:∀r,bG g gs A r->¬(eo y.heap.size r/\r<j.heap.size/\r≠al):=λr f he=>by have:=ac _ f;have aP:y.heap.size<=r:=he.1;omega
  have dh:∀r,cF g gs A B r->¬(eo y.heap.size r/\r<j.heap.size/\r≠al):=λr f he=>by have:=aG r f.2;have aP:y.heap.size<=r:=he.1;omega
  have bV:¬(eo y.heap.size C/\C<j.heap.size/\C≠al):=λhe=>by have aP:y.heap.size<=C:=he.1;omega
  refine⟨⟨i+1,acc++[(t,c)],(dV sizes acc st).map (·.2),rfl,Ω,de,Ω,?_,df.aa aA dg dh,?_,(c3.aa (ap.aa (λ_=>False)) (λh=>h)).aa aA bV,Θ,λdi dj=>?_⟩,by simp only[b0];omega⟩
  .refine ak.mono dc (λr _ h=>?_) λ_ _ h=>h;show y.heap.size<=r;rcases h with h|h|h
   .exact h.1
   .have h:j.heap.size<=r:=h;omega
   .omega
  .rw[aI,show N-i=(N-(i+1))+1 by omega];cases G:dV sizes acc st with
   |none=>exact pd G
   |some q=>
    obtain⟨a,di⟩:=q;have dk:a=(t,c):=by
     cases K:a7 0 av ((fa sizes [] (σ st)).map (·.2))with
     |none=>rw[bh K]at G;cases G
     |some an=>
      rw[bj an K]at G;split at G
      .cases G
      .cases G;rfl
    subst dk;exact sz G
  .obtain⟨q,J,rfl⟩:=Y6.1 dj;have dT:=(pa J).2.2.2.1;refine⟨c7.aa ((c7.ext (c4 ⟨q,J⟩) ap)) aA bV,λp L=>?_,by simp only[o7,S3];omega⟩;rcases l9.1 L with L|L
   .exact bb p L
   .rw[j4.1 L];exact bd
 .intro dU bm;cases K:a7 0 av ((fa sizes [] (σ st)).map (·.2))with
  |none=>
   rw[K]at X;have G:=bh K;refine aW (λv M=>Ext I M/\v= .bool false) ?_ ?_
   .rintro _ M ⟨Y,rfl⟩;rw[aY];exact bm _ ⟨Y.aa _,by rw[G];exact X.ext Y⟩
   .intro dm bn;refine(pk X).mono ?_;rintro _ ah _ ⟨rfl,aQ⟩;rw[show((ν:Option (Int×aE)).map (·.2)).isSome=false from rfl,aY];exact bn _ _ ⟨aQ,rfl⟩
  |some an=>
   rw[K]at X;have G:=bj an K;refine aW (λv M=>Ext I M/\v= .bool (decide (t∈acc.map (·.1)))) ?_ ?_
   .rintro _ M ⟨Y,rfl⟩;rw[aj];refine⟨λP=>?_,λdn=>?_⟩
    .refine (Lz (X.ext Y) Ω).mono ?_;rintro _ bC _ be;obtain⟨dp,dr⟩:=be.of;exact bm _ ⟨(Y.aa _).trans dp,by rw[G,if_pos P];exact dr⟩
    .exact bm _ ⟨Y.aa _,by rw[G,if_neg dn];exact X.ext Y⟩
   .intro dm bn;refine(pk X).mono ?_;rintro _ ah _ ⟨rfl,aQ⟩;rw[show((σ an:Option (Int×aE)).map (·.2)).isSome=true from rfl,bQ,BW (c7.ext bR aQ) bb bd,bS];refine bn _ _ ⟨aQ,?_⟩;congr 1;by_cases P:t∈acc.map (·.1)
    .rw[if_pos P,decide_eq_true P];rfl
    .rw[if_neg P,decide_eq_false P];rfl
theorem BY(sizes:Λ)(s:Option aE):iN sizes s=match a7 (-av) av s with
 |none=>ν
 |some (n,s)=>
  if n<0 then match s.shared[(-n-1).toNat]? with
   |none=>ν
   |some (z,l)=>if z=sizes then σ (l,s)else ν
  else cM (dV sizes) n.toNat [] (jQ n s):=by
 cases s with
 |none=>rfl
 |some s=>
  show dW sizes s=_;unfold dW;show _=match bd (-av) av s with
   |none=>ν
   |some (n,s)=>
    if n<0 then match s.shared[(-n-1).toNat]? with
     |none=>ν
     |some (z,l)=>if z=sizes then σ (l,s)else ν
    else cM (dV sizes) n.toNat [] (jQ n s)
  cases bd (-av) av s<;>rfl
theorem BZ{m:Bool}{S R:af}{a:iL}(h:ak.rep (α:=iL) m S R w cs a):∃u v,cs=[u,v]/\ak.rep (α:=Λ) false bx R w [u] a.1/\ak.rep (α:=List (Λ×Int)) false bx R w [v] a.2:=by
 obtain⟨c,d,f,j,rfl,_,_,_,h1,e⟩:=h;have h1:ak.rep (α:=Λ) false bx R w c a.1:=h1;have e:ak.rep (α:=List (Λ×Int)) false bx R w d a.2:=e;obtain⟨u,rfl⟩:=V0.1 (show c.length=1 from ak.len h1);obtain⟨v,rfl⟩:=V0.1 (show d.length=1 from ak.len e);exact⟨u,v,rfl,h1,e⟩
theorem LJ{g:Nat}{A B:af}{s:Option aE}(h:dq w g gs A B clean s)(hi:∀t,s=σ t->dX t)(ax:aH .i64 w sv sizes)(K:∀r,leads sv r->¬bG g gs A r/\r<w.heap.size)(az:∀z∈sizes,1<=z/\z<=av)(aA:sizes.length<=100001)(aB:eu w)(h1:cF g gs A B 1):
  ai x8 HN [Γ g,sv] w λv w'=>fX w g gs A B clean ((iN sizes s).map (·.2)) w'/\∃l,Seen (λr=>cF g gs A B r\/w.heap.size<=r) w' [v] (show List (Λ×Int)from l)/\∀q,iN sizes s=σ q->l=q.1:=by
 have aC:=h.side;obtain⟨bd,be,bf,aD,bg⟩:=id aC;have ac:∀r,bG g gs A r->r<w.heap.size:=aD;refine ay func167 ?_;refine(l3 (lo:=-av) (hi:=av) h).mono ?_;rintro _ J _ ⟨aG,n,at_,rfl,V,aI⟩;obtain⟨L,ak⟩:=aG.of;have bh:=L.size;have j:=BY sizes s;rw[bz,bA];have al:aH .i64 J sv sizes:=hX ax L λr C a n c M W=>(K r ⟨a,n,c,M,W⟩).1 C;have bj:∀r,leads sv r->¬bG g gs A r/\r<J.heap.size:=λr C=>⟨(K r C).1,by have:=(K r C).2;omega⟩;have rest:∀U,Ext J U->(∀q,a7 (-av) av s=σ q->¬n<0)->∀N:Nat,n=(N:Int)->(N:Int)<=av->∀y,ae (bG g gs A) U y->dq y g gs A B clean (((a7 (-av) av s).map (·.2)).map (jQ n))->
   ∀v w' l,fX y g gs A B clean ((fs (dV sizes) N [] (((a7 (-av) av s).map (·.2)).map (jQ n))).map (·.2)) w'->bl (eo y.heap.size) bx w' [v] (show List (Λ×Int)from l)->(∀q,fs (dV sizes) N [] (((a7 (-av) av s).map (·.2)).map (jQ n))=σ q->l=q.1)->
   fX w g gs A B clean ((iN sizes s).map (·.2)) w'/\∃l,Seen (λr=>cF g gs A B r\/w.heap.size<=r) w' [v] (show List (Λ×Int)from l)/\∀q,iN sizes s=σ q->l=q.1:=by
  intro U x O N X Y y G Z v w' l aJ aK aL;obtain⟨aM,aN⟩:=aJ.of;have aO:=x.size;have z3:=G.size;have e:iN sizes s=fs (dV sizes) N [] (((a7 (-av) av s).map (·.2)).map (jQ n)):=by
   rw[j];cases f:a7 (-av) av s with
   |none=>rfl
   |some q=>
    obtain⟨aP,s1⟩:=q;have:=V _ f;subst this;simp only;rw[if_neg (O _ f),X,u9];rfl
  rw[e];refine⟨fX.mk (((L.trans (x.aa _)).trans G).trans aM) aN,l,nA aK λr _ h=>?_,aL⟩;rcases h with h|h
  .have h:y.heap.size<=r:=h;exact .inr Ω
  .exact h.elim
 refine aW (λv U=>Ext J U/\v= .bool (decide (n<0/\(a7 (-av) av s).isSome=true))) ?_ ?_
 rotate_left
 .intro aw Q;refine(pk ak).mono ?_;rintro _ U _ ⟨rfl,x⟩;cases f:a7 (-av) av s with
  |none=>
   rw[show((ν:Option (Int×aE)).map (·.2)).isSome=false from rfl,aY];exact Q _ _ ⟨x,by rw[decide_eq_false];rintro⟨_,h⟩;rw[f]at h;cases h⟩
  |some q=>
   rw[show((σ q:Option (Int×aE)).map (·.2)).isSome=true from rfl,bQ,aR];exact Q _ _ ⟨x,by congr 1;rw[V7,decide_eq_true_eq,decide_eq_true_eq,f];exact⟨λh=>⟨h,rfl⟩,λh=>h.1⟩⟩
 rintro _ U ⟨x,rfl⟩;have H:=ak.ext x;have aO:=x.size;rw[aj];refine⟨λO=>?_,λaT=>?_⟩
 rotate_left
 .have O:∀q,a7 (-av) av s=σ q->¬n<0:=λq f h=>aT ⟨h,by rw[f];rfl⟩;obtain⟨N,X,Y⟩:∃N:Nat,n=(N:Int)/\(N:Int)<=av:=by
   cases f:a7 (-av) av s with
   |none=>rw[aI f];exact⟨0,rfl,by unfold av;omega⟩
   |some q=>
    have h1:=O q f;have aU:=mJ (n:=q.1) (s':=q.2) f;have aV:=V q f;exact⟨n.toNat,Ω,Ω⟩
  refine LC (at_:=at_) H (λt aX=>?_) λy G Z=>?_
  .obtain⟨q,f,rfl⟩:=Y6.1 aX;have aU:=mJ (n:=q.1) (s':=q.2) f;have aV:=V q f;refine⟨Ω,Ω,?_⟩;cases s with
   |none=>cases f
   |some s0=>
    have am:=(dK (n:=q.1) (s':=q.2) f).eqs;have an:=hi s0 rfl;intro ao;rw[am.1];rw[am.2.1]at ao;exact an ao
  .have z3:=G.size;have aZ:ae (bG g gs A) w y:=(L.trans (x.aa _)).trans G;subst X;refine LI (N:=N) Z ((hX (al.ext x) G λr C a n c M W=>(K r ⟨a,n,c,M,W⟩).1 C)) (λr C=>⟨(K r C).1,by have:=(K r C).2;omega⟩) az aA (aB.aa aZ h1.1) h1 Y λv w' l a b c=>?_;exact rest U x O N rfl Y y G Z v w' l a b c
 .obtain⟨a1,a2⟩:=O;obtain⟨⟨aP,s1⟩,f⟩:=Option.isSome_iff_exists.1 a2;have:=V _ f;subst this;have bk:=mJ f;rw[f]at j H;simp only at j;rw[if_pos a1]at j;have H:dk U g gs A B s1 clean:=H;obtain⟨_,an,bm,big,bn,bo,told,bp,ab,bq,ad⟩:=id H;have br:av=4611686018427387904:=rfl;refine aW (λv y=>Ext U y/\v= .bool (decide (iN sizes s=ν))) ?_ ?_
  .rintro _ y ⟨E,rfl⟩;rw[aj];refine⟨λa6=>?_,λap=>?_⟩
   .refine (sw (H.ext E) Ω).mono ?_;rintro _ bt _ ⟨a8,ba⟩;rw[a6];refine⟨fX.mk (((L.trans (x.aa _)).trans (E.aa _)).trans (a8.mono λr _ h=>.inl h)) ba,[],fV,λq f=>by cases f⟩
   .cases P:s1.shared[(-n-1).toNat]? with
    |none=>rw[P]at j;exact absurd j ap
    |some q=>
     obtain⟨z,l⟩:=q;rw[P]at j;simp only at j;have bb:z=sizes:=by
      by_cases I:z=sizes
      .exact I
      .rw[if_neg I]at j;exact absurd j ap
     rw[if_pos bb]at j;rw[aQ ci.p 3 (ab.ext E) rfl,lR,wrap_i64 Ω Ω,ec,wrap_i64 Ω Ω];refine jH (α:=iL) (m:=true) (S:=A) (R:=cF g gs A B) (i:=(-n-1).toNat) (a:=(z,l)) Ω hr.u jB.i (bi ad E) P λb o cs ag ah=>?_;obtain⟨u,v,rfl,hu,M⟩:=BZ ah;rw[aS jB.p rfl,aF Ψ (ag 1 v rfl)];rw[j];refine⟨fX.mk ((L.trans (x.aa _)).trans (E.aa _)) (H.ext E),l,nA M λr _ h=>?_,λq f=>by cases f;rfl⟩;rcases h with h|h
     .exact h.elim
     .exact .inl h
  .intro aw Q;rw[lR,wrap_i64 Ω Ω,aQ ci.p 3 ab rfl,fG hr.u ad,bS,aj];refine⟨λaq=>Q _ _ ⟨Ext.refl _,?_⟩,λau=>?_⟩
   .have aq:(s1.shared.length:Int)<0-n:=aq;rw[Y4 Ω]at j;rw[decide_eq_true j]
   .have au:¬(s1.shared.length:Int)<0-n:=au;have bc:(-n-1).toNat<s1.shared.length:=Ω
    obtain⟨⟨z,l⟩,P⟩:∃q,s1.shared[(-n-1).toNat]?=σ q:=⟨_,x7 bc⟩;rw[aQ ci.p 3 ab rfl,lR,wrap_i64 Ω Ω,ec,wrap_i64 Ω Ω];refine jH (α:=iL) (m:=true) (S:=A) (R:=cF g gs A B) (i:=(-n-1).toNat) (a:=(z,l)) Ω hr.u jB.i ad P λb o cs ag ah=>?_;obtain⟨u,v,rfl,hu,M⟩:=BZ ah;rw[aS jB.p rfl,aF Ψ (ag 0 u rfl)];refine(Jk (dD hu) (al.ext x)).mono ?_;rintro _ y _ ⟨rfl,E⟩;rw[bJ];refine Q _ _ ⟨E,?_⟩;rw[P]at j;simp only at j;by_cases I:z=sizes
    .rw[if_pos I]at j;rw[decide_eq_true I,decide_eq_false (by rw[j];simp)];rfl
    .rw[if_neg I]at j;rw[decide_eq_false I,decide_eq_true j];rfl
end Go.Proofs.YtikkpokkcdocoaaGreatDoor
