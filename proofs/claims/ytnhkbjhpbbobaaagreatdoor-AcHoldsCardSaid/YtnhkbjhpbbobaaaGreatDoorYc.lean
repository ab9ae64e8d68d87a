/- own texts, made small by a tool (wip/ holds them as they were written): no statement of the seat. -/
import Derived.Test.YtnhkbjhpbbobaaaGreatDoorYb
set_option linter.defProp false
set_option linter.unusedVariables false
set_option linter.unusedSimpArgs false
set_option linter.unnecessarySimpa false
open Array renaming getElem?_eq_some_iff→Z0,getElem?_toList→Q0
open Bool renaming false→v6,true→v2,not_true→X3,not_false→W6,or_eq_false_iff→U1,eq_iff_iff→U6
open Decidable renaming not_not→X5
open Go renaming Value→x4,World→x6,TypeId→o5,IntKind→j4,Builtin→Y4,Program→V5,FuncId→Q6
open Go.Addr renaming add_mid→T9
open Go.Builtin renaming append_→Z9,len_→V1
open Go.Instr renaming loadAt→u6,fieldAt→u7,storeAt→j0,indexAt→b8,extract→Y8,buildSlice→X2,sliceAt→U4,alloc→Q8
open Go.IntKind renaming i64→W5
open Go.Proofs.Tryz renaming prog→v8
open Go.Value renaming int→U3
open Int renaming toNat_natCast→u9,le_refl→S9
open List renaming getElem?_eq_some_iff→x5,mem_of_getElem?→x7,getElem?_eq_getElem→x8,getElem?_map→u4,getD_eq_getElem?_getD→u5,length_map→r8,take_add_one→r9,replicate→o6,length_set→o7,length_take→o8,take_length→o9,length_append→n9,getElem?_set_self→l9,mem_map→j5,mem_append→j9,mem_singleton→c9,take_of_length_le→b9,eq_nil_of_length_eq_zero→Z2,map_append→Z4,getElem?_set_ne→Z6,getElem?_append_right→Z7,length_cons→Y1,getElem?_append_left→Y2,getElem?_eq_none→Y5,getElem?_take_of_lt→Y6,getElem?_set→Y7,ext_getElem?→X0,mem_iff_getElem?→X8,range→X9,drop_eq_getElem_cons→W3,mem_or_eq_of_mem_set→W8,mem_cons→V4,length_eq_one_iff→V6,foldl_cons→V7,flatMap_cons→V8,append_nil→U2,pairwise_iff_getElem→U5,mem_of_mem_take→T1,map_set→T2,map_cons→T3,set_append_right→T4,length_singleton→T5,append_assoc→T6,foldl_append→S2,map_map→S5,mem_filter→S8,getElem?_drop→R3,sum_cons→R6,length→Q2,getElem_mem→P6
open Nat renaming le_refl→o4,le_trans→X1,mul_le_mul_right→X4,zero_add→X6,zero_le→W0,sub_self→V0,add_mul→U7,mul_one→T0,lt_of_lt_of_le→S3,add_assoc→Q3,add_sub_cancel_left→Q5,eq_zero_or_pos→Q9
open Option renaming toList_some→j6,isNone_some→Y0,map_some→Y3,map_eq_some_iff→Y9,getD_some→W7,map→U8
open Option.some renaming inj→Z5,injEq→X7
open Prod.mk renaming injEq→S7
set_option maxHeartbeats 16000000
open Option renaming some→σ,none→ν
variable{aj l scope co t:Λ}{c k y:Int}{B N a ad ae gs j n r:Nat}{cs:List x4}{I w w0:x6}{e:o5}{bj bv sv v:x4}{S:Nat->Prop}{K:x4->x6->Prop}
namespace Go.Proofs.YtnhkbjhpbbobaaaGreatDoor
open Go Go.Vc Go.RowKit Go.Proofs Go.Proofs.Tryz
set_option maxRecDepth 100000
theorem Dw{α:Type}[DecidableEq α]:∀{a b:List α},a.Nodup->b.Nodup->(∀x,x∈a↔x∈b)->a.Perm b
 |[],b,_,_,h=>by
  cases b with
  |nil=>exact .refl _
  |cons y b=>exact ro ((h y).2 (.head _)) Ξ
 |x::a,b,p,f,h=>by
  have q:=(h x).1 (.head _);have j:=List.nodup_cons.1 p;refine .F ?_ (List.perm_cons_erase q).symm;refine .cons x (Dw j.2 (f.erase x) λy=>?_);rw[f.mem_erase_iff];refine⟨λe=>⟨λhe=>j.1 (he▸e),(h y).1 (.tail _ e)⟩,λ⟨r,e⟩=>?_⟩;rcases V4.1 ((h y).2 e)with he|hm
  .exact ro he r
  .exact hm
def ut(h:ny l)(a:l.Nodup):(bx l).Perm l:=Dw (Dq l) a λ_=>rX h
theorem xB:∀{l:Λ},(∀z∈l,1<=z/\z<=32)->l.map (λz=>min z 4097)=l
 |[],_=>rfl
 |z::l,h=>by
  have e:=h z (.head _);rw[T3,xB λx a=>h x (.tail _ a)];congr 1;omega
def NQ{x:cE}(hk:0<=k)(f:0<=x.other)(a:∀p∈x.lines,0<=p.2):0<=k4 x k t/\k4 x k t<=k:=by
 unfold k4;cases e:x.lines.find? (λp=>decide (p.1=t))with
 |none=>simp only;omega
 |some p=>have:=a p (List.mem_of_find?_eq_some e);simp only;omega
def uu{all:Λ}{x:cE}(h:tW all N x)(e:all.length<=64):ny x.scope:=λv a=>by
 have:=h.scope.2 v a;omega
def qz{f:ce}{x:cE}(a:fq N f)(r:x∈f.d9):gR f.co f.k (jG f.co f.k x):=by
 obtain⟨h1,s,e⟩:=a.d9 x r;have w:=a.co.2.1;have h:=uu h1 w;have ac:=ut h h1.scope.1;have j:∀v∈bx x.scope,0<=v/\v<f.co.length:=λv hm=>h1.scope.2 v ((rX h).1 hm);have y:=ps a.co.2.2 j;have A:aQ (bN f.co (bx x.scope))=aQ x.co:=by rw[h1.co];exact NM (ac.map _)
 refine⟨⟨NL _,?_⟩,xx _,λv hm=>(j v hm).2,?_,?_,λc B=>?_⟩
 .show (bx x.scope).length<=6;rw[ac.length_eq];exact s
 .show ((br _).map _).length=_;rw[r8,j1 y];rfl
 .show aQ (bN f.co (bx x.scope))<=4096;have C:∀z∈x.co,1<=z/\z<=32:=λz q=>by
   rw[h1.co]at q;exact ps a.co.2.2 (λv hm=>h1.scope.2 v hm) z q
  unfold dB at e;rw[xB C,decide_eq_false_iff_not]at e;rw[A];omega
 .obtain⟨t,_,rfl⟩:=j5.1 B;exact NQ (by have:=a.k.1;omega) h1.other λp ac=>(h1.lines.2 p ac).2
def mz{f:ce}(a:fq N f):(∀g∈fW f,gR f.co f.k g)/\kD (fW f)/\(fW f).length<=f.d9.length:=by
 have:=xA (k:=f.k) (by have:=a.k.1;omega) (acc:=[]) (λh au=>by cases au) List.nodup_nil λg j=>by
  obtain⟨x,p,rfl⟩:=j5.1 j;exact qz a p
 refine⟨this.1,this.2.1,?_⟩;have e:=this.2.2;rw[List.length_nil,r8,X6]at e;exact e
def Dx{l:List cR}(e:∀g∈l,gR co k g)(f:kD l):l.Pairwise λa b=>dn a.1≠dn b.1:=by
 have h1:l.Pairwise λa b=>a.1≠b.1:=by
  unfold kD List.Nodup at f;rwa [List.pairwise_map]at f
 exact h1.imp_of_mem λ{a b}h j p he=>p ((xy (e a h).scope (e b j).scope).2 he)
def rY{f:ce}(h:fq N f):(fX f).Pairwise (λa b=>dn a.1<dn b.1)/\(fX f).Perm ((fW f).filter fV):=by
 obtain⟨h1,j,_⟩:=mz h;have p:∀g∈(fW f).filter fV,gR f.co f.k g:=λg q=>h1 g (S8.1 q).1;have r:kD ((fW f).filter fV):=(List.Sublist.map _ List.filter_sublist).nodup j;have:=Dv ((fW f).filter fV) [] List.Pairwise.nil (Dx p r) λa s=>by cases s
 refine⟨this.1,?_⟩;have e:=this.2;rw[List.nil_append]at e;exact e
def uv{f:ce}(a:fq N f):∀g∈fX f,gR f.co f.k g:=λg e=>(mz a).1 g (S8.1 ((rY a).2.mem_iff.1 e)).1
def NR{f:ce}(e:fq N f){M:List cR}(ac:M.Perm ((fW f).filter fV))(J:M.Pairwise λa b=>dn a.1<=dn b.1):M=fX f:=by
 obtain⟨h1,h⟩:=rY e;have j:kD ((fW f).filter fV):=(List.Sublist.map _ List.filter_sublist).nodup (mz e).2.1;have p:=(ac.map (λg:cR=>g.1)).nodup_iff.2 j;have q:∀g∈M,gR f.co f.k g:=λg r=>(mz e).1 g (S8.1 (ac.mem_iff.1 r)).1;have s:=Dx q p;refine xz ?_ h1 λx=>by rw[ac.mem_iff,h.mem_iff]
 exact J.imp₂ (λa b h1 h=>Int.lt_iff_le_and_ne.2 ⟨h1,h⟩) s
structure lb(n:aI):Prop where
 k:1<=n.k/\n.k<=2147483648
 co:1<=n.co.length/\n.co.length<=64/\∀z∈n.co,1<=z/\z<=32
 zero:0<=n.zero/\n.zero<=n.k
 lQ:n.unary.length=n.co.length
 unary:∀(i:Nat)(z:Int)(u:Λ),n.co[i]?=σ z->n.unary[i]?=σ u->u.length=z.toNat/\∀c∈u,0<=c/\c<=n.k
 d9:∀g∈n.d9,gR n.co n.k g/\2<=g.1.length
def NS(z:Int):aQ [z]=z:=by simp[aQ]
theorem uw:∀{l:List cR}{n:aI},lb n->(∀g∈l,gR n.co n.k g)->lb (l.foldl (λn g=>match g.1 with
 |[]=>{n with zero:=g.2.getD 0 0}
 |[v]=>{n with unary:=n.unary.set v.toNat g.2}
 |_=>{n with d9:=n.d9++[g]}) n)/\(l.foldl (λn g=>match g.1 with
 |[]=>{n with zero:=g.2.getD 0 0}
 |[v]=>{n with unary:=n.unary.set v.toNat g.2}
 |_=>{n with d9:=n.d9++[g]}) n).co=n.co
 |[],n,h,_=>⟨h,rfl⟩
 |g::l,n,h,p=>by
  have e:=p g (.head _);have j:∀x∈l,gR n.co n.k x:=λx f=>p x (.tail _ f);rw[V7];obtain⟨sc,cs⟩:=g
  match sc,e with
  |[],e=>
   have s:=e.len;refine uw ⟨h.k,h.co,?_,h.lQ,h.unary,h.d9⟩ j;have h1:cs.length=1:=by simpa[bN,aQ]using s
   have w:cs[0]?=σ (cs.getD 0 0):=by rw[u5,x8 Ω];rfl
   exact e.jm _ (x7 w)
  |[v],e=>
   have A:=e.scope.1 v (.head _);have B:=e.d6 v (.head _);refine uw ⟨h.k,h.co,h.zero,by show(n.unary.set _ _).length=_;rw[o7];exact h.lQ,λi z u q hu=>?_,h.d9⟩ j;by_cases hi:v.toNat=i
   .subst hi;have C:=h.lQ;rw[l9 Ω]at hu;cases hu;have y:bN n.co [v]=[z]:=by
     simp only[bN,T3,List.map_nil];rw[u5,q];rfl
    refine⟨?_,e.jm⟩;have:=e.len;rw[y,NS]at this;exact this
   .rw[Z6 hi]at hu;exact h.unary i z u q hu
  |a::b::r,e=>
   refine uw ⟨h.k,h.co,h.zero,h.lQ,h.unary,λx f=>?_⟩ j;rcases j9.1 f with f|f
   .exact h.d9 x f
   .rw[c9.1 f];exact⟨e,Ξ⟩
def Dy{f:ce}(a:fq N f):lb (cK f)/\(cK f).co=f.co:=by
 unfold cK;have h:=a.co;refine uw ⟨a.k,h,⟨by show(0:Int)<=0;omega,by show(0:Int)<=f.k;have:=a.k.1;omega⟩,Ξ,λi z u h1 e=>?_,λg j=>by cases j⟩ (uv a);have e:(f.co.map λz=>o6 z.toNat (0:Int))[i]?=σ u:=e;have h1:=h1;rw[u4,h1]at e;cases e;refine⟨Ξ,λc p=>?_⟩;rw[(List.mem_replicate.1 p).2];have:=a.k.1;exact⟨S9 _,by show(0:Int)<=f.k;omega⟩
def mA(x:cE)(k:Int)(i:Nat)(t:Λ):Int:=match(x.lines.take i).find? (λp=>decide (p.1=t))with
 |some p=>min p.2 k
 |none=>min x.other k
def Dz(x:cE)(k:Int)(t:Λ):mA x k 0 t=min x.other k:=by simp[mA]
def DA(x:cE)(k:Int)(t:Λ):mA x k x.lines.length t=k4 x k t:=by
 unfold mA k4;rw[o9];cases x.lines.find? (λp=>decide (p.1=t))<;>rfl
def DB{x:cE}{i:Nat}{p:Λ×Int}(w:(x.lines.map (·.1)).Nodup)(hi:x.lines[i]?=σ p)(t:Λ):mA x k (i+1) t=if t=p.1 then min p.2 k else mA x k i t:=by
 unfold mA;rw[r9,hi,j6,List.find?_append];by_cases a:t=p.1
 .subst a;have y:(x.lines.take i).find? (λq=>decide (q.1=p.1))=ν:=by
   rw[List.find?_eq_none];intro q e he;have he:q.1=p.1:=by simpa using he
   obtain⟨j,f⟩:=X8.1 e;have h:j<i:=by have:=(x5.1 f).1;rw[o8]at this;omega
   rw[Y6 h]at f;have r:=x5.1 f;have s:=x5.1 hi;have ac:=U5.1 w j i (by rw[r8];exact r.1) (by rw[r8];exact s.1) h;rw[List.getElem_map,List.getElem_map,r.2,s.2]at ac;exact ac he
  rw[y,ms rfl];simp
 .rw[rc a];have:[p].find? (λq=>decide (q.1=t))=ν:=by
   rw[List.find?_eq_none];intro q e he;rw[c9.1 e]at he;exact a (ty he).symm
  rw[this,Option.or_none]
def qA{v:Int}(h:v∈l):l[l.idxOf v]?=σ v:=by
 have:=List.idxOf_lt_length_iff.2 h;rw[x8 this,List.getElem_idxOf this]
def rZ{i:Nat}{v:Int}(j:l.Nodup)(h:l[i]?=σ v):l.idxOf v=i:=by
 have hm:=x7 h;have h1:=qA hm;have a:=x5.1 h1;have e:=x5.1 h;rcases Nat.lt_trichotomy (l.idxOf v) i with f|he|f
 .exact ro (a.2.F e.2.symm) (U5.1 j _ _ a.1 e.1 f)
 .exact he
 .exact ro (e.2.F a.2.symm) (U5.1 j _ _ e.1 a.1 f)
def gv(scope a:Λ):Λ:=a.map λv=>((scope.idxOf v:Nat):Int)
def ux{h:Λ}(s:scope.Nodup)(a:h.Perm scope):Good (gv scope h) scope.length:=by
 have q:=a.nodup_iff.2 s;refine⟨by simp[gv,a.length_eq],λi p ac=>?_⟩;unfold gv at ac;rw[u4]at ac;obtain⟨v,r,rfl⟩:=Y9.1 ac;have hm:v∈scope:=a.mem_iff.1 (x7 r);have y:=List.idxOf_lt_length_iff.2 hm;refine⟨⟨Ω,Ω⟩,λj z f=>?_⟩;unfold gv at f;rw[u4]at f;obtain⟨u,hu,he⟩:=Y9.1 f;have w:=a.mem_iff.1 (x7 hu);have e:scope.idxOf u=scope.idxOf v:=Ω
 have h1:=qA w;rw[e,qA hm]at h1;have x:v=u:=Z5 h1;subst x;have A:=rZ q hu;have B:=rZ q r;omega
def DC{a:Λ}{v:Int}(e:a[j]?=σ v):(gv scope a)[j]?=σ ((scope.idxOf v:Nat):Int):=by
 unfold gv;rw[u4,e];rfl
def NT{a:Λ}(p:scope.Nodup)(f:a.Perm scope):e5 (bN co scope) (gv scope a)=bN co a:=by
 refine X0 λj=>?_;cases e:a[j]? with
 |none=>
  have h:=List.getElem?_eq_none_iff.1 e;rw[Y5 (by rw[tT];simp[gv];exact h),Y5 (by simp[bN];exact h)]
 |some v=>
  have hm:v∈scope:=f.mem_iff.1 (x7 e);have q:=ux p f;rw[Cl q (by simp[bN]) (DC e),u9];unfold bN;rw[u4,u4,qA hm,e]
def DD{e:Λ}(q:scope.Nodup)(a:e.Perm scope)(r:t.length=scope.length):n5 (gv scope e) t=qo scope e t:=by
 have s:=ux q a;refine(Ck s r (by simp[qo]) λj p f=>?_).symm;unfold gv at f;rw[u4]at f;obtain⟨v,h,rfl⟩:=Y9.1 f;have hm:v∈scope:=a.mem_iff.1 (x7 h);have w:=a.nodup_iff.2 q;have x:=(x5.1 h).1;have y:=a.length_eq;unfold qo;rw[u9,u4,qA hm,Y3,rZ w h,u5,x8 (show j<t.length by omega)];rfl
def NU{f:ce}{x:cE}{cs:Λ}(e:fq N f)(w:x∈f.d9)(F:cs.length=(aQ x.co).toNat)(y:∀t,dx x.co t->bq x.co cs t=k4 x f.k t):
  e5 x.co (gv x.scope (bx x.scope))=bN f.co (bx x.scope)/\pk x.co cs (gv x.scope (bx x.scope))=(jG f.co f.k x).2:=by
 obtain⟨h1,G,H⟩:=e.d9 x w;have j:=uu h1 e.co.2.1;have ac:=ut j h1.scope.1;have p:=h1.co;have h:e5 x.co (gv x.scope (bx x.scope))=bN f.co (bx x.scope):=by rw[p];exact NT h1.scope.1 ac
 have z:=ux h1.scope.1 ac;have A:∀v∈bx x.scope,0<=v/\v<f.co.length:=λv hm=>h1.scope.2 v ((rX j).1 hm);have a:dT (bN f.co (bx x.scope)):=ps e.co.2.2 A;refine⟨h,?_⟩;have B:x.co.length=x.scope.length:=by rw[p];simp[bN]
 unfold pk;rw[h];show _=(br (bN f.co (bx x.scope))).map λt=>k4 x f.k (qo x.scope (bx x.scope) t);refine X0 λq=>?_;rw[u4,u4];have I:=nr a;by_cases r:q<(aQ (bN f.co (bx x.scope))).toNat
 .have C:=rC a (i:=q) Ω;rw[C,List.getElem?_range r];simp only[Y3];have E:=w8 a r;have s:(dr (bN f.co (bx x.scope)) q).length=x.scope.length:=by rw[kw];simp[bN,ac.length_eq]
  rw[DD h1.scope.1 ac s,y];have:=Mk z B (by rw[h];exact E);rw[DD h1.scope.1 ac s]at this;exact this
 .rw[Y5 Θ,Y5 (by rw[j1 a];omega)];rfl
def NV{a e:Λ}(J:dT aj)(h1:a.length=(aQ aj).toNat)(f:e.length=(aQ aj).toNat):
  ez k a e=(X9 (aQ aj).toNat).map λ(q:Nat)=>min (bq aj a (dr aj q)+bq aj e (dr aj q)) k:=by
 conv=>lhs;rw[tS J h1,tS J f]
 unfold ez;rw[List.zipWith_map,List.zipWith_self]
def NW{dt m:Nat}{d:List (x4×x4)}{a:List (Λ)}(f:ag w dt jW [.map (σ m)])(hm:de w m d)(j:d.map (·.1)=a.map et)(e:qw a)(A:a.length<65536):
  ak v8 Kt [.func (.func ne) #[] #[Γ dt],C3] w λv I=>Ext w I/\∃g M,M.Perm a/\ul ia M 0 M.length/\po I g v M:=by
 refine az func255 ?_;refine(M0 f hm j (λp h=>(e p h).1) Ω).Y ?_;rintro v U _ ⟨q,g,L,df,ac,s⟩;refine(Nd s (e.perm ac) (by rw[ac.length_eq];omega)).Y ?_;rintro _ V _ ⟨x,M,y,hu,z⟩;exact⟨q.then x (λr B h=>by have:=df r h;omega),g,M,y.F ac,hu,z⟩
theorem DE{α β:Type}{f:α->β}:∀{M:List β}{D:List α},M.Perm (D.map f)->∃L:List α,L.Perm D/\L.map f=M
 |[],D,h=>by
  have h1:=h.length_eq;simp at h1;have:D=[]:=Z2 h1.symm;exact⟨[],by rw[this],rfl⟩
 |x::M,D,h=>by
  have a:x∈D.map f:=h.mem_iff.1 (.head _);obtain⟨p,ac,rfl⟩:=j5.1 a;obtain⟨A,B,rfl⟩:=List.append_of_mem ac;have e:(f p::M).Perm (f p::(A++B).map f):=h.F (by
   rw[Z4,T3,Z4];exact List.perm_middle)
  obtain⟨L,j,q⟩:=DE (List.Perm.cons_inv e);exact⟨p::L,(j.cons p).F List.perm_middle.symm,by rw[T3,q]⟩
def DF{g:Nat}{a:Λ}(r:a.length=6)(s:n<=6)(f:cs=ints .i8 a)(h:ag w g cJ cs):aM .i8 w (.slice (σ (if 6=0 then⟨g,0,ν⟩else⟨g,0+0*1,ν⟩)) (n-0) (6-0)) (a.take n):=by
 subst f;rw[rc Ω];unfold aM;have p:(a.take n).length=n:=by rw[o8];omega
 rw[p];refine⟨Θ,g,0,_,6,rfl,Ω,by simp[maxLen],λ_=>rfl,λj v e=>?_⟩;have q:=(x5.1 e).1;refine h.range j v ?_;rw[ints,List.map_take,Y6 (by simp[ints]at q;omega)]at e;exact e
def NX(D L:Told):Prop:=L.Perm D/\ul (λp=>ia (pad p.1)) L 0 L.length
def NY{g m:Nat}{o:Int}{D:Told}(h:eW w g m aj k o D)(bb:D.length<65536):ak v8 JT [Γ g] w λv I=>Ext w I/\∃L:Told,NX D L/\bs (eV w.heap.size) bQ I [v] L:=by
 obtain⟨⟨sv,gs,Y,hm⟩,bc,J,bS,ay⟩:=id h;have bd:qw (D.map λp=>pad p.1):=λbT hk=>by
  obtain⟨p,ac,rfl⟩:=j5.1 hk;exact rN J (ay p ac).1
 refine az func199 ?_;rw[di e4.u];simp only[Y0,a7];rw[aL fO.p 3 Y rfl];refine MY.Y ?_;rintro _ U _ ⟨Z,dt,rfl,bU,be⟩;refine(NW be (bc.W Z) (by rw[S5,S5];rfl) bd (by simpa using bb)).Y ?_;rintro bV V _ ⟨aA,bW,M,bf,bg,aC⟩;obtain⟨L,ab,K⟩:=DE bf;have aE:M.length=L.length:=by rw[<-K];simp
 have bX:=ab.length_eq;have s1:=Z.size;have bZ:=aA.size;have aF:=Z.F aA;rw[ef kW.u aC];refine b7.range L.length (λi out e=>Ext V e/\bs (eV V.heap.size) bQ e [out] (L.take i)) Ω ⟨Ext.refl _,by rw[List.take_zero];exact gm⟩ ?_ ?_
 rotate_left
 .rintro out e bi ⟨B,N⟩;rw[aE];simp only[aT,al];refine⟨λh=>Ω,λ_=>⟨aF.F B,L,⟨ab,λp q x y h1 bj b0 bk bl=>?_⟩,?_⟩⟩
  .exact bg p q (pad x.1) (pad y.1) h1 bj Ω (by rw[<-K,u4,bk];rfl) (by rw[<-K,u4,bl];rfl)
  .rw[o9]at N;exact ao.Y N (λr _ h=>by have h:=h;show w.heap.size<=r;omega) λ_ _ h=>h
 rintro i out e bi hi ⟨B,N⟩ bm;obtain⟨⟨t,c⟩,ad⟩:∃p,L[i]?=σ p:=⟨_,x8 hi⟩;have ae:(t,c)∈D:=ab.mem_iff.1 (x7 ad);have ah:=(ay _ ae).1;have aG:=xj J ah;have am:t.length=aj.length:=aG.1;have aH:=J.1;have bn:nu (pad t):=rN J ah;have O:=bn.1;have bo:M[i]?=σ (pad t):=by rw[<-K,u4,ad];rfl
 rw[aE];simp only[aT,al];refine⟨λ_=>?_,λh=>Ω⟩;rw[Nc rfl (aC.W B) bo];refine bE cJ.i λaq b2 b3 aI aK=>?_;refine rM O rfl aK λbq br b4 P=>?_;have b5:=aI.size;have b6:=aK.lt;have bt:Ext e bq:=aI.put br Ω;intro aM E _ _;have ap:=bt.F E;have au:=(aF.F B).F ap;have aN:=h.W au;obtain⟨⟨b8,b9,ca,cb⟩,cc,_⟩:=id aN;have cd:=ap.size;rw[aL fO.p 3 (Y.W au) rfl,pn O (P.W E).range];refine MS aN ah (λf bw=>?_) (λbx=>ro rfl (bx _ ae));have bA:f=c:=by
  have:=CR h.nodup bw ae rfl;exact congrArg Prod.snd this
 subst bA;simp only[Bool.false_eq_true,if_false];rw[dk (cs:=#[.slice ν 0 0,Δ f]) Ψ];refine bE gK.i λQ ce cf av aP=>?_;refine⟨.inl av,?_⟩;refine b1 (vs:=[.slice ν 0 0,Δ f]) gK.i rfl rfl (by intro v aQ;simp at aQ;rcases aQ with rfl|rfl<;>rfl) aP λC bB cg aR=>?_;have ch:=av.size;have ci:=aP.lt;have S:Ext aM C:=av.put bB Ω;have aS:=ap.F S;have aX:=au.F S;rw[aL fO.p 0 (Y.W aX) rfl,a1 an.u (hm.ls.W aX)];rw[tA cJ.u gl.i (l:=0) (h:=aj.length) (m:=6) jZ (oZ _ _ rfl) fo Ω Ω Ω];have aY:=DF O aH rfl ((P.W E).W S);rw[<-am,CM]at aY;rw[<-am,a1 me.u aY];have bC:=(P.W E).W S;have cj:aq<aM.heap.size:=(P.W E).lt;have ck:Q<C.heap.size:=aR.lt;refine bY.range t.length (λj s=>af (λr=>r=Q\/C.heap.size<=r) C s/\∃aV gt,C.heap.size<=gt/\ag s Q gK [aV,Δ f]/\aB .i64 ai s gt aV (t.take j)) Ω ⟨af.refl _ _,_,C.heap.size,o4 _,aR,aB.nil _ _ _ _⟩ ?_ ?_
 .rintro j s bD bF ⟨z,aV,gt,bG,W,X⟩ bH;obtain⟨x,aw⟩:=aD (l:=t) bF;have cl:=aG.2 x (x7 aw);have cm:Ext e s:=aS.then z (λr aZ he=>by rcases he with rfl|he<;>omega);have a2:=DF O aH rfl (bC.aa z (λhe=>by rcases he with he|he<;>omega));rw[<-am,CM]at a2;simp only[aT,al];refine⟨λ_=>?_,λh=>Ω⟩;rw[bh me.u gl.i Ψ a2 aw,aJ gK.p 0 W rfl,fC gl.u ai.u,m1 Ω Ω];refine eU an.u ai.i rfl λa ga bI cn A bJ=>?_;refine kt an.u ai.i rfl (X.W A) bJ.ls Θ Θ λa6 bK bL cp G H=>?_;have bM:=z.size;have bN:=A.size;have cq:=H.size;rw[aU gK.p rfl];refine bu (g:=Q) (o:=0) an.i G.ls.cells.1 G.ls.cells.2 ((W.W A).aa H (λhe=>by have he:=he;omega)) Ξ λcr a8 ct bO=>?_;simp only[aO];refine bH _ ⟨((z.F (A.aa _)).F (H.Y λr _ he=>.inr (by have he:r=gt:=he;omega))).F (a8.Y λr _ he=>.inl he),a6,bK,Ω,bO,?_⟩;rw[r9,aw];exact G.aa a8 (λ_ he=>by have he:=he;omega)
 .rintro s bD ⟨z,aV,gt,bG,W,X⟩;simp only[aT,al];refine⟨λh=>Ω,λ_=>?_⟩;rw[o9]at X;rw[bz gK.p gK.i rfl W.range];have bM:=z.size;have bP:=aS.then z (λr aZ he=>by rcases he with rfl|he<;>omega);have ba:bs (eV e.heap.size) bQ s [aV,Δ f] (t,f):=⟨[aV],[Δ f],eV e.heap.size,bQ,rfl,λ_ h=>h,λ_ h=>h.elim,λ_ _ _ h=>h,ao.Y (mj X) (λr _ h=>by subst h;show e.heap.size<=r;omega) (λ_ _ h=>h),rfl⟩;refine jB (α:=Λ×Int) (R:=bQ) p7.u gK.i Φ rfl ba λu bI A _ bR=>?_;have ax:=bP.F A;have bN:=ax.size;refine nY p7.u gK.i rfl (bp (nn N) ax) bR (bp ba A) (λr _ h aW=>?_) Θ Θ λa6 bL G H=>?_
  .rcases aW with aW|aW
   .have:=h.2;have:e.heap.size<=r:=aW;omega
   .exact aW
  simp only[aO];have cu:=B.size;refine bm _ _ ⟨(B.F ax).then H (λr aZ h=>by have h:=h.1;have h:=h;omega),?_⟩;rw[r9,ad];refine ao.Y G (λr _ h=>?_) λ_ _ h=>h;show V.heap.size<=r;rcases h with h|h|h
  .exact h.1
  .have h:=h;omega
  .omega
def DG{s:Λ}(J:dT s):t∈br s↔dx s t:=by
 refine⟨λh=>?_,λ⟨n,h⟩=>x7 (ns J h)⟩;obtain⟨i,hi⟩:=X8.1 h;exact⟨_,kA J hi⟩
theorem DH:∀{s:Λ},dT s->(br s).Pairwise λa b=>ia a<ia b
 |[],_=>by simp[br]
 |k::s,J=>by
  have z:=DH J.tail;have f:∀t∈br s,0<=ia t/\ia t<32 ^ s.length:=λt p=>by
   have A:=(DG J.tail).1 p;have h1:=pj.1 A;have r:=uk t λx q=>by
    obtain⟨i,hi,rfl⟩:=List.getElem_of_mem q;obtain⟨a,e⟩:=aD (l:=s) (i:=i) Ω;have C:=h1.2 i a _ e (x8 hi);have E:=(J.tail a (x7 e)).2;omega
   rw[h1.1];exact r
  have j:∀t∈br s,t.length=s.length:=λt p=>tC p;show((X9 k.toNat).flatMap λ(v:Nat)=>(br s).map λt=>(v:Int)::t).Pairwise _;rw[List.pairwise_flatMap];refine⟨λv _=>?_,?_⟩
  .rw[List.pairwise_map];refine z.imp_of_mem λ{a b}e f h=>?_;simp only[ia,j a e,j b f];omega
  .refine List.pairwise_lt_range.imp λ{u v}F x q y B=>?_;obtain⟨a,e,rfl⟩:=j5.1 q;obtain⟨b,w,rfl⟩:=j5.1 B;simp only[ia,j a e,j b w];have h1:=f a e;have r:=f b w;have:=Int.mul_le_mul_of_nonneg_right (show(u:Int)+1<=v by omega) (show(0:Int)<=32 ^ s.length by have:=xo s.length;omega);rw[Int.add_mul,Int.one_mul]at this;omega
def NZ{D L:Told}{o:Int}(e:(D.map (·.1)).Nodup)(ac:L.Perm D)(t:Λ):jI L o t=jI D o t:=by
 have h:=(ac.map (·.1)).nodup_iff.2 e;by_cases he:∃p∈D,p.1=t
 .obtain⟨p,f,rfl⟩:=he;rw[rO e f,rO h (ac.mem_iff.2 f)]
 .rw[rP λp h1 a=>he ⟨p,h1,a⟩,rP λp h1 a=>he ⟨p,ac.mem_iff.1 h1,a⟩]
def jL(aj:Λ)(f:Λ->Int)(cs:Λ):Prop:=cs.length=(aQ aj).toNat/\∀t,dx aj t->bq aj cs t=f t
def jL.eq{f:Λ->Int}{cs a:Λ}(J:dT aj)(h1:jL aj f cs)(e:jL aj f a):cs=a:=Ma J h1.1 e.1 λt h=>by rw[h1.2 t h,e.2 t h]
def jL.congr{f a:Λ->Int}{cs:Λ}(h:jL aj f cs)(he:∀t,dx aj t->f t=a t):jL aj a cs:=⟨h.1,λt e=>by rw[h.2 t e,he t e]⟩
def xC(J:dT aj)(h:dx aj t):∃n:Nat,cj aj t 0=σ (n:Int)/\n<(aQ aj).toNat:=by
 obtain⟨n,a⟩:=h;have:=mm J a;simp only[Int.zero_mul,Int.zero_add,Int.one_mul]at this;exact⟨n.toNat,by rw[a];congr 1;omega,Ω⟩
def N0(J:dT aj)(c:Int):jL aj (λ_=>c) (o6 (aQ aj).toNat c):=⟨Ξ,λt a=>by
 obtain⟨n,e,f⟩:=xC J a;unfold bq;rw[e];simp only[u9,u5,List.getElem?_replicate,f,if_true,W7]⟩
def jL.put{f:Λ->Int}{cs:Λ}(J:dT aj)(h:jL aj f cs)(q:dx aj t)(r:cG c k):jL aj (λs=>if s=t then c else f s) (tE aj t k c cs):=by
 obtain⟨n,e,w⟩:=xC J q;unfold tE;rw[e];simp only[r,if_true,u9];refine⟨by simp[h.1],λs p=>?_⟩;obtain⟨m,hm,x⟩:=xC J p;have a:=h.2 s p;unfold bq at a ⊢;rw[hm]at a ⊢;simp only[u9]at a ⊢;by_cases he:s=t
 .subst he;rw[e]at hm;have j:n=m:=by have:=Z5 hm;omega
  subst j;rw[ms rfl,u5,l9 (by rw[h.1];exact w)];rfl
 .rw[rc he,u5,Z6 (λj=>he ?_),<-u5,a];subst j;rw[<-Ce J hm,<-Ce J e]
def N1(w:x6)(aj:Λ)(k o:Int)(D:Told)(v:x4)(I:x6):Prop:=Ext w I/\(4096<aQ aj->v= .tuple #[.pointer ν,Δ 5])/\
 (aQ aj<=4096->∃g a sv cs,v= .tuple #[Γ g,Δ 0]/\w.heap.size<=g/\(w.heap.size<=a/\∀r,lw sv r->w.heap.size<=r)/\dm I g a sv aj k cs/\jL aj (jI D o) cs)
def DI{g m:Nat}{o:Int}{D:Told}(h:eW w g m aj k o D)(Y:D.length<65536):ak v8 I1 [Γ g] w (N1 w aj k o D):=by
 obtain⟨⟨sv,gs,Z,hm⟩,aW,J,ab,ad⟩:=id h;have O:=h.nodup;refine az func126 ?_;rw[di e4.u];simp only[Y0,a7];intro U a _ _;have G:=Z.W a;rw[aL fO.p 0 G rfl,aL fO.p 1 G rfl,aL fO.p 2 G rfl];refine(wR (hm.ls.W a)).Y ?_;rintro _ V _ ⟨x,_,ae,_,ag⟩;by_cases ac:aQ aj<=4096
 rotate_left
 .have:=ae J Ω;subst this;rw[bA,bB];simp only[bK,al];exact⟨λ_=>⟨a.F x,λ_=>rfl,λh=>ro h ac⟩,λh=>by simp at h⟩
 obtain⟨gt,f,aV,rfl,aX,aY,ah,P⟩:=ag J ac ab;rw[bA,bB];simp only[bK,al];refine⟨λh=>ro rfl h,λ_=>?_⟩;have s1:=a.size;have aZ:=x.size;refine(NY ((h.W a).W x) Y).Y ?_;rintro df ai _ ⟨H,L,y,Q⟩;have a1:=H.size;have a2:f<V.heap.size:=by
  obtain⟨⟨a8,a6,_,_,am⟩,⟨_,_,ba⟩,an,ap⟩:=id P;have bb:=nr an.2;obtain⟨_,⟨_,aq⟩|⟨cap,cs,_,au,_⟩⟩:=am
  .rw[ap]at aq;omega
  .exact au.lt
 have bc:=y.1.length_eq;rw[fU p7.u Q];refine bY.range L.length (λi z=>af (λr=>r=f) ai z/\∃cs,dm z gt f aV aj k cs/\jL aj (jI (L.take i) o) cs) Ω ⟨af.refl _ _,_,P.W H,by rw[List.take_zero];exact N0 J.2 o⟩ ?_ ?_
 .rintro i z av hi ⟨C,cs,I,E⟩ aw;simp only[aT,al];refine⟨λ_=>?_,λh=>Ω⟩;obtain⟨⟨t,c⟩,q⟩:∃p,L[i]?=σ p:=⟨_,x8 hi⟩;have ax:(t,c)∈D:=y.1.mem_iff.1 (x7 q);obtain⟨ay,aA,aB⟩:=ad _ ax;have aC:=ao.aa Q C λr R aD he=>by
   have he:r=f:=he;rcases aD with h|h
   .have h:=h;omega
   .exact h
  refine mi gK.p rfl p7.u gK.i aC q λus aE=>?_;obtain⟨bd,be,A,B,rfl,bf,bg,_,h1,aF⟩:=aE;have aG:=aF;subst aG;obtain⟨aH,rfl,_⟩:=id h1;have hu:=dl h1;refine bE gK.i λbh bi bj aI S=>?_;refine b1 (vs:=[aH,Δ c]) gK.i rfl rfl (by intro v W;simp at W;rcases W with rfl|rfl;exact hu.cells.2;rfl) S λbk aK bl X=>?_;have bm:=S.lt;have K:=aI.put aK Ω;rw[aJ gK.p 0 X rfl,aJ gK.p 1 X rfl];refine(Lk (I.W K) (hu.W K)).Y ?_;rintro _ bn _ ⟨rfl,aM,aN⟩;simp only[aO];refine aw _ ⟨(C.F (K.aa _)).F aM,_,aN,(E.put J.2 ay aA).congr λs bo=>?_⟩;rw[r9,q];have M:=(y.1.map (·.1)).nodup_iff.2 O;have aP:∀p∈L.take i,p.1≠t:=λp ac he=>by
   obtain⟨j,N⟩:=X8.1 ac;have aR:j<i:=by have:=(x5.1 N).1;rw[o8]at this;omega
   rw[Y6 aR]at N;have:=lO M (by rw[u4,N,Y3,he]) (by rw[u4,q];rfl);omega
  have aS:((L.take i).map (·.1)).Nodup:=by rw[List.map_take];exact(List.take_sublist _ _).nodup M
  have aU:((L.take i++[(t,c)]).map (·.1)).Nodup:=by
   have e:L.take i++[(t,c)]=L.take (i+1):=by rw[r9,q];rfl
   rw[e,List.map_take];exact(List.take_sublist _ _).nodup M
  exact((CS aP aB).cost aS aU s).symm
 .rintro z av ⟨C,cs,I,E⟩;simp only[aT,al];refine⟨λh=>Ω,λ_=>?_⟩;rw[o9]at E;exact⟨((a.F x).F H).put C Ω,λh=>Ω,λ_=>⟨gt,f,aV,cs,rfl,Ω,⟨Ω,λr R=>by have:=ah r R;omega⟩,I,E.congr λs _=>NZ O y.1 s⟩⟩
def N2{s cs:Λ}(J:dT s)(a:cs.length=(aQ s).toNat){i:Nat}(h:(br s)[i]?=σ t):cs[i]?=σ (bq s cs t):=by
 have hi:=(x5.1 h).1;rw[j1 J,<-a]at hi;unfold bq;rw[kA J h];simp only[u9,u5,x8 hi,W7]
def uy{k:j4}{g:Nat}(h:aB k e w g v l)(f:0<l.length):g<w.heap.size:=by
 obtain⟨_,⟨_,h1⟩|⟨_,_,_,a,_⟩⟩:=h
 .omega
 .exact a.lt
def gw(w:x6)(g m:Nat)(sv:x4)(gs:Nat)(aj:Λ)(k o:Int)(D:Told):Prop:=
 ag w g fO [sv,Δ k,Δ o,.map (σ m)]/\aB .i64 ai w gs sv aj/\de w m (D.map k5)/\ci aj/\cG o k/\∀p∈D,dx aj p.1/\cG p.2 k/\p.2≠o
def gw.is{g m:Nat}{o:Int}{D:Told}(h:gw w g m sv gs aj k o D):eW w g m aj k o D:=⟨⟨sv,gs,h.1,h.2.1⟩,h.2.2⟩
def eW.at{g m:Nat}{o:Int}{D:Told}(h:eW w g m aj k o D):∃sv gs,gw w g m sv gs aj k o D:=by
 obtain⟨⟨sv,gs,h1,a⟩,e⟩:=h;exact⟨sv,gs,h1,a,e⟩
def gw.W{g m:Nat}{o:Int}{D:Told}(h:gw w g m sv gs aj k o D)(a:Ext w I):gw I g m sv gs aj k o D:=by
 obtain⟨h1,e,f,j⟩:=h;exact⟨h1.W a,e.W a,f.W a,j⟩
def gw.aa{g m:Nat}{o:Int}{D:Told}(h:gw w g m sv gs aj k o D)(a:af S w I)(e:¬S g)(hm:¬S m)(J:∀r,lw sv r->¬S r):gw I g m sv gs aj k o D:=by
 obtain⟨h1,f,j,p⟩:=h;exact⟨h1.aa a e,bw f a J,j.aa a hm,p⟩
def uz{g m:Nat}{d:List (x4×x4)}(h:ag w g e cs)(hm:de w m d):g≠m:=by
 rintro rfl;obtain⟨a,c,h1,_⟩:=hm;unfold ag at h;rw[h1]at h;cases h
def DJ{g m:Nat}{k:j4}{d:List (x4×x4)}(h:aB k e w g v l)(hm:de w m d)(f:lw v r):r≠m:=by
 obtain⟨rfl,_⟩:=bW h f;obtain⟨_,⟨rfl,_⟩|⟨_,_,_,j,_⟩⟩:=h
 .obtain⟨a,n,c,h,_⟩:=f;cases h
 .exact uz j hm
def gw.put{g m:Nat}{o:Int}{D D':Told}(h:gw w g m sv gs aj k o D)(a:af (λr=>r=m) w I)(aW:eW I g m aj k o D'):gw I g m sv gs aj k o D':=
 ⟨h.1.aa a (λhe=>uz h.1 h.2.2.1 he),bw h.2.1 a (λr e he=>DJ h.2.1 h.2.2.1 e he),aW.2⟩
def gw.rH{g m:Nat}{o:Int}{D:Told}(h:gw w g m sv gs aj k o D):g<w.heap.size/\m<w.heap.size/\∀r,lw sv r->r<w.heap.size:=
 ⟨h.1.lt,h.2.2.1.lt,λr a=>by obtain⟨rfl,e⟩:=bW h.2.1 a;exact e⟩
instance (s t:Λ):Decidable (dx s t):=decidable_of_iff ((cj s t 0).isSome=v2) ⟨λh=>by
 cases a:cj s t 0 with
 |none=>rw[a]at h;cases h
 |some n=>exact⟨n,a⟩,λ⟨n,h⟩=>by rw[h];rfl⟩
def uA(h:aM .i64 w sv l)(G:l.length<=1000000):ak v8 AF [sv] w λv I=>Ext w I/\∃g,w.heap.size<=g/\aB .i64 ai I g v l:=by
 refine az func117 ?_;rw[a1 aw.u h];refine ku (k:=.i64) an.u ai.i Ω Ω λg U H j p=>?_;have y:aB .i64 ai U g (.slice (σ ⟨g,0,ν⟩) l.length l.length) (o6 l.length 0):=by
  have:=b2.full (k:=1) (n:=l.length) p Ξ (by simp[maxLen];omega);exact aB.of this
 rw[a1 aw.u (h.W j)];have J:=p.lt;refine bY.range l.length (λi V=>af (λr=>r=g) U V/\aB .i64 ai V g (.slice (σ ⟨g,0,ν⟩) l.length l.length) (l.take i++o6 (l.length-i) 0)) h.le ⟨af.refl _ _,by simpa using y⟩ ?_ ?_
 rotate_left
 .rintro V z ⟨f,a⟩;rw[aT,al];rw[o9,V0,List.replicate_zero,U2]at a;exact⟨λh=>Ω,λ_=>⟨j.put f Ω,g,Ω,a⟩⟩
 rintro i V z hi ⟨f,a⟩ A;obtain⟨x,q⟩:=aD (l:=l) hi;have B:Ext w V:=j.put f Ω;refine bC Ω ?_;rw[bh aw.u av.i Ψ (h.W B) q];rw[jf rfl an.u ai.i a Θ];refine jg ai.i a Θ λK C L s=>?_;rw[aO];refine A _ ⟨f.F C,?_⟩;have e:(l.take i++o6 (l.length-i) 0).set i x=l.take (i+1)++o6 (l.length-(i+1)) 0:=by
  have E:(l.take i).length=i:=by rw[o8];omega
  rw[T4 _ _ Ω,E,V0,show l.length-i=(l.length-(i+1))+1 by omega,List.replicate_succ,List.set_cons_zero,r9,q,j6,T6];rfl
 rw[e]at s;exact s
def N3(w:x6)(l:Λ)(k o:Int)(v:x4)(I:x6):Prop:=
 Ext w I/\(¬ci l->v= .tuple #[.pointer ν,Δ 1])/\(ci l->¬cG o k->v= .tuple #[.pointer ν,Δ 3])/\
  (ci l->cG o k->∃g m sv gs,v= .tuple #[Γ g,Δ 0]/\w.heap.size<=g/\w.heap.size<=m/\(∀r,lw sv r->w.heap.size<=r)/\gw I g m sv gs l k o [])
def N4{o:Int}(h:aM .i64 w sv l):ak v8 p3 [sv,Δ k,Δ o] w (N3 w l k o):=by
 refine az func178 ?_;refine aY (λv U=>Ext w U/\∃c,v= .bool c/\(c=v2↔¬ci l)) ?_ ?_
 .rintro _ U ⟨e,c,rfl,f⟩;rw[cb];refine⟨λx=>⟨e,λ_=>rfl,λh=>ro h (f.1 x),λh=>ro h (f.1 x)⟩,λA=>?_⟩;have J:ci l:=Classical.byContradiction λh=>by have:=f.2 h;rw[A]at this;cases this
  have H:=J.1;refine k0.Y ?_;rintro _ V _ ⟨rfl,a⟩;by_cases hi:cG o k
  rotate_left
  .simp only[hi,decide_false,bL,W6,bO];exact⟨e.F a,λh=>ro J h,λ_ _=>rfl,λ_ h=>ro h hi⟩
  simp only[hi,decide_true,bL,X3,a7];refine(k1 ((h.W e).W a) Ω).Y ?_;rintro aV I _ ⟨y,B,K,hm⟩;have L:=hm.ls.cells;refine ue λm M N j C=>?_;rw[dk (cs:=#[aV,Δ k,Δ o,.map (σ m)]) (by obtain⟨_,_,_,_,_,rfl,_⟩:=hm.ls;kernel_rfl)];refine bn λg O P q E=>?_;have s1:=e.size;have Q:=a.size;have R:=y.size;have S:=j.size;exact⟨((((e.F a).F y).F j).F q),λh=>ro J h,λ_ h=>ro hi h,λ_ _=>⟨g,m,aV,B,rfl,Ω,Ω,λr G=>by have:=(bW hm G).1;omega,E,(hm.W j).W q,C.W q,J,hi,λp ac=>by cases ac⟩⟩
 .intro ax z;rw[a1 an.u h];simp only[bP,al];refine⟨λW=>z _ _ ⟨Ext.refl _,v2,rfl,λ_ J=>by have:=J.1;omega,λ_=>rfl⟩,λX=>?_⟩;refine(CN h).Y ?_;rintro _ V _ ⟨rfl,a⟩;refine z _ _ ⟨a,_,rfl,?_⟩;rw[sp];exact⟨λs J=>s J.2,λs J=>s ⟨Ω,J⟩⟩
structure DK where
 aj:Λ
 k:Int
 o:Int
 D:Told
instance Vl:ao DK where
 n:=1
 rep _ _ R w cs a:=∃g m sv gs,cs=[Γ g]/\gw w g m sv gs a.aj a.k a.o a.D/\R g/\R m/\∀r,lw sv r->R r
 len:=by rintro _ _ _ _ _ _ ⟨_,_,_,_,rfl,_⟩;rfl
 one:=by rintro _ _ _ _ _ _ ⟨_,_,_,_,rfl,_⟩ u hu;simp at hu;subst hu;rfl
 aa:=by
  rintro _ _ R T w I _ a ⟨g,m,sv,gs,rfl,h1,f,h,j⟩ z p;obtain⟨q,s,x⟩:=h1.rH;exact⟨g,m,sv,gs,rfl,h1.aa z (p g q (.inr f)) (p m s (.inr h)) λr e=>p r (x r e) (.inr (j r e)),f,h,j⟩
 Y:=by
  rintro _ _ _ R R' w _ a ⟨g,m,sv,gs,rfl,h1,f,h,j⟩ _ y;obtain⟨q,s,x⟩:=h1.rH;exact⟨g,m,sv,gs,rfl,h1,y g q f,y m s h,λr e=>y r (x r e) (j r e)⟩
 i7:=by
  rintro _ _ R w _ a ⟨g,m,sv,gs,rfl,h1,f,h,j⟩;exact⟨g,m,sv,gs,rfl,h1,.inr f,.inr h,λr e=>.inr (j r e)⟩
abbrev iq:Type:=Rd (Λ)×DK
def r0(k:Int)(x:cE)(f:iq):Prop:=f.1=x.scope/\f.2.aj=x.co/\f.2.k=k/\f.2.o=min x.other k/\f.2.D.length<=x.lines.length/\∀t,jI f.2.D f.2.o t=k4 x k t
def N5{m:Bool}{S R:ah}{x:cE}(h:ao.rep m S R w cs (iQ x)):∃aS lc cq,cs=[aS,lc,Δ x.other,cq]/\ao.rep (α:=Λ) v6 bQ R w [aS] x.scope/\ao.rep (α:=Λ) v6 bQ R w [lc] x.co/\ao.rep (α:=List (Λ×Int)) v6 bQ R w [cq] x.lines:=by
 obtain⟨j,d1,q,r,rfl,_,_,_,h1,p,d2,s,z,rfl,_,_,_,a,A,d3,B,C,rfl,_,_,_,f,e⟩:=h;have h1:=h1;have a:=a;have f:=f;have e:=e;obtain⟨u,rfl⟩:=V6.1 (show j.length=1 from ao.len h1);obtain⟨v,rfl⟩:=V6.1 (show p.length=1 from ao.len a);obtain⟨y,rfl⟩:=V6.1 (show d3.length=1 from ao.len e);subst f;exact⟨u,v,y,rfl,h1,a,e⟩
def N6{m:Bool}{S R:ah}{p:Λ×Int}(h:ao.rep m S R w cs p):∃aV,cs=[aV,Δ p.2]/\aM .i64 w aV p.1:=by
 obtain⟨e,d1,f,j,rfl,_,_,_,h1,a⟩:=h;obtain⟨u,rfl⟩:=V6.1 (show e.length=1 from ao.len h1);have a:=a;subst a;exact⟨u,rfl,dl h1⟩
structure uB(k:Int)(x:cE):Prop where
 k:right k
 co:ci x.co
 other:0<=x.other
 lines:n7 x.co x.lines
 len:x.lines.length<=60000
 scope:x.scope.length<=100001
def c5{k:j4}(h:aM k w v l):∃a n c,v= .slice a n c:=by
 obtain⟨_,b,o,base,cap,rfl,_⟩:=h;exact⟨_,_,_,rfl⟩
def N7{ai:Nat}{aH aI aK:x4}{K:Int}{R:ah}{x:cE}(aj:ag w ai cI [aH,Δ K,aI,aK])(aM:Seen R w cs (iQ x))(aN:uB K x):
  ak v8 wv [Γ ai,.agg cs.toArray] w λv I=>Ext w I/\∃bF,∃f:iq,v= .agg bF.toArray/\bF.length=2/\Seen (eV w.heap.size) I bF f/\r0 K x f:=by
 obtain⟨aS,lc,cq,rfl,h1,al,O⟩:=N5 aM;obtain⟨E,P,bh,am,bi,bj⟩:=aN;have bk:=P.1;refine az func118 ?_;refine bn λaq U bl an j=>?_;have j:ag U aq cn [aS,lc,Δ x.other,cq]:=by
  obtain⟨_,_,_,rfl⟩:=nw h1;obtain⟨_,_,_,rfl⟩:=nw al;obtain⟨_,_,_,rfl⟩:=nw O;exact j
 refine bE cN.i λao V bm Q G=>?_;have G:=G;intro bo H _ _;have S:=(an.F Q).F H;have W:=Q.F H;have bq:=an.size;have br:=Q.size;have z3:=H.size;have bs:=G.lt;have ap:=aj.W S;rw[aJ cn.p 1 (j.W W) rfl,aL cI.p 1 ap rfl,
  aJ cn.p 2 (j.W W) rfl,aL cI.p 1 ap rfl,ni]
 refine(uA ((dl al).W S) Ω).Y ?_;rintro bt bu _ ⟨s,bx,bz,aP⟩;refine⟨.inl s,?_⟩;have z4:=s.size;have aQ:cG (min x.other K) K:=⟨E,by have:=E.1;omega,Ω⟩;refine(N4 aP.ls).Y ?_;rintro _ aR _ ⟨J,_,_,aT⟩;obtain⟨ae,m,sv,gs,rfl,bD,bG,au,aU⟩:=aT P aQ;rw[bA,bB];have z5:=J.size;have X:=(S.F s).F J;have av:=(W.F s).F J;rw[aJ cn.p 3 (j.W av) rfl];have aw:=bp O X;rw[fU jV.u aw];refine bY.range x.lines.length (λi L=>af (λr=>r=m) aR L/\∃D,D.length<=i/\gw L ae m sv gs x.co K (min x.other K) D/\∀t,jI D (min x.other K) t=mA x K i t) (nX aw) ⟨af.refl _ _,[],o4 _,aU,λt=>by rw[Dz];rfl⟩ ?_ ?_
 .rintro i L aW hi ⟨a,D,ax,y,Y⟩ aX;obtain⟨p,ac⟩:=aD (l:=x.lines) hi;have ay:=am.2 p (x7 ac);have z:=X.put a Ω;have aY:=a.size;have aZ:=bp O z;refine bC Ω ?_;refine mi ey.p rfl jV.u ey.i aZ ac λbH a1=>?_;obtain⟨aV,rfl,aA⟩:=N6 a1;refine bE ey.i λbI bJ bK aB a2=>?_;have bL:=aB.size;refine b1 (vs:=[aV,Δ p.2]) ey.i rfl rfl (by intro v A;simp at A;rcases A with rfl|rfl<;>first|exact aA.cells.2|rfl) a2 λbM a6 bN aC=>?_;have a7:=aB.put a6 Ω;intro bO Z _ _;have q:=a7.F Z;have z9:=q.size;rw[aJ ey.p 0 (aC.W Z) rfl,aJ ey.p 1 (aC.W Z) rfl,aL cI.p 1 ((aj.W z).W q) rfl,ni];have bP:=xj P ay.1;refine(uA (aA.W q) Ω).Y ?_;rintro bR bS _ ⟨B,bT,bU,a8⟩;refine⟨.inl B,?_⟩;have bV:=B.size;refine(CV ((y.W q).W B).is a8.ls).Y ?_;rintro _ bX _ ⟨_,ba⟩;have bb:cG (min p.2 K) K:=⟨E,by have:=E.1;omega,Ω⟩;obtain⟨rfl,aE,D',aF,aG⟩:=ba ⟨ay.1,bb⟩;rw[aO];refine aX _ ⟨(a.F ((q.F B).aa _)).F aE,D',by have:=aF.2;omega,gw.put ((y.W q).W B) aE aG,λt=>?_⟩;rw[DB am.1 ac,aF.cost y.is.nodup aG.nodup];by_cases M:t=p.1
  .rw[ms M,ms M]
  .rw[rc M,rc M,Y]
 .rintro L aW ⟨a,D,ax,y,Y⟩;have z:=X.put a Ω;have bc:=av.put a Ω;have aY:=a.size;refine b3 Ω ?_;rw[aJ cn.p 0 (j.W bc) rfl];refine(uA ((dl h1).W z) Ω).Y ?_;rintro ab bZ _ ⟨N,b0,b2,C⟩;have z12:=N.size;rw[dk (cs:=#[ab,Γ ae]) (by obtain⟨_,_,_,rfl⟩:=c5 C.ls;kernel_rfl)];have bd:=((H.F s).F J).put a Ω;refine b1 (vs:=[ab,Γ ae]) cN.i rfl rfl (by intro v A;simp at A;rcases A with rfl|rfl<;>first|exact C.ls.cells.2|rfl) ((G.W bd).W N) λb4 ad b5 be=>?_;rw[fe cN.p cN.i rfl be.range];have bf:=(y.W N).aa ad (λhe=>by have he:=he;omega) (λhe=>by have he:=he;omega) (λr e he=>by have he:r=ao:=he;have:=au r e;omega);have bg:=bw C ad λr e he=>by have he:r=ao:=he;have:=(bW C e).1;omega
  refine⟨(z.F N).put ad Ω,_,(x.scope,⟨x.co,K,min x.other K,D⟩),rfl,rfl,?_,rfl,rfl,rfl,rfl,ax,λt=>?_⟩
  .exact⟨[ab],[Γ ae],bQ,bQ,rfl,λ_ h=>h,λ_ h=>h,λ_ _ h _=>h,rW bg λr e=>by have:=(bW C e).1;show w.heap.size<=r;omega,
    ⟨ae,m,sv,gs,rfl,bf,by show w.heap.size<=ae;omega,by show w.heap.size<=m;omega,λr e=>by have:=au r e;show w.heap.size<=r;omega⟩⟩
  .rw[Y,DA]
def N8{S R:ah}{f:iq}(h:ao.rep v6 S R w cs f):ao.rep (α:=iq) v2 bQ R w cs f:=by
 obtain⟨c,d,A,B,rfl,h1,j,_,a,e⟩:=h;exact⟨c,d,bQ,bQ,rfl,λ_ h=>h,λ_ h=>h,λ_ _ h _=>h,a,e⟩
def uC(k:Int)(a:List cE)(e:List iq):Prop:=e.length=a.length/\∀(i:Nat)x f,a[i]?=σ x->e[i]?=σ f->r0 k x f
def N9{e:Nat}{m:Bool}{S R:ah}{W lc am:x4}{K:Int}{q:List cE}{aE:x6->Prop}(aF:ag w e cI [W,Δ K,lc,.slice ν 0 0])(aX:ao.rep m S R w [am] (show List jJ from q.map iQ))(aY:∀r,S r\/R r->r≠e)(aZ:∀x∈q,uB K x)(bP:q.length<=256)(a1:∀I z,∀s:List iq,af (λr=>r=e) w I->ag I e cI [W,Δ K,lc,z]->Seen (λr=>w.heap.size<=r) I [z] s->uC K q s->aE I):
  bY (Δ 0) w λan E a2=>
   ab v8 (aP .lss ai v6 v6 an (Δ (q.length:Int))) E λa6=>
   Split a6 (ab v8 (b8 kr am an) E λa7=>
   ab v8 (u6 cn a7) E λa8=>
   aG v8 (Q8 cn v2 (.tuple #[])) E λx ba=>
   aG v8 (j0 cn x a8) ba λ(_:Unit)bb=>
   en bb λC=>
   ab v8 (bU (Γ e)) C λG=>
   ab v8 (u7 cI G 3) C λH=>
   ab v8 (u6 dS H) C λap=>
   ab v8 (u6 cn x) C λbc=>
   ak v8 wv [(Γ e),bc] C λbd J=>
    (Ext C J\/b6 v8 (u6 dS H) ap J/\b6 v8 (u7 cI G 3) H J/\b6 v8 (bU (Γ e)) G J/\True)/\
   aG v8 (X2 dS 1 #[(0,bd)]) J λbe L=>
    (Ext C L\/b6 v8 (u6 dS H) ap L/\b6 v8 (u7 cI G 3) H L/\b6 v8 (bU (Γ e)) G L/\True)/\
    aG v8 (Z9 #[dS,dS] dS #[ap,be]) L λbf au=>
     ab v8 (bU (Γ e)) au λbg=>
     ab v8 (u7 cI bg 3) au λbh=>
     aG v8 (j0 dS bh bf) au λ(_:Unit)aH=>
     ab v8 (aP .add ai v6 v2 an (Δ 1)) aH λbi=>
   a2 bi aH) (aE E):=by
 have bS:=aF.lt;have bT:(q.map iQ).length=q.length:=Ξ
 refine bY.range q.length (λi U=>af (λr=>r=e) w U/\∃z,∃s:List iq,∃A R':ah,ag U e cI [W,Δ K,lc,z]/\bs A R' U [z] s/\(∀r,A r->w.heap.size<=r/\r<U.heap.size)/\(∀r,R' r->w.heap.size<=r/\¬A r/\r<U.heap.size)/\uC K (q.take i) s) Ω
  ⟨af.refl _ _,_,[],bQ,bQ,aF,gm,λ_ h=>h.elim,λ_ h=>h.elim,rfl,λi x f h=>by simp at h⟩ ?_ ?_
 rotate_left
 .rintro U bj ⟨M,z,s,A,R',N,av,B,O,X⟩;rw[o9]at X;rw[aT,al];refine⟨λh=>Ω,λ_=>a1 U z s M N (pa av λr _ h=>?_) X⟩;exact h.elim (λh=>(B r h).1) λh=>(O r h).1
 rintro i U bj hi ⟨M,z,s,A,R',N,av,B,O,aI,X⟩ bk;obtain⟨x,aw⟩:=aD (l:=q) hi;have bl:=aZ x (x7 aw);have bV:=M.size;rw[o8]at aI;have bm:ao.rep m S R U [am] (show List jJ from q.map iQ):=ao.aa aX M λr _ h he=>aY r h he;refine bC Ω ?_;refine mi (α:=jJ) (a:=iQ x) cn.p rfl kr.u cn.i bm (by show(q.map iQ)[i]?=_;rw[u4,aw];rfl) λcs ax=>?_;have aJ:cs.length=4:=ao.len ax;have bn:Seen (λr=>S r\/R r) U cs (iQ x):=pa ax λr _ h=>h;refine bE cn.i λaq V bW aK bo=>?_;have bX:=aK.size;refine b1 (vs:=cs) cn.i aJ rfl (ao.one ax) bo λbq br bZ bt=>?_;have bw:Ext U bq:=aK.put br Ω;intro Y aM _ _;have P:=bw.F aM;have z4:=P.size;rw[aL cI.p 3 (N.W P) rfl,bz cn.p cn.i aJ (bt.W aM).range];refine(N7 (N.W P) (bp bn P) bl).Y ?_;rintro _ Z _ ⟨ac,bF,f,rfl,b2,aN,bx⟩;have z5:=ac.size;refine⟨.inl ac,?_⟩;have aQ:=N8 aN;have bA:=P.F ac;refine jB (α:=iq) (a:=f) (cs:=bF) (A:=bQ) (R:=eV Y.heap.size) dS.u cN.i Φ (by
  obtain⟨c,d,b3,b4,he,_,_,_,ad,bB⟩:=aN;have ad:ao.rep (α:=Λ) v6 bQ _ Z c f.1:=ad;obtain⟨u,rfl⟩:=V6.1 (show c.length=1 from ao.len ad);obtain⟨b5,bR,b7,b9,rfl,_⟩:=bB;obtain⟨_,_,_,rfl⟩:=nw ad;cases he;rfl) aQ λu ay ae _ hu=>?_
 have ca:=ae.size;refine⟨.inl (ac.F ae),?_⟩;have az:=bA.F ae;have bD:bs A (λr=>R' r\/(Y.heap.size<=r/\r<Z.heap.size)) ay [z] s:=bp (ao.Y av (λ_ _ h=>h) λ_ _ h=>.inl h) az;have bG:bs bQ (λr=>R' r\/(Y.heap.size<=r/\r<Z.heap.size)) ay bF f:=bp (ao.Y aQ (λ_ _ h=>h) λr y h=>.inr ⟨h,y⟩) ae;refine nY (α:=iq) (a:=f) (A:=bQ) dS.u cN.i rfl bD hu bG (λr _ aR h=>?_) Ω Ω λaS bH aA aB=>?_
 .rcases h with h|h|h
  .exact h
  .exact (O r h).2.1 aR
  .have:=(B r aR).2;omega
 have cb:=aB.size;rw[b0,aU cI.p rfl];have bI:=(N.W az).aa aB (λhe=>by have:=(B _ he).1;omega);refine bu (g:=e) (o:=3) dS.i (lH aA) (fT aA) bI Ξ λbJ aV cc aC=>?_;have aC:ag bJ e cI [W,Δ K,lc,aS]:=aC;rw[aO];have bK:=nn aA;refine bk _ ⟨(iJ (M.F (az.aa _)) aB λr y he=>by have:=(B _ he).1;omega).F aV,aS,s++[f],λr=>((A r\/bQ r\/ay.heap.size<=r)/\r<bH.heap.size),λr=>R' r\/(Y.heap.size<=r/\r<Z.heap.size),aC,ao.aa bK aV λr _ h he=>?_,λr y=>?_,λr y=>?_,?_,λj bL bM aj Q=>?_⟩
 .have he:r=e:=he;rcases h with h|h|h
  .rcases h.1 with h1|h1|h1
   .have:=(B _ h1).1;omega
   .exact h1
   .omega
  .have:=(O r h).1;omega
  .omega
 .have cd:=y.2;rcases y.1 with h1|h1|h1
  .have:=(B _ h1).1;omega
  .exact h1.elim
  .omega
 .rcases y with y|y
  .have aW:=O r y;refine⟨aW.1,λh=>?_,Ω⟩;rcases h.1 with h1|h1|h1
   .exact aW.2.1 h1
   .exact h1
   .omega
  .refine⟨Ω,λh=>?_,Ω⟩;rcases h.1 with h1|h1|h1
   .have:=(B _ h1).2;omega
   .exact h1
   .omega
 .rw[n9,o8,aI];simp;omega
 .have bN:=(x5.1 Q).1;rw[n9,T5]at bN;rw[Y6 Ω]at aj;by_cases bO:j<s.length
  .rw[Y2 bO]at Q;exact X j bL bM (by rw[Y6 Ω];exact aj) Q
  .rw[Z7 Ω,show j-s.length=0 by omega]at Q;rw[show j=i by omega,aw]at aj;cases Q;cases aj;exact bx
def mB(w:x6)(h:Nat)(f:ce):Prop:=∃lc a gz,∃e:List iq,ag w h cI [cf f.name,Δ f.k,lc,a]/\aB .i64 ai w gz lc f.co/\Seen eM w [a] e/\uC f.k f.d9 e
def mB.W{e:Nat}{f:ce}(h:mB w e f)(a:Ext w I):mB I e f:=by
 obtain⟨lc,j,gz,p,h1,q,r,s⟩:=h;exact⟨lc,j,gz,p,h1.W a,q.W a,bp r a,s⟩
def DL(w:x6)(h:Option ce)(v:x4)(I:x6):Prop:=Ext w I/\match h with
 |none=>∃n e:Int,v= .tuple #[.pointer ν,Δ n,Δ e]/\e≠0
 |some f=>∃a,∃n:Int,v= .tuple #[Γ a,Δ n,Δ 0]/\mB I a f
structure Oa(clean:Bool)(so:Option aK)(name:Λ)(k:Int)(co:Λ)(acc:List jJ)(res:Option ce):Prop where
 qt:∀s,so=σ s->s.hp=[]->clean=v2->s.big=v6->∃fs,acc=fs.map iQ/\res=σ ⟨name,k,co,fs⟩/\(∀x∈fs,uB k x)/\fs.length<=256/\co.length<=1000000
 bad:res≠ν->∃s,so=σ s/\s.hp=[]/\clean=v2/\s.big=v6
def Ob{g:Nat}{A B S R:ah}{m N:Bool}{so:Option aK}{name:Λ}{acc:List jJ}{L:Option ce}{lc aE p:x4}{pl:Λ}{Q:x4->x6->Prop}(aH:iP w g gs A B N so)(P:Oa N so name k co acc L)(bq:aM .i64 w lc co)(br:∀r,lw lc r->r≠g/\r≠gs)(bs:ao.rep m S R w [aE] acc)(a8:∀r,S r\/R r->r≠g/\r≠gs/\r<w.heap.size)(cZ:so=ν->True)(c0:g<w.heap.size)(c1:gs<w.heap.size)(bt:af (λr=>w0.heap.size<=r) w0 w)(c2:w0.heap.size<=g)(c3:w0.heap.size<=gs)(ac:aM .u8 w0 p pl)(ae:∀v I,DL w0 L v I->Q v I):
  cB (α:=x6->Prop) (λ(j:x6)=>
  ab v8 (bU (Γ g)) j λbu=>
  ab v8 (u7 cF bu 1) j λbw=>
  ab v8 (u7 fc bw 0) j λbx=>
  ab v8 (u6 kU bx) j λbz=>
  ab v8 (aP .neq kU v6 v2 bz (Δ 0)) j λbA=>
  Split bA (en j λG=>
   ab v8 (bU (Γ g)) G λbB=>
   ab v8 (u7 cF bB 1) G λbC=>
   ab v8 (u7 fc bC 2) G λbD=>
   ab v8 (u6 ai bD) G λbE=>
   ab v8 (bU (Γ g)) G λbF=>
   ab v8 (u7 cF bF 1) G λbG=>
   ab v8 (u7 fc bG 0) G λbH=>
   ab v8 (u6 kU bH) G λbI=>
   Q (.tuple #[(.pointer ν),bE,bI]) G)
   (ab v8 (bU (Γ g)) j λbJ=>
   ab v8 (u7 cF bJ 1) j λbL=>
   ab v8 (u7 fc bL 1) j λbM=>
   ab v8 (u6 kU bM) j λbN=>
   ab v8 (aP .neq kU v6 v2 bN (Δ 0)) j λbP=>
   Split bP (en j λH=>
   ab v8 (bU (Γ g)) H λbQ=>
   ab v8 (u7 cF bQ 1) H λbR=>
   ab v8 (u7 fc bR 3) H λbS=>
   ab v8 (u6 ai bS) H λbT=>
   ab v8 (bU (Γ g)) H λbV=>
   ab v8 (u7 cF bV 1) H λbW=>
   ab v8 (u7 fc bW 1) H λbX=>
   ab v8 (u6 kU bX) H λbZ=>
   Q (.tuple #[(.pointer ν),bT,bZ]) H)
   (ak v8 AF [lc] j λb1 ba=>
  ab v8 (Instr.build cI #[(0,cf name),(1,Δ k),(2,b1)]) ba λb2=>
  aG v8 (Instr.box cI b2) ba λW bb=>
  ab v8 (V1 #[kr] ai #[aE]) bb λb3=>
  bY (Δ 0) bb λaI X b4=>
   ab v8 (aP .lss ai v6 v6 aI b3) X λb5=>
   Split b5 (ab v8 (b8 kr aE aI) X λb7=>
   ab v8 (u6 cn b7) X λb9=>
   aG v8 (Q8 cn v2 (.tuple #[])) X λx ca=>
   aG v8 (j0 cn x b9) ca λ(_:Unit)cb=>
   en cb λO=>
   ab v8 (bU W) O λaj=>
   ab v8 (u7 cI aj 3) O λam=>
   ab v8 (u6 dS am) O λaJ=>
   ab v8 (u6 cn x) O λcc=>
   ak v8 wv [W,cc] O λcd an=>
    (Ext O an\/b6 v8 (u6 dS am) aJ an/\b6 v8 (u7 cI aj 3) am an/\b6 v8 (bU W) aj an/\True)/\
   aG v8 (X2 dS 1 #[(0,cd)]) an λcg ap=>
    (Ext O ap\/b6 v8 (u6 dS am) aJ ap/\b6 v8 (u7 cI aj 3) am ap/\b6 v8 (bU W) aj ap/\True)/\
    aG v8 (Z9 #[dS,dS] dS #[aJ,cg]) ap λch aN=>
     ab v8 (bU W) aN λci=>
     ab v8 (u7 cI ci 3) aN λcj=>
     aG v8 (j0 dS cj ch) aN λ(_:Unit)bc=>
     ab v8 (aP .add ai v6 v2 aI (Δ 1)) bc λck=>
   b4 ck bc)
    (ab v8 (V1 #[cT] ai #[p]) X λcl=>
  Q (.tuple #[W,cl,(Δ 0)]) X)))) λay=>
 ak v8 mc [(Γ g)] w λcm aq=>
 Split cm (ab v8 (bU (Γ g)) aq λcp=>
  ab v8 (u7 cF cp 0) aq λcq=>
  ab v8 (u6 tw cq) aq λcr=>
  ak v8 wu [cr] aq λaO M=>
  ab v8 (Y8 aO 0) M λc4=>
  ab v8 (Y8 aO 1) M λbd=>
  ab v8 (Y8 aO 2) M λaQ=>
  ab v8 (aP .eql kU v6 v2 aQ (Δ 0)) M λct=>
  Split ct (ak v8 oO [(Γ g),(Δ 4),bd] M λc6 cu=>
  ay cu)
  (ab v8 (aP .eql kU v6 v2 aQ (Δ 11)) M λcw=>
  Split cw (ak v8 oO [(Γ g),aQ,bd] M λc7 cz=>
   ay cz)
   (ay M)))
  (ay aq):=by
 refine c8 (λj=>af (λr=>r=g\/r=gs) w j/\∃(e big J K m5:Int)(sv:x4),ag j g cF (jj gs e big J K m5 sv)/\((e≠0/\L=ν)\/(e=0/\∃s,so=σ s/\s.hp=[]/\N=v2/\(s.big=v2↔big≠0)))) ?_ ?_
 rotate_left
 .intro ax aR;refine(Dl aH).Y ?_;rintro _ U _ ⟨rfl,au⟩;cases so with
  |none=>
   rw[show(ν:Option aK).isSome=v6 from rfl,a7];obtain⟨e,big,J,K,m5,sv,y,aS⟩:=aH.W au;refine aR _ ⟨au.aa _,e,big,J,K,m5,sv,y,.inl ⟨aS,?_⟩⟩;cases C:L with
   |none=>rfl
   |some f=>obtain⟨s,h,_⟩:=P.bad (by rw[C];simp);cases h
  |some s=>
   rw[show(σ s:Option aK).isSome=v2 from rfl,bO];have cA:=aH.W au;obtain⟨az,cC,cD,big,J,K,m5,sv,y,aS,cE⟩:=id cA;rw[aL cF.p 0 y rfl];refine(rF cC).Y ?_;rintro v V _ ⟨Y,Z⟩;have cG:(s.hp≠[]\/N=v6)->L=ν:=λq=>by
    cases C:L with
    |none=>rfl
    |some f=>
     obtain⟨s',h,av,be,_⟩:=P.bad (by rw[C];simp);cases h;rcases q with q|q
     .exact ro av q
     .rw[q]at be;cases be
   have aA:∀E,af (λr=>r=g) V E->fh E g gs A B->(s.hp≠[]\/N=v6)->ax E:=λE aw aA q=>by
    obtain⟨_,e,big,J,K,m5,sv,l,cH,cJ,_⟩:=aA;exact aR _ ⟨((au.aa _).F (Y.Y λr _ h=>.inr h)).F (aw.Y λr _ h=>.inl h),e,big,J,K,m5,sv,cH,.inl ⟨cJ.1,cG q⟩⟩
   have aT:=y.aa Y az.1;have bf:=ao.aa cE Y λr _ h av=>by
    have av:r=gs:=av;subst av;rcases h with h|h
    .exact az.2.2.1 h
    .exact h.1 (.inr (.inl rfl))
   have bg:s.m6.length<=100000:=by have:=cD.2.2;omega
   cases ad:s.hp with
   |cons t l=>
    rw[ad]at Z;obtain⟨c9,n,rfl⟩:=Z;rw[fQ,fR,fS,bl,al];refine⟨λ_=>?_,λh=>ro rfl h⟩;refine(tY (az.aa Y) aT bf Ω bg).Y ?_;rintro _ E _ ⟨aw,aV⟩;exact aA E aw aV (.inl (by rw[ad];simp))
   |nil=>
    rw[ad]at Z;obtain⟨n,rfl⟩:=Z;rw[fQ,fR,fS,bl,al];refine⟨λh=>by cases N<;>simp at h,λ_=>?_⟩;rw[bl,al];cases aB:N with
    |true=>
     subst aB;refine⟨λh=>by simp at h,λ_=>aR _ ⟨(au.aa _).F (Y.Y λr _ h=>.inr h),0,big,J,K,m5,sv,aT,.inr ⟨rfl,s,rfl,ad,rfl,aS.1⟩⟩⟩
    |false=>
     subst aB;refine⟨λ_=>?_,λh=>ro rfl h⟩;refine(tY (az.aa Y) aT bf Ξ bg).Y ?_;rintro _ E _ ⟨aw,aV⟩;exact aA E aw aV (.inr rfl)
 .rintro U ⟨aC,e,big,J,K,m5,sv,y,cK⟩;have da:=aC.size;have aW:=(bt.W λr C h=>Ω).then aC (λr C h=>by rcases h with h|h<;>omega);rw[b0,aU cF.p rfl,aU fc.p rfl,aF Ψ (y.cell rfl),bK,al];rcases cK with⟨he,aX⟩|⟨rfl,s,rfl,ad,aB,bh⟩
  .refine⟨λ_=>?_,λh=>ro he h⟩;intro V z _ _;rw[b0,aU cF.p rfl,aU fc.p rfl,aF Ψ ((y.W z).cell rfl),b0,aU cF.p rfl,aU fc.p rfl,aF Ψ ((y.W z).cell rfl)];rw[aX]at ae;exact ae _ _ ⟨aW.F z,J,e,rfl,he⟩
  .refine⟨λh=>ro rfl h,λ_=>?_⟩;rw[b0,aU cF.p rfl,aU fc.p rfl,aF Ψ (y.cell rfl),bK,al];refine⟨λq=>?_,λq=>?_⟩
   .have aX:L=ν:=by
     cases C:L with
     |none=>rfl
     |some f=>
      obtain⟨s',h,_,_,bi⟩:=P.bad (by rw[C];simp);cases h;rw[bh.2 q]at bi;cases bi
    intro V z _ _;rw[b0,aU cF.p rfl,aU fc.p rfl,aF Ψ ((y.W z).cell rfl),b0,aU cF.p rfl,aU fc.p rfl,aF Ψ ((y.W z).cell rfl)];rw[aX]at ae;exact ae _ _ ⟨aW.F z,K,big,rfl,q⟩
   .have cL:s.big=v6:=by
     cases cM:s.big with
     |false=>rfl
     |true=>exact ro (bh.1 cM) q
    obtain⟨bj,rfl,rfl,cN,cO,cP⟩:=P.qt s rfl ad aB cL;have cQ:=jh bq aC λr C a n c Z P=>by
     have:=br r ⟨a,n,c,Z,P⟩;exact C.elim this.1 this.2
    refine(uA cQ cP).Y ?_;rintro aY V _ ⟨z,gz,db,aZ⟩;have dc:=z.size;rw[dk (cs:=#[cf name,Δ k,aY,.slice ν 0 0]) (by obtain⟨_,_,_,rfl⟩:=c5 aZ.ls;kernel_rfl)];refine bn λa2 E dd a6 aD=>?_;have aD:ag E a2 cI [cf name,Δ k,aY,.slice ν 0 0]:=by obtain⟨_,_,_,rfl⟩:=c5 aZ.ls;exact aD
    have bk:=bp (bp (ao.aa bs aC λr _ h he=>by have:=a8 r h;exact he.elim this.1 this.2.1) z) a6;have cR:(bj.map iQ).length=bj.length:=Ξ
    rw[fU kr.u bk,cR];refine N9 aD bk (λr h=>by have:=a8 r h;omega) cN cO λde cS cU cV cW cX cY=>?_;have df:=aD.lt;have z3:=a6.size;have bm:=a6.then cV (λr C h=>by have h:r=a2:=h;omega);have bo:=(aW.F z).F bm;rw[a1 cT.u (ac.W bo)];exact ae _ _ ⟨bo,a2,_,rfl,aY,cS,gz,cU,cW,aZ.W bm,jz cX,cY⟩
def DM{α:Type}{f:List α->aK->Option (α×aK)}{acc:List α}{s:aK}:fD f (n+1) acc (σ s)=match f acc s with
  |none=>ν
  |some (a,s')=>fD f n (acc++[a]) (σ s'):=by
 show cX f (n+1) acc s=_;simp only[cX];cases f acc s<;>rfl
def Oc{g:Nat}{A B:ah}{s:Option aK}{E:Bool}{most:Int}{P:x4->x6->Prop}(h:dw w g gs A B E s)(az:(N:Int)<=ay)(Q:∀lc I l so gz,af (bM g gs A) w I->dw I g gs A B E so->aB .i64 av I gz lc l->w.heap.size<=gz->l.length<=100001->(∀q,fD (gN most) N [] s=σ q->so=σ q.2/\l=q.1)->(fD (gN most) N [] s=ν->so=ν)->P lc I):
 b7 (.slice ν 0 0) (Δ 0) w λco i G k=>
  cB (α:=x4->x6->Prop) (λ(aA:x4)(R:x6)=>
   Split aA (ak v8 oN [Γ g,(Δ 1),Δ most] R λS x=>
  ab v8 (Y8 S 0) x λW=>
  ab v8 (Y8 S 1) x λaC=>
  ab v8 (aP .gtr av v6 v2 W (Δ 32)) x λaD=>
  ak v8 re [Γ g,aD,aC] x λbo aE=>
  aG v8 (X2 aw 1 #[(0,W)]) aE λaF aH=>
  aG v8 (Z9 #[aw,aw] aw #[co,aF]) aH λaI X=>
  ab v8 (aP .add av v6 v2 i (Δ 1)) X λaJ=>
  k aI aJ X) (P co R)) λax=>
  ab v8 (aP .lss av v6 v6 i (Δ (N:Int))) G λaL=>
  Split aL (ak v8 mc [Γ g] G λaM aN=>
  ax aM aN)
   (ax (.bool v6) G):=by
 obtain⟨bp,Y,bq,aQ,aR⟩:=h.side;have ae:∀r,bM g gs A r->r<w.heap.size:=aQ;unfold ay at az;generalize aS:fD (gN most) N [] s=Z at Q;refine⟨λout H U=>∃(i:Nat)(l:Λ)(so:Option aK)(gz:Nat),H=Δ (i:Int)/\i<=N/\af (bM g gs A) w U/\aB .i64 av U gz out l/\w.heap.size<=gz/\dw U g gs A B E so/\Z=fD (gN most) (N-i) l so/\l.length<=100001/\∀st,so=σ st->l.length+st.hp.length<=100000,
  λ_ H _=>N-(bZ H).toNat,⟨0,[],s,w.heap.size,rfl,W0 _,af.refl _ _,aB.nil _ _ _ _,o4 _,h,aS.symm,Ξ,λst aU=>?_⟩,?_⟩
 .subst aU;have:=h.words;simpa using this
 rintro out _ U ⟨i,l,so,gz,rfl,br,J,ac,aV,ad,y,aW,ag⟩;refine aY (λv ai=>Ext U ai/\((v= .bool v2/\i<N/\∃st,so=σ st)\/(v= .bool v6/\(so=ν\/i=N)))) ?_ ?_
 rotate_left
 .intro ax K;rw[aT,al];refine⟨λaX=>?_,λbs=>K _ _ ⟨Ext.refl _,.inr ⟨rfl,.inr Ω⟩⟩⟩;refine(qx ad).Y ?_;rintro _ ai _ ⟨rfl,aj⟩;cases so with
  |none=>exact K _ _ ⟨aj,.inr ⟨rfl,.inl rfl⟩⟩
  |some st=>exact K _ _ ⟨aj,.inl ⟨rfl,Ω,st,rfl⟩⟩
 rintro _ V ⟨p,aZ⟩;have am:=ac.W p;have an:=ad.W p;rcases aZ with⟨rfl,aX,st,rfl⟩|⟨rfl,a1⟩
 rotate_left
 .rw[a7];have ao:Z=so.map λst=>(l,st):=by
   rcases a1 with rfl|rfl
   .exact y
   .rw[V0]at y;rw[y];cases so<;>rfl
  refine Q out V l so gz (J.F (p.aa _)) an am aV aW (λq f=>?_) λap=>?_
  .rw[ao]at f;cases so with
   |none=>cases f
   |some st=>cases f;exact⟨rfl,rfl⟩
  .rw[ao]at ap;cases so with
   |none=>rfl
   |some st=>cases ap
 rw[bO];have ag:=ag st rfl;refine(nv an).Y ?_;rintro _ bt _ ⟨L,z,at_,rfl,a2,bu⟩;obtain⟨M,a6⟩:=L.of;rw[bA,bB,bP];refine(rU a6).Y ?_;rintro _ bx _ L;obtain⟨O,a8⟩:=L.of;refine eU aw.u av.i rfl λa ga ba bz C bb=>?_;have bC:=J.size;have bD:=p.size;have z3:=M.size;have z4:=O.size;have z5:=C.size;have aq:∀r,lw out r->¬bM g gs A r:=λr j bc=>by have:=ae r bc;have:=(bW ac j).1;omega
 have bd:=bw (bw am M aq) O aq;refine kt aw.u av.i rfl (bd.W C) bb.ls Θ Θ λbE be bg bF bh au=>?_;rw[aO,m1 Ω Ω];have bi:af (bM g gs A) w ba:=((((J.F (p.aa _)).F M).F O).F (C.aa _));have bj:af (bM g gs A) w bg:=iJ bi au λr j he=>by have he:r=gz:=he;omega
 have bk:∀r,bM g gs A r->¬(λr=>r=gz) r:=λr j he=>by have:=ae r j;have he:r=gz:=he;omega
 have bl:∀r,cV g gs A B r->¬(λr=>r=gz) r:=λr j he=>by have:=aR r j.2;have he:r=gz:=he;omega
 refine⟨⟨i+1,l++[z],_,be,rfl,Ω,bj,bh,Ω,(a8.W C).aa au bk bl,?_,Θ,λbG bn=>?_⟩,by simp only[bZ];omega⟩
 .rw[y,show N-i=(N-(i+1))+1 by omega,DM];unfold gN;cases f:bm 1 most st with
  |none=>have e:bf 1 most (σ st)=ν:=f;rw[e];rfl
  |some q=>
   have e:bf 1 most (σ st)=σ q:=f;have:=a2 q e;subst this;rw[e];rfl
 .obtain⟨bH,Y,rfl⟩:=Y9.1 bn;obtain⟨q,f,rfl⟩:=Y9.1 Y;have h1:=(dL f).1;simp only[n9,T5];show l.length+1+q.2.hp.length<=100000;omega
def Od{acc:List (Λ×Int)}{s s':aK}{a:Λ×Int}(h:eN co acc s=σ (a,s')):s'.m5=s.m5/\s'.big=s.big:=by
 obtain⟨_,_,_,e⟩:=qn h;exact⟨e.eqs.1,e.eqs.2.1⟩
def Oe{s s':aK}{l:List (Λ×Int)}(hi:ec s)(h:eb co s=σ (l,s')):ec s'/\(s.big=v2->s'.big=v2):=by
 have e:=Di co (σ s);rw[show j8 co (σ s)=eb co s from rfl,h]at e;cases p:bf (-ay) ay (σ s)with
 |none=>rw[p]at e;cases e
 |some q=>
  obtain⟨n,s1⟩:=q;rw[p]at e;simp only at e;have h1:=(dL p).eqs;have w:ec s1:=λf=>by rw[h1.1];rw[h1.2.1]at f;exact hi f
  split at e
  .cases J:s1.m6[(-n-1).toNat]? with
   |none=>rw[J]at e;cases e
   |some q=>
    obtain⟨z,l'⟩:=q;rw[J]at e;simp only at e;split at e
    .cases e;exact⟨w,λf=>by rw[h1.2.1];exact f⟩
    .cases e
  .have:=lL (λacc t=>t.m5=(k9 n s1).m5/\t.big=(k9 n s1).big) (λacc t a bt ⟨r,j⟩ g=>by
    have:=Od g;exact⟨by rw[this.1,r],by rw[this.2,j]⟩) n.toNat [] _ l s' ⟨rfl,rfl⟩ e.symm
   obtain⟨⟨r,j⟩,_⟩:=this;refine⟨λf=>by rw[r];rw[j]at f;exact Nz n s1 f,λf=>?_⟩;rw[j];show(s1.big||_)=v2;rw[h1.2.1,f];rfl
def Of{all:Λ}{s s':aK}{x:cE}(hi:ec s)(h:ds all s=σ (x,s')):ec s'/\s'.hp.length<s.hp.length:=by
 unfold ds at h;cases p:bm (-ay) ay s with
 |none=>rw[p]at h;cases h
 |some q=>
 obtain⟨a,s1⟩:=q;rw[p]at h;simp only at h;have t0:=dL p;cases h1:fg all.length a.natAbs s1 with
 |none=>rw[h1]at h;cases h
 |some q=>
 obtain⟨sc,f⟩:=q;rw[h1]at h;simp only at h;obtain⟨r,_⟩:=xc h1;generalize sc.map (λv=>all.getD v.toNat 0)=co at h;cases w:bm 0 ay (bi (decide (6<a.natAbs)||dB co) f)with
 |none=>rw[w]at h;cases h
 |some q=>
 obtain⟨other,y⟩:=q;rw[w]at h;simp only at h;have z:=dL w;have E:ec y:=λe=>by
  rw[z.eqs.1];rw[z.eqs.2.1]at e;have e:(f.big||_)=v6:=e;have B:=(U1.1 e).1;show f.m5<=16384;rw[r.eqs.1,t0.eqs.1];rw[r.eqs.2.1,t0.eqs.2.1]at B;exact hi B
 cases j:eb co y with
 |none=>rw[j]at h;cases h
 |some q=>
 obtain⟨lines,A⟩:=q;rw[j]at h;simp only[X7,S7]at h;obtain⟨_,rfl⟩:=h;have F:=Oe E j;have I:=Dp j;have J:=t0.1;have K:=r.1;have L:f.hp.length=y.hp.length+1:=z.1;have C:∀t:aK,t.m5=A.m5/\t.big=A.big/\t.hp=A.hp->ec t/\t.hp.length<s.hp.length:=λt ⟨G,H,a3⟩=>⟨λe=>by rw[G];rw[H]at e;exact F.1 e,by rw[a3];omega⟩;split
 .exact C _ ⟨rfl,rfl,rfl⟩
 .exact C _ ⟨rfl,rfl,rfl⟩
def Og{S R:ah}{x:jJ}(h:ao.rep v6 S R w cs x):ao.rep (α:=jJ) v2 bQ R w cs x/\(x4.agg cs.toArray).cells=cs.toArray:=by
 obtain⟨j,d1,r,s,rfl,_,_,_,h1,p,d2,z,A,rfl,_,_,_,a,q,d3,B,C,rfl,_,_,_,f,e⟩:=h;have h1:=h1;have a:=a;have f:=f;have e:=e;refine⟨⟨j,_,bQ,bQ,rfl,λ_ h=>h,λ_ h=>h,λ_ _ h _=>h,h1,p,_,bQ,bQ,rfl,λ_ h=>h,λ_ h=>h,λ_ _ h _=>h,a,q,d3,bQ,bQ,rfl,λ_ h=>h,λ_ h=>h,λ_ _ h _=>h,f,e⟩,?_⟩;obtain⟨u,rfl⟩:=V6.1 (show j.length=1 from ao.len h1);obtain⟨v,rfl⟩:=V6.1 (show p.length=1 from ao.len a);obtain⟨y,rfl⟩:=V6.1 (show d3.length=1 from ao.len e);obtain⟨_,_,_,rfl⟩:=nw h1;obtain⟨_,_,_,rfl⟩:=nw a;obtain⟨_,_,_,rfl⟩:=nw e;subst f;rfl
def Oh{g c:Nat}{A B:ah}{o:Option aK}{Q:Bool}{P:x4}{all:Λ}{aD:x4->x6->Prop}(aE:iP w g gs A B Q o)(hi:∀s,o=σ s->ec s)(bt:(c:Int)<=ay)(bu:aM .i64 w P all)(aF:∀r,lw P r->r≠g/\r≠gs/\r<w.heap.size/\(o≠ν->¬A r))(bw:o≠ν->∀z∈all,1<=z/\z<=ay)(bx:all.length<=100001)(bz:fs w)(h1:1<w0.heap.size/\(o≠ν->cV g gs A B 1))(aH:af (λr=>w0.heap.size<=r) w0 w)(bA:w0.heap.size<=g)(bB:w0.heap.size<=gs)(cj:g<w.heap.size/\gs<w.heap.size)(bC:o≠ν->∀r,A r->w0.heap.size<=r)(aI:∀L I acc so aN y aJ aL,af (λr=>w0.heap.size<=r) w0 I->w.heap.size<=I.heap.size->iP I g gs aN y Q so->ao.rep (α:=List jJ) v2 aJ aL I [L] acc->(∀r,aJ r\/aL r->r≠g/\r≠gs/\r<I.heap.size)->aM .i64 I P all->
   (∀q,fD (λ_ s=>ds all s) c [] o=σ q->so=σ q.2/\acc=q.1.map iQ)->(fD (λ_ s=>ds all s) c [] o=ν->so=ν)->aD L I):
 b7 (.slice ν 0 0) (Δ 0) w λd9 aQ ai bD=>
  cB (α:=x4->x6->Prop) (λ(bE:x4)(aR:x6)=>
   Split bE (ak v8 AE [Γ g,P] aR λbF bG=>
  aG v8 (X2 kr 1 #[(0,bF)]) bG λbH bI=>
  aG v8 (Z9 #[kr,kr] kr #[d9,bH]) bI λbJ aS=>
  ab v8 (aP .add av v6 v2 aQ (Δ 1)) aS λbK=>
  bD bJ bK aS) (aD d9 aR)) λaU=>
  ab v8 (aP .lss av v6 v6 aQ (Δ (c:Int))) ai λbL=>
  Split bL (ak v8 mc [Γ g] ai λbN bP=>
  aU bN bP)
   (aU (.bool v6) ai):=by
 unfold ay at bt;generalize f:fD (λ_ s=>ds all s) c [] o=aV at aI;have aX:∀s,o=σ s->o≠ν:=λs h=>by rw[h];simp
 refine⟨λL aj U=>∃(i:Nat)(acc:List jJ)(C:List cE)(so:Option aK)(p K E M:ah),aj=Δ (i:Int)/\i<=c/\af (λr=>w0.heap.size<=r) w0 U/\w.heap.size<=U.heap.size/\iP U g gs p K Q so/\ao.rep v2 E M U [L] acc/\
   aM .i64 U P all/\fs U/\aV=fD (λ_ s=>ds all s) (c-i) C so/\(∀r,E r->w.heap.size<=r/\r<U.heap.size)/\(∀r,M r->r≠g/\r≠gs/\¬E r)/\
   ∀s,so=σ s->acc=C.map iQ/\ec s/\C.length+s.hp.length<=100000/\o≠ν/\(∀r,p r->A r\/w.heap.size<=r)/\(∀r,p r->w0.heap.size<=r)/\(∀r,B r->K r)/\(∀r,E r->¬K r/\¬p r)/\(∀r,M r->cV g gs p K r),
  λ_ aj _=>c-(bZ aj).toNat,⟨0,[],[],o,A,B,bQ,bQ,rfl,W0 _,aH,o4 _,aE,gm,bu,bz,f.symm,λ_ h=>h.elim,λ_ h=>h.elim,λs J=>⟨rfl,hi s J,?_,aX s J,λr e=>.inl e,bC (aX s J),λr e=>e,λ_ h=>h.elim,λ_ h=>h.elim⟩⟩,?_⟩
 .subst J;have am:er w g gs A B s Q:=aE;have:=am.2.1.words.1;simpa using this
 rintro L _ U ⟨i,acc,C,so,p,K,E,M,rfl,ck,bR,cl,aZ,bS,an,a1,Z,x,bT,a2⟩;refine aY (λv a6=>Ext U a6/\((v= .bool v2/\i<c/\∃st,so=σ st)\/(v= .bool v6/\(so=ν\/i=c)))) ?_ ?_
 rotate_left
 .intro ax ap;rw[aT,al];refine⟨λa8=>?_,λcm=>ap _ _ ⟨Ext.refl _,.inr ⟨rfl,.inr Ω⟩⟩⟩;refine(Dl aZ).Y ?_;rintro _ a6 _ ⟨rfl,ba⟩;cases so with
  |none=>exact ap _ _ ⟨ba,.inr ⟨rfl,.inl rfl⟩⟩
  |some st=>exact ap _ _ ⟨ba,.inl ⟨rfl,Ω,st,rfl⟩⟩
 rintro _ V ⟨H,bU⟩;have cp:=H.size;have S:=aZ.W H;have bb:=bp bS H;have bc:af (λr=>w0.heap.size<=r) w0 V:=bR.F (H.aa _);rcases bU with⟨rfl,a8,st,rfl⟩|⟨rfl,bV⟩
 rotate_left
 .rw[a7];have bd:aV=so.map λst=>(C,st):=by
   rcases bV with rfl|rfl
   .exact Z
   .rw[V0]at Z;rw[Z];cases so<;>rfl
  refine aI L V acc so p K E (λr=>M r/\r<V.heap.size) bc Ω S (ao.Y bb (λ_ _ h=>h) λr e h=>⟨h,e⟩) (λr e=>?_) (an.W H) (λq G=>?_) λbe=>?_
  .rcases e with e|e
   .have:=x r e;exact⟨Ω,Ω,Ω⟩
   .have:=bT r e.1;exact⟨this.1,this.2.1,e.2⟩
  .rw[bd]at G;cases so with
   |none=>cases G
   |some st=>cases G;exact⟨rfl,(a2 _ rfl).1⟩
  .rw[bd]at be;cases so with
   |none=>rfl
   |some st=>cases be
 rw[bO];obtain⟨rfl,bf,cq,ac,bg,aq,bh,ad,bi⟩:=a2 st rfl;have S:=S;obtain⟨cr,ct,cu,cw,cz⟩:=S.1;have bW:=h1.2 ac;have bj:cV g gs p K 1:=⟨λf=>by
  rcases f with f|f|f
  .omega
  .omega
  .have:=aq 1 f;omega,bh 1 bW.2⟩
 have bk:∀r,lw P r->¬bM g gs p r/\r<V.heap.size:=λr e=>by
  obtain⟨bX,bY,b0,b1⟩:=aF r e;refine⟨λf=>?_,Ω⟩;rcases f with f|f|f
  .exact bX f
  .exact bY f
  .rcases bg r f with h|h
   .exact b1 ac h
   .omega
 refine(NK S bf (an.W H) bk (bw ac) bx (a1.W H) bj).Y ?_;rintro _ cA _ ⟨aN,y,cs,b2,rfl,cC,W,X,au,bl,bm,b3,b4⟩;have z3:=W.size;obtain⟨bn,b5⟩:=Og b3;refine jB (α:=jJ) (R:=cV g gs aN y) kr.u cn.i Φ b5 bn λu aw N _ hu=>?_;have z4:=N.size;have b6:∀r,r<V.heap.size->E r\/M r->¬bM g gs p r:=λr e h f=>by
  rcases h with h|h
  .have j:=x r h;rcases f with f|f|f
   .omega
   .omega
   .exact (ad r h).2 f
  .exact (bi r h).1 f
 have b8:∀r,r<V.heap.size->cV g gs p K r->cV g gs aN y r:=λr e h=>⟨λf=>h.1 (f.imp id (Or.imp id λf=>(X r f).elim id λaW=>Ω)),bl r h.2⟩;have b9:bs E (cV g gs aN y) aw [L] (C.map iQ):=bp (ao.aa (ao.Y (R':=λr=>cV g gs aN y r/\M r) bb (λ_ _ h=>h) λr e h=>⟨b8 r e (bi r h),h⟩) W λr e h=>b6 r e (h.imp id λh=>h.2) |> λh=>h) N |> λh=>ao.Y h (λ_ _ h=>h) λ_ _ h=>h.1;have ae:∀r,E r->¬y r:=λr h ag=>by
  have j:=x r h;rcases(au r ag).1 with O|O
  .exact (ad r h).1 O
  .have az:=(x r h).2;omega
 have cD:(C.map iQ).length=C.length:=Ξ
 refine nY kr.u cn.i rfl b9 hu (bp bn N) (λr _ ca h=>?_) Ω Ω λcF aA cb Y=>?_
 .rcases h with h|h
  .exact h
  .exact ae r ca h.2
 have z5:=Y.size;rw[aO,m1 Ω Ω];have cc:af (λr=>w0.heap.size<=r) w0 aw:=(bc.F (W.Y λr _ f=>by
  rcases f with rfl|rfl|f
  .exact bA
  .exact bB
  .exact aq r f)).F (N.aa _)
 have z0:=aH.size;have cd:af (λr=>w0.heap.size<=r) w0 aA:=cc.F (Y.Y λr _ h=>by have:=(x r h).1;omega);have ce:=(jh (an.W H) W λr e a n c aB aC=>(bk r ⟨a,n,c,aB,aC⟩).1 e).W N;have cf:=jh ce Y λr e a n c aB aC=>by
  have b0:=(aF r ⟨a,n,c,aB,aC⟩).2.2.1;have:=(x r e).1;omega
 have cg:=(((a1.W H).aa W bj.1).W N).aa Y λh=>by have:=(x 1 h).1;omega
 have bo:iP aA g gs aN y Q ((ds all st).map (·.2)):=by
  refine iP.aa (bm.W N) Y (λh=>by have:=x _ h;omega) (λr e cG h=>?_) (λr e h=>ae r h e.2);have j:=x r h;rcases e with rfl|rfl|e
  .omega
  .omega
  .rcases X r e with O|O
   .exact (ad r h).2 O
   .omega
 have ch:=nn cb;refine⟨⟨i+1,(C.map iQ)++[b2],C++((ds all st).map (·.1)).toList,(ds all st).map (·.2),aN,y,λr=>(E r\/bQ r\/aw.heap.size<=r)/\r<aA.heap.size,cV g gs aN y,rfl,Ω,cd,Ω,bo,ch,cf,cg,?_,λr e=>⟨?_,e.2⟩,λr e=>⟨λh=>e.1 (.inl h),λh=>e.1 (.inr (.inl h)),λh=>?_⟩,λs' ci=>?_⟩,by simp only[bZ];omega⟩
 .rw[Z,show c-i=(c-(i+1))+1 by omega,DM];cases G:ds all st with
  |none=>rfl
  |some q=>rfl
 .rcases e.1 with h|h|h
  .exact (x r h).1
  .exact h.elim
  .omega
 .rcases h.1 with j|j|j
  .exact ae r j e.2
  .exact j
  .have:=(au r e.2).2;omega
 .obtain⟨q,G,rfl⟩:=Y9.1 ci;have j:=Of bf G;have O:=b4 q G;refine⟨?_,j.1,?_,ac,λr e=>?_,λr e=>?_,λr e=>bl r (bh r e),λr e=>⟨λag=>?_,λbq=>?_⟩,λr e=>e⟩
  .rw[G,O];simp
  .rw[G];simp only[Y3,j6,n9,T5];omega
  .rcases X r e with h|h
   .exact bg r h
   .exact .inr Ω
  .rcases X r e with h|h
   .exact aq r h
   .omega
  .rcases e.1 with j|j|j
   .exact ae r j ag
   .exact j
   .have:=(au r ag).2;omega
  .have cH:=bo;have br:=bm;rw[G]at br;have am:=br;have a8:=am.1.2.2.2.1 r (.inr (.inr bq));rcases e.1 with j|j|j
   .rcases X r bq with az|az
    .exact (ad r j).2 az
    .have:=(x r j).2;omega
   .exact j
   .omega
def ec.num{lo hi n:Int}{s s':aK}(e:ec s)(h:bm lo hi s=σ (n,s')):ec s':=λa=>by
 have h1:=(dL h).eqs;rw[h1.1];rw[h1.2.1]at a;exact e a
def ec.big{b:Bool}{s:aK}(h:ec s):ec (bi b s):=λa=>by
 have a:(s.big||b)=v6:=a;exact h (U1.1 a).1
def ec.word{w:Λ}{s s':aK}(h:ec s)(hw:ea s=σ (w,s')):ec s':=λa=>by
 have h1:=(tV hw).2;rw[h1]at a ⊢;exact h a
def Oi{most:Int}{s s':aK}(hi:ec s)(hm:most<=ay)(h:cX (gN most) N [] s=σ (l,s')):ec s'/\(∀z∈l,1<=z/\z<=ay)/\l.length+s'.hp.length<=s.hp.length:=by
 have:=lL (λacc t=>ec t/\(∀z∈acc,1<=z/\z<=ay)/\acc.length+t.hp.length<=s.hp.length) (λacc t a bt ⟨h1,j,w⟩ g=>by
  unfold gN at g;cases e:bm 1 most t with
  |none=>rw[e]at g;cases g
  |some q=>
   obtain⟨z,p⟩:=q;rw[e]at g;simp only[X7,S7]at g;obtain⟨rfl,rfl⟩:=g;have y:=(ji e).1;have A:=(dL e).1;refine⟨(h1.num e).big,λx f=>?_,?_⟩
   .rcases j9.1 f with f|f
    .exact j x f
    .rw[c9.1 f];omega
   .simp only[n9,T5];show acc.length+1+p.hp.length<=_;omega) N [] s l s' ⟨hi,λz r=>(by cases r),Ξ⟩ h
 exact this.1
def Oj{s0:aK}{name:Λ}{n most cnt:Int}{so6:Option aK}(h1:∀q,ea s0=σ q->name=q.1)(p:∀q,bf 1 ay (((ea s0).map (·.2)).map (bi (decide (64<(name.length:Int)))))=σ q->n=q.1)(j:∀q,bf 1 ay (((bf 1 ay (((ea s0).map (·.2)).map (bi (decide (64<(name.length:Int)))))).map (·.2)).map (bi (decide (64<n))))=σ q->most=q.1)(h:∀q,bf 0 ay ((bf 1 ay (((bf 1 ay (((ea s0).map (·.2)).map (bi (decide (64<(name.length:Int)))))).map (·.2)).map (bi (decide (64<n))))).map (·.2))=σ q->cnt=q.1)(f:∀q,bf 1 ay (((bf 0 ay ((bf 1 ay (((bf 1 ay (((ea s0).map (·.2)).map (bi (decide (64<(name.length:Int)))))).map (·.2)).map (bi (decide (64<n))))).map (·.2))).map (·.2)).map (bi (decide (256<cnt))))=σ q->k=q.1)(e:∀q,fD (gN most) n.toNat [] (((bf 1 ay (((bf 0 ay ((bf 1 ay (((bf 1 ay (((ea s0).map (·.2)).map (bi (decide (64<(name.length:Int)))))).map (·.2)).map (bi (decide (64<n))))).map (·.2))).map (·.2)).map (bi (decide (256<cnt))))).map (·.2)).map (bi (decide (2147483648<k))))=σ q->so6=σ q.2/\co=q.1)(a:fD (gN most) n.toNat [] (((bf 1 ay (((bf 0 ay ((bf 1 ay (((bf 1 ay (((ea s0).map (·.2)).map (bi (decide (64<(name.length:Int)))))).map (·.2)).map (bi (decide (64<n))))).map (·.2))).map (·.2)).map (bi (decide (256<cnt))))).map (·.2)).map (bi (decide (2147483648<k))))=ν->so6=ν):
  jD s0=(fD (λ_ s=>ds co s) cnt.toNat [] so6).map λq=>((⟨name,k,co,q.1⟩:ce),q.2):=by
 unfold jD;cases z:ea s0 with
 |none=>
  rw[z]at a;rw[a rfl];rfl
 |some L=>
 obtain⟨Y,s1⟩:=L;rw[z]at h1 p j h f e a;have:=h1 _ rfl;subst this;have M:decide (64<(name.length:Int))=decide (64<name.length):=by rw[U6,sp,sp];omega
 rw[M]at p j h f e a;simp only[Y3]at p j h f e a ⊢;generalize bi (decide (64<name.length)) s1=w at*;cases A:bm 1 ay w with
 |none=>
  rw[show bf 1 ay (σ w)=ν from A]at a;rw[a rfl];rfl
 |some N=>
 obtain⟨O,B⟩:=N;rw[show bf 1 ay (σ w)=σ (O,B)from A]at p j h f e a;have:=p _ rfl;subst this;simp only[Y3]at j h f e a ⊢;generalize bi (decide (64<n)) B=x at*;cases C:bm 1 ay x with
 |none=>
  rw[show bf 1 ay (σ x)=ν from C]at a;rw[a rfl];rfl
 |some P=>
 obtain⟨Q,r⟩:=P;rw[show bf 1 ay (σ x)=σ (Q,r)from C]at j h f e a;have:=j _ rfl;subst this;simp only[Y3]at h f e a ⊢;cases E:bm 0 ay r with
 |none=>
  rw[show bf 0 ay (σ r)=ν from E]at a;rw[a rfl];rfl
 |some R=>
 obtain⟨S,F⟩:=R;rw[show bf 0 ay (σ r)=σ (S,F)from E]at h f e a;have:=h _ rfl;subst this;simp only[Y3]at f e a ⊢;generalize bi (decide (256<cnt)) F=y at*;cases G:bm 1 ay y with
 |none=>
  rw[show bf 1 ay (σ y)=ν from G]at a;rw[a rfl];rfl
 |some T=>
 obtain⟨U,H⟩:=T;rw[show bf 1 ay (σ y)=σ (U,H)from G]at f e a;have:=f _ rfl;subst this;simp only[Y3]at e a ⊢;generalize bi (decide (2147483648<k)) H=V at*;cases I:cX (gN most) n.toNat [] V with
 |none=>
  rw[a I];rfl
 |some W=>
 obtain⟨Z,K⟩:=W;obtain⟨J,X⟩:=e _ I;subst X;rw[J];simp only;show _=U8 _ (cX (λ_ s=>ds co s) cnt.toNat [] K);cases cX (λ_ s=>ds co s) cnt.toNat [] K<;>rfl
def Ol{f:ce}(a:fq N f)(q:N<=60000):∀x∈f.d9,uB f.k x:=λx h=>by
 obtain⟨h1,j,r⟩:=a.d9 x h;refine⟨a.k,⟨?_,λz e=>?_⟩,h1.other,h1.lines,by have:=h1.len;omega,Ω⟩
 .rw[h1.co,r8];exact j
 .rw[h1.co]at e;obtain⟨v,p,rfl⟩:=j5.1 e;have:=h1.scope.2 v p;refine a.co.2.2 _ ?_;rw[u5,x8 Ω];exact P6 _
def Om{p:x4}{pl:Λ}(ac:aM .u8 w p pl)(aJ:Bytes pl)(bK:pl.length<=60000)(ae:fs w):ak v8 Im [p] w (DL w (gY pl)):=by
 have aL:1<w.heap.size:=by
  have:=ae 0 (.int .u64 1) rfl;obtain⟨c,e,f,aO,_⟩:=wI this;exact(Z0.1 aO).1
 have bL:ay=4611686018427387904:=rfl;refine az func59 ?_;rw[a1 cT.u ac,bP,al];refine⟨λh=>Ω,λ_=>?_⟩;refine(BU ac aJ Ω).Y ?_;rintro _ U _ ⟨ag,gs,rfl,bN,aP,Q⟩;rw[dk (cs:=#[Γ gs,Δ 0,Δ 0,Δ 0,Δ 0,Δ 0,.slice ν 0 0]) Ψ];refine bn λg V bO R ai=>?_;have bR:=ag.size;have bS:=R.size;have aQ:=ai.lt;have bT:gs<U.heap.size:=Q.2.2.2.1.lt;have bU:=rr _ pl (o4 _);let s0:aK:=⟨(lex pl).1,0,v6,[]⟩;let B0:ah:=λr=>r<U.heap.size;have aR:er V g gs bQ B0 s0 (lex pl).2:=by
  refine⟨⟨Ω,λh=>h,λh=>h,λr j=>?_,λr j=>by have j:r<U.heap.size:=j;omega⟩,⟨aP,pl,0,Q.W R,λr j=>?_,by rw[List.drop_zero]⟩,⟨by show(0:Int)<=0;omega,by show(0:Int)<=ay;omega,by show(([]:List (Λ×List (Λ×Int))).length+(lex pl).1.length<=100000);simp;omega⟩,0,0,0,0,.slice ν 0 0,ai,⟨by simp[s0],λ_=>rfl⟩,gm (α:=lM)⟩
  .rcases j with rfl|rfl|j
   .exact aQ
   .omega
   .exact j.elim
  .obtain⟨_,_,_,L,bb,hm⟩:=Q;have G:=bW hm j;have H:=ch hm L Φ j;exact⟨λB=>by
    rcases B with B|B|B
    .omega
    .exact H B
    .exact B,by show r<U.heap.size;omega⟩
 have S:∀r,bM g gs bQ r->w.heap.size<=r:=λr j=>by
  rcases j with rfl|rfl|j
  .omega
  .omega
  .exact j.elim
 refine(CA aR).Y ?_;rintro _ bV _ ⟨A,name,bX,rfl,bY,bZ,aS⟩;obtain⟨aT,aU⟩:=gq.of A;rw[bA,bB,pf db.u,bP];refine(rU aU).Y ?_;rintro _ b0 _ A;obtain⟨aV,aW⟩:=A.of;refine(nv (lo:=1) (hi:=ay) aW).Y ?_;rintro _ b1 _ ⟨A,n,b2,rfl,aj,aX⟩;obtain⟨aY,aZ⟩:=A.of;rw[bA,bB,bP];refine(rU aZ).Y ?_;rintro _ b3 _ A;obtain⟨a2,a6⟩:=A.of;refine(nv (lo:=1) (hi:=ay) a6).Y ?_;rintro _ b4 _ ⟨A,most,b5,rfl,am,a7⟩;obtain⟨a8,ba⟩:=A.of;rw[bA,bB];refine(nv (lo:=0) (hi:=ay) ba).Y ?_;rintro _ b6 _ ⟨A,cnt,b7,rfl,an,bc⟩;obtain⟨bd,be⟩:=A.of;rw[bA,bB,bP];refine(rU be).Y ?_;rintro _ b8 _ A;obtain⟨bg,bh⟩:=A.of;refine(nv (lo:=1) (hi:=ay) bh).Y ?_;rintro _ b9 _ ⟨A,k,ca,rfl,hk,cb⟩;obtain⟨bj,bk⟩:=A.of;rw[bA,bB,bP];refine(rU bk).Y ?_;rintro _ ao _ A;obtain⟨bl,W⟩:=A.of;have ap:af (bM g gs bQ) V ao:=(((((((aT.F aV).F aY).F a2).F a8).F bd).F bg).F bj).F bl;have X:∀{lo:Int}{o:Option aK}{x:Int},0<=lo->lo<=1->(∀q,bf lo ay o=σ q->x=q.1)->(bf lo ay o=ν->x=0)->0<=x/\x<=ay:=λ{lo o x}cc h1 J bm=>by
  cases a:bf lo ay o with
  |none=>rw[bm a];omega
  |some q=>
   have G:=ob (n:=q.1) (s':=q.2) a;rw[J q a];omega
 have cd:=X Ω Ω aj aX;have cf:=X Ω Ω an bc;have cg:=X Ω Ω am a7;obtain⟨N,bo⟩:∃N:Nat,n=(N:Int):=⟨n.toNat,Ω⟩;obtain⟨C,bp⟩:∃C:Nat,cnt=(C:Int):=⟨cnt.toNat,Ω⟩;have bq:n.toNat=N:=Ω
 have br:cnt.toNat=C:=Ω
 have bs:ec s0:=λ_=>by show(0:Int)<=16384;omega
 have M:∀{o:Option aK}{b:Bool},(∀s,o=σ s->ec s)->∀s,o.map (bi b)=σ s->ec s:=λh s J=>by
  obtain⟨t,Y,rfl⟩:=Y9.1 J;exact(h t Y).big
 have O:∀{o:Option aK}{lo hi:Int},(∀s,o=σ s->ec s)->∀s,(bf lo hi o).map (·.2)=σ s->ec s:=λ{o lo hi}h s J=>by
  obtain⟨q,a,rfl⟩:=Y9.1 J;cases o with
  |none=>cases a
  |some t=>exact(h t rfl).num (n:=q.1) (s':=q.2) a
 have bt:∀s,(ea s0).map (·.2)=σ s->ec s:=λs J=>by
  obtain⟨q,a,rfl⟩:=Y9.1 J;exact bs.word (w:=q.1) (s':=q.2) a
 have aq:=M (b:=decide (2147483648<k)) (O (lo:=1) (hi:=ay) (M (b:=decide (256<cnt)) (O (lo:=0) (hi:=ay) (O (lo:=1) (hi:=ay) (M (b:=decide (64<n)) (O (lo:=1) (hi:=ay) (M (b:=decide (64<(name.length:Int))) bt)))))));have y:=λ(co:Λ)(so6:Option aK)=>Oj (s0:=s0) (name:=name) (co:=co) (n:=n) (most:=most) (cnt:=cnt) (k:=k) (so6:=so6) aS aj am an hk;rw[bq]at y;generalize ci:U8 (bi (decide (2147483648<k))) (U8 (λx=>x.2) (bf 1 ay (U8 (bi (decide (256<cnt))) (U8 (λx=>x.2) (bf 0 ay (U8 (λx=>x.2) (bf 1 ay (U8 (bi (decide (64<n))) (U8 (λx=>x.2) (bf 1 ay (U8 (bi (decide (64<(name.length:Int)))) (U8 (λx=>x.2) (ea s0)))))))))))))=au at aq W y;rw[bo];refine Oc W Ω λlc Z co so6 gz bu av aw cj bw ax aA=>?_;have y:=y co so6 ax aA;rw[br]at y;have ab:af (bM g gs bQ) V Z:=ap.F bu;have z12:=ab.size;have aB:=ag.F R;have bx:af (λr=>w.heap.size<=r) w Z:=(aB.aa _).F (ab.Y λr _ h=>S r h);have ck:=av.side;have aC:∀K,so6=σ K->ec K/\(∀z∈co,1<=z/\z<=ay)/\co.length<=100000:=λK ad=>by
  cases a:fD (gN most) N [] au with
  |none=>rw[aA a]at ad;cases ad
  |some q=>
   obtain⟨G,H⟩:=ax q a;cases ad.symm.F G;subst H;cases au with
   |none=>cases a
   |some bz=>
    obtain⟨bC,bD,cl⟩:=Oi (aq bz rfl) Ω a;exact⟨bC,bD,by have:=W.words;omega⟩
 rw[bp];have aD:∀r,lw lc r->ao.heap.size<=r/\r<Z.heap.size:=λr j=>by have:=bW aw j;omega
 have cm:=ap.size;refine Oh av.q (λs J=>(aC s J).1) Ω aw.ls (λr j=>?_) (λP=>?_) bw ((ae.W aB).aa ab λB=>by have:=S 1 B;omega) ⟨aL,λ_=>⟨λB=>by have:=S 1 B;omega,by show 1<U.heap.size;omega⟩⟩
  bx Ω Ω ⟨Ω,Ω⟩ (λ_ r h=>h.elim) λcn cp acc so aN cq cr ct aE cu bE bF bG bH aF bI=>?_
 .have:=aD r j;exact⟨Ω,Ω,Ω,λ_ h=>h⟩
 .cases aG:so6 with
  |none=>exact ro aG P
  |some K=>exact(aC K aG).2.1
 have cw:=aE.size;have E:gY pl=match jD s0 with
   |none=>ν
   |some (f,s)=>if s.hp=[]/\(lex pl).2=v2/\s.big=v6 then σ f else ν:=by
  unfold gY;rw[rc Ω];have e:jD ⟨(lex pl).1,0,v6,[]⟩=jD s0:=rfl;rw[e];cases jD s0<;>rfl
 refine Ob bE ⟨λs J Y bJ L=>?_,λP=>?_⟩ bH (λr j=>by have:=aD r j;exact⟨Ω,Ω⟩) bF bG (λ_=>trivial) Ω Ω aE Ω Ω ac λv I h=>h
 .cases a:fD (λ_ s=>ds co s) C [] so6 with
  |none=>rw[bI a]at J;cases J
  |some q=>
   obtain⟨G,H⟩:=aF q a;cases J.symm.F G;rw[a]at y;have y:jD s0=σ ((⟨name,k,co,q.1⟩:ce),q.2):=y;have aH:=(Cx rfl y L).1;rw[y]at E;simp only at E;rw[ms ⟨Y,bJ,L⟩]at E;exact⟨q.1,H,E,Ol aH (by show(lex pl).1.length<=60000;omega),aH.mr,Ω⟩
 .cases a:fD (λ_ s=>ds co s) C [] so6 with
  |none=>
   rw[a]at y;have y:=y;rw[y]at E;exact ro E P
  |some q=>
   obtain⟨G,H⟩:=aF q a;rw[a]at y;have y:jD s0=σ ((⟨name,k,co,q.1⟩:ce),q.2):=y;rw[y]at E;simp only at E;by_cases aI:q.2.hp=[]/\(lex pl).2=v2/\q.2.big=v6
   .exact⟨q.2,G,aI⟩
   .rw[rc aI]at E;exact ro E P
def xD(s t cs:Λ):∃e,tD s t cs= .tuple #[Δ (bq s cs t),Δ e]:=by
 unfold tD bq;cases cj s t 0 with
 |none=>exact⟨3,rfl⟩
 |some n=>exact⟨0,rfl⟩
def On:ak v8 AW [sv] w λr I=>Ext w I/\∃g,r= .func (.func p4) #[] #[Γ g]/\w.heap.size<=g/\ag I g an sv.cells.toList:=by
 refine az func235 ?_;refine bn λg U f a e=>?_;rw[mg];exact⟨a,g,rfl,Ω,e⟩
def Oo{f:Q6}{cap:Array x4}{B:Nat->List x4->x6->Prop}{e:x6->Prop}{L:Λ}(P:pX v8 f cap.toList n B e)(C:∀k vs w,B k vs w->∃x,L[k]?=σ x/\vs=[Δ x])(he:∀a b,af (λr=>w.heap.size<=r) a b->e a->e b)(Q:e w)(R:n=L.length)(ap:L.length<=1000000):
  ak v8 IF [.slice ν 0 0,.func (.func f) #[] cap] w λv I=>Ext w I/\∃g,w.heap.size<=g/\aB .i64 ai I g v L:=by
 refine jy func81 ?_;refine bn λgs U aq E p=>?_;have p:=p;have au:=p.lt;have G:∀{a b:x6},Ext a b->e a->e b:=λj=>he _ _ (j.aa _);refine lD.old ⟨Nat,v6,f,cap,0,_,_,e,λk I=>af (λr=>w.heap.size<=r) w I/\∃v g,gs<g/\ag I gs an [v]/\aB .i64 ai I g v (L.take k),λ_ _ _=>False,rfl,P.s,?_,λ_ _ j h=>G j h,
  λ_ _ _ j h=>⟨h.1.F (j.aa _),by obtain⟨v,g,h1,S,W⟩:=h.2;exact⟨v,g,h1,S.W j,W.W j⟩⟩,λ_ _ _ _ _ h=>h,G E Q,⟨E.aa _,_,gs+1,Ω,p,aB.nil _ _ _ _⟩,?_,?_,λ_ _ h=>h.elim,λ_ _ _ h=>h.elim⟩
 .rintro k vs av I ⟨_,_,h⟩;obtain⟨x,_,rfl⟩:=C k vs I h;rfl
 .rintro a k _ V hX ⟨hk,rfl,Y⟩ ⟨Z,v,g,ab,H,q⟩;obtain⟨x,j,ac⟩:=C k _ V Y;cases ac;intro aw y _ _;have J:=H.W y;rw[aF Ψ (J.cell rfl)];refine eU an.u ai.i rfl λa ga ax ay z ad=>?_;have az:(L.take k).length<=1000000:=Θ
  refine kt an.u ai.i rfl ((q.W y).W z) ad.ls (by simp only[Y1,List.length_nil];omega) (by simp only[Y1,List.length_nil];omega) λae ah aA aC A K=>?_;have aD:=H.lt;have aE:=y.size;have aG:=z.size;refine bu an.i A.ls.cells.1 A.ls.cells.2 (((J.W z).aa K Ω)) Ξ λaj M aH al=>?_;have N:af (λr=>w.heap.size<=r) V aj:=(((y.F z).aa _).F (K.Y λr _ h=>by show w.heap.size<=r;omega)).F (M.Y λr _ h=>by show w.heap.size<=r;omega);refine⟨he _ _ N hX,⟨Z.F N,ae,ah,Ω,al,?_⟩,λh=>by cases h⟩;rw[r9,j];exact A.aa M (λ_=>Ω)
 .rintro k aI hk ⟨am,v,g,ab,ao,q⟩;have hk:=hk;subst hk;rw[aF Ψ (ao.cell rfl)];intro aJ O _;rw[R,o9]at q;exact⟨(am.W λr aK h=>by have:w.heap.size<=r:=h;omega).F O,g,Ω,q.W O⟩
def DN{f:Q6}{cap:Array x4}{j:Nat->List x4->x6->Prop}{e:x6->Prop}{L:Λ}(p:pX v8 f cap.toList n j e)(q:∀k vs w,j k vs w->∃x,L[k]?=σ x/\vs=[Δ x])(he:∀a b,af (λr=>w.heap.size<=r) a b->e a->e b)(s:e w)(y:n=L.length)(z:L.length<=1000000):
  ak v8 Au [.func (.func f) #[] cap] w λv I=>Ext w I/\∃g,w.heap.size<=g/\aB .i64 ai I g v L:=by
 refine az func34 ?_;exact(Oo p q he s y z).Y λ_ _ _ h=>h
def Oq{x:Int}:ak v8 cmp_Less_int [Δ x,Δ y] w λv I=>v= .bool (decide (x<y))/\Ext w I:=by
 refine az func315 ?_;refine aY (λv U=>v= .bool (decide (x<y))/\Ext w U) (λ_ _ h=>h) λax a=>?_;have e:∀{z:Int}{w:x6},ak v8 cmp_isNaN_int [Δ z] w λv I=>v= .bool v6/\Ext w I:=λ{z w}=>by
  refine az func247 ?_;simp only[bK];exact⟨Ξ,Ext.refl _⟩
 refine e.Y ?_;rintro _ V _ ⟨rfl,f⟩;rw[a7];simp only[aT];exact a _ _ ⟨rfl,f⟩
def Ot{P:V5}{t:o5}{cx cy:Bool}{k:j4}{a b:Int}:b6 P (aP .sub t cx cy (.int k a) (.int k b)) (.int k (k.wrap (a-b))) w:=λI _=>by simp[aP,eqGuard,binOp,Op.intArith]
def Ou{g:Nat}(h:aB .i64 ai w g sv l)(ao:l.length<=1000000):
  ak v8 KU [sv,Δ 0,Δ l.length] w λ_ I=>af (λr=>r=g) w I/\∃m,m.Perm l/\m.Pairwise (·<= ·)/\aB .i64 ai I g sv m:=by
 refine az func309 ?_;simp only[aO];refine⟨λt U=>∃(i:Nat)(m:Λ),t=Δ i/\1<=i/\(i<=l.length\/i=1)/\m.Perm l/\rE m i/\af (λr=>r=g) w U/\aB .i64 ai U g sv m,λt _=>l.length+1-(bZ t).toNat,
  ⟨1,l,by congr 1,Ω,.inr rfl,.refl _,λp q x y h1 S=>Ω,af.refl _ _,h⟩,?_⟩
 rintro _ U ⟨i,m,rfl,ap,aq,z,J,K,hm⟩;have W:=z.length_eq;simp only[aT,al];refine⟨λX=>?_,λau=>?_⟩
 .have X:i<l.length:=Ω
  refine⟨λt V=>∃(j:Nat)(m:Λ),t=Δ j/\j<=i/\m.Perm l/\ql m i j/\af (λr=>r=g) w V/\aB .i64 ai V g sv m,λt _=>(bZ t).toNat,⟨i,m,rfl,o4 _,z,Mc J,K,hm⟩,?_⟩;rintro _ V ⟨j,m,rfl,Y,z,E,L,hm⟩;have W:=z.length_eq;refine aY (λv M=>Ext V M/\∃c,v= .bool c/\(c=v2->0<j/\∃a b,m[j-1]?=σ a/\m[j]?=σ b/\b<a)/\(c=v6->j=0\/0<j/\∃a b,m[j-1]?=σ a/\m[j]?=σ b/\a<=b)) ?_ ?_
  .rintro _ M ⟨B,c,rfl,Z,ab⟩;rw[cb];refine⟨λh=>?_,λh=>?_⟩
   .obtain⟨A,a,b,f,s,G⟩:=Z h;intro av N _ _;have C:=(hm.W B).W N;have e:W5.wrap ((j:Int)-1)=((j-1:Nat):Int):=by rw[m1 Ω Ω];omega
    simp only[dA,e];rw[bh an.u ai.i Ψ C.ls f,bh an.u ai.i Ψ C.ls s,jf rfl an.u ai.i C Ω];refine jg ai.i C Ω λac ad aw O=>⟨.inr ⟨by have:=Ot (P:=v8) (w:=ac) (t:=ai) (cx:=v6) (cy:=v2) (k:=.i64) (a:=(j:Int)) (b:=1);rwa [e]at this,trivial⟩,?_⟩;rw[jf rfl an.u ai.i O Θ];refine jg ai.i O Θ λay ae aA ag=>?_;refine⟨⟨j-1,_,rfl,Ω,(swap_perm Ω f s).F z,Mf E A Y f s G,((L.F ((B.F N).aa _)).F ad).F ae,ag⟩,?_⟩;simp only[bZ];omega
   .simp only[aO];rw[m1 Ω Ω];refine⟨⟨i+1,m,rfl,Ω,.inl Ω,z,?_,L.F (B.aa _),hm.W B⟩,?_⟩
    .rcases ab h with rfl|⟨A,a,b,f,s,G⟩
     .exact Md E
     .exact Me E A f s G
    .simp only[bZ];omega
  .intro ax Q aC H _ _;have R:=hm.W H;simp only[bP,al];refine⟨λA=>?_,λA=>Q _ _ ⟨H,v6,rfl,(λh=>by cases h),λ_=>.inl Ω⟩⟩;have e:W5.wrap ((j:Int)-1)=((j-1:Nat):Int):=by rw[m1 Ω Ω];omega
   obtain⟨b,s⟩:=aD (l:=m) (i:=j) Ω;obtain⟨a,f⟩:=aD (l:=m) (i:=j-1) Ω;rw[bh an.u ai.i Ψ R.ls s];simp only[dA,e];rw[bh an.u ai.i Ψ R.ls f];refine Oq.Y ?_;rintro _ aE _ ⟨rfl,ah⟩;refine Q _ _ ⟨H.F ah,_,rfl,λh=>⟨Ω,a,b,f,s,by simpa using h⟩,λh=>.inr ⟨Ω,a,b,f,s,by simpa using h⟩⟩
 .refine⟨K,m,z,Mg λp q x y h1 S aj am=>J p q x y h1 Ω aj am,hm⟩
def Ov{P:V5}{t:o5}{k:j4}{s:ByteArray}{i:Nat}{K:x4->Prop}(a:P.underlying t=σ .string)(hi:i<s.size)(e:∀b:Nat,b<256->K (.int .u8 b)):
  ab P (Instr.index t (.string s) (.int k (i:Int))) w K:=by
 have f:s[i]?=σ s[i]:=by simp[hi]
 have:ab P (Instr.index t (.string s) (.int k (i:Int))) w K=K (.int .u8 s[i].toNat):=ab.of λI _=>by
  simp[Instr.index,asIntOf,run_underlying a,hi]
 rw[this];exact e _ (UInt8.toNat_lt _)
def Ow(a:n<256):ak v8 Kp [.int .u64 (n:Int)] w λv I=>(∃r,v=Δ r)/\Ext w I:=by
 refine az func246 ?_;refine ak.Y (K:=λv I=>(∃r,v=Δ r)/\Ext w I) ?_ (λ_ _ _ h=>h);refine az func283 ?_;simp only[cB,cP,al];refine⟨λh=>Ω,λ_=>⟨λh=>Ω,λ_=>⟨λh=>Ω,λ_=>?_⟩⟩⟩;rw[fC fN.u cO.u,wrap_u8 Ω Ω];refine Ov db.u (by exact S3 a Φ) λb e=>?_;rw[fC cO.u ai.u];simp only[aO];exact⟨⟨_,rfl⟩,Ext.refl _⟩
def Ox{g:Nat}(h:aB .i64 ai w g sv l)(f:l.length<=12):
  ak v8 KC [sv] w λ_ I=>af (λr=>r=g) w I/\∃m,m.Perm l/\m.Pairwise (·<= ·)/\aB .i64 ai I g sv m:=by
 refine az func269 ?_;rw[a1 an.u h.ls,fC ai.u p6.u,m2 Ω Ω];refine(Ow Ω).Y ?_;rintro _ U _ ⟨⟨r,rfl⟩,e⟩;refine ak.Y (K:=λ_ I=>af (λr=>r=g) U I/\∃m,m.Perm l/\m.Pairwise (·<= ·)/\aB .i64 ai I g sv m) ?_ (λ_ _ _ h=>⟨(e.aa _).F h.1,h.2⟩);refine az func294 ?_;refine⟨λa b _ _ _ V=>a=Δ 0/\b=Δ l.length/\U=V,λ_ _ _ _ _ _=>0,⟨rfl,rfl,rfl⟩,?_⟩;rintro _ _ _ _ _ _ ⟨rfl,rfl,rfl⟩;simp only[dA,mf,al];rw[m1 Ω Ω];refine⟨λ_=>?_,λh=>Ω⟩;refine(Ou (h.W e) Ω).Y ?_;exact λ_ _ _ h=>h
def Oy{f:Q6}{cap:Array x4}{j:Nat->List x4->x6->Prop}{e:x6->Prop}{L:Λ}(p:pX v8 f cap.toList n j e)(q:∀k vs w,j k vs w->∃x,L[k]?=σ x/\vs=[Δ x])(he:∀a b,af (λr=>w.heap.size<=r) a b->e a->e b)(s:e w)(y:n=L.length)(z:L.length<=12):
  ak v8 AV [.func (.func f) #[] cap] w λv I=>Ext w I/\∃g m,w.heap.size<=g/\m.Perm L/\m.Pairwise (·<= ·)/\aB .i64 ai I g v m:=by
 refine az func234 ?_;refine(DN p q he s y Ω).Y ?_;rintro v U _ ⟨A,g,B,C⟩;refine(Ox C z).Y ?_;rintro _ V _ ⟨E,m,h1,G,H⟩;exact⟨A.then E (by rintro r J rfl;omega),g,m,B,h1,G,H⟩
def DO{x:Int}(h:aM .i64 w sv l):
  ak v8 AX [sv,Δ x] w λv I=>Ext w I/\∃r:Int,v=Δ r/\∀i:Nat,l[i]?=σ x->(r=i↔ ∀j,j<i->l[j]? ≠σ x):=by
 refine az func236 ?_;rw[a1 an.u h];refine b7.range l.length (λi _ U=>Ext w U/\∀j,j<i->l[j]? ≠σ x) h.le ⟨Ext.refl _,λj p=>Ω⟩ ?_ ?_
 .rintro i _ U k hi ⟨a,e⟩ hk;simp only[aT,al];refine⟨λ_=>?_,λh=>Ω⟩;obtain⟨y,f⟩:=aD (l:=l) hi;rw[bh an.u ai.i Ψ (h.W a) f];simp only[bl,al,aO];refine⟨λhe=>⟨a,i,rfl,λq s=>?_⟩,λhe=>hk _ _ ⟨a,λj p=>?_⟩⟩
  .subst he;refine⟨λB=>by
              have:i=q:=Ω
              subst this;exact e,λz=>?_⟩
   rcases Nat.lt_trichotomy i q with h1|h1|h1
   .exact ro f (z i h1)
   .omega
   .exact ro s (e q h1)
  .by_cases A:j=i
   .subst A;rw[f];intro h;exact he (Z5 h).symm
   .exact e j Ω
 .rintro _ U k ⟨a,e⟩;simp only[aT,al];refine⟨λh=>Ω,λ_=>⟨a,-1,rfl,λi hi=>?_⟩⟩;exact ro hi (e i (x5.1 hi).1)
def Oz{g:Nat}(p:ag w0 g an [sv])(e:aM .i64 w0 sv l):
  pX v8 p4 [Γ g] l.length (λk vs _=>∃x,l[k]?=σ x/\vs=[Δ x]) (λw=>Ext w0 w):=by
 refine⟨p4.enters,λy ax B w C _ q a r=>?_⟩;refine rk func270 ?_;rw[aF Ψ ((p.W a).cell rfl),a1 an.u (e.W a)];refine bY.range l.length (λi V=>ax i V/\Ext w0 V) e.le ⟨r,a⟩ ?_ ?_
 .rintro i V k hi ⟨f,j⟩ hk;simp only[aT,al];refine⟨λ_=>?_,λh=>Ω⟩;obtain⟨x,a⟩:=aD (l:=l) hi;rw[bh an.u ai.i Ψ (e.W j) a];refine⟨rfl,(q i _ V hi j ⟨x,a,rfl⟩ f).Y ?_⟩;rintro _ E (⟨rfl,s,z⟩|⟨rfl,A⟩)
  .simp only[bL,X3,a7,aO];exact hk _ ⟨z.1,s⟩
  .simp only[bL,W6,bO];exact .inr ⟨i,hi,A⟩
 .rintro V k ⟨f,_⟩;simp only[aT,al];exact⟨λh=>Ω,λ_=>.inl f⟩
def xE(h:aM .i64 w sv l)(j:l.length<=12)(p:∀v I g m,Ext w I->w.heap.size<=g->m.Perm l->m.Pairwise (·<= ·)->aB .i64 ai I g v m->K v I):
  ak v8 AW [sv] w λt U=>ak v8 AV [t] U K:=by
 refine On.Y ?_;rintro _ U _ ⟨f,g,rfl,B,e⟩;have e:ag U g an [sv]:=by rw[h.cells.1]at e;exact e
 refine(Oy (Oz e (h.W f)) (λ_ _ _ h=>h) (λa b q s=>s.then q (λr C h=>Ω)) (Ext.refl _) rfl j).Y ?_;rintro v V _ ⟨x,y,m,E,h1,z,A⟩;have:=f.size;exact p v V y m (f.F x) Ω h1 z A
def OA(w:x6)(aj:Λ)(k:Int)(cs a:Λ)(v:x4)(I:x6):Prop:=
 Ext w I/\
  (¬Good a aj.length->v= .tuple #[.pointer ν,Δ 1])/\
  (Good a aj.length->∃e f h,v= .tuple #[Γ e,Δ 0]/\dm I e f h (e5 aj a) k (pk aj cs a))
def OB{g bG:Nat}{Z:x4}{cs z:Λ}(h:dm w g bG sv aj k cs)(hk:right k)(P:aM .i64 w Z z)(cl:z.length<=12)(ac:Good z aj.length->aQ (e5 aj z)<=4096):
  ak v8 Ki [Γ g,Z] w (OA w aj k cs z):=by
 have aA:=h;have cm:=h.2.2.1;have cn:=P.cells;refine jy func237 ?_;refine bn λg1 U c5 bI C=>?_;refine bn λbJ V c6 a2 A=>?_;have s1:=bI.size;have c7:=a2.size;have c8:=C.lt;have c9:=A.lt;have a6:=bI.F a2;have C:=C.W a2;have A:ag V bJ an [Z]:=by rw[cn.1]at A;exact A
 rw[aF Ψ (C.cell rfl),di fd.u];simp only[Y0,a7];rw[aF Ψ (A.cell rfl)];have cp:=P.W a6;have sub:∀{w:x6}{g:Nat}{sv:x4}{k:Int}{a8:x4},ag w g c4 [sv,Δ k,a8]->w.rangeAt g (0+0) [sv]:=λJ=>pd J (by
  intro j v ba
  match j,ba with
  |0,ba=>exact ba)
 refine xE cp cl λeu cq dt m bL da bb cr hm=>?_;have ct:=bb.length_eq;rw[a1 an.u hm.ls];have cu:=a6.F bL;refine kS.range m.length (λi _ _ bc=>Ext cq bc/\∀j,j<i->m[j]?=σ (j:Int)) Ω ⟨Ext.refl _,λj bd=>Ω⟩ ?_ ?_
 .rintro i _ _ bc ab hi ⟨ad,be⟩ ae;simp only[aT,al];refine⟨λ_=>?_,λh=>Ω⟩;obtain⟨y,ah⟩:=aD (l:=m) hi;rw[bh an.u ai.i Ψ (hm.ls.W ad) ah];simp only[bK,al,aO];refine⟨λam db cw _=>⟨(cu.F ad).F cw,λ_=>rfl,λbf=>?_⟩,λhe=>ae _ _ _ ⟨ad,λj bd=>?_⟩⟩
  .have:=Cg bf bb cr i hi;rw[ah]at this;exact ro (Z5 this).symm am
  .by_cases cz:j=i
   .subst cz;rw[ah];congr 1;omega
   .exact be j Ω
 .rintro _ _ bc ab ⟨ad,be⟩;simp only[aT,al,en];refine⟨λh=>Ω,λ_ dc cA _ _=>?_⟩;have E:=Mh be bb;have ao:=(bL.F ad).F cA;have aC:=a6.F ao;have C:=C.W ao;have A:=A.W ao;have cB:=P.W aC;have cC:=aA.W aC;have dd:=ao.size;obtain⟨⟨a8,gs,J,aE,bM⟩,_⟩:=id cC;rw[aF Ψ (A.cell rfl),a1 an.u cB,aF Ψ (C.cell rfl),b0,aU c4.p rfl,bz (cs:=[sv]) bH.p bH.i rfl (sub J)];refine(CG aE.ls).Y ?_;rintro _ de _ ⟨rfl,K⟩;refine⟨.inl K,?_⟩;simp only[bK,al];refine⟨λam df cD _=>⟨(aC.F K).F cD,λ_=>rfl,λbf=>ro (by rw[bf.1]) am⟩,λdg=>?_⟩;have bg:z.length=aj.length:=Ω
  have E:Good z aj.length:=by rw[<-bg,<-ct];exact E
  have dh:=ao.F K;have bi:=aC.F K;have C:=C.W K;have A:=A.W K;have bN:=P.W bi;rw[aF Ψ (A.cell rfl),a1 an.u bN];refine ku an.u ai.i Ω Ω λgz cE dj Q bO=>?_;have cF:=aB.of (n:=z.length) (b2.full bO Ξ (by simp[maxLen];omega));generalize (x4.slice (σ ⟨gz,0,ν⟩) z.length z.length)=cG at*;have dk:=K.size;have dl:=Q.size;have dn:=bO.lt;rw[aF Ψ ((A.W Q).cell rfl),a1 an.u (bN.W Q)];have bP:=bi.F Q;have aG:(e5 aj z).length=z.length:=tT _ _;refine bY.range z.length (λi aH=>af (λr=>r=gz) cE aH/\aB .i64 ai aH gz cG (upto (e5 aj z) 0 i)) Ω ⟨af.refl _ _,by rw[qi,aG];exact cF⟩ ?_ ?_
  .rintro i aH ab hi ⟨L,aI⟩ ae;simp only[aT,al];refine⟨λ_=>?_,λh=>Ω⟩;have ap:=bP.then L (by rintro r M rfl;omega);have aJ:=Q.then L (by rintro r M rfl;omega);obtain⟨p,bj⟩:=aD (l:=z) hi;obtain⟨⟨a8,gs,J,aE,bM⟩,_⟩:=aA.W ap;rw[bh an.u ai.i Ψ (P.W ap) bj,aF Ψ ((C.W aJ).cell rfl),b0,aU c4.p rfl,bz (cs:=[sv]) bH.p bH.i rfl (sub J)];refine(rJ aE.ls).Y ?_;rintro _ dp _ ⟨rfl,bQ⟩;have bR:=aI.W bQ;have cH:(upto (e5 aj z) 0 i).length=z.length:=by rw[pi,aG]
   rw[jf rfl an.u ai.i bR Ω];refine jg ai.i bR Ω λdq cI _ bS=>?_;simp only[aO];have h1:=(E.2 i p bj).1;have aq:(e5 aj z)[i]?=σ (jk aj p):=by
    unfold e5 jk;rw[u4,bj,ms h1.1];rfl
   rw[qk aq]at bS;exact ae _ ⟨(L.F (bQ.aa _)).F cI,bS⟩
  .rintro aH ab ⟨L,aI⟩;simp only[aT,al];refine⟨λh=>Ω,λ_=>?_⟩;have ap:=bP.then L (by rintro r M rfl;omega);have aJ:=Q.then L (by rintro r M rfl;omega);rw[<-aG,qj]at aI;obtain⟨⟨a8,gs,J,aE,bM⟩,_⟩:=aA.W ap;rw[aF Ψ ((C.W aJ).cell rfl),aL c4.p 1 J rfl];have aK:=cm.Mj E rfl;have bT:=ac E;have ds:=prod_bound aK;refine(wR aI.ls).Y ?_;rintro _ bU _ ⟨bV,_,_,_,cJ⟩;obtain⟨au,G,R,rfl,du,dv,dw,aN⟩:=cJ aK bT ⟨hk,Ω,by have:=hk.1;omega⟩;obtain⟨N,aP⟩:∃N:Nat,(aQ (e5 aj z)).toNat=N:=⟨_,rfl⟩;rw[aP]at aN;rw[bA,bB];refine bE fd.i λbW dx dy bX ax=>?_;refine bu fd.i rfl rfl ax (by simp[x4.cells]) λdz cK dA ax=>?_;have dC:=L.size;have dD:=bV.size;have dE:=bX.size;have bk:=bX.then cK (by rintro r M rfl;omega);have bZ:=bV.F bk;have cL:=aN.W bk;have dF:=ax.lt;obtain⟨⟨bl,b1,b3,b4,cM⟩,⟨b5,b6,_⟩,_,dG⟩:=id cL;have dH:0<N:=Ω
   have dI:au<bU.heap.size:=by obtain⟨⟨_,_,q,_⟩,_⟩:=id aN;exact q.lt
   have dJ:G<bU.heap.size:=by obtain⟨⟨_,_,_,_,q⟩,_⟩:=id aN;exact uy q Θ
   rw[aF Ψ (ax.cell rfl),b0,aU c4.p rfl,bz (cs:=[R]) bH.p bH.i rfl (sub b3)];refine xh.Y ?_;rintro _ O _ ⟨H,aR,rfl,dK,b7⟩;have dL:=bk.size;have dM:=H.size;let S:Nat->Prop:=λr=>r=G;let W:=pk aj cs z;have bm:W.length=N:=by simp only[W];rw[Cm,aP]
   let cN:x6->Prop:=λI=>ag I g1 fd [Γ g]/\ag I bJ an [Z]/\ag I bW fd [Γ au]/\ag I au c4 [R,Δ k,bl]/\
    dm I g bG sv aj k cs/\aM .i64 I Z z/\aB .i64 ai I b1 R (e5 aj z)/\ag I aR bH [R]/\O.heap.size<=I.heap.size
   have X:∀{a:x6},af S O a->cN a:=by
    intro a B;have bo:=(aJ.F bZ).F H;have bp:=bo.put B Ω;have b8:=bi.F bp;refine⟨C.W bp,A.W bp,(ax.W H).aa B (by show¬(bW=G);omega),(b3.W H).aa B (by show¬(au=G);exact b5),aA.W b8,P.W b8,bw (b4.W H) B (λr M he=>b6 ((show r=G from he)▸M)),
     b7.aa B (by show¬(aR=G);omega),B.size⟩
   have b9:=xg (g:=aR) (B0:=O.heap.size) (sv:=R) aK;rw[aP]at b9;refine pY.old ⟨Nat,v6,nb,#[Γ aR],0,_,_,_,λq I=>af S O I/\aB .i64 av I G bl (upto W 0 q),λ_ _ _=>False,rfl,b9.s,
    ?_,λ_ _ B h=>⟨h.1.W B,h.2.1.W B,X1 h.2.2 B.size⟩,λ_ _ _ B h=>⟨h.1.F (B.aa S),h.2.W B⟩,λ_ _ _ _ _ h=>h,⟨b7,(b4.W H).ls,o4 _⟩,⟨af.refl _ _,?_⟩,?_,?_,λ_ _ h=>h.elim,λ_ _ _ h=>h.elim⟩
   .rintro _ _ _ _ ⟨_,_,_,_,rfl,_⟩;rfl
   .rw[qi,bm];exact cM.W H
   .rintro _ aV q _ dN ⟨_,_,dO⟩ ⟨aq,rfl,dP,gt,cO,dQ,cP⟩ ⟨aS,cQ⟩;cases cO;let x:=dr (e5 aj z) (q:Int);have ca:x.length=z.length:=by simp only[x];rw[kw,aG]
    intro cR Y _ _;have cb:=cP.W Y;rw[a1 an.u cb.ls];refine ku an.u ai.i (by rw[kw];omega) (by rw[kw];omega) λgo cS dR br cc=>?_;have cT:=aB.of (n:=(dr (e5 aj z) (q:Int)).length) (b2.full cc Ξ (by rw[kw];simp[maxLen];omega));generalize (x4.slice (σ ⟨go,0,ν⟩) (dr (e5 aj z) (q:Int)).length (dr (e5 aj z) (q:Int)).length)=cU at*;have dS:=aS.size;have dT:=Y.size;have dU:=br.size;have lo:=cc.lt;have cV:af S O cS:=aS.F ((Y.F br).aa S);have f:=X cV;rw[aF Ψ (f.2.1.cell rfl),a1 an.u f.2.2.2.2.2.1];refine bY.range z.length (λj aW=>Ext cR aW/\∃y:Λ,y.length=z.length/\aB .i64 ai aW go cU y/\∀(i:Nat)(p:Int),i<j->z[i]?=σ p->y[p.toNat]?=x[i]?) Ω
     ⟨br,_,by simp[ca,x],cT,λi p hi=>Ω⟩ ?_ ?_
    .rintro j aW ab bd ⟨ay,y,bs,aX,bt⟩ ae;simp only[aT,al];refine⟨λ_=>?_,λh=>Ω⟩;have f:=X (aS.F ((Y.F ay).aa S));obtain⟨p,aY⟩:=aD (l:=z) bd;obtain⟨u,hu⟩:=aD (l:=x) (i:=j) Ω;have dV:=(E.2 j p aY).1;rw[bh an.u ai.i Ψ f.2.2.2.2.2.1 aY,bh an.u ai.i Ψ (cb.W ay).ls hu,jf (i:=p.toNat) Ω an.u ai.i aX Ω];refine jg ai.i aX Ω λdW cW dX cX=>?_;simp only[aO];refine ae _ ⟨ay.then cW (by rintro r M rfl;omega),_,by simpa using bs,cX,λi aZ hi az=>?_⟩;by_cases cd:i=j
     .subst cd;rw[aY]at az;cases az;rw[l9 Ω,hu]
     .have dY:=(E.2 i aZ az).1;have am:p.toNat≠aZ.toNat:=λhe=>by
       have:p=aZ:=Ω
       subst this;exact cd (E.inj az aY)
      rw[Z6 am];exact bt i aZ Ω az
    .rintro aW ab ⟨ay,y,bs,aX,bt⟩;simp only[aT,al];refine⟨λh=>Ω,λ_ cY ce _ _=>?_⟩;have ah:=Ck E (by rw[ca,bg]) (by rw[bs,bg]) λi p cf=>bt i p (x5.1 cf).1 cf;have cg:=ay.F ce;have ch:af S O cY:=aS.F ((Y.F cg).aa S);obtain⟨f1,f2,f3,f4,f5,f6,f7,f8,f9⟩:=X ch;rw[aF Ψ (f3.cell rfl),aL c4.p 2 f4 rfl,aF Ψ (f1.cell rfl)];refine(wS f5 (aX.ls.W ce)).Y ?_;rintro _ dZ _ ⟨rfl,bx⟩;refine⟨.inl bx,?_⟩;obtain⟨e,he⟩:=xD aj y cs;rw[he,bA,bB];have cZ:=ch.F (bx.aa S);have ci:=(cQ.W ((Y.F cg).F bx));have cH:(upto W 0 q).length=N:=by rw[pi,bm]
     rw[jf rfl aw.u av.i ci Ω];refine jg av.i ci Ω λc0 c1 ea cj=>?_;have ck:af S O c0:=cZ.F (c1.Y λr _ h=>h);obtain⟨f1,f2,f3,f4,f5,f6,f7,f8,f9⟩:=X ck;have c2:W[q]?=σ (bq aj cs y):=by
      simp only[W,pk];rw[u4,List.getElem?_range (by rw[aP];exact aq),ah];rfl
     rw[qk c2]at cj;exact⟨⟨f8,f7.ls,f9⟩,⟨ck,cj⟩,λh=>by cases h⟩
   .rintro q eb aq ⟨bC,bD⟩;rw[show q=N from aq]at bD;have f:=X bC;rw[aF Ψ (f.2.2.1.cell rfl)];intro ec bF _;obtain⟨f1,f2,f3,f4,f5,f6,f7,f8,f9⟩:=X (bC.F (bF.aa S));rw[<-bm,qj]at bD;have bo:=(ap.F bZ).F H;refine⟨(bo.put bC Ω).F bF,λc3=>ro E c3,λ_=>⟨au,G,R,rfl,⟨bl,b1,f4,f7,bD.W bF⟩,⟨b5,b6,bT⟩,aK,Cm _ _ _⟩⟩
def ir(l:Λ):Prop:=∀(i j:Nat)(x y:Int),i<j->l[i]?=σ x->l[j]?=σ y->x<y
def ir.inj(h:ir l){i:Nat}{x:Int}(hi:l[i]?=σ x)(a:l[j]?=σ x):i=j:=by
 rcases Nat.lt_trichotomy i j with h1|h1|h1
 .have:=h i j x x h1 hi a;omega
 .exact h1
 .have:=h j i x x h1 a hi;omega
def dedup(l:Λ):Nat->Λ
 |0=>[]
 |j+1=>if 0<j/\l[j]?=l[j-1]? then dedup l j else dedup l j++[l.getD j 0]
theorem DP(l:Λ):∀j,(dedup l j).length<=j
 |0=>o4 _
 |j+1=>by
  have:=DP l j;unfold dedup;split
  .omega
  .simp;omega
def xF(a:0<j)(h:l[j]?=l[j-1]?):dedup l (j+1)=dedup l j:=by
 rw[dedup,ms ⟨a,h⟩]
def xG{x:Int}(e:l[j]?=σ x)(h:0<j->l[j]? ≠l[j-1]?):dedup l (j+1)=dedup l j++[x]:=by
 rw[dedup,rc (λa=>h a.1 a.2),u5,e];rfl
theorem uD{l:Λ}:∀{j:Nat},j<=l.length->(∀i,i<j->0<i->l[i]? ≠l[i-1]?)->dedup l j=l.take j
 |0,_,_=>by simp[dedup]
 |j+1,f,h=>by
  have a:l[j]?=σ l[j]:=x8 Ω;rw[xG a (h j Ω),uD Ω (λi hi e=>h i Ω e),r9,a];rfl
theorem DQ{l:Λ}(J:l.Pairwise (·<= ·)):∀{j:Nat},j<=l.length->(ir (dedup l j)/\∀x,x∈dedup l j↔x∈l.take j)
 |0,_=>⟨λi j x y _ h=>by simp[dedup]at h,λx=>by simp[dedup]⟩
 |j+1,I=>by
  obtain⟨h1,q⟩:=DQ J (j:=j) Ω;have f:l[j]?=σ l[j]:=x8 Ω;by_cases p:0<j/\l[j]?=l[j-1]?
  .rw[xF p.1 p.2];refine⟨h1,λx=>?_⟩;rw[q,r9,f];simp only[j6,j9,c9];refine⟨.inl,λh=>h.elim id λhe=>?_⟩;subst he;have s:(l.take j)[j-1]?=σ l[j]:=by rw[Y6 Ω,<-p.2,f]
   exact x7 s
  .have w:0<j->l[j]? ≠l[j-1]?:=λB he=>p ⟨B,he⟩;rw[xG f w];have C:∀x∈dedup l j,x<l[j]:=λx E=>by
    obtain⟨i,hi,he⟩:=List.getElem_of_mem ((q x).1 E);have K:i<j:=by rw[o8]at hi;omega
    rw[List.getElem_take]at he;subst he;have s:l[i]<=l[j-1]:=by
     by_cases z:i=j-1
     .subst z;exact S9 _
     .exact U5.1 J i (j-1) Ω Ω Ω
    have z:=U5.1 J (j-1) j Ω Ω Ω;have A:=w Ω;rw[f,x8 (show j-1<l.length by omega)]at A;have L:l[j]≠l[j-1]:=λh=>A (by rw[h]);omega
   refine⟨λa b x y F r e=>?_,λx=>?_⟩
   .have G:=(x5.1 e).1;simp only[n9,Y1,List.length_nil]at G;rw[Y2 Ω]at r;by_cases H:b=(dedup l j).length
    .subst H;rw[Z7 (o4 _),V0]at e;simp at e;subst e;exact C x (x7 r)
    .rw[Y2 Ω]at e;exact h1 a b x y F r e
   .rw[r9,f];simp only[j6,j9,c9,q]
def r1(l:Λ):Prop:=∀(j:Nat)(x:Int),l[j]?=σ x->0<=x/\(0<j->∀y,l[j-1]?=σ y->y<x)
def r1.up(h:r1 l):ir l:=by
 intro i j x y r f;induction j generalizing y with
 |zero=>omega
 |succ j p=>
  intro e;have s:=(x5.1 e).1;obtain⟨z,a⟩:∃z,l[j]?=σ z:=⟨_,x8 (show j<l.length by omega)⟩;have h1:=(h (j+1) y e).2 Ω z (by simpa using a);by_cases q:i=j
  .subst q;rw[f]at a;cases a;exact h1
  .have:=p z Ω a;omega
def OC(h:ir l)(e:∀x∈l,0<=x):r1 l:=λj x a=>⟨e x (x7 a),λp y f=>h (j-1) j y x Ω f a⟩
def DR{g H:Nat}{df:x4}{cs:Λ}(h:dm w g H sv aj k cs)(a:aM .i64 w df l):
  ak v8 Kj [Γ g,df] w λv I=>Ext w I/\∃c,v= .bool c/\(c=v2↔l.length=aj.length/\r1 l):=by
 obtain⟨⟨a8,gs,J,hm,q⟩,_⟩:=h;have sub:w.rangeAt g (0+0) [sv]:=pd J (by
  intro j v r
  match j,r with
  |0,r=>exact r)
 refine az func238 ?_;rw[a1 an.u a,b0,aU c4.p rfl,bz (cs:=[sv]) bH.p bH.i rfl sub];refine(CG hm.ls).Y ?_;rintro _ U _ ⟨rfl,s⟩;simp only[bK,al];refine⟨λK=>⟨s,v6,rfl,(λh=>by cases h),λh=>ro (by rw[h.1]) K⟩,λE=>?_⟩;have E:l.length=aj.length:=Ω
 rw[a1 an.u (a.W s)];refine b7.range l.length (λi _ V=>Ext w V/\∀(j:Nat)(x:Int),j<i->l[j]?=σ x->0<=x/\(0<j->∀y,l[j-1]?=σ y->y<x)) a.le ⟨s,λj x L=>Ω⟩ ?_ ?_
 .rintro i _ V M hi ⟨e,z⟩ N;simp only[aT,al];refine⟨λ_=>?_,λh=>Ω⟩;obtain⟨x,f⟩:=aD (l:=l) hi;have W:=a.le;rw[bh an.u ai.i Ψ (a.W e) f];refine aY (λv O=>V=O/\∃c,v= .bool c/\(c=v6↔0<=x/\(0<i->∀y,l[i-1]?=σ y->y<x))) ?_ ?_
  .rintro _ _ ⟨rfl,c,rfl,q⟩;rw[cb];simp only[aO];refine⟨λP=>⟨e,v6,rfl,(λh=>by cases h),λh=>?_⟩,λQ=>N _ _ ⟨e,λj R L A=>?_⟩⟩
   .have:=q.2 (h.2 i x f);rw[P]at this;cases this
   .by_cases S:j=i
    .subst S;rw[f]at A;cases A;exact q.1 Q
    .exact z j R Ω A
  .intro ax B;simp only[aT,bP,dA,al];refine⟨λX=>B _ _ ⟨rfl,v2,rfl,(λh=>by cases h),λh=>Ω⟩,λY=>⟨λZ=>?_,λaa=>B _ _ ⟨rfl,v6,rfl,λ_=>⟨Ω,λh=>Ω⟩,λ_=>rfl⟩⟩⟩;obtain⟨y,C⟩:∃y,l[i-1]?=σ y:=⟨_,x8 (show i-1<l.length by omega)⟩;rw[m1 Ω Ω,fP (i:=i-1) Ω an.u ai.i Ψ (a.W e) C];simp only[cP];refine B _ _ ⟨rfl,_,rfl,?_⟩;rw[decide_eq_false_iff_not];refine⟨λh=>⟨Ω,λ_ ab G=>by rw[C]at G;cases G;omega⟩,λh=>by have:=h.2 Ω y C;omega⟩
 .rintro _ V M ⟨e,z⟩;simp only[aT,al];exact⟨λh=>Ω,λ_=>⟨e,v2,rfl,λ_=>⟨E,λj x f=>z j x (x5.1 f).1 f⟩,λ_=>rfl⟩⟩
def iR(l:Λ)(x:Int):Int:=if x∈l then(l.idxOf x:Int)else-1
def DS{i:Nat}{x:Int}(h:ir l)(hi:l[i]?=σ x):iR l x=i:=by
 have hm:x∈l:=x7 hi;have a:=List.idxOf_lt_length_of_mem hm;have e:=h.inj (by rw[x8 a,List.getElem_idxOf a]) hi;unfold iR;rw[ms hm,e]
def OD{x:Int}(h:x∉l):iR l x= -1:=rc h
def xH{x:Int}(h:aM .i64 w sv l)(hu:ir l):
  ak v8 AX [sv,Δ x] w λv I=>v=Δ (iR l x)/\Ext w I:=by
 refine az func236 ?_;rw[a1 an.u h];refine b7.range l.length (λi _ U=>Ext w U/\∀j,j<i->l[j]? ≠σ x) h.le ⟨Ext.refl _,λj p=>Ω⟩ ?_ ?_
 .rintro i _ U k hi ⟨a,e⟩ hk;simp only[aT,al];refine⟨λ_=>?_,λh=>Ω⟩;obtain⟨y,f⟩:=aD (l:=l) hi;rw[bh an.u ai.i Ψ (h.W a) f];simp only[bl,al,aO];refine⟨λhe=>⟨?_,a⟩,λhe=>hk _ _ ⟨a,λj p=>?_⟩⟩
  .subst he;rw[DS hu f]
  .by_cases q:j=i
   .subst q;rw[f];intro h;exact he (Z5 h).symm
   .exact e j Ω
 .rintro _ U k ⟨a,e⟩;simp only[aT,al];refine⟨λh=>Ω,λ_=>⟨?_,a⟩⟩;rw[OD];intro hm;obtain⟨i,hi,he⟩:=List.getElem_of_mem hm;exact e i hi (by rw[x8 hi,he])
def gx(x d6 scope:Λ):Λ:=scope.map λp=>x.getD (d6.idxOf p) 0
def OE(x d6 scope:Λ):(gx x d6 scope).length=scope.length:=by simp[gx]
def DT{dv q:x4}{x d6:Λ}(B:aM .i64 w dv x)(C:aM .i64 w q d6)(J:aM .i64 w sv scope)(hu:ir d6)(E:∀p∈scope,p∈d6)(P:x.length=d6.length)(Q:scope.length<=1000):
  ak v8 Ko [dv,q,sv] w λv I=>Ext w I/\∃g,w.heap.size<=g/\aB .i64 ai I g v (gx x d6 scope):=by
 refine az func243 ?_;rw[a1 an.u J];refine ku an.u ai.i Ω Ω λgz U R s G=>?_;have H:=aB.of (n:=scope.length) (b2.full G Ξ (by simp[maxLen];omega));generalize (x4.slice (σ ⟨gz,0,ν⟩) scope.length scope.length)=K at*;rw[a1 an.u (J.W s)];have j:=OE x d6 scope;refine bY.range scope.length (λi V=>Ext w V/\aB .i64 ai V gz K (upto (gx x d6 scope) 0 i)) Ω ⟨s,by rw[qi,j];exact H⟩ ?_ ?_
 .rintro i V L hi ⟨a,hm⟩ M;simp only[aT,al];refine⟨λ_=>?_,λh=>Ω⟩;obtain⟨p,ac⟩:=aD (l:=scope) hi;have y:=E p (x7 ac);have S:=List.idxOf_lt_length_of_mem y;rw[bh an.u ai.i Ψ (J.W a) ac];refine(xH (C.W a) hu).Y ?_;rintro _ W _ ⟨rfl,f⟩;have e:iR d6 p=(d6.idxOf p:Int):=ms y;obtain⟨u,z⟩:∃u,x[d6.idxOf p]?=σ u:=⟨_,x8 Ω⟩;have X:(upto (gx x d6 scope) 0 i).length=scope.length:=by rw[pi,j]
  rw[fP (i:=d6.idxOf p) e an.u ai.i Ψ (B.W (a.F f)) z,jf rfl an.u ai.i (hm.W f) Ω];refine jg ai.i (hm.W f) Ω λY N _ A=>?_;simp only[aO];have O:(gx x d6 scope)[i]?=σ u:=by
   unfold gx;rw[u4,ac,Y3,u5,z];rfl
  rw[qk O]at A;exact M _ ⟨(a.F f).then N (by rintro r Z rfl;omega),A⟩
 .rintro V L ⟨a,hm⟩;simp only[aT,al];refine⟨λh=>Ω,λ_=>⟨a,gz,Ω,?_⟩⟩;rw[<-j,qj]at hm;exact hm
def DU(j:t≠[])(hw:∀b∈t,bV b=v2):lex t=([t],v2):=by
 cases t with
 |nil=>exact ro rfl j
 |cons b q=>
  have a:q.dropWhile bV=[]:=by
   have:∀(q:Λ),(∀x∈q,bV x=v2)->q.dropWhile bV=[]/\q.takeWhile bV=q:=λq a=>by
    induction q with
    |nil=>simp
    |cons x q e=>
     have:=e λy f=>a y (.tail _ f);simp[a x (.head _),this.1,this.2]
   exact(this q λx h=>hw x (.tail _ h)).1
  have p:q.takeWhile bV=q:=by
   have:∀(q:Λ),(∀x∈q,bV x=v2)->q.takeWhile bV=q:=λq a=>by
    induction q with
    |nil=>simp
    |cons x q e=>simp[a x (.head _),e λy f=>a y (.tail _ f)]
   exact this q λx h=>hw x (.tail _ h)
  rw[BM (hw b (.head _)),a,p]
def DV{p:x4}(h:aM .u8 w p l)(e:Bytes l)(f:l.length<=100000):ak v8 AC [p] w λv I=>Ext w I/\∃g R,v=Γ g/\w.heap.size<=g/\iK I g R (lex l).1 (lex l).2/\¬R g:=by
 refine(BU h e f).Y ?_;rintro _ U _ ⟨j,g,rfl,q,s,a⟩;obtain⟨h1,z,A,x,bb,hm⟩:=id a;exact⟨j,g,λr=>r≠g,rfl,q,⟨s,l,0,a,λr y=>ch hm x Φ y,by rw[List.drop_zero]⟩,λh=>h rfl⟩
def OF{p:x4}(h:aM .u8 w p t)(x:Bytes t)(y:t.length<=100000)(z:t≠[])(hw:∀b∈t,bV b=v2):ak v8 KA [p] w λv I=>Ext w I/\∃n:Int,v= .tuple #[Δ 1,Δ n,Δ 0]:=by
 have A:=DU z hw;refine az func266 ?_;refine(DV h x y).Y ?_;rintro _ U _ ⟨B,g,R,rfl,G,j,H⟩;rw[A]at j;refine⟨λ_ _ _ a V=>af (λr=>r=g) U V/\((a=Δ 0/\iK V g R [t] v2)\/(a=Δ 1/\iK V g R [] v2)),λ_ _ _ a _=>1-(bZ a).toNat,⟨af.refl _ _,.inl ⟨rfl,j⟩⟩,?_⟩;rintro _ _ _ _ V ⟨q,⟨rfl,e⟩|⟨rfl,e⟩⟩
 .refine (rF e).Y ?_;rintro v C _ ⟨f,E,n,rfl⟩;rw[fQ,fR,fS,bl,al];refine⟨λ_=>?_,λh=>ro rfl h⟩;rw[aO,m1 Ω Ω];exact⟨⟨q.F f,.inr ⟨rfl,E⟩⟩,by simp[bZ]⟩
 .refine (rF e).Y ?_;rintro v C _ ⟨f,n,rfl⟩;rw[fQ,fR,fS,bl,al];refine⟨λh=>by simp at h,λ_=>?_⟩;rw[bl,al];refine⟨λh=>by simp at h,λ_=>?_⟩;have s:=B.then (q.F f) (λr J he=>by have he:r=g:=he;omega);rw[a1 cT.u (h.W s)];exact⟨s,_,rfl⟩
def OG(a:Bytes t)(e:t.length<=100000)(f:t≠[])(hw:∀b∈t,bV b=v2):ak v8 Kd [cf t] w λv I=>v= .bool v2/\Ext w I:=by
 have x:=DU f hw;refine az func228 ?_;refine wW db.u cT.u cO.u a Ω λbv U j y _=>?_;refine(OF y a e f hw).Y ?_;rintro _ V _ ⟨p,n,rfl⟩;rw[fQ,fR,fS];refine wW db.u cT.u cO.u a Ω λJ K q z _=>?_;refine(DV z a e).Y ?_;rintro _ L _ ⟨A,g,R,rfl,M,s,N⟩;rw[x]at s;refine(rF s).Y ?_;rintro _ B _ ⟨C,_,m,rfl⟩;rw[fQ,fR,fS];have E:=(((j.F p).F (q.F A))).then C (λr O he=>by
  have he:r=g:=he;have:=j.size;have:=p.size;have:=q.size;omega)
 refine aY (λv G=>B=G/\v= .bool v2) ?_ ?_
 .rintro _ _ ⟨rfl,rfl⟩;exact⟨rfl,E⟩
 .intro ax H;rw[bl,al];refine⟨λ_=>?_,λh=>ro rfl h⟩;rw[bl,al];refine⟨λ_=>?_,λh=>ro rfl h⟩;rw[BI a a];exact H _ _ ⟨rfl,by rw[rs rfl]⟩
def OH{x:Int}:ak v8 wB [Δ x] w λv I=>v= .bool (decide (¬jC x))/\Ext w I:=by
 refine az func227 ?_;refine aY (λv U=>w=U/\v= .bool (decide (¬jC x))) ?_ ?_
 .rintro _ _ ⟨rfl,rfl⟩;exact⟨rfl,Ext.refl _⟩
 .intro ax e;rw[aT,al];refine⟨λh=>e _ _ ⟨rfl,by rw[rs];intro a;have:=a.1;omega⟩,λh=>?_⟩;rw[bP];refine e _ _ ⟨rfl,?_⟩;congr 1;rw[U6,sp,sp];exact⟨λf a=>by have:=a.2;omega,λf=>by
   by_cases j:32<x
   .exact j
   .exact ro ⟨Ω,Ω⟩ f⟩
def OI(h:aM .i64 w sv l)(f:∀x∈l,jC x):
  ak v8 wA [sv,.func (.func wB) #[] #[]] w λv I=>v= .bool v6/\Ext w I:=by
 refine az func225 ?_;refine ak.Y (K:=λv I=>v=Δ (-1)/\Ext w I) ?_ ?_
 .refine az func139 ?_;rw[a1 an.u h];refine b7.range l.length (λ_ _ U=>Ext w U) h.le (Ext.refl _) ?_ ?_
  .rintro i _ U k hi a hk;refine bC Ω ?_;obtain⟨x,e⟩:=aD (l:=l) hi;rw[bh an.u ai.i Ψ (h.W a) e];show ak v8 wB [Δ x] U _;refine OH.Y ?_;rintro _ V _ ⟨rfl,j⟩;rw[al];refine⟨λp=>ro (f x (x7 e)) p,λ_=>?_⟩;rw[aO];exact hk _ _ (a.F j)
  .rintro _ U k a;rw[aT,al];exact⟨λh=>Ω,λ_=>⟨rfl,a⟩⟩
 .rintro _ U _ ⟨rfl,a⟩;rw[cP];exact⟨rfl,a⟩
def uE{m:Bool}{S R:ah}{d:iq}(h:ao.rep m S R w cs d):∃sv g a aV gs,cs=[sv,Γ g]/\aM .i64 w sv d.1/\gw w g a aV gs d.2.aj d.2.k d.2.o d.2.D:=by
 obtain⟨c,e,A,B,rfl,_,_,_,h1,f⟩:=h;have h1:=h1;obtain⟨u,rfl⟩:=V6.1 (show c.length=1 from ao.len h1);obtain⟨g,m,sv,gs,rfl,j,_⟩:=f;exact⟨u,g,m,sv,gs,rfl,dl h1,j⟩
def OJ{X:Nat}{f:ce}{d:iq}{x:cE}{m:Bool}{S R:ah}(am:mB w X f)(ap:fq N f)(au:x∈f.d9)(av:r0 f.k x d)(aw:ao.rep m S R w cs d):
  ak v8 KB [Γ X,.agg cs.toArray] w λv I=>v= .bool v2/\Ext w I:=by
 obtain⟨lc,aM,gz,aN,Y,Z,_,_⟩:=am;obtain⟨sv,ae,aP,aV,gs,rfl,s,K⟩:=uE aw;obtain⟨ay,aa,aA,aQ,aR,aS⟩:=av;obtain⟨G,aU,aW⟩:=ap.d9 x au;rw[ay]at s;refine az func268 ?_;refine bn λaq U aX A H=>?_;have H:ag U aq cN [sv,Γ ae]:=by obtain⟨_,_,_,rfl⟩:=c5 s;exact H
 refine aY (λv V=>Ext U V/\v= .bool v6) ?_ ?_
 rotate_left
 .intro ax L;intro V q _ _;have z:=H.W q;rw[aJ cN.p 1 z rfl,di e4.u];simp only[Y0,a7];rw[aJ cN.p 1 z rfl,aL cI.p 1 (Y.W (A.F q)) rfl];refine(MU (K.W (A.F q)).is).Y ?_;rintro _ B _ ⟨rfl,a⟩;refine⟨.inl a,?_⟩;rw[bK,al];refine⟨λh=>ro aA h,λ_=>?_⟩;have C:=z.W a;have M:=q.F a;rw[aJ cN.p 1 C rfl,aJ cN.p 0 C rfl,a1 an.u (s.W (A.F M))];refine(MV (K.W (A.F M)).is).Y ?_;rintro _ J _ ⟨rfl,e⟩;refine⟨.inl e,?_⟩;rw[bK];refine L _ _ ⟨M.F e,?_⟩;rw[s2];intro h;exact h (by rw[aa,G.co,r8])
 rintro _ V ⟨q,rfl⟩;rw[a7];have z:=H.W q;have O:=A.F q;rw[aJ cN.p 0 z rfl,a1 an.u (s.W O)];refine b7.range x.scope.length (λ_ _ B=>Ext V B) Ω (Ext.refl _) ?_ ?_
 rotate_left
 .rintro _ B k a;rw[aT,al];exact⟨λh=>Ω,λ_=>⟨rfl,O.F a⟩⟩
 rintro i _ B k hi a hk;obtain⟨v,E⟩:=aD (l:=x.scope) hi;have aZ:=G.scope.2 v (x7 E);have P:=O.F a;have C:=z.W a;have ab:=Y.W P;have aB:f.co[v.toNat]?=σ (f.co.getD v.toNat 0):=by
  rw[u5,x8 Ω];rfl
 refine bC Ω ?_;rw[bh an.u ai.i Ψ (s.W P) E];refine aY (λb J=>Ext B J/\b= .bool v6) ?_ ?_
 .rintro _ J ⟨e,rfl⟩;rw[a7,aO];exact hk _ _ (a.F e)
 .intro ax L;intro J e _ _;have Q:=P.F e;refine b3 Ω ?_;rw[aL cI.p 2 (ab.W e) rfl,a1 an.u (Z.ls.W Q),cP,al];refine⟨λh=>Ω,λ_=>?_⟩;rw[aJ cN.p 0 (C.W e) rfl];refine(DO (s.W Q)).Y ?_;rintro _ a2 _ ⟨ac,r,rfl,aC⟩;have aE:r=(i:Int):=(aC i E).2 λj a6 aG=>by have:=lO G.scope.1 aG E;omega
  subst aE;have ad:=Q.F ac;have W:=e.F ac;rw[bK,al];refine⟨λh=>ro rfl h,λ_=>?_⟩;rw[aJ cN.p 1 (C.W W) rfl,aL cI.p 2 (ab.W W) rfl];refine rv (y:=v) (i:=v.toNat) Ω an.u ai.i (Z.ls.W ad) aB λb o aH=>?_;rw[aF Ψ aH];refine(xk (K.W ad).is).Y ?_;rintro a8 ba _ ⟨af,bb,bc,aI⟩;refine⟨.inl af,?_⟩;have aK:d.2.aj[i]?=σ (f.co.getD v.toNat 0):=by
   rw[aa,G.co,u4,E];rfl
  rw[bh an.u ai.i Ψ aI.ls aK,bK];exact L _ _ ⟨W.F af,by rw[s2 (λh=>h rfl)]⟩
def OK{f:ce}{d:iq}{x:cE}{m:Bool}{S R:ah}(q:mB w j f)(r:fq N f)(s:x∈f.d9)(y:r0 f.k x d)(a:ao.rep m S R w cs d):
  ak v8 wC [Γ j,.agg cs.toArray] w λv I=>v= .bool v6/\Ext w I:=by
 refine az func231 ?_;refine bn λaq U C e h=>?_;have z:cs.length=2:=ao.len a;have h:ag U aq cN cs:=by
  obtain⟨sv,ae,E,aV,gs,rfl,A,G⟩:=uE a;obtain⟨_,_,_,rfl⟩:=c5 A;exact h
 rw[bz cN.p cN.i z h.range];refine(OJ (q.W e) r s y (bp a e)).Y ?_;rintro _ V _ ⟨rfl,B⟩;rw[bL];exact⟨rfl,e.F B⟩
def OL{f:ce}{r:x4}{e:List iq}{m:Bool}{S R:ah}(A:mB w j f)(B:fq N f)(q:ao.rep m S R w [r] e)(s:uC f.k f.d9 e):
  ak v8 Kf [r,.func (.func wC) #[Γ j] #[]] w λv I=>v= .bool v6/\Ext w I:=by
 refine az func230 ?_;refine ak.Y (K:=λv I=>v=Δ (-1)/\Ext w I) ?_ ?_
 .refine az func267 ?_;rw[fU dS.u q];refine b7.range e.length (λ_ _ U=>Ext w U) (nX q) (Ext.refl _) ?_ ?_
  .rintro i _ U k hi a hk;refine bC Ω ?_;obtain⟨d,y⟩:=aD (l:=e) hi;obtain⟨x,z⟩:∃x,f.d9[i]?=σ x:=⟨_,x8 (by have:=s.1;omega)⟩;refine mi (α:=iq) cN.p rfl dS.u cN.i (bp q a) y λcs C=>?_;show ak v8 wC [Γ j,.agg cs.toArray] U _;refine(OK (A.W a) B (x7 z) (s.2 i x d z y) C).Y ?_;rintro _ V _ ⟨rfl,E⟩;rw[a7,aO];exact hk _ _ (a.F E)
  .rintro _ U k a;rw[aT,al];exact⟨λh=>Ω,λ_=>⟨rfl,a⟩⟩
 .rintro _ U _ ⟨rfl,a⟩;rw[cP];exact⟨rfl,a⟩
def nz(a:List cE):Nat:=(a.map λx=>x.lines.length).sum
def OM{af:Nat}{f:ce}(ag:mB w af f)(r:fq N f)(be:N<=60000)(W:f.name≠[]/\∀b∈f.name,bV b=v2):
  ak v8 JI [Γ af] w λv I=>Ext w I/\∃e:Int,v=Δ e/\(nz f.d9<=16384->e=0):=by
 obtain⟨lc,bf,gz,y,A,X,Y,B⟩:=id ag;have bg:=r.name;have aE:Bytes f.name:=λb aF=>by
  have:=ty (W.2 b aF);omega
 refine az func182 ?_;rw[di wE.u];simp only[Y0,a7];refine aY (λv U=>Ext w U/\v= .bool v6) ?_ ?_
 rotate_left
 .intro ax s;rw[aL cI.p 0 A rfl];refine(OG aE Ω W.1 W.2).Y ?_;rintro _ U _ ⟨rfl,q⟩;rw[bL,X3,a7];rw[aL cI.p 2 (A.W q) rfl,a1 an.u (X.ls.W q),bl,al];refine⟨λh=>by have:=r.co.1;omega,λ_=>?_⟩;rw[aL cI.p 2 (A.W q) rfl];refine(OI (X.ls.W q) r.co.2.2).Y ?_;rintro _ V _ ⟨rfl,C⟩;have ah:=q.F C;rw[a7,aL cI.p 1 (A.W ah) rfl];refine Bm.Y ?_;rintro _ E _ ⟨rfl,G⟩;have M:=ah.F G;rw[rs (show right f.k from r.k),bL,X3,a7,aL cI.p 3 (A.W M) rfl,mg];refine(OL (ag.W M) r (bp Y M) B).Y ?_;rintro _ am _ ⟨rfl,aG⟩;exact s _ _ ⟨M.F aG,rfl⟩
 rintro _ U ⟨q,rfl⟩;rw[a7];have O:=A.W q;refine aY (λv V=>U=V/\v= .bool v6) ?_ ?_
 rotate_left
 .intro ax s;rw[aL cI.p 0 O rfl,pf db.u,bP,al];refine⟨λh=>Ω,λ_=>?_⟩;rw[aL cI.p 2 O rfl,a1 an.u (X.ls.W q),bP,al];refine⟨λh=>by have:=r.co.2.1;omega,λ_=>?_⟩;rw[aL cI.p 3 O rfl,fU dS.u (bp Y q),bP];exact s _ _ ⟨rfl,by rw[s2];have:=r.mr;have:=B.1;omega⟩
 rintro _ _ ⟨rfl,rfl⟩;have ao:=bp Y q;rw[aL cI.p 3 O rfl,fU dS.u ao];refine⟨λaH aI Z V=>∃i n:Nat,Z=Δ (i:Int)/\i<=y.length/\aH=Δ (n:Int)/\aI= .bool v6/\Ext U V/\n<=nz (f.d9.take i)/\n<=i*60000,λ_ _ Z _=>y.length-(bZ Z).toNat,
  ⟨0,0,rfl,W0 _,rfl,rfl,Ext.refl _,W0 _,Ω⟩,?_⟩
 rintro _ _ _ V ⟨i,n,rfl,hi,rfl,rfl,C,aK,bi⟩;have bj:y.length<=256:=by rw[B.1];exact r.mr
 rw[aT,al];refine⟨λap=>?_,λbk=>?_⟩
 .have ap:i<y.length:=Ω
  obtain⟨d,au⟩:=aD (l:=y) ap;obtain⟨x,aa⟩:∃x,f.d9[i]?=σ x:=⟨_,x8 (by have:=B.1;omega)⟩;have P:=B.2 i x d aa au;obtain⟨Q,aM,aN⟩:=r.d9 x (x7 aa);have bm:=Q.len;refine i9 (λa b E=>Ext V E/\a=Δ ((n+d.2.D.length:Nat):Int)/\b= .bool v6) ?_ ?_
  .rintro _ _ E ⟨G,rfl,rfl⟩;rw[aO,m1 Ω Ω];have aP:=P.2.2.2.2.1;refine⟨⟨i+1,n+d.2.D.length,rfl,Ω,rfl,rfl,C.F G,?_,?_⟩,by simp only[bZ];omega⟩
   .have e:nz (f.d9.take (i+1))=nz (f.d9.take i)+x.lines.length:=by
     unfold nz;rw[r9,aa,j6,Z4,List.sum_append,T3,List.map_nil,R6,List.sum_nil,Nat.add_zero]
    omega
   .have:(i+1)*60000=i*60000+60000:=Ω
    have bn:d.2.D.length<=60000:=Ω
    omega
  .intro ax s;refine mi (α:=iq) cN.p rfl dS.u cN.i (bp ao C) au λcs aQ=>?_;obtain⟨sv,ae,bo,aV,gs,rfl,aR,ay⟩:=uE aQ;refine bE cN.i λaq E bq G aS=>?_;refine b1 (vs:=[sv,Γ ae]) cN.i rfl rfl (by intro v R;simp at R;rcases R with rfl|rfl<;>first|exact aR.cells.2|rfl) aS λam aU br aA=>?_;have ab:Ext V am:=G.put aU Ω;rw[aJ cN.p 1 aA rfl];refine(MT (ay.W ab).is).Y ?_;rintro _ bs _ ⟨rfl,ac⟩;have aP:=P.2.2.2.2.1;rw[aO,m1 Ω Ω,aJ cN.p 1 (aA.W ac) rfl];refine(xk ((ay.W ab).W ac).is).Y ?_;rintro bt ad _ ⟨aW,bu,bw,aC⟩;rw[a1 an.u aC.ls];have bx:d.2.aj.length<=6:=by rw[P.2.1,Q.co,r8];exact aM
   refine b7.range d.2.aj.length (λj out S=>Ext ad S/\∃gr,ad.heap.size<=gr/\aB .i64 av S gr out (d.2.aj.take j)) Ω ⟨Ext.refl _,ad.heap.size,o4 _,aB.nil _ _ _ _⟩ ?_ ?_
   .rintro j out S k aX ⟨H,gr,aZ,J⟩ hk;obtain⟨z,K⟩:=aD (l:=d.2.aj) aX;refine bC Ω ?_;rw[bh an.u ai.i Ψ (aC.ls.W H) K];refine eU aw.u av.i rfl λa ga a2 bz L a6=>?_;refine kt aw.u av.i rfl (J.W L) a6.ls Θ Θ λbA a8 bB bD ba bb=>?_;have bF:=H.size;have bG:=L.size;rw[aO];refine hk _ _ ⟨(H.F L).put bb Ω,a8,Ω,?_⟩;rw[r9,K];exact ba
   .rintro out S k ⟨H,gr,aZ,J⟩;rw[o9]at J;refine b3 Ω ?_;rw[a7];have bc:d.2.aj=x.co:=P.2.1;rw[bc]at J;refine(CC J.ls λz K=>?_).Y ?_
    .rw[Q.co]at K;obtain⟨v,R,rfl⟩:=j5.1 K;have bH:=Q.scope.2 v R;refine(r.co.2.2 _ ?_).1;rw[u5,x8 Ω];exact P6 _
    .rintro _ a2 _ ⟨rfl,L⟩;refine s _ _ _ ⟨(((ab.F ac).F aW).F H).F L,by congr 1,by rw[aN]⟩
 .have bd:i=y.length:=Ω
  subst bd;rw[B.1,o9]at aK;refine aY (λv E=>V=E/\v= .bool (decide (16384<(n:Int)))) ?_ ?_
  .rintro _ _ ⟨rfl,rfl⟩;rw[al];refine⟨λh=>⟨q.F C,5,rfl,λbI=>Ω⟩,λh=>⟨q.F C,0,rfl,λ_=>rfl⟩⟩
  .intro ax s;rw[a7,bP];exact s _ _ ⟨rfl,rfl⟩
theorem uF:∀{a b:Λ}{i:Nat},(∀(j:Nat)(x y:Int),j<i->a[j]?=σ x->b[j]?=σ y->x=y)->i<=a.length->i<=b.length->jK a b=jK (a.drop i) (b.drop i)
 |_,_,0,_,_,_=>Ξ
 |[],_,i+1,_,h,_=>by simp at h
 |_::_,[],i+1,_,_,h=>by simp at h
 |x::a,y::b,i+1,he,h1,e=>by
  have f:=he 0 x y Ω rfl rfl;subst f;simp only[jK,Int.lt_irrefl,if_false,List.drop_succ_cons];exact uF (λj u v q hu p=>he (j+1) u v Ω hu p) (by simpa using h1) (by simpa using e)
def DW{x:Int}:ak v8 cmp_isNaN_int [Δ x] w λv I=>v= .bool v6/\Ext w I:=by
 refine az func247 ?_;simp only[bK];exact⟨Ξ,Ext.refl _⟩
def DX{x:Int}:ak v8 JP [Δ x,Δ y] w λv I=>v=Δ (if x<y then-1 else if y<x then 1 else 0)/\Ext w I:=by
 refine az func195 ?_;refine DW.Y ?_;rintro _ U _ ⟨rfl,a⟩;refine DW.Y ?_;rintro _ V _ ⟨rfl,e⟩;simp only[a7,aT,bP,al];exact⟨λh=>⟨by rw[ms h],a.F e⟩,λh=>⟨λf=>⟨by rw[rc h,ms f],a.F e⟩,λf=>⟨by rw[rc h,rc f],a.F e⟩⟩⟩
def ON{a b:Λ}(r:aM .i64 w bj a)(z:aM .i64 w bv b):ak v8 JQ [bj,bv] w λv I=>v=Δ (jK a b)/\Ext w I:=by
 refine az func196 ?_;have aa:=r.le;rw[a1 an.u r];refine⟨λ_ A U=>∃i:Nat,A=Δ (i:Int)/\i<=a.length/\i<=b.length/\Ext w U/\∀(j:Nat)(x y:Int),j<i->a[j]?=σ x->b[j]?=σ y->x=y,λ_ A _=>a.length-(bZ A).toNat,⟨0,rfl,W0 _,W0 _,Ext.refl _,λj x y O=>Ω⟩,?_⟩;rintro _ _ U ⟨i,rfl,P,Q,f,J⟩;have p:=uF J P Q;simp only[aT,al];refine⟨λs=>?_,λab=>?_⟩
 .have s:i<a.length:=Ω
  obtain⟨x,B⟩:=aD (l:=a) s;have K:a.drop i=x::a.drop (i+1):=by rw[W3 s,(x5.1 B).2]
  rw[bh an.u ai.i Ψ (r.W f) B,a1 an.u (z.W f)];simp only[cP,al];refine⟨λh=>?_,λh=>?_⟩
  .have:b.drop i=[]:=by rw[List.drop_eq_nil_iff];omega
   rw[this,K]at p;exact⟨by rw[p];rfl,f⟩
  have C:i<b.length:=Ω
  obtain⟨y,E⟩:=aD (l:=b) C;have R:b.drop i=y::b.drop (i+1):=by rw[W3 C,(x5.1 E).2]
  rw[bh an.u ai.i Ψ (z.W f) E];refine DX.Y ?_;rintro _ V _ ⟨rfl,L⟩;rw[K,R]at p;simp only[jK]at p;simp only[bK,al,aO];refine⟨λM=>⟨?_,f.F L⟩,λS=>?_⟩
  .rw[p];by_cases h1:x<y
   .rw[ms h1,ms h1]
   .by_cases q:y<x
    .rw[rc h1,ms q,rc h1,ms q]
    .rw[rc h1,rc q]at M;exact ro rfl M
  .rw[m1 Ω Ω];refine⟨⟨i+1,rfl,s,C,f.F L,λj W X O G H=>?_⟩,by simp only[bZ];omega⟩;by_cases Y:j=i
   .subst Y;rw[B]at G;rw[E]at H;cases G;cases H;have N:=X5.1 S;by_cases h1:x<y
    .rw[ms h1]at N;omega
    .by_cases q:y<x
     .rw[rc h1,ms q]at N;omega
     .omega
   .exact J j W X Ω G H
 .have Z:i=a.length:=Ω
  subst Z;rw[List.drop_length]at p;rw[a1 an.u (r.W f),a1 an.u (z.W f)];simp only[aT,al];refine⟨λh=>⟨?_,f⟩,λh=>⟨?_,f⟩⟩
  .obtain⟨y,l,e⟩:∃y l,b.drop a.length=y::l:=⟨_,_,W3 Ω⟩;rw[p,e];rfl
  .have:b.drop a.length=[]:=by rw[List.drop_eq_nil_iff];omega
   rw[p,this];rfl
def OO{x:Int}{f:x4}(h:aM .i64 w f [x,y]):ak v8 JO [f] w λv I=>v=Δ (if x≠0 then x else y)/\Ext w I:=by
 refine az func194 ?_;rw[a1 an.u h];refine b7.range 2 (λi _ U=>Ext w U/\(1<=i->x=0)/\(2<=i->y=0)) Ω ⟨Ext.refl _,Ω,Ω⟩ ?_ ?_
 .rintro i _ U k hi ⟨a,h1,e⟩ hk;rw[aT,al];refine⟨λ_=>?_,λh=>by simp at h;omega⟩
  match i,hi,h1,e,hk with
  |0,_,h1,e,hk=>
   rw[bh an.u ai.i Ψ (h.W a) rfl,bK,al];refine⟨λj=>⟨by rw[ms j],a⟩,λhe=>?_⟩;rw[aO];exact hk _ _ ⟨a,λ_=>X5.1 he,λh=>Ω⟩
  |1,_,h1,e,hk=>
   rw[bh an.u ai.i Ψ (h.W a) rfl,bK,al];have p:=h1 (o4 _);refine⟨λj=>⟨by rw[rc Ω],a⟩,λhe=>?_⟩;rw[aO];exact hk _ _ ⟨a,λ_=>p,λ_=>X5.1 he⟩
 .rintro _ U k ⟨a,h1,e⟩;have p:=h1 Ω;have q:=e Ω;rw[aT,al];exact⟨λh=>by simp at h,λ_=>⟨by rw[rc Ω,q],a⟩⟩
structure cz where
 sv:x4
 g:Nat
 sc:Λ
 cs:Λ
def e7(h:cz):List x4:=[h.sv,Γ h.g]
abbrev ld(h:cz):x4:=.agg (e7 h).toArray
def r2(h:cz):Int:=dn h.sc
def ka(w:x6)(a:Nat)(h:cz):Prop:=(∃e,aB .i64 ai w e h.sv h.sc)/\(∀r,lw h.sv r->r≠a)/\la h.sc
def ka.aa{h:cz}(au:ka w a h)(e:af S w I)(f:∀r,lw h.sv r->¬S r):ka I a h:=by
 obtain⟨⟨j,hm⟩,p⟩:=au;exact⟨⟨j,bw hm e f⟩,p⟩
def ka.one{h:cz}(au:ka w a h):∀u∈e7 h,u.oneCell'=v2:=by
 obtain⟨⟨e,hm⟩,_⟩:=au;intro u hu;simp[e7]at hu;rcases hu with rfl|rfl
 .exact hm.ls.cells.2
 .rfl
def fj(w:x6)(g:Nat)(v:x4)(L:List cz):Prop:=bk e7 2 c3 w g v L/\∀h∈L,ka w g h
def fj.W{g:Nat}{L:List cz}(h:fj w g v L)(a:Ext w I):fj I g v L:=⟨h.1.W a,λx e=>(h.2 x e).aa (a.aa λ_=>False) λ_ _ h=>h⟩
def fj.at{g:Nat}{L:List cz}(h:fj w g v L){i:Nat}{x:cz}(hi:L[i]?=σ x):ka w g x:=h.2 x (x7 hi)
def uG{g:Nat}{L:List cz}{i:Nat}{x:cz}{K:x4->Prop}(a:y=(i:Int))(h:fj w g v L)(hi:L[i]?=σ x):
  ab v8 (b8 gJ v (Δ y)) w (λp=>ab v8 (u6 c3 p) w K)=K (ld x):=by
 rw[ck a gJ.u c3.i h.1 (x5.1 hi).1,bz c3.p c3.i rfl (h.1.range hi)]
def OP{g:Nat}{L:List cz}{i:Nat}{x:cz}{K:Unit->x6->Prop}(j:y=(i:Int))(h:fj w g v L)(hi:i<L.length)(hk:ka w g x)(q:∀I,af (λr=>lm v r) w I->fj I g v (L.set i x)->K () I):ab v8 (b8 gJ v (Δ y)) w λp=>aG v8 (j0 c3 p (ld x)) w K:=by
 rw[ck j gJ.u c3.i h.1 hi];refine xm c3.i h.1 rfl hk.one hi λI e _ aW=>q I e ⟨aW,λz a=>?_⟩;rcases W8 a with a|rfl
 .exact (h.2 z a).aa e λr f he=>(h.2 z a).2.1 r f (h.1.lw he).1
 .exact hk.aa e λr f he=>hk.2.1 r f (h.1.lw he).1
abbrev OQ:x4:=.func (.func AP) #[] #[]
def xI(a b:cz):Int:=let c:Int:=if(a.sc.length:Int)<b.sc.length then-1 else if(b.sc.length:Int)<a.sc.length then 1 else 0
 if c≠0 then c else jK a.sc b.sc
def OR{a b:cz}(f:la a.sc)(j:la b.sc):xI a b<0↔r2 a<r2 b:=by
 have p:=(xy f j).1;unfold r2 xI;simp only;generalize q:(if(a.sc.length:Int)<b.sc.length then(-1:Int)else if(b.sc.length:Int)<a.sc.length then 1 else 0)=c;rw[p,<-q];by_cases h1:(a.sc.length:Int)<b.sc.length
 .rw[ms h1,ms Ω];exact⟨λ_=>.inl Ω,λ_=>Ω⟩
 .by_cases e:(b.sc.length:Int)<a.sc.length
  .rw[rc h1,ms e,ms Ω];exact⟨λh=>Ω,λh=>by rcases h with h|h<;>omega⟩
  .rw[rc h1,rc e,rc Ω];exact⟨λh=>.inr ⟨Ω,h⟩,λh=>by rcases h with h|h;omega;exact h.2⟩
def OS{y:Nat}{a b:cz}(A:ka w y a)(B:ka w y b):ak v8 AP [ld a,ld b] w λv I=>Ext w I/\v=Δ (xI a b):=by
 obtain⟨⟨ga,r⟩,_,L⟩:=A;obtain⟨⟨M,s⟩,_,N⟩:=B;refine az func193 ?_;refine bn λg1 U O C h=>?_;refine bn λE V P z j=>?_;have h:ag U g1 c3 [a.sv,Γ a.g]:=by
  obtain⟨_,_,_,e⟩:=c5 r.ls;simp only[ld,e7,e]at h ⊢;exact h
 have j:ag V E c3 [b.sv,Γ b.g]:=by
  obtain⟨_,_,_,e⟩:=c5 s.ls;simp only[ld,e7,e]at j ⊢;exact j
 intro Q x _ _;have f:=(C.F z).F x;have f1:=(h.W z).W x;have f2:=j.W x;rw[aJ c3.p 0 f1 rfl,a1 an.u (r.ls.W f),aJ c3.p 0 f2 rfl,a1 an.u (s.ls.W f),
  aJ c3.p 0 f1 rfl,aJ c3.p 0 f2 rfl]
 refine DX.Y ?_;rintro _ R _ ⟨rfl,q⟩;refine⟨.inl q,?_⟩;refine(ON ((r.ls.W f).W q) ((s.ls.W f).W q)).Y ?_;rintro _ S _ ⟨rfl,G⟩;refine BA (l:=[if(a.sc.length:Int)<b.sc.length then(-1:Int)else if(b.sc.length:Int)<a.sc.length then 1 else 0,jK a.sc b.sc]) an.u ai.i Ω rfl Ψ λW X Y Z H J=>?_;refine(OO J.ls).Y ?_;rintro _ aa _ ⟨rfl,K⟩;exact⟨((((f.F q).F G).F H).F K),rfl⟩
def OT{g:Nat}{L:List cz}(h:fj w g v L)(C:L.length<65536):
  ak v8 JN [v,OQ] w λ_ I=>af (λr=>lm v r) w I/\∃M,M.Perm L/\ul r2 M 0 M.length/\fj I g v M:=by
 have j:∀{s:x6}{a:cz},af (λr=>r=g) w s->ka w g a->ka s g a:=λf e=>e.aa f λr z he=>e.2.1 r z he;refine(C2 M5 (G:=ka w g) (num:=r2) M9 Na (λa e=>e.one) (λa _=>rfl) (λa b e A=>OR e.2.2 A.2.2) (Enters.of v8 Nb rfl Ψ) h.1 h.2 C λs a b f e A=>OS (j f e) (j f A)).Y ?_;rintro _ I _ ⟨f,M,ac,hu,hm⟩;have E:af (λr=>r=g) w I:=f.Y λr _ z=>(h.1.lw z).1;exact⟨f,M,ac,λp q x y _ H _ B J=>hu p q x y H B J,hm,λx B=>j E (h.2 x (ac.mem_iff.1 B))⟩
def OU{m:Λ}(f:ny l)(j:l.Nodup)(ac:m.Perm l)(J:m.Pairwise (·<= ·)):m=bx l:=by
 refine xz ?_ (xx l) λx=>?_
 .have p:=ac.nodup_iff.2 j;exact(List.Pairwise.and J p).imp λ{a b}h=>by
   obtain⟨h1,e⟩:=h;have e:=e;omega
 .rw[ac.mem_iff,rX f]
def OV(h:∀z∈l,1<=z/\z<=32)(a:dB l=v6):aQ l<=4096:=by
 have:=of_decide_eq_false a;rw[xB h]at this;omega
def OW{f:ce}{d:iq}{x:cE}{m:Bool}{S R:ah}(h:fq N f)(bj:N<=60000)(Q:x∈f.d9)(aA:r0 f.k x d)(aC:ao.rep m S R w cs d):
  ak v8 JJ [.agg cs.toArray] w λv I=>Ext w I/\∃sv gs E W X,v= .tuple #[sv,Γ E]/\w.heap.size<=gs/\aB .i64 ai I gs sv (bx x.scope)/\dm I E W X (bN f.co (bx x.scope)) f.k (jG f.co f.k x).2:=by
 obtain⟨sv,ae,bk,aV,bl,rfl,G,aE⟩:=uE aC;obtain⟨aF,aG,aH,bm,bo,aI⟩:=aA;obtain⟨a,aK,aL⟩:=h.d9 x Q;have ad:=uu a h.co.2.1;have bp:=a.len;rw[aF]at G;have aM:∀z∈x.co,1<=z/\z<=32:=λz aj=>by
  rw[a.co]at aj;obtain⟨v,aN,rfl⟩:=j5.1 aj;have br:=a.scope.2 v aN;refine h.co.2.2 _ ?_;rw[u5,x8 Ω];exact P6 _
 have aP:=OV aM aL;have Y:=ut ad a.scope.1;have bs:(bx x.scope).length<=6:=by rw[Y.length_eq];exact aK
 refine az func183 ?_;refine bn λaq U bt al y=>?_;have y:ag U aq cN [sv,Γ ae]:=by obtain⟨_,_,_,rfl⟩:=c5 G;exact y
 rw[aJ cN.p 1 y rfl];refine(DI (aE.W al).is Ω).Y ?_;rintro _ V _ ⟨Z,_,A⟩;rw[aG]at A;obtain⟨g,bu,bw,aQ,rfl,bz,bD,A,am⟩:=A aP;rw[aH]at A;rw[bA,bB,aJ cN.p 0 (y.W Z) rfl];have B:=al.F Z;refine xE (G.W B) Ω λv bE gs bF H bG ac J K=>?_;have aR:=OU ad a.scope.1 ac J;subst aR;have bH:=B.size;rw[a1 an.u K.ls];refine ku an.u ai.i Ω Ω λgo aS bI L ap=>?_;have aT:=aB.of (b2.full (n:=(bx x.scope).length) ap Ξ (by simp[maxLen];omega));rw[a1 an.u (K.ls.W L)];have bJ:=ap.lt;have M:(gv x.scope (bx x.scope)).length=(bx x.scope).length:=by simp[gv]
 have aU:=H.F L;have bK:=B.F aU;refine bY.range (bx x.scope).length (λi O=>af (λr=>r=go) aS O/\aB .i64 ai O go (.slice (σ ⟨go,0,ν⟩) (bx x.scope).length (bx x.scope).length) ((gv x.scope (bx x.scope)).take i++o6 ((bx x.scope).length-i) 0)) Ω ⟨af.refl _ _,by simpa using aT⟩ ?_ ?_
 .rintro i O k hi ⟨P,C⟩ hk;obtain⟨v,ab⟩:=aD (l:=(bx x.scope)) hi;have q:=L.put P Ω;have aW:=(B.F H).F q;have aX:v∈x.scope:=Y.mem_iff.1 (x7 ab);refine bC Ω ?_;rw[bh an.u ai.i Ψ (K.ls.W q) ab];have aY:=(Z.F H).F q;rw[aJ cN.p 0 (y.W aY) rfl];refine(DO (G.W aW)).Y ?_;rintro _ aZ _ ⟨s,r,rfl,a2⟩;have au:=qA aX;have a6:=(a2 _ au).2 λj bL a7=>by have:=lO a.scope.1 a7 au;omega
  rw[jf rfl an.u ai.i (C.W s) (by simp[M];omega)];refine jg ai.i (C.W s) (by simp[M];omega) λbM a8 bO av=>?_;rw[aO];refine hk _ ⟨(P.F (s.aa _)).F a8,?_⟩;have ba:(gv x.scope (bx x.scope))[i]?=σ r:=by rw[a6];exact DC ab
  have e:((gv x.scope (bx x.scope)).take i++o6 ((bx x.scope).length-i) 0).set i r=(gv x.scope (bx x.scope)).take (i+1)++o6 ((bx x.scope).length-(i+1)) 0:=by
   have bb:((gv x.scope (bx x.scope)).take i).length=i:=by rw[o8,M];omega
   rw[T4 _ _ Ω,bb,V0,show(bx x.scope).length-i=((bx x.scope).length-(i+1))+1 by omega,List.replicate_succ,List.set_cons_zero,r9,ba,j6,T6];rfl
  rw[e]at av;exact av
 .rintro O k ⟨P,C⟩;have q:=L.put P Ω;have aw:=H.F q;refine b3 Ω ?_;rw[V0,List.replicate_zero,U2,b9 Ω]at C;have bc:∀t,dx x.co t->bq x.co aQ t=k4 x f.k t:=λt bd=>by rw[am.2 t bd];exact aI t
  obtain⟨ax,be⟩:=NU h Q am.1 bc;have bf:Good (gv x.scope (bx x.scope)) x.co.length:=by
   rw[a.co,r8];exact ux a.scope.1 Y
  have bg:=(qz h Q);refine(OB (A.W aw) h.k C.ls (by rw[M];omega) λ_=>?_).Y ?_
  .rw[ax];exact bg.small
  .rintro _ aZ _ ⟨s,_,bi⟩;obtain⟨E,W,X,rfl,ay⟩:=bi bf;rw[bA,bB];rw[ax,be]at ay;exact⟨(B.F aw).F s,v,gs,E,W,X,rfl,Ω,(K.W q).W s,ay⟩
def OX{P:V5}{t x f:o5}{k y g o cap:Nat}{z:x4}(h:P.underlying t=σ (.slice e))(hi:aR P e k y z)(A:z.cells.size=k)(h1:∀u∈dZ z.cells (n*k),u.oneCell'=v2)(a:ag w g f cs)(H:o+n*k<=cs.length)(p:∀I,af (λr=>r=g) w I->ag I g f (over cs o (dZ z.cells (n*k)))->K (.tuple #[]) I):aG P (Y4.clear_ #[t] x #[.slice (σ ⟨g,o,ν⟩) n cap]) w K:=by
 obtain⟨i,hi,J,rfl,B⟩:=hi;have C:∀w,(zeroValue e).run P w= .ok z w:=λw=>by simp[zeroValue,typeInfo,hi,B]
 have E:(Y4.zeroCells z.cells n).toList=dZ z.cells (n*k):=by
  unfold Y4.zeroCells dZ;rw[A]
 have q:=run_storeCells_cells (P:=P) g o (dZ z.cells (n*k)) 0 w (λj F=>by
   rw[qa]at F;rw[Nat.add_zero,a.cell (x8 (show o+j<cs.length by omega))];rfl) (λj _=>a.frozen _ _) h1
 simp only[Nat.add_zero]at q;obtain⟨G,s⟩:=o2 (dZ z.cells (n*k)) cs o w a;rcases Q9 n with rfl|L
 .refine .of (by simp[Y4.clear_,run_underlying h]) (cQ.refl _) (p w (af.refl _ _) ?_);rw[Nat.zero_mul,Z2 (qa z.cells 0)];exact a
 .obtain⟨m,rfl⟩:∃m,n=m+1:=⟨n-1,Ω⟩;refine .of (by simp[Y4.clear_,run_underlying h,C,E,q]) (s.cA a) (p _ s.aa G)
def dU{α:Type}{f:α->List x4}{k:Nat}{g:Nat}{L:List α}(h:bk f k e w g v L)(j:lm v r):r=g/\∃cs,ag w g e cs:=by
 obtain⟨_,⟨rfl,_⟩|⟨cap,cs,rfl,p,_⟩⟩:=h.1
 .exact (fi j).elim
 .obtain⟨a,n,c,h1,q⟩:=j;cases h1;exact⟨q.symm,cs,p⟩
def OY{α:Type}{f:α->List x4}{k:Nat}{g:Nat}{L:List α}(h:bk f k e w g v L)(a:L≠[]):∃cs n c,v= .slice (σ ⟨g,0,ν⟩) n c/\ag w g e cs:=by
 obtain⟨_,⟨rfl,j⟩|⟨cap,cs,rfl,p,_⟩⟩:=h.1
 .exact ro (Z2 j) a
 .exact⟨cs,_,_,rfl,p⟩
def fj.mk{g:Nat}{L:List cz}(h:bk e7 2 c3 w g v L)(e:∀x∈L,(∃f,aB .i64 ai w f x.sv x.sc)/\la x.sc):fj w g v L:=by
 refine⟨h,λx a=>⟨(e x a).1,λr j=>?_,(e x a).2⟩⟩;obtain⟨cs,n,c,_,p⟩:=OY h (λq=>by rw[q]at a;cases a);obtain⟨⟨f,hm⟩,_⟩:=e x a;exact ch hm p Φ j
def Sem(w:x6)(k:Int)(co:Λ)(L:List cz):Prop:=∀x∈L,∃a e,dm w x.g a e (bN co x.sc) k x.cs
def xJ{g p:Nat}{q:x4}{cs:Λ}(h:dm w g p q aj k cs)(e:af S w I)(f:∀r,S r->∃c,ag w r c3 c):dm I g p q aj k cs:=by
 obtain⟨⟨a8,gs,h1,s,x⟩,y⟩:=h;refine⟨⟨a8,gs,h1.aa e λJ=>?_,bw s e λr j J=>?_,bw x e λr j J=>?_⟩,y⟩
 .obtain⟨c,a⟩:=f g J;unfold ag at h1 a;rw[h1]at a;have:=(Obj.cells.inj (Z5 a)).2.1;exact ro this Φ
 .obtain⟨c,a⟩:=f r J;exact ch s a Φ j rfl
 .obtain⟨c,a⟩:=f r J;exact ch x a Φ j rfl
def Sem.W{L:List cz}(h:Sem w k co L)(a:Ext w I):Sem I k co L:=λx e=>by
 obtain⟨f,j,p⟩:=h x e;exact⟨f,j,p.W a⟩
def Sem.row{L M:List cz}{g:Nat}(h:Sem w k co L)(a:fj w g v M)(e:af (λr=>lm v r) w I):Sem I k co L:=λx f=>by
 obtain⟨j,p,q⟩:=h x f;exact⟨j,p,xJ q e λr s=>by obtain⟨rfl,c,y⟩:=dU a.1 s;exact⟨c,y⟩⟩
def eg(h:cz):cR:=(h.sc,h.cs)
def OZ:ak v8 wy [Δ c] w λv I=>v= .bool (decide (0<c))/\Ext w I:=by
 refine az func190 ?_;rw[bP];exact⟨rfl,Ext.refl _⟩
def O0(h:aM .i64 w sv l):
  ak v8 JL [sv,.func (.func wy) #[] #[]] w λv I=>v= .bool (l.any λc=>decide (0<c))/\Ext w I:=by
 refine az func189 ?_;refine ak.Y (K:=λv I=>Ext w I/\∃r:Int,v=Δ r/\(0<=r↔ ∃c∈l,0<c)) ?_ ?_
 .refine az func244 ?_;rw[a1 aw.u h];refine b7.range l.length (λi _ U=>Ext w U/\∀c∈l.take i,¬0<c) h.le ⟨Ext.refl _,λc a=>by simp at a⟩ ?_ ?_
  .rintro i _ U k hi ⟨e,f⟩ hk;refine bC Ω ?_;obtain⟨x,j⟩:=aD (l:=l) hi;rw[bh aw.u av.i Ψ (h.W e) j];show ak v8 wy [Δ x] U _;refine OZ.Y ?_;rintro _ V _ ⟨rfl,p⟩;rw[al];refine⟨λac=>⟨e.F p,i,rfl,⟨λ_=>⟨x,x7 j,ac⟩,λ_=>Ω⟩⟩,λq=>?_⟩;rw[aO];refine hk _ _ ⟨e.F p,λc a=>?_⟩;rw[r9,j]at a;rcases j9.1 a with a|a
   .exact f c a
   .simp at a;subst a;exact q
  .rintro _ U k ⟨e,f⟩;rw[o9]at f;rw[aT,al];exact⟨λh=>Ω,λ_=>⟨e,-1,rfl,⟨λh=>Ω,λ⟨c,a,ac⟩=>ro ac (f c a)⟩⟩⟩
 .rintro _ U _ ⟨e,r,rfl,s⟩;rw[cP];refine⟨?_,e⟩;congr 1;rw[U6,sp,List.any_eq_true,s];exact⟨λ⟨c,a,ac⟩=>⟨c,a,rs ac⟩,λ⟨c,a,ac⟩=>⟨c,a,ty ac⟩⟩
def DY{h:Nat}{x:cz}{q:x4}(r:ka w h x)(s:dm w x.g j q aj k x.cs):ak v8 rf [ld x] w λv I=>v= .bool (!fV (eg x))/\Ext w I:=by
 obtain⟨⟨B,hm⟩,_⟩:=r;refine az func188 ?_;refine bn λaq U C f a=>?_;have a:ag U aq c3 [x.sv,Γ x.g]:=by
  obtain⟨_,_,_,e⟩:=c5 hm.ls;simp only[ld,e7,e]at a ⊢;exact a
 rw[aJ c3.p 1 a rfl];refine(n8 (s.W f)).Y ?_;rintro E V _ ⟨y,G,H,z⟩;refine(O0 z.ls).Y ?_;rintro _ J _ ⟨rfl,A⟩;rw[bL];exact⟨rfl,(f.F y).F A⟩
def O1{g:Nat}{L:List cz}(h:fj w g v L)(J:Sem w k co L):
  ak v8 AM [v,.func (.func rf) #[] #[]] w λr I=>Ext w I/\((r=Δ (-1)/\∀x∈L,fV (eg x)=v2)\/∃i:Nat,r=Δ (i:Int)/\i<L.length/\(∀x∈L.take i,fV (eg x)=v2)/\∀x,L[i]?=σ x->fV (eg x)=v6):=by
 refine az func184 ?_;rw[ef gJ.u h.1];refine b7.range L.length (λi _ U=>Ext w U/\∀x∈L.take i,fV (eg x)=v2) h.1.le ⟨Ext.refl _,λc a=>by simp at a⟩ ?_ ?_
 .rintro i _ U k hi ⟨e,f⟩ hk;refine bC Ω ?_;obtain⟨x,j⟩:=aD (l:=L) hi;rw[uG rfl (h.W e) j];show ak v8 rf [ld x] U _;obtain⟨A,B,s⟩:=J x (x7 j);refine(DY ((h.W e).at j) (s.W e)).Y ?_;rintro _ V _ ⟨rfl,p⟩;rw[cb];refine⟨λac=>⟨e.F p,.inr ⟨i,rfl,hi,f,λy q=>by rw[j]at q;cases q;simpa using ac⟩⟩,λz=>?_⟩;rw[aO];refine hk _ _ ⟨e.F p,λc a=>?_⟩;rw[r9,j]at a;rcases j9.1 a with a|a
  .exact f c a
  .simp at a;subst a;simpa using z
 .rintro _ U k ⟨e,f⟩;rw[o9]at f;rw[aT,al];exact⟨λh=>Ω,λ_=>⟨e,.inl ⟨rfl,f⟩⟩⟩
def gA(x:cz):Bool:=fV (eg x)
def xK{L:List cz}{x:cz}(a:L[j]?=σ x):(L.take (j+1)).filter gA=if gA x=v2 then(L.take j).filter gA++[x]else(L.take j).filter gA:=by
 rw[r9,a,j6,List.filter_append];by_cases h:gA x=v2
 .rw[ms h];simp[h]
 .rw[rc h];simp[h]
def DZ{z:Array x4}(a:0<z.size)(h:∀u∈z.toList,u.oneCell'=v2):∀u∈dZ z n,u.oneCell'=v2:=λu hu=>by
 unfold dZ at hu;rw[Array.toList_map,j5]at hu;obtain⟨i,_,rfl⟩:=hu;have e:i % z.size<z.size:=Nat.mod_lt _ a;rw[getElem!_pos z (i % z.size) e];exact h _ Ξ
def O2{g:Nat}{L:List cz}(h:fj w g v L)(J:Sem w k co L)(bb:L.length<=100000):
  ak v8 JM [v,.func (.func rf) #[] #[]] w λf I=>af (λr=>lm v r) w I/\fj I g f (L.filter gA)/\∀r,lm f r->lm v r:=by
 refine az func191 ?_;refine(O1 h J).Y ?_;rintro r U _ ⟨G,q⟩;rcases q with⟨rfl,P⟩|⟨Q,rfl,aw,P,ay⟩
 .rw[bl,al];refine⟨λ_=>⟨G.aa _,?_,λr q=>q⟩,λh=>ro rfl h⟩;rw[List.filter_eq_self.2 (show∀x∈L,gA x=v2 from P)];exact h.W G
 rw[bl,al];refine⟨λh=>Ω,λ_=>?_⟩;rw[aO,m1 Ω Ω];obtain⟨R,ad⟩:=aD (l:=L) aw;refine⟨λS W V=>∃(i j:Nat)(M:List cz),S=Δ (i:Int)/\W=Δ (j:Int)/\i<j/\j<=L.length/\M.length=L.length/\M.take i=(L.take j).filter gA/\M.drop j=L.drop j/\(∀x∈M,x∈L)/\fj V g v M/\af (λr=>lm v r) w V,
  λ_ W _=>L.length-(bZ W).toNat,⟨Q,Q+1,L,rfl,by congr 1,Ω,Ω,rfl,?_,rfl,λx s=>s,h.W G,G.aa _⟩,?_⟩
 .have aA:¬gA R=v2:=by rw[show gA R=v6 from ay R ad];simp
  rw[xK ad,rc aA,List.filter_eq_self.2 (show∀x∈L.take Q,gA x=v2 from P)]
 rintro _ _ V ⟨i,j,M,rfl,rfl,bc,bd,ae,A,ag,ah,e,H⟩;have aB:Sem V k co L:=J.row h H;rw[ef gJ.u e.1,aT,al];refine⟨λX=>?_,λbe=>?_⟩
 .have X:j<L.length:=Ω
  obtain⟨x,s⟩:=aD (l:=L) X;have K:M[j]?=σ x:=by
   have h1:(M.drop j)[0]?=(L.drop j)[0]?:=by rw[ag]
   rw[R3,R3,Nat.add_zero]at h1;rw[h1,s]
  have ai:M.drop (j+1)=L.drop (j+1):=by
   have h1:(M.drop j).drop 1=(L.drop j).drop 1:=by rw[ag]
   rw[List.drop_drop,List.drop_drop]at h1;exact h1
  refine aY (λS N=>∃(C:Nat)(z:List cz),S=Δ (C:Int)/\C<j+1/\z.length=L.length/\z.take C=(L.take (j+1)).filter gA/\z.drop (j+1)=L.drop (j+1)/\(∀x∈z,x∈L)/\fj N g v z/\af (λr=>lm v r) w N) ?_ ?_
  .rintro _ N ⟨C,z,rfl,h1,Y,aC,aE,aF,aH,aI⟩;rw[aO,m1 Ω Ω];exact⟨⟨C,j+1,z,rfl,rfl,h1,X,Y,aC,aE,aF,aH,aI⟩,by simp only[bZ];omega⟩
  .intro ax aj;rw[uG rfl e K];refine bE c3.i λaq N bf aJ aK=>?_;refine b1 (vs:=e7 x) c3.i rfl rfl (e.at K).one aK λaL aM bg am=>?_;have Z:=aJ.put aM Ω;rw[bz c3.p c3.i rfl am.range];show ak v8 rf [ld x] aL _;obtain⟨bh,bi,aN⟩:=aB x (x7 s);refine(DY ((e.W Z).at K) (aN.W Z)).Y ?_;rintro _ bj _ ⟨rfl,an⟩;have E:=Z.F an;rw[bL,Bool.not_not,cb];refine⟨λhk=>?_,λaP=>?_⟩
   .rw[bz c3.p c3.i rfl (am.W an).range];refine OP rfl (e.W E) Ω ((e.W E).at K) λbk aQ aR=>?_;rw[aO,m1 Ω Ω];refine aj _ _ ⟨i+1,M.set i x,rfl,Ω,by simp[ae],?_,?_,λy B=>?_,aR,(H.F (E.aa _)).F aQ⟩
    .have ac:gA x=v2:=hk;rw[xK s,ms ac,r9,l9 Ω,j6,List.take_set_of_le (o4 _),A]
    .rw[List.drop_set_of_lt Ω,ai]
    .rcases W8 B with B|rfl
     .exact ah y B
     .exact x7 s
   .have ac:¬gA x=v2:=by rw[show gA x=v6 from aP];simp
    exact aj _ _ ⟨i,M,rfl,Ω,ae,by rw[xK s,rc ac,A],ai,ah,e.W E,H.F (E.aa _)⟩
 .have aS:j=L.length:=Ω
  subst aS;rw[o9]at A;obtain⟨⟨bm,aU⟩,ao⟩:=e.1;rcases aU with⟨_,bn⟩|⟨cap,cs,aV,aW,bo,aX,aZ,a1⟩
  .omega
  subst aV;have a2:(ab v8 (U4 gJ (.slice (σ ⟨g,0,ν⟩) M.length cap) (σ (Δ (i:Int))) ν ν) V λa6=>
    aG v8 (Y4.clear_ #[gJ] KV #[a6]) V λu O=>
    ab v8 (U4 gJ (.slice (σ ⟨g,0,ν⟩) M.length cap) ν (σ (Δ (i:Int))) ν) O λa7=>
    (λf I=>af (λr=>lm (.slice (σ ⟨g,0,ν⟩) M.length cap) r) w I/\fj I g f (L.filter gA)/\∀r,lm f r->lm (.slice (σ ⟨g,0,ν⟩) M.length cap) r) a7 O):=by
   rw[ip gJ.u c3.i (oY i _ rfl) kY fo Ω Ω (o4 _),rc Ω];simp only[Y3,T9];refine OX gJ.u c3.i rfl ?_ aW Ω λO ap a8=>?_
   .exact DZ Φ Φ
   rw[ip gJ.u c3.i jZ (oZ i _ rfl) fo Ω Ω (o4 _),rc Ω];simp only[Y3,T9,Nat.zero_mul,X6,Nat.sub_zero];have ba:(dZ (x4.agg #[.slice ν 0 0,.pointer ν]).cells ((M.length-i)*2)).length=(M.length-i)*2:=qa _ _;have bp:(M.flatMap e7).length=M.length*2:=iN ao;have au:(L.filter gA).length=i:=by rw[<-A,o8];omega
   have key:(λf I=>af (λr=>lm (.slice (σ ⟨g,0,ν⟩) M.length cap) r) w I/\fj I g f (L.filter gA)/\∀r,lm f r->lm (.slice (σ ⟨g,0,ν⟩) M.length cap) r) (.slice (σ ⟨g,0,ν⟩) (L.filter gA).length cap) O:=by
    refine⟨H.F (ap.Y λr _ he=>⟨_,_,_,rfl,he.symm⟩),⟨⟨⟨iN (λy _=>rfl),.inr ⟨cap,_,rfl,a8,Ω,aX,by rw[nl,aZ],?_⟩⟩,λy _=>rfl⟩,λy B=>?_⟩,λr q=>?_⟩
    .rw[au,<-A,<-rQ i ao,<-a1,List.take_take,nV (by rw[ba];omega),T6,List.take_append_of_le_length (by rw[o8];omega),List.take_take];congr 1;omega
    .have av:y∈M:=by rw[<-A]at B;exact T1 B
     exact(e.2 y av).aa ap λr q he=>(e.2 y av).2.1 r q he
    .obtain⟨a,n,c,h1,Y⟩:=q;cases h1;exact⟨_,_,_,rfl,Y⟩
   rw[au]at key;exact key
  exact a2
def r3{k:j4}{g cap:Nat}{b:Option Addr}(h:aB k e w g (.slice b n cap) l)(r:0<l.length):
  b=σ ⟨g,0,ν⟩/\n=l.length/\∃cs,ag w g e cs/\n<=cap/\cap<=maxLen/\cs.length=cap/\cs.take n=ints k l:=by
 obtain⟨_,⟨_,h1⟩|⟨s,cs,h1,a,f,j,p,q⟩⟩:=h
 .omega
 .cases h1;exact⟨rfl,rfl,cs,a,f,j,by simpa using p,by simpa using q⟩
def O3{g cap:Nat}(h:aB .i64 ai w g (.slice (σ ⟨g,0,ν⟩) n cap) l)(p:j<l.length):aM .i64 w (.slice (σ ⟨g,j,ν⟩) (n-j) (cap-j)) (l.drop j):=by
 obtain⟨_,q,cs,a,h1,r,s,f⟩:=r3 h Ω;have:=Lu (o:=j) (k:=n-j) (c:=cap-j) a Ω Ω Ω;refine aM.of (n:=n-j) ?_;have e:(cs.drop j).take (n-j)=ints .i64 (l.drop j):=by
  rw[<-List.drop_take,f,ints,ints,List.map_drop]
 rw[e]at this;exact this
def O4{g:Nat}(h:aB .i64 ai w g sv l)(aU:l.length<=1000):
  ak v8 Kk [sv] w λv I=>af (λr=>r=g) w I/\aB .i64 ai I g v (dedup l l.length):=by
 refine az func239 ?_;rw[a1 an.u h.ls];simp only[aT,al];refine⟨λaV=>⟨af.refl _ _,?_⟩,λaW=>?_⟩
 .rw[uD (o4 _) (λi hi X=>Ω),o9];exact h
 obtain⟨n,s⟩:∃n,l.length=n:=⟨_,rfl⟩;obtain⟨cap,rfl⟩:∃cap,sv= .slice (σ ⟨g,0,ν⟩) n cap:=by
  obtain⟨_,⟨_,h1⟩|⟨aq,cs,h1,_⟩⟩:=id h
  .omega
  .exact⟨aq,by rw[h1,s]⟩
 obtain⟨_,_,_,_,aX,au,_⟩:=r3 h Ω;refine⟨λ_ t U=>∃j:Nat,t=Δ (j:Int)/\1<=j/\j<=n/\Ext w U/\∀i,i<j->0<i->l[i]? ≠l[i-1]?,λ_ t _=>n-(bZ t).toNat,⟨1,rfl,Ω,Ω,Ext.refl _,λi h1 Y=>Ω⟩,?_⟩;rintro aZ _ U ⟨j,rfl,a2,Z,A,J⟩;rw[a1 an.u (h.ls.W A)];simp only[aT,al,en];refine⟨λav V aw _ _=>?_,λa6=>⟨A.aa _,?_⟩⟩
 .have av:j<n:=Ω
  have B:=A.F aw;have ab:=h.ls.W B;obtain⟨a,K⟩:=aD (l:=l) (i:=j) Ω;obtain⟨b,L⟩:=aD (l:=l) (i:=j-1) Ω;rw[bh an.u ai.i Ψ ab K];simp only[dA];rw[m1 Ω Ω,fP (i:=j-1) Ω an.u ai.i Ψ ab L];simp only[bl,al,aO];refine⟨λM=>?_,λM=>?_⟩
  .subst M;rw[ip an.u ai.i rm kY fo Ω Ω Ω,rc Ω];have ay:U8 (λx:Addr=>x.add (j*1)) (σ ⟨g,0,ν⟩)=σ ⟨g,j,ν⟩:=by simp[T9]
   rw[ay];have ac:dedup l (j+1)=l.take j:=by rw[xF Ω (by rw[K,L]),uD Ω J]
   refine⟨λN t O=>∃(q e:Nat)(f:Λ),N=Δ (q:Int)/\t=Δ (e:Int)/\1<=e/\j+e<=n/\af (λr=>r=g) w O/\aB .i64 ai O g (.slice (σ ⟨g,0,ν⟩) n cap) f/\f.length=n/\
     q=(dedup l (j+e)).length/\f.take q=dedup l (j+e)/\q<=j+e-1/\∀i,j+e-1<=i->f[i]?=l[i]?,λ_ t _=>n-(bZ t).toNat,
    ⟨j,1,l,rfl,rfl,Ω,Ω,B.aa _,h.W B,s,by rw[ac,o8];omega,by rw[ac],Ω,λi _=>rfl⟩,?_⟩
   rintro _ _ O ⟨q,e,f,rfl,rfl,a7,a8,P,ad,ae,ag,C,aA,E⟩;rw[jd an.u];simp only[aT,al,en];refine⟨λah=>?_,λah=>?_⟩
   .have ah:j+e<n:=Ω
    refine aY (λN Q=>∃(q:Nat)(f:Λ),N=Δ (q:Int)/\af (λr=>r=g) w Q/\aB .i64 ai Q g (.slice (σ ⟨g,0,ν⟩) n cap) f/\f.length=n/\
     q=(dedup l (j+(e+1))).length/\f.take q=dedup l (j+(e+1))/\q<=j+(e+1)-1/\∀i,j+(e+1)-1<=i->f[i]?=l[i]?) ?_ ?_
    .rintro _ Q ⟨q,f,rfl,h1,Y,aC,aE,aF,aG,aH⟩;simp only[aO];rw[m1 Ω Ω];exact⟨⟨q,e+1,f,rfl,rfl,Ω,Ω,h1,Y,aC,aE,aF,aG,aH⟩,by simp only[bZ];omega⟩
    .intro ax aj ba R _ _;have G:=ad.W R;have S:=O3 (j:=j) G Ω;obtain⟨y,H⟩:=aD (l:=l) (i:=j+e) Ω;obtain⟨z,W⟩:=aD (l:=l) (i:=j+e-1) Ω;have am:(f.drop j)[e]?=σ y:=by rw[R3,E _ Ω,H]
     have aI:(f.drop j)[e-1]?=σ z:=by rw[R3,E _ Ω,<-W];congr 1;omega
     rw[bh an.u ai.i Ψ S am];simp only[dA];rw[m1 Ω Ω,fP (i:=e-1) Ω an.u ai.i Ψ S aI];simp only[bK,al,aO];refine⟨λp=>?_,λp=>?_⟩
     .rw[bh an.u ai.i Ψ S am,jf rfl an.u ai.i G Ω];refine jg ai.i G Ω λbb aJ bc aK=>?_;rw[m1 Ω Ω];have ao:=xG H (λ_=>by rw[H,W];simpa using p);refine aj _ _ ⟨q+1,_,rfl,(P.F (R.aa _)).F aJ,aK,by simpa using ae,?_,?_,Ω,λi hi=>?_⟩
      .rw[<-Q3,ao];simp;omega
      .rw[<-Q3,ao,r9,l9 Ω,List.take_set_of_le (o4 _),C];rfl
      .rw[Z6 Ω];exact E i Ω
     .have p:=X5.1 p;have ap:dedup l (j+e+1)=dedup l (j+e):=xF Ω (by rw[H,W,p]);exact aj _ _ ⟨q,f,rfl,P.F (R.aa _),G,ae,by rw[<-Q3,ap];exact ag,by rw[<-Q3,ap];exact C,Ω,λi hi=>E i Ω⟩
   .have hk:j+e=n:=Ω
    rw[hk]at ag C aA;obtain⟨_,_,cs,aL,_,_,bd,aM⟩:=r3 ad Ω;simp only[maxLen]at au;rw[ip an.u ai.i rm kY fo Ω Ω Ω,rc Ω];have aN:U8 (λx:Addr=>x.add (q*1)) (σ ⟨g,0,ν⟩)=σ ⟨g,q,ν⟩:=by simp[T9]
    rw[aN];refine BC an.u ai.i rfl rfl aL Ω Ω λbe aP bf aQ=>?_;rw[ip an.u ai.i jZ o0 fo Ω Ω Ω,rc Ω];have aR:U8 (λx:Addr=>x.add (0*1)) (σ ⟨g,0,ν⟩)=σ ⟨g,0,ν⟩:=by simp[T9]
    rw[aR,s];refine⟨P.F aP,?_⟩;rw[<-C];refine aB.of (n:=q) ⟨Θ,.inr ⟨cap,_,Ξ,aQ,Ω,by simp only[maxLen];omega,by rw[nl];omega,?_⟩⟩;rw[T0];apply X0;intro i;by_cases hi:i<q
    .rw[Y6 hi,o1 _ _ _ Θ,rc Ω,ints,u4,Y6 hi];have:(cs.take n)[i]?=(ints .i64 f)[i]?:=by rw[aM]
     rw[Y6 Ω,ints,u4]at this;exact this
    .rw[Y5 Θ,Y5 Θ]
  .rw[m1 Ω Ω];refine⟨⟨j+1,rfl,Ω,Ω,B,λi hi X=>?_⟩,by simp only[bZ];omega⟩;by_cases aS:i=j
   .subst aS;rw[K,L];intro he;exact M (Z5 he)
   .exact J i Ω X
 .have Z:j=n:=Ω
  rw[uD (o4 _) (by rw[s,<-Z];exact J),o9];exact h.W A
def O5(z:n<=1000000):ak v8 KF [.slice ν 0 0,Δ (n:Int)] w λv I=>Ext w I/\∃g,w.heap.size<=g/\aB .i64 ai I g v []:=by
 refine az func273 ?_;refine c8 (λU=>w=U) ?_ ?_
 .rintro _ rfl;refine aY (λv I=>Ext w I/\∃g,w.heap.size<=g/\aB .i64 ai I g v []) (λ_ _ h=>h) λax a=>?_;rw[BB an.u,jd an.u];simp only[dA];have e:W5.wrap (((0:Nat):Int)-((0:Nat):Int))=0:=Φ
  have f:W5.wrap ((n:Int)-0)=n:=by rw[m1 Ω Ω];omega
  rw[e,f];simp only[bP,al];refine⟨λh=>?_,λh=>a _ _ ⟨Ext.refl _,w.heap.size,o4 _,aB.nil _ _ _ _⟩⟩;rw[BB an.u,ip an.u ai.i jZ o0 fo Ω Ω Ω,ms rfl];refine Lt (xs:=[]) rfl an.u ai.u ai.i rfl ⟨rfl,0,0,ν,0,rfl,o4 _,W0 _,λh=>ro h (Nat.lt_irrefl _),λj v h=>by simp at h⟩ Ω Ω Ω Ω λv g I A p hm=>?_;obtain⟨_,⟨_,B⟩|⟨cap,cs,rfl,q,h1,r,s,C⟩⟩:=hm
  .omega
  rw[jd an.u,ip an.u ai.i jZ o0 fo Ω Ω Ω,rc Ω];have y:U8 (λx:Addr=>x.add (0*1)) (σ ⟨g,0,ν⟩)=σ ⟨g,0,ν⟩:=by simp[T9]
  rw[y];refine a _ _ ⟨p,g,Ω,aB.of (n:=0) ⟨Ξ,.inr ⟨cap,cs,Ξ,q,Ω,r,s,Ξ⟩⟩⟩
 .intro ax a;simp only[aT,al];exact⟨λh=>Ω,λ_=>a _ rfl⟩
def O6{a b:Λ}(E:aM .i64 w bj a)(G:aM .i64 w bv b)(S:a.length<=1000)(W:b.length<=1000)(X:∀v I g,Ext w I->w.heap.size<=g->aB .i64 ai I g v (a++b)->K v I):
  aG v8 (X2 ca 2 #[(0,bj),(1,bv)]) w λt U=>ak v8 Kl [t] U K:=by
 obtain⟨⟨H,J,L,Y⟩,⟨M,N,O,Z⟩⟩:(∃x n c,bj= .slice x n c)/\(∃x n c,bv= .slice x n c):=by
  obtain⟨_,_,_,x,c,h1,_⟩:=id E;obtain⟨_,_,_,y,d,aa,_⟩:=id G;exact⟨⟨x,_,c,h1⟩,⟨y,_,d,aa⟩⟩
 subst Y;subst Z;refine kZ ca.u an.i Ω (cs:=#[.slice H J L,.slice M N O]) Ψ λg U aw q s=>?_;have s:=s;have key:∀i:Nat,i<2->∃v l,[x4.slice H J L,.slice M N O][i]?=σ v/\[a,b][i]?=σ l/\aM .i64 w v l/\l.length<=1000:=λi hi=>by
  match i,hi with
  |0,_=>exact⟨_,_,rfl,rfl,E,S⟩
  |1,_=>exact⟨_,_,rfl,rfl,G,W⟩
 refine az func240 ?_;rw[jd ca.u];refine b7.range 2 (λi size V=>Ext U V/\∃n:Nat,n<=1000*i/\size=Δ (n:Int)) Ω ⟨Ext.refl _,0,Ω,rfl⟩ ?_ ?_
 .rintro i _ V ab hi ⟨f,n,ac,rfl⟩ ad;simp only[aT,al];refine⟨λ_=>?_,λh=>Ω⟩;obtain⟨v,l,B,P,C,ae⟩:=key i hi;refine aY (λv Q=>V=Q/\v=Δ ((n+l.length:Nat):Int)) ?_ ?_
  .rintro _ _ ⟨rfl,rfl⟩;simp only[aO];exact ad _ _ ⟨f,_,Ω,rfl⟩
  .intro ax af;rw[eT ca.u an.i hi (λ_=>rfl),aF Ψ ((s.W f).cell (by rw[<-B];congr 1;omega)),a1 an.u (C.W (q.F f))];simp only[aO,aT,al];rw[m1 Ω Ω];exact⟨λh=>Ω,λ_=>af _ _ ⟨rfl,by congr 1⟩⟩
 .rintro _ V ab ⟨f,n,ac,rfl⟩;simp only[aT,al];refine⟨λh=>Ω,λ_=>?_⟩;refine(O5 Ω).Y ?_;rintro v0 Q _ ⟨R,ag,ay,ah⟩;have s1:=q.size;have aA:=f.size;have aC:=R.size;have aj:=f.F R;rw[jd ca.u];refine b7.range 2 (λi v z=>Ext U z/\∃p,U.heap.size<=p/\aB .i64 ai z p v (([a,b].take i).flatten)/\(([a,b].take i).flatten).length<=1000*i) Ω ⟨aj,ag,Ω,ah,Ξ⟩ ?_ ?_
  .rintro i v4 z am hi ⟨j,p,ao,A,aD⟩ ap;simp only[aT,al];refine⟨λ_=>?_,λh=>Ω⟩;obtain⟨v,l,B,P,C,ae⟩:=key i hi;rw[eT ca.u an.i hi (λ_=>rfl),aF Ψ ((s.W j).cell (by rw[<-B];congr 1;omega))];refine kt an.u ai.i rfl A (C.W (q.F j)) Ω Ω λaE aq aH aI au av=>?_;simp only[aO];have aJ:=j.size;have e:([a,b].take (i+1)).flatten=([a,b].take i).flatten++l:=by rw[r9,P];simp
   refine ap _ _ ⟨j.then av (by rintro r aK rfl;omega),aq,Ω,by rw[e];exact au,by rw[e,n9];omega⟩
  .rintro v4 z am ⟨j,p,ao,A,_⟩;simp only[aT,al];refine⟨λh=>Ω,λ_=>X _ _ p (q.F j) Ω ?_⟩;have e:([a,b].take 2).flatten=a++b:=Ξ
   rw[e]at A;exact A
def qB(s1 a f e d6:Λ):Prop:=∀p∈d6,p∈a->p∈e->jk s1 (iR a p)=jk f (iR e p)
def dM(s1 a e f d6:Λ):Λ:=d6.map λp=>max (jk s1 (iR a p)) (jk e (iR f p))
def D0(s1 a e f d6:Λ):(dM s1 a e f d6).length=d6.length:=by simp[dM]
def uH{x:Int}:0<=iR l x↔x∈l:=by
 unfold iR;by_cases h:x∈l
 .rw[ms h];exact⟨λ_=>h,λ_=>Ω⟩
 .rw[rc h];exact⟨λh=>Ω,λa=>ro a h⟩
def O7{g ay Y aA:Nat}{E Z:x4}{s1 f d6 a e:Λ}{aC:Int}{aE aF:Λ}(h1:dm w g ay sv s1 k aE)(aa:dm w Y aA E f aC aF)(q:aM .i64 w Z d6)(aG:aM .i64 w bj a)(G:aM .i64 w bv e)(aH:ir a)(aI:ir e)(bd:d6.length<=1000):
  ak v8 Km [Z,Γ g,bj,Γ Y,bv] w λv I=>Ext w I/\
   (¬qB s1 a f e d6->v= .tuple #[.slice ν 0 0,.bool v6])/\
   (qB s1 a f e d6->∃x aq,v= .tuple #[x,.bool v2]/\w.heap.size<=aq/\aB .i64 ai I aq x (dM s1 a f e d6)):=by
 have sub:∀{w:x6}{g:Nat}{sv:x4}{k:Int}{a8:x4},ag w g c4 [sv,Δ k,a8]->w.rangeAt g (0+0) [sv]:=λG=>pd G (by
  intro j v q
  match j,q with
  |0,q=>exact q)
 refine az func241 ?_;rw[a1 an.u q];refine ku an.u ai.i Ω Ω λgz U be ab aJ=>?_;have aK:=aB.of (n:=d6.length) (b2.full aJ Ξ (by simp[maxLen];omega));generalize (x4.slice (σ ⟨gz,0,ν⟩) d6.length d6.length)=aL at*;rw[a1 an.u (q.W ab)];have H:=D0 s1 a f e d6;refine kS.range d6.length (λi _ _ V=>Ext w V/\aB .i64 ai V gz aL (upto (dM s1 a f e d6) 0 i)/\∀(j:Nat)(p:Int),j<i->d6[j]?=σ p->p∈a->p∈e->jk s1 (iR a p)=jk f (iR e p)) Ω
  ⟨ab,by rw[qi,H];exact aK,λj p A=>Ω⟩ ?_ ?_
 .rintro i _ _ V aN hi ⟨s,hm,J⟩ aP;simp only[aT,al];refine⟨λ_=>?_,λh=>Ω⟩;obtain⟨p,ac⟩:=aD (l:=d6) hi;rw[bh an.u ai.i Ψ (q.W s) ac];refine(xH (aG.W s) aH).Y ?_;rintro _ bf _ ⟨rfl,K⟩;refine(xH (G.W (s.F K)) aI).Y ?_;rintro _ aQ _ ⟨rfl,ad⟩;have ae:=(s.F K).F ad;refine aY (λv af=>Ext aQ af/\∃c,v= .bool c/\(c=v2↔p∈a/\p∈e/\jk s1 (iR a p)≠jk f (iR e p))) ?_ ?_
  .rintro _ af ⟨ah,c,rfl,aj⟩;have am:=ae.F ah;rw[cb];refine⟨λaR=>⟨am,λ_=>by first|rfl|trivial,λA=>?_⟩,λaS=>?_⟩
   .obtain⟨y,z,aV⟩:=aj.1 aR;exact ro (A p (x7 ac) y z) aV
   .simp only[en];intro bg ao _ _;have L:=am.F ao;obtain⟨⟨a8,gs,M,N,_⟩,_⟩:=h1.W L;obtain⟨⟨aW,aX,O,P,_⟩,_⟩:=aa.W L;rw[b0,aU c4.p rfl,bz (cs:=[sv]) bH.p bH.i rfl (sub M),b0,aU c4.p rfl,bz (cs:=[E]) bH.p bH.i rfl (sub O)];refine(rJ N.ls).Y ?_;rintro _ bi _ ⟨rfl,B⟩;refine⟨.inl B,?_⟩;refine(rJ (P.ls.W B)).Y ?_;rintro _ bk _ ⟨rfl,ap⟩;have aZ:=(L.F B).F ap;have au:=hm.W ((((K.F ad).F ah).F ao).F (B.F ap));have bl:(upto (dM s1 a f e d6) 0 i).length=d6.length:=by rw[pi,H]
    rw[tx,jf rfl an.u ai.i au Ω];refine jg ai.i au Ω λbm a2 _ av=>?_;simp only[aO];have a6:(dM s1 a f e d6)[i]?=σ (max (jk s1 (iR a p)) (jk f (iR e p))):=by
     unfold dM;rw[u4,ac];rfl
    rw[qk a6]at av;refine aP _ _ _ ⟨aZ.then a2 (by rintro r bn rfl;omega),av,λj a7 A Q y z=>?_⟩;by_cases ba:j=i
    .subst ba;rw[ac]at Q;cases Q;refine Decidable.byContradiction λbb=>?_;have:=aj.2 ⟨y,z,bb⟩;rw[aS]at this;cases this
    .exact J j a7 Ω Q y z
  .intro ax R;simp only[en,cP,al];intro bo C _ _;refine⟨λS=>⟨λW=>?_,λW=>⟨.inl (Ext.refl _),R _ _ ⟨C,v6,rfl,⟨(λh=>by cases h),λh=>ro (uH.2 h.2.1) W⟩⟩⟩⟩,λS=>⟨.inl (Ext.refl _),R _ _ ⟨C,v6,rfl,⟨(λh=>by cases h),λh=>ro (uH.2 h.1) S⟩⟩⟩⟩;have aw:=ae.F C;obtain⟨⟨a8,gs,M,N,_⟩,_⟩:=h1.W aw;obtain⟨⟨aW,aX,O,P,_⟩,_⟩:=aa.W aw;rw[b0,aU c4.p rfl,bz (cs:=[sv]) bH.p bH.i rfl (sub M),b0,aU c4.p rfl,bz (cs:=[E]) bH.p bH.i rfl (sub O)];refine(rJ N.ls).Y ?_;rintro _ bp _ ⟨rfl,X⟩;refine⟨.inl X,?_⟩;refine(rJ (P.ls.W X)).Y ?_;rintro _ bq _ ⟨rfl,bc⟩;simp only[bK];refine R _ _ ⟨(C.F X).F bc,_,rfl,?_⟩;rw[decide_eq_true_iff];exact⟨λh=>⟨uH.1 S,uH.1 W,h⟩,λh=>h.2.2⟩
 .rintro _ _ V aN ⟨s,hm,J⟩;simp only[aT,al];refine⟨λh=>Ω,λ_=>?_⟩;have A:qB s1 a f e d6:=λp ac y z=>by
   obtain⟨i,hi,he⟩:=List.getElem_of_mem ac;exact J i p hi (by rw[x8 hi,he]) y z
  rw[<-H,qj]at hm;exact⟨s,λh=>ro A h,λ_=>⟨_,gz,rfl,Ω,hm⟩⟩
def xL(a e d6:Λ):Prop:=ir d6/\∀x,x∈d6↔x∈a\/x∈e
def pt(s1 h a e j f d6:Λ)(k:Int):Λ:=
 (X9 (aQ (dM s1 a e f d6)).toNat).map λ(q:Nat)=>min (bq s1 h (gx (dr (dM s1 a e f d6) q) d6 a)+bq e j (gx (dr (dM s1 a e f d6) q) d6 f)) k
def D1(s1 h a e j f d6:Λ)(k:Int):(pt s1 h a e j f d6 k).length=(aQ (dM s1 a e f d6)).toNat:=by simp[pt]
def uI{s cs:Λ}(hk:right k)(h:∀x∈cs,cG x k):cG (bq s cs t) k:=by
 have a:cG 0 k:=⟨hk,S9 _,by have:=hk.1;omega⟩;unfold bq;split
 .rename_i n _;rw[u5];cases e:cs[n.toNat]? with
  |none=>exact a
  |some x=>exact h x (x7 e)
 .exact a
def Fits(s l:Λ):Prop:=l.length=s.length/\r1 l
def r4(e:Int):x4:=.tuple #[.pointer ν,.slice ν 0 0,Δ e]
def D2(w:x6)(s1 q a f r e:Λ)(k h:Int)(v:x4)(I:x6):Prop:=
 Ext w I/\(¬(Fits s1 a/\Fits f e)->v=r4 1)/\
  (Fits s1 a/\Fits f e->∃d6,xL a e d6/\(¬qB s1 a f e d6->v=r4 1)/\(qB s1 a f e d6->(k≠h->v=r4 3)/\
   (k=h->¬ci (dM s1 a f e d6)->v=r4 1)/\(k=h->ci (dM s1 a f e d6)->4096<aQ (dM s1 a f e d6)->v=r4 5)/\
   (k=h->ci (dM s1 a f e d6)->aQ (dM s1 a f e d6)<=4096->∃j s x p,v= .tuple #[Γ j,p,Δ 0]/\
    dm I j s x (dM s1 a f e d6) k (pt s1 q a f r e d6 k)/\aM .i64 I p d6)))
def O8{g bJ ga bM:Nat}{bN:x4}{s1 z f y:Λ}{be:Int}{H K:Λ}(h1:dm w g bJ sv s1 k H)(ap:dm w ga bM bN z be K)(ay:aM .i64 w bj f)(Q:aM .i64 w bv y)(hk:right k)(cr:∀x∈H,cG x k)(ct:∀x∈K,cG x be):
  ak v8 JK [Γ g,bj,Γ ga,bv] w (D2 w s1 H f z K y k be):=by
 have cu:=ay.cells;have cw:=Q.cells;have cz:=h1.2.2.1;have cA:=ap.2.2.1;have sub:∀{w:x6}{g:Nat}{sv:x4}{k:Int}{a8:x4},ag w g c4 [sv,Δ k,a8]->w.rangeAt g (0+0) [sv]:=λQ=>pd Q (by
  intro j v bf
  match j,bf with
  |0,bf=>exact bf)
 refine jy func187 ?_;refine bn λg1 U dF bP G=>?_;refine bn λbQ V dG bg L=>?_;refine bn λbR dH dI aO M=>?_;refine bn λbS Y dJ az O=>?_;have dK:=G.lt;have dL:=L.lt;have dN:=M.lt;have dO:=O.lt;have dP:=bP.size;have dQ:=bg.size;have dR:=aO.size;have dS:=az.size;have Z:=((bP.F bg).F aO).F az;have G:ag Y g1 fd [Γ g]:=((G.W bg).W aO).W az;have L:ag Y bQ an [bj]:=by rw[cu.1]at L;exact(L.W aO).W az
 have M:ag Y bR fd [Γ ga]:=M.W az;have O:ag Y bS an [bv]:=by rw[cw.1]at O;exact O
 refine aY (λv bT=>v= .bool v6/\Y=bT) ?_ ?_
 rotate_left
 .intro ax aP;rw[aF Ψ (G.Qz rfl),di fd.u];simp only[Y0,a7];rw[aF Ψ (M.cell rfl),di fd.u];exact aP _ _ ⟨rfl,rfl⟩
 rintro _ _ ⟨rfl,rfl⟩;simp only[a7];refine aY (λv bU=>Ext Y bU/\∃c,v= .bool c/\(c=v2↔¬(Fits s1 f/\Fits z y))) ?_ ?_
 rotate_left
 .intro ax aP;rw[aF Ψ (G.cell rfl),aF Ψ (L.cell rfl)];refine(DR (h1.W Z) (ay.W Z)).Y ?_;rintro _ bT _ ⟨ab,c,rfl,aA⟩;simp only[bL,cb];refine⟨λaR=>aP _ _ ⟨ab,v2,rfl,λ_ h=>?_,λ_=>rfl⟩,λbV=>?_⟩
  .have:=aA.2 h.1;rw[this]at aR;cases aR
  .have cB:c=v2:=by cases c<;>simp_all
   rw[aF Ψ ((M.W ab).cell rfl),aF Ψ ((O.W ab).cell rfl)];refine(DR ((ap.W Z).W ab) ((Q.W Z).W ab)).Y ?_;rintro _ dT _ ⟨cC,d,rfl,bW⟩;simp only[bL];refine aP _ _ ⟨ab.F cC,_,rfl,λh au=>?_,λh=>?_⟩
   .have:=bW.2 au.2;rw[this]at h;cases h
   .cases d with
    |false=>rfl
    |true=>exact ro ⟨aA.1 cB,bW.1 rfl⟩ h
 rintro _ bU ⟨aC,c,rfl,aA⟩;have bh:=Z.F aC;rw[cb];refine⟨λaR dU cD _=>⟨bh.F cD,λ_=>rfl,λh=>ro h (aA.1 aR)⟩,λbV=>?_⟩;have aD:=Classical.byContradiction λh=>by
  have:=aA.2 h;rw[bV]at this;cases this
 obtain⟨⟨dV,cE⟩,dW,cF⟩:=id aD;have dX:=cz.1;have dY:=cA.1;rw[aF Ψ ((L.W aC).cell rfl),aF Ψ ((O.W aC).cell rfl)];refine O6 (ay.W bh) (Q.W bh) Ω Ω λdZ ea eb bX ec cH=>?_;refine xE cH.ls (by rw[n9];omega) λed ee ef m bY eg bZ cI cJ=>?_;have cK:=bZ.length_eq;rw[n9]at cK;refine(O4 cJ Ω).Y ?_;rintro bi eh _ ⟨cL,bk⟩;have ei:=aC.size;have ej:=bX.size;have ek:=bY.size;have b1:=(bX.F bY).then cL (by rintro r aS rfl;omega);obtain⟨cM,cN⟩:=DQ cI (o4 _);have em:=DP m m.length;have P:xL f y (dedup m m.length):=⟨cM,λx=>by rw[cN,o9,bZ.mem_iff,j9]⟩;generalize dedup m m.length=d6 at*;refine bE an.i λbd en eo b2 cO=>?_;refine bu an.i bk.ls.cells.1 bk.ls.cells.2 cO (by simp[x4.cells]) λep cP er aE=>?_;have es:=b1.size;have et:=b2.size;have bl:=b2.then cP (by rintro r aS rfl;omega);have ad:=(aC.F b1).F bl;have aG:=Z.F ad;have df:=aE.lt;have b3:=bk.ls.W bl;have aE:=aE;rw[aF Ψ (aE.cell rfl),aF Ψ ((G.W ad).cell rfl),aF Ψ ((L.W ad).cell rfl),aF Ψ ((M.W ad).cell rfl),aF Ψ ((O.W ad).cell rfl)];refine(O7 (h1.W aG) (ap.W aG) b3 (ay.W aG) (Q.W aG) cE.up cF.up Ω).Y ?_;rintro eu ev _ ⟨aH,cQ,cR⟩;have b4:=aG.F aH;by_cases ae:qB s1 f z y d6
 rotate_left
 .rw[cQ ae,bA,bB];simp only[bL,W6,bO];intro ew cS _;exact⟨b4.F cS,λh=>ro aD h,λ_=>⟨d6,P,λ_=>rfl,λh=>ro h ae⟩⟩
 obtain⟨xs,aq,rfl,ey,cT⟩:=cR ae;rw[bA,bB];simp only[bL,X3,a7];intro ah aj _ _;have aT:=(ad.F aH).F aj;have am:=b4.F aj;have G:=G.W aT;have L:=L.W aT;have M:=M.W aT;have O:=O.W aT;have cU:=(aE.W aH).W aj;obtain⟨⟨a8,gs,b5,ez,_⟩,_⟩:=h1.W am;obtain⟨⟨eA,eB,cV,eC,_⟩,_⟩:=ap.W am;rw[aF Ψ (G.cell rfl),aL c4.p 1 b5 rfl,aF Ψ (M.cell rfl),aL c4.p 1 cV rfl];simp only[bK,al];refine⟨λR eD cW _=>⟨am.F cW,λh=>ro aD h,λ_=>⟨d6,P,λh=>ro ae h,λ_=>⟨λ_=>rfl,λh=>ro h R,λh=>ro h R,λh=>ro h R⟩⟩⟩,λR=>?_⟩;have R:=X5.1 R;subst R;rw[aF Ψ (G.cell rfl),aL c4.p 1 b5 rfl];have cX:=cT.W aj;refine(wR cX.ls).Y ?_;rintro aV aW _ ⟨b6,cY,cZ,_,c0⟩;have eE:=bl.size;have eF:=aH.size;have eH:=aj.size;have eI:=b6.size;obtain⟨aI,e,rfl,eJ,aX⟩:∃(aI:Option Addr)(e:Int),aV= .tuple #[.pointer aI,Δ e]/\(e=0->aI≠ν)/\((e=1/\¬ci (dM s1 f z y d6))\/(e=5/\ci (dM s1 f z y d6)/\4096<aQ (dM s1 f z y d6))\/(e=0/\ci (dM s1 f z y d6)/\aQ (dM s1 f z y d6)<=4096/\
   ∃B A C,aI=σ ⟨B,0,ν⟩/\ah.heap.size<=B/\ah.heap.size<=A/\(∀r,lw C r->ah.heap.size<=r)/\dm aW B A C (dM s1 f z y d6) k (o6 (aQ (dM s1 f z y d6)).toNat 0))):=by
  by_cases J:ci (dM s1 f z y d6)
  .by_cases ac:aQ (dM s1 f z y d6)<=4096
   .obtain⟨B,A,C,c1,c2,c3,c5,c6⟩:=c0 J ac ⟨hk,Ω,by have:=hk.1;omega⟩;exact⟨_,_,c1,(λ_ h=>by cases h),.inr (.inr ⟨rfl,J,ac,B,A,C,rfl,c2,c3,c5,c6⟩)⟩
   .exact⟨_,_,cZ J Ω,(λh=>Ω),.inr (.inl ⟨rfl,J,Ω⟩)⟩
  .exact⟨_,_,cY J,(λh=>Ω),.inl ⟨rfl,J⟩⟩
 rw[bA,bB];refine bE fd.i λb7 eK eL b8 aJ=>?_;refine bu fd.i rfl rfl aJ (by simp[x4.cells]) λeM c7 eN aJ=>?_;have eO:=b8.size;have bm:=b8.then c7 (by rintro r aS rfl;omega);have b9:=b6.F bm;have c8:=am.F b9;have eP:=aJ.lt;simp only[bK,al];refine⟨λc9 eQ da _=>⟨c8.F da,λh=>ro aD h,λ_=>⟨d6,P,λh=>ro ae h,λ_=>⟨λh=>ro rfl h,λ_ J=>?_,λ_ J ac=>?_,λ_ J ac=>?_⟩⟩⟩,λeR=>?_⟩
 .rcases aX with⟨rfl,_⟩|⟨_,h,_⟩|⟨_,h,_⟩
  .rfl
  .exact ro h J
  .exact ro h J
 .rcases aX with⟨_,h⟩|⟨rfl,_⟩|⟨_,_,h,_⟩
  .exact ro J h
  .rfl
  .omega
 .rcases aX with⟨_,h⟩|⟨_,_,h⟩|⟨h,_⟩
  .exact ro J h
  .omega
  .exact ro h c9
 obtain⟨aZ,db,B,A,C,rfl,eS,eU,eV,a1⟩:ci (dM s1 f z y d6)/\aQ (dM s1 f z y d6)<=4096/\
   ∃B A C,aI=σ ⟨B,0,ν⟩/\ah.heap.size<=B/\ah.heap.size<=A/\(∀r,lw C r->ah.heap.size<=r)/\dm aW B A C (dM s1 f z y d6) k (o6 (aQ (dM s1 f z y d6)).toNat 0):=by
  rcases aX with⟨h,_⟩|⟨h,_⟩|⟨_,h⟩
  .omega
  .omega
  .exact h
 obtain rfl:e=0:=Ω
 have dc:(dM s1 f z y d6).length=d6.length:=D0 _ _ _ _ _;have eW:=prod_bound aZ;obtain⟨N,a2⟩:∃N:Nat,(aQ (dM s1 f z y d6)).toNat=N:=⟨_,rfl⟩;rw[a2]at a1;have eX:0<N:=Ω
 have dd:=a1.W bm;obtain⟨⟨bo,ca,cc,cd,de⟩,⟨ce,cf,_⟩,_,eY⟩:=id dd;have eZ:B<aW.heap.size:=by obtain⟨⟨_,_,q,_⟩,_⟩:=id a1;exact q.lt
 have e0:A<aW.heap.size:=by obtain⟨⟨_,_,_,_,q⟩,_⟩:=id a1;exact uy q Θ
 rw[aF Ψ (aJ.cell rfl),b0,aU c4.p rfl,bz (cs:=[C]) bH.p bH.i rfl (sub cc)];refine xh.Y ?_;rintro _ a6 _ ⟨W,ba,rfl,e1,cg⟩;have e2:=bm.size;have e3:=W.size;let S:Nat->Prop:=λr=>r=A;let ao:=pt s1 H f z K y d6 k;have bp:ao.length=N:=by simp only[ao];rw[D1,a2]
 have dg:=(b3.W aH).W aj;let dh:x6->Prop:=λI=>ag I g1 fd [Γ g]/\ag I bQ an [bj]/\ag I bR fd [Γ ga]/\ag I bS an [bv]/\ag I bd an [bi]/\aM .i64 I bi d6/\
  ag I b7 fd [Γ B]/\ag I B c4 [C,Δ k,bo]/\dm I g bJ sv s1 k H/\dm I ga bM bN z k K/\aM .i64 I bj f/\aM .i64 I bv y/\aB .i64 ai I ca C (dM s1 f z y d6)/\ag I ba bH [C]/\a6.heap.size<=I.heap.size
 have ch:=b9.F W;have aK:∀{a:x6},af S a6 a->dh a:=by
  intro a E;have X:=ch.put E Ω;have bb:=am.F X;exact⟨G.W X,L.W X,M.W X,O.W X,cU.W X,dg.W X,(aJ.W W).aa E (by show¬(b7=A);omega),(cc.W W).aa E (by show¬(B=A);exact ce),h1.W bb,ap.W bb,ay.W bb,Q.W bb,
   bw (cd.W W) E (λr aS he=>cf ((show r=A from he)▸aS)),cg.aa E (by show¬(ba=A);omega),E.size⟩
 have cj:=xg (g:=ba) (B0:=a6.heap.size) (sv:=C) aZ;rw[a2]at cj;refine pY.old ⟨Nat,v6,nb,#[Γ ba],0,_,_,_,λq I=>af S a6 I/\aB .i64 av I A bo (upto ao 0 q),λ_ _ _=>False,rfl,cj.s,
  ?_,λ_ _ E h=>⟨h.1.W E,h.2.1.W E,X1 h.2.2 E.size⟩,λ_ _ _ E h=>⟨h.1.F (E.aa S),h.2.W E⟩,λ_ _ _ _ _ h=>h,⟨cg,(cd.W W).ls,o4 _⟩,⟨af.refl _ _,?_⟩,?_,?_,λ_ _ h=>h.elim,λ_ _ _ h=>h.elim⟩
 .rintro _ _ _ _ ⟨_,_,_,_,rfl,_⟩;rfl
 .rw[qi,bp];exact de.W W
 .rintro _ aV q _ e4 ⟨_,_,e5⟩ ⟨br,rfl,e6,gt,dj,e7,ck⟩ ⟨bc,dk⟩;cases dj;let x:=dr (dM s1 f z y d6) (q:Int);have cl:x.length=d6.length:=by simp only[x];rw[kw,dc]
  intro e8 dl _ _;intro e9 dn _ _;have bs:=dl.F dn;obtain⟨f1,f2,f3,f4,f5,f6,f7,f8,f9,f10,f11,f12,f13,f14,f15⟩:=aK (bc.F (bs.aa S));rw[aF Ψ (f1.cell rfl),aF Ψ (f5.cell rfl),aF Ψ (f2.cell rfl)];refine(DT (ck.ls.W bs) f6 f11 P.1 (λp ac=>(P.2 p).2 (.inl ac)) cl Ω).Y ?_;rintro fa fb _ ⟨bt,fc,fe,dp⟩;refine⟨.inl bt,?_⟩;refine(wS (f9.W bt) dp.ls).Y ?_;rintro _ ff _ ⟨rfl,dq⟩;obtain⟨fg,ds⟩:=xD s1 (gx x d6 f) H;have dt:=ds;rw[dt,bA,bB];intro fh du _ _;have bx:=((bs.F bt).F dq).F du;obtain⟨f1,f2,f3,f4,f5,f6,f7,f8,f9,f10,f11,f12,f13,f14,f15⟩:=aK (bc.F (bx.aa S));rw[aF Ψ (f3.cell rfl),aF Ψ (f5.cell rfl),aF Ψ (f4.cell rfl)];refine(DT (ck.ls.W bx) f6 f12 P.1 (λp ac=>(P.2 p).2 (.inr ac)) cl Ω).Y ?_;rintro fi fj _ ⟨bC,fk,fm,dv⟩;refine⟨.inl bC,?_⟩;refine(wS (f10.W bC) dv.ls).Y ?_;rintro _ fo _ ⟨rfl,dw⟩;obtain⟨fp,dx⟩:=xD z (gx x d6 y) K;have dy:=dx;rw[dy,bA,bB];intro fq dz _ _;have bD:=((bx.F bC).F dw).F dz;obtain⟨f1,f2,f3,f4,f5,f6,f7,f8,f9,f10,f11,f12,f13,f14,f15⟩:=aK (bc.F (bD.aa S));rw[aF Ψ (f7.cell rfl),aL c4.p 2 f8 rfl,aF Ψ (f7.cell rfl),aL c4.p 1 f8 rfl];refine CD.Y ?_;rintro _ fs _ ⟨rfl,bF⟩;refine⟨.inl bF,?_⟩;have dA:rI (bq s1 H (gx x d6 f)) (bq z K (gx x d6 y)) k= .tuple #[Δ (min (bq s1 H (gx x d6 f)+bq z K (gx x d6 y)) k),Δ 0]:=ms ⟨uI hk cr,uI hk ct⟩;rw[dA,jY (v:=Δ (min (bq s1 H (gx x d6 f)+bq z K (gx x d6 y)) k)) rfl,jY (v:=Δ 0) rfl];have cm:=dk.W (bD.F bF);have ft:(upto ao 0 q).length=N:=by rw[pi,bp]
  rw[jf rfl aw.u av.i cm Ω];refine jg av.i cm Ω λfu dC fv cn=>?_;have cp:=(bc.F ((bD.F bF).aa S)).F (dC.Y λr _ h=>h);obtain⟨f1,f2,f3,f4,f5,f6,f7,f8,f9,f10,f11,f12,f13,f14,f15⟩:=aK cp;have dD:ao[q]?=σ (min (bq s1 H (gx x d6 f)+bq z K (gx x d6 y)) k):=by
   simp only[ao,pt];rw[u4,List.getElem?_range (by rw[a2];exact br)];rfl
  rw[qk dD]at cn;exact⟨⟨f14,f13.ls,f15⟩,⟨cp,cn⟩,λh=>by cases h⟩
 .rintro q fw br ⟨cq,bG⟩;rw[show q=N from br]at bG;intro fx bI _ _;obtain⟨f1,f2,f3,f4,f5,f6,f7,f8,f9,f10,f11,f12,f13,f14,f15⟩:=aK (cq.F (bI.aa S));rw[aF Ψ (f7.cell rfl),aF Ψ (f5.cell rfl)];intro fy aN _;rw[<-bp,qj]at bG;have dE:=am.F ch;refine⟨((dE.put cq Ω).F bI).F aN,λh=>ro aD h,λ_=>⟨d6,P,λh=>ro ae h,λ_=>⟨λh=>ro rfl h,λ_ h=>ro aZ h,λ_ _ h=>Ω,λ_ _ _=>⟨B,A,C,bi,rfl,⟨⟨bo,ca,f8.W aN,f13.W aN,(bG.W bI).W aN⟩,⟨ce,cf,db⟩,aZ,D1 _ _ _ _ _ _ _ _⟩,f6.W aN⟩⟩⟩⟩
def ir.pair(h:ir l):l.Pairwise (·< ·):=U5.2 λi j hi a e=>h i j _ _ e (x8 hi) (x8 a)
def O9{m:Λ}(e:ir l)(hm:ir m)(h:∀x,x∈l↔x∈m):l=m:=by
 have f:l.Nodup:=e.pair.imp λh=>Ω
 have j:m.Nodup:=hm.pair.imp λh=>Ω
 exact List.Perm.eq_of_pairwise (le:=(·<= ·)) (λa b _ _ h1 p=>Int.le_antisymm h1 p) (e.pair.imp λh=>Int.le_of_lt h) (hm.pair.imp λh=>Int.le_of_lt h) ((List.perm_ext_iff_of_nodup f j).2 h)
def Pa{d6:Λ}(h:xL l l d6)(hu:ir l):d6=l:=O9 h.1 hu λx=>by rw[h.2];simp
def D3(h:l.Pairwise (·< ·)):ir l:=λi j x y e f p=>by
 have h1:=x5.1 f;have a:=x5.1 p;have:=U5.1 h i j h1.1 a.1 e;rw[h1.2,a.2]at this;exact this
def Pb{x:Λ}(hu:l.Nodup)(h:x.length=l.length):gx x l l=x:=by
 refine X0 λi=>?_;unfold gx;cases a:l[i]? with
 |none=>rw[u4,a,Y5 (by have:=List.getElem?_eq_none_iff.1 a;omega)];rfl
 |some v=>
  have hi:=(x5.1 a).1;rw[u4,a,Y3,rZ hu a,u5,x8 (show i<x.length by omega)];rfl
def D4{s:Λ}(hu:ir l)(h:s.length=l.length):dM s l s l l=s:=by
 refine X0 λi=>?_;unfold dM;cases a:l[i]? with
 |none=>rw[u4,a,Y5 (by have:=List.getElem?_eq_none_iff.1 a;omega)];rfl
 |some v=>
  have hi:=(x5.1 a).1;rw[u4,a,Y3,DS hu a,Int.max_self,x8 (show i<s.length by omega)];unfold jk;rw[ms Ω,u5,u9,x8 (show i<s.length by omega)];rfl
def Pc{s a b:Λ}(hu:l.Pairwise (·< ·))(h:s.length=l.length)(J:dT s)(e:a.length=(aQ s).toNat)(f:b.length=(aQ s).toNat):pt s a l s b l l k=ez k a b:=by
 have j:l.Nodup:=hu.imp λh=>Ω
 unfold pt;rw[D4 (D3 hu) h,NV J e f];apply List.map_congr_left;intro q _;rw[Pb j (by rw[kw,h])]
def Pd{s a b:Λ}(hu:l.Pairwise (·< ·))(B:∀x∈l,0<=x)(h:s.length=l.length)(J:ci s)(ac:aQ s<=4096)(C:a.length=(aQ s).toNat)(E:b.length=(aQ s).toNat)(f:D2 w s a l s b l k k v I):
  Ext w I/\∃e j q r,v= .tuple #[Γ e,r,Δ 0]/\dm I e j q s k (ez k a b):=by
 obtain⟨F,_,f⟩:=f;have y:=D3 hu;have z:Fits s l:=⟨h.symm,OC y B⟩;obtain⟨d6,G,_,H⟩:=f ⟨z,z⟩;have K:=Pa G y;subst K;obtain⟨_,_,_,A⟩:=H λp M N O=>rfl;rw[D4 y h,Pc hu h J.2 C E]at A;obtain⟨e,j,q,r,rfl,L,_⟩:=A rfl J ac;exact⟨F,e,j,q,r,rfl,L⟩
def Pe{s:Λ}(J:dT s):(br s).Nodup:=(DH J).imp λ{a b}h he=>by subst he;omega
def Pf{s:Λ}{i:Nat}(J:dT s)(hi:(br s)[i]?=σ t)(a:(br s)[j]?=σ t):i=j:=lO (Pe J) hi a
def Pg{s:Λ}(J:dT s)(h:dx s t):∃j:Nat,(br s)[j]?=σ t:=X8.1 ((DG J).2 h)
def uJ{g m:Nat}{d:List (x4×x4)}(h:ag w g e cs)(hm:de w m d)(a:af (λr=>r=m) w I):ag I g e cs:=h.aa a (λhe=>uz h hm he)
def D5{g m:Nat}{k:j4}{d:List (x4×x4)}(h:aB k e w g v l)(hm:de w m d)(a:af (λr=>r=m) w I):aB k e I g v l:=bw h a (λ_ f he=>DJ h hm f he)
def uK(cs:Λ)(o:Int):Prop:=o∈cs/\∀d∈cs,cs.count d<cs.count o\/(cs.count d=cs.count o/\o<=d)
def Ph{i:Nat}{x:Int}(h:l[i]?=σ x)(y:Int):(l.take (i+1)).count y=(l.take i).count y+if y=x then 1 else 0:=by
 rw[r9,h,List.count_append];congr 1;simp only[j6,List.count_singleton];by_cases a:y=x
 .subst a;simp
 .rw[rc a,rc (by simpa using λh=>a h.symm)]
def ic(p:Int×Int):x4×x4:=(Δ p.1,Δ p.2)
def r5:Keys v8 av λv=>∃n,v=Δ n:=Keys.int av.u
def r6(E:List (Int×Int)):∀p∈E.map ic,∃n,p.1=Δ n:=λp ac=>by
 obtain⟨q,_,rfl⟩:=j5.1 ac;exact⟨_,rfl⟩
def xM(cs:Λ)(E:List (Int×Int)):Prop:=(∀x,x∈E.map (·.1)↔x∈cs)/\∀p∈E,p.2=(cs.count p.1:Nat)
def D6{cs:Λ}{E:List (Int×Int)}(h:xM cs E){x:Int}(a:x∈cs):∃j:Nat,E[j]?=σ (x,((cs.count x:Nat):Int)):=by
 obtain⟨p,ac,rfl⟩:=j5.1 ((h.1 x).2 a);obtain⟨j,e⟩:=X8.1 ac;exact⟨j,by rw[e,<-h.2 p ac]⟩
def D7{df:x4}{cs:Λ}(h:aM .i64 w df cs)(au:cs≠[])(bf:cs.length<=1000000):ak v8 tt [df] w λv I=>Ext w I/\∃o,v=Δ o/\uK cs o:=by
 refine az func250 ?_;refine aG.cA (ue λm U hm W aL bg=>?_);rw[a1 aw.u (h.W W)];refine bY.range cs.length (λi V=>af (λr=>r=m) U V/\∃E,de V m (E.map ic)/\xM (cs.take i) E) Ω ⟨af.refl _ _,[],aL,by simp[xM]⟩ ?_ ?_
 .rintro i V aN hi ⟨C,E,z,e⟩ ay;obtain⟨x,X⟩:=aD (l:=cs) hi;have G:Ext w V:=W.put C Ω;have aP:∀y,(cs.take i).count y<=1000000:=λy=>by
   have:=List.count_le_length (a:=y) (l:=cs.take i);rw[o8]at this;omega
  refine bC Ω ?_;rw[bh aw.u av.i Ψ (h.W G) X];have N:=Ph X;have aA:∀y,y∈cs.take (i+1)↔y∈cs.take i\/y=x:=λy=>by
   rw[r9,X];simp
  by_cases H:x∈cs.take i
  .obtain⟨j,Y⟩:=D6 e H;have O:(E.map ic)[j]?=σ (Δ x,Δ (((cs.take i).count x:Nat):Int)):=by rw[u4,Y];rfl
   rw[rK ng.u r5 z (r6 E) ⟨_,rfl⟩ O];simp only[Bool.false_eq_true,if_false];have:=aP x;rw[aO,m1 Ω Ω];refine aG.cA (rL ng.u r5 z (r6 E) ⟨_,rfl⟩ (λP v0 Z aa J ad aQ=>?_) (λZ Q=>ro rfl (Q _ (x7 O))));have aR:=z.uniq aa O rfl;subst aR;rw[aO];have ae:(E.map ic).set P (Δ x,Δ ((((cs.take i).count x:Nat):Int)+1))=(E.set P (x,(((cs.take i).count x:Nat):Int)+1)).map ic:=by rw[T2];rfl
   rw[ae]at J;have aS:=(x5.1 Y).1;refine ay _ ⟨C.F ad,_,J,λy=>?_,λp ac=>?_⟩
   .rw[T2,rD (by rw[u4,Y];rfl),e.1,aA];exact⟨.inl,λh=>h.elim id (λh=>h▸H)⟩
   .obtain⟨q,f⟩:=X8.1 ac;by_cases ag:P=q
    .subst ag;rw[l9 aS]at f;cases f;show _=(((cs.take (i+1)).count x:Nat):Int);rw[N,ms rfl];omega
    .rw[Z6 ag]at f;have ah:p.1≠x:=λhe=>ag (z.uniq O (show(E.map ic)[q]?=σ (ic p) by rw[u4,f];rfl) (by rw[ic,he]));rw[e.2 p (x7 f),N,rc ah,Nat.add_zero]
  .have Q:∀p∈E.map ic,p.1≠U3 .i64 x:=λp ac he=>by
    obtain⟨q,f,rfl⟩:=j5.1 ac;have:q.1=x:=by simpa[ic]using he
    exact H ((e.1 x).1 (j5.2 ⟨q,f,this⟩))
   rw[uf ng.u r5 ⟨_,_,ai.i⟩ z (r6 E) ⟨_,rfl⟩ Q];simp only[Bool.false_eq_true,if_false];rw[aO,m1 Ω Ω];refine aG.cA (rL ng.u r5 z (r6 E) ⟨_,rfl⟩ (λP v0 Z aa=>ro rfl (Q _ (x7 aa))) (λZ _ J ad aQ=>?_));rw[aO];have ae:E.map ic++[(U3 .i64 x,U3 .i64 (0+1))]=(E++[(x,1)]).map ic:=by rw[Z4];rfl
   rw[ae]at J;have aU:(cs.take i).count x=0:=List.count_eq_zero.2 H;refine ay _ ⟨C.F ad,_,J,λy=>?_,λp ac=>?_⟩
   .rw[Z4,j9,e.1,aA];simp
   .rcases j9.1 ac with ac|ac
    .have ah:=λhe=>H ((e.1 x).1 (j5.2 ⟨p,ac,he⟩));rw[e.2 p ac,N,rc ah,Nat.add_zero]
    .rw[c9.1 ac];show(1:Int)=(((cs.take (i+1)).count x:Nat):Int);rw[N,ms rfl,aU];rfl
 rintro V aN ⟨C,E,z,e⟩;rw[o9]at e;have G:=W.put C Ω;refine b3 Ω ?_;refine(Mx (h.W G) au).Y ?_;rintro _ aV bi ⟨rfl,aj⟩;have bj:=G.size;have bk:=aj.size;refine aG.cA (CH ng.u (z.W aj) λL bm bn aW bo aX bp=>?_);refine⟨λmC B=>∃b A s left aB,mC=Δ b/\b∈cs/\Ext aV B/\iM B L m (E.map ic) left aB/\left=s.map ic/\(A++s).Perm E/\∀p∈A,cs.count p.1<cs.count b\/(cs.count p.1=cs.count b/\b<=p.1),λ_ B=>qv B L,
  ⟨w7 cs,[],E,E.map ic,ν,rfl,(Mb au).1,aW,aX,rfl,List.Perm.refl _,λp ac=>by cases ac⟩,?_⟩
 rintro _ B ⟨b,A,s,left,aB,rfl,am,an,aC,rfl,R,ao⟩;refine CJ aC (λ_=>by show w.heap.size<=L;omega) (λaZ=>?_) (λj p ap ac aE bq M=>?_)
 .rw[jY (v:=.bool v6) rfl,a7];have:s=[]:=List.map_eq_nil_iff.1 aZ;subst this;rw[U2]at R;refine⟨(G.F aj).F an,b,rfl,am,λd a2=>?_⟩;obtain⟨q,f,rfl⟩:=j5.1 ((e.1 d).2 a2);exact ao q (R.mem_iff.2 f)
 .rw[jY (v:=.bool v2) rfl,bO];refine CK M ?_;obtain⟨q,f,rfl⟩:∃q,s[j]?=σ q/\ic q=p:=by
   rw[u4]at ac;exact Y9.1 ac
  have aF:=R.mem_iff.1 (j9.2 (.inr (x7 f)));have br:=e.2 q aF;have a6:=(e.1 q.1).1 (j5.2 ⟨q,aF,rfl⟩);obtain⟨a8,ba⟩:=D6 e am;have bb:(E.map ic)[a8]?=σ (Δ b,Δ ((cs.count b:Nat):Int)):=by rw[u4,ba];rfl
  rw[jY (v:=Δ q.1) rfl,jY (v:=Δ q.2) rfl];have aH:(A++[q]++s.eraseIdx j).Perm E:=by
   refine List.Perm.trans ?_ R;rw[T6];exact List.Perm.append_left A (xn f)
  have aI:qv ap L<qv B L:=by
   rw[uj M,uj aC];have:=CW (x5.1 ac).1;omega
  refine aY (λv bc=>ap=bc/\∃r:Bool,v= .bool r/\(r=v2↔(cs.count b<cs.count q.1\/(cs.count q.1=cs.count b/\q.1<b)))) ?_ ?_
  .rintro _ _ ⟨rfl,r,rfl,S⟩;rw[cb];refine⟨λbd=>?_,λaJ=>?_⟩
   .have S:=S.1 bd;refine⟨⟨q.1,A++[q],s.eraseIdx j,_,_,rfl,a6,an.F aE,M,(oa ic s j),aH,λp ac=>?_⟩,aI⟩;rcases j9.1 ac with ac|ac
    .have:=ao p ac;omega
    .rw[c9.1 ac];exact .inr ⟨rfl,S9 _⟩
   .have S:¬(cs.count b<cs.count q.1\/(cs.count q.1=cs.count b/\q.1<b)):=λh=>by rw[S.2 h]at aJ;cases aJ
    refine⟨⟨b,A++[q],s.eraseIdx j,_,_,rfl,am,an.F aE,M,(oa ic s j),aH,λp ac=>?_⟩,aI⟩;rcases j9.1 ac with ac|ac
    .exact ao p ac
    .rw[c9.1 ac];omega
  .intro ax aq;have aK:∀K:x4->Prop,ab v8 (Instr.lookup ng (.map (σ m)) (Δ b) v6) ap K=K (Δ ((cs.count b:Nat):Int)):=λK=>by
    rw[rK ng.u r5 M.map (r6 E) ⟨_,rfl⟩ bb];simp
   rw[aK,bP,al];refine⟨λh1=>aq _ _ ⟨rfl,v2,rfl,⟨λ_=>.inl Ω,λ_=>rfl⟩⟩,λh1=>?_⟩;rw[aK,bl,al];refine⟨λbe=>?_,λbe=>aq _ _ ⟨rfl,v6,rfl,⟨λh=>(by cases h),λh=>Ω⟩⟩⟩;rw[aT];refine aq _ _ ⟨rfl,_,rfl,?_⟩;rw[sp];omega
def Pj{g:Nat}{k:j4}{p:o5}(h:aB k e w g v l)(q:ag w j p cs)(x:e≠p)(s:lw v r):r≠j:=by
 obtain⟨rfl,_⟩:=bW h s;obtain⟨_,⟨rfl,_⟩|⟨_,_,_,f,_⟩⟩:=h
 .obtain⟨a,n,c,h,_⟩:=s;cases h
 .rintro rfl;unfold ag at q f;rw[q]at f;injection f with h1;injection h1 with z y;exact x y.symm
def Pk(w:x6)(aj:Λ)(k:Int)(cs:Λ)(v:x4)(I:x6):Prop:=Ext w I/\∃g m o D,v=Γ g/\eW I g m aj k o D/\D.length<=(aQ aj).toNat/\jL aj (jI D o) cs/\uK cs o
def Pl{g bO:Nat}{cs:Λ}(h:dm w g bO sv aj k cs)(aE:∀c∈cs,cG c k):ak v8 JR [Γ g] w (Pk w aj k cs):=by
 obtain⟨⟨a8,gs,bb,hm,cl⟩,⟨_,_,bc⟩,J,an⟩:=id h;have ac:=prod_bound J;have cm:=J.1;have bd:cs≠[]:=λhe=>by rw[he]at an;simp at an;omega
 refine jy func197 ?_;rw[di fd.u];simp only[Y0,a7];refine(n8 h).Y ?_;rintro df V _ ⟨O,cn,cp,aH⟩;refine bE aw.i λao cq cr be bf=>?_;have ct:=bf.lt;refine bu aw.i aH.ls.cells.1 aH.ls.cells.2 bf (by simp[x4.cells]) λap bP cu aq=>?_;have aq:ag ap ao aw [df]:=aq;have cw:=O.size;have cz:=be.size;have bg:Ext V ap:=be.put bP Ω;have bi:=aH.W bg;have Z:=O.F bg;refine aY (λu au=>∃a E m o K L,u=Γ a/\Ext ap au/\ag au a e4 [Γ E]/\ap.heap.size<=m/\gw au E m K L aj k o []/\uK cs o) ?_ ?_
 .rintro _ au ⟨a,E,m,o,K,L,rfl,ad,e,cA,A,C⟩;have bQ:=h.W (Z.F ad);have bR:=aq.W ad;have bS:=bi.W ad;refine(qs bQ).Y ?_;rintro _ cB _ ⟨rfl,bT⟩;refine xh.Y ?_;rintro _ aI _ ⟨bU,bj,rfl,cC,bk⟩;have P:=bT.F bU;have bl:=A.W P;have bV:=bR.W P;have bm:=e.W P;have bW:=bS.W P;have bn:=hm.W ((Z.F ad).F P);have Q:=bl.2.2.1;have bX:=(Z.F ad).F P;have cD:=Z.size;have bY:=xg (g:=bj) (B0:=aI.heap.size) (sv:=sv) J;refine pY.old ⟨Nat,v6,nb,#[Γ bj],_,_,_,_,λi I=>af (λr=>r=m) aI I/\∃D,D.length<=i/\gw I E m K L aj k o D/\∀(j:Nat)t,(br aj)[j]?=σ t->jI D o t=if j<i then bq aj cs t else o,λ_ _ _=>False,rfl,bY.s,
   ?_,λ_ _ S h=>⟨h.1.W S,h.2.1.W S,X1 h.2.2 S.size⟩,λ_ _ _ S ⟨h1,D,bZ,b0,bc⟩=>⟨h1.F (S.aa _),D,bZ,b0.W S,bc⟩,λ_ _ _ _ _ h=>h,⟨bk,bn.ls,o4 _⟩,⟨af.refl _ _,[],o4 _,bl,λj t _=>by rw[rc Ω];rfl⟩,?_,?_,λ_ _ h=>h.elim,λ_ _ _ h=>h.elim⟩
  .rintro _ _ _ _ ⟨_,_,_,_,rfl,_⟩;rfl
  .rintro _ aV i _ b1 ⟨cE,cF,b2⟩ ⟨hi,rfl,cH,gt,b3,cI,y⟩ ⟨ay,D,bo,aJ,aK⟩;cases b3;have aL:(br aj)[i]?=σ (dr aj (i:Int)):=rC J.2 Ω;have b4:=w8 J.2 hi;generalize dr aj (i:Int)=t at*;have bp:=N2 J.2 an aL;intro b5 az _ _;intro b7 b8 _ _;have aA:=az.F b8;have aB:af (λr=>r=m) aI b7:=ay.F (aA.aa _);rw[aF Ψ ((uJ bm Q aB).cell rfl),aF Ψ ((uJ bV Q aB).cell rfl),bh aw.u av.i Ψ (D5 bW Q aB).ls bp];have aN:=aJ.W aA;refine(CV aN.is (y.W aA).ls).Y ?_;rintro _ cJ _ ⟨_,b9⟩;obtain⟨rfl,aO,D',bs,bt⟩:=b9 ⟨b4,aE _ (x7 bp)⟩;have aP:=aB.F aO;have cK:=bs.2;refine⟨⟨uJ bk Q aP,(D5 bn Q aP).ls,X1 b2 (X1 aA.size aO.size)⟩,⟨aP,D',Ω,aN.put aO bt,λj s M=>?_⟩,λh=>by cases h⟩;rw[bs.cost aN.is.nodup bt.nodup];by_cases bw:j=i
   .subst bw;rw[aL]at M;cases M;rw[ms rfl,ms Ω]
   .rw[rc (λ(he:s=t)=>bw (Pf J.2 (by rw[<-he];exact M) aL)),aK j s M];by_cases h1:j<i
    .rw[ms h1,ms Ω]
    .rw[rc h1,rc Ω]
  .rintro i b1 rfl ⟨ay,D,bo,aJ,aK⟩;rw[aF Ψ ((uJ bm Q ay).cell rfl)];intro b5 az _;refine⟨(bX.put ay Ω).F az,E,m,o,D,rfl,aJ.is.W az,bo,⟨an,λt ca=>?_⟩,C⟩;obtain⟨j,M⟩:=Pg J.2 ca;have:=(x5.1 M).1;rw[j1 J.2]at this;rw[aK j t M,ms this]
 intro ax bx;intro z ae _ _;have aQ:=Z.F ae;have bz:=ae;have aC:=h.W aQ;have bC:=bi.W ae;have cL:=ae.size;rw[aF Ψ ((aq.W ae).cell rfl)];have bD:∀{a:Nat}{I:x6}{aV:x4}{o:Int},Ext z I->z.heap.size<=a->(∃f,ag I a e4 [f])->aM .i64 I aV aj->uK cs o->
   ak v8 p3 [aV,Δ k,Δ o] I λB q=>ab v8 (Y8 B 0) q λN=>ab v8 (Y8 B 1) q λ_=>aG v8 (j0 e4 (Γ a) N) q λ(_:Unit)G=>ax (Γ a) G:=by
  rintro a I aV o x p ⟨f,e⟩ y C;refine(CP y).Y ?_;rintro _ q _ ⟨aR,_,_,aS⟩;obtain⟨E,m,rfl,cb,cc,A⟩:=aS J (aE _ C.1);obtain⟨K,L,A⟩:=A.at;rw[bA,bB];have cd:=e.lt;have s':=x.size;refine bu e4.i rfl rfl (e.W aR) Ξ λG bF cM ce=>?_;refine bx _ _ ⟨a,E,m,o,K,L,rfl,((bz.F x).F aR).put bF Ω,ce,Ω,A.aa bF (λhe=>by have he:=he;omega) (λhe=>by have he:=he;omega) (λr aT he=>?_),C⟩;exact Pj A.2.1 (e.W aR) Φ aT he
 have bG:∀{a:Nat}{I:x6}{aV:x4},Ext z I->z.heap.size<=a->(∃f,ag I a e4 [f])->aM .i64 I aV aj->
   ak v8 tt [df] I λah V=>ak v8 p3 [aV,Δ k,ah] V λB q=>ab v8 (Y8 B 0) q λN=>ab v8 (Y8 B 1) q λ_=>aG v8 (j0 e4 (Γ a) N) q λ(_:Unit)G=>ax (Γ a) G:=by
  rintro a I aV x p ⟨f,e⟩ y;refine(D7 (bC.W x).ls bd Ω).Y ?_;rintro _ V _ ⟨O,o,rfl,C⟩;exact bD (x.F O) p ⟨f,e.W O⟩ (y.W O) C
 have bH:∀{a:Nat}{I:x6}{aV:x4},Ext z I->z.heap.size<=a->(∃f,ag I a e4 [f])->aM .i64 I aV aj->
   ak v8 wD [Γ g] I λaU U=>(Ext z U\/b6 v8 (u6 aw (Γ ao)) df U/\True)/\
    ak v8 tt [df] U λah V=>ak v8 p3 [aV,aU,ah] V λB q=>ab v8 (Y8 B 0) q λN=>ab v8 (Y8 B 1) q λ_=>aG v8 (j0 e4 (Γ a) N) q λ(_:Unit)G=>ax (Γ a) G:=by
  rintro a I aV x p ⟨f,e⟩ y;refine(CE (aC.W x)).Y ?_;rintro _ U _ ⟨rfl,H⟩;exact⟨.inl (x.F H),bG (x.F H) p ⟨f,e.W H⟩ (y.W H)⟩
 have bI:aj.length<=1000:=Ω
 have bJ:∀{a:Nat}{I:x6},Ext z I->z.heap.size<=a->(∃f,ag I a e4 [f])->
   ak v8 AY [.agg #[sv]] I λcf w0=>(Ext z w0\/b6 v8 (u6 aw (Γ ao)) df w0/\True)/\
    ak v8 wD [Γ g] w0 λaU U=>(Ext z U\/b6 v8 (u6 aw (Γ ao)) df U/\True)/\
    ak v8 tt [df] U λah V=>ak v8 p3 [cf,aU,ah] V λB q=>ab v8 (Y8 B 0) q λN=>ab v8 (Y8 B 1) q λ_=>aG v8 (j0 e4 (Γ a) N) q λ(_:Unit)G=>ax (Γ a) G:=by
  rintro a I x p ⟨f,e⟩;refine(CF (hm.W (aQ.F x)).ls bI).Y ?_;rintro aV U _ ⟨H,_,_,y⟩;exact⟨.inl (x.F H),bH (x.F H) p ⟨f,e.W H⟩ y.ls⟩
 have ai:∀{I:x6}{R:x4->x6->Prop},Ext z I->(∀a al,z.heap.size<=a->Ext I al->(∃f,ag al a e4 [f])->R (Γ a) al)->aG v8 (Q8 e4 v2 (.tuple #[])) I R:=λ{I}{R}x cg=>by
  have:=x.size;exact bE e4.i λa al p ch bb=>cg a al Ω ch ⟨_,bb⟩
 refine⟨?_,ai (Ext.refl _) λa cN p aD e=>⟨.inl aD,?_⟩⟩
 rotate_left
 .refine (qs (aC.W aD)).Y ?_;rintro _ cO _ ⟨rfl,aW⟩;obtain⟨f,e⟩:=e;exact⟨.inl (aD.F aW),bJ (aD.F aW) p ⟨f,e.W aW⟩⟩
 refine(qs aC).Y ?_;rintro _ cP _ ⟨rfl,W⟩;refine⟨.inl W,?_,ai W λa cQ p bK e=>⟨.inl (W.F bK),bJ (W.F bK) p e⟩⟩;refine(CF (hm.W (aQ.F W)).ls bI).Y ?_;rintro aV cR _ ⟨ci,_,_,y⟩;have X:=W.F ci;refine⟨.inl X,?_,ai X λa cS p aX e=>⟨.inl (X.F aX),bH (X.F aX) p e (y.W aX).ls⟩⟩;refine(CE (aC.W X)).Y ?_;rintro _ cT _ ⟨rfl,aZ⟩;have Y:=X.F aZ;refine⟨.inl Y,?_,ai Y λa cU p a1 e=>⟨.inl (Y.F a1),bG (Y.F a1) p e ((y.W aZ).W a1).ls⟩⟩;refine(D7 (bC.W Y).ls bd Ω).Y ?_;rintro _ cV _ ⟨bL,o,rfl,C⟩;have am:=Y.F bL;have bM:=(y.W aZ).W bL;refine⟨?_,ai am λa cW p a2 e=>⟨.inl (am.F a2),bD (am.F a2) p e (bM.W a2).ls C⟩⟩;refine(CP bM.ls).Y ?_;rintro _ cX _ ⟨cj,_,_,aS⟩;obtain⟨E,m,rfl,cb,cc,A⟩:=aS J (aE _ C.1);obtain⟨K,L,A⟩:=A.at;rw[bA,bB];have a6:=am.F cj;refine bE e4.i λa cY p ba e=>?_;refine⟨.inl (a6.F ba),?_⟩;have cd:=e.lt;obtain⟨cZ,c0,t3⟩:=A.rH;have c1:=am.size;have c2:=a6.size;refine bu e4.i rfl rfl e (by simp[x4.cells]) λc3 bN c4 ck=>?_;exact bx _ _ ⟨a,E,m,o,K,L,rfl,((bz.F a6).F ba).put bN Ω,ck,Ω,(A.W ba).aa bN (λhe=>by have he:=he;omega) (λhe=>by have he:=he;omega) (λr aT he=>by have he:r=a:=he;have:=t3 r aT;omega),C⟩
def D8{acc:List cR}{g:cR}(h:∀x∈acc,x.1≠g.1):jH k acc g=acc++[g]:=by
 unfold jH;rw[rc];intro hm;obtain⟨x,a,he⟩:=j5.1 hm;exact h x a he
def Pm{acc:List cR}{g h:cR}{i:Nat}(e:kD acc)(hi:acc[i]?=σ h)(he:h.1=g.1):jH k acc g=acc.set i (h.1,ez k h.2 g.2):=by
 have f:=(x5.1 hi).1;unfold jH;rw[ms (j5.2 ⟨h,x7 hi,he⟩)];refine X0 λj=>?_;rw[u4,Y7];by_cases a:i=j
 .subst a;rw[hi,Y3,ms he,ms rfl,ms f]
 .rw[rc a];cases p:acc[j]? with
  |none=>rfl
  |some y=>
   have:y.1≠g.1:=λq=>a (by
    have h1:(acc.map (·.1))[i]?=σ g.1:=by rw[u4,hi,Y3,he]
    have r:(acc.map (·.1))[j]?=σ g.1:=by rw[u4,p,Y3,q]
    exact lO e h1 r)
   rw[Y3,rc this]
def Pn{α β:Type}{f:β->α->β}{b:β}{l:List α}{i:Nat}{x:α}(h:l[i]?=σ x):(l.take (i+1)).foldl f b=f ((l.take i).foldl f b) x:=by
 rw[r9,h,j6,S2];rfl
def oc(w:x6)(k:Int)(co:Λ)(x:cz):Prop:=(∃a,aB .i64 ai w a x.sv x.sc)/\∃m o D,eW w x.g m (bN co x.sc) k o D/\D.length<=4096/\jL (bN co x.sc) (jI D o) x.cs
def oc.W{x:cz}(h:oc w k co x)(a:Ext w I):oc I k co x:=by
 obtain⟨⟨e,h1⟩,m,o,D,f,j⟩:=h;exact⟨⟨e,h1.W a⟩,m,o,D,f.W a,j⟩
def oc.aa{x:cz}(h:oc w k co x)(q:af S w I)(j:∀r,S r->∃e c,ag w r e c/\e≠fO/\e≠ai):oc I k co x:=by
 obtain⟨⟨z,h1⟩,m,o,D,A,B⟩:=h;obtain⟨sv,gs,f⟩:=A.at;have s:∀{g:Nat}{v:x4}{l:Λ},aB .i64 ai w g v l->∀r,lw v r->¬S r:=λhm r C J=>by
  obtain⟨e,c,a,_,p⟩:=j r J;exact ch hm a (λhe=>p he.symm) C rfl
 refine⟨⟨z,bw h1 q (s h1)⟩,m,o,D,(f.aa q (λJ=>?_) (λJ=>?_) (s f.2.1)).is,B⟩
 .obtain⟨e,c,a,p,_⟩:=j _ J;have y:=f.1;unfold ag at y a;rw[y]at a;exact p (Obj.cells.inj (Z5 a)).2.1.symm
 .obtain⟨e,c,a,_,_⟩:=j _ J;exact uz a f.2.2.1 rfl
def r7(w:x6)(g:Nat)(v:x4)(k:Int)(co:Λ)(L:List cz):Prop:=bk e7 2 cN w g v L/\∀x∈L,oc w k co x
def r7.W{g:Nat}{L:List cz}(h:r7 w g v k co L)(a:Ext w I):r7 I g v k co L:=⟨h.1.W a,λx e=>(h.2 x e).W a⟩
def Po(w:x6)(B a:Nat)(f:ce):Prop:=∃lc e gz g L,ag w a cI [cf f.name,Δ f.k,lc,e]/\aB .i64 ai w gz lc f.co/\r7 w g e f.k f.co L/\L.map eg=fX f/\B<=a/\(∀r,lw lc r->B<=r)/\∀x∈L,∀r,lw x.sv r->B<=r
def Pp{g bb:Nat}{L:List cz}{q:Λ}(h:fj w g v L)(ac:ag w bb an [sv])(J:aM .i64 w sv q):
  ak v8 AM [v,.func (.func AN) #[] #[Γ bb]] w λr I=>Ext w I/\((r=Δ (-1)/\∀x∈L,x.sc≠q)\/∃i:Nat,r=Δ (i:Int)/\∃x,L[i]?=σ x/\x.sc=q):=by
 refine az func184 ?_;rw[ef gJ.u h.1];refine b7.range L.length (λi _ U=>Ext w U/\∀x∈L.take i,x.sc≠q) h.1.le ⟨Ext.refl _,λc a=>by simp at a⟩ ?_ ?_
 .rintro i _ U k hi ⟨f,s⟩ hk;refine bC Ω ?_;obtain⟨x,y⟩:=aD (l:=L) hi;rw[uG rfl (h.W f) y];show ak v8 AN [ld x,Γ bb] U _;obtain⟨⟨C,hm⟩,_⟩:=(h.W f).at y;refine az func185 ?_;refine bn λaq V E j z=>?_;have z:ag V aq c3 [x.sv,Γ x.g]:=by
   obtain⟨_,_,_,e⟩:=c5 hm.ls;simp only[ld,e7,e]at z ⊢;exact z
  rw[aJ c3.p 0 z rfl,aF Ψ ((ac.W (f.F j)).Qz rfl)];refine(Lb (hm.ls.W j) (J.W (f.F j))).Y ?_;rintro _ G _ ⟨rfl,A⟩;rw[al];refine⟨λhe=>⟨(f.F j).F A,.inr ⟨i,rfl,x,y,he⟩⟩,λB=>?_⟩;rw[aO];refine hk _ _ ⟨(f.F j).F A,λc a=>?_⟩;rw[r9,y]at a;rcases j9.1 a with a|a
  .exact s c a
  .simp at a;subst a;exact B
 .rintro _ U k ⟨f,s⟩;rw[o9]at s;rw[aT,al];exact⟨λh=>Ω,λ_=>⟨f,.inl ⟨rfl,s⟩⟩⟩
def eY(f:ce)(i:Nat):List cR:=((f.d9.take i).map (jG f.co f.k)).foldl (jH f.k) []
def D9{f:ce}(a:fq N f)(i:Nat):(∀g∈eY f i,gR f.co f.k g)/\kD (eY f i)/\(eY f i).length<=i:=by
 have:=xA (co:=f.co) (k:=f.k) (by have:=a.k.1;omega) (l:=(f.d9.take i).map (jG f.co f.k)) (acc:=[]) (λh au=>by cases au) List.nodup_nil λg j=>by
  obtain⟨x,p,rfl⟩:=j5.1 j;exact qz a (T1 p)
 refine⟨this.1,this.2.1,?_⟩;have e:=this.2.2;rw[List.length_nil,r8,X6,o8]at e;exact X1 e (Nat.min_le_left _ _)
def xN{f:ce}{i:Nat}{x:cE}(h:f.d9[i]?=σ x):eY f (i+1)=jH f.k (eY f i) (jG f.co f.k x):=by
 unfold eY;rw[r9,h,j6,Z4,S2];rfl
def Ea(f:ce):eY f f.d9.length=fW f:=by unfold eY fW;rw[o9]
def xO{L:List cz}{i:Nat}{x:cz}{D:List cR}(h:L.map eg=D)(a:L[i]?=σ x):eg x∈D:=by rw[<-h];exact j5.2 ⟨x,x7 a,rfl⟩
def Pq(w:x6)(f:ce)(v:x4)(I:x6):Prop:=Ext w I/\((¬nz f.d9<=16384/\∃e:Int,e≠0/\v= .tuple #[.pointer ν,Δ e])\/∃a,v= .tuple #[Γ a,Δ 0]/\Po I w.heap.size a f)
def uL{g:Nat}{sc cs:Λ}(hm:aB .i64 ai w g sv sc):∀u∈e7 ⟨sv,a,sc,cs⟩,u.oneCell'=v2:=λu hu=>by
 simp[e7]at hu;rcases hu with rfl|rfl
 .exact hm.ls.cells.2
 .rfl
def Pr{bO:Nat}{f:ce}(bP:mB w bO f)(G:fq N f)(bQ:N<=60000)(cZ:f.name≠[]/\∀b∈f.name,bV b=v2):
  ak v8 I0 [Γ bO] w (Pq w f):=by
 have hk:=G.k;refine az func125 ?_;refine(OM bP G bQ cZ).Y ?_;rintro _ U _ ⟨aK,e,rfl,he⟩;rw[bK,al];refine⟨λbR=>⟨aK,.inl ⟨λh=>bR (he h),e,bR,rfl⟩⟩,λeo=>?_⟩;have bS:=bP.W aK;obtain⟨lc,aM,gz,bd,bT,c0,be,aN⟩:=id bS;have ep:bd.length<=256:=by rw[aN.1];exact G.mr
 rw[aL cI.p 3 bT rfl,fU dS.u be];refine b7.range bd.length (λi l V=>∃g L,Ext U V/\fj V g l L/\Sem V f.k f.co L/\L.map eg=eY f i/\(∀r,lm l r->U.heap.size<=r)/\∀x∈L,∀r,lw x.sv r->U.heap.size<=r) (nX be)
  ⟨0,[],Ext.refl _,⟨bk.nil _ _ _ _ _,λx E=>(by cases E)⟩,λx E=>(by cases E),rfl,λr A=>(fi A).elim,λx E=>(by cases E)⟩ ?_ ?_
 .rintro i l V c1 hi ⟨g,L,X,ay,aP,H,O,aA⟩ c2;obtain⟨d,bU⟩:=aD (l:=bd) hi;obtain⟨x,aR⟩:∃x,f.d9[i]?=σ x:=⟨_,x8 (by have:=aN.1;omega)⟩;have bX:=x7 aR;have c4:=aN.2 i x d aR bU;have Y:=qz G bX;obtain⟨c6,c7,er⟩:=D9 G i;have c8:L.length<=i:=by have bZ:=congrArg Q2 H;rw[r8]at bZ;omega
  refine bC Ω ?_;refine aY (λl' aS=>∃P Z,Ext U aS/\fj aS P l' Z/\Sem aS f.k f.co Z/\Z.map eg=eY f (i+1)/\(∀r,lm l' r->U.heap.size<=r)/\∀x∈Z,∀r,lw x.sv r->U.heap.size<=r) ?_ ?_
  .rintro l' aS ⟨P,Z,h1,da,db,dc,dd⟩;rw[aO];exact c2 _ _ ⟨P,Z,h1,da,db,dc,dd⟩
  intro ax b2;refine mi (α:=iq) cN.p rfl dS.u cN.i (bp be X) bU λcs bf=>?_;have b4:cs.length=2:=ao.len bf;refine bE cN.i λaq es et de df=>?_;refine b1 (vs:=cs) cN.i b4 rfl (ao.one bf) df λdg dh eu di=>?_;have J:Ext V dg:=de.put dh Ω;rw[bz cN.p cN.i b4 di.range];refine(OW G bQ bX c4 (bp bf J)).Y ?_;rintro _ dj _ ⟨dl,sv,gs,b5,dn,dp,rfl,ev,ab,b6⟩;rw[bA,bB];refine bE an.i λbb ew ey dq dr=>?_;refine bu an.i ab.ls.cells.1 ab.ls.cells.2 dr (by simp[x4.cells]) λb8 ds eA aT=>?_;have bg:Ext dj b8:=dq.put ds Ω;have aT:ag b8 bb an [sv]:=aT;rw[mg];have bh:=(J.F dl).F bg;have eB:=bh.size;have eC:=X.size;refine(Pp (ay.W bh) aT (ab.ls.W bg)).Y ?_;rintro _ eD _ ⟨aV,A⟩;have aW:=bh.F aV;have b9:=bg.F aV;have bi:=ab.W b9;have ca:=b6.W b9;have cb:=aT.W aV;have cc:=ay.W aW;have bj:=aP.W aW;rcases A with⟨rfl,dt⟩|⟨cd,rfl,y,B,aX⟩
  .refine bC Ω ?_;rw[aF Ψ (cb.Qz rfl),dk (cs:=#[sv,Γ b5]) (by obtain⟨_,_,_,rfl⟩:=c5 ab.ls;kernel_rfl)];let a:cz:=⟨sv,b5,bx x.scope,(jG f.co f.k x).2⟩;have bl:∀u∈e7 a,u.oneCell'=v2:=uL bi;refine iO (f:=e7) (a:=a) gJ.u c3.i Ω rfl rfl λeE eF du eH ad dv=>?_;have ah:=cc.W ad;refine jl (f:=e7) (a:=a) gJ.u c3.i rfl ah.1 (by simpa using dv.sl) bl Ω Ω λaC P eI aE bm aG=>?_;have cg:=bi.W ad;have aZ:∀{r:Nat},lm l r->∃c,ag du r c3 c:=λA=>by
    obtain⟨rfl,c,C⟩:=dU ah.1 A;exact⟨c,C⟩
   refine b2 _ _ ⟨P,L++[a],((X.F aW).F ad).then aG (λr A he=>by have:=O r he;omega),fj.mk aE λz s=>?_,λz s=>?_,?_,λr A=>?_,λz s r A=>?_⟩
   .rcases j9.1 s with s|s
    .have:=(ah.2 z s).aa aG λr A he=>(ah.2 z s).2.1 r A (ah.1.lw he).1;exact⟨this.1,this.2.2⟩
    .rw[c9.1 s];exact⟨⟨gs,bw cg aG λr A he=>by obtain⟨c,C⟩:=aZ he;exact ch cg C Φ A rfl⟩,Y.scope⟩
   .rcases j9.1 s with s|s
    .exact (bj.W ad).row ah aG z s
    .rw[c9.1 s];exact⟨dn,dp,xJ (ca.W ad) aG λr A=>aZ A⟩
   .rw[Z4,H,xN aR,D8]
    .rfl
    .intro c I dw;rw[<-H]at I;obtain⟨z,s,rfl⟩:=j5.1 I;exact dt z s dw
   .rcases bm r A with h|h
    .exact O r h
    .have:=ad.size;have:=aV.size;omega
   .rcases j9.1 s with s|s
    .exact aA z s r A
    .rw[c9.1 s]at A;have bZ:=(bW ab A).1;have:=J.size;omega
  .refine b3 Ω ?_;intro eJ Q _ _;have bo:=cc.W Q;have cj:=(x5.1 B).1;obtain⟨dx,dy,a1⟩:=(bj.W Q) y (x7 B);have cl:=cb.W Q;have cm:=bi.W Q;have dz:=ca.W Q;rw[ck rfl gJ.u c3.i bo.1 cj,aU c3.p rfl,aF Ψ (bo.1.range B 1 _ rfl),aF Ψ (cl.Qz rfl),aF Ψ (cl.Qz rfl)];have aj:gR f.co f.k (eg y):=c6 _ (xO H B);rw[aX]at a1;have cn:∀{c:Int},0<=c/\c<=f.k->cG c f.k:=λh=>⟨hk,h.1,h.2⟩;refine(O8 a1 dz cm.ls cm.ls hk (λc I=>cn (aj.jm c I)) (λc I=>cn (Y.jm c I))).Y ?_;intro eK cp _ dA;have dC:y.cs.length=(aQ (bN f.co (bx x.scope))).toNat:=by have:=aj.len;rw[show(eg y).1=y.sc from rfl,aX]at this;exact this
   have dD:ci (bN f.co (bx x.scope)):=b6.2.2.1;obtain⟨bq,cq,cr,ct,eL,rfl,dE⟩:=Pd Y.up (λv dF=>(Y.scope.1 v dF).1) (by simp[bN];rfl) dD Y.small dC Y.len dA;rw[fQ,fR,fS];have R:=bo.W bq;rw[ck rfl gJ.u c3.i R.1 cj,aU c3.p rfl];let a:cz:=⟨y.sv,cq,y.sc,ez f.k y.cs (jG f.co f.k x).2⟩;refine k6 (f:=e7) (j:=1) (a:=y) (a':=a) fd.i rfl rfl R.1 B rfl Ω λdG a2 eM dH=>?_;have aZ:∀{r:Nat},lm l r->∃c,ag cp r c3 c:=λA=>by
    obtain⟨rfl,c,C⟩:=dU R.1 A;exact⟨c,C⟩
   refine b2 _ _ ⟨g,L.set cd a,((X.F aW).F (Q.F bq)).then a2 (λr A he=>by have:=O r he;omega),fj.mk dH λz s=>?_,λz s=>?_,?_,O,λz s=>?_⟩
   .have cu:∀z∈L,(∃br,aB .i64 ai dG br z.sv z.sc)/\la z.sc:=λz s=>by
     have:=(R.2 z s).aa a2 λr A he=>(R.2 z s).2.1 r A (R.1.lw he).1;exact⟨this.1,this.2.2⟩
    rcases W8 s with s|rfl
    .exact cu z s
    .exact cu y (x7 B)
   .rcases W8 s with s|rfl
    .exact ((bj.W Q).W bq).row R a2 z s
    .refine⟨cr,ct,xJ ?_ a2 λr A=>aZ A⟩;show dm cp cq cr ct (bN f.co y.sc) f.k _;rw[aX];exact dE
   .rw[T2,H,xN aR,Pm (g:=jG f.co f.k x) c7 (i:=cd) (h:=eg y) (by rw[<-H,u4,B];rfl) aX];rfl
   .rcases W8 s with s|rfl
    .exact aA z s
    .exact aA y (x7 B)
 .rintro l V c1 ⟨g,L,X,ay,aP,H,O,aA⟩;refine b3 Ω ?_;rw[aN.1,Ea]at H;have c8:L.length<=256:=by
   have:=(mz G).2.2;rw[<-H,r8]at this;have:=G.mr;omega
  refine(O2 ay aP Ω).Y ?_;rintro eN cw _ ⟨cA,cB,dI⟩;have dJ:Ext U cw:=X.then cA λr A he=>by have:=O r he;omega
  have dK:Sem cw f.k f.co (L.filter gA):=λz s=>(aP.row ay cA) z (S8.1 s).1;have eO:(L.filter gA).length<=L.length:=List.length_filter_le _ _;refine(OT cB Ω).Y ?_;rintro _ cC _ ⟨cD,M,a6,dL,cE⟩;have dM:Ext U cC:=dJ.then cD λr A he=>by have:=O r (dI r he);omega
  have cF:Sem cC f.k f.co M:=λz s=>(dK.row cB cD) z (a6.mem_iff.1 s);have eP:M.length<=256:=by rw[a6.length_eq];omega
  have dN:∀x∈M,∀r,lw x.sv r->U.heap.size<=r:=λx E=>aA x (S8.1 (a6.mem_iff.1 E)).1;have cH:M.map eg=fX f:=by
   refine NR G ?_ ?_
   .refine (a6.map eg).F ?_;rw[<-H,List.filter_map];exact .refl _
   .rw[List.pairwise_map];refine U5.2 λp q ac cJ dO=>?_;exact dL p q _ _ (W0 _) dO cJ (x8 ac) (x8 cJ)
  intro eQ a7 _ _;have am:=dM.F a7;have eR:=bS.W am;have bs:=bT.W am;rw[aL cI.p 0 bs rfl,aL cI.p 1 bs rfl,aL cI.p 2 bs rfl];refine(k1 (c0.ls.W am) (by have:=G.co.2.1;omega)).Y ?_;rintro aH cK _ ⟨S,dP,eS,bt⟩;refine⟨.inl S,?_⟩;rw[dk (cs:=#[cf f.name,Δ f.k,aH,.slice ν 0 0]) (by obtain⟨_,_,_,rfl⟩:=c5 bt.ls;kernel_rfl)];refine bn λW dQ eU a8 bD=>?_;have bD:ag dQ W cI [cf f.name,Δ f.k,aH,.slice ν 0 0]:=bD;have eV:=(am.F S).F a8;have dR:=((cE.W a7).W S).W a8;have eW:=((cF.W a7).W S).W a8;rw[ef gJ.u dR.1];refine bY.range M.length (λi ap=>∃aM gr K,Ext cK ap/\ag ap W cI [cf f.name,Δ f.k,aH,aM]/\r7 ap gr aM f.k f.co K/\K.map eg=(M.take i).map eg/\K.length=i/\(∀r,lm aM r->cK.heap.size<=r)/\∀x∈K,∀r,lw x.sv r->U.heap.size<=r) Ω
   ⟨_,0,[],a8,bD,⟨bk.nil _ _ _ _ _,λx E=>(by cases E)⟩,rfl,rfl,λr A=>(fi A).elim,λx E=>(by cases E)⟩ ?_ ?_
  rotate_left
  .rintro ap dT ⟨aI,gr,K,au,av,bF,ba,_,_,bG⟩;rw[o9,cH]at ba;refine b3 Ω ?_;have eX:=aK.size;have eZ:=am.size;have e0:=S.size;exact⟨(aK.F (am.F S)).F au,.inr ⟨W,rfl,aH,aI,dP,gr,K,av,bt.W au,bF,ba,Ω,λr A=>by have:=(bW bt A).1;omega,λx E r A=>by have:=bG x E r A;omega⟩⟩
  rintro i ap dT hi ⟨aI,gr,K,au,av,bF,ba,dV,cL,bG⟩ dW;obtain⟨y,B⟩:=aD (l:=M) hi;have cM:=(a7.F S).F au;have cO:=cE.W cM;have cP:=cO.at B;obtain⟨dx,dy,a1⟩:=(cF.W cM) y (x7 B);have aj:gR f.co f.k (eg y):=uv G _ (xO cH B);refine bC Ω ?_;rw[uG rfl cO B];refine bE c3.i λgy e1 e2 dX dY=>?_;refine b1 (vs:=e7 y) c3.i rfl rfl cP.one dY λdZ ea e3 eb=>?_;have ec:Ext ap dZ:=dX.put ea Ω;intro e4 cQ _ _;have bH:=ec.F cQ;have cR:=eb.W cQ;have ed:=av.W bH;rw[aL cI.p 3 ed rfl,aJ c3.p 0 cR rfl,aJ c3.p 1 cR rfl];refine(Pl (a1.W bH) λc I=>⟨hk,(aj.jm c I).1,(aj.jm c I).2⟩).Y ?_;rintro _ e5 _ ⟨bI,ae,m,o,D,rfl,ee,eh,ei,_⟩;refine⟨.inl bI,?_⟩;have cS:=bH.F bI;obtain⟨⟨br,cT⟩,_,e6⟩:=cP;have cU:=cT.W cS;rw[dk (cs:=#[y.sv,Γ ae]) (by obtain⟨_,_,_,e⟩:=c5 cT.ls;rw[e];kernel_rfl)];let a:cz:=⟨y.sv,ae,y.sc,y.cs⟩;have bl:∀u∈e7 a,u.oneCell'=v2:=uL cU;refine iO (f:=e7) (a:=a) dS.u cN.i Ω rfl rfl λv25 e8 bJ e9 J ej=>?_;refine⟨.inl (bI.F J),?_⟩;have aw:=cS.F J;have bc:=bF.W aw;refine jl (f:=e7) (a:=a) dS.u cN.i rfl bc.1 (by simpa using ej.sl) bl Ω Ω λaC P ek aE bm cV=>?_;have fa:=au.size;have fb:=aw.size;have bL:ag ek W cI [cf f.name,Δ f.k,aH,aI]:=(av.W aw).aa cV λhe=>by
   obtain⟨rfl,c,C⟩:=dU bc.1 he;have h1:=av.W aw;unfold ag at C h1;rw[h1]at C;exact ro (Obj.cells.inj (Z5 C)).2.1 Φ
  rw[b0,aU cI.p rfl];have cW:aC.cells= #[aC]/\aC.oneCell'=v2:=by
   obtain⟨_,_,_,_,_,rfl,_⟩:=aE.sl;exact⟨rfl,rfl⟩
  refine bu dS.i cW.1 cW.2 bL Ξ λem cX fc en=>?_;rw[aO];have bM:af (λr=>r=W\/lm aI r) bJ em:=(cV.Y λr _ h=>.inr h).F (cX.Y λr _ h=>.inl h);have cY:∀r,(r=W\/lm aI r)->∃e c,ag bJ r e c/\e≠fO/\e≠ai:=λr A=>by
   rcases A with rfl|A
   .exact⟨_,_,av.W aw,Φ,Φ⟩
   .obtain⟨rfl,c,C⟩:=dU bc.1 A;exact⟨_,c,C,Φ,Φ⟩
  refine dW _ ⟨aC,P,K++[a],?_,en,⟨aE.aa cX λr A he=>?_,λz s=>?_⟩,?_,by rw[n9,dV];rfl,λr A=>?_,λz s=>?_⟩
  .exact (au.F aw).then bM λr A he=>by
    rcases he with rfl|he
    .omega
    .have:=cL r he;omega
  .have he:r=W:=he;subst he;obtain⟨rfl,c,C⟩:=dU aE A;unfold ag at C bL;rw[bL]at C;exact ro (Obj.cells.inj (Z5 C)).2.1 Φ
  .rcases j9.1 s with s|s
   .exact (bc.2 z s).aa bM cY
   .rw[c9.1 s];refine oc.aa (w:=bJ) ⟨⟨br,cU.W J⟩,m,o,D,ee.W J,?_,ei⟩ bM cY;have:=aj.small;exact X1 eh (by show(aQ (bN f.co (eg y).1)).toNat<=4096;omega)
  .rw[Z4,ba,r9,B,Z4];rfl
  .rcases bm r A with h|h
   .exact cL r h
   .omega
  .rcases j9.1 s with s|s
   .exact bG z s
   .rw[c9.1 s];exact dN y (x7 B)
def ft{a:o5}{c f:List x4}(h:ag w r e c)(aW:ag w r a f):e=a:=by
 unfold ag at h aW;rw[h]at aW;exact(Obj.cells.inj (Z5 aW)).2.1
def cL{α:Type}{f:α->List x4}{k:Nat}{a:o5}{g:Nat}{L:List α}(h:bk f k e w g v L)(p:ag w j a cs)(q:e≠a):¬lm v j:=λr=>by
 obtain⟨rfl,c,s⟩:=dU h r;exact q (ft s p)
structure mD where
 v:x4
 l:Λ
def sa(h:mD):List x4:=[h.v]
def iS(w:x6)(g:Nat)(v:x4)(aZ:List mD):Prop:=bk sa 1 aw w g v aZ/\∀h∈aZ,∃a,aB .i64 av w a h.v h.l
def iS.W{g:Nat}{aZ:List mD}(h:iS w g v aZ)(a:Ext w I):iS I g v aZ:=⟨h.1.W a,λx e=>by
 obtain⟨f,hm⟩:=h.2 x e;exact⟨f,hm.W a⟩⟩
def iS.sb{g:Nat}{aZ:List mD}(h:iS w g v aZ)(f:af S w I)(j:∀r,S r->∃e c,ag w r e c/\e≠av):∀h∈aZ,∃a,aB .i64 av I a h.v h.l:=λx p=>by
 obtain⟨a,hm⟩:=h.2 x p;exact⟨a,bw hm f λr q J=>by
  obtain⟨e,c,s,y⟩:=j r J;exact ch hm s (λhe=>y he.symm) q rfl⟩
def iS.aa{g:Nat}{aZ:List mD}(h:iS w g v aZ)(p:af S w I)(q:∀r,S r->∃e c,ag w r e c/\e≠av/\e≠aw):iS I g v aZ:=
 ⟨h.1.aa p λr a J=>by
  obtain⟨e,c,f,_,j⟩:=q r J;exact cL h.1 f (λhe=>j he.symm) a,h.sb p λr a=>by
  obtain⟨e,c,f,j,_⟩:=q r a;exact⟨e,c,f,j⟩⟩
def pu(w:x6)(k:Int)(co:Λ)(x:cz):Prop:=(∃a,aB .i64 ai w a x.sv x.sc)/\∃e f,dm w x.g e f (bN co x.sc) k x.cs
def pu.W{x:cz}(h:pu w k co x)(a:Ext w I):pu I k co x:=by
 obtain⟨⟨e,h1⟩,f,j,p⟩:=h;exact⟨⟨e,h1.W a⟩,f,j,p.W a⟩
def Eb{g s:Nat}{x:x4}{cs:Λ}(h:dm w g s x aj k cs)(j:af S w I)(p:∀r,S r->∃e c,ag w r e c/\e≠c4/\e≠ai/\e≠av):dm I g s x aj k cs:=by
 obtain⟨⟨a8,gs,h1,y,z⟩,A⟩:=h;refine⟨⟨a8,gs,h1.aa j λJ=>?_,bw y j λr q J=>?_,bw z j λr q J=>?_⟩,A⟩
 .obtain⟨e,c,a,f,_⟩:=p g J;exact f (ft a h1)
 .obtain⟨e,c,a,_,f,_⟩:=p r J;exact ch y a (λhe=>f he.symm) q rfl
 .obtain⟨e,c,a,_,_,f⟩:=p r J;exact ch z a (λhe=>f he.symm) q rfl
def pu.aa{x:cz}(h:pu w k co x)(a:af S w I)(f:∀r,S r->∃e c,ag w r e c/\e≠c4/\e≠ai/\e≠av):pu I k co x:=by
 obtain⟨⟨j,h1⟩,p,q,s⟩:=h;refine⟨⟨j,bw h1 a λr y J=>?_⟩,p,q,Eb s a f⟩;obtain⟨e,c,z,_,A,_⟩:=f r J;exact ch h1 z (λhe=>A he.symm) y rfl
def pv(w:x6)(g:Nat)(v:x4)(k:Int)(co:Λ)(L:List cz):Prop:=bk e7 2 iG w g v L/\∀x∈L,pu w k co x
def pv.W{g:Nat}{L:List cz}(h:pv w g v k co L)(a:Ext w I):pv I g v k co L:=⟨h.1.W a,λx e=>(h.2 x e).W a⟩
def pv.aa{g:Nat}{L:List cz}(h:pv w g v k co L)(p:af S w I)(q:∀r,S r->∃e c,ag w r e c/\e≠iG/\e≠c4/\e≠ai/\e≠av):pv I g v k co L:=
 ⟨h.1.aa p λr a J=>by
  obtain⟨e,c,f,j,_⟩:=q r J;exact cL h.1 f (λhe=>j he.symm) a,λx s=>(h.2 x s).aa p λr a=>by
  obtain⟨e,c,f,_,j⟩:=q r a;exact⟨e,c,f,j⟩⟩
def gB(w:x6)(h:Nat)(n:aI):Prop:=∃a e f j gr aZ L nm lc gz fv2,ag w h gk [Γ a,Δ n.zero,e,f]/\ag w a cI [nm,Δ n.k,lc,fv2]/\aB .i64 ai w gz lc n.co/\
 iS w j e aZ/\aZ.map (·.l)=n.unary/\pv w gr f n.k n.co L/\L.map eg=n.d9
def gB.W{e:Nat}{n:aI}(h:gB w e n)(a:Ext w I):gB I e n:=by
 obtain⟨f,j,p,q,gr,aZ,L,nm,lc,gz,fv2,h1,r,s,x,y,z,A⟩:=h;exact⟨f,j,p,q,gr,aZ,L,nm,lc,gz,fv2,h1.W a,r.W a,s.W a,x.W a,y,z.W a,A⟩
def sd(w:x6)(B:Nat)(k:Int)(co:Λ)(x:cz):Prop:=(∃f,aB .i64 ai w f x.sv x.sc)/\(∃a e,dm w x.g a e (bN co x.sc) k x.cs/\B<=a/\∀r,lw e r->B<=r)/\B<=x.g/\∀r,lw x.sv r->B<=r
def sd.aa{x:cz}(h:sd w B k co x)(a:af S w I)(f:∀r,S r->∃e c,ag w r e c/\e≠c4/\e≠ai/\e≠av):sd I B k co x:=by
 obtain⟨⟨j,h1⟩,⟨p,q,s,y⟩,z⟩:=h;refine⟨⟨j,bw h1 a λr A J=>?_⟩,⟨p,q,Eb s a f,y⟩,z⟩;obtain⟨e,c,C,_,E,_⟩:=f r J;exact ch h1 C (λhe=>E he.symm) A rfl
def nA(w:x6)(B g:Nat)(v:x4)(k:Int)(co:Λ)(L:List cz):Prop:=bk e7 2 iG w g v L/\∀x∈L,sd w B k co x
def nA.W{g:Nat}{L:List cz}(h:nA w B g v k co L)(a:Ext w I):nA I B g v k co L:=⟨h.1.W a,λx e=>(h.2 x e).aa (a.aa λ_=>False) λ_ h=>h.elim⟩
def nA.aa{g:Nat}{L:List cz}(h:nA w B g v k co L)(p:af S w I)(q:∀r,S r->∃e c,ag w r e c/\e≠iG/\e≠c4/\e≠ai/\e≠av):nA I B g v k co L:=
 ⟨h.1.aa p λr a J=>by
  obtain⟨e,c,f,j,_⟩:=q r J;exact cL h.1 f (λhe=>j he.symm) a,λx s=>(h.2 x s).aa p λr a=>by
  obtain⟨e,c,f,_,j⟩:=q r a;exact⟨e,c,f,j⟩⟩
def Ec:∃o:Obj,fK o=v6:=⟨.deferred ν,rfl⟩
def ghost(w:x6)(B:Nat):∃w0,Ext w0 w/\af (λr=>r<B) w w0/\∀r o,w0.heap[r]?=σ o->fK o=v2->B<=r:=by
 obtain⟨cA,f⟩:=Ec;have e:∀r,(w.heap.mapIdx λr o=>if r<B then cA else o)[r]?=(w.heap[r]?).map λo=>if r<B then cA else o:=λr=>Ξ
 refine⟨{w with heap:=w.heap.mapIdx λr o=>if r<B then cA else o},⟨Ξ,λr o a J=>?_⟩,⟨Ξ,λr o a J j=>?_⟩,λr o a J=>?_⟩
 .have a:(w.heap.mapIdx λr o=>if r<B then cA else o)[r]?=σ o:=a;rw[e]at a;cases h:w.heap[r]? with
  |none=>rw[h]at a;cases a
  |some o'=>
   rw[h]at a;simp only[Y3,X7]at a;split at a
   .subst a;rw[f]at J;cases J
   .rw[a]
 .show (w.heap.mapIdx λr o=>if r<B then cA else o)[r]?=σ o;rw[e,a,Y3,rc j]
 .have a:(w.heap.mapIdx λr o=>if r<B then cA else o)[r]?=σ o:=a;rw[e]at a;cases h:w.heap[r]? with
  |none=>rw[h]at a;cases a
  |some o'=>
   rw[h]at a;simp only[Y3,X7]at a;split at a
   .subst a;rw[f]at J;cases J
   .omega
def Ed(B:Nat)(w:x6)(a:Nat)(n:aI):Prop:=∃w0,gB w0 a n/\Ext w0 w/\∀r o,w0.heap[r]?=σ o->fK o=v2->B<=r
def Ps{y C gr gz:Nat}{n:aI}{p q nm lc fv2:x4}{aZ:List mD}{L:List cz}(h1:ag w y gk [Γ j,Δ n.zero,p,q])(E:ag w j cI [nm,Δ n.k,lc,fv2])(I:aB .i64 ai w gz lc n.co)(F:iS w C p aZ)(J:aZ.map (·.l)=n.unary)(G:nA w B gr q n.k n.co L)(K:L.map eg=n.d9)(M:B<=y)(N:B<=j)(O:∀r,lw lc r->B<=r)(H:∀r,lm p r\/lm q r->B<=r)(P:∀h∈aZ,∀r,lw h.v r->B<=r):Ed B w y n:=by
 obtain⟨w0,z,a,Q⟩:=ghost w B;have no:∀{r:Nat},B<=r->¬r<B:=λh E=>Ω
 have s:∀{e:o5}{g:Nat}{v:x4}{l:Λ},aB .i64 e w g v l->(∀r,lw v r->B<=r)->aB .i64 e w0 g v l:=λh R=>bw h a λr f=>no (R r f);refine⟨w0,⟨j,p,q,C,gr,aZ,L,nm,lc,gz,fv2,h1.aa a (no M),E.aa a (no N),s I O,⟨F.1.aa a λr f=>no (H r (.inl f)),λh au=>?_⟩,J,⟨G.1.aa a λr f=>no (H r (.inr f)),λx z=>?_⟩,K⟩,z,Q⟩
 .obtain⟨A,hm⟩:=F.2 h au;exact⟨A,s hm (P h au)⟩
 .obtain⟨⟨A,S⟩,⟨U,V,⟨⟨a8,gs,W,X,t3⟩,t4⟩,ac,Y⟩,Z,ab⟩:=G.2 x z;exact⟨⟨A,s S ab⟩,U,V,⟨a8,gs,W.aa a (no Z),s X Y,bw t3 a λr f=>no (by have:=(bW t3 f).1;omega)⟩,t4⟩
def kb(n:aI)(g:cR):aI:=match g.1 with
 |[]=>{n with zero:=g.2.getD 0 0}
 |[v]=>{n with unary:=n.unary.set v.toNat g.2}
 |_=>{n with d9:=n.d9++[g]}
def Ee(f:ce):aI:=⟨f.k,f.co,0,f.co.map λz=>o6 z.toNat 0,[]⟩
def Pt(f:ce):cK f=(fX f).foldl kb (Ee f):=rfl
def dN(f:ce)(i:Nat):aI:=((fX f).take i).foldl kb (Ee f)
def xP{f:ce}{i:Nat}{g:cR}(h:(fX f)[i]?=σ g):dN f (i+1)=kb (dN f i) g:=Pn h
def uM(f:ce):dN f (fX f).length=cK f:=by unfold dN;rw[o9,Pt]
def Pu(n:aI)(g:cR):(kb n g).k=n.k/\(kb n g).co=n.co/\(kb n g).unary.length=n.unary.length/\(kb n g).d9.length<=n.d9.length+1:=by
 unfold kb;split
 .exact⟨rfl,rfl,rfl,Nat.le_succ _⟩
 .exact⟨rfl,rfl,Ξ,Nat.le_succ _⟩
 .exact⟨rfl,rfl,rfl,Ξ⟩
theorem qC(f:ce):∀i,(dN f i).k=f.k/\(dN f i).co=f.co/\(dN f i).unary.length=f.co.length/\(dN f i).d9.length<=i
 |0=>⟨rfl,rfl,by show(f.co.map _).length=_;simp,W0 _⟩
 |i+1=>by
  have a:=qC f i;cases h:(fX f)[i]? with
  |none=>
   have j:=List.getElem?_eq_none_iff.1 h;have e:dN f (i+1)=dN f i:=by unfold dN;rw[b9 Ω,b9 j]
   rw[e];exact⟨a.1,a.2.1,a.2.2.1,Ω⟩
  |some g=>
   rw[xP h];obtain⟨h1,p,q,r⟩:=Pu (dN f i) g;exact⟨h1.F a.1,p.F a.2.1,q.F a.2.2.1,Ω⟩
def Pv(w:x6)(f:ce)(v:x4)(I:x6):Prop:=Ext w I/\((¬nz f.d9<=16384/\∃e:Int,e≠0/\v= .tuple #[.pointer ν,Δ e])\/∃a,v= .tuple #[Γ a,Δ 0]/\Ed w.heap.size I a (cK f))
def eB{k:Nat}(h:cg w k v n cs):v.cells= #[v]/\v.oneCell'=v2:=by
 obtain⟨_,_,_,_,_,rfl,_⟩:=h;exact⟨rfl,rfl⟩
def Pw{bT:Nat}{f:ce}(cr:mB w bT f)(R:fq N f)(ct:N<=60000)(cu:f.name≠[]/\∀b∈f.name,bV b=v2):
  ak v8 Io [Γ bT] w (Pv w f):=by
 have hk:=R.k;refine az func61 ?_;refine(Pr cr R ct cu).Y ?_;rintro _ U _ ⟨ap,⟨cw,e,he,rfl⟩|⟨aP,rfl,cA⟩⟩
 .rw[bA,bB,bK,al];exact⟨λ_=>⟨ap,.inl ⟨cw,e,he,rfl⟩⟩,λh=>ro he h⟩
 rw[bA,bB,bK,al];refine⟨λh=>ro rfl h,λ_=>?_⟩;obtain⟨lc,cB,gz,dv,M,bb,bc,bU,aR,cC,cD,cE⟩:=id cA;have dw:M.length<=256:=by
  have h1:=(rY R).2.length_eq;have ah:=(mz R).2.2;have aj:=List.length_filter_le fV (fW f);have aS:=R.mr;have dx:M.length=(fX f).length:=by rw[<-aR,r8]
  omega
 have dy:=R.co.2.1;rw[dk (cs:=#[Γ aP,Δ 0,.slice ν 0 0,.slice ν 0 0]) Ψ];refine bn λH V dz bd be=>?_;have be:=be;rw[aL cI.p 2 (bb.W bd) rfl,a1 an.u (bc.ls.W bd)];refine bY.range f.co.length (λi ay=>∃s G aZ,Ext U ay/\ag ay H gk [Γ aP,Δ 0,s,.slice ν 0 0]/\iS ay G s aZ/\aZ.map (·.l)=(f.co.take i).map (λz=>o6 z.toNat 0)/\(∀r,lm s r->U.heap.size<=r)/\∀h∈aZ,∀r,lw h.v r->U.heap.size<=r) Ω
  ⟨_,0,[],bd,be,⟨bk.nil _ _ _ _ _,λx aA=>(by cases aA)⟩,rfl,λr q=>(fi q).elim,λx aA=>(by cases aA)⟩ ?_ ?_
 .rintro i ay cF hi ⟨s,G,aZ,ab,aT,bf,aC,aV,K⟩ cG;obtain⟨z,B⟩:=aD (l:=f.co) hi;have dA:=R.co.2.2 z (x7 B);have dC:aZ.length=i:=by have:=congrArg Q2 aC;simp only[r8,o8]at this;omega
  refine bC Ω ?_;rw[bh an.u ai.i Ψ (bc.ls.W ab) B];intro dD bg _ _;have cH:=aT.W bg;rw[aL gk.p 2 cH rfl];obtain⟨aW,rfl⟩:∃n:Nat,z=n:=⟨z.toNat,Ω⟩;refine ku aw.u av.i Ω Ω λbX dE dF bi cJ=>?_;refine⟨.inl bi,?_⟩;have bZ:=aB.of (b2.full (n:=aW) cJ Ξ (by simp[maxLen];omega));let a:mD:=⟨.slice (σ ⟨bX,0,ν⟩) aW aW,o6 aW 0⟩;refine iO (f:=sa) (a:=a) cW.u aw.i Ω rfl rfl λdG dH bj dI bm cK=>?_;refine⟨.inl (bi.F bm),?_⟩;have aX:=(bg.F bi).F bm;have aY:=bf.W aX;refine jl (f:=sa) (a:=a) cW.u aw.i rfl aY.1 (by simpa using cK.sl) (λu hu=>by rw[c9.1 (show u∈[a.v]from hu)];rfl) Ω Ω λbo bp dJ O bq b4=>?_;have aE:∀{r:Nat},lm s r->∃c,ag bj r aw c:=λq=>by
   obtain⟨rfl,c,A⟩:=dU aY.1 q;exact⟨c,A⟩
  have br:=aT.W aX;have b5:=br.aa b4 λhe=>cL aY.1 br Φ he;rw[b0,aU gk.p rfl];refine bu cW.i (eB O.sl).1 (eB O.sl).2 b5 Ξ λcM b6 dK cO=>?_;rw[aO];have bs:af (λr=>lm s r\/r=H) bj cM:=(b4.Y λr _ h=>.inl h).F (b6.Y λr _ h=>.inr h);have S:∀r,(lm s r\/r=H)->∃e c,ag bj r e c/\e≠av:=λr q=>by
   rcases q with q|rfl
   .obtain⟨c,A⟩:=aE q;exact⟨_,c,A,Φ⟩
   .exact⟨_,_,br,Φ⟩
  have b7:=ap.size;have z3:=ab.size;have dL:=aX.size;refine cG _ ⟨bo,bp,aZ++[a],(ab.F aX).then bs (λr q he=>?_),cO,⟨O.aa b6 λr q he=>?_,λy C=>?_⟩,?_,λr q=>?_,λy C r q=>?_⟩
  .rcases he with he|rfl
   .have:=aV r he;omega
   .omega
  .have he:r=H:=he;subst he;exact cL O b5 Φ q
  .rcases j9.1 C with C|C
   .exact aY.sb bs S y C
   .rw[c9.1 C];have b8:=bZ.W bm;exact⟨bX,bw b8 bs λr q J=>by
     obtain⟨e,c,A,cP⟩:=S r J;exact ch b8 A (λhe=>cP he.symm) q rfl⟩
  .rw[Z4,aC,r9,B,j6,Z4];rfl
  .rcases bq r q with h|h
   .exact aV r h
   .omega
  .rcases j9.1 C with C|C
   .exact K y C r q
   .rw[c9.1 C]at q;have cQ:=(bW bZ q).1;have:=bg.size;omega
 .rintro ay cF ⟨s,G,aZ,ab,aT,bf,aC,aV,K⟩;refine b3 Ω ?_;rw[o9]at aC;have cR:=bb.W ab;have cS:=bU.W ab;rw[aL cI.p 3 cR rfl,ef dS.u cS.1];refine bY.range M.length (λi am=>∃s E G gr aZ L,Ext U am/\ag am H gk [Γ aP,Δ (dN f i).zero,s,E]/\iS am G s aZ/\aZ.map (·.l)=(dN f i).unary/\nA am w.heap.size gr E f.k f.co L/\L.map eg=(dN f i).d9/\(∀r,lm s r\/lm E r->U.heap.size<=r)/\∀h∈aZ,∀r,lw h.v r->U.heap.size<=r) Ω
   ⟨s,_,G,0,aZ,[],ab,aT,bf,aC,⟨bk.nil _ _ _ _ _,λx aA=>(by cases aA)⟩,rfl,λr q=>q.elim (aV r) λh=>(fi h).elim,K⟩ ?_ ?_
  rotate_left
  .rintro am cT ⟨s,E,G,gr,aZ,L,P,a2,bt,ac,bx,ad,W,K⟩;refine b3 Ω ?_;have cU:M.length=(fX f).length:=by rw[<-aR,r8]
   have aG:=qC f M.length;rw[cU,uM]at a2 ac ad aG;have b7:=ap.size;refine⟨ap.F P,.inr ⟨H,rfl,Ps (gr:=gr) (nm:=cf f.name) (lc:=lc) (gz:=gz) (fv2:=cB) a2 ?_ ?_ bt ac ?_ ad Ω cC cD (λr q=>by have:=W r q;omega) λh au r q=>by have:=K h au r q;omega⟩⟩
   .rw[aG.1];exact bb.W P
   .rw[aG.2.1];exact bc.W P
   .rw[aG.1,aG.2.1];exact bx
  rintro i am cT hi ⟨s,E,G,gr,aZ,L,P,a2,bt,ac,bx,ad,W,K⟩ cV;obtain⟨y,C⟩:=aD (l:=M) hi;have cX:(fX f)[i]?=σ (eg y):=by rw[<-aR,u4,C];rfl
  have a6:=uv R _ (xO aR C);have bD:=bU.W P;obtain⟨dM,dO,dP,dQ⟩:=qC f i;refine bC Ω ?_;refine c8 (λaH=>∃s E G gr aZ L,Ext U aH/\ag aH H gk [Γ aP,Δ (dN f (i+1)).zero,s,E]/\iS aH G s aZ/\aZ.map (·.l)=(dN f (i+1)).unary/\nA aH w.heap.size gr E f.k f.co L/\L.map eg=(dN f (i+1)).d9/\(∀r,lm s r\/lm E r->U.heap.size<=r)/\∀h∈aZ,∀r,lw h.v r->U.heap.size<=r) ?_ ?_
  .rintro aH h;rw[aO];exact cV _ h
  intro ax bF;have cY:=bD.2 y (x7 C);obtain⟨⟨cZ,bG⟩,m,o,D,c0,dR,c1⟩:=cY;rw[ck rfl dS.u cN.i bD.1 hi,bz cN.p cN.i rfl (bD.1.range C)];refine bE cN.i λaq dV dW c2 c3=>?_;refine b1 (vs:=e7 y) cN.i rfl rfl (uL bG) c3 λdX c6 dY b9=>?_;have bH:=c2.put c6 Ω;rw[aJ cN.p 1 b9 rfl];refine(DI (c0.W bH) Ω).Y ?_;rintro _ dZ _ ⟨ca,_,ao⟩;obtain⟨g,c7,da,ea,rfl,eb,db,ao,dc⟩:=ao a6.small;have dd:dT (bN f.co y.sc):=ao.2.2.1.2;have de:=jL.eq dd dc c1;subst de;have X:=bH.F ca;have bI:=b9.W ca;have bJ:=bG.W X;rw[bA,bB,aJ cN.p 0 bI rfl,a1 an.u bJ.ls];have b7:=ap.size;have z9:=P.size;have ec:=X.size;have bL:=a2.W X;have bM:=bt.W X;have bO:=bx.W X;have bP:=xP cX;rw[bl,al];refine⟨λed=>?_,λee=>?_⟩
  .
   have ae:y.sc=[]:=Z2 Ω;have I:dN f (i+1)={dN f i with zero:=y.cs.getD 0 0}:=by rw[bP];unfold kb;simp only[eg,ae]
   refine(n8 ao).Y ?_;rintro cb df _ ⟨a7,eh,ei,dg⟩;have ej:y.cs.length=1:=by have:=a6.len;simpa[eg,ae,bN,aQ]using this
   have dh:y.cs[0]?=σ (y.cs.getD 0 0):=by rw[u5,x8 Ω];rfl
   rw[fP (y:=0) (i:=0) rfl aw.u av.i Ψ dg.ls dh,b0,aU gk.p rfl];have cc:=bL.W a7;refine bu av.i rfl rfl cc Ξ λek bQ em di=>?_;have S:∀r,r=H->∃e c,ag df r e c/\e≠iG/\e≠c4/\e≠ai/\e≠av/\e≠aw:=λr q=>by
    subst q;exact⟨_,_,cc,Φ,Φ,Φ,Φ,Φ⟩
   refine bF _ ⟨s,E,G,gr,aZ,L,((P.F X).F a7).put bQ Ω,?_,(bM.W a7).aa bQ (λr q=>?_),by rw[I];exact ac,(bO.W a7).aa bQ (λr q=>?_),by rw[I];exact ad,W,K⟩
   .rw[I];exact di
   .obtain⟨e,c,A,_,_,_,h1,ah⟩:=S r q;exact⟨e,c,A,h1,ah⟩
   .obtain⟨e,c,A,h1,ah,aj,aS,_⟩:=S r q;exact⟨e,c,A,h1,ah,aj,aS⟩
  rw[bl,al];refine⟨λh1=>?_,λen=>?_⟩
  .
   obtain⟨v,ae⟩:∃v,y.sc=[v]:=V6.1 Ω;have eo:=a6.scope.1 v (by show v∈y.sc;rw[ae];exact .head _);have ep:=a6.d6 v (by show v∈y.sc;rw[ae];exact .head _);have I:dN f (i+1)={dN f i with unary:=(dN f i).unary.set v.toNat y.cs}:=by rw[bP];unfold kb;simp only[eg,ae]
   intro er Y _ _;have cd:=bL.W Y;have dj:=bI.W Y;rw[aL gk.p 2 cd rfl,aJ cN.p 0 dj rfl];refine rv rfl an.u ai.i (bJ.ls.W Y) (show y.sc[0]?=σ v by rw[ae];rfl) λb o dl=>?_;rw[aF Ψ dl];refine(n8 (ao.W Y)).Y ?_;rintro cb dm _ ⟨aI,dn,es,aK⟩;refine⟨.inl aI,?_⟩;have aM:=(bM.W Y).W aI;have et:aZ.length=f.co.length:=by have:=congrArg Q2 ac;rw[r8]at this;omega
   obtain⟨u,hu⟩:=aD (l:=aZ) (i:=v.toNat) Ω;rw[ck (i:=v.toNat) Ω cW.u aw.i aM.1 Ω];let a:mD:=⟨cb,y.cs⟩;refine k6 (j:=0) (a:=u) (a':=a) aw.i aK.ls.cells.1 aK.ls.cells.2 aM.1 hu rfl Ω λeu aN ev dp=>?_;have cg:=cd.W aI;have aE:∀{r:Nat},lm s r->∃c,ag dm r aw c:=λq=>by
    obtain⟨rfl,c,A⟩:=dU aM.1 q;exact⟨c,A⟩
   refine bF _ ⟨s,E,G,gr,aZ.set v.toNat a,L,(((P.F X).F Y).F aI).then aN (λr q he=>by have:=W r (.inl he);omega),?_,⟨dp,λz B=>?_⟩,?_,((bO.W Y).W aI).aa aN (λr q=>?_),by rw[I];exact ad,W,λz B r q=>?_⟩
   .rw[I];exact cg.aa aN λhe=>cL aM.1 cg Φ he
   .rcases W8 B with B|rfl
    .exact aM.sb aN (λr q=>by obtain⟨c,A⟩:=aE q;exact⟨_,c,A,Φ⟩) z B
    .exact⟨dn,bw aK aN λr q J=>by
      obtain⟨c,A⟩:=aE J;exact ch aK A Φ q rfl⟩
   .rw[I,T2,ac]
   .obtain⟨c,A⟩:=aE q;exact⟨_,c,A,Φ,Φ,Φ,Φ⟩
   .rcases W8 B with B|rfl
    .exact K z B r q
    .have cQ:=(bW aK q).1;have:=Y.size;omega
  .
   have I:dN f (i+1)={dN f i with d9:=(dN f i).d9++[eg y]}:=by
    rw[bP];unfold kb;have ci:2<=(eg y).1.length:=by show 2<=y.sc.length;omega
    generalize eg y=g at ci ⊢;obtain⟨sc,cs⟩:=g
    match sc,ci with
    |_::_::_,_=>rfl
   intro ew Z _ _;have cj:=bL.W Z;have dq:=bI.W Z;have cl:=bJ.W Z;rw[aL gk.p 3 cj rfl,aJ cN.p 0 dq rfl,dk (cs:=#[y.sv,Γ g]) (by obtain⟨_,_,_,e⟩:=c5 bG.ls;rw[e];kernel_rfl)];let a:cz:=⟨y.sv,g,y.sc,y.cs⟩;refine iO (f:=e7) (a:=a) md.u iG.i Ω rfl rfl λey ez bR eA Q dr=>?_;refine⟨.inl Q,?_⟩;have a8:=(bO.W Z).W Q;have ds:=(bM.W Z).W Q;have bS:=cj.W Q;have eC:L.length<=256:=by have:=congrArg Q2 ad;rw[r8]at this;omega
   refine jl md.u iG.i rfl a8.1 (by simpa using dr.sl) (uL (cl.W Q)) Ω Ω λbo bp eD O bq cm=>?_;have cn:=bS.aa cm λhe=>cL a8.1 bS Φ he;rw[b0,aU gk.p rfl];refine bu md.i (eB O.sl).1 (eB O.sl).2 cn Ξ λdt cp eE du=>?_;have ba:af (λr=>lm E r\/r=H) bR dt:=(cm.Y λr _ h=>.inl h).F (cp.Y λr _ h=>.inr h);have S:∀r,(lm E r\/r=H)->∃e c,ag bR r e c/\e≠c4/\e≠ai/\e≠av/\e≠aw:=λr q=>by
    rcases q with q|rfl
    .obtain⟨rfl,c,A⟩:=dU a8.1 q;exact⟨_,c,A,Φ,Φ,Φ,Φ⟩
    .exact⟨_,_,bS,Φ,Φ,Φ,Φ⟩
   have eF:=(Z.F Q).size;refine bF _ ⟨s,bo,G,bp,aZ,L++[a],(((P.F X).F Z).F Q).then ba (λr q he=>?_),?_,ds.aa ba (λr q=>?_),by rw[I];exact ac,⟨O.aa cp λr q he=>?_,λz B=>?_⟩,?_,λr q=>?_,K⟩
   .rcases he with he|rfl
    .have:=W r (.inr he);omega
    .omega
   .rw[I];exact du
   .obtain⟨e,c,A,_,_,aj,aS⟩:=S r q;exact⟨e,c,A,aj,aS⟩
   .have he:r=H:=he;subst he;exact cL O cn Φ q
   .have cq:∀r,(lm E r\/r=H)->∃e c,ag bR r e c/\e≠c4/\e≠ai/\e≠av:=λr q=>by
     obtain⟨e,c,A,h1,ah,aj,_⟩:=S r q;exact⟨e,c,A,h1,ah,aj⟩
    rcases j9.1 B with B|B
    .exact (a8.2 z B).aa ba cq
    .rw[c9.1 B];have eH:=bH.size;refine sd.aa ⟨⟨cZ,cl.W Q⟩,⟨c7,da,?_,Ω,λr q=>by have:=db.2 r q;omega⟩,by show w.heap.size<=g;omega,cE y (x7 C)⟩ ba cq;exact(ao.W Z).W Q
   .rw[I,Z4,ad];rfl
   .rcases q with q|q
    .exact W r (.inl q)
    .rcases bq r q with h|h
     .exact W r (.inr h)
     .omega
def xQ{z:Array x4}{k:Nat}(a:z.size=k):(Y4.zeroCells z n).toList=dZ z (n*k):=by
 unfold Y4.zeroCells dZ;rw[a]
def Px{P:V5}{t p A:o5}{B kn:j4}{b g k m:Nat}{z:x4}{xs:List x4}(Y:y=(m:Int))(N:P.underlying t=σ (.slice e))(O:P.underlying p=σ (.int kn))(hi:aR P e k b z)(C:z.cells.size=k)(aw:0<k)(h1:∀u∈dZ z.cells (m*k),u.oneCell'=v2)(h:b2 w g e k v n xs)(Z:0<m)(ab:(n+m)*b<=140737488355328)(ac:n+m<=9223372036854775807)(Q:∀E ad I,b2 I ad e k E (n+m) (xs++dZ z.cells (m*k))->(∀r,lm E r->lm v r\/w.heap.size<=r)->af (λr=>lm v r) w I->K E I):aG P (Z9 #[t,p] A #[v,.int B y]) w K:=by
 subst Y;obtain⟨i,hi,F,rfl,R⟩:=hi;obtain⟨S,hm⟩:=h;have ae:=qa z.cells (m*k);have ah:m*i.bytes<=281474976710656:=by
  have:m*i.bytes<=(n+m)*i.bytes:=X4 _ Ω;omega
 have grow:∀(base:Option Addr)(cap:Nat),v= .slice base n cap->(Y4.firstCells i.size n (.slice base n cap)).run P w.drew= .ok xs.toArray w.drew->cap<n+m->aG P (Z9 #[t,p] A #[v,.int B (m:Int)]) w K:=λbase cap ai aj f=>by
  subst ai;have G:=Lib.run_append_grow_zeros (P:=P) w t p A e i z B kn N O hi R base n cap xs aj m Z Ω f Ω ah (growslice_fits f ab);have T:n+m<=grownCap w (n+m) cap e:=grownCap_ge w _ _ _;have ak:grownCap w (n+m) cap e<=maxLen:=grownCap_le_maxLen w (n+m) cap e (by simpa[maxLen]using ac);have ax:=qa z.cells ((grownCap w (n+m) cap e-(n+m))*k);have ay:(n+m)*k<=grownCap w (n+m) cap e*k:=X4 _ T;have al:(n+m)*k=n*k+m*k:=U7 _ _ _;have az:(grownCap w (n+m) cap e-(n+m))*k=grownCap w (n+m) cap e*k-(n+m)*k:=Nat.sub_mul _ _ _;refine .of G ((qX w _ (Nat.le_succ _)).F (qZ _ _)) (Q _ w.heap.size _ ⟨by rw[n9];omega,.inr ⟨_,xs++dZ z.cells (m*k)++dZ z.cells ((grownCap w (n+m) cap e-(n+m))*k),rfl,?_,T,ak,?_,?_⟩⟩ (λr H=>?_) (((sR w _).F (qY _ _)).aa _))
  .have:=heap_alloc_new w.drew (.cells (xs.toArray++Y4.zeroCells z.cells m++Y4.zeroCells z.cells (grownCap w (n+m) cap e-(n+m))) e);unfold ag;rw[show w.drew.heap.size=w.heap.size from rfl]at this;rw[this];congr 2;apply Array.toList_inj.1;rw[Array.toList_append,Array.toList_append,xQ C,xQ C]
  .rw[n9,n9];omega
  .rw[List.take_append_of_le_length (by rw[n9];omega),b9 (by rw[n9];omega)]
  .obtain⟨a,am,c,q,s⟩:=H;cases q;exact .inr (by simp at s;omega)
 rcases hm with⟨rfl,an⟩|⟨cap,cs,rfl,x,q,s,J,U⟩
 .subst an;have:xs=[]:=Z2 (by simpa using S);subst this;exact grow ν 0 rfl (run_firstCells_none w.drew i.size 0 0 0) Ω
 .by_cases f:n+m<=cap
  .have V:(n+m)*k<=cs.length:=by rw[J];exact X4 _ f
   have al:(n+m)*k=n*k+m*k:=U7 _ _ _;have L:=run_storeCells_cells (P:=P) g (0+n*k) (dZ z.cells (m*k)) 0 w (λj W=>by
    rw[ae]at W;rw[Nat.add_zero,X6,x.cell (x8 (show n*k+j<cs.length by omega))];rfl) (λj _=>x.frozen _ _) h1
   simp only[Nat.add_zero]at L;have hw:W5.wrap (m:Int)=m:=by rw[j4.wrap_i64];omega
   have ao:¬((m:Int)<0):=Ω
   have ap:¬(281474976710656<(m:Int)*(i.bytes:Int)):=by rw[<-Int.natCast_mul];omega
   have M:¬(m*i.size=0):=Nat.mul_ne_zero Ω Ω;have aq:(Y4.zeroCells z.cells m).toList=dZ z.cells (m*k):=xQ C;have G:(Z9 #[t,p] A #[.slice (σ ⟨g,0,ν⟩) n cap,.int B (m:Int)]).run P w= .ok (.slice (σ ⟨g,0,ν⟩) (n+m) cap) (w.setCells g (0+n*k) (dZ z.cells (m*k))):=by
    simp[Z9,run_underlying N,run_underlying O,sizeOf,typeInfo,zeroValue,hi,R,asInt,asIntOf,hw,f,ao,M,ap,aq,Addr.add_lit,F];simp only[X6]at L;rw[L];simp;intro au;exact ro au (by rw[F]at M;exact M)
   obtain⟨av,X⟩:=o2 (dZ z.cells (m*k)) cs (0+n*k) w x;refine .of G (X.cA x) (Q _ g _ ⟨by rw[n9];omega,.inr ⟨cap,_,rfl,av,f,s,by rw[nl,J],?_⟩⟩ (λr H=>.inl ?_) (X.aa.Y λr _ he=>⟨_,_,_,rfl,he.symm⟩))
   .rw[ui Ω V,nV (by rw[o8];omega),X6,List.take_take,List.drop_eq_nil_of_le (by rw[o8];omega),U2,Nat.min_eq_left Ω,U]
   .obtain⟨a,am,c,q,s⟩:=H;cases q;exact⟨_,_,_,rfl,s⟩
  .refine grow _ cap rfl ?_ Ω;have V:n*k<=cs.length:=by rw[J];exact X4 _ q
   refine run_firstCells_some w.drew i.size n _ n cap xs (by rw[F];exact S) λj u hu=>?_;rw[T9,X6];have W:=(x5.1 hu).1;rw[<-U,Y6 Ω]at hu;exact x.cell hu
def kE(c:Cell):List x4:=[Δ c.v,.int .u64 (c.st:Int)]
def se(o:mo):List x4:=[Δ (o.i:Int),Δ o.c.v,.int .u64 (o.c.st:Int)]
def qD(m:tI):List x4:=[Δ (m.olds:Int),Δ (m.cells:Int),.int .u64 (m.st:Int)]
def dC(w:x6)(ae:Nat)(A:ah)(t:aA):Prop:=A ae/\∃e go dt a8 a eu,ag w ae gI [a8,a,eu,.int .u64 (t.ky:Int)]/\bk kE 2 e3 w e a8 t.cells/\bk se 3 nf w go a t.olds/\bk qD 3 gW w dt eu t.marks/\
 ∀r,lm a8 r\/lm a r\/lm eu r->A r
def dC.aa{S A:ah}{t:aA}(h:dC w ae A t)(e:af S w I)(f:∀r,A r->¬S r):dC I ae A t:=by
 obtain⟨p,q,go,dt,a8,s,eu,h1,x,y,z,j⟩:=h;exact⟨p,q,go,dt,a8,s,eu,h1.aa e (f _ p),x.aa e λr a=>f r (j r (.inl a)),y.aa e λr a=>f r (j r (.inr (.inl a))),z.aa e λr a=>f r (j r (.inr (.inr a))),j⟩
def dC.W{A:ah}{t:aA}(h:dC w ae A t)(a:Ext w I):dC I ae A t:=h.aa (a.aa λ_=>False) λ_ _ h=>h
def dC.Y{A B:ah}{t:aA}(h:dC w ae A t)(a:∀r,A r->B r):dC w ae B t:=by
 obtain⟨e,f,go,dt,a8,j,eu,h1,p,q,s,x⟩:=h;exact⟨a _ e,f,go,dt,a8,j,eu,h1,p,q,s,λr y=>a r (x r y)⟩
def Grow(A:ah)(w:x6)(aN:ah)(I:x6):Prop:=af A w I/\(∀r,aN r->A r\/w.heap.size<=r)/\∀r,A r->aN r
def Grow.refl(A:ah)(w:x6):Grow A w A w:=⟨af.refl _ _,λ_ h=>.inl h,λ_ h=>h⟩
def Grow.W{A:ah}(h:Ext w I):Grow A w A I:=⟨h.aa _,λ_ h=>.inl h,λ_ h=>h⟩
def Grow.F{A aN e:ah}{f:x6}(h:Grow A w aN I)(k:Grow aN I e f):Grow A w e f:=
 ⟨⟨X1 h.1.size k.1.size,λr o a J j=>k.1.aX r o (h.1.aX r o a J j) J λp=>(h.2.1 r p).elim j λq=>by
  have:=(Z0.1 a).1;omega⟩,λr a=>by
  rcases k.2.1 r a with h1|h1
  .exact h.2.1 r h1
  .have:=h.1.size;exact .inr Ω,λr a=>k.2.2 r (h.2.2 r a)⟩
def Ef{A:ah}{t:aA}(h:dC w ae A t):ak v8 Jr [Γ ae] w λv I=>v=Δ (t.cells.length:Int)/\Ext w I:=by
 obtain⟨e,f,go,dt,a8,j,eu,h1,a,q,r,s⟩:=h;refine az func158 ?_;rw[di rg.u];simp only[Y0,a7];rw[aL gI.p 0 h1 rfl,ef jx.u a];exact⟨rfl,Ext.refl _⟩
def Eg{A:ah}{t:aA}{i:Int}(h:dC w ae A t):ak v8 IK [Γ ae,Δ i] w λv I=>v= .bool (decide (0<=i/\i<t.cells.length))/\Ext w I:=by
 refine az func87 ?_;refine aY (λv U=>v= .bool (decide (0<=i/\i<t.cells.length))/\Ext w U) (λ_ _ h=>h) ?_;intro ax a;rw[cP,al];refine⟨λe=>?_,λe=>a _ _ ⟨by rw[s2];omega,Ext.refl _⟩⟩;refine(Ef h).Y ?_;rintro _ U _ ⟨rfl,f⟩;rw[aT];refine a _ _ ⟨?_,f⟩;congr 1;rw[U6,sp,sp];exact⟨λh=>⟨Ω,h⟩,λh=>h.2⟩
def Py{A:ah}{t:aA}{i:Nat}{c:Cell}(h:dC w ae A t)(j:y=(i:Int))(a:t.cells[i]?=σ c):ak v8 Ax [Γ ae,Δ y] w λv I=>v=Δ c.v/\Ext w I:=by
 have q:=(x5.1 a).1;refine az func38 ?_;refine(Eg h).Y ?_;rintro _ U _ ⟨rfl,e⟩;rw[rs Ω,bL,X3,a7];obtain⟨r,s,go,dt,a8,x,eu,h1,f,z,B,C⟩:=h.W e;rw[aL gI.p 0 h1 rfl,ck j jx.u e3.i f q,aU e3.p rfl,aF Ψ (f.range a 0 _ rfl)];exact⟨rfl,e⟩
def pw{A:ah}{t:aA}{i:Nat}{x:Int}(h:dC w ae A t)(e:y=(i:Int))(a:t.b5[i]?=σ x):ak v8 Ax [Γ ae,Δ y] w λv I=>v=Δ x/\Ext w I:=by
 unfold aA.b5 at a;rw[u4]at a;obtain⟨c,f,rfl⟩:=Y9.1 a;exact Py h e f
def od(t:aA):Prop:=t.cells.length<=100000000/\t.olds.length<=100000000/\t.marks.length<=100000000
def uN{q go dt:Nat}{a8 a eu:x4}{t:aA}{x:x4}(h1:ag w ae gI [a8,a,eu,x])(f:bk kE 2 e3 w q a8 t.cells)(h:bk se 3 nf w go a t.olds)(j:bk qD 3 gW w dt eu t.marks):
  (¬lm a8 ae/\¬lm a ae/\¬lm eu ae)/\(∀r,lm a8 r->¬lm a r/\¬lm eu r)/\∀r,lm a r->¬lm a8 r/\¬lm eu r:=by
 refine⟨⟨cL f h1 Φ,cL h h1 Φ,cL j h1 Φ⟩,λr p=>?_,λr p=>?_⟩
 .obtain⟨rfl,c,e⟩:=dU f p;exact⟨cL h e Φ,cL j e Φ⟩
 .obtain⟨rfl,c,e⟩:=dU h p;exact⟨cL f e Φ,cL j e Φ⟩
def uO{A:ah}{t:aA}{i:Nat}{x:Int}(h:dC w ae A t)(bk:y=(i:Int))(N:i<t.cells.length)(au:od t):ak v8 AH [Γ ae,Δ y,Δ x] w λv I=>v=Δ 0/\∃aN,Grow A w aN I/\dC I ae aN (t.set i x):=by
 subst bk;obtain⟨c,C⟩:=aD (l:=t.cells) N;refine az func129 ?_;rw[di rg.u];simp only[Y0,a7];refine(Eg h).Y ?_;rintro _ U _ ⟨rfl,J⟩;rw[rs Ω,bL,X3,a7];obtain⟨aV,O,go,dt,a8,P,eu,h1,aW,aw,Z,ac⟩:=id (h.W J);have bl:∀{V:x6}{aN:ah}{bt:aA}{st:Nat}{K:x6->Prop},dC V ae aN bt->bt.cells[i]?=σ ⟨c.v,st⟩->
   (∀q,af aN V q->dC q ae aN {bt with cells:=bt.cells.set i ⟨x,st⟩}->K q)->
   (ab v8 (bU (Γ ae)) V λt77=>
   ab v8 (u7 gI t77 0) V λbm=>
   ab v8 (u6 jx bm) V λbn=>
   ab v8 (b8 jx bn (Δ (i:Int))) V λbo=>
   ab v8 (u7 e3 bo 0) V λbp=>
   aG v8 (j0 av bp (Δ x)) V λ(_:Unit)q=>
   K q):=by
  intro V aN bt st K ay ad bq;obtain⟨aB,O,go,dt,a8,P,eu,E,G,Q,R,S⟩:=ay;have br:=(x5.1 ad).1;rw[aL gI.p 0 E rfl,ck rfl jx.u e3.i G br,aU e3.p rfl];obtain⟨⟨W,aC,aE⟩,H,_⟩:=uN E G Q R;refine k6 (f:=kE) (j:=0) (a:=⟨c.v,st⟩) (a':=⟨x,st⟩) av.i rfl rfl G ad rfl Ω λq B bs bw=>?_;exact bq q (B.Y λr _ e=>S r (.inl e)) ⟨aB,O,go,dt,a8,P,eu,E.aa B W,bw,Q.aa B λr e he=>(H r he).1 e,R.aa B λr e he=>(H r he).2 e,S⟩
 refine c8 (λV=>∃aN bt st,Grow A U aN V/\dC V ae aN bt/\bt.cells[i]?=σ ⟨c.v,st⟩/\t.set i x={bt with cells:=bt.cells.set i ⟨x,st⟩}) ?_ ?_
 .rintro V ⟨aN,bt,st,bx,ay,ad,aH⟩;refine bl ay ad λq B aw=>⟨by trivial,aN,?_,by rw[aH];exact aw⟩;exact(Grow.W J).F (bx.F ⟨B,λ_ h=>.inl h,λ_ h=>h⟩)
 intro ax aI;rw[aL gI.p 2 h1 rfl,ef tv.u Z,bP,al];have aX:∀(hm:t.marks.getLast? =ν\/∃m,t.marks.getLast? =σ m/\¬(c.st<m.st/\i<m.cells)),t.set i x={t with cells:=t.cells.set i ⟨x,c.st⟩}:=λhm=>by
  unfold aA.set;rw[C];rcases hm with hm|⟨m,hm,bA⟩
  .simp only[hm]
  .simp only[hm];rw[rc bA]
 refine⟨λbY=>?_,λbZ=>aI _ ⟨A,t,c.st,Grow.refl _ _,h.W J,C,aX (.inl ?_)⟩⟩
 rotate_left
 .rw[List.getLast?_eq_none_iff];exact Z2 Ω
 obtain⟨m,hm⟩:=aD (l:=t.marks) (i:=t.marks.length-1) Ω;have aZ:t.marks.getLast? =σ m:=by rw[List.getLast?_eq_getElem?];exact hm
 have b2:=au.2.2;rw[aL gI.p 2 h1 rfl,dA,m1 Ω Ω,ck (i:=t.marks.length-1) Ω tv.u gW.i Z Ω,bz gW.p gW.i rfl (Z.range hm)];refine bE gW.i λaq V b3 a1 bB=>?_;refine b1 (vs:=qD m) gW.i rfl rfl (by intro v X;simp[qD]at X;rcases X with rfl|rfl|rfl<;>rfl) bB λq B bs bC=>?_;have a2:=a1.put B Ω;have ai:∀{I:x6},Ext q I->ag I aq gW (qD m):=λJ=>bC.W J;refine aY (λv aK=>v= .bool (decide (c.st<m.st/\i<m.cells))/\Ext q aK) ?_ ?_
 rotate_left
 .intro b4 a6;intro aK s _ _;have L:=a2.F s;have ba:=ai s;have M:=aW.W L;rw[aL gI.p 0 (h1.W L) rfl,ck rfl jx.u e3.i M N,aU e3.p rfl,aF Ψ (M.range C 1 _ rfl),aJ gW.p 2 ba rfl,aT,al];refine⟨λbb=>?_,λbc=>a6 _ _ ⟨by rw[s2];omega,s⟩⟩;rw[aJ gW.p 1 ba rfl,aT];refine a6 _ _ ⟨?_,s⟩;congr 1;rw[U6,sp,sp];exact⟨λh=>⟨Ω,Ω⟩,λh=>Ω⟩
 rintro _ aK ⟨rfl,s⟩;have L:=a2.F s;rw[al];refine⟨λbb=>?_,λbc=>aI _ ⟨A,t,c.st,Grow.W L,(h.W J).W L,C,aX (.inr ⟨m,aZ,bc⟩)⟩⟩;intro b5 aj _ _;have Y:=L.F aj;have aM:=h1.W Y;have M:=aW.W Y;have bD:=aw.W Y;have bF:=Z.W Y;rw[b0,aU gI.p rfl,aF Ψ (aM.cell rfl),b0,aU gI.p rfl,aF Ψ (aM.cell rfl),ck rfl jx.u e3.i M N,bz e3.p e3.i rfl (M.range C)];rw[dk (cs:=#[Δ (i:Int),Δ c.v,.int .u64 (c.st:Int)]) Ψ];let a:mo:=⟨i,c⟩;have bG:∀u∈se a,u.oneCell'=v2:=by intro v X;simp[se]at X;rcases X with rfl|rfl|rfl<;>rfl
 refine iO (f:=se) (a:=a) oW.u nf.i Ω rfl rfl λb6 b7 bd b9 z bH=>?_;refine⟨.inl z,?_⟩;have be:=Y.F z;have aO:=aM.W z;have bf:=M.W z;have aP:=bD.W z;have bg:=bF.W z;obtain⟨⟨W,aC,aE⟩,H,bI⟩:=uN aO bf aP bg;refine jl oW.u nf.i rfl aP (by simpa using bH.sl) bG (by have:=au.2.1;omega) (by have:=au.2.1;omega) λbJ bK ca am bM bh=>?_;rw[b0,aU gI.p rfl];have bi:=aO.aa bh aC;refine bu oW.i (eB am.sl).1 (eB am.sl).2 bi Ξ λan bj cb aQ=>?_;have aQ:=aQ;have ao:af (λr=>lm P r\/r=ae) bd an:=(bh.Y λr _ h=>.inl h).F (bj.Y λr _ h=>.inr h);have bN:=bf.aa ao λr e he=>he.elim (λhe=>(H r e).1 he) λhe=>W (he▸e);have bO:=bg.aa ao λr e he=>he.elim (λhe=>(bI r he).2 e) λhe=>aE (he▸e);have bQ:=am.aa bj λr e he=>by
  have he:r=ae:=he;subst he;exact cL am bi Φ e
 have cc:=be.size;have cd:=a1.size;let aR:ah:=λr=>A r\/bd.heap.size<=r;have bR:Grow A U aR an:=⟨(be.aa A).F (ao.Y λr _ he=>he.elim (λhe=>ac r (.inr (.inl he))) λhe=>he▸aV),λr e=>e.imp id λe=>Ω,λr e=>.inl e⟩;have bS:dC an ae aR {t with olds:=t.olds++[a]}:=⟨.inl aV,O,bK,dt,a8,bJ,eu,aQ,bN,bQ,bO,λr e=>by
  rcases e with e|e|e
  .exact .inl (ac r (.inl e))
  .rcases bM r e with h|h
   .exact .inl (ac r (.inr (.inl h)))
   .exact .inr h
  .exact .inl (ac r (.inr (.inr e)))⟩
 have bT:ag an aq gW (qD m):=(ai ((s.F aj).F z)).aa ao λhe=>by
  rcases he with he|he
  .obtain⟨rfl,ce,bV⟩:=dU aP he;exact ro (ft bV (ai ((s.F aj).F z))) Φ
  .subst he;exact ro (ft aO (ai ((s.F aj).F z))) Φ
 intro cf aS _ _;have bW:=bS.W aS;obtain⟨aB,O,go,dt,a8,P,eu,E,G,Q,R,S⟩:=bW;rw[aL gI.p 0 E rfl,aJ gW.p 2 (bT.W aS) rfl,ck rfl jx.u e3.i G N,aU e3.p rfl];obtain⟨⟨W,aC,aE⟩,H,_⟩:=uN E G Q R;refine k6 (a':=⟨c.v,m.st⟩) fN.i rfl rfl G C rfl Ω λcg ap ch bX=>?_;have aH:t.set i x={t with olds:=t.olds++[a],cells:=t.cells.set i ⟨x,m.st⟩}:=by
  unfold aA.set;rw[C];simp only[aZ];rw[ms bb]
 refine aI _ ⟨aR,{t with olds:=t.olds++[a],cells:=t.cells.set i ⟨c.v,m.st⟩},m.st,bR.F ((Grow.W aS).F ⟨ap.Y λr _ e=>S r (.inl e),λ_ h=>.inl h,λ_ h=>h⟩),⟨aB,O,go,dt,a8,P,eu,E.aa ap W,bX,Q.aa ap λr e he=>(H r he).1 e,R.aa ap λr e he=>(H r he).2 e,S⟩,?_,?_⟩
 .show (t.cells.set i _)[i]?=_;rw[l9 N]
 .rw[aH];simp only[List.set_set]
def Eh(n:Nat):dZ (#[Δ 0,.int .u64 0]:Array x4) (n*2)=(o6 n (⟨0,0⟩:Cell)).flatMap kE:=by
 have:∀n,dZ (#[Δ 0,.int .u64 0]:Array x4) (n*2)=(o6 n (⟨0,0⟩:Cell)).flatMap kE:=by
  intro n;apply X0;intro j;have r:((o6 n (⟨0,0⟩:Cell)).flatMap kE).length=n*2:=by simp[kE]
  by_cases p:j<n*2
  .have q:(dZ (#[Δ 0,.int .u64 0]:Array x4) (n*2))[j]?=σ (if j % 2=0 then Δ 0 else .int .u64 0):=by
    unfold dZ;rw[Q0,Array.getElem?_map,Array.getElem?_range,ms p];rcases Nat.mod_two_eq_zero_or_one j with h|h<;>simp[h]
   have e:=qu (f:=kE) (k:=2) (L:=o6 n (⟨0,0⟩:Cell)) (i:=j / 2) (j:=j % 2) (a:=⟨0,0⟩) (v:=if j % 2=0 then Δ 0 else .int .u64 0) (λa _=>rfl) (by rw[List.getElem?_replicate,ms Ω]) (by rcases Nat.mod_two_eq_zero_or_one j with h|h<;>simp[h,kE]);rw[show j / 2*2+j % 2=j by omega]at e;rw[q,e]
  .rw[Y5 (by rw[qa];omega),Y5 Ω]
 exact this n
def Pz{A:ah}{t:aA}(h:dC w ae A t)(Q:od t)(ac:n<=100000000):ak v8 JV [Γ ae,Δ (n:Int)] w λv I=>v=Δ (t.cells.length:Int)/\∃aN,Grow A w aN I/\dC I ae aN (t.grow n):=by
 refine az func202 ?_;refine(Ef h).Y ?_;rintro _ U _ ⟨rfl,f⟩;refine c8 (λV=>∃aN,Grow A w aN V/\dC V ae aN (t.grow n)) (λV h=>⟨rfl,h⟩) ?_;intro ax y;refine aY (λv V=>v= .bool (decide (0<n))/\U=V) ?_ ?_
 rotate_left
 .intro ad R;rw[wJ rg.u];simp only[Y0,W6,bO];rw[bP];refine R _ _ ⟨?_,rfl⟩;congr 1;rw[U6,sp,sp];omega
 rintro _ _ ⟨rfl,rfl⟩;rw[al];refine⟨λB=>?_,λB=>y _ ⟨A,Grow.W f,?_⟩⟩
 rotate_left
 .have:n=0:=Ω
  subst this;have e:t.grow 0=t:=by unfold aA.grow;simp
  rw[e];exact h.W f
 obtain⟨C,ag,go,dt,a8,S,eu,h1,E,G,H,j⟩:=id (h.W f);rw[aL gI.p 0 h1 rfl];obtain⟨⟨W,X,Y⟩,J,aj⟩:=uN h1 E G H;have am:=Q.1;refine Px (k:=2) rfl jx.u ai.u e3.i rfl Ω (λu hu=>?_) E.1 B Ω Ω λK L V M Z N=>?_
 .exact DZ Φ Φ u hu
 rw[b0,aU gI.p rfl];have q:bk kE 2 e3 V L K (t.cells++o6 n ⟨0,0⟩):=by
  refine⟨?_,λ_ _=>rfl⟩;have e:(x4.agg #[Δ 0,.int .u64 0]).cells= #[Δ 0,.int .u64 0]:=rfl;rw[e,Eh]at M;rw[n9,List.length_replicate,List.flatMap_append];exact M
 have O:=h1.aa N W;refine bu jx.i (eB q.sl).1 (eB q.sl).2 O Ξ λab P an s=>?_;have s:=s;have x:af (λr=>lm a8 r\/r=ae) U ab:=(N.Y λr _ h=>.inl h).F (P.Y λr _ h=>.inr h);have z:=f.size;refine y _ ⟨λr=>A r\/U.heap.size<=r,(Grow.W f).F ⟨x.Y λr _ he=>he.elim (λhe=>j r (.inl he)) λhe=>he▸C,λr a=>a,λr a=>.inl a⟩,.inl C,L,go,dt,K,S,eu,s,q.aa P λr a he=>?_,G.aa x λr a he=>he.elim (λhe=>(J r he).1 a) λhe=>X (he▸a),H.aa x λr a he=>he.elim (λhe=>(J r he).2 a) λhe=>Y (he▸a),λr a=>?_⟩
 .have he:r=ae:=he;subst he;exact cL q O Φ a
 .rcases a with a|a|a
  .exact (Z r a).imp (λh=>j r (.inl h)) id
  .exact .inl (j r (.inr (.inl a)))
  .exact .inl (j r (.inr (.inr a)))
def PA(s:n<=1000):ak v8 I3 [Δ (n:Int)] w λv I=>Ext w I/\∃ae,v=Γ ae/\dC I ae (eV w.heap.size) ⟨o6 n ⟨0,0⟩,[],[],0⟩:=by
 refine az func128 ?_;rw[tx,Int.max_eq_left Ω];refine Be jx.u e3.i Ω Ω λg U x h f=>?_;rw[dk (cs:=#[.slice (σ ⟨g,0,ν⟩) n n,.slice ν 0 0,.slice ν 0 0,.int .u64 0]) Ψ];refine bn λae V y j q=>?_;have z:=h.size;have e:(x4.agg #[Δ 0,.int .u64 0]).cells= #[Δ 0,.int .u64 0]:=rfl;have f:ag U g e3 ((o6 n (⟨0,0⟩:Cell)).flatMap kE):=by rw[<-Eh,<-e];exact f
 have p:bk kE 2 e3 U g (.slice (σ ⟨g,0,ν⟩) n n) (o6 n ⟨0,0⟩):=by
  refine⟨?_,λ_ _=>rfl⟩;rw[List.length_replicate];exact b2.full f (by simp[kE]) (by simp[maxLen];omega)
 refine⟨h.F j,ae,rfl,by show w.heap.size<=ae;omega,g,0,0,_,_,_,q,p.W j,bk.nil _ _ _ _ _,bk.nil _ _ _ _ _,λr a=>?_⟩;rcases a with a|a|a
 .have:=(p.lw a).1;show w.heap.size<=r;omega
 .exact (fi a).elim
 .exact (fi a).elim
theorem pb{α β:Type}{f:α->List β}:∀{L:List α}{i j:Nat}{a:α},L[i]?=σ a->j<(f a).length->(L.flatMap f)[((L.take i).flatMap f).length+j]?=(f a)[j]?
 |x::L,0,j,a,h,e=>by
  cases h;rw[List.take_zero,List.flatMap_nil,List.length_nil,X6,V8,Y2 e]
 |x::L,i+1,j,a,h,e=>by
  have h:L[i]?=σ a:=by simpa using h
  rw[List.take_succ_cons,V8,V8,n9,Q3,Z7 Ω,Q5,pb h e]
theorem xR{α β:Type}{f:α->List β}:∀{L:List α}{i j:Nat}{a b:α}{x:β},L[i]?=σ a->j<(f a).length->f b=(f a).set j x->(L.flatMap f).set (((L.take i).flatMap f).length+j) x=(L.set i b).flatMap f
 |y::L,0,j,a,b,x,h,e,p=>by
  cases h;rw[List.take_zero,List.flatMap_nil,List.length_nil,X6,V8,List.set_cons_zero,V8,p,List.set_append_left _ _ e]
 |y::L,i+1,j,a,b,x,h,e,p=>by
  have h:L[i]?=σ a:=by simpa using h
  rw[List.take_succ_cons,V8,V8,n9,Q3,T4 _ _ Ω,Q5,xR h e p,List.set_cons_succ,V8]
def Ei{α β:Type}{f:α->List β}{L:List α}{i:Nat}{a:α}(h:L[i]?=σ a)(e:j<(f a).length):((L.take i).flatMap f).length+j<(L.flatMap f).length:=by
 have h1:=pb (f:=f) h e;rw[x8 e]at h1;exact(x5.1 h1).1
structure bo where
 gone:Int
 mask:Int
 un:Λ
structure cm where
 sc:Λ
 aj:Λ
 live:Int
 cs:Λ
structure uP where
 v:Int
 sc:Λ
 mC:Λ
structure am where
 zero:Int
 d6:List bo
 d9:List cm
 du:List uP
def iT(x:bo):Λ:=x.gone::x.mask::x.un
def jn(x:cm):Λ:=x.live::x.cs
def kc(s:am):Λ:=[s.zero,(s.d9.length:Int),(s.du.length:Int)]
def am.cells(s:am):Λ:=kc s++(s.d6.flatMap iT++s.d9.flatMap jn)
def ie(s:am)(i:Nat):Nat:=3+((s.d6.take i).flatMap iT).length
def fu(s:am)(j:Nat):Nat:=3+((s.d6.flatMap iT).length+((s.d9.take j).flatMap jn).length)
def PB(s:am):s.cells[0]?=σ s.zero:=rfl
def sf{s:am}{i:Nat}{x:bo}(h:s.d6[i]?=σ x)(e:j<x.un.length+2):s.cells[ie s i+j]?=(iT x)[j]?:=by
 have a:j<(iT x).length:=e;unfold am.cells ie;rw[Q3,Z7 (by simp[kc]),show(kc s).length=3 from rfl,Q5,Y2 (Ei h a),pb h a]
def xS{s:am}{i:Nat}{x:cm}(h:s.d9[i]?=σ x)(a:j<x.cs.length+1):s.cells[fu s i+j]?=(jn x)[j]?:=by
 have e:j<(jn x).length:=a;unfold am.cells fu;rw[Q3,Q3,Z7 (by simp[kc]),show(kc s).length=3 from rfl,Q5,Z7 Ω,Q5,pb h e]
def PC(s:am)(c:Int):s.cells.set 0 c=({s with zero:=c}:am).cells:=rfl
def Ej{s:am}{i:Nat}{x y:bo}(h:s.d6[i]?=σ x)(e:j<x.un.length+2)(f:iT y=(iT x).set j c):s.cells.set (ie s i+j) c=({s with d6:=s.d6.set i y}:am).cells:=by
 have a:j<(iT x).length:=e;unfold am.cells ie;rw[Q3,T4 _ _ (by simp[kc]),show(kc s).length=3 from rfl,Q5,List.set_append_left _ _ (Ei h a),xR h a f];rfl
def PD{s:am}{i:Nat}{x y:cm}(h:s.d9[i]?=σ x)(a:j<x.cs.length+1)(e:jn y=(jn x).set j c):s.cells.set (fu s i+j) c=({s with d9:=s.d9.set i y}:am).cells:=by
 have f:j<(jn x).length:=a;unfold am.cells fu;rw[Q3,Q3,T4 _ _ (by simp[kc]),show(kc s).length=3 from rfl,Q5,T4 _ _ Ω,Q5,xR h f e];show _=kc {s with d9:=s.d9.set i y}++_;unfold kc;rw[o7]
def PE{s:am}(x:cm):(s.cells++jn x).set 1 ((s.d9.length+1:Nat):Int)=({s with d9:=s.d9++[x]}:am).cells:=by
 unfold am.cells;simp only[List.flatMap_append,List.flatMap_singleton,kc,n9,T5,T6];rfl
def xT(s:am):s.cells.length=3+((s.d6.flatMap iT).length+(s.d9.flatMap jn).length):=by
 unfold am.cells;rw[n9,n9];rfl
def kd(a sc:Λ):Λ:=sc.map λv=>a.getD v.toNat 0
def lR(k:Int)(a:Int)(p:bo×Int):Int:=if p.1.gone≠0 then a else min (a+p.1.un.getD p.2.toNat 0) k
def lf(k:Int)(a:Λ)(e:Int)(f:cm):Int:=if f.live≠0 then min (e+bq f.aj f.cs (kd a f.sc)) k else e
def dropped(mask:Int)(v:Int):Bool:=mask.toNat.testBit v.toNat
def fY(p:bo×Int):Bool:=decide (p.1.gone≠0)|| !dropped p.1.mask p.2
def eP(k:Int)(s:am)(a:Λ):Int:=if(s.d6.zip a).all fY then s.d9.foldl (lf k a) ((s.d6.zip a).foldl (lR k) s.zero)else k
def ig(s:am)(a:Λ):Prop:=a.length=s.d6.length/\∀(i:Nat)x v,s.d6[i]?=σ x->a[i]?=σ v->x.gone≠0\/(0<=v/\v<x.un.length)
structure bc(k:Int)(co:Λ)(s:am):Prop where
 fk:1<=k/\k<=2147483648
 ev:1<=co.length/\co.length<=64/\∀z∈co,1<=z/\z<=32
 zero:0<=s.zero/\s.zero<=k
 d6:s.d6.length=co.length
 var:∀(i:Nat)x z,s.d6[i]?=σ x->co[i]?=σ z->x.un.length=z.toNat/\(∀c∈x.un,0<=c/\c<=k)/\0<=x.mask/\x.mask<4294967296
 d9:∀f∈s.d9,gR co k (f.sc,f.cs)/\f.aj=bN co f.sc/\2<=f.sc.length
def newVar(u:Λ):bo:=⟨0,0,u⟩
def lS(co:Λ)(g:cR):cm:=⟨g.1,bN co g.1,1,g.2⟩
def c6(n:aI):am:=⟨n.zero,n.unary.map newVar,n.d9.map (lS n.co),[]⟩
def PF{n:aI}(h:lb n):bc n.k n.co (c6 n):=by
 refine⟨h.k,h.co,h.zero,by simp[c6,h.lQ],λi x z a j=>?_,λf p=>?_⟩
 .have a:(n.unary.map newVar)[i]?=σ x:=a;rw[u4]at a;obtain⟨u,hu,rfl⟩:=Y9.1 a;obtain⟨h1,e⟩:=h.unary i z u j hu;exact⟨h1,e,S9 _,by show(0:Int)<_;omega⟩
 .obtain⟨g,q,rfl⟩:=j5.1 p;obtain⟨h1,e⟩:=h.d9 g q;exact⟨h1,rfl,e⟩
def xU{n:aI}(h:gB w a n):ak v8 IN [Γ a] w λv I=>v=Δ (n.co.length:Int)/\Ext w I:=by
 obtain⟨j,q,r,s,gr,aZ,L,nm,lc,gz,fv2,h1,e,f,x,y,z,A⟩:=h;refine az func94 ?_;rw[di nS.u];simp only[Y0,a7];rw[aL gk.p 0 h1 rfl,aL cI.p 2 e rfl,a1 an.u f.ls];exact⟨rfl,Ext.refl _⟩
def PG{n:aI}(h:gB w a n):ak v8 J9 [Γ a] w λv I=>v=Δ n.k/\Ext w I:=by
 obtain⟨f,j,q,r,gr,aZ,L,nm,lc,gz,fv2,h1,e,s,x,y,z,A⟩:=h;refine az func219 ?_;rw[di nS.u];simp only[Y0,a7];rw[aL gk.p 0 h1 rfl,aL cI.p 1 e rfl];exact⟨rfl,Ext.refl _⟩
def PH{n:aI}(h:gB w a n):ak v8 I4 [Γ a] w λv I=>v=Δ n.zero/\Ext w I:=by
 obtain⟨e,f,j,q,gr,aZ,L,nm,lc,gz,fv2,h1,r,s,x,y,z,A⟩:=h;refine az func130 ?_;rw[di nS.u];simp only[Y0,a7];rw[aL gk.p 1 h1 rfl];exact⟨rfl,Ext.refl _⟩
def Ek{n:aI}(h:gB w a n):ak v8 AJ [Γ a] w λv I=>v=Δ (n.d9.length:Int)/\Ext w I:=by
 obtain⟨j,q,r,s,gr,aZ,L,nm,lc,gz,fv2,h1,x,y,z,A,e,f⟩:=h;refine az func133 ?_;rw[di nS.u];simp only[Y0,a7];rw[aL gk.p 3 h1 rfl,ef md.u e.1];exact⟨by rw[<-f,r8],Ext.refl _⟩
def El{s:Nat}{n:aI}{i:Int}(h:gB w s n)(f:lb n):ak v8 I5 [Γ s,Δ i] w λv I=>Ext w I/\(¬(0<=i/\i<n.co.length)->v= .slice ν 0 0)/\
  ∀u,0<=i->n.unary[i.toNat]?=σ u->∃g,w.heap.size<=g/\aB .i64 av I g v u:=by
 refine az func131 ?_;have K:=f.lQ;refine aY (λv U=>v= .bool (decide (¬(0<=i/\i<n.co.length)))/\Ext w U) ?_ ?_
 .rintro _ U ⟨rfl,e⟩;rw[al];refine⟨λC=>⟨e,λ_=>rfl,λu E hu=>?_⟩,λj=>?_⟩
  .have:=(x5.1 hu).1;exact ro ⟨E,Ω⟩ C
  have j:=X5.1 j;obtain⟨M,N,O,P,gr,aZ,L,nm,lc,gz,fv2,h1,Q,R,q,x,S,W⟩:=h.W e;have X:aZ.length=n.unary.length:=by rw[<-x,r8]
  obtain⟨a,r⟩:=aD (l:=aZ) (i:=i.toNat) Ω;obtain⟨Y,hm⟩:=q.2 a (x7 r);rw[aL gk.p 2 h1 rfl,ck (i:=i.toNat) Ω cW.u aw.i q.1 Ω,aF (o:=i.toNat*1) Ψ (q.1.range r 0 _ rfl)];have y:n.unary[i.toNat]?=σ a.l:=by rw[<-x,u4,r];rfl
  have Z:a.l.length<=32:=by
   obtain⟨z,A⟩:=aD (l:=n.co) (i:=i.toNat) Ω;have aa:=(f.unary i.toNat z a.l A y).1;have ab:=f.co.2.2 z (x7 A);omega
  refine(wP hm.ls Ω).Y ?_;rintro v V _ ⟨G,g,ac,H⟩;refine⟨e.F G,λJ=>ro j J,λu _ hu=>⟨g,by have:=e.size;omega,?_⟩⟩;rw[y]at hu;cases hu;exact H
 .intro ax B;rw[aT,al];refine⟨λad=>B _ _ ⟨by rw[rs];omega,Ext.refl _⟩,λae=>?_⟩;refine(xU h).Y ?_;rintro _ U _ ⟨rfl,e⟩;rw[cP];refine B _ _ ⟨?_,e⟩;congr 1;rw[U6,sp,sp];omega
def Em{n:aI}{i:Int}(h:gB w j n)(a:lb n):ak v8 It [Γ j,Δ i] w λv I=>Ext w I/\v=Δ (if 0<=i then n.co.getD i.toNat 0 else 0):=by
 refine az func67 ?_;refine(El h a).Y ?_;rintro v U _ ⟨p,r,s⟩;by_cases e:0<=i/\i<n.co.length
 .have x:=a.lQ;obtain⟨u,hu⟩:=aD (l:=n.unary) (i:=i.toNat) Ω;obtain⟨z,f⟩:=aD (l:=n.co) (i:=i.toNat) Ω;obtain⟨g,_,hm⟩:=s u e.1 hu;rw[a1 aw.u hm.ls];refine⟨p,?_⟩;have y:=(a.unary i.toNat z u f hu).1;have A:=a.co.2.2 z (x7 f);rw[ms e.1,u5,f];congr 1;simp only[W7];omega
 .rw[r e,jd aw.u];refine⟨p,?_⟩;by_cases q:0<=i
  .rw[ms q,u5,Y5 Ω];rfl
  .rw[rc q];rfl
def En{n:aI}{j:Int}(h:gB w a n)(f:∀I,Ext w I->K (.bool (decide (¬(0<=j/\j<n.d9.length)))) I):
  ab v8 (aP .lss ai v6 v2 (Δ j) (Δ 0)) w λq=>Split q (K (.bool v2) w) (ak v8 AJ [Γ a] w λr p=>ab v8 (aP .geq ai v6 v6 (Δ j) r) p λs=>K s p):=by
 rw[aT,al];refine⟨λy=>?_,λz=>?_⟩
 .have:=f w (Ext.refl _);rw[rs (show¬(0<=j/\j<n.d9.length) by omega)]at this;exact this
 .refine (Ek h).Y ?_;rintro _ U _ ⟨rfl,x⟩;rw[cP];have:=f U x;have e:decide ((n.d9.length:Int)<=j)=decide (¬(0<=j/\j<n.d9.length)):=by
   rw[U6,sp,sp];omega
  rw[<-e]at this;exact this
def PI{s:Nat}{n:aI}{g:cR}(h:gB w s n)(z:lb n)(e:n.d9[j]?=σ g):ak v8 I7 [Γ s,Δ (j:Int)] w λv I=>Ext w I/\∃gs,w.heap.size<=gs/\aB .i64 ai I gs v g.1:=by
 refine az func135 ?_;have G:=(x5.1 e).1;refine aY (λv U=>v= .bool (decide (¬(0<=(j:Int)/\(j:Int)<n.d9.length)))/\Ext w U) ?_ λax A=>En h λI B=>A _ _ ⟨rfl,B⟩;rintro _ U ⟨rfl,f⟩;rw[s2 Ω,a7];obtain⟨H,J,K,M,gr,aZ,L,nm,lc,gz,fv2,h1,N,O,P,Q,q,x⟩:=h.W f;have R:L.length=n.d9.length:=by rw[<-x,r8]
 obtain⟨a,r⟩:=aD (l:=L) (i:=j) Ω;have y:eg a=g:=by rw[<-x,u4,r]at e;exact Z5 e
 obtain⟨⟨S,hm⟩,_⟩:=q.2 a (x7 r);rw[aL gk.p 3 h1 rfl,ck rfl md.u iG.i q.1 Ω,aU iG.p rfl,aF Ψ (q.1.range r 0 _ rfl)];have W:a.sc.length<=6:=by
  have:=(z.d9 g (x7 e)).1.scope.2;rw[<-y]at this;exact this
 refine(k1 hm.ls Ω).Y ?_;rintro v V _ ⟨C,gs,X,E⟩;refine⟨f.F C,gs,by have:=f.size;omega,?_⟩;rw[<-y];exact E
def PJ{g C:Nat}{cs:Λ}(h:dm w g C sv aj k cs):ak v8 JX [Γ g] w λv I=>Ext w I/\∃a e,v=Γ a/\w.heap.size<=a/\w.heap.size<=e/\dm I a e sv aj k cs:=by
 obtain⟨⟨a8,gs,E,hm,G⟩,⟨h1,L,ac⟩,J,y⟩:=h;refine az func204 ?_;rw[di fd.u];simp only[Y0,a7];intro U f _ _;have r:=E.W f;have M:=prod_bound J;rw[b0,aU c4.p rfl,bz (cs:=[sv]) bH.p bH.i rfl (pd r (by
  intro j v s
  match j,s with
  |0,s=>exact s)),aL c4.p 1 r rfl,aL c4.p 2 r rfl]
 refine(wP (G.ls.W f) Ω).Y ?_;rintro z V _ ⟨x,e,N,q⟩;refine⟨.inl x,?_⟩;rw[dk (cs:=#[sv,Δ k,z]) (by obtain⟨_,_,_,rfl⟩:=c5 hm.ls;obtain⟨_,_,_,rfl⟩:=c5 q.ls;kernel_rfl)];refine bn λa O P A H=>?_;have Q:=f.size;have R:=x.size;have S:=q;have B:=(f.F x).F A;refine⟨B,a,e,rfl,Ω,Ω,⟨z,gs,H,hm.W B,q.W A⟩,⟨?_,?_,ac⟩,J,y⟩
 .have:=uy q (by rw[y];omega);omega
 .intro K;obtain⟨W,X⟩:=bW hm K;omega
def PK{z:Nat}{n:aI}{g:cR}(A:gB w0 z n)(B:Ext w0 w)(f:n.d9[j]?=σ g):ak v8 I8 [Γ z,Δ (j:Int)] w λv I=>Ext w I/\∃gt q sv,v=Γ gt/\w.heap.size<=gt/\w.heap.size<=q/\dm I gt q sv (bN n.co g.1) n.k g.2/\∀r,lw sv r->∃c,ag w0 r ai c:=by
 have h:=A.W B;refine az func136 ?_;have X:=(x5.1 f).1;refine aY (λv U=>v= .bool (decide (¬(0<=(j:Int)/\(j:Int)<n.d9.length)))/\Ext w U) ?_ λax J=>En h λI K=>J _ _ ⟨rfl,K⟩;rintro _ U ⟨rfl,s⟩;rw[s2 Ω,a7];have e:=B.F s;obtain⟨Y,Z,aa,ab,gr,aZ,L,nm,lc,gz,fv2,h1,ac,ad,ae,af,x,C⟩:=A;have ah:L.length=n.d9.length:=by rw[<-C,r8]
 obtain⟨a,y⟩:=aD (l:=L) (i:=j) Ω;have M:eg a=g:=by rw[<-C,u4,y]at f;exact Z5 f
 obtain⟨_,q,N,E⟩:=x.2 a (x7 y);rw[aL gk.p 3 (h1.W e) rfl,ck rfl md.u iG.i (x.1.W e) Ω,aU iG.p rfl,aF Ψ ((x.1.W e).range y 1 _ rfl)];refine(PJ (E.W e)).Y ?_;rintro v V _ ⟨O,gt,P,rfl,aj,al,Q⟩;have am:=s.size;refine⟨s.F O,gt,P,N,rfl,Ω,Ω,?_,λr G=>?_⟩
 .rw[<-M];exact Q
 .obtain⟨⟨_,_,_,hm,_⟩,_⟩:=E;obtain⟨R,_⟩:=bW hm G;rcases hm.2 with⟨S,_⟩|⟨_,cs,_,W,_⟩
  .obtain⟨_,_,_,H,an⟩:=G;rw[S]at H;cases H
  .exact⟨cs,R▸W⟩
structure qE where
 aS:x4
 lc:x4
 at_:Nat
def qF(x:qE):List x4:=[x.aS,x.lc,Δ (x.at_:Int)]
structure qG where
 v:Int
 aS:x4
 bv:x4
def px(x:qG):List x4:=[Δ x.v,x.aS,x.bv]
def jM(s:am):Λ:=(X9 s.d6.length).map λi=>(ie s i:Int)
def ke(R:ah)(w:x6)(v:x4)(l:Λ):Prop:=(∃g,aB .i64 ai w g v l)/\∀r,lw v r->R r
def ke.ls{R:ah}(h:ke R w v l):aM .i64 w v l:=by
 obtain⟨⟨g,h⟩,_⟩:=h;exact h.ls
def ke.aa{R S:ah}(h:ke R w v l)(f:af S w I)(j:∀r,r<w.heap.size->R r->¬S r):ke R I v l:=by
 obtain⟨⟨g,h1⟩,a⟩:=h;exact⟨⟨g,bw h1 f λr e=>j r (by obtain⟨p,q⟩:=bW h1 e;omega) (a r e)⟩,a⟩
def ke.Y{R R':ah}(h:ke R w v l)(a:∀r,R r->R' r):ke R' w v l:=⟨h.1,λr e=>a r (h.2 r e)⟩
def mE(R:ah)(w:x6)(L:List qE)(s:am):Prop:=L.length=s.d9.length/\∀(j:Nat)x f,L[j]?=σ x->s.d9[j]?=σ f->ke R w x.aS f.sc/\ke R w x.lc f.aj/\x.at_=fu s j
def nB(R:ah)(w:x6)(E:List qG)(s:am):Prop:=E.length=s.du.length/\∀(j:Nat)x e,E[j]?=σ x->s.du[j]?=σ e->x.v=e.v/\ke R w x.aS e.sc/\ke R w x.bv e.mC
def mE.aa{R S:ah}{L:List qE}{s:am}(h:mE R w L s)(a:af S w I)(e:∀r,r<w.heap.size->R r->¬S r):mE R I L s:=⟨h.1,λj x f p q=>by
 obtain⟨h1,y,z⟩:=h.2 j x f p q;exact⟨h1.aa a e,y.aa a e,z⟩⟩
def nB.aa{R S:ah}{E:List qG}{s:am}(h:nB R w E s)(a:af S w I)(e:∀r,r<w.heap.size->R r->¬S r):nB R I E s:=⟨h.1,λj x f p q=>by
 obtain⟨h1,y,z⟩:=h.2 j x f p q;exact⟨h1,y.aa a e,z.aa a e⟩⟩
def mE.Y{R R':ah}{L:List qE}{s:am}(h:mE R w L s)(a:∀r,R r->R' r):mE R' w L s:=⟨h.1,λj x f e p=>by
 obtain⟨h1,q,y⟩:=h.2 j x f e p;exact⟨h1.Y a,q.Y a,y⟩⟩
def nB.Y{R R':ah}{E:List qG}{s:am}(h:nB R w E s)(a:∀r,R r->R' r):nB R' w E s:=⟨h.1,λj x f e p=>by
 obtain⟨h1,q,y⟩:=h.2 j x f e p;exact⟨h1,q.Y a,y.Y a⟩⟩
def uQ{a b c:x6}(h:Ext a b)(k:af S b c)(f:∀r o,a.heap[r]?=σ o->fK o=v2->¬S r):Ext a c:=
 ⟨X1 h.size k.size,λr o e J=>k.aX r o (h.aX r o e J) J (f r o e J)⟩
def dC.cut{A:ah}{t:aA}(h:dC w ae A t):dC w ae (λr=>A r/\r<w.heap.size) t:=by
 obtain⟨s,x,go,dt,a8,y,eu,h1,e,f,j,z⟩:=h;refine⟨⟨s,h1.lt⟩,x,go,dt,a8,y,eu,h1,e,f,j,λr a=>⟨z r a,?_⟩⟩;rcases a with a|a|a
 .obtain⟨p,q⟩:=e.lw a;omega
 .obtain⟨p,q⟩:=f.lw a;omega
 .obtain⟨p,q⟩:=j.lw a;omega
def eZ(w:x6)(ad ae j:Nat)(e f h:x4)(A R:ah)(n:aI)(s:am)(t:aA):Prop:=
 (A ad/\(∀r,A r->¬R r)/\(∀r,R r->r<w.heap.size)/\∀r,A r->r<w.heap.size)/\∃bd p ge,∃(L:List qE)(E:List qG)(a:ah)(w0:x6),
  ag w ad cU [Γ j,Γ ae,e,f,h]/\(gB w0 j n/\Ext w0 w/\∀r o,w0.heap[r]?=σ o->fK o=v2->R r)/\
  (dC w ae a t/\(∀r,a r->A r)/\¬a ad/\∀r,lw e r\/lm f r\/lm h r->A r/\¬a r)/\aB .i64 ai w bd e (jM s)/\
  (bk qF 3 gj w p f L/\mE R w L s)/\bk px 3 e2 w ge h E/\nB R w E s
def eZ.aa{S:ah}{y:Nat}{B C F:x4}{A R:ah}{n:aI}{s:am}{t:aA}(h:eZ w ad ae y B C F A R n s t)(e:af S w I)(f:∀r,r<w.heap.size->A r\/R r->¬S r):eZ I ad ae y B C F A R n s t:=by
 obtain⟨⟨h1,j,W,X⟩,bd,Y,ge,L,E,Z,w0,G,⟨ab,H,K⟩,⟨ac,p,ag,q⟩,M,⟨N,ai⟩,O,aj⟩:=h;have z:=e.size;refine⟨⟨h1,j,λr a=>by have:=W r a;omega,λr a=>by have:=X r a;omega⟩,bd,Y,ge,L,E,Z,w0,G.aa e (f _ G.lt (.inl h1)),⟨ab,uQ H e λr o a ak J=>f r (by have:=H.size;have:=(Z0.1 a).1;omega) (.inr (K r o a ak)) J,K⟩,
  ⟨?_,p,ag,q⟩,bw M e λr a J=>f r ?_ (.inl (q r (.inl a)).1) J,⟨N.aa e λr a J=>f r ?_ (.inl (q r (.inr (.inl a))).1) J,ai.aa e λr a h=>f r a (.inr h)⟩,O.aa e λr a J=>f r ?_ (.inl (q r (.inr (.inr a))).1) J,aj.aa e λr a h=>f r a (.inr h)⟩
 .obtain⟨P,al,go,dt,a8,an,eu,Q,T,U,V,x⟩:=ac;refine⟨P,al,go,dt,a8,an,eu,Q.aa e (f _ Q.lt (.inl (p _ P))),T.aa e λr a J=>?_,U.aa e λr a J=>?_,V.aa e λr a J=>?_,x⟩
  .exact f r (by obtain⟨h1,j⟩:=T.lw a;omega) (.inl (p _ (x r (.inl a)))) J
  .exact f r (by obtain⟨h1,j⟩:=U.lw a;omega) (.inl (p _ (x r (.inr (.inl a))))) J
  .exact f r (by obtain⟨h1,j⟩:=V.lw a;omega) (.inl (p _ (x r (.inr (.inr a))))) J
 .obtain⟨h1,j⟩:=bW M a;omega
 .obtain⟨h1,j⟩:=N.lw a;omega
 .obtain⟨h1,j⟩:=O.lw a;omega
def eZ.W{e f j:x4}{A R:ah}{n:aI}{s:am}{t:aA}(h:eZ w ad ae a e f j A R n s t)(p:Ext w I):eZ I ad ae a e f j A R n s t:=h.aa (p.aa λ_=>False) λ_ _ _ h=>h
def eZ.sg{C:Nat}{F G H:x4}{A R:ah}{n:aI}{s:am}{t:aA}(h:eZ w ad ae C F G H A R n s t):∃q,dC w ae q t/\∀p I bt,Grow q w p I->dC I ae p bt->∃aN,Grow A w aN I/\eZ I ad ae C F G H aN R n s bt:=by
 obtain⟨⟨h1,f,K,M⟩,bd,X,ge,L,E,q,w0,N,⟨Y,Z,O⟩,⟨ab,j,P,x⟩,Q,⟨S,ac⟩,T,af⟩:=h;refine⟨q,ab,λU I bt y ag=>?_⟩;have V:=ag.cut;have e:Grow q w (λr=>U r/\r<I.heap.size) I:=⟨y.1,λr a=>y.2.1 r a.1,λr a=>⟨y.2.2 r a,by have:=M r (j r a);have:=y.1.size;omega⟩⟩;obtain⟨p,W⟩:∃B:ah,B=λr=>U r/\r<I.heap.size:=⟨_,rfl⟩;rw[<-W]at V e;have ai:∀r,p r->r<I.heap.size:=λr h=>by rw[W]at h;exact h.2
 refine⟨λr=>A r\/p r,⟨e.1.Y λr _ a=>j r a,λr a=>?_,λr a=>.inl a⟩,⟨.inl h1,λr a z=>?_,λr a=>?_,λr a=>?_⟩,bd,X,ge,L,E,p,w0,N.aa e.1 P,⟨Y,uQ Z e.1 λr o a aj J=>f r (j r J) (O r o a aj),O⟩,
  ⟨V,λr a=>.inr a,λa=>?_,λr a=>⟨.inl (x r a).1,λak=>?_⟩⟩,bw Q e.1 λr a J=>(x r (.inl a)).2 J,⟨S.aa e.1 λr a J=>(x r (.inr (.inl a))).2 J,ac.aa e.1 λr _ a J=>f r (j r J) a⟩,T.aa e.1 λr a J=>(x r (.inr (.inr a))).2 J,af.aa e.1 λr _ a J=>f r (j r J) a⟩
 .rcases a with a|a
  .exact .inl a
  .exact (e.2.1 r a).imp (j r) id
 .have:=K r z;rcases a with a|a
  .exact f r a z
  .rcases e.2.1 r a with h|h
   .exact f r (j r h) z
   .omega
 .have:=K r a;have:=e.1.size;omega
 .rcases a with a|a
  .have:=M r a;have:=e.1.size;omega
  .exact ai r a
 .rcases e.2.1 _ a with h|h
  .exact P h
  .have:=N.lt;omega
 .rcases e.2.1 r ak with h|h
  .exact (x r a).2 h
  .rcases a with a|a|a
   .obtain⟨h1,f⟩:=bW Q a;omega
   .obtain⟨h1,f⟩:=S.lw a;omega
   .obtain⟨h1,f⟩:=T.lw a;omega
def StateM(w:x6)(ad ae:Nat)(A R:ah)(n:aI)(s:am)(t:aA):Prop:=∃a e f h,eZ w ad ae a e f h A R n s t
def StateM.aa{S:ah}{A R:ah}{n:aI}{s:am}{t:aA}(h:StateM w ad ae A R n s t)(a:af S w I)(e:∀r,r<w.heap.size->A r\/R r->¬S r):StateM I ad ae A R n s t:=by
 obtain⟨f,j,p,q,h⟩:=h;exact⟨f,j,p,q,h.aa a e⟩
def StateM.W{A R:ah}{n:aI}{s:am}{t:aA}(h:StateM w ad ae A R n s t)(a:Ext w I):StateM I ad ae A R n s t:=h.aa (a.aa λ_=>False) λ_ _ _ h=>h
def StateM.sg{A R:ah}{n:aI}{s:am}{t:aA}(h:StateM w ad ae A R n s t):∃a,dC w ae a t/\∀e I bt,Grow a w e I->dC I ae e bt->∃aN,Grow A w aN I/\StateM I ad ae aN R n s bt:=by
 obtain⟨f,j,p,q,h⟩:=h;obtain⟨a,h1,r⟩:=h.sg;exact⟨a,h1,λe I bt x y=>by
  obtain⟨aN,z,B⟩:=r e I bt x y;exact⟨aN,z,f,j,p,q,B⟩⟩
def py(s s':am):Prop:=jM s'=jM s/\s'.d9.length=s.d9.length/\(∀(j:Nat)a,s'.d9[j]?=σ a->∃f,s.d9[j]?=σ f/\a.sc=f.sc/\a.aj=f.aj/\fu s' j=fu s j)/\s'.du=s.du
def eZ.same{e p q:x4}{A R:ah}{n:aI}{s s':am}{t:aA}(h:eZ w ad ae a e p q A R n s t)(J:py s s'):eZ w ad ae a e p q A R n s' t:=by
 obtain⟨au,bd,y,ge,L,E,z,w0,B,C,F,G,⟨H,r⟩,I,K⟩:=h;obtain⟨M,N,O,P⟩:=J;refine⟨au,bd,y,ge,L,E,z,w0,B,C,F,by rw[M];exact G,⟨H,r.1.F N.symm,λj x Q S T=>?_⟩,I,?_⟩
 .obtain⟨f,U,V,W,X⟩:=O j Q T;rw[V,W,X];exact r.2 j x f S U
 .unfold nB;rw[P];exact K
def StateM.same{A R:ah}{n:aI}{s s':am}{t:aA}(h:StateM w ad ae A R n s t)(J:py s s'):StateM w ad ae A R n s' t:=by
 obtain⟨a,e,f,j,h⟩:=h;exact⟨a,e,f,j,h.same J⟩
theorem uR{α β:Type}{f:α->List β}:∀{L:List α}{i j:Nat}{a b:α},L[i]?=σ a->(f b).length=(f a).length->(((L.set i b).take j).flatMap f).length=((L.take j).flatMap f).length
 |[],_,_,_,_,h,_=>by simp at h
 |x::L,0,j,a,b,h,e=>by
  cases h;cases j with
  |zero=>rfl
  |succ j=>simp[e]
 |x::L,i+1,j,a,b,h,e=>by
  have h:L[i]?=σ a:=by simpa using h
  cases j with
  |zero=>rfl
  |succ j=>
   rw[List.set_cons_succ,List.take_succ_cons,List.take_succ_cons,V8,V8,n9,n9,uR h e]
def Eo(s:am)(c:Int):py s {s with zero:=c}:=⟨rfl,rfl,λj f h=>⟨f,h,rfl,rfl,rfl⟩,rfl⟩
def Ep{s:am}{i:Nat}{x y:bo}(a:s.d6[i]?=σ x)(p:y.un.length=x.un.length):py s {s with d6:=s.d6.set i y}:=by
 have e:(iT y).length=(iT x).length:=by simp[iT,p]
 refine⟨?_,rfl,λj f h=>⟨f,h,rfl,rfl,?_⟩,rfl⟩
 .unfold jM;rw[show({s with d6:=s.d6.set i y}:am).d6.length=s.d6.length from o7];apply List.map_congr_left;intro j _;unfold ie;rw[uR a e]
 .unfold fu;have:=uR (j:=s.d6.length) a e;rw[b9 Ξ,b9 (o4 _)]at this;show 3+(((s.d6.set i y).flatMap iT).length+_)=_;rw[this]
def PL{s:am}{i:Nat}{x y:cm}(a:s.d9[i]?=σ x)(q:y.cs.length=x.cs.length)(h1:y.sc=x.sc)(r:y.aj=x.aj):py s {s with d9:=s.d9.set i y}:=by
 have w:(jn y).length=(jn x).length:=by simp[jn,q]
 refine⟨rfl,o7,λj f h=>?_,rfl⟩;have h:(s.d9.set i y)[j]?=σ f:=h;have e:fu {s with d9:=s.d9.set i y} j=fu s j:=by
  unfold fu;show 3+(_+(((s.d9.set i y).take j).flatMap jn).length)=_;rw[uR a w]
 by_cases p:i=j
 .subst p;rw[l9 (x5.1 a).1]at h;cases h;exact⟨x,a,h1,r,e⟩
 .rw[Z6 p]at h;exact⟨f,h,rfl,rfl,e⟩
def aA.xV(t:aA)(i:Nat)(x:Int):(t.set i x).marks=t.marks:=by
 unfold aA.set;cases t.cells[i]? with
 |none=>rfl
 |some c=>
  simp only;cases t.marks.getLast? with
  |none=>rfl
  |some m=>simp only;split<;>rfl
def aA.Er(t:aA)(i:Nat)(x:Int):(t.set i x).ky=t.ky:=by
 unfold aA.set;cases t.cells[i]? with
 |none=>rfl
 |some c=>
  simp only;cases t.marks.getLast? with
  |none=>rfl
  |some m=>simp only;split<;>rfl
def aA.Es(t:aA)(i:Nat)(x:Int):(t.set i x).cells.length=t.cells.length:=by
 have h:=congrArg Q2 (aA.ru (t:=t) (i:=i) (x:=x));rw[o7]at h;unfold aA.b5 at h;rwa [r8,r8]at h
def aA.Et(t:aA)(i:Nat)(x:Int):(t.set i x).olds.length<=t.olds.length+1:=by
 unfold aA.set;cases t.cells[i]? with
 |none=>exact Nat.le_succ _
 |some c=>
  simp only;cases t.marks.getLast? with
  |none=>exact Nat.le_succ _
  |some m=>simp only;split<;>simp
def aA.xW{t:aA}(h:t.marks=[])(i:Nat)(x:Int):(t.set i x).olds=t.olds:=by
 unfold aA.set;cases t.cells[i]? with
 |none=>rfl
 |some c=>simp only[h,List.getLast?_nil]
def fZ(t:aA)(l:Λ):Nat->aA
 |0=>t.grow l.length
 |i+1=>(fZ t l i).set (t.cells.length+i) (l.getD i 0)
def oe(t:aA)(l:Λ):aA:=fZ t l l.length
theorem sh(t:aA)(l:Λ):∀i,(fZ t l i).marks=t.marks
 |0=>rfl
 |i+1=>(aA.xV _ _ _).F (sh t l i)
theorem Eu(t:aA)(l:Λ):∀i,(fZ t l i).ky=t.ky
 |0=>rfl
 |i+1=>(aA.Er _ _ _).F (Eu t l i)
theorem xX(t:aA)(l:Λ):∀i,(fZ t l i).cells.length=t.cells.length+l.length
 |0=>by simp[fZ,aA.grow]
 |i+1=>(aA.Es _ _ _).F (xX t l i)
theorem xY(t:aA)(l:Λ):∀i,(fZ t l i).olds.length<=t.olds.length+i
 |0=>o4 _
 |i+1=>by have:=aA.Et (fZ t l i) (t.cells.length+i) (l.getD i 0);have:=xY t l i;show(aA.set _ _ _).olds.length<=_;omega
theorem Ev{t:aA}(h:t.marks=[])(l:Λ):∀i,(fZ t l i).olds=t.olds
 |0=>rfl
 |i+1=>(aA.xW ((sh t l i).F h) _ _).F (Ev h l i)
theorem Ew(t:aA)(l:Λ):∀i,i<=l.length->(fZ t l i).b5=t.b5++(l.take i++o6 (l.length-i) 0)
 |0,_=>by rw[List.take_zero,List.nil_append];exact aA.Lq
 |i+1,h=>by
  have a:=Ew t l i Ω;show(aA.set _ _ _).b5=_;have e:t.b5.length=t.cells.length:=by simp[aA.b5]
  rw[aA.ru,a,T4 _ _ Ω,e,Q5,T4 _ _ (by rw[o8];omega),o8,Nat.min_eq_left Ω,V0,show l.length-i=(l.length-(i+1))+1 by omega,List.replicate_succ,List.set_cons_zero,r9,u5,x8 (show i<l.length by omega)];simp only[j6,W7,T6,List.singleton_append]
def Ex(t:aA)(l:Λ):(oe t l).b5=t.b5++l:=by
 unfold oe;rw[Ew t l _ (o4 _),o9,V0,List.replicate_zero,U2]
theorem iI.fZ{h:List aA}{t:aA}(hk:iI t h)(l:Λ):∀i,iI (fZ t l i) h
 |0=>hk.grow
 |i+1=>(iI.fZ hk l i).set
def mw{s:Go.Sem x4}{x:x4}(h:ab v8 s w (λv=>v=x)):b6 v8 s x w:=by
 obtain⟨v,h,rfl⟩:=h;exact h
def uS{z:Nat}{f:o5}{x:x4}(h:ag w ad e cs)(ac:∀(K:x4->Prop),ab v8 (u7 cU (Γ ad) z) w K=K (.pointer (σ ⟨ad,0+a,ν⟩)))(j:kX v8 f=v2)(p:cs[0+a]?=σ x):
  b6 v8 (u6 f (.pointer (σ ⟨ad,0+a,ν⟩))) x w/\b6 v8 (u7 cU (Γ ad) z) (.pointer (σ ⟨ad,0+a,ν⟩)) w/\b6 v8 (bU (Γ ad)) (Γ ad) w/\True:=
 ⟨tK j (h.cell p),mw (by rw[ac]),mw (by rw[b0]),trivial⟩
def Ey(w:x6)(r:Nat):Prop:=∃e c,ag w r e c/\(e=gI\/e=e3\/e=nf\/e=gW\/e=cU\/e=gj\/e=e2)
def eH(w:x6)(r:Nat):Prop:=Ey w r\/∀o,w.heap[r]?=σ o->fK o≠v2
def og{U:x6}(hk:∀o,w.heap[r]?=σ o->fK o=v2->¬eH w r->U.heap[r]?=σ o)(h:eH U r):eH w r:=by
 by_cases a:eH w r
 .exact a
 .refine ro (.inr λo j J=>?_) a;have h1:=hk o j J a;rcases h with⟨e,c,f,he⟩|p
  .refine a (.inl ⟨e,c,?_,he⟩);unfold ag at f ⊢;rw[h1]at f;rw[j];exact f
  .exact p o h1 J
def jo{U V:x6}(a:Ext w U)(e:af (eH U) U V):af (eH w) w V:=(a.aa _).F (e.Y λr _ h=>og (λo f J _=>a.aX r o f J) h)
def uT{U V:x6}(h:af (eH w) w U)(a:af (eH U) U V):af (eH w) w V:=h.F (a.Y λr _ e=>og (λo f J j=>h.aX r o f J j) e)
def dC.min{A:ah}{t:aA}(h:dC w ae A t):dC w ae (λr=>A r/\Ey w r) t:=by
 obtain⟨q,s,go,dt,a8,x,eu,h1,f,j,p,y⟩:=h;refine⟨⟨q,_,_,h1,.inl rfl⟩,s,go,dt,a8,x,eu,h1,f,j,p,λr a=>⟨y r a,?_⟩⟩;rcases a with a|a|a
 .obtain⟨rfl,c,e⟩:=dU f a;exact⟨_,c,e,.inr (.inl rfl)⟩
 .obtain⟨rfl,c,e⟩:=dU j a;exact⟨_,c,e,.inr (.inr (.inl rfl))⟩
 .obtain⟨rfl,c,e⟩:=dU p a;exact⟨_,c,e,.inr (.inr (.inr (.inl rfl)))⟩
def eZ.xZ{p q x:x4}{A R:ah}{n:aI}{s:am}{t:aA}(h:eZ w ad ae j p q x A R n s t):∃a,dC w ae a t/\∀y I bt,Grow a w y I->dC I ae y bt->af (eH w) w I/\∃aN,Grow A w aN I/\eZ I ad ae j p q x aN R n s bt:=by
 obtain⟨a,z,B⟩:=h.sg;refine⟨_,z.min,λC U bt e E=>⟨e.1.Y λr _ h=>.inl h.2,?_⟩⟩;exact B (λr=>a r\/C r) U _ ⟨e.1.Y λr _ h=>h.1,λr f=>f.elim .inl λh=>(e.2.1 r h).imp (λh=>h.1) id,λr f=>.inl f⟩ (E.Y λr h=>.inr h)
def Ez{y:Nat}{z B C:x4}{A R:ah}{n:aI}{s:am}{t:aA}{df:x4}(h:eZ w ad ae y z B C A R n s t)(G:aM .i64 w df l)(Q:∀r,lw df r->¬A r)(aH:t.cells.length+l.length<=100000000)(aJ:t.olds.length+l.length<=100000000)(hm:t.marks.length<=100000000):
  ak v8 AI [Γ ad,df] w λv I=>v=Δ (t.cells.length:Int)/\af (eH w) w I/\∃aN,Grow A w aN I/\eZ I ad ae y z B C aN R n s (oe t l):=by
 refine az func132 ?_;obtain⟨_,bd,S,ge,L,E,_,w0,H,_⟩:=id h;obtain⟨W,J,K⟩:=h.xZ;rw[aL cU.p 1 H rfl,a1 aw.u G];refine(Pz J ⟨Ω,Ω,hm⟩ Ω).Y ?_;rintro _ U _ ⟨rfl,X,Y,Z⟩;obtain⟨aa,ab,N,ac⟩:=K X U _ Y Z;have O:∀{aN:ah}{I:x6},Grow A w aN I->aM .i64 I df l:=λag=>jh G ag.1 λr ai a aj c an ao=>Q r ⟨a,aj,c,an,ao⟩ ai;rw[a1 aw.u (O N)];have ap:=G.le;refine bY.range l.length (λi V=>af (eH w) w V/\∃f,Grow A w f V/\eZ V ad ae y z B C f R n s (fZ t l i)) ap ⟨aa,ab,N,ac⟩ ?_ ?_
 .rintro i V k hi ⟨M,f,j,q⟩ hk;refine bC Ω ?_;obtain⟨x,P⟩:=aD (l:=l) hi;rw[bh aw.u av.i Ψ (O j) P];obtain⟨_,bd,S,ge,L,E,_,w0,H,_⟩:=id q;obtain⟨W,J,K⟩:=q.xZ;have aK:=xX t l i;have aP:=xY t l i;have aq:=sh t l i;rw[aL cU.p 1 H rfl,aO,m1 Ω Ω];refine(uO (i:=t.cells.length+i) J Ω Ω ⟨Ω,Ω,by rw[aq];exact hm⟩).Y ?_;rintro _ au _ ⟨rfl,ax,ay,aB⟩;obtain⟨aC,aE,aF,aG⟩:=K ax au _ ay aB;rw[aO];refine hk _ ⟨uT M aC,aE,j.F aF,?_⟩;have e:fZ t l (i+1)=(fZ t l i).set (t.cells.length+i) x:=by
   show(fZ t l i).set _ (l.getD i 0)=_;rw[u5,P];rfl
  rw[e];exact aG
 .rintro V k ⟨M,f,j,q⟩;rw[aT,al];exact⟨λh=>Ω,λ_=>⟨rfl,M,f,j,q⟩⟩
end Go.Proofs.YtnhkbjhpbbobaaaGreatDoor
