/- own texts, made small by a tool (wip/ holds them as they were written): no statement of the seat. -/
import Derived.Test.YtnhkbjhpbbobaaaGreatDoorYe
set_option linter.defProp false
set_option linter.unusedVariables false
set_option linter.unusedSimpArgs false
set_option linter.unnecessarySimpa false
open Array renaming getElem?_eq_some_iff→Z0
open Bool renaming false→v6,true→v2,not_true→X3,not_false→W6,or_eq_false_iff→U1,eq_iff_iff→U6,and_eq_true→U9,true_and→Q4
open Decidable renaming not_not→X5
open Go renaming Value→x4,World→x6,TypeId→o5,IntKind→j4
open Go.Builtin renaming len_→V1
open Go.Instr renaming loadAt→u6,fieldAt→u7,storeAt→j0,indexAt→b8,extract→Y8,alloc→Q8
open Go.IntKind renaming i64→W5,u64→T7
open Go.Proofs.Tryz renaming prog→v8
open Int renaming toNat_natCast→u9,eq_ofNat_of_zero_le→V3,le_refl→S9
open List renaming getElem?_eq_some_iff→x5,mem_of_getElem?→x7,getElem?_eq_getElem→x8,getElem?_map→u4,getD_eq_getElem?_getD→u5,length_map→r8,take_add_one→r9,replicate→o6,length_set→o7,length_take→o8,take_length→o9,length_append→n9,getElem?_set_self→l9,mem_map→j5,mem_append→j9,mem_singleton→c9,take_of_length_le→b9,eq_nil_of_length_eq_zero→Z2,map_append→Z4,getElem?_set_ne→Z6,getElem?_append_right→Z7,length_cons→Y1,getElem?_append_left→Y2,getElem?_eq_none→Y5,getElem?_set→Y7,ext_getElem?→X0,mem_iff_getElem?→X8,range→X9,drop_eq_getElem_cons→W3,mem_cons→V4,length_eq_one_iff→V6,foldl_cons→V7,flatMap_cons→V8,append_nil→U2,mem_of_mem_take→T1,map_set→T2,map_cons→T3,set_append_right→T4,length_singleton→T5,append_assoc→T6,mem_range→S1,foldl_append→S2,map_map→S5,mem_filter→S8,sum_cons→R6,length→Q2
open Nat renaming le_refl→o4,le_trans→X1,mul_le_mul_right→X4,zero_add→X6,zero_le→W0,sub_self→V0,add_mul→U7,mul_one→T0,lt_of_lt_of_le→S3,pow_le_pow_right→S4,eq_zero_or_pos→Q9
open Ne renaming symm→R7
open Option renaming toList_some→j6,isNone_some→Y0,map_some→Y3,map_eq_some_iff→Y9,getD_some→W7,isSome_some→R2,isSome_none→Q1
open Option.some renaming inj→Z5
open Prod.mk renaming injEq→S7
set_option maxHeartbeats 16000000
open Option renaming some→σ,none→ν
variable{U V w:x6}{l pl co:Λ}{k v:Int}{j pos:Nat}{O:List Nat}{a:x4}
namespace Go.Proofs.YtnhkbjhpbbobaaaGreatDoor
open Go Go.Vc Go.RowKit Go.Proofs Go.Proofs.Tryz
set_option maxRecDepth 100000
def Sz{df:x4}(h:aM .i64 w df l)(O:l.length<=1000000):ak v8 Jg [df,Δ v] w λr I=>Ext w I/\(∃g,aB .i64 ai I g r (l.filter λy=>!decide (y=v)))/\∀q,lw r q->w.heap.size<=q:=by
 refine az func145 ?_;rw[a1 an.u h];refine b7.range l.length (λi out f=>Ext w f/\(∃g,aB .i64 ai f g out ((l.take i).filter λy=>!decide (y=v)))/\∀r,lw out r->w.heap.size<=r) h.le ⟨Ext.refl _,⟨0,aB.nil _ _ _ _⟩,λr B=>by obtain⟨_,_,_,e,_⟩:=B;cases e⟩ ?_ ?_
 .rintro q out f C E ⟨a,⟨g,hm⟩,j⟩ G;obtain⟨y,p⟩:=aD (l:=l) E;have s:(l.take (q+1)).filter (λy=>!decide (y=v))=(l.take q).filter (λy=>!decide (y=v))++(if y≠v then[y]else[]):=by
   rw[r9,p,j6,List.filter_append];congr 1;by_cases au:y=v<;>simp[au]
  refine bC Ω ?_;refine aY (λx z=>Ext w z/\(∃g,aB .i64 ai z g x ((l.take (q+1)).filter λy=>!decide (y=v)))/\∀r,lw x r->w.heap.size<=r) (λ_ _ H=>by rw[aO];exact G _ _ H) λax A=>?_;rw[bh an.u ai.i Ψ (h.W a) p,bK,al];refine⟨λJ=>?_,λhe=>A _ _ ⟨a,⟨g,by rw[s,rc he,U2];exact hm⟩,j⟩⟩;refine FT a hm j ?_ λP I K L M N=>A _ _ ⟨L,⟨K,by rw[s,ms J];exact M⟩,N⟩;have h1:=List.length_filter_le (λy=>!decide (y=v)) (l.take q);rw[o8]at h1;omega
 .rintro out f C ⟨a,hm,j⟩;rw[o9]at hm;refine b3 Ω ?_;exact⟨a,hm,j⟩
theorem y1{i:Nat}{v:Int}:∀(L:Λ)(s:am)(x:bo),s.d6[i]?=σ x->(∀y∈L,0<=y)->∃m,gD s i v L={s with d6:=s.d6.set i {x with mask:=m}}/\aC {x with mask:=m}=(aC x).filter λy=>!(decide (y∈L)&& !decide (y=v))
 |[],s,x,f,_=>by
  refine⟨x.mask,?_,(List.filter_eq_self.2 λy _=>Ξ).symm⟩;have:s.d6.set i x=s.d6:=by
   apply X0;intro q;by_cases e:i=q
   .subst e;rw[l9 (x5.1 f).1,f]
   .rw[Z6 e]
  show s={s with d6:=s.d6.set i x};rw[this]
 |w::L,s,x,f,j=>by
  have hw:=j w (.head _);have z:=(x5.1 f).1;rw[gD];by_cases e:w≠v
  .rw[ms e];have r:dP s i w.toNat={s with d6:=s.d6.set i {x with mask:=((x.mask.toNat ||| 2 ^ w.toNat:Nat):Int)}}:=by unfold dP;rw[f]
   obtain⟨m,h1,p⟩:=y1 L (dP s i w.toNat) {x with mask:=((x.mask.toNat ||| 2 ^ w.toNat:Nat):Int)} (by rw[r];exact l9 z) λy a=>j y (.tail _ a);refine⟨m,?_,?_⟩
   .rw[h1,r];simp only[List.set_set]
   .rw[p,yG hw,List.filter_filter];refine List.filter_congr λy _=>?_;by_cases a:y=w
    .subst a;simp[e]
    .simp[a]
  .rw[rc e];obtain⟨m,h1,p⟩:=y1 L s x f λy a=>j y (.tail _ a);refine⟨m,h1,?_⟩;rw[p];have e:=X5.1 e;refine List.filter_congr λy _=>?_;by_cases a:y=v
   .simp[a]
   .have:y≠w:=λh=>a (h.F e);simp[a,this]
def filter_one(j:l.Nodup)(f:v∈l):l.filter (λy=>decide (y=v))=[v]:=by
 induction l with
 |nil=>cases f
 |cons a l p=>
  have h:=List.nodup_cons.1 j;by_cases e:a=v
  .subst e;rw[List.filter_cons_of_pos Ξ,List.filter_eq_nil_iff.2 λx q=>by simp;intro r;exact h.1 (r▸q)]
  .rw[List.filter_cons_of_neg (by simpa using e)];exact p h.2 ((V4.1 f).resolve_left (R7 e))
def kM(u:am)(a:fH):Option bo:=if 3<a.kind then dz u a.i a.v else il u a.i
section
variable{w:x6}{ad ae aq:Nat}{A R:ah}{A9:Nat->ah}{aH:ah}{n:aI}{s u:am}{t:aA}{h:List aA}{cs:List x4}{a:fH}
def Gf{x:bo}(h:kM u a=σ x):0<=a.i/\u.d6[a.i.toNat]?=σ x/\x.gone=0/\(3<a.kind->a.v∈aC x):=by
 unfold kM at h;split at h
 .obtain⟨h1,e,f,j⟩:=jO h;exact⟨h1,e,f,λ_=>j⟩
 .rename_i hk;obtain⟨h1,e,f⟩:=yY h;exact⟨h1,e,f,λh=>ro h hk⟩
def SA(h:¬(0<=a.i/\a.i<u.d6.length)):kM u a=ν:=by
 cases he:kM u a with
 |none=>rfl
 |some x=>
  obtain⟨h1,e,_⟩:=Gf he;exact ro ⟨h1,by have:=(x5.1 e).1;omega⟩ h
def SB{x:bo}(e:0<=a.i)(f:u.d6[a.i.toNat]?=σ x):kM u a=if x.gone=0/\(3<a.kind->a.v∈aC x)then σ x else ν:=by
 unfold kM;by_cases hk:3<a.kind
 .rw[ms hk];unfold dz;rw[ms e,f];simp only[hk,true_implies]
 .rw[rc hk];unfold il;rw[ms e,f];simp only[hk,false_implies,and_true]
def SC(hk:2<=a.kind/\a.kind<=5)(h:kM u a=ν):bg n.k u a=(u,1):=by
 unfold kM at h;by_cases e:3<a.kind
 .rw[ms e]at h;unfold bg;rw[rc Ω,rc Ω,rc Ω,rc Ω,h];split<;>rfl
 .rw[rc e]at h;by_cases f:a.kind=2
  .rw[yZ f,h]
  .rw[y0 Ω,h]
def Gg{x:bo}{c:Int}(q:0<=c):iW x<c↔aC x=[]\/∃v∈aC x,x.un.getD v.toNat 0<c:=by
 unfold iW;constructor
 .intro h;cases e:aC x with
  |nil=>exact .inl rfl
  |cons b l=>
   refine .inr ?_;rw[e]at h;simp only[T3]at h;by_cases f:∀v∈b::l,c<=x.un.getD v.toNat 0
   .have:=(ov (l.map λv=>x.un.getD v.toNat 0) (x.un.getD b.toNat 0) c).2 ⟨f b (.head _),λy j=>by obtain⟨v,a,rfl⟩:=j5.1 j;exact f v (.tail _ a)⟩;omega
   .simp only[Classical.not_forall]at f;obtain⟨v,a,r⟩:=f;exact⟨v,a,Ω⟩
 .rintro (h|⟨v,a,s⟩)
  .rw[h];show(-1:Int)<c;omega
  .cases e:aC x with
   |nil=>rw[e]at a;cases a
   |cons b l=>
    rw[e]at a;simp only[T3];rcases Int.lt_or_le ((l.map λv=>x.un.getD v.toNat 0).foldl min (x.un.getD b.toNat 0)) c with au|au
    .exact au
    .obtain⟨w,p⟩:=(ov _ _ _).1 au;rcases V4.1 a with rfl|a
     .omega
     .have:=p _ (j5.2 ⟨v,a,rfl⟩);omega
def y2(n:aI)(u:am)(x:bo)(a:fH):Prop:=aC x=[]\/(a.kind=3/\u.zero<a.c)\/(a.kind=2/\∃v∈aC x,x.un.getD v.toNat 0<a.c)
def SD{x:bo}(hk:a.kind=2\/a.kind=3)(h:kM u a=σ x):(¬(0<=a.c/\a.c<=n.k)->bg n.k u a=(u,3))/\((0<=a.c/\a.c<=n.k)->y2 n u x a->bg n.k u a=(u,7))/\
  ((0<=a.c/\a.c<=n.k)->¬y2 n u x a->bg n.k u a=(iB u a.i.toNat x (λg=>if a.kind=2 then cY n.k g a.c else cr n.k g a.c) (λg=>if a.kind=2 then cr n.k g a.c else cY n.k g a.c),0)/\(a.kind=2->∀v∈aC x,a.c<=x.un.getD v.toNat 0)/\(a.kind=3->a.c<=u.zero)):=by
 have r:il u a.i=σ x:=by unfold kM at h;rwa [rc Ω]at h
 rcases hk with hk|hk
 .have e:=yZ (n:=n) (s:=u) hk;rw[r]at e;simp only at e;simp only[hk];refine⟨λf=>?_,λf hi=>?_,λf hi=>?_⟩
  .have j:∀m,dj n.k a.c m=3:=λm=>by unfold dj;rw[ms f]
   rw[j,ms Φ]at e;exact e
  .have p:=(Gg f.1).2 (hi.elim .inl λh=>h.elim (λh=>Ω) λh=>.inr h.2);have j:∀m,m<a.c->dj n.k a.c m=7:=λm hm=>by unfold dj;rw[rc (λh=>h f),ms hm]
   rw[j _ p,ms Φ]at e;exact e
  .have p:¬iW x<a.c:=λh=>hi (((Gg f.1).1 h).elim .inl λh=>.inr (.inr ⟨hk,h⟩));have j:dj n.k a.c (iW x)=0:=by unfold dj;rw[rc (λh=>h f),rc p]
   rw[j,rc Φ]at e;refine⟨by rw[e];simp,λ_ v r=>?_,λh=>ro h Φ⟩;rcases Int.lt_or_le (x.un.getD v.toNat 0) a.c with au|au
   .exact ro (.inr (.inr ⟨hk,v,r,au⟩)) hi
   .exact au
 .have e:=y0 (n:=n) (s:=u) hk;rw[r]at e;simp only at e;simp only[hk];refine⟨λf=>?_,λf hi=>?_,λf hi=>?_⟩
  .have j:∀m,dj n.k a.c m=3:=λm=>by unfold dj;rw[ms f]
   rw[j,ms Φ]at e;exact e
  .have p:(if aC x=[]then-1 else u.zero)<a.c:=by
    by_cases q:aC x=[]
    .rw[ms q];omega
    .rw[rc q];rcases hi with hi|hi|hi
     .exact ro hi q
     .exact hi.2
     .omega
   have j:∀m,m<a.c->dj n.k a.c m=7:=λm hm=>by unfold dj;rw[rc (λh=>h f),ms hm]
   rw[j _ p,ms Φ]at e;exact e
  .have q:¬aC x=[]:=λh=>hi (.inl h);have w:¬u.zero<a.c:=λh=>hi (.inr (.inl ⟨hk,h⟩));have j:dj n.k a.c u.zero=0:=by unfold dj;rw[rc (λh=>h f),rc w]
   rw[rc q,j,rc Φ]at e;exact⟨by rw[e];simp,λh=>ro h Φ,λ_=>Ω⟩
end
section
variable{w:x6}{ad ae aq:Nat}{A R:ah}{A9:Nat->ah}{aH:ah}{n:aI}{s u:am}{t:aA}{h:List aA}{cs:List x4}{a:fH}
def SE(p:cd w ad ae aq A R A9 aH n s u t h cs)(ap:bc n.k n.co u)(hk:2<=a.kind/\a.kind<=5):ak v8 ws [Γ aq,Δ (a.kind:Int),Δ a.i,Δ a.pos,Δ a.v,Δ a.c] w λr I=>r=Δ (bg n.k u a).2/\ct w ad ae aq A R A9 aH n s t h (bg n.k u a).1 I:=by
 have cw:=ap.d6;have cz:=ap.fk;refine az func74 ?_;have bM:cs[0]?=σ (Δ n.k):=by obtain⟨_,_,_,_,_,_,rfl,_⟩:=p.pJ;rfl
 rw[aL aE.p 0 p.box bM,aT,al];refine⟨λh=>Ω,λ_=>?_⟩;refine aY (λr I=>r= .bool (!(kM u a).isSome)/\Ext w I) ?_ λax a8=>?_
 rotate_left
 .rw[b0];refine p.look.load λdv cA=>?_;refine(Rn cA).Y ?_;rintro _ U _ ⟨rfl,Y⟩;rw[bL,cb];refine⟨λP=>a8 _ _ ⟨by rw[SA (λh=>by rw[cw]at h;rw[rs h]at P;cases P)];rfl,Y⟩,λP=>?_⟩;have ba:0<=a.i/\a.i<n.co.length:=by simpa using P
  obtain⟨x,J⟩:=aD (l:=u.d6) (i:=a.i.toNat) Ω;have bq:=SB ba.1 J;obtain⟨lc,cB,dp,aV,dq,br,bN,_,_,cC,cD,dr,ds,dt⟩:=(p.look).W Y;rw[aL aE.p 4 bN rfl];refine gn (i:=a.i.toNat) rfl Ω jb.u dK.i Ψ cD (by rw[u4,J];rfl) λbQ bs=>?_;have bs:[bQ]=[x4.bool (decide (x.gone≠0))]:=bs;obtain rfl:bQ=x4.bool (decide (x.gone≠0)):=by simpa using bs
  rw[al];refine⟨λQ=>a8 _ _ ⟨by rw[bq,rc λh=>Q h.1];rfl,Y⟩,λQ=>?_⟩;have Q:=X5.1 Q;rw[bP,al];refine⟨λbt=>?_,λbt=>a8 _ _ ⟨by rw[bq,ms ⟨Q,λh=>ro h Ω⟩];rfl,Y⟩⟩;rw[aL aE.p 3 bN rfl];refine gn (a:=aC x) (i:=a.i.toNat) rfl Ω ca.u an.i Ψ cC (by rw[u4,J];rfl) λdu cE=>?_;refine(u3 (dl cE)).Y ?_;rintro _ V _ ⟨rfl,L⟩;rw[bL];refine a8 _ _ ⟨?_,Y.F L⟩;rw[bq];by_cases H:a.v∈aC x
  .rw[ms ⟨Q,λ_=>H⟩,rs H];rfl
  .rw[rc λh=>H (h.2 Ω),s2 H];rfl
 rintro _ U ⟨rfl,Y⟩;cases hm:kM u a with
 |none=>
  have f:=SC (n:=n) hk hm;rw[Q1,W6,bO];exact⟨by rw[f],by rw[f];exact ct.same p Y⟩
 |some x=>
 rw[R2,X3,a7];obtain⟨cF,J,dw,cH⟩:=Gf hm;obtain⟨C,aK⟩:=V3 cF;rw[aK,u9]at J;have bu:=(x5.1 J).1;have E:∀y∈aC x,0<=y/\y<x.un.length:=λy O=>(e1.1 O).1;simp only[aK];have bR:∀v:Nat,0<=x.un.getD v 0/\x.un.getD v 0<=n.k:=λv=>ij ap J;have N:=p.W Y;have dx:=bM;have bw:∀{V:x6}{e6:am}{bS:List x4}{bx:Nat->ah}{aN:bo},cd V ad ae aq A R bx aH n s e6 t h bS->e6.d6[C]?=σ aN->∃aV ay y,aM .i64 V y aN.un/\(∀{j:x6}{K:x4->x4->x4->x4->x4->Prop},Ext V j->K (Γ aq) (.pointer (σ ⟨aq,0+5,ν⟩)) aV (.pointer (σ ⟨ay,0+C*1,ν⟩)) y->
    ab v8 (bU (Γ aq)) j λaA=>ab v8 (u7 aE aA 5) j λaB=>ab v8 (u6 cW aB) j λaP=>ab v8 (b8 cW aP (Δ (C:Int))) j λbb=>ab v8 (u6 aw bb) j λcI=>K aA aB aP bb cI)/\
   ∀{I:x6}{v:Nat}{c:Int}{K:Unit->x6->Prop},Ext V I->v<aN.un.length->(∀bT,kK V ad ae aq A R bx aH n s t h (eI e6 C aN (aN.un.set v c)) bT->K () bT)->ab v8 (b8 aw y (Δ (v:Int))) I λa=>aG v8 (j0 av a (Δ c)) I K:=λ{V e6 bS bx aN}bV B=>by
  obtain⟨ay,cJ,y,cK,cL,ag,bz⟩:=sI bV B;have cM:=(x5.1 B).1;refine⟨.slice (σ ⟨ay,0,ν⟩) e6.d6.length cJ,ay,y,ag,λ{j K}aI aW=>?_,bz⟩;rw[aL aE.p 5 (bV.box.W aI) cK,eT cW.u aw.i cM λ_=>rfl,aF Ψ (by rw[X6,T0];exact jX aI cL)];exact aW
 obtain⟨cN,cO,bA,bX,cP,aj,cQ,bZ⟩:=FX N J;have b1:∀{j:x6}{K:x4->x4->x4->Prop},Ext U j->K (Γ aq) (.pointer (σ ⟨aq,0+3,ν⟩)) (.slice (σ ⟨cN,0,ν⟩) u.d6.length cO)->
   ab v8 (bU (Γ aq)) j λaA=>ab v8 (u7 aE aA 3) j λaB=>ab v8 (u6 ca aB) j λaP=>K aA aB aP:=λaI aW=>by
  rw[aL aE.p 3 (N.box.W aI) bX];exact aW
 have pK:∀{j:x6}{K:x4->Prop},Ext U j->K bA->
   ab v8 (bU (Γ aq)) j λaA=>ab v8 (u7 aE aA 3) j λaB=>ab v8 (u6 ca aB) j λaP=>ab v8 (b8 ca aP (Δ (C:Int))) j λbb=>ab v8 (u6 an bb) j K:=λaI aW=>by
  rw[aL aE.p 3 (N.box.W aI) bX,eT ca.u an.i bu λ_=>rfl,aF Ψ (by rw[X6,T0];exact jX aI cP)];exact aW
 have low:∀{u':am}{I:x6},ct U ad ae aq A R A9 aH n s t h u' I->ct w ad ae aq A R A9 aH n s t h u' I:=λbd=>ct.comp (Y.aa _) (λq r E=>.inl ⟨q,E⟩) bd;refine aY (λ_ I=>ct w ad ae aq A R A9 aH n s t h (bg n.k u a).1 I/\(bg n.k u a).2=0) (λ_ I bd=>⟨by rw[bd.2],bd.1⟩) λcR bB=>?_;refine aY (λr I=>r= .bool (decide (a.kind=2\/a.kind=3))/\U=I) ?_ λdy b2=>?_
 rotate_left
 .rw[bl,al];refine⟨λB=>b2 _ _ ⟨?_,rfl⟩,λB=>?_⟩
  .congr 1;exact decide_eq_decide.2 ⟨λ_=>.inl Ω,λ_=>B⟩
  .rw[bl];refine b2 _ _ ⟨?_,rfl⟩;congr 1;exact decide_eq_decide.2 ⟨λh=>.inr Ω,λh=>Ω⟩
 rintro _ _ ⟨rfl,rfl⟩;rw[al];refine⟨λcS=>?_,λdA=>?_⟩
 .
  obtain⟨cT,be,bD⟩:=SD cS hm;refine Bn.Y ?_;rintro _ V _ ⟨rfl,L⟩;have dC:=L;have b4:cG a.c n.k↔0<=a.c/\a.c<=n.k:=⟨λh=>h.2,λB=>⟨cz,B⟩⟩;rw[bL,cb];refine⟨λP=>?_,λP=>?_⟩
  .have f:=cT λh=>ro (b4.2 h) (by simpa using P);exact⟨by rw[f],by rw[f];exact low (ct.same N L)⟩
  have ba:=b4.1 (show cG a.c n.k by simpa using P);have be:=be ba;have bD:=bD ba;refine aY (λr I=>Ext U I/\∃b,r= .bool b/\(b=v2↔aC x=[]\/(a.kind=3/\u.zero<a.c))) ?_ λdD bE=>?_
  rotate_left
  .refine pK L ?_;rw[a1 an.u (aj.W L),bl,al];refine⟨λhe=>bE _ _ ⟨L,v2,rfl,⟨λ_=>.inl (Z2 Ω),λ_=>rfl⟩⟩,λbf=>?_⟩;have bf:aC x≠[]:=λh=>bf (by rw[h];rfl);rw[bl,al];refine⟨λbt=>?_,λbt=>bE _ _ ⟨L,v6,rfl,⟨(λh=>by cases h),λh=>h.elim (λh=>ro h bf) λh=>Ω⟩⟩⟩;have bF:cs[2]?=σ (Δ u.zero):=by obtain⟨_,_,_,_,_,_,rfl,_⟩:=p.pJ;rfl
   rw[aL aE.p 2 (N.box.W L) bF,bP];exact bE _ _ ⟨L,_,rfl,by rw[sp];exact⟨λh=>.inr ⟨Ω,h⟩,λh=>h.elim (λh=>ro h bf) λh=>h.2⟩⟩
  rintro _ cU ⟨aQ,b,rfl,b5⟩;rw[cb];refine⟨λcV=>?_,λb6=>?_⟩
  .have f:=be ((b5.1 cV).elim .inl λh=>.inr (.inl h));exact⟨by rw[f],by rw[f];exact low (ct.same N aQ)⟩
  have b9:¬(aC x=[]\/(a.kind=3/\u.zero<a.c)):=λh=>by rw[b5.2 h]at b6;cases b6
  refine pK aQ ?_;rw[a1 an.u (aj.W aQ)];refine b7.range (aC x).length (λq _ I=>Ext U I/\(a.kind=2->∀v∈(aC x).take q,a.c<=x.un.getD v.toNat 0)) aj.le ⟨aQ,λ_ v H=>by simp at H⟩ ?_ ?_
  .rintro q cc aJ cX bG ⟨M,bi⟩ cZ;obtain⟨v,H⟩:=aD (l:=aC x) bG;have ao:=x7 H;have bj:=E v ao;obtain⟨G,rfl⟩:=V3 bj.1;refine bC Ω ?_;rw[bh an.u ai.i Ψ (aj.W M) H];refine aY (λr I=>aJ=I/\r= .bool (decide (a.kind=2/\x.un.getD G 0<a.c))) ?_ λdE ce=>?_
   .rintro _ _ ⟨rfl,rfl⟩;rw[al];refine⟨λaX=>?_,λbH=>?_⟩
    .have f:=be (.inr (.inr ⟨aX.1,_,ao,aX.2⟩));exact⟨by rw[f],by rw[f];exact low (ct.same N M)⟩
    .rw[aO];refine cZ _ _ ⟨M,λB y O=>?_⟩;rw[r9,H,j6,j9,c9]at O;rcases O with O|rfl
     .exact bi B y O
     .rcases Int.lt_or_le (x.un.getD G 0) a.c with au|au
      .exact ro ⟨B,au⟩ bH
      .exact au
   rw[bl,al];refine⟨λB=>?_,λB=>ce _ _ ⟨rfl,by rw[s2 λh=>B Ω]⟩⟩;obtain⟨aV,ay,y,ag,look,_⟩:=bw (N.W M) J;refine look (Ext.refl _) ?_;rw[bh aw.u av.i Ψ ag (getD_some (i:=G) Ω),bP];refine ce _ _ ⟨rfl,?_⟩;congr 1;exact decide_eq_decide.2 ⟨λh=>⟨Ω,h⟩,λh=>h.2⟩
  rintro cc aJ cX ⟨M,bi⟩;rw[o9]at bi;have c0:¬y2 n u x a:=λhi=>hi.elim (λh=>b9 (.inl h)) λh=>h.elim (λh=>b9 (.inr h)) λ⟨B,v,H,aX⟩=>by have:=bi B v H;omega
  obtain⟨f,dF,dG⟩:=bD c0;rw[aK,u9]at f;refine b3 Ω ?_;refine pK M ?_;rw[a1 an.u (aj.W M)];obtain⟨g,Q⟩:∃g:Int->Int,g=λg=>if a.kind=2 then cY n.k g a.c else cr n.k g a.c:=⟨_,rfl⟩;obtain⟨z,bI⟩:∃z:Int->Int,z=λg=>if a.kind=2 then cr n.k g a.c else cY n.k g a.c:=⟨_,rfl⟩;rw[<-Q,<-bI]at f;have c1:=N.W M;have c2:=aj.W M;have cf:=sz x;obtain⟨cg,dH⟩:∃cg,bA=cg:=⟨_,rfl⟩;have c3:eI u C x (ee g x.un ((aC x).take 0))=u:=by
   unfold eI;show{u with d6:=u.d6.set C x}=u;have:u.d6.set C x=u.d6:=by
    apply X0;intro i;by_cases e:C=i
    .subst e;rw[l9 bu,J]
    .rw[Z6 e]
   rw[this]
  have c4:∀{I:x6},af (A9 2) aJ I->aM .i64 I bA (aC x):=λc5=>jh c2 c5 λr E b n c e P=>N.gX.1 0 2 r Φ (cQ r ⟨b,n,c,e,P⟩) E;refine bY.range (aC x).length (λq I=>kK aJ ad ae aq A R A9 aH n s t h (eI u C x (ee g x.un ((aC x).take q))) I) aj.le (by rw[c3];exact kK.same c1 (Ext.refl _)) ?_ ?_
  .rintro q bk c6 bG aR c7;obtain⟨bm,da,ch,aS,bJ,db⟩:=id aR;obtain⟨v,H⟩:=aD (l:=aC x) bG;have ao:=x7 H;have bj:=E v ao;obtain⟨G,rfl⟩:=V3 bj.1;have bn:(eI u C x (ee g x.un ((aC x).take q))).d6[C]?=σ {x with un:=ee g x.un ((aC x).take q)}:=l9 bu;have dI:(ee g x.un ((aC x).take q)).length=x.un.length:=sy _ _;have bK:=vf (g:=g) ((aC x).take q) x.un (G:Int) (cf.sublist (List.take_sublist _ _)) (λy O=>E y (T1 O)) Ω;rw[rc (yQ cf H),u9]at bK;have dc:=bR G;obtain⟨aV,ay,y,ag,look,bz⟩:=bw aS bn;refine bC Ω ?_;refine c8 (λS=>kK aJ ad ae aq A R A9 aH n s t h (eI u C x (ee g x.un ((aC x).take (q+1)))) S) (λS W=>by rw[aO];exact c7 _ W) λdd de=>?_;have aZ:∀{X:x6},Ext bk X->ab v8 (b8 aw y (Δ (G:Int))) X λa'=>aG v8 (j0 av a' (Δ (g (x.un.getD G 0)))) X λ(_:Unit)S=>dd S:=λbp=>by
    refine bz bp (by show G<(ee g x.un ((aC x).take q)).length;omega) λS W=>de _ (kK.comp bm bJ db ?_);have e:eI (eI u C x (ee g x.un ((aC x).take q))) C {x with un:=ee g x.un ((aC x).take q)} ((ee g x.un ((aC x).take q)).set G (g (x.un.getD G 0)))=eI u C x (ee g x.un ((aC x).take (q+1))):=by
     rw[F8 H,u9,bK];unfold eI;simp only[List.set_set]
    rw[e]at W;exact W
   have ci:(ee g x.un ((aC x).take q))[G]?=σ (x.un.getD G 0):=by rw[getD_some Ω,bK]
   rw[bh an.u ai.i Ψ (c4 bm) H,bl,al];refine⟨λB=>?_,λB=>?_⟩
   .intro j Z _ _;refine look Z (look Z ?_);rw[bh aw.u av.i Ψ (ag.W Z) ci];refine(vn Ω Ω).Y ?_;rintro _ X _ ⟨rfl,ac⟩;refine⟨.inl ac,?_⟩;have:=aZ (Z.F ac);rw[Q]at this;simp only[ms (show a.kind=2 by omega)]at this;exact this
   .intro j Z _ _;refine look Z (look Z ?_);rw[bh aw.u av.i Ψ (ag.W Z) ci];refine(nt Ω Ω).Y ?_;rintro _ X _ ⟨rfl,ac⟩;refine⟨.inl ac,?_⟩;have:=aZ (Z.F ac);rw[Q]at this;simp only[rc (show¬a.kind=2 by omega)]at this;exact this
  .rintro bk c6 aR;rw[o9]at aR;refine b3 Ω ?_;have aR:=aR.yV;obtain⟨bm,da,ch,aS,bJ⟩:=id aR;have cj:ch[2]?=σ (Δ u.zero):=by obtain⟨_,_,_,_,_,_,rfl,_⟩:=aS.pJ;rfl
   have df:=ap.zero;have aZ:∀{X:x6},Ext bk X->aG v8 (j0 av (.pointer (σ ⟨aq,0+2,ν⟩)) (Δ (z u.zero))) X λ(_:Unit)S=>cR cc S:=λbp=>by
    refine FW (aS.W bp) λS W=>bB _ _ ⟨?_,by rw[f]⟩;rw[f];have ck:=ct.comp (bp.aa _) (λq r E=>.inl ⟨q,E⟩) W;have a2:=ct.comp bm bJ ck;exact low (ct.comp (M.aa _) (λq r E=>.inl ⟨q,E⟩) a2)
   rw[bl,al];refine⟨λB=>?_,λB=>?_⟩
   .rw[aL aE.p 2 aS.box cj];refine(nt Ω Ω).Y ?_;rintro _ X _ ⟨rfl,ac⟩;rw[b0,aU aE.p rfl];have:=aZ ac;rw[bI]at this;simp only[ms (show a.kind=2 by omega)]at this;exact this
   .rw[aL aE.p 2 aS.box cj];refine(vn Ω Ω).Y ?_;rintro _ X _ ⟨rfl,ac⟩;rw[b0,aU aE.p rfl];have:=aZ ac;rw[bI]at this;simp only[rc (show¬a.kind=2 by omega)]at this;exact this
 .
  have cl:3<a.kind:=Ω
  have ao:=cH cl;obtain⟨G,br⟩:=V3 (E _ ao).1;have bj:=(E _ ao).2;have cm:dz u a.i a.v=σ x:=by unfold kM at hm;rwa [ms cl]at hm
  rw[bl,al];refine⟨λa2=>?_,λa2=>?_⟩
  .have a2:a.kind=4:=Ω
   have f:bg n.k u a=if cr n.k u.zero (x.un.getD a.v.toNat 0)<n.k then(u,7)else(dP u a.i.toNat a.v.toNat,0):=by
    unfold bg;rw[rc Ω,rc Ω,rc Ω,rc Ω,ms a2,cm]
   have df:=ap.zero;have dc:=bR G;intro V L _ _;have bF:cs[2]?=σ (Δ u.zero):=by obtain⟨_,_,_,_,_,_,rfl,_⟩:=p.pJ;rfl
   obtain⟨aV,ay,y,ag,look,_⟩:=bw (N.W L) J;rw[aL aE.p 2 (N.box.W L) bF];refine look (Ext.refl _) ?_;rw[br,bh aw.u av.i Ψ ag (getD_some Ω)];refine(nt Ω Ω).Y ?_;rintro _ cU _ ⟨rfl,aQ⟩;have cn:=L.F aQ;rw[br,u9]at f;unfold cr at f;rw[aT,al];refine⟨λaX=>?_,λbH=>?_⟩
   .rw[ms aX]at f;exact⟨by rw[f],by rw[f];exact low (ct.same N cn)⟩
   .rw[rc bH]at f;intro aJ M _ _;have a6:=cn.F M;refine b1 a6 ?_;refine pK a6 ?_;have dJ:=sH x;have dg:=ap.ev.2.2;refine(Sz (aj.W a6) (by
     obtain⟨cp,cq⟩:=aD (l:=n.co) (i:=C) Ω;have h1:=(ap.var C x cp J cq).1;have B:=dg cp (x7 cq);omega)).Y ?_
    rintro cB bk _ ⟨bn,⟨gz,dh⟩,di⟩;refine⟨.inl bn,?_⟩;have dj:=a6.F bn;have dL:=a6.size;refine bZ (m:=((x.mask.toNat ||| 2 ^ G:Nat):Int)) dj (gz:=gz) (by rw[show G=(G:Int).toNat from rfl,yG Ω];exact dh) (λr E=>by have:=di r E;omega) λS W=>bB _ _ ⟨?_,by rw[f]⟩;rw[f,aK,u9];unfold dP;rw[J];exact low W
  .have ck:a.kind=5:=Ω
   obtain⟨m,dk,dm⟩:=y1 (i:=a.i.toNat) (v:=a.v) (aC x) u x (by rw[aK,u9];exact J) λy O=>(E y O).1;have f:bg n.k u a=(gD u a.i.toNat a.v (aC x),0):=by
    unfold bg;rw[rc Ω,rc Ω,rc Ω,rc Ω,rc Ω,cm]
   have dn:aC {x with mask:=m}=[a.v]:=by
    rw[dm,<-filter_one (sz x) ao];refine List.filter_congr λy O=>?_;rw[rs O,Q4,Bool.not_not]
   rw[bl,al];refine⟨λ_=>?_,λh=>Ω⟩;refine b1 (Ext.refl _) ?_;refine eU an.u ai.i rfl λv4 dM aJ dN M cu=>?_;refine bZ M (by rw[dn];exact cu) (λr E=>by have:=bW cu E;omega) λS W=>bB _ _ ⟨?_,by rw[f]⟩;rw[f,dk,aK,u9];exact low W
end
def jt(A R:ah)(A9:Nat->ah)(aH:ah)(aq:Nat)(r:Nat):Prop:=A r\/R r\/(∃q,A9 q r)\/aH r\/r=aq
section
variable{P:ah}{fp w I:x6}{ad ae aq Vo Vp Vq:Nat}{A R aN R':ah}{A9 cv:Nat->ah}{aH FB:ah}{n:aI}{s s':am}{t bt:aA}{h aW:List aA}{cs bF:List x4}{m bR:Nat}
variable{Z l0:ah}
end
def qS(h:Laid w):0<w.heap.size:=by
 rcases Q9 w.heap.size with e|e
 .have a:=h 0 _ rfl;unfold x6.cell? at a;rw[Array.getElem?_eq_none Ω]at a;cases a
 .exact e
def fm(Z aH:ah)(w:x6)(ad ae aq:Nat)(n:aI)(s:am):Prop:=∃A R A9 t cs,cd w ad ae aq A R A9 aH n s s t [] cs/\(Laid w/\¬Z 0)/\(b4 s/\dG (c6 n) s/\n.d9.length<=256)/\(∀r,Z r↔jt A R A9 aH aq r)/\∀q r,A9 q r->r<w.heap.size
section
variable{Z aH S:ah}{w I U:x6}{ad ae aq:Nat}{A R:ah}{A9:Nat->ah}{n:aI}{s u:am}{t:aA}{cs:List x4}
def fm.W(h:fm Z aH w ad ae aq n s)(a:Ext w I):fm Z aH I ad ae aq n s:=by
 obtain⟨A,R,A9,t,cs,p,⟨e,f⟩,j,x,y⟩:=h;exact⟨A,R,A9,t,cs,p.W a,⟨e.W a,f⟩,j,x,λq r z=>by have:=y q r z;have:=a.size;omega⟩
def fm.side(h:fm Z aH w ad ae aq n s)(e:af S w I)(x:∀r,Z r->¬S r)(y:¬S 0):fm Z aH I ad ae aq n s:=by
 obtain⟨A,R,A9,t,cs,p,⟨z,B⟩,C,j,E⟩:=h;refine⟨A,R,A9,t,cs,p.side e λr _ f=>?_,⟨iH e y z,B⟩,C,j,λq r f=>by have:=E q r f;have:=e.size;omega⟩;have a:∀{X:Prop},(X->jt A R A9 aH aq r)->¬X:=λF h=>x r ((j r).2 (F h)) f;exact⟨a .inl,a λh=>.inr (.inl h),λq=>a λh=>.inr (.inr (.inl ⟨q,h⟩)),a λh=>.inr (.inr (.inr (.inl h))),a λh=>.inr (.inr (.inr (.inr h)))⟩
def fm.ok(h:fm Z aH w ad ae aq n s):bc n.k n.co s/\b4 s/\dG (c6 n) s/\n.d9.length<=256:=by
 obtain⟨A,R,A9,t,cs,p,_,a,_⟩:=h;exact⟨p.dy.2.2.2.1,a⟩
def fm.look(h:fm Z aH w ad ae aq n s):kJ w aq n.k n.co s:=by
 obtain⟨A,R,A9,t,cs,p,_⟩:=h;exact p.look
def fm.step{U:x6}(p:cd w ad ae aq A R A9 aH n s u t [] cs)(f:∀r,Z r↔jt A R A9 aH aq r){u':am}(E:b4 u'/\dG (c6 n) u'/\n.d9.length<=256)(F:¬Z 0)(G:ct w ad ae aq A R A9 aH n s t [] u' U)(j:Ext U I)(hm:cS [] I ad ae A R n u' V):af (λr=>Z r/\¬aH r) w V/\∃l0,(∀r,l0 r->Z r\/w.heap.size<=r)/\fm l0 aH V ad ae aq n u':=by
 obtain⟨B,cv,bF,H,J⟩:=G;obtain⟨x,K,aN,bt,y,L,M,S⟩:=hm;have W:=B.size;have Y:=j.size;have z3:=x.size;have z:=H.W j;have N:=z.prog x y L M.1 (λ_ h=>.inl h) (λ_ _ _ h=>h) z.box.lt;have O:=p.FS;have P:af (λr=>Z r/\¬aH r) w V:=(((B.Y (T:=λr=>Z r/\¬aH r) λr _ h=>⟨(f r).2 (h.elim (λh=>.inr (.inr (.inl h))) λh=>.inr (.inr (.inr (.inr h)))),h.elim (λ⟨q,h⟩=>O q r h) λh aW=>(p.read r aW).2.2 h⟩)).F (j.aa _)).F
  ((vg y.1 x).Y λr _ h=>⟨(f r).2 (.inl h.1),λaW=>(z.read r aW).1 h.2⟩)
 have ab:=p.box.lt;have e:∀{r:Nat}{X:Prop},(X->jt A R A9 aH aq r)->X->Z r\/w.heap.size<=r:=λQ h=>.inl ((f _).2 (Q h));have C:∀r,jt aN R (λq r=>cv q r/\r<I.heap.size) aH aq r->Z r\/w.heap.size<=r:=by
  intro r a;rcases a with a|a|⟨q,a,_⟩|a|a
  .exact (y.2.1 r a).elim (e .inl) λh=>.inr Ω
  .exact e (λh=>.inr (.inl h)) a
  .exact (J q r a).elim (e λh=>.inr (.inr (.inl h))) .inr
  .exact e (λh=>.inr (.inr (.inr (.inl h)))) a
  .exact e (λh=>.inr (.inr (.inr (.inr h)))) a
 exact⟨P,λr=>jt aN R (λq r=>cv q r/\r<I.heap.size) aH aq r,C,aN,R,_,bt,bF,N,⟨K,λh=>(C 0 h).elim F λh=>Ω⟩,E,λr=>Iff.rfl,λq r a=>by have:=a.2;omega⟩
def SF(h:b4 s/\dG (c6 n) s/\n.d9.length<=256)(a:bc n.k n.co s)(m:fH):b4 (bg n.k s m).1/\dG (c6 n) (bg n.k s m).1/\n.d9.length<=256:=
 ⟨(yI a h.1).2.1,h.2.1.F (yN a),h.2.2⟩
def SG{m:fH}(p:cd w ad ae aq A R A9 aH n s u t [] cs)(a:bc n.k n.co u)(e:b4 u)(hk:m.kind<=5):ak v8 ws [Γ aq,Δ (m.kind:Int),Δ m.i,Δ m.pos,Δ m.v,Δ m.c] w λr I=>r=Δ (bg n.k u m).2/\ct w ad ae aq A R A9 aH n s t [] (bg n.k u m).1 I:=by
 by_cases h:m.kind<2
 .exact Sv p a e h
 .exact SE p a ⟨Ω,hk⟩
def SH{B:Nat}{e:x6}{aq:Nat}{j:x4}{cs:List x4}{f:ce}(w:vk B V j cs f)(x:Ext V e)(y:ag e aq aE cs)(z:V.heap.size<=aq)(K:B<=V.heap.size)(L:0<B)(C:Laid e):
  ∃ad ae Z aH,j=Γ ad/\fm Z aH e ad ae aq (cK f) (c6 (cK f))/\∀r,Z r->B<=r:=by
 obtain⟨ad,ae,A,R,A9,aH,t,rfl,p,_,E,F,_,_,G,_,H,I⟩:=RU w x y z;have J:=p.olds;have s:∀r,jt A R (λq r=>A9 q r/\r<e.heap.size) aH aq r->B<=r:=by
  intro r a;rcases a with a|a|⟨q,a,_⟩|a|a
  .exact E r a
  .exact I r a
  .exact F q r a
  .exact H r a
  .omega
 exact⟨ad,ae,_,aH,rfl,⟨A,R,_,t,cs,J,⟨C,λh=>by have:=s 0 h;omega⟩,⟨FR _,dG.rfl,G⟩,λr=>Iff.rfl,λq r a=>a.2⟩,s⟩
end
section
variable{au:List aA}{w U V:x6}{ad ae aq:Nat}{A R S Z aH:ah}{n:aI}{s s0 s1:am}{cs:List x4}
def cS.open(h:cS au w ad ae A R n s1 U):∃a e,bG U ad ae a R n s1 e/\Laid U/\¬a 0/\eC au e/\∀{f:am}{V:x6},cS au U ad ae a R n f V->cS au w ad ae A R n f V:=by
 obtain⟨h1,j,a,e,p,q,r,s⟩:=h;refine⟨a,e,q,j,s,r,λ{f V}k=>?_⟩;obtain⟨x,y,z,B,C,E,F,G⟩:=k;exact⟨uT h1 x,y,z,B,p.F C,E,F,G⟩
def cS.W(h:cS au w ad ae A R n s1 U)(a:Ext U V):cS au w ad ae A R n s1 V:=by
 obtain⟨p,q,h1,e,f,j,k⟩:=h.open;exact k (.same h1 e f j a)
def jP(au:List aA)(Z aH:ah)(w:x6)(ad ae aq:Nat)(n:aI)(s s0:am)(cs:List x4):Prop:=∃A R A9 t,cd w ad ae aq A R A9 aH n s s0 t au cs/\(Laid w/\¬Z 0/\sL t)/\(∀r,Z r↔jt A R A9 aH aq r)/\∀q r,A9 q r->r<w.heap.size
def jP.lt(h:jP au Z aH w ad ae aq n s s0 cs):∀r,Z r->r<w.heap.size:=by
 obtain⟨A,R,A9,t,p,_,e,f⟩:=h;intro r a;rcases(e r).1 a with a|a|⟨q,a⟩|a|a
 .exact nC p.dy r (.inl a)
 .exact nC p.dy r (.inr a)
 .exact f q r a
 .exact (p.read r a).2.1
 .subst a;exact p.box.lt
def jP.W(h:jP au Z aH w ad ae aq n s s0 cs)(a:Ext w U):jP au Z aH U ad ae aq n s s0 cs:=by
 obtain⟨A,R,A9,t,p,⟨e,f⟩,j,x⟩:=h;exact⟨A,R,A9,t,p.W a,⟨e.W a,f⟩,j,λq r y=>by have:=x q r y;have:=a.size;omega⟩
def jP.side(h:jP au Z aH w ad ae aq n s s0 cs)(e:af S w U)(x:∀r,Z r->¬S r)(y:¬S 0):jP au Z aH U ad ae aq n s s0 cs:=by
 obtain⟨A,R,A9,t,p,⟨z,B⟩,j,C⟩:=h;refine⟨A,R,A9,t,p.side e λr _ f=>?_,⟨iH e y z,B⟩,j,λq r f=>by have:=C q r f;have:=e.size;omega⟩;have a:∀{X:Prop},(X->jt A R A9 aH aq r)->¬X:=λE h=>x r ((j r).2 (E h)) f;exact⟨a .inl,a λh=>.inr (.inl h),λq=>a λh=>.inr (.inr (.inl ⟨q,h⟩)),a λh=>.inr (.inr (.inr (.inl h))),a λh=>.inr (.inr (.inr (.inr h)))⟩
def jP.ok(h:jP au Z aH w ad ae aq n s s0 cs):bc n.k n.co s/\e9 w (.agg cs.toArray) n.k n.co s0:=by
 obtain⟨A,R,A9,t,p,_⟩:=h;exact⟨p.dy.2.2.2.1,p.doc.sA⟩
def jP.go(h:jP au Z aH w ad ae aq n s s0 cs):∃A R t,bG w ad ae A R n s t/\Laid w/\¬A 0/\eC au t/\∀{U V:x6}{s1:am},Ext w U->cS au U ad ae A R n s1 V->af (λr=>Z r/\¬aH r) w V/\∃l0,(∀r,l0 r->Z r\/w.heap.size<=r)/\jP au l0 aH V ad ae aq n s1 s0 cs:=by
 obtain⟨A,R,A9,t,p,⟨F,B,a⟩,f,K⟩:=h;refine⟨A,R,t,p.dy,F,λh=>B ((f 0).2 (.inl h)),⟨p.ix,a⟩,λ{U V s1}j hm=>?_⟩;obtain⟨x,G,aN,bt,y,H,C,L⟩:=hm;have M:=j.size;have z3:=x.size;have z:=p.W j;have I:=z.prog x y H C.1 (λ_ h=>.inl h) (λ_ _ _ h=>h) z.box.lt;have e:∀{r:Nat}{X:Prop},(X->jt A R A9 aH aq r)->X->Z r\/w.heap.size<=r:=λJ h=>.inl ((f _).2 (J h));have E:∀r,jt aN R (λq r=>A9 q r/\r<U.heap.size) aH aq r->Z r\/w.heap.size<=r:=by
  intro r a;rcases a with a|a|⟨q,a,_⟩|a|a
  .exact (y.2.1 r a).elim (e .inl) λh=>.inr Ω
  .exact e (λh=>.inr (.inl h)) a
  .exact e (λh=>.inr (.inr (.inl ⟨q,h⟩))) a
  .exact e (λh=>.inr (.inr (.inr (.inl h)))) a
  .exact e (λh=>.inr (.inr (.inr (.inr h)))) a
 exact⟨(j.aa _).F ((vg y.1 x).Y λr _ h=>⟨(f r).2 (.inl h.1),λaW=>(z.read r aW).1 h.2⟩),λr=>jt aN R (λq r=>A9 q r/\r<U.heap.size) aH aq r,E,aN,R,_,bt,I,⟨G,λh=>(E 0 h).elim B λh=>by have:=p.box.lt;omega,C.2⟩,λr=>Iff.rfl,λq r a=>by have:=a.2;omega⟩
def fm.df(h:fm Z aH w ad ae aq n s):∃cs,jP [] Z aH w ad ae aq n s s cs/\ag w aq aE cs:=by
 obtain⟨A,R,A9,t,cs,p,⟨a,e⟩,q,f,j⟩:=h;exact⟨cs,⟨A,R,A9,t,p,⟨a,e,p.ix.m.2⟩,f,j⟩,p.box⟩
end
def vu(co a:Λ):Prop:=a.length=co.length/\∀(q:Nat)z b,co[q]?=σ z->a[q]?=σ b->0<=b/\b<z
def SI(co:Λ)(L:List (Λ)):Prop:=L.length<=90/\∀a∈L,vu co a
def l1(co:Λ)(k:Nat):Λ:=(X9 co.length).map λi:Nat=>((k:Int)*(2*(i:Int)+1)+(k:Int) / 3) % co.getD i 0
def sO(co:Λ)(k:Nat):(l1 co k).length=co.length:=by simp[l1]
def Gh{k i:Nat}{z:Int}(h:co[i]?=σ z):(l1 co k)[i]?=σ (((k:Int)*(2*(i:Int)+1)+(k:Int) / 3) % z):=by
 unfold l1;rw[u4,List.getElem?_range (x5.1 h).1,Y3,u5,h];rfl
def SJ(k:Nat)(h:∀z∈co,1<=z/\z<=32):vu co (l1 co k):=by
 refine⟨sO _ _,λq z b a e=>?_⟩;rw[Gh a]at e;cases e;have:=h z (x7 a);exact⟨Int.emod_nonneg _ Ω,Int.emod_lt_of_pos _ Ω⟩
def SK{a:Λ}(h:a∈br co):vu co a:=by
 rw[va]at h;obtain⟨h1,e⟩:=sm.1 h;rw[r8]at h1;refine⟨h1,λq z b f j=>?_⟩;exact sn.1 (e q (iA z) b (by rw[u4,f];rfl) j)
def SL{a:Λ}{s:am}(e:bc k co s)(h:vu co a):ig s a:=by
 have p:=e.d6;refine⟨by rw[h.1,p],λi x v f q=>.inr ?_⟩;obtain⟨z,j⟩:=aD (l:=co) (i:=i) (by have:=(x5.1 f).1;omega);have h1:=(e.var i x z f j).1;have r:=h.2 i z v j q;omega
def SM{m:Nat}(h:m<=11):(32:Int) ^ m<=36028797018963968:=by
 match m,h with
 |0,_=>decide
 |1,_=>decide
 |2,_=>decide
 |3,_=>decide
 |4,_=>decide
 |5,_=>decide
 |6,_=>decide
 |7,_=>decide
 |8,_=>decide
 |9,_=>decide
 |10,_=>decide
 |11,_=>decide
def SN{sv:x4}(h:aM .i64 w sv l)(J:∀x∈l,1<=x/\x<=32):
  ak v8 H3 [sv] w λv I=>(∃c:Int,v=Δ c/\(l.length<=11->c=aQ l))/\Ext w I:=by
 refine az func28 ?_;rw[a1 an.u h];refine b7.range l.length (λi n U=>Ext w U/\∃c:Int,n=Δ c/\(i<=11->c=aQ (l.take i))) h.le ⟨Ext.refl _,1,rfl,λ_=>rfl⟩ ?_ ?_
 .rintro i _ U k hi ⟨a,c,rfl,e⟩ hk;obtain⟨x,f⟩:=aD (l:=l) hi;refine bC Ω ?_;rw[bh an.u ai.i Ψ (h.W a) f,fB,aO];refine hk _ _ ⟨a,_,rfl,λp=>?_⟩;rw[e Ω,qb f];have ac:=ml (l.take (i+1)) λy j=>J y (T1 j);have h1:=SM (m:=(l.take (i+1)).length) (by rw[o8];omega);rw[qb f]at ac;exact m1 Ω Ω
 .rintro _ U k ⟨a,c,rfl,e⟩;refine b3 Ω ?_;rw[o9]at e;exact⟨⟨c,rfl,e⟩,a⟩
def SO{f g:Int->Int}:∀{l:Λ},(∀v∈l,f v=g v)->dE k l f=dE k l g:=by
 intro l;unfold dE;generalize (k,(-1:Int))=p;induction l generalizing p with
 |nil=>intro _;rfl
 |cons v l a=>
  intro h;rw[V7,V7,show e0 f p v=e0 g p v by unfold e0;rw[h v (.head _)]];exact a _ λu hu=>h u (.tail _ hu)
def SP{f:Int->Int}:∀(l:Λ)(p:Int×Int),(∀v∈l,0<=v)->(p.2= -1\/0<=p.2)->((l.foldl (e0 f) p).2= -1\/0<=(l.foldl (e0 f) p).2)/\(k=k):=by
 intro l;induction l with
 |nil=>intro p _ h;exact⟨h,rfl⟩
 |cons v l e=>
  intro p a h;refine e _ (λu hu=>a u (.tail _ hu)) ?_;unfold e0;split
  .exact .inr (a v (.head _))
  .exact h
section
variable{w:x6}{dv:x4}{k:Int}{co:Λ}{s:am}
def SQ{f:Int->Int}{q:Nat}(a:l[q]?=σ v):dE k (l.take (q+1)) f=e0 f (dE k (l.take q) f) v:=by
 unfold dE;rw[r9,a,j6,S2];rfl
def SR{f:Int->Int}(a:∀v∈l,0<=v):(dE k l f).2= -1\/0<=(dE k l f).2:=(SP (k:=k) l (k,-1) a (.inl rfl)).1
def SS{i:Nat}{x:bo}(h:e9 w dv k co s)(ao:bc k co s)(G:s.d6[i]?=σ x):
  ak v8 HT [dv,Δ (i:Int)] w λr I=>Ext w I/\r= .tuple #[Δ (dE k (aC x) λv=>x.un.getD v.toNat 0).1,Δ (dE k (aC x) λv=>x.un.getD v.toNat 0).2]:=by
 have ap:=sH x;refine az func12 ?_;refine bn λg1 U aq H P=>?_;obtain⟨lc,au,ay,aA,aB,aF,C,aG,_,Q,aH,R,aI,aK⟩:=h.box H P;rw[aJ aE.p 0 C rfl,aJ aE.p 3 C rfl];refine gn (α:=Λ) (a:=aC x) (i:=i) rfl rfl ca.u an.i Ψ Q (by rw[u4,G];rfl) λaL S=>?_;have E:=dl S;rw[a1 an.u E];obtain⟨f,J⟩:∃f:Int->Int,f=λv=>x.un.getD v.toNat 0:=⟨_,rfl⟩;rw[<-J];refine kS.range (aC x).length (λq b a V=>Ext U V/\b=Δ (dE k ((aC x).take q) f).1/\a=Δ (dE k ((aC x).take q) f).2) E.le ⟨Ext.refl _,rfl,rfl⟩ ?_ ?_
 .rintro q _ _ V W X ⟨j,rfl,rfl⟩ Y;obtain⟨v,z⟩:=aD (l:=aC x) X;have Z:=(e1.1 (x7 z)).1;obtain⟨y,rfl⟩:=V3 Z.1;have A:=SQ (k:=k) (f:=f) z;have aM:=SR (k:=k) (f:=f) (l:=(aC x).take q) λv z=>(e1.1 (T1 z)).1.1;have aa:f (y:Int)=x.un.getD y 0:=by rw[J];rfl
  refine bC Ω ?_;refine i9 (λb a I=>Ext U I/\b=Δ (dE k ((aC x).take (q+1)) f).1/\a=Δ (dE k ((aC x).take (q+1)) f).2) (λb a I ac=>by rw[aO];exact Y _ _ _ ac) λax L=>?_;rw[bh an.u ai.i Ψ (E.W j) z];have M:∀{K:x4->Prop}{e:x6},Ext U e->K (Δ (f (y:Int)))->ab v8 (u7 aE (Γ g1) 5) e λad=>ab v8 (u6 cW ad) e λae=>ab v8 (b8 cW ae (Δ (i:Int))) e λt39=>ab v8 (u6 aw t39) e λaf=>ab v8 (b8 aw af (Δ (y:Int))) e λag=>ab v8 (u6 av ag) e K:=λ{K e}N ah=>by
   rw[aJ aE.p 5 (C.W N) rfl];refine gn (a:=x.un) (i:=i) rfl rfl cW.u aw.i Ψ (bp R N) (by rw[u4,G];rfl) λaN aj=>?_;rw[bh aw.u av.i Ψ (dl aj) (getD_some (i:=y) Ω),<-aa];exact ah
  refine aY (λr I=>V=I/\r= .bool (decide ((dE k ((aC x).take q) f).2= -1\/f (y:Int)<(dE k ((aC x).take q) f).1))) ?_ λaP O=>?_
  .rintro _ _ ⟨rfl,rfl⟩;unfold e0 at A;rw[al];refine⟨λB=>M j (L _ _ _ ⟨j,?_,?_⟩),λB=>L _ _ _ ⟨j,?_,?_⟩⟩
   .rw[A,ms B]
   .rw[A,ms B]
   .rw[A,rc B]
   .rw[A,rc B]
  .rw[aT,al];refine⟨λam=>O _ _ ⟨rfl,by rw[rs (.inl Ω)]⟩,λam=>?_⟩;refine M j ?_;rw[aT];refine O _ _ ⟨rfl,?_⟩;congr 1;exact decide_eq_decide.2 ⟨.inr,λh=>h.resolve_left λh=>Ω⟩
 .rintro _ _ V W ⟨j,rfl,rfl⟩;rw[o9];exact b3 Ω ⟨H.F j,rfl⟩
def SU{y:x4}{f:cm}{K:x4->x6->Prop}(C:Seen eM w [y] (s.d9.map js))(E:s.d9[j]?=σ f)(F:∀g e h v3 I,Ext w I->ag I g a6 [e,h,v3]->aM .i64 I e f.sc->aM .i64 I h f.aj->aM .i64 I v3 f.cs->K (Γ g) I):
  ab v8 (b8 dh y (Δ (j:Int))) w λG=>ab v8 (u7 cC G 0) w λH=>ab v8 (u6 a6 H) w λJ=>aG v8 (Q8 a6 v2 (.tuple #[])) w λf V=>aG v8 (j0 a6 f J) V λ(_:Unit)z=>K f z:=by
 refine kv (i:=j) rfl dh.u cC.i C (by rw[u4,E];rfl) λb o cs x L=>?_;obtain⟨e,h,v3,rfl,h1,A,B⟩:=mL L;rw[aU cC.p rfl,bz (cs:=[e,h,v3]) a6.p a6.i rfl (λq u a=>by
  have:q<3:=(x5.1 a).1
  match q,this,a with
  |0,_,a=>cases a;exact x 0 _ rfl
  |1,_,a=>cases a;exact x 1 _ rfl
  |2,_,a=>cases a;exact x 2 _ rfl)]
 refine bE a6.i λR V S M N=>?_;have O:∀u∈[e,h,v3],u.oneCell'=v2:=λu hu=>by
  simp only[V4,List.not_mem_nil,or_false]at hu;rcases hu with rfl|rfl|rfl
  .exact fT h1
  .exact fT A
  .exact fT B
 refine b1 (vs:=[e,h,v3]) a6.i rfl rfl O N λz P U Q=>?_;have r:=M.put P Ω;exact F _ _ _ _ _ r Q ((dl h1).W r) ((dl A).W r) ((dl B).W r)
def SV{of:Λ->Int}{l:List (Λ)}{q:Nat}{t:Λ}(a:l[q]?=σ t):fI k of (l.take (q+1))=simpStep of (fI k of (l.take q)) t:=by
 unfold fI;rw[r9,a,j6,S2];rfl
def qT(w:x6)(v:x4)(o:Option (Λ)):Prop:=match o with
 |none=>v= .slice ν 0 0
 |some tl=>tl≠[]/\aM .i64 w v tl
def qT.nil{v:x4}{o:Option (Λ)}(h:qT w v o):∃a n c,v= .slice a n c/\a.isNone=decide (o=ν):=by
 cases o with
 |none=>exact⟨ν,0,0,h,Ξ⟩
 |some tl=>
  obtain⟨h1,_,b,o,base,cap,rfl,_,_,e,_⟩:=h;exact⟨_,_,_,rfl,by rw[e (List.length_pos_iff.2 h1)];simp⟩
end
def SX{f g:Λ->Int}:∀{l:List (Λ)},(∀t∈l,f t=g t)->fI k f l=fI k g l:=by
 intro l;unfold fI;generalize (k,(ν:Option (Λ)))=p;induction l generalizing p with
 |nil=>intro _;rfl
 |cons v l a=>
  intro h;rw[V7,V7,show simpStep f p v=simpStep g p v by unfold simpStep;rw[h v (.head _)]];exact a _ λu hu=>h u (.tail _ hu)
def SY{aj cs t:Λ}{m:Nat}(hi:cj aj t 0=σ (m:Int)):bq aj cs t=cs.getD m 0:=by
 unfold bq;rw[hi];rfl
def SZ{aj t:Λ}{m:Nat}(hi:cj aj t 0=σ (m:Int)):nE aj t=m:=by
 unfold nE;rw[hi];rfl
section
variable{w:x6}{dv:x4}{k:Int}{co:Λ}{s:am}
def Ta{f:cm}(h:e9 w dv k co s)(B:bc k co s)(E:s.d9[j]?=σ f)(ay:pos<f.sc.length)(Q:∀u,f.sc[pos]?=σ u->v∈ba s u):
  ak v8 IL [dv,Δ (j:Int),Δ (pos:Int),Δ v] w λr I=>Ext w I/\∃G,r= .tuple #[Δ (fI k (bq f.aj f.cs) (bX s f.sc pos v)).1,G]/\qT I G (fI k (bq f.aj f.cs) (bX s f.sc pos v)).2:=by
 have H:=x7 E;obtain⟨R,S,_⟩:=B.d9 f H;have J:=(kH B H).1;have V:f.aj.length=f.sc.length:=by rw[S];simp[bN]
 have aW:=j1 J;have aX:f.cs.length=(aQ f.aj).toNat:=by rw[S];exact R.len
 refine az func90 ?_;refine bn λg1 U aZ W aA=>?_;have X:=h.box W aA;obtain⟨lc,a2,a7,a8,G,bb,Y,bd,_,be,bf,bg,aB,bi⟩:=id X;rw[aJ aE.p 6 Y rfl];refine SU aB E λbj bk bl v3 bm K Z s1 aC aF=>?_;rw[aJ aE.p 0 (Y.W K) rfl,aJ a6.p 1 Z rfl];refine(tO f.aj aC ⟨by rw[V];exact R.scope.2,J⟩).Y ?_;rintro bo br _ ⟨aa,aG⟩;have aH:=K.F aa;refine(X.W aH).load λbs aI=>?_;refine(yU aI B E ay Q).Y ?_;rintro df ab _ ⟨ac,L,_⟩;have M:=aa.F ac;have aK:=K.F M;have ad:(kj s f pos v).length=(bX s f.sc pos v).length:=by unfold kj;rw[r8]
 rw[a1 an.u L,ad];obtain⟨of,ae⟩:∃of,of=bq f.aj f.cs:=⟨_,rfl⟩;rw[<-ae];refine kS.range (bX s f.sc pos v).length (λq b a x=>Ext ab x/\b=Δ (fI k of ((bX s f.sc pos v).take q)).1/\qT x a (fI k of ((bX s f.sc pos v).take q)).2) (by rw[<-ad];exact L.le) ⟨Ext.refl _,rfl,rfl⟩ ?_ ?_
 .rintro q _ af x aL aM ⟨e,rfl,y⟩ aN;obtain⟨tl,N⟩:=aD (l:=bX s f.sc pos v) aM;have aP:=x7 N;obtain⟨m,hm⟩:=qQ B H Q aP;have z:=SV (k:=k) (of:=of) N;have C:=ns J hm;rw[u9]at C;have ag:m<f.cs.length:=by have:=(x5.1 C).1;omega
  have ah:of tl=f.cs.getD m 0:=by rw[ae];exact SY hm
  have aR:tl≠[]:=λhe=>by
   have:=wO C;rw[he,V,List.length_nil]at this;omega
  have aS:(kj s f pos v)[q]?=σ (m:Int):=by unfold kj;rw[u4,N,Y3,SZ hm]
  refine bC Ω ?_;refine i9 (λb a I=>Ext ab I/\b=Δ (fI k of ((bX s f.sc pos v).take (q+1))).1/\qT I a (fI k of ((bX s f.sc pos v).take (q+1))).2) (λb a I aU=>by rw[aO];exact aN _ _ _ aU) λax am=>?_;rw[bh an.u ai.i Ψ (L.W e) aS];have ao:=Z.W (M.F e);have ap:=aF.W (M.F e);refine aY (λr I=>x=I/\r= .bool (decide ((fI k of ((bX s f.sc pos v).take q)).2=ν\/of tl<(fI k of ((bX s f.sc pos v).take q)).1))) ?_ λbt aq=>?_
  .rintro _ _ ⟨rfl,rfl⟩;unfold simpStep at z;rw[al];refine⟨λA=>?_,λA=>am _ _ _ ⟨e,by rw[z,rc A],by rw[z,rc A];exact y⟩⟩;intro bu O _ _;have au:=e.F O;rw[aJ a6.p 2 (ao.W O) rfl,bh aw.u av.i Ψ (ap.W O) (getD_some ag),<-ah];refine gn rfl rfl ca.u an.i Ψ (bp aG (ac.F au)) C λu hu=>?_;exact am _ _ _ ⟨au,by rw[z,ms A],by rw[z,ms A];exact⟨aR,dl (jz hu)⟩⟩
  .obtain⟨bw,fn,bx,rfl,aV⟩:=y.nil;rw[p9 an.u,aV,al];refine⟨λP=>aq _ _ ⟨rfl,by rw[rs (.inl P)]⟩,λP=>?_⟩;rw[aJ a6.p 2 ao rfl,bh aw.u av.i Ψ ap (getD_some ag),<-ah,aT];refine aq _ _ ⟨rfl,?_⟩;congr 1;exact decide_eq_decide.2 ⟨.inr,λh=>h.resolve_left P⟩
 .rintro _ af x aL ⟨e,rfl,y⟩;rw[o9]at y ⊢;exact b3 Ω ⟨(W.F aK).F e,af,rfl,y⟩
end
abbrev mQ:Type:=np .u8×Int×Int×Int×Int
structure gg where
 d:Int
 i:Int
 pos:Int
 v:Int
 c:Int
def gg.ok(a:gg):Prop:=0<=a.d/\a.d<256
def gg.kind(a:gg):Nat:=(a.d % 7).toNat
def gg.b5(a:gg):List x4:=[.int .u8 a.d,Δ a.i,Δ a.pos,Δ a.v,Δ a.c]
def oB(x:mQ):gg:=⟨x.1.val,x.2.1,x.2.2.1,x.2.2.2.1,x.2.2.2.2⟩
def Tb{R:ah}{cs:List x4}{x:mQ}(h:Seen R w cs x):cs=(oB x).b5:=by
 obtain⟨q,_,_,_,rfl,_,_,_,a,r,_,_,_,rfl,_,_,_,e,s,_,_,_,rfl,_,_,_,f,y,z,_,_,rfl,_,_,_,j,p⟩:=h;have a:=a;have e:=e;have f:=f;have j:=j;have p:=p;subst a e f j p;rfl
def Tc{x:mQ}(h:(j4.u8.min<=x.1.val/\x.1.val<=j4.u8.max)/\(W5.min<=x.2.1/\x.2.1<=W5.max)/\(W5.min<=x.2.2.1/\x.2.2.1<=W5.max)/\(W5.min<=x.2.2.2.1/\x.2.2.2.1<=W5.max)/\(W5.min<=x.2.2.2.2/\x.2.2.2.2<=W5.max)):(oB x).ok:=by
 have a:j4.u8.min=0:=Φ
 have e:j4.u8.max=255:=Φ
 rw[a,e]at h;exact⟨h.1.1,by have:=h.1.2;show x.1.val<256;omega⟩
def gg.one(a:gg):∀u∈a.b5,u.oneCell'=v2:=by
 intro u hu;unfold gg.b5 at hu;simp only[V4,List.not_mem_nil,or_false]at hu;rcases hu with rfl|rfl|rfl|rfl|rfl<;>rfl
def gg.Td(a:gg):a.kind<7:=by
 unfold gg.kind;have:=Int.emod_lt_of_pos a.d (show(0:Int)<7 by decide);omega
def vv(k:Int)(a:gg):Int:=a.c.emod 18446744073709551616 % (k+1)
def l2(k:Int)(a:gg):fH:=⟨a.kind,a.i,a.pos,a.v,vv k a⟩
def mR(n:aI)(s:am)(a:gg):am:=if a.kind=6 then(if ew n a.i a.v then dP s a.i.toNat a.v.toNat else s)else(bg n.k s (l2 n.k a)).1
def y3{d:Int}{K:x4->Prop}(h:0<=d):ab v8 (aP .rem cO v6 v2 (.int .u8 d) (.int .u8 7)) w K=K (.int .u8 (((d % 7).toNat:Nat):Int)):=by
 rw[rl Φ,Int.tmod_eq_emod_of_nonneg h];have:=Int.emod_nonneg d (show(7:Int)≠0 by decide);rw[Int.toNat_of_nonneg this]
section
variable{w:x6}{ad ae aq:Nat}{A R:ah}{A9:Nat->ah}{aH:ah}{n:aI}{s u:am}{t:aA}{h:List aA}{cs:List x4}{a:gg}
def Gi(a:bc n.k n.co s){i:Int}(h:ew n i v):0<=i/\∃x,s.d6[i.toNat]?=σ x/\0<=v/\v<x.un.length:=by
 obtain⟨x,e,h1,_,f⟩:=h.var a;exact⟨h.1,x,e,h.2.2.1,by have:=h.2.2.2;omega⟩
def Te(f:b4 s/\dG (c6 n) s/\n.d9.length<=256)(j:bc n.k n.co s):b4 (mR n s a)/\dG (c6 n) (mR n s a)/\n.d9.length<=256:=by
 unfold mR;split
 .split
  .rename_i h;obtain⟨r,x,p,w,_⟩:=Gi j h;have e:=kI (v:=a.v) p;have q:dG s (dP s a.i.toNat a.v.toNat):=yL (v:=a.v);exact⟨by rw[e];exact b4.d6 f.1 p rfl,f.2.1.F q,f.2.2⟩
  .exact f
 .exact SF f j _
def Tf(p:cd w ad ae aq A R A9 aH n s u t h cs){i:Nat}{x:bo}(B:u.d6[i]?=σ x):∃g cap y gy e,cs[3]?=σ (.slice (σ ⟨g,0,ν⟩) u.d6.length cap)/\w.cell? ⟨g,0+i*1,ν⟩=σ y/\aB .i64 e w gy y (aC x)/\(∀r,lw y r->A9 0 r)/\
  ∀{U V:x6}{m:Int}{z:x4}{K:Unit->x6->Prop},Ext w U->af (λr=>lw y r) U V->aB .i64 e V gy z (aC {x with mask:=m})->(∀r,lw z r->lw y r)->(∀I,ct w ad ae aq A R A9 aH n s t h {u with d6:=u.d6.set i {x with mask:=m}} I->K () I)->
   aG v8 (j0 an (.pointer (σ ⟨g,0+i*1,ν⟩)) z) V K:=by
 have J:=p.olds;have aJ:=(x5.1 B).1;obtain⟨lc,ah,aK,aL,aM,aN,L,_,ai,_,_,_,_,aj⟩:=id J.doc;obtain⟨g,cap,full,ak,c,al,e,C,am,E,M,N,O,ap,au⟩:=Fy ai (by rw[u4,B];rfl) λr _ h=>(aj rfl).2 0 r h;obtain⟨y,rfl⟩:=V6.1 (ao.len N);rw[r8]at e;have av:full[i]?=σ y:=by have:=M 0 y rfl;simpa[show ao.n (Λ)=1 from rfl]using this
 obtain⟨gy,aw,P,ax⟩:=Bl N;have f:∀r,lw y r->al r:=λr a=>by
  rcases ax with rfl|ay
  .obtain⟨_,_,_,e,_⟩:=a;cases e
  .obtain⟨e,_⟩:=bW P a;rw[e];exact ay
 refine⟨g,cap,y,gy,aw,by rw[L,<-e];rfl,by have:=C.cell av;rw[X6,T0];exact this,P,λr a=>(O r (f r a)).1,λ{U V m Q K}F G S W az=>?_⟩;have aO:=F.size;have aP:=G.size;have E:i*1+1<=full.length:=E;obtain⟨_,_,_,X⟩:=c5 S.ls;have Y:¬lw y g:=λh=>ap (f g h);refine bu (o:=0+i*1) an.i (by rw[X];rfl) (by rw[X];rfl) ((C.W F).aa G Y) Ω λZ ab aQ j=>?_;have j:ag Z g ak (over full (i*1) [Q]):=by
  have e:=Fz (o:=i*1) (q:=0) (x:=Q) M E Ξ;rw[X6]at j;rw[Nat.add_zero]at e;rw[e]at j;exact j
 have aR:g<w.heap.size:=C.lt;have H:af (λr=>lw y r\/r=g) w Z:=((F.aa _).F (G.Y λr _ h=>.inl h)).F (ab.Y λr _ h=>.inr h);have aA:=bw S ab λr a he=>by have he:r=g:=he;exact Y (he▸W r a)
 have aD:=au H (λr _ h=>h.imp (f r) id) j (ou aA) λr a=>.inl (f r (W r a));have ac:∀r,r<w.heap.size->(lw y r\/r=g)->A9 0 r/\r<w.heap.size:=λr a h=>h.elim (λh=>O r (f r h)) λh=>by rw[h];exact am
 obtain⟨cv,aE,aF⟩:=J.pK (u':={u with d6:=u.d6.set i {x with mask:=m}}) (λq r h=>h.2) (v:=ah) (by rw[L];rfl) H ac (by show bs _ _ _ _ ((u.d6.set i {x with mask:=m}).map aC);rw[T2];exact aD) rfl (qP B rfl) (qP B rfl) rfl rfl;refine az _ ⟨H.Y λr a h=>.inl ⟨0,(ac r a h).1⟩,cv,cs,aE,λq r a=>?_⟩;rcases aF q r a with⟨aI,h⟩|h
 .exact .inl ⟨aI,h.1⟩
 .exact .inr h
end
section
variable{Z aH:ah}{w I:x6}{ad ae aq:Nat}{A R:ah}{A9:Nat->ah}{n:aI}{s s':am}{t:aA}{cs:List x4}{a:gg}
def lr(Z aH:ah)(w:x6)(ad ae aq:Nat)(n:aI)(s':am)(I:x6):Prop:=af (λr=>Z r/\¬aH r) w I/\∃l0,(∀r,l0 r->Z r\/w.heap.size<=r)/\fm l0 aH I ad ae aq n s'
def fm.Tg{aN:ah}{cv:Nat->ah}{bt:aA}(p:cd w ad ae aq A R A9 aH n s s t [] cs)(f:∀r,Z r↔jt A R A9 aH aq r)(H:b4 s'/\dG (c6 n) s'/\n.d9.length<=256)(x:¬Z 0)(I:Laid w)(y:af (eH w) w U)(z:Grow A w aN U)(j:∀q r,cv q r->A9 q r)(J:ct U ad ae aq aN R cv aH n s' bt [] s' V):lr Z aH w ad ae aq n s' V:=by
 obtain⟨B,C,bF,K,L⟩:=J;have O:=y.size;have P:=B.size;have M:=p.FS;have E:af (λr=>Z r/\¬aH r) w V:=((vg z.1 y).Y (T:=λr=>Z r/\¬aH r) λr _ h=>⟨(f r).2 (.inl h.1),λaW=>(p.read r aW).1 h.2⟩).F
  (B.Y λr _ h=>⟨(f r).2 (h.elim (λ⟨q,h⟩=>.inr (.inr (.inl ⟨q,j q r h⟩))) λh=>.inr (.inr (.inr (.inr h)))),h.elim (λ⟨q,h⟩=>M q r (j q r h)) λh aW=>(p.read r aW).2.2 h⟩)
 have Q:=p.box.lt;have e:∀{r:Nat}{X:Prop},(X->jt A R A9 aH aq r)->X->Z r\/w.heap.size<=r:=λN h=>.inl ((f _).2 (N h));have F:∀r,jt aN R (λq r=>C q r/\r<V.heap.size) aH aq r->Z r\/w.heap.size<=r:=by
  intro r a;rcases a with a|a|⟨q,a,_⟩|a|a
  .exact (z.2.1 r a).elim (e .inl) .inr
  .exact e (λh=>.inr (.inl h)) a
  .exact (L q r a).elim (λ⟨G,h⟩=>e (λh=>.inr (.inr (.inl h))) ⟨G,j G r h⟩) λh=>.inr Ω
  .exact e (λh=>.inr (.inr (.inr (.inl h)))) a
  .exact e (λh=>.inr (.inr (.inr (.inr h)))) a
 exact⟨E,λr=>jt aN R (λq r=>C q r/\r<V.heap.size) aH aq r,F,aN,R,_,bt,bF,K.olds,⟨iH E (λh=>x h.1) I,λh=>(F 0 h).elim x λh=>Ω⟩,H,λr=>Iff.rfl,λq r a=>a.2⟩
def lr.same(h:fm Z aH w ad ae aq n s)(a:Ext w I):lr Z aH w ad ae aq n s I:=⟨a.aa _,Z,λ_ h=>.inl h,h.W a⟩
def lr.before(a:Ext w U)(h:lr Z aH U ad ae aq n s I):lr Z aH w ad ae aq n s I:=by
 obtain⟨c,l0,e,f⟩:=h;have:=a.size;exact⟨(a.aa _).F c,l0,λr j=>(e r j).imp id λh=>Ω,f⟩
end
def qU(s:am):Prop:=∀f∈s.d9,f.live≠0
def Th(n:aI):qU (c6 n):=by
 intro f a;unfold c6 at a;obtain⟨g,_,rfl⟩:=j5.1 a;exact(by decide:(1:Int)≠0)
def Gj{a b:am}(h:dG a b)(k:qU a):qU b:=by
 intro g q;obtain⟨j,e⟩:=List.getElem?_of_mem q;have r:=(x5.1 e).1;obtain⟨f,p⟩:=aD (l:=a.d9) (i:=j) (by have:=h.d9;omega);rw[(h.fn j f g p e).2.2.1];exact k f (x7 p)
section
variable{w:x6}{ad ae:Nat}{A R:ah}{n:aI}{s:am}{t:aA}{dv:x4}
end
def mS(w0 w:x6)(ad ae aq:Nat)(n:aI):Prop:=Ext w0 w/\∃s Z aH,fm Z aH w ad ae aq n s/\∀r,Z r->w0.heap.size<=r
section
variable{w0 w I:x6}{ad ae aq:Nat}{n:aI}{s:am}{Z aH:ah}
def mS.W(h:mS w0 w ad ae aq n)(a:Ext w I):mS w0 I ad ae aq n:=by
 obtain⟨e,s,Z,aH,f,j⟩:=h;exact⟨e.F a,s,Z,aH,f.W a,j⟩
end
def fm.live{Z aH:ah}{ad ae aq:Nat}{n:aI}{s:am}(h:fm Z aH w ad ae aq n s):qU s/\s.d9.length<=256:=by
 obtain⟨_,_,a,e⟩:=h.ok;refine⟨Gj a (Th n),?_⟩;rw[a.d9];unfold c6;rw[r8];exact e
def Ti{n:aI}{s:am}{i:Nat}{x:bo}(h:dG (c6 n) s)(e:s.d6[i]?=σ x):x.gone=0:=by
 obtain⟨y,a⟩:=aD (l:=(c6 n).d6) (i:=i) (by have:=(x5.1 e).1;have:=h.d6;omega);rw[(h.var i y x a e).1];unfold c6 at a;simp only[u4,Y9]at a;obtain⟨u,_,rfl⟩:=a;rfl
section
variable{w:x6}{n:aI}{ad ae aq:Nat}
end
section
variable{w:x6}{ad ae:Nat}{A R:ah}{n:aI}{s:am}{t:aA}
def y4{i:Nat}{x:bo}(e:bc n.k n.co s)(a:s.d6[i]?=σ x)(f:v∈aC x):cu n s (i:Int) v=x.un.getD v.toNat 0:=by
 unfold cu;rw[ms (pM e a f),u9];unfold fl;rw[a]
def pO{i:Nat}{x:bo}(a:s.d6[i]?=σ x):ba s (i:Int)=aC x:=by
 unfold ba;rw[u9,a]
def Tj{i:Nat}{x:bo}(e:bc n.k n.co s)(a:s.d6[i]?=σ x):dF n s (i:Int)=dE n.k (aC x) λv=>x.un.getD v.toNat 0:=by
 unfold dF;rw[pO a];exact SO λv f=>y4 e a f
end
section
variable{w:x6}{ad ae gy:Nat}{A R:ah}{A9:Nat->ah}{aH:ah}{n:aI}{s s0:am}{t:aA}{au:List aA}{cs:List x4}
def Tk{i:Nat}{U:x4}{K:x6->Prop}(p:cd w ad ae gy A R A9 aH n s (dg s s0 i 0) t au cs)(aX:Laid w)(ap:dG s0 s)(hi:i<n.co.length)(aY:U=Γ ad)(aZ:bc n.k n.co s0)(a2:∀I,ct w ad ae gy A R A9 aH n s t au (dg s s0 (i+1) 0) I->K I):
  en w λB=>
  ab v8 (u7 aE (Γ gy) 3) B λt22=>
  ab v8 (u6 ca t22) B λO=>
  ak v8 Ar [U,Δ (i:Int)] B λa6 H=>
   (Ext B H\/b6 v8 (u6 ca t22) O H/\b6 v8 (u7 aE (Γ gy) 3) t22 H/\True)/\
  ak v8 Av [a6] H λa7 J=>
   (Ext B J\/b6 v8 (u6 ca t22) O J/\b6 v8 (u7 aE (Γ gy) 3) t22 J/\True)/\
   ak v8 Au [a7] J λa8 G=>
    (Ext B G\/b6 v8 (u6 ca t22) O G/\b6 v8 (u7 aE (Γ gy) 3) t22 G/\True)/\
   ab v8 (b8 ca O (Δ (i:Int))) G λba=>
    aG v8 (j0 an ba a8) G λ(_:Unit)x=>
    ab v8 (u7 aE (Γ gy) 5) x λbb=>
  ab v8 (u6 cW bb) x λbe=>
  ab v8 (b8 cW be (Δ (i:Int))) x λbf=>
  ab v8 (u6 aw bf) x λbg=>
  ab v8 (V1 #[aw] ai #[bg]) x λbh=>
  bY (Δ 0) x λP C bi=>
   ab v8 (aP .lss ai v6 v6 P bh) C λbj=>
   Split bj (en C λE=>
   ab v8 (u7 aE (Γ gy) 5) E λV=>
   ab v8 (u6 cW V) E λaq=>
   ab v8 (b8 cW aq (Δ (i:Int))) E λax=>
   ab v8 (u6 aw ax) E λt45=>
   ak v8 wr [U,Δ (i:Int),P] E λt50 y=>
    (Ext E y\/b6 v8 (u6 aw ax) t45 y/\b6 v8 (u6 cW V) aq y/\b6 v8 (u7 aE (Γ gy) 5) V y/\True)/\
   ab v8 (Y8 t50 0) y λbk=>
    ab v8 (Y8 t50 1) y λbM=>
    ab v8 (b8 aw t45 P) y λt53=>
    aG v8 (j0 av t53 bk) y λ(_:Unit)W=>
    ab v8 (aP .add ai v6 v2 P (Δ 1)) W λbl=>
   bi bl W)
   (K C):=by
 subst aY;have Q:=p.dy.2.2.2.1;have bN:=Q.d6;have bO:=aZ.d6;have ay:=ap.d6;have bP:=Q.ev.2.1;obtain⟨j,az⟩:=aD (l:=s0.d6) (i:=i) Ω;obtain⟨f,M⟩:=aD (l:=s.d6) (i:=i) Ω;obtain⟨z,X⟩:=aD (l:=n.co) (i:=i) hi;obtain⟨bm,S⟩:=ap.var i j f az M;have bQ:=(Q.var _ f z M X).1;have bR:=Q.ev.2.2 z (x7 X);have aA:(dg s s0 i 0).d6[i]?=σ j:=by
  show(dH s.d6 s0.d6 i)[i]?=_;rw[FO ay Ω];exact az
 intro B Y _ _;have Z:=p.W Y;have bn:=aX.W Y;obtain⟨bS,bT,bU,bp,bV,bX,bZ,bq⟩:=FX Z aA;rw[aJ aE.p 3 Z.box bp];refine(kG (i:=(i:Int)) Z.dy).Y ?_;rintro _ H _ ⟨⟨b0,b1,rfl,aB⟩,af⟩;refine⟨.inl af,?_⟩;refine n4.Y ?_;rintro _ J _ ⟨aI,bd,rfl,b2,ag⟩;refine⟨.inl (af.F aI),?_⟩;have aK:=mJ aB Ω (by rw[u9];exact M);have ah:=af.F aI;refine(DN (L:=aC f) (n3 (g:=bd) aB.1) (λk vs w hk=>by
    obtain⟨v,aj,rfl⟩:=hk;exact⟨v,by rw[<-aK,u4,aj];rfl,rfl⟩) (λa b N ac=>⟨ac.1.aa N λh=>by have:=ag.lt;have h:=h;omega,iH N (λh=>by have h:=h;have:=ag.lt;omega) ac.2⟩) ⟨ag,bn.W ah⟩ (by rw[<-aK,r8]) (by have:=sH f;omega)).Y ?_
 rintro _ G _ ⟨br,b4,b5,aL⟩;have aN:=ah.F br;refine⟨.inl aN,?_⟩;have b7:=ah.size;refine bq aN (by rw[RM S];exact aL) (λr bs=>by obtain⟨b9,_⟩:=bW aL bs;omega) λx d13=>?_;obtain⟨cb,cc,ce,aQ,cf⟩:=id d13;have aR:=(x5.1 aA).1;have aS:({dg s s0 i 0 with d6:=(dg s s0 i 0).d6.set i {j with mask:=f.mask}}:am).d6[i]?=σ {j with mask:=f.mask}:=l9 aR;obtain⟨cg,ch,aT,bt,bu,al,_⟩:=sI aQ aS;have al:aM .i64 x aT j.un:=al;rw[aJ aE.p 5 aQ.box bt,eT cW.u aw.i (x5.1 aS).1 λ_=>rfl,aF (v:=aT) (o:=0+i*1) Ψ (by rw[X6,T0];exact bu),a1 aw.u al];have bw:ct w ad ae gy A R A9 aH n s t au {dg s s0 i 0 with d6:=(dg s s0 i 0).d6.set i {({j with mask:=f.mask}:bo)with un:=dH f.un j.un 0}} x:=ct.comp (Y.aa _) (λq r h=>.inl ⟨q,h⟩) d13;refine bY.range j.un.length (λv C=>ct w ad ae gy A R A9 aH n s t au {dg s s0 i 0 with d6:=(dg s s0 i 0).d6.set i {({j with mask:=f.mask}:bo)with un:=dH f.un j.un v}} C) Ω bw ?_ ?_
 .rintro v C bx aj d14 bz;obtain⟨vv,ci,cj,bD,bE⟩:=id d14;obtain⟨c,N⟩:=aD (l:=f.un) (i:=v) Ω;refine bC Ω ?_;intro E aU _ _;have ao:=bD.W aU;have aV:({dg s s0 i 0 with d6:=(dg s s0 i 0).d6.set i {({j with mask:=f.mask}:bo)with un:=dH f.un j.un v}}:am).d6[i]?=σ {({j with mask:=f.mask}:bo)with un:=dH f.un j.un v}:=l9 aR;obtain⟨ck,cl,bF,bG,bH,cm,bI⟩:=sI ao aV;rw[aJ aE.p 5 ao.box bG,eT cW.u aw.i (x5.1 aV).1 λ_=>rfl,aF (v:=bF) (o:=0+i*1) Ψ (by rw[X6,T0];exact bH)];refine(pD (i:=(i:Int)) (v:=(v:Int)) ao.dy).Y ?_;rintro _ y _ ⟨rfl,aW⟩;refine⟨.inl aW,?_⟩;have bJ:ew n i v:=⟨Ω,Ω,Ω,by rw[u9,u5,X,W7];omega⟩;have bK:fl s (i:Int).toNat (v:Int).toNat=c:=by
   unfold fl;rw[u9,M,u9];show f.un.getD v 0=c;rw[u5,N];rfl
  rw[ms bJ,bK,bA,bB];refine bI aW (by show v<(dH f.un j.un v).length;rw[yP S];exact aj) λW d17=>?_;rw[aO];refine bz _ ?_;have bL:=ct.comp vv bE (ct.comp (aU.aa _) (λq r h=>.inl ⟨q,h⟩) d17.yV);have e:eI {dg s s0 i 0 with d6:=(dg s s0 i 0).d6.set i {({j with mask:=f.mask}:bo)with un:=dH f.un j.un v}} i {({j with mask:=f.mask}:bo)with un:=dH f.un j.un v} ((dH f.un j.un v).set v c)={dg s s0 i 0 with d6:=(dg s s0 i 0).d6.set i {({j with mask:=f.mask}:bo)with un:=dH f.un j.un (v+1)}}:=by
   unfold eI;simp only;rw[List.set_set,vj S N]
  rw[<-e];exact bL
 .rintro C bx d14;refine b3 Ω (a2 _ ?_);have e:({dg s s0 i 0 with d6:=(dg s s0 i 0).d6.set i {({j with mask:=f.mask}:bo)with un:=dH f.un j.un j.un.length}}:am)=dg s s0 (i+1) 0:=by
   rw[vi S,RL bm];show(⟨s.zero,(dH s.d6 s0.d6 i).set i f,dH s.d9 s0.d9 0,s0.du⟩:am)=_;rw[vj ay M];rfl
  rw[<-e];exact d14
end
def set_self{α:Type}{l:List α}{i:Nat}{x:α}(h:l[i]?=σ x):l.set i x=l:=by
 refine X0 λj=>?_;by_cases e:i=j
 .subst e;rw[l9 (x5.1 h).1,h]
 .rw[Z6 e]
section
variable{w:x6}{ad ae gy:Nat}{A R:ah}{A9:Nat->ah}{aH:ah}{n:aI}{s s0:am}{t:aA}{au:List aA}{cs:List x4}
def Tl{m:Nat}{X:x4}{K:x6->Prop}(p:cd w ad ae gy A R A9 aH n s (dg s s0 m j) t au cs)(Y:dG s0 s)(Z:j<s0.d9.length)(aR:∀f∈s0.d9,f.live≠0)(aS:X=Γ ad)(aT:∀I,ct w ad ae gy A R A9 aH n s t au (dg s s0 m (j+1)) I->K I):
  ab v8 (u7 aE (Γ gy) 6) w λaX=>
  ab v8 (u6 dh aX) w λaY=>
  ab v8 (b8 dh aY (Δ (j:Int))) w λaZ=>
  ab v8 (u7 cC aZ 0) w λt66=>
  ab v8 (u7 a6 t66 1) w λa1=>
  ab v8 (u6 an a1) w λa2=>
  ak v8 wq [a2] w λac B=>
  ab v8 (V1 #[ca] ai #[ac]) B λt70=>
  bY (Δ 0) B λC x a7=>
   ab v8 (aP .lss ai v6 v6 C t70) x λa8=>
   Split a8 (ab v8 (b8 ca ac C) x λba=>
   ab v8 (u6 an ba) x λbb=>
   en x λz=>
   ab v8 (u7 aE (Γ gy) 6) z λt77=>
   ab v8 (u6 dh t77) z λaf=>
   ab v8 (b8 dh af (Δ (j:Int))) z λag=>
   ab v8 (u7 cC ag 0) z λL=>
   ab v8 (u7 a6 L 2) z λM=>
   ab v8 (u6 aw M) z λah=>
   ak v8 Aw [X,Δ (j:Int),bb] z λal a=>
    (Ext z a\/b6 v8 (u6 aw M) ah a/\b6 v8 (u7 a6 L 2) M a/\b6 v8 (u7 cC ag 0) L a/\b6 v8 (u6 dh t77) af a/\b6 v8 (u7 aE (Γ gy) 6) t77 a/\True)/\
   ab v8 (Y8 al 0) a λbc=>
    ab v8 (Y8 al 1) a λbM=>
    ab v8 (b8 aw ah C) a λbd=>
    aG v8 (j0 av bd bc) a λ(_:Unit)N=>
    ab v8 (aP .add ai v6 v2 C (Δ 1)) N λbe=>
   a7 be N)
   (K x):=by
 subst aS;have ap:=p.dy.2.2.2.1;have aq:=Y.d9;obtain⟨f0,O⟩:=aD (l:=s0.d9) Z;obtain⟨f1,E⟩:=aD (l:=s.d9) (i:=j) Ω;obtain⟨bf,ax,ay,P⟩:=Y.fn j f0 f1 O E;have bg:=aR f0 (x7 O);have bh:f1.live≠0:=by rw[ay];exact bg
 have az:=x7 E;obtain⟨bi,bj,_⟩:=ap.d9 f1 az;obtain⟨aA,bO⟩:=kH ap az;have bk:f1.aj.length=f1.sc.length:=by rw[bj];simp[bN]
 have Q:(dg s s0 m j).d9[j]?=σ f0:=by
  show(dH s.d9 s0.d9 j)[j]?=_;rw[FO aq Z];exact O
 have bl:=(x5.1 Q).1;obtain⟨lc,bP,bQ,bR,bS,bT,bm,_,_,_,_,_,bn,_⟩:=p.look;rw[aJ aE.p 6 bm rfl];refine kv (i:=j) rfl dh.u cC.i bn (by rw[u4,Q];rfl) λb o bU G H=>?_;obtain⟨bV,bo,v3,rfl,h1,S,bW⟩:=mL H;rw[aU cC.p rfl,aU a6.p rfl,aF Ψ (G 1 _ rfl)];have S:aM .i64 w bo f1.aj:=by rw[ax];exact dl S
 refine(tO f1.aj S ⟨by rw[bk];exact bi.scope.2,aA⟩).Y ?_;rintro bs B _ ⟨U,V⟩;have bX:=U.size;rw[fU ca.u V];have bt:=p.olds.W U;have bu:ct B ad ae gy A R (λq r=>A9 q r/\r<w.heap.size) aH n s t au {dg s s0 m j with d9:=(dg s s0 m j).d9.set j {f0 with cs:=dH f1.cs f0.cs 0}} B:=by
  have e:({dg s s0 m j with d9:=(dg s s0 m j).d9.set j {f0 with cs:=dH f1.cs f0.cs 0}}:am)=dg s s0 m j:=by
   show({dg s s0 m j with d9:=(dg s s0 m j).d9.set j f0}:am)=_;rw[set_self Q]
  rw[e];exact ct.same bt (Ext.refl _)
 have bZ:=p.box.lt;refine bY.range (br f1.aj).length (λk x=>(ct B ad ae gy A R (λq r=>A9 q r/\r<w.heap.size) aH n s t au {dg s s0 m j with d9:=(dg s s0 m j).d9.set j {f0 with cs:=dH f1.cs f0.cs k}} x)/\Seen (λr=>w.heap.size<=r/\r<B.heap.size) x [bs] (br f1.aj)) (nX V) ⟨bu,pa V λr G h=>⟨h.elim id False.elim,G⟩⟩ ?_ ?_
 .rintro k x bw hk ⟨d20,aB⟩ bx;obtain⟨bz,b0,b1,bD,aC⟩:=id d20;obtain⟨tl,aI⟩:=aD (l:=br f1.aj) hk;obtain⟨c,H⟩:=aD (l:=f1.cs) (i:=k) Ω;have aK:=kA aA aI;refine bC Ω ?_;refine gn rfl rfl ca.u an.i Ψ aB aI λaV bE=>?_;intro z J _ _;have W:=bD.W J;have aL:({dg s s0 m j with d9:=(dg s s0 m j).d9.set j {f0 with cs:=dH f1.cs f0.cs k}}:am).d9[j]?=σ {f0 with cs:=dH f1.cs f0.cs k}:=l9 bl;obtain⟨b2,cap,eX,e6,y,bF,bG,_,b4,bH⟩:=FV W aL;rw[aJ aE.p 6 W.box bF,eT dh.u cC.i (x5.1 aL).1 λ_=>rfl,aU cC.p rfl,aU a6.p rfl,aF Ψ (by rw[X6];exact bG 2 _ rfl)];refine(yn W.dy ((dl (jz bE)).W J)).Y ?_;rintro _ a _ ⟨rfl,aN⟩;refine⟨.inl aN,?_⟩;obtain⟨bI,bJ⟩:=yW E bh aK;have bK:oo s j tl=c:=by
   rw[bJ];unfold bq;rw[aK];simp only;rw[u9,u5,H];rfl
  rw[ms bI,bK,bA,bB];refine bH aN (by show k<(dH f1.cs f0.cs k).length;rw[yP P];omega) λN d23=>?_;rw[aO];have aQ:=ct.comp bz aC (ct.comp (J.aa _) (λq r h=>.inl ⟨q,h⟩) d23);have e:ed {dg s s0 m j with d9:=(dg s s0 m j).d9.set j {f0 with cs:=dH f1.cs f0.cs k}} j {f0 with cs:=dH f1.cs f0.cs k} ((dH f1.cs f0.cs k).set k c)={dg s s0 m j with d9:=(dg s s0 m j).d9.set j {f0 with cs:=dH f1.cs f0.cs (k+1)}}:=by
   unfold ed;simp only;rw[List.set_set,vj P H]
  rw[e]at aQ;refine bx _ ⟨aQ,?_⟩;obtain⟨bL,b5,b7,b9,cb⟩:=id d23;refine ao.aa (bp aB J) bL λr G h aW=>?_;have h:=h.elim False.elim id;rcases aW with⟨q,aW⟩|aW
  .rcases aC q r aW with⟨cc,aW⟩|aW
   .have:=aW.2;omega
   .omega
  .have aW:r=gy:=aW;omega
 .rintro x bw ⟨d20,_⟩;refine b3 Ω (aT _ ?_);have e:({dg s s0 m j with d9:=(dg s s0 m j).d9.set j {f0 with cs:=dH f1.cs f0.cs (br f1.aj).length}}:am)=dg s s0 m (j+1):=by
   rw[show(br f1.aj).length=f0.cs.length by omega,vi P,RN ⟨bf,ax,ay⟩];show(⟨s.zero,dH s.d6 s0.d6 m,(dH s.d9 s0.d9 j).set j f1,s0.du⟩:am)=_;rw[vj aq E];rfl
  rw[<-e];exact ct.comp (U.aa _) (λq r h=>.inl ⟨q,h.1⟩) d20
end
def Gk(w:x6)(pl:Λ)(r:x4)(I:x6):Prop:=Ext w I/\((∃cs:List x4,r= .tuple #[.pointer ν,.agg cs.toArray,.bool v6]/\cs.length=8/\∀u∈cs,u.oneCell'=v2)\/∃f ad ae aq Z aH s cs,r= .tuple #[Γ ad,.agg cs.toArray,.bool v2]/\gY (pl.take 300)=σ f/\(cK f).k<=1000/\
 fm Z aH I ad ae aq (cK f) s/\jP [] Z aH I ad ae aq (cK f) s s cs/\∀r,Z r->w.heap.size<=r)
section
variable{w:x6}{ad ae:Nat}{A R:ah}{n:aI}{s:am}{t:aA}
def Tm{i:Nat}(h:bG w ad ae A R n s t)(f:Laid w)(e:lk n s (i:Int)=v2):ak v8 AB [Γ ad,Δ (i:Int)] w λr I=>Ext w I/\r= .tuple #[Δ (dF n s (i:Int)).1,Δ (dF n s (i:Int)).2,Δ 0]:=by
 obtain⟨_,x,a,_⟩:=Fg h.2.2.2.1 e;rw[u9]at a;refine(QQ h f).Y ?_;rintro r q _ ⟨j,_,p⟩;refine⟨j,?_⟩;rw[p x e (by rw[u9];exact a)];unfold dF;rw[pO a]
end
def Tn{of:Int->Int}:(l=[]/\(dE k l of).2= -1)\/(dE k l of).2∈l:=by
 have key:∀(l:Λ)(p:Int×Int),(l.foldl (e0 of) p).2=p.2\/(l.foldl (e0 of) p).2∈l:=λl=>by
  induction l with
  |nil=>exact λp=>.inl rfl
  |cons v l a=>
   intro p;rw[V7];rcases a (e0 of p v)with h|h
   .rw[h];unfold e0;split
    .exact .inr (.head _)
    .exact .inl rfl
   .exact .inr (.tail _ h)
 cases l with
 |nil=>exact .inl ⟨rfl,rfl⟩
 |cons v l=>
  right;unfold dE;rw[V7];have e:e0 of (k,-1) v=(of v,v):=by unfold e0;rw[ms (.inl rfl)]
  rw[e];rcases key l (of v,v)with h|h
  .rw[h];exact .head _
  .exact .tail _ h
def gG(s:am):Nat:=(s.d6.map λx=>(aC x).length).sum
def eR(k:Int)(s:am):Nat:=gG s+(k-s.zero).toNat
def To{l:List Nat}{i x y:Nat}(h:l[i]?=σ x):(l.set i y).sum+x=l.sum+y:=by
 induction l generalizing i with
 |nil=>simp at h
 |cons a l e=>
  cases i with
  |zero=>simp at h;subst h;rw[List.set_cons_zero,R6,R6];omega
  |succ i=>rw[List.set_cons_succ,R6,R6];have:=e (by simpa using h);omega
def Gl{s:am}{i:Nat}{x y:bo}(a:s.d6[i]?=σ x):gG {s with d6:=s.d6.set i y}+(aC x).length=gG s+(aC y).length:=by
 unfold gG;rw[T2];exact To (by rw[u4,a];rfl)
section
variable{n:aI}{s:am}
def Tp{x:bo}(hm:0<=x.mask)(h:v∈aC x):(aC {x with mask:=((x.mask.toNat ||| 2 ^ v.toNat:Nat):Int)}).length<(aC x).length:=by
 have a:=(e1.1 h).1.1;have f:((x.mask.toNat:Nat):Int)=x.mask:=Ω
 have e:aC {x with mask:=((x.mask.toNat ||| 2 ^ v.toNat:Nat):Int)}=(aC x).filter λu=>decide (u≠v):=by
  unfold aC;rw[List.filter_filter];refine List.filter_congr λu hu=>?_;obtain⟨q,_,rfl⟩:=j5.1 hu;simp only;rw[yA a Ω,f];cases dropped x.mask (q:Int)<;>simp
 rw[e];refine Nat.lt_of_le_of_ne (List.length_filter_le _ _) λhe=>?_;have:=(List.filter_eq_self).1 (List.filter_sublist.eq_of_length he) v h;simp at this
def Tq{i:Int}(f:bc n.k n.co s)(p:b4 s):gE n.k n.co s (bg n.k s (eD i v)).1/\(bg n.k s (eD i v)).1.zero=s.zero/\(∀j u,cu n (bg n.k s (eD i v)).1 j u=cu n s j u)/\
  ((bg n.k s (eD i v)).2≠0->(bg n.k s (eD i v)).1=s/\∀x,dz s i v=σ x->cr n.k s.zero (x.un.getD v.toNat 0)<n.k)/\
  ((bg n.k s (eD i v)).2=0->gG (bg n.k s (eD i v)).1<gG s/\v∉ba (bg n.k s (eD i v)).1 i):=by
 have a:bg n.k s (eD i v)=match dz s i v with
  |none=>(s,1)
  |some x=>if cr n.k s.zero (x.un.getD v.toNat 0)<n.k then(s,7)else(dP s i.toNat v.toNat,0):=by
  unfold bg eD;simp only;rw[rc Ω,rc Ω,rc Ω,rc Ω,ms trivial];cases dz s i v<;>rfl
 cases ac:dz s i v with
 |none=>
  rw[ac]at a;rw[a];exact⟨.rfl f p,rfl,λ_ _=>rfl,λ_=>⟨rfl,λx e=>by cases e⟩,λh=>by cases h⟩
 |some x=>
  rw[ac]at a;simp only at a;obtain⟨C,e,E,r⟩:=jO ac;by_cases q:cr n.k s.zero (x.un.getD v.toNat 0)<n.k
  .rw[ms q]at a;rw[a];exact⟨.rfl f p,rfl,λ_ _=>rfl,λ_=>⟨rfl,λy z=>by cases z;exact q⟩,λh=>by cases h⟩
  .rw[rc q]at a;have w:=(e1.1 r).1;have A:(dP s i.toNat v.toNat).zero=s.zero:=by rw[kI e]
   have B:gE n.k n.co s (bg n.k s (eD i v)).1:=FN f p (by show 4<5;omega) (λj u hu=>by rw[a]at hu;exact((FK f e w.1).1 hu).1) (by rw[a];show s.zero<=(dP s i.toNat v.toNat).zero;omega);refine⟨B,by rw[a];exact A,λj u=>by rw[a];exact RH e,λh=>ro (by rw[a]) h,λ_=>⟨?_,λhm=>?_⟩⟩
   .rw[a];show gG (dP s i.toNat v.toNat)<gG s;rw[kI e];have F:=(x5.1 e).1;have G:=f.d6;have h1:=f.var i.toNat x _ e (x8 Ω);have H:=Tp h1.2.2.1 r;have:=Gl (s:=s) (y:={x with mask:=((x.mask.toNat ||| 2 ^ v.toNat:Nat):Int)}) e;omega
   .rw[a]at hm;exact((FK f e w.1).1 hm).2 rfl rfl
theorem y5{i:Int}:∀(L:Λ)(s:am)(b:Bool),bc n.k n.co s->b4 s->gE n.k n.co s (dq n.k i L (s,b)).1/\(dq n.k i L (s,b)).1.zero=s.zero/\(∀j u,cu n (dq n.k i L (s,b)).1 j u=cu n s j u)/\gG (dq n.k i L (s,b)).1<=gG s/\
  ((dq n.k i L (s,b)).2=v6->b=v6/\(dq n.k i L (s,b)).1=s)/\((dq n.k i L (s,b)).2=v2->b=v2\/gG (dq n.k i L (s,b)).1<gG s)/\
  ∀v∈L,v∈ba (dq n.k i L (s,b)).1 i->0<=i->∀x,s.d6[i.toNat]?=σ x->x.gone=0->cr n.k s.zero (cu n s i v)<n.k
 |[],s,b,f,q=>⟨.rfl f q,rfl,λ_ _=>rfl,o4 _,λh=>⟨h,rfl⟩,λh=>.inl h,λ_ h=>by cases h⟩
 |v::L,s,b,f,q=>by
  obtain⟨p,G,H,r,w⟩:=Tq (i:=i) f q;have e:dq n.k i (v::L) (s,b)=dq n.k i L ((bg n.k s (eD i v)).1,decide ((bg n.k s (eD i v)).2=0)||b):=rfl;obtain⟨A,P,Q,I,R,S,T⟩:=y5 L (bg n.k s (eD i v)).1 (decide ((bg n.k s (eD i v)).2=0)||b) p.ok p.iX;rw[e];have J:gG (bg n.k s (eD i v)).1<=gG s:=by
   by_cases h:(bg n.k s (eD i v)).2=0
   .exact Nat.le_of_lt (w h).1
   .rw[(r h).1];exact o4 _
  refine⟨p.F A,P.F G,λj u=>(Q j u).F (H j u),X1 I J,λh=>?_,λh=>?_,λu hu B C x a K=>?_⟩
  .obtain⟨h1,E⟩:=R h;rw[U1,decide_eq_false_iff_not]at h1;rw[E];exact⟨h1.2,(r h1.1).1⟩
  .rcases S h with h1|h1
   .rw[Bool.or_eq_true,sp]at h1;rcases h1 with h1|h1
    .exact .inr (Nat.lt_of_le_of_lt I (w h1).1)
    .exact .inl h1
   .exact .inr (S3 h1 J)
  .rcases V4.1 hu with rfl|hu
   .by_cases h:(bg n.k s (eD i u)).2=0
    .exact ro (A.ki i u B) (w h).2
    .have M:u∈aC x:=by
      have h1:=p.ki i u (A.ki i u B);unfold ba at h1;rw[a]at h1;exact h1
     have U:dz s i u=σ x:=by
      unfold dz;rw[ms C,a];simp only;rw[ms ⟨K,M⟩]
     have E:=(r h).2 x U;have V:=(x5.1 a).1;have W:=f.d6;obtain⟨z,F⟩:=aD (l:=n.co) (i:=i.toNat) Ω;have aa:=(f.var i.toNat x z a F).1;have ab:=f.ev.2.2 z (x7 F);have X:=(e1.1 M).1;have Y:ew n i u:=⟨C,Ω,X.1,by rw[u5,F,W7];omega⟩;have Z:cu n s i u=x.un.getD u.toNat 0:=by unfold cu fl;rw[ms Y,a]
     rw[Z];exact E
   .have N:=p.same;have V:=(x5.1 a).1;have W:=N.d6;obtain⟨y,O⟩:=aD (l:=(bg n.k s (eD i v)).1.d6) (i:=i.toNat) Ω;have h1:=N.var i.toNat x y a O;have:=T u hu B C y O (h1.1.F K);rw[G,H]at this;exact this
def lu(n:aI)(s:am)(i:Int):Prop:=dD s i.toNat=v6->ba s i≠[]/\(dF n s i).1=0/\∀v∈ba s i,cr n.k s.zero (cu n s i v)<n.k
def y6{i:Int}(e:bc n.k n.co s):(dF n s i).2<0↔ba s i=[]:=by
 rcases Tn with⟨h1,a⟩|h
 .unfold dF;rw[a];exact⟨λ_=>h1,λ_=>Φ⟩
 .have h:(dF n s i).2∈ba s i:=h;generalize (dF n s i).2=w at h;have f:0<=w:=by
   unfold ba at h;split at h
   .exact (e1.1 h).1.1
   .cases h
  refine⟨λa=>Ω,λa=>?_⟩;rw[a]at h;cases h
def Tr{i:Int}(f:bc n.k n.co s)(E:b4 s)(B:0<=i)(hi:i<n.co.length)(w:dD s i.toNat=v6)(F:ba s i≠[]):
  (bg n.k s (lY i (dF n s i).1)).2=0/\gE n.k n.co s (bg n.k s (lY i (dF n s i).1)).1/\gG (bg n.k s (lY i (dF n s i).1)).1=gG s/\(bg n.k s (lY i (dF n s i).1)).1.zero=min (s.zero+(dF n s i).1) n.k:=by
 have M:=f.d6;obtain⟨x,h⟩:=aD (l:=s.d6) (i:=i.toNat) Ω;have G:x.gone=0:=by unfold dD at w;rw[h]at w;simpa using w
 have C:ba s i=aC x:=by unfold ba;rw[h]
 have H:∀v∈aC x,cu n s i v=x.un.getD v.toNat 0:=λv r=>by
  obtain⟨z,p⟩:=aD (l:=n.co) (i:=i.toNat) Ω;have N:=(f.var i.toNat x z h p).1;have O:=f.ev.2.2 z (x7 p);have A:=(e1.1 r).1;have I:ew n i v:=⟨B,hi,A.1,by rw[u5,p,W7];omega⟩;unfold cu fl;rw[ms I,h]
 have A:=FJ (i:=i) f;have J:=(RF (c:=(dF n s i).1) (RG (i:=i) f)).1 (S9 _);have K:(dF n s i).1<=iW x:=RB (by rw[<-C];exact F) λv r=>by
  have:=J.2 v (by rw[C];exact r);rw[H v r]at this;exact this
 have q:=(RC (k:=n.k) (a:=lY i (dF n s i).1) B h G).2.1 rfl A K;have L:∀j u,u∈ba (bg n.k s (lY i (dF n s i).1)).1 j->u∈ba s j:=λj u hu=>by
  rw[q]at hu;have e:ba (iB s i.toNat x (λg=>cY n.k g (dF n s i).1) λg=>cr n.k g (dF n s i).1) j=ba s j:=FE h rfl FH;have hu:u∈ba (iB s i.toNat x (λg=>cY n.k g (dF n s i).1) λg=>cr n.k g (dF n s i).1) j:=hu;rw[e]at hu;exact hu
 have p:(bg n.k s (lY i (dF n s i).1)).1.zero=min (s.zero+(dF n s i).1) n.k:=by rw[q];rfl
 have P:=f.zero;refine⟨by rw[q],FN f E (by show 2<5;omega) L (by rw[p];omega),?_,p⟩;rw[q];show gG (iB s i.toNat x _ _)=gG s;have:=Gl (s:=s) (y:={x with un:=ee (λg=>cY n.k g (dF n s i).1) x.un (aC x)}) h;rw[FH]at this;exact Nat.add_right_cancel this
def Gm{i:Int}{b:Bool}(j:bc n.k n.co s)(L:b4 s)(G:0<=i)(hi:i<n.co.length):gE n.k n.co s (fa n i (s,b)).1/\eR n.k (fa n i (s,b)).1<=eR n.k s/\
  ((fa n i (s,b)).2.2=v2->dD s i.toNat=v6/\ba (fa n i (s,b)).1 i=[])/\((fa n i (s,b)).2.2=v6->(fa n i (s,b)).2.1=v2->b=v2\/eR n.k (fa n i (s,b)).1<eR n.k s)/\
  ((fa n i (s,b)).2.2=v6->(fa n i (s,b)).2.1=v6->b=v6/\(fa n i (s,b)).1=s/\lu n s i):=by
 have W:=j.d6;obtain⟨x,w⟩:=aD (l:=s.d6) (i:=i.toNat) Ω;generalize a:fa n i (s,b)=r;unfold fa at a;simp only at a;by_cases z:dD s i.toNat=v2
 .rw[ms z]at a;subst a;exact⟨.rfl j L,o4 _,λh=>(by cases h),λ_ h=>.inl h,λ_ h=>⟨h,rfl,λH=>(by rw[z]at H;cases H)⟩⟩
 rw[rc z]at a;have A:dD s i.toNat=v6:=by simpa using z
 have I:x.gone=0:=by unfold dD at A;rw[w]at A;simpa using A
 obtain⟨f,B,Q,R,M,N,C⟩:=y5 (n:=n) (i:=i) (ba s i) s v6 j L;generalize dq n.k i (ba s i) (s,v6)=q at f B Q R M N C a;have J:eR n.k q.1<=eR n.k s:=by unfold eR;rw[B];omega
 have S:dD q.1 i.toNat=v6:=by
  have X:=f.same.d6;obtain⟨y,O⟩:=aD (l:=q.1.d6) (i:=i.toNat) Ω;unfold dD;rw[O];simpa[(f.same.var _ x y w O).1]using I
 by_cases E:(dF n q.1 i).2<0
 .rw[ms E]at a;subst a;exact⟨f,J,λ_=>⟨A,(y6 f.ok).1 E⟩,λh=>(by cases h),λh=>(by cases h)⟩
 .have F:ba q.1 i≠[]:=λh=>E ((y6 f.ok).2 h);rw[rc E]at a;by_cases K:0<(dF n q.1 i).1
  .obtain⟨Y,T,U,V⟩:=Tr f.ok f.iX G hi S F;rw[ms K]at a;have Z:q.1.zero<n.k:=by
    obtain⟨v,p⟩:=List.exists_mem_of_ne_nil _ F;have h1:=C v (f.ki i v p) p G x w I;have H:=(qM (n:=n) (s:=s) (i:=i) (v:=v) j).1;rw[B];unfold cr at h1;omega
   have P:eR n.k (bg n.k q.1 (lY i (dF n q.1 i).1)).1<eR n.k s:=by
    refine S3 ?_ J;unfold eR;rw[U,V];omega
   subst a;exact⟨f.F T,Nat.le_of_lt P,λh=>(by cases h),λ_ _=>.inr P,λ_ h=>(by cases h)⟩
  .rw[rc K]at a;subst a;refine⟨f,J,λh=>(by cases h),λ_ h=>?_,λ_ h=>?_⟩
   .have h:(q.2||b)=v2:=h;rw[Bool.or_eq_true]at h;rcases h with h|h
    .refine .inr ?_;have:=(N h).resolve_left Φ;show eR n.k q.1<_;unfold eR;rw[B];omega
    .exact .inl h
   .have h:(q.2||b)=v6:=h;rw[U1]at h;obtain⟨_,e⟩:=M h.1;rw[e]at K F C;have aa:=FJ (i:=i) j;exact⟨h.2,e,λ_=>⟨F,Ω,λv p=>C v p p G x w I⟩⟩
theorem Gn:∀(L:List Nat)(s:am)(b:Bool),bc n.k n.co s->b4 s->(∀i∈L,i<n.co.length)->gE n.k n.co s (gS n L (s,b)).1/\eR n.k (gS n L (s,b)).1<=eR n.k s/\
  ((gS n L (s,b)).2.2=v2->(gS n L (s,b)).2.1=v6/\∃i∈L,dD s i=v6/\ba (gS n L (s,b)).1 (i:Int)=[])/\((gS n L (s,b)).2.2=v6->(gS n L (s,b)).2.1=v2->b=v2\/eR n.k (gS n L (s,b)).1<eR n.k s)/\
  ((gS n L (s,b)).2.2=v6->(gS n L (s,b)).2.1=v6->b=v6/\(gS n L (s,b)).1=s/\∀i∈L,lu n s (i:Int))
 |[],s,b,w,B,_=>⟨.rfl w B,o4 _,λh=>(by cases h),λ_ h=>.inl h,λ_ h=>⟨h,rfl,λ_ hi=>by cases hi⟩⟩
 |i::L,s,b,w,B,C=>by
  obtain⟨e,z,A,G,H⟩:=Gm (i:=(i:Int)) (b:=b) w B Ω (by have:=C i (.head _);omega);rw[u9]at A;generalize f:gS n (i::L) (s,b)=r;unfold gS at f;generalize fa n (i:Int) (s,b)=q at e z A G H f;by_cases p:q.2.2=v2
  .rw[ms p]at f;subst f;exact⟨e,z,λ_=>⟨rfl,i,.head _,(A p).1,(A p).2⟩,λh=>(by cases h),λh=>(by cases h)⟩
  .have I:q.2.2=v6:=by simpa using p
   rw[rc p]at f;subst f;obtain⟨P,J,Q,R,S⟩:=Gn L q.1 q.2.1 e.ok e.iX λj a=>C j (.tail _ a);refine⟨e.F P,X1 J z,λh=>?_,λh1 E=>?_,λh1 E=>?_⟩
   .obtain⟨h1,j,a,F,T⟩:=Q h;refine⟨h1,j,.tail _ a,?_,T⟩;have V:=C j (.tail _ a);have W:=w.d6;have X:=e.same.d6;obtain⟨x,K⟩:=aD (l:=s.d6) (i:=j) Ω;obtain⟨y,M⟩:=aD (l:=q.1.d6) (i:=j) Ω;unfold dD at F ⊢;rw[M]at F;rw[K];have:=(e.same.var j x y K M).1;simpa[this]using F
   .rcases R h1 E with h|h
    .rcases G I h with h|h
     .exact .inl h
     .exact .inr (Nat.lt_of_le_of_lt J h)
    .exact .inr (S3 h z)
   .obtain⟨U,N,O⟩:=S h1 E;obtain⟨f1,f2,f3⟩:=H I U;rw[f2]at N O;refine⟨f1,?_,λj a=>?_⟩
    .rw[f2];exact N
    .rcases V4.1 a with rfl|a
     .exact f3
     .exact O j a
def Gp(j:bc n.k n.co s)(p:b4 s):gE n.k n.co s (fx n s).1/\((fx n s).2.2=v2->(fx n s).2.1=v6/\∃i<n.co.length,dD s i=v6/\ba (fx n s).1 (i:Int)=[])/\
  ((fx n s).2.2=v6->(fx n s).2.1=v2->eR n.k (fx n s).1<eR n.k s)/\((fx n s).2.2=v6->(fx n s).2.1=v6->(fx n s).1=s/\∀i<n.co.length,lu n s (i:Int)):=by
 obtain⟨h1,_,q,r,f⟩:=Gn (X9 n.co.length) s v6 j p λi hi=>S1.1 hi;unfold fx;refine⟨h1,λh=>?_,λa e=>(r a e).resolve_left Φ,λa e=>⟨(f a e).2.1,λi hi=>(f a e).2.2 i (S1.2 hi)⟩⟩;obtain⟨w,i,hi,x⟩:=q h;exact⟨w,i,S1.1 hi,x⟩
end
section
variable{n:aI}{s:am}
def im(n:aI)(s:am):Prop:=∀i<n.co.length,lu n s (i:Int)
theorem Gq{i:Int}(a:bc n.k n.co s)(p:0<=i):∀(L:Λ)(b:Bool),(∀v∈L,v∈ba s i/\cr n.k s.zero (cu n s i v)<n.k)->dq n.k i L (s,b)=(s,b)
 |[],_,_=>rfl
 |v::L,b,h=>by
  obtain⟨C,q⟩:=h v (.head _);have e:bg n.k s (eD i v)=(s,7)\/bg n.k s (eD i v)=(s,1):=by
   unfold bg eD;simp only;rw[rc Ω,rc Ω,rc Ω,rc Ω,ms trivial];cases ac:dz s i v with
   |none=>exact .inr rfl
   |some x=>
    obtain⟨_,f,_,r⟩:=jO ac;left;simp only;have E:=(x5.1 f).1;have F:=a.d6;obtain⟨z,j⟩:=aD (l:=n.co) (i:=i.toNat) Ω;have G:=(a.var i.toNat x z f j).1;have H:=a.ev.2.2 z (x7 j);have w:=(e1.1 r).1;have y:ew n i v:=⟨p,Ω,w.1,by rw[u5,j,W7];omega⟩;have A:cu n s i v=x.un.getD v.toNat 0:=by unfold cu fl;rw[ms y,f]
    rw[A]at q;rw[ms q]
  have B:dq n.k i (v::L) (s,b)=dq n.k i L (s,b):=by
   show dq n.k i L ((bg n.k s (eD i v)).1,decide ((bg n.k s (eD i v)).2=0)||b)=_;rcases e with e|e<;>rw[e]<;>rfl
  rw[B];exact Gq a p L b λu hu=>h u (.tail _ hu)
theorem Gr(f:bc n.k n.co s):∀(L:List Nat),(∀i∈L,lu n s (i:Int))->gS n L (s,v6)=(s,v6,v6)
 |[],_=>rfl
 |i::L,h=>by
  have a:=h i (.head _);have e:fa n (i:Int) (s,v6)=(s,v6,v6):=by
   unfold fa;by_cases p:dD s (i:Int).toNat=v2
   .rw[ms p]
   .rw[rc p];obtain⟨h1,w,q⟩:=a (by simpa using p);simp only;rw[Gq f Ω (ba s i) v6 λv a=>⟨a,q v a⟩];simp only;rw[rc (λh=>h1 ((y6 f).1 h)),rc Ω];rfl
  unfold gS;rw[e];simp only;rw[rc Φ];exact Gr f L λj r=>h j (.tail _ r)
end
theorem Gs:∀{l m:List Nat},l.length=m.length->(∀(i:Nat)x y,l[i]?=σ x->m[i]?=σ y->x<=y)->l.sum<=m.sum/\((∃(i:Nat)(x y:Nat),l[i]?=σ x/\m[i]?=σ y/\x<y)->l.sum<m.sum)
 |[],[],_,_=>⟨o4 _,λ⟨i,x,y,h,_⟩=>by simp at h⟩
 |[],_::_,h,_=>by simp at h
 |_::_,[],h,_=>by simp at h
 |a::l,b::m,h,j=>by
  obtain⟨r,p⟩:=Gs (by simpa using h) λi x y e f=>j (i+1) x y (by simpa using e) (by simpa using f);have s:=j 0 a b rfl rfl;rw[R6,R6];refine⟨Ω,λ⟨i,x,y,e,f,q⟩=>?_⟩;cases i with
  |zero=>simp at e f;omega
  |succ i=>
   have:=p ⟨i,x,y,by simpa using e,by simpa using f,q⟩;omega
theorem Gt{c:Nat}:∀{l:List Nat},(∀x∈l,x<=c)->l.sum<=l.length*c
 |[],_=>Ξ
 |a::l,h=>by
  have h1:=Gt λx e=>h x (.tail _ e);have f:=h a (.head _);rw[R6,Y1,U7];omega
def lv(M:Nat):List Nat->Nat
 |[]=>0
 |u::us=>(M-u)*(M+1) ^ us.length+lv M us
theorem y7{M:Nat}:∀us:List Nat,lv M us<(M+1) ^ us.length
 |[]=>by simp[lv]
 |u::us=>by
  have a:=y7 (M:=M) us;have h:(M-u)*(M+1) ^ us.length<=M*(M+1) ^ us.length:=X4 _ (Nat.sub_le _ _);unfold lv;rw[Y1,Nat.pow_succ,Nat.mul_comm ((M+1) ^ us.length),U7,Nat.one_mul];omega
theorem Gu{M:Nat}:∀(us vs:List Nat)(i:Nat),us.length=vs.length->(∀v∈vs,v<=M)->(∀(j:Nat)u v,j<i->us[j]?=σ u->vs[j]?=σ v->u<=v)->(∃u v,us[i]?=σ u/\vs[i]?=σ v/\u<v)->lv M vs<lv M us
 |[],_,_,_,_,_,⟨_,_,h,_⟩=>by simp at h
 |_::_,[],_,h,_,_,_=>by simp at h
 |a::us,b::vs,i,p,q,r,⟨u,v,hu,f,w⟩=>by
  have p:us.length=vs.length:=by simpa using p
  have key:a<b->lv M (b::vs)<lv M (a::us):=λs=>by
   have y:=q b (.head _);have h1:=y7 (M:=M) vs;unfold lv;rw[p];have x:(M-b+1)*(M+1) ^ vs.length<=(M-a)*(M+1) ^ vs.length:=X4 _ Ω;rw[U7,Nat.one_mul]at x;omega
  cases i with
  |zero=>
   simp at hu f;exact key Ω
  |succ i=>
   have z:=r 0 a b Ω rfl rfl;by_cases s:a<b
   .exact key s
   have e:a=b:=Ω
   have A:=Gu us vs i p (λv f=>q v (.tail _ f)) (λj u v B hu f=>r (j+1) u v Ω (by simpa using hu) (by simpa using f)) ⟨u,v,by simpa using hu,by simpa using f,w⟩;unfold lv;rw[e,p];omega
section
variable{n:aI}{s s':am}
def nF(n:aI)(s:am)(i:Nat):Nat:=((ba s (i:Int)).map λv=>(cu n s (i:Int) v).toNat).sum
def mT(n:aI)(s:am):List Nat:=(X9 n.co.length).map (nF n s)
def pP(n:aI):Nat:=32*n.k.toNat
def Ts{i:Nat}(a:bc n.k n.co s):nF n s i<=pP n:=by
 unfold nF pP;have h:=Gt (c:=n.k.toNat) (l:=(ba s (i:Int)).map λv=>(cu n s (i:Int) v).toNat) λx e=>by
  obtain⟨v,_,rfl⟩:=j5.1 e;have:=(qM (n:=n) (s:=s) (i:=(i:Int)) (v:=v) a).2;omega
 rw[r8]at h;exact X1 h (X4 _ (RE a))
def Gv{i:Nat}(r:bc n.k n.co s)(z:bc n.k n.co s')(w:ba s' (i:Int)=ba s (i:Int))(h:∀v∈ba s (i:Int),cu n s (i:Int) v<=cu n s' (i:Int) v):nF n s i<=nF n s' i/\((∃v∈ba s (i:Int),cu n s (i:Int) v<cu n s' (i:Int) v)->nF n s i<nF n s' i):=by
 unfold nF;rw[w];have q:=Gs (l:=(ba s (i:Int)).map λv=>(cu n s (i:Int) v).toNat) (m:=(ba s (i:Int)).map λv=>(cu n s' (i:Int) v).toNat) (by rw[r8,r8]) λp x y e f=>by
  rw[u4]at e f;obtain⟨v,a,rfl⟩:=Y9.1 e;obtain⟨A,j,rfl⟩:=Y9.1 f;rw[a]at j;cases j;have:=h v (x7 a);omega
 refine⟨q.1,λ⟨v,a,B⟩=>q.2 ?_⟩;obtain⟨p,ac⟩:=X8.1 a;refine⟨p,(cu n s (i:Int) v).toNat,(cu n s' (i:Int) v).toNat,by rw[u4,ac];rfl,by rw[u4,ac];rfl,?_⟩;have:=(qM (i:=(i:Int)) (v:=v) r).1;omega
open Classical in
noncomputable def fJ(n:aI)(s:am):Nat:=(2*eR n.k s+if im n s then 1 else 0)*(pP n+1) ^ n.co.length+lv (pP n) (mT n s)
def Gw:lv (pP n) (mT n s)<(pP n+1) ^ n.co.length:=by
 have:=y7 (M:=pP n) (mT n s);unfold mT at this ⊢;rw[r8,List.length_range]at this;exact this
def Gx{a b f e:Nat}(h:a<b)(he:e<f):a*f+e<b*f+j:=by
 have:(a+1)*f<=b*f:=X4 _ h;rw[U7,Nat.one_mul]at this;omega
def Tt(h:eR n.k s'<eR n.k s):fJ n s'<fJ n s:=by
 unfold fJ;refine Gx ?_ Gw;split<;>split<;>omega
def Gy(h:eR n.k s'=eR n.k s)(a:im n s)(e:¬im n s'):fJ n s'<fJ n s:=by
 unfold fJ;rw[ms a,rc e,h];exact Gx Ω Gw
def Tu{i:Nat}(h:eR n.k s'=eR n.k s)(j:im n s)(p:bc n.k n.co s)(f:bc n.k n.co s')(r:∀q,ba s' q=ba s q)(hi:i<n.co.length)(w:∀q:Nat,q<=i->∀v∈ba s (q:Int),cu n s (q:Int) v<=cu n s' (q:Int) v)(A:∃v∈ba s (i:Int),cu n s (i:Int) v<cu n s' (i:Int) v):fJ n s'<fJ n s:=by
 by_cases x:im n s'
 .unfold fJ;rw[ms j,ms x,h];have a:∀(s:am)(q:Nat),q<n.co.length->(mT n s)[q]?=σ (nF n s q):=λs q y=>by unfold mT;rw[u4,List.getElem?_range y];rfl
  have z:∀s:am,(mT n s).length=n.co.length:=λs=>by unfold mT;rw[r8,List.length_range]
  have:=Gu (mT n s) (mT n s') i (by rw[z,z]) (λv e=>by
   obtain⟨q,_,rfl⟩:=j5.1 e;exact Ts f) (λq u v y hu e=>by
   rw[a s q Ω]at hu;rw[a s' q Ω]at e;cases hu;cases e;exact(Gv p f (r _) (w q Ω)).1) ⟨_,_,a s i hi,a s' i hi,(Gv p f (r _) (w i (o4 _))).2 A⟩
  omega
 .exact Gy h j x
end
def projM(j pos v c:Int):fH:=⟨0,j,pos,v,c⟩
def gh(k:Int)(j pos:Nat)(p:am×Bool)(v:Int):am×Bool:=match dp p.1 j pos v with
 |none=>p
 |some (f,_,_)=>if 0<eh k p.1 f pos v then((bg k p.1 (projM j pos v (eh k p.1 f pos v))).1,v2)else p
def pQ(k:Int)(j:Nat)(sc:Λ)(p:am×Bool)(pos:Nat):am×Bool:=(ba p.1 (sc.getD pos 0)).foldl (gh k j pos) p
def eE(k:Int)(p:am×Bool)(j:Nat):am×Bool:=match p.1.d9[j]? with
 |some f=>(X9 f.sc.length).foldl (pQ k j f.sc) p
 |none=>p
section
variable{n:aI}{s:am}
def Gz{u:Nat}{f:cm}{x:bo}{i w:Int}{t un:Int->Int}(q:s.d6[u]?=σ x):cu n (gd s j f pos u x v t un) i w=if i.toNat=u/\w.toNat=v.toNat/\ew n i w/\v.toNat<x.un.length then un (x.un.getD v.toNat 0)else cu n s i w:=by
 unfold cu;by_cases a:ew n i w
 .rw[ms a,ms a];unfold fl;have e:(gd s j f pos u x v t un).d6=s.d6.set u {x with un:=x.un.set v.toNat (un (x.un.getD v.toNat 0))}:=rfl;rw[e,Y7];by_cases hi:u=i.toNat
  .subst hi;rw[ms rfl,ms (x5.1 q).1,q];dsimp only;by_cases hw:w.toNat=v.toNat
   .rw[hw];by_cases p:v.toNat<x.un.length
    .rw[ms ⟨rfl,rfl,a,p⟩,u5,l9 p];rfl
    .rw[rc λh=>p h.2.2.2,List.set_eq_of_length_le Ω]
   .rw[rc λh=>hw h.2.1,u5,Z6 Ω,<-u5]
  .rw[rc hi,rc λh=>hi h.1.symm]
 .rw[rc a,rc a,rc λh=>a h.2.2.1]
structure kN(n:aI)(s s':am):Prop where
 ok:bc n.k n.co s'
 iX:b4 s'
 same:dG s s'
 val:∀a,ig s a->eP n.k s' a=eP n.k s a
 ki:∀i,ba s' i=ba s i
 zero:s'.zero=s.zero
 un:∀i u,cu n s i u<=cu n s' i u
def kN.rfl(a:bc n.k n.co s)(e:b4 s):kN n s s:=⟨a,e,.rfl,λ_ _=>Eq.refl _,λ_=>Eq.refl _,Eq.refl _,λ_ _=>S9 _⟩
def kN.F{a b c:am}(h:kN n a b)(g:kN n b c):kN n a c:=
 ⟨g.ok,g.iX,h.same.F g.same,λx e=>(g.val x (yO h.same e)).F (h.val x e),λi=>(g.ki i).F (h.ki i),g.zero.F h.zero,λi u=>Int.le_trans (h.un i u) (g.un i u)⟩
def oC(n:aI)(s s':am):Prop:=∃i:Nat,i<n.co.length/\∃v∈ba s (i:Int),cu n s (i:Int) v<cu n s' (i:Int) v
def oC.then{a b c:am}(h:oC n a b)(g:kN n b c):oC n a c:=by
 obtain⟨i,hi,v,e,f⟩:=h;exact⟨i,hi,v,e,Int.lt_of_lt_of_le f (g.un _ _)⟩
def oC.of{a b c:am}(h:kN n a b)(g:oC n b c):oC n a c:=by
 obtain⟨i,hi,v,e,f⟩:=g;exact⟨i,hi,v,by rw[<-h.ki];exact e,Int.lt_of_le_of_lt (h.un _ _) f⟩
def qV(n:aI)(s:am):Prop:=∃i:Nat,i<n.co.length/\dD s i=v6/\∃v∈ba s (i:Int),cu n s (i:Int) v=n.k
def qV.aX{s':am}(h:qV n s)(j:bc n.k n.co s)(hk:kN n s s'):qV n s':=by
 obtain⟨i,hi,a,v,p,hu⟩:=h;have q:=j.d6;have r:=hk.same.d6;obtain⟨x,e⟩:=aD (l:=s.d6) (i:=i) Ω;obtain⟨y,f⟩:=aD (l:=s'.d6) (i:=i) Ω;refine⟨i,hi,?_,v,by rw[hk.ki];exact p,?_⟩
 .unfold dD at a ⊢;rw[e]at a;rw[f];have:=(hk.same.var i x y e f).1;simpa[this]using a
 .have h1:=hk.un i v;have w:=(qM (i:=(i:Int)) (v:=v) hk.ok).2;omega
def mU(k:Int)(s:am)(j pos:Nat)(v:Int):Int:=match dp s j pos v with
 |none=>0
 |some (f,_,_)=>eh k s f pos v
def GA{f:cm}(a:bc n.k n.co s)(e:f∈s.d9):0<=eh n.k s f pos v/\eh n.k s f pos v<=n.k:=by
 have hk:=a.fk;exact⟨room_le.2 ⟨Ω,λt _=>(nD a e).1⟩,(room_le.1 (S9 _)).1⟩
def Tv{b:Bool}(A:bc n.k n.co s)(H:b4 s):kN n s (gh n.k j pos (s,b) v).1/\((gh n.k j pos (s,b) v).2=v2->b=v2\/oC n s (gh n.k j pos (s,b) v).1\/qV n (gh n.k j pos (s,b) v).1)/\
  ((gh n.k j pos (s,b) v).2=v6->b=v6/\(gh n.k j pos (s,b) v).1=s/\mU n.k s j pos v=0):=by
 unfold gh mU;simp only;cases ac:dp s (j:Int) (pos:Int) v with
 |none=>exact⟨.rfl A H,λh=>.inl h,λh=>⟨h,rfl,rfl⟩⟩
 |some q=>
  obtain⟨f,u,x⟩:=q;obtain⟨_,_,K,Z,hu,S⟩:=mN ac;obtain⟨aa,p,T,L⟩:=jO S;rw[u9]at K hu;have M:=x7 K;have N:=GA (pos:=pos) (v:=v) A M;simp only;by_cases I:0<eh n.k s f pos v
  .rw[ms I];have q:=(RA (k:=n.k) (a:=projM j pos v (eh n.k s f pos v)) ac).2.1 rfl N (by show _<=eh n.k s f (pos:Int).toNat v;rw[u9];exact S9 _);unfold projM at q;simp only[u9]at q;have hm:=yI (m:=projM j pos v (eh n.k s f pos v)) A H;have B:=yN (m:=projM j pos v (eh n.k s f pos v)) A;unfold projM at hm B ⊢;obtain⟨E,F,G⟩:=hm;have U:=(room_le).1 (S9 (eh n.k s f pos v));obtain⟨ab,ad⟩:=kH A M;have ae:=ij (v:=v.toNat) A p;have V:=(e1.1 L).1;generalize af:eh n.k s f pos v=c at q E F G B U N I;obtain⟨r,C⟩:∃r,r=gd s j f pos u.toNat x v (λg=>cY n.k g c) λg=>cr n.k g c:=⟨_,rfl⟩;rw[<-C]at q;rw[q]at E F G B ⊢;simp only at E F G B ⊢;refine⟨⟨E,F,B,λa W=>?_,λi=>by rw[C];exact FG p i,by rw[C];rfl,λi w=>?_⟩,λ_=>.inr ?_,λh=>(by cases h)⟩
   .have:=G a W;unfold oy at this;rw[rc Ξ]at this;exact this
   .rw[C,Gz p];split
    .rename_i h;obtain⟨h1,X,Y,ag⟩:=h;have e:cu n s i w=x.un.getD v.toNat 0:=by unfold cu fl;rw[ms Y,h1,p,X]
     rw[e];unfold cr;omega
    .exact S9 _
   .have ah:=(x5.1 p).1;have ai:=A.d6;obtain⟨z,J⟩:=aD (l:=n.co) (i:=u.toNat) Ω;have aj:=(A.var u.toNat x z p J).1;have ak:=A.ev.2.2 z (x7 J);have O:ew n (u.toNat:Int) v:=⟨Ω,Ω,V.1,by rw[u9,u5,J,W7];omega⟩;have P:v∈ba s (u.toNat:Int):=by
     unfold ba;rw[u9,p];exact L
    have e:cu n s (u.toNat:Int) v=x.un.getD v.toNat 0:=by unfold cu fl;rw[ms O,u9,p]
    have Q:cu n r (u.toNat:Int) v=cr n.k (x.un.getD v.toNat 0) c:=by rw[C,Gz p,ms ⟨Ω,rfl,O,Ω⟩]
    by_cases hk:x.un.getD v.toNat 0<n.k
    .refine .inl ⟨u.toNat,Ω,v,P,?_⟩;rw[e,Q];unfold cr;omega
    .refine .inr ⟨u.toNat,Ω,?_,v,?_,?_⟩
     .obtain⟨y,R⟩:=aD (l:=r.d6) (i:=u.toNat) (by have:=B.d6;omega);unfold dD;rw[R];have:=(B.var u.toNat x y p R).1;simp[this,T]
     .rw[C,FG p];exact P
     .rw[Q];unfold cr;omega
  .rw[rc I];exact⟨.rfl A H,λh=>.inl h,λh=>⟨h,rfl,Ω⟩⟩
end
section
variable{n:aI}{s:am}
def nG(n:aI)(s:am)(b:Bool)(r:am×Bool)(R:Prop):Prop:=kN n s r.1/\(r.2=v2->b=v2\/oC n s r.1\/qV n r.1)/\(r.2=v6->b=v6/\r.1=s/\R)
def nG.F{b:Bool}{r q:am×Bool}{R:Prop}{R':am->Prop}(h:nG n s b r R)(g:nG n r.1 r.2 q (R' r.1)):nG n s b q (R/\R' s):=by
 obtain⟨h1,j,p⟩:=h;obtain⟨g1,w,x⟩:=g;refine⟨h1.F g1,λa=>?_,λa=>?_⟩
 .rcases w a with h|h|h
  .rcases j h with h|h|h
   .exact .inl h
   .exact .inr (.inl (h.then g1))
   .exact .inr (.inr (h.aX h1.ok g1))
  .exact .inr (.inl (.of h1 h))
  .exact .inr (.inr h)
 .obtain⟨y,e,f⟩:=x a;obtain⟨f1,f2,f3⟩:=p y;rw[f2]at e f;exact⟨f1,e,f3,f⟩
theorem sP{α:Type}{step:am×Bool->α->am×Bool}{R:α->am->Prop}(h:∀a s b,bc n.k n.co s->b4 s->nG n s b (step (s,b) a) (R a s)):
  ∀(L:List α)(s:am)(b:Bool),bc n.k n.co s->b4 s->nG n s b (L.foldl step (s,b)) (∀a∈L,R a s)
 |[],s,b,e,f=>⟨.rfl e f,λh=>.inl h,λh=>⟨h,rfl,λ_ j=>by cases j⟩⟩
 |a::L,s,b,e,f=>by
  have h1:=h a s b e f;have p:=sP h L (step (s,b) a).1 (step (s,b) a).2 h1.1.ok h1.1.iX;obtain⟨q,r,w⟩:=nG.F (R':=λs=>∀a∈L,R a s) h1 p;refine⟨q,r,λx=>?_⟩;obtain⟨y,z,A,B⟩:=w x;exact⟨y,z,List.forall_mem_cons.2 ⟨A,B⟩⟩
def GB{b:Bool}(a:bc n.k n.co s)(e:b4 s):nG n s b (eE n.k (s,b) j) (∀f,s.d9[j]?=σ f->∀pos∈X9 f.sc.length,∀v∈ba s (f.sc.getD pos 0),mU n.k s j pos v=0):=by
 unfold eE;simp only;cases x:s.d9[j]? with
 |none=>exact⟨.rfl a e,λh=>.inl h,λh=>⟨h,rfl,λ_ h=>by cases h⟩⟩
 |some f=>
  simp only;have h1:∀(pos:Nat)(s:am)(b:Bool),bc n.k n.co s->b4 s->nG n s b (pQ n.k j f.sc (s,b) pos) (∀v∈ba s (f.sc.getD pos 0),mU n.k s j pos v=0):=λpos s b a e=>
   sP (λv s b a e=>Tv a e) (ba s (f.sc.getD pos 0)) s b a e
  obtain⟨q,r,p⟩:=sP h1 (X9 f.sc.length) s b a e;exact⟨q,r,λh=>⟨(p h).1,(p h).2.1,λg w=>by cases w;exact(p h).2.2⟩⟩
def vw(n:aI)(O:List Nat)(s:am):Prop:=∀j∈O,∀f,s.d9[j]?=σ f->∀pos∈X9 f.sc.length,∀v∈ba s (f.sc.getD pos 0),mU n.k s j pos v=0
def ei(n:aI)(O:List Nat)(s:am):am×Bool×Bool:=if(fx n s).2.2=v2\/(fx n s).2.1=v2 then fx n s else((O.foldl (eE n.k) ((fx n s).1,v6)).1,(O.foldl (eE n.k) ((fx n s).1,v6)).2,v6)
def Tw{s':am}(h:dG s s')(f:∀i,ba s' i=ba s i):gG s'=gG s:=by
 unfold gG;congr 1;refine X0 λi=>?_;rw[u4,u4];have j:=h.d6;by_cases hi:i<s.d6.length
 .obtain⟨x,a⟩:=aD (l:=s.d6) hi;obtain⟨y,e⟩:=aD (l:=s'.d6) (i:=i) Ω;have:=f (i:Int);unfold ba at this;rw[u9,a,e]at this;rw[a,e,Y3,Y3];exact congrArg (λl=>σ (Q2 l)) this
 .rw[Y5 Ω,Y5 Ω]
def Tx(a:bc n.k n.co s)(h:qV n s):¬im n s:=λe=>by
 obtain⟨i,hi,f,v,j,hu⟩:=h;have:=(e i hi (by rw[u9];exact f)).2.2 v j;rw[hu]at this;unfold cr at this;have:=a.zero.1;omega
def kN.Ty{s':am}(h:kN n s s'):gE n.k n.co s s':=⟨h.ok,h.iX,h.same,h.val,λi u hu=>by rw[h.ki]at hu;exact hu,by rw[h.zero];exact S9 _⟩
def y8(w:bc n.k n.co s)(z:b4 s):gE n.k n.co s (ei n O s).1/\((ei n O s).2.2=v2->(ei n O s).2.1=v6/\∃i<n.co.length,dD s i=v6/\ba (ei n O s).1 (i:Int)=[])/\
  ((ei n O s).2.2=v6->(ei n O s).2.1=v2->fJ n (ei n O s).1<fJ n s)/\((ei n O s).2.2=v6->(ei n O s).2.1=v6->(ei n O s).1=s/\im n s/\vw n O s):=by
 obtain⟨h1,E,F,G⟩:=Gp w z;generalize f:ei n O s=r;unfold ei at f;by_cases p:(fx n s).2.2=v2\/(fx n s).2.1=v2
 .rw[ms p]at f;subst f;refine⟨h1,E,λhe x=>Tt (F he x),λhe x=>?_⟩
  .rw[he,x]at p;simp at p
 .rw[rc p]at f;have he:(fx n s).2.2=v6:=by simpa using λh=>p (.inl h)
  have x:(fx n s).2.1=v6:=by simpa using λh=>p (.inr h)
  obtain⟨e,y⟩:=G he x;have y:=y;rw[e]at f;obtain⟨a,A,B⟩:=sP (λj s b w z=>GB w z) O s v6 w z;generalize O.foldl (eE n.k) (s,v6)=q at a A B f;subst f;refine⟨a.Ty,λh=>(by cases h),λ_ h=>?_,λ_ h=>?_⟩
  .have C:eR n.k q.1=eR n.k s:=by unfold eR;rw[Tw a.same a.ki,a.zero]
   show fJ n q.1<fJ n s;rcases(A h).resolve_left Φ with⟨i,hi,v,H,I⟩|J
   .exact Tu C y w a.ok a.ki hi (λq _ v _=>a.un _ _) ⟨v,H,I⟩
   .exact Gy C y (Tx a.ok J)
  .obtain⟨_,K,L⟩:=B h;exact⟨K,y,L⟩
def jQ(n:aI)(O:List Nat):Nat->am->am×Bool
 |0,s=>(s,v6)
 |f+1,s=>if(ei n O s).2.2=v2 then((ei n O s).1,v2)else if(ei n O s).2.1=v2 then jQ n O f (ei n O s).1 else((ei n O s).1,v6)
def GC{s':am}{i:Nat}(h:dG s s')(hi:i<s.d6.length):dD s' i=dD s i:=by
 have f:=h.d6;obtain⟨x,a⟩:=aD (l:=s.d6) hi;obtain⟨y,e⟩:=aD (l:=s'.d6) (i:=i) Ω;unfold dD;rw[a,e];simp only;rw[(h.var i x y a e).1]
theorem vx{α:Type}{step:am×Bool->α->am×Bool}:∀(L:List α),(∀a∈L,step (s,v6) a=(s,v6))->L.foldl step (s,v6)=(s,v6)
 |[],_=>rfl
 |a::L,h=>by
  rw[V7,h a (.head _)];exact vx L λb e=>h b (.tail _ e)
def Tz(a:bc n.k n.co s)(h:im n s)(p:vw n O s):ei n O s=(s,v6,v6):=by
 have e:fx n s=(s,v6,v6):=Gr a _ λi hi=>h i (S1.1 hi);have q:O.foldl (eE n.k) (s,v6)=(s,v6):=by
  refine vx O λj r=>?_;unfold eE;simp only;cases w:s.d9[j]? with
  |none=>rfl
  |some f=>
   simp only;refine vx _ λpos ac=>?_;unfold pQ;refine vx _ λv y=>?_;have:=p j r f w pos ac v y;unfold mU at this;unfold gh;simp only;split
   .rfl
   .rename_i g u x z;rw[z]at this;simp only at this;rw[rc Ω]
 unfold ei;rw[e,q];rfl
end
def GD{P:Nat->Prop}:∀m,P m->∃m,P m/\∀k,P k->m<=k:=λm=>by
 induction m using Nat.strongRecOn with
 |ind m a=>
  intro hm;by_cases h:∃k,k<m/\P k
  .obtain⟨k,h1,e⟩:=h;exact a k h1 e
  .exact⟨m,hm,λk hk=>Nat.le_of_not_lt λf=>h ⟨k,f,hk⟩⟩
open Classical in
def bY.sink{B:x4->x6->(x4->x6->Prop)->Prop}(ax:Nat->x6->Prop){m:Nat}(q:ax m w)(J:∀(m:Nat)(a:x4)(I:x6)(k:x4->x6->Prop),ax m I->(∀bR a f,bR<m->ax bR f->k a f)->B a I k):bY a w B:=by
 have j:∀{w:x6},(∃m,ax m w)->∃m,ax m w/\∀k,ax k w->m<=k:=λ⟨m,h⟩=>GD (P:=λm=>ax m _) m h;refine⟨λ_ w=>∃m,ax m w,λ_ w=>if h:∃m,ax m w then Classical.choose (j h)else 0,⟨m,q⟩,λa I p=>?_⟩;obtain⟨h1,r⟩:=Classical.choose_spec (j p);refine J _ a I _ h1 λbR _ f s e=>⟨⟨bR,e⟩,?_⟩;have x:=(Classical.choose_spec (j ⟨bR,e⟩)).2 bR e;show dite _ _ _<dite _ _ _;rw[dif_pos p,dif_pos ⟨bR,e⟩];omega
theorem GF{k i:Int}:∀(L M:Λ)(p:am×Bool),dq k i (L++M) p=dq k i M (dq k i L p)
 |[],_,_=>rfl
 |v::L,M,p=>by
  rw[List.cons_append,dq,dq];exact GF L M _
def TA{i:Int}{L:Λ}{p:am×Bool}(h:L[j]?=σ v):dq k i (L.take (j+1)) p=((bg k (dq k i (L.take j) p).1 (eD i v)).1,decide ((bg k (dq k i (L.take j) p).1 (eD i v)).2=0)||(dq k i (L.take j) p).2):=by
 rw[r9,h,j6,GF];rfl
section
variable{au:List aA}{w:x6}{ad ae:Nat}{A R:ah}{n:aI}{s:am}{t:aA}
def TB{i:Nat}{x:bo}(h:bG w ad ae A R n s t)(ab:Laid w)(aI:¬A 0)(aJ:eC au t)(z:s.d6[i]?=σ x):ak v8 IS [Γ ad,Δ (i:Int)] w λr I=>r= .bool (dq n.k (i:Int) (aC x) (s,v6)).2/\cS au w ad ae A R n (dq n.k (i:Int) (aC x) (s,v6)).1 I:=by
 refine jy func99 ?_;refine bn λg1 U bf ap C=>?_;refine bn λaK V bh ah E=>?_;have bi:=ag.lt C;have bj:=ag.lt E;refine bE dK.i λf bk bm aL aM=>?_;refine bu (o:=0) dK.i rfl rfl aM (by show 0<1;omega) λH aO bp O=>?_;have O:ag H f dK [.bool v6]:=O;have P:Ext V H:=aL.put aO Ω;have C:ag H g1 eF [Γ ad]:=(ag.W C ah).W P;have E:ag H aK ai [Δ (i:Int)]:=ag.W E P;have aj:=(ap.F ah).F P;have bq:=ap.size;have br:=ah.size;have bs:=P.size;have bw:=C.lt;have bx:=E.lt;have bz:=O.lt;have ac:=qS ab;rw[aF (v:=Γ ad) Ψ (C.Qz rfl),aF (v:=Δ (i:Int)) Ψ (E.Qz rfl)];refine(kG (i:=(i:Int)) (h.W aj)).Y ?_;rintro _ bA _ ⟨⟨b,am,rfl,Q⟩,aq⟩;refine(n4 (b:=b) (n:=am)).Y ?_;rintro _ q _ ⟨aP,J,rfl,bB,av⟩;have aw:=mJ Q Ω (show s.d6[(i:Int).toNat]?=σ x by rw[u9];exact z);have L:=aq.F aP;have z5:=aq.size;have z46:=L.size;have bC:=av.lt;refine lD.old ⟨_,v6,kq,#[Γ J],_,_,_,_,λj I=>dR au w ad ae A R n w.heap.size (λr=>q.heap.size<=r) (dq n.k (i:Int) ((aC x).take j) (s,v6)).1 I/\af (λr=>r<w.heap.size\/q.heap.size<=r\/r=f) q I/\ag I f dK [.bool (dq n.k (i:Int) ((aC x).take j) (s,v6)).2],λ_ _ _=>False,rfl,(n3 (g:=J) Q.1).s,?_,
  λ_ _ z h=>⟨h.1.W z,h.2.W z⟩,λ_ _ _ z h=>⟨h.1.W z,h.2.1.F (z.aa _),h.2.2.W z⟩,λ_ _ _ _ _ h=>h,⟨av,ab.W (aj.F L)⟩,⟨dR.start h ab aI aJ (aj.F L) (o4 _),af.refl _ _,O.W L⟩,?_,?_,λ_ _ h=>h.elim,λ_ _ _ h=>h.elim⟩
 .rintro _ _ _ _ ⟨_,_,_,_,rfl⟩;rfl
 .rintro _ j _ bD ⟨ax,aQ⟩ ⟨bF,rfl,v,aR,aS⟩ ⟨S,W,X⟩;cases aS;intro aT M _ _;have aU:(aC x)[j]?=σ (v:Int):=by rw[<-aw,u4,aR];rfl
  have aX:∀{g:Nat}{e:o5}{cs:List x4},w.heap.size<=g->g<f->ag H g e cs->ag aT g e cs:=λaV aW aY=>((aY.W L).aa W Ω).W M;have an:=TA (k:=n.k) (i:=(i:Int)) (p:=(s,v6)) aU;obtain⟨bH,bI,aZ,a1,a2,a6⟩:=S.sM;have ay:∀{B:x6}{c:x4}{d:Bool},d=(dq n.k (i:Int) ((aC x).take (j+1)) (s,v6)).2->ag B J cc [.int .u64 b,Δ am]->Laid B->dR au w ad ae A R n w.heap.size (λr=>q.heap.size<=r) (dq n.k (i:Int) ((aC x).take (j+1)) (s,v6)).1 B->af (λr=>r<w.heap.size\/q.heap.size<=r\/r=f) q B->ag B f dK [c]->
    ∀{K:Unit->x6->Prop},(∀y,(ag y J cc [.int .u64 b,Δ am]/\Laid y)/\(dR au w ad ae A R n w.heap.size (λr=>q.heap.size<=r) (dq n.k (i:Int) ((aC x).take (j+1)) (s,v6)).1 y/\af (λr=>r<w.heap.size\/q.heap.size<=r\/r=f) q y/\ag y f dK [.bool (dq n.k (i:Int) ((aC x).take (j+1)) (s,v6)).2])->K () y)->
    aG v8 (j0 dK (Γ f) (.bool d)) B K:=λ{B c d}Q Y G az aA a7{K}a8=>by
   subst Q;refine bu (o:=0) dK.i rfl rfl a7 Ξ λy Z bJ ba=>?_;have z9:=aA.size;exact a8 _ ⟨⟨Y.aa Z λh=>by have h:J=f:=h;omega,iH Z (λh=>by have h:0=f:=h;omega) G⟩,az.own Z λr N=>by have N:r=f:=N;subst N;exact⟨Ω,Ω⟩,aA.F (Z.Y λr _ N=>.inr (.inr N)),ba⟩
  rw[aF (v:=Γ ad) Ψ ((aX Ω Ω C).Qz rfl),aF (v:=Δ (i:Int)) Ψ ((aX Ω Ω E).Qz rfl)];have bK:=W.size;refine(Ge (a:=eD (i:Int) (v:Int)) rfl (aZ.W M) (aQ.W M) a2 a1).Y ?_;rintro _ aB _ ⟨rfl,bb,aD,aN,bt,bc,aE,bd,bL⟩;rw[<-show(dq n.k (i:Int) ((aC x).take (j+1)) (s,v6)).1=(bg n.k (dq n.k (i:Int) ((aC x).take j) (s,v6)).1 (eD (i:Int) (v:Int))).1 by rw[an]]at aE;obtain⟨Y,G,az⟩:=a6 (D':=λr=>q.heap.size<=r) (jo M bb) ((Grow.W M).F bc) aE bd (λr h=>h) λr aV aW=>Ω
  have ao:ag aB f dK _:=X.aa G Ω;rw[bl,al];have aH:af (λr=>r<w.heap.size\/q.heap.size<=r\/r=f) q aB:=W.F (G.Y λr _ h=>h.imp id .inl);refine⟨λhe=>?_,λhe=>?_⟩
  .have e:(dq n.k (i:Int) ((aC x).take (j+1)) (s,v6)).2=v2:=by rw[an,rs he,Bool.true_or]
   exact ay e.symm (ax.aa G Ω) aD Y aH ao λy h=>⟨h.1,h.2,λh=>by cases h⟩
  .have e:(dq n.k (i:Int) ((aC x).take (j+1)) (s,v6)).2=(dq n.k (i:Int) ((aC x).take j) (s,v6)).2:=by rw[an,s2 he,Bool.false_or]
   rw[aF Ψ (ao.Qz rfl)];exact ay e.symm (ax.aa G Ω) aD Y aH ao λy h=>⟨h.1,h.2,λh=>by cases h⟩
 .rintro k bM rfl ⟨S,W,X⟩;rw[b9 (by rw[<-aw,r8];exact o4 _)]at S X;rw[aF Ψ (X.Qz rfl)];intro bN be _;exact⟨rfl,S.done be⟩
def TC{N i:Nat}(h:i<N):(X9 N).drop i=i::(X9 N).drop (i+1):=by
 rw[W3 (by simpa using h),List.getElem_range]
def GG(au:List aA)(w:x6)(ad ae:Nat)(A R:ah)(n:aI)(q:am×Bool×Bool)(r:x4)(I:x6):Prop:=r= .tuple #[.bool q.2.1,Δ (if q.2.2=v2 then 8 else 0)]/\cS au w ad ae A R n q.1 I
def TD(h:bG w ad ae A R n s t)(ag:Laid w)(ah:¬A 0)(ai:eC au t)(aj:b4 s):ak v8 Ih [Γ ad] w (GG au w ad ae A R n (fx n s)):=by
 have E:=h.2.2.2.1;have aL:=E.d6;have aM:=E.ev.2.1;refine az func53 ?_;rw[di eF.u];simp only[Y0,a7];refine(E3 h).Y ?_;rintro _ U _ ⟨rfl,am⟩;refine q3.range n.co.length (λi _ _ c V=>∃s1 b,c= .bool b/\cS au w ad ae A R n s1 V/\gE n.k n.co s s1/\fx n s=gS n ((X9 n.co.length).drop i) (s1,b)) Ω ⟨s,v6,rfl,cS.same h ag ah ai am,.rfl E aj,rfl⟩ ?_ ?_
 .rintro i aN t3 _ V an hi ⟨s1,b,rfl,hm,j,p⟩ ao;refine bC Ω ?_;obtain⟨aP,aQ,W,ap,aq,av,aw⟩:=hm.open;have aR:=j.ok.d6;obtain⟨x,X⟩:=aD (l:=s1.d6) (i:=i) Ω;rw[TC hi,gS]at p;have ay:ba s1 (i:Int)=aC x:=pO X;refine BE (λ_ _ r I=>r= .bool (fa n (i:Int) (s1,b)).2.1/\(fa n (i:Int) (s1,b)).2.2=v6/\cS au w ad ae A R n (fa n (i:Int) (s1,b)).1 I) ?_ λax y=>?_
  .rintro _ _ _ aS ⟨rfl,he,aA⟩;rw[aO];refine ao _ _ _ _ ⟨_,_,rfl,aA,j.F (Gm (i:=(i:Int)) (b:=b) j.ok j.iX Ω Ω).1,?_⟩;rw[p,rc (by rw[he];decide)]
  refine(uZ (i:=(i:Int)) W).Y ?_;rintro _ aU _ ⟨rfl,B⟩;rw[rs Ω,Q4,u9,cb];refine⟨λC=>?_,λC=>?_⟩
  .have e:fa n (i:Int) (s1,b)=(s1,b,v6):=by unfold fa;rw[u9,ms C]
   rw[e]at y;exact y _ _ _ _ ⟨rfl,rfl,hm.W B⟩
  have f:fa n (i:Int) (s1,b)=(let q:=dq n.k (i:Int) (aC x) (s1,v6);if(dF n q.1 (i:Int)).2<0 then(q.1,v6,v2)else if 0<(dF n q.1 (i:Int)).1 then((bg n.k q.1 (lY (i:Int) (dF n q.1 (i:Int)).1)).1,v2,v6)else(q.1,q.2||b,v6)):=by
   unfold fa;rw[u9,rc (by rw[C];decide),ay]
  have ac:=(y5 (i:=(i:Int)) (aC x) s1 v6 j.ok j.iX).1;simp only at f;generalize aB:dq n.k (i:Int) (aC x) (s1,v6)=q at f ac;refine aY (λr I=>r= .bool (q.2||b)/\cS au w ad ae A R n q.1 I) ?_ λaV Y=>?_
  rotate_left
  .refine (TB (W.W B) (ap.W B) aq av X).Y ?_;rintro _ aE _ ⟨rfl,Z⟩;rw[aB]at Z ⊢;have aa:cS au w ad ae A R n q.1 aE:=by
    obtain⟨G,H,J,K,L,M,N,O⟩:=Z;exact aw ⟨jo B G,H,J,K,(Grow.W B).F L,M,N,O⟩
   rw[cb];exact⟨λh=>Y _ _ ⟨by rw[h,Bool.true_or],aa⟩,λh=>Y _ _ ⟨by rw[h,Bool.false_or],aa⟩⟩
  rintro _ aW ⟨rfl,P⟩;obtain⟨aX,t5,ab,af,aF,aG,aH⟩:=P.open;have aI:dD q.1 i=v6:=by rw[GC ac.same Ω];exact C
  have aJ:lk n q.1 (i:Int)=v2:=by
   unfold lk;rw[u9,aI,rs (show(0:Int)<=i/\(i:Int)<n.co.length by omega)];rfl
  refine(Tm ab af aJ).Y ?_;rintro _ aZ _ ⟨z,rfl⟩;rw[fQ,fR,fS,aT,al];refine⟨λQ=>?_,λQ=>?_⟩
  .rw[ms Q]at f;rw[f,ms rfl]at p;rw[p];exact⟨rfl,P.W z⟩
  rw[rc Q]at f;rw[bP,al];refine⟨λS=>?_,λS=>?_⟩
  .rw[ms S]at f;rw[f]at y;refine(Gd (a:=lY (i:Int) (dF n q.1 (i:Int)).1) rfl (ab.W z) (af.W z) aF aG).Y ?_;rintro _ a1 _ ⟨_,aK⟩;refine y _ _ _ _ ⟨rfl,rfl,?_⟩;obtain⟨G,H,J,K,L,M,N,O⟩:=aK;exact aH ⟨jo z G,H,J,K,(Grow.W z).F L,M,N,O⟩
  .rw[rc S]at f;rw[f]at y;exact y _ _ _ _ ⟨rfl,rfl,P.W z⟩
 .rintro _ _ _ V an ⟨s1,b,rfl,hm,j,p⟩;refine b3 Ω ?_;rw[List.drop_eq_nil_of_le Ξ,gS]at p;rw[p];exact⟨rfl,hm⟩
end
def TE{b n:Nat}(a:mq b n):ak v8 As [j3 b n] w λr I=>r=Δ (qR b:Int)/\Ext w I:=by
 have e:b<4294967296:=by
  have:=a.2;have:(2:Nat) ^ n<=2 ^ 32:=S4 Ω a.1;omega
 refine az func26 ?_;refine bn λg U q f h=>?_;rw[aJ cc.p 0 h rfl];refine(F6 e).Y ?_;rintro _ V _ ⟨rfl,j⟩;exact⟨rfl,f.F j⟩
section
variable{w:x6}{dv:x4}{n:aI}{s:am}
def TF{i:Nat}{x:bo}(f:bc n.k n.co s)(a:s.d6[i]?=σ x):lu n s (i:Int)↔(x.gone=0->aC x≠[]/\(dE n.k (aC x) λv=>x.un.getD v.toNat 0).1=0/\∀v∈aC x,min (s.zero+x.un.getD v.toNat 0) n.k<n.k):=by
 unfold lu;rw[u9,pO a,Tj f a];have q:dD s i=decide (x.gone≠0):=by unfold dD;rw[a]
 rw[q,decide_eq_false_iff_not];refine⟨λh r=>?_,λh r=>?_⟩
 .obtain⟨h1,j,p⟩:=h Ω;refine⟨h1,j,λv e=>?_⟩;have:=p v e;rw[y4 f a e]at this;exact this
 .obtain⟨h1,j,p⟩:=h Ω;refine⟨h1,j,λv e=>?_⟩;rw[y4 f a e];exact p v e
def TG(h:e9 w dv n.k n.co s)(f:bc n.k n.co s):ak v8 Ia [dv] w λr I=>Ext w I/\∃b:Bool,r= .bool b/\(b=v2↔im n s):=by
 have aT:=f.d6;have aU:=f.ev.2.1;have aV:=f.fk;have aX:=f.zero;refine az func42 ?_;refine bn λg1 U aZ M ag=>?_;have Y:=h.box M ag;obtain⟨lc,a2,a6,a7,a8,ba,A,ah,_,Z,aj,am,bb,bd⟩:=id Y;rw[aJ aE.p 1 A rfl,a1 an.u ah];refine b7.range n.co.length (λi _ V=>Ext U V/\∀q,q<i->lu n s ((q:Nat):Int)) Ω ⟨Ext.refl _,λq j=>ro j (Nat.not_lt_zero _)⟩ ?_ ?_
 rotate_left
 .rintro _ V ao ⟨z,N⟩;exact b3 Ω ⟨M.F z,v2,rfl,λ_=>N,λ_=>rfl⟩
 rintro i be V ao hi ⟨z,N⟩ ap;obtain⟨x,y⟩:=aD (l:=s.d6) (i:=i) Ω;have bf:=sH x;have H:=TF f y;refine bC Ω ?_;have aq:lu n s (i:Int)->∀q,q<i+1->lu n s ((q:Nat):Int):=λh q j=>by
  rcases Nat.lt_or_eq_of_le (Nat.le_of_lt_succ j)with aW|rfl
  .exact N q aW
  .exact h
 have no:∀{I:x6},Ext U I->¬lu n s (i:Int)->Ext w I/\∃b:Bool,x4.bool v6= .bool b/\(b=v2↔im n s):=λau B=>⟨M.F au,v6,rfl,λh=>(by cases h),λh=>ro (h i hi) B⟩;refine aY (λ_ I=>Ext U I/\lu n s (i:Int)) (λ_ I aa=>by rw[aO];exact ap _ _ ⟨aa.1,aq aa.2⟩) λax ab=>?_;rw[aJ aE.p 4 (A.W z) rfl];refine gn (α:=Bool) rfl rfl jb.u dK.i Ψ (bp aj z) (by rw[u4,y];rfl) λay aA=>?_;obtain rfl:ay= .bool (decide (x.gone≠0)):=(List.cons.inj aA).1;rw[al];refine⟨λaB=>ab _ _ ⟨z,H.2 λh=>ro h aB⟩,λbg=>?_⟩;have ac:x.gone=0:=Ω
 refine(Y.W z).load λbi aF=>?_;refine(SS aF f y).Y ?_;rintro _ bj _ ⟨aG,rfl⟩;have J:=z.F aG;rw[bA,bB];have bk:0<=(dE n.k (aC x) λv=>x.un.getD v.toNat 0).1:=(FI Ω λv _=>ij f y).1;refine aY (λr I=>Ext U I/\r= .bool (decide (aC x=[]\/0<(dE n.k (aC x) λv=>x.un.getD v.toNat 0).1))) ?_ λbm ad=>?_
 rotate_left
 .rw[aJ aE.p 3 (A.W J) rfl];refine gn rfl rfl ca.u an.i Ψ (bp Z J) (by rw[u4,y];rfl) λaH O=>?_;rw[a1 an.u (dl O),bl,al];refine⟨λP=>ad _ _ ⟨J,by rw[rs (.inl (Z2 Ω))]⟩,λP=>?_⟩;rw[bP];refine ad _ _ ⟨J,?_⟩;congr 1;exact decide_eq_decide.2 ⟨λh=>.inr h,λh=>h.resolve_left λe=>by rw[e]at P;exact P rfl⟩
 rintro _ aI ⟨C,rfl⟩;rw[al];refine⟨λK=>no C λB=>?_,λK=>?_⟩
 .obtain⟨h1,bo,_⟩:=H.1 B ac;exact K.elim h1 λh=>Ω
 have aK:aC x≠[]:=λe=>K (.inl e);have aL:(dE n.k (aC x) λv=>x.un.getD v.toNat 0).1=0:=by
  have:¬0<(dE n.k (aC x) λv=>x.un.getD v.toNat 0).1:=λe=>K (.inr e);omega
 rw[aJ aE.p 3 (A.W C) rfl];refine gn rfl rfl ca.u an.i Ψ (bp Z C) (by rw[u4,y];rfl) λaH O=>?_;have Q:=dl O;rw[a1 an.u Q];refine b7.range (aC x).length (λq _ R=>Ext aI R/\∀v∈(aC x).take q,min (s.zero+x.un.getD v.toNat 0) n.k<n.k) Q.le ⟨Ext.refl _,λv E=>by cases E⟩ ?_ ?_
 rotate_left
 .rintro _ R aM ⟨G,j⟩;rw[o9]at j;exact b3 Ω (ab _ _ ⟨C.F G,H.2 λ_=>⟨aK,aL,j⟩⟩)
 rintro q bq R aM j ⟨G,aN⟩ aP;obtain⟨v,E⟩:=aD (l:=aC x) j;have ae:=x7 E;have aQ:=(e1.1 ae).1;obtain⟨S,rfl⟩:=V3 aQ.1;have br:=ij (v:=S) f y;have aR:=C.F G;refine bC Ω ?_;rw[bh an.u ai.i Ψ (Q.W G) E];intro bs af _ _;have W:=aR.F af;have L:=A.W W;rw[aJ aE.p 2 L rfl,aJ aE.p 5 L rfl];refine gn (a:=x.un) (i:=i) rfl rfl cW.u aw.i Ψ (bp am W) (by rw[u4,y];rfl) λbt aS=>?_;rw[bh aw.u av.i Ψ (dl aS) (getD_some (i:=S) Ω),aJ aE.p 0 L rfl,aJ aE.p 0 L rfl];refine(nt Ω Ω).Y ?_;rintro _ bu _ ⟨rfl,X⟩;refine⟨.inl X,?_⟩;rw[bl,al];refine⟨λhe=>no (W.F X) λB=>?_,λhe=>?_⟩
 .have:=(H.1 B ac).2.2 (S:Int) ae;rw[u9]at this;omega
 .rw[aO];refine aP _ _ ⟨(G.F af).F X,λu hu=>?_⟩;rw[r9,E,j6,j9,c9]at hu;rcases hu with hu|rfl
  .exact aN u hu
  .rw[u9];omega
end
structure TH(P:am->Prop)(n:aI)(s:am)(q:am×Bool):Prop where
 aX:gE n.k n.co s q.1
 emp:q.2=v2->∃i<n.co.length,dD q.1 i=v6/\ba q.1 (i:Int)=[]
 Vr:q.2=v6->im n q.1/\P q.1
 quiet:im n s->P s->q=(s,v6)
section
variable{au:List aA}{w:x6}{ad ae:Nat}{A R:ah}{n:aI}{s:am}{t:aA}
end
section
variable{w:x6}{dv:x4}{n:aI}{s:am}
end
section
variable{w:x6}{ad ae aq:Nat}{A R:ah}{A9:Nat->ah}{aH:ah}{n:aI}{s s0:am}{t:aA}{au:List aA}{cs:List x4}
def GH(p:cd w ad ae aq A R A9 aH n s s0 t au cs)(ao:Laid w)(H:dG s0 s)(J:bc n.k n.co s0)(aK:∀f∈s0.d9,f.live≠0)(aL:s0.d9.length<=1000)(aM:s0.du.length<=1000):
  ak v8 HS [Γ ad,.agg cs.toArray] w λr I=>Ext w I/\∃e bF,r= .agg bF.toArray/\gC v2 e aH I bF n.k n.co s/\∀q r,e q r->w.heap.size<=r:=by
 have bm:=J.ev.2.1;have bo:=J.d6;obtain⟨aN,bp⟩:=bD.len p.doc;have bq:=qS ao;refine az func11 ?_;refine bn λg1 U br ap P=>?_;have P:ag U g1 aE cs:=P;refine bE aE.i λgt V bs av aw=>?_;have L:=ap.F av;rw[bz aE.p aE.i aN (P.W av).range];refine(Rp (p.doc.W L) (λr a=>by have:=(p.read r a).2.1;have:=L.size;omega) J aL aM).Y ?_;rintro _ x _ ⟨Q,e,bF,rfl,ax,B⟩;obtain⟨aQ,aR⟩:=bD.len ax;have bt:=L.size;have bu:=ap.size;have z3:=Q.size;have lt:=aw.lt;refine bE aE.i λgy bw bx aS aT=>?_;refine b1 (vs:=bF) aE.i aQ rfl aR aT λy aV bA ay=>?_;have M:Ext x y:=aS.put aV Ω;have S:=(L.F Q).F M;have bB:=M.size;have bG:=ay.lt;have aA:cd y ad ae gy A R (λq r=>e q r/\r<x.heap.size) aH n s s0 t au bF:=by
  have N:=p.W S;refine⟨N.dy,N.ix,ay,(bD.old ax).W M,λq r a=>⟨λh=>?_,λh=>?_,by have:=a.2;omega⟩,λr a=>⟨(N.read r a).1,(N.read r a).2.1,by have:=(p.read r a).2.1;omega⟩,λh=>?_,λh=>?_⟩
  .have:=nC p.dy r (.inl h);have:=B q r a.1;omega
  .have:=nC p.dy r (.inr h);have:=B q r a.1;omega
  .have:=nC p.dy gy (.inl h);omega
  .have:=nC p.dy gy (.inr h);omega
 refine(sk aA.dy).Y ?_;rintro _ bH _ ⟨rfl,aB⟩;have aX:=aA.W aB;rw[aU aE.p rfl];refine FW aX λaY d7=>?_;have aC:ct y ad ae gy A R (λq r=>e q r/\r<x.heap.size) aH n s t au (dg s s0 0 0) aY:=ct.comp (aB.aa _) (λq r h=>.inl ⟨q,h⟩) d7;obtain⟨bI,bJ,bK,aZ,bL⟩:=id aC;obtain⟨lc,bM,bN,bO,bP,bQ,a2,a6,_⟩:=aZ.look;rw[aJ aE.p 1 a2 rfl,a1 an.u a6];have a7:∀{z:x6},af (λr=>(∃q,e q r/\r<x.heap.size)\/r=gy) y z->Laid z:=λa8=>iH a8 (λh=>by
  rcases h with⟨q,h,_⟩|h
  .have:=B q 0 h;omega
  .omega) (ao.W S)
 refine bY.range n.co.length (λi z=>ct y ad ae gy A R (λq r=>e q r/\r<x.heap.size) aH n s t au (dg s s0 i 0) z) Ω aC ?_ ?_
 .rintro i z C hi d8 W;obtain⟨X,ba,bb,Y,aD⟩:=id d8;refine bC Ω ?_;refine Tk (K:=λZ=>ab v8 (aP .add ai v6 v2 (Δ (i:Int)) (Δ 1)) Z λt55=>C t55 Z) Y (a7 X) H hi rfl J λZ d14=>?_;rw[aO];exact W _ (ct.comp X aD d14)
 rintro z C d8;refine b3 Ω ?_;obtain⟨X,ba,bb,Y,aD⟩:=id d8;obtain⟨_,_,_,_,bR,_,bd,_,_,_,_,_,be,_⟩:=Y.look;have bf:(dg s s0 n.co.length 0).d9.length=s0.d9.length:=yP H.d9;rw[aJ aE.p 6 bd rfl,fU dh.u be,r8,bf];refine bY.range s0.d9.length (λj O=>ct y ad ae gy A R (λq r=>e q r/\r<x.heap.size) aH n s t au (dg s s0 n.co.length j) O) Ω d8 ?_ ?_
 .rintro j O C bg d18 W;obtain⟨E,ac,ah,G,aj⟩:=id d18;refine bC Ω ?_;refine Tl (K:=λal=>ab v8 (aP .add ai v6 v2 (Δ (j:Int)) (Δ 1)) al λbh=>C bh al) G H bg aK rfl λal d20=>?_;rw[aO];exact W _ (ct.comp E aj d20)
 rintro O C d18;refine b3 Ω ?_;rw[show n.co.length=s0.d6.length by omega,RK H]at d18;obtain⟨E,ac,ah,G,aj⟩:=d18;obtain⟨am,bi⟩:=bD.len G.doc;have bS:=E.size;rw[bz aE.p aE.i am G.box.range];have aF:∀r,(∃q,e q r/\r<x.heap.size)\/r=gy->V.heap.size<=r:=λr a=>by
  rcases a with⟨q,h,_⟩|h
  .exact B q r h
  .omega
 have bj:ag O gt aE _:=((aw.W Q).W M).aa E λh=>by have:=aF gt h;omega
 refine b1 (vs:=ah) aE.i am rfl bi bj λbT aG bU bk=>?_;rw[fe aE.p aE.i am bk.range];have aI:∀q r,ac q r->V.heap.size<=r:=λq r a=>by
  rcases aj q r a with⟨bl,h,_⟩|h
  .exact B bl r h
  .omega
 refine⟨(S.then E λr a h=>by have:=aF r h;omega).then aG λr a h=>by have h:r=gt:=h;omega,ac,ah,rfl,G.doc.aa aG λr a h aW=>?_,λq r h=>by have:=aI q r h;omega⟩;have aW:r=gt:=aW;rcases h with⟨q,h⟩|h
 .have:=aI q r h;omega
 .have:=(p.read r h).2.1;omega
end
section
variable{w:x6}{ad ae aq:Nat}{A R S:ah}{A9:Nat->ah}{aH:ah}{n:aI}{s s0:am}{t:aA}{au:List aA}{cs:List x4}
def TI{all:x4}{L:List (Λ)}(p:cd w ad ae aq A R A9 aH n s s0 t au cs)(W:Laid w)(M:dG s0 s)(N:bc n.k n.co s0)(X:∀f∈s0.d9,f.live≠0)(Y:s0.d9.length<=1000)(Z:s0.du.length<=1000)(aa:b4 s0)(ab:b4 s)(B:Seen S w [all] L)(ac:∀a∈L,ig s0 a)(af:∀a,ig s0 a->eP n.k s a=eP n.k s0 a):
  ak v8 HV [Γ ad,.agg cs.toArray,all] w λr I=>r= .bool v2/\Ext w I:=by
 obtain⟨ah,aJ⟩:=bD.len p.doc;refine az func14 ?_;refine bn λg1 U aK e j=>?_;have j:ag U g1 aE cs:=j;rw[bz aE.p aE.i ah j.range];refine(GH (p.W e) (W.W e) M N X Y Z).Y ?_;rintro _ V _ ⟨ai,aL,bF,rfl,O,aM⟩;obtain⟨aj,am⟩:=bD.len O;refine bE aE.i λgy aN aP ao ap=>?_;refine b1 (vs:=bF) aE.i aj rfl am ap λq av aQ aw=>?_;have P:Ext V q:=ao.put av Ω;have C:=ai.F P;have E:=e.F C;have ax:kJ q g1 n.k n.co s0:=e9.box (gC.sA (p.W e).doc) C (j.W C);have ay:kJ q gy n.k n.co s:=e9.box (gC.sA O) P aw;rw[fU ca.u (bp B E)];refine b7.range L.length (λi _ G=>Ext q G) (nX B) (Ext.refl _) ?_ ?_
 .rintro i aA G aB hi x aC;obtain⟨tl,Q⟩:=aD (l:=L) hi;have H:=ac tl (x7 Q);refine bC Ω ?_;refine gn (α:=Λ) (a:=tl) rfl rfl ca.u an.i Ψ (bp B (E.F x)) Q λaV y=>?_;have y:=dl (jz y);intro aR J _ _;have K:=x.F J;refine(ay.W K).load λaS aF=>?_;refine(ax.W K).load λdv aG=>?_;refine(FA aF p.dy.2.2.2.1 ab (yO M H) (y.W J)).Y ?_;rintro _ aT _ ⟨rfl,z⟩;refine⟨.inl z,(FA (aG.W z) N aa H (y.W (J.F z))).Y ?_⟩;rintro _ aU _ ⟨rfl,aI⟩;rw[af tl H,bK,al];refine⟨λh=>ro rfl h,λ_=>?_⟩;rw[aO];exact aC _ _ ((K.F z).F aI)
 .rintro aA G aB x;exact b3 Ω ⟨rfl,E.F x⟩
end
structure jR(n:Nat)(H:List (Int×Int))(P:Λ):Prop where
 len:P.length=n
 ac:∀(i:Nat)a,H[i]?=σ a->0<=a.2/\a.2<n/\P[a.2.toNat]?=σ (i:Int)
 pl:∀(x:Nat)i,P[x]?=σ i->i= -1\/∃(j:Nat)(a:Int×Int),i=(j:Int)/\H[j]?=σ a/\a.2=(x:Int)
section
variable{n:Nat}{H:List (Int×Int)}{P:Λ}
def jR.inj(h:jR n H P){i k:Nat}{a b:Int×Int}(f:H[i]?=σ a)(j:H[k]?=σ b)(e:a.2=b.2):i=k:=by
 have h1:=(h.ac i a f).2.2;have p:=(h.ac k b j).2.2;rw[e,p]at h1;have:=Z5 h1;omega
def jR.new(n:Nat):jR n [] (o6 n (-1)):=⟨Ξ,λi a h=>by simp at h,λx i h=>.inl (List.mem_replicate.1 (x7 h)).2⟩
def jR.swap(h:jR n H P){i k:Nat}{a b:Int×Int}(r:H[i]?=σ a)(q:H[k]?=σ b):jR n ((H.set i b).set k a) ((P.set b.2.toNat i).set a.2.toNat k):=by
 obtain⟨a0,C,M⟩:=h.ac i a r;obtain⟨E,F,N⟩:=h.ac k b q;have A:=(x5.1 r).1;have B:=(x5.1 q).1;have G:=h.len;refine⟨by rw[o7,o7];exact G,λj c f=>?_,λx v p=>?_⟩
 .rw[Y7]at f;by_cases s:k=j
  .subst s;rw[ms rfl,ms (by rw[o7];exact B)]at f;cases f;exact⟨a0,C,by rw[l9 (by rw[o7];omega)]⟩
  .rw[rc s,Y7]at f;by_cases w:i=j
   .subst w;rw[ms rfl,ms A]at f;cases f;refine⟨E,F,?_⟩;have O:a.2≠b.2:=λe=>s (h.inj r q e).symm;rw[Z6 Ω,l9 Ω]
   .rw[rc w]at f;obtain⟨fp,I,J⟩:=h.ac j c f;have h1:a.2≠c.2:=λe=>w (h.inj r f e);have Q:b.2≠c.2:=λe=>s (h.inj q f e);exact⟨fp,I,by rw[Z6 Ω,Z6 Ω];exact J⟩
 .rw[Y7]at p;by_cases y:a.2.toNat=x
  .rw[ms y,ms (by rw[o7];omega)]at p;cases p;exact .inr ⟨k,a,rfl,by rw[l9 (by rw[o7];exact B)],Ω⟩
  .rw[rc y,Y7]at p;by_cases z:b.2.toNat=x
   .rw[ms z,ms Ω]at p;cases p;have K:k≠i:=λe=>by
     subst e;rw[r]at q;cases q;exact y z
    exact .inr ⟨i,b,rfl,by rw[Z6 K,l9 A],Ω⟩
   .rw[rc z]at p;rcases h.pl x v p with e|⟨j,c,e,f,L⟩
    .exact .inl e
    .refine .inr ⟨j,c,e,?_,L⟩;rw[Z6 λe=>?_,Z6 λe=>?_]
     .exact f
     .subst e;rw[r]at f;cases f;omega
     .subst e;rw[q]at f;cases f;omega
def jR.push(h:jR n H P){x:Nat}{p:Int}(q:P[x]?=σ (-1)):jR n (H++[(p,(x:Int))]) (P.set x H.length):=by
 have r:=(x5.1 q).1;have w:=h.len;have z:∀(j:Nat)c,H[j]?=σ c->c.2≠(x:Int):=λj c a e=>by
  have:=(h.ac j c a).2.2;rw[e,u9,q]at this;have:=Z5 this;omega
 refine⟨by rw[o7];exact w,λj c a=>?_,λy v f=>?_⟩
 .by_cases A:j<H.length
  .rw[Y2 A]at a;obtain⟨fp,B,C⟩:=h.ac j c a;have:=z j c a;exact⟨fp,B,by rw[Z6 Ω];exact C⟩
  .rw[Z7 Ω]at a;have E:=(x5.1 a).1;rw[T5]at E;obtain rfl:j=H.length:=Ω
   rw[V0]at a;cases a;exact⟨by simp only;omega,by simp only;omega,by rw[u9,l9 r]⟩
 .rw[Y7]at f;by_cases s:x=y
  .subst s;rw[ms rfl,ms r]at f;cases f;exact .inr ⟨H.length,(p,(x:Int)),rfl,by rw[Z7 (o4 _),V0];rfl,rfl⟩
  .rw[rc s]at f;rcases h.pl y v f with e|⟨j,c,e,a,F⟩
   .exact .inl e
   .exact .inr ⟨j,c,e,by rw[Y2 (x5.1 a).1];exact a,F⟩
def jR.drop{a:Int×Int}(h:jR n (H++[a]) P):jR n H (P.set a.2.toNat (-1)):=by
 have w:=h.len;obtain⟨a0,C,E⟩:=h.ac H.length a (by rw[Z7 (o4 _),V0];rfl);refine⟨by rw[o7];exact w,λj c f=>?_,λy v p=>?_⟩
 .have q:=(x5.1 f).1;have r:(H++[a])[j]?=σ c:=by rw[Y2 q];exact f
  obtain⟨fp,x,z⟩:=h.ac j c r;have F:a.2≠c.2:=λe=>by
   have:=h.inj (i:=H.length) (k:=j) (a:=a) (by rw[Z7 (o4 _),V0];rfl) r e;omega
  exact⟨fp,x,by rw[Z6 Ω];exact z⟩
 .rw[Y7]at p;by_cases s:a.2.toNat=y
  .rw[ms s,ms Ω]at p;cases p;exact .inl rfl
  .rw[rc s]at p;rcases h.pl y v p with e|⟨j,c,e,f,A⟩
   .exact .inl e
   .by_cases q:j<H.length
    .rw[Y2 q]at f;exact .inr ⟨j,c,e,f,A⟩
    .rw[Z7 Ω]at f;have B:=(x5.1 f).1;rw[T5]at B;obtain rfl:j=H.length:=Ω
     rw[V0]at f;cases f;omega
def GI{i k:Nat}{a b:Int×Int}(e:H[i]?=σ a)(f:H[k]?=σ b):((H.set i b).set k a).Perm H:=by
 obtain⟨hi,rfl⟩:=x5.1 e;obtain⟨hk,rfl⟩:=x5.1 f;exact List.set_set_perm hi hk
def kO(H:List (Int×Int)):Λ:=H.map (·.2)
def GJ{a:List (Int×Int)}(h:a.Perm H):(kO a).Perm (kO H):=h.map _
end
def lx(a:Int×Int):List x4:=[Δ a.1,Δ a.2]
def l3(i:Int):List x4:=[Δ i]
def y9(a:Int×Int):∀u∈lx a,u.oneCell'=v2:=by intro u hu;simp[lx]at hu;rcases hu with rfl|rfl<;>rfl
def ej(S:ah)(w:x6)(g:Nat)(H:List (Int×Int))(P:Λ):Prop:=
 (jR P.length H P/\H.length<=1000000)/\∃f bb a e,ag w g dd [a,e]/\bk lx 2 cw w f a H/\bk l3 1 ai w bb e P/\∀r,r=g\/lm a r\/lm e r->S r
section
variable{S X:ah}{w I:x6}{g:Nat}{H:List (Int×Int)}{P:Λ}
def ej.aa(h:ej S w g H P)(f:af X w I)(j:∀r,r<w.heap.size->S r->¬X r):ej S I g H P:=by
 obtain⟨s,x,bb,y,z,h1,p,q,e⟩:=h;exact⟨s,x,bb,y,z,h1.aa f (j _ h1.lt (e _ (.inl rfl))),p.aa f λr a=>j r (by have:=p.lw a;omega) (e r (.inr (.inl a))),q.aa f λr a=>j r (by have:=q.lw a;omega) (e r (.inr (.inr a))),e⟩
def ej.W(h:ej S w g H P)(a:Ext w I):ej S I g H P:=h.aa (a.aa λ_=>False) λ_ _ _ h=>h
def ej.Y(h:ej S w g H P)(j:∀r,r<w.heap.size->S r->X r):ej X w g H P:=by
 obtain⟨p,q,bb,s,x,h1,e,f,y⟩:=h;refine⟨p,q,bb,s,x,h1,e,f,λr a=>j r ?_ (y r a)⟩;rcases a with rfl|a|a
 .exact h1.lt
 .have:=e.lw a;omega
 .have:=f.lw a;omega
def vy{q bb:Nat}{e:x4}(h1:ag w g dd [a,e])(f:bk lx 2 cw w q a H)(h:bk l3 1 ai w bb e P):¬lm a g/\¬lm e g/\(∀r,lm a r->¬lm e r)/\∀r,lm e r->¬lm a r:=by
 refine⟨cL f h1 Φ,cL h h1 Φ,λr j=>?_,λr j=>?_⟩
 .obtain⟨rfl,c,p⟩:=dU f j;exact cL h p Φ
 .obtain⟨rfl,c,p⟩:=dU h j;exact cL f p Φ
def vz{bb x:Nat}{i:Int}(h:bk l3 1 ai w bb a P)(e:P[x]?=σ i):w.cell? ⟨bb,x*1,ν⟩=σ (Δ i):=h.range e 0 _ rfl
def za{a b:Int×Int}:ak v8 Ka [.agg (lx a).toArray,.agg (lx b).toArray] w λr I=>(∃c,r= .bool c)/\Ext w I:=by
 refine az func221 ?_;refine bn λg1 U z x e=>?_;refine bn λy V A s f=>?_;have j:=x.F s;have e:ag V g1 cw (lx a):=ag.W e s;have f:ag V y cw (lx b):=f;refine aY (λr I=>(∃c,r= .bool c)/\Ext w I) (λ_ _ h=>h) λax q=>?_;rw[aJ cw.p 0 e rfl,aJ cw.p 0 f rfl,aT,al];refine⟨λ_=>q _ _ ⟨⟨_,rfl⟩,j⟩,λ_=>?_⟩;rw[aJ cw.p 0 e rfl,aJ cw.p 0 f rfl,bl,al];refine⟨λ_=>?_,λ_=>q _ _ ⟨⟨_,rfl⟩,j⟩⟩;rw[aJ cw.p 1 e rfl,aJ cw.p 1 f rfl,aT];exact q _ _ ⟨⟨_,rfl⟩,j⟩
def GK{i k:Nat}{a b:Int×Int}(h:ej S w g H P)(hi:H[i]?=σ a)(hk:H[k]?=σ b):ak v8 AK [Γ g,Δ (i:Int),Δ (k:Int)] w λ_ I=>af S w I/\ej S I g ((H.set i b).set k a) ((P.set b.2.toNat i).set a.2.toNat k):=by
 have q:=(x5.1 hi).1;have s:=(x5.1 hk).1;refine az func167 ?_;intro U J _ _;obtain⟨⟨z,hm⟩,Y,bb,K,L,h1,e,M,A⟩:=h.W J;obtain⟨a0,ax,ay⟩:=z.ac i a hi;obtain⟨aA,aB,Z⟩:=z.ac k b hk;obtain⟨ab,ad,ae,ag⟩:=vy h1 e M;rw[aL dd.p 0 h1 rfl,aL dd.p 0 h1 rfl,aL dd.p 0 h1 rfl,ck rfl eG.u cw.i e s,bz cw.p cw.i rfl (e.range hk),
  aL dd.p 0 h1 rfl,ck rfl eG.u cw.i e q,bz cw.p cw.i rfl (e.range hi),ck rfl eG.u cw.i e q]
 refine xm (f:=lx) cw.i e rfl (y9 b) q λV ah aC N=>?_;rw[ck rfl eG.u cw.i N (by rw[o7];exact s)];refine xm (f:=lx) cw.i N rfl (y9 a) (by rw[o7];exact s) λaE aj aG al=>?_;intro O Q _ _;have B:af (λr=>lm K r) U O:=(ah.F aj).F (Q.aa _);have x:=h1.aa B ab;have y:=al.W Q;have R:=M.aa B ag;have am:((H.set i b).set k a)[i]?=σ b:=by
  rw[Y7];by_cases W:k=i
  .subst W;rw[hi]at hk;cases hk;rw[ms rfl,ms (by rw[o7];exact q)]
  .rw[rc W,l9 q]
 have ao:((H.set i b).set k a)[k]?=σ a:=l9 (by rw[o7];exact s);have C:((H.set i b).set k a).length=H.length:=by rw[o7,o7]
 have aH:=z.len;rw[aL dd.p 1 x rfl,aL dd.p 0 x rfl,ck rfl eG.u cw.i y (by rw[C];exact q),aU cw.p rfl,aF Ψ (y.range am 1 _ rfl),
  aL dd.p 1 x rfl,aL dd.p 0 x rfl,ck rfl eG.u cw.i y (by rw[C];exact s),aU cw.p rfl,aF Ψ (y.range ao 1 _ rfl),
  ck (i:=b.2.toNat) Ω an.u ai.i R Ω]
 refine k6 (f:=l3) (j:=0) (a':=(i:Int)) ai.i rfl rfl R Z rfl Ω λaI ap aJ X=>?_;rw[ck (i:=a.2.toNat) Ω an.u ai.i X (by rw[o7];omega)];obtain⟨c,aq⟩:=aD (l:=P.set b.2.toNat (i:Int)) (i:=a.2.toNat) (by rw[o7];omega);refine k6 (f:=l3) (j:=0) (a':=(k:Int)) ai.i rfl rfl X aq rfl Ω λau av aK aw=>?_;have E:af (λr=>lm L r) O au:=ap.F av;refine⟨(J.aa _).F ((B.Y λr _ G=>A r (.inr (.inl G))).F (E.Y λr _ G=>A r (.inr (.inr G)))),⟨?_,by rw[C];exact hm⟩,Y,bb,K,L,x.aa E ad,y.aa E ae,aw,A⟩;rw[o7,o7];exact z.swap hi hk
end
section
variable{S X:ah}{w I:x6}{g:Nat}{H:List (Int×Int)}{P:Λ}
def mV(S:ah)(w:x6)(g:Nat)(H:List (Int×Int))(P:Λ)(I:x6):Prop:=∃a e,af S w I/\ej S I g a e/\a.Perm H/\e.length=P.length
def mV.W(h:mV S w g H P I)(a:Ext I V):mV S w g H P V:=by
 obtain⟨e,f,h1,j,p⟩:=h;exact⟨e,f,h1.F (a.aa _),j.W a,p⟩
def mV.swap{e:List (Int×Int)}{f:Λ}{i k:Nat}(q:af S w U)(h:ej S U g e f)(ac:e.Perm H)(r:f.length=P.length)(hi:i<e.length)(hk:k<e.length):
  ak v8 AK [Γ g,Δ (i:Int),Δ (k:Int)] U λ_ I=>mV S w g H P I:=by
 obtain⟨a,j⟩:=aD (l:=e) hi;obtain⟨b,p⟩:=aD (l:=e) hk;refine(GK h j p).Y ?_;rintro _ V _ ⟨s,x⟩;exact⟨_,_,q.F s,x,(GI j p).F ac,by rw[o7,o7];exact r⟩
def GL{i:Nat}(h:ej S w g H P)(hi:i<H.length):ak v8 Jx [Γ g,Δ (i:Int)] w λ_ I=>mV S w g H P I:=by
 have hm:=h.1.2;refine az func165 ?_;refine⟨λv U=>∃i:Nat,v=Δ (i:Int)/\i<H.length/\mV S w g H P U,λv _=>(bZ v).toNat,⟨i,rfl,hi,H,P,af.refl _ _,h,.refl _,rfl⟩,?_⟩;rintro _ U ⟨i,rfl,hi,j⟩;refine aY (λv V=>Ext U V/\∃c,v= .bool c/\(c=v2->0<i)) ?_ λax z=>?_
 rotate_left
 .intro V x _ _;rw[bP,al];refine⟨λq=>?_,λ_=>z _ _ ⟨x,_,rfl,λh=>by cases h⟩⟩;obtain⟨f,A,r,⟨⟨J,_⟩,K,bb,L,M,h1,e,N,O⟩,ac,s⟩:=j.W x;have B:=ac.length_eq;obtain⟨a,C⟩:=aD (l:=f) (i:=i) Ω;obtain⟨b,E⟩:=aD (l:=f) (i:=(i-1) / 2) Ω;rw[aL dd.p 0 h1 rfl,ck rfl eG.u cw.i e Ω,bz cw.p cw.i rfl (e.range C),aL dd.p 0 h1 rfl,dA,m1 Ω Ω,nU Ω,
   show(((i:Int)-1).tdiv 2)=(((i-1) / 2:Nat):Int) by rw[Int.tdiv_eq_ediv_of_nonneg Ω];omega,m1 Ω Ω,ck rfl eG.u cw.i e Ω,bz cw.p cw.i rfl (e.range E)]
  refine za.Y ?_;rintro _ am _ ⟨⟨c,rfl⟩,an⟩;exact z _ _ ⟨x.F an,c,rfl,λ_=>Ω⟩
 rintro _ V ⟨x,c,rfl,q⟩;have Q:=j.W x;rw[cb];refine⟨λR=>?_,λ_=>?_⟩
 .have q:=q R;obtain⟨f,A,r,W,ac,s⟩:=Q;have B:=ac.length_eq;rw[dA,m1 Ω Ω,nU Ω,show(((i:Int)-1).tdiv 2)=(((i-1) / 2:Nat):Int) by rw[Int.tdiv_eq_ediv_of_nonneg Ω];omega,m1 Ω Ω];refine(mV.swap r W ac s Ω Ω).Y ?_;rintro _ am _ ao;rw[dA,m1 Ω Ω,nU Ω,show(((i:Int)-1).tdiv 2)=(((i-1) / 2:Nat):Int) by rw[Int.tdiv_eq_ediv_of_nonneg Ω];omega,m1 Ω Ω];refine⟨⟨(i-1) / 2,rfl,Ω,ao⟩,?_⟩;show(((i-1) / 2:Nat):Int).toNat<((i:Nat):Int).toNat;omega
 clear j x q;refine⟨λv U=>∃i:Nat,v=Δ (i:Int)/\i<H.length/\mV S w g H P U,λv _=>H.length-(bZ v).toNat,⟨i,rfl,hi,Q⟩,?_⟩;clear Q hi i;rintro _ X ⟨i,rfl,hi,j⟩;rw[fB,m1 Ω Ω,aO,m1 Ω Ω];refine⟨λv u Y=>v=Δ (i:Int)/\∃k:Nat,u=Δ (k:Int)/\2*i+1<=k/\k<=2*i+3/\Ext X Y,λ_ u _=>2*i+3-(bZ u).toNat,⟨rfl,2*i+1,by congr 1,Ω,Ω,Ext.refl _⟩,?_⟩;rintro _ _ Y ⟨rfl,k,rfl,ay,aA,Z⟩;refine aY (λv ag=>Ext Y ag/\∃c,v= .bool c/\(c=v2->k<=2*i+2/\k<H.length)) ?_ λax z=>?_
 rotate_left
 .rw[fB,m1 Ω Ω,aO,m1 Ω Ω,mf,al];refine⟨λq=>?_,λ_=>z _ _ ⟨Ext.refl _,_,rfl,λh=>by cases h⟩⟩;obtain⟨f,A,r,⟨⟨J,_⟩,K,bb,L,M,h1,e,N,O⟩,ac,s⟩:=j.W Z;have B:=ac.length_eq;rw[aL dd.p 0 h1 rfl,ef eG.u e,aT];exact z _ _ ⟨Ext.refl _,_,rfl,λh=>⟨Ω,by have:=ty h;omega⟩⟩
 rintro _ ag ⟨ah,c,rfl,q⟩;rw[cb];refine⟨λR=>?_,λ_=>j.W (Z.F ah)⟩;obtain⟨aB,ap⟩:=q R;rw[fB,m1 Ω Ω,aO,m1 Ω Ω,dA,m1 Ω Ω,show 4*(i:Int)+3-(k:Int)=((4*i+3-k:Nat):Int) by omega];have aq:=Z.F ah;refine aY (λv aa=>Ext X aa/\∃c,v= .bool c) ?_ λaC ai=>?_
 rotate_left
 .intro aa ab _ _;have ad:=aq.F ab;obtain⟨f,A,r,⟨⟨J,_⟩,K,bb,L,M,h1,e,N,O⟩,ac,s⟩:=j.W ad;have B:=ac.length_eq;rw[aL dd.p 0 h1 rfl,ef eG.u e,cP,al];refine⟨λ_=>ai _ _ ⟨ad,_,rfl⟩,λaE=>?_⟩;obtain⟨a,C⟩:=aD (l:=f) (i:=k) Ω;obtain⟨b,E⟩:=aD (l:=f) (i:=4*i+3-k) Ω;rw[aL dd.p 0 h1 rfl,ck rfl eG.u cw.i e Ω,bz cw.p cw.i rfl (e.range C),aL dd.p 0 h1 rfl,ck rfl eG.u cw.i e Ω,bz cw.p cw.i rfl (e.range E)];refine za.Y ?_;rintro _ G _ ⟨⟨c,rfl⟩,y⟩;exact ai _ _ ⟨ad.F y,_,rfl⟩
 rintro _ aa ⟨ab,aF,rfl⟩;refine aY (λv G=>Ext X G/\∃c,v= .bool c) ?_ λaG aj=>?_
 rotate_left
 .intro G y _ _;have ae:=ab.F y;rw[cb];refine⟨λ_=>?_,λ_=>aj _ _ ⟨ae,_,rfl⟩⟩;obtain⟨f,A,r,⟨⟨J,_⟩,K,bb,L,M,h1,e,N,O⟩,ac,s⟩:=j.W ae;have B:=ac.length_eq;obtain⟨a,C⟩:=aD (l:=f) (i:=k) Ω;obtain⟨b,E⟩:=aD (l:=f) (i:=i) Ω;rw[aL dd.p 0 h1 rfl,ck rfl eG.u cw.i e Ω,bz cw.p cw.i rfl (e.range C),aL dd.p 0 h1 rfl,ck rfl eG.u cw.i e Ω,bz cw.p cw.i rfl (e.range E)];refine za.Y ?_;rintro _ au _ ⟨⟨c,rfl⟩,av⟩;exact aj _ _ ⟨ae.F av,_,rfl⟩
 rintro _ G ⟨y,aH,rfl⟩;rw[cb];refine⟨λ_=>?_,λ_=>?_⟩
 .obtain⟨f,A,r,W,ac,s⟩:=j.W y;have B:=ac.length_eq;refine(mV.swap r W ac s Ω Ω).Y ?_;rintro _ au _ aw;refine⟨⟨k,rfl,ap,aw⟩,?_⟩;show H.length-((k:Nat):Int).toNat<H.length-((i:Nat):Int).toNat;omega
 .rw[aO,m1 Ω Ω];refine⟨⟨rfl,k+1,rfl,Ω,Ω,y⟩,?_⟩;show 2*i+3-((k:Int)+1).toNat<2*i+3-((k:Nat):Int).toNat;omega
def TJ(h:ej S w g H P):ak v8 Jy [Γ g] w λr I=>r=Δ (H.length:Int)/\Ext w I:=by
 obtain⟨_,e,bb,f,j,h1,a,q,s⟩:=h;refine az func166 ?_;rw[di rh.u];simp only[Y0,a7];rw[aL dd.p 0 h1 rfl,ef eG.u a];exact⟨rfl,Ext.refl _⟩
def GM{x:Nat}{i:Int}(h:ej S w g H P)(e:P[x]?=σ i):ak v8 Jw [Γ g,Δ (x:Int)] w λr I=>r= .bool (decide (0<=i))/\Ext w I:=by
 have f:=(x5.1 e).1;obtain⟨_,q,bb,s,y,h1,z,a,A⟩:=h;refine az func164 ?_;refine aY (λr I=>r= .bool (decide (0<=i))/\Ext w I) (λ_ _ h=>h) λax j=>?_;rw[wJ rh.u];simp only[Y0,W6,bO];rw[cP,al];refine⟨λ_=>?_,λh=>ro Ω h⟩;rw[aL dd.p 1 h1 rfl,ef an.u a];refine bC Ω ?_;rw[aL dd.p 1 h1 rfl,ck rfl an.u ai.i a f,aF Ψ (vz a e),cP];exact j _ _ ⟨rfl,Ext.refl _⟩
def TK(h:ej S w g H P):ak v8 IV [Γ g] w λr I=>Ext w I/\match H[0]? with
  |some a=>r= .tuple #[Δ a.2,Δ a.1,.bool v2]
  |none=>r= .tuple #[Δ 0,Δ 0,.bool v6]:=by
 refine az func104 ?_;refine(TJ h).Y ?_;rintro _ U _ ⟨rfl,f⟩;rw[bl,al];refine⟨λs=>?_,λs=>?_⟩
 .rw[Y5 Ω];exact⟨f,rfl⟩
 .intro V q _ _;obtain⟨_,x,bb,z,A,h1,e,B,C⟩:=(h.W f).W q;obtain⟨a,j⟩:=aD (l:=H) (i:=0) Ω;rw[aL dd.p 0 h1 rfl,ck (y:=0) (i:=0) rfl eG.u cw.i e Ω,aU cw.p rfl,aF Ψ (e.range j 1 _ rfl),
   aL dd.p 0 h1 rfl,ck (y:=0) (i:=0) rfl eG.u cw.i e Ω,aU cw.p rfl,aF Ψ (e.range j 0 _ rfl),j]
  exact⟨f.F q,rfl⟩
end
def TL(l:Λ):l.flatMap l3=ints .i64 l:=by
 induction l with
 |nil=>rfl
 |cons a l e=>rw[V8,e];rfl
def TM{α:Type}{L:List α}{a:α}{m:Nat}(h:L[m]?=σ a)(hm:L.length=m+1):L=L.take m++[a]:=by
 have e:=r9 (l:=L) (i:=m);rw[h,j6,b9 Ω]at e;exact e
section
variable{S X:ah}{w I:x6}{g:Nat}{H:List (Int×Int)}{P:Λ}
def TN{n:Nat}(O:n<=1000000)(B:∀r,w.heap.size<=r->S r):ak v8 IT [Δ (n:Int)] w λr I=>∃g,r=Γ g/\Ext w I/\w.heap.size<=g/\ej S I g [] (o6 n (-1)):=by
 refine az func101 ?_;rw[tx,show max (n:Int) 0=(n:Int) by omega];refine ku an.u ai.i Ω Ω λbb U P C E=>?_;have G:bk l3 1 ai U bb (.slice (σ ⟨bb,0,ν⟩) n n) (o6 n 0):=⟨by rw[List.length_replicate,TL];exact b2.full E Ξ (by simp[maxLen];omega),λa _=>rfl⟩;rw[dk (cs:=#[.slice ν 0 0,.slice (σ ⟨bb,0,ν⟩) n n]) Ψ];refine bn λg V Q A x=>?_;have x:ag V g dd [.slice ν 0 0,.slice (σ ⟨bb,0,ν⟩) n n]:=x;rw[aL dd.p 1 x rfl,ef an.u (G.W A),List.length_replicate];have R:=C.size;have W:=A.size;have X:=x.lt;have Y:=E.lt;refine bY.range n (λi y=>bk l3 1 ai y bb (.slice (σ ⟨bb,0,ν⟩) n n) (o6 i (-1)++o6 (n-i) 0)/\af (λr=>r=bb) V y) Ω ⟨G.W A,af.refl _ _⟩ ?_ ?_
 .rintro i y H hi ⟨s,z⟩ J;refine bC Ω ?_;have K:ag y g dd _:=x.aa z Ω;obtain⟨c,L⟩:=aD (l:=o6 i (-1:Int)++o6 (n-i) 0) (i:=i) Θ;rw[aL dd.p 1 K rfl,ck rfl an.u ai.i s Θ];refine k6 (f:=l3) (j:=0) (a':=-1) ai.i rfl rfl s L rfl Ω λZ M ab N=>?_;rw[aO];refine J _ ⟨?_,z.F (M.Y λr _ q=>(s.lw q).1)⟩;have e:(o6 i (-1:Int)++o6 (n-i) 0).set i (-1)=o6 (i+1) (-1)++o6 (n-(i+1)) 0:=by
   rw[T4 _ _ Ξ,List.length_replicate,V0,show n-i=(n-(i+1))+1 by omega,List.replicate_succ,List.set_cons_zero,List.replicate_succ',T6];rfl
  rw[<-e];exact N
 .rintro y H ⟨s,z⟩;refine b3 Ω ?_;rw[V0,List.replicate_zero,U2]at s;refine⟨g,rfl,(C.F A).then z λr q h=>Ω,Ω,⟨by rw[List.length_replicate];exact jR.new n,Ξ⟩,0,bb,_,_,x.aa z Ω,bk.nil _ _ _ _ _,s,λr q=>?_⟩;rcases q with rfl|q|q
  .exact B _ Ω
  .exact (fi q).elim
  .exact B _ (by have:=(s.lw q).1;omega)
def TO{x:Nat}{p:Int}(h:ej S w g H P)(G:P[x]?=σ (-1))(aW:H.length<1000000)(aX:P.length<=1000000)(aC:∀r,w.heap.size<=r->S r):ak v8 IU [Γ g,Δ (x:Int),Δ p] w λ_ I=>∃J K,af S w I/\ej S I g J K/\J.Perm (H++[(p,(x:Int))])/\K.length=P.length:=by
 have L:=(x5.1 G).1;refine az func102 ?_;rw[di rh.u];simp only[Y0,a7];refine aY (λv U=>w=U/\v= .bool v6) ?_ λax Q=>?_
 rotate_left
 .obtain⟨_,R,bb,W,A,h1,z,s,y⟩:=h;rw[aT,al];refine⟨λh=>Ω,λ_=>?_⟩;rw[aL dd.p 1 h1 rfl,ef an.u s,cP,s2 Ω];exact Q _ _ ⟨rfl,rfl⟩
 rintro _ _ ⟨rfl,rfl⟩;rw[a7];refine c8 (λV=>af S w V/\ej S V g (H++[(p,(x:Int))]) (P.set x H.length)) ?_ λax Q=>?_
 .rintro V ⟨aD,aE⟩;intro aZ ap _ _;obtain⟨⟨X,hm⟩,R,bb,W,A,h1,z,s,y⟩:=aE.W ap;obtain⟨Y,Z,aq,ab⟩:=vy h1 z s;have au:(P.set x (H.length:Int))[x]?=σ (H.length:Int):=l9 L;have aG:(H++[(p,(x:Int))])[H.length]?=σ (p,(x:Int)):=by rw[Z7 (o4 _),V0];rfl
  rw[aL dd.p 0 h1 rfl,aL dd.p 1 h1 rfl,ck rfl an.u ai.i s (by rw[o7];exact L),aF Ψ (vz s au),ck rfl eG.u cw.i z Ξ,aU cw.p rfl];refine k6 (f:=lx) (j:=0) (a':=(p,(x:Int))) av.i rfl rfl z aG rfl Ω λaw ad a1 ay=>?_;have aA:ej S aw g (H++[(p,(x:Int))]) (P.set x H.length):=by
   have e:(H++[(p,(x:Int))]).set H.length (p,(x:Int))=H++[(p,(x:Int))]:=by rw[T4 _ _ (o4 _),V0];rfl
   rw[e]at ay;exact⟨⟨X,hm⟩,R,bb,W,A,h1.aa ad Y,ay,s.aa ad ab,y⟩
  have aH:af S w aw:=(aD.F (ap.aa _)).F (ad.Y λr _ q=>y r (.inr (.inl q)));obtain⟨_,a2,a6,a8,ba,B,M,C,_⟩:=id aA;rw[aL dd.p 1 B rfl,ck rfl an.u ai.i C (by rw[o7];exact L),aF Ψ (vz C au)];refine(GL aA Ξ).Y ?_;rintro _ bc _ ⟨J,K,aI,aJ,ac,aK⟩;exact⟨J,K,aH.F aI,aJ,ac,by rw[aK,o7]⟩
 refine(GM h G).Y ?_;rintro _ bd _ ⟨rfl,aM⟩;rw[bL,s2 Ω,W6,bO];intro be aN _ _;have ae:=aM.F aN;have bf:=ae.size;obtain⟨⟨X,hm⟩,R,bb,W,A,h1,z,s,y⟩:=h.W ae;obtain⟨Y,Z,aq,ab⟩:=vy h1 z s;rw[aL dd.p 1 h1 rfl,aL dd.p 0 h1 rfl,ef eG.u z,ck rfl an.u ai.i s L];refine k6 (f:=l3) (j:=0) (a':=(H.length:Int)) ai.i rfl rfl s G rfl Ω λbg N bh aO=>?_;have B:=h1.aa N Z;have M:=z.aa N aq;rw[aL dd.p 0 B rfl,dk (cs:=#[Δ p,Δ (x:Int)]) Ψ];refine iO (f:=lx) (a:=(p,(x:Int))) eG.u cw.i Ω rfl rfl λv9 bi bj bk E aP=>?_;have B:=B.W E;have M:=M.W E;have C:=aO.W E;refine jl eG.u cw.i rfl M (by simpa using aP.sl) (y9 _) Ω Ω λah aQ bl O aR aj=>?_;rw[b0,aU dd.p rfl];have aB:=B.aa aj Y;have C:=C.aa aj ab;refine bu eG.i (eB O.sl).1 (eB O.sl).2 aB Ξ λaS am bm ao=>?_;have ao:ag aS g dd [ah,A]:=ao;have bn:=N.size;have bo:=E.size;have aV:∀r,r=g\/lm ah r\/lm A r->S r:=λr q=>by
  rcases q with q|q|q
  .exact y r (.inl q)
  .rcases aR r q with h|h
   .exact y r (.inr (.inl h))
   .exact aC r Ω
  .exact y r (.inr (.inr q))
 refine Q _ ⟨?_,⟨?_,Θ⟩,aQ,bb,ah,A,ao,O.aa am λr q e=>cL O aB Φ (by rw[<-e];exact q),C.aa am λr q e=>Z (by rw[<-e];exact q),aV⟩
 .exact (((((ae.aa _).F (N.Y λr _ q=>y r (.inr (.inr q)))).F (E.aa _)).F (aj.Y λr _ q=>y r (.inr (.inl q)))).F (am.Y λr _ q=>y r (.inl q)))
 .rw[o7];exact X.push G
def TP{i:Nat}{a:Int×Int}(h:ej S w g H P)(hi:H[i]?=σ a):ak v8 IW [Γ g,Δ a.2] w λ_ I=>∃s y,af S w I/\ej S I g s y/\H.Perm (s++[a])/\y.length=P.length:=by
 have aY:=(x5.1 hi).1;obtain⟨a0,aZ,A⟩:=h.1.1.ac i a hi;have hm:=h.1.2;obtain⟨x,E⟩:=V3 a0;rw[E,u9]at A;have aC:=(x5.1 A).1;refine az func105 ?_;rw[E];refine(GM h A).Y ?_;rintro _ U _ ⟨rfl,aE⟩;rw[bL,rs Ω,X3,a7];intro V aG _ _;have X:=aE.F aG;have Y:=h.W X;obtain⟨_,Z,bb,aH,G,h1,B,z,C⟩:=id Y;rw[aL dd.p 1 h1 rfl,ck rfl an.u ai.i z aC,aF Ψ (vz z A),aL dd.p 0 h1 rfl,ef eG.u B,dA,m1 Ω Ω,show(H.length:Int)-1=((H.length-1:Nat):Int) by omega];obtain⟨b,ab⟩:=aD (l:=H) (i:=H.length-1) Ω;refine(GK Y hi ab).Y ?_;rintro _ a1 _ ⟨aI,J⟩;intro a2 ad _ _;have K:=GI hi ab;have ae:((H.set i b).set (H.length-1) a)[H.length-1]?=σ a:=l9 (by rw[o7];omega);generalize a6:(H.set i b).set (H.length-1) a=ah at J K ae;generalize aJ:(P.set b.2.toNat (i:Int)).set a.2.toNat ((H.length-1:Nat):Int)=L at J;have a8:=K.length_eq;have aj:L.length=P.length:=by rw[<-aJ,o7,o7]
 obtain⟨⟨am,ba⟩,Z,bb,aH,G,h1,B,z,C⟩:=J.W ad;obtain⟨aK,ao,aM,bc⟩:=vy h1 B z;obtain⟨ap,aN,M,N⟩:=RV (i:=H.length-1) eG.u cw.i B Ω;rw[aL dd.p 1 h1 rfl,aL dd.p 0 h1 rfl,aN,b0,aU dd.p rfl];refine bu eG.i (eB M.sl).1 (eB M.sl).2 h1 Ξ λaO O bd Q=>?_;have Q:ag aO g dd [ap,G]:=Q;have aP:=M.aa O λr q e=>aK (by rw[<-e];exact N r q);have aq:=z.aa O λr q e=>ao (by rw[<-e];exact q);rw[ck rfl an.u ai.i aq Ω];obtain⟨c,aQ⟩:=aD (l:=L) (i:=x) Ω;refine k6 (f:=l3) (j:=0) (a':=-1) ai.i rfl rfl aq aQ rfl Ω λau R be aR=>?_;have av:=TM ae Ω;have aw:ej S au g (ah.take (H.length-1)) (L.set x (-1)):=by
  refine⟨⟨?_,by rw[o8];omega⟩,Z,bb,ap,G,Q.aa R ao,aP.aa R λr q e=>aM r (N r q) e,aR,λr q=>C r (q.imp id (.imp (N r) id))⟩;rw[o7];rw[av]at am;have:=am.drop;rw[E,u9]at this;exact this
 have ay:af S w au:=((((X.aa _).F aI).F (ad.aa _)).F (O.Y λr _ q=>C r (.inl q))).F (R.Y λr _ q=>C r (.inr (.inr q)));have aA:H.Perm (ah.take (H.length-1)++[a]):=by rw[<-av];exact K.symm
 refine c8 (λW=>∃s y,af S w W/\ej S W g s y/\H.Perm (s++[a])/\y.length=P.length) (λ_ h=>h) λax aB=>?_;rw[aT,al];refine⟨λbf=>?_,λ_=>aB _ ⟨_,_,ay,aw,aA,by rw[o7];exact aj⟩⟩;refine(GL aw (by rw[o8];omega)).Y ?_;rintro _ W _ ⟨s,y,aS,aV,aW,aX⟩;exact aB _ ⟨s,y,ay.F aS,aV,aA.F (aW.symm.append_right _),by rw[aX,o7];exact aj⟩
def TQ(h:ej S w g H P):ak v8 Ij [Γ g] w λr I=>(H=[]/\Ext w I/\r= .tuple #[Δ 0,Δ 0,.bool v6])\/
  ∃a e f,r= .tuple #[Δ a.2,Δ a.1,.bool v2]/\af S w I/\ej S I g e f/\H.Perm (e++[a])/\f.length=P.length:=by
 refine az func55 ?_;refine(TK h).Y ?_;rintro _ U _ ⟨p,j⟩;cases au:H[0]? with
 |none=>
  rw[au]at j;subst j;rw[fQ,fR,fS];refine c8 (λV=>Ext w V) (λV x=>.inl ⟨Z2 (Nat.le_zero.1 (List.getElem?_eq_none_iff.1 au)),x,rfl⟩) λax s=>?_;rw[a7];exact s _ p
 |some a=>
  rw[au]at j;subst j;rw[fQ,fR,fS];refine c8 (λV=>∃e f,af S w V/\ej S V g e f/\H.Perm (e++[a])/\f.length=P.length) (λV ⟨e,f,q⟩=>.inr ⟨a,e,f,rfl,q⟩) λax s=>?_;rw[bO];refine(TP (h.W p) au).Y ?_;rintro _ z _ ⟨e,f,y,q⟩;exact s _ ⟨e,f,(p.aa _).F y,q⟩
end
theorem vA{α:Type}{step:am×Bool->α->am×Bool}(h:∀s b a,step (s,b) a=((step (s,v6) a).1,(step (s,v6) a).2||b)):∀(L:List α)(s:am)(b:Bool),L.foldl step (s,b)=((L.foldl step (s,v6)).1,(L.foldl step (s,v6)).2||b)
 |[],s,b=>Ξ
 |a::L,s,b=>by
  rw[V7,V7,h s b a];generalize e:step (s,v6) a=q;obtain⟨x,y⟩:=q;rw[vA h L x (y||b),vA h L x y];simp only[Bool.or_assoc]
def TR(s:am)(b:Bool)(v:Int):gh k j pos (s,b) v=((gh k j pos (s,v6) v).1,(gh k j pos (s,v6) v).2||b):=by
 unfold gh;simp only;cases dp s j pos v with
 |none=>simp
 |some q=>
  obtain⟨f,u,x⟩:=q;simp only;split<;>simp
def TS(s:am)(b:Bool)(j:Nat):eE k (s,b) j=((eE k (s,v6) j).1,(eE k (s,v6) j).2||b):=by
 unfold eE;simp only;cases s.d9[j]? with
 |none=>simp
 |some f=>exact vA (λs b pos=>by unfold pQ;exact vA TR _ s b) _ s b
section
variable{au:List aA}{w U V:x6}{ad ae m:Nat}{A R:ah}{n:aI}{s s':am}{t:aA}{D D':ah}
def dR.Y(h:dR au w ad ae A R n m D s' U)(f:∀r,r<U.heap.size->D r->D' r):dR au w ad ae A R n m D' s' U:=by
 obtain⟨h1,j,aN,bt,p,a,q,s⟩:=h;exact⟨h1,j,aN,bt,p,a,q,λr e=>(s r e).imp id (f r (a.lt (.inl e)))⟩
def jS(k:Int)(j:Nat)(sc:Λ)(s:am)(i:Nat):am×Bool:=(X9 i).foldl (pQ k j sc) (s,v6)
def TT{i:Nat}{sc:Λ}:jS k j sc s (i+1)=pQ k j sc (jS k j sc s i) i:=by
 unfold jS;rw[List.range_succ,S2];rfl
def TU{α β:Type}{f:β->α->β}{l:List α}{a:α}{b:β}(h:l[j]?=σ a):(l.take (j+1)).foldl f b=f ((l.take j).foldl f b) a:=by
 rw[r9,h,S2];rfl
def TV{f:cm}(h:bG w ad ae A R n s t)(aQ:Laid w)(be:¬A 0)(bf:eC au t)(ay:s.d9[j]?=σ f):ak v8 Ik [Γ ad,Δ (j:Int)] w λr I=>r= .bool (eE n.k (s,v6) j).2/\cS au w ad ae A R n (eE n.k (s,v6) j).1 I:=by
 have bh:=h.2.2.2.1;obtain⟨aR,_,_⟩:=bh.d9 f (x7 ay);have bi:eE n.k (s,v6) j=jS n.k j f.sc s f.sc.length:=by unfold eE jS;rw[ay]
 rw[bi];refine jy func56 ?_;refine bn λg1 U b5 aS C=>?_;refine bn λbj V b6 az H=>?_;have b7:=ag.lt C;have b8:=ag.lt H;refine bE dK.i λq ca cb bk bl=>?_;refine bu (o:=0) dK.i rfl rfl bl (by show 0<1;omega) λam bm cd ao=>?_;have ao:ag am q dK [.bool v6]:=ao;have ap:Ext V am:=bk.put bm Ω;have C:ag am g1 eF [Γ ad]:=(ag.W C az).W ap;have H:ag am bj ai [Δ (j:Int)]:=ag.W H ap;have aT:=(aS.F az).F ap;have ce:=aS.size;have cf:=az.size;have cg:=ap.size;have ch:=C.lt;have ci:=H.lt;have cj:=ao.lt;have ac:=qS aQ;rw[aF (v:=Γ ad) Ψ (C.Qz rfl),aF (v:=Δ (j:Int)) Ψ (H.Qz rfl)];refine(ss (h.W aT) ay).Y ?_;rintro sv J _ ⟨Y,gs,ck,aA⟩;rw[a1 an.u aA.ls];have z5:=Y.size;have C:=C.W Y;have H:=H.W Y;refine bY.range f.sc.length (λi p=>dR au w ad ae A R n w.heap.size (λr=>J.heap.size<=r) (jS n.k j f.sc s i).1 p/\af (λr=>r<w.heap.size\/J.heap.size<=r\/r=q) J p/\ag p q dK [.bool (jS n.k j f.sc s i).2]) aA.ls.le ⟨dR.start h aQ be bf (aT.F Y) (o4 _),af.refl _ _,ao.W Y⟩ ?_ ?_
 .rintro i p bo hi ⟨Z,ab,aB⟩ bp;refine bC Ω ?_;obtain⟨u,hu⟩:=aD (l:=f.sc) hi;have aU:=x7 hu;have bq:=(aR.scope.1 u aU).1;have cl:=aR.d6 u aU;have ah:∀{g:Nat}{e:o5}{cs:List x4},w.heap.size<=g->g<q->ag J g e cs->ag p g e cs:=λaV aE br=>br.aa ab Ω;have bs:aM .i64 p sv f.sc:=(aA.aa ab λy=>Ω).ls;refine rv rfl an.u ai.i bs hu λcn cp bw=>?_;rw[aF Ψ bw];refine bE ai.i λbx cq cr bz bD=>?_;refine bu (o:=0) ai.i rfl rfl bD (by show 0<1;omega) λaW bF ct aj=>?_;have aj:ag aW bx ai [Δ (i:Int)]:=aj;have aq:Ext p aW:=bz.put bF Ω;have cu:=ab.size;have cw:=aq.size;have cz:=aj.lt;obtain⟨cA,cB,aX,cC,cD,cE⟩:=Z.sM;have bH:=Z.2.1.1;have bI:=aX.2.2.2.1;have cF:=bI.d6;obtain⟨x,K⟩:=aD (l:=(jS n.k j f.sc s i).1.d6) (i:=u.toNat) Ω;have bJ:ba (jS n.k j f.sc s i).1 u=aC x:=by unfold ba;rw[K]
  rw[aF (v:=Γ ad) Ψ (((ah Ω Ω C).W aq).Qz rfl)];refine(kG (i:=u) (aX.W aq)).Y ?_;rintro _ cG _ ⟨⟨b,aY,rfl,aZ⟩,a2⟩;refine(n4 (b:=b) (n:=aY)).Y ?_;rintro _ N _ ⟨a6,av,rfl,cH,a7⟩;have a8:=mJ aZ bq K;have aG:=a2.F a6;have M:=aq.F aG;have z9:=a2.size;have cI:=a6.size;have cJ:=a7.lt;have bK:jS n.k j f.sc s (i+1)=(aC x).foldl (gh n.k j i) (jS n.k j f.sc s i):=by
   rw[TT];unfold pQ;rw[u5,hu,W7,bJ]
  have cK:(jS n.k j f.sc s i)=((jS n.k j f.sc s i).1,(jS n.k j f.sc s i).2):=rfl;generalize jS n.k j f.sc s i=Q at*;refine lD.old ⟨_,v6,kq,#[Γ av],_,_,_,_,λO I=>dR au w ad ae A R n w.heap.size (λr=>J.heap.size<=r/\¬(p.heap.size<=r/\r<N.heap.size)) (((aC x).take O).foldl (gh n.k j i) Q).1 I/\af (λr=>r<w.heap.size\/(J.heap.size<=r/\¬(p.heap.size<=r/\r<N.heap.size))\/r=q) N I/\ag I q dK [.bool (((aC x).take O).foldl (gh n.k j i) Q).2],λ_ _ _=>False,rfl,(n3 (g:=av) aZ.1).s,?_,
   λ_ _ K h=>⟨h.1.W K,h.2.W K⟩,λ_ _ _ K h=>⟨h.1.W K,h.2.1.F (K.aa _),h.2.2.W K⟩,λ_ _ _ _ _ h=>h,⟨a7,bH.W M⟩,⟨(Z.Y λr aV aE=>⟨aE,Ω⟩).W M,af.refl _ _,aB.W M⟩,?_,?_,λ_ _ h=>h.elim,λ_ _ _ h=>h.elim⟩
  .rintro _ _ _ _ ⟨_,_,_,_,rfl⟩;rfl
  .rintro _ O _ cL ⟨bb,aH⟩ ⟨cM,rfl,v,bL,bM⟩ ⟨S,z,W⟩;cases bM;intro cN E _ _;have bN:(aC x)[O]?=σ (v:Int):=by rw[<-a8,u4,bL];rfl
   have aI:=TU (f:=gh n.k j i) (b:=Q) bN;generalize cO:((aC x).take O).foldl (gh n.k j i) Q=B at S W aI;obtain⟨cP,cQ,bc,bO,bQ,bR⟩:=S.sM;have cR:=z.size;have z12:=E.size;have aJ:=((((ah Ω Ω C).W M).aa z Ω).W E).Qz rfl;have aK:=((((ah Ω Ω H).W M).aa z Ω).W E).Qz rfl;have aL:=(((aj.W aG).aa z Ω).W E).Qz rfl;rw[aF (v:=Γ ad) Ψ aJ,aF (v:=Δ (j:Int)) Ψ aK,aF (v:=Δ (i:Int)) Ψ aL];refine(Si (j:=(j:Int)) (pos:=(i:Int)) (v:=(v:Int)) (bc.W E) (aH.W E)).Y ?_;rintro _ X _ ⟨P,y⟩;have L:=E.F P;have no:gh n.k j i B (v:Int)=B->(ag X av cc [.int .u64 b,Δ aY]/\Laid X)/\(dR au w ad ae A R n w.heap.size (λr=>J.heap.size<=r/\¬(p.heap.size<=r/\r<N.heap.size)) (((aC x).take (O+1)).foldl (gh n.k j i) Q).1 X/\af (λr=>r<w.heap.size\/(J.heap.size<=r/\¬(p.heap.size<=r/\r<N.heap.size))\/r=q) N X/\ag X q dK [.bool (((aC x).take (O+1)).foldl (gh n.k j i) Q).2]):=λe=>by
    refine⟨⟨bb.W L,aH.W L⟩,?_⟩;rw[aI,e];exact⟨S.W L,z.F (L.aa _),W.W L⟩
   have G:gh n.k j i B (v:Int)=match dp B.1 j i v with
    |none=>B
    |some (f,_,_)=>if 0<eh n.k B.1 f i v then((bg n.k B.1 (projM j i v (eh n.k B.1 f i v))).1,v2)else B:=rfl
   cases bd:dp B.1 (j:Int) (i:Int) (v:Int)with
   |none=>
    rw[bd]at y G;subst y;rw[bA,bB,bP,al];refine⟨λh=>Ω,λ_=>?_⟩;exact⟨(no G).1,(no G).2,λh=>by cases h⟩
   |some bS=>
    obtain⟨bT,cT,cU⟩:=bS;rw[bd]at y G;simp only[u9]at y G;subst y;rw[bA,bB,bP,al];refine⟨λaP=>?_,λaP=>?_⟩
    rotate_left
    .rw[rc aP]at G;exact⟨(no G).1,(no G).2,λh=>by cases h⟩
    rw[ms aP]at G;have aJ:=((((((ah Ω Ω C).W M).aa z Ω).W E)).W P).Qz rfl;have aK:=((((((ah Ω Ω H).W M).aa z Ω).W E)).W P).Qz rfl;have aL:=((((aj.W aG).aa z Ω).W E).W P).Qz rfl;rw[aF (v:=Γ ad) Ψ aJ,aF (v:=Δ (j:Int)) Ψ aK,aF (v:=Δ (i:Int)) Ψ aL];have cV:=P.size;refine(F7 (a:=projM j i v (eh n.k B.1 bT i v)) rfl (bc.W L) (aH.W L) bQ bO).Y ?_;rintro _ bU _ ⟨rfl,bV,bW,aN,bt,bX,bZ,b0,cW⟩;obtain⟨b1,aw,cX⟩:=bR (D':=λr=>J.heap.size<=r/\¬(p.heap.size<=r/\r<N.heap.size)) (jo L bV) ((Grow.W L).F bX) bZ b0 (λr h=>h) λr aV aE=>Ω
    have cY:=aw.size;have b2:ag bU q dK _:=W.aa aw Ω;refine bu (o:=0) dK.i rfl rfl b2 Ξ λcZ ax c0 b4=>?_;refine⟨⟨(bb.aa aw Ω).aa ax λh=>by have h:av=q:=h;omega,iH ax (λh=>by have h:0=q:=h;omega) bW⟩,?_,λh=>by cases h⟩;dsimp only;rw[aI,G];exact⟨b1.own ax λr y=>by have y:r=q:=y;subst y;exact⟨Ω,Ω⟩,(z.F (aw.Y λr _ h=>h.imp id .inl)).F (ax.Y λr _ y=>.inr (.inr y)),b4⟩
  .rintro k c1 rfl ⟨S,z,W⟩;rw[b9 (by rw[<-a8,r8];exact o4 _),<-bK]at S W;rw[aO];exact bp _ ⟨S.Y λr _ h=>h.1,(ab.F (M.aa _)).F (z.Y λr _ h=>h.imp id (.imp (·.1) id)),W⟩
 .rintro p bo ⟨Z,ab,aB⟩;refine b3 Ω ?_;rw[aF Ψ (aB.Qz rfl)];intro X P _;exact⟨rfl,Z.done P⟩
end
section
variable{n:aI}{s:am}
def qW(n:aI)(s:am):Prop:=∀(j:Nat)f,s.d9[j]?=σ f->f.live≠0->∀p,p<f.sc.length->∀v∈ba s (f.sc.getD p 0),¬(0<(ln n s j f p v).1\/(ln n s j f p v).2=ν)
end
section
variable{w:x6}{dv:x4}{n:aI}{s:am}
def zb{p:Nat}{f:cm}(h:bc n.k n.co s)(a:s.d9[j]?=σ f)(q:f.live≠0)(ac:p<f.sc.length)(e:v∈ba s (f.sc.getD p 0)):ln n s j f p v=fI n.k (bq f.aj f.cs) (bX s f.sc p v):=by
 unfold ln;rw[QR ac];refine SX λtl r=>?_;obtain⟨m,hm⟩:=qQ h (x7 a) (λu hu=>by rw[u5,hu]at e;exact e) r;exact(RQ a q hm).1
def TW{f:x4}{o:Option (Λ)}{K:x4->Prop}(h:qT w f o):ab v8 (aP .eql an v6 v2 f (.slice ν 0 0)) w K=K (.bool (decide (o=ν))):=by
 obtain⟨a,n,c,rfl,e⟩:=h.nil;rw[p9 an.u,e]
def TX(h:e9 w dv n.k n.co s)(C:bc n.k n.co s)(aB:qU s)(bq:s.d9.length<=1000):ak v8 Ib [dv] w λr I=>Ext w I/\∃b:Bool,r= .bool b/\(b=v2↔qW n s/\im n s):=by
 have br:=C.d6;refine az func43 ?_;refine bn λg1 U bs O P=>?_;have Q:=h.box O P;obtain⟨lc,bt,bu,bw,bx,bz,af,bD,_,aG,bF,bG,ag,bH⟩:=id Q;rw[aJ aE.p 6 af rfl,fU dh.u ag,r8];have no:∀{I:x6},Ext U I->¬qW n s->Ext w I/\∃b:Bool,x4.bool v6= .bool b/\(b=v2↔qW n s/\im n s):=λaH R=>⟨O.F aH,v6,rfl,λh=>(by cases h),λh=>ro h.1 R⟩;refine b7.range s.d9.length (λj _ V=>Ext U V/\∀q,q<j->∀f,s.d9[q]?=σ f->∀p,p<f.sc.length->∀v∈ba s (f.sc.getD p 0),¬(0<(ln n s q f p v).1\/(ln n s q f p v).2=ν)) Ω ⟨Ext.refl _,λq E=>ro E (Nat.not_lt_zero _)⟩ ?_ ?_
 rotate_left
 .rintro _ V aI ⟨G,S⟩;refine b3 Ω ?_;refine(Q.W G).load λaK W=>?_;refine(TG W C).Y ?_;rintro _ bI _ ⟨aL,b,rfl,P⟩;exact⟨(O.F G).F aL,b,rfl,P.F ⟨λh=>⟨λj f z _=>S j (x5.1 z).1 f z,h⟩,λh=>h.2⟩⟩
 rintro j bJ V aI aM ⟨G,S⟩ aN;obtain⟨fn,a⟩:=aD (l:=s.d9) aM;have X:=aB fn (x7 a);obtain⟨ah,_,_⟩:=C.d9 fn (x7 a);refine bC Ω ?_;refine mi cC.p rfl dh.u cC.i (bp ag G) (by rw[u4,a];rfl) λcs aP=>?_;obtain⟨aS,aQ,a8,rfl,aj,aR,aT⟩:=mL aP;refine bE cC.i λga bK bL aV aX=>?_;refine b1 (vs:=[aS,aQ,a8,.bool (decide (fn.live≠0))]) cC.i rfl rfl (RY aj aR aT) aX λaZ a2 bM am=>?_;have ao:=aV.put a2 Ω;have ap:=G.F ao;have Y:=dl (bp aj ao);rw[aU cC.p rfl,aU a6.p rfl,aF Ψ (am.cell rfl),a1 an.u Y];refine b7.range fn.sc.length (λpos _ J=>Ext aZ J/\∀p,p<pos->∀v∈ba s (fn.sc.getD p 0),¬(0<(ln n s j fn p v).1\/(ln n s j fn p v).2=ν)) Y.le ⟨Ext.refl _,λp ac=>ro ac (Nat.not_lt_zero _)⟩ ?_ ?_
 rotate_left
 .rintro t5 J a7 ⟨A,Z⟩;refine b3 Ω ?_;rw[aO];refine aN _ _ ⟨ap.F A,λq E f z=>?_⟩;rcases Nat.lt_or_eq_of_le (Nat.le_of_lt_succ E)with aW|rfl
  .exact S q aW f z
  .rw[a]at z;cases z;exact Z
 rintro pos t5 J a7 K ⟨A,Z⟩ bb;obtain⟨u,hu⟩:=aD (l:=fn.sc) K;have aq:=x7 hu;have bd:=(ah.scope.1 u aq).1;have bN:=ah.d6 u aq;obtain⟨un,rfl⟩:=V3 bd;obtain⟨x,au⟩:=aD (l:=s.d6) (i:=un) Ω;have av:ba s (fn.sc.getD pos 0)=aC x:=by rw[u5,hu];exact pO au
 have aa:=ap.F A;refine bC Ω ?_;rw[bh an.u ai.i Ψ (Y.W A) hu,aJ aE.p 3 (af.W aa) rfl];refine gn rfl rfl ca.u an.i Ψ (bp aG aa) (by rw[u4,au];rfl) λbQ be=>?_;have ab:=dl be;rw[a1 an.u ab];refine b7.range (aC x).length (λq _ ad=>Ext J ad/\∀v∈(aC x).take q,¬(0<(ln n s j fn pos v).1\/(ln n s j fn pos v).2=ν)) ab.le ⟨Ext.refl _,λv H=>by cases H⟩ ?_ ?_
 rotate_left
 .rintro bf ad bg ⟨B,L⟩;rw[o9]at L;refine b3 Ω ?_;rw[aO];refine bb _ _ ⟨A.F B,λp ac=>?_⟩;rcases Nat.lt_or_eq_of_le (Nat.le_of_lt_succ ac)with aW|rfl
  .exact Z p aW
  .rw[av];exact L
 rintro q bf ad bg E ⟨B,L⟩ bi;obtain⟨v,H⟩:=aD (l:=aC x) E;have bj:=x7 H;have aw:=aa.F B;have M:v∈ba s (fn.sc.getD pos 0):=by rw[av];exact bj
 refine bC Ω ?_;rw[bh an.u ai.i Ψ (ab.W B) H];refine(Q.W aw).load λaK W=>?_;refine(Ta W C a K λu' bk=>by rw[u5,bk]at M;exact M).Y ?_;rintro _ bl _ ⟨ae,fv2,rfl,ay⟩;rw[<-zb C a X K M]at ay ⊢;rw[bA,bB];have bm:=aw.F ae;refine aY (λr bo=>bo=bl/\r= .bool (decide (0<(ln n s j fn pos v).1\/(ln n s j fn pos v).2=ν))) ?_ λax aA=>?_
 .rintro _ _ ⟨rfl,rfl⟩;rw[al];refine⟨λe=>no bm λR=>R j fn a X pos K v M e,λe=>?_⟩;rw[aO];refine bi _ _ ⟨B.F ae,λy N=>?_⟩;rw[r9,H,j6,j9,c9]at N;rcases N with N|rfl
  .exact L y N
  .exact e
 .rw[aU cC.p rfl,aF Ψ (((am.W A).W (B.F ae)).cell rfl),rs X,bO,bP,al];refine⟨λe=>aA _ _ ⟨rfl,by rw[rs (.inl e)]⟩,λe=>?_⟩;rw[TW ay];refine aA _ _ ⟨rfl,?_⟩;congr 1;exact decide_eq_decide.2 ⟨λh=>.inr h,λh=>h.resolve_left e⟩
end
section
variable{n:aI}{s:am}
def TY{i:Int}(f:bc n.k n.co s)(j:0<=i)(e:v∈ba s i)(r:∀x,s.d6[i.toNat]?=σ x->x.gone=0):∃x,dz s i v=σ x/\s.d6[i.toNat]?=σ x/\cu n s i v=x.un.getD v.toNat 0/\ew n i v/\v.toNat<x.un.length:=by
 unfold ba at e;cases a:s.d6[i.toNat]? with
 |none=>rw[a]at e;cases e
 |some x=>
  rw[a]at e;have p:v∈aC x:=e;have w:=r x a;have A:=(x5.1 a).1;have B:=f.d6;obtain⟨z,h⟩:=aD (l:=n.co) (i:=i.toNat) Ω;have C:=(f.var i.toNat x z a h).1;have E:=f.ev.2.2 z (x7 h);have y:=(e1.1 p).1;have q:ew n i v:=⟨j,Ω,y.1,by rw[u5,h,W7];omega⟩;refine⟨x,?_,rfl,?_,q,Ω⟩
  .unfold dz;rw[ms j,a];simp only;rw[ms ⟨w,p⟩]
  .unfold cu fl;rw[ms q,a]
end
def TZ{of:Λ->Int}{l:List (Λ)}(h:∀t∈l,of t<=k):(fI k of l).1=(l.map of).foldl min k/\((fI k of l).2=ν↔l=[]):=by
 unfold fI;have key:∀(l:List (Λ))(c:Int)(t:Λ),(l.foldl (simpStep of) (c,σ t)).1=(l.map of).foldl min c/\(l.foldl (simpStep of) (c,σ t)).2≠ν:=λl=>by
  induction l with
  |nil=>exact λc t=>⟨rfl,λh=>by cases h⟩
  |cons a l e=>
   intro c t;rw[V7,T3,V7];by_cases f:of a<c
   .rw[show simpStep of (c,σ t) a=(of a,σ a) by unfold simpStep;rw[ms (.inr f)],show min c (of a)=of a by omega];exact e _ _
   .rw[show simpStep of (c,σ t) a=(c,σ t) by unfold simpStep;rw[rc Θ],show min c (of a)=c by omega];exact e _ _
 cases l with
 |nil=>exact⟨rfl,λ_=>rfl,λ_=>rfl⟩
 |cons a l=>
  have p:=h a (.head _);rw[V7,show simpStep of (k,ν) a=(of a,σ a) by unfold simpStep;rw[ms (.inl rfl)],T3,V7,show min k (of a)=of a by omega];obtain⟨h1,j⟩:=key l (of a) a;exact⟨h1,λh=>ro h j,λh=>by cases h⟩
section
variable{n:aI}{s:am}
def Ua(q:bc n.k n.co s)(w:b4 s)(y:∀(j:Nat)f,s.d9[j]?=σ f->f.live≠0->j∈O):vw n O s↔ ∀(j:Nat)f,s.d9[j]?=σ f->f.live≠0->∀(pos:Nat)i,f.sc[pos]?=σ i->∀v∈ba s i,(fI n.k (bq f.aj f.cs) (bX s f.sc pos v)).1<=0/\(fI n.k (bq f.aj f.cs) (bX s f.sc pos v)).2≠ν:=by
 have hk:=q.fk;have key:∀(j:Nat)f,s.d9[j]?=σ f->f.live≠0->∀(pos:Nat)i,f.sc[pos]?=σ i->∀v∈ba s i,(mU n.k s j pos v=0↔(fI n.k (bq f.aj f.cs) (bX s f.sc pos v)).1<=0/\(fI n.k (bq f.aj f.cs) (bX s f.sc pos v)).2≠ν):=λj f a e pos i hi v p=>by
  have r:=x7 a;have z:=((q.d9 f r).1.scope.1 i (x7 hi)).1;obtain⟨x,A,_⟩:=TY q z p (w f r e i (x7 hi));have ac:dp s (j:Int) (pos:Int) v=σ (f,i,x):=by
   unfold dp;rw[ms Ω,u9,a];simp only;rw[ms e,u9,hi];simp only;rw[A];rfl
  obtain⟨B,C⟩:=TZ (k:=n.k) (of:=bq f.aj f.cs) (l:=bX s f.sc pos v) λt _=>(nD q r).2;have I:=GA (pos:=pos) (v:=v) q r;have E:mU n.k s j pos v=eh n.k s f pos v:=by unfold mU;rw[ac]
  rw[E,B];show eh n.k s f pos v=0↔eh n.k s f pos v<=0/\_;refine⟨λh=>⟨Ω,λF=>?_⟩,λh=>Ω⟩;have G:=C.1 F;unfold eh at h;rw[G]at h;have:n.k=0:=h;omega
 constructor
 .intro h j f a e pos i hi v p;refine(key j f a e pos i hi v p).1 (h j (y j f a e) f a pos (S1.2 (x5.1 hi).1) v ?_);rw[u5,hi];exact p
 .intro h j J f a pos H v p;obtain⟨i,hi⟩:=aD (l:=f.sc) (i:=pos) (S1.1 H);rw[u5,hi]at p;by_cases e:f.live≠0
  .exact (key j f a e pos i hi v p).2 (h j f a e pos i hi v p)
  .unfold mU;have:dp s (j:Int) (pos:Int) v=ν:=by
    unfold dp;split
    .rw[u9,a];simp only;rw[rc e]
    .rfl
   rw[this]
end
structure Ub(P:am->Prop)(n:aI)(s:am)(q:am×Bool×Bool):Prop where
 aX:gE n.k n.co s q.1
 emp:q.2.2=v2->q.2.1=v6/\∃i<n.co.length,dD s i=v6/\ba q.1 (i:Int)=[]
 less:q.2.2=v6->q.2.1=v2->fJ n q.1<fJ n s
 same:q.2.2=v6->q.2.1=v6->q.1=s/\im n s/\P s
 quiet:im n s->P s->q=(s,v6,v6)
section
variable{n:aI}{s:am}
def zc(s:am)(O:List Nat):Prop:=∀(j:Nat)f,s.d9[j]?=σ f->f.live≠0->j∈O
def GN(w:bc n.k n.co s)(z:b4 s)(A:zc s O):vw n O s↔qW n s:=by
 rw[Ua w z A];constructor
 .intro h j f a e p ac v q y;obtain⟨i,hi⟩:=aD (l:=f.sc) ac;rw[zb w a e ac q]at y;have r:v∈ba s i:=by rw[u5,hi]at q;exact q
  obtain⟨h1,B⟩:=h j f a e p i hi v r;exact y.elim (λh=>Ω) B
 .intro h j f a e p i hi v q;have ac:=(x5.1 hi).1;have r:v∈ba s (f.sc.getD p 0):=by rw[u5,hi];exact q
  have x:=h j f a e p ac v r;rw[zb w a e ac r]at x;exact⟨Int.not_lt.1 λh=>x (.inl h),λh=>x (.inr h)⟩
def Uc(e:bc n.k n.co s)(f:b4 s)(j:zc s O):Ub (qW n) n s (ei n O s):=by
 obtain⟨p,q,r,h⟩:=y8 (n:=n) (O:=O) e f;exact⟨p,q,r,λh1 a=>⟨(h h1 a).1,(h h1 a).2.1,(GN e f j).1 (h h1 a).2.2⟩,λh1 a=>Tz e h1 ((GN e f j).2 a)⟩
def vB(n:aI)(s:am):Prop:=qW n s
end
def oD(n:aI)(O:List Nat):Nat->am->Bool
 |0,_=>v6
 |f+1,s=>(ei n O s).2.2|| !(ei n O s).2.1||oD n O f (ei n O s).1
section
variable{n:aI}{O:List Nat}
theorem zd:∀(f g:Nat)(s:am),f<=g->oD n O f s=v2->jQ n O g s=jQ n O f s
 |0,_,_,_,h=>by cases h
 |f+1,0,_,h,_=>Ω
 |f+1,g+1,s,h,e=>by
  unfold oD at e;unfold jQ;by_cases he:(ei n O s).2.2=v2
  .rw[ms he,ms he]
  rw[rc he,rc he];by_cases a:(ei n O s).2.1=v2
  .rw[ms a,ms a];refine zd f g _ Ω ?_;have he:(ei n O s).2.2=v6:=by simpa using he
   rw[he,a]at e;simpa using e
  .rw[rc a,rc a]
theorem GO:∀(f:Nat)(s:am),bc n.k n.co s->b4 s->fJ n s<f->oD n O f s=v2
 |0,_,_,_,h=>Ω
 |f+1,s,a,e,q=>by
  obtain⟨h1,r,j,w⟩:=y8 (O:=O) a e;unfold oD;cases he:(ei n O s).2.2 with
  |true=>rfl
  |false=>
   cases p:(ei n O s).2.1 with
   |false=>rfl
   |true=>
    have:=j he p;rw[GO f _ h1.ok h1.iX Ω];rfl
def Ud{s:am}{f g:Nat}(a:bc n.k n.co s)(e:b4 s)(j:oD n O f s=v2)(p:fJ n s<g):jQ n O g s=jQ n O f s:=by
 by_cases h:f<=g
 .exact zd f g s h j
 .exact (zd g f s Ω (GO g s a e p)).symm
end
def iD(s:am)(m:Nat):List Nat:=(X9 m).filter (fv s)
def GP{s:am}{m:Nat}:iD s (m+1)=iD s m++if fv s m=v2 then[m]else[]:=by
 unfold iD;rw[List.range_succ,List.filter_append];congr 1;by_cases h:fv s m=v2
 .rw[ms h,List.filter_cons_of_pos h];rfl
 .rw[rc h,List.filter_cons_of_neg h];rfl
def Ue{s:am}(h:O.Perm (iD s s.d9.length)):zc s O:=λj f a e=>by
 refine h.symm.subset (S8.2 ⟨S1.2 (x5.1 a).1,?_⟩);unfold fv;rw[a];exact rs e
def Uf{s:am}:∀m,(iD s m).length<=m:=λm=>by
 have:=List.length_filter_le (fv s) (X9 m);rw[List.length_range]at this;exact this
open Classical in
def kS.sink{b c:x4}{B:x4->x4->x4->x6->(x4->x4->x4->x6->Prop)->Prop}(ax:Nat->x4->x6->Prop){m:Nat}(q:ax m c w)(J:∀(m:Nat)(a b c:x4)(I:x6)(k:x4->x4->x4->x6->Prop),ax m c I->(∀bR a b c f,bR<m->ax bR c f->k a b c f)->B a b c I k):kS a b c w B:=by
 have j:∀{c:x4}{w:x6},(∃m,ax m c w)->∃m,ax m c w/\∀k,ax k c w->m<=k:=λ⟨m,h⟩=>GD (P:=λm=>ax m _ _) m h;refine⟨λ_ _ c w=>∃m,ax m c w,λ_ _ c w=>if h:∃m,ax m c w then Classical.choose (j h)else 0,⟨m,q⟩,λa b c I p=>?_⟩;obtain⟨h1,r⟩:=Classical.choose_spec (j p);refine J _ a b c I _ h1 λbR _ _ s f x e=>⟨⟨bR,e⟩,?_⟩;have y:=(Classical.choose_spec (j ⟨bR,e⟩)).2 bR e;show dite _ _ _<dite _ _ _;rw[dif_pos p,dif_pos ⟨bR,e⟩];omega
section
variable{au:List aA}{w:x6}{ad ae:Nat}{A R:ah}{n:aI}{s:am}{t:aA}
def Ug(h:bG w ad ae A R n s t)(Q:s.d9.length<=1000000):ak v8 Ii [Γ ad] w λr I=>∃g H P,r=Γ g/\Ext w I/\ej (λr=>w.heap.size<=r/\r<I.heap.size) I g H P/\(kO H).Perm ((iD s s.d9.length).map λj:Nat=>(j:Int)):=by
 refine az func54 ?_;refine(qK h).Y ?_;rintro _ U _ ⟨rfl,B⟩;have ap:=B.size;refine(TN (S:=λr=>w.heap.size<=r) Q λr y=>Ω).Y ?_;rintro _ V _ ⟨g,rfl,G,aq,W⟩;refine(qK (h.W (B.F G))).Y ?_;rintro _ au _ ⟨rfl,J⟩;have X:=(B.F G).F J;refine bY.range s.d9.length (λi z=>Ext w z/\∃H P,ej (λr=>w.heap.size<=r) z g H P/\P.length=s.d9.length/\(kO H).Perm ((iD s i).map λj:Nat=>(j:Int))) Ω ⟨X,[],_,W.W J,Ξ,.refl _⟩ ?_ ?_
 .rintro i z Y hi ⟨p,H,P,q,K,ac⟩ Z;refine bC Ω ?_;have z4:=p.size;refine c8 (λC=>Ext w C/\∃H P,ej (λr=>w.heap.size<=r) C g H P/\P.length=s.d9.length/\(kO H).Perm ((iD s (i+1)).map λj:Nat=>(j:Int))) ?_ λax L=>?_
  .rintro C aa;rw[aO];exact Z _ aa
  refine(ym (j:=(i:Int)) (h.W p)).Y ?_;rintro _ av _ ⟨rfl,x⟩;rw[rs Ω,Q4,u9,cb];refine⟨λE=>?_,λE=>L _ ⟨p.F x,H,P,q.W x,K,by rw[GP,rc (by rw[E];decide),U2];exact ac⟩⟩;obtain⟨f,ab⟩:=aD (l:=s.d9) hi;refine(ss (h.W (p.F x)) ab).Y ?_;rintro sv aw _ ⟨M,gs,ay,af⟩;rw[a1 an.u af.ls];have N:=(p.F x).F M;have aA:=N.size;have ag:P[i]?=σ (-1):=by
   obtain⟨v,O⟩:=aD (l:=P) (i:=i) Ω;rcases q.1.1.pl i v O with e|⟨j,a,_,ah,e⟩
   .rw[O,e]
   .have:(i:Int)∈kO H:=j5.2 ⟨a,x7 ah,e⟩;obtain⟨k,hk,aB⟩:=j5.1 (ac.subset this);have:=S1.1 (S8.1 hk).1;omega
  have aC:H.length<=i:=by
   have e:=ac.length_eq;have:=Uf (s:=s) i;unfold kO at e;rw[r8,r8]at e;omega
  refine(TO ((q.W x).W M) ag Ω Ω λr y=>Ω).Y ?_;rintro _ aE _ ⟨ai,aj,al,am,ao,aF⟩;refine L _ ⟨N.then al λr y h=>Ω,ai,aj,am,Ω,?_⟩;rw[GP,ms E,Z4];refine(GJ ao).F ?_;unfold kO at ac ⊢;rw[Z4];exact ac.append_right _
 .rintro z Y ⟨p,H,P,q,K,ac⟩;refine b3 Ω ?_;exact⟨g,H,P,rfl,p,q.Y λr y h=>⟨h,y⟩,ac⟩
def Uh(au:List aA)(w:x6)(ad ae:Nat)(A R:ah)(n:aI)(s:am)(r:x4)(I:x6):Prop:=∃O:List Nat,O.Perm (iD s s.d9.length)/\GG au w ad ae A R n (ei n O s) r I
def GQ{s':am}(h:dG s s'):iD s' s'.d9.length=iD s s.d9.length:=by
 unfold iD;rw[h.d9];refine List.filter_congr λj a=>?_;have a:=S1.1 a;have r:=h.d9;obtain⟨f,e⟩:=aD (l:=s.d9) a;obtain⟨q,p⟩:=aD (l:=s'.d9) (i:=j) Ω;unfold fv;rw[e,p];simp only;rw[(h.fn j f q e p).2.2.1]
def GR(h:bG w ad ae A R n s t)(an:Laid w)(ao:¬A 0)(ap:eC au t)(B:b4 s)(bd:s.d9.length<=1000000):ak v8 H0 [Γ ad] w (Uh au w ad ae A R n s):=by
 have G:=h.2.2.2.1;refine az func22 ?_;refine(TD h an ao ap B).Y ?_;rintro _ U _ ⟨rfl,I⟩;obtain⟨y,_⟩:=Gp (n:=n) G B;rw[bA,bB];generalize aq:fx n s=q at I y;have K:∀O,ei n O s=if q.2.2=v2\/q.2.1=v2 then q else((O.foldl (eE n.k) (q.1,v6)).1,(O.foldl (eE n.k) (q.1,v6)).2,v6):=λO=>by unfold ei;rw[aq]
 refine aY (λv V=>U=V/\v= .bool (q.2.2||q.2.1)) ?_ λax M=>?_
 rotate_left
 .rw[bK,al];refine⟨λN=>M _ _ ⟨rfl,?_⟩,λhe=>M _ _ ⟨rfl,?_⟩⟩
  .cases he:q.2.2 with
   |true=>rfl
   |false=>rw[he]at N;exact ro rfl N
  .have he:q.2.2=v6:=by
    cases av:q.2.2 with
    |true=>rw[av]at he;exact ro Φ he
    |false=>rfl
   rw[he,Bool.false_or]
 rintro _ _ ⟨rfl,rfl⟩;rw[cb];refine⟨λx=>⟨_,.refl _,?_⟩,λx=>?_⟩
 .have e:=K (iD s s.d9.length);rw[ms (by simpa using x)]at e;rw[e];exact⟨rfl,I⟩
 rw[U1]at x;obtain⟨aw,be,Q,ay,aA,aB,aC⟩:=I.open;have aE:=GQ y.same;have bf:=y.same.d9;refine(Ug Q Ω).Y ?_;rintro _ C _ ⟨g,H,P,rfl,S,aF,T⟩;rw[aE]at T;have z3:=S.size;refine kS.sink (λm c E=>∃(z:List (Int×Int))(W:Λ)(p:List Nat),z.length=m/\ej (λr=>U.heap.size<=r/\r<C.heap.size) E g z W/\(p.map (λj:Nat=>(j:Int))++kO z).Perm ((iD s s.d9.length).map λj:Nat=>(j:Int))/\c= .bool (p.foldl (eE n.k) (q.1,v6)).2/\
   dR au U ad ae aw R n U.heap.size (λr=>C.heap.size<=r) (p.foldl (eE n.k) (q.1,v6)).1 E/\C.heap.size<=E.heap.size) ⟨H,P,[],rfl,aF,T,by rw[x.2];rfl,dR.start Q ay aA aB S (o4 _),o4 _⟩ ?_
 rintro m aG aH _ E aI ⟨z,W,p,rfl,aJ,ac,rfl,X,bg⟩ aK;have aL:=(sP (n:=n) (step:=eE n.k) (λj s b G B=>GB G B) p q.1 v6 y.ok y.iX).1;refine(TQ aJ).Y ?_;rintro _ bh _ (⟨rfl,aM,rfl⟩|⟨a,J,aO,rfl,Y,aP,Z,bi⟩)
 .rw[fQ,fR,fS,bL,W6,bO];have aQ:p.Perm (iD s s.d9.length):=by
   have ab:=ac.map Int.toNat;have e:∀L:List Nat,(L.map λj:Nat=>(j:Int)).map Int.toNat=L:=λL=>by rw[S5];exact(List.map_congr_left λj _=>u9 j).F (List.map_id L)
   rw[show kO []=[]from rfl,U2,e,e]at ab;exact ab
  refine⟨p,aQ,?_⟩;have e:=K p;rw[rc (by rw[x.1,x.2];simp)]at e;rw[e];exact⟨rfl,aC (X.done aM)⟩
 rw[fQ,fR,fS,bL,X3,a7];have af:=X.own Y λr ag=>⟨ag.1,Ω⟩;have z5:=Y.size;have ah:(kO z).Perm (kO J++[a.2]):=by
  have:=GJ Z;unfold kO at this ⊢;rw[Z4]at this;exact this
 have aR:a.2∈(iD s s.d9.length).map λj:Nat=>(j:Int):=ac.subset (List.mem_append_right _ (ah.symm.subset Ξ));obtain⟨j,aS,ai⟩:=j5.1 aR;have bj:=S1.1 (S8.1 aS).1;have bk:=aL.same.d9;obtain⟨f,aT⟩:=aD (l:=(p.foldl (eE n.k) (q.1,v6)).1.d9) (i:=j) Ω;obtain⟨bl,t5,aU,aV,aW,aX⟩:=af.sM;rw[<-ai];refine(TV aU af.2.1.1 aW aV aT).Y ?_;rintro _ aZ _ ⟨rfl,a1,bm,aN,bt,a2,a6,a8,bn⟩;obtain⟨ba,aj,bo⟩:=aX (D':=λr=>C.heap.size<=r) a1 a2 a6 a8 (λr h=>h) λr bp x=>Ω
 have bq:=aj.size;have bb:=Z.length_eq;rw[n9,T5]at bb;have am:(p++[j]).foldl (eE n.k) (q.1,v6)=((eE n.k ((p.foldl (eE n.k) (q.1,v6)).1,v6) j).1,(eE n.k ((p.foldl (eE n.k) (q.1,v6)).1,v6) j).2||(p.foldl (eE n.k) (q.1,v6)).2):=by
  rw[S2];exact TS _ _ j
 have go:∀{c:x4},c= .bool ((eE n.k ((p.foldl (eE n.k) (q.1,v6)).1,v6) j).2||(p.foldl (eE n.k) (q.1,v6)).2)->aI aG aH c aZ:=λ{c}bc=>by
  refine aK J.length _ _ _ _ Ω ⟨J,aO,p++[j],rfl,aP.aa aj λr ag h=>Ω,?_,by rw[am];exact bc,by rw[am];exact ba,Ω⟩;rw[Z4,T6];refine(List.Perm.append_left _ ?_).F ac;rw[List.map_singleton,ai];exact List.perm_append_comm.F ah.symm
 rw[cb];exact⟨λx=>go (by rw[x,Bool.true_or]),λx=>go (by rw[x,Bool.false_or])⟩
end
section
variable{au:List aA}{w:x6}{ad ae:Nat}{A R:ah}{n:aI}{s:am}{t:aA}
def Ui(h:bG w ad ae A R n s t)(G:Laid w)(H:¬A 0)(J:eC au t)(K:b4 s)(aa:s.d9.length<=1000000):ak v8 Ap [Γ ad] w λr I=>∃q:am×Bool,TH (vB n) n s q/\r=Δ (if q.2=v2 then 8 else 0)/\cS au w ad ae A R n q.1 I:=by
 have L:=h.2.2.2.1;refine az func10 ?_;refine bY.sink (λm U=>∃s1,cS au w ad ae A R n s1 U/\gE n.k n.co s s1/\fJ n s1=m/\(im n s->vB n s->s1=s)) ⟨s,cS.same h G H J (Ext.refl _),.rfl L K,rfl,λ_ _=>rfl⟩ ?_;rintro m _ U ab ⟨s1,hm,f,ac,z⟩ M;obtain⟨af,ag,N,P,Q,S,T⟩:=hm.open;have ah:=f.same.d9;refine(GR N P Q S f.iX Ω).Y ?_;rintro _ V _ ⟨O,W,rfl,x⟩;have a:=Uc f.ok f.iX (Ue W);generalize ei n O s1=q at a x;have x:=T x;have ai:=f.ok.d6;rw[bA,bB];refine aY (λr I=>I=V/\r= .bool (q.2.2|| !q.2.1)) ?_ λax B=>?_
 .rintro _ _ ⟨rfl,rfl⟩;rw[cb];refine⟨λj=>?_,λj=>?_⟩
  .cases he:q.2.2 with
   |true=>
    obtain⟨_,i,hi,X,Y⟩:=a.emp he;refine⟨(q.1,v2),⟨f.F a.aX,λ_=>⟨i,hi,?_,Y⟩,λh=>(by cases h),λh1 p=>?_⟩,rfl,x⟩
    .show dD q.1 i=v6;rw[GC a.aX.same Ω];exact X
    .have e:=z h1 p;subst e;rw[a.quiet h1 p]at he;cases he
   |false=>
    rw[he,Bool.false_or,Bool.not_eq_true']at j;obtain⟨e,h1,p⟩:=a.same he j;refine⟨(q.1,v6),⟨f.F a.aX,λh=>(by cases h),λ_=>?_,λC y=>?_⟩,rfl,x⟩
    .show im n q.1/\vB n q.1;rw[e];exact⟨h1,p⟩
    .rw[e,z C y]
  .rw[U1,Bool.not_eq_false']at j;have C:=a.less j.1 j.2;refine M (fJ n q.1) _ _ Ω ⟨q.1,x,f.F a.aX,rfl,λh1 p=>?_⟩;have e:=z h1 p;subst e;have y:=j.2;rw[a.quiet h1 p]at y;cases y
 rw[bK,al];refine⟨λE=>B _ _ ⟨rfl,?_⟩,λhe=>?_⟩
 .cases he:q.2.2 with
  |true=>rfl
  |false=>rw[he]at E;exact ro rfl E
 .have he:q.2.2=v6:=by
   cases Z:q.2.2 with
   |true=>rw[Z]at he;exact ro Φ he
   |false=>rfl
  rw[bL];exact B _ _ ⟨rfl,by rw[he,Bool.false_or]⟩
def Uj{u:Nat}(h:bG w ad ae A R n s t)(J:Laid w)(K:¬A 0)(L:eC au t)(y:b4 s)(ab:s.d9.length<=1000000)(M:∀x,x.Perm (iD s s.d9.length)->x=O)(N:oD n O u s=v2):
  ak v8 Ap [Γ ad] w λr I=>r=Δ (if(jQ n O u s).2=v2 then 8 else 0)/\cS au w ad ae A R n (jQ n O u s).1 I:=by
 have z:=h.2.2.2.1;rw[<-Ud z y N (Nat.lt_succ_self (fJ n s))];generalize P:jQ n O (fJ n s+1) s=E;refine az func10 ?_;refine bY.sink (λm U=>∃s1 f,cS au w ad ae A R n s1 U/\gE n.k n.co s s1/\fJ n s1=m/\m<f/\jQ n O f s1=E) ⟨s,_,cS.same h J K L (Ext.refl _),.rfl z y,rfl,Nat.lt_succ_self _,P⟩ ?_;rintro m _ U ac ⟨s1,f,hm,j,af,ag,a⟩ Q;obtain⟨f,rfl⟩:∃g,f=g+1:=⟨f-1,Ω⟩;obtain⟨ah,ai,S,T,W,X,Y⟩:=hm.open;have aj:=j.same.d9;obtain⟨B,am,C,an⟩:=y8 (n:=n) (O:=O) j.ok j.iX;rw[jQ]at a;refine(GR S T W X j.iX Ω).Y ?_;rintro _ V _ ⟨x,Z,rfl,p⟩;obtain rfl:=M x (by rw[<-GQ j.same];exact Z);have p:=Y p;generalize ei n x s1=q at B C a p;rw[bA,bB];refine aY (λr I=>V=I/\r= .bool (q.2.2|| !q.2.1)) ?_ λax G=>?_
 .rintro _ _ ⟨rfl,rfl⟩;rw[cb];refine⟨λe=>?_,λe=>?_⟩
  .cases he:q.2.2 with
   |true=>
    rw[he,ms rfl]at a;rw[<-a];exact⟨by rw[ms rfl],p⟩
   |false=>
    rw[he,Bool.false_or,Bool.not_eq_true']at e;rw[he,e,rc Φ,rc Φ]at a;rw[<-a];exact⟨rfl,p⟩
  .rw[U1,Bool.not_eq_false']at e;have ao:=C e.1 e.2;rw[e.1,e.2,rc Φ,ms rfl]at a;exact Q (fJ n q.1) _ _ Ω ⟨q.1,f,p,j.F B,rfl,Ω,a⟩
 rw[bK,al];refine⟨λH=>G _ _ ⟨rfl,?_⟩,λhe=>?_⟩
 .cases he:q.2.2 with
  |true=>rfl
  |false=>rw[he]at H;exact ro rfl H
 .have he:q.2.2=v6:=by
   cases aa:q.2.2 with
   |true=>rw[aa]at he;exact ro Φ he
   |false=>rfl
  rw[bL];exact G _ _ ⟨rfl,by rw[he,Bool.false_or]⟩
end
def GS{p:x4}(ac:aM .u8 w p pl)(S:Bytes pl)(aZ:fs w):ak v8 H2 [p] w (RO w (pl.take 300)):=by
 refine az func24 ?_;refine bE aE.i λz U bN ah Y=>?_;have Y:ag U z aE z12:=Y;rw[a1 cT.u (ac.W ah),ni];refine Ls (i:=min pl.length 300) Ω cT.u cO.i (ac.W ah) Ω λbP aj=>?_;have a2:pl.take (min pl.length 300)=pl.take 300:=by
  by_cases h:pl.length<=300
  .rw[Nat.min_eq_left h,o9,b9 h]
  .rw[Nat.min_eq_right Ω]
 rw[a2]at aj;have Z:Bytes (pl.take 300):=λb a=>S b (T1 a);have a6:(pl.take 300).length<=300:=by rw[o8];omega
 generalize pl.take 300=q at aj Z a6;refine(QE aj Ω).Y ?_;rintro bQ V _ ⟨am,bR,an⟩;have aF:=ah.F am;refine(Om an.ls Z Ω (aZ.W aF)).Y ?_;rintro bS bT _ ⟨W,B⟩;have aG:=aF.F W;cases E:gY q with
 |none=>
  rw[E]at B;obtain⟨n,e,rfl,he⟩:=B;rw[fQ,fR,fS];refine(EM (an.W W).ls Z Ω).Y ?_;rintro a8 ao _ ⟨L,ba,bb,ap,_⟩;obtain rfl:=ap E;rw[fQ,fR,fS];refine aY (λv X=>v= .bool v2/\Ext ao X) ?_ ?_
  .rintro _ X ⟨rfl,H⟩;rw[bO,dk (cs:=#[Δ 0,.slice ν 0 0,Δ 0,.slice ν 0 0,.slice ν 0 0,.slice ν 0 0,.slice ν 0 0,.slice ν 0 0]) Ψ];obtain⟨_,_,s,C⟩:=Fa;refine b1 (vs:=z12) aE.i rfl rfl (by intro u hu;simp[z12]at hu;rcases hu with rfl|rfl|rfl|rfl<;>rfl) ((((Y.W am).W W).W L).W H) λbU bc bV bd=>?_;rw[fe aE.p aE.i rfl bd.range];refine⟨((aG.F L).F H).then bc λr B he=>by have he:r=z:=he;omega,_,_,v6,rfl,⟨rfl,(Fa).elim λ_ h=>by obtain⟨_,_,h⟩:=h;exact λu hu=>by simp[z12]at hu;rcases hu with rfl|rfl|rfl|rfl<;>rfl⟩,.inl ⟨rfl,rfl⟩,λf aI=>?_⟩;rw[E]at aI;cases aI
  .intro ax I;rw[bK,al];exact⟨λ_=>I _ _ ⟨rfl,Ext.refl _⟩,λh=>ro he h⟩
 |some f=>
  rw[E]at B;obtain⟨bW,n,rfl,be⟩:=B;obtain⟨N,bf,M,bg,bh⟩:=QC Ω E;have O:=Dy M;have ab:=yp M;rw[fQ,fR,fS];refine(EM (an.W W).ls Z Ω).Y ?_;rintro a8 ao _ ⟨L,ba,bb,_,ap⟩;obtain⟨bX,rfl,bi⟩:=ap f E;rw[fQ,fR,fS];refine aY (λv X=>v= .bool v6/\Ext ao X) ?_ ?_
  rotate_left
  .intro ax I;rw[bK,al];refine⟨λh=>ro rfl h,λ_=>?_⟩;rw[di wF.u];exact I _ _ ⟨rfl,Ext.refl _⟩
  rintro _ X ⟨rfl,H⟩;rw[a7];have aJ:=(aG.F L).F H;refine(Pw ((be.W L).W H) M bf ⟨bg,bh⟩).Y ?_;rintro bY bj _ ⟨aq,bk⟩;have af:=aJ.F aq;have P:=((((Y.W am).W W).W L).W H).W aq;have aK:=(bi.W H).W aq;have bZ:=af.size;have b0:w.heap.size<=z:=Ω
  have b2:=P.lt;rcases bk with⟨bm,e,he,rfl⟩|⟨b3,rfl,bn⟩
  .rw[bA,bB];refine QD.Y ?_;rintro _ aL _ ⟨rfl,j⟩;refine i9 (λau t4 x=>au= .pointer ν/\t4= .bool v6/\Ext w x/\∃cs:List x4,ag x z aE cs/\cs.length=8/\∀u∈cs,u.oneCell'=v2) ?_ ?_
   .rintro _ _ x ⟨rfl,rfl,av,cs,aw,s,C⟩;rw[fe aE.p aE.i s aw.range];exact⟨av,_,cs,v6,rfl,⟨s,C⟩,.inl ⟨rfl,rfl⟩,λb4 aN bo=>ro bo (by rw[E]at aN;cases aN;exact bm)⟩
   .intro ax I;have bp:=j.size;refine(EW (aK.W j) M).Y ?_;rintro bq ay _ ⟨y,aA⟩;refine(Fw (R:=λr=>w.heap.size<=r/\∃c,ag ay r ai c) (λr h=>h.2.elim λc a=>a.lt) (λr c S a=>⟨Ω,c,a⟩) aA O.1 ab).Y ?_;rintro br bs _ ⟨G,A9,cs,rfl,Q,aB⟩;obtain⟨s,C⟩:=Q.len;rw[bl,al];refine⟨λh=>ro h he,λ_=>?_⟩;refine b1 (vs:=cs) aE.i s rfl C (((P.W j).W y).W G) λbt K aO aC=>?_;exact I _ _ _ ⟨rfl,rfl,(((af.F j).F y).F G).then K λr B he=>by have he:r=z:=he;omega,cs,aC,s,C⟩
  .rw[bA,bB];obtain⟨b5,bu,aP,bw⟩:=bn;have z5:=aJ.size;refine(PS (R0:=λr=>w.heap.size<=r/\r<bj.heap.size) bu aP (λr o h J=>⟨by have:=bw r o h J;omega,(Z0.1 (aP.aX r o h J)).1⟩) (λr h=>h.2) O.1 ab).Y ?_;rintro _ aL _ ⟨j,ad,ae,A,R,t,rfl,bx,aQ,aR,aS,bz⟩;have aT:bG aL ad ae A R (cK f) (c6 (cK f)) t:=⟨bx,aQ,QG O.1 ab aQ aR,PF O.1,O.1⟩;refine i9 (λau t4 x=>au=Γ ad/\t4= .bool v2/\Ext w x/\∃cs:List x4,ag x z aE cs/\cs.length=8/\(∀u∈cs,u.oneCell'=v2)/\∃R' A9 aH,bG x ad ae A R' (cK f) (c6 (cK f)) t/\gC v2 A9 aH x cs (cK f).k (cK f).co (c6 (cK f))/\(∀q r,A9 q r->¬A r/\¬R' r/\w.heap.size<=r)/\(∀r,aH r->¬eH x r/\r<x.heap.size/\w.heap.size<=r)/\∀r,R' r->w.heap.size<=r) ?_ ?_
   .rintro _ _ x ⟨rfl,rfl,av,cs,aw,s,C,R',A9,aH,bC,Q,bD,bF⟩;rw[fe aE.p aE.i s aw.range];exact⟨av,_,cs,v2,rfl,⟨s,C⟩,.inr ⟨rfl,f,E,ad,ae,A,R',t,N,A9,aH,M,rfl,bC,aR,λr B=>by have:=aS r B;omega,Q,bD,bF⟩,λ_ _ _=>rfl⟩
   .intro ax I;have bp:=j.size;refine(EW (aK.W j) M).Y ?_;rintro bq ay _ ⟨y,aA⟩;refine(Fw (R:=λr=>w.heap.size<=r/\∃c,ag ay r ai c) (λr h=>h.2.elim λc a=>a.lt) (λr c S a=>⟨Ω,c,a⟩) aA O.1 ab).Y ?_;rintro br bs _ ⟨G,A9,cs,rfl,Q,aB⟩;obtain⟨s,C⟩:=Q.len;rw[bl,al];refine⟨λ_=>?_,λh=>ro rfl h⟩;rw[wJ eF.u];have aU:=((P.W j).W y).W G;have bH:=((af.F j).F y).F G;refine b1 (vs:=cs) aE.i s rfl C aU λbt K aO aC=>?_;have aV:=(aT.W y).W G;obtain⟨R',aW,bI⟩:=aV.1.put aU K λh=>by have:=aS z h;omega
    have b6:=((af.F j).F y).size;have b7:=G.size;obtain⟨_,_,_,_,⟨_,_,bJ,bL⟩,_⟩:=(aT.W y).1;have b8:=P.lt;have ca:=(j.F y).size;have bM:=Q.aa K λr B h he=>by
     have he:r=z:=he;rcases h with⟨q,h⟩|⟨_,c,a⟩
     .have:=aB q r h;omega
     .subst he;exact ro (ft a (((P.W j).W y))) Φ
    refine I _ _ _ ⟨rfl,rfl,bH.then K λr B he=>by have he:r=z:=he;omega,cs,aC,s,C,R',A9,_,⟨bI,aV.2⟩,bM,λq r h=>?_,λr h=>?_,λr h=>?_⟩
    .have cb:=aB q r h;refine⟨λaD=>by have:=bL r aD;omega,λaD=>by have:=bJ r (aW r aD).1;omega,Ω⟩
    .obtain⟨S,c,a⟩:=h;have cc:=a.lt;have aO:=K.size;refine⟨QB ((a.W G).aa K λhe=>?_) Φ,Ω,S⟩;have he:r=z:=he;subst he;exact ro (ft a (((P.W j).W y))) Φ
    .rcases bz r (aW r h).1 with h|h
     .exact h.1
     .omega
section
variable{Z aH:ah}{w I:x6}{ad ae aq:Nat}{A R:ah}{A9:Nat->ah}{n:aI}{s s':am}{t:aA}{cs:List x4}{a:gg}
def Uk(h:fm Z aH w ad ae aq n s)(X:a.ok):ak v8 wp [Γ ad,Γ aq,.agg a.b5.toArray] w λ_ I=>lr Z aH w ad ae aq n (mR n s a) I:=by
 obtain⟨A,R,A9,t,cs,p,⟨aB,Q⟩,aC,S,aD⟩:=id h;have N:=p.dy.2.2.2.1;have bs:=N.fk;have bt:=a.Td;have G:¬A 0:=λh=>Q ((S 0).2 (.inl h));have Y:=Te (a:=a) aC N;refine az func27 ?_;refine bn λga U bu aG ab=>?_;have ab:ag U ga dc [.int .u8 a.d,Δ a.i,Δ a.pos,Δ a.v,Δ a.c]:=ab;intro V aI _ _;have C:=aG.F aI;have B:=ab.W aI;have bw:=aG.size;have bx:=C.size;have bz:=B.lt;have ac:(a.d % 7).toNat=a.kind:=rfl;obtain⟨lc,bA,bB,bC,bD,bE,aW,_⟩:=p.pJ;have aX:cs[0]?=σ (Δ n.k):=by rw[aW];rfl
 have hu:T7.wrap a.c=a.c.emod 18446744073709551616:=rfl;have aY:0<=a.c.emod 18446744073709551616:=Int.emod_nonneg _ Φ;have bF:=Int.emod_nonneg (a.c.emod 18446744073709551616) (show n.k+1≠0 by omega);have bG:=Int.emod_lt_of_pos (a.c.emod 18446744073709551616) (show 0<n.k+1 by omega);have aZ:a.c.emod 18446744073709551616 % (n.k+1)=vv n.k a:=rfl;rw[aJ dc.p 4 B rfl,fC av.u fN.u,aL aE.p 0 (p.box.W C) aX,aO,m1 Ω Ω,fC av.u fN.u,m2 (x:=n.k+1) Ω Ω,hu,rl Ω,Int.tmod_eq_emod_of_nonneg aY,fC fN.u av.u,m1 Ω Ω,aZ,
  aJ dc.p 0 B rfl,y3 X.1,ac,bl,al]
 have E:=p.W C;refine⟨λaf=>?_,λaf=>?_⟩
 .have af:a.kind=6:=Ω
  have H:mR n s a=if ew n a.i a.v then dP s a.i.toNat a.v.toNat else s:=by unfold mR;rw[ms af]
  refine c8 (λI=>lr Z aH w ad ae aq n (mR n s a) I) (λI h=>h) λax aK=>?_;rw[aJ dc.p 1 B rfl,aJ dc.p 3 B rfl];refine(yo (i:=a.i) (v:=a.v) E.dy (.inl p.ix.1)).Y ?_;rintro bH bI _ ⟨a1,a2⟩;by_cases J:ew n a.i a.v
  rotate_left
  .obtain⟨rfl,a6⟩:=a1 J;rw[bl,al];exact⟨λh=>ro h Φ,λ_=>aK _ (by rw[H,rc J];exact lr.same h (C.F a6))⟩
  obtain⟨rfl,aM,aN,y,ah,a7⟩:=a2 J;rw[ms J]at H;rw[bl,al];refine⟨λ_=>?_,λh=>ro rfl h⟩;have a8:=E.prog aM ah a7 E.ix.set (λ_ h=>.inl h) (λ_ _ _ h=>h) E.box.lt;obtain⟨ba,x,O,bb,bJ⟩:=Gi N J;obtain⟨aj,W⟩:=V3 ba;rw[W,u9]at O;intro am ao _ _;have j:=a8.W ao;have ap:∀r,A r->r<w.heap.size:=λr h=>nC p.dy r (.inl h);have P:=(B.aa ah.1 λh=>by have:=ap ga h;omega).W ao;rw[W]at P;have aP:aj<s.d6.length:=(x5.1 O).1;obtain⟨g,cap,aQ,gy,e,au,bc,bd,be,bf⟩:=Tf j O;have bK:=sH x;have bL:x.un.length<=32:=by obtain⟨bM,aR,bN,bh,_⟩:=J.var N;rw[W,u9,O]at aR;cases aR;exact bh
  have aw:∀r,lw aQ r->r≠ga/\r≠aq:=λr f=>by
   have h1:A9 0 r/\r<V.heap.size:=be r f;exact⟨λhe=>by have:=aD 0 r h1.1;omega,λhe=>(p.apart 0 r h1.1).2.2 he⟩
  rw[aL aE.p 3 j.box au,aJ dc.p 1 P rfl,aL aE.p 3 j.box au,aJ dc.p 1 P rfl,eT ca.u an.i aP λ_=>rfl,aF (v:=aQ) (o:=0+aj*1) Ψ bc,mg];refine(Rt (p:=λy=>decide (y=a.v)) bd Ω λI y bi bO=>?_).Y ?_
  .refine az func73 ?_;rw[aJ dc.p 3 (P.aa bi λh=>(aw ga h).1 rfl) rfl,bl];exact⟨rfl,Ext.refl _⟩
  rintro bP ay _ ⟨aA,bj,bk⟩;have bm:=P.aa aA λh=>(aw ga h).1 rfl;have bo:=j.box.aa aA λh=>(aw aq h).2 rfl;refine⟨.inr ⟨tK Ψ (bm.cell (o:=0+1) rfl),Go.Vc.mw λK=>aU dc.p rfl,tK Ψ (bo.cell (o:=0+3) au),Go.Vc.mw λK=>aU aE.p rfl,Go.Vc.mw λK=>b0,trivial⟩,?_⟩;rw[eT ca.u an.i aP λ_=>rfl];refine bf (m:=((x.mask.toNat ||| 2 ^ a.v.toNat:Nat):Int)) (Ext.refl _) aA (by rw[yG bb];exact bj) bk λbQ aS=>aK _ ?_;have bp:dP s a.i.toNat a.v.toNat={s with d6:=s.d6.set aj {x with mask:=((x.mask.toNat ||| 2 ^ a.v.toNat:Nat):Int)}}:=by rw[W,u9];unfold dP;rw[O]
  rw[H];rw[<-bp]at aS;have bq:=ct.comp (ao.aa _) (λq r f=>.inl ⟨q,f⟩) aS;exact lr.before C (fm.Tg E S (by rw[<-H];exact Y) Q (aB.W C) aM ah (λq r (f:A9 q r/\r<V.heap.size)=>f.1) bq)
 have bR:(l2 n.k a).kind=a.kind:=rfl;have H:mR n s a=(bg n.k s (l2 n.k a)).1:=by unfold mR;rw[rc Ω]
 rw[aJ dc.p 0 B rfl,y3 X.1,ac,fC cO.u ai.u,m1 Ω Ω,aJ dc.p 1 B rfl,aJ dc.p 2 B rfl,aJ dc.p 3 B rfl];refine(SG (m:=l2 n.k a) E N aC.1 Ω).Y ?_;rintro _ am _ ⟨rfl,aT⟩;obtain⟨aV,bS,bT,j,bU⟩:=id aT;have ap:∀r,(∃q,A9 q r)\/r=aq->r<w.heap.size:=λr f=>f.elim (λ⟨q,h⟩=>aD q r h) λh=>by rw[h];exact p.box.lt
 have z:=B.aa aV λf=>by have:=ap ga f;omega
 have L:Laid am:=iH aV (λh=>Q ((S 0).2 (h.elim (λh=>.inr (.inr (.inl h))) λh=>.inr (.inr (.inr (.inr h)))))) (aB.W C);have M:∀{r:x4}{ay:x6},pN [] am ad ae A R n s (l2 n.k a) r ay->lr Z aH w ad ae aq n (mR n s a) ay:=λbr=>by
  rw[H]at Y ⊢;exact lr.before C (fm.step E S Y Q aT (Ext.refl _) br.2)
 rw[aJ dc.p 0 z rfl,y3 X.1,ac,bl,al];refine⟨λhk=>?_,λbV=>?_⟩
 .rw[aJ dc.p 1 z rfl,aJ dc.p 2 z rfl,aJ dc.p 3 z rfl];exact(F7 (a:=l2 n.k a) Ω j.dy L G j.ix.m).Y λr I _ f=>M f
 rw[bl,al];refine⟨λhk=>?_,λbW=>?_⟩
 .rw[aJ dc.p 1 z rfl,aJ dc.p 2 z rfl,aJ dc.p 3 z rfl];exact(Sr (a:=l2 n.k a) Ω j.dy L G j.ix.m).Y λr I _ f=>M f
 rw[bl,al];refine⟨λhk=>?_,λbX=>?_⟩
 .rw[aJ dc.p 1 z rfl];exact(Gd (a:=l2 n.k a) Ω j.dy L G j.ix.m).Y λr I _ f=>M f
 rw[bl,al];refine⟨λhk=>?_,λbY=>?_⟩
 .rw[aJ dc.p 1 z rfl];exact(Sx (a:=l2 n.k a) Ω j.dy L G j.ix.m).Y λr I _ f=>M f
 rw[bl,al];refine⟨λhk=>?_,λbZ=>?_⟩
 .rw[aJ dc.p 1 z rfl,aJ dc.p 3 z rfl];exact(Ge (a:=l2 n.k a) Ω j.dy L G j.ix.m).Y λr I _ f=>M f
 .rw[aJ dc.p 1 z rfl,aJ dc.p 3 z rfl];exact(Sy (a:=l2 n.k a) Ω j.dy L G j.ix.m).Y λr I _ f=>M f
end
section
variable{w0 w I:x6}{ad ae aq:Nat}{n:aI}{s:am}{Z aH:ah}
def mS.Ul{a:gg}(h:mS w0 w ad ae aq n)(p:a.ok):ak v8 wp [Γ ad,Γ aq,.agg a.b5.toArray] w λ_ I=>mS w0 I ad ae aq n:=by
 obtain⟨e,s,Z,aH,q,f⟩:=h;refine(Uk q p).Y ?_;rintro v U _ ⟨x,y,A,B⟩;have z:=e.size;exact⟨e.then x λr j h=>by have:=f r h.1;omega,_,y,aH,B,λr j=>(A r j).elim (f r) λh=>Ω⟩
def Um{e:x4}{L:List mQ}{K:x4->x6->Prop}{i:Nat}{x:mQ}(j:Seen eM w [e] L)(q:L[i]?=σ x)(r:∀g I,Ext w I->w.heap.size<=g->ag I g dc (oB x).b5->K (Γ g) I):
  ab v8 (b8 oT e (Δ (i:Int))) w λs=>
  ab v8 (u6 dc s) w λy=>
  aG v8 (Q8 dc v2 (.tuple #[])) w λa f=>
  aG v8 (j0 dc a y) f λ(_:Unit)h=>K a h:=by
 refine mi (α:=mQ) dc.p rfl oT.u dc.i j q λcs z=>?_;obtain rfl:=Tb z;refine bE dc.i λgy f F A B=>?_;refine b1 (vs:=(oB x).b5) dc.i rfl rfl (gg.one _) B λh C G E=>?_;exact r _ _ (A.put C Ω) Ω E
def Un{r:x4}{L:List mQ}{m:Int}{K:x6->Prop}(h:mS w0 w ad ae aq n)(e:Seen eM w0 [r] L)(H:∀x∈L,(oB x).ok)(J:∀I,mS w0 I ad ae aq n->K I):
  ab v8 (V1 #[oT] ai #[r]) w λM=>
 bY (Δ 0) w λj a k=>
  ab v8 (aP .lss ai v6 v6 j M) a λN=>
  Split N (cB (α:=x6->Prop) (λ(y:x6)=>
   ab v8 (aP .add ai v6 v2 j (Δ 1)) y λO=>
   k O y) λz=>
  ab v8 (b8 oT r j) a λP=>
  ab v8 (u6 dc P) a λQ=>
  aG v8 (Q8 dc v2 (.tuple #[])) a λb A=>
  aG v8 (j0 dc b Q) A λ(_:Unit)q=>
  ab v8 (aP .lss ai v6 v2 j (Δ m)) q λR=>
  Split R (ab v8 (u6 dc b) q λS=>
   ak v8 wp [Γ ad,Γ aq,S] q λZ B=>
   z B)
   (z q))
   (K a):=by
 rw[fU oT.u (bp e h.1)];refine bY.range L.length (λi s=>mS w0 s ad ae aq n) (nX e) h ?_ ?_
 .rintro i s U hi f V;obtain⟨x,C⟩:=aD (l:=L) hi;have W:=H x (x7 C);refine bC Ω ?_;refine c8 (λa=>mS w0 a ad ae aq n) (λa X=>by rw[aO];exact V _ X) λax E=>?_;refine Um (bp e f.1) C λgy A G _ Y=>?_;rw[aT,al];refine⟨λ_=>?_,λ_=>E _ (f.W G)⟩;rw[bz dc.p dc.i rfl Y.range];exact((f.W G).Ul W).Y λv B _ e=>E _ e
 .rintro s U f;exact b3 Ω (J _ f)
end
def Uo{p Y:x4}{L:List mQ}(ac:aM .u8 w p pl)(ay:∀b∈pl,0<=b/\b<256)(aA:Seen eM w [Y] L)(aB:∀x∈L,(oB x).ok)(aC:fs w)(J:Laid w):ak v8 HP [p,Y] w (Gk w pl):=by
 have a2:=qS J;refine az func7 ?_;refine bE aE.i λj U a6 y aa=>?_;have a8:=aa.lt;have ba:=y.size;refine(GS (ac.W y) ay (aC.W y)).Y ?_;rintro _ V _ ⟨M,bb,cs,ok,rfl,⟨E,G⟩,aD,_⟩;rw[fQ,fR,fS];refine bE aE.i λaq bc bd aF aI=>?_;refine b1 (vs:=cs) aE.i E rfl G aI λH aK be N=>?_;have ah:Ext V H:=aF.put aK Ω;have I:=M.F ah;have ai:=y.F I;have bf:=M.size;have out:∀{a:x6}{z:List x4}{K:x4->x6->Prop},Ext U a->ag a aq aE z->z.length=8->(∀u∈z,u.oneCell'=v2)->(∀e,af (λr=>r=j) a e->K (.agg z.toArray) e)->
   ab v8 (u6 aE (Γ aq)) a λt25=>aG v8 (j0 aE (Γ j) t25) a λ(_:Unit)e=>ab v8 (do loadVar aE (<-asAddr (Γ j))) e λr=>K r e:=λ{a z K}aL aN O aO aP=>by
  rw[bz aE.p aE.i O aN.range];refine b1 (vs:=z) aE.i O rfl aO (aa.W aL) λe B bg aQ=>?_;rw[fe aE.p aE.i O aQ.range];exact aP _ B
 have no:∀{e:x6},(∃a,Ext H a/\af (λr=>r=j) a e)->Gk w pl (.tuple #[.pointer ν,.agg cs.toArray,.bool v6]) e:=λ⟨a,q,aR⟩=>⟨(ai.F q).then aR λr C h=>by have h:r=j:=h;omega,.inl ⟨cs,rfl,E,G⟩⟩;rcases aD with⟨rfl,rfl⟩|⟨rfl,f,aS,aT⟩
 .refine aY (λv P=>P=H/\v= .bool v2) ?_ λax Q=>?_
  .rintro _ _ ⟨rfl,rfl⟩;rw[bO];intro a q _ _;exact out (I.F q) (N.W q) E G λe B=>no ⟨a,q,B⟩
  .rw[bL,W6,bO];exact Q _ _ ⟨rfl,rfl⟩
 obtain⟨ad,ae,Z,aH,rfl,aj,aU⟩:=SH aT ah N Ω M.size (qS (J.W y)) (J.W ai);obtain⟨lc,bh,bi,bj,bk,bl,aV,_⟩:=aj.look;refine aY (λv P=>P=H/\v= .bool (decide (1000<(cK f).k))) ?_ λax Q=>?_
 rotate_left
 .rw[bL,X3,a7,aJ aE.p 0 aV rfl,bP];exact Q _ _ ⟨rfl,rfl⟩
 rintro _ _ ⟨rfl,rfl⟩;rw[al];refine⟨λhk=>?_,λhk=>?_⟩
 .intro a q _ _;exact out (I.F q) (N.W q) E G λe B=>no ⟨a,q,B⟩
 refine Un (w0:=U) ⟨I,_,Z,aH,aj,aU⟩ (bp aA y) aB λbm aW=>?_;obtain⟨am,s,an,aX,aZ,ao⟩:=aW;intro bn S _ _;have ap:=aZ.W S;obtain⟨W,au,a1⟩:=ap.df;have av:W.length=8/\∀u∈W,u.oneCell'=v2:=by
  obtain⟨A,R,A9,t,p,_⟩:=id au;exact bD.len p.doc
 have aw:∀r,an r->¬r=j:=λr C h=>by have:=ao r C;omega
 refine out (am.F S) a1 av.1 av.2 λbo X=>⟨((y.F am).F S).then X λr C h=>by have h:r=j:=h;omega,.inr ⟨f,ad,ae,aq,an,aX,s,W,rfl,aS,Ω,ap.side X aw (λh=>by have h:0=j:=h;omega),au.side X aw (λh=>by have h:0=j:=h;omega),λr C=>by have:=ao r C;omega⟩⟩
def l4:Λ:=[116,32,50,32,50,32,49,32,57,32,49,32,50,32,50,32,48,32,49,32,48,32,50,32,48,32,48,32,51,32,48,32,49,32,51]
def fy:ce:=⟨[116],9,[1,2],[⟨[0,1],[1,2],0,[([0,0],3),([0,1],3)]⟩]⟩
def Up:gY l4=σ fy:=by
 have h:(match gY l4 with
  |some f=>decide (f.name=fy.name/\f.k=fy.k/\f.co=fy.co)&&decide (f.d9.map (λx=>(x.scope,x.co,x.other,x.lines))=fy.d9.map λx=>(x.scope,x.co,x.other,x.lines))
  |none=>v6)=v2:=by decide+kernel
 cases p:gY l4 with
 |none=>rw[p]at h;cases h
 |some f=>
  rw[p]at h;simp only[U9,sp]at h;obtain⟨⟨h1,q,r⟩,e⟩:=h;obtain⟨nm,k,w,j⟩:=f;simp only at h1 q r e;subst h1;subst q;subst r;have:j=fy.d9:=by
   have s:j.length=1:=by have:=congrArg Q2 e;simpa[fy]using this
   match j,s with
   |[x],_=>
    obtain⟨a,b,c,d⟩:=x;simp[fy]at e;obtain⟨rfl,rfl,rfl,rfl⟩:=e;rfl
  subst this;rfl
def Uq:nz fy.d9<=16384:=by decide+kernel
def GU:am:=(jQ (cK fy) [0] 20 (c6 (cK fy))).1
def Ur:(jQ (cK fy) [0] 20 (c6 (cK fy))).2=v6/\GU.zero=3/\(GU.d6[1]?.map λx=>(aC x,x.un.length))=σ ([0,1],2):=by decide+kernel
def Us:oD (cK fy) [0] 20 (c6 (cK fy))=v2:=by decide+kernel
def Ut:iD (c6 (cK fy)) (c6 (cK fy)).d9.length=[0]:=by decide+kernel
def Uu:(c6 (cK fy)).d9.length<=1000000:=by decide+kernel
def Uv(Q:fs w)(y:Laid w):ak v8 HO [] w λv I=>v= .bool v2/\Ext w I:=by
 refine az func6 ?_;refine kZ (k:=1) (cs:=(ints .u8 l4).toArray) cT.u cO.i Ω Ψ λg U aX a p=>?_;have z:aB .u8 cO U g (.slice (σ ⟨g,0,ν⟩) 35 35) l4:=aB.of (n:=35) (b2.full (by simpa using p) (by simp[l4]) (by simp[maxLen]));refine RT p λq B C=>?_;have a:Ext w q:=a.put B Ω;have ac:aM .u8 q (.slice (σ ⟨g,0,ν⟩) 35 35) l4:=by
  obtain⟨S,b,o,base,cap,W,X,Y,Z,aa⟩:=z.ls;cases W;cases Z (by simp[l4]);exact⟨S,g,0,_,35,rfl,X,Y,λ_=>rfl,C _ _ aa⟩
 clear z p C B;refine(GS ac (by intro b ab;simp[l4]at ab;omega) (Q.W a)).Y ?_;rintro _ V _ ⟨af,ag,cs,ok,rfl,⟨ah,ai⟩,aj,am⟩;have E:gY (l4.take 300)=σ fy:=by
  rw[b9 Φ];exact Up
 have an:ok=v2:=am fy E Uq;subst an;obtain⟨f,G,ad,ae,A,R,t,N,A9,aH,aZ,rfl,ao,ap,H,_⟩:∃f,gY (l4.take 300)=σ f/\vk q.heap.size V ag cs f:=by
  rcases aj with⟨h,_⟩|⟨_,h⟩
  .cases h
  .exact h
 rw[E]at G;cases G;have J:=a.F af;rw[fQ,fR,fS];refine bE aE.i λaq a1 a2 au av=>?_;refine b1 (vs:=cs) aE.i ah rfl ai av λaw ay a6 aA=>?_;have s:Ext V aw:=au.put ay Ω;have aD:=ao.W s;have aF:¬A 0:=λh=>by have:=H 0 h;have:=qS (y.W a);omega
 refine aY (λv aG=>v= .bool v2/\Ext w aG) (λ_ _ h=>h) λax aI=>?_;rw[bO];refine(Uj aD (y.W (J.F s)) aF ap.2.2.1.m (FR _) Uu (λa7 aJ=>List.perm_singleton.1 (Ut▸aJ)) Us).Y ?_;rintro _ aK _ ⟨rfl,hm⟩;obtain⟨aL,aO,aP⟩:=Ur;obtain⟨a8,ba,aN,bt,aQ,K,_⟩:=hm;have aR:Ext w aK:=(J.F s).then aQ.1 λr bb h=>by have:=H r h;have:=a.size;omega
 rw[aL,rc Φ,bl,al];refine⟨λ_=>?_,λh=>ro rfl h⟩;refine(sk K).Y ?_;rintro _ bc _ ⟨rfl,L⟩;have aS:(jQ (cK fy) [0] 20 (c6 (cK fy))).1.zero=3:=aO;rw[aS,bl,al];refine⟨λ_=>?_,λh=>ro rfl h⟩;refine(kG (i:=1) (K.W L)).Y ?_;rintro _ bd _ ⟨⟨b,M,rfl,e⟩,aT⟩;refine(TE e.1).Y ?_;rintro _ be _ ⟨rfl,aU⟩;have aV:((jQ (cK fy) [0] 20 (c6 (cK fy))).1.d6[1]?.map λx=>(aC x,x.un.length))=σ ([0,1],2):=aP;obtain⟨x,O,P⟩:=Y9.1 aV;simp only[S7]at P;have j:=mJ e Ω O;have bf:=(e.2.2 x Ω O).1;have aA:b<2 ^ M:=e.1.2;have aW:M=2:=Ω
 subst aW;rw[P.1]at j;rw[bl];refine aI _ _ ⟨?_,((aR.F L).F aT).F aU⟩;rcases(show b=0\/b=1\/b=2\/b=3 by omega)with rfl|rfl|rfl|rfl
 .exact ro j Φ
 .exact ro j Φ
 .exact ro j Φ
 .rfl
def Uw{sv:x4}(h:aM .i64 w sv l)(J:∀x∈l,1<=x/\x<=32)(au:l.length<=64):
  ak v8 HQ [sv] w λv I=>Ext w I/\∃L,bs (eV w.heap.size) bQ I [v] L/\SI l L:=by
 refine az func8 ?_;have ac:=ml l J;refine aY (λv V=>Ext w V/\∃b,v= .bool b/\(b=v2->l.length<=11/\aQ l<=90)) ?_ λax M=>?_
 rotate_left
 .rw[a1 an.u h,aT,al];refine⟨λav=>?_,λ_=>M _ _ ⟨Ext.refl _,v6,rfl,λh=>by cases h⟩⟩;refine(SN h J).Y ?_;rintro _ U _ ⟨⟨c,rfl,Q⟩,e⟩;rw[mf];exact M _ _ ⟨e,_,rfl,λh=>⟨Ω,by rw[<-Q Ω];exact ty h⟩⟩
 rintro _ U ⟨e,b,rfl,S⟩;rw[cb];refine⟨λW=>?_,λ_=>?_⟩
 .obtain⟨aw,ay⟩:=S W;refine(wZ l (h.W e) ⟨Ω,J,Ω⟩).Y ?_;rintro v V _ ⟨f,p⟩;have aA:=j1 J;have X:=e.size;exact⟨e.F f,br l,ao.Y p (λr _ h=>by have h:U.heap.size<=r:=h;show w.heap.size<=r;omega) λ_ _ h=>h,Ω,λa C=>SK C⟩
 have X:=e.size;refine b7.range 60 (λk out V=>Ext U V/\bs (eV U.heap.size) bQ V [out] ((X9 k).map (l1 l))) Ω ⟨Ext.refl _,gm⟩ ?_ ?_
 .rintro k out V Y hk ⟨f,p⟩ Z;refine bC Ω ?_;have E:=e.F f;rw[a1 an.u (h.W E)];refine ku (k:=.i64) an.u ai.i Ω Ω λs aa aC N O=>?_;have ab:aB .i64 ai aa s (.slice (σ ⟨s,0,ν⟩) l.length l.length) (o6 l.length 0):=by
   refine aB.of (n:=l.length) ⟨Ξ,.inr ⟨l.length,ints .i64 (o6 l.length 0),rfl,O,Ω,by simp only[maxLen];omega,Ξ,Ξ⟩⟩
  have ad:=E.F N;have aE:=f.size;have aF:=O.lt;rw[a1 an.u (h.W ad)];refine bY.range l.length (λq B=>Ext V B/\aB .i64 ai B s (.slice (σ ⟨s,0,ν⟩) l.length l.length) (upto (l1 l k) 0 q)) h.le ⟨N,by rw[qi,sO];exact ab⟩ ?_ ?_
  .rintro q B ae af ⟨y,j⟩ ag;obtain⟨z,G⟩:=aD (l:=l) af;have aG:=J z (x7 G);refine bC Ω ?_;have aH:0<=(k:Int)*(2*(q:Int)+1)/\(k:Int)*(2*(q:Int)+1)<=60*200:=⟨Int.mul_nonneg Ω Ω,Int.mul_le_mul Ω Ω Ω Ω⟩;have aI:0<=(k:Int) / 3/\(k:Int) / 3<=60:=Ω
   have aJ:(2*(q:Int)+1)=2*(q:Int)+1:=rfl;rw[bh an.u ai.i Ψ (h.W (E.F y)) G,fB,m1 (x:=2*(q:Int)) Ω Ω,aO,m1 Ω Ω,fB,m1 Ω Ω,nU Φ,Int.tdiv_eq_ediv_of_nonneg Ω,m1 Ω Ω,aO,m1 Ω Ω,rl Ω,Int.tmod_eq_emod_of_nonneg Ω,
    jf rfl an.u ai.i j (by rw[pi,sO];omega)]
   refine jg ai.i j (by rw[pi,sO];omega) λah H aK aj=>?_;rw[aO];refine ag _ ⟨y.then H λr am he=>by have he:r=s:=he;omega,?_⟩;rw[<-qk (Gh G)];exact aj
  rintro B ae ⟨y,j⟩;refine b3 Ω ?_;rw[show upto (l1 l k) 0 l.length=l1 l k by rw[<-sO l k,qj]]at j;have z4:=y.size;refine jB (α:=Λ) (a:=l1 l k) (A:=eV V.heap.size) (R:=bQ) ca.u an.i Φ (lH (mj j (R:=bQ))) (ao.Y (mj j) (λr _ h=>by subst h;show V.heap.size<=r;omega) λ_ _ h=>h) λaL ah K _ H=>?_;have P:=y.F K;have z5:=K.size;refine nY (α:=Λ) (a:=l1 l k) (A:=eV V.heap.size) ca.u an.i rfl (bp (nn p) P) H (bp (ao.Y (mj j) (λr _ h=>by subst h;show V.heap.size<=r;omega) λ_ _ h=>h) K) (λr _ h aW=>?_) (by simp only[r8,List.length_range];omega) (by simp only[r8,List.length_range];omega) λaN aP ap aq=>?_
  .rcases aW with aW|aW
   .have:=h.2;have:V.heap.size<=r:=aW;omega
   .exact aW
  rw[aO];refine Z _ _ ⟨(f.F P).then aq (λr am h=>by have:=h.1;have:U.heap.size<=r:=this;omega),?_⟩;rw[List.range_succ,Z4,List.map_singleton];refine ao.Y ap (λr _ h=>?_) λ_ _ h=>h;show U.heap.size<=r;rcases h with h|h|h
  .exact h.1
  .have:V.heap.size<=r:=h;omega
  .omega
 .rintro out V Y ⟨f,p⟩;rw[show((60:Nat):Int)=60 from rfl,aT,al];refine⟨λh=>Ω,λ_=>⟨e.F f,_,ao.Y p (λr _ h=>by have h:U.heap.size<=r:=h;show w.heap.size<=r;omega) λ_ _ h=>h,Ξ,λa C=>?_⟩⟩;obtain⟨k,_,rfl⟩:=j5.1 C;exact SJ k J
section
variable{au:List aA}{w:x6}{ad ae:Nat}{A R:ah}{n:aI}{s:am}{t:aA}
def Ux{dv:x4}(h:e9 w dv n.k n.co s)(f:bc n.k n.co s)(j:qU s)(p:s.d9.length<=1000):ak v8 HZ [dv,Δ 2] w λr I=>Ext w I/\∃b:Bool,r= .bool b/\(b=v2↔im n s/\vB n s):=by
 refine az func18 ?_;refine bn λg1 U z e a=>?_;have q:=h.box e a;rw[bl,al];refine⟨λh=>(by cases h),λ_=>?_⟩;rw[bl,al];refine⟨λ_=>?_,λh=>ro rfl h⟩;refine q.load λA x=>?_;refine(TX x f j p).Y ?_;rintro _ V _ ⟨y,b,rfl,a⟩;exact⟨e.F y,b,rfl,a.F And.comm⟩
end
section
variable{w:x6}{dv:x4}{n:aI}{s:am}
def Uy{df:x4}(h:aM .i64 w df l):ak v8 Ay [df] w λr I=>r= .bool (decide (l=[]))/\Ext w I:=by
 refine az func41 ?_;rw[a1 an.u h,bl];refine⟨?_,Ext.refl _⟩;congr 1;exact decide_eq_decide.2 ⟨λh=>Z2 Ω,λh=>by rw[h];rfl⟩
def Uz{sv:x4}{L:List (Λ)}{m:Bool}{S R:ah}(h:ao.rep (α:=List (Λ)) m S R w [sv] L):
  ak v8 H9 [sv,.func (.func Ay) #[] #[]] w λv I=>v= .bool (L.any λl=>decide (l=[]))/\Ext w I:=by
 refine az func40 ?_;refine ak.Y (K:=λv I=>Ext w I/\∃r:Int,v=Δ r/\(0<=r↔ ∃c∈L,c=[])) ?_ ?_
 .refine az func89 ?_;rw[fU ca.u h];refine b7.range L.length (λi _ U=>Ext w U/\∀c∈L.take i,c≠[]) (nX h) ⟨Ext.refl _,λc e=>by simp at e⟩ ?_ ?_
  .rintro i _ U k hi ⟨f,j⟩ hk;refine bC Ω ?_;obtain⟨x,p⟩:=aD (l:=L) hi;refine gn (α:=Λ) (a:=x) rfl rfl ca.u an.i Ψ (bp h f) p λu hu=>?_;refine ak.Y (Uy (dl hu)) ?_;rintro _ V _ ⟨rfl,q⟩;rw[al];refine⟨λac=>⟨f.F q,i,rfl,⟨λ_=>⟨x,x7 p,ac⟩,λ_=>Ω⟩⟩,λs=>?_⟩;rw[aO];refine hk _ _ ⟨f.F q,λc e=>?_⟩;rw[r9,p]at e;rcases j9.1 e with e|e
   .exact j c e
   .simp at e;subst e;exact s
  .rintro _ U k ⟨f,j⟩;rw[o9]at j;refine b3 Ω ?_;exact⟨f,-1,rfl,⟨λh=>Ω,λ⟨c,e,ac⟩=>ro ac (j c e)⟩⟩
 .rintro _ U _ ⟨f,r,rfl,y⟩;rw[cP];refine⟨?_,f⟩;congr 1;rw[U6,sp,List.any_eq_true,y];exact⟨λ⟨c,e,ac⟩=>⟨c,e,rs ac⟩,λ⟨c,e,ac⟩=>⟨c,e,ty ac⟩⟩
def GV(h:e9 w dv n.k n.co s):ak v8 HY [dv] w λr I=>Ext w I/\∃b:Bool,r= .bool b/\(b=v2↔ ∃i,i<s.d6.length/\ba s ((i:Nat):Int)=[]):=by
 refine az func17 ?_;refine bn λg1 U A e f=>?_;obtain⟨lc,B,C,E,G,H,j,J,_,q,_⟩:=h.box e f;rw[aJ aE.p 3 j rfl];refine(Uz q).Y ?_;rintro _ V _ ⟨rfl,y⟩;refine⟨e.F y,_,rfl,?_⟩;rw[List.any_eq_true];constructor
 .rintro⟨l,z,he⟩;obtain⟨x,a,rfl⟩:=j5.1 z;obtain⟨i,hi⟩:=X8.1 a;exact⟨i,(x5.1 hi).1,by rw[pO hi];exact ty he⟩
 .rintro⟨i,hi,he⟩;obtain⟨x,a⟩:=aD (l:=s.d6) hi;rw[pO a]at he;exact⟨aC x,j5.2 ⟨x,x7 a,rfl⟩,rs he⟩
end
def UA{p aG:x4}{L:List mQ}{Q:x4->x6->Prop}(X:∀I,Ext w I->Q (.bool v2) I)(ac:aM .u8 w p pl)(bh:∀b∈pl,0<=b/\b<256)(bi:Seen eM w [aG] L)(bj:∀x∈L,(oB x).ok)(aI:fs w)(aK:Laid w):
  ak v8 Ao [p,aG] w Q:=by
 refine az func4 ?_;refine(Uv aI aK).Y ?_;rintro _ U _ ⟨rfl,y⟩;rw[bL,X3,a7];refine(Uo (ac.W y) bh (bp bi y) bj (aI.W y) (aK.W y)).Y ?_;rintro _ V _ ⟨aL,bk⟩;have aN:=y.F aL;have cf:=y.size;have cg:=aL.size;rcases bk with⟨cs,rfl,bm,bn⟩|⟨f,ad,ae,ch,Z,aH,s,cs,rfl,ci,hk,Y,ab,bo⟩
 .rw[fQ,fR,fS];refine bE aE.i λaq bq br C af=>?_;refine b1 (vs:=cs) aE.i bm rfl bn af λG ag bs ah=>?_;rw[bL,W6,bO,di eF.u];exact X _ (aN.F (C.put ag Ω))
 rw[fQ,fR,fS];have H:cs.length=8/\∀u∈cs,u.oneCell'=v2:=by
  obtain⟨A,R,A9,t,p,_⟩:=id ab;exact bD.len p.doc
 refine bE aE.i λaq bq br C af=>?_;refine b1 (vs:=cs) aE.i H.1 rfl H.2 af λG ag bs ah=>?_;have ai:Ext V G:=C.put ag Ω;have bt:=aN.F ai;rw[bL,X3,a7];have aO:=ab.W ai;have bu:kJ G aq (cK f).k (cK f).co s:=e9.box aO.ok.2 (Ext.refl _) ah;obtain⟨lc,cj,ck,cl,cm,cn,aP,bw,_⟩:=id bu;obtain⟨z,aQ,aR,_⟩:=Y.ok;have aj:∀g∈s.d9,g.live≠0:=Y.live.1;have cp:s.d9.length<=256:=Y.live.2;have aS:s.du=[]:=aR.du;have aU:s.du.length<=1000:=by rw[aS];exact W0 _
 rw[aJ aE.p 1 aP rfl];refine(Uw bw z.ev.2.2 z.ev.2.1).Y ?_;rintro df bx _ ⟨J,aV,bA,cq,bB⟩;have aX:=ab.lt;have z3:=ai.size;obtain⟨A,R,t,bC,bG,bH,bI,bJ⟩:=(aO.W J).go;refine(Ui bC bG bH bI aQ Ω).Y ?_;rintro _ aZ _ ⟨q,bM,rfl,hm⟩;obtain⟨K,cr,ct,a1⟩:=bJ (Ext.refl _) hm;have bN:Ext w aZ:=(bt.F J).then K λr am h=>by have:=bo r h.1;omega
 have a2:¬(Z aq/\¬aH aq):=λh=>by have:=aX aq h.1;have:=C.size;omega
 have an:=(ah.W J).aa K a2;have cu:=(aP.W J).aa K a2;have bP:Seen (λr=>G.heap.size<=r/\r<bx.heap.size) aZ [df] aV:=ao.aa (pa bA λr am h=>⟨h.elim id False.elim,am⟩) K λr am h aW=>by
  have h:=h.elim False.elim id;have:=aX r aW.1;omega
 obtain⟨j,bQ,bR,_⟩:=bM;obtain⟨cw,cz,cA,cB,M,⟨a6,_,_⟩,_⟩:=id a1;rw[bz aE.p aE.i H.1 an.range];refine(GH M a6 j.same z aj Ω aU).Y ?_;rintro _ bS _ ⟨bT,cC,bF,rfl,a8,cD⟩;obtain⟨bU,bV⟩:=bD.len a8;refine bE aE.i λgy cE cF bW bX=>?_;refine b1 (vs:=bF) aE.i bU rfl bV bX λap bY cG bZ=>?_;have ba:Ext bS ap:=bW.put bY Ω;have au:=bT.F ba;have N:kJ ap gy (cK f).k (cK f).co q.1:=e9.box (gC.sA a8) ba bZ;have b0:∀a∈aV,ig s a:=λa b2=>SL z (bB a b2);refine aY (λv av=>v= .bool v6/\Ext ap av) ?_ λax aw=>?_
 .rintro _ av ⟨rfl,O⟩;rw[a7];have bb:Ext w av:=bN.F (au.F O);cases he:q.2 with
  |true=>
   obtain⟨i,hi,cH,ay⟩:=bQ he;rw[ms rfl,bl,al];refine⟨λ_=>?_,λh=>ro rfl h⟩;refine(N.W O).load λbc B=>?_;refine(GV B).Y ?_;rintro _ b3 _ ⟨P,b,rfl,aA⟩;rw[aA.2 ⟨i,by have:=j.ok.d6;omega,ay⟩];exact X _ (bb.F P)
  |false=>
   have bd:=bR he;rw[rc Φ,bl,al];refine⟨λh=>ro h Φ,λ_=>?_⟩;refine aY (λv I=>v= .bool v2/\Ext w I) (λv I h=>by rw[h.1];exact X _ h.2) λax aw=>?_;rw[bl,al];refine⟨λ_=>?_,λh=>ro rfl h⟩;refine(N.W O).load λbc B=>?_;refine(GV B).Y ?_;rintro _ b3 _ ⟨P,b,rfl,aA⟩;have b4:b=v6:=by
    cases b with
    |false=>rfl
    |true=>
     obtain⟨i,hi,ay⟩:=aA.1 rfl;obtain⟨x,be⟩:=aD (l:=q.1.d6) (i:=i) hi;have b5:=bd.1 i (by have:=j.ok.d6;omega) (by rw[u9];unfold dD;rw[be];simp[Ti (aR.F j.same) be]);exact ro ay b5.1
   rw[b4,bL,W6,bO];refine(N.W (O.F P)).load λbc B=>?_;refine(Ux B j.ok (Gj j.same aj) (by have:=j.same.d9;omega)).Y ?_;rintro _ cI _ ⟨b6,cJ,rfl,b7⟩;rw[b7.2 bd];exact aw _ _ ⟨rfl,(bb.F P).F b6⟩
 .intro cL bf _ _;have S:=au.F bf;rw[bz aE.p aE.i H.1 (an.W S).range];refine(TI (M.W S) (a6.W S) j.same z aj Ω aU aQ j.iX (bp bP S) b0 j.val).Y ?_;rintro _ b8 _ ⟨rfl,b9⟩;have aB:=bf.F b9;have W:=au.F aB;obtain⟨_,_,_,_,_,_,ca,_⟩:=id N;obtain⟨_,_,_,_,cM,_,bg,_,_,_,_,_,cb,_⟩:kJ b8 aq (cK f).k (cK f).co s:=e9.box a1.ok.2 W (an.W W);rw[bL,X3,a7,aJ aE.p 2 (ca.W aB) rfl,aJ aE.p 2 bg rfl,aT,al];refine⟨λh=>ro h (by have:=j.zero;omega),λ_=>?_⟩;rw[aJ aE.p 6 bg rfl,fU dh.u cb,r8];refine(qK (M.dy.W W)).Y ?_;rintro _ cN _ ⟨rfl,aC⟩;refine⟨.inl aC,?_⟩;rw[j.same.d9,bK,al];refine⟨λh=>ro rfl h,λ_=>?_⟩;have aF:q.1.du=[]:=by rw[j.same.du,aS]
  refine(RX (M.dy.W (W.F aC)) (λe h=>by rw[aF]at h;cases h) (by rw[aF];exact W0 _)).Y ?_;rintro cO cP _ ⟨cc,cQ,⟨E,cd,ce,_⟩,_⟩;rw[ef oV.u cd,bK,ce,aF];exact aw _ _ ⟨rfl,(aB.F aC).F cc⟩
def UB{p:x4}{L:List mQ}(ac:aM .u8 w p pl)(e:∀b∈pl,0<=b/\b<256)(f:Seen eM w [a] L)(h:∀x∈L,(oB x).ok)(j:fs w)(q:Laid w):
  ak v8 Ao [p,a] w λv I=>v= .bool v2/\Ext w I:=UA (λI r=>⟨rfl,r⟩) ac e f h j q
end Go.Proofs.YtnhkbjhpbbobaaaGreatDoor
