/- own texts, made small by a tool (wip/ holds them as they were written): no statement of the seat. -/
import Derived.Test.YtikkpokkcdocoabGreatDoorYe
set_option linter.unusedVariables false
set_option linter.unusedSimpArgs false
set_option linter.unnecessarySimpa false
open Array renaming getElem?_eq_some_iff→l9
open Bool renaming not_true→X1,not_false→W7,and_eq_true→V7,true_and→T5
open Decidable renaming not_not→Z9
open Go renaming Value→x1,World→x3,TypeId→p9,IntKind→o6,FuncId→R5
open Go.Builtin renaming len_→W9
open Go.Instr renaming loadAt→u5,fieldAt→u6,storeAt→o8,indexAt→c7
open Go.IntKind renaming i64→X5,u64→U5
open Go.Proofs.Tryz renaming prog→x7
open Int renaming toNat_natCast→u7,eq_ofNat_of_zero_le→U8
open List renaming getElem?_eq_some_iff→x4,mem_of_getElem?→x5,getElem?_eq_getElem→x6,getElem?_map→x8,getD_eq_getElem?_getD→u4,take_add_one→u9,length_map→r8,length_append→r9,mem_append→o5,take_length→o7,mem_singleton→o9,length_take→n9,mem_map→j4,eq_nil_of_length_eq_zero→j6,length_cons→c8,length_set→c9,take_of_length_le→b6,getElem?_set_self→b8,getElem?_eq_none→Z2,map_append→Z4,getElem?_set_ne→Y2,ext_getElem?→Y3,length_eq_one_iff→W6,append_nil→W8,mem_cons→V3,map_set→U4,map_cons→U6,length_singleton→T1,mem_range→T6,foldl_cons→S1,length→S3,mem_flatMap→S7,length_filter_le→R3
open Nat renaming le_refl→o4,zero_add→X2,mul_one→U1,add_mul→U2,pow_le_pow_right→T8,lt_of_lt_of_le→R7,eq_zero_or_pos→Q0
open Option renaming toList_some→j5,isNone_some→Z5,map_some→Z6,map_eq_some_iff→Y7,isSome_some→T9,isSome_none→S8
open Option.some renaming inj→b9,injEq→Y1
open Prod.mk renaming injEq→T0
set_option maxHeartbeats 16000000
open Option renaming some→σ,none→ν
variable{a l:Nat}{V aa w:x3}{v:Int}{pl:Λ}
namespace Go.Proofs.YtikkpokkcdocoabGreatDoor
open Go Go.Vc Go.RowKit Go.Proofs Go.Proofs.Tryz
set_option maxRecDepth 100000
theorem rG(h e:Nat)(f:l<256)(hm:a<256):(256*h+l) &&& (256*e+a)=256*(h &&& e)+(l &&& a):=by
 have p:l &&& a<2 ^ 8:=Nat.and_lt_two_pow _ hm;apply Nat.eq_of_testBit_eq;intro i;rw[Nat.testBit_and,show 256=2 ^ 8 from rfl,Nat.testBit_two_pow_mul_add _ f,Nat.testBit_two_pow_mul_add _ hm,Nat.testBit_two_pow_mul_add _ p];split
 .rw[Nat.testBit_and]
 .rw[Nat.testBit_and]
def gR(m x:Nat):Nat:=(x / 2 &&& m)+(x &&& m)
def hP(m x:Nat):Nat:=(x / 4 &&& m)+(x &&& m)
def jC(m x:Nat):Nat:=(x / 16+x) &&& m
def cZ(a:Nat):Nat:=jC 15 (hP 51 (gR 85 a))
theorem QM:∀e<2,∀l<256,(128*e+l / 2) &&& 85=l / 2 &&& 85:=by decide+kernel
theorem QN:∀e<4,∀l<256,(64*e+l / 4) &&& 51=l / 4 &&& 51:=by decide+kernel
theorem QO:∀e<5,∀l<69,(16*e+l / 16+l) &&& 15=(l / 16+l) &&& 15:=by decide+kernel
theorem ni:∀l<256,gR 85 l<256/\hP 51 (gR 85 l)<69/\hP 51 (gR 85 l) % 16<5/\cZ l<=8/\(cZ l=0->l=0):=by decide+kernel
theorem ux(h a:Nat)(e:l<256):gR (256*a+85) (256*h+l)=256*gR a h+gR 85 l:=by
 unfold gR;rw[show(256*h+l) / 2=256*(h / 2)+(128*(h % 2)+l / 2) by omega,rG _ _ Ω Ω,rG _ _ e Ω,QM _ Ω _ e];omega
theorem uy(h a:Nat)(e:l<256):hP (256*a+51) (256*h+l)=256*hP a h+hP 51 l:=by
 unfold hP;rw[show(256*h+l) / 4=256*(h / 4)+(64*(h % 4)+l / 4) by omega,rG _ _ Ω Ω,rG _ _ e Ω,QN _ Ω _ e];omega
theorem uz(h a:Nat)(e:l<69)(he:h % 16<5):jC (256*a+15) (256*h+l)=256*jC a h+jC 15 l:=by
 unfold jC;rw[show(256*h+l) / 16+(256*h+l)=256*(h / 16+h)+(16*(h % 16)+l / 16+l) by omega,rG _ _ Ω Ω,QO _ he _ e]
def four(a b c d:Nat):Nat:=256*(256*(256*d+c)+b)+a
theorem QP{b c d:Nat}(e:a<256)(f:b<256)(h:c<256)(p:d<256):gR 6148914691236517205 (four a b c d)=four (gR 85 a) (gR 85 b) (gR 85 c) (gR 85 d):=by
 unfold four;rw[show 6148914691236517205=256*(256*(256*(256*1431655765+85)+85)+85)+85 from rfl,ux _ _ e,ux _ _ f,ux _ _ h];have:=ux 0 1431655765 p;rw[show 256*0+d=d by omega,show gR 1431655765 0=0 from by unfold gR;simp]at this;rw[this,Nat.mul_zero,X2]
theorem QQ{b c d:Nat}(e:a<256)(f:b<256)(h:c<256)(p:d<256):hP 3689348814741910323 (four a b c d)=four (hP 51 a) (hP 51 b) (hP 51 c) (hP 51 d):=by
 unfold four;rw[show 3689348814741910323=256*(256*(256*(256*858993459+51)+51)+51)+51 from rfl,uy _ _ e,uy _ _ f,uy _ _ h];have:=uy 0 858993459 p;rw[show 256*0+d=d by omega,show hP 858993459 0=0 from by unfold hP;simp]at this;rw[this,Nat.mul_zero,X2]
theorem QR{b c d:Nat}(e:a<69)(f:b<69/\b % 16<5)(h:c<69/\c % 16<5)(p:d<69/\d % 16<5):jC 1085102592571150095 (four a b c d)=four (jC 15 a) (jC 15 b) (jC 15 c) (jC 15 d):=by
 unfold four;rw[show 1085102592571150095=256*(256*(256*(256*252645135+15)+15)+15)+15 from rfl,uz _ _ e Ω,uz _ _ f.1 Ω,uz _ _ h.1 Ω];have:=uz 0 252645135 p.1 Ω;rw[show 256*0+d=d by omega,show jC 252645135 0=0 from by unfold jC;simp]at this;rw[this,Nat.mul_zero,X2]
def rH(x:Nat):Nat:=cZ (x % 256)+cZ (x / 256 % 256)+cZ (x / 65536 % 256)+cZ (x / 16777216)
theorem QS{x:Nat}(h:x<4294967296):rH x=0↔x=0:=by
 constructor
 .intro a;unfold rH at a;have h1:=(ni (x % 256) Ω).2.2.2.2 Ω;have e:=(ni (x / 256 % 256) Ω).2.2.2.2 Ω;have f:=(ni (x / 65536 % 256) Ω).2.2.2.2 Ω;have p:=(ni (x / 16777216) Ω).2.2.2.2 Ω;omega
 .rintro rfl;decide
theorem QT{x:Nat}(J:x<4294967296):am x7 IB [.int .u64 (x:Int)] w λv w'=>v=Δ (rH x:Int)/\Ext w w':=by
 obtain⟨a,b,c,d,H,I,L,M,e,S,U,V,W⟩:∃a b c d,a<256/\b<256/\c<256/\d<256/\x=four a b c d/\a=x % 256/\b=x / 256 % 256/\c=x / 65536 % 256/\d=x / 16777216:=
  ⟨x % 256,x / 256 % 256,x / 65536 % 256,x / 16777216,Ω,Ω,Ω,Ω,by unfold four;omega,rfl,rfl,rfl,rfl⟩
 obtain⟨X,Y,a3,a4,_⟩:=ni a H;obtain⟨Z,aa,ab,ap,_⟩:=ni b I;obtain⟨ad,ae,af,aq,_⟩:=ni c L;obtain⟨d1,d2,d3,d4,_⟩:=ni d M;have g1:=QP H I L M;have N:=QQ X Z ad d1;have ag:=QR Y ⟨aa,ab⟩ ⟨ae,af⟩ ⟨d2,d3⟩;have ai:rH x=cZ a+cZ b+cZ c+cZ d:=by unfold rH;rw[<-S,<-U,<-V,<-W]
 rw[<-e]at g1;have aj:gR 6148914691236517205 x<4294967296:=by rw[g1];unfold four;omega
 have O:hP 3689348814741910323 (gR 6148914691236517205 x)<4294967296:=by rw[g1,N];unfold four;omega
 have B:jC 1085102592571150095 (hP 3689348814741910323 (gR 6148914691236517205 x))=four (cZ a) (cZ b) (cZ c) (cZ d):=by rw[g1,N,ag];rfl
 have ak:four (cZ a) (cZ b) (cZ c) (cZ d)<4294967296:=by unfold four;omega
 refine az func223 ?_;have A:∀{t:p9}{cx cy:Bool}{K:x1->Prop}(p q:Nat),p+q<18446744073709551616->ac x7 (aM .add t cx cy (.int .u64 (p:Int)) (.int .u64 (q:Int))) w K=K (.int .u64 ((p+q:Nat):Int)):=λp q h=>by
  rw[aN,wrap_u64 Ω Ω];rfl
 have small:∀(p m:Nat),p &&& m<=p:=λp m=>Nat.and_le_left;rw[show(1:Int)=((1:Nat):Int)from rfl,k9 Ω,show(6148914691236517205:Int)=((6148914691236517205:Nat):Int)from rfl,u64_and Ω Ω,u64_and Ω Ω,A (x / 2 ^ 1 &&& 6148914691236517205) (x &&& 6148914691236517205) (by exact Nat.lt_of_le_of_lt (Nat.add_le_add (small _ _) (small _ _)) Ω)];obtain⟨y,C⟩:∃y,(x / 2 ^ 1 &&& 6148914691236517205)+(x &&& 6148914691236517205)=y:=⟨_,rfl⟩;rw[C];have C:gR 6148914691236517205 x=y:=C;rw[C]at aj O B;rw[show(2:Int)=((2:Nat):Int)from rfl,k9 Ω,show(3689348814741910323:Int)=((3689348814741910323:Nat):Int)from rfl,u64_and Ω Ω,u64_and Ω Ω,A (y / 2 ^ 2 &&& 3689348814741910323) (y &&& 3689348814741910323) (by exact Nat.lt_of_le_of_lt (Nat.add_le_add (small _ _) (small _ _)) Ω)];obtain⟨z,E⟩:∃z,(y / 2 ^ 2 &&& 3689348814741910323)+(y &&& 3689348814741910323)=z:=⟨_,rfl⟩;rw[E];have E:hP 3689348814741910323 y=z:=E;rw[E]at O B;rw[show(4:Int)=((4:Nat):Int)from rfl,k9 Ω,A (z / 2 ^ 4) z Ω,show(1085102592571150095:Int)=((1085102592571150095:Nat):Int)from rfl,u64_and Ω Ω];have B:z / 2 ^ 4+z &&& 1085102592571150095=four (cZ a) (cZ b) (cZ c) (cZ d):=B;rw[B];obtain⟨r,G⟩:∃r,four (cZ a) (cZ b) (cZ c) (cZ d)=r:=⟨_,rfl⟩;rw[G]at ak ⊢;unfold four at G;rw[show(8:Int)=((8:Nat):Int)from rfl,k9 Ω,A r (r / 2 ^ 8) Ω];obtain⟨s,P⟩:∃s,r+r / 2 ^ 8=s:=⟨_,rfl⟩;rw[P];rw[show(16:Int)=((16:Nat):Int)from rfl,k9 Ω,A s (s / 2 ^ 16) Ω];obtain⟨f,Q⟩:∃f,s+s / 2 ^ 16=f:=⟨_,rfl⟩;rw[Q];rw[show(32:Int)=((32:Nat):Int)from rfl,k9 Ω,A f (f / 2 ^ 32) Ω,fh fF.u ah.u,wrap_i64 Ω Ω,show(127:Int)=((127:Nat):Int)from rfl,DQ Ω Ω];refine⟨?_,Ext.refl _⟩;rw[ai,show 127=2 ^ 7-1 from rfl,Nat.and_two_pow_sub_one_eq_mod];have al:r / 2 ^ 8=65536*cZ d+256*cZ c+cZ b:=Ω
 have an:s / 2 ^ 16=256*cZ d+(cZ c+cZ d):=Ω
 have R:f / 2 ^ 32=0:=Ω
 have au:f=128*(131072*cZ d+512*(cZ c+cZ d)+2*(cZ b+cZ c+cZ d))+(cZ a+cZ b+cZ c+cZ d):=Ω
 have ao:(f+f / 2 ^ 32) % 2 ^ 7=cZ a+cZ b+cZ c+cZ d:=by rw[R];clear G P Q al an R;omega
 rw[ao]
theorem ht{b n:Nat}(a:l7 b n):am x7 HK [jr b n] w λr w'=>(∃q:Int,r=Δ q/\(q=0↔b=0))/\Ext w w':=by
 have e:b<4294967296:=by
  have:=a.2;have:(2:Nat) ^ n<=2 ^ 32:=T8 Ω a.1;omega
 refine az func147 ?_;refine bf λg V x f h=>?_;rw[aT bZ.p 0 h rfl];refine(QT e).mono ?_;rintro _ aa _ ⟨rfl,s⟩;refine⟨⟨_,rfl,?_⟩,f.trans s⟩;rw[<-QS e];omega
def oC(aB:List aC)(w:x3)(ae gT:Nat)(A R:aj)(n:aF)(s:aq)(a:hM)(r:x1)(w':x3):Prop:=r=Δ (cw n.k s a).2/\eA aB w ae gT A R n (cw n.k s a).1 w'
section
variable{aB:List aC}{w:x3}{ae gT:Nat}{A R:aj}{n:aF}{s:aq}{t:aC}{a:hM}
theorem eA.same{w':x3}(h:bw w ae gT A R n s t)(a:Laid w)(e:¬A 0)(f:fx aB t)(J:Ext w w'):eA aB w ae gT A R n s w':=(fy.start (m:=w.heap.size) (D:=λ_=>False) h a e f J (o4 _)).done (Ext.refl _)
theorem eA.before{w':x3}{s':aq}(J:Ext w V)(h:eA aB V ae gT A R n s' w'):eA aB w ae gT A R n s' w':=by
 obtain⟨h1,a,aP,bq,e,f⟩:=h;exact⟨j1 J h1,a,aP,bq,(Grow.ext J).trans e,f⟩
theorem xX{j pos u:Int}{f:ca}{x:bG}(h:eh s j pos v=σ (f,u,x)):∃p e u':Nat,j=p/\pos=e/\u=u'/\s.funs[p]?=σ f/\f.live≠0/\f.sc[e]?=σ (u':Int)/\s.vars[u']?=σ x/\v∈aG x/\∀q,f.sc[e]?=σ q->v∈bk s q:=by
 obtain⟨h1,z,A,B,a,C⟩:=ne h;obtain⟨E,r,F,w⟩:=kQ C;obtain⟨j,rfl⟩:=U8 h1;obtain⟨pos,rfl⟩:=U8 z;obtain⟨u,rfl⟩:=U8 E;refine⟨j,pos,u,rfl,rfl,rfl,A,B,a,r,w,λu' y=>?_⟩;have a:f.sc[pos]?=σ (u:Int):=a;rw[a]at y;cases y;unfold bk;rw[r];exact w
theorem QU(hk:a.kind=0)(h:bw w ae gT A R n s t)(z:Laid w)(E:¬A 0)(G:fx aB t):am x7 GR [Γ ae,Δ a.i,Δ a.pos,Δ a.v,Δ a.c] w (oC aB w ae gT A R n s a):=by
 have I:=h.2.2.2.1;refine az func65 ?_;refine(EQ h).mono ?_;rintro _ V _ ⟨y,u,e,rfl,q⟩;rw[bm,bn];have p:cw n.k s a=match eh s a.i a.pos a.v with
  |none=>(s,1)
  |some (f,u,x)=>if dq n.k a.c (mm n.k s f a.pos.toNat a.v)≠0 then(s,dq n.k a.c (mm n.k s f a.pos.toNat a.v))else(i7 s a.i.toNat f a.pos.toNat u.toNat x a.v (λg=>dL n.k g a.c) λg=>dp n.k g a.c,0):=by unfold cw;rw[if_pos hk]<;>cases eh s a.i a.pos a.v<;>rfl
 rcases q with⟨rfl,f,x,q⟩|⟨rfl,q⟩
 rotate_left
 .rw[q]at p;rw[bC,al];exact⟨λ_=>⟨by rw[p],by rw[p];exact eA.same h z E G y⟩,λh=>absurd Φ h⟩
 rw[q]at p;rw[bC,al];refine⟨λh=>absurd rfl h,λ_=>?_⟩;obtain⟨j,pos,u,S,T,U,ag,K,hu,J,ad,W⟩:=xX q;have X:=x5 ag;simp only[S,T,U,u7]at p ⊢;refine(QK (j:=j) (pos:=pos) (h.ext y) (z.ext y) ag K W).mono ?_;rintro _ aa _ ⟨rfl,L⟩;refine(ur (h.ext (y.trans L))).mono ?_;rintro _ af _ ⟨Y,rfl⟩;have B:=(y.trans L).trans Y;refine da (λw'=>eA aB w ae gT A R n (cw n.k s a).1 w') ?_ λaA M=>?_
 .intro w' Z;refine⟨?_,Z⟩;rw[p];split
  .rfl
  .rename_i r;rw[Z9.1 r]
 rw[be,al];refine⟨λr=>?_,λr=>M _ ?_⟩
 .obtain⟨C,hm⟩:=nc (λh=>h r);rw[cW (cs:=#[.func (.func nA) #[] #[],.func (.func nB) #[] #[]]) Ψ];have N:∀t∈cm s f.sc pos a.v,a.c<=bt f.ak f.cs t:=λt ab=>((pT _ _ _).1 hm).2 _ (j4.2 ⟨t,ab,rfl⟩);have O:=hN (v:=a.v.toNat) I J;refine(E1 (t:=t) (F1:=nA) (F2:=nB) (tup:=λg=>dL n.k g a.c) (un:=λg=>dp n.k g a.c) (h.ext B) (z.ext B) E G ag K hu J ad (λtl P=>?_) ⟨ng O C.1,λ{w A s t}H=>rC H O C⟩).mono ?_
  .have Q:=oy (t:=tl) I X;exact⟨nf Q ⟨C.1,N tl P⟩,λ{w A s t}H=>ut H Q C (.inr (N tl P))⟩
  .rintro _ ah _ ac;refine M _ ?_;rw[p,if_neg (λh=>h r)];exact ac.before B
 .rw[p,if_pos r];exact eA.same h z E G B
theorem QV(hk:a.kind=1)(h:bw w ae gT A R n s t)(C:Laid w)(E:¬A 0)(G:fx aB t):am x7 GS [Γ ae,Δ a.i,Δ a.pos,Δ a.v,Δ a.c] w (oC aB w ae gT A R n s a):=by
 have H:=h.2.2.2.1;refine az func66 ?_;refine(EQ h).mono ?_;rintro _ V _ ⟨y,u,e,rfl,q⟩;rw[bm,bn];have p:cw n.k s a=match eh s a.i a.pos a.v with
  |none=>(s,1)
  |some (f,u,x)=>if dq n.k a.c (x.un.getD a.v.toNat 0)≠0 then(s,dq n.k a.c (x.un.getD a.v.toNat 0))else(i7 s a.i.toNat f a.pos.toNat u.toNat x a.v (λg=>dp n.k g a.c) λg=>dL n.k g a.c,0):=by unfold cw;rw[if_neg Ω,if_pos hk]<;>cases eh s a.i a.pos a.v<;>rfl
 rcases q with⟨rfl,f,x,q⟩|⟨rfl,q⟩
 rotate_left
 .rw[q]at p;rw[bC,al];exact⟨λ_=>⟨by rw[p],by rw[p];exact eA.same h C E G y⟩,λh=>absurd Φ h⟩
 rw[q]at p;rw[bC,al];refine⟨λh=>absurd rfl h,λ_=>?_⟩;obtain⟨j,pos,u,O,P,Q,ag,S,hu,J,ad,Z⟩:=xX q;have T:=x5 ag;simp only[O,P,Q,u7]at p ⊢;refine(pH (i:=(u:Int)) (v:=a.v) (h.ext y)).mono ?_;rintro _ aa _ ⟨rfl,K⟩;have U:ix s (u:Int).toNat a.v.toNat=x.un.getD a.v.toNat 0:=by
  unfold ix;rw[u7,J]
 rw[if_pos (oB H J ad),U,bm,bn];refine(ur (h.ext (y.trans K))).mono ?_;rintro _ ab _ ⟨W,rfl⟩;have z:=(y.trans K).trans W;refine da (λw'=>eA aB w ae gT A R n (cw n.k s a).1 w') ?_ λaA L=>?_
 .intro w' X;refine⟨?_,X⟩;rw[p];split
  .rfl
  .rename_i r;rw[Z9.1 r]
 rw[be,al];refine⟨λr=>?_,λr=>L _ ?_⟩
 .obtain⟨B,hm⟩:=nc (λh=>h r);rw[cW (cs:=#[.func (.func nB) #[] #[],.func (.func nA) #[] #[]]) Ψ];have M:=hN (v:=a.v.toNat) H J;refine(E1 (t:=t) (F1:=nB) (F2:=nA) (tup:=λg=>dp n.k g a.c) (un:=λg=>dL n.k g a.c) (h.ext z) (C.ext z) E G ag S hu J ad (λtl ac=>?_) ⟨nf M ⟨B.1,hm⟩,λ{w A s t}I=>ut I M B (.inr hm)⟩).mono ?_
  .have N:=oy (t:=tl) H T;exact⟨ng N B.1,λ{w A s t}I=>rC I N B⟩
  .rintro _ af _ Y;refine L _ ?_;rw[p,if_neg (λh=>h r)];exact Y.before z
 .rw[p,if_pos r];exact eA.same h C E G z
end
def gS(s:aq)(i:Int):Option bG:=match(if 0<=i then s.vars[i.toNat]? else ν)with
 |some x=>if x.gone=0 then σ x else ν
 |none=>ν
theorem xY{s:aq}{i:Int}{x:bG}(h:gS s i=σ x):0<=i/\s.vars[i.toNat]?=σ x/\x.gone=0:=by
 unfold gS at h;by_cases a:0<=i
 .rw[if_pos a]at h;cases J:s.vars[i.toNat]? with
  |none=>rw[J]at h;cases h
  |some y=>
   rw[J]at h;simp only at h;split at h
   .rename_i e;cases h;exact⟨a,rfl,e⟩
   .cases h
 .rw[if_neg a]at h;cases h
theorem E2{g:Int->Int}{un L:Λ}{j:Nat}(h:L[j]?=σ v):eb g un (L.take (j+1))=(eb g un (L.take j)).set v.toNat (g ((eb g un (L.take j)).getD v.toNat 0)):=by
 unfold eb;rw[u9,h,j5,List.foldl_append];rfl
theorem E3{i:Nat}{v:Int}:∀(L M:Λ)(s:aq),gi s i v (L++M)=gi (gi s i v L) i v M
 |[],_,_=>rfl
 |w::L,M,s=>by
  rw[List.cons_append,gi,gi];exact E3 L M _
theorem QW{s:aq}{i:Nat}{w:Int}{L:Λ}{j:Nat}(h:L[j]?=σ w):gi s i v (L.take (j+1))=if w≠v then ef (gi s i v (L.take j)) i w.toNat else gi s i v (L.take j):=by
 rw[u9,h,j5,E3];rfl
def kf(m u:Int):Int:=if m<0\/u<m then u else m
theorem E4:∀(l:Λ)(m:Int),0<=m->(∀c∈l,0<=c)->l.foldl kf m=l.foldl min m
 |[],_,_,_=>rfl
 |c::l,m,hm,a=>by
  have f:=a c (.head _);have e:kf m c=min m c:=by unfold kf;split<;>omega
  rw[S1,S1,e];exact E4 l _ Ω λc h=>a c (.tail _ h)
theorem QX{x:bG}(h:∀v∈aG x,0<=x.un.getD v.toNat 0):((aG x).map λv=>x.un.getD v.toNat 0).foldl kf (-1)=i9 x:=by
 unfold i9;have a:∀c∈(aG x).map (λv=>x.un.getD v.toNat 0),0<=c:=λc e=>by
  obtain⟨v,ad,rfl⟩:=j4.1 e;exact h v ad
 generalize (aG x).map (λv=>x.un.getD v.toNat 0)=l at a;cases l with
 |nil=>rfl
 |cons c l=>exact E4 l c (a c (.head _)) λc h=>a c (.tail _ h)
section
variable{aB:List aC}{w:x3}{ae gT:Nat}{A R:aj}{n:aF}{s:aq}{t:aC}{a:hM}
theorem E5{i:Int}(h:bw w ae gT A R n s t):am x7 HI [Γ ae,Δ i] w λr w'=>Ext w w'/\r=Δ (if(gS s i).isSome=true then 0 else 1):=by
 have p:=h.2.2.2.1;have O:=p.vars;refine az func145 ?_;rw[de db.u];simp only[Z5,a1];refine aV (λr V=>r= .bool (!(gS s i).isSome)/\Ext w V) ?_ ?_
 .rintro _ V ⟨rfl,C⟩;rw[b2];exact⟨λq=>⟨C,by rw[if_neg (by simpa using q)]⟩,λq=>⟨C,by rw[if_pos (by simpa using q)]⟩⟩
 intro aA E;refine(xj (i:=i) h).mono ?_;rintro _ aa _ ⟨rfl,y⟩;rw[b2];refine⟨λa=>E _ _ ⟨?_,y⟩,λa=>?_⟩
 .rw[V7,decide_eq_true_eq]at a;have K:gS s i=ν:=by
   unfold gS;rw[if_pos a.1];have B:=a.2;unfold hK at B;cases J:s.vars[i.toNat]? with
   |none=>rfl
   |some x=>
    rw[J]at B;simp only;rw[if_neg λh=>by simp[h]at B]
  rw[K];rfl
 refine(jv (i:=i) (h.ext y)).mono ?_;rintro _ P _ ⟨⟨b,m,rfl,G⟩,L⟩;refine(vR (b:=b) (n:=m)).mono ?_;rintro _ Q _ ⟨rfl,M⟩;rw[be];refine E _ _ ⟨?_,(y.trans L).trans M⟩;congr 1;by_cases f:0<=i/\i<n.sizes.length
 .obtain⟨x,J⟩:=aJ (l:=s.vars) (i:=i.toNat) Ω;obtain⟨z,H⟩:=aJ (l:=n.sizes) (i:=i.toNat) Ω;have S:=p.fq.2.2 z (x5 H);have U:=(p.var _ x z J H).1;have hm:=(G.2.2 x f.1 J).1;have N:x.gone=0:=by
   rw[decide_eq_true f.1,T5]at a;unfold hK at a;rw[J]at a;simpa using a
  have e:gS s i=σ x:=by
   unfold gS;rw[if_pos f.1,J];simp only;rw[if_pos N]
  rw[e,decide_eq_false Ω];rfl
 .obtain⟨rfl,rfl⟩:=G.2.1 f;have e:gS s i=ν:=by
   unfold gS;by_cases I:0<=i
   .rw[if_pos I,Z2 Ω]
   .rw[if_neg I]
  rw[e];rfl
theorem E6{u:Nat}{c:Int}{x:bG}{F1 F2:R5}{g z:Int->Int}(h:bw w ae gT A R n s t)(aA:Laid w)(a2:¬A 0)(a6:fx aB t)(J:s.vars[u]?=σ x)(h1:∀v∈aG x,(0<=g (x.un.getD v.toNat 0)/\g (x.un.getD v.toNat 0)<=n.k)/\∀{w:x3}{A:aj}{s:aq}{t:aC},bw w ae gT A R n s t->am x7 F1 [Γ ae,Δ (x.un.getD v.toNat 0),Δ c] w λr w'=>r=Δ (g (x.un.getD v.toNat 0))/\Ext w w')(aD:(0<=z s.zero/\z s.zero<=n.k)/\∀{w:x3}{A:aj}{s':aq}{t:aC},bw w ae gT A R n s' t->am x7 F2 [Γ ae,Δ s.zero,Δ c] w λr w'=>r=Δ (z s.zero)/\Ext w w'):
  am x7 HJ [Γ ae,Δ (u:Int),Δ c,.func (.func F1) #[] #[],.func (.func F2) #[] #[]] w λ_ w'=>eA aB w ae gT A R n (kP s u x g z) w':=by
 have a7:=h.2.2.2.1;have U:=(x4.1 J).1;refine hr func146 ?_;refine bf λg1 V bC aE a=>?_;refine bf λa8 aa bD W q=>?_;refine bf λba bE bF H B=>?_;refine bf λbb f bH I K=>?_;have a:af f g1 db [Γ ae]:=((af.ext a W).ext H).ext I;have q:af f a8 ah [Δ (u:Int)]:=(af.ext q H).ext I;have B:af f ba au [Δ c]:=af.ext B I;have K:af f bb Jn [.func (.func F1) #[] #[]]:=K;have L:=((aE.trans W).trans H).trans I;have bI:=aE.size;have bJ:=W.size;have z3:=H.size;have bK:=L.size;have M:=a.lt;have aF:=q.lt;have aH:=B.lt;have bc:=K.lt;rw[ax (v:=Γ ae) Ψ (a.cell (o:=0) rfl),ax (v:=Δ (u:Int)) Ψ (q.cell (o:=0) rfl)];refine(jv (i:=(u:Int)) (h.ext L)).mono ?_;rintro _ bL _ ⟨⟨b,bd,rfl,aI⟩,aJ⟩;refine(mO (b:=b) (n:=bd)).mono ?_;rintro _ N _ ⟨be,aK,rfl,bM,aL⟩;have aM:=mg aI Ω (show s.vars[(u:Int).toNat]?=σ x by rw[u7];exact J);have C:=aJ.trans be;have z5:=aJ.size;have z46:=C.size;have bN:=aL.lt;have aN:=rz x;have bg:ez s u x (eb g x.un ((aG x).take 0))=s:=by
  unfold ez;show{s with vars:=s.vars.set u x}=s;have:s.vars.set u x=s.vars:=by
   apply Y3;intro i;by_cases e:u=i
   .subst e;rw[b8 U,J]
   .rw[Y2 e]
  rw[this]
 refine jJ.old ⟨_,false,iG,#[Γ aK],_,_,_,_,λj w'=>fy aB w ae gT A R n w.heap.size (λr=>N.heap.size<=r) (ez s u x (eb g x.un ((aG x).take j))) w'/\ai (λr=>r<w.heap.size\/N.heap.size<=r) N w',λ_ _ _=>False,rfl,(mN (g:=aK) aI.1).s,?_,
  λ_ _ J h=>⟨h.1.ext J,h.2.ext J⟩,λ_ _ _ J h=>⟨h.1.ext J,h.2.trans (J.ab _)⟩,λ_ _ _ _ _ h=>h,⟨aL,aA.ext (L.trans C)⟩,?_,?_,?_,λ_ _ h=>h.elim,λ_ _ _ h=>h.elim⟩
 .rintro _ _ _ _ ⟨_,_,_,_,rfl⟩;rfl
 .refine⟨?_,ai.refl _ _⟩;rw[bg];exact fy.start h aA a2 a6 (L.trans C) (o4 _)
 .rintro _ j _ bh ⟨bi,bO⟩ ⟨bP,rfl,v,ad,bj⟩ ⟨O,E⟩;cases bj;intro bQ P _ _;have X:(aG x)[j]?=σ (v:Int):=by rw[<-aM,x8,ad];rfl
  have aO:=x5 X;have aZ:∀{G:x3}{g:Nat}{e:p9}{cs:List x1},Ext bh G->w.heap.size<=g->g<f.heap.size->af f g e cs->af G g e cs:=λJ aQ aR Y=>((Y.ext C).ab E Ω).ext J;obtain⟨bR,bS,Z,aS,ac⟩:=O.open;have aT:ft n (u:Int) (v:Int):=oB a7 J aO;have bk:∀y∈aG x,0<=y/\y<x.un.length:=λy ag=>(h8.1 ag).1;have ak:=ui (g:=g) ((aG x).take j) x.un (v:Int) (aN.sublist (List.take_sublist _ _)) (λy ag=>bk y (List.mem_of_mem_take ag)) Ω;rw[if_neg (xT aN X)]at ak;have bl:ix (ez s u x (eb g x.un ((aG x).take j))) (u:Int).toNat (v:Int).toNat=x.un.getD (v:Int).toNat 0:=by
   unfold ix ez;rw[u7,b8 U];exact ak
  rw[ax (v:=Γ ae) Ψ ((aZ P Ω M a).cell (o:=0) rfl),ax (v:=Δ (u:Int)) Ψ ((aZ P Ω aF q).cell (o:=0) rfl)];refine(pH (i:=(u:Int)) (v:=(v:Int)) (Z.ext P)).mono ?_;rintro _ bT _ ⟨rfl,bo⟩;rw[if_pos aT,bl,bm,bn];intro bp bq _ _;have p:=(P.trans bo).trans bq;rw[ax (v:=Γ ae) Ψ ((aZ p Ω M a).cell (o:=0) rfl),ax (v:=Δ (u:Int)) Ψ ((aZ p Ω aF q).cell (o:=0) rfl),
   ax (v:=.func (.func F1) #[] #[]) Ψ ((aZ p Ω bc K).cell (o:=0) rfl),ax (v:=Γ ae) Ψ ((aZ p Ω M a).cell (o:=0) rfl),ax (v:=Δ c) Ψ ((aZ p Ω aH B).cell (o:=0) rfl)]
  show am x7 F1 [Γ ae,Δ (x.un.getD (v:Int).toNat 0),Δ c] bp _;obtain⟨br,bt⟩:=h1 v aO;refine(bt (Z.ext p)).mono ?_;rintro _ bU _ ⟨rfl,aU⟩;have al:=p.trans aU;refine⟨.inl aU,(D3 (i:=(u:Int)) (v:=(v:Int)) (Z.ext al) aS.room).mono ?_⟩;rintro r bV _ ⟨_,_,an⟩;obtain⟨_,ao,aP,bu,bx,ap,Q⟩:=an aT br;have e:kJ (ez s u x (eb g x.un ((aG x).take j))) (u:Int).toNat (v:Int).toNat (g (x.un.getD (v:Int).toNat 0))=ez s u x (eb g x.un ((aG x).take (j+1))):=by
   rw[E2 X,ak];unfold kJ ez;rw[u7,b8 U];simp only[List.set_set]
  rw[e]at Q;have bW:=E.size;obtain⟨aV,aW,bX⟩:=ac (D':=λr=>N.heap.size<=r) (j1 al ao) ((Grow.ext al).trans ap) Q aS.set (λr h=>h) λr aQ aR=>Ω
  exact⟨⟨bi.ab aW Ω,aV.2.1.1⟩,⟨aV,E.trans aW⟩,λh=>by cases h⟩
 .rintro k bz rfl ⟨O,E⟩;rw[b6 (by rw[<-aM,r8];exact o4 _)]at O;obtain⟨bY,bZ,av,aX,ac⟩:=O.open;have aZ:∀{G:x3}{g:Nat}{e:p9}{cs:List x1},Ext bz G->w.heap.size<=g->g<f.heap.size->af f g e cs->af G g e cs:=λJ aQ aR Y=>((Y.ext C).ab E Ω).ext J;intro b0 S _ _;have aw:=aZ S Ω M a;rw[ax (v:=Γ ae) Ψ (aw.cell (o:=0) rfl),ax (v:=Γ ae) Ψ (aw.cell (o:=0) rfl),ax (v:=Γ ae) Ψ (aw.cell (o:=0) rfl),ax (v:=Δ c) Ψ ((aZ S Ω aH B).cell (o:=0) rfl)];refine(tS (av.ext S)).mono ?_;rintro _ bA _ ⟨rfl,ay⟩;have aY:=S.trans ay;refine⟨.inl ay,?_⟩;show am x7 F2 [Γ ae,Δ s.zero,Δ c] bA _;refine(aD.2 (av.ext aY)).mono ?_;rintro _ b1 _ ⟨rfl,a1⟩;have az:=aY.trans a1;refine⟨.inl (ay.trans a1),(Pe (av.ext az) aX.room).mono ?_⟩;rintro r b2 _ ⟨_,an⟩;obtain⟨_,ao,aP,bu,bx,ap,Q⟩:=an aD.1;intro b3 bB _;exact(ac (D':=λ_=>True) (j1 az ao) ((Grow.ext az).trans ap) Q aX.set (λ_ _=>trivial) λ_ _ _=>trivial).1.done bB
end
section
variable{w:x3}{ae gT ao:Nat}{A R:aj}{A9:Nat->aj}{aH:aj}{n:aF}{s u:aq}{t:aC}{h:List aC}{cs:List x1}{a:hM}
theorem QY(hk:a.kind<2):cw n.k u a=match eh u a.i a.pos a.v with
  |none=>(u,1)
  |some (f,v,x)=>if dq n.k a.c (if a.kind=1 then x.un.getD a.v.toNat 0 else mm n.k u f a.pos.toNat a.v)≠0 then(u,dq n.k a.c (if a.kind=1 then x.un.getD a.v.toNat 0 else mm n.k u f a.pos.toNat a.v))
   else(i7 u a.i.toNat f a.pos.toNat v.toNat x a.v (λg=>if a.kind=0 then dL n.k g a.c else dp n.k g a.c) λg=>if a.kind=0 then dp n.k g a.c else dL n.k g a.c,0):=by
 unfold cw;by_cases e:a.kind=0
 .rw[if_pos e];simp only[e];cases eh u a.i a.pos a.v<;>rfl
 .have h1:a.kind=1:=Ω
  rw[if_neg e,if_pos h1];simp only[h1];cases eh u a.i a.pos a.v<;>rfl
theorem getD_some{l:Λ}{i:Nat}(h:i<l.length):l[i]?=σ (l.getD i 0):=by
 rw[u4,x6 h];rfl
theorem QZ(p:ch w ae gT ao A R A9 aH n s u t h cs)(G:br n.k n.sizes u)(bP:dn u)(hk:a.kind<2):am x7 vj [Γ ao,Δ (a.kind:Int),Δ a.i,Δ a.pos,Δ a.v,Δ a.c] w λr w'=>r=Δ (cw n.k u a).2/\dt w ae gT ao A R A9 aH n s t h (cw n.k u a).1 w':=by
 have C:=QY (n:=n) (u:=u) hk;have c0:=G.vars;have bQ:=G.ew;refine az func64 ?_;have bS:cs[0]?=σ (Δ n.k):=by obtain⟨_,_,_,_,_,_,rfl,_⟩:=p.ow;rfl
 rw[aS a7.p 0 p.box bS,aR,al];refine⟨λ_=>?_,λh=>Ω⟩;rw[bU];refine p.look.load λfa bT=>?_;refine(Qy bT G bP).mono ?_;rintro _ V _ ⟨aB,rfl⟩;cases aQ:eh u a.i a.pos a.v with
 |none=>
  rw[aQ]at C;simp only;rw[bm,bn,bH,W7,bR];exact⟨by rw[C],by rw[C];exact dt.same p aB⟩
 |some q=>
 obtain⟨f,M,x⟩:=q;rw[aQ]at C;simp only;rw[bm,bn,bH,X1,a1];obtain⟨j,pos,M,bV,bW,bX,ag,c1,hu,J,ad,aT⟩:=xX aQ;have aC:=x5 ag;simp only[bV,bW,bX,u7]at C ⊢;have bY:=(x4.1 ag).1;have bl:=(x4.1 J).1;have bZ:=(x4.1 hu).1;obtain⟨b0,c2⟩:=lC G aC;have b1:=EO G aC aT;have b3:=(h8.1 ad).1;obtain⟨v,P⟩:=U8 b3.1;have bo:=hN (v:=a.v.toNat) G J;have aE:=p.ext aB;have bp:∀{aa:x3}{eR:aq}{bq:List x1}{bu:Nat->aj}{f2:ca},ch aa ae gT ao A R bu aH n s eR t h bq->eR.funs[j]?=σ f2->∃Q cap S aW y,bq[6]?=σ (.slice (σ ⟨Q,0,ν⟩) eR.funs.length cap)/\j<eR.funs.length/\aa.cell? ⟨Q,0+j*4+0+0,ν⟩=σ S/\aa.cell? ⟨Q,0+j*4+0+2,ν⟩=σ y/\aI .i64 aa S f2.sc/\aI .i64 aa y f2.cs/\
   ∀{w':x3}{m:Nat}{c:Int}{K:Unit->x3->Prop},Ext aa w'->m<f2.cs.length->(∀bw,dt aa ae gT ao A R bu aH n s t h (dM eR j f2 (f2.cs.set m c)) bw->K () bw)->ac x7 (c7 ay y (Δ (m:Int))) w' λa=>aD x7 (o8 au a (Δ c)) w' K:=λb5 aF=>by
  obtain⟨Q,cap,S,aW,y,b6,bx,b7,b9,U⟩:=QA b5 aF;exact⟨Q,cap,S,aW,y,b6,(x4.1 aF).1,by rw[X2];exact bx 0 _ rfl,by rw[X2];exact bx 2 _ rfl,b7,b9,U⟩
 obtain⟨Q,c3,S,aW,c4,cb,cc,cd,_,ce,_,_⟩:=bp aE ag;rw[aS a7.p 6 aE.box cb,e8 gn.u fD.i cc λ_=>rfl,aU fD.p rfl,aU bb.p rfl,ax (v:=S) (o:=0+j*4+0+0) Ψ cd,bg an.u ah.i Ψ ce hu];generalize bz:(if a.kind=1 then x.un.getD a.v.toNat 0 else mm n.k u f pos a.v)=most at C;refine aV (λr aa=>r=Δ most/\Ext w aa) ?_ λaA bA=>?_
 rotate_left
 .rw[be,al];refine⟨λh1=>?_,λh1=>bA _ _ ⟨by rw[<-bz,if_neg Ω],aB⟩⟩;have h1:a.kind=1:=Ω
  obtain⟨aY,bB,y,aZ,a2,aG,_⟩:=xW aE J;rw[aS a7.p 5 aE.box aZ,e8 ek.u ay.i bl λ_=>rfl,ax (v:=y) (o:=0+M*1) Ψ (by rw[X2,U1];exact a2),P,bg ay.u au.i Ψ aG (getD_some Ω)];refine bA _ _ ⟨?_,aB⟩;rw[<-bz,if_pos h1,P,u7]
 rintro _ aa ⟨rfl,cg⟩;refine Ai.mono ?_;rintro _ c5 _ ⟨rfl,ci⟩;have W:=cg.trans ci;have bC:cq a.c n.k↔0<=a.c/\a.c<=n.k:=⟨λh=>h.2,λaF=>⟨bQ,aF⟩⟩;rw[bH,b2];refine⟨λX=>?_,λX=>?_⟩
 .have cj:¬cq a.c n.k:=by simpa using X
  have E:dq n.k a.c most=3:=by unfold dq;rw[if_pos λh=>cj (bC.2 h)]
  rw[if_pos (by rw[E];decide),E]at C;exact⟨by rw[C],by rw[C];exact dt.same p W⟩
 have bD:=bC.1 (show cq a.c n.k by simpa using X);rw[bL,al];refine⟨λcl=>?_,λcn=>?_⟩
 .have E:dq n.k a.c most=7:=by unfold dq;rw[if_neg (λh=>h bD),if_pos cl]
  rw[if_pos (by rw[E];decide),E]at C;exact⟨by rw[C],by rw[C];exact dt.same p W⟩
 have E:dq n.k a.c most=0:=by unfold dq;rw[if_neg (λh=>h bD),if_neg cn]
 rw[if_neg (λh=>h E)]at C;have cp:=p.ext W;rw[bU];refine cp.look.load λc6 cr=>?_;refine(EU cr G ag bZ aT).mono ?_;rintro aK a6 _ ⟨ct,a8,cu⟩;have bE:=W.trans ct;rw[aX an.u a8];have bF:(lF u f pos a.v).length=(cm u f.sc pos a.v).length:=by unfold lF;rw[r8]
 rw[bF];obtain⟨tup,ba⟩:∃tup:Int->Int,tup=λg=>if a.kind=0 then dL n.k g a.c else dp n.k g a.c:=⟨_,rfl⟩;obtain⟨un,bc⟩:∃un:Int->Int,un=λg=>if a.kind=0 then dp n.k g a.c else dL n.k g a.c:=⟨_,rfl⟩;rw[<-ba,<-bc]at C;have cz:=p.olds.ext bE;have c8:=p.box.lt;have c9:=W.size;have cA:∀{w':x3},ai (λr=>(∃q,A9 q r/\r<w.heap.size)\/r=ao) a6 w'->aI .i64 w' aK (lF u f pos a.v):=λcB=>hV a8 cB λr E b n c e X=>by
  have:=cu r ⟨b,n,c,e,X⟩;rcases E with⟨q,E⟩|E
  .have:=E.2;omega
  .omega
 refine ck.range (cm u f.sc pos a.v).length (λq w'=>dt a6 ae gT ao A R (λq r=>A9 q r/\r<w.heap.size) aH n s t h (dM u j f (dD tup ((cm u f.sc pos a.v).take q) f.ak f.cs)) w') (by rw[<-bF];exact a8.le) ?_ ?_ ?_
 .rw[List.take_zero,E0 G ag];exact dt.same cz (Ext.refl _)
 .rintro q Y cC cD aL cF;obtain⟨tl,bd⟩:=aJ (l:=cm u f.sc pos a.v) cD;obtain⟨m,hm⟩:=uo G aC aT (x5 bd);have cG:(lF u f pos a.v)[q]?=σ (m:Int):=by
   unfold lF;rw[x8,bd];unfold oz;rw[Z6,hm];rfl
  obtain⟨bG,bI⟩:=EP (g:=tup) G ag b1 bd hm;have cH:=(x4.1 (mP b0 hm)).1;have db:m<f.cs.length:=by rw[u7]at cH;omega
  obtain⟨U,cI,bJ,O,bf⟩:=id aL;obtain⟨b4,bK⟩:∃b4,b4=dD tup ((cm u f.sc pos a.v).take q) f.ak f.cs:=⟨_,rfl⟩;have dc:b4.length=f.cs.length:=by rw[bK,om _ _ _ _ Ω]
  rw[<-bK]at O bG bI;have bN:(dM u j f b4).funs[j]?=σ {f with cs:=b4}:=b8 bY;obtain⟨aM,cJ,dd,de,aO,cK,cL,_,bh,_,cM,cN⟩:=bp O bN;have cO:b4[m]?=σ (bt f.ak f.cs tl):=by
   rw[getD_some Ω,<-bG];unfold bt;rw[hm];simp
  have df:=oy (t:=tl) G aC;have dg:bJ[0]?=σ (Δ n.k):=by obtain⟨_,_,_,_,_,_,rfl,_⟩:=O.ow;rfl
  have cP:=cA U;refine bM Ω ?_;refine da (λH=>dt a6 ae gT ao A R (λq r=>A9 q r/\r<w.heap.size) aH n s t h (dM u j f (dD tup ((cm u f.sc pos a.v).take (q+1)) f.ak f.cs)) H) (λH N=>by rw[aN];exact cF _ N) λcQ cR=>?_;have Z:∀{I:x3},Ext Y I->ac x7 (c7 ay aO (Δ (m:Int))) I λa'=>aD x7 (o8 au a' (Δ (tup (bt f.ak f.cs tl)))) I λ(_:Unit)H=>cQ H:=λbi=>by
   refine cN bi (by show m<b4.length;omega) λH N=>cR _ (dt.comp U bf ?_);have cS:dM (dM u j f b4) j {f with cs:=b4} (b4.set m (tup (bt f.ak f.cs tl)))=kK (dM u j f b4) j m (tup (bt f.ak f.cs tl)):=by unfold kK;rw[bN];rfl
   rw[cS,bI]at N;exact N
  have row:∀{z:x3}{K:x1->x1->x1->x1->x1->x1->Prop},Ext Y z->K (Γ ao) (.pointer (σ ⟨ao,0+6,ν⟩)) (.slice (σ ⟨aM,0,ν⟩) (dM u j f b4).funs.length cJ) (.pointer (σ ⟨aM,0+j*4,ν⟩)) (.pointer (σ ⟨aM,0+j*4+0,ν⟩)) (.pointer (σ ⟨aM,0+j*4+0+2,ν⟩))->
    ac x7 (bO (Γ ao)) z λaf=>ac x7 (u6 a7 af 6) z λap=>ac x7 (u5 gn ap) z λav=>ac x7 (c7 gn av (Δ (j:Int))) z λaw=>ac x7 (u6 fD aw 0) z λaP=>ac x7 (u6 bb aP 2) z λcT=>K af ap av aw aP cT:=λJ bj=>by
   rw[aS a7.p 6 (O.box.ext J) cK,e8 gn.u fD.i cL λ_=>rfl,aU fD.p rfl,aU bb.p rfl];exact bj
  rw[bg an.u ah.i Ψ cP cG];refine row (Ext.refl _) ?_;rw[ax (v:=aO) (o:=0+j*4+0+2) Ψ bh,bg ay.u au.i Ψ cM cO,be,al];refine⟨λbk=>?_,λbk=>?_⟩
  .intro z B _ _;refine row B ?_;rw[ax (v:=aO) (o:=0+j*4+0+2) Ψ (iJ B bh)];refine(uu Ω Ω).mono ?_;rintro _ I _ ⟨rfl,L⟩;refine⟨.inl L,?_⟩;have:=Z (B.trans L);rw[ba]at this;simp only[if_pos (show a.kind=0 by omega)]at this;exact this
  .intro z B _ _;refine row B ?_;rw[ax (v:=aO) (o:=0+j*4+0+2) Ψ (iJ B bh)];refine(pm Ω Ω).mono ?_;rintro _ I _ ⟨rfl,L⟩;refine⟨.inl L,?_⟩;have:=Z (B.trans L);rw[ba]at this;simp only[if_neg (show¬a.kind=0 by omega)]at this;exact this
 .rintro Y cC aL;rw[o7]at aL;refine cE Ω ?_;obtain⟨U,cI,bJ,O,bf⟩:=id aL;have cU:(dM u j f (dD tup (cm u f.sc pos a.v) f.ak f.cs)).vars[M]?=σ x:=J;obtain⟨aY,bB,y,aZ,a2,aG,cV⟩:=xW O cU;refine da (λH=>dt w ae gT ao A R A9 aH n s t h (i7 u j f pos M x a.v tup un) H) (λH N=>⟨by rw[C],by rw[C];exact N⟩) λcW cX=>?_;have cY:M<(dM u j f (dD tup (cm u f.sc pos a.v) f.ak f.cs)).vars.length:=bl;have row:∀{z:x3}{K:x1->x1->x1->x1->x1->Prop},Ext Y z->K (Γ ao) (.pointer (σ ⟨ao,0+5,ν⟩)) (.slice (σ ⟨aY,0,ν⟩) (dM u j f (dD tup (cm u f.sc pos a.v) f.ak f.cs)).vars.length bB) (.pointer (σ ⟨aY,0+M*1,ν⟩)) y->
    ac x7 (bO (Γ ao)) z λaf=>ac x7 (u6 a7 af 5) z λap=>ac x7 (u5 ek ap) z λav=>ac x7 (c7 ek av (Δ (M:Int))) z λaw=>ac x7 (u5 ay aw) z λaP=>K af ap av aw aP:=λJ bj=>by
   rw[aS a7.p 5 (O.box.ext J) aZ,e8 ek.u ay.i cY λ_=>rfl,ax (v:=y) (o:=0+M*1) Ψ (by rw[X2,U1];exact iJ J a2)];exact bj
  have Z:∀{I:x3},Ext Y I->ac x7 (c7 ay y (Δ (v:Int))) I λa'=>aD x7 (o8 au a' (Δ (un (x.un.getD v 0)))) I λ(_:Unit)H=>cW H:=λbi=>by
   refine cV bi Ω λH N=>cX _ ?_;have cZ:=dt.comp U bf N.EV;have:=dt.comp (A9:=A9) (w:=w) (bE.ab _) (λq r E=>.inl ⟨q,E.1⟩) cZ;unfold i7;rw[show a.v.toNat=v by omega];exact this
  rw[be,al];refine⟨λbk=>?_,λbk=>?_⟩
  .intro z B _ _;refine row B (row B ?_);rw[P,bg ay.u au.i Ψ (aG.ext B) (getD_some Ω)];rw[P,u7]at bo;refine(pm Ω Ω).mono ?_;rintro _ I _ ⟨rfl,L⟩;refine⟨.inl L,?_⟩;have:=Z (B.trans L);rw[bc]at this;simp only[if_pos (show a.kind=0 by omega)]at this;exact this
  .intro z B _ _;refine row B (row B ?_);rw[P,bg ay.u au.i Ψ (aG.ext B) (getD_some Ω)];rw[P,u7]at bo;refine(uu Ω Ω).mono ?_;rintro _ I _ ⟨rfl,L⟩;refine⟨.inl L,?_⟩;have:=Z (B.trans L);rw[bc]at this;simp only[if_neg (show¬a.kind=0 by omega)]at this;exact this
end
section
variable{aB:List aC}{w:x3}{ae gT:Nat}{A R:aj}{n:aF}{s:aq}{t:aC}{a:hM}
theorem eA.step{aP:aj}{s':aq}{bq:aC}(h:bw w ae gT A R n s t)(f:Laid w)(e:¬A 0)(J:Ext w V)(p:ai (en V) V aa)(a:Grow A V aP aa)(q:bw aa ae gT aP R n s' bq)(r:fx aB bq):eA aB w ae gT A R n s' aa:=by
 refine⟨j1 J p,jh a.1 e (f.ext J),aP,bq,(Grow.ext J).trans a,q,r,λx=>(a.2.1 0 x).elim e λy=>?_⟩;obtain⟨z,B,C,E,⟨h1,_⟩,_⟩:=h.1;have:=h.lt (.inl h1);have:=J.size;omega
theorem xZ(hk:a.kind=2):cw n.k s a=match gS s a.i with
  |none=>(s,1)
  |some x=>if dq n.k a.c (i9 x)≠0 then(s,dq n.k a.c (i9 x))else(kP s a.i.toNat x (λg=>dL n.k g a.c) λg=>dp n.k g a.c,0):=by
 unfold cw gS;rw[if_neg Ω,if_neg Ω,if_pos hk];cases (if 0<=a.i then s.vars[a.i.toNat]? else ν)with
 |none=>rfl
 |some x=>
  simp only;by_cases e:x.gone=0
  .rw[if_neg Ω,if_pos e]
  .rw[if_pos e,if_neg e]
theorem x0(hk:a.kind=3):cw n.k s a=match gS s a.i with
  |none=>(s,1)
  |some x=>if dq n.k a.c (if aG x=[]then-1 else s.zero)≠0 then(s,dq n.k a.c (if aG x=[]then-1 else s.zero))else(kP s a.i.toNat x (λg=>dp n.k g a.c) λg=>dL n.k g a.c,0):=by
 unfold cw gS;rw[if_neg Ω,if_neg Ω,if_neg Ω,if_pos hk];cases (if 0<=a.i then s.vars[a.i.toNat]? else ν)with
 |none=>rfl
 |some x=>
  simp only;by_cases e:x.gone=0
  .rw[if_neg Ω,if_pos e]
  .rw[if_pos e,if_neg e]
theorem Q2(hk:a.kind=2)(h:bw w ae gT A R n s t)(K:Laid w)(X:¬A 0)(Y:fx aB t):am x7 GU [Γ ae,Δ a.i,Δ a.c] w (oC aB w ae gT A R n s a):=by
 have B:=h.2.2.2.1;have e:=xZ (n:=n) (s:=s) hk;refine hr func67 ?_;refine bf λg1 V bG aC C=>?_;refine bf λZ aa bH ac E=>?_;have C:af aa g1 db [Γ ae]:=af.ext C ac;have E:af aa Z ah [Δ a.i]:=E;have ag:=aC.trans ac;have bI:=aC.size;have bJ:=ac.size;have bK:=C.lt;have bL:=E.lt;rw[ax (v:=Γ ae) Ψ (C.cell (o:=0) rfl),ax (v:=Δ a.i) Ψ (E.cell (o:=0) rfl)];refine(E5 (i:=a.i) (h.ext ag)).mono ?_;rintro _ bM _ ⟨aj,rfl⟩;have aY:=ag.trans aj;have z3:=aj.size;cases ad:gS s a.i with
 |none=>
  rw[ad]at e;rw[if_neg Ξ,bC,al];refine⟨λ_=>?_,λh=>absurd Φ h⟩;intro aZ a1 _;exact⟨by rw[e],by rw[e];exact eA.same h K X Y (aY.trans a1)⟩
 |some x=>
 rw[ad]at e;simp only at e;obtain⟨aD,J,bN⟩:=xY ad;obtain⟨u,hu⟩:=U8 aD;rw[hu,u7]at J;rw[hu,u7]at e;rw[if_pos (by rfl),bC,al];refine⟨λh=>absurd rfl h,λ_=>?_⟩;refine bx au.i λL bO bP aE aF=>?_;refine bl au.i rfl rfl aF (by simp[x1.cells]) λM ak bQ N=>?_;have N:af M L au [Δ (-1)]:=N;have z5:=aE.size;have bR:=aF.lt;have an:=aj.trans aE;have ao:af M g1 db [Γ ae]:=(C.ext an).ab ak Ω;have ap:af M Z ah [Δ a.i]:=(E.ext an).ab ak Ω;have O:Ext w M:=(ag.trans an).then ak (by rintro r aH rfl;omega);rw[ax (v:=Γ ae) Ψ (ao.cell (o:=0) rfl),ax (v:=Δ a.i) Ψ (ap.cell (o:=0) rfl)];refine(jv (i:=a.i) (h.ext O)).mono ?_;rintro _ bS _ ⟨⟨b,a2,rfl,aI⟩,aJ⟩;refine(mO (b:=b) (n:=a2)).mono ?_;rintro _ a6 _ ⟨a7,aK,rfl,bT,aL⟩;have aM:=mg aI aD (show s.vars[a.i.toNat]?=σ x by rw[hu,u7];exact J);have f:=aJ.trans a7;have bU:=aJ.size;have bV:=aL.lt;have bW:=N.lt;have aN:∀j (v:Nat),(aG x)[j]?=σ (v:Int)->(((aG x).take (j+1)).map λv=>x.un.getD v.toNat 0).foldl kf (-1)=kf ((((aG x).take j).map λv=>x.un.getD v.toNat 0).foldl kf (-1)) (x.un.getD v 0):=λj v aO=>by
  rw[u9,aO,j5,Z4,List.foldl_append];rfl
 refine jJ.old ⟨_,false,iG,#[Γ aK],_,_,_,_,λj w'=>ai (λr=>r=L) a6 w'/\af w' L au [Δ ((((aG x).take j).map λv=>x.un.getD v.toNat 0).foldl kf (-1))],λ_ _ _=>False,rfl,(mN (g:=aK) aI.1).s,?_,
  λ_ _ J h=>⟨h.1.ext J,h.2.ext J⟩,λ_ _ _ J h=>⟨h.1.trans (J.ab _),h.2.ext J⟩,λ_ _ _ _ _ h=>h,⟨aL,K.ext (O.trans f)⟩,⟨ai.refl _ _,N.ext f⟩,?_,?_,λ_ _ h=>h.elim,λ_ _ _ h=>h.elim⟩
 .rintro _ _ _ _ ⟨_,_,_,_,rfl⟩;rfl
 .rintro _ j _ a8 ⟨aQ,aS⟩ ⟨aO,rfl,v,ba,bb⟩ ⟨q,P⟩;cases bb;intro bc aT _ _;have aq:(aG x)[j]?=σ (v:Int):=by rw[<-aM,x8,ba];rfl
  have bd:=oB B J (x5 aq);have av:=q.trans (aT.ab _);have bg:Ext w bc:=(O.trans f).then av (by rintro r aH rfl;omega);rw[ax (v:=Γ ae) Ψ (((ao.ext f).ab av Ω).cell (o:=0) rfl),ax (v:=Δ a.i) Ψ (((ap.ext f).ab av Ω).cell (o:=0) rfl)];refine(pH (i:=a.i) (v:=(v:Int)) (h.ext bg)).mono ?_;rintro _ bh _ ⟨rfl,bi⟩;have bj:ix s a.i.toNat (v:Int).toNat=x.un.getD v 0:=by
   unfold ix;rw[hu,u7,J];rfl
  rw[if_pos (by rw[hu];exact bd),bj,bm,bn];have G:=aT.trans bi;have H:=P.ext G;refine aV (λr bk=>(r= .bool (decide ((((aG x).take j).map λv=>x.un.getD v.toNat 0).foldl kf (-1)<0\/x.un.getD v 0<(((aG x).take j).map λv=>x.un.getD v.toNat 0).foldl kf (-1))))/\bk=bh) ?_ λaA I=>?_
  .rintro _ _ ⟨rfl,rfl⟩;rw[al];refine⟨λQ=>?_,λS=>?_⟩
   .refine bl au.i rfl rfl H Ξ λbo bp bX br=>?_;have p:ai (λr=>r=L) a8 bo:=(G.ab _).trans bp;refine⟨⟨aQ.ab p Ω,jh p Ω aS⟩,⟨q.trans p,?_⟩,λh=>by cases h⟩;rw[aN j v aq];unfold kf at Q ⊢;rw[if_pos Q];exact br
   .refine⟨⟨aQ.ext G,aS.ext G⟩,⟨q.trans (G.ab _),?_⟩,λh=>by cases h⟩;rw[aN j v aq];unfold kf at S H ⊢;rw[if_neg S];exact H
  rw[ax (v:=Δ _) Ψ (H.cell (o:=0) rfl),aR,al];refine⟨λQ=>I _ _ ⟨by rw[decide_eq_true (Or.inl Q)],rfl⟩,λS=>?_⟩;rw[ax (v:=Δ _) Ψ (H.cell (o:=0) rfl),aR];refine I _ _ ⟨?_,rfl⟩;congr 1;exact decide_eq_decide.2 ⟨.inr,λh=>h.resolve_left S⟩
 .rintro k aw rfl ⟨q,P⟩;rw[b6 (by rw[<-aM,r8];exact o4 _),QX λv _=>(hN B J).1]at P;have aU:Ext w aw:=(O.trans f).then q (by rintro r aH rfl;omega);have aW:af aw g1 db [Γ ae]:=(ao.ext f).ab q Ω;have bt:af aw Z ah [Δ a.i]:=(ap.ext f).ab q Ω;rw[ax (v:=Γ ae) Ψ (aW.cell (o:=0) rfl),ax (v:=Δ (i9 x)) Ψ (P.cell (o:=0) rfl)];refine(ur (h.ext aU)).mono ?_;rintro _ bY _ ⟨ay,rfl⟩;have U:=aU.trans ay;refine da (λw'=>eA aB w ae gT A R n (cw n.k s a).1 w') ?_ λaA I=>?_
  .intro w' bu bZ W _;obtain⟨bz,bA,aP,bq,bB,bD,bE⟩:=bu;refine⟨?_,bz.trans (W.ab _),bA.ext W,aP,bq,bB.trans (Grow.ext W),bD.ext W,bE⟩;rw[e];split
   .rfl
   .rename_i y;rw[Z9.1 y]
  rw[be,al];refine⟨λy=>?_,λy=>I _ ?_⟩
  .obtain⟨p,hm⟩:=nc (λh=>h y);rw[ax (v:=Γ ae) Ψ ((aW.ext ay).cell (o:=0) rfl),ax (v:=Δ a.i) Ψ ((bt.ext ay).cell (o:=0) rfl),hu];refine(E6 (t:=t) (u:=u) (F1:=nA) (F2:=nB) (g:=λg=>dL n.k g a.c) (z:=λg=>dp n.k g a.c) (h.ext U) (K.ext U) X Y J (λv ad=>?_) ⟨ng B.zero p.1,λ{w A s' t}az=>rC az B.zero p⟩).mono ?_
   .have aX:=hN (v:=v.toNat) B J;exact⟨nf aX ⟨p.1,xP ad hm⟩,λ{w A s t}az=>ut az aX p (.inr (xP ad hm))⟩
   .rintro _ aZ _ bF;refine I _ ?_;rw[e,if_neg (λh=>h y)];exact bF.before U
  .rw[e,if_pos y];exact eA.same h K X Y U
theorem Q3{b m:Nat}{i:Int}{x:bG}(f:tT s n i b m)(hi:0<=i)(J:s.vars[i.toNat]?=σ x):b=0↔aG x=[]:=by
 have a:=mg f hi J;constructor
 .rintro rfl;rw[<-a];have:fN 0 m=[]:=List.eq_nil_iff_forall_not_mem.2 λv ad=>by
   have:=(vP.1 ad).2;simp at this
  rw[this];rfl
 .intro he;rw[he]at a;have ad:=List.map_eq_nil_iff.1 a;refine Nat.eq_of_testBit_eq λj=>?_;rw[Nat.zero_testBit];cases e:b.testBit j with
  |false=>rfl
  |true=>
   have p:j<m:=by
    rcases Nat.lt_or_ge j m with h|h
    .exact h
    .have:=Nat.testBit_lt_two_pow (x:=b) (i:=j) (R7 f.1.2 (T8 Ω h));rw[this]at e;cases e
   have:j∈fN b m:=vP.2 ⟨p,e⟩;rw[ad]at this;cases this
theorem Q4(hk:a.kind=3)(h:bw w ae gT A R n s t)(E:Laid w)(G:¬A 0)(H:fx aB t):am x7 GV [Γ ae,Δ a.i,Δ a.c] w (oC aB w ae gT A R n s a):=by
 have I:=h.2.2.2.1;have f:=x0 (n:=n) (s:=s) hk;refine az func68 ?_;refine(E5 (i:=a.i) h).mono ?_;rintro _ V _ ⟨K,rfl⟩;cases ad:gS s a.i with
 |none=>
  rw[ad]at f;rw[if_neg Ξ,bC,al];exact⟨λ_=>⟨by rw[f],by rw[f];exact eA.same h E G H K⟩,λh=>absurd Φ h⟩
 |some x=>
 rw[ad]at f;simp only at f;obtain⟨M,J,ah⟩:=xY ad;rw[if_pos (by rfl),bC,al];refine⟨λh=>absurd rfl h,λ_=>?_⟩;refine(tS (h.ext K)).mono ?_;rintro _ aa _ ⟨rfl,X⟩;have N:=K.trans X;refine aV (λr w'=>r=Δ (if aG x=[]then-1 else s.zero)/\Ext w w') ?_ λaA y=>?_
 .rintro _ ai ⟨rfl,O⟩;refine(ur (h.ext O)).mono ?_;rintro _ aj _ ⟨Y,rfl⟩;have B:=O.trans Y;refine da (λw'=>eA aB w ae gT A R n (cw n.k s a).1 w') ?_ λaA y=>?_
  .intro w' Z;refine⟨?_,Z⟩;rw[f];generalize (if aG x=[]then(-1:Int)else s.zero)=ak;split
   .rfl
   .rename_i p;rw[Z9.1 p]
  rw[be,al];refine⟨λp=>?_,λp=>y _ ?_⟩
  .obtain⟨C,hm⟩:=nc (λh=>h p);have P:a.c<=s.zero:=by
    split at hm
    .omega
    .exact hm
   obtain⟨u,hu⟩:=U8 M;rw[hu,u7]at J;rw[hu];refine(E6 (t:=t) (u:=u) (F1:=nB) (F2:=nA) (g:=λg=>dp n.k g a.c) (z:=λg=>dL n.k g a.c) (h.ext B) (E.ext B) G H J (λv ad=>?_) ⟨nf I.zero ⟨C.1,P⟩,λ{w A s' t}L=>ut L I.zero C (.inr P)⟩).mono ?_
   .have Q:=hN (v:=v.toNat) I J;exact⟨ng Q C.1,λ{w A s t}L=>rC L Q C⟩
   .rintro _ an _ ab;refine y _ ?_;rw[f,if_neg (λh=>h p),hu,u7];exact ab.before B
  .rw[f,if_pos p];exact eA.same h E G H B
 refine(jv (i:=a.i) (h.ext N)).mono ?_;rintro _ ao _ ⟨⟨b,ac,rfl,S⟩,af⟩;refine(ht (b:=b) (n:=ac) S.1).mono ?_;rintro _ ap _ ⟨⟨q,rfl,T⟩,ag⟩;have U:=(N.trans af).trans ag;have W:=Q3 S M J;rw[be,al];refine⟨λh=>y _ _ ⟨by rw[if_pos (W.1 (T.1 h))],U⟩,λh=>y _ _ ⟨by rw[if_neg λe=>h (T.2 (W.2 e))],U⟩⟩
theorem Q5(hk:a.kind=4)(h:bw w ae gT A R n s t)(p:Laid w)(q:¬A 0)(f:fx aB t):am x7 GW [Γ ae,Δ a.i,Δ a.v] w (oC aB w ae gT A R n s a):=by
 have z:=h.2.2.2.1;have e:cw n.k s a=match eg s a.i a.v with
  |none=>(s,1)
  |some x=>if dp n.k s.zero (x.un.getD a.v.toNat 0)<n.k then(s,7)else(ef s a.i.toNat a.v.toNat,0):=by
  unfold cw;rw[if_neg Ω,if_neg Ω,if_neg Ω,if_neg Ω,if_pos hk]<;>cases eg s a.i a.v<;>rfl
 refine az func69 ?_;refine(xU h).mono ?_;rintro _ V _ ⟨B,rfl⟩;cases ad:eg s a.i a.v with
 |none=>
  rw[ad]at e;rw[if_neg Ξ,bC,al];exact⟨λ_=>⟨by rw[e],by rw[e];exact eA.same h p q f B⟩,λh=>absurd Φ h⟩
 |some x=>
 rw[ad]at e;simp only at e;obtain⟨Y,J,Z,K⟩:=kQ ad;rw[if_pos (by rfl),bC,al];refine⟨λh=>absurd rfl h,λ_=>?_⟩;have E:ft n a.i a.v:=by
  have:=oB z J K;rwa [show((a.i.toNat:Nat):Int)=a.i by omega]at this
 refine(pH (i:=a.i) (v:=a.v) (h.ext B)).mono ?_;rintro _ aa _ ⟨rfl,L⟩;have M:ix s a.i.toNat a.v.toNat=x.un.getD a.v.toNat 0:=by
  unfold ix;rw[J]
 rw[if_pos E,M,bm,bn];have G:=B.trans L;refine(tS (h.ext G)).mono ?_;rintro _ ab _ ⟨rfl,N⟩;have H:=G.trans N;refine(rC (h.ext H) z.zero (hN z J)).mono ?_;rintro _ ac _ ⟨rfl,O⟩;have I:=H.trans O;refine(j7 (h.ext I)).mono ?_;rintro _ af _ ⟨rfl,P⟩;have C:=I.trans P;rw[aR,al];refine⟨λQ=>?_,λS=>?_⟩
 .rw[if_pos Q]at e;exact⟨by rw[e],by rw[e];exact eA.same h p q f C⟩
 .rw[if_neg S]at e;refine(xn (i:=a.i) (v:=a.v) (h.ext C) f.room).mono ?_;rintro r ag _ ⟨_,T⟩;obtain⟨rfl,U,aP,y,W,X⟩:=T E;refine⟨by rw[e],?_⟩;rw[e];exact eA.step h p q C U W X f.set
theorem Q6(hk:5<=a.kind)(h:bw w ae gT A R n s t)(O:Laid w)(Q:¬A 0)(S:fx aB t):am x7 GX [Γ ae,Δ a.i,Δ a.v] w (oC aB w ae gT A R n s a):=by
 have au:=h.2.2.2.1;have p:cw n.k s a=match eg s a.i a.v with
  |none=>(s,1)
  |some x=>(gi s a.i.toNat a.v (aG x),0):=by
  unfold cw;rw[if_neg Ω,if_neg Ω,if_neg Ω,if_neg Ω,if_neg Ω]<;>cases eg s a.i a.v<;>rfl
 refine hr func70 ?_;refine bf λg1 V aX U q=>?_;refine bf λav aa aY P z=>?_;refine bf λaw B a1 I C=>?_;have q:af B g1 db [Γ ae]:=(af.ext q P).ext I;have z:af B av ah [Δ a.i]:=af.ext z I;have C:af B aw ah [Δ a.v]:=C;have K:=(U.trans P).trans I;have a2:=U.size;have a6:=P.size;have z3:=I.size;have ay:=q.lt;have az:=z.lt;have aA:=C.lt;rw[ax (v:=Γ ae) Ψ (q.cell (o:=0) rfl),ax (v:=Δ a.i) Ψ (z.cell (o:=0) rfl),ax (v:=Δ a.v) Ψ (C.cell (o:=0) rfl)];refine(xU (h.ext K)).mono ?_;rintro _ a7 _ ⟨E,rfl⟩;have W:=K.trans E;have z4:=E.size;cases ad:eg s a.i a.v with
 |none=>
  rw[ad]at p;rw[if_neg Ξ,bC,al];refine⟨λ_=>?_,λh=>absurd Φ h⟩;intro a8 aC _;exact⟨by rw[p],by rw[p];exact eA.same h O Q S (W.trans aC)⟩
 |some x=>
 rw[ad]at p;simp only at p;obtain⟨aD,J,ba,bb⟩:=kQ ad;rw[if_pos (by rfl),bC,al];refine⟨λh=>absurd rfl h,λ_=>?_⟩;rw[ax (v:=Γ ae) Ψ ((q.ext E).cell (o:=0) rfl),ax (v:=Δ a.i) Ψ ((z.ext E).cell (o:=0) rfl)];refine(jv (i:=a.i) (h.ext W)).mono ?_;rintro _ bc _ ⟨⟨b,aE,rfl,X⟩,Y⟩;refine(mO (b:=b) (n:=aE)).mono ?_;rintro _ L _ ⟨aF,Z,rfl,bd,ac⟩;have ag:=mg X aD J;have M:=(E.trans Y).trans aF;have be:=Y.size;have bg:=M.size;have bh:=ac.lt;refine jJ.old ⟨_,false,iG,#[Γ Z],_,_,_,_,λj w'=>fy aB w ae gT A R n w.heap.size (λr=>L.heap.size<=r) (gi s a.i.toNat a.v ((aG x).take j)) w'/\ai (λr=>r<w.heap.size\/L.heap.size<=r) L w',λ_ _ _=>False,rfl,(mN (g:=Z) X.1).s,?_,
  λ_ _ J h=>⟨h.1.ext J,h.2.ext J⟩,λ_ _ _ J h=>⟨h.1.ext J,h.2.trans (J.ab _)⟩,λ_ _ _ _ _ h=>h,⟨ac,O.ext (K.trans M)⟩,⟨fy.start h O Q S (K.trans M) (o4 _),ai.refl _ _⟩,?_,?_,λ_ _ h=>h.elim,λ_ _ _ h=>h.elim⟩
 .rintro _ _ _ _ ⟨_,_,_,_,rfl⟩;rfl
 .rintro _ j _ bi ⟨aj,aH⟩ ⟨bj,rfl,v,aI,aJ⟩ ⟨G,H⟩;cases aJ;intro aK f _ _;have ak:(aG x)[j]?=σ (v:Int):=by rw[<-ag,x8,aI];rfl
  have aL:ft n a.i (v:Int):=by
   have:=oB au J (x5 ak);rwa [show((a.i.toNat:Nat):Int)=a.i by omega]at this
  have aZ:∀{g:Nat}{e:p9}{cs:List x1},w.heap.size<=g->g<B.heap.size->af B g e cs->af aK g e cs:=λaM aN aO=>((aO.ext M).ab H Ω).ext f;have N:=QW (s:=s) (i:=a.i.toNat) (v:=a.v) ak;obtain⟨bk,bl,aQ,an,aR⟩:=G.open;rw[ax (v:=Δ a.v) Ψ ((aZ Ω aA C).cell (o:=0) rfl),bC,al];refine⟨λaS=>?_,λhe=>?_⟩
  .rw[if_pos aS]at N;rw[ax (v:=Γ ae) Ψ ((aZ Ω ay q).cell (o:=0) rfl),ax (v:=Δ a.i) Ψ ((aZ Ω az z).cell (o:=0) rfl)];refine(xn (i:=a.i) (v:=(v:Int)) (aQ.ext f) an.room).mono ?_;rintro r bm _ ⟨_,aT⟩;obtain⟨rfl,aU,aP,y,aV,ao⟩:=aT aL;rw[<-N]at ao;have bn:=H.size;obtain⟨ap,aq,bo⟩:=aR (D':=λr=>L.heap.size<=r) (j1 f aU) ((Grow.ext f).trans aV) ao an.set (λr h=>h) λr aM aN=>Ω
   exact⟨⟨aj.ab aq Ω,ap.2.1.1⟩,⟨ap,H.trans aq⟩,λh=>by cases h⟩
  .rw[if_neg he]at N;exact⟨⟨aj.ext f,aH.ext f⟩,⟨by rw[N];exact G.ext f,H.trans (f.ab _)⟩,λh=>by cases h⟩
 .rintro k bp rfl ⟨G,H⟩;rw[b6 (by rw[<-ag,r8];exact o4 _)]at G;intro bq aW _;exact⟨by rw[p],by rw[p];exact G.done aW⟩
end
theorem Q7{ds:x1}{l:Λ}(h:aI .i64 w ds l)(O:l.length<=1000000):am x7 HD [ds,Δ v] w λr w'=>Ext w w'/\(∃g,av .i64 ah w' g r (l.filter λy=>!decide (y=v)))/\∀q,leads r q->w.heap.size<=q:=by
 refine az func138 ?_;rw[aX an.u h];refine cb.range l.length (λi out f=>Ext w f/\(∃g,av .i64 ah f g out ((l.take i).filter λy=>!decide (y=v)))/\∀r,leads out r->w.heap.size<=r) h.le ⟨Ext.refl _,⟨0,av.nil _ _ _ _⟩,λr C=>by obtain⟨_,_,_,e,_⟩:=C;cases e⟩ ?_ ?_
 .rintro q out f E G ⟨a,⟨g,hm⟩,p⟩ H;obtain⟨y,s⟩:=aJ (l:=l) G;have x:(l.take (q+1)).filter (λy=>!decide (y=v))=(l.take q).filter (λy=>!decide (y=v))++(if y≠v then[y]else[]):=by
   rw[u9,s,j5,List.filter_append];congr 1;by_cases aB:y=v<;>simp[aB]
  refine bM Ω ?_;refine aV (λz A=>Ext w A/\(∃g,av .i64 ah A g z ((l.take (q+1)).filter λy=>!decide (y=v)))/\∀r,leads z r->w.heap.size<=r) (λ_ _ I=>by rw[aN];exact H _ _ I) λaA B=>?_;rw[bg an.u ah.i Ψ (h.ext a) s,bC,al];refine⟨λJ=>?_,λhe=>B _ _ ⟨a,⟨g,by rw[x,if_neg he,W8];exact hm⟩,p⟩⟩;refine ES (w0:=w) a hm p ?_ λP w' K L M N=>B _ _ ⟨L,⟨K,by rw[x,if_pos J];exact M⟩,N⟩;have h1:=R3 (λy=>!decide (y=v)) (l.take q);rw[n9]at h1;omega
 .rintro out f E ⟨a,hm,p⟩;rw[o7]at hm;refine cE Ω ?_;exact⟨a,hm,p⟩
theorem x2{i:Nat}{v:Int}:∀(L:Λ)(s:aq)(x:bG),s.vars[i]?=σ x->(∀y∈L,0<=y)->∃m,gi s i v L={s with vars:=s.vars.set i {x with mask:=m}}/\aG {x with mask:=m}=(aG x).filter λy=>!(decide (y∈L)&& !decide (y=v))
 |[],s,x,J,_=>by
  refine⟨x.mask,?_,(List.filter_eq_self.2 λy _=>Ξ).symm⟩;have:s.vars.set i x=s.vars:=by
   apply Y3;intro q;by_cases e:i=q
   .subst e;rw[b8 (x4.1 J).1,J]
   .rw[Y2 e]
  show s={s with vars:=s.vars.set i x};rw[this]
 |w::L,s,x,J,f=>by
  have hw:=f w (.head _);have z:=(x4.1 J).1;rw[gi];by_cases e:w≠v
  .rw[if_pos e];have r:ef s i w.toNat={s with vars:=s.vars.set i {x with mask:=((x.mask.toNat ||| 2 ^ w.toNat:Nat):Int)}}:=by unfold ef;rw[J]
   obtain⟨m,h1,p⟩:=x2 L (ef s i w.toNat) {x with mask:=((x.mask.toNat ||| 2 ^ w.toNat:Nat):Int)} (by rw[r];exact b8 z) λy a=>f y (.tail _ a);refine⟨m,?_,?_⟩
   .rw[h1,r];simp only[List.set_set]
   .rw[p,xO hw,List.filter_filter];refine List.filter_congr λy _=>?_;by_cases a:y=w
    .subst a;simp[e]
    .simp[a]
  .rw[if_neg e];obtain⟨m,h1,p⟩:=x2 L s x J λy a=>f y (.tail _ a);refine⟨m,h1,?_⟩;rw[p];have e:=Z9.1 e;refine List.filter_congr λy _=>?_;by_cases a:y=v
   .simp[a]
   .have:y≠w:=λh=>a (h.trans e);simp[a,this]
theorem filter_one{l:Λ}(h:l.Nodup)(ad:v∈l):l.filter (λy=>decide (y=v))=[v]:=by
 induction l with
 |nil=>cases ad
 |cons a l p=>
  have f:=List.nodup_cons.1 h;by_cases e:a=v
  .subst e;rw[List.filter_cons_of_pos Ξ,List.filter_eq_nil_iff.2 λx J=>by simp;intro q;exact f.1 (q▸J)]
  .rw[List.filter_cons_of_neg (by simpa using e)];exact p f.2 ((V3.1 ad).resolve_left (Ne.symm e))
def jD(u:aq)(a:hM):Option bG:=if 3<a.kind then eg u a.i a.v else gS u a.i
section
variable{w:x3}{ae gT ao:Nat}{A R:aj}{A9:Nat->aj}{aH:aj}{n:aF}{s u:aq}{t:aC}{h:List aC}{cs:List x1}{a:hM}
theorem E7{x:bG}(h:jD u a=σ x):0<=a.i/\u.vars[a.i.toNat]?=σ x/\x.gone=0/\(3<a.kind->a.v∈aG x):=by
 unfold jD at h;split at h
 .obtain⟨h1,e,f,p⟩:=kQ h;exact⟨h1,e,f,λ_=>p⟩
 .rename_i hk;obtain⟨h1,e,f⟩:=xY h;exact⟨h1,e,f,λh=>absurd h hk⟩
theorem Q8(h:¬(0<=a.i/\a.i<u.vars.length)):jD u a=ν:=by
 cases he:jD u a with
 |none=>rfl
 |some x=>
  obtain⟨h1,e,_⟩:=E7 he;exact absurd ⟨h1,by have:=(x4.1 e).1;omega⟩ h
theorem Q9{x:bG}(e:0<=a.i)(J:u.vars[a.i.toNat]?=σ x):jD u a=if x.gone=0/\(3<a.kind->a.v∈aG x)then σ x else ν:=by
 unfold jD;by_cases hk:3<a.kind
 .rw[if_pos hk];unfold eg;rw[if_pos e,J];simp only[hk,true_implies]
 .rw[if_neg hk];unfold gS;rw[if_pos e,J];simp only[hk,false_implies,and_true]
theorem Ra(hk:2<=a.kind/\a.kind<=5)(h:jD u a=ν):cw n.k u a=(u,1):=by
 unfold jD at h;by_cases e:3<a.kind
 .rw[if_pos e]at h;unfold cw;rw[if_neg Ω,if_neg Ω,if_neg Ω,if_neg Ω,h];split<;>rfl
 .rw[if_neg e]at h;by_cases f:a.kind=2
  .rw[xZ f,h]
  .rw[x0 Ω,h]
theorem E8{x:bG}{c:Int}(q:0<=c):i9 x<c↔aG x=[]\/∃v∈aG x,x.un.getD v.toNat 0<c:=by
 unfold i9;constructor
 .intro h;cases a:aG x with
  |nil=>exact .inl rfl
  |cons b l=>
   refine .inr ?_;rw[a]at h;simp only[U6]at h;by_cases e:∀v∈b::l,c<=x.un.getD v.toNat 0
   .have:=(pT (l.map λv=>x.un.getD v.toNat 0) (x.un.getD b.toNat 0) c).2 ⟨e b (.head _),λy f=>by obtain⟨v,ad,rfl⟩:=j4.1 f;exact e v (.tail _ ad)⟩;omega
   .simp only[Classical.not_forall]at e;obtain⟨v,ad,r⟩:=e;exact⟨v,ad,Ω⟩
 .rintro (h|⟨v,ad,s⟩)
  .rw[h];show(-1:Int)<c;omega
  .cases a:aG x with
   |nil=>rw[a]at ad;cases ad
   |cons b l=>
    rw[a]at ad;simp only[U6];rcases Int.lt_or_le ((l.map λv=>x.un.getD v.toNat 0).foldl min (x.un.getD b.toNat 0)) c with aB|aB
    .exact aB
    .obtain⟨w,p⟩:=(pT _ _ _).1 aB;rcases V3.1 ad with rfl|ad
     .omega
     .have:=p _ (j4.2 ⟨v,ad,rfl⟩);omega
def x9(n:aF)(u:aq)(x:bG)(a:hM):Prop:=aG x=[]\/(a.kind=3/\u.zero<a.c)\/(a.kind=2/\∃v∈aG x,x.un.getD v.toNat 0<a.c)
theorem Rb{x:bG}(hk:a.kind=2\/a.kind=3)(h:jD u a=σ x):(¬(0<=a.c/\a.c<=n.k)->cw n.k u a=(u,3))/\((0<=a.c/\a.c<=n.k)->x9 n u x a->cw n.k u a=(u,7))/\
  ((0<=a.c/\a.c<=n.k)->¬x9 n u x a->cw n.k u a=(kP u a.i.toNat x (λg=>if a.kind=2 then dL n.k g a.c else dp n.k g a.c) (λg=>if a.kind=2 then dp n.k g a.c else dL n.k g a.c),0)/\(a.kind=2->∀v∈aG x,a.c<=x.un.getD v.toNat 0)/\(a.kind=3->a.c<=u.zero)):=by
 have ad:gS u a.i=σ x:=by unfold jD at h;rwa [if_neg Ω]at h
 rcases hk with hk|hk
 .have e:=xZ (n:=n) (s:=u) hk;rw[ad]at e;simp only at e;simp only[hk];refine⟨λf=>?_,λf hi=>?_,λf hi=>?_⟩
  .have p:∀m,dq n.k a.c m=3:=λm=>by unfold dq;rw[if_pos f]
   rw[p,if_pos Φ]at e;exact e
  .have q:i9 x<a.c:=(E8 f.1).2 (hi.elim .inl λh=>h.elim (λh=>Ω) λh=>.inr h.2);have p:∀m,m<a.c->dq n.k a.c m=7:=λm hm=>by unfold dq;rw[if_neg (λh=>h f),if_pos hm]
   rw[p _ q,if_pos Φ]at e;exact e
  .have q:¬i9 x<a.c:=λh=>hi (((E8 f.1).1 h).elim .inl λh=>.inr (.inr ⟨hk,h⟩));have p:dq n.k a.c (i9 x)=0:=by unfold dq;rw[if_neg (λh=>h f),if_neg q]
   rw[p,if_neg Φ]at e;refine⟨by rw[e];simp,λ_ v ad=>?_,λh=>absurd h Φ⟩;rcases Int.lt_or_le (x.un.getD v.toNat 0) a.c with aB|aB
   .exact absurd (.inr (.inr ⟨hk,v,ad,aB⟩)) hi
   .exact aB
 .have e:=x0 (n:=n) (s:=u) hk;rw[ad]at e;simp only at e;simp only[hk];refine⟨λf=>?_,λf hi=>?_,λf hi=>?_⟩
  .have p:∀m,dq n.k a.c m=3:=λm=>by unfold dq;rw[if_pos f]
   rw[p,if_pos Φ]at e;exact e
  .have q:(if aG x=[]then-1 else u.zero)<a.c:=by
    by_cases r:aG x=[]
    .rw[if_pos r];omega
    .rw[if_neg r];rcases hi with hi|hi|hi
     .exact absurd hi r
     .exact hi.2
     .omega
   have p:∀m,m<a.c->dq n.k a.c m=7:=λm hm=>by unfold dq;rw[if_neg (λh=>h f),if_pos hm]
   rw[p _ q,if_pos Φ]at e;exact e
  .have r:¬aG x=[]:=λh=>hi (.inl h);have w:¬u.zero<a.c:=λh=>hi (.inr (.inl ⟨hk,h⟩));have p:dq n.k a.c u.zero=0:=by unfold dq;rw[if_neg (λh=>h f),if_neg w]
   rw[if_neg r,p,if_neg Φ]at e;exact⟨by rw[e];simp,λh=>absurd h Φ,λ_=>Ω⟩
end
section
variable{w:x3}{ae gT ao:Nat}{A R:aj}{A9:Nat->aj}{aH:aj}{n:aF}{s u:aq}{t:aC}{h:List aC}{cs:List x1}{a:hM}
theorem Rc(p:ch w ae gT ao A R A9 aH n s u t h cs)(ap:br n.k n.sizes u)(hk:2<=a.kind/\a.kind<=5):am x7 vj [Γ ao,Δ (a.kind:Int),Δ a.i,Δ a.pos,Δ a.v,Δ a.c] w λr w'=>r=Δ (cw n.k u a).2/\dt w ae gT ao A R A9 aH n s t h (cw n.k u a).1 w':=by
 have ct:=ap.vars;have cu:=ap.ew;refine az func64 ?_;have bN:cs[0]?=σ (Δ n.k):=by obtain⟨_,_,_,_,_,_,rfl,_⟩:=p.ow;rfl
 rw[aS a7.p 0 p.box bN,aR,al];refine⟨λh=>Ω,λ_=>?_⟩;refine aV (λr w'=>r= .bool (!(jD u a).isSome)/\Ext w w') ?_ λaA a8=>?_
 rotate_left
 .rw[bU];refine p.look.load λfa cz=>?_;refine(P7 (i:=a.i) cz).mono ?_;rintro _ V _ ⟨rfl,W⟩;rw[bH,b2];refine⟨λO=>a8 _ _ ⟨by rw[Q8 (λh=>by rw[ct]at h;rw[decide_eq_true h]at O;cases O)];rfl,W⟩,λO=>?_⟩;have ba:0<=a.i/\a.i<n.sizes.length:=by simpa using O
  obtain⟨x,J⟩:=aJ (l:=u.vars) (i:=a.i.toNat) Ω;have bo:=Q9 ba.1 J;obtain⟨szv,cA,dk,aT,dl,bp,bP,_,_,cB,cC,dm,dn,dq⟩:=(p.look).ext W;rw[aS a7.p 4 bP rfl];refine k6 (α:=Bool) (a:=decide (x.gone≠0)) (i:=a.i.toNat) rfl Ω kp.u gm.i Ψ cC (by rw[x8,J];rfl) λbS bq=>?_;have bq:[bS]=[x1.bool (decide (x.gone≠0))]:=bq;obtain rfl:bS=x1.bool (decide (x.gone≠0)):=by simpa using bq
  rw[al];refine⟨λP=>a8 _ _ ⟨by rw[bo,if_neg λh=>P h.1];rfl,W⟩,λP=>?_⟩;have P:=Z9.1 P;rw[bL,al];refine⟨λbt=>?_,λbt=>a8 _ _ ⟨by rw[bo,if_pos ⟨P,λh=>absurd h Ω⟩];rfl,W⟩⟩;rw[aS a7.p 3 bP rfl];refine k6 (α:=Λ) (a:=aG x) (i:=a.i.toNat) rfl Ω dz.u an.i Ψ cB (by rw[x8,J];rfl) λdr cD=>?_;refine(xo (eD cD)).mono ?_;rintro _ aa _ ⟨rfl,I⟩;rw[bH];refine a8 _ _ ⟨?_,W.trans I⟩;rw[bo];by_cases ad:a.v∈aG x
  .rw[if_pos ⟨P,λ_=>ad⟩,decide_eq_true ad];rfl
  .rw[if_neg λh=>ad (h.2 Ω),decide_eq_false ad];rfl
 rintro _ V ⟨rfl,W⟩;cases hm:jD u a with
 |none=>
  have f:=Ra (n:=n) hk hm;rw[S8,W7,bR];exact⟨by rw[f],by rw[f];exact dt.same p W⟩
 |some x=>
 rw[T9,X1,a1];obtain⟨cF,J,ds,cG⟩:=E7 hm;obtain⟨C,aK⟩:=U8 cF;rw[aK,u7]at J;have bu:=(x4.1 J).1;have H:∀y∈aG x,0<=y/\y<x.un.length:=λy N=>(h8.1 N).1;simp only[aK];have bT:∀v:Nat,0<=x.un.getD v 0/\x.un.getD v 0<=n.k:=λv=>hN ap J;have M:=p.ext W;have du:cs[0]?=σ (Δ n.k):=bN;have bw:∀{aa:x3}{eR:aq}{bV:List x1}{bx:Nat->aj}{aL:bG},ch aa ae gT ao A R bx aH n s eR t h bV->eR.vars[C]?=σ aL->∃aT av y,aI .i64 aa y aL.un/\(∀{B:x3}{K:x1->x1->x1->x1->x1->Prop},Ext aa B->K (Γ ao) (.pointer (σ ⟨ao,0+5,ν⟩)) aT (.pointer (σ ⟨av,0+C*1,ν⟩)) y->
    ac x7 (bO (Γ ao)) B λaw=>ac x7 (u6 a7 aw 5) B λaC=>ac x7 (u5 ek aC) B λaM=>ac x7 (c7 ek aM (Δ (C:Int))) B λbb=>ac x7 (u5 ay bb) B λcH=>K aw aC aM bb cH)/\
   ∀{w':x3}{v:Nat}{c:Int}{K:Unit->x3->Prop},Ext aa w'->v<aL.un.length->(∀bW,jB aa ae gT ao A R bx aH n s t h (ez eR C aL (aL.un.set v c)) bW->K () bW)->ac x7 (c7 ay y (Δ (v:Int))) w' λa=>aD x7 (o8 au a (Δ c)) w' K:=λ{aa eR bV bx aL}bX E=>by
  obtain⟨av,cI,y,cJ,cK,Z,bz⟩:=xW bX E;have cL:=(x4.1 E).1;refine⟨.slice (σ ⟨av,0,ν⟩) eR.vars.length cI,av,y,Z,λ{B K}aE aW=>?_,bz⟩;rw[aS a7.p 5 (bX.box.ext aE) cJ,e8 ek.u ay.i cL λ_=>rfl,ax (v:=y) (o:=0+C*1) Ψ (by rw[X2,U1];exact iJ aE cK)];exact aW
 obtain⟨cM,cN,bc,bY,cO,af,cP,bZ⟩:=QC M J;have b0:∀{B:x3}{K:x1->x1->x1->Prop},Ext V B->K (Γ ao) (.pointer (σ ⟨ao,0+3,ν⟩)) (.slice (σ ⟨cM,0,ν⟩) u.vars.length cN)->
   ac x7 (bO (Γ ao)) B λaw=>ac x7 (u6 a7 aw 3) B λaC=>ac x7 (u5 dz aC) B λaM=>K aw aC aM:=λaE aW=>by
  rw[aS a7.p 3 (M.box.ext aE) bY];exact aW
 have ox:∀{B:x3}{K:x1->Prop},Ext V B->K bc->
   ac x7 (bO (Γ ao)) B λaw=>ac x7 (u6 a7 aw 3) B λaC=>ac x7 (u5 dz aC) B λaM=>ac x7 (c7 dz aM (Δ (C:Int))) B λbb=>ac x7 (u5 an bb) B K:=λaE aW=>by
  rw[aS a7.p 3 (M.box.ext aE) bY,e8 dz.u an.i bu λ_=>rfl,ax (v:=bc) (o:=0+C*1) Ψ (by rw[X2,U1];exact iJ aE cO)];exact aW
 have low:∀{u':aq}{w':x3},dt V ae gT ao A R A9 aH n s t h u' w'->dt w ae gT ao A R A9 aH n s t h u' w':=λbd=>dt.comp (W.ab _) (λq r H=>.inl ⟨q,H⟩) bd;refine aV (λ_ w'=>dt w ae gT ao A R A9 aH n s t h (cw n.k u a).1 w'/\(cw n.k u a).2=0) (λ_ w' bd=>⟨by rw[bd.2],bd.1⟩) λcQ bA=>?_;refine aV (λr w'=>r= .bool (decide (a.kind=2\/a.kind=3))/\V=w') ?_ λdv b1=>?_
 rotate_left
 .rw[be,al];refine⟨λE=>b1 _ _ ⟨?_,rfl⟩,λE=>?_⟩
  .congr 1;exact decide_eq_decide.2 ⟨λ_=>.inl Ω,λ_=>E⟩
  .rw[be];refine b1 _ _ ⟨?_,rfl⟩;congr 1;exact decide_eq_decide.2 ⟨λh=>.inr Ω,λh=>Ω⟩
 rintro _ _ ⟨rfl,rfl⟩;rw[al];refine⟨λcR=>?_,λdw=>?_⟩
 .
  obtain⟨cS,bf,bB⟩:=Rb (n:=n) cR hm;refine Ai.mono ?_;rintro _ aa _ ⟨rfl,I⟩;have dx:=I;have b3:cq a.c n.k↔0<=a.c/\a.c<=n.k:=⟨λh=>h.2,λE=>⟨cu,E⟩⟩;rw[bH,b2];refine⟨λO=>?_,λO=>?_⟩
  .have f:=cS λh=>absurd (b3.2 h) (by simpa using O);exact⟨by rw[f],by rw[f];exact low (dt.same M I)⟩
  have ba:=b3.1 (show cq a.c n.k by simpa using O);have bf:=bf ba;have bB:=bB ba;refine aV (λr w'=>Ext V w'/\∃b,r= .bool b/\(b=true↔aG x=[]\/(a.kind=3/\u.zero<a.c))) ?_ λdy bC=>?_
  rotate_left
  .refine ox I ?_;rw[aX an.u (af.ext I),be,al];refine⟨λhe=>bC _ _ ⟨I,true,rfl,⟨λ_=>.inl (j6 Ω),λ_=>rfl⟩⟩,λbh=>?_⟩;have bh:aG x≠[]:=λh=>bh (by rw[h];rfl);rw[be,al];refine⟨λbt=>?_,λbt=>bC _ _ ⟨I,false,rfl,⟨(λh=>by cases h),λh=>h.elim (λh=>absurd h bh) λh=>Ω⟩⟩⟩;have bD:cs[2]?=σ (Δ u.zero):=by obtain⟨_,_,_,_,_,_,rfl,_⟩:=p.ow;rfl
   rw[aS a7.p 2 (M.box.ext I) bD,bL];exact bC _ _ ⟨I,_,rfl,by rw[decide_eq_true_eq];exact⟨λh=>.inr ⟨Ω,h⟩,λh=>h.elim (λh=>absurd h bh) λh=>h.2⟩⟩
  rintro _ cT ⟨aO,b,rfl,b4⟩;rw[b2];refine⟨λcU=>?_,λag=>?_⟩
  .have f:=bf ((b4.1 cU).elim .inl λh=>.inr (.inl h));exact⟨by rw[f],by rw[f];exact low (dt.same M aO)⟩
  have b5:¬(aG x=[]\/(a.kind=3/\u.zero<a.c)):=λh=>by rw[b4.2 h]at ag;cases ag
  refine ox aO ?_;rw[aX an.u (af.ext aO)];refine cb.range (aG x).length (λq _ w'=>Ext V w'/\(a.kind=2->∀v∈(aG x).take q,a.c<=x.un.getD v.toNat 0)) af.le ⟨aO,λ_ v ad=>by simp at ad⟩ ?_ ?_
  .rintro q b6 aF cV bE ⟨L,bi⟩ cW;obtain⟨v,ad⟩:=aJ (l:=aG x) bE;have ak:=x5 ad;have bj:=H v ak;obtain⟨G,rfl⟩:=U8 bj.1;refine bM Ω ?_;rw[bg an.u ah.i Ψ (af.ext L) ad];refine aV (λr w'=>aF=w'/\r= .bool (decide (a.kind=2/\x.un.getD G 0<a.c))) ?_ λdA b7=>?_
   .rintro _ _ ⟨rfl,rfl⟩;rw[al];refine⟨λaY=>?_,λbF=>?_⟩
    .have f:=bf (.inr (.inr ⟨aY.1,_,ak,aY.2⟩));exact⟨by rw[f],by rw[f];exact low (dt.same M L)⟩
    .rw[aN];refine cW _ _ ⟨L,λE y N=>?_⟩;rw[u9,ad,j5,o5,o9]at N;rcases N with N|rfl
     .exact bi E y N
     .rcases Int.lt_or_le (x.un.getD G 0) a.c with aB|aB
      .exact absurd ⟨E,aB⟩ bF
      .exact aB
   rw[be,al];refine⟨λE=>?_,λE=>b7 _ _ ⟨rfl,by rw[decide_eq_false λh=>E Ω]⟩⟩;obtain⟨aT,av,y,Z,look,_⟩:=bw (M.ext L) J;refine look (Ext.refl _) ?_;rw[bg ay.u au.i Ψ Z (getD_some (i:=G) Ω),bL];refine b7 _ _ ⟨rfl,?_⟩;congr 1;exact decide_eq_decide.2 ⟨λh=>⟨Ω,h⟩,λh=>h.2⟩
  rintro b6 aF cV ⟨L,bi⟩;rw[o7]at bi;have cX:¬x9 n u x a:=λhi=>hi.elim (λh=>b5 (.inl h)) λh=>h.elim (λh=>b5 (.inr h)) λ⟨E,v,ad,aY⟩=>by have:=bi E v ad;omega
  obtain⟨f,dC,dD⟩:=bB cX;rw[aK,u7]at f;refine cE Ω ?_;refine ox L ?_;rw[aX an.u (af.ext L)];obtain⟨g,P⟩:∃g:Int->Int,g=λg=>if a.kind=2 then dL n.k g a.c else dp n.k g a.c:=⟨_,rfl⟩;obtain⟨z,bI⟩:∃z:Int->Int,z=λg=>if a.kind=2 then dp n.k g a.c else dL n.k g a.c:=⟨_,rfl⟩;rw[<-P,<-bI]at f;have cY:=M.ext L;have cZ:=af.ext L;have b9:=rz x;obtain⟨ca,dE⟩:∃ca,bc=ca:=⟨_,rfl⟩;have c0:ez u C x (eb g x.un ((aG x).take 0))=u:=by
   unfold ez;show{u with vars:=u.vars.set C x}=u;have:u.vars.set C x=u.vars:=by
    apply Y3;intro i;by_cases e:C=i
    .subst e;rw[b8 bu,J]
    .rw[Y2 e]
   rw[this]
  have c1:∀{w':x3},ai (A9 2) aF w'->aI .i64 w' bc (aG x):=λc2=>hV cZ c2 λr H b n c e O=>M.gI.1 0 2 r Φ (cP r ⟨b,n,c,e,O⟩) H;refine ck.range (aG x).length (λq w'=>jB aF ae gT ao A R A9 aH n s t h (ez u C x (eb g x.un ((aG x).take q))) w') af.le (by rw[c0];exact jB.same cY (Ext.refl _)) ?_ ?_
  .rintro q bk c3 bE aP c4;obtain⟨bl,cc,cd,aQ,bJ,c5⟩:=id aP;obtain⟨v,ad⟩:=aJ (l:=aG x) bE;have ak:=x5 ad;have bj:=H v ak;obtain⟨G,rfl⟩:=U8 bj.1;have bm:(ez u C x (eb g x.un ((aG x).take q))).vars[C]?=σ {x with un:=eb g x.un ((aG x).take q)}:=b8 bu;have dF:(eb g x.un ((aG x).take q)).length=x.un.length:=uh _ _;have bK:=ui (g:=g) ((aG x).take q) x.un (G:Int) (b9.sublist (List.take_sublist _ _)) (λy N=>H y (List.mem_of_mem_take N)) Ω;rw[if_neg (xT b9 ad),u7]at bK;have c6:=bT G;obtain⟨aT,av,y,Z,look,bz⟩:=bw aQ bm;refine bM Ω ?_;refine da (λQ=>jB aF ae gT ao A R A9 aH n s t h (ez u C x (eb g x.un ((aG x).take (q+1)))) Q) (λQ S=>by rw[aN];exact c4 _ S) λc8 c9=>?_;have aZ:∀{U:x3},Ext bk U->ac x7 (c7 ay y (Δ (G:Int))) U λa'=>aD x7 (o8 au a' (Δ (g (x.un.getD G 0)))) U λ(_:Unit)Q=>c8 Q:=λbn=>by
    refine bz bn (by show G<(eb g x.un ((aG x).take q)).length;omega) λQ S=>c9 _ (jB.comp bl bJ c5 ?_);have e:ez (ez u C x (eb g x.un ((aG x).take q))) C {x with un:=eb g x.un ((aG x).take q)} ((eb g x.un ((aG x).take q)).set G (g (x.un.getD G 0)))=ez u C x (eb g x.un ((aG x).take (q+1))):=by
     rw[E2 ad,u7,bK];unfold ez;simp only[List.set_set]
    rw[e]at S;exact S
   have ce:(eb g x.un ((aG x).take q))[G]?=σ (x.un.getD G 0):=by rw[getD_some Ω,bK]
   rw[bg an.u ah.i Ψ (c1 bl) ad,be,al];refine⟨λE=>?_,λE=>?_⟩
   .intro B X _ _;refine look X (look X ?_);rw[bg ay.u au.i Ψ (Z.ext X) ce];refine(uu Ω Ω).mono ?_;rintro _ U _ ⟨rfl,Y⟩;refine⟨.inl Y,?_⟩;have:=aZ (X.trans Y);rw[P]at this;simp only[if_pos (show a.kind=2 by omega)]at this;exact this
   .intro B X _ _;refine look X (look X ?_);rw[bg ay.u au.i Ψ (Z.ext X) ce];refine(pm Ω Ω).mono ?_;rintro _ U _ ⟨rfl,Y⟩;refine⟨.inl Y,?_⟩;have:=aZ (X.trans Y);rw[P]at this;simp only[if_neg (show¬a.kind=2 by omega)]at this;exact this
  .rintro bk c3 aP;rw[o7]at aP;refine cE Ω ?_;have aP:=aP.EV;obtain⟨bl,cc,cd,aQ,bJ⟩:=id aP;have cg:cd[2]?=σ (Δ u.zero):=by obtain⟨_,_,_,_,_,_,rfl,_⟩:=aQ.ow;rfl
   have db:=ap.zero;have aZ:∀{U:x3},Ext bk U->aD x7 (o8 au (.pointer (σ ⟨ao,0+2,ν⟩)) (Δ (z u.zero))) U λ(_:Unit)Q=>cQ b6 Q:=λbn=>by
    refine QB (aQ.ext bn) λQ S=>bA _ _ ⟨?_,by rw[f]⟩;rw[f];have ci:=dt.comp (A9:=cc) (bn.ab _) (λq r H=>.inl ⟨q,H⟩) S;have a2:=dt.comp bl bJ ci;exact low (dt.comp (L.ab _) (λq r H=>.inl ⟨q,H⟩) a2)
   rw[be,al];refine⟨λE=>?_,λE=>?_⟩
   .rw[aS a7.p 2 aQ.box cg];refine(pm Ω Ω).mono ?_;rintro _ U _ ⟨rfl,Y⟩;rw[bU,aU a7.p rfl];have:=aZ Y;rw[bI]at this;simp only[if_pos (show a.kind=2 by omega)]at this;exact this
   .rw[aS a7.p 2 aQ.box cg];refine(uu Ω Ω).mono ?_;rintro _ U _ ⟨rfl,Y⟩;rw[bU,aU a7.p rfl];have:=aZ Y;rw[bI]at this;simp only[if_neg (show¬a.kind=2 by omega)]at this;exact this
 .
  have cj:3<a.kind:=Ω
  have ak:=cG cj;obtain⟨G,bp⟩:=U8 (H _ ak).1;have bj:=(H _ ak).2;have cl:eg u a.i a.v=σ x:=by unfold jD at hm;rwa [if_pos cj]at hm
  rw[be,al];refine⟨λa2=>?_,λa2=>?_⟩
  .have a2:a.kind=4:=Ω
   have f:cw n.k u a=if dp n.k u.zero (x.un.getD a.v.toNat 0)<n.k then(u,7)else(ef u a.i.toNat a.v.toNat,0):=by
    unfold cw;rw[if_neg Ω,if_neg Ω,if_neg Ω,if_neg Ω,if_pos a2,cl]
   have db:=ap.zero;have c6:=bT G;intro aa I _ _;have bD:cs[2]?=σ (Δ u.zero):=by obtain⟨_,_,_,_,_,_,rfl,_⟩:=p.ow;rfl
   obtain⟨aT,av,y,Z,look,_⟩:=bw (M.ext I) J;rw[aS a7.p 2 (M.box.ext I) bD];refine look (Ext.refl _) ?_;rw[bp,bg ay.u au.i Ψ Z (getD_some (i:=G) Ω)];refine(pm Ω Ω).mono ?_;rintro _ cT _ ⟨rfl,aO⟩;have cm:=I.trans aO;rw[bp,u7]at f;unfold dp at f;rw[aR,al];refine⟨λaY=>?_,λbF=>?_⟩
   .rw[if_pos aY]at f;exact⟨by rw[f],by rw[f];exact low (dt.same M cm)⟩
   .rw[if_neg bF]at f;intro aF L _ _;have a6:=cm.trans L;refine b0 a6 ?_;refine ox a6 ?_;have dG:=ET x;have dc:=ap.fq.2.2;refine(Q7 (v:=(G:Int)) (af.ext a6) (by
     obtain⟨cn,cp⟩:=aJ (l:=n.sizes) (i:=C) Ω;have h1:=(ap.var C x cn J cp).1;have E:=dc cn (x5 cp);omega)).mono ?_
    rintro cA bk _ ⟨bm,⟨gz,dd⟩,de⟩;refine⟨.inl bm,?_⟩;have df:=a6.trans bm;have dH:=a6.size;refine bZ (m:=((x.mask.toNat ||| 2 ^ G:Nat):Int)) df (gz:=gz) (by rw[show G=(G:Int).toNat from rfl,xO Ω];exact dd) (λr H=>by have:=de r H;omega) λQ S=>bA _ _ ⟨?_,by rw[f]⟩;rw[f,aK,u7];unfold ef;rw[J];exact low S
  .have ci:a.kind=5:=Ω
   obtain⟨m,dg,dh⟩:=x2 (i:=a.i.toNat) (v:=a.v) (aG x) u x (by rw[aK,u7];exact J) λy N=>(H y N).1;have f:cw n.k u a=(gi u a.i.toNat a.v (aG x),0):=by
    unfold cw;rw[if_neg Ω,if_neg Ω,if_neg Ω,if_neg Ω,if_neg Ω,cl]
   have di:aG {x with mask:=m}=[a.v]:=by
    rw[dh,<-filter_one (rz x) ak];refine List.filter_congr λy N=>?_;rw[decide_eq_true N,T5,Bool.not_not]
   rw[be,al];refine⟨λ_=>?_,λh=>Ω⟩;refine b0 (Ext.refl _) ?_;refine et (k:=.i64) an.u ah.i rfl λv4 dj aF dI L cr=>?_;refine bZ (m:=m) L (gz:=dj) (by rw[di];exact cr) (λr H=>by have:=bQ cr H;omega) λQ S=>bA _ _ ⟨?_,by rw[f]⟩;rw[f,dg,aK,u7];exact low S
end
def ya(T:Nat)(acc:List cj)(s:aE):Prop:=∃M,(∀x∈acc,x.lines.length<=M)/\(∀q∈s.shared,q.2.length<=M)/\3*acc.length+M+s.toks.length<=T
theorem Re{sizes:Λ}{s s':aE}{l:List (Λ×Int)}{M:Nat}(x:∀q∈s.shared,q.2.length<=M)(h:dC sizes s=σ (l,s')):
  s'.shared=s.shared/\∃e,M<=e/\l.length<=e/\e+s'.toks.length+1<=M+s.toks.length:=by
 unfold dC at h;cases f:bd (-aw) aw s with
 |none=>rw[f]at h;cases h
 |some q=>
  obtain⟨n,s1⟩:=q;rw[f]at h;simp only at h;have h1:=dg f;obtain⟨A,B,p⟩:=h1.eqs;have C:=h1.1;split at h
  .cases U:s1.shared[(-n-1).toNat]? with
   |none=>rw[U]at h;cases h
   |some q=>
    obtain⟨z,l'⟩:=q;rw[U]at h;simp only at h;split at h
    .simp only[Y1,T0]at h;obtain⟨rfl,rfl⟩:=h;have hm:=x5 U;rw[p]at hm;exact⟨p,M,o4 _,x _ hm,Ω⟩
    .cases h
  .have:=iN (λacc t=>t.shared=s.shared/\t.toks.length+acc.length<=s1.toks.length) (λacc t a bq ⟨r,y⟩ g=>by
    obtain⟨E,F,G,w⟩:=nW g;obtain⟨f1,f2,f3⟩:=w.eqs;exact⟨by rw[f3,r],by have:=w.1;simp only[r9,T1];omega⟩) n.toNat [] (ba (decide (16384<min (s1.told+n) aw)) {s1 with told:=min (s1.told+n) aw}) l s' ⟨p,by simp[ba]⟩ h
   obtain⟨⟨r,y⟩,_⟩:=this;exact⟨r,M+l.length,Ω,Ω,Ω⟩
theorem Rf{all:Λ}{T:Nat}{acc:List cj}{s s':aE}{f:cj}(K:ya T acc s)(h:cX all s=σ (f,s')):ya T (acc++[f]) s':=by
 obtain⟨M,L,B,N⟩:=K;unfold cX at h;cases y:bd (-aw) aw s with
 |none=>rw[y]at h;cases h
 |some q=>
 obtain⟨a,s1⟩:=q;rw[y]at h;simp only at h;have t0:=dg y;cases h1:eP all.length a.natAbs s1 with
 |none=>rw[h1]at h;cases h
 |some q=>
 obtain⟨sc,r⟩:=q;rw[h1]at h;simp only at h;obtain⟨C,_⟩:=sV h1;generalize sc.map (λv=>all.getD v.toNat 0)=sizes at h;cases z:bd 0 aw (ba (decide (6<a.natAbs)||dj sizes) r)with
 |none=>rw[z]at h;cases h
 |some q=>
 obtain⟨other,A⟩:=q;rw[z]at h;simp only at h;have E:=dg z;have F:A.shared=s.shared:=by rw[E.eqs.2.2];show r.shared=_;rw[C.eqs.2.2,t0.eqs.2.2]
 have O:A.toks.length+2<=s.toks.length:=by
  have:=t0.1;have:=C.1;have w:=E.1;have:(ba (decide (6<a.natAbs)||dj sizes) r).toks.length=r.toks.length:=rfl;omega
 cases w:dC sizes A with
 |none=>rw[w]at h;cases h
 |some q=>
 obtain⟨lines,p⟩:=q;rw[w]at h;simp only[Y1,T0]at h;obtain⟨rfl,rfl⟩:=h;obtain⟨g1,G,P,H,Q⟩:=Re (M:=M) (by rw[F];exact B) w;have I:∀q∈p.shared,q.2.length<=G:=λq e=>by rw[g1,F]at e;have:=B q e;omega
 refine⟨G,λx J=>?_,λq e=>?_,?_⟩
 .rcases o5.1 J with J|J
  .have:=L x J;omega
  .rw[o9.1 J];exact H
 .split at e
  .rcases o5.1 e with e|e
   .exact I q e
   .rw[o9.1 e];exact H
  .exact I q e
 .have:(if a<0 then{p with shared:=p.shared++[(sizes,lines)]}else p).toks=p.toks:=by split<;>rfl
  rw[this,r9,T1];omega
theorem E9{M:Nat}:∀(l:List cj),(∀x∈l,x.lines.length<=M)->iS l<=l.length*M
 |[],_=>by simp[iS]
 |x::l,h=>by
  have h1:=E9 l λy a=>h y (.tail _ a);have e:=h x (.head _);unfold iS at h1 ⊢;rw[U6,List.sum_cons,c8,U2,Nat.one_mul];omega
theorem Rg{q:Λ}{f:bY}(W:q.length<=300)(h:fj q=σ f):iS f.funs<=16384/\f.funs.length<=100:=by
 have X:=pa q.length q (o4 _);unfold fj at h;rw[if_neg Ω]at h;cases ag:gX ⟨(lex q).1,0,false,[]⟩with
 |none=>rw[ag]at h;cases h
 |some p=>
 obtain⟨Y,s'⟩:=p;rw[ag]at h;simp only at h;split at h
 rotate_left
 .cases h
 cases h;have r:(⟨(lex q).1,0,false,[]⟩:aE).toks.length<=300:=by show(lex q).1.length<=300;omega
 have H:(⟨(lex q).1,0,false,[]⟩:aE).shared=[]:=rfl;generalize (⟨(lex q).1,0,false,[]⟩:aE)=s at ag r H;unfold gX at ag;cases w:dI s with
 |none=>rw[w]at ag;cases ag
 |some p=>
 obtain⟨name,s0⟩:=p;rw[w]at ag;simp only at ag;obtain⟨V,aa⟩:=qE w;have a0:s0.toks.length<=300/\s0.shared=[]:=⟨by rw[V]at r;simp at r;omega,by rw[aa];exact H⟩;have num:∀{lo hi n:Int}{b:Bool}{s t:aE},(s.toks.length<=300/\s.shared=[])->bd lo hi (ba b s)=σ (n,t)->t.toks.length<=300/\t.shared=[]:=λ{lo hi n b s t}L N=>by
  have:=dg N;have h1:(ba b s).toks.length=t.toks.length+1:=this.1;have e:s.toks.length=t.toks.length+1:=h1;exact⟨Ω,by rw[this.eqs.2.2];exact L.2⟩
 cases h1:bd 1 aw (ba (decide (64<name.length)) s0)with
 |none=>rw[h1]at ag;cases ag
 |some p=>
 obtain⟨n,s1⟩:=p;rw[h1]at ag;simp only at ag;have O:=num a0 h1;cases e:bd 1 aw (ba (decide (64<n)) s1)with
 |none=>rw[e]at ag;cases ag
 |some p=>
 obtain⟨most,P⟩:=p;rw[e]at ag;simp only at ag;have Q:=num O e;cases x:bd 0 aw P with
 |none=>rw[x]at ag;cases ag
 |some p=>
 obtain⟨y,A⟩:=p;rw[x]at ag;simp only at ag;have a3:A.toks.length<=300/\A.shared=[]:=by
  have:=dg x;exact⟨by have:=this.1;omega,by rw[this.eqs.2.2];exact Q.2⟩
 cases B:bd 1 aw (ba (decide (256<y)) A)with
 |none=>rw[B]at ag;cases ag
 |some p=>
 obtain⟨k,I⟩:=p;rw[B]at ag;simp only at ag;have a4:=num a3 B;cases C:cJ (fb most) n.toNat [] (ba (decide (2147483648<k)) I)with
 |none=>rw[C]at ag;cases ag
 |some p=>
 obtain⟨sizes,E⟩:=p;rw[C]at ag;simp only at ag;have J:=iN (f:=fb most) (λ(acc:Λ)t=>t.toks.length<=300/\t.shared=[]) (λacc t a bq g1 g=>by
  unfold fb at g;cases F:bd 1 most t with
  |none=>rw[F]at g;cases g
  |some p=>
   obtain⟨z,K⟩:=p;rw[F]at g;simp only[Y1,T0]at g;obtain⟨rfl,rfl⟩:=g;have:=dg F;exact⟨by show K.toks.length<=300;have:=this.1;omega,by show K.shared=[];rw[this.eqs.2.2];exact g1.2⟩) n.toNat [] (ba (decide (2147483648<k)) I) sizes E a4 C
 cases G:cJ (λ_ s=>cX sizes s) y.toNat [] E with
 |none=>rw[G]at ag;cases ag
 |some p=>
 obtain⟨funs,R⟩:=p;rw[G]at ag;simp only[Y1,T0]at ag;obtain⟨rfl,rfl⟩:=ag;obtain⟨⟨M,S,_,Z⟩,_⟩:=iN (ya 300) (λacc t a bq T g=>Rf T g) y.toNat [] E funs R ⟨0,Ξ,by rw[J.1.2];simp,by have:=J.1.1;simp;omega⟩ G;have ab:=E9 funs S;show iS funs<=16384/\funs.length<=100;refine⟨?_,Ω⟩;have U:∀k<101,k*(300-3*k)<=16384:=Φ
 have ac:=Nat.mul_le_mul_left funs.length (show M<=300-3*funs.length by omega);have:=U funs.length Ω;omega
def jE(A R:aj)(A9:Nat->aj)(aH:aj)(ao:Nat)(r:Nat):Prop:=A r\/R r\/(∃q,A9 q r)\/aH r\/r=ao
section
variable{P:aj}{gW w w':x3}{ae gT ao Su Sv Sw:Nat}{A R aP R':aj}{A9 cn:Nat->aj}{aH EI:aj}{n:aF}{s s':aq}{t bq:aC}{h h':List aC}{cs b4:List x1}{m cd:Nat}
variable{Z nj:aj}
end
theorem Fa(h:Laid w):0<w.heap.size:=by
 rcases Q0 w.heap.size with e|e
 .have a:=h 0 _ rfl;unfold x3.cell? at a;rw[Array.getElem?_eq_none Ω]at a;cases a
 .exact e
def fz(Z aH:aj)(w:x3)(ae gT ao:Nat)(n:aF)(s:aq):Prop:=∃A R A9 t cs,ch w ae gT ao A R A9 aH n s s t [] cs/\(Laid w/\¬Z 0)/\(dn s/\eM (cY n) s/\n.funs.length<=256)/\(∀r,Z r↔jE A R A9 aH ao r)/\∀q r,A9 q r->r<w.heap.size
section
variable{Z aH S:aj}{w w' V:x3}{ae gT ao:Nat}{A R:aj}{A9:Nat->aj}{n:aF}{s u:aq}{t:aC}{cs:List x1}
theorem fz.ext(h:fz Z aH w ae gT ao n s)(J:Ext w w'):fz Z aH w' ae gT ao n s:=by
 obtain⟨A,R,A9,t,cs,p,⟨a,e⟩,f,x,y⟩:=h;exact⟨A,R,A9,t,cs,p.ext J,⟨a.ext J,e⟩,f,x,λq r z=>by have:=y q r z;have:=J.size;omega⟩
theorem fz.side(h:fz Z aH w ae gT ao n s)(e:ai S w w')(z:∀r,Z r->¬S r)(B:¬S 0):fz Z aH w' ae gT ao n s:=by
 obtain⟨A,R,A9,t,cs,p,⟨C,E⟩,F,x,G⟩:=h;refine⟨A,R,A9,t,cs,p.side e λr _ f=>?_,⟨jh e B C,E⟩,F,x,λq r f=>by have:=G q r f;have:=e.size;omega⟩;have a:∀{y:Prop},(y->jE A R A9 aH ao r)->¬y:=λH h=>z r ((x r).2 (H h)) f;exact⟨a .inl,a λh=>.inr (.inl h),λq=>a λh=>.inr (.inr (.inl ⟨q,h⟩)),a λh=>.inr (.inr (.inr (.inl h))),a λh=>.inr (.inr (.inr (.inr h)))⟩
theorem fz.ok(h:fz Z aH w ae gT ao n s):br n.k n.sizes s/\dn s/\eM (cY n) s/\n.funs.length<=256:=by
 obtain⟨A,R,A9,t,cs,p,_,a,_⟩:=h;exact⟨p.e6.2.2.2.1,a⟩
theorem fz.step{V:x3}(p:ch w ae gT ao A R A9 aH n s u t [] cs)(f:∀r,Z r↔jE A R A9 aH ao r){u':aq}(F:dn u'/\eM (cY n) u'/\n.funs.length<=256)(G:¬Z 0)(H:dt w ae gT ao A R A9 aH n s t [] u' V)(J:Ext V w')(hm:eA [] w' ae gT A R n u' aa):ai (λr=>Z r/\¬aH r) w aa/\∃nj,(∀r,nj r->Z r\/w.heap.size<=r)/\fz nj aH aa ae gT ao n u':=by
 obtain⟨B,cn,b4,I,K⟩:=H;obtain⟨x,L,aP,bq,y,M,N,U⟩:=hm;have W:=B.size;have X:=J.size;have z3:=x.size;have z:=I.ext J;have O:=z.prog x y M N.1 (λ_ h=>.inl h) (λ_ _ _ h=>h) z.box.lt;have P:=p.ER;have Q:ai (λr=>Z r/\¬aH r) w aa:=(((B.mono (T:=λr=>Z r/\¬aH r) λr _ h=>⟨(f r).2 (h.elim (λh=>.inr (.inr (.inl h))) λh=>.inr (.inr (.inr (.inr h)))),h.elim (λ⟨q,h⟩=>P q r h) λh h'=>(p.read r h').2.2 h⟩)).trans (J.ab _)).trans
  ((xK y.1 x).mono λr _ h=>⟨(f r).2 (.inl h.1),λh'=>(z.read r h').1 h.2⟩)
 have Y:=p.box.lt;have e:∀{r:Nat}{C:Prop},(C->jE A R A9 aH ao r)->C->Z r\/w.heap.size<=r:=λS h=>.inl ((f _).2 (S h));have E:∀r,jE aP R (λq r=>cn q r/\r<w'.heap.size) aH ao r->Z r\/w.heap.size<=r:=by
  intro r a;rcases a with a|a|⟨q,a,_⟩|a|a
  .exact (y.2.1 r a).elim (e .inl) λh=>.inr Ω
  .exact e (λh=>.inr (.inl h)) a
  .exact (K q r a).elim (e λh=>.inr (.inr (.inl h))) .inr
  .exact e (λh=>.inr (.inr (.inr (.inl h)))) a
  .exact e (λh=>.inr (.inr (.inr (.inr h)))) a
 exact⟨Q,λr=>jE aP R (λq r=>cn q r/\r<w'.heap.size) aH ao r,E,aP,R,_,bq,b4,O,⟨L,λh=>(E 0 h).elim G λh=>Ω⟩,F,λr=>Iff.rfl,λq r a=>by have:=a.2;omega⟩
theorem Rh(h:dn s/\eM (cY n) s/\n.funs.length<=256)(a:br n.k n.sizes s)(m:hM):dn (cw n.k s m).1/\eM (cY n) (cw n.k s m).1/\n.funs.length<=256:=
 ⟨(Qe a h.1).2.1,h.2.1.trans (Qk a),h.2.2⟩
theorem Ri{m:hM}(p:ch w ae gT ao A R A9 aH n s u t [] cs)(a:br n.k n.sizes u)(e:dn u)(hk:m.kind<=5):am x7 vj [Γ ao,Δ (m.kind:Int),Δ m.i,Δ m.pos,Δ m.v,Δ m.c] w λr w'=>r=Δ (cw n.k u m).2/\dt w ae gT ao A R A9 aH n s t [] (cw n.k u m).1 w':=by
 by_cases h:m.kind<2
 .exact QZ p a e h
 .exact Rc p a ⟨Ω,hk⟩
theorem Rj{B:Nat}{e:x3}{ao:Nat}{s:x1}{cs:List x1}{f:bY}(x:uq B aa s cs f)(J:Ext aa e)(y:af e ao a7 cs)(z:aa.heap.size<=ao)(L:B<=aa.heap.size)(M:0<B)(C:Laid e):
  ∃ae gT Z aH,s=Γ ae/\fz Z aH e ae gT ao (cR f) (cY (cR f))/\∀r,Z r->B<=r:=by
 obtain⟨ae,gT,A,R,A9,aH,t,rfl,p,_,E,F,_,_,G,_,H,I⟩:=Qu x J y z;have K:=p.olds;have w:∀r,jE A R (λq r=>A9 q r/\r<e.heap.size) aH ao r->B<=r:=by
  intro r a;rcases a with a|a|⟨q,a,_⟩|a|a
  .exact E r a
  .exact I r a
  .exact F q r a
  .exact H r a
  .omega
 exact⟨ae,gT,_,aH,rfl,⟨A,R,_,t,cs,K,⟨C,λh=>by have:=w 0 h;omega⟩,⟨Qt _,eM.rfl,G⟩,λr=>Iff.rfl,λq r a=>a.2⟩,w⟩
end
def rI(s:aq):Prop:=∀f∈s.funs,f.live≠0
theorem Rk(n:aF):rI (cY n):=by
 intro f ag;unfold cY at ag;obtain⟨g,_,rfl⟩:=j4.1 ag;exact(by decide:(1:Int)≠0)
theorem Rl{a b:aq}(h:eM a b)(k:rI a):rI b:=by
 intro g p;obtain⟨j,e⟩:=List.getElem?_of_mem p;have q:=(x4.1 e).1;obtain⟨f,ag⟩:=aJ (l:=a.funs) (i:=j) (by have:=h.funs;omega);rw[(h.fn j f g ag e).2.2.1];exact k f (x5 ag)
section
variable{w:x3}{ae gT:Nat}{A R:aj}{n:aF}{s:aq}{t:aC}{fa:x1}
end
theorem oD{c:Prop}[Decidable c]{a b:c6}:b∈gh c a↔c/\b=a:=by
 refine⟨pM,λ⟨h,e⟩=>?_⟩;unfold gh;rw[if_pos h,e];exact .head _
section
variable{n:aF}{s:aq}
def yb(n:aF)(s:aq)(l:Int):Prop:=∀a∈lz n s,a.eW≠l
theorem yc{level:Int}(f:br n.k n.sizes s):gE n s level=[]↔ ∀l,1<=l->l<=level->yb n s l:=by
 unfold gE yb;rw[List.filter_eq_nil_iff];constructor
 .intro h l h1 q a e he;exact h a e (decide_eq_true Ω)
 .intro h a e p;exact h a.eW (Ek f e).1.1 (of_decide_eq_true p) a e rfl
theorem yd{i:Int}{a:c6}:a∈jx n s i↔hh n s i=true/\(a∈ly n s i\/(∃v∈bk s i,a∈h5 n s i v)\/a∈pO n s i):=by
 unfold jx;by_cases h:hh n s i=true
 .rw[if_pos h,o5,o5,S7];exact⟨λk=>⟨h,k⟩,λk=>k.2⟩
 .rw[if_neg h];exact⟨λk=>(by cases k),λk=>absurd k.1 h⟩
theorem Fb{j:Nat}{a:c6}:a∈kb n s j↔ ∃f,s.funs[j]?=σ f/\f.live≠0/\∃p,p<f.sc.length/\∃v∈bk s (f.sc.getD p 0),a∈fv n s j f p (f.sc.getD p 0) v\/a∈gQ n s j f p (f.sc.getD p 0) v:=by
 unfold kb;cases ag:s.funs[j]? with
 |none=>exact⟨λh=>(by cases h),λ⟨f,h,_⟩=>by cases h⟩
 |some f=>
  simp only;by_cases q:f.live≠0
  .rw[if_pos q,S7];constructor
   .rintro⟨p,r,h⟩;unfold h6 at h;obtain⟨v,ad,h⟩:=S7.1 h;exact⟨f,rfl,q,p,T6.1 r,v,ad,o5.1 h⟩
   .rintro⟨_,e,_,p,r,v,ad,h⟩;cases e;refine⟨p,T6.2 r,?_⟩;unfold h6;exact S7.2 ⟨v,ad,o5.2 h⟩
  .rw[if_neg q];exact⟨λh=>(by cases h),λ⟨_,e,h,_⟩=>by cases e;exact absurd h q⟩
theorem ye{a:c6}:a∈lz n s↔(∃i:Nat,i<n.sizes.length/\a∈jx n s (i:Int))\/∃j,a∈kb n s j:=by
 unfold lz mi mj;rw[o5,S7,S7];refine or_congr ⟨λ⟨i,h1,e⟩=>⟨i,T6.1 h1,e⟩,λ⟨i,h1,e⟩=>⟨i,T6.2 h1,e⟩⟩ ⟨λ⟨j,_,h⟩=>⟨j,h⟩,λ⟨j,h⟩=>⟨j,T6.2 ?_,h⟩⟩;obtain⟨f,ag,_⟩:=Fb.1 h;exact(x4.1 ag).1
theorem Fc{i:Nat}(hi:i<n.sizes.length):hh n s (i:Int)=true↔hK s i=false:=by
 unfold hh;rw[decide_eq_true Ω,T5,u7,Bool.not_eq_true']
theorem Rm(w:br n.k n.sizes s):yb n s 1↔rB n s:=by
 constructor
 .intro h i hi x;rw[u7]at x;have ad:=(Fc hi).2 x;have h1:=Qh (i:=(i:Int)) w;have y:¬(0<(iA n s (i:Int)).1\/(iA n s (i:Int)).2<0):=λq=>h ⟨1,i,-1,-1⟩ (ye.2 (.inl ⟨i,hi,yd.2 ⟨ad,.inl (oD.2 ⟨q,rfl⟩)⟩⟩)) rfl;refine⟨λr=>y (.inr ((EN w).2 r)),Ω,λv r=>?_⟩;have A:¬min (s.zero+eV n s (i:Int) v) n.k=n.k:=λq=>h ⟨1,i,-1,v⟩ (ye.2 (.inl ⟨i,hi,yd.2 ⟨ad,.inr (.inl ⟨v,r,oD.2 ⟨q,rfl⟩⟩)⟩⟩)) rfl;unfold dp;omega
 .intro h a e he;rcases ye.1 e with⟨i,hi,e⟩|⟨j,e⟩
  .obtain⟨ad,e⟩:=yd.1 e;obtain⟨h1,B,z⟩:=h i hi (by rw[u7];exact(Fc hi).1 ad);rcases e with e|⟨v,r,e⟩|e
   .obtain⟨q,rfl⟩:=oD.1 e;rcases q with q|q
    .omega
    .exact h1 ((EN w).1 q)
   .obtain⟨q,rfl⟩:=oD.1 e;have:=z v r;unfold dp at this;omega
   .obtain⟨q,rfl⟩:=oD.1 e;exact absurd he Ξ
  .obtain⟨f,_,_,p,_,v,_,e|e⟩:=Fb.1 e
   .obtain⟨_,rfl⟩:=oD.1 e;exact absurd he Ξ
   .obtain⟨_,rfl⟩:=oD.1 e;exact absurd he Ξ
theorem Fe(a:br n.k n.sizes s):gE n s 1=[]↔rB n s:=by
 rw[yc a,<-Rm a];exact⟨λh=>h 1 Φ Φ,λh l h1 e=>by rw[show l=1 by omega];exact h⟩
theorem Rn(a:br n.k n.sizes s):gE n s 0=[]:=by
 rw[yc a];exact λl h1 e=>Ω
theorem Ro{a b:Int}(f:br n.k n.sizes s)(h:a<=b)(e:gE n s b=[]):gE n s a=[]:=by
 rw[yc f]at e ⊢;exact λl h1 p=>e l h1 Ω
end
abbrev lG:Type:=l4 .u8×Int×Int×Int×Int
structure gk where
 d:Int
 i:Int
 pos:Int
 v:Int
 c:Int
def gk.ok(a:gk):Prop:=0<=a.d/\a.d<256
def gk.kind(a:gk):Nat:=(a.d % 7).toNat
def gk.bT(a:gk):List x1:=[.int .u8 a.d,Δ a.i,Δ a.pos,Δ a.v,Δ a.c]
def nk(x:lG):gk:=⟨x.1.val,x.2.1,x.2.2.1,x.2.2.2.1,x.2.2.2.2⟩
theorem Rp{R:aj}{cs:List x1}{x:lG}(h:Seen R w cs x):cs=(nk x).bT:=by
 obtain⟨r,_,_,_,rfl,_,_,_,a,s,_,_,_,rfl,_,_,_,e,y,_,_,_,rfl,_,_,_,f,z,A,_,_,rfl,_,_,_,p,q⟩:=h;have a:r=[.int .u8 x.1]:=a;have e:s=[Δ x.2.1]:=e;have f:y=[Δ x.2.2.1]:=f;have p:z=[Δ x.2.2.2.1]:=p;have q:A=[Δ x.2.2.2.2]:=q;subst a e f p q;rfl
theorem Rq{x:lG}(h:(o6.u8.min<=x.1.val/\x.1.val<=o6.u8.max)/\(X5.min<=x.2.1/\x.2.1<=X5.max)/\(X5.min<=x.2.2.1/\x.2.2.1<=X5.max)/\(X5.min<=x.2.2.2.1/\x.2.2.2.1<=X5.max)/\(X5.min<=x.2.2.2.2/\x.2.2.2.2<=X5.max)):(nk x).ok:=by
 have a:o6.u8.min=0:=Φ
 have e:o6.u8.max=255:=Φ
 rw[a,e]at h;exact⟨h.1.1,by have:=h.1.2;show x.1.val<256;omega⟩
theorem gk.one(a:gk):∀u∈a.bT,u.oneCell'=true:=by
 intro u hu;unfold gk.bT at hu;simp only[V3,List.not_mem_nil,or_false]at hu;rcases hu with rfl|rfl|rfl|rfl|rfl<;>rfl
theorem gk.Rr(a:gk):a.kind<7:=by
 unfold gk.kind;have:=Int.emod_lt_of_pos a.d (show(0:Int)<7 by decide);omega
def Ff(k:Int)(a:gk):Int:=a.c.emod 18446744073709551616 % (k+1)
def kS(k:Int)(a:gk):hM:=⟨a.kind,a.i,a.pos,a.v,Ff k a⟩
def lH(n:aF)(s:aq)(a:gk):aq:=if a.kind=6 then(if ft n a.i a.v then ef s a.i.toNat a.v.toNat else s)else(cw n.k s (kS n.k a)).1
theorem yf{d:Int}{K:x1->Prop}(h:0<=d):ac x7 (aM .rem cI false true (.int .u8 d) (.int .u8 7)) w K=K (.int .u8 (((d % 7).toNat:Nat):Int)):=by
 rw[sx Φ,Int.tmod_eq_emod_of_nonneg h];have:=Int.emod_nonneg d (show(7:Int)≠0 by decide);rw[Int.toNat_of_nonneg this]
section
variable{w:x3}{ae gT ao:Nat}{A R:aj}{A9:Nat->aj}{aH:aj}{n:aF}{s u:aq}{t:aC}{h:List aC}{cs:List x1}{a:gk}
theorem Fg(a:br n.k n.sizes s){i:Int}(h:ft n i v):0<=i/\∃x,s.vars[i.toNat]?=σ x/\0<=v/\v<x.un.length:=by
 obtain⟨x,J,h1,_,e⟩:=h.var a;exact⟨h.1,x,J,h.2.2.1,by have:=h.2.2.2;omega⟩
theorem Rs(f:dn s/\eM (cY n) s/\n.funs.length<=256)(p:br n.k n.sizes s):dn (lH n s a)/\eM (cY n) (lH n s a)/\n.funs.length<=256:=by
 unfold lH;split
 .split
  .rename_i h;obtain⟨r,x,J,ad,_⟩:=Fg p h;have e:=ml (v:=a.v) J;have q:eM s (ef s a.i.toNat a.v.toNat):=xR (v:=a.v);exact⟨by rw[e];exact dn.vars f.1 J rfl,f.2.1.trans q,f.2.2⟩
  .exact f
 .exact Rh f p _
theorem Rt(p:ch w ae gT ao A R A9 aH n s u t h cs){i:Nat}{x:bG}(J:u.vars[i]?=σ x):∃g cap y gy e,cs[3]?=σ (.slice (σ ⟨g,0,ν⟩) u.vars.length cap)/\w.cell? ⟨g,0+i*1,ν⟩=σ y/\av .i64 e w gy y (aG x)/\(∀r,leads y r->A9 0 r)/\
  ∀{V aa:x3}{m:Int}{z:x1}{K:Unit->x3->Prop},Ext w V->ai (λr=>leads y r) V aa->av .i64 e aa gy z (aG {x with mask:=m})->(∀r,leads z r->leads y r)->(∀L,dt w ae gT ao A R A9 aH n s t h {u with vars:=u.vars.set i {x with mask:=m}} L->K () L)->
   aD x7 (o8 an (.pointer (σ ⟨g,0+i*1,ν⟩)) z) aa K:=by
 have M:=p.olds;have aK:=(x4.1 J).1;obtain⟨szv,ah,aL,aM,aN,aO,N,_,aj,_,_,_,_,ak⟩:=id M.doc;obtain⟨g,cap,full,al,c,am,e,E,aq,F,O,P,Q,au,aw⟩:=EG (i:=i) (a:=aG x) aj (by rw[x8,J];rfl) λr _ h=>(ak rfl).2 0 r h;obtain⟨y,rfl⟩:=W6.1 (ap.len P);rw[r8]at e;have ax:full[i]?=σ y:=by have:=O 0 y rfl;simpa[show ap.n (Λ)=1 from rfl]using this
 obtain⟨gy,ay,S,az⟩:=Ag P;have B:∀r,leads y r->am r:=λr f=>by
  rcases az with rfl|aA
  .obtain⟨_,_,_,e,_⟩:=f;cases e
  .obtain⟨e,_⟩:=bQ S f;rw[e];exact aA
 refine⟨g,cap,y,gy,ay,by rw[N,<-e];rfl,by have:=E.cell (o:=i) ax;rw[X2,U1];exact this,S,λr f=>(Q r (B r f)).1,λ{V aa m U K}G H W X aB=>?_⟩;have aP:=G.size;have aQ:=H.size;have F:i*1+1<=full.length:=F;obtain⟨_,_,_,Y⟩:=c5 W.ls;have Z:¬leads y g:=λh=>au (B g h);refine bl (o:=0+i*1) an.i (by rw[Y];rfl) (by rw[Y];rfl) ((E.ext G).ab H Z) Ω λac ad aR C=>?_;have C:af ac g al (over full (i*1) [U]):=by
  have e:=EH (full:=full) (c:=[y]) (o:=i*1) (q:=0) (x:=U) O F Ξ;rw[X2]at C;rw[Nat.add_zero]at e;rw[e]at C;exact C
 have aS:g<w.heap.size:=E.lt;have I:ai (λr=>leads y r\/r=g) w ac:=((G.ab _).trans (H.mono λr _ h=>.inl h)).trans (ad.mono λr _ h=>.inr h);have aC:=bu W ad λr f he=>by have he:r=g:=he;exact Z (he▸X r f)
 have aE:=aw I (λr _ h=>h.imp (B r) id) C (na (R:=aH) aC) λr f=>.inl (B r (X r f));have ag:∀r,r<w.heap.size->(leads y r\/r=g)->A9 0 r/\r<w.heap.size:=λr f h=>h.elim (λh=>Q r (B r h)) λh=>by rw[h];exact aq
 obtain⟨cn,aF,aI⟩:=M.ox (u':={u with vars:=u.vars.set i {x with mask:=m}}) (λq r h=>h.2) (v:=ah) (by rw[N];rfl) I ag (by show bF _ _ _ _ ((u.vars.set i {x with mask:=m}).map aG);rw[U4];exact aE) rfl (pS J rfl) (pS J rfl) rfl rfl;refine aB _ ⟨I.mono λr f h=>.inl ⟨0,(ag r f h).1⟩,cn,cs,aF,λq r f=>?_⟩;rcases aI q r f with⟨aJ,h⟩|h
 .exact .inl ⟨aJ,h.1⟩
 .exact .inr h
end
section
variable{Z aH:aj}{w w':x3}{ae gT ao:Nat}{A R:aj}{A9:Nat->aj}{n:aF}{s s':aq}{t:aC}{cs:List x1}{a:gk}
def kg(Z aH:aj)(w:x3)(ae gT ao:Nat)(n:aF)(s':aq)(w':x3):Prop:=ai (λr=>Z r/\¬aH r) w w'/\∃nj,(∀r,nj r->Z r\/w.heap.size<=r)/\fz nj aH w' ae gT ao n s'
theorem fz.Ru{aP:aj}{cn:Nat->aj}{bq:aC}(p:ch w ae gT ao A R A9 aH n s s t [] cs)(f:∀r,Z r↔jE A R A9 aH ao r)(J:dn s'/\eM (cY n) s'/\n.funs.length<=256)(y:¬Z 0)(K:Laid w)(z:ai (en w) w V)(B:Grow A w aP V)(x:∀q r,cn q r->A9 q r)(L:dt V ae gT ao aP R cn aH n s' bq [] s' aa):kg Z aH w ae gT ao n s' aa:=by
 obtain⟨C,E,b4,M,N⟩:=L;have Q:=z.size;have S:=C.size;have O:=p.ER;have F:ai (λr=>Z r/\¬aH r) w aa:=((xK B.1 z).mono (T:=λr=>Z r/\¬aH r) λr _ h=>⟨(f r).2 (.inl h.1),λh'=>(p.read r h').1 h.2⟩).trans
  (C.mono λr _ h=>⟨(f r).2 (h.elim (λ⟨q,h⟩=>.inr (.inr (.inl ⟨q,x q r h⟩))) λh=>.inr (.inr (.inr (.inr h)))),h.elim (λ⟨q,h⟩=>O q r (x q r h)) λh h'=>(p.read r h').2.2 h⟩)
 have U:=p.box.lt;have e:∀{r:Nat}{G:Prop},(G->jE A R A9 aH ao r)->G->Z r\/w.heap.size<=r:=λP h=>.inl ((f _).2 (P h));have H:∀r,jE aP R (λq r=>E q r/\r<aa.heap.size) aH ao r->Z r\/w.heap.size<=r:=by
  intro r a;rcases a with a|a|⟨q,a,_⟩|a|a
  .exact (B.2.1 r a).elim (e .inl) .inr
  .exact e (λh=>.inr (.inl h)) a
  .exact (N q r a).elim (λ⟨I,h⟩=>e (λh=>.inr (.inr (.inl h))) ⟨I,x I r h⟩) λh=>.inr Ω
  .exact e (λh=>.inr (.inr (.inr (.inl h)))) a
  .exact e (λh=>.inr (.inr (.inr (.inr h)))) a
 exact⟨F,λr=>jE aP R (λq r=>E q r/\r<aa.heap.size) aH ao r,H,aP,R,_,bq,b4,M.olds,⟨jh F (λh=>y h.1) K,λh=>(H 0 h).elim y λh=>Ω⟩,J,λr=>Iff.rfl,λq r a=>a.2⟩
theorem kg.same(h:fz Z aH w ae gT ao n s)(J:Ext w w'):kg Z aH w ae gT ao n s w':=⟨J.ab _,Z,λ_ h=>.inl h,h.ext J⟩
theorem kg.before(J:Ext w V)(h:kg Z aH V ae gT ao n s w'):kg Z aH w ae gT ao n s w':=by
 obtain⟨c,nj,a,e⟩:=h;have:=J.size;exact⟨(J.ab _).trans c,nj,λr f=>(a r f).imp id λh=>Ω,e⟩
end
def lI(w0 w:x3)(ae gT ao:Nat)(n:aF):Prop:=Ext w0 w/\∃s Z aH,fz Z aH w ae gT ao n s/\∀r,Z r->w0.heap.size<=r
section
variable{w0 w w':x3}{ae gT ao:Nat}{n:aF}{s:aq}{Z aH:aj}
theorem lI.ext(h:lI w0 w ae gT ao n)(J:Ext w w'):lI w0 w' ae gT ao n:=by
 obtain⟨a,s,Z,aH,e,f⟩:=h;exact⟨a.trans J,s,Z,aH,e.ext J,f⟩
end
theorem fz.live{Z aH:aj}{ae gT ao:Nat}{n:aF}{s:aq}(h:fz Z aH w ae gT ao n s):rI s/\s.funs.length<=256:=by
 obtain⟨_,_,a,ag⟩:=h.ok;refine⟨Rl a (Rk n),?_⟩;rw[a.funs];unfold cY;rw[r8];exact ag
theorem Fh{n:aF}{s:aq}{i:Nat}{x:bG}(h:eM (cY n) s)(J:s.vars[i]?=σ x):x.gone=0:=by
 obtain⟨y,a⟩:=aJ (l:=(cY n).vars) (i:=i) (by have:=(x4.1 J).1;have:=h.vars;omega);rw[(h.var i y x a J).1];unfold cY at a;simp only[x8,Y7]at a;obtain⟨u,_,rfl⟩:=a;rfl
section
variable{w:x3}{n:aF}{ae gT ao:Nat}
end
section
variable{w:x3}{ae gT:Nat}{A R:aj}{n:aF}{s:aq}{t:aC}
theorem Fi{i:Nat}{x:bG}(a:br n.k n.sizes s)(J:s.vars[i]?=σ x)(ad:v∈aG x):eV n s (i:Int) v=x.un.getD v.toNat 0:=by
 unfold eV;rw[if_pos (oB a J ad),u7];unfold ix;rw[J]
theorem Rv{i:Nat}{x:bG}(J:s.vars[i]?=σ x):bk s (i:Int)=aG x:=by
 unfold bk;rw[u7,J]
end
section
variable{aB:List aC}{w V aa:x3}{ae gT ao:Nat}{A R S Z aH:aj}{n:aF}{s s0 s1:aq}{cs:List x1}
def lJ(aB:List aC)(Z aH:aj)(w:x3)(ae gT ao:Nat)(n:aF)(s s0:aq)(cs:List x1):Prop:=∃A R A9 t,ch w ae gT ao A R A9 aH n s s0 t aB cs/\(Laid w/\¬Z 0/\rF t)/\(∀r,Z r↔jE A R A9 aH ao r)/\∀q r,A9 q r->r<w.heap.size
theorem lJ.ext(h:lJ aB Z aH w ae gT ao n s s0 cs)(J:Ext w V):lJ aB Z aH V ae gT ao n s s0 cs:=by
 obtain⟨A,R,A9,t,p,⟨a,e⟩,f,x⟩:=h;exact⟨A,R,A9,t,p.ext J,⟨a.ext J,e⟩,f,λq r y=>by have:=x q r y;have:=J.size;omega⟩
theorem lJ.side(h:lJ aB Z aH w ae gT ao n s s0 cs)(e:ai S w V)(z:∀r,Z r->¬S r)(B:¬S 0):lJ aB Z aH V ae gT ao n s s0 cs:=by
 obtain⟨A,R,A9,t,p,⟨C,E⟩,x,F⟩:=h;refine⟨A,R,A9,t,p.side e λr _ f=>?_,⟨jh e B C,E⟩,x,λq r f=>by have:=F q r f;have:=e.size;omega⟩;have a:∀{y:Prop},(y->jE A R A9 aH ao r)->¬y:=λG h=>z r ((x r).2 (G h)) f;exact⟨a .inl,a λh=>.inr (.inl h),λq=>a λh=>.inr (.inr (.inl ⟨q,h⟩)),a λh=>.inr (.inr (.inr (.inl h))),a λh=>.inr (.inr (.inr (.inr h)))⟩
theorem lJ.ok(h:lJ aB Z aH w ae gT ao n s s0 cs):br n.k n.sizes s/\kc w (.agg cs.toArray) n.k n.sizes s0:=by
 obtain⟨A,R,A9,t,p,_⟩:=h;exact⟨p.e6.2.2.2.1,p.doc.EC⟩
theorem fz.ds(h:fz Z aH w ae gT ao n s):∃cs,lJ [] Z aH w ae gT ao n s s cs/\af w ao a7 cs:=by
 obtain⟨A,R,A9,t,cs,p,⟨a,e⟩,r,f,q⟩:=h;exact⟨cs,⟨A,R,A9,t,p,⟨a,e,p.h3.m.2⟩,f,q⟩,p.box⟩
end
theorem Fj{p:x1}(aF:aI .u8 w p pl)(S:Bytes pl)(aY:e2 w):am x7 Gq [p] w (Qo w (pl.take 300)):=by
 refine az func18 ?_;refine bx a7.i λB V bO aj Y=>?_;have Y:af V B a7 z12:=Y;rw[aX cN.u (aF.ext aj),l1];refine JU (i:=min pl.length 300) Ω cN.u cI.i (aF.ext aj) Ω λbP ak=>?_;have a2:pl.take (min pl.length 300)=pl.take 300:=by
  by_cases h:pl.length<=300
  .rw[Nat.min_eq_left h,o7,b6 h]
  .rw[Nat.min_eq_right Ω]
 rw[a2]at ak;have Z:Bytes (pl.take 300):=λb a=>S b (List.mem_of_mem_take a);have a6:(pl.take 300).length<=300:=by rw[n9];omega
 generalize pl.take 300=q at ak Z a6;refine(Pa ak Ω).mono ?_;rintro bQ aa _ ⟨an,bS,ao⟩;have aG:=aj.trans an;refine(MR ao.ls Z Ω (aY.ext aG)).mono ?_;rintro bT bU _ ⟨W,C⟩;have aJ:=aG.trans W;cases G:fj q with
 |none=>
  rw[G]at C;obtain⟨n,e,rfl,he⟩:=C;rw[fK,fL,fM];refine(DD (ao.ext W).ls Z Ω).mono ?_;rintro a8 ap _ ⟨L,ba,bb,aq,_⟩;obtain rfl:=aq G;rw[fK,fL,fM];refine aV (λv X=>v= .bool true/\Ext ap X) ?_ ?_
  .rintro _ X ⟨rfl,I⟩;rw[bR,cW (cs:=#[Δ 0,.slice ν 0 0,Δ 0,.slice ν 0 0,.slice ν 0 0,.slice ν 0 0,.slice ν 0 0,.slice ν 0 0]) Ψ];obtain⟨_,_,x,E⟩:=D0;refine ci (vs:=z12) a7.i rfl rfl (by intro u hu;simp[z12]at hu;rcases hu with rfl|rfl|rfl|rfl<;>rfl) ((((Y.ext an).ext W).ext L).ext I) λbV bc bW bd=>?_;rw[fJ a7.p a7.i rfl bd.range];refine⟨((aJ.trans L).trans I).then bc λr C he=>by have he:r=B:=he;omega,_,_,false,rfl,⟨rfl,(D0).elim λ_ h=>by obtain⟨_,_,h⟩:=h;exact λu hu=>by simp[z12]at hu;rcases hu with rfl|rfl|rfl|rfl<;>rfl⟩,.inl ⟨rfl,rfl⟩,λf ag=>?_⟩;rw[G]at ag;cases ag
  .intro aA J;rw[bC,al];exact⟨λ_=>J _ _ ⟨rfl,Ext.refl _⟩,λh=>absurd he h⟩
 |some f=>
  rw[G]at C;obtain⟨bX,n,rfl,bf⟩:=C;obtain⟨N,bg,M,bh,bi⟩:=O8 Ω G;have O:=Cu M;have ac:=xp M;rw[fK,fL,fM];refine(DD (ao.ext W).ls Z Ω).mono ?_;rintro a8 ap _ ⟨L,ba,bb,_,aq⟩;obtain⟨bY,rfl,bj⟩:=aq f G;rw[fK,fL,fM];refine aV (λv X=>v= .bool false/\Ext ap X) ?_ ?_
  rotate_left
  .intro aA J;rw[bC,al];refine⟨λh=>absurd rfl h,λ_=>?_⟩;rw[de vw.u];exact J _ _ ⟨rfl,Ext.refl _⟩
  rintro _ X ⟨rfl,I⟩;rw[a1];have aK:=(aJ.trans L).trans I;refine(NZ ((bf.ext L).ext I) M bg ⟨bh,bi⟩).mono ?_;rintro bZ bk _ ⟨au,bl⟩;have ai:=aK.trans au;have P:=((((Y.ext an).ext W).ext L).ext I).ext au;have aL:=(bj.ext I).ext au;have b0:=ai.size;have b1:w.heap.size<=B:=Ω
  have b2:=P.lt;rcases bl with⟨bo,e,he,rfl⟩|⟨b3,rfl,bp⟩
  .rw[bm,bn];refine O9.mono ?_;rintro _ aM _ ⟨rfl,s⟩;refine ic (λav t4 y=>av= .pointer ν/\t4= .bool false/\Ext w y/\∃cs:List x1,af y B a7 cs/\cs.length=8/\∀u∈cs,u.oneCell'=true) ?_ ?_
   .rintro _ _ y ⟨rfl,rfl,aw,cs,ax,x,E⟩;rw[fJ a7.p a7.i x ax.range];exact⟨aw,_,cs,false,rfl,⟨x,E⟩,.inl ⟨rfl,rfl⟩,λb4 aN bq=>absurd bq (by rw[G]at aN;cases aN;exact bo)⟩
   .intro aA J;have br:=s.size;refine(DN (aL.ext s) M).mono ?_;rintro bt ay _ ⟨z,aB⟩;refine(EE (R:=λr=>w.heap.size<=r/\∃c,af ay r ah c) (λr h=>h.2.elim λc a=>a.lt) (λr c S a=>⟨Ω,c,a⟩) aB O.1 ac).mono ?_;rintro bu bz _ ⟨H,A9,cs,rfl,Q,aC⟩;obtain⟨x,E⟩:=Q.len;rw[be,al];refine⟨λh=>absurd h he,λ_=>?_⟩;refine ci (vs:=cs) a7.i x rfl E (((P.ext s).ext z).ext H) λbA K aO aD=>?_;exact J _ _ _ ⟨rfl,rfl,(((ai.trans s).trans z).trans H).then K λr C he=>by have he:r=B:=he;omega,cs,aD,x,E⟩
  .rw[bm,bn];obtain⟨b5,bB,aP,bD⟩:=bp;have z5:=aK.size;refine(On (R0:=λr=>w.heap.size<=r/\r<bk.heap.size) bB aP (λr o h U=>⟨by have:=bD r o h U;omega,(l9.1 (aP.aZ r o h U)).1⟩) (λr h=>h.2) O.1 ac).mono ?_;rintro _ aM _ ⟨s,ae,gT,A,R,t,rfl,bE,ad,aQ,aR,bF⟩;have aS:bw aM ae gT A R (cR f) (cY (cR f)) t:=⟨bE,ad,Pc O.1 ac ad aQ,N8 O.1,O.1⟩;refine ic (λav t4 y=>av=Γ ae/\t4= .bool true/\Ext w y/\∃cs:List x1,af y B a7 cs/\cs.length=8/\(∀u∈cs,u.oneCell'=true)/\∃R' A9 aH,bw y ae gT A R' (cR f) (cY (cR f)) t/\iC true A9 aH y cs (cR f).k (cR f).sizes (cY (cR f))/\(∀q r,A9 q r->¬A r/\¬R' r/\w.heap.size<=r)/\(∀r,aH r->¬en y r/\r<y.heap.size/\w.heap.size<=r)/\∀r,R' r->w.heap.size<=r) ?_ ?_
   .rintro _ _ y ⟨rfl,rfl,aw,cs,ax,x,E,R',A9,aH,bG,Q,bH,bI⟩;rw[fJ a7.p a7.i x ax.range];exact⟨aw,_,cs,true,rfl,⟨x,E⟩,.inr ⟨rfl,f,G,ae,gT,A,R',t,N,A9,aH,M,rfl,bG,aQ,λr C=>by have:=aR r C;omega,Q,bH,bI⟩,λ_ _ _=>rfl⟩
   .intro aA J;have br:=s.size;refine(DN (aL.ext s) M).mono ?_;rintro bt ay _ ⟨z,aB⟩;refine(EE (R:=λr=>w.heap.size<=r/\∃c,af ay r ah c) (λr h=>h.2.elim λc a=>a.lt) (λr c S a=>⟨Ω,c,a⟩) aB O.1 ac).mono ?_;rintro bu bz _ ⟨H,A9,cs,rfl,Q,aC⟩;obtain⟨x,E⟩:=Q.len;rw[be,al];refine⟨λ_=>?_,λh=>absurd rfl h⟩;rw[zX db.u];have aT:=((P.ext s).ext z).ext H;have bJ:=((ai.trans s).trans z).trans H;refine ci (vs:=cs) a7.i x rfl E aT λbA K aO aD=>?_;have aU:=(aS.ext z).ext H;obtain⟨R',aW,bK⟩:=aU.1.put aT K λh=>by have:=aR B h;omega
    have b7:=((ai.trans s).trans z).size;have b8:=H.size;obtain⟨_,_,_,_,⟨_,_,bL,bM⟩,_⟩:=(aS.ext z).1;have b9:=P.lt;have ca:=(s.trans z).size;have bN:=Q.ab K λr C h he=>by
     have he:r=B:=he;rcases h with⟨q,h⟩|⟨_,c,a⟩
     .have:=aC q r h;omega
     .subst he;exact absurd (eH a (((P.ext s).ext z))) Φ
    refine J _ _ _ ⟨rfl,rfl,bJ.then K λr C he=>by have he:r=B:=he;omega,cs,aD,x,E,R',A9,_,⟨bK,aU.2⟩,bN,λq r h=>?_,λr h=>?_,λr h=>?_⟩
    .have cb:=aC q r h;refine⟨λaE=>by have:=bM r aE;omega,λaE=>by have:=bL r (aW r aE).1;omega,Ω⟩
    .obtain⟨S,c,a⟩:=h;have cc:=a.lt;have aO:=K.size;refine⟨O6 ((a.ext H).ab K λhe=>?_) Φ,Ω,S⟩;have he:r=B:=he;subst he;exact absurd (eH a (((P.ext s).ext z))) Φ
    .rcases bF r (aW r h).1 with h|h
     .exact h.1
     .omega
section
variable{Z aH:aj}{w w':x3}{ae gT ao:Nat}{A R:aj}{A9:Nat->aj}{n:aF}{s s':aq}{t:aC}{cs:List x1}{a:gk}
theorem Rw(h:fz Z aH w ae gT ao n s)(W:a.ok):am x7 vh [Γ ae,Γ ao,.agg a.bT.toArray] w λ_ w'=>kg Z aH w ae gT ao n (lH n s a) w':=by
 obtain⟨A,R,A9,t,cs,p,⟨aB,Q⟩,aC,S,aD⟩:=id h;have O:=p.e6.2.2.2.1;have bq:=O.ew;have br:=a.Rr;have H:¬A 0:=λh=>Q ((S 0).2 (.inl h));have X:=Rs (a:=a) aC O;refine az func20 ?_;refine bf λga V bt aE Y=>?_;have Y:af V ga c3 [.int .u8 a.d,Δ a.i,Δ a.pos,Δ a.v,Δ a.c]:=Y;intro aa aF _ _;have E:=aE.trans aF;have C:=Y.ext aF;have bu:=aE.size;have bw:=E.size;have bx:=C.lt;have ac:(a.d % 7).toNat=a.kind:=rfl;obtain⟨szv,bz,bA,bB,bC,bD,aR,_⟩:=p.ow;have aV:cs[0]?=σ (Δ n.k):=by rw[aR];rfl
 have hu:U5.wrap a.c=a.c.emod 18446744073709551616:=rfl;have aW:0<=a.c.emod 18446744073709551616:=Int.emod_nonneg _ Φ;have bE:=Int.emod_nonneg (a.c.emod 18446744073709551616) (show n.k+1≠0 by omega);have bF:=Int.emod_lt_of_pos (a.c.emod 18446744073709551616) (show 0<n.k+1 by omega);have aX:a.c.emod 18446744073709551616 % (n.k+1)=Ff n.k a:=rfl;rw[aT c3.p 4 C rfl,fh au.u fF.u,aS a7.p 0 (p.box.ext E) aV,aN,wrap_i64 Ω Ω,fh au.u fF.u,wrap_u64 (x:=n.k+1) Ω Ω,hu,sx Ω,Int.tmod_eq_emod_of_nonneg aW,fh fF.u au.u,wrap_i64 Ω Ω,aX,
  aT c3.p 0 C rfl,yf W.1,ac,be,al]
 have G:=p.ext E;refine⟨λad=>?_,λad=>?_⟩
 .have ad:a.kind=6:=Ω
  have I:lH n s a=if ft n a.i a.v then ef s a.i.toNat a.v.toNat else s:=by unfold lH;rw[if_pos ad]
  refine da (λw'=>kg Z aH w ae gT ao n (lH n s a) w') (λw' h=>h) λaA aG=>?_;rw[aT c3.p 1 C rfl,aT c3.p 3 C rfl];refine(xn (i:=a.i) (v:=a.v) G.e6 (.inl p.h3.1)).mono ?_;rintro bG bH _ ⟨aY,aZ⟩;by_cases L:ft n a.i a.v
  rotate_left
  .obtain⟨rfl,a1⟩:=aY L;rw[be,al];exact⟨λh=>absurd h Φ,λ_=>aG _ (by rw[I,if_neg L];exact kg.same h (E.trans a1))⟩
  obtain⟨rfl,aI,aP,y,ag,a2⟩:=aZ L;rw[if_pos L]at I;rw[be,al];refine⟨λ_=>?_,λh=>absurd rfl h⟩;have a6:=G.prog aI ag a2 G.h3.set (λ_ h=>.inl h) (λ_ _ _ h=>h) G.box.lt;obtain⟨a8,x,J,ba,bI⟩:=Fg O L;obtain⟨ai,U⟩:=U8 a8;rw[U,u7]at J;intro aj ak _ _;have z:=a6.ext ak;have ap:∀r,A r->r<w.heap.size:=λr h=>xL p.e6 r (.inl h);have P:=(C.ab ag.1 λh=>by have:=ap ga h;omega).ext ak;rw[U]at P;have aJ:ai<s.vars.length:=(x4.1 J).1;obtain⟨g,cap,aK,gy,e,aq,bb,bc,bd,bg⟩:=Rt z J;have bJ:=ET x;have bK:x.un.length<=32:=by obtain⟨bL,aL,bM,bh,_⟩:=L.var O;rw[U,u7,J]at aL;cases aL;exact bh
  have av:∀r,leads aK r->r≠ga/\r≠ao:=λr f=>by
   have h1:A9 0 r/\r<aa.heap.size:=bd r f;exact⟨λhe=>by have:=aD 0 r h1.1;omega,λhe=>(p.apart 0 r h1.1).2.2 he⟩
  rw[aS a7.p 3 z.box aq,aT c3.p 1 P rfl,aS a7.p 3 z.box aq,aT c3.p 1 P rfl,e8 dz.u an.i aJ λ_=>rfl,ax (v:=aK) (o:=0+ai*1) Ψ bb,ig];refine(Ee (p:=λy=>decide (y=a.v)) bc Ω λw' y bi bN=>?_).mono ?_
  .refine az func63 ?_;rw[aT c3.p 3 (P.ab bi λh=>(av ga h).1 rfl) rfl,be];exact⟨rfl,Ext.refl _⟩
  rintro bO aw _ ⟨ay,bj,bk⟩;have bl:=P.ab ay λh=>(av ga h).1 rfl;have bm:=z.box.ab ay λh=>(av ao h).2 rfl;refine⟨.inr ⟨sL Ψ (bl.cell (o:=0+1) rfl),Go.Vc.lg λK=>aU c3.p rfl,sL Ψ (bm.cell (o:=0+3) aq),Go.Vc.lg λK=>aU a7.p rfl,Go.Vc.lg λK=>bU,trivial⟩,?_⟩;rw[e8 dz.u an.i aJ λ_=>rfl];refine bg (m:=((x.mask.toNat ||| 2 ^ a.v.toNat:Nat):Int)) (Ext.refl _) ay (by rw[xO ba];exact bj) bk λbP aM=>aG _ ?_;have bn:ef s a.i.toNat a.v.toNat={s with vars:=s.vars.set ai {x with mask:=((x.mask.toNat ||| 2 ^ a.v.toNat:Nat):Int)}}:=by rw[U,u7];unfold ef;rw[J]
  rw[I];rw[<-bn]at aM;have bo:=dt.comp (ak.ab _) (λq r f=>.inl ⟨q,f⟩) aM;exact kg.before E (fz.Ru G S (by rw[<-I];exact X) Q (aB.ext E) aI ag (λq r (f:A9 q r/\r<aa.heap.size)=>f.1) bo)
 have bQ:(kS n.k a).kind=a.kind:=rfl;have I:lH n s a=(cw n.k s (kS n.k a)).1:=by unfold lH;rw[if_neg Ω]
 rw[aT c3.p 0 C rfl,yf W.1,ac,fh cI.u ah.u,wrap_i64 Ω Ω,aT c3.p 1 C rfl,aT c3.p 2 C rfl,aT c3.p 3 C rfl];refine(Ri (m:=kS n.k a) G O aC.1 Ω).mono ?_;rintro _ aj _ ⟨rfl,aO⟩;obtain⟨aQ,bR,bS,z,bV⟩:=id aO;have ap:∀r,(∃q,A9 q r)\/r=ao->r<w.heap.size:=λr f=>f.elim (λ⟨q,h⟩=>aD q r h) λh=>by rw[h];exact p.box.lt
 have B:=C.ab aQ λf=>by have:=ap ga f;omega
 have M:Laid aj:=jh aQ (λh=>Q ((S 0).2 (h.elim (λh=>.inr (.inr (.inl h))) λh=>.inr (.inr (.inr (.inr h)))))) (aB.ext E);have N:∀{r:x1}{aw:x3},oC [] aj ae gT A R n s (kS n.k a) r aw->kg Z aH w ae gT ao n (lH n s a) aw:=λbp=>by
  rw[I]at X ⊢;exact kg.before E (fz.step G S X Q aO (Ext.refl _) bp.2)
 rw[aT c3.p 0 B rfl,yf W.1,ac,be,al];refine⟨λhk=>?_,λbW=>?_⟩
 .rw[aT c3.p 1 B rfl,aT c3.p 2 B rfl,aT c3.p 3 B rfl];exact(QU (a:=kS n.k a) Ω z.e6 M H z.h3.m).mono λr w' _ f=>N f
 rw[be,al];refine⟨λhk=>?_,λbX=>?_⟩
 .rw[aT c3.p 1 B rfl,aT c3.p 2 B rfl,aT c3.p 3 B rfl];exact(QV (a:=kS n.k a) Ω z.e6 M H z.h3.m).mono λr w' _ f=>N f
 rw[be,al];refine⟨λhk=>?_,λbY=>?_⟩
 .rw[aT c3.p 1 B rfl];exact(Q2 (a:=kS n.k a) Ω z.e6 M H z.h3.m).mono λr w' _ f=>N f
 rw[be,al];refine⟨λhk=>?_,λbZ=>?_⟩
 .rw[aT c3.p 1 B rfl];exact(Q4 (a:=kS n.k a) Ω z.e6 M H z.h3.m).mono λr w' _ f=>N f
 rw[be,al];refine⟨λhk=>?_,λb0=>?_⟩
 .rw[aT c3.p 1 B rfl,aT c3.p 3 B rfl];exact(Q5 (a:=kS n.k a) Ω z.e6 M H z.h3.m).mono λr w' _ f=>N f
 .rw[aT c3.p 1 B rfl,aT c3.p 3 B rfl];exact(Q6 (a:=kS n.k a) Ω z.e6 M H z.h3.m).mono λr w' _ f=>N f
end
section
variable{w0 w w':x3}{ae gT ao:Nat}{n:aF}{s:aq}{Z aH:aj}
theorem lI.Rx{a:gk}(h:lI w0 w ae gT ao n)(q:a.ok):am x7 vh [Γ ae,Γ ao,.agg a.bT.toArray] w λ_ w'=>lI w0 w' ae gT ao n:=by
 obtain⟨e,s,Z,aH,x,f⟩:=h;refine(Rw x q).mono ?_;rintro v V _ ⟨y,A,B,C⟩;have z:=e.size;exact⟨e.then y λr p h=>by have:=f r h.1;omega,_,A,aH,C,λr p=>(B r p).elim (f r) λh=>Ω⟩
theorem Ry{e:x1}{L:List lG}{K:x1->x3->Prop}{i:Nat}{x:lG}(q:Seen fi w [e] L)(J:L[i]?=σ x)(r:∀g w',Ext w w'->w.heap.size<=g->af w' g c3 (nk x).bT->K (Γ g) w'):
  ac x7 (c7 nC e (Δ (i:Int))) w λs=>
  ac x7 (u5 c3 s) w λy=>
  aD x7 (Instr.alloc c3 true (.tuple #[])) w λa f=>
  aD x7 (o8 c3 a y) f λ(_:Unit)h=>K a h:=by
 refine nL (α:=lG) c3.p rfl nC.u c3.i q J λcs z=>?_;obtain rfl:=Rp z;refine bx c3.i λgy f F A B=>?_;refine ci (vs:=(nk x).bT) c3.i rfl rfl (gk.one _) B λh C G E=>?_;exact r _ _ (A.put C Ω) Ω E
theorem Rz{s:x1}{L:List lG}{m:Int}{K:x3->Prop}(h:lI w0 w ae gT ao n)(e:Seen fi w0 [s] L)(I:∀x∈L,(nk x).ok)(J:∀w',lI w0 w' ae gT ao n->K w'):
  ac x7 (W9 #[nC] ah #[s]) w λM=>
 ck (Δ 0) w λq a k=>
  ac x7 (aM .lss ah false false q M) a λN=>
  Split N (cu (α:=x3->Prop) (λ(z:x3)=>
   ac x7 (aM .add ah false true q (Δ 1)) z λO=>
   k O z) λA=>
  ac x7 (c7 nC s q) a λP=>
  ac x7 (u5 c3 P) a λQ=>
  aD x7 (Instr.alloc c3 true (.tuple #[])) a λb B=>
  aD x7 (o8 c3 b Q) B λ(_:Unit)r=>
  ac x7 (aM .lss ah false true q (Δ m)) r λR=>
  Split R (ac x7 (u5 c3 b) r λS=>
   am x7 vh [Γ ae,Γ ao,S] r λZ C=>
   A C)
   (A r))
   (K a):=by
 rw[jo nC.u (bW e h.1)];refine ck.range L.length (λi y=>lI w0 y ae gT ao n) (sC e) h ?_ ?_
 .rintro i y U hi f V;obtain⟨x,E⟩:=aJ (l:=L) hi;have W:=I x (x5 E);refine bM Ω ?_;refine da (λa=>lI w0 a ae gT ao n) (λa X=>by rw[aN];exact V _ X) λaA G=>?_;refine Ry (bW e f.1) E λgy B H _ Y=>?_;rw[aR,al];refine⟨λ_=>?_,λ_=>G _ (f.ext H)⟩;rw[bP c3.p c3.i rfl Y.range];exact((f.ext H).Rx W).mono λv C _ e=>G _ e
 .rintro y U f;exact cE Ω (J _ f)
end
theorem RA{N:Nat}{q:Λ}{f:bY}(a:e0 N f)(e:q.length<=300)(h:fj q=σ f):(cY (cR f)).funs.length<=100:=by
 have h1:=(py a).2.length_eq;have r:=(kC a).2.2;have s:=R3 fl (fc f);have w:=(Rg e h).2;have p:=(oa f (fm f).length).2.2.2;rw[q6]at p;have x:(cY (cR f)).funs.length=(cR f).funs.length:=r8 _;omega
def Fk(w:x3)(pl:Λ)(r:x1)(w':x3):Prop:=Ext w w'/\((∃cs:List x1,r= .tuple #[.pointer ν,.agg cs.toArray,.bool false]/\cs.length=8/\∀u∈cs,u.oneCell'=true)\/∃f ae gT ao Z aH s cs,r= .tuple #[Γ ae,.agg cs.toArray,.bool true]/\fj (pl.take 300)=σ f/\(cY (cR f)).funs.length<=100/\
 fz Z aH w' ae gT ao (cR f) s/\lJ [] Z aH w' ae gT ao (cR f) s s cs/\∀r,Z r->w.heap.size<=r)
theorem RB{p W:x1}{L:List lG}(aw:aI .u8 w p pl)(ax:∀b∈pl,0<=b/\b<256)(ay:Seen fi w [W] L)(aA:∀x∈L,(nk x).ok)(aB:e2 w)(C:Laid w):am x7 Gj [p,W] w (Fk w pl):=by
 have aY:=Fa C;refine az func8 ?_;refine bx a7.i λq V aZ y X=>?_;have a2:=X.lt;have a6:=y.size;refine(Fj (aw.ext y) ax (aB.ext y)).mono ?_;rintro _ aa _ ⟨E,a8,cs,ok,rfl,⟨G,H⟩,aC,_⟩;rw[fK,fL,fM];refine bx a7.i λao ba bb aE aF=>?_;refine ci (vs:=cs) a7.i G rfl H aF λY aG bc ab=>?_;have ad:Ext aa Y:=aE.put aG Ω;have I:=E.trans ad;have ah:=y.trans I;have bd:=E.size;have out:∀{a:x3}{z:List x1}{K:x1->x3->Prop},Ext V a->af a ao a7 z->z.length=8->(∀u∈z,u.oneCell'=true)->(∀e,ai (λr=>r=q) a e->K (.agg z.toArray) e)->
   ac x7 (u5 a7 (Γ ao)) a λt25=>aD x7 (o8 a7 (Γ q) t25) a λ(_:Unit)e=>ac x7 (do loadVar a7 (<-asAddr (Γ q))) e λr=>K r e:=λ{a z K}J aJ M aK aL=>by
  rw[bP a7.p a7.i M aJ.range];refine ci (vs:=z) a7.i M rfl aK (X.ext J) λe O be aM=>?_;rw[fJ a7.p a7.i M aM.range];exact aL _ O
 have no:∀{e:x3},(∃a,Ext Y a/\ai (λr=>r=q) a e)->Fk w pl (.tuple #[.pointer ν,.agg cs.toArray,.bool false]) e:=λ⟨a,aN,aO⟩=>⟨(ah.trans aN).then aO λr B h=>by have h:r=q:=h;omega,.inl ⟨cs,rfl,G,H⟩⟩;rcases aC with⟨rfl,rfl⟩|⟨rfl,f,ag,aj⟩
 .rw[bH,W7,bR];intro aP P _ _;exact out (I.trans P) (ab.ext P) G H λe O=>no ⟨aP,P,O⟩
 have aQ:(cY (cR f)).funs.length<=100:=by
  obtain⟨_,_,_,_,_,N,_,_,aR,_⟩:=id aj;exact RA aR (by rw[n9];omega) ag
 obtain⟨ae,gT,Z,aH,rfl,aS,aT⟩:=Rj aj ad ab Ω E.size (Fa (C.ext y)) (C.ext ah);rw[bH,X1,a1];refine Rz (w0:=V) ⟨I,_,Z,aH,aS,aT⟩ (bW ay y) aA λbf aU=>?_;obtain⟨ak,s,al,aV,aW,an⟩:=aU;intro bg Q _ _;have ap:=aW.ext Q;obtain⟨S,aq,aX⟩:=ap.ds;have au:S.length=8/\∀u∈S,u.oneCell'=true:=by
  obtain⟨A,R,A9,t,p,_⟩:=id aq;exact cc.len p.doc
 have av:∀r,al r->¬r=q:=λr B h=>by have:=an r B;omega
 refine out (ak.trans Q) aX au.1 au.2 λbh U=>⟨((y.trans ak).trans Q).then U λr B h=>by have h:r=q:=h;omega,.inr ⟨f,ae,gT,ao,al,aV,s,S,rfl,ag,aQ,ap.side U av (λh=>by have h:0=q:=h;omega),aq.side U av (λh=>by have h:0=q:=h;omega),λr B=>by have:=an r B;omega⟩⟩
def kT:Λ:=[116,32,49,32,50,32,49,32,57,32,50,32,49,32,48,32,48,32,50,32,48,32,49,32,49,32,50]
def hn:bY:=⟨[116],9,[2],[⟨[0],[2],0,[([0],1),([1],2)]⟩]⟩
theorem RC:fj kT=σ hn:=by
 have h:(match fj kT with
  |some f=>decide (f.name=hn.name/\f.k=hn.k/\f.sizes=hn.sizes)&&decide (f.funs.map (λx=>(x.scope,x.sizes,x.other,x.lines))=hn.funs.map λx=>(x.scope,x.sizes,x.other,x.lines))
  |none=>false)=true:=by decide+kernel
 cases q:fj kT with
 |none=>rw[q]at h;cases h
 |some f=>
  rw[q]at h;simp only[V7,decide_eq_true_eq]at h;obtain⟨⟨h1,r,s⟩,e⟩:=h;obtain⟨nm,k,y,p⟩:=f;simp only at h1 r s e;subst h1;subst r;subst s;have:p=hn.funs:=by
   have w:p.length=1:=by have:=congrArg S3 e;simpa[hn]using this
   match p,w with
   |[x],_=>
    obtain⟨a,b,c,d⟩:=x;simp[hn]at e;obtain⟨rfl,rfl,rfl,rfl⟩:=e;rfl
  subst this;rfl
theorem RD:iS hn.funs<=16384:=by decide+kernel
def Fl(a:c6):Int×Int×Int×Int:=(a.eW,a.i,a.j,a.v)
theorem RE:gE (cR hn) (cY (cR hn)) 1=[⟨1,0,-1,-1⟩]:=by
 have h:(gE (cR hn) (cY (cR hn)) 1).map Fl=[(1,0,-1,-1)]:=by decide+kernel
 generalize gE (cR hn) (cY (cR hn)) 1=l at h;have e:l.length=1:=by have:=congrArg S3 h;simpa using this
 match l,e with
 |[⟨a,b,c,d⟩],_=>
  simp[Fl]at h;obtain⟨rfl,rfl,rfl,rfl⟩:=h;rfl
def rJ:c6:=⟨1,0,-1,-1⟩
theorem RF{g1 r:Nat}{f p:x1}(h1:h7 w g1 f [rJ])(q:h7 w r p [rJ]):am x7 Gr [f,p] w λv w'=>v= .bool true/\Ext w w':=by
 refine az func19 ?_;rw[ee dA.u h1,ee dA.u q,bC,al];refine⟨λh=>absurd rfl h,λ_=>?_⟩;rw[ee dA.u h1];refine cb.range 1 (λ_ _ V=>Ext w V) Ω (Ext.refl _) ?_ ?_
 .rintro i t4 V k hi a hk;refine bM Θ ?_;intro aa s _ _;have e:=a.trans s;obtain rfl:i=0:=Ω
  rw[ub (h1.ext e) rfl,ub (q.ext e) rfl];have x:∀{y:x3}{K:x1->Prop},ac x7 (aM .neq dc false false (.agg (fV rJ).toArray) (.agg (fV rJ).toArray)) y K=K (.bool false):=ac.of λw' _=>Ψ
  rw[x,a1,aN];exact hk _ _ e
 .rintro t4 V k a;refine cE Ξ ?_;exact⟨rfl,a⟩
theorem RG:(cY (cR hn)).funs.length<=160:=by decide+kernel
theorem RH(I:e2 w)(J:Laid w):am x7 Gi [] w λv w'=>v= .bool true/\Ext w w':=by
 refine az func7 ?_;refine kq (k:=1) (cs:=(ints .u8 kT).toArray) cN.u cI.i Ω Ψ λg V aC e p=>?_;have s:av .u8 cI V g (.slice (σ ⟨g,0,ν⟩) 27 27) kT:=av.of (n:=27) (bV.full (by simpa using p) (by simp[kT]) (by simp[maxLen]));refine Qs p λq x z=>?_;have e:Ext w q:=e.put x Ω;have K:aI .u8 q (.slice (σ ⟨g,0,ν⟩) 27 27) kT:=by
  obtain⟨L,b,o,base,cap,O,P,Q,S,U⟩:=s.ls;cases O;cases S (by simp[kT]);exact⟨L,g,0,_,27,rfl,P,Q,λ_=>rfl,z _ _ U⟩
 clear s p z x;refine(Fj K (by intro b W;simp[kT]at W;omega) (I.ext e)).mono ?_;rintro _ aa _ ⟨X,Y,cs,ok,rfl,⟨Z,ab⟩,ac,ad⟩;have B:fj (kT.take 300)=σ hn:=by
  rw[b6 Φ];exact RC
 have af:ok=true:=ad hn B RD;subst af;obtain⟨f,ag,ae,gT,A,R,t,N,A9,aH,aD,rfl,ah,_⟩:∃f,fj (kT.take 300)=σ f/\uq q.heap.size aa Y cs f:=by
  rcases ac with⟨h,_⟩|⟨_,h⟩
  .cases h
  .exact h
 rw[B]at ag;cases ag;have ai:=e.trans X;rw[fK,fL,fM];refine bx a7.i λao aE aF aj ak=>?_;refine ci (vs:=cs) a7.i Z rfl ab ak λan ap aG aJ=>?_;have C:Ext aa an:=aj.put ap Ω;have E:=ai.trans C;refine(uc (level:=1) (ah.ext C) (J.ext E) RG).mono ?_;rintro r aK _ ⟨aq,_,au⟩;obtain⟨v,aY,M,rfl,hm,G,_⟩:=au Ω;rw[RE]at G;obtain rfl:=List.perm_singleton.1 G;rw[bm,bn];refine aV (λv aw=>v= .bool true/\Ext w aw) (λ_ _ h=>h) λaA ax=>?_;rw[bR,be,al];refine⟨λ_=>?_,λh=>absurd rfl h⟩;rw[cW (cs:=#[Δ 1,Δ 0,Δ (-1),Δ (-1)]) Ψ];refine hE (f:=fV) (a:=rJ) dA.u dc.i Ω rfl rfl λy gy aL aM H ay=>?_;refine(RF (hm.ext H) ay).mono ?_;rintro _ aN _ ⟨rfl,aB⟩;exact ax _ _ ⟨rfl,((E.trans aq).trans H).trans aB⟩
section
variable{n:aF}{s:aq}
def Fm(n:aF)(s:aq)(q:Nat):Prop:=q<=4/\gE n s (q:Int)=[]/\(q<4->gE n s ((q:Int)+1)≠[])
end
theorem RI{k:Int}{of:Int->Int}{l:Λ}(e:l≠[]):∃v∈l,eK k l of=(of v,v):=by
 have key:∀(l:Λ)(p:Int×Int),l.foldl (gD of) p=p\/∃v∈l,l.foldl (gD of) p=(of v,v):=λl=>by
  induction l with
  |nil=>exact λp=>.inl rfl
  |cons a l f=>
   intro p;rw[S1];rcases f (gD of p a)with h|⟨v,ad,h⟩
   .rw[h];unfold gD;split
    .exact .inr ⟨a,.head _,rfl⟩
    .exact .inl rfl
   .exact .inr ⟨v,.tail _ ad,h⟩
 cases l with
 |nil=>exact absurd rfl e
 |cons a l=>
  unfold eK;rw[S1,show gD of (k,-1) a=(of a,a) by unfold gD;rw[if_pos (.inl rfl)]];rcases key l (of a,a)with h|⟨v,ad,h⟩
  .exact⟨a,.head _,h⟩
  .exact⟨v,.tail _ ad,h⟩
section
variable{n:aF}{s:aq}
theorem RJ{i:Nat}(h:rB n s)(hi:i<n.sizes.length)(f:hK s i=false):(∃v∈bk s (i:Int),eV n s (i:Int) v=0)/\∀v∈bk s (i:Int),s.zero+eV n s (i:Int) v<n.k:=by
 obtain⟨h1,a,p⟩:=h i hi (by rw[u7];exact f);obtain⟨v,ad,e⟩:=RI (k:=n.k) (of:=eV n s (i:Int)) h1;refine⟨⟨v,ad,?_⟩,λv ad=>?_⟩
 .have a:(eK n.k (bk s (i:Int)) (eV n s (i:Int))).1=0:=a;rw[e]at a;exact a
 .have:=p v ad;unfold dp at this;omega
end
section
variable{w:x3}{ae gT:Nat}{A R:aj}{n:aF}{s:aq}{t:aC}
theorem RK(h:bw w ae gT A R n s t)(z:Laid w)(B:s.funs.length<=160):am x7 Gm [Γ ae] w λr w'=>Ext w w'/\∃q:Nat,r=Δ (q:Int)/\Fm n s q:=by
 have C:=h.2.2.2.1;refine az func13 ?_;refine aV (λv w'=>Ext w w'/\∃q:Nat,v=Δ (q:Int)/\Fm n s q) (λ_ _ h=>h) λaA p=>?_;refine ck.range 4 (λl V=>Ext w V/\gE n s ((l:Nat):Int)=[]) Ω ⟨Ext.refl _,Rn C⟩ ?_ ?_
 .rintro l V E H ⟨a,hw⟩ G;refine bM Ω ?_;rw[aN,wrap_i64 Ω Ω];refine(PP (level:=(l:Int)+1) (h.ext a) (z.ext a) B).mono ?_;rintro _ I _ ⟨x,_,f⟩;obtain rfl:=f ⟨Ω,Ω⟩;rw[bm,bn,bH,b2];refine⟨λy=>p _ _ ⟨a.trans x,l,rfl,Ω,hw,λ_ e=>by rw[decide_eq_true e]at y;cases y⟩,λf=>?_⟩;rw[Bool.not_eq_false',decide_eq_true_eq]at f;rw[aN];exact G _ ⟨a.trans x,f⟩
 .rintro V E ⟨a,hw⟩;refine cE Ω ?_;exact p _ _ ⟨a,4,rfl,Ω,hw,λh=>Ω⟩
end
theorem RL{p aO:x1}{L:List lG}{Q:x1->x3->Prop}(G:∀w',Ext w w'->Q (.bool true) w')(W:aI .u8 w p pl)(bd:∀b∈pl,0<=b/\b<256)(bf:Seen fi w [aO] L)(X:∀x∈L,(nk x).ok)(aP:e2 w)(aQ:Laid w):
  am x7 zk [p,aO] w Q:=by
 refine az func5 ?_;refine(RH aP aQ).mono ?_;rintro _ V _ ⟨rfl,H⟩;rw[bH,X1,a1];refine(RB (W.ext H) bd (bW bf H) X (aP.ext H) (aQ.ext H)).mono ?_;rintro _ aa _ ⟨bh,bi⟩;have aS:=H.trans bh;rcases bi with⟨cs,rfl,bj,bk⟩|⟨f,ae,gT,bQ,Z,aH,s,cs,rfl,ag,bl,Y,N,_⟩
 .rw[fK,fL,fM];refine bx a7.i λao bo bp ab ac=>?_;refine ci (vs:=cs) a7.i bj rfl bk ac λB af bq aU=>?_;rw[bH,W7,bR,de db.u];exact G _ (aS.trans (ab.put af Ω))
 rw[fK,fL,fM];have z:cs.length=8/\∀u∈cs,u.oneCell'=true:=by
  obtain⟨A,R,A9,t,O,_⟩:=id N;exact cc.len O.doc
 refine bx a7.i λao bo bp ab ac=>?_;refine ci (vs:=cs) a7.i z.1 rfl z.2 ac λB af bq aU=>?_;have ai:Ext aa B:=ab.put af Ω;have br:=aS.trans ai;rw[bH,X1,a1];have bt:nb B ao (cR f).k (cR f).sizes s:=kc.box (N.ext ai).ok.2 (Ext.refl _) aU;obtain⟨e,bS,aj,_⟩:=Y.ok;have bT:rI s:=Y.live.1;obtain⟨A,R,A9,t,O,⟨ak,_⟩,_⟩:=N.ext ai;have ap:=O.e6;have aq:s.funs.length<=160:=by have:=aj.funs;omega
 have G:∀w',Ext B w'->Q (.bool true) w':=λw' J=>G w' (br.trans J);clear N Y O ag bl;generalize cR f=n at*;have bU:=e.vars;have bV:=e.fq.2.1;have bX:=e.ew;obtain⟨szv,bY,bZ,b0,b1,b3,C,bu,_,bw,b4,aW,b5,b6⟩:=id bt;refine(RK ap ak aq).mono ?_;rintro _ b7 _ ⟨E,q,rfl,aZ⟩;rw[be,al];refine⟨λbz=>?_,λbz=>?_⟩
 .have hw:gE n s 1≠[]:=by
   obtain rfl:q=0:=Ω
   exact aZ.2.2 Ω
  refine(uc (level:=1) (ap.ext E) (ak.ext E) aq).mono ?_;rintro _ b8 _ ⟨bA,_,av⟩;obtain⟨v,aY,M,rfl,hm,aw,_⟩:=av ⟨Ω,Ω⟩;have z:=aw.length_eq;have:0<(gE n s 1).length:=List.length_pos_iff.2 hw;rw[bm,bn,ee dA.u hm,bL,decide_eq_true Ω];exact G _ (E.trans bA)
 have ax:rB n s:=(Fe e).1 (Ro e (show(1:Int)<=q by omega) aZ.2.1);rw[aT a7.p 1 (C.ext E) rfl,aX an.u (bu.ext E)];refine cb.range n.sizes.length (λi _ P=>Ext B P) Ω E ?_ ?_
 .rintro i t4 P bB hi y bC;obtain⟨x,J⟩:=aJ (l:=s.vars) (i:=i) Ω;have X:hK s i=false:=by unfold hK;rw[J];simp[Fh aj J]
  obtain⟨⟨v0,aB,bD⟩,a2⟩:=RJ ax hi X;rw[Rv J]at aB a2;refine bM Ω ?_;rw[aT a7.p 3 (C.ext y) rfl];refine k6 (α:=Λ) (a:=aG x) (i:=i) rfl rfl dz.u an.i Ψ (bW bw y) (by rw[x8,J];rfl) λb9 bE=>?_;have aC:=eD bE;rw[aX an.u aC];refine nr.range (aG x).length (λp _ fr S=>Ext P S/\fr= .bool (((aG x).take p).any λv=>decide (x.un.getD v.toNat 0=0))) aC.le ⟨Ext.refl _,rfl⟩ ?_ ?_
  .rintro p t5 _ S bF W ⟨I,rfl⟩ bG;obtain⟨v,ad⟩:=aJ (l:=aG x) W;have aD:=x5 ad;have bI:=(h8.1 aD).1;have a6:=Fi e J aD;have a8:=a2 v aD;rw[a6]at a8;obtain⟨K,rfl⟩:=U8 bI.1;rw[u7]at a8 a6;have ca:=hN (v:=K) e J;have cd:=e.zero;have aE:=y.trans I;have bJ:((aG x).take (p+1)).any (λv=>decide (x.un.getD v.toNat 0=0))=(((aG x).take p).any (λv=>decide (x.un.getD v.toNat 0=0))||decide (x.un.getD K 0=0)):=by
    rw[u9,ad,List.any_append];simp
   refine bM Ω ?_;rw[bg an.u ah.i Ψ (aC.ext I) ad];refine aV (λr ba=>ba=S/\r= .bool (((aG x).take p).any (λv=>decide (x.un.getD v.toNat 0=0))||decide (x.un.getD K 0=0))) ?_ λaA U=>?_
   .rintro _ ba ⟨rfl,rfl⟩;intro ce bb _ _;have bc:=aE.trans bb;have aF:=C.ext bc;rw[aT a7.p 2 aF rfl,aT a7.p 5 aF rfl];refine k6 (α:=Λ) (a:=x.un) (i:=i) rfl rfl ek.u ay.i Ψ (bW aW bc) (by rw[x8,J];rfl) λbK aK=>?_;rw[bg ay.u au.i Ψ (eD aK) (getD_some (i:=K) Ω),aN,wrap_i64 Ω Ω,aT a7.p 0 aF rfl,cM,al];refine⟨λh=>absurd h Ω,λ_=>?_⟩;rw[aN];exact bG _ _ _ ⟨I.trans bb,by rw[bJ]⟩
   .rw[b2];refine⟨λaL=>U _ _ ⟨rfl,by rw[aL,Bool.true_or]⟩,λag=>?_⟩;rw[aT a7.p 5 (C.ext aE) rfl];refine k6 (α:=Λ) (a:=x.un) (i:=i) rfl rfl ek.u ay.i Ψ (bW aW aE) (by rw[x8,J];rfl) λbK aK=>?_;rw[bg ay.u au.i Ψ (eD aK) (getD_some (i:=K) Ω),be];exact U _ _ ⟨rfl,by rw[ag,Bool.false_or]⟩
  .rintro t5 _ S bF ⟨I,rfl⟩;refine cE Ω ?_;have aL:((aG x).take (aG x).length).any (λv=>decide (x.un.getD v.toNat 0=0))=true:=by
    rw[o7,List.any_eq_true];exact⟨v0,aB,decide_eq_true (by rw[<-Fi e J aB];exact bD)⟩
   rw[aL,bH,X1,a1,aN];exact bC _ _ (y.trans I)
 .rintro t4 P bB y;refine cE Ω ?_;have bN:=(Fe e).2 ax;refine(uc (level:=1) (ap.ext y) (ak.ext y) aq).mono ?_;rintro _ cg _ ⟨bO,_,av⟩;obtain⟨v,aY,M,rfl,hm,aw,_⟩:=av ⟨Ω,Ω⟩;have z:=aw.length_eq;rw[bN]at z;have z:M.length=0:=z;rw[bm,bn];refine aV (λv w'=>v= .bool true/\Ext B w') (λv w' h=>by rw[h.1];exact G _ h.2) λaA U=>?_;rw[ee dA.u hm,be,al];refine⟨λ_=>?_,λh=>absurd Ω h⟩;have aM:=y.trans bO;have ch:=e.fq.1;obtain⟨x,J⟩:=aJ (l:=s.vars) (i:=0) Ω;have bP:=Qn (i:=0) e ax Ω (by unfold hK;rw[J];simp[Fh aj J]);rw[aT a7.p 2 (C.ext aM) rfl,aT a7.p 0 (C.ext aM) rfl,aR,decide_eq_true bP];exact U _ _ ⟨rfl,aM⟩
theorem RM{p a:x1}{L:List lG}(e:aI .u8 w p pl)(f:∀b∈pl,0<=b/\b<256)(h:Seen fi w [a] L)(q:∀x∈L,(nk x).ok)(r:e2 w)(s:Laid w):
  am x7 zk [p,a] w λv w'=>v= .bool true/\Ext w w':=RL (λw' J=>⟨rfl,J⟩) e f h q r s
end Go.Proofs.YtikkpokkcdocoabGreatDoor
