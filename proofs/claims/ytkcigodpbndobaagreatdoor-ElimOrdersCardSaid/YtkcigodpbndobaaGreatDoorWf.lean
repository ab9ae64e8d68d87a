/- own texts, made small by a tool (wip/ holds them as they were written): no statement of the seat. -/
import Derived.Test.YtkcigodpbndobaaGreatDoorWe
set_option linter.unusedVariables false
set_option linter.unusedSimpArgs false
set_option linter.unnecessarySimpa false
open Array renaming getElem?_eq_some_iff→Z5
open Bool renaming false→rs,true→ro,not_true→Y6,not_false→X4,true_and→V8,and_eq_true→V9
open Decidable renaming not_not→Z6
open Go renaming Value→x1,World→x3,TypeId→r9,IntKind→o5,FuncId→Q2
open Go.Builtin renaming len_→W0
open Go.Instr renaming loadAt→u4,fieldAt→u6,storeAt→o7,indexAt→j4,extract→c8,alloc→S5
open Go.IntKind renaming i64→Y7,u64→U2
open Go.Proofs.Tryz renaming prog→x7
open Go.Value renaming cells→T9
open Int renaming toNat_natCast→u9,eq_ofNat_of_zero_le→T0
open List renaming getElem?_eq_some_iff→x4,mem_of_getElem?→x5,getElem?_eq_getElem→x6,getElem?_map→x8,getD_eq_getElem?_getD→u5,take_add_one→u7,replicate→r8,length_append→p8,length_map→o4,take_length→o6,mem_map→o8,mem_append→o9,take_of_length_le→n9,map_append→l7,ext_getElem?→j5,length_take→c7,mem_iff_getElem?→c9,mem_singleton→b8,eq_nil_of_length_eq_zero→Z0,range→Z2,getElem?_set_self→Z3,length_cons→Y3,getElem?_set→Y4,drop_eq_getElem_cons→X1,getElem?_set_ne→X3,length_eq_one_iff→X6,pairwise_iff_getElem→X9,append_nil→V1,map_set→V3,mem_range→V7,mem_of_mem_take→U1,map_cons→U3,mem_filter→U8,length_singleton→T4,mem_cons→T5
open Nat renaming le_refl→p9,le_trans→Y2,zero_le→X7,zero_add→W7,mul_one→V0,pow_le_pow_right→T6,add_mul→T7
open Option renaming toList_some→l9,isNone_some→j0,some→b9,map_eq_some_iff→Y0,isSome_some→S9,isSome_none→R3
open Option.some renaming inj→Z7,injEq→Y8
open Prod.mk renaming injEq→T2
set_option maxHeartbeats 16000000
open Option renaming some→σ,none→ν
variable{a d j l most:Nat}{I J V w:x3}{v:Int}{cs sc:Λ}
namespace Go.Proofs.YtkcigodpbndobaaGreatDoor
open Go Go.Vc Go.RowKit Go.Proofs Go.Proofs.Tryz
set_option maxRecDepth 100000
theorem tK(h e:Nat)(f:l<256)(hm:a<256):(256*h+l) &&& (256*e+a)=256*(h &&& e)+(l &&& a):=by
 have j:l &&& a<2 ^ 8:=Nat.and_lt_two_pow _ hm;apply Nat.eq_of_testBit_eq;intro i;rw[Nat.testBit_and,show 256=2 ^ 8 from rfl,Nat.testBit_two_pow_mul_add _ f,Nat.testBit_two_pow_mul_add _ hm,Nat.testBit_two_pow_mul_add _ j]
 grind
def iK(m x:Nat):Nat:=(x / 2 &&& m)+(x &&& m)
def jt(m x:Nat):Nat:=(x / 4 &&& m)+(x &&& m)
def lF(m x:Nat):Nat:=(x / 16+x) &&& m
def cY(a:Nat):Nat:=lF 15 (jt 51 (iK 85 a))
theorem TJ:∀e<2,∀l<256,(128*e+l / 2) &&& 85=l / 2 &&& 85:=by decide+kernel
theorem TK:∀e<4,∀l<256,(64*e+l / 4) &&& 51=l / 4 &&& 51:=by decide+kernel
theorem TL:∀e<5,∀l<69,(16*e+l / 16+l) &&& 15=(l / 16+l) &&& 15:=by decide+kernel
theorem po:∀l<256,iK 85 l<256/\jt 51 (iK 85 l)<69/\jt 51 (iK 85 l) % 16<5/\cY l<=8/\(cY l=0->l=0):=by decide+kernel
theorem wM(h a:Nat)(e:l<256):iK (256*a+85) (256*h+l)=256*iK a h+iK 85 l:=by
 unfold iK;rw[show(256*h+l) / 2=256*(h / 2)+(128*(h % 2)+l / 2) by omega,tK _ _ Ω Ω,tK _ _ e Ω,TJ _ Ω _ e];omega
theorem wN(h a:Nat)(e:l<256):jt (256*a+51) (256*h+l)=256*jt a h+jt 51 l:=by
 unfold jt;rw[show(256*h+l) / 4=256*(h / 4)+(64*(h % 4)+l / 4) by omega,tK _ _ Ω Ω,tK _ _ e Ω,TK _ Ω _ e];omega
theorem wO(h a:Nat)(e:l<69)(he:h % 16<5):lF (256*a+15) (256*h+l)=256*lF a h+lF 15 l:=by
 unfold lF;rw[show(256*h+l) / 16+(256*h+l)=256*(h / 16+h)+(16*(h % 16)+l / 16+l) by omega,tK _ _ Ω Ω,TL _ he _ e]
def four(a b c d:Nat):Nat:=256*(256*(256*d+c)+b)+a
theorem TM{b c:Nat}(e:a<256)(f:b<256)(h:c<256)(j:d<256):iK 6148914691236517205 (four a b c d)=four (iK 85 a) (iK 85 b) (iK 85 c) (iK 85 d):=by
 unfold four;rw[show 6148914691236517205=256*(256*(256*(256*1431655765+85)+85)+85)+85 from rfl,wM _ _ e,wM _ _ f,wM _ _ h];have:=wM 0 1431655765 j
 grind [iK]
theorem TN{b c:Nat}(e:a<256)(f:b<256)(h:c<256)(j:d<256):jt 3689348814741910323 (four a b c d)=four (jt 51 a) (jt 51 b) (jt 51 c) (jt 51 d):=by
 unfold four;rw[show 3689348814741910323=256*(256*(256*(256*858993459+51)+51)+51)+51 from rfl,wN _ _ e,wN _ _ f,wN _ _ h];have:=wN 0 858993459 j
 grind [jt]
theorem TO{b c:Nat}(e:a<69)(f:b<69/\b % 16<5)(h:c<69/\c % 16<5)(j:d<69/\d % 16<5):lF 1085102592571150095 (four a b c d)=four (lF 15 a) (lF 15 b) (lF 15 c) (lF 15 d):=by
 unfold four;rw[show 1085102592571150095=256*(256*(256*(256*252645135+15)+15)+15)+15 from rfl,wO _ _ e Ω,wO _ _ f.1 Ω,wO _ _ h.1 Ω];have:=wO 0 252645135 j.1 Ω
 grind [lF]
def tL(x:Nat):Nat:=cY (x % 256)+cY (x / 256 % 256)+cY (x / 65536 % 256)+cY (x / 16777216)
theorem TP{x:Nat}(h:x<4294967296):tL x=0↔x=0:=by
 constructor
 .intro a;unfold tL at a;have h1:=(po (x % 256) Ω).2.2.2.2 Ω;have e:=(po (x / 256 % 256) Ω).2.2.2.2 Ω;have f:=(po (x / 65536 % 256) Ω).2.2.2.2 Ω;have j:=(po (x / 16777216) Ω).2.2.2.2 Ω;omega
 .rintro rfl;decide
theorem TQ{x:Nat}(ag:x<4294967296):aj x7 Ls [.int .u64 (x:Int)] w λv I=>v=Δ (tL x:Int)/\Ext w I:=by
 obtain⟨a,b,c,d,E,G,H,J,e,ah,ai,ak,al⟩:∃a b c d,a<256/\b<256/\c<256/\d<256/\x=four a b c d/\a=x % 256/\b=x / 256 % 256/\c=x / 65536 % 256/\d=x / 16777216:=
  ⟨x % 256,x / 256 % 256,x / 65536 % 256,x / 16777216,Ω,Ω,Ω,Ω,by grind [four],rfl,rfl,rfl,rfl⟩
 obtain⟨N,O,a3,a4,_⟩:=po a E;obtain⟨P,Q,R,am,_⟩:=po b G;obtain⟨S,U,V,an,_⟩:=po c H;obtain⟨d1,d2,d3,d4,_⟩:=po d J;have g1:=TM E G H J;have W:=TN N P S d1;have X:=TO O ⟨Q,R⟩ ⟨U,V⟩ ⟨d2,d3⟩;have Y:tL x=cY a+cY b+cY c+cY d:=by grind [tL]
 rw[<-e]at g1;have Z:iK 6148914691236517205 x<4294967296:=by grind [four]
 have L:jt 3689348814741910323 (iK 6148914691236517205 x)<4294967296:=by grind [four]
 have A:lF 1085102592571150095 (jt 3689348814741910323 (iK 6148914691236517205 x))=four (cY a) (cY b) (cY c) (cY d):=by rw[g1,W,X];rfl
 have aa:four (cY a) (cY b) (cY c) (cY d)<4294967296:=by grind [four]
 refine az func294 ?_;have s:∀{t:r9}{cx cy:Bool}{K:x1->Prop}(p q:Nat),p+q<18446744073709551616->ab x7 (aO .add t cx cy (.int .u64 (p:Int)) (.int .u64 (q:Int))) w K=K (.int .u64 ((p+q:Nat):Int)):=λp q h=>by
  rw[aM,lw Ω Ω];rfl
 have small:∀(p m:Nat),p &&& m<=p:=λp m=>Nat.and_le_left;rw[show(1:Int)=((1:Nat):Int)from rfl,mQ Ω,show(6148914691236517205:Int)=((6148914691236517205:Nat):Int)from rfl,u64_and Ω Ω,u64_and Ω Ω,s (x / 2 ^ 1 &&& 6148914691236517205) (x &&& 6148914691236517205) (by grind)];obtain⟨y,B⟩:∃y,(x / 2 ^ 1 &&& 6148914691236517205)+(x &&& 6148914691236517205)=y:=⟨_,rfl⟩;rw[B];have B:iK 6148914691236517205 x=y:=B;rw[B]at Z L A;rw[show(2:Int)=((2:Nat):Int)from rfl,mQ Ω,show(3689348814741910323:Int)=((3689348814741910323:Nat):Int)from rfl,u64_and Ω Ω,u64_and Ω Ω,s (y / 2 ^ 2 &&& 3689348814741910323) (y &&& 3689348814741910323) (by grind)];obtain⟨z,C⟩:∃z,(y / 2 ^ 2 &&& 3689348814741910323)+(y &&& 3689348814741910323)=z:=⟨_,rfl⟩;rw[C];have C:jt 3689348814741910323 y=z:=C;rw[C]at L A;rw[show(4:Int)=((4:Nat):Int)from rfl,mQ Ω,s (z / 2 ^ 4) z Ω,show(1085102592571150095:Int)=((1085102592571150095:Nat):Int)from rfl,u64_and Ω Ω];have A:z / 2 ^ 4+z &&& 1085102592571150095=four (cY a) (cY b) (cY c) (cY d):=A;rw[A];obtain⟨j,M⟩:∃j,four (cY a) (cY b) (cY c) (cY d)=j:=⟨_,rfl⟩;rw[M]at aa ⊢;unfold four at M;rw[show(8:Int)=((8:Nat):Int)from rfl,mQ Ω,s j (j / 2 ^ 8) Ω];obtain⟨r,ac⟩:∃r,j+j / 2 ^ 8=r:=⟨_,rfl⟩;rw[ac];rw[show(16:Int)=((16:Nat):Int)from rfl,mQ Ω,s r (r / 2 ^ 16) Ω];obtain⟨f,ad⟩:∃f,r+r / 2 ^ 16=f:=⟨_,rfl⟩;rw[ad];rw[show(32:Int)=((32:Nat):Int)from rfl,mQ Ω,s f (f / 2 ^ 32) Ω,e1 fN.u ae.u,lm Ω Ω,show(127:Int)=((127:Nat):Int)from rfl,FX Ω Ω];refine⟨?_,Ext.refl _⟩;rw[Y,show 127=2 ^ 7-1 from rfl,Nat.and_two_pow_sub_one_eq_mod];have ao:j / 2 ^ 8=65536*cY d+256*cY c+cY b:=Ω
 have ap:r / 2 ^ 16=256*cY d+(cY c+cY d):=Ω
 have aq:f / 2 ^ 32=0:=Ω
 have au:f=128*(131072*cY d+512*(cY c+cY d)+2*(cY b+cY c+cY d))+(cY a+cY b+cY c+cY d):=Ω
 have af:(f+f / 2 ^ 32) % 2 ^ 7=cY a+cY b+cY c+cY d:=Ω
 rw[af]
theorem ec{b n:Nat}(a:mR b n):aj x7 K8 [ka b n] w λr I=>(∃q:Int,r=Δ q/\(q=0↔b=0))/\Ext w I:=by
 have e:b<4294967296:=by
  have:=a.2;have:(2:Nat) ^ n<=2 ^ 32:=T6 Ω a.1;omega
 refine az func253 ?_;refine bm λg J s f h=>?_;rw[aQ b3.p 0 h rfl];refine(TQ e).X ?_;rintro _ V _ ⟨rfl,j⟩;refine⟨⟨_,rfl,?_⟩,f.F j⟩
 grind [TP]
def qF(an:List av)(w:x3)(ac ad:Nat)(A R:ah)(n:aD)(s:am)(a:ja)(r:x1)(I:x3):Prop:=r=Δ (cK n.k s a).2/\dp an w ac ad A R n (cK n.k s a).1 I
section
variable{an:List av}{w:x3}{ac ad:Nat}{A R:ah}{n:aD}{s:am}{t:av}{a:ja}
theorem dp.same(h:bd w ac ad A R n s t)(a:Laid w)(e:¬A 0)(f:cV an t)(j:Ext w I):dp an w ac ad A R n s I:=(fz.start (m:=w.heap.size) (D:=λ_=>False) h a e f j (p9 _)).done (Ext.refl _)
theorem dp.before{s':am}(a:Ext w J)(h:dp an J ac ad A R n s' I):dp an w ac ad A R n s' I:=by
 obtain⟨h1,e,aH,t',f,j⟩:=h;exact⟨gA a h1,e,aH,t',(Grow.W a).F f,j⟩
theorem z8{j pos u:Int}{f:bH}{x:bs}(h:eU s j pos v=σ (f,u,x)):∃p e u':Nat,j=p/\pos=e/\u=u'/\s.d7[p]?=σ f/\f.live≠0/\f.sc[e]?=σ (u':Int)/\s.d6[u']?=σ x/\v∈aL x/\∀q,f.sc[e]?=σ q->v∈cZ s q:=by
 obtain⟨h1,z,A,B,a,C⟩:=pd h;obtain⟨E,r,F,w⟩:=mj C;obtain⟨j,rfl⟩:=T0 h1;obtain⟨pos,rfl⟩:=T0 z;obtain⟨u,rfl⟩:=T0 E;refine⟨j,pos,u,rfl,rfl,rfl,A,B,a,r,w,λu' y=>?_⟩;have a:f.sc[pos]?=σ (u:Int):=a;rw[a]at y;cases y;unfold cZ;rw[r];exact w
theorem TR(hk:a.kind=0)(h:bd w ac ad A R n s t)(z:Laid w)(E:¬A 0)(G:cV an t):aj x7 Ke [Γ ac,Δ a.i,Δ a.pos,Δ a.v,Δ a.c] w (qF an w ac ad A R n s a):=by
 have L:=h.2.2.2.1;refine az func169 ?_;refine(Hc h).X ?_;rintro _ J _ ⟨y,u,e,rfl,q⟩;rw[bo,bp];have p:cK n.k s a=match eU s a.i a.pos a.v with
  |none=>(s,1)
  |some (f,u,x)=>if eg n.k a.c (oh n.k s f a.pos.toNat a.v)≠0 then(s,eg n.k a.c (oh n.k s f a.pos.toNat a.v))else(kk s a.i.toNat f a.pos.toNat u.toNat x a.v (λg=>dV n.k g a.c) λg=>dW n.k g a.c,0):=by unfold cK;rw[m3 hk]<;>cases eU s a.i a.pos a.v<;>rfl
 rcases q with⟨rfl,f,x,q⟩|⟨rfl,q⟩
 rotate_left
 .rw[q]at p;rw[bJ,ai];exact⟨λ_=>⟨by rw[p],by rw[p];exact dp.same h z E G y⟩,λh=>m6 Φ h⟩
 rw[q]at p;rw[bJ,ai];refine⟨λh=>m6 rfl h,λ_=>?_⟩;obtain⟨j,pos,u,W,X,Y,H,M,Z,N,aa,ab⟩:=z8 q;have ae:=x5 H;simp only[W,X,Y,u9]at p ⊢;refine(Tx (j:=j) (pos:=pos) (h.W y) (z.W y) H M ab).X ?_;rintro _ V _ ⟨rfl,O⟩;refine(wH (h.W (y.F O))).X ?_;rintro _ al _ ⟨af,rfl⟩;have B:=(y.F O).F af;refine dk (λI=>dp an w ac ad A R n (cK n.k s a).1 I) ?_ λay P=>?_
 .intro I ag;refine⟨?_,ag⟩;rw[p];split
  .rfl
  .rename_i r;rw[Z6.1 r]
 rw[bh,ai];refine⟨λr=>?_,λr=>P _ ?_⟩
 .obtain⟨C,hm⟩:=pc (λh=>h r);rw[dw (cs:=#[.func (.func pB) #[] #[],.func (.func pC) #[] #[]]) Ψ];have Q:∀t∈cQ s f.sc pos a.v,a.c<=bg f.szs f.cs t:=λt ah=>((tw _ _ _).1 hm).2 _ (o8.2 ⟨t,ah,rfl⟩);have S:=jr (v:=a.v.toNat) L N;refine(Hm (t:=t) (F1:=pB) (F2:=pC) (tup:=λg=>dV n.k g a.c) (un:=λg=>dW n.k g a.c) (h.W B) (z.W B) E G H M Z N aa (λtl T=>?_) ⟨pf S C.1,λ{w A s t}K=>tI K S C⟩).X ?_
  .have U:=qw (t:=tl) L ae;exact⟨pe U ⟨C.1,Q tl T⟩,λ{w A s t}K=>wI K U C (.inr (Q tl T))⟩
  .rintro _ am _ ak;refine P _ ?_;rw[p,m5 (λh=>h r)];exact ak.before B
 .rw[p,m3 r];exact dp.same h z E G B
theorem TS(hk:a.kind=1)(h:bd w ac ad A R n s t)(E:Laid w)(G:¬A 0)(H:cV an t):aj x7 Kf [Γ ac,Δ a.i,Δ a.pos,Δ a.v,Δ a.c] w (qF an w ac ad A R n s a):=by
 have K:=h.2.2.2.1;refine az func170 ?_;refine(Hc h).X ?_;rintro _ J _ ⟨y,u,e,rfl,q⟩;rw[bo,bp];have p:cK n.k s a=match eU s a.i a.pos a.v with
  |none=>(s,1)
  |some (f,u,x)=>if eg n.k a.c (x.un.getD a.v.toNat 0)≠0 then(s,eg n.k a.c (x.un.getD a.v.toNat 0))else(kk s a.i.toNat f a.pos.toNat u.toNat x a.v (λg=>dW n.k g a.c) λg=>dV n.k g a.c,0):=by unfold cK;rw[m5 Ω,m3 hk]<;>cases eU s a.i a.pos a.v<;>rfl
 rcases q with⟨rfl,f,x,q⟩|⟨rfl,q⟩
 rotate_left
 .rw[q]at p;rw[bJ,ai];exact⟨λ_=>⟨by rw[p],by rw[p];exact dp.same h E G H y⟩,λh=>m6 Φ h⟩
 rw[q]at p;rw[bJ,ai];refine⟨λh=>m6 rfl h,λ_=>?_⟩;obtain⟨j,pos,u,T,U,W,M,X,Y,z,N,ag⟩:=z8 q;have Z:=x5 M;simp only[T,U,W,u9]at p ⊢;refine(ni (i:=(u:Int)) (v:=a.v) (h.W y)).X ?_;rintro _ V _ ⟨rfl,O⟩;have aa:gB s (u:Int).toNat a.v.toNat=x.un.getD a.v.toNat 0:=by
  unfold gB;rw[u9,z]
 rw[m3 (r1 K z N),aa,bo,bp];refine(wH (h.W (y.F O))).X ?_;rintro _ ah _ ⟨ab,rfl⟩;have B:=(y.F O).F ab;refine dk (λI=>dp an w ac ad A R n (cK n.k s a).1 I) ?_ λay P=>?_
 .intro I ae;refine⟨?_,ae⟩;rw[p];split
  .rfl
  .rename_i r;rw[Z6.1 r]
 rw[bh,ai];refine⟨λr=>?_,λr=>P _ ?_⟩
 .obtain⟨C,hm⟩:=pc (λh=>h r);rw[dw (cs:=#[.func (.func pC) #[] #[],.func (.func pB) #[] #[]]) Ψ];have Q:=jr (v:=a.v.toNat) K z;refine(Hm (t:=t) (F1:=pC) (F2:=pB) (tup:=λg=>dW n.k g a.c) (un:=λg=>dV n.k g a.c) (h.W B) (E.W B) G H M X Y z N (λtl ak=>?_) ⟨pe Q ⟨C.1,hm⟩,λ{w A s t}L=>wI L Q C (.inr hm)⟩).X ?_
  .have S:=qw (t:=tl) K Z;exact⟨pf S C.1,λ{w A s t}L=>tI L S C⟩
  .rintro _ al _ af;refine P _ ?_;rw[p,m5 (λh=>h r)];exact af.before B
 .rw[p,m3 r];exact dp.same h E G H B
end
def ju(s:am)(i:Int):Option bs:=match(if 0<=i then s.d6[i.toNat]? else ν)with
 |some x=>if x.gone=0 then σ x else ν
 |none=>ν
theorem Aa{s:am}{i:Int}{x:bs}(h:ju s i=σ x):0<=i/\s.d6[i.toNat]?=σ x/\x.gone=0:=by
 grind [ju]
theorem Hn{g:Int->Int}{un L:Λ}(h:L[j]?=σ v):eE g un (L.take (j+1))=(eE g un (L.take j)).set v.toNat (g ((eE g un (L.take j)).getD v.toNat 0)):=by
 grind [eE,u7]
theorem TT{i:Nat}:∀(L M:Λ)(s:am),gR s i v (L++M)=gR (gR s i v L) i v M
 :=by
 intro a;induction a<;>grind [gR]
theorem TU{s:am}{i:Nat}{w:Int}{L:Λ}(h:L[j]?=σ w):gR s i v (L.take (j+1))=if w≠v then eD (gR s i v (L.take j)) i w.toNat else gR s i v (L.take j):=by
 rw[u7,h,l9,TT];rfl
def mp(m u:Int):Int:=if m<0\/u<m then u else m
theorem TV:∀(l:Λ)(m:Int),0<=m->(∀c∈l,0<=c)->l.foldl mp m=l.foldl min m
 :=by
 intro a;induction a<;>grind [mp]
theorem TW{x:bs}(h:∀v∈aL x,0<=x.un.getD v.toNat 0):((aL x).map λv=>x.un.getD v.toNat 0).foldl mp (-1)=lD x:=by
 unfold lD;have a:∀c∈(aL x).map (λv=>x.un.getD v.toNat 0),0<=c:=by grind
 generalize (aL x).map (λv=>x.un.getD v.toNat 0)=l at a;cases l with
 |nil=>rfl
 |cons c l=>exact TV l c (a c (.head _)) λc h=>a c (.tail _ h)
section
variable{an:List av}{w:x3}{ac ad:Nat}{A R:ah}{n:aD}{s:am}{t:av}{a:ja}
theorem Ho{i:Int}(h:bd w ac ad A R n s t):aj x7 K6 [Γ ac,Δ i] w λr I=>Ext w I/\r=Δ (if(ju s i).isSome=ro then 0 else 1):=by
 have a:=h.2.2.2.1;have G:=a.d6;refine az func251 ?_;rw[cW dB.u];simp only[j0,aX];refine aV (λr J=>r= .bool (!(ju s i).isSome)/\Ext w J) ?_ ?_
 .rintro _ J ⟨rfl,H⟩;rw[bU]
  grind
 intro ay f;refine(rM h).X ?_;rintro _ V _ ⟨rfl,e⟩;rw[bU];refine⟨λB=>f _ _ ⟨?_,e⟩,λB=>?_⟩
 .grind [ju,cf]
 refine(lB (i:=i) (h.W e)).X ?_;rintro _ K _ ⟨⟨b,m,rfl,j⟩,C⟩;refine(uW).X ?_;rintro _ L _ ⟨rfl,E⟩;rw[bh];refine f _ _ ⟨?_,(e.F C).F E⟩;congr 1;by_cases p:0<=i/\i<n.co.length
 .obtain⟨x,q⟩:=aF (l:=s.d6) (i:=i.toNat) Ω;obtain⟨z,y⟩:=aF (l:=n.co) (i:=i.toNat) Ω;have M:=a.c5.2.2 z (x5 y);have N:=(a.var _ x z q y).1;have hm:=(j.2.2 x p.1 q).1
  grind [cf,ju]
 .obtain⟨rfl,rfl⟩:=j.2.1 p
  grind [ju]
theorem Hp{u:Nat}{c:Int}{x:bs}{F1 F2:Q2}{g z:Int->Int}(h:bd w ac ad A R n s t)(aA:Laid w)(aV:¬A 0)(aW:cV an t)(a:s.d6[u]?=σ x)(h1:∀v∈aL x,(0<=g (x.un.getD v.toNat 0)/\g (x.un.getD v.toNat 0)<=n.k)/\∀{w:x3}{A:ah}{s:am}{t:av},bd w ac ad A R n s t->aj x7 F1 [Γ ac,Δ (x.un.getD v.toNat 0),Δ c] w λr I=>r=Δ (g (x.un.getD v.toNat 0))/\Ext w I)(aB:(0<=z s.zero/\z s.zero<=n.k)/\∀{w:x3}{A:ah}{s':am}{t:av},bd w ac ad A R n s' t->aj x7 F2 [Γ ac,Δ s.zero,Δ c] w λr I=>r=Δ (z s.zero)/\Ext w I):
  aj x7 K7 [Γ ac,Δ (u:Int),Δ c,.func (.func F1) #[] #[],.func (.func F2) #[] #[]] w λ_ I=>dp an w ac ad A R n (mh s u x g z) I:=by
 have aX:=h.2.2.2.1;have aC:=(x4.1 a).1;refine jj func252 ?_;refine bm λg1 J bu aD f=>?_;refine bm λaY V bw W q=>?_;refine bm λbx bz bA K C=>?_;refine bm λbB B bC L M=>?_;have f:ag B g1 dB [Γ ac]:=((ag.W f W).W K).W L;have q:ag B aY ae [Δ (u:Int)]:=(ag.W q K).W L;have C:=ag.W C L;have M:=M;have N:=((aD.F W).F K).F L;have bD:=aD.size;have bE:=W.size;have z3:=K.size;have bF:=N.size;have O:=f.lt;have aE:=q.lt;have aF:=C.lt;have a1:=M.lt;rw[ax Ψ (f.cell rfl),ax Ψ (q.cell rfl)];refine(lB (i:=(u:Int)) (h.W N)).X ?_;rintro _ bG _ ⟨⟨b,bH,rfl,aG⟩,aI⟩;refine(pV).X ?_;rintro _ X _ ⟨a2,aJ,rfl,bI,aK⟩;have bJ:=od aG Ω (show s.d6[(u:Int).toNat]?=σ x by grind);have E:=aI.F a2;have z5:=aI.size;have z46:=E.size;have bK:=aK.lt;have a6:=tu x;have a7:dI s u x (eE g x.un ((aL x).take 0))=s:=by
  unfold dI;show{s with d6:=s.d6.set u x}=s;have:s.d6.set u x=s.d6:=by
   apply j5
   grind
  rw[this]
 refine mz.old ⟨_,rs,la,#[Γ aJ],_,_,_,_,λj I=>fz an w ac ad A R n w.heap.size (λr=>X.heap.size<=r) (dI s u x (eE g x.un ((aL x).take j))) I/\af (λr=>r<w.heap.size\/X.heap.size<=r) X I,λ_ _ _=>False,rfl,(pU (g:=aJ) aG.1).s,?_,
  λ_ _ a h=>⟨h.1.W a,h.2.W a⟩,λ_ _ _ a h=>⟨h.1.W a,h.2.F (a.aa _)⟩,by grind,⟨aK,aA.W (N.F E)⟩,?_,?_,?_,by grind,by grind⟩
 .grind
 .refine⟨?_,af.refl _ _⟩;rw[a7];exact fz.start h aA aV aW (N.F E) (p9 _)
 .rintro _ j _ a8 ⟨ba,bL⟩ ⟨bM,rfl,v,bN,bb⟩ ⟨P,G⟩;cases bb;intro bO Q _ _;have Y:(aL x)[j]?=σ (v:Int):=by grind
  have aM:=x5 Y;have aZ:∀{H:x3}{g:Nat}{e:r9}{cs:List x1},Ext a8 H->w.heap.size<=g->g<B.heap.size->ag B g e cs->ag H g e cs:=λa bc be Z=>((Z.W E).aa G Ω).W a;obtain⟨bP,bQ,ab,aN,ai⟩:=P.open;have aO:e8 n (u:Int) (v:Int):=r1 aX a aM;have bR:∀y∈aL x,0<=y/\y<x.un.length:=by grind [jq]
  have ak:=wb (g:=g) ((aL x).take j) x.un (v:Int) (by grind) (by grind) Ω;rw[m5 (zG a6 Y)]at ak;have bf:gB (dI s u x (eE g x.un ((aL x).take j))) (u:Int).toNat (v:Int).toNat=x.un.getD (v:Int).toNat 0:=by
   unfold gB dI;rw[u9,Z3 aC];exact ak
  rw[ax Ψ ((aZ Q Ω O f).cell rfl),ax Ψ ((aZ Q Ω aE q).cell rfl)];refine(ni (ab.W Q)).X ?_;rintro _ bS _ ⟨rfl,bg⟩;rw[m3 aO,bf,bo,bp];intro bh bi _ _;have p:=(Q.F bg).F bi;rw[ax Ψ ((aZ p Ω O f).cell rfl),ax Ψ ((aZ p Ω aE q).cell rfl),
   ax Ψ ((aZ p Ω a1 M).cell rfl),ax Ψ ((aZ p Ω O f).cell rfl),ax Ψ ((aZ p Ω aF C).cell rfl)]
  show aj x7 F1 [Γ ac,Δ (x.un.getD (v:Int).toNat 0),Δ c] bh _;obtain⟨bj,bk⟩:=h1 v aM;refine(bk (ab.W p)).X ?_;rintro _ bT _ ⟨rfl,aP⟩;have al:=p.F aP;refine⟨.inl aP,(zt (ab.W al) aN.room).X ?_⟩;rintro r bU _ ⟨_,_,ao⟩;obtain⟨_,ap,aH,bl,bn,aq,S⟩:=ao aO bj;have e:kR (dI s u x (eE g x.un ((aL x).take j))) (u:Int).toNat (v:Int).toNat (g (x.un.getD (v:Int).toNat 0))=dI s u x (eE g x.un ((aL x).take (j+1))):=by
   rw[Hn Y,ak];unfold kR dI;rw[u9,Z3 aC]
   grind [List.set_set]
  rw[e]at S;have bV:=G.size;obtain⟨aQ,aR,bW⟩:=ai (gA al ap) ((Grow.W al).F aq) S aN.set (λr h=>h) Ω;exact⟨⟨ba.aa aR Ω,aQ.2.1.1⟩,⟨aQ,G.F aR⟩,by grind⟩
 .rintro k bq rfl ⟨P,G⟩;rw[n9 (by grind)]at P;obtain⟨bX,bY,au,aS,ai⟩:=P.open;have aZ:∀{H:x3}{g:Nat}{e:r9}{cs:List x1},Ext bq H->w.heap.size<=g->g<B.heap.size->ag B g e cs->ag H g e cs:=λa bc be Z=>((Z.W E).aa G Ω).W a;intro bZ U _ _;have aw:=aZ U Ω O f;rw[ax Ψ (aw.cell rfl),ax Ψ (aw.cell rfl),ax Ψ (aw.cell rfl),ax Ψ ((aZ U Ω aF C).cell rfl)];refine(tp (au.W U)).X ?_;rintro _ br _ ⟨rfl,ay⟩;have aT:=U.F ay;refine⟨.inl ay,?_⟩;show aj x7 F2 [Γ ac,Δ s.zero,Δ c] br _;refine(aB.2 (au.W aT)).X ?_;rintro _ b0 _ ⟨rfl,aU⟩;have az:=aT.F aU;refine⟨.inl (ay.F aU),(Gb (au.W az) aS.room).X ?_⟩;rintro r b1 _ ⟨_,ao⟩;obtain⟨_,ap,aH,bl,bn,aq,S⟩:=ao aB.1;intro b2 bt _;exact(ai (gA az ap) ((Grow.W az).F aq) S aS.set (by grind) λ_ _ _=>trivial).1.done bt
end
section
variable{w:x3}{ac ad ak:Nat}{A R:ah}{A9:Nat->ah}{aE:ah}{n:aD}{s u:am}{t:av}{h:List av}{cs:List x1}{a:ja}
theorem TX(hk:a.kind<2):cK n.k u a=match eU u a.i a.pos a.v with
  |none=>(u,1)
  |some (f,v,x)=>if eg n.k a.c (if a.kind=1 then x.un.getD a.v.toNat 0 else oh n.k u f a.pos.toNat a.v)≠0 then(u,eg n.k a.c (if a.kind=1 then x.un.getD a.v.toNat 0 else oh n.k u f a.pos.toNat a.v))
   else(kk u a.i.toNat f a.pos.toNat v.toNat x a.v (λg=>if a.kind=0 then dV n.k g a.c else dW n.k g a.c) λg=>if a.kind=0 then dW n.k g a.c else dV n.k g a.c,0):=by
 grind [cK]
theorem getD_some{l:Λ}{i:Nat}(h:i<l.length):l[i]?=σ (l.getD i 0):=by
 grind
theorem TY(p:ch w ac ad ak A R A9 aE n s u t h cs)(G:aY n.k n.co u)(bD:cd u)(hk:a.kind<2):aj x7 xw [Γ ak,Δ (a.kind:Int),Δ a.i,Δ a.pos,Δ a.v,Δ a.c] w λr I=>r=Δ (cK n.k u a).2/\dC w ac ad ak A R A9 aE n s t h (cK n.k u a).1 I:=by
 have N:=TX (n:=n) (u:=u) hk;have cP:=G.d6;have bE:=G.dH;refine az func168 ?_;have bF:cs[0]?=σ (Δ n.k):=by grind [ch.qu]
 rw[aK a6.p 0 p.box bF,aP,ai];refine⟨λ_=>?_,λh=>Ω⟩;rw[bR];refine p.look.load λeB bG=>?_;refine(TD bG G bD).X ?_;rintro _ J _ ⟨bI,rfl⟩;cases aL:eU u a.i a.pos a.v with
 |none=>
  rw[aL]at N;simp only;rw[bo,bp,bA,X4,bY]
  grind [dC.same]
 |some q=>
 obtain⟨f,O,x⟩:=q;rw[aL]at N;simp only;rw[bo,bp,bA,Y6,aX];obtain⟨j,pos,O,bJ,bK,bM,S,cR,bk,L,bN,aO⟩:=z8 aL;have aq:=x5 S;simp only[bJ,bK,bM,u9]at N ⊢;have bO:=(x4.1 S).1;have bl:=(x4.1 L).1;have bP:=(x4.1 bk).1;obtain⟨bS,cS⟩:=mg G aq;have bT:=GF G aq aO;have bV:=(jq.1 bN).1;obtain⟨v,U⟩:=T0 bV.1;have bm:=jr (v:=a.v.toNat) G L;have au:=p.W bI;have bn:∀{V:x3}{e4:am}{fS:List x1}{bq:Nat->ah}{f2:bH},ch V ac ad ak A R bq aE n s e4 t h fS->e4.d7[j]?=σ f2->∃P cap W aQ y,fS[6]?=σ (.slice (σ ⟨P,0,ν⟩) e4.d7.length cap)/\j<e4.d7.length/\V.cell? ⟨P,0+j*4+0+0,ν⟩=σ W/\V.cell? ⟨P,0+j*4+0+2,ν⟩=σ y/\aI .i64 V W f2.sc/\aI .i64 V y f2.cs/\
   ∀{I:x3}{m:Nat}{c:Int}{K:Unit->x3->Prop},Ext V I->m<f2.cs.length->(∀br,dC V ac ad ak A R bq aE n s t h (dA e4 j f2 (f2.cs.set m c)) br->K () br)->ab x7 (j4 aw y (Δ (m:Int))) I λa=>aC x7 (o7 ap a (Δ c)) I K:=λbW av=>by
  obtain⟨P,cap,W,aQ,y,bX,bs,bZ,b0,Q⟩:=TF bW av;exact⟨P,cap,W,aQ,y,bX,(x4.1 av).1,by rw[W7];exact bs 0 _ rfl,by rw[W7];exact bs 2 _ rfl,bZ,b0,Q⟩
 obtain⟨P,cT,W,aQ,cU,b1,b2,b3,_,b4,_,_⟩:=bn au S;rw[aK a6.p 6 au.box b1,fv gE.u fO.i b2 λ_=>rfl,aT fO.p rfl,aT a7.p rfl,ax Ψ b3,be al.u ae.i Ψ b4 bk];generalize cV:(if a.kind=1 then x.un.getD a.v.toNat 0 else oh n.k u f pos a.v)=most at N;refine aV (λr V=>r=Δ most/\Ext w V) ?_ λay cW=>?_
 rotate_left
 .rw[bh,ai];refine⟨λh1=>?_,by grind⟩;have h1:a.kind=1:=Ω
  obtain⟨aR,bt,y,aU,aW,aA,_⟩:=z7 au L;rw[aK a6.p 5 au.box aU,fv e0.u aw.i bl λ_=>rfl,ax Ψ (by rw[W7,V0];exact aW),U,be aw.u ap.i Ψ aA (getD_some Ω)]
  grind [u9]
 rintro _ V ⟨rfl,b5⟩;refine Cn.X ?_;rintro _ cX _ ⟨rfl,b6⟩;have aZ:=b5.F b6;have b7:cJ a.c n.k↔0<=a.c/\a.c<=n.k:=⟨λh=>h.2,λav=>⟨bE,av⟩⟩;rw[bA,bU];refine⟨λa1=>?_,λa1=>?_⟩
 .grind [eg,dC.same]
 have cY:=b7.1 (by grind);rw[bL,ai];refine⟨λcZ=>?_,λc0=>?_⟩
 .grind [eg,dC.same]
 have aB:eg n.k a.c most=0:=by grind [eg]
 rw[m5 (λh=>h aB)]at N;have b8:=p.W aZ;rw[bR];refine b8.look.load λc1 b9=>?_;refine(Hj b9 G S bP aO).X ?_;rintro aN a2 _ ⟨ca,bu,cb⟩;have bw:=aZ.F ca;rw[aS al.u bu];have cc:(nq u f pos a.v).length=(cQ u f.sc pos a.v).length:=by grind [nq]
 rw[cc];obtain⟨tup,a8⟩:∃tup:Int->Int,tup=λg=>if a.kind=0 then dV n.k g a.c else dW n.k g a.c:=⟨_,rfl⟩;obtain⟨un,ba⟩:∃un:Int->Int,un=λg=>if a.kind=0 then dW n.k g a.c else dV n.k g a.c:=⟨_,rfl⟩;rw[<-a8,<-ba]at N;have c2:=p.olds.W bw;have c3:=p.box.lt;have c4:=aZ.size;have ce:∀{I:x3},af (λr=>(∃q,A9 q r/\r<w.heap.size)\/r=ak) a2 I->aI .i64 I aN (nq u f pos a.v):=λcf=>jk bu cf λr aB b n c e a1=>by
  have:=cb r ⟨b,n,c,e,a1⟩;omega
 refine cm.range (cQ u f.sc pos a.v).length (λq I=>dC a2 ac ad ak A R (λq r=>A9 q r/\r<w.heap.size) aE n s t h (dA u j f (ep tup ((cQ u f.sc pos a.v).take q) f.szs f.cs)) I) (by grind [aI.le]) ?_ ?_ ?_
 .grind [Hl,dC.same,Ext.refl]
 .rintro q X cg cj aD cl;obtain⟨tl,bb⟩:=aF (l:=cQ u f.sc pos a.v) cj;obtain⟨m,hm⟩:=wo G aq aO (x5 bb);have cn:(nq u f pos a.v)[q]?=σ (m:Int):=by
   unfold nq;rw[x8,bb]
   grind [qD]
  obtain⟨bx,cp⟩:=GG G S bT bb hm;have c5:=(x4.1 (oN bS hm)).1;have c6:m<f.cs.length:=Ω
  obtain⟨Q,cq,bz,M,bc⟩:=id aD;obtain⟨ck,cr⟩:∃ck,ck=ep tup ((cQ u f.sc pos a.v).take q) f.szs f.cs:=⟨_,rfl⟩;have c7:ck.length=f.cs.length:=by grind [rO]
  rw[<-cr]at M bx cp;have bB:(dA u j f ck).d7[j]?=σ {f with cs:=ck}:=Z3 bO;obtain⟨aG,ct,c8,c9,cu,cw,cz,_,bd,_,cA,cB⟩:=bn M bB;have cC:ck[m]?=σ (bg f.szs f.cs tl):=by
   rw[getD_some Ω,<-bx];unfold bg;rw[hm];simp
  have da:=qw (t:=tl) G aq;have db:bz[0]?=σ (Δ n.k):=by obtain⟨_,_,_,_,_,_,rfl,_⟩:=M.qu;rfl
  have cD:=ce Q;refine bC Ω ?_;refine dk (λH=>dC a2 ac ad ak A R (λq r=>A9 q r/\r<w.heap.size) aE n s t h (dA u j f (ep tup ((cQ u f.sc pos a.v).take (q+1)) f.szs f.cs)) H) (λH aH=>by rw[aM];exact cl _ aH) λcE cF=>?_;have Y:∀{C:x3},Ext X C->ab x7 (j4 aw cu (Δ (m:Int))) C λa'=>aC x7 (o7 ap a' (Δ (tup (bg f.szs f.cs tl)))) C λ(_:Unit)H=>cE H:=λbf=>by
   refine cB bf (by grind) λH aH=>cF _ (dC.comp Q bc ?_);have dc:dA (dA u j f ck) j {f with cs:=ck} (ck.set m (tup (bg f.szs f.cs tl)))=kS (dA u j f ck) j m (tup (bg f.szs f.cs tl)):=by unfold kS;rw[bB];rfl
   grind
  have row:∀{z:x3}{K:x1->x1->x1->x1->x1->x1->Prop},Ext X z->K (Γ ak) (.pointer (σ ⟨ak,0+6,ν⟩)) (.slice (σ ⟨aG,0,ν⟩) (dA u j f ck).d7.length ct) (.pointer (σ ⟨aG,0+j*4,ν⟩)) (.pointer (σ ⟨aG,0+j*4+0,ν⟩)) (.pointer (σ ⟨aG,0+j*4+0+2,ν⟩))->
    ab x7 (bQ (Γ ak)) z λZ=>ab x7 (u6 a6 Z 6) z λag=>ab x7 (u4 gE ag) z λan=>ab x7 (j4 gE an (Δ (j:Int))) z λao=>ab x7 (u6 fO ao 0) z λaJ=>ab x7 (u6 a7 aJ 2) z λcG=>K Z ag an ao aJ cG:=λL bi=>by
   rw[aK a6.p 6 (M.box.W L) cw,fv gE.u fO.i cz λ_=>rfl,aT fO.p rfl,aT a7.p rfl];exact bi
  rw[be al.u ae.i Ψ cD cn];refine row (Ext.refl _) ?_;rw[ax Ψ bd,be aw.u ap.i Ψ cA cC,bh,ai];refine⟨λbj=>?_,λbj=>?_⟩
  .intro z B _ _;refine row B ?_;rw[ax Ψ (jY B bd)];refine(wL Ω Ω).X ?_;rintro _ C _ ⟨rfl,E⟩;refine⟨.inl E,?_⟩;have:=Y (B.F E);rw[a8]at this;simp only[m3 (show a.kind=0 by omega)]at this;exact this
  .intro z B _ _;refine row B ?_;rw[ax Ψ (jY B bd)];refine(rm Ω Ω).X ?_;rintro _ C _ ⟨rfl,E⟩;refine⟨.inl E,?_⟩;have:=Y (B.F E);rw[a8]at this;simp only[m5 (show¬a.kind=0 by omega)]at this;exact this
 .rintro X cg aD;rw[o6]at aD;refine ci Ω ?_;obtain⟨Q,cq,bz,M,bc⟩:=id aD;have cH:(dA u j f (ep tup (cQ u f.sc pos a.v) f.szs f.cs)).d6[O]?=σ x:=L;obtain⟨aR,bt,y,aU,aW,aA,cI⟩:=z7 M cH;refine dk (λH=>dC w ac ad ak A R A9 aE n s t h (kk u j f pos O x a.v tup un) H) (by grind) λcL cM=>?_;have cN:O<(dA u j f (ep tup (cQ u f.sc pos a.v) f.szs f.cs)).d6.length:=bl;have row:∀{z:x3}{K:x1->x1->x1->x1->x1->Prop},Ext X z->K (Γ ak) (.pointer (σ ⟨ak,0+5,ν⟩)) (.slice (σ ⟨aR,0,ν⟩) (dA u j f (ep tup (cQ u f.sc pos a.v) f.szs f.cs)).d6.length bt) (.pointer (σ ⟨aR,0+O*1,ν⟩)) y->
    ab x7 (bQ (Γ ak)) z λZ=>ab x7 (u6 a6 Z 5) z λag=>ab x7 (u4 e0 ag) z λan=>ab x7 (j4 e0 an (Δ (O:Int))) z λao=>ab x7 (u4 aw ao) z λaJ=>K Z ag an ao aJ:=λL bi=>by
   rw[aK a6.p 5 (M.box.W L) aU,fv e0.u aw.i cN λ_=>rfl,ax Ψ (by rw[W7,V0];exact jY L aW)];exact bi
  have Y:∀{C:x3},Ext X C->ab x7 (j4 aw y (Δ (v:Int))) C λa'=>aC x7 (o7 ap a' (Δ (un (x.un.getD v 0)))) C λ(_:Unit)H=>cL H:=λbf=>by
   refine cI bf Ω λH aH=>cM _ ?_;have cO:=dC.comp Q bc aH.Hk;have:=dC.comp (bw.aa _) (λq r aB=>.inl ⟨q,aB.1⟩) cO
   grind [kk,Int.toNat]
  rw[bh,ai];refine⟨λbj=>?_,λbj=>?_⟩
  .intro z B _ _;refine row B (row B ?_);rw[U,be aw.u ap.i Ψ (aA.W B) (getD_some Ω)];rw[U,u9]at bm;refine(rm Ω Ω).X ?_;rintro _ C _ ⟨rfl,E⟩;refine⟨.inl E,?_⟩;have:=Y (B.F E);rw[ba]at this;simp only[m3 (show a.kind=0 by omega)]at this;exact this
  .intro z B _ _;refine row B (row B ?_);rw[U,be aw.u ap.i Ψ (aA.W B) (getD_some Ω)];rw[U,u9]at bm;refine(wL Ω Ω).X ?_;rintro _ C _ ⟨rfl,E⟩;refine⟨.inl E,?_⟩;have:=Y (B.F E);rw[ba]at this;simp only[m5 (show¬a.kind=0 by omega)]at this;exact this
end
section
variable{an:List av}{w:x3}{ac ad:Nat}{A R:ah}{n:aD}{s:am}{t:av}{a:ja}
theorem dp.step{aH:ah}{s':am}{t':av}(h:bd w ac ad A R n s t)(j:Laid w)(f:¬A 0)(a:Ext w J)(p:af (du J) J V)(e:Grow A J aH V)(q:bd V ac ad aH R n s' t')(r:cV an t'):dp an w ac ad A R n s' V:=by
 refine⟨gA a p,gH e.1 f (j.W a),aH,t',(Grow.W a).F e,q,r,λx=>(e.2.1 0 x).elim f λy=>?_⟩;obtain⟨z,B,C,E,⟨h1,_⟩,_⟩:=h.1;have:=h.lt (.inl h1);have:=a.size;omega
theorem Ab(hk:a.kind=2):cK n.k s a=match ju s a.i with
  |none=>(s,1)
  |some x=>if eg n.k a.c (lD x)≠0 then(s,eg n.k a.c (lD x))else(mh s a.i.toNat x (λg=>dV n.k g a.c) λg=>dW n.k g a.c,0):=by
 unfold cK ju;rw[m5 Ω,m5 Ω,m3 hk];cases (if 0<=a.i then s.d6[a.i.toNat]? else ν)with
 |none=>rfl
 |some x=>
  simp only;by_cases e:x.gone=0
  .rw[m5 Ω,m3 e]
  .rw[m3 e,m5 e]
theorem Ac(hk:a.kind=3):cK n.k s a=match ju s a.i with
  |none=>(s,1)
  |some x=>if eg n.k a.c (if aL x=[]then-1 else s.zero)≠0 then(s,eg n.k a.c (if aL x=[]then-1 else s.zero))else(mh s a.i.toNat x (λg=>dW n.k g a.c) λg=>dV n.k g a.c,0):=by
 unfold cK ju;rw[m5 Ω,m5 Ω,m5 Ω,m3 hk];cases (if 0<=a.i then s.d6[a.i.toNat]? else ν)with
 |none=>rfl
 |some x=>
  simp only;by_cases e:x.gone=0
  .rw[m5 Ω,m3 e]
  .rw[m3 e,m5 e]
theorem TZ(hk:a.kind=2)(h:bd w ac ad A R n s t)(O:Laid w)(Z:¬A 0)(ab:cV an t):aj x7 Kg [Γ ac,Δ a.i,Δ a.c] w (qF an w ac ad A R n s a):=by
 have G:=h.2.2.2.1;have f:=Ab (n:=n) (s:=s) hk;refine jj func171 ?_;refine bm λg1 J bC aB H=>?_;refine bm λaC V bD ah K=>?_;have H:=ag.W H ah;have K:=K;have ak:=aB.F ah;have bE:=aB.size;have bF:=ah.size;have bG:=H.lt;have bH:=K.lt;rw[ax Ψ (H.cell rfl),ax Ψ (K.cell rfl)];refine(Ho (h.W ak)).X ?_;rintro _ bI _ ⟨al,rfl⟩;have a2:=ak.F al;have z3:=al.size;cases B:ju s a.i with
 |none=>
  rw[B]at f;rw[m5 Ξ,bJ,ai];refine⟨λ_=>?_,λh=>m6 Φ h⟩;intro a6 a7 _;exact⟨by rw[f],by rw[f];exact dp.same h O Z ab (a2.F a7)⟩
 |some x=>
 rw[B]at f;simp only at f;obtain⟨aD,e,bK⟩:=Aa B;obtain⟨u,C⟩:=T0 aD;rw[C,u9]at e;rw[C,u9]at f;rw[m3 (by rfl),bJ,ai];refine⟨λh=>m6 rfl h,λ_=>?_⟩;refine bx ap.i λaE bL bM aF aG=>?_;refine bt ap.i rfl rfl aG (by simp[T9]) λaI am bN P=>?_;have P:=P;have z5:=aF.size;have bO:=aG.lt;have ao:=al.F aF;have aq:ag aI g1 dB [Γ ac]:=(H.W ao).aa am Ω;have au:ag aI aC ae [Δ a.i]:=(K.W ao).aa am Ω;have Q:=(ak.F ao).then am (by rintro r aJ rfl;omega);rw[ax Ψ (aq.cell rfl),ax Ψ (au.cell rfl)];refine(lB (i:=a.i) (h.W Q)).X ?_;rintro _ bP _ ⟨⟨b,bQ,rfl,aK⟩,aM⟩;refine(pV).X ?_;rintro _ a8 _ ⟨ba,aN,rfl,bR,aO⟩;have aQ:=od aK aD (show s.d6[a.i.toNat]?=σ x by rw[C,u9];exact e);have p:=aM.F ba;have bS:=aM.size;have bT:=aO.lt;have bU:=P.lt;have aR:∀j (v:Nat),(aL x)[j]?=σ (v:Int)->(((aL x).take (j+1)).map λv=>x.un.getD v.toNat 0).foldl mp (-1)=mp ((((aL x).take j).map λv=>x.un.getD v.toNat 0).foldl mp (-1)) (x.un.getD v 0):=λj v aS=>by
  rw[u7,aS,l9,l7,List.foldl_append];rfl
 refine mz.old ⟨_,rs,la,#[Γ aN],_,_,_,_,λj I=>af (λr=>r=aE) a8 I/\ag I aE ap [Δ ((((aL x).take j).map λv=>x.un.getD v.toNat 0).foldl mp (-1))],λ_ _ _=>False,rfl,(pU (g:=aN) aK.1).s,?_,
  λ_ _ e h=>⟨h.1.W e,h.2.W e⟩,λ_ _ _ e h=>⟨h.1.F (e.aa _),h.2.W e⟩,λ_ _ _ _ _ h=>h,⟨aO,O.W (Q.F p)⟩,⟨af.refl _ _,P.W p⟩,?_,?_,λ_ _ h=>h.elim,λ_ _ _ h=>h.elim⟩
 .rintro _ _ _ _ ⟨_,_,_,_,rfl⟩;rfl
 .rintro _ j _ bV ⟨aT,aU⟩ ⟨aS,rfl,v,bb,bc⟩ ⟨y,S⟩;cases bc;intro bW aW _ _;have av:(aL x)[j]?=σ (v:Int):=by rw[<-aQ,x8,bb];rfl
  have be:=r1 G e (x5 av);have aw:=y.F (aW.aa _);have bf:=(Q.F p).then aw (by rintro r aJ rfl;omega);rw[ax Ψ (((aq.W p).aa aw Ω).cell rfl),ax Ψ (((au.W p).aa aw Ω).cell rfl)];refine(ni (h.W bf)).X ?_;rintro _ bg _ ⟨rfl,bi⟩;have bj:gB s a.i.toNat (v:Int).toNat=x.un.getD v 0:=by
   unfold gB;rw[C,u9,e];rfl
  rw[m3 (by rw[C];exact be),bj,bo,bp];have L:=aW.F bi;have M:=S.W L;refine aV (λr bk=>(r= .bool (decide ((((aL x).take j).map λv=>x.un.getD v.toNat 0).foldl mp (-1)<0\/x.un.getD v 0<(((aL x).take j).map λv=>x.un.getD v.toNat 0).foldl mp (-1))))/\bk=bg) ?_ λay N=>?_
  .rintro _ _ ⟨rfl,rfl⟩;rw[ai];refine⟨λU=>?_,λW=>?_⟩
   .refine bt ap.i rfl rfl M Ξ λbX bl bY bn=>?_;have q:=(L.aa _).F bl;refine⟨⟨aT.aa q Ω,gH q Ω aU⟩,⟨y.F q,?_⟩,λh=>by cases h⟩;rw[aR j v av];unfold mp at U ⊢;rw[m3 U];exact bn
   .refine⟨⟨aT.W L,aU.W L⟩,⟨y.F (L.aa _),?_⟩,λh=>by cases h⟩;rw[aR j v av];unfold mp at W M ⊢;rw[m5 W];exact M
  rw[ax Ψ (M.cell rfl),aP,ai];refine⟨λU=>N _ _ ⟨by rw[m7 (Or.inl U)],rfl⟩,λW=>?_⟩;rw[ax Ψ (M.cell rfl),aP];refine N _ _ ⟨?_,rfl⟩;congr 1;exact decide_eq_decide.2 ⟨.inr,λh=>h.resolve_left W⟩
 .rintro k aX rfl ⟨y,S⟩;rw[n9 (by rw[<-aQ,o4];exact p9 _),TW λv _=>(jr G e).1]at S;have aY:=(Q.F p).then y (by rintro r aJ rfl;omega);have aZ:ag aX g1 dB [Γ ac]:=(aq.W p).aa y Ω;have bq:ag aX aC ae [Δ a.i]:=(au.W p).aa y Ω;rw[ax Ψ (aZ.cell rfl),ax Ψ (S.cell rfl)];refine(wH (h.W aY)).X ?_;rintro _ bZ _ ⟨az,rfl⟩;have X:=aY.F az;refine dk (λI=>dp an w ac ad A R n (cK n.k s a).1 I) ?_ λay N=>?_
  .intro I br b0 Y _;obtain⟨bs,bu,aH,t',bw,bz,bA⟩:=br;refine⟨?_,bs.F (Y.aa _),bu.W Y,aH,t',bw.F (Grow.W Y),bz.W Y,bA⟩;rw[f];split
   .rfl
   .rename_i E;rw[Z6.1 E]
  rw[bh,ai];refine⟨λE=>?_,λE=>N _ ?_⟩
  .obtain⟨q,hm⟩:=pc (λh=>h E);rw[ax Ψ ((aZ.W az).cell rfl),ax Ψ ((bq.W az).Qz rfl),C];refine(Hp (t:=t) (u:=u) (F1:=pB) (F2:=pC) (g:=λg=>dV n.k g a.c) (z:=λg=>dW n.k g a.c) (h.W X) (O.W X) Z ab e (λv B=>?_) ⟨pf G.zero q.1,λ{w A s' t}aA=>tI aA G.zero q⟩).X ?_
   .have a1:=jr (v:=v.toNat) G e;exact⟨pe a1 ⟨q.1,zF B hm⟩,λ{w A s t}aA=>wI aA a1 q (.inr (zF B hm))⟩
   .rintro _ a6 _ bB;refine N _ ?_;rw[f,m5 (λh=>h E)];exact bB.before X
  .rw[f,m3 E];exact dp.same h O Z ab X
theorem Ua{b m:Nat}{i:Int}{x:bs}(p:vU s n i b m)(hi:0<=i)(q:s.d6[i.toNat]?=σ x):b=0↔aL x=[]:=by
 have a:=od p hi q;constructor
 .rintro rfl;rw[<-a];have:fp 0 m=[]:=List.eq_nil_iff_forall_not_mem.2 λv e=>by
   have:=(x0.1 e).2;simp at this
  rw[this];rfl
 .intro he;rw[he]at a;have e:=List.map_eq_nil_iff.1 a;refine Nat.eq_of_testBit_eq λj=>?_;rw[Nat.zero_testBit];cases f:b.testBit j with
  |false=>rfl
  |true=>
   have r:j<m:=by
    rcases Nat.lt_or_ge j m with h|h
    .exact h
    .have:=Nat.testBit_lt_two_pow (Nat.lt_of_lt_of_le p.1.2 (T6 Ω h));rw[this]at f;cases f
   have:j∈fp b m:=x0.2 ⟨r,f⟩;rw[e]at this;cases this
theorem Ub(hk:a.kind=3)(h:bd w ac ad A R n s t)(G:Laid w)(H:¬A 0)(K:cV an t):aj x7 Kh [Γ ac,Δ a.i,Δ a.c] w (qF an w ac ad A R n s a):=by
 have L:=h.2.2.2.1;have f:=Ac (n:=n) (s:=s) hk;refine az func172 ?_;refine(Ho h).X ?_;rintro _ J _ ⟨M,rfl⟩;cases y:ju s a.i with
 |none=>
  rw[y]at f;rw[m5 Ξ,bJ,ai];exact⟨λ_=>⟨by rw[f],by rw[f];exact dp.same h G H K M⟩,λh=>m6 Φ h⟩
 |some x=>
 rw[y]at f;simp only at f;obtain⟨P,B,ak⟩:=Aa y;rw[m3 (by rfl),bJ,ai];refine⟨λh=>m6 rfl h,λ_=>?_⟩;refine(tp (h.W M)).X ?_;rintro _ V _ ⟨rfl,aa⟩;have Q:=M.F aa;refine aV (λr I=>r=Δ (if aL x=[]then-1 else s.zero)/\Ext w I) ?_ λay p=>?_
 .rintro _ al ⟨rfl,S⟩;refine(wH (h.W S)).X ?_;rintro _ am _ ⟨ab,rfl⟩;have C:=S.F ab;refine dk (λI=>dp an w ac ad A R n (cK n.k s a).1 I) ?_ λay p=>?_
  .intro I ae;refine⟨?_,ae⟩;rw[f];generalize (if aL x=[]then(-1:Int)else s.zero)=ao;split
   .rfl
   .rename_i j;rw[Z6.1 j]
  rw[bh,ai];refine⟨λj=>?_,λj=>p _ ?_⟩
  .obtain⟨E,hm⟩:=pc (λh=>h j);have T:a.c<=s.zero:=by
    split at hm
    .omega
    .exact hm
   obtain⟨u,N⟩:=T0 P;rw[N,u9]at B;rw[N];refine(Hp (t:=t) (u:=u) (F1:=pC) (F2:=pB) (g:=λg=>dW n.k g a.c) (z:=λg=>dV n.k g a.c) (h.W C) (G.W C) H K B (λv y=>?_) ⟨pe L.zero ⟨E.1,T⟩,λ{w A s' t}O=>wI O L.zero E (.inr T)⟩).X ?_
   .have U:=jr (v:=v.toNat) L B;exact⟨pf U E.1,λ{w A s t}O=>tI O U E⟩
   .rintro _ ap _ af;refine p _ ?_;rw[f,m5 (λh=>h j),N,u9];exact af.before C
  .rw[f,m3 j];exact dp.same h G H K C
 refine(lB (i:=a.i) (h.W Q)).X ?_;rintro _ aq _ ⟨⟨b,au,rfl,W⟩,ag⟩;refine(ec W.1).X ?_;rintro _ av _ ⟨⟨q,rfl,X⟩,ah⟩;have Y:=(Q.F ag).F ah;have Z:=Ua W P B;rw[bh,ai];refine⟨λh=>p _ _ ⟨by rw[m3 (Z.1 (X.1 h))],Y⟩,λh=>p _ _ ⟨by rw[m5 λe=>h (X.2 (Z.2 e))],Y⟩⟩
theorem Uc(hk:a.kind=4)(h:bd w ac ad A R n s t)(j:Laid w)(p:¬A 0)(f:cV an t):aj x7 Ki [Γ ac,Δ a.i,Δ a.v] w (qF an w ac ad A R n s a):=by
 have q:=h.2.2.2.1;have e:cK n.k s a=match eF s a.i a.v with
  |none=>(s,1)
  |some x=>if dW n.k s.zero (x.un.getD a.v.toNat 0)<n.k then(s,7)else(eD s a.i.toNat a.v.toNat,0):=by
  unfold cK;rw[m5 Ω,m5 Ω,m5 Ω,m5 Ω,m3 hk]<;>cases eF s a.i a.v<;>rfl
 refine az func173 ?_;refine(zZ h).X ?_;rintro _ J _ ⟨z,rfl⟩;cases B:eF s a.i a.v with
 |none=>
  rw[B]at e;rw[m5 Ξ,bJ,ai];exact⟨λ_=>⟨by rw[e],by rw[e];exact dp.same h j p f z⟩,λh=>m6 Φ h⟩
 |some x=>
 rw[B]at e;simp only at e;obtain⟨Z,C,aa,L⟩:=mj B;rw[m3 (by rfl),bJ,ai];refine⟨λh=>m6 rfl h,λ_=>?_⟩;have G:e8 n a.i a.v:=by
  have:=r1 q C L;rwa [show((a.i.toNat:Nat):Int)=a.i by omega]at this
 refine(ni (h.W z)).X ?_;rintro _ V _ ⟨rfl,M⟩;have N:gB s a.i.toNat a.v.toNat=x.un.getD a.v.toNat 0:=by
  unfold gB;rw[C]
 rw[m3 G,N,bo,bp];have H:=z.F M;refine(tp (h.W H)).X ?_;rintro _ ab _ ⟨rfl,O⟩;have I:=H.F O;refine(tI (h.W I) q.zero (jr q C)).X ?_;rintro _ ae _ ⟨rfl,P⟩;have K:=I.F P;refine(nh (h.W K)).X ?_;rintro _ af _ ⟨rfl,Q⟩;have E:=K.F Q;rw[aP,ai];refine⟨λS=>?_,λT=>?_⟩
 .rw[m3 S]at e;exact⟨by rw[e],by rw[e];exact dp.same h j p f E⟩
 .rw[m5 T]at e;refine(zp (h.W E) f.room).X ?_;rintro r ag _ ⟨_,U⟩;obtain⟨rfl,W,aH,y,X,Y⟩:=U G;refine⟨by rw[e],?_⟩;rw[e];exact dp.step h j p E W X Y f.set
theorem Ud(hk:5<=a.kind)(h:bd w ac ad A R n s t)(O:Laid w)(W:¬A 0)(X:cV an t):aj x7 Kj [Γ ac,Δ a.i,Δ a.v] w (qF an w ac ad A R n s a):=by
 have aw:=h.2.2.2.1;have q:cK n.k s a=match eF s a.i a.v with
  |none=>(s,1)
  |some x=>(gR s a.i.toNat a.v (aL x),0):=by
  unfold cK;rw[m5 Ω,m5 Ω,m5 Ω,m5 Ω,m5 Ω]<;>cases eF s a.i a.v<;>rfl
 refine jj func174 ?_;refine bm λg1 J aW Y z=>?_;refine bm λaX V aY P B=>?_;refine bm λa1 Q a2 K C=>?_;have z:ag Q g1 dB [Γ ac]:=(ag.W z P).W K;have B:=ag.W B K;have C:=C;have L:=(Y.F P).F K;have a6:=Y.size;have a7:=P.size;have z3:=K.size;have ay:=z.lt;have az:=B.lt;have aA:=C.lt;rw[ax Ψ (z.cell rfl),ax Ψ (B.cell rfl),ax Ψ (C.cell rfl)];refine(zZ (h.W L)).X ?_;rintro _ a8 _ ⟨E,rfl⟩;have Z:=L.F E;have z4:=E.size;cases S:eF s a.i a.v with
 |none=>
  rw[S]at q;rw[m5 Ξ,bJ,ai];refine⟨λ_=>?_,λh=>m6 Φ h⟩;intro ba aB _;exact⟨by rw[q],by rw[q];exact dp.same h O W X (Z.F aB)⟩
 |some x=>
 rw[S]at q;simp only at q;obtain⟨aC,f,bb,bc⟩:=mj S;rw[m3 (by rfl),bJ,ai];refine⟨λh=>m6 rfl h,λ_=>?_⟩;rw[ax Ψ ((z.W E).cell rfl),ax Ψ ((B.W E).Qz rfl)];refine(lB (i:=a.i) (h.W Z)).X ?_;rintro _ be _ ⟨⟨b,aD,rfl,ab⟩,ae⟩;refine(pV (b:=b) (n:=aD)).X ?_;rintro _ U _ ⟨aE,ah,rfl,bf,ak⟩;have al:=od ab aC f;have M:=(E.F ae).F aE;have bg:=ae.size;have bh:=M.size;have bi:=ak.lt;refine mz.old ⟨_,rs,la,#[Γ ah],_,_,_,_,λj I=>fz an w ac ad A R n w.heap.size (λr=>U.heap.size<=r) (gR s a.i.toNat a.v ((aL x).take j)) I/\af (λr=>r<w.heap.size\/U.heap.size<=r) U I,λ_ _ _=>False,rfl,(pU (g:=ah) ab.1).s,?_,
  λ_ _ f h=>⟨h.1.W f,h.2.W f⟩,λ_ _ _ f h=>⟨h.1.W f,h.2.F (f.aa _)⟩,λ_ _ _ _ _ h=>h,⟨ak,O.W (L.F M)⟩,⟨fz.start h O W X (L.F M) (p9 _),af.refl _ _⟩,?_,?_,λ_ _ h=>h.elim,λ_ _ _ h=>h.elim⟩
 .rintro _ _ _ _ ⟨_,_,_,_,rfl⟩;rfl
 .rintro _ j _ bj ⟨am,aF⟩ ⟨bk,rfl,v,aG,aI⟩ ⟨G,H⟩;cases aI;intro aJ p _ _;have ao:(aL x)[j]?=σ (v:Int):=by rw[<-al,x8,aG];rfl
  have aK:e8 n a.i (v:Int):=by
   have:=r1 aw f (x5 ao);rwa [show((a.i.toNat:Nat):Int)=a.i by omega]at this
  have aZ:∀{g:Nat}{e:r9}{cs:List x1},w.heap.size<=g->g<Q.heap.size->ag Q g e cs->ag aJ g e cs:=λaM aN aO=>((aO.W M).aa H Ω).W p;have N:=TU (s:=s) (i:=a.i.toNat) (v:=a.v) ao;obtain⟨bl,bn,aP,ap,aQ⟩:=G.open;rw[ax Ψ ((aZ Ω aA C).cell rfl),bJ,ai];refine⟨λaR=>?_,λhe=>?_⟩
  .rw[m3 aR]at N;rw[ax Ψ ((aZ Ω ay z).cell rfl),ax Ψ ((aZ Ω az B).cell rfl)];refine(zp (aP.W p) ap.room).X ?_;rintro r bo _ ⟨_,aS⟩;obtain⟨rfl,aT,aH,y,aU,aq⟩:=aS aK;rw[<-N]at aq;have bp:=H.size;obtain⟨au,av,bq⟩:=aQ (gA p aT) ((Grow.W p).F aU) aq ap.set (λr h=>h) λr aM aN=>Ω
   exact⟨⟨am.aa av Ω,au.2.1.1⟩,⟨au,H.F av⟩,λh=>by cases h⟩
  .rw[m5 he]at N;exact⟨⟨am.W p,aF.W p⟩,⟨by rw[N];exact G.W p,H.F (p.aa _)⟩,λh=>by cases h⟩
 .rintro k br rfl ⟨G,H⟩;rw[n9 (by rw[<-al,o4];exact p9 _)]at G;intro bs aV _;exact⟨by rw[q],by rw[q];exact G.done aV⟩
end
theorem Ue{bD:x1}{l:Λ}(h:aI .i64 w bD l)(C:l.length<=1000000):aj x7 K1 [bD,Δ v] w λr I=>Ext w I/\(∃g,ao .i64 ae I g r (l.filter λy=>!decide (y=v)))/\∀q,li r q->w.heap.size<=q:=by
 refine az func244 ?_;rw[aS al.u h];refine b2.range l.length (λi out a=>Ext w a/\(∃g,ao .i64 ae a g out ((l.take i).filter λy=>!decide (y=v)))/\∀r,li out r->w.heap.size<=r) h.le ⟨Ext.refl _,⟨0,ao.nil _ _ _ _⟩,λr x=>by obtain⟨_,_,_,e,_⟩:=x;cases e⟩ ?_ ?_
 .rintro q out a z A ⟨f,⟨g,hm⟩,j⟩ E;obtain⟨y,B⟩:=aF (l:=l) A;have G:(l.take (q+1)).filter (λy=>!decide (y=v))=(l.take q).filter (λy=>!decide (y=v))++(if y≠v then[y]else[]):=by
   grind [u7]
  refine bC Ω ?_;refine aV (λp s=>Ext w s/\(∃g,ao .i64 ae s g p ((l.take (q+1)).filter λy=>!decide (y=v)))/\∀r,li p r->w.heap.size<=r) (λ_ _ H=>by rw[aM];grind) λay J=>?_;rw[be al.u ae.i Ψ (h.W f) B,bJ,ai];refine⟨λK=>?_,by grind⟩;refine G1 f hm j ?_ (by grind)
  grind
 .rintro out a z ⟨f,hm,j⟩;rw[o6]at hm;refine ci Ω ?_
  grind
theorem Ad{i:Nat}{v:Int}:∀(L:Λ)(s:am)(x:bs),s.d6[i]?=σ x->(∀y∈L,0<=y)->∃m,gR s i v L={s with d6:=s.d6.set i {x with mask:=m}}/\aL {x with mask:=m}=(aL x).filter λy=>!(decide (y∈L)&& !decide (y=v))
 |[],s,x,a,_=>by
  refine⟨x.mask,?_,(List.filter_eq_self.2 λy _=>Ξ).symm⟩;have:s.d6.set i x=s.d6:=by
   apply j5
   grind
  show s={s with d6:=s.d6.set i x};rw[this]
 |w::L,s,x,a,j=>by
  have hw:=j w (.head _);have p:=(x4.1 a).1;rw[gR];by_cases e:w≠v
  .rw[m3 e];have f:eD s i w.toNat={s with d6:=s.d6.set i {x with mask:=((x.mask.toNat ||| 2 ^ w.toNat:Nat):Int)}}:=by grind [eD]
   obtain⟨m,h1,h⟩:=Ad L (eD s i w.toNat) {x with mask:=((x.mask.toNat ||| 2 ^ w.toNat:Nat):Int)} (by rw[f];exact Z3 p) (by grind);refine⟨m,?_,?_⟩
   .rw[h1,f]
    grind [List.set_set]
   .rw[h,zE hw,List.filter_filter]
    grind
  .rw[m5 e];obtain⟨m,h1,h⟩:=Ad L s x a (by grind);refine⟨m,h1,?_⟩
   grind
theorem filter_one{l:Λ}(a:l.Nodup)(e:v∈l):l.filter (λy=>decide (y=v))=[v]:=by
 induction l<;>grind [List.filter_eq_nil_iff]
def k1(u:am)(a:ja):Option bs:=if 3<a.kind then eF u a.i a.v else ju u a.i
section
variable{w:x3}{ac ad ak:Nat}{A R:ah}{A9:Nat->ah}{aE:ah}{n:aD}{s u:am}{t:av}{h:List av}{cs:List x1}{a:ja}
theorem Hq{x:bs}(h:k1 u a=σ x):0<=a.i/\u.d6[a.i.toNat]?=σ x/\x.gone=0/\(3<a.kind->a.v∈aL x):=by
 unfold k1 at h;split at h
 .obtain⟨h1,e,f,j⟩:=mj h
  grind
 .rename_i hk;obtain⟨h1,e,f⟩:=Aa h
  grind
theorem Uf(h:¬(0<=a.i/\a.i<u.d6.length)):k1 u a=ν:=by
 cases he:k1 u a with
 |none=>rfl
 |some x=>
  obtain⟨h1,e,_⟩:=Hq he
  grind
theorem Ug{x:bs}(e:0<=a.i)(f:u.d6[a.i.toNat]?=σ x):k1 u a=if x.gone=0/\(3<a.kind->a.v∈aL x)then σ x else ν:=by
 grind [k1,eF,ju]
theorem Uh(hk:2<=a.kind/\a.kind<=5)(h:k1 u a=ν):cK n.k u a=(u,1):=by
 grind [k1,cK,Ab,Ac]
theorem Hr{x:bs}{c:Int}(j:0<=c):lD x<c↔aL x=[]\/∃v∈aL x,x.un.getD v.toNat 0<c:=by
 unfold lD;constructor
 .intro h;cases e:aL x with
  |nil=>grind
  |cons b l=>
   refine .inr ?_;rw[e]at h;simp only[U3]at h;by_cases p:∀v∈b::l,c<=x.un.getD v.toNat 0
   .have:=(tw (l.map λv=>x.un.getD v.toNat 0) (x.un.getD b.toNat 0) c).2 (by grind);omega
   grind
 .rintro (h|⟨v,a,q⟩)
  .grind
  .cases e:aL x with
   |nil=>grind
   |cons b l=>
    rw[e]at a;simp only[U3];rcases Int.lt_or_le ((l.map λv=>x.un.getD v.toNat 0).foldl min (x.un.getD b.toNat 0)) c with an|an
    .exact an
    .obtain⟨r,f⟩:=(tw _ _ _).1 an;rcases T5.1 a with rfl|a
     .omega
     .have:=f _ (o8.2 ⟨v,a,rfl⟩);omega
def Ae(n:aD)(u:am)(x:bs)(a:ja):Prop:=aL x=[]\/(a.kind=3/\u.zero<a.c)\/(a.kind=2/\∃v∈aL x,x.un.getD v.toNat 0<a.c)
theorem Ui{x:bs}(hk:a.kind=2\/a.kind=3)(h:k1 u a=σ x):(¬(0<=a.c/\a.c<=n.k)->cK n.k u a=(u,3))/\((0<=a.c/\a.c<=n.k)->Ae n u x a->cK n.k u a=(u,7))/\
  ((0<=a.c/\a.c<=n.k)->¬Ae n u x a->cK n.k u a=(mh u a.i.toNat x (λg=>if a.kind=2 then dV n.k g a.c else dW n.k g a.c) (λg=>if a.kind=2 then dW n.k g a.c else dV n.k g a.c),0)/\(a.kind=2->∀v∈aL x,a.c<=x.un.getD v.toNat 0)/\(a.kind=3->a.c<=u.zero)):=by
 have j:ju u a.i=σ x:=by grind [k1]
 rcases hk with hk|hk
 .have f:=Ab (n:=n) (s:=u) hk;rw[j]at f;simp only at f;simp only[hk];refine⟨λe=>?_,λe hi=>?_,λe hi=>?_⟩
  .grind [eg]
  .have p:=(Hr e.1).2 (hi.elim .inl (by grind))
   grind [eg]
  .have p:¬lD x<a.c:=λh=>hi (((Hr e.1).1 h).elim .inl λh=>.inr (.inr ⟨hk,h⟩));have r:eg n.k a.c (lD x)=0:=by grind [eg]
   rw[r,m5 Φ]at f;refine⟨by grind,λ_ v j=>?_,Ω⟩;rcases Int.lt_or_le (x.un.getD v.toNat 0) a.c with an|an
   .exact m6 (.inr (.inr ⟨hk,v,j,an⟩)) hi
   .exact an
 .have f:=Ac (n:=n) (s:=u) hk;rw[j]at f;simp only at f;simp only[hk];refine⟨λe=>?_,λe hi=>?_,λe hi=>?_⟩
  .grind [eg]
  .have p:(if aL x=[]then-1 else u.zero)<a.c:=by
    by_cases q:aL x=[]
    .grind
    .rw[m5 q];rcases hi with hi|hi|hi
     all_goals grind
   grind [eg]
  .have q:¬aL x=[]:=λh=>hi (.inl h);have w:¬u.zero<a.c:=λh=>hi (.inr (.inl ⟨hk,h⟩))
   grind [eg]
end
section
variable{w:x3}{ac ad ak:Nat}{A R:ah}{A9:Nat->ah}{aE:ah}{n:aD}{s u:am}{t:av}{h:List av}{cs:List x1}{a:ja}
theorem Uj(p:ch w ac ad ak A R A9 aE n s u t h cs)(av:aY n.k n.co u)(hk:2<=a.kind/\a.kind<=5):aj x7 xw [Γ ak,Δ (a.kind:Int),Δ a.i,Δ a.pos,Δ a.v,Δ a.c] w λr I=>r=Δ (cK n.k u a).2/\dC w ac ad ak A R A9 aE n s t h (cK n.k u a).1 I:=by
 have cp:=av.d6;have cq:=av.dH;refine az func168 ?_;have bN:cs[0]?=σ (Δ n.k):=by obtain⟨_,_,_,_,_,_,rfl,_⟩:=p.qu;rfl
 rw[aK a6.p 0 p.box bN,aP,ai];refine⟨λh=>Ω,λ_=>?_⟩;refine aV (λr I=>r= .bool (!(k1 u a).isSome)/\Ext w I) ?_ λay ba=>?_
 rotate_left
 .rw[bR];refine p.look.load λeB cr=>?_;refine(RY cr).X ?_;rintro _ J _ ⟨rfl,Y⟩;rw[bA,bU];refine⟨λQ=>ba _ _ ⟨by rw[Uf (λh=>by rw[cp]at h;rw[m7 h]at Q;cases Q)];rfl,Y⟩,λQ=>?_⟩;have bb:0<=a.i/\a.i<n.co.length:=by simpa using Q
  obtain⟨x,L⟩:=aF (l:=u.d6) (i:=a.i.toNat) Ω;have bo:=Ug bb.1 L;obtain⟨d9,ct,dg,aW,dh,bp,bO,_,_,cu,cw,di,dj,dl⟩:=(p.look).W Y;rw[aK a6.p 4 bO rfl];refine pK (i:=a.i.toNat) rfl Ω lS.u ir.i Ψ cw (by rw[x8,L];rfl) λbP bq=>?_;have bq:[bP]=[x1.bool (decide (x.gone≠0))]:=bq;obtain rfl:bP=x1.bool (decide (x.gone≠0)):=by simpa using bq
  rw[ai];refine⟨λS=>ba _ _ ⟨by rw[bo,m5 λh=>S h.1];rfl,Y⟩,λS=>?_⟩;have S:=Z6.1 S;rw[bL,ai];refine⟨λbr=>?_,λbr=>ba _ _ ⟨by rw[bo,m3 ⟨S,λh=>m6 h Ω⟩];rfl,Y⟩⟩;rw[aK a6.p 3 bO rfl];refine pK (a:=aL x) (i:=a.i.toNat) rfl Ω dL.u al.i Ψ cu (by rw[x8,L];rfl) λdm cz=>?_;refine(zq (fw cz)).X ?_;rintro _ V _ ⟨rfl,M⟩;rw[bA];refine ba _ _ ⟨?_,Y.F M⟩;rw[bo];by_cases H:a.v∈aL x
  .rw[m3 ⟨S,λ_=>H⟩,m7 H];rfl
  .rw[m5 λh=>H (h.2 Ω),ms H];rfl
 rintro _ J ⟨rfl,Y⟩;cases hm:k1 u a with
 |none=>
  have f:=Uh (n:=n) hk hm;rw[R3,X4,bY];exact⟨by rw[f],by rw[f];exact dC.same p Y⟩
 |some x=>
 rw[S9,Y6,aX];obtain⟨cA,L,dn,cB⟩:=Hq hm;obtain⟨C,aJ⟩:=T0 cA;rw[aJ,u9]at L;have bt:=(x4.1 L).1;have E:∀y∈aL x,0<=y/\y<x.un.length:=λy P=>(jq.1 P).1;simp only[aJ];have bS:∀v:Nat,0<=x.un.getD v 0/\x.un.getD v 0<=n.k:=λv=>jr av L;have O:=p.W Y;have dp:=bN;have bu:∀{V:x3}{e4:am}{fS:List x1}{bw:Nat->ah}{aN:bs},ch V ac ad ak A R bw aE n s e4 t h fS->e4.d6[C]?=σ aN->∃aW aA y,aI .i64 V y aN.un/\(∀{j:x3}{K:x1->x1->x1->x1->x1->Prop},Ext V j->K (Γ ak) (.pointer (σ ⟨ak,0+5,ν⟩)) aW (.pointer (σ ⟨aA,0+C*1,ν⟩)) y->
    ab x7 (bQ (Γ ak)) j λaB=>ab x7 (u6 a6 aB 5) j λaD=>ab x7 (u4 e0 aD) j λaO=>ab x7 (j4 e0 aO (Δ (C:Int))) j λbc=>ab x7 (u4 aw bc) j λcC=>K aB aD aO bc cC)/\
   ∀{I:x3}{v:Nat}{c:Int}{K:Unit->x3->Prop},Ext V I->v<aN.un.length->(∀bT,k0 V ac ad ak A R bw aE n s t h (dI e4 C aN (aN.un.set v c)) bT->K () bT)->ab x7 (j4 aw y (Δ (v:Int))) I λa=>aC x7 (o7 ap a (Δ c)) I K:=λ{V e4 fS bw aN}bV B=>by
  obtain⟨aA,cD,y,cE,cF,ao,bx⟩:=z7 bV B;have cG:=(x4.1 B).1;refine⟨.slice (σ ⟨aA,0,ν⟩) e4.d6.length cD,aA,y,ao,λ{j K}aG aZ=>?_,bx⟩;rw[aK a6.p 5 (bV.box.W aG) cE,fv e0.u aw.i cG λ_=>rfl,ax Ψ (by rw[W7,V0];exact jY aG cF)];exact aZ
 obtain⟨cH,cI,bz,bW,cL,aq,cM,bX⟩:=TH O L;have bZ:∀{j:x3}{K:x1->x1->x1->Prop},Ext J j->K (Γ ak) (.pointer (σ ⟨ak,0+3,ν⟩)) (.slice (σ ⟨cH,0,ν⟩) u.d6.length cI)->
   ab x7 (bQ (Γ ak)) j λaB=>ab x7 (u6 a6 aB 3) j λaD=>ab x7 (u4 dL aD) j λaO=>K aB aD aO:=λaG aZ=>by
  rw[aK a6.p 3 (O.box.W aG) bW];exact aZ
 have qv:∀{j:x3}{K:x1->Prop},Ext J j->K bz->
   ab x7 (bQ (Γ ak)) j λaB=>ab x7 (u6 a6 aB 3) j λaD=>ab x7 (u4 dL aD) j λaO=>ab x7 (j4 dL aO (Δ (C:Int))) j λbc=>ab x7 (u4 al bc) j K:=λaG aZ=>by
  rw[aK a6.p 3 (O.box.W aG) bW,fv dL.u al.i bt λ_=>rfl,ax Ψ (by rw[W7,V0];exact jY aG cL)];exact aZ
 have low:∀{u':am}{I:x3},dC J ac ad ak A R A9 aE n s t h u' I->dC w ac ad ak A R A9 aE n s t h u' I:=λbd=>dC.comp (Y.aa _) (λq r E=>.inl ⟨q,E⟩) bd;refine aV (λ_ I=>dC w ac ad ak A R A9 aE n s t h (cK n.k u a).1 I/\(cK n.k u a).2=0) (λ_ I bd=>⟨by rw[bd.2],bd.1⟩) λcN bB=>?_;refine aV (λr I=>r= .bool (decide (a.kind=2\/a.kind=3))/\J=I) ?_ λdq b0=>?_
 rotate_left
 .rw[bh,ai];refine⟨λB=>b0 _ _ ⟨?_,rfl⟩,λB=>?_⟩
  .congr 1;exact decide_eq_decide.2 ⟨λ_=>.inl Ω,λ_=>B⟩
  .rw[bh];refine b0 _ _ ⟨?_,rfl⟩;congr 1;exact decide_eq_decide.2 ⟨λh=>.inr Ω,λh=>Ω⟩
 rintro _ _ ⟨rfl,rfl⟩;rw[ai];refine⟨λcO=>?_,λds=>?_⟩
 .
  obtain⟨cP,bf,bD⟩:=Ui cO hm;refine Cn.X ?_;rintro _ V _ ⟨rfl,M⟩;have dt:=M;have b1:cJ a.c n.k↔0<=a.c/\a.c<=n.k:=⟨λh=>h.2,λB=>⟨cq,B⟩⟩;rw[bA,bU];refine⟨λQ=>?_,λQ=>?_⟩
  .have f:=cP λh=>m6 (b1.2 h) (by simpa using Q);exact⟨by rw[f],by rw[f];exact low (dC.same O M)⟩
  have bb:=b1.1 (show cJ a.c n.k by simpa using Q);have bf:=bf bb;have bD:=bD bb;refine aV (λr I=>Ext J I/\∃b,r= .bool b/\(b=ro↔aL x=[]\/(a.kind=3/\u.zero<a.c))) ?_ λdu bF=>?_
  rotate_left
  .refine qv M ?_;rw[aS al.u (aq.W M),bh,ai];refine⟨λhe=>bF _ _ ⟨M,ro,rfl,⟨λ_=>.inl (Z0 Ω),λ_=>rfl⟩⟩,λbg=>?_⟩;have bg:aL x≠[]:=λh=>bg (by rw[h];rfl);rw[bh,ai];refine⟨λbr=>?_,λbr=>bF _ _ ⟨M,rs,rfl,⟨(λh=>by cases h),λh=>h.elim (λh=>m6 h bg) λh=>Ω⟩⟩⟩;have bG:cs[2]?=σ (Δ u.zero):=by obtain⟨_,_,_,_,_,_,rfl,_⟩:=p.qu;rfl
   rw[aK a6.p 2 (O.box.W M) bG,bL];exact bF _ _ ⟨M,_,rfl,by rw[pl];exact⟨λh=>.inr ⟨Ω,h⟩,λh=>h.elim (λh=>m6 h bg) λh=>h.2⟩⟩
  rintro _ cQ ⟨aQ,b,rfl,b3⟩;rw[bU];refine⟨λcR=>?_,λb4=>?_⟩
  .have f:=bf ((b3.1 cR).elim .inl λh=>.inr (.inl h));exact⟨by rw[f],by rw[f];exact low (dC.same O aQ)⟩
  have b5:¬(aL x=[]\/(a.kind=3/\u.zero<a.c)):=λh=>by rw[b3.2 h]at b4;cases b4
  refine qv aQ ?_;rw[aS al.u (aq.W aQ)];refine b2.range (aL x).length (λq _ I=>Ext J I/\(a.kind=2->∀v∈(aL x).take q,a.c<=x.un.getD v.toNat 0)) aq.le ⟨aQ,λ_ v H=>by simp at H⟩ ?_ ?_
  .rintro q b6 aH cS bH ⟨N,bi⟩ cT;obtain⟨v,H⟩:=aF (l:=aL x) bH;have au:=x5 H;have bj:=E v au;obtain⟨G,rfl⟩:=T0 bj.1;refine bC Ω ?_;rw[be al.u ae.i Ψ (aq.W N) H];refine aV (λr I=>aH=I/\r= .bool (decide (a.kind=2/\x.un.getD G 0<a.c))) ?_ λdv b7=>?_
   .rintro _ _ ⟨rfl,rfl⟩;rw[ai];refine⟨λa1=>?_,λbI=>?_⟩
    .have f:=bf (.inr (.inr ⟨a1.1,_,au,a1.2⟩));exact⟨by rw[f],by rw[f];exact low (dC.same O N)⟩
    .rw[aM];refine cT _ _ ⟨N,λB y P=>?_⟩;rw[u7,H,l9,o9,b8]at P;rcases P with P|rfl
     .exact bi B y P
     .rcases Int.lt_or_le (x.un.getD G 0) a.c with an|an
      .exact m6 ⟨B,an⟩ bI
      .exact an
   rw[bh,ai];refine⟨λB=>?_,λB=>b7 _ _ ⟨rfl,by rw[ms λh=>B Ω]⟩⟩;obtain⟨aW,aA,y,ao,look,_⟩:=bu (O.W N) L;refine look (Ext.refl _) ?_;rw[be aw.u ap.i Ψ ao (getD_some (i:=G) Ω),bL];refine b7 _ _ ⟨rfl,?_⟩;congr 1;exact decide_eq_decide.2 ⟨λh=>⟨Ω,h⟩,λh=>h.2⟩
  rintro b6 aH cS ⟨N,bi⟩;rw[o6]at bi;have cU:¬Ae n u x a:=λhi=>hi.elim (λh=>b5 (.inl h)) λh=>h.elim (λh=>b5 (.inr h)) λ⟨B,v,H,a1⟩=>by have:=bi B v H;omega
  obtain⟨f,dw,dx⟩:=bD cU;rw[aJ,u9]at f;refine ci Ω ?_;refine qv N ?_;rw[aS al.u (aq.W N)];obtain⟨g,S⟩:∃g:Int->Int,g=λg=>if a.kind=2 then dV n.k g a.c else dW n.k g a.c:=⟨_,rfl⟩;obtain⟨z,bJ⟩:∃z:Int->Int,z=λg=>if a.kind=2 then dW n.k g a.c else dV n.k g a.c:=⟨_,rfl⟩;rw[<-S,<-bJ]at f;have cV:=O.W N;have cW:=aq.W N;have b9:=tu x;obtain⟨ca,dy⟩:∃ca,bz=ca:=⟨_,rfl⟩;have cX:dI u C x (eE g x.un ((aL x).take 0))=u:=by
   unfold dI;show{u with d6:=u.d6.set C x}=u;have:u.d6.set C x=u.d6:=by
    apply j5;intro i;by_cases e:C=i
    .subst e;rw[Z3 bt,L]
    .rw[X3 e]
   rw[this]
  have cY:∀{I:x3},af (A9 2) aH I->aI .i64 I bz (aL x):=λcZ=>jk cW cZ λr E b n c e Q=>O.ia.1 0 2 r Φ (cM r ⟨b,n,c,e,Q⟩) E;refine cm.range (aL x).length (λq I=>k0 aH ac ad ak A R A9 aE n s t h (dI u C x (eE g x.un ((aL x).take q))) I) aq.le (by rw[cX];exact k0.same cV (Ext.refl _)) ?_ ?_
  .rintro q bk c0 bH aR c1;obtain⟨bl,c2,cb,aU,bK,c3⟩:=id aR;obtain⟨v,H⟩:=aF (l:=aL x) bH;have au:=x5 H;have bj:=E v au;obtain⟨G,rfl⟩:=T0 bj.1;have bm:(dI u C x (eE g x.un ((aL x).take q))).d6[C]?=σ {x with un:=eE g x.un ((aL x).take q)}:=Z3 bt;have dz:(eE g x.un ((aL x).take q)).length=x.un.length:=zy _ _;have bM:=wb (g:=g) ((aL x).take q) x.un (G:Int) (b9.sublist (List.take_sublist _ _)) (λy P=>E y (U1 P)) Ω;rw[m5 (zG b9 H),u9]at bM;have c4:=bS G;obtain⟨aW,aA,y,ao,look,bx⟩:=bu aU bm;refine bC Ω ?_;refine dk (λU=>k0 aH ac ad ak A R A9 aE n s t h (dI u C x (eE g x.un ((aL x).take (q+1)))) U) (λU W=>by rw[aM];exact c1 _ W) λc6 c7=>?_;have a2:∀{X:x3},Ext bk X->ab x7 (j4 aw y (Δ (G:Int))) X λa'=>aC x7 (o7 ap a' (Δ (g (x.un.getD G 0)))) X λ(_:Unit)U=>c6 U:=λbn=>by
    refine bx bn (by show G<(eE g x.un ((aL x).take q)).length;omega) λU W=>c7 _ (k0.comp bl bK c3 ?_);have e:dI (dI u C x (eE g x.un ((aL x).take q))) C {x with un:=eE g x.un ((aL x).take q)} ((eE g x.un ((aL x).take q)).set G (g (x.un.getD G 0)))=dI u C x (eE g x.un ((aL x).take (q+1))):=by
     rw[Hn H,u9,bM];unfold dI;simp only[List.set_set]
    rw[e]at W;exact W
   have cc:(eE g x.un ((aL x).take q))[G]?=σ (x.un.getD G 0):=by rw[getD_some Ω,bM]
   rw[be al.u ae.i Ψ (cY bl) H,bh,ai];refine⟨λB=>?_,λB=>?_⟩
   .intro j Z _ _;refine look Z (look Z ?_);rw[be aw.u ap.i Ψ (ao.W Z) cc];refine(wL Ω Ω).X ?_;rintro _ X _ ⟨rfl,ag⟩;refine⟨.inl ag,?_⟩;have:=a2 (Z.F ag);rw[S]at this;simp only[m3 (show a.kind=2 by omega)]at this;exact this
   .intro j Z _ _;refine look Z (look Z ?_);rw[be aw.u ap.i Ψ (ao.W Z) cc];refine(rm Ω Ω).X ?_;rintro _ X _ ⟨rfl,ag⟩;refine⟨.inl ag,?_⟩;have:=a2 (Z.F ag);rw[S]at this;simp only[m5 (show¬a.kind=2 by omega)]at this;exact this
  .rintro bk c0 aR;rw[o6]at aR;refine ci Ω ?_;have aR:=aR.Hk;obtain⟨bl,c2,cb,aU,bK⟩:=id aR;have cd:cb[2]?=σ (Δ u.zero):=by obtain⟨_,_,_,_,_,_,rfl,_⟩:=aU.qu;rfl
   have c8:=av.zero;have a2:∀{X:x3},Ext bk X->aC x7 (o7 ap (.pointer (σ ⟨ak,0+2,ν⟩)) (Δ (z u.zero))) X λ(_:Unit)U=>cN b6 U:=λbn=>by
    refine TG (aU.W bn) λU W=>bB _ _ ⟨?_,by rw[f]⟩;rw[f];have ce:=dC.comp (bn.aa _) (λq r E=>.inl ⟨q,E⟩) W;have a7:=dC.comp bl bK ce;exact low (dC.comp (N.aa _) (λq r E=>.inl ⟨q,E⟩) a7)
   rw[bh,ai];refine⟨λB=>?_,λB=>?_⟩
   .rw[aK a6.p 2 aU.box cd];refine(rm Ω Ω).X ?_;rintro _ X _ ⟨rfl,ag⟩;rw[bR,aT a6.p rfl];have:=a2 ag;rw[bJ]at this;simp only[m3 (show a.kind=2 by omega)]at this;exact this
   .rw[aK a6.p 2 aU.box cd];refine(wL Ω Ω).X ?_;rintro _ X _ ⟨rfl,ag⟩;rw[bR,aT a6.p rfl];have:=a2 ag;rw[bJ]at this;simp only[m5 (show¬a.kind=2 by omega)]at this;exact this
 .
  have cf:3<a.kind:=Ω
  have au:=cB cf;obtain⟨G,bp⟩:=T0 (E _ au).1;have bj:=(E _ au).2;have cg:eF u a.i a.v=σ x:=by unfold k1 at hm;rwa [m3 cf]at hm
  rw[bh,ai];refine⟨λa7=>?_,λa7=>?_⟩
  .have a7:a.kind=4:=Ω
   have f:cK n.k u a=if dW n.k u.zero (x.un.getD a.v.toNat 0)<n.k then(u,7)else(eD u a.i.toNat a.v.toNat,0):=by
    unfold cK;rw[m5 Ω,m5 Ω,m5 Ω,m5 Ω,m3 a7,cg]
   have c8:=av.zero;have c4:=bS G;intro V M _ _;have bG:cs[2]?=σ (Δ u.zero):=by obtain⟨_,_,_,_,_,_,rfl,_⟩:=p.qu;rfl
   obtain⟨aW,aA,y,ao,look,_⟩:=bu (O.W M) L;rw[aK a6.p 2 (O.box.W M) bG];refine look (Ext.refl _) ?_;rw[bp,be aw.u ap.i Ψ ao (getD_some Ω)];refine(rm Ω Ω).X ?_;rintro _ cQ _ ⟨rfl,aQ⟩;have cj:=M.F aQ;rw[bp,u9]at f;unfold dW at f;rw[aP,ai];refine⟨λa1=>?_,λbI=>?_⟩
   .rw[m3 a1]at f;exact⟨by rw[f],by rw[f];exact low (dC.same O cj)⟩
   .rw[m5 bI]at f;intro aH N _ _;have a8:=cj.F N;refine bZ a8 ?_;refine qv a8 ?_;have dA:=wC x;have c9:=av.c5.2.2;refine(Ue (aq.W a8) (by
     obtain⟨ck,cl⟩:=aF (l:=n.co) (i:=C) Ω;have h1:=(av.var C x ck L cl).1;have B:=c9 ck (x5 cl);omega)).X ?_
    rintro ct bk _ ⟨bm,⟨gz,da⟩,db⟩;refine⟨.inl bm,?_⟩;have dc:=a8.F bm;have dD:=a8.size;refine bX (m:=((x.mask.toNat ||| 2 ^ G:Nat):Int)) dc (gz:=gz) (by rw[show G=(G:Int).toNat from rfl,zE Ω];exact da) (λr E=>by have:=db r E;omega) λU W=>bB _ _ ⟨?_,by rw[f]⟩;rw[f,aJ,u9];unfold eD;rw[L];exact low W
  .have ce:a.kind=5:=Ω
   obtain⟨m,dd,de⟩:=Ad (i:=a.i.toNat) (v:=a.v) (aL x) u x (by rw[aJ,u9];exact L) λy P=>(E y P).1;have f:cK n.k u a=(gR u a.i.toNat a.v (aL x),0):=by
    unfold cK;rw[m5 Ω,m5 Ω,m5 Ω,m5 Ω,m5 Ω,cg]
   have df:aL {x with mask:=m}=[a.v]:=by
    rw[de,<-filter_one (tu x) au];refine List.filter_congr λy P=>?_;rw[m7 P,V8,Bool.not_not]
   rw[bh,ai];refine⟨λ_=>?_,λh=>Ω⟩;refine bZ (Ext.refl _) ?_;refine dr al.u ae.i rfl λv4 dE aH dF N cn=>?_;refine bX N (by rw[df];exact cn) (λr E=>by have:=bE cn E;omega) λU W=>bB _ _ ⟨?_,by rw[f]⟩;rw[f,dd,aJ,u9];exact low W
end
def Af(T:Nat)(acc:List cq)(s:aG):Prop:=∃M,(∀x∈acc,x.lines.length<=M)/\(∀q∈s.m2,q.2.length<=M)/\3*acc.length+M+s.d8.length<=T
theorem Uk{co:Λ}{s s':aG}{l:List (Λ×Int)}{M:Nat}(w:∀q∈s.m2,q.2.length<=M)(h:dM co s=σ (l,s')):
  s'.m2=s.m2/\∃e,M<=e/\l.length<=e/\e+s'.d8.length+1<=M+s.d8.length:=by
 unfold dM at h;cases f:bc (-au) au s with
 |none=>rw[f]at h;cases h
 |some q=>
  obtain⟨n,s1⟩:=q;rw[f]at h;simp only at h;have h1:=ds f;obtain⟨y,A,j⟩:=h1.eqs;have B:=h1.1;split at h
  .cases U:s1.m2[(-n-1).toNat]? with
   |none=>rw[U]at h;cases h
   |some q=>
    obtain⟨z,fx⟩:=q;rw[U]at h;simp only at h;split at h
    .simp only[Y8,T2]at h;obtain⟨rfl,rfl⟩:=h;have hm:=x5 U;rw[j]at hm;exact⟨j,M,p9 _,w _ hm,Ω⟩
    .cases h
  .have:=kH (λacc t=>t.m2=s.m2/\t.d8.length+acc.length<=s1.d8.length) (λacc t a t' ⟨p,x⟩ g=>by
    obtain⟨C,E,F,r⟩:=pY g;obtain⟨f1,f2,f3⟩:=r.eqs;exact⟨by rw[f3,p],by have:=r.1;simp only[p8,T4];omega⟩) n.toNat [] (ba (decide (16384<min (s1.m1+n) au)) {s1 with m1:=min (s1.m1+n) au}) l s' ⟨j,by simp[ba]⟩ h
   obtain⟨⟨p,x⟩,_⟩:=this;exact⟨p,M+l.length,Ω,Ω,Ω⟩
theorem Ul{all:Λ}{T:Nat}{acc:List cq}{s s':aG}{f:cq}(I:Af T acc s)(h:dl all s=σ (f,s')):Af T (acc++[f]) s':=by
 obtain⟨M,J,A,K⟩:=I;unfold dl at h;cases w:bc (-au) au s with
 |none=>rw[w]at h;cases h
 |some q=>
 obtain⟨a,s1⟩:=q;rw[w]at h;simp only at h;have t0:=ds w;cases h1:ff all.length a.natAbs s1 with
 |none=>rw[h1]at h;cases h
 |some q=>
 obtain⟨sc,s2⟩:=q;rw[h1]at h;simp only at h;obtain⟨B,_⟩:=u0 h1;generalize sc.map (λv=>all.getD v.toNat 0)=co at h;cases y:bc 0 au (ba (decide (6<a.natAbs)||dD co) s2)with
 |none=>rw[y]at h;cases h
 |some q=>
 obtain⟨other,z⟩:=q;rw[y]at h;simp only at h;have C:=ds y;have E:z.m2=s.m2:=by rw[C.eqs.2.2];show s2.m2=_;rw[B.eqs.2.2,t0.eqs.2.2]
 have L:z.d8.length+2<=s.d8.length:=by
  have:=t0.1;have:=B.1;have r:=C.1;have:(ba (decide (6<a.natAbs)||dD co) s2).d8.length=s2.d8.length:=rfl;omega
 cases r:dM co z with
 |none=>rw[r]at h;cases h
 |some q=>
 obtain⟨lines,j⟩:=q;rw[r]at h;simp only[Y8,T2]at h;obtain⟨rfl,rfl⟩:=h;obtain⟨g1,F,N,G,O⟩:=Uk (by rw[E];exact A) r;have H:∀q∈j.m2,q.2.length<=F:=λq e=>by rw[g1,E]at e;have:=A q e;omega
 refine⟨F,λx p=>?_,λq e=>?_,?_⟩
 .rcases o9.1 p with p|p
  .have:=J x p;omega
  .rw[b8.1 p];exact G
 .split at e
  .rcases o9.1 e with e|e
   .exact H q e
   .rw[b8.1 e];exact G
  .exact H q e
 .have:(if a<0 then{j with m2:=j.m2++[(co,lines)]}else j).d8=j.d8:=by split<;>rfl
  rw[this,p8,T4];omega
theorem Hs{M:Nat}:∀(l:List cq),(∀x∈l,x.lines.length<=M)->jM l<=l.length*M
 |[],_=>by simp[jM]
 |x::l,h=>by
  have h1:=Hs l λy a=>h y (.tail _ a);have e:=h x (.head _);unfold jM at h1 ⊢;rw[U3,List.sum_cons,Y3,T7,Nat.one_mul];omega
theorem Um{q:Λ}{f:b5}(U:q.length<=300)(h:eC q=σ f):jM f.d7<=16384/\f.d7.length<=100:=by
 have W:=q5 q.length q (p9 _);unfold eC at h;rw[m5 Ω]at h;cases e:iR ⟨(lex q).1,0,rs,[]⟩with
 |none=>rw[e]at h;cases h
 |some p=>
 obtain⟨X,s'⟩:=p;rw[e]at h;simp only at h;split at h
 rotate_left
 .cases h
 cases h;have r:(⟨(lex q).1,0,rs,[]⟩:aG).d8.length<=300:=by show(lex q).1.length<=300;omega
 have G:(⟨(lex q).1,0,rs,[]⟩:aG).m2=[]:=rfl;generalize (⟨(lex q).1,0,rs,[]⟩:aG)=s at e r G;unfold iR at e;cases w:dS s with
 |none=>rw[w]at e;cases e
 |some p=>
 obtain⟨name,s0⟩:=p;rw[w]at e;simp only at e;obtain⟨J,V⟩:=uZ w;have a0:s0.d8.length<=300/\s0.m2=[]:=⟨by rw[J]at r;simp at r;omega,by rw[V];exact G⟩;have num:∀{lo hi n:Int}{b:Bool}{s t:aG},(s.d8.length<=300/\s.m2=[])->bc lo hi (ba b s)=σ (n,t)->t.d8.length<=300/\t.m2=[]:=λ{lo hi n b s t}L N=>by
  have:=ds N;have h1:(ba b s).d8.length=t.d8.length+1:=this.1;have j:s.d8.length=t.d8.length+1:=h1;exact⟨Ω,by rw[this.eqs.2.2];exact L.2⟩
 cases h1:bc 1 au (ba (decide (64<name.length)) s0)with
 |none=>rw[h1]at e;cases e
 |some p=>
 obtain⟨n,s1⟩:=p;rw[h1]at e;simp only at e;have O:=num a0 h1;cases j:bc 1 au (ba (decide (64<n)) s1)with
 |none=>rw[j]at e;cases e
 |some p=>
 obtain⟨most,s2⟩:=p;rw[j]at e;simp only at e;have P:=num O j;cases x:bc 0 au s2 with
 |none=>rw[x]at e;cases e
 |some p=>
 obtain⟨count,y⟩:=p;rw[x]at e;simp only at e;have a3:y.d8.length<=300/\y.m2=[]:=by
  have:=ds x;exact⟨by have:=this.1;omega,by rw[this.eqs.2.2];exact P.2⟩
 cases A:bc 1 au (ba (decide (256<count)) y)with
 |none=>rw[A]at e;cases e
 |some p=>
 obtain⟨k,H⟩:=p;rw[A]at e;simp only at e;have a4:=num a3 A;cases B:c3 (fR most) n.toNat [] (ba (decide (2147483648<k)) H)with
 |none=>rw[B]at e;cases e
 |some p=>
 obtain⟨co,C⟩:=p;rw[B]at e;simp only at e;have I:=kH (λ(acc:Λ)t=>t.d8.length<=300/\t.m2=[]) (λacc t a t' g1 g=>by
  unfold fR at g;cases E:bc 1 most t with
  |none=>rw[E]at g;cases g
  |some p=>
   obtain⟨z,K⟩:=p;rw[E]at g;simp only[Y8,T2]at g;obtain⟨rfl,rfl⟩:=g;have:=ds E;exact⟨by show K.d8.length<=300;have:=this.1;omega,by show K.m2=[];rw[this.eqs.2.2];exact g1.2⟩) n.toNat [] (ba (decide (2147483648<k)) H) co C a4 B
 cases F:c3 (λ_ s=>dl co s) count.toNat [] C with
 |none=>rw[F]at e;cases e
 |some p=>
 obtain⟨d7,Q⟩:=p;rw[F]at e;simp only[Y8,T2]at e;obtain⟨rfl,rfl⟩:=e;obtain⟨⟨M,R,_,Y⟩,_⟩:=kH (Af 300) (λacc t a t' S g=>Ul S g) count.toNat [] C d7 Q ⟨0,Ξ,by rw[I.1.2];simp,by have:=I.1.1;simp;omega⟩ F;have Z:=Hs d7 R;show jM d7<=16384/\d7.length<=100;refine⟨?_,Ω⟩;have T:∀k<101,k*(300-3*k)<=16384:=Φ
 have aa:=Nat.mul_le_mul_left d7.length (show M<=300-3*d7.length by omega);have:=T d7.length Ω;omega
theorem Un{q:Λ}{f:b5}(a:q.length<=300)(h:eC q=σ f):jM f.d7<=16384:=(Um a h).1
def jv(A R:ah)(A9:Nat->ah)(aE:ah)(ak:Nat)(r:Nat):Prop:=A r\/R r\/(∃q,A9 q r)\/aE r\/r=ak
section
variable{P:ah}{iw w I:x3}{ac ad ak VQ VR VS:Nat}{A R aH R':ah}{A9 cv:Nat->ah}{aE GB:ah}{n:aD}{s s':am}{t t':av}{h bi:List av}{cs ck:List x1}{m bK:Nat}
variable{Z k2:ah}
end
theorem om(h:Laid w):0<w.heap.size:=by
 rcases Nat.eq_zero_or_pos w.heap.size with a|a
 .have e:=h 0 _ rfl
  grind [x3.cell?]
 .exact a
def fu(Z aE:ah)(w:x3)(ac ad ak:Nat)(n:aD)(s:am):Prop:=∃A R A9 t cs,ch w ac ad ak A R A9 aE n s s t [] cs/\(Laid w/\¬Z 0)/\(cd s/\e9 (di n) s/\n.d7.length<=256)/\(∀r,Z r↔jv A R A9 aE ak r)/\∀q r,A9 q r->r<w.heap.size
section
variable{Z aE S:ah}{w I J:x3}{ac ad ak:Nat}{A R:ah}{A9:Nat->ah}{n:aD}{s u:am}{t:av}{cs:List x1}
theorem fu.W(h:fu Z aE w ac ad ak n s)(a:Ext w I):fu Z aE I ac ad ak n s:=by
 obtain⟨A,R,A9,t,cs,p,⟨e,f⟩,j,x,y⟩:=h;exact⟨A,R,A9,t,cs,p.W a,⟨e.W a,f⟩,j,x,λq r z=>by have:=y q r z;have:=a.size;omega⟩
theorem fu.side(h:fu Z aE w ac ad ak n s)(a:af S w I)(C:∀r,Z r->¬S r)(f:¬S 0):fu Z aE I ac ad ak n s:=by
 obtain⟨A,R,A9,t,cs,p,⟨j,x⟩,y,z,B⟩:=h;refine⟨A,R,A9,t,cs,p.side a λr _ e=>?_,⟨gH a f j,x⟩,y,z,λq r e=>by have:=B q r e;have:=a.size;omega⟩
 grind [jv]
theorem fu.ok(h:fu Z aE w ac ad ak n s):aY n.k n.co s/\cd s/\e9 (di n) s/\n.d7.length<=256:=by
 obtain⟨A,R,A9,t,cs,p,_,a,_⟩:=h;exact⟨p.e7.2.2.2.1,a⟩
theorem fu.look(h:fu Z aE w ac ad ak n s):mi w ak n.k n.co s:=by
 obtain⟨A,R,A9,t,cs,p,_⟩:=h;exact p.look
theorem fu.step{J:x3}(p:ch w ac ad ak A R A9 aE n s u t [] cs)(z:∀r,Z r↔jv A R A9 aE ak r){u':am}(E:cd u'/\e9 (di n) u'/\n.d7.length<=256)(P:¬Z 0)(F:dC w ac ad ak A R A9 aE n s t [] u' J)(f:Ext J I)(hm:dp [] I ac ad A R n u' V):af (λr=>Z r/\¬aE r) w V/\∃k2,(∀r,k2 r->Z r\/w.heap.size<=r)/\fu k2 aE V ac ad ak n u':=by
 obtain⟨B,cv,ck,G,H⟩:=F;obtain⟨j,Q,aH,t',x,K,L,S⟩:=hm;have U:=B.size;have W:=f.size;have z3:=j.size;have y:=G.W f;have M:=y.prog j x K L.1 (by grind) Ω y.box.lt;have X:=p.G0;have N:af (λr=>Z r/\¬aE r) w V:=(((B.X (T:=λr=>Z r/\¬aE r) λr _ h=>⟨(z r).2 (h.elim (λh=>.inr (.inr (.inl h))) λh=>.inr (.inr (.inr (.inr h)))),h.elim (by grind) λh bi=>(p.read r bi).2.2 h⟩)).F (f.aa _)).F
  ((wh x.1 j).X λr _ h=>⟨(z r).2 (.inl h.1),λbi=>(y.read r bi).1 h.2⟩)
 have Y:=p.box.lt;have e:∀{r:Nat}{C:Prop},(C->jv A R A9 aE ak r)->C->Z r\/w.heap.size<=r:=by grind
 have O:∀r,jv aH R (λq r=>cv q r/\r<I.heap.size) aE ak r->Z r\/w.heap.size<=r:=by
  intro r a;rcases a with a|a|⟨q,a,_⟩|a|a
  .exact (x.2.1 r a).elim (e .inl) Ω
  .exact e (λh=>.inr (.inl h)) a
  .exact (H q r a).elim (e λh=>.inr (.inr (.inl h))) .inr
  .exact e (λh=>.inr (.inr (.inr (.inl h)))) a
  .exact e (λh=>.inr (.inr (.inr (.inr h)))) a
 exact⟨N,λr=>jv aH R (λq r=>cv q r/\r<I.heap.size) aE ak r,O,aH,R,_,t',ck,M,by grind,E,λr=>Iff.rfl,Ω⟩
theorem Uo(h:cd s/\e9 (di n) s/\n.d7.length<=256)(a:aY n.k n.co s)(m:ja):cd (cK n.k s m).1/\e9 (di n) (cK n.k s m).1/\n.d7.length<=256:=
 ⟨(Sh a h.1).2.1,h.2.1.F (Sp a),h.2.2⟩
theorem Up{m:ja}(p:ch w ac ad ak A R A9 aE n s u t [] cs)(a:aY n.k n.co u)(e:cd u)(hk:m.kind<=5):aj x7 xw [Γ ak,Δ (m.kind:Int),Δ m.i,Δ m.pos,Δ m.v,Δ m.c] w λr I=>r=Δ (cK n.k u m).2/\dC w ac ad ak A R A9 aE n s t [] (cK n.k u m).1 I:=by
 by_cases h:m.kind<2
 .exact TY p a e h
 .exact Uj p a Ω
theorem Uq{B:Nat}{e:x3}{ak:Nat}{j:x1}{cs:List x1}{f:b5}(w:wp B V j cs f)(x:Ext V e)(y:ag e ak a6 cs)(z:V.heap.size<=ak)(G:B<=V.heap.size)(H:0<B)(C:Laid e):
  ∃ac ad Z aE,j=Γ ac/\fu Z aE e ac ad ak (df f) (di (df f))/\∀r,Z r->B<=r:=by
 obtain⟨ac,ad,A,R,A9,aE,t,rfl,p,_,I,J,_,_,E,_,K,L⟩:=Ss w x y z;have F:=p.olds;have s:∀r,jv A R (λq r=>A9 q r/\r<e.heap.size) aE ak r->B<=r:=by
  intro r a;rcases a with a|a|⟨q,a,_⟩|a|a
  all_goals grind
 exact⟨ac,ad,_,aE,rfl,⟨A,R,_,t,cs,F,⟨C,λh=>by have:=s 0 h;omega⟩,⟨GI _,e9.rfl,E⟩,λr=>Iff.rfl,λq r a=>a.2⟩,s⟩
end
abbrev ko:Type:=nP .u8×Int×Int×Int×Int
structure fY where
 d:Int
 i:Int
 pos:Int
 v:Int
 c:Int
def fY.ok(a:fY):Prop:=0<=a.d/\a.d<256
def fY.kind(a:fY):Nat:=(a.d % 7).toNat
def fY.bO(a:fY):List x1:=[.int .u8 a.d,Δ a.i,Δ a.pos,Δ a.v,Δ a.c]
def lG(x:ko):fY:=⟨x.1.val,x.2.1,x.2.2.1,x.2.2.2.1,x.2.2.2.2⟩
theorem Ur{R:ah}{cs:List x1}{x:ko}(h:Seen R w cs x):cs=(lG x).bO:=by
 obtain⟨q,_,_,_,rfl,_,_,_,a,r,_,_,_,rfl,_,_,_,e,s,_,_,_,rfl,_,_,_,f,y,z,_,_,rfl,_,_,_,j,p⟩:=h;have a:=a;have e:=e;have f:=f;have j:=j;have p:=p;subst a e f j p;rfl
theorem Us{x:ko}(h:(o5.u8.min<=x.1.val/\x.1.val<=o5.u8.max)/\(Y7.min<=x.2.1/\x.2.1<=Y7.max)/\(Y7.min<=x.2.2.1/\x.2.2.1<=Y7.max)/\(Y7.min<=x.2.2.2.1/\x.2.2.2.1<=Y7.max)/\(Y7.min<=x.2.2.2.2/\x.2.2.2.2<=Y7.max)):(lG x).ok:=by
 have a:o5.u8.min=0:=Φ
 have e:o5.u8.max=255:=Φ
 rw[a,e]at h;exact⟨h.1.1,by have:=h.1.2;show x.1.val<256;omega⟩
theorem fY.one(a:fY):∀u∈a.bO,u.oneCell'=ro:=by
 intro u e;unfold fY.bO at e;simp only[T5,List.not_mem_nil,or_false]at e;rcases e with rfl|rfl|rfl|rfl|rfl<;>rfl
theorem fY.Ut(a:fY):a.kind<7:=by
 grind [fY.kind]
def Ht(k:Int)(a:fY):Int:=a.c.emod 18446744073709551616 % (k+1)
def mq(k:Int)(a:fY):ja:=⟨a.kind,a.i,a.pos,a.v,Ht k a⟩
def k3(n:aD)(s:am)(a:fY):am:=if a.kind=6 then(if e8 n a.i a.v then eD s a.i.toNat a.v.toNat else s)else(cK n.k s (mq n.k a)).1
theorem Ag{d:Int}{K:x1->Prop}(h:0<=d):ab x7 (aO .rem cM rs ro (.int .u8 d) (.int .u8 7)) w K=K (.int .u8 (((d % 7).toNat:Nat):Int)):=by
 rw[sr Φ,Int.tmod_eq_emod_of_nonneg h]
 grind
section
variable{w:x3}{ac ad ak:Nat}{A R:ah}{A9:Nat->ah}{aE:ah}{n:aD}{s u:am}{t:av}{h:List av}{cs:List x1}{a:fY}
theorem Hu(a:aY n.k n.co s){i:Int}(h:e8 n i v):0<=i/\∃x,s.d6[i.toNat]?=σ x/\0<=v/\v<x.un.length:=by
 obtain⟨x,e,h1,_,f⟩:=h.var a;exact⟨h.1,x,e,h.2.2.1,Ω⟩
theorem Uu(f:cd s/\e9 (di n) s/\n.d7.length<=256)(j:aY n.k n.co s):cd (k3 n s a)/\e9 (di n) (k3 n s a)/\n.d7.length<=256:=by
 unfold k3;split
 .split
  .rename_i h;obtain⟨r,x,p,w,_⟩:=Hu j h;have e:=oe (v:=a.v) p;have q:e9 s (eD s a.i.toNat a.v.toNat):=zJ (v:=a.v);exact⟨by grind [cd.d6],f.2.1.F q,f.2.2⟩
  .exact f
 grind [Uo]
theorem Uv(p:ch w ac ad ak A R A9 aE n s u t h cs){i:Nat}{x:bs}(a:u.d6[i]?=σ x):∃g cap y gy e,cs[3]?=σ (.slice (σ ⟨g,0,ν⟩) u.d6.length cap)/\w.cell? ⟨g,0+i*1,ν⟩=σ y/\ao .i64 e w gy y (aL x)/\(∀r,li y r->A9 0 r)/\
  ∀{J V:x3}{m:Int}{z:x1}{K:Unit->x3->Prop},Ext w J->af (λr=>li y r) J V->ao .i64 e V gy z (aL {x with mask:=m})->(∀r,li z r->li y r)->(∀G,dC w ac ad ak A R A9 aE n s t h {u with d6:=u.d6.set i {x with mask:=m}} G->K () G)->
   aC x7 (o7 al (.pointer (σ ⟨g,0+i*1,ν⟩)) z) V K:=by
 have H:=p.olds;have ax:=(x4.1 a).1;obtain⟨d9,W,ay,az,aA,aB,X,_,Y,_,_,_,_,aD⟩:=id H.doc;obtain⟨g,cap,full,Z,c,ab,e,j,aF,B,I,L,aG,aH,ae⟩:=Gt Y (by rw[x8,a];rfl) (by grind);obtain⟨y,rfl⟩:=X6.1 (aq.len L);rw[o4]at e;have ah:full[i]?=σ y:=by have:=I 0 y rfl;simpa[show aq.n (Λ)=1 from rfl]using this
 obtain⟨gy,ai,aj,am⟩:=Cl L;have aI:∀r,li y r->ab r:=λr f=>by
  rcases am with rfl|aJ
  .obtain⟨_,_,_,e,_⟩:=f;cases e
  grind [bE]
 refine⟨g,cap,y,gy,ai,by grind,by have:=j.cell ah;grind,aj,by grind,λ{J V m M K}C E N an ap=>?_⟩;have aK:=C.size;have aM:=E.size;have B:i*1+1<=full.length:=B;obtain⟨_,_,_,O⟩:=cP N.ls;have P:¬li y g:=by grind
 refine bt (o:=0+i*1) al.i (by rw[O];rfl) (by rw[O];rfl) ((j.W C).aa E P) Ω λQ S aN U=>?_;have U:ag Q g Z (over full (i*1) [M]):=by
  have e:=Gx (o:=i*1) (q:=0) (x:=M) I B Ξ
  grind
 have aO:g<w.heap.size:=j.lt;have F:af (λr=>li y r\/r=g) w Q:=((C.aa _).F (E.X (by grind))).F (S.X Ω);have au:=bk N S λr f he=>by have he:r=g:=he;exact P (he▸an r f)
 have aP:=ae F (by grind) U (pb au) (by grind);have av:∀r,r<w.heap.size->(li y r\/r=g)->A9 0 r/\r<w.heap.size:=by grind
 obtain⟨cv,aw,aQ⟩:=H.qv (u':={u with d6:=u.d6.set i {x with mask:=m}}) Ω (v:=W) (by rw[X];rfl) F av (by grind [V3]) rfl (rT a rfl) (rT a rfl) rfl rfl;refine ap _ ⟨F.X (by grind),cv,cs,aw,λq r f=>?_⟩
 grind
end
section
variable{Z aE:ah}{w I:x3}{ac ad ak:Nat}{A R:ah}{A9:Nat->ah}{n:aD}{s s':am}{t:av}{cs:List x1}{a:fY}
def lH(Z aE:ah)(w:x3)(ac ad ak:Nat)(n:aD)(s':am)(I:x3):Prop:=af (λr=>Z r/\¬aE r) w I/\∃k2,(∀r,k2 r->Z r\/w.heap.size<=r)/\fu k2 aE I ac ad ak n s'
theorem fu.Uw{aH:ah}{cv:Nat->ah}{t':av}(p:ch w ac ad ak A R A9 aE n s s t [] cs)(f:∀r,Z r↔jv A R A9 aE ak r)(I:cd s'/\e9 (di n) s'/\n.d7.length<=256)(x:¬Z 0)(K:Laid w)(y:af (du w) w J)(z:Grow A w aH J)(j:∀q r,cv q r->A9 q r)(L:dC J ac ad ak aH R cv aE n s' t' [] s' V):lH Z aE w ac ad ak n s' V:=by
 obtain⟨B,C,ck,M,N⟩:=L;have Q:=y.size;have S:=B.size;have O:=p.G0;have E:af (λr=>Z r/\¬aE r) w V:=((wh z.1 y).X (T:=λr=>Z r/\¬aE r) λr _ h=>⟨(f r).2 (.inl h.1),λbi=>(p.read r bi).1 h.2⟩).F
  (B.X λr _ h=>⟨(f r).2 (h.elim (λ⟨q,h⟩=>.inr (.inr (.inl ⟨q,j q r h⟩))) λh=>.inr (.inr (.inr (.inr h)))),h.elim (λ⟨q,h⟩=>O q r (j q r h)) λh bi=>(p.read r bi).2.2 h⟩)
 have U:=p.box.lt;have e:∀{r:Nat}{F:Prop},(F->jv A R A9 aE ak r)->F->Z r\/w.heap.size<=r:=λP h=>.inl ((f _).2 (P h));have G:∀r,jv aH R (λq r=>C q r/\r<V.heap.size) aE ak r->Z r\/w.heap.size<=r:=by
  intro r a;rcases a with a|a|⟨q,a,_⟩|a|a
  .exact (z.2.1 r a).elim (e .inl) .inr
  .exact e (λh=>.inr (.inl h)) a
  .exact (N q r a).elim (λ⟨H,h⟩=>e (λh=>.inr (.inr (.inl h))) ⟨H,j H r h⟩) λh=>.inr Ω
  .exact e (λh=>.inr (.inr (.inr (.inl h)))) a
  .exact e (λh=>.inr (.inr (.inr (.inr h)))) a
 exact⟨E,λr=>jv aH R (λq r=>C q r/\r<V.heap.size) aE ak r,G,aH,R,_,t',ck,M.olds,⟨gH E (λh=>x h.1) K,λh=>(G 0 h).elim x λh=>Ω⟩,I,λr=>Iff.rfl,λq r a=>a.2⟩
theorem lH.same(h:fu Z aE w ac ad ak n s)(a:Ext w I):lH Z aE w ac ad ak n s I:=⟨a.aa _,Z,λ_ h=>.inl h,h.W a⟩
theorem lH.before(a:Ext w J)(h:lH Z aE J ac ad ak n s I):lH Z aE w ac ad ak n s I:=by
 obtain⟨c,k2,e,f⟩:=h;have:=a.size;exact⟨(a.aa _).F c,k2,λr j=>(e r j).imp id λh=>Ω,f⟩
end
def wP(s:am):Prop:=∀f∈s.d7,f.live≠0
theorem Ux(n:aD):wP (di n):=by
 intro f a;unfold di at a;obtain⟨g,_,rfl⟩:=o8.1 a;exact(by decide:(1:Int)≠0)
theorem Uy{a b:am}(h:e9 a b)(k:wP a):wP b:=by
 intro g q;obtain⟨j,e⟩:=List.getElem?_of_mem q;have r:=(x4.1 e).1;obtain⟨f,p⟩:=aF (l:=a.d7) (i:=j) (by have:=h.d7;omega);rw[(h.fn j f g p e).2.2.1];exact k f (x5 p)
section
variable{w:x3}{ac ad:Nat}{A R:ah}{n:aD}{s:am}{t:av}{eB:x1}
end
section
variable{w0 w I:x3}{ac ad ak:Nat}{n:aD}{s:am}{Z aE:ah}
end
theorem fu.live{Z aE:ah}{ac ad ak:Nat}{n:aD}{s:am}(h:fu Z aE w ac ad ak n s):wP s/\s.d7.length<=256:=by
 obtain⟨_,_,a,e⟩:=h.ok;refine⟨Uy a (Ux n),?_⟩;rw[a.d7];unfold di;rw[o4];exact e
theorem Uz{n:aD}{s:am}{i:Nat}{x:bs}(h:e9 (di n) s)(e:s.d6[i]?=σ x):x.gone=0:=by
 obtain⟨y,a⟩:=aF (l:=(di n).d6) (i:=i) (by have:=(x4.1 e).1;have:=h.d6;omega);rw[(h.var i y x a e).1];unfold di at a;simp only[x8,Y0]at a;obtain⟨u,_,rfl⟩:=a;rfl
section
variable{w:x3}{n:aD}{ac ad ak:Nat}
end
section
variable{an:List av}{w J V:x3}{ac ad ak:Nat}{A R S Z aE:ah}{n:aD}{s s0 s1:am}{cs:List x1}
theorem dp.open(h:dp an w ac ad A R n s1 J):∃a e,bd J ac ad a R n s1 e/\Laid J/\¬a 0/\cV an e/\∀{s2:am}{V:x3},dp an J ac ad a R n s2 V->dp an w ac ad A R n s2 V:=by
 obtain⟨h1,f,a,e,j,p,q,r⟩:=h;refine⟨a,e,p,f,r,q,λ{s2 V}k=>?_⟩;obtain⟨s,x,y,z,B,C,E,F⟩:=k;exact⟨nc h1 s,x,y,z,j.F B,C,E,F⟩
theorem dp.W(h:dp an w ac ad A R n s1 J)(a:Ext J V):dp an w ac ad A R n s1 V:=by
 obtain⟨p,q,h1,e,f,j,k⟩:=h.open;exact k (.same h1 e f j a)
def jd(an:List av)(Z aE:ah)(w:x3)(ac ad ak:Nat)(n:aD)(s s0:am)(cs:List x1):Prop:=∃A R A9 t,ch w ac ad ak A R A9 aE n s s0 t an cs/\(Laid w/\¬Z 0/\pn t)/\(∀r,Z r↔jv A R A9 aE ak r)/\∀q r,A9 q r->r<w.heap.size
theorem jd.lt(h:jd an Z aE w ac ad ak n s s0 cs):∀r,Z r->r<w.heap.size:=by
 obtain⟨A,R,A9,t,p,_,e,f⟩:=h;intro r a;rcases(e r).1 a with a|a|⟨q,a⟩|a|a
 .exact qt p.e7 r (.inl a)
 .exact qt p.e7 r (.inr a)
 .grind
 .exact (p.read r a).2.1
 .subst a;exact p.box.lt
theorem jd.W(h:jd an Z aE w ac ad ak n s s0 cs)(a:Ext w J):jd an Z aE J ac ad ak n s s0 cs:=by
 obtain⟨A,R,A9,t,p,⟨e,f⟩,j,x⟩:=h;exact⟨A,R,A9,t,p.W a,⟨e.W a,f⟩,j,λq r y=>by have:=x q r y;have:=a.size;omega⟩
theorem jd.side(h:jd an Z aE w ac ad ak n s s0 cs)(a:af S w J)(B:∀r,Z r->¬S r)(f:¬S 0):jd an Z aE J ac ad ak n s s0 cs:=by
 obtain⟨A,R,A9,t,p,⟨j,x⟩,y,z⟩:=h;refine⟨A,R,A9,t,p.side a λr _ e=>?_,⟨gH a f j,x⟩,y,λq r e=>by have:=z q r e;have:=a.size;omega⟩
 grind [jv]
theorem jd.ok(h:jd an Z aE w ac ad ak n s s0 cs):aY n.k n.co s/\lC w (.agg cs.toArray) n.k n.co s0:=by
 obtain⟨A,R,A9,t,p,_⟩:=h;exact⟨p.e7.2.2.2.1,p.doc.Gp⟩
theorem fu.bD(h:fu Z aE w ac ad ak n s):∃cs,jd [] Z aE w ac ad ak n s s cs/\ag w ak a6 cs:=by
 obtain⟨A,R,A9,t,cs,p,⟨a,e⟩,q,f,j⟩:=h;exact⟨cs,⟨A,R,A9,t,p,⟨a,e,p.jN.m.2⟩,f,j⟩,p.box⟩
end
theorem UA{k:Int}{co:Λ}{s:am}(a:aY k co s)(e:s.d7.length<=1000):s.cells.length<=10000000:=by
 have q:=a.d6;have r:=a.c5.2.1;have h1:=kz (L:=s.d6) (f:=iD) (b:=34) λx p=>by
  obtain⟨i,hi⟩:=c9.1 p;obtain⟨z,h⟩:=aF (l:=co) (i:=i) (by grind);have:=(a.var i x z hi h).1;have:=a.c5.2.2 z (x5 h);show x.un.length+1+1<=34;omega
 have w:=kz (L:=s.d7) (f:=fT) (b:=4097) λf e=>by
  obtain⟨j,_⟩:=a.d7 f e;have:=j.len;have:=j.small;show f.cs.length+1<=4097
  grind
 grind [am.cells,kO]
section
variable{w:x3}{ac ad ak:Nat}{Z aE:ah}{n:aD}{s s0:am}{cs:List x1}
def je(an:List av)(S:ah)(w:x3)(ac ad:Nat)(n:aD)(s s0:am)(cs:List x1):Prop:=∃ak Z aE,jd an Z aE w ac ad ak n s s0 cs/\(∀r,Z r->¬S r)/\∀r,S r->r<w.heap.size
variable{an:List av}{S:ah}{I:x3}
theorem je.W(h:je an S w ac ad n s s0 cs)(a:Ext w I):je an S I ac ad n s s0 cs:=by
 obtain⟨ak,Z,aE,h1,e,f⟩:=h;have:=a.size;exact⟨ak,Z,aE,h1.W a,e,by grind⟩
theorem je.start{a:x3}{B:Nat}{ak:Nat}{Z aE:ah}(e:jd [] Z aE V ac ad ak n s s0 cs)(p:∀r,Z r->B<=r)(f:Ext V a)(q:B<=V.heap.size):je [] (λr=>r<B\/(V.heap.size<=r/\r<a.heap.size)) a ac ad n s s0 cs:=by
 have:=f.size;exact⟨ak,Z,aE,e.W f,λr j h=>by have:=p r j;have:=e.lt r j;omega,Ω⟩
theorem je.own(h:je an S w ac ad n s s0 cs)(a:Ext w I):je an (λr=>S r\/(w.heap.size<=r/\r<I.heap.size)) I ac ad n s s0 cs:=by
 obtain⟨ak,Z,aE,h1,f,j⟩:=h;have:=a.size;exact⟨ak,Z,aE,h1.W a,λr e h=>h.elim (f r e) λh=>by have:=h1.lt r e;omega,by grind⟩
end
def fZ(an:List av)(w:x3)(ac ad:Nat)(A R:ah)(n:aD)(s':am)(I:x3):Prop:=
 af (du w) w I/\Laid I/\∃aH R' t',Grow A w aH I/\bd I ac ad aH R' n s' t'/\cV an t'/\¬aH 0/\∀r,R' r->R r\/w.heap.size<=r
section
variable{an:List av}{w J V:x3}{ac ad ak:Nat}{A R S Z aE:ah}{n:aD}{s s0 s1:am}{cs:List x1}{t:av}
theorem fZ.same(h:bd w ac ad A R n s t)(e:Laid w)(f:¬A 0)(j:cV an t)(a:Ext w J):fZ an w ac ad A R n s J:=
 ⟨a.aa _,e.W a,A,R,t,Grow.W a,h.W a,j,f,λ_ h=>.inl h⟩
theorem fZ.open(h:fZ an w ac ad A R n s1 J):∃a e f,bd J ac ad a e n s1 f/\Laid J/\¬a 0/\cV an f/\(∀r,a r->A r\/w.heap.size<=r)/\∀{s2:am}{V:x3},fZ an J ac ad a e n s2 V->fZ an w ac ad A R n s2 V:=by
 obtain⟨h1,p,a,e,f,j,q,s,x,y⟩:=h;refine⟨a,e,f,q,p,x,s,j.2.1,λ{s2 V}k=>?_⟩;obtain⟨B,C,E,F,G,H,I,K,L,M⟩:=k;have z:=h1.size;exact⟨nc h1 B,C,E,F,G,j.F H,I,K,L,λr N=>(M r N).elim (y r) λh=>.inr Ω⟩
theorem fZ.W(h:fZ an w ac ad A R n s1 J)(a:Ext J V):fZ an w ac ad A R n s1 V:=by
 obtain⟨p,q,r,h1,e,f,j,_,k⟩:=h.open;exact k (.same h1 e f j a)
theorem fZ.ahead(a:Ext w J)(h:fZ an J ac ad A R n s1 V):fZ an w ac ad A R n s1 V:=by
 obtain⟨h1,e,f,j,p,q,s,x,y,B⟩:=h;have z:=a.size;exact⟨gA a h1,e,f,j,p,(Grow.W a).F q,s,x,y,λr C=>(B r C).imp id λh=>Ω⟩
theorem pn.app{t t':av}{l:List Cell}(h:pn t)(hm:t'.marks=t.marks)(a:t'.cells=t.cells++l)(e:t'.cells.length<=40000000)(f:t'.olds=t.olds):pn t':=λm j=>by
 obtain⟨h1,p⟩:=h m (hm▸j);refine⟨⟨h1.1,e⟩,?_⟩;rw[f,a,List.countP_append];omega
theorem jd.mr(h:jd an Z aE w ac ad ak n s s0 cs):∃A R t,bd w ac ad A R n s t/\Laid w/\¬A 0/\cV an t/\∀{J V:x3}{s1:am},Ext w J->fZ an J ac ad A R n s1 V->af (λr=>Z r/\¬aE r) w V/\∃k2,(∀r,k2 r->Z r\/w.heap.size<=r)/\jd an k2 aE V ac ad ak n s1 s0 cs:=by
 obtain⟨A,R,A9,t,p,⟨I,y,a⟩,z,K⟩:=h;refine⟨A,R,t,p.e7,I,λh=>y ((z 0).2 (.inl h)),⟨p.jN,a⟩,λ{J V s1}f hm=>?_⟩;obtain⟨j,L,aH,R',t',x,M,C,O,E⟩:=hm;have P:=f.size;have z3:=j.size;have F:=p.W f;have N:=F.prog (B:=w.heap.size) j x M C.1 (λr a=>(E r a).imp id λh=>Ω) (λq r h _=>K q r h) p.box.lt;have e:∀{r:Nat}{G:Prop},(G->jv A R A9 aE ak r)->G->Z r\/w.heap.size<=r:=by grind
 have H:∀r,jv aH R' (λq r=>A9 q r/\r<J.heap.size) aE ak r->Z r\/w.heap.size<=r:=by
  intro r a;rcases a with a|a|⟨q,a,_⟩|a|a
  .exact (x.2.1 r a).elim (e .inl) Ω
  .exact (E r a).elim (e (λh=>.inr (.inl h))) λh=>.inr Ω
  .exact e (λh=>.inr (.inr (.inl ⟨q,h⟩))) a
  .exact e (λh=>.inr (.inr (.inr (.inl h)))) a
  .exact e (λh=>.inr (.inr (.inr (.inr h)))) a
 exact⟨(f.aa _).F ((wh x.1 j).X λr _ h=>⟨(z r).2 (.inl h.1),λbi=>(F.read r bi).1 h.2⟩),λr=>jv aH R' (λq r=>A9 q r/\r<J.heap.size) aE ak r,H,aH,R',_,t',N,⟨L,λh=>(H 0 h).elim y λh=>by have:=p.box.lt;omega,C.2⟩,λr=>Iff.rfl,Ω⟩
theorem je.mr(h:je an S w ac ad n s s0 cs):∃A R t,bd w ac ad A R n s t/\Laid w/\¬A 0/\cV an t/\∀{J V:x3}{s1:am},Ext w J->fZ an J ac ad A R n s1 V->af (λr=>¬S r) w V/\je an S V ac ad n s1 s0 cs:=by
 obtain⟨ak,Z,aE,h1,a,e⟩:=h;obtain⟨A,R,t,j,p,q,x,y⟩:=h1.mr;refine⟨A,R,t,j,p,q,x,λ{J V s1}B hm=>?_⟩;obtain⟨f,k2,C,E⟩:=y B hm;have z:=f.size;exact⟨f.X λr _ h=>a r h.1,ak,k2,aE,E,λr F U=>(C r F).elim (λh=>a r h U) λh=>by have:=e r U;omega,λr U=>by have:=e r U;omega⟩
end
def jw{α:Type}(a b:List α)(i:Nat):List α:=a.take i++b.drop i
theorem Hv{α:Type}{a b:List α}(h:a.length=b.length):jw a b b.length=a:=by
 grind [jw]
theorem Hw{α:Type}{a b:List α}{i:Nat}(h:a.length=b.length)(hi:i<b.length):(jw a b i)[i]?=b[i]?:=by
 grind [jw]
theorem Hx{α:Type}{a b:List α}{i:Nat}{x:α}(h:a.length=b.length)(e:a[i]?=σ x):(jw a b i).set i x=jw a b (i+1):=by
 have f:=(x4.1 e).1;refine j5 λj=>?_
 grind [jw]
theorem cV.olds{an:List av}{t:av}(h:cV an t):t.olds.length<=80000000:=by
 obtain⟨h1,f⟩:=h;cases hm:t.marks.getLast? with
 |none=>
  have j:=List.getLast?_eq_none_iff.1 hm;have e:=h1.len;rw[j]at e;cases an with
  |nil=>rw[h1.2.1];simp
  |cons a l=>simp at e
 |some m=>
  obtain⟨⟨q,r⟩,s⟩:=f m hm;have:=List.countP_le_length (p:=λc:Cell=>decide (c.st=m.st)) (l:=t.cells);omega
theorem cV.grow{an:List av}{t:av}{n:Nat}(h:cV an t)(a:t.cells.length+n<=40000000):cV an (t.grow n):=
 ⟨h.1.grow,h.2.app (t':=t.grow n) (l:=r8 n ⟨0,0⟩) rfl rfl (by show(t.cells++r8 n _).length<=_;simp;exact a) rfl⟩
theorem cV.put{an:List av}{s:am}{t:av}(h:cV an t)(f:t.cells.length+cs.length+1<=40000000):cV an (oa s t cs):=by
 have a:∀i,cV an (gx t (1::cs) i):=λi=>by
  induction i with
  |zero=>exact h.grow Θ
  |succ i e=>exact e.set
 exact(a _).set
section
variable{an:List av}{w J V:x3}{ac ad:Nat}{A R aH R':ah}{n:aD}{s s1 s2 s':am}{t t':av}
theorem dp.UB(h:dp an w ac ad A R n s1 J):∃e a,bd J ac ad e R n s1 a/\Room a/\Laid J/\∀{s2:am}{v:x1}{V f:x3},Ext J V->oc V ac ad e R n s2 a v f->dp an w ac ad A R n s2 f:=by
 obtain⟨e,a,h1,j,r,s,k⟩:=h.open;refine⟨e,a,h1,s.room,j,λ{s2 v V f}y U=>k ?_⟩;obtain⟨_,z,aH,p,x,q,B⟩:=U.W y;have:=om j;exact⟨z,gH q.1 r j,aH,_,q,B,s.set,λh=>(q.2.1 0 h).elim r Ω⟩
theorem Ah{w:x3}{g:Nat}{e:r9}{cs:List x1}(a:ag w g e cs)(f:af (du w) w I)(he:¬(e=fC\/e=eH\/e=lf\/e=fQ\/e=bX\/e=dq\/e=ca)):ag I g e cs:=a.aa f (zo a he)
theorem Ai{w:x3}{g e:Nat}{sv:x1}{szs:Λ}{k:Int}(h:ce w g e sv szs k cs)(a:af (du w) w I):ce I g e sv szs k cs:=by
 obtain⟨⟨a1,gs,f,hm,j⟩,p⟩:=h;exact⟨⟨a1,gs,Ah f a Φ,ob hm a Φ,ob j a Φ⟩,p⟩
def eY(n:aD)(s:am)(sc cs:Λ)(q:Nat):am:=match sc with
 |[]=>if q=0 then s else eG n s [] cs
 |[v]=>match s.d6[v.toNat]? with
  |some x=>dI s v.toNat x (jw (bV n.k x.un cs) x.un q)
  |none=>s
 |_=>match kW s sc with
  |some j=>match s.d7[j]? with
   |some f=>dA s j f (jw (bV n.k f.cs cs) f.cs q)
   |none=>s
  |none=>s
theorem UC{i:Nat}{x:bs}(h:s.d6[i]?=σ x):dI s i x x.un=s:=by
 have:s.d6.set i x=s.d6:=by
  apply j5;intro j;rw[Y4];by_cases e:i=j
  .subst e;rw[m3 rfl,m3 (x4.1 h).1,h]
  .rw[m5 e]
 unfold dI;show{s with d6:=s.d6.set i x}=s;rw[this]
theorem UD{f:bH}(h:s.d7[j]?=σ f):dA s j f f.cs=s:=by
 have:s.d7.set j f=s.d7:=by
  apply j5;intro q;rw[Y4];by_cases e:j=q
  .subst e;rw[m3 rfl,m3 (x4.1 h).1,h]
  .rw[m5 e]
 unfold dA;show{s with d7:=s.d7.set j f}=s;rw[this]
theorem UE{n:aD}{s:am}{f:bH}(e:2<=sc.length)(a:kW s sc=σ j)(h:s.d7[j]?=σ f)(q:Nat):eY n s sc cs q=dA s j f (jw (bV n.k f.cs cs) f.cs q):=by
 match sc,e,a with
 |u::v::sc,_,a=>
  unfold eY;simp only[a,h]
theorem UF{n:aD}{s:am}(q:aY n.k n.co s)(r:ey n.co n.k (sc,cs)):eY n s sc cs 0=s:=by
   rcases tF q r with⟨rfl,_⟩|⟨v,y,rfl,h,_⟩|⟨j,f,e,a,p,_⟩|⟨e,a,_⟩
   .rfl
   .unfold eY;simp only[h];exact UC h
   .match sc,e,a with
    |u::v::sc,_,a=>
     unfold eY;simp only[a,p];exact UD p
   .match sc,e,a with
    |u::v::sc,_,a=>
     unfold eY;simp only[a]
theorem UG{n:aD}{s:am}{N:Nat}{q:Int}(w:aY n.k n.co s)(x:ey n.co n.k (sc,cs))(E:N=cs.length)(z:sc=[]->N≠0)(h:q=ol s sc)(A:¬(1<sc.length/\q<0)):eY n s sc cs N=eG n s sc cs:=by
   rcases tF w x with⟨rfl,e⟩|⟨v,y,rfl,B,p,e⟩|⟨j,f,r,a,C,_,_,_,p,e⟩|⟨r,a,_⟩
   .have:N≠0:=z rfl;show(if N=0 then s else eG n s [] cs)=_;rw[m5 this]
   .rw[e];unfold eY;simp only[B];rw[show N=y.un.length by omega,Hv (by simp[bV,p])]
   .rw[e]
    match sc,r,a with
    |u::v::sc,_,a=>
     unfold eY;simp only[a,C];rw[show N=f.cs.length by omega,Hv (by simp[bV,p])]
   .unfold ol at h;rw[a]at h;exact m6 ⟨Ω,by simp only at h;omega⟩ A
theorem UH{aJ ah:x1}{g bT bI:Nat}(h:bd w ac ad A R n s t)(bb:Laid w)(aX:¬A 0)(bc:cV an t)(aD:ao .i64 ae w bI aJ sc)(cu:∀r,li aJ r->¬A r)(bf:ce w g bT ah (aB n.co sc) n.k cs)(cw:¬A g/\¬A bT/\∀r,li ah r->¬A r)(aE:ey n.co n.k (sc,cs))(cz:∀v∈sc,cf s v.toNat=rs)(dz:s.d7.length<=999):
  aj x7 Jo [Γ ac,aJ,Γ g] w λ_ I=>af (du w) w I/\Laid I/\∃aH R' t',Grow A w aH I/\bd I ac ad aH R' n (eG n s sc cs) t'/\cV an t'/\¬aH 0/\∀r,R' r->R r\/li ah r\/w.heap.size<=r:=by
 have C:=h.2.2.2.1;have hk:=C.dH;have dC:=om bb;obtain⟨ak,bU,aY,bi,cA,bj⟩:=id aE;simp only at ak bU aY bi cA bj;have bk:bS (aB n.co sc):=z6 C (λv aG=>⟨(ak.1 v aG).1,aY v aG⟩) ak.2;have dD:=UA C Ω;have dE:t.cells.length=s.cells.length:=by
  have:=congrArg List.length h.2.1;simpa[av.bO]using this
 refine jj func96 ?_;refine bm λg1 J dF cB p=>?_;refine bm λcC V dG bW x=>?_;refine bm λdJ cD dK bl L=>?_;have x:ag V cC al [aJ]:=by rw[aD.ls.cells.1]at x;exact x
 rw[j1];refine bx uB.i λdL dM dN cE M=>?_;refine bt uB.i rfl rfl M Nat.zero_lt_one λcF cG dO M=>?_;have aZ:Ext cD cF:=cE.put cG Ω;have br:=((cB.F bW).F bl).F aZ;have p:=((p.W bW).W bl).W aZ;have x:=(x.W bl).W aZ;have L:=L.W aZ;rw[ax Ψ (p.cell rfl),ax Ψ (x.cell rfl)];refine(Tn (h.W br) (aD.W br).ls).X ?_;rintro _ cH _ ⟨rfl,cI⟩;obtain⟨a1,O⟩:∃a1:Int,a1=ol s sc:=⟨_,rfl⟩;rw[<-O];refine bx ae.i λdP dQ dR cJ Y=>?_;refine bt ae.i rfl rfl Y Nat.zero_lt_one λbY cK dS Y=>?_;have cL:Ext cH bY:=cJ.put cK Ω;have aK:=cI.F cL;have G:=br.F aK;have p:=p.W aK;have x:=x.W aK;have L:=L.W aK;have M:=M.W aK;have dT:=G.size;refine aV (λv bZ=>v= .bool (decide (1<sc.length/\a1<0))/\bZ=bY) ?_ ?_
 rotate_left
 .intro ay b0;rw[ax Ψ (x.cell rfl),aS al.u (aD.W G).ls,bL,ai];refine⟨λh1=>?_,λh1=>b0 _ _ ⟨by rw[ms λh=>h1 Ω],rfl⟩⟩;rw[ax Ψ (Y.cell rfl),aP];refine b0 _ _ ⟨?_,rfl⟩;congr 1;rw[decide_eq_decide];exact⟨λh=>⟨Ω,h⟩,λh=>h.2⟩
 rintro _ bZ ⟨rfl,rfl⟩;rw[ai];refine⟨λb2=>?_,λb3=>?_⟩
 .
  have cM:kW s sc=ν:=by
   cases P:kW s sc with
   |none=>rfl
   |some j=>unfold ol at O;rw[P]at O;simp only at O;omega
  have cN:eG n s sc cs=gO s sc (aB n.co sc) cs:=by
   rcases tF C aE with⟨rfl,_⟩|⟨v,y,rfl,_⟩|⟨j,f,_,P,_⟩|⟨_,_,e⟩
   .simp at b2
   .simp at b2
   .rw[cM]at P;cases P
   .exact e
  rw[ax Ψ (p.cell rfl),ax Ψ (x.cell rfl),ax Ψ (L.cell rfl)];have cO:rU n s sc (aB n.co sc):=wn.2 ⟨Ω,λq aL=>by
   have aG:sc[q]?=σ sc[q]:=x6 aL;have bs:=x5 aG;refine⟨sc[q],aG,(ak.1 _ bs).1,aY _ bs,cz _ bs,λaX=>?_⟩;rw[u5,x6 (show q-1<sc.length by omega)];exact X9.1 bU (q-1) q Ω aL Ω,rfl⟩
  have cP:=bf.W G;have dU:cs.length<=4096:=Ω
  have dV:=bc.olds;refine(Sg (h.W G) (aD.W G).ls cu cP cw ak.2 bj Ω Ω Ω).X ?_;rintro _ dW _ ⟨_,cQ⟩;obtain⟨_,bu,aH,R',bw,cR,_,cS⟩:=cQ cO;intro dX a2 _;rw[cN];have am:=bu.size;refine⟨(gA G bu).F (a2.aa _),(show Laid _ from gH bw.1 aX (bb.W G)).W a2,aH,R',_,((Grow.W G).F bw).F (Grow.W a2),cR.W a2,bc.put Ω,λh=>(bw.2.1 0 h).elim aX Ω,λr bz=>(cS r bz).imp id λh=>h.imp id λh=>Ω⟩
 .
  rw[ax Ψ (L.cell rfl)];refine(nY (bf.W G)).X ?_;rintro _ dY _ ⟨rfl,cT⟩;refine p1.X ?_;rintro _ S _ ⟨cW,bA,rfl,dZ,b4⟩;have aq:=cT.F cW;have au:=G.F aq;have p:=p.W aq;have x:=x.W aq;have L:=L.W aq;have M:=M.W aq;have Y:=Y.W aq;have b5:=bf.W au;have cX:=aD.W au;obtain⟨⟨ea,eb,ec,b6,bu⟩,_⟩:=id b5;have b7:=p0 (g:=bA) (B0:=S.heap.size) (sv:=ah) bk;obtain⟨N,a6⟩:∃N:Nat,(aA (aB n.co sc)).toNat=N:=⟨_,rfl⟩;rw[a6]at b7;rw[a6]at bi;have ed:=prod_bound bk;have b8:eY n s sc cs 0=s:=UF C aE;have cY:eY n s sc cs N=eG n s sc cs:=UG C aE bi.symm (λh=>by subst h;rw[<-a6];exact Nat.one_ne_zero) O b3;have bB:∀{bq:x3}{a b:Int},ag bq g1 dB [Γ ac]->(∃aM s1 aO,bd bq ac ad aM R n s1 aO)->(0<=a/\a<=n.k)->(0<=b/\b<=n.k)->aj x7 Kq [Δ a,Δ b,Γ g1] bq λr cU=>r=Δ (min (a+b) n.k)/\Ext bq cU:=λbC ⟨aM,s1,aO,cZ⟩ a7 c0=>by
   refine az func189 ?_;rw[ax Ψ (bC.cell rfl)];refine(nh cZ).X ?_;rintro _ cU _ ⟨rfl,c1⟩;refine(F5 a7 c0 hk).X ?_;rintro _ ee _ ⟨rfl,c2⟩;rw[bo,bp];exact⟨rfl,c1.F c2⟩
  refine mA.old ⟨Nat,rs,kt,#[Γ bA],0,_,_,_,λq I=>dp an S ac ad A R n (eY n s sc cs q) I,λ_ _ _=>False,rfl,b7.s,
   ?_,λ_ _ Z h=>⟨h.1.W Z,h.2.1.W Z,Y2 h.2.2 Z.size⟩,λ_ _ _ Z h=>h.W Z,λ_ _ _ _ _ h=>h,⟨b4,b6.ls,p9 _⟩,?_,?_,?_,λ_ _ h=>h.elim,λ_ _ _ h=>h.elim⟩
  .rintro _ _ _ _ ⟨_,_,_,_,rfl,_⟩;rfl
  .show dp an S ac ad A R n (eY n s sc cs 0) S;rw[b8];exact⟨(Ext.refl _).aa _,bb.W au,A,t,Grow.W (Ext.refl _),h.W au,bc,aX⟩
  .rintro _ aN q _ c3 ⟨_,_,ef⟩ ⟨aL,rfl,eg,gt,c4,eh,c6⟩ a8;cases c4;intro c7 b9 _ _;have cb:=a8.W b9;have bD:=cb.1;have aQ:=c6.W b9;have bE:∀{I:x3},dp an S ac ad A R n (eY n s sc cs (q+1)) I->(ag I bA bn [ah]/\aI .i64 I ah (aB n.co sc)/\S.heap.size<=I.heap.size)/\dp an S ac ad A R n (eY n s sc cs (q+1)) I/\(rs=ro->fc c3 I):=λhm=>⟨⟨Ah b4 hm.1 Φ,(ob b6 hm.1 Φ).ls,hm.1.size⟩,hm,λh=>by cases h⟩;have at_:∀{bq:x3}{g:Nat}{e:r9}{cs:List x1},Ext c7 bq->ag S g e cs->¬(e=fC\/e=eH\/e=lf\/e=fQ\/e=bX\/e=dq\/e=ca)->ag bq g e cs:=λZ bC he=>(Ah bC bD he).W Z;rw[ax Ψ ((at_ (Ext.refl _) L Φ).cell rfl)];refine(nX (Ai b5 bD)).X ?_;rintro ei ej _ ⟨Q,ge,_,c8⟩;obtain⟨c,aR⟩:=aF (l:=cs) (i:=q) Ω;have bF:=bj c (x5 aR);have cc:=(ob cX bD Φ).W Q;rw[be aw.u ap.i Ψ c8.ls aR,ax Ψ ((at_ Q x Φ).cell rfl),aS al.u cc.ls,bh,ai];obtain⟨aM,aO,H,bG,_,bH⟩:=cb.UB;rcases tF C aE with⟨rfl,e⟩|⟨v,y,rfl,ba,bJ,e⟩|⟨j,f,cd,P,bK,c9,ek,da,bJ,e⟩|⟨cd,P,_⟩
   .
    refine⟨λ_=>?_,λh=>m6 rfl h⟩;have em:N=1:=by rw[<-a6];rfl
    have db:q=0:=Ω
    subst db;rw[b8]at H;intro cg aC _ _;have E:=Q.F aC;rw[ax Ψ ((at_ E p Φ).cell rfl),ax Ψ ((at_ E M Φ).cell rfl),ax Ψ ((at_ E p Φ).cell rfl)];refine(tp (H.W E)).X ?_;rintro _ ch _ ⟨rfl,W⟩;refine⟨.inl W,?_⟩;have K:=E.F W;refine aj.X (bB (at_ K p Φ) ⟨_,_,_,H.W K⟩ C.zero bF) ?_;rintro _ ci _ ⟨rfl,X⟩;have B:=K.F X;refine⟨.inl (W.F X),(Gb (H.W B) bG).X ?_⟩;rintro _ cj _ ⟨_,aT⟩;have am:=C.zero;have aU:eY n s [] cs (0+1)={s with zero:=min (s.zero+c) n.k}:=by
     show eG n s [] cs=_;rw[e,u5,aR];rfl
    have U:=aT ⟨Ω,Ω⟩;rw[<-aU]at U;exact bE (bH B U)
   .
    have dc:=(ak.1 v (.head _)).1;have dd:=aY v (.head _);refine⟨λh=>m6 h Ξ,λ_=>?_⟩;rw[bh,ai];refine⟨λ_=>?_,λh=>m6 rfl h⟩;have en:=C.d6;obtain⟨z,am⟩:=aF (l:=n.co) (i:=v.toNat) Ω;have de:=C.var _ y z ba am;have df:aB n.co [v]=[z]:=by
     show[n.co.getD v.toNat 0]=[z];rw[u5,am];rfl
    have eo:=C.c5.2.2 z (x5 am);have dg:b1 (aB n.co [v]) (q:Int)=[(q:Int)]:=by
     rw[df];show[((q:Int) / 1) % z]=_;rw[Int.ediv_one,Int.emod_eq_of_lt Ω Ω]
    rw[dg]at aQ;have ck:eY n s [v] cs q=dI s v.toNat y (jw (bV n.k y.un cs) y.un q):=by
     unfold eY;simp only[ba]
    have dh:eY n s [v] cs (q+1)=dI s v.toNat y (jw (bV n.k y.un cs) y.un (q+1)):=by
     unfold eY;simp only[ba]
    have aW:(bV n.k y.un cs).length=y.un.length:=by simp[bV,bJ]
    have cl:=(x4.1 ba).1;have cm:e8 n v (q:Int):=⟨dc,dd,Ω,by rw[u5,am];show(q:Int)<z;omega⟩;obtain⟨u,ab⟩:=aF (l:=y.un) (i:=q) Ω;have bM:=de.2.1 u (x5 ab);have di:gB (eY n s [v] cs q) v.toNat (q:Int).toNat=u:=by
     rw[ck];unfold gB dI;rw[Z3 cl];simp only[u9];rw[u5,Hw aW Ω,ab];rfl
    intro cg aC _ _;have E:=Q.F aC;have cn:=cc.W aC;rw[ax Ψ ((at_ E p Φ).cell rfl),ax Ψ ((at_ E x Φ).cell rfl),fm (i:=0) (y:=0) rfl al.u ae.i Ψ cn.ls rfl,fm (i:=0) (y:=0) rfl al.u ae.i Ψ (aQ.W E).ls rfl];refine(ni (i:=v) (v:=(q:Int)) (H.W E)).X ?_;rintro _ ch _ ⟨rfl,W⟩;rw[m3 cm,di,bo,bp];intro ci X _ _;have B:=(E.F W).F X;have dj:=cn.W (W.F X);rw[ax Ψ ((at_ B p Φ).cell rfl),ax Ψ ((at_ B x Φ).cell rfl)];refine pP (i:=0) (y:=0) rfl al.u ae.i dj.ls rfl λep er dk=>?_;rw[ax Ψ dk];refine pP (i:=0) (y:=0) rfl al.u ae.i (aQ.W B).ls rfl λes et dl=>?_;rw[ax Ψ dl,ax Ψ ((at_ B M Φ).cell rfl)];refine aj.X (bB (at_ B p Φ) ⟨_,_,_,H.W B⟩ bM bF) ?_;rintro _ cj _ ⟨rfl,cp⟩;have cq:=B.F cp;refine⟨.inl cp,(zt (i:=v) (v:=(q:Int)) (H.W cq) bG).X ?_⟩;rintro _ eu _ ⟨_,_,aT⟩;have aU:kR (eY n s [v] cs q) v.toNat (q:Int).toNat (min (u+c) n.k)=eY n s [v] cs (q+1):=by
     rw[ck,dh];unfold kR dI;rw[Z3 cl];simp only[u9,List.set_set];have:(bV n.k y.un cs)[q]?=σ (min (u+c) n.k):=by
      unfold bV;rw[List.getElem?_zipWith,ab,aR]
     rw[Hx aW this]
    have U:=aT cm ⟨Ω,Ω⟩;rw[aU]at U;exact bE (bH cq U)
   .
    refine⟨λh=>m6 h Ω,λ_=>?_⟩;rw[bh,ai];refine⟨λh=>m6 h Ω,λ_=>?_⟩;have cr:a1=(j:Int):=by rw[O];unfold ol;rw[P]
    have bN:∀q,eY n s sc cs q=dA s j f (jw (bV n.k f.cs cs) f.cs q):=UE cd P bK;have aW:(bV n.k f.cs cs).length=f.cs.length:=by simp[bV,bJ]
    have dm:=(x4.1 bK).1;obtain⟨u,ab⟩:=aF (l:=f.cs) (i:=q) Ω;have bM:=(C.d7 f (x5 bK)).1.gM u (x5 ab);have bP:(eY n s sc cs q).d7[j]?=σ {f with cs:=jw (bV n.k f.cs cs) f.cs q}:=by
     rw[bN];exact Z3 dm
    have bQ:ct f.szs (b1 (aB n.co sc) (q:Int)) 0=σ (q:Int):=by
     rw[da];exact rb bk.2 Ω Ω
    obtain⟨a7,bR⟩:=wK (f:={f with cs:=jw (bV n.k f.cs cs) f.cs q}) bP c9 bQ;have dn:bg f.szs (jw (bV n.k f.cs cs) f.cs q) (b1 (aB n.co sc) (q:Int))=u:=by
     unfold bg;rw[bQ];simp only[u9];rw[u5,Hw aW Ω,ab];rfl
    have bR:o2 (eY n s sc cs q) j (b1 (aB n.co sc) (q:Int))=u:=bR.F dn;rw[ax Ψ ((at_ Q p Φ).cell rfl),ax Ψ ((at_ Q Y Φ).cell rfl),cr];refine(tr (H.W Q) (aQ.W Q).ls).X ?_;rintro _ cg _ ⟨rfl,aC⟩;rw[m3 a7,bR,bo,bp];intro ch W _ _;have K:=(Q.F aC).F W;rw[ax Ψ ((at_ K p Φ).cell rfl),ax Ψ ((at_ K Y Φ).cell rfl),ax Ψ ((at_ K M Φ).cell rfl),cr];refine aj.X (bB (at_ K p Φ) ⟨_,_,_,H.W K⟩ bM bF) ?_;rintro _ ci _ ⟨rfl,X⟩;have B:=K.F X;refine⟨.inl X,(Gc (H.W B) bG (aQ.W B).ls).X ?_⟩;rintro _ cj _ ⟨_,_,aT⟩;have aU:kS (eY n s sc cs q) j q (min (u+c) n.k)=eY n s sc cs (q+1):=by
     unfold kS;rw[bP,bN q,bN (q+1)];unfold dA;simp only[List.set_set];have:(bV n.k f.cs cs)[q]?=σ (min (u+c) n.k):=by
      unfold bV;rw[List.getElem?_zipWith,ab,aR]
     rw[Hx aW this]
    have U:=aT a7 ⟨Ω,Ω⟩ _ q bP bQ;rw[aU]at U;exact bE (bH B U)
   .unfold ol at O;rw[P]at O;exact m6 ⟨Ω,by simp only at O;omega⟩ b3
  .rintro q ev aL a8;rw[show q=N from aL,cY]at a8;intro ew dr _;obtain⟨ds,dt,aM,aO,dv,dw,dx,dy⟩:=a8.W dr;exact⟨gA au ds,dt,aM,R,aO,(Grow.W au).F dv,dw,dx,dy,λr bz=>.inl bz⟩
end
section
variable{n:aD}{s:am}
def dJ(n:aD)(s:am)(i:Nat):Nat:=(bf n.co s (i:Int)).length
theorem Hy{i v:Nat}(h:ip n s most=σ i)(x:v<n.co.length)(f:dz n s (v:Int) (most:Int)=0):dJ n s i<dJ n s v\/dJ n s i=dJ n s v/\i<=v:=by
 have y:v∈(Z2 (most+1)).flatMap λd=>(Z2 n.co.length).filter λi:Nat=>decide ((bf n.co s (i:Int)).length=d)&&decide (dz n s (i:Int) (most:Int)=0):=by
  have j:(bf n.co s (v:Int)).length<most+1:=by
   unfold dz at f;split at f
   .cases f
   .split at f
    .cases f
    .omega
  exact List.mem_flatMap.2 ⟨_,V7.2 j,U8.2 ⟨V7.2 x,by simp[f]⟩⟩
 have p:((Z2 (most+1)).flatMap λd=>(Z2 n.co.length).filter λi:Nat=>decide ((bf n.co s (i:Int)).length=d)&&decide (dz n s (i:Int) (most:Int)=0)).Pairwise
   λa b=>dJ n s a<dJ n s b\/dJ n s a=dJ n s b/\a<=b:=by
  have j:∀d q,q∈(Z2 n.co.length).filter (λi:Nat=>decide ((bf n.co s (i:Int)).length=d)&&decide (dz n s (i:Int) (most:Int)=0))->dJ n s q=d:=λd q z=>by
   have:=(U8.1 z).2;rw[V9]at this;exact rc this.1
  rw[List.pairwise_flatMap];refine⟨λd _=>?_,?_⟩
  .have h1:((Z2 n.co.length).filter λi:Nat=>decide ((bf n.co s (i:Int)).length=d)&&decide (dz n s (i:Int) (most:Int)=0)).Pairwise (·< ·):=List.Pairwise.filter _ List.pairwise_lt_range;refine h1.imp_of_mem λ{a b}r w B=>.inr ⟨by rw[j d a r,j d b w],Ω⟩
  .refine List.pairwise_lt_range.imp λ{d e}A a r b w=>.inl ?_;rw[j d a r,j e b w];exact A
 unfold ip at h;revert y p h;generalize ((Z2 (most+1)).flatMap λd=>(Z2 n.co.length).filter λi:Nat=>decide ((bf n.co s (i:Int)).length=d)&&decide (dz n s (i:Int) (most:Int)=0))=L;intro h hm p;cases L with
 |nil=>cases h
 |cons a L=>
  cases h;rcases T5.1 hm with rfl|hm
  .exact .inr ⟨rfl,p9 _⟩
  .exact (List.pairwise_cons.1 p).1 v hm
def jf(n:aD)(s:am)(most:Nat):Nat->Int×Int
 |0=>(-1,0)
 |m+1=>if dz n s (m:Int) (most:Int)=0/\((jf n s most m).1<0\/(dJ n s m:Int)<(jf n s most m).2)then((m:Int),(dJ n s m:Int))else jf n s most m
theorem Hz{most:Nat}:∀m,((jf n s most m).1= -1/\∀v<m,dz n s (v:Int) (most:Int)≠0)\/
  ∃q:Nat,jf n s most m=((q:Int),(dJ n s q:Int))/\q<m/\dz n s (q:Int) (most:Int)=0/\∀v<m,dz n s (v:Int) (most:Int)=0->dJ n s q<dJ n s v\/dJ n s q=dJ n s v/\q<=v
 |0=>.inl ⟨rfl,λv h=>Ω⟩
 |m+1=>by
  unfold jf;rcases Hz (most:=most) m with⟨h1,j⟩|⟨q,h1,j,w,r⟩
  .by_cases a:dz n s (m:Int) (most:Int)=0
   .rw[m3 ⟨a,.inl Ω⟩];refine .inr ⟨m,rfl,Ω,a,λv p f=>?_⟩;by_cases e:v=m
    .subst e;exact .inr ⟨rfl,p9 _⟩
    .exact m6 f (j v Ω)
   .rw[m5 λh=>a h.1];refine .inl ⟨h1,λv p=>?_⟩;by_cases e:v=m
    .subst e;exact a
    .exact j v Ω
  .rw[h1];by_cases a:dz n s (m:Int) (most:Int)=0/\dJ n s m<dJ n s q
   .rw[m3 ⟨a.1,.inr (by show(dJ n s m:Int)<dJ n s q;omega)⟩];refine .inr ⟨m,rfl,Ω,a.1,λv p f=>?_⟩;by_cases e:v=m
    .subst e;exact .inr ⟨rfl,p9 _⟩
    .have:=r v Ω f;omega
   .rw[m5 λh=>a ⟨h.1,h.2.elim (λh=>by have h:(q:Int)<0:=h;omega) λh=>by have h:(dJ n s m:Int)<dJ n s q:=h;omega⟩];refine .inr ⟨q,rfl,Ω,w,λv p f=>?_⟩;by_cases e:v=m
    .subst e;have:¬dJ n s v<dJ n s q:=λh=>a ⟨f,h⟩;omega
    .exact r v Ω f
theorem UI{i:Nat}(h:ip n s most=σ i):(jf n s most n.co.length).1=i:=by
 obtain⟨h1,e⟩:=qA h;rcases Hz (n:=n) (s:=s) (most:=most) n.co.length with⟨_,a⟩|⟨q,f,a,j,p⟩
 .exact m6 e (a i h1)
 .rw[f];have r:=p i h1 e;have w:=Hy h a j;show(q:Int)=i;omega
end
theorem UJ{P:Nat->Prop}:∀m,P m->∃m,P m/\∀k,P k->m<=k:=λm=>by
 induction m using Nat.strongRecOn with
 |ind m a=>
  intro hm;by_cases h:∃k,k<m/\P k
  .obtain⟨k,h1,e⟩:=h;exact a k h1 e
  .exact⟨m,hm,λk hk=>Nat.le_of_not_lt λf=>h ⟨k,f,hk⟩⟩
open Classical in
section
variable{an:List av}{w:x3}{ac ad:Nat}{A R:ah}{n:aD}{s:am}{t:av}
end
open Classical in
theorem k8.UK{a b c:x1}{B:x1->x1->x1->x3->(x1->x1->x1->x3->Prop)->Prop}(ay:Nat->x1->x3->Prop){m:Nat}(q:ay m c w)(U:∀(m:Nat)(a b c:x1)(I:x3)(k:x1->x1->x1->x3->Prop),ay m c I->(∀bK a b c f,bK<m->ay bK c f->k a b c f)->B a b c I k):k8 a b c w B:=by
 have j:∀{c:x1}{w:x3},(∃m,ay m c w)->∃m,ay m c w/\∀k,ay k c w->m<=k:=λ⟨m,h⟩=>UJ (P:=λm=>ay m _ _) m h;refine⟨λ_ _ c w=>∃m,ay m c w,λ_ _ c w=>if h:∃m,ay m c w then Classical.choose (j h)else 0,⟨m,q⟩,λa b c I p=>?_⟩;obtain⟨h1,r⟩:=Classical.choose_spec (j p);refine U _ a b c I _ h1 λbK _ _ _ f s e=>⟨⟨bK,e⟩,?_⟩;have x:=(Classical.choose_spec (j ⟨bK,e⟩)).2 bK e;show dite _ _ _<dite _ _ _;rw[dif_pos p,dif_pos ⟨bK,e⟩];omega
section
variable{an:List av}{w J V:x3}{ac ad:Nat}{A R:ah}{n:aD}{s s1 s2 s':am}{t t':av}
theorem UL{i:Int}(j:Nat):cf (iI s i) j=cf s j:=rfl
theorem dX.go{i:Int}{x:bs}(hm:dX n s i x)(e:aY n.k n.co s)(z:cd s):tv n (iI s i) (eW n s i x):=by
 have B:((eW n s i x).dn.length:Int)=aA (aB n.co (eW n s i x).sc):=by
  have:=kF (qy (i:=i) e);have r:(eW n s i x).dn.length=(aA (aB n.co (bf n.co s i))).toNat:=tB (F:=λA=>(et n.k s i x A).2);show((eW n s i x).dn.length:Int)=aA (aB n.co (bf n.co s i));omega
 refine⟨hm.has,?_,λq a=>?_,λh=>(js.1 h).2.1 rfl,λf C r=>?_,B,λb j=>?_⟩
 .rw[UL];unfold cf;show(match s.d6[i.toNat]? with|some x=>decide (x.gone≠0)|none=>rs)=rs;rw[hm.at_];simp[hm.there]
 .have a:q<(bf n.co s i).length:=a;have w:(bf n.co s i)[q]?=σ (bf n.co s i)[q]:=x6 a;have y:=x5 w;have h1:=(js.1 y).1;refine⟨_,w,h1.1,h1.2,(show cf s _=rs from zQ z e y),λp=>?_⟩;show(bf n.co s i).getD (q-1) 0<_;rw[u5,x6 (show q-1<(bf n.co s i).length by omega)];exact X9.1 tE (q-1) q Ω a Ω
 .obtain⟨g,_,_,_,_,E⟩:=wx C;exact(E r).2
 .obtain⟨h1,G,_⟩:=hm.size e;have j:b∈er (aB n.co (bf n.co s i)) (bf n.co s i) (λA=>(et n.k s i x A).2):=j;obtain⟨q,_,rfl⟩:=o8.1 j;show-1<=(et n.k s i x _).2/\(et n.k s i x _).2<n.co.getD i.toNat 0;by_cases p:aL x=[]
  .unfold et;rw[p];show(-1:Int)<= -1/\(-1:Int)<_;omega
  .have:=ql (zN (k:=n.k) (of:=λv=>dP n.k x.un i (br s i) (fJ (fW (bf n.co s i) (b1 (aB n.co (bf n.co s i)) q)) i v)) ph p).1;unfold et;omega
theorem HA{i most:Int}(h:bd w ac ad A R n s t)(M:Laid w)(bg:¬A 0)(bh:cV an t)(aE:cd s)(cq:s.d7.length<=999)(cr:s.elims.length<=100000):
  aj x7 Bt [Γ ac,Δ i,Δ most] w λr I=>r=Δ (dz n s i most)/\(dz n s i most≠0->Ext w I)/\(dz n s i most=0->fZ an w ac ad A R n (ml n s i most) I):=by
 have a:=h.2.2.2.1;have ct:=om M;refine az func24 ?_;refine(zY h Ω).X ?_;rintro _ J _ ⟨rfl,N⟩;rw[bJ,ai];refine⟨λbi=>⟨rfl,λ_=>N,λh=>m6 h bi⟩,λy=>?_⟩;have y:=Z6.1 y;obtain⟨x,hm,he⟩:=rY a y;rw[he];have bj:=hm.rW;obtain⟨pos,z,cu,cw⟩:=hm.un a;obtain⟨bk,cz⟩:=zW a hm.has z;have aG:=(x4.1 z).1;obtain⟨cA,cB,cC⟩:=hm.size a;refine(Tz (h.W N) hm).X ?_;rintro _ V _ ⟨bl,g,cD,sv,aJ,aU,rfl,⟨cE,cF,cG⟩,bm,O⟩;rw[bo,bp];have aI:=N.F bl;refine(vB O.ls mm).X ?_;rintro _ cH _ ⟨rfl,B⟩;rw[p7 mm z];have aK:=aI.F B;refine(lB (i:=i) (h.W aK)).X ?_;rintro _ aN _ ⟨⟨b,m,rfl,ab⟩,C⟩;have af:=aK.F C;have bn:=od ab hm.has.1 hm.at_;have cI:=(ab.2.2 x hm.has.1 hm.at_).1;refine(Pl ((bm.W B).W C) a.dH ab.1 (M.W af)).X ?_;rintro v5 aO _ ⟨aP,_,bq⟩;have bs:(m:Int)=fi (aB n.co (bW n.co i (br s i))) (pos:Int):=by
  unfold fi aB;rw[m3 Ω,u9,u5,x8,z];show(m:Int)=n.co.getD i.toNat 0;omega
 obtain⟨P,Q,aQ,ag,bv,rfl,ah,S,cJ,cK,cL,ak⟩:=bq pos rfl (by simpa[aB]using aG) bs;have bt:n4 b m=aL x:=bn;rw[bt]at ah S;obtain⟨bu,bw,bx⟩:=Td a hm.has hm.at_ z;rw[bu,bx]at ah;rw[bw]at S;rw[gX,gY,gZ,aM,lm Ω Ω];have aR:=af.F aP;have aT:=((O.W B).W C).W aP;have bz:(bW n.co i (br s i)).length<=1000:=Ω
 refine(DC aT aG bz).X ?_;rintro bA am _ ⟨U,aV⟩;rw[bk]at aV;have cM:=N.size;have cN:=aI.size;have cO:=af.size;have cQ:=aR.size;have ap:Ext w am:=aR.put U Ω;have cS:=kF (qy (i:=i) a);have cT:aU<aO.heap.size:=iA aT Ω;have cU:ag<aO.heap.size:=iA S (by rw[tB];omega);have bB:ce am P Q aQ (aB n.co (bf n.co s i)) n.k (tD n s i x):=by
  have bD:aU<aN.heap.size:=iA ((O.W B).W C) Ω;exact ce.aa ah U (λh=>by have h:P=aU:=h;omega) (λ_ h=>by have h:Q=aU:=h;omega) λr f h=>by have h:r=aU:=h;have:=ak r f;omega
 have bF:ao .i64 ae am ag bv (eW n s i x).dn:=by
  have bD:aU<aN.heap.size:=iA ((O.W B).W C) Ω;exact S.aa U λ_ h=>by have h:ag=aU:=h;omega
 refine(wj (i:=i) (h.W ap)).X ?_;rintro cW E _ ⟨G,cX,aW,_⟩;have H:=ap.F G;have cY:=H.size;have cZ:=ap.size;have c0:=U.size;have c1:=G.size;have W:=bB.W G;have bG:=bF.W G;have aX:=aV.W G;rw[aS al.u aW.ls];have c2:(cR s i s.d7.length).length<=s.d7.length:=zS;refine cm.range (cR s i s.d7.length).length (λq aq=>dp an E ac ad A R n (kX s ((cR s i s.d7.length).take q)) aq) Ω ⟨(Ext.refl _).aa _,M.W H,A,t,Grow.W (Ext.refl _),h.W H,bh,bg⟩ ?_ ?_
 .rintro q aq bH au K bI;refine bC Ω ?_;obtain⟨j,av⟩:=aF (l:=cR s i s.d7.length) au;obtain⟨c3,c4,bK,aY,aZ,a1,bL⟩:=K.open;rw[be al.u ae.i Ψ (ob aW K.1 Φ).ls av];refine(Rs (j:=j) bK a1.room).X ?_;rintro _ c5 _ ⟨_,aw⟩;obtain⟨_,bM,aH,p,ax,a2⟩:=aw (SZ av);rw[S1 av]at a2;rw[aM];have:=om aY;exact bI _ (bL ⟨bM,gH ax.1 aZ aY,aH,_,ax,a2,a1.set,λh=>(ax.2.1 0 h).elim aZ Ω⟩)
 .rintro aq bH K;rw[o6,SY]at K;refine ci Ω ?_;obtain⟨L,bN,c6,bO,a6,bP,a7,a8⟩:=K;have bQ:=Ai W L;have ba:=ob bG L Φ;have ay:=ob aX L Φ;rw[dw (cs:=#[Δ i,bA,bv]) (by obtain⟨_,_,_,rfl⟩:=cP ay.ls;obtain⟨_,_,_,rfl⟩:=cP ba.ls;kernel_rfl)];have c7:=a7.olds;have bR:(eW n s i x).dn.length<=1000000:=by
   have h1:=hm.prod a;have M:(eW n s i x).dn.length=(aA (aB n.co (bf n.co s i))).toNat:=tB (F:=λA=>(et n.k s i x A).2);omega
  have c8:=hm.wy;refine(Se (e:=eW n s i x) bP Ω ay.ls ba.ls bR (by show(bf n.co s i).length<=_;omega) (by show s.elims.length<=_;omega)).X ?_;rintro _ bS _ ⟨_,aw⟩;obtain⟨_,X,aC,bT,bU,bV,p,Y,aD,_,bX⟩:=aw (hm.go a aE);have aD:bd bS ac ad aC bT n (fb n s i x) _:=aD;have bY:cV an ((bO.set 2 bU).set p bV):=a7.set.set;have bZ:=gH Y.1 a8 bN;have c9:=L.size;have da:=X.size;have b0:=Ai bQ X;have b1:=ob ay X Φ;have b2:=qt h;have Z:∀r,w.heap.size<=r->r<E.heap.size->¬aC r:=λr h1 db b3=>by
   rcases Y.2.1 r b3 with bb|bb
   .rcases a6.2.1 r bb with bc|bc
    .have:=b2 r (.inl bc);omega
    .omega
   .omega
  have b4:¬aC 0:=λh=>(Y.2.1 0 h).elim a8 Ω;have b5:Q<E.heap.size:=by obtain⟨⟨_,_,_,_,q⟩,_,_,au⟩:=id W;exact iA q (by rw[au];omega)
  have b6:P<E.heap.size:=by obtain⟨⟨_,_,q,_⟩,_⟩:=id W;exact q.lt
  have b7:∀r,li aQ r->r<E.heap.size:=λr f=>by
   obtain⟨⟨_,_,_,q,_⟩,_⟩:=id W;obtain⟨b8,b9⟩:=bE q f;omega
  have ca:(fb n s i x).d7.length<=999:=by rw[bj];show(s.d7.map _).length<=_;simp;omega
  refine(UH aD bZ b4 bY b1 (λr f=>by
   obtain⟨b8,b9⟩:=bE aX f;exact Z r Ω Ω) b0 ⟨Z P Ω b6,Z Q Ω b5,λr f=>Z r (by have:=ak r f;omega) (b7 r f)⟩ (hm.can a) (hm.wz a aE) ca).X ?_
  rintro _ dc _ ⟨cb,cc,cf,cg,ch,cj,ck,cl,cn,cp⟩;refine⟨by rw[y],λh=>m6 y h,λ_=>?_⟩;refine⟨gA H (nc L (nc X cb)),cc,cf,cg,ch,(Grow.W H).F (a6.F (Y.F cj)),ck,cl,cn,λr f=>?_⟩;rcases cp r f with h1|h1|h1
  .exact (bX r h1).imp id λh=>Ω
  .exact .inr (by have:=ak r h1;omega)
  .exact .inr Ω
theorem HB{i most:Int}(h:bd w ac ad A R n s t)(e:Laid w)(f:¬A 0)(j:cV an t)(p:cd s)(q:s.d7.length<=999)(x:s.elims.length<=100000):
  aj x7 Bt [Γ ac,Δ i,Δ most] w λr I=>r=Δ (dz n s i most)/\fZ an w ac ad A R n (ml n s i most) I:=by
 refine(HA h e f j p q x).X ?_;rintro _ J _ ⟨rfl,h1,y⟩;refine⟨rfl,?_⟩;by_cases a:dz n s i most=0
 .exact y a
 .have:ml n s i most=s:=by unfold ml;rw[m5 a]
  rw[this];exact .same h e f j (h1 a)
theorem UM{i:Nat}(hi:i<n.co.length)(r:dJ n s i=d)(f:dz n s (i:Int) (most:Int)=0)(j:∀v<n.co.length,dz n s (v:Int) (most:Int)=0->d<=dJ n s v)(p:∀v<i,¬(dJ n s v=d/\dz n s (v:Int) (most:Int)=0)):ip n s most=σ i:=by
 cases a:ip n s most with
 |none=>exact m6 f (GW a hi)
 |some q=>
  obtain⟨h1,h⟩:=qA a;have w:=Hy a hi f;have x:=j q h1 h;by_cases e:q<i
  .exact m6 ⟨Ω,h⟩ (p q e)
  .congr 1;omega
theorem UN(h:∀v<n.co.length,dz n s (v:Int) (most:Int)=0->most+1<=dJ n s v):ip n s most=ν:=by
 cases e:ip n s most with
 |none=>rfl
 |some q=>
  obtain⟨h1,a⟩:=qA e;have f:=h q h1 a;unfold dJ at f;unfold dz at a;split at a
  .cases a
  .split at a
   .cases a
   .omega
def oo(an:List av)(w:x3)(ac ad:Nat)(A R:ah)(n:aD)(s':am)(v:x1)(I:x3):Prop:=
 af (du w) w I/\Laid I/\∃aH R' t',Grow A w aH I/\bd I ac ad aH R' n s' t'/\cV an t'/\¬aH 0/\(∀r,R' r->R r\/w.heap.size<=r)/\∀r,li v r->(¬aH r/\¬R' r)/\w.heap.size<=r
theorem oo.el{v:x1}(h:oo an w ac ad A R n s1 v J):fZ an w ac ad A R n s1 J:=by
 obtain⟨h1,a,e,f,j,p,q,r,s,x,_⟩:=h;exact⟨h1,a,e,f,j,p,q,r,s,x⟩
theorem oo.open{v:x1}(h:oo an w ac ad A R n s1 v J)(s:∀r,li v r->r<J.heap.size):∃a e f,bd J ac ad a e n s1 f/\Laid J/\¬a 0/\cV an f/\∀{s2:am}{V:x3},fZ an J ac ad a e n s2 V->oo an w ac ad A R n s2 v V:=by
 obtain⟨h1,x,a,e,f,y,B,C,E,F,G⟩:=h;refine⟨a,e,f,B,x,E,C,λ{s2 V}k=>?_⟩;obtain⟨H,I,K,L,M,p,N,O,P,q⟩:=k;have z:=h1.size;refine⟨nc h1 H,I,K,L,M,y.F p,N,O,P,λr j=>(q r j).elim (F r) λh=>.inr Ω,λr j=>?_⟩;obtain⟨⟨Q,S⟩,T⟩:=G r j;have U:=s r j;exact⟨⟨λh=>(p.2.1 r h).elim Q Ω,λh=>(q r h).elim S Ω⟩,T⟩
theorem oo.push{v p:x1}(M:0<w.heap.size)(h:oo an w ac ad A R n s1 v J)(f:af (λr=>li v r) J V)(y:∀r,li p r->li v r\/J.heap.size<=r):oo an w ac ad A R n s1 p V:=by
 obtain⟨h1,B,C,E,F,q,j,G,H,I,a⟩:=h;have z:=h1.size;have s:=qt j;have K:∀r,¬r<w.heap.size->du w r:=λr e=>.inr λo L=>m6 (Z5.1 L).1 e;refine⟨h1.F (f.X λr _ e=>K r (by have:=(a r e).2;omega)),gH f (λh=>by have:=(a 0 h).2;omega) B,C,E,F,⟨((q.1.X (λr _ h=>.inl h):af (λr=>A r\/w.heap.size<=r) w J).F (f.X λr _ h=>.inr (a r h).2)).X λr e h=>h.elim id Ω,q.2⟩,⟨j.1.aa f λr _ h x=>?_,j.2⟩,G,H,I,λr e=>?_⟩
 .exact h.elim (a r x).1.1 (a r x).1.2
 .rcases y r e with h|h
  .exact a r h
  .refine⟨⟨λh=>?_,λh=>?_⟩,Ω⟩
   .have:=s r (.inl h);omega
   .have:=s r (.inr h);omega
theorem UO{most:Int}(h:bd w ac ad A R n s t)(ah:Laid w)(aA:¬A 0)(aB:cV an t)(aC:cd s)(bz:s.d7.length<=900)(bA:s.elims.length<=1000):
  aj x7 IM [Γ ac,Δ most] w λr I=>(¬(0<=most/\most<=3)->r= .tuple #[.slice ν 0 0,Δ 1]/\Ext w I)/\
   ((0<=most/\most<=3)->∃bD g,r= .tuple #[bD,Δ 0]/\fZ an w ac ad A R n (eX n most.toNat (goN s) s).1 I/\w.heap.size<=g/\ao .i64 ae I g bD ((eX n most.toNat (goN s) s).2.map λi:Nat=>(i:Int))):=by
 have ak:=h.2.2.2.1;have bB:goN s<=64:=by
  have h1:=List.countP_le_length (p:=λy:bs=>decide (y.gone=0)) (l:=s.d6);have am:=ak.d6;have bF:=ak.c5.2.1;unfold goN;omega
 refine az func16 ?_;rw[cW dB.u];simp only[j0,aX];refine aV (λv J=>v= .bool (decide (¬(0<=most/\most<=3)))/\w=J) ?_ ?_
 rotate_left
 .intro ay q;rw[aP,ai];refine⟨λh1=>q _ _ ⟨by rw[m7 (show¬(0<=most/\most<=3) by omega)],rfl⟩,λh1=>?_⟩;rw[bL];refine q _ _ ⟨?_,rfl⟩;congr 1;rw[decide_eq_decide];omega
 rintro _ J ⟨rfl,rfl⟩;rw[ai];refine⟨λaD=>⟨λ_=>⟨trivial,Ext.refl _⟩,λh=>m6 h aD⟩,λP=>?_⟩;have P:=Z6.1 P;obtain⟨d3,aE⟩:∃d:Nat,most=(d:Int):=⟨most.toNat,Ω⟩;subst aE;rw[u9];have aF:=om ah;have aG:∀r,¬li (.slice ν 0 0) r:=λr ⟨a,n,c,e,_⟩=>by cases e
 refine k8.UK (λm out V=>∃s1 l g,oo an w ac ad A R n s1 out V/\cd s1/\goN s1=m/\s1.d7.length+m<=s.d7.length+goN s/\s1.elims.length+m=s.elims.length+goN s/\l.length+m=goN s/\w.heap.size<=g/\ao .i64 ae V g out (l.map λi:Nat=>(i:Int))/\
  eX n d3 (goN s) s=((eX n d3 m s1).1,l++(eX n d3 m s1).2)) ⟨s,[],w.heap.size,⟨(Ext.refl _).aa _,ah,A,R,t,Grow.W (Ext.refl _),h,aB,aA,λ_ h=>.inl h,λr Q=>m6 Q (aG r)⟩,aC,rfl,p9 _,rfl,W7 _,p9 _,ao.nil _ _ _ _,rfl⟩ ?_
 rintro m _ _ out V bG ⟨s1,l,g,S,U,bH,bI,bJ,bM,aH,W,E⟩ aI;rw[aM,lm Ω Ω];have aJ:∀r,li out r->r<V.heap.size:=λr Q=>by obtain⟨bN,bO⟩:=bE W Q;omega
 have bP:=S.1.size;have aK:=S.el;obtain⟨aL,aN,bQ,G,aO,aQ,aR,aS⟩:=S.open aJ;have H:=G.2.2.2.1;have aT:((d3:Int)+1)=((d3+1:Nat):Int):=Ω
 rw[aT];refine b2.range (d3+1) (λd X Y=>Ext V Y/\out=X/\∀v<n.co.length,dz n s1 (v:Int) (d3:Int)=0->d<=dJ n s1 v) Ω ⟨Ext.refl _,rfl,λ_ _ _=>X7 _⟩ ?_ ?_
 .rintro d _ Y aU bR ⟨z,rfl,K⟩ aW;refine bC Ω ?_;refine(vT (G.W z)).X ?_;rintro _ bS _ ⟨rfl,aY⟩;have aZ:=z.F aY;have bT:=H.c5.2.1;refine b2.range n.co.length (λi X Z=>Ext V Z/\out=X/\∀v<i,¬(dJ n s1 v=d/\dz n s1 (v:Int) (d3:Int)=0)) Ω ⟨aZ,rfl,λ_ h=>Ω⟩ ?_ ?_
  .rintro i _ Z a1 hi ⟨L,rfl,M⟩ a2;refine bC Ω ?_;refine aV (λv N=>∃b:Bool,v= .bool b/\(b=ro->dJ n s1 i=d/\dz n s1 (i:Int) (d3:Int)=0/\fZ an V ac ad aL aN n (ml n s1 (i:Int) (d3:Int)) N)/\(b=rs->¬(dJ n s1 i=d/\dz n s1 (i:Int) (d3:Int)=0)/\Ext V N)) ?_ ?_
   .rintro _ N ⟨b,rfl,a6,a7⟩;rw[bU];refine⟨λj=>?_,λj=>?_⟩
    .obtain⟨O,ap,aq⟩:=a6 j;have a8:=UM hi O ap K M;obtain⟨x,au,he⟩:=rY H ap;have ab:=au.all H U;have bV:=zR au H U;rw[he]at aq;refine dr al.u ae.i rfl λbW bX ba bY bb bc=>?_;have af:=aq.W bb;have be:=ob W af.1 Φ;have bZ:=af.1.size;refine fU al.u ae.i rfl be bc.ls Θ Θ λbf av bg aw bi bj=>?_;have ax:=(aS af).push aF bj bi;have bk:∃g,w.heap.size<=g/\ao .i64 ae bg g bf ((l.map λi:Nat=>(i:Int))++[(i:Int)]):=by
      refine⟨av,?_,aw⟩;obtain⟨_,⟨_,bl⟩|⟨cap,cs,B,_⟩⟩:=id aw
      .simp at bl
      .have:=ax.2.2;obtain⟨_,_,_,_,_,_,_,_,bm⟩:=this;exact(bm av ⟨_,_,_,B,rfl⟩).2
     obtain⟨bn,bo,bp⟩:=bk;obtain⟨bK,rfl⟩:∃bK,m=bK+1:=⟨goN (fa n s1 (i:Int) x),Ω⟩;have bq:eX n d3 (bK+1) s1=((eX n d3 bK (fa n s1 (i:Int) x)).1,i::(eX n d3 bK (fa n s1 (i:Int) x)).2):=by
      conv=>lhs;unfold eX
      rw[a8];simp only;rw[he]
     refine aI bK _ _ _ _ (Nat.lt_succ_self _) ⟨fa n s1 (i:Int) x,l++[i],bn,ax,ab.pi,Ω,?_,?_,Θ,bo,?_,?_⟩
     .have:=ab.d7;omega
     .rw[ab.elims];simp;omega
     .rw[l7];exact bp
     .rw[E,bq];simp
    .obtain⟨br,ag⟩:=a7 j;rw[aM];refine a2 _ _ ⟨ag,rfl,λv B=>?_⟩;by_cases e:v=i
     .subst e;exact br
     .exact M v Ω
   .intro ay q;refine(Hb (i:=(i:Int)) (G.W L) Ω).X ?_;rintro _ N _ ⟨rfl,ag⟩;have C:=L.F ag;rw[bh,ai];refine⟨λO=>?_,λO=>q _ _ ⟨rs,rfl,(λh=>by cases h),λ_=>⟨λh=>O (by have:=h.1;unfold dJ at this;omega),C⟩⟩⟩;refine(HA (i:=(i:Int)) (most:=(d3:Int)) (G.W C) (aO.W C) aQ aR U Ω Ω).X ?_;rintro _ ba _ ⟨rfl,bt,bu⟩;rw[bh];refine q _ _ ⟨_,rfl,λj=>?_,λj=>?_⟩
    .have f:=rc j;exact⟨by unfold dJ;omega,f,(bu f).ahead C⟩
    .have f:=of_decide_eq_false j;exact⟨λh=>f h.2,C.F (bt f)⟩
  .rintro _ Z a1 ⟨L,rfl,M⟩;refine ci Ω ?_;rw[aM];refine aW _ _ ⟨L,rfl,λv B f=>?_⟩;have h1:=K v B f;have am:=M v B;by_cases e:dJ n s1 v=d
   .exact m6 ⟨e,f⟩ am
   .omega
 .rintro _ Y aU ⟨z,rfl,K⟩;have bw:=UN K;have bx:eX n d3 m s1=(s1,[]):=by
   cases m with
   |zero=>rfl
   |succ m=>unfold eX;rw[bw]
  rw[bx]at E;refine ci Ω ⟨λh=>m6 P h,λ_=>⟨_,g,rfl,?_,aH,?_⟩⟩
  .rw[E];exact aK.W z
  .rw[E];simp only[V1];exact W.W z
end
def tM(n:aD)(s:am):Prop:=s.elims.length<=1000/\∀e∈s.elims,e.sc.length<=3/\(∀v∈e.sc,0<=v/\v<n.co.length)/\(0<=e.v/\e.v<n.co.length)/\(e.dn.length:Int)=aA (aB n.co e.sc)/\aA (aB n.co e.sc)<=4096
theorem tM.b{n:aD}{s:am}(h:tM n s):tz s:=λe he=>by
 obtain⟨h1,_,_,a,f⟩:=h.2 e he;exact⟨Ω,Ω⟩
section
variable{w:x3}{ac ad:Nat}{A R:ah}{n:aD}{s:am}{t:av}
end
theorem HC{p:x1}{x:Λ}(aG:aI .u8 w p x)(W:Bytes x)(a7:fj w):aj x7 IW [p] w (Sr w (x.take 300)):=by
 refine az func45 ?_;refine bx a6.i λB J bP al ab=>?_;have ab:ag J B a6 z12:=ab;rw[aS cS.u (aG.W al),nJ];refine L9 (i:=min x.length 300) Ω cS.u cM.i (aG.W al) Ω λbQ am=>?_;have a8:x.take (min x.length 300)=x.take 300:=by
  by_cases h:x.length<=300
  .rw[Nat.min_eq_left h,o6,n9 h]
  .rw[Nat.min_eq_right Ω]
 rw[a8]at am;have af:Bytes (x.take 300):=λb a=>W b (U1 a);have ba:(x.take 300).length<=300:=by rw[c7];omega
 generalize x.take 300=q at am af ba;refine(Rv am Ω).X ?_;rintro bR V _ ⟨an,bS,ao⟩;have aH:=al.F an;refine(Ph ao.ls af Ω (a7.W aH)).X ?_;rintro bT bU _ ⟨X,C⟩;have aJ:=aH.F X;cases G:eC q with
 |none=>
  rw[G]at C;obtain⟨n,e,rfl,he⟩:=C;rw[gX,gY,gZ];refine(FK (ao.W X).ls af Ω).X ?_;rintro bb ap _ ⟨M,bc,be,aq,_⟩;obtain rfl:=aq G;rw[gX,gY,gZ];refine aV (λv Y=>v= .bool ro/\Ext ap Y) ?_ ?_
  .rintro _ Y ⟨rfl,I⟩;rw[bY,dw (cs:=#[Δ 0,.slice ν 0 0,Δ 0,.slice ν 0 0,.slice ν 0 0,.slice ν 0 0,.slice ν 0 0,.slice ν 0 0]) Ψ];obtain⟨_,_,s,E⟩:=F7;refine cb (vs:=z12) a6.i rfl rfl (by intro u Z;simp[z12]at Z;rcases Z with rfl|rfl|rfl|rfl<;>rfl) ((((ab.W an).W X).W M).W I) λbV bf bW bg=>?_;rw[fD a6.p a6.i rfl bg.range];refine⟨((aJ.F M).F I).then bf λr C he=>by have he:r=B:=he;omega,_,_,rs,rfl,⟨rfl,(F7).elim λ_ h=>by obtain⟨_,_,h⟩:=h;exact λu Z=>by simp[z12]at Z;rcases Z with rfl|rfl|rfl|rfl<;>rfl⟩,.inl ⟨rfl,rfl⟩,λf aK=>?_⟩;rw[G]at aK;cases aK
  .intro ay K;rw[bJ,ai];exact⟨λ_=>K _ _ ⟨rfl,Ext.refl _⟩,λh=>m6 he h⟩
 |some f=>
  rw[G]at C;obtain⟨bX,n,rfl,bi⟩:=C;obtain⟨N,bj,O,bk,bl⟩:=Rt Ω G;have P:=Eu O;have ah:=zr O;rw[gX,gY,gZ];refine(FK (ao.W X).ls af Ω).X ?_;rintro bb ap _ ⟨M,bc,be,_,aq⟩;obtain⟨bZ,rfl,bm⟩:=aq f G;rw[gX,gY,gZ];refine aV (λv Y=>v= .bool rs/\Ext ap Y) ?_ ?_
  rotate_left
  .intro ay K;rw[bJ,ai];refine⟨λh=>m6 rfl h,λ_=>?_⟩;rw[cW xF.u];exact K _ _ ⟨rfl,Ext.refl _⟩
  rintro _ Y ⟨rfl,I⟩;rw[aX];have aL:=(aJ.F M).F I;refine(Qn ((bi.W M).W I) O bj ⟨bk,bl⟩).X ?_;rintro b0 bn _ ⟨au,bq⟩;have ak:=aL.F au;have Q:=((((ab.W an).W X).W M).W I).W au;have aM:=(bm.W I).W au;have b1:=ak.size;have b2:w.heap.size<=B:=Ω
  have b3:=Q.lt;rcases bq with⟨br,e,he,rfl⟩|⟨b4,rfl,bs⟩
  .rw[bo,bp];refine Ru.X ?_;rintro _ aN _ ⟨rfl,j⟩;refine jA (λav t4 y=>av= .pointer ν/\t4= .bool rs/\Ext w y/\∃cs:List x1,ag y B a6 cs/\cs.length=8/\∀u∈cs,u.oneCell'=ro) ?_ ?_
   .rintro _ _ y ⟨rfl,rfl,aw,cs,ax,s,E⟩;rw[fD a6.p a6.i s ax.range];exact⟨aw,_,cs,rs,rfl,⟨s,E⟩,.inl ⟨rfl,rfl⟩,λb5 aO bt=>m6 bt (by rw[G]at aO;cases aO;exact br)⟩
   .intro ay K;have bu:=j.size;refine(FU (aM.W j) O).X ?_;rintro bw aA _ ⟨z,aB⟩;refine(Gr (R:=λr=>w.heap.size<=r/\∃c,ag aA r ae c) (λr h=>h.2.elim λc a=>a.lt) (λr c W a=>⟨Ω,c,a⟩) aB P.1 ah).X ?_;rintro bz bA _ ⟨H,A9,cs,rfl,S,aC⟩;obtain⟨s,E⟩:=S.len;rw[bh,ai];refine⟨λh=>m6 h he,λ_=>?_⟩;refine cb (vs:=cs) a6.i s rfl E (((Q.W j).W z).W H) λbB L aP aD=>?_;exact K _ _ _ ⟨rfl,rfl,(((ak.F j).F z).F H).then L λr C he=>by have he:r=B:=he;omega,cs,aD,s,E⟩
  .rw[bo,bp];obtain⟨b6,bC,aQ,bD⟩:=bs;have z5:=aL.size;refine(QG (R0:=λr=>w.heap.size<=r/\r<bn.heap.size) bC aQ (λr o h U=>⟨by have:=bD r o h U;omega,(Z5.1 (aQ.aZ r o h U)).1⟩) (λr h=>h.2) P.1 ah).X ?_;rintro _ aN _ ⟨j,ac,ad,A,R,t,rfl,bE,aR,aT,aU,bF⟩;have aW:bd aN ac ad A R (df f) (di (df f)) t:=⟨bE,aR,Rx P.1 ah aR aT,Qw P.1,P.1⟩;refine jA (λav t4 y=>av=Γ ac/\t4= .bool ro/\Ext w y/\∃cs:List x1,ag y B a6 cs/\cs.length=8/\(∀u∈cs,u.oneCell'=ro)/\∃R' A9 aE,bd y ac ad A R' (df f) (di (df f)) t/\kl ro A9 aE y cs (df f).k (df f).co (di (df f))/\(∀q r,A9 q r->¬A r/\¬R' r/\w.heap.size<=r)/\(∀r,aE r->¬du y r/\r<y.heap.size/\w.heap.size<=r)/\∀r,R' r->w.heap.size<=r) ?_ ?_
   .rintro _ _ y ⟨rfl,rfl,aw,cs,ax,s,E,R',A9,aE,bG,S,bH,bI⟩;rw[fD a6.p a6.i s ax.range];exact⟨aw,_,cs,ro,rfl,⟨s,E⟩,.inr ⟨rfl,f,G,ac,ad,A,R',t,N,A9,aE,O,rfl,bG,aT,λr C=>by have:=aU r C;omega,S,bH,bI⟩,λ_ _ _=>rfl⟩
   .intro ay K;have bu:=j.size;refine(FU (aM.W j) O).X ?_;rintro bw aA _ ⟨z,aB⟩;refine(Gr (R:=λr=>w.heap.size<=r/\∃c,ag aA r ae c) (λr h=>h.2.elim λc a=>a.lt) (λr c W a=>⟨Ω,c,a⟩) aB P.1 ah).X ?_;rintro bz bA _ ⟨H,A9,cs,rfl,S,aC⟩;obtain⟨s,E⟩:=S.len;rw[bh,ai];refine⟨λ_=>?_,λh=>m6 rfl h⟩;rw[B7 dB.u];have aY:=((Q.W j).W z).W H;have bK:=((ak.F j).F z).F H;refine cb (vs:=cs) a6.i s rfl E aY λbB L aP aD=>?_;have a1:=(aW.W z).W H;obtain⟨R',a2,bL⟩:=a1.1.put aY L λh=>by have:=aU B h;omega
    have b7:=((ak.F j).F z).size;have b8:=H.size;obtain⟨_,_,_,_,⟨_,_,bM,bN⟩,_⟩:=(aW.W z).1;have b9:=Q.lt;have ca:=(j.F z).size;have bO:=S.aa L λr C h he=>by
     have he:r=B:=he;rcases h with⟨q,h⟩|⟨_,c,a⟩
     .have:=aC q r h;omega
     .subst he;exact m6 (eI a (((Q.W j).W z))) Φ
    refine K _ _ _ ⟨rfl,rfl,bK.then L λr C he=>by have he:r=B:=he;omega,cs,aD,s,E,R',A9,_,⟨bL,a1.2⟩,bO,λq r h=>?_,λr h=>?_,λr h=>?_⟩
    .have cc:=aC q r h;refine⟨λaF=>by have:=bN r aF;omega,λaF=>by have:=bM r (a2 r aF).1;omega,Ω⟩
    .obtain⟨W,c,a⟩:=h;have cd:=a.lt;have aP:=L.size;refine⟨zo ((a.W H).aa L λhe=>?_) Φ,Ω,W⟩;have he:r=B:=he;subst he;exact m6 (eI a (((Q.W j).W z))) Φ
    .rcases bF r (a2 r h).1 with h|h
     .exact h.1
     .omega
section
variable{Z aE:ah}{w I:x3}{ac ad ak:Nat}{A R:ah}{A9:Nat->ah}{n:aD}{s s':am}{t:av}{cs:List x1}{a:fY}
theorem UP(h:fu Z aE w ac ad ak n s)(X:a.ok):aj x7 xr [Γ ac,Γ ak,.agg a.bO.toArray] w λ_ I=>lH Z aE w ac ad ak n (k3 n s a) I:=by
 obtain⟨A,R,A9,t,cs,p,⟨aC,S⟩,aD,U,aF⟩:=id h;have O:=p.e7.2.2.2.1;have bs:=O.dH;have bt:=a.Ut;have G:¬A 0:=λh=>S ((U 0).2 (.inl h));have Y:=Uu (a:=a) aD O;refine az func88 ?_;refine bm λga J bu aG ab=>?_;have ab:ag J ga de [.int .u8 a.d,Δ a.i,Δ a.pos,Δ a.v,Δ a.c]:=ab;intro V aI _ _;have C:=aG.F aI;have B:=ab.W aI;have bw:=aG.size;have bx:=C.size;have bz:=B.lt;have af:(a.d % 7).toNat=a.kind:=rfl;obtain⟨d9,bA,bB,bC,bD,bE,aV,_⟩:=p.qu;have aW:cs[0]?=σ (Δ n.k):=by rw[aV];rfl
 have aX:U2.wrap a.c=a.c.emod 18446744073709551616:=rfl;have aY:0<=a.c.emod 18446744073709551616:=Int.emod_nonneg _ Φ;have bF:=Int.emod_nonneg (a.c.emod 18446744073709551616) (show n.k+1≠0 by omega);have bG:=Int.emod_lt_of_pos (a.c.emod 18446744073709551616) (show 0<n.k+1 by omega);have aZ:a.c.emod 18446744073709551616 % (n.k+1)=Ht n.k a:=rfl;rw[aQ de.p 4 B rfl,e1 ap.u fN.u,aK a6.p 0 (p.box.W C) aW,aM,lm Ω Ω,e1 ap.u fN.u,lw (x:=n.k+1) Ω Ω,aX,sr Ω,Int.tmod_eq_emod_of_nonneg aY,e1 fN.u ap.u,lm Ω Ω,aZ,
  aQ de.p 0 B rfl,Ag X.1,af,bh,ai]
 have E:=p.W C;refine⟨λah=>?_,λah=>?_⟩
 .have ah:a.kind=6:=Ω
  have H:k3 n s a=if e8 n a.i a.v then eD s a.i.toNat a.v.toNat else s:=by unfold k3;rw[m3 ah]
  refine dk (λI=>lH Z aE w ac ad ak n (k3 n s a) I) (λI h=>h) λay aJ=>?_;rw[aQ de.p 1 B rfl,aQ de.p 3 B rfl];refine(zp (i:=a.i) (v:=a.v) E.e7 (.inl p.jN.1)).X ?_;rintro bH bI _ ⟨a1,a2⟩;by_cases L:e8 n a.i a.v
  rotate_left
  .obtain⟨rfl,a7⟩:=a1 L;rw[bh,ai];exact⟨λh=>m6 h Φ,λ_=>aJ _ (by rw[H,m5 L];exact lH.same h (C.F a7))⟩
  obtain⟨rfl,aL,aH,y,am,a8⟩:=a2 L;rw[m3 L]at H;rw[bh,ai];refine⟨λ_=>?_,λh=>m6 rfl h⟩;have ba:=E.prog aL am a8 E.jN.set (λ_ h=>.inl h) (λ_ _ _ h=>h) E.box.lt;obtain⟨bb,x,P,bc,bJ⟩:=Hu O L;obtain⟨an,W⟩:=T0 bb;rw[W,u9]at P;intro ao aq _ _;have j:=ba.W aq;have au:∀r,A r->r<w.heap.size:=λr h=>qt p.e7 r (.inl h);have Q:=(B.aa am.1 λh=>by have:=au ga h;omega).W aq;rw[W]at Q;have aN:an<s.d6.length:=(x4.1 P).1;obtain⟨g,cap,aO,gy,e,av,bd,be,bf,bg⟩:=Uv j P;have bK:=wC x;have bL:x.un.length<=32:=by obtain⟨bM,aP,bN,bi,_⟩:=L.var O;rw[W,u9,P]at aP;cases aP;exact bi
  have aw:∀r,li aO r->r≠ga/\r≠ak:=λr f=>by
   have h1:A9 0 r/\r<V.heap.size:=bf r f;exact⟨λhe=>by have:=aF 0 r h1.1;omega,λhe=>(p.apart 0 r h1.1).2.2 he⟩
  rw[aK a6.p 3 j.box av,aQ de.p 1 Q rfl,aK a6.p 3 j.box av,aQ de.p 1 Q rfl,fv dL.u al.i aN λ_=>rfl,ax (v:=aO) (o:=0+an*1) Ψ bd,j1];refine(Gw (p:=λy=>decide (y=a.v)) be Ω λI y bj bP=>?_).X ?_
  .refine az func167 ?_;rw[aQ de.p 3 (Q.aa bj λh=>(aw ga h).1 rfl) rfl,bh];exact⟨rfl,Ext.refl _⟩
  rintro bQ aA _ ⟨aB,bk,bl⟩;have bn:=Q.aa aB λh=>(aw ga h).1 rfl;have bo:=j.box.aa aB λh=>(aw ak h).2 rfl;refine⟨.inr ⟨mP Ψ (bn.cell (o:=0+1) rfl),Go.Vc.kK λK=>aT de.p rfl,mP Ψ (bo.cell (o:=0+3) av),Go.Vc.kK λK=>aT a6.p rfl,Go.Vc.kK λK=>bR,trivial⟩,?_⟩;rw[fv dL.u al.i aN λ_=>rfl];refine bg (m:=((x.mask.toNat ||| 2 ^ a.v.toNat:Nat):Int)) (Ext.refl _) aB (by rw[zE bc];exact bk) bl λbS aR=>aJ _ ?_;have bp:eD s a.i.toNat a.v.toNat={s with d6:=s.d6.set an {x with mask:=((x.mask.toNat ||| 2 ^ a.v.toNat:Nat):Int)}}:=by rw[W,u9];unfold eD;rw[P]
  rw[H];rw[<-bp]at aR;have bq:=dC.comp (aq.aa _) (λq r f=>.inl ⟨q,f⟩) aR;exact lH.before C (fu.Uw E U (by rw[<-H];exact Y) S (aC.W C) aL am (λq r (f:A9 q r/\r<V.heap.size)=>f.1) bq)
 have bT:(mq n.k a).kind=a.kind:=rfl;have H:k3 n s a=(cK n.k s (mq n.k a)).1:=by unfold k3;rw[m5 Ω]
 rw[aQ de.p 0 B rfl,Ag X.1,af,e1 cM.u ae.u,lm Ω Ω,aQ de.p 1 B rfl,aQ de.p 2 B rfl,aQ de.p 3 B rfl];refine(Up (m:=mq n.k a) E O aD.1 Ω).X ?_;rintro _ ao _ ⟨rfl,aS⟩;obtain⟨aU,bU,bV,j,bW⟩:=id aS;have au:∀r,(∃q,A9 q r)\/r=ak->r<w.heap.size:=λr f=>f.elim (λ⟨q,h⟩=>aF q r h) λh=>by rw[h];exact p.box.lt
 have z:=B.aa aU λf=>by have:=au ga f;omega
 have M:Laid ao:=gH aU (λh=>S ((U 0).2 (h.elim (λh=>.inr (.inr (.inl h))) λh=>.inr (.inr (.inr (.inr h)))))) (aC.W C);have N:∀{r:x1}{aA:x3},qF [] ao ac ad A R n s (mq n.k a) r aA->lH Z aE w ac ad ak n (k3 n s a) aA:=λbr=>by
  rw[H]at Y ⊢;exact lH.before C (fu.step E U Y S aS (Ext.refl _) br.2)
 rw[aQ de.p 0 z rfl,Ag X.1,af,bh,ai];refine⟨λhk=>?_,λbX=>?_⟩
 .rw[aQ de.p 1 z rfl,aQ de.p 2 z rfl,aQ de.p 3 z rfl];exact(TR (a:=mq n.k a) Ω j.e7 M G j.jN.m).X λr I _ f=>N f
 rw[bh,ai];refine⟨λhk=>?_,λbY=>?_⟩
 .rw[aQ de.p 1 z rfl,aQ de.p 2 z rfl,aQ de.p 3 z rfl];exact(TS (a:=mq n.k a) Ω j.e7 M G j.jN.m).X λr I _ f=>N f
 rw[bh,ai];refine⟨λhk=>?_,λbZ=>?_⟩
 .rw[aQ de.p 1 z rfl];exact(TZ (a:=mq n.k a) Ω j.e7 M G j.jN.m).X λr I _ f=>N f
 rw[bh,ai];refine⟨λhk=>?_,λb0=>?_⟩
 .rw[aQ de.p 1 z rfl];exact(Ub (a:=mq n.k a) Ω j.e7 M G j.jN.m).X λr I _ f=>N f
 rw[bh,ai];refine⟨λhk=>?_,λb1=>?_⟩
 .rw[aQ de.p 1 z rfl,aQ de.p 3 z rfl];exact(Uc (a:=mq n.k a) Ω j.e7 M G j.jN.m).X λr I _ f=>N f
 .rw[aQ de.p 1 z rfl,aQ de.p 3 z rfl];exact(Ud (a:=mq n.k a) Ω j.e7 M G j.jN.m).X λr I _ f=>N f
end
section
variable{w0 w I:x3}{ac ad ak:Nat}{n:aD}{s:am}{Z aE:ah}
def nr(w0 w:x3)(ac ad ak:Nat)(n:aD)(s:am):Prop:=Ext w0 w/\∃Z aE,fu Z aE w ac ad ak n s/\∀r,Z r->w0.heap.size<=r
theorem nr.W(h:nr w0 w ac ad ak n s)(a:Ext w I):nr w0 I ac ad ak n s:=by
 obtain⟨e,Z,aE,f,j⟩:=h;exact⟨e.F a,Z,aE,f.W a,j⟩
def kp(n:aD)(L:List ko)(m:Nat)(s:am):am:=((L.take m).map lG).foldl (k3 n) s
theorem nr.UQ{a:fY}(h:nr w0 w ac ad ak n s)(p:a.ok):aj x7 xr [Γ ac,Γ ak,.agg a.bO.toArray] w λ_ I=>nr w0 I ac ad ak n (k3 n s a):=by
 obtain⟨e,Z,aE,q,f⟩:=h;refine(UP q p).X ?_;rintro v J _ ⟨x,y,A,B⟩;have z:=e.size;exact⟨e.then x λr j h=>by have:=f r h.1;omega,y,aE,B,λr j=>(A r j).elim (f r) λh=>Ω⟩
theorem UR{e:x1}{L:List ko}{K:x1->x3->Prop}{i:Nat}{x:ko}(j:Seen fo w [e] L)(q:L[i]?=σ x)(r:∀g I,Ext w I->w.heap.size<=g->ag I g de (lG x).bO->K (Γ g) I):
  ab x7 (j4 pE e (Δ (i:Int))) w λs=>
  ab x7 (u4 de s) w λt28=>
  aC x7 (S5 de ro (.tuple #[])) w λa f=>
  aC x7 (o7 de a t28) f λ(_:Unit)h=>K a h:=by
 refine pL (α:=ko) de.p rfl pE.u de.i j q λcs y=>?_;obtain rfl:=Ur y;refine bx de.i λgy f E z A=>?_;refine cb (vs:=(lG x).bO) de.i rfl rfl (fY.one _) A λh B F C=>?_;exact r _ _ (z.put B Ω) Ω C
theorem US{y:x1}{L:List ko}{m:Nat}{K:x3->Prop}(h:nr w0 w ac ad ak n s)(j:Seen fo w0 [y] L)(M:∀x∈L,(lG x).ok)(N:∀I,nr w0 I ac ad ak n (kp n L m s)->K I):
  ab x7 (W0 #[pE] ae #[y]) w λO=>
 cm (Δ 0) w λq a k=>
  ab x7 (aO .lss ae rs rs q O) a λP=>
  Split P (cz (α:=x3->Prop) (λ(B:x3)=>
   ab x7 (aO .add ae rs ro q (Δ 1)) B λQ=>
   k Q B) λC=>
  ab x7 (j4 pE y q) a λR=>
  ab x7 (u4 de R) a λS=>
  aC x7 (S5 de ro (.tuple #[])) a λb E=>
  aC x7 (o7 de b S) E λ(_:Unit)r=>
  ab x7 (aO .lss ae rs ro q (Δ (m:Int))) r λU=>
  Split U (ab x7 (u4 de b) r λV=>
   aj x7 xr [Γ ac,Γ ak,V] r λag G=>
   C G)
   (C r))
   (K a):=by
 rw[kB pE.u (b6 j h.1)];refine cm.range L.length (λi z=>nr w0 z ac ad ak n (kp n (L.take i) m s)) (uI j) (by rw[show kp n (L.take 0) m s=s by simp[kp]];exact h) ?_ ?_
 .rintro i z W hi f X;obtain⟨x,A⟩:=aF (l:=L) hi;have Y:=M x (x5 A);refine bC Ω ?_;refine dk (λa=>nr w0 a ac ad ak n (kp n (L.take (i+1)) m s)) (λa Z=>by rw[aM];exact X _ Z) λay H=>?_;refine UR (b6 j f.1) A λgy E J _ aa=>?_;rw[aP,ai];refine⟨λaf=>?_,λaf=>H _ ?_⟩
  .rw[bB de.p de.i rfl aa.range];refine((f.W J).UQ Y).X λv G _ j=>H _ ?_;have e:kp n (L.take (i+1)) m s=k3 n (kp n (L.take i) m s) (lG x):=by
    unfold kp;rw[n9 (by rw[c7];omega),n9 (l:=L.take i) (by rw[c7];omega),u7,A,l9,l7,List.foldl_append];rfl
   rw[e];exact j
  .have e:kp n (L.take (i+1)) m s=kp n (L.take i) m s:=by
    unfold kp;rw[List.take_take,List.take_take,Nat.min_eq_left Ω,Nat.min_eq_left Ω]
   rw[e];exact f.W J
 .rintro z W f;rw[o6]at f;exact ci Ω (N _ f)
end
def HD(w:x3)(a:Λ)(L:List ko)(r:x1)(I:x3):Prop:=Ext w I/\((eC (a.take 300)=ν/\∃cs:List x1,r= .tuple #[.pointer ν,.agg cs.toArray,.bool rs]/\cs.length=8/\∀u∈cs,u.oneCell'=ro)\/∃f ac ad ak Z aE s cs,s=kp (df f) L 12 (di (df f))/\r= .tuple #[Γ ac,.agg cs.toArray,.bool ro]/\eC (a.take 300)=σ f/\
 fu Z aE I ac ad ak (df f) s/\jd [] Z aE I ac ad ak (df f) s s cs/\∀r,Z r->w.heap.size<=r)
theorem UT{p U:x1}{q:Λ}{L:List ko}(av:aI .u8 w p q)(aw:∀b∈q,0<=b/\b<256)(ax:Seen fo w [U] L)(ay:∀x∈L,(lG x).ok)(aA:fj w)(C:Laid w):aj x7 xo [p,U] w (HD w q L):=by
 have aW:=om C;refine az func21 ?_;refine bx a6.i λj J aY s W=>?_;have aZ:=W.lt;have a1:=s.size;refine(HC (av.W s) aw (aA.W s)).X ?_;rintro _ V _ ⟨E,a2,cs,ok,rfl,⟨G,H⟩,aB,aD⟩;rw[gX,gY,gZ];refine bx a6.i λak a7 a8 aF aG=>?_;refine cb (vs:=cs) a6.i G rfl H aG λX aH ba Y=>?_;have aa:Ext V X:=aF.put aH Ω;have I:=E.F aa;have ae:=s.F I;have bb:=E.size;have out:∀{a:x3}{y:List x1}{K:x1->x3->Prop},Ext J a->ag a ak a6 y->y.length=8->(∀u∈y,u.oneCell'=ro)->(∀e,af (λr=>r=j) a e->K (.agg y.toArray) e)->
   ab x7 (u4 a6 (Γ ak)) a λt25=>aC x7 (o7 a6 (Γ j) t25) a λ(_:Unit)e=>ab x7 (do loadVar a6 (<-asAddr (Γ j))) e λr=>K r e:=λ{a y K}aJ aK M aL aM=>by
  rw[bB a6.p a6.i M aK.range];refine cb (vs:=y) a6.i M rfl aL (W.W aJ) λe N bc aN=>?_;rw[fD a6.p a6.i M aN.range];exact aM _ N
 have no:∀{e:x3},eC (q.take 300)=ν->(∃a,Ext X a/\af (λr=>r=j) a e)->HD w q L (.tuple #[.pointer ν,.agg cs.toArray,.bool rs]) e:=λO ⟨a,z,aO⟩=>⟨(ae.F z).then aO λr B h=>by have h:r=j:=h;omega,.inl ⟨O,cs,rfl,G,H⟩⟩;rcases aB with⟨rfl,rfl⟩|⟨rfl,f,aP,aQ⟩
 .have O:eC (q.take 300)=ν:=by
   cases ah:eC (q.take 300)with
   |none=>rfl
   |some f=>exact m6 (aD f ah (Un (by rw[c7];omega) ah)) Φ
  rw[bA,X4,bY];intro a z _ _;exact out (I.F z) (Y.W z) G H λe N=>no O ⟨a,z,N⟩
 obtain⟨ac,ad,Z,aE,rfl,ai,aR⟩:=Uq aQ aa Y Ω E.size (om (C.W s)) (C.W ae);obtain⟨d9,bd,be,bf,bg,bh,bi,_⟩:=ai.look;rw[bA,Y6,aX];refine US (w0:=J) (m:=12) ⟨I,Z,aE,ai,aR⟩ (b6 ax s) ay λbj aS=>?_;obtain⟨al,am,aT,aU,an⟩:=aS;intro bk P _ _;have ao:=aU.W P;obtain⟨Q,ap,aV⟩:=ao.bD;have aq:Q.length=8/\∀u∈Q,u.oneCell'=ro:=by
  obtain⟨A,R,A9,t,p,_⟩:=id ap;exact cg.len p.doc
 have au:∀r,am r->¬r=j:=λr B h=>by have:=an r B;omega
 refine out (al.F P) aV aq.1 aq.2 λbl S=>⟨((s.F al).F P).then S λr B h=>by have h:r=j:=h;omega,.inr ⟨f,ac,ad,ak,am,aT,_,Q,rfl,rfl,aP,ao.side S au (λh=>by have h:0=j:=h;omega),ap.side S au (λh=>by have h:0=j:=h;omega),λr B=>by have:=an r B;omega⟩⟩
def mu:Λ:=[116,32,50,32,50,32,49,32,57,32,50,32,50,32,50,32,48,32,49,32,48,32,51,32,48,32,49,32,53,32,49,32,48,32,50,32,49,32,49,32,49]
def k4:b5:=⟨[116],9,[2,2],[⟨[0,1],[2,2],0,[([0,1],5),([1,0],2),([1,1],1)]⟩]⟩
theorem UU:eC mu=σ k4:=by
 have h:(match eC mu with
  |some f=>decide (f=k4)
  |none=>rs)=ro:=by decide+kernel
 cases a:eC mu with
 |none=>rw[a]at h;cases h
 |some f=>rw[a]at h;rw[rc h]
theorem UV:jM k4.d7<=16384:=by decide+kernel
def ns:am:=ml (df k4) (di (df k4)) 1 2
theorem UW:dz (df k4) (di (df k4)) 1 2=0/\gB ns 0 0=0/\gB ns 0 1=1/\ns.elims.length=1/\(ns.elims[0]?.map λe=>e.dn)=σ [0,1]/\ns.elims.all (λe=>decide (e.sc.length<=1000/\e.dn.length<=5000))=ro/\(di (df k4)).d7.length<=999:=by decide+kernel
theorem HE:e8 (df k4) 0 0/\e8 (df k4) 0 1:=by decide+kernel
theorem UX(aa:fj w)(C:Laid w):aj x7 Bq [] w λv I=>v= .bool ro/\Ext w I:=by
 refine az func8 ?_;refine lU (k:=1) (cs:=(ints .u8 mu).toArray) cS.u cM.i Ω Ψ λg J bn a j=>?_;have G:ao .u8 cM J g (.slice (σ ⟨g,0,ν⟩) 41 41) mu:=ao.of (n:=41) (bZ.full (by simpa using j) (by simp[mu]) (by simp[maxLen]));refine Sq j λq H K=>?_;have a:Ext w q:=a.put H Ω;have ab:aI .u8 q (.slice (σ ⟨g,0,ν⟩) 41 41) mu:=by
  obtain⟨af,b,o,base,cap,ag,ah,am,an,ap⟩:=G.ls;cases ag;cases an (by simp[mu]);exact⟨af,g,0,_,41,rfl,ah,am,λ_=>rfl,K _ _ ap⟩
 clear G j K H;refine(HC ab (by intro b aq;simp[mu]at aq;omega) (aa.W a)).X ?_;rintro _ V _ ⟨au,av,cs,ok,rfl,⟨aw,aA⟩,aB,aC⟩;have L:eC (mu.take 300)=σ k4:=by
  rw[n9 Φ];exact UU
 have aD:ok=ro:=aC k4 L UV;subst aD;obtain⟨f,M,ac,ad,A,R,t,N,A9,aE,bq,rfl,aG,aJ,O,_⟩:∃f,eC (mu.take 300)=σ f/\wp q.heap.size V av cs f:=by
  rcases aB with⟨h,_⟩|⟨_,h⟩
  .cases h
  .exact h
 rw[L]at M;cases M;have P:=a.F au;rw[gX,gY,gZ];refine bx a6.i λak br bs aK aL=>?_;refine cb (vs:=cs) a6.i aw rfl aA aL λaM aN bt bu=>?_;have s:Ext V aM:=aK.put aN Ω;have aO:=aG.W s;have aP:¬A 0:=λh=>by have:=O 0 h;have:=om (C.W a);omega
 obtain⟨aQ,aR,aS,bw,Q,aU,aW⟩:=UW;refine aV (λv z=>v= .bool rs/\Ext w z/\∃A R t,bd z ac ad A R (df k4) ns t) ?_ λay aY=>?_
 .rintro _ z ⟨rfl,aZ,bz,bB,t5,B⟩;rw[aX];refine(ni (i:=0) (v:=0) B).X ?_;rintro _ S _ ⟨rfl,U⟩;rw[m3 HE.1,bo,bp];refine(ni (i:=0) (v:=1) (B.W U)).X ?_;rintro _ bC _ ⟨rfl,a1⟩;rw[m3 HE.2,bo,bp];have W:=U.F a1;refine aV (λv a2=>v= .bool ro/\Ext w a2) (λ_ _ h=>h) λbD a7=>?_;have a8:gB ns (0:Int).toNat (0:Int).toNat=0:=aR;have ba:gB ns (0:Int).toNat (1:Int).toNat=1:=aS;rw[a8,ba,bh,ai];refine⟨λ_=>?_,λh=>m6 rfl h⟩;rw[bh,ai];refine⟨λ_=>?_,λh=>m6 rfl h⟩;have bb:tz ns:=λe he=>rc (List.all_eq_true.1 aU e he);refine(SR (B.W W) bb Ω).X ?_;rintro bE bF _ ⟨bc,bG,⟨E,X,bH,be⟩,_⟩;obtain⟨e,he⟩:=aF (l:=ns.elims) (i:=0) Ω;obtain⟨x,Y⟩:=aF (l:=E) (i:=0) Ω;obtain⟨_,_,bI,bf⟩:=be 0 x e Y he;have bg:e.dn=[0,1]:=by rw[he]at Q;exact Z7 Q
  rw[dm (i:=0) (y:=0) rfl jB.u ca.i X Ω,aT ca.p rfl,ax Ψ (X.range Y 2 _ rfl)];refine uR (l:=[0,1]) al.u ae.i Ω rfl Ψ λbK bL bM _ Z bi=>?_;refine(uK (bf.W Z).ls bi.ls).X ?_;rintro _ bN _ ⟨rfl,bj⟩;rw[bg];exact a7 _ _ ⟨rfl,aZ.F (((W.F bc).F Z).F bj)⟩
 .rw[bA,Y6,aX];refine(HB (i:=1) (most:=2) aO (C.W (P.F s)) aP aJ.2.2.1.m (GI _) aW (by show(0:Nat)<=_;omega)).X ?_;rintro _ S _ ⟨rfl,bO,bP,aH,R',t',bk,bl,_⟩;have bm:Ext w S:=(P.F s).then bk.1 λr bQ h=>by have:=O r h;have:=a.size;omega
  rw[aQ,bJ];exact aY _ _ ⟨rfl,bm,aH,R',t',bl⟩
structure iq(an:List av)(S:ah)(w0 w:x3)(ac ad ak:Nat)(n:aD)(s s0:am)(cs:List x1):Prop where
 W:Ext w0 w
 bD:je an S w ac ad n s s0 cs
 low:∀r,r<w0.heap.size->S r
 r2:S ak
 box:ag w ak a6 cs
section
variable{an:List av}{S:ah}{w0 w I J:x3}{ac ad ak:Nat}{n:aD}{s s0 s1:am}{cs:List x1}
theorem iq.own(h:iq an S w0 w ac ad ak n s s0 cs)(a:Ext w I):iq an (λr=>S r\/(w.heap.size<=r/\r<I.heap.size)) w0 I ac ad ak n s s0 cs:=
 ⟨h.W.F a,h.bD.own a,λr e=>.inl (h.low r e),.inl h.r2,h.box.W a⟩
theorem iq.ext'(h:iq an S w0 w ac ad ak n s s0 cs)(a:Ext w I):iq an S w0 I ac ad ak n s s0 cs:=⟨h.W.F a,h.bD.W a,h.low,h.r2,h.box.W a⟩
theorem iq.look(h:iq an S w0 w ac ad ak n s s0 cs):mi w ak n.k n.co s0:=by
 obtain⟨_,_,_,h1,_⟩:=id h.bD;exact lC.box h1.ok.2 (Ext.refl _) h.box
theorem iq.e7(h:iq an S w0 w ac ad ak n s s0 cs):∃A R t,bd w ac ad A R n s t/\Laid w/\¬A 0/\cV an t:=by
 obtain⟨A,R,t,h1,a,e,f,_⟩:=h.bD.mr;exact⟨A,R,t,h1,a,e,f⟩
theorem iq.mr(h:iq an S w0 w ac ad ak n s s0 cs):∃A R t,bd w ac ad A R n s t/\Laid w/\¬A 0/\cV an t/\∀{J V:x3}{s1:am},Ext w J->fZ an J ac ad A R n s1 V->af (λr=>¬S r) w V/\iq an S w0 V ac ad ak n s1 s0 cs:=by
 obtain⟨A,R,t,h1,f,j,p,q⟩:=h.bD.mr;refine⟨A,R,t,h1,f,j,p,λ{J V s1}x hm=>?_⟩;obtain⟨a,y⟩:=q x hm;exact⟨a,h.W.then a λr z e=>e (h.low r z),y,h.low,h.r2,h.box.aa a λe=>e h.r2⟩
structure wQ(n:aD)(s:am):Prop where
 ok:aY n.k n.co s
 pi:cd s
 gone:∀j,cf s j=rs
 d7:s.d7.length<=256
 elims:s.elims=[]
theorem iq.before{bq:x3}(h:iq an S w0 w ac ad ak n s s0 cs)(a:Ext bq w0):iq an S bq w ac ad ak n s s0 cs:=⟨a.F h.W,h.bD,λr e=>h.low r (by have:=a.size;omega),h.r2,h.box⟩
theorem HF{p H:x1}{e:Λ}{L:List ko}{w:x3}{K:x1->x1->x1->x3->Prop}(P:aI .u8 w p e)(Q:∀b∈e,0<=b/\b<256)(W:Seen fo w [H] L)(X:∀x∈L,(lG x).ok)(Y:fj w)(aa:Laid w)(ae:∀ak a,eC (e.take 300)=ν->Ext w a->K (.pointer ν) (Γ ak) (.bool rs) a)(af:∀f n s ac ad ak S cs a,(eC (e.take 300)=σ f/\n=df f/\s=kp n L 12 (di n))->wQ n s->iq [] S w a ac ad ak n s s cs->K (Γ ac) (Γ ak) (.bool ro) a):
  aj x7 xo [p,H] w λt28 V=>
   ab x7 (c8 t28 0) V λag=>
   ab x7 (c8 t28 1) V λah=>
   ab x7 (c8 t28 2) V λai=>
   aC x7 (S5 a6 ro (.tuple #[])) V λx h=>
   aC x7 (o7 a6 x ah) h λ(_:Unit)a=>K ag x ai a:=by
 refine(UT P Q W X Y aa).X ?_;rintro _ V _ ⟨q,al⟩;have aB:=q.size;rcases al with⟨am,cs,rfl,an,ao⟩|⟨f,ac,ad,aD,Z,aE,s,cs,U,rfl,ap,I,J,aq⟩
 .rw[gX,gY,gZ];refine bx a6.i λak h au y z=>?_;refine cb (vs:=cs) a6.i an rfl ao z λa C av E=>?_;exact ae _ _ am (q.F (y.put C Ω))
 rw[gX,gY,gZ];have M:cs.length=8/\∀u∈cs,u.oneCell'=ro:=by
  obtain⟨A,R,A9,t,p,_⟩:=id J;exact cg.len p.doc
 refine bx a6.i λak h au y z=>?_;refine cb (vs:=cs) a6.i M.1 rfl M.2 z λa C av E=>?_;have N:Ext V a:=y.put C Ω;have aw:=q.F N;obtain⟨ax,ay,O,_⟩:=I.ok;have az:=I.live;refine af f (df f) s ac ad ak _ cs a ⟨ap,rfl,U⟩ ⟨ax,ay,λj=>?_,az.2,O.elims⟩ ⟨aw,je.start J (B:=w.heap.size) (λr G=>by have:=aq r G;omega) N Ω,λr G=>.inl G,.inr ⟨Ω,E.lt⟩,E⟩;unfold cf;cases aA:s.d6[j]? with
 |none=>rfl
 |some x=>simp[Uz O aA]
theorem UY{p q:x1}{j:Λ}{L:List ko}{w:x3}{Q:x1->x3->Prop}{K:x1->x1->x1->x3->Prop}(z:aI .u8 w p j)(A:∀b∈j,0<=b/\b<256)(B:Seen fo w [q] L)(C:∀x∈L,(lG x).ok)(r:fj w)(y:Laid w)(E:∀ak a,eC (j.take 300)=ν->Ext w a->K (.pointer ν) (Γ ak) (.bool rs) a)(G:∀f n s ac ad ak S cs a,(eC (j.take 300)=σ f/\n=df f/\s=kp n L 12 (di n))->wQ n s->iq [] S w a ac ad ak n s s cs->K (Γ ac) (Γ ak) (.bool ro) a):
  aj x7 Bq [] w λH J=>
   ab x7 (Op.unary .not H) J λI=>
   Split I (Q (.bool rs) J)
    (aj x7 xo [p,q] J λt28 V=>
   ab x7 (c8 t28 0) V λM=>
   ab x7 (c8 t28 1) V λN=>
   ab x7 (c8 t28 2) V λO=>
   aC x7 (S5 a6 ro (.tuple #[])) V λx P=>
   aC x7 (o7 a6 x N) P λ(_:Unit)a=>K M x O a):=by
 refine(UX r y).X ?_;rintro _ J _ ⟨rfl,e⟩;rw[bA,Y6,aX];exact HF (z.W e) A (b6 B e) C (r.W e) (y.W e) (λak a h R=>E ak a h (e.F R)) λf n s ac ad ak S cs a h1 U W=>G f n s ac ad ak _ cs a h1 U (W.before e)
theorem wQ.Aj(h:wQ n s):tM n s:=⟨by rw[h.elims];simp,λe he=>by rw[h.elims]at he;cases he⟩
end
section
variable{w:x3}
end
theorem HG{n:aD}{most:Nat}:∀(m:Nat)(s:am),(eX n most m s).2.length<=m
 |0,s=>p9 _
 |m+1,s=>by
  unfold eX;cases ip n s most with
  |none=>simp
  |some i=>
   simp only[Y3];exact Nat.succ_le_succ (HG m _)
theorem UZ{n:aD}{s:am}(a:aY n.k n.co s):goN s<=n.co.length:=by
 have h1:=List.countP_le_length (p:=λy:bs=>decide (y.gone=0)) (l:=s.d6);have e:=a.d6;unfold goN;omega
theorem oi.Aj{n:aD}{s s':am}{l:List Nat}(h:oi n s s' l)(f:tM n s)(p:s.elims.length+l.length<=1000):tM n s':=by
 obtain⟨E,a,q,j,_⟩:=h.elims;refine⟨by rw[a,p8];omega,λe he=>?_⟩;rw[a]at he;exact(o9.1 he).elim (f.2 e) (j e)
section
variable{an:List av}{S T:ah}{w0 w I J:x3}{ac ad ak:Nat}{n:aD}{s s0 s1:am}{cs:List x1}
theorem je.HH(h:je an S w ac ad n s s0 cs)(e:af T w I)(j:∀r,r<w.heap.size->¬S r->¬T r)(p:¬T 0):je an (λr=>S r\/(w.heap.size<=r/\r<I.heap.size)) I ac ad n s s0 cs:=by
 obtain⟨ak,Z,aE,h1,f,q⟩:=h;have z:=e.size;exact⟨ak,Z,aE,h1.side e (λr a=>j r (h1.lt r a) (f r a)) p,λr a U=>U.elim (f r a) λh=>by have:=h1.lt r a;omega,λr a=>a.elim (λh=>by have:=q r h;omega) λh=>h.2⟩
def oq(w:x3)(ac ad ak:Nat)(lI lJ:Nat)(n:aD)(s s0 s1:am)(cs fS:List x1)(mv:ah)(B:Nat)(bq:x3):Prop:=
 ∃a,iq [] a w bq ac ad ak n s s0 cs/\je [] mv bq lI lJ n s1 s0 fS/\(∀r,r<bq.heap.size->¬a r->mv r)/\(∀r,r<B->mv r)/\(0<w.heap.size/\w.heap.size<=B)/\ak<B
variable{lI lJ B:Nat}{fS:List x1}{mv:ah}{bq cU:x3}
theorem oq.W(h:oq w ac ad ak lI lJ n s s0 s1 cs fS mv B bq)(a:Ext bq cU):oq w ac ad ak lI lJ n s s0 s1 cs fS mv B cU:=by
 obtain⟨x,h1,f,j,p⟩:=h;have z:=a.size;exact⟨_,h1.own a,f.W a,λr q e=>j r (by
  by_cases h:r<bq.heap.size
  .exact h
  .exact m6 (.inr ⟨Ω,q⟩) e) λh=>e (.inl h),p⟩
theorem oq.mr(h:oq w ac ad ak lI lJ n s s0 s1 cs fS mv B bq):∃A R t,bd bq lI lJ A R n s1 t/\Laid bq/\¬A 0/\cV [] t/\∀{cU:x3}{s2:am},fZ [] bq lI lJ A R n s2 cU->af (λr=>¬mv r) bq cU/\oq w ac ad ak lI lJ n s s0 s2 cs fS mv B cU:=by
 obtain⟨L,h1,y,q,p,⟨C,E⟩,x⟩:=h;obtain⟨A,R,t,F,G,H,I,J⟩:=y.mr;refine⟨A,R,t,F,G,H,I,λ{cU s2}hm=>?_⟩;obtain⟨f,K⟩:=J (Ext.refl _) hm;have z:=f.size;refine⟨f,_,⟨h1.W.then f λr a e=>e (p r Ω),h1.bD.HH f (λr a e j=>j (q r a e)) (λj=>j (p 0 Ω)),λr a=>.inl (h1.low r a),.inl h1.r2,h1.box.aa f λj=>j (p ak x)⟩,K,λr a e=>q r (by
  by_cases h:r<bq.heap.size
  .exact h
  .exact m6 (.inr ⟨Ω,a⟩) e) λh=>e (.inl h),p,⟨C,E⟩,x⟩
end
theorem U0{n:aD}{m i:Nat}{s s':am}{l:List Nat}(h:eX n most m s=(s',i::l)):∃bK,m=bK+1/\ip n s most=σ i/\eX n most bK (ml n s (i:Int) (most:Int))=(s',l):=by
 cases m with
 |zero=>cases h
 |succ m=>
  unfold eX at h;cases a:ip n s most with
  |none=>rw[a]at h;cases h
  |some j=>
   rw[a]at h;simp only[T2,List.cons.injEq]at h;obtain⟨h1,rfl,e⟩:=h;exact⟨m,rfl,rfl,Prod.ext h1 e⟩
theorem Va{n:aD}{m:Nat}{s s':am}(h:eX n most m s=(s',[])):s'=s:=by
 cases m with
 |zero=>cases h;rfl
 |succ m=>
  unfold eX at h;cases a:ip n s most with
  |none=>rw[a]at h;cases h;rfl
  |some j=>rw[a]at h;simp at h
theorem Vb{p aO:x1}{aR:Λ}{L:List ko}{m:Int}{Q:x1->x3->Prop}(aT:∀I,Ext w I->Q (.bool ro) I)(aU:aI .u8 w p aR)(aW:∀b∈aR,0<=b/\b<256)(aZ:Seen fo w [aO] L)(a1:∀x∈L,(lG x).ok)(hm:0<=m/\m<256)(a2:fj w)(ap:Laid w):
  aj x7 Bp [p,aO,.int .u8 m] w Q:=by
 refine az func4 ?_;refine UY aU aW aZ a1 a2 ap (λak J _ bx=>?_) λf n s ac ad ak S cs J aq K X=>?_
 .rw[bA,X4,bY,cW dB.u];exact aT _ bx
 rw[bA,Y6,aX];have M:=X.W;have bz:=M.size;have a7:=om ap;refine HF (aU.W M) aW (b6 aZ M) a1 (a2.W M) (ap.W M) (λbB au bF _=>m6 aq.1 (by rw[bF];simp)) λf2 a s2 lI lJ bB mv fS au a8 cC N=>?_;obtain⟨rfl⟩:f=f2:=Z7 (aq.1.symm.F a8.1);obtain⟨_,A,U⟩:=aq;obtain⟨_,bG,bH⟩:=a8;obtain rfl:a=n:=bG.F A.symm;obtain rfl:s2=s:=bH.F U.symm;have O:=K.ok;have Y:=K.pi;have cD:=K.d7;have cE:s2.elims.length=0:=by rw[K.elims];rfl
 have bI:Y7.wrap (m.tmod 4)=m % 4:=by rw[Int.tmod_eq_emod_of_nonneg hm.1,lm Ω Ω]
 rw[sr Φ,e1 cM.u ae.u,bI];obtain⟨d,bL⟩:∃d:Nat,m % 4=(d:Int):=⟨(m % 4).toNat,Ω⟩;rw[bL];have ba:=N.W;have cF:=ba.size;have bM:=X.own ba;obtain⟨cG,cH,cI,bN,bO,bP,bQ,bR⟩:=bM.mr;refine(UO (most:=(d:Int)) bN bO bP bQ Y Ω Ω).X ?_;rintro _ P _ ⟨_,bS⟩;obtain⟨bD,bT,rfl,bU,cJ,R⟩:=bS ⟨Ω,Ω⟩;obtain⟨bb,av⟩:=bR (Ext.refl _) bU;rw[bo,bp,bJ,ai];refine⟨λh=>m6 rfl h,λ_=>?_⟩;rw[u9]at R av;have aw:=GY (n:=a) (most:=d) (goN s2) O Y;have bc:=GZ (n:=a) (most:=d) (goN s2) O Y (p9 _);have bV:=HG (n:=a) (most:=d) (goN s2) s2;have cK:=UZ O;obtain⟨q,bd⟩:∃q,q=eX a d (goN s2) s2:=⟨_,rfl⟩;rw[<-bd]at aw bV av R bc;have cL:=O.c5.2.1;have ax:=aw.Aj K.Aj Ω;have cN:=aw.d7;have cO:=bb.size;have bf:=N.bD.HH bb (λr G A z=>z (.inr ⟨by
  by_cases h:r<J.heap.size
  .exact m6 (N.low r h) A
  .omega,G⟩)) (λz=>z (.inl (X.low 0 a7)))
 obtain⟨C,Z⟩:∃C:ah,C=λr=>mv r\/(au.heap.size<=r/\r<P.heap.size):=⟨_,rfl⟩;rw[<-Z]at bf;have bW:oq w ac ad ak lI lJ a q.1 s2 s2 cs fS C J.heap.size P:=⟨_,av,bf,λr G A=>by
  rw[Z];by_cases h:r<J.heap.size
  .exact .inl (N.low r h)
  .by_cases bi:r<au.heap.size
   .exact m6 (.inr ⟨Ω,bi⟩) A
   .exact .inr ⟨Ω,G⟩,λr G=>by rw[Z];exact .inl (N.low r G),⟨a7,bz⟩,X.box.lt⟩
 have bX:∀{cU:x3},af (λr=>¬C r) P cU->ao .i64 ae cU bT bD (q.2.map λi:Nat=>(i:Int)):=λbZ=>bk R bZ λr G A=>A (by
  obtain⟨cP,cQ⟩:=bE R G;rw[Z];exact .inr ⟨Ω,Ω⟩)
 rw[aS al.u R.ls];have b0:(q.2.map λi:Nat=>(i:Int)).length=q.2.length:=o4 _;rw[b0];refine b2.range q.2.length (λj _ bq=>∃e V,oq w ac ad ak lI lJ a q.1 s2 e cs fS C J.heap.size bq/\af (λr=>¬C r) P bq/\aY a.k a.co e/\cd e/\(e.d7.length<=256+j/\e.elims.length<=j)/\eX a d V e=(q.1,q.2.drop j)) Ω ⟨s2,_,bW,af.refl _ _,O,Y,⟨Ω,Ω⟩,by rw[List.drop_zero];exact bd.symm⟩ ?_ ?_
 .rintro j c bq b1 b3 ⟨e,V,z,aA,aB,aC,⟨b4,b5⟩,W⟩ b7;refine bC Ω ?_;obtain⟨i,hi⟩:=aF (l:=q.2) b3;obtain⟨b8,ca⟩:=x4.1 hi;rw[X1 b8,ca]at W;obtain⟨bK,_,bg,bj⟩:=U0 W;have cb:=UI bg;obtain⟨cR,bl⟩:=qA bg;have aD:mi bq ak a.k a.co s2:=by obtain⟨bm,h1,_⟩:=z;exact h1.look
  obtain⟨d9,_,_,_,_,_,aE,aG,_⟩:=id aD;rw[be al.u ae.i Ψ (bX aA).ls (x:=(i:Int)) (by rw[x8,hi];rfl),aQ a6.p 1 aE rfl,aS al.u aG];refine k8.range a.co.length (λv f l cU=>Ext bq cU/\f=Δ (jf a e d v).1/\l=Δ (jf a e d v).2) Ω ⟨Ext.refl _,rfl,rfl⟩ ?_ ?_
  .rintro v _ _ cU aH bn ⟨y,rfl,rfl⟩ aJ;refine bC Ω ?_;refine jA (λf l B=>Ext bq B/\f=Δ (jf a e d (v+1)).1/\l=Δ (jf a e d (v+1)).2) (λ_ _ B aK=>by rw[aM];exact aJ _ _ _ aK) λay br=>?_;obtain⟨cc,ce,cf,ab,_⟩:=(z.W y).mr;refine(Hb (i:=(v:Int)) ab Ω).X ?_;rintro _ B _ ⟨rfl,E⟩;refine aV (λr ag=>Ext bq ag/\r= .bool (decide (dz a e (v:Int) (d:Int)=0/\((jf a e d v).1<0\/(dJ a e v:Int)<(jf a e d v).2)))) ?_ λcS aL=>?_
   .rintro _ ag ⟨H,rfl⟩;rw[ai];refine⟨λbs=>br _ _ _ ⟨H,?_,?_⟩,λA=>br _ _ _ ⟨H,?_,?_⟩⟩
    .unfold jf;rw[m3 bs]
    .unfold jf;rw[m3 bs];rfl
    .conv=>rhs;unfold jf
     rw[m5 A]
    .conv=>rhs;unfold jf
     rw[m5 A]
   refine(zY (i:=(v:Int)) (most:=(d:Int)) (ab.W E) Ω).X ?_;rintro _ ag _ ⟨rfl,H⟩;have aN:=(y.F E).F H;rw[bh,ai];refine⟨λam=>?_,λam=>aL _ _ ⟨aN,by rw[ms λh=>am h.1]⟩⟩;rw[aP,ai];refine⟨λh1=>aL _ _ ⟨aN,by rw[m7 ⟨am,.inl h1⟩]⟩,λh1=>?_⟩;rw[aP];refine aL _ _ ⟨aN,?_⟩;congr 1;exact decide_eq_decide.2 ⟨λh=>⟨am,.inr h⟩,λh=>h.2.resolve_left h1⟩
  .rintro _ _ cU aH ⟨y,rfl,rfl⟩;refine ci Ω ?_;rw[cb];have cg:=z.W y;refine aV (λr B=>r= .bool rs/\∃e V,oq w ac ad ak lI lJ a q.1 s2 e cs fS C J.heap.size B/\af (λr=>¬C r) P B/\aY a.k a.co e/\cd e/\(e.d7.length<=256+(j+1)/\e.elims.length<=j+1)/\eX a d V e=(q.1,q.2.drop (j+1))) ?_ λcT ch=>?_
   .rintro _ B ⟨rfl,aK⟩;rw[aX,aM];exact b7 _ _ aK
   rw[bJ,ai];refine⟨λh=>m6 rfl h,λ_=>?_⟩;obtain⟨x,cj,he⟩:=rY aB bl;have an:=cj.all aB aC;obtain⟨cc,ce,cf,ab,ck,cl,cm,cn⟩:=cg.mr;refine(HB (i:=(i:Int)) (most:=(d:Int)) ab ck cl cm aC Ω Ω).X ?_;rintro _ B _ ⟨rfl,cp⟩;obtain⟨cq,bt⟩:=cn cp;rw[bl,bJ];rw[he]at bt bj;have cV:=an.d7;have cr:=congrArg List.length an.elims;rw[p8,T4]at cr;exact ch _ _ ⟨by rw[ms λh=>h rfl],_,_,bt,aA.F ((y.aa _).F cq),an.ok,an.pi,⟨Ω,Ω⟩,bj⟩
 rintro c bq b1 ⟨e,V,z,aA,aB,aC,⟨b4,b5⟩,W⟩;refine ci Ω ?_;rw[List.drop_length]at W;obtain rfl:=Va W;have aD:mi bq ak a.k a.co s2:=by obtain⟨bm,h1,_⟩:=z;exact h1.look
 obtain⟨d9,_,_,_,_,_,aE,aG,_⟩:=id aD;rw[aQ a6.p 1 aE rfl,aS al.u aG];obtain⟨cX,cY,cZ,bu,ct,_⟩:=z.mr;refine b2.range a.co.length (λ_ _ cU=>Ext bq cU) Ω (Ext.refl _) ?_ ?_
 .rintro v c cU aH bn y aJ;refine bC Ω ?_;refine(zY (i:=(v:Int)) (most:=(d:Int)) (bu.W y) Ω).X ?_;rintro _ B _ ⟨rfl,E⟩;rw[bh,ai];refine⟨λh=>m6 h (GW bc bn),λ_=>?_⟩;rw[aM];exact aJ _ _ (y.F E)
 rintro c cU aH y;refine ci Ω ?_;obtain⟨bm,bw,_⟩:=z;obtain⟨c0,c1,c2,cu,cw,_⟩:=(bw.ext' y).e7;have c3:=ax.1;refine(G7 cu cw ax.b Ω Ω).X ?_;rintro c4 B _ ⟨E,g1,cz,_⟩;refine(G7 (bu.W (y.F E)) (ct.W (y.F E)) ax.b Ω Ω).X ?_;rintro c6 ag _ ⟨H,c7,cA,_⟩;refine(Cq (cz.W H).ls cA.ls).X ?_;rintro _ c8 _ ⟨rfl,cB⟩;rw[m7 rfl];exact aT _ ((((bw.W.F y).F E).F H).F cB)
theorem Vd{p a:x1}{e:Λ}{L:List ko}{m:Int}(f:aI .u8 w p e)(j:∀b∈e,0<=b/\b<256)(q:Seen fo w [a] L)(r:∀x∈L,(lG x).ok)(hm:0<=m/\m<256)(s:fj w)(y:Laid w):
  aj x7 Bp [p,a,.int .u8 m] w λv I=>v= .bool ro/\Ext w I:=Vb (λ_ h=>⟨rfl,h⟩) f j q r hm s y
end Go.Proofs.YtkcigodpbndobaaGreatDoor
