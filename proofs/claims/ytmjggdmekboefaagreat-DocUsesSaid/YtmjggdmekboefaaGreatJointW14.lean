/- The Doc laws: the program's demand, whatever it finds; statements that end with it. No conditions. -/
import Derived.Test.YtmjggdmekboefaaGreatJointW12
import Derived.Test.YtmjggdmekboefaaGreatJointW13
import Derived.Shelf.Strings.FuncGrows
import Derived.Shelf.Small.Strs
import Derived.Scope
set_option linter.unusedVariables false
set_option linter.unusedSimpArgs false
set_option linter.unusedSectionVars false
namespace Go.Proofs.YtmjggdmekboefaaGreat
open Go Go.Eng
set_option maxRecDepth 10000
def C0(p:Int×Int):V:=.iface 99 (.agg [L p.1,L p.2])
noncomputable def ac8(N:Nat)(fn:Func)(c:Code)(s:St):Option (V×pn×I O×Nat):=match gv ak (fun _ _ _ _=>none) 20 c s with
 |some (.panic v,A)=>match Nh ak N fn A (.ni v false)with
  |some r=>some (v,r)
  |none=>none
 |_=>none
theorem To{N n0:Nat}{fn:Func}{c:Code}{s:St}{v:V}{o:pn}{h:I O}{n:Nat}{h2:pn->I O->Nat->Prop}(e:ac8 N fn c s=some (v,o,h,n))(hv:v.free=true)(hR:h2 o h n)(K:eJ n0 c=true:=by kernel_rfl):TG ak N n0 c s (FR ak N fn h2):=by
 unfold ac8 at e;split at e
 case h_2=>cases e
 rename_i v' A he;split at e
 case h_2=>cases e
 rename_i r hr;simp only[aq,aF]at e;obtain⟨rfl,rfl⟩:=e;exact Qo (fr:=20) (fun _ _ _ _ _ _ _ e=>by cases e) mo K he hv fun ch hp=>.CN hp hr hR
theorem Lm(a b:Int):Qq ak 89 [.bool false,L a,L b] (C0 (a,b)):=
 Qr (o:=.ni (C0 (a,b))) mo po Tryz.func89 (code:=dG Tryz.f89) C C C rfl
  (To (N:=0) (v:=C0 (a,b)) (o:=.ni (C0 (a,b))) (h:=.nil) (n:=0) C rfl rfl)
noncomputable def Ib(k:Nat)(c:Code)(s:St):Option h2:=match ld k c with
 | [o]=>match o.guard with
   |none=>dO ak o s.F s.h s.n
   |some _=>none
 |_=>none
def Qs(N k:Nat)(live:List Nat)(c:Code)(s:St):Option St:=match ld k c with
 | [o]=>match Go.Eng.jn s.F o.dst (.gC [])with
   |some F=>kW N live { s with F:=F }
   |none=>none
 |_=>none
section
variable{N n0:Nat}{c:Code}{s:St}{h1:Exit->St->Prop}{hL:gy}{hh:List (Nat×List (Nat×lI))}{hx:List (Nat×lI)}{fn:Func}{live:List Nat}{di:List (List (Bool×Bool)×ah×jD)}
theorem Ic{a:ag}{v:V}(h:dS ak 89 a v):kE ak 89 (fun args h n=>some ([V.lE args=a],v,h,n)):=by
 refine⟨az C,fun args h' n s' v' R n2 e hA E w dF ra g hd _=>?_⟩;simp only[aq,aF]at e;obtain⟨rfl,rfl,rfl,rfl⟩:=e;have e1:V.lE args=a:=hA _ (by simp);exact h E _ _ w dF (e1▸s9 _ _ ra) g hd
section
variable(k:Nat)
theorem ML(es:eR ak hL)(β:Bool)(hm:Bool->St)(e a:Int)(yh:List Nat)(S1:St)(hr:dn (U hL hh) hx N fn live (Dz k c) s di)(h:∀g∈di,(∀b∈g.1,b.1=b.2)->(∀a∈g.2.1,a)/\g.2.2= .to .normal (hm β))
  (ho:∀b,Ib k c (hm b)=some (.call 89 [.bool b,L e,L a])) (hn:Qs N k yh c (hm true)=some S1) (k1:β=true->∀A,lO N n0 A S1->h1 .normal A) (k2:β=false->∀ch,AP (C0 (e,a)) ch->h1 (.panic ch) (hm false))
  (hs:(eJ n0 c&&(DA k c&&(ld k c).all fun o=>match o.dst with|some d=>decide (d<n0)|none=>true))=true:=by kernel_rfl):TG ak N n0 c s h1:=by
 simp only[ay]at hs;obtain⟨Q,R,h3⟩:=hs;obtain⟨iX,hr⟩:=hr;have hd:∀x∈ld k c,mU n0 x.dst:=fun x H d hd=>by
  have:=bq.1 h3 x H;rw[hd]at this;exact aW this
 refine Bh k (XH es hh) mo Q R hr fun g hg K=>?_;obtain⟨q1,q2⟩:=h g hg K;refine⟨q1,_,q2,?_⟩;have ho:=ho β;unfold Ib at ho;unfold Qs at hn;generalize ld k c=l at *;split at ho
 case h_2=>cases ho
 rename_i o;split at ho
 case h_2=>cases ho
 rename_i Rm;cases β with
 |true=>
  simp only at hn;split at hn
  case h_2=>cases hn
  rename_i F vb;exact FQ (hd o (aG.2 rfl)) Rm ho (Ic (Lj e a)) rfl (eC rfl) vb (k1 rfl _ (lO.norm hn))
 |false=>
  exact Bg hd Rm ho (FT C (Lm e a)) rfl (eC rfl) rfl fun ch hp=>k2 rfl ch hp
noncomputable def U2(N:Nat)(fn:Func)(k:Nat)(c:Code)(s:St):Option (pn×I O×Nat):=match ld k c with
 | [o]=>match Go.Eng.jn s.F o.dst (.gC [])with
   |some F=>Nh ak N fn { s with F:=F } .ret
   |none=>none
 |_=>none
theorem Ie(es:eR ak hL)(β:Bool)(hm:Bool->St)(e a:Int){h2:pn->I O->Nat->Prop}{o1:pn}{Q:I O}{n1:Nat}(hr:dn (U hL hh) hx N fn live (Dz k c) s di)(h:∀g∈di,(∀b∈g.1,b.1=b.2)->(∀a∈g.2.1,a)/\g.2.2= .to .normal (hm β))
  (ho:∀b,Ib k c (hm b)=some (.call 89 [.bool b,L e,L a])) (hn:U2 N fn k c (hm true)=some (o1,Q,n1)) (k1:β=true->h2 o1 Q n1) (k2:β=false->∀ch,AP (C0 (e,a)) ch->FR ak N fn h2 (.panic ch) (hm false))
  (hs:(eJ n0 c&&(DA k c&&(ld k c).all fun o=>match o.dst with|some d=>decide (d<n0)|none=>true))=true:=by kernel_rfl):TG ak N n0 c s (FR ak N fn h2):=by
 simp only[ay]at hs;obtain⟨Q,R,h3⟩:=hs;obtain⟨iX,hr⟩:=hr;have hd:∀x∈ld k c,mU n0 x.dst:=fun x H d hd=>by
  have:=bq.1 h3 x H;rw[hd]at this;exact aW this
 refine Bh k (XH es hh) mo Q R hr fun g hg K=>?_;obtain⟨q1,q2⟩:=h g hg K;refine⟨q1,_,q2,?_⟩;have ho:=ho β;unfold Ib at ho;unfold U2 at hn;generalize ld k c=l at *;split at ho
 case h_2=>cases ho
 rename_i o;split at ho
 case h_2=>cases ho
 rename_i Rm;cases β with
 |true=>
  simp only at hn;split at hn
  case h_2=>cases hn
  rename_i F vb;exact FQ (hd o (aG.2 rfl)) Rm ho (Ic (Lj e a)) rfl (eC rfl) vb ⟨.ret,trivial,_,_,_,hn,k1 rfl⟩
 |false=>
  exact Bg hd Rm ho (FT C (Lm e a)) rfl (eC rfl) rfl fun ch hp=>k2 rfl ch hp
theorem j9(es:eR ak hL)(β:Bool)(hm:Bool->St)(e a:Int)(yh:List Nat)(S1:St)(hr:dn (U hL hh) hx N fn live (Dz k (dB c)) s di)(h:∀g∈di,(∀b∈g.1,b.1=b.2)->(∀a∈g.2.1,a)/\g.2.2= .to .normal (hm β))
  (ho:∀b,Ib k (dB c) (hm b)=some (.call 89 [.bool b,L e,L a])) (hn:Qs N k yh (dB c) (hm true)=some S1) (k1:β=true->TG ak N n0 (dP c) S1 h1) (k2:β=false->∀ch,AP (C0 (e,a)) ch->h1 (.panic ch) (hm false))
  (hs:(rK c&&(eJ n0 (dB c)&&(DA k (dB c)&&(ld k (dB c)).all fun o=>match o.dst with|some d=>decide (d<n0)|none=>true)))=true:=by kernel_rfl):TG ak N n0 c s h1:=by
 rw[ay]at hs;exact dI hs.1 (ML k es β hm e a yh S1 hr h ho hn (fun q A dU=>dU.xY _ _ (k1 q)) (fun q ch hp=>k2 q ch hp) hs.2)
def If(c:Code):Code:=.region 0 (ld k c).toArray false
def amQ(c:Code):Bool:=(ld k c).all fun o=>o.guard.isNone
theorem ac9(ms lv:List Nat)(es:eR ak hL){s' aj:ah}{s1 s2:St}(hr:dn (U hL hh) hx N fn live (Dz k c) s [([],s',.to .normal s1)])(hA:∀a∈s',a)(hf:HF N ms lv s1=some (aj,s2))(hB:∀b∈aj,b)
  {W2:gy} {It:List (Nat×List (Nat×lI))} {H2:List (Nat×lI)} {yh:List Nat} (X2:eR ak W2) (hr2:dn (U W2 It) H2 N fn yh (If k c) s2 di) (h:∀g∈di,(∀b∈g.1,b.1=b.2)->(∀a∈g.2.1,a)/\∃s3,g.2.2= .to .normal s3/\∀A,dZ ak N n0 A s3->h1 .normal A)
  (hs:(eJ n0 c&&(DA k c&&(amQ k c&&eJ n0 (If k c))))=true:=by kernel_rfl):TG ak N n0 c s h1:=by
 simp only[ay]at hs;obtain⟨Q,R,h3,h4⟩:=hs;obtain⟨iX,hr⟩:=hr;obtain⟨L2,hr2⟩:=hr2;refine Bh k (XH es hh) mo Q R hr (ZN ?_);refine⟨hA,s1,rfl,Lk (lO.HF ms lv hf hB) ?_⟩;obtain⟨g,hg,ho,s3,A,KY,Iu,ZC⟩:=Bf (X':=XH X2 It) hr2 fun g hg ho=>by
  obtain⟨Q,s3,R,_⟩:=h g hg ho;exact⟨Q,s3,R⟩
 obtain⟨_,s3',e3,hq⟩:=h g hg ho;rw[KY]at e3;cases e3;simp only[If,gv]at ZC;simp only[If,eJ,ay]at h4;rw[wX (ops':=MK c)]at ZC
 . exact CM (XH X2 It).ok (fun o ho d hod=>by have:=bq.1 h4.1 o (by simpa using ho);rw[hod]at this;exact aW this) ZC rfl (hq A (dZ.norm Iu))
 . intro o ho F;have:=bq.1 h3 o ho;unfold fP;cases hg:o.guard with
   |none=>rfl
   |some q=>rw[hg]at this;cases this
def RQ(N n0:Nat)(h1:Exit->St->Prop)(y:Exit)(s:St):Prop:=∃hm,lO N n0 s hm/\h1 y hm
end
theorem ada(h:TG ak N n0 c s (RQ N n0 h1)):TG ak N n0 c s h1:=fun E a w hc r hn k=>h E a w hc r hn fun y A E' a' w' ⟨hm,hr,hq⟩ u nV r'=>by
 obtain⟨o4,E2,r2,u2⟩:=hr E' a' w' r' nV;exact k y hm E2 a' w' hq (u.trans u2) o4 r2
theorem RQ.of{y:Exit}{s:St}(h:h1 y s):RQ N n0 h1 y s:=⟨s,fun E a w r hn=>⟨hn,E,r,kK.refl r.good⟩,h⟩
theorem zL(b n:Nat)(hm:Nat->St)(t:Nat->Bool)(h0:lO N n0 s (hm 0))
  (hb:∀i,i<=n->(∀j,j<i->t j=false)->∀Q':Exit->St->Prop,(i<n->t i=false->∀A,lO N n0 A (hm (i+1))->Q' .normal A)->(i=n->∀A,lO N n0 A (hm i)->Q' (.exit b) A)->(∀ch A,h1 (.panic ch) A->Q' (.panic ch) A)->TG ak N n0 (dD (dD c)) (hm i) Q')
  (he:(∀j,j<n->t j=false)->∀A,lO N n0 A (hm n)->h1 .normal A) (hs:(mY c b&&oz (dD c))=true:=by kernel_rfl):TG ak N n0 c s h1:=by
 rw[ay]at hs;refine fB (i:=b) hs.1 (ju (fun m s=>∃i,m=n-i/\i<=n/\(∀j,j<i->t j=false)/\lO N n0 s (hm i)) hs.2 ?_ n ⟨0,G,aS _,fun _ h=>absurd h (bX _),h0⟩);rintro m s1 ⟨i,rfl,hi,hj,hg⟩;refine hg.xY _ _ (hb i hi hj _ (fun Q R A dU=>?_) (fun Q A dU=>?_) (fun ch A h=>?_))
 . simp only[andThen];refine⟨n-(i+1),G,i+1,rfl,Q,fun j UR=>?_,dU⟩;rcases br j i with q|q
   . exact hj j q
   . obtain rfl:j=i:=by omega
     exact R
 . subst Q;simp only[andThen];rw[gW];exact he hj A dU
 . simp only[andThen,gw];exact h
end
set_option maxRecDepth 10000
section
variable(k n x a b y:Int)
def Tp:Bool:=decide (n>=2)&&decide (n<=257)
def qX:Bool:=decide (x>=a)&&decide (x<=b)
def J9:ag->Option (ah×V)
 | [.int .i64 n]=>some ([],.bool (Tp n))
 |_=>none
def Ka:ag->Option (ah×V)
 | [.int .i64 x,.int .i64 a,.int .i64 b]=>some ([],.bool (qX x a b))
 |_=>none
noncomputable abbrev Wpt:gy:=lC 147 (gS J9) dY
noncomputable abbrev U3:gy:=lC 161 (gS Ka) dY
theorem amS:dn (U Wpt []) [] 0 Tryz.f121 [] (dG Tryz.f121) (dw [fg []] .nil 0) [([],
   [],
   .ret (.bool false) (W []) 0)]
 :=dh.of C C C
abbrev Qt(l:List Int)(m:Nat):Prop:=V.int B (IntKind.i64.wrap ((Int.ofNat l.length)-(1:Int)))=M m
theorem amT(l:List Int)(m:Nat)(x y:Int)(b:Bool):dn (U (eZ 148 [fg l] (.bool b) Wpt) []) [(8,.dy (.dr [.int .i64 x])),(16,.dy (M m)),(17,.dy (.dr [.int .i64 y])),(6,.split),(10,.split),(19,.split)] 0 Tryz.f121 [] (dG Tryz.f121) (dw [fg l] .nil 0) [([((Tp (Int.ofNat l.length)),true),((decide (x>=(0:Int))),true),((decide (y<=(65535:Int))),true)],
   [((0:Int)<=(0:Int)/\(0:Int)<(Int.ofNat l.length)),((dM l).length=l.length*1),(V.dr (dj (dM l) 0 1)=V.dr [D.int B x]),Qt l m,((0:Int)<=Int.ofNat m/\Int.ofNat m<(Int.ofNat l.length)),((dM l).length=l.length*1),(V.dr (dj (dM l) (m*1) 1)=V.dr [D.int B y]),(V.lE ([]++[fg l]++[])=[fg l])],
   .ret (.bool b) (W []) 0),
  ([((Tp (Int.ofNat l.length)),true),((decide (x>=(0:Int))),true),((decide (y<=(65535:Int))),false)],
   [((0:Int)<=(0:Int)/\(0:Int)<(Int.ofNat l.length)),((dM l).length=l.length*1),(V.dr (dj (dM l) 0 1)=V.dr [D.int B x]),Qt l m,((0:Int)<=Int.ofNat m/\Int.ofNat m<(Int.ofNat l.length)),((dM l).length=l.length*1),(V.dr (dj (dM l) (m*1) 1)=V.dr [D.int B y])],
   .ret (.bool false) (W []) 0),
  ([((Tp (Int.ofNat l.length)),true),((decide (x>=(0:Int))),false)],
   [((0:Int)<=(0:Int)/\(0:Int)<(Int.ofNat l.length)),((dM l).length=l.length*1),(V.dr (dj (dM l) 0 1)=V.dr [D.int B x])],
   .ret (.bool false) (W []) 0),
  ([((Tp (Int.ofNat l.length)),false)],
   [],
   .ret (.bool false) (W []) 0)]
 :=dh.of C C C
noncomputable abbrev Tq:Code:=dG Tryz.f158
noncomputable abbrev bAw:Code:=dD (dD (dP (dB (dm 1 Tq))))
def XR(l:List Int)(i:Nat):St:=ff [(0,L k),(7,fg l),(8,M l.length),(9,M i)] (W []) 0
theorem amU(l:List Int):dn (U dY []) [] 0 Tryz.f158 [0,1] (dN 1 Tq) (dw [L k,fg l] .nil 0) [([],
   [],
   .to .normal (dw [L k,fg l] .nil 0))]
 :=dh.of C C C
theorem amV(l:List Int):dn (U dY []) [] 0 Tryz.f158 [0,7,8,9] (dB (dB (dm 1 Tq))) (dw [L k,fg l] .nil 0) [([],
   [],
   .to .normal (XR k l 0))]
 :=dh.of C C C
theorem amW(l:List Int)(i:Nat)(x:Int):dn (U dY []) [(10,.dy (.bool true)),(11,.dy (.dr [.int .i64 x])),(16,.split),(20,.split),(22,.dy (M (i+1)))] 0 Tryz.f158 [0,7,8,9] (bAw) (XR k l i) [([((decide (x<IntKind.i64.wrap ((0:Int)-k))),true)],
   [(V.bool (decide (Int.ofNat i<Int.ofNat l.length))=V.bool true),((0:Int)<=Int.ofNat i/\Int.ofNat i<(Int.ofNat l.length)),((dM l).length=l.length*1),(V.dr (dj (dM l) (i*1) 1)=V.dr [D.int B x])],
   .ret (.bool false) (W []) 0),
  ([((decide (x<IntKind.i64.wrap ((0:Int)-k))),false),((decide (x>k)),true)],
   [(V.bool (decide (Int.ofNat i<Int.ofNat l.length))=V.bool true),((0:Int)<=Int.ofNat i/\Int.ofNat i<(Int.ofNat l.length)),((dM l).length=l.length*1),(V.dr (dj (dM l) (i*1) 1)=V.dr [D.int B x])],
   .ret (.bool false) (W []) 0),
  ([((decide (x<IntKind.i64.wrap ((0:Int)-k))),false),((decide (x>k)),false)],
   [(V.bool (decide (Int.ofNat i<Int.ofNat l.length))=V.bool true),((0:Int)<=Int.ofNat i/\Int.ofNat i<(Int.ofNat l.length)),((dM l).length=l.length*1),(V.dr (dj (dM l) (i*1) 1)=V.dr [D.int B x]),(V.int B (IntKind.i64.wrap (Int.ofNat i+(1:Int)))=M (i+1))],
   .to .normal (XR k l (i+1)))]
 :=dh.of C C C
theorem amX(l:List Int)(i:Nat):dn (U dY []) [(10,.dy (.bool false))] 0 Tryz.f158 [0,7,8,9] (bAw) (XR k l i) [([],
   [(V.bool (decide (Int.ofNat i<Int.ofNat l.length))=V.bool false)],
   .to (.exit 0) (XR k l i))]
 :=dh.of C C C
theorem amY(l:List Int)(i:Nat):dn (U dY []) [] 0 Tryz.f158 [] (dP (dm 1 Tq)) (XR k l i) [([],
   [],
   .ret (.bool true) (W []) 0)]
 :=dh.of C C C
theorem amZ(p:P7):dn (U dY []) [] 0 Tryz.f159 [] (dG Tryz.f159) (dw [.agg p.T] .nil 0) [([],
   [],
   .ret (.int .i64 (IntKind.i64.wrap (IntKind.i64.wrap (p.a*p.e)-IntKind.i64.wrap (p.b*p.d)))) (W []) 0)]
 :=dh.of C C C
theorem am0:dn (U dY []) [(8,.split)] 0 Tryz.f163 [] (dG Tryz.f163) (dw [.agg [L x,L y]] .nil 0) [([((decide ((if y<x then y else x)<(-65536:Int))),true)],
   [],
   .ret (.bool true) (W []) 0),
  ([((decide ((if y<x then y else x)<(-65536:Int))),false)],
   [],
   .ret (.bool (decide ((if y>x then y else x)>(65536:Int)))) (W []) 0)]
 :=dh.of C C C
theorem am1:dn (U dY []) [(9,.split)] 0 Tryz.f161 [] (dG Tryz.f161) (dw [L x,L a,L b] .nil 0) [([((decide (x>=a)),true)],
   [],
   .ret (.bool (decide (x<=b))) (W []) 0),
  ([((decide (x>=a)),false)],
   [],
   .ret (.bool false) (W []) 0)]
 :=dh.of C C C
theorem adb:dn (U dY []) [(4,.split)] 0 Tryz.f147 [] (dG Tryz.f147) (dw [L n] .nil 0) [([((decide (n>=(2:Int))),true)],
   [],
   .ret (.bool (decide (n<=(257:Int)))) (W []) 0),
  ([((decide (n>=(2:Int))),false)],
   [],
   .ret (.bool false) (W []) 0)]
 :=dh.of C C C
theorem am2:dn (U dY []) [(4,.split)] 0 Tryz.f150 [] (dG Tryz.f150) (dw [L x] .nil 0) [([((decide (x<(-65536:Int))),true)],
   [],
   .ret (.bool true) (W []) 0),
  ([((decide (x<(-65536:Int))),false)],
   [],
   .ret (.bool (decide (x>(65536:Int)))) (W []) 0)]
 :=dh.of C C C
theorem am3:dn (U U3 []) [] 0 Tryz.f160 [] (dG Tryz.f160) (dw [L x] .nil 0) [([],
   [],
   .ret (.bool (!qX x (-4096:Int) (4096:Int))) (W []) 0)]
 :=dh.of C C C
abbrev mG(g:Nat):V:=.fn (.func g) [] []
def Gc{α:Type}(p:α->Bool)(l:List α):Int:=match l.findIdx? p with
 |some i=>Int.ofNat i
 |none=> -1
noncomputable abbrev Ts:Code:=dG Tryz.f171
noncomputable abbrev bia:Code:=dD (dD (dP (dB (dm 1 Ts))))
end
def XS(l:List Int)(i:Nat):St:=ff [(0,fg l),(1,mG 150),(7,M l.length),(8,M i)] (W []) 0
theorem am4(l:List Int):dn (U dY []) [] 0 Tryz.f171 [0,1] (dN 1 Ts) (dw [fg l,mG 150] .nil 0) [([],
   [],
   .to .normal (dw [fg l,mG 150] .nil 0))]
 :=dh.of C C C
theorem am5(l:List Int):dn (U dY []) [] 0 Tryz.f171 [0,1,7,8] (dB (dB (dm 1 Ts))) (dw [fg l,mG 150] .nil 0) [([],
   [],
   .to .normal (XS l 0))]
 :=dh.of C C C
theorem am6(l:List Int)(i:Nat)(x:Int)(b:Bool):dn (U (eZ 150 [L x] (.bool b) dY) []) [(9,.dy (.bool true)),(14,.dy (.dr [.int .i64 x])),(16,.split),(18,.dy (M (i+1)))] 0 Tryz.f171 [0,1,7,8] (bia) (XS l i) [([(b,true)],
   [(V.bool (decide (Int.ofNat i<Int.ofNat l.length))=V.bool true),((0:Int)<=Int.ofNat i/\Int.ofNat i<(Int.ofNat l.length)),((dM l).length=l.length*1),(V.dr (dj (dM l) (i*1) 1)=V.dr [D.int B x]),(eY [L x])],
   .ret (.int .i64 (Int.ofNat i)) (W []) 0),
  ([(b,false)],
   [(V.bool (decide (Int.ofNat i<Int.ofNat l.length))=V.bool true),((0:Int)<=Int.ofNat i/\Int.ofNat i<(Int.ofNat l.length)),((dM l).length=l.length*1),(V.dr (dj (dM l) (i*1) 1)=V.dr [D.int B x]),(eY [L x]),(V.int B (IntKind.i64.wrap (Int.ofNat i+(1:Int)))=M (i+1))],
   .to .normal (XS l (i+1)))]
 :=dh.of C C C
theorem am7(l:List Int)(i:Nat):dn (U dY []) [(9,.dy (.bool false))] 0 Tryz.f171 [0,1,7,8] (bia) (XS l i) [([],
   [(V.bool (decide (Int.ofNat i<Int.ofNat l.length))=V.bool false)],
   .to (.exit 0) (XS l i))]
 :=dh.of C C C
theorem am8(l:List Int)(i:Nat):dn (U dY []) [] 0 Tryz.f171 [] (dP (dm 1 Ts)) (XS l i) [([],
   [],
   .ret (.int .i64 (-1)) (W []) 0)]
 :=dh.of C C C
noncomputable abbrev Tt:Code:=dG Tryz.f171
noncomputable abbrev bib:Code:=dD (dD (dP (dB (dm 1 Tt))))
def XT(l:List Int)(i:Nat):St:=ff [(0,fg l),(1,mG 160),(7,M l.length),(8,M i)] (W []) 0
theorem am9(l:List Int):dn (U dY []) [] 0 Tryz.f171 [0,1] (dN 1 Tt) (dw [fg l,mG 160] .nil 0) [([],
   [],
   .to .normal (dw [fg l,mG 160] .nil 0))]
 :=dh.of C C C
theorem ana(l:List Int):dn (U dY []) [] 0 Tryz.f171 [0,1,7,8] (dB (dB (dm 1 Tt))) (dw [fg l,mG 160] .nil 0) [([],
   [],
   .to .normal (XT l 0))]
 :=dh.of C C C
theorem anb(l:List Int)(i:Nat)(x:Int)(b:Bool):dn (U (eZ 160 [L x] (.bool b) dY) []) [(9,.dy (.bool true)),(14,.dy (.dr [.int .i64 x])),(16,.split),(18,.dy (M (i+1)))] 0 Tryz.f171 [0,1,7,8] (bib) (XT l i) [([(b,true)],
   [(V.bool (decide (Int.ofNat i<Int.ofNat l.length))=V.bool true),((0:Int)<=Int.ofNat i/\Int.ofNat i<(Int.ofNat l.length)),((dM l).length=l.length*1),(V.dr (dj (dM l) (i*1) 1)=V.dr [D.int B x]),(eY [L x])],
   .ret (.int .i64 (Int.ofNat i)) (W []) 0),
  ([(b,false)],
   [(V.bool (decide (Int.ofNat i<Int.ofNat l.length))=V.bool true),((0:Int)<=Int.ofNat i/\Int.ofNat i<(Int.ofNat l.length)),((dM l).length=l.length*1),(V.dr (dj (dM l) (i*1) 1)=V.dr [D.int B x]),(eY [L x]),(V.int B (IntKind.i64.wrap (Int.ofNat i+(1:Int)))=M (i+1))],
   .to .normal (XT l (i+1)))]
 :=dh.of C C C
theorem ane(l:List Int)(i:Nat):dn (U dY []) [(9,.dy (.bool false))] 0 Tryz.f171 [0,1,7,8] (bib) (XT l i) [([],
   [(V.bool (decide (Int.ofNat i<Int.ofNat l.length))=V.bool false)],
   .to (.exit 0) (XT l i))]
 :=dh.of C C C
theorem anf(l:List Int)(i:Nat):dn (U dY []) [] 0 Tryz.f171 [] (dP (dm 1 Tt)) (XT l i) [([],
   [],
   .ret (.int .i64 (-1)) (W []) 0)]
 :=dh.of C C C
noncomputable abbrev Tu:Code:=dG Tryz.f177
noncomputable abbrev bic:Code:=dD (dD (dP (dB (dm 1 Tu))))
def XU(l:List (Int×Int))(i:Nat):St:=ff [(0,wM l),(1,mG 163),(7,M l.length),(8,M i)] (W []) 0
theorem ang(l:List (Int×Int)):dn (U dY []) [] 0 Tryz.f177 [0,1] (dN 1 Tu) (dw [wM l,mG 163] .nil 0) [([],
   [],
   .to .normal (dw [wM l,mG 163] .nil 0))]
 :=dh.of C C C
theorem anh(l:List (Int×Int)):dn (U dY []) [] 0 Tryz.f177 [0,1,7,8] (dB (dB (dm 1 Tu))) (dw [wM l,mG 163] .nil 0) [([],
   [],
   .to .normal (XU l 0))]
 :=dh.of C C C
abbrev Qu(l:List (Int×Int))(i:Nat)(x:(Int×Int)):Prop:=V.dr (dj (qO l) (i*2) 2)=V.dr [D.int B x.1,D.int B x.2]
theorem ani(l:List (Int×Int))(i:Nat)(x:(Int×Int))(b:Bool):dn (U (eZ 163 [.agg [L x.1,L x.2]] (.bool b) dY) []) [(9,.dy (.bool true)),(14,.dy (.dr [.int .i64 x.1,.int .i64 x.2])),(16,.split),(18,.dy (M (i+1)))] 0 Tryz.f177 [0,1,7,8] (bic) (XU l i) [([(b,true)],
   [(V.bool (decide (Int.ofNat i<Int.ofNat l.length))=V.bool true),((0:Int)<=Int.ofNat i/\Int.ofNat i<(Int.ofNat l.length)),((qO l).length=l.length*2),Qu l i x,(eY [.agg [L x.1,L x.2]])],
   .ret (.int .i64 (Int.ofNat i)) (W []) 0),
  ([(b,false)],
   [(V.bool (decide (Int.ofNat i<Int.ofNat l.length))=V.bool true),((0:Int)<=Int.ofNat i/\Int.ofNat i<(Int.ofNat l.length)),((qO l).length=l.length*2),Qu l i x,(eY [.agg [L x.1,L x.2]]),(V.int B (IntKind.i64.wrap (Int.ofNat i+(1:Int)))=M (i+1))],
   .to .normal (XU l (i+1)))]
 :=dh.of C C C
theorem anj(l:List (Int×Int))(i:Nat):dn (U dY []) [(9,.dy (.bool false))] 0 Tryz.f177 [0,1,7,8] (bic) (XU l i) [([],
   [(V.bool (decide (Int.ofNat i<Int.ofNat l.length))=V.bool false)],
   .to (.exit 0) (XU l i))]
 :=dh.of C C C
theorem ank(l:List (Int×Int))(i:Nat):dn (U dY []) [] 0 Tryz.f177 [] (dP (dm 1 Tu)) (XU l i) [([],
   [],
   .ret (.int .i64 (-1)) (W []) 0)]
 :=dh.of C C C
noncomputable abbrev Tv:Code:=dG Tryz.f124
noncomputable abbrev bid:Code:=dD (dD (dP (dB (dm 1 Tv))))
def XV(l:List Sp)(i:Nat):St:=ff [(0,.eo false l.length (lT l)),(1,mG 90),(7,M l.length),(8,M i)] (W []) 0
theorem anl(l:List Sp):dn (U dY []) [] 0 Tryz.f124 [0,1] (dN 1 Tv) (dw [.eo false l.length (lT l),mG 90] .nil 0) [([],
   [],
   .to .normal (dw [.eo false l.length (lT l),mG 90] .nil 0))]
 :=dh.of C C C
theorem anm(l:List Sp):dn (U dY []) [] 0 Tryz.f124 [0,1,7,8] (dB (dB (dm 1 Tv))) (dw [.eo false l.length (lT l),mG 90] .nil 0) [([],
   [],
   .to .normal (XV l 0))]
 :=dh.of C C C
theorem ann(l:List Sp)(i:Nat)(x:Sp)(b:Bool):dn (U (eZ 90 [x.v] (.bool b) dY) []) [(9,.dy (.bool true)),(14,.dy (.dr x.ds)),(16,.split),(18,.dy (M (i+1)))] 0 Tryz.f124 [0,1,7,8] (bid) (XV l i) [([(b,true)],
   [(V.bool (decide (Int.ofNat i<Int.ofNat l.length))=V.bool true),((0:Int)<=Int.ofNat i/\Int.ofNat i<(Int.ofNat l.length)),((lT l).length=l.length*21),(V.dr (dj (lT l) (i*21) 21)=V.dr x.ds),(eY [x.v])],
   .ret (.int .i64 (Int.ofNat i)) (W []) 0),
  ([(b,false)],
   [(V.bool (decide (Int.ofNat i<Int.ofNat l.length))=V.bool true),((0:Int)<=Int.ofNat i/\Int.ofNat i<(Int.ofNat l.length)),((lT l).length=l.length*21),(V.dr (dj (lT l) (i*21) 21)=V.dr x.ds),(eY [x.v]),(V.int B (IntKind.i64.wrap (Int.ofNat i+(1:Int)))=M (i+1))],
   .to .normal (XV l (i+1)))]
 :=dh.of C C C
theorem ano(l:List Sp)(i:Nat):dn (U dY []) [(9,.dy (.bool false))] 0 Tryz.f124 [0,1,7,8] (bid) (XV l i) [([],
   [(V.bool (decide (Int.ofNat i<Int.ofNat l.length))=V.bool false)],
   .to (.exit 0) (XV l i))]
 :=dh.of C C C
theorem anp(l:List Sp)(i:Nat):dn (U dY []) [] 0 Tryz.f124 [] (dP (dm 1 Tv)) (XV l i) [([],
   [],
   .ret (.int .i64 (-1)) (W []) 0)]
 :=dh.of C C C
theorem anq(l:List Int)(a:Int):dn (U (eZ 171 [fg l,mG 150] (L a) dY) []) [] 0 Tryz.f149 [] (dG Tryz.f149) (dw [fg l,mG 150] .nil 0) [([],
   [(V.lE ([]++[fg l,mG 150]++[])=[fg l,mG 150])],
   .ret (.bool (decide (a>=(0:Int)))) (W []) 0)]
 :=dh.of C C C
theorem anr(l:List Int)(a:Int):dn (U (eZ 171 [fg l,mG 160] (L a) dY) []) [] 0 Tryz.f149 [] (dG Tryz.f149) (dw [fg l,mG 160] .nil 0) [([],
   [(V.lE ([]++[fg l,mG 160]++[])=[fg l,mG 160])],
   .ret (.bool (decide (a>=(0:Int)))) (W []) 0)]
 :=dh.of C C C
theorem ans(l:List (Int×Int))(a:Int):dn (U (eZ 177 [wM l,mG 163] (L a) dY) []) [] 0 Tryz.f162 [] (dG Tryz.f162) (dw [wM l,mG 163] .nil 0) [([],
   [(V.lE ([]++[wM l,mG 163]++[])=[wM l,mG 163])],
   .ret (.bool (decide (a>=(0:Int)))) (W []) 0)]
 :=dh.of C C C
theorem ant(l:List Sp)(a:Int):dn (U (eZ 124 [.eo false l.length (lT l),mG 90] (L a) dY) []) [] 0 Tryz.f92 [] (dG Tryz.f92) (dw [.eo false l.length (lT l),mG 90] .nil 0) [([],
   [(V.lE ([]++[V.eo false l.length (lT l),mG 90]++[])=[V.eo false l.length (lT l),mG 90])],
   .ret (.bool (decide (a>=(0:Int)))) (W []) 0)]
 :=dh.of C C C
set_option maxRecDepth 10000
theorem XW:kE ak 147 (gS J9):=by
 refine og Tryz.func147 fun args s' v e=>?_;unfold J9 at e;split at e
 case h_2=>cases e
 rename_i n;obtain⟨rfl,rfl⟩:=sm e;exact⟨rfl,rfl,rfl,fun _=>eI (dg _) (adb n) (dz (g1 fun h=>⟨all_nil,_,_,_,rfl,aH V.bool (by simp only[Tp,h,aN])⟩) (dA (g1 fun h=>⟨all_nil,_,_,_,rfl,aH V.bool (by simp only[Tp,h,aP])⟩)))⟩
theorem XX:kE ak 161 (gS Ka):=by
 refine og Tryz.func161 fun args s' v e=>?_;unfold Ka at e;split at e
 case h_2=>cases e
 rename_i x a b;obtain⟨rfl,rfl⟩:=sm e;exact⟨rfl,rfl,rfl,fun _=>eI (dg _) (am1 x a b) (dz (g1 fun h=>⟨all_nil,_,_,_,rfl,aH V.bool (by simp only[qX,h,aN])⟩) (dA (g1 fun h=>⟨all_nil,_,_,_,rfl,aH V.bool (by simp only[qX,h,aP])⟩)))⟩
theorem Qv:eR ak Wpt:=fQ XW (dg _)
theorem wY:eR ak U3:=fQ XX (dg _)
def Ln(l:List Int):Bool:=Tp (Int.ofNat l.length)&&(decide (l.getD 0 0>=0)&&(decide (l.getD (l.length-1) 0<=65535)&&Aw l))
theorem cvD(l:List Int)(hl:l.length<=1000000000):dS ak 121 [fg l] (.bool (Ln l)):=by
 refine eV Tryz.func121 ?_;by_cases h0:0<l.length
 case neg=>
  have Q:l.length=0:=by omega
  have hn:l=[]:=cF.2 Q;subst hn;exact eI Qv amS (dA (g0 ⟨all_nil,_,_,_,rfl,rfl⟩))
 refine eI (fj (Tm l h0 hl) Qv) (amT l (l.length-1) (l.getD 0 0) (l.getD (l.length-1) 0) (Aw l)) ?_;have e1:(0:Int)<=(0:Int)/\(0:Int)<Int.ofNat l.length:=by simp only[gT];omega
 have e2:V.dr (dj (dM l) 0 1)=V.dr [.int .i64 (l.getD 0 0)]:=fJ h0;have e3:V.int B (IntKind.i64.wrap (Int.ofNat l.length-(1:Int)))=M (l.length-1):=aH (V.int .i64) (by rw[show Int.ofNat l.length-1=Int.ofNat (l.length-1)by simp only[gT];omega];exact ik (by simp only[gT];omega) (by simp only[gT];omega));have e4:=iM (show l.length-1<l.length by omega);have e5:=fJ (l:=l) (show l.length-1<l.length by omega)
 repeat' (first|exact gB|refine dz ?_ ?_)
 all_goals
  intro K;simp only[aD,aI,bh,aL,bg]at K;refine⟨?_,_,_,_,rfl,aH V.bool (by simp only[Ln,K,aN,aP])⟩
  repeat' (first|exact all_nil|refine J ?_ ?_)
  all_goals first
   |exact e1
   |exact ew l
   |exact e2
   |exact e3
   |exact e4
   |exact e5
   |exact rfl
def En(k:Int)(l:List Int):Bool:=!(l.any fun x=>decide (x<IntKind.i64.wrap (0-k))||decide (x>k))
theorem awD(k:Int)(l:List Int)(hl:l.length<=1000000):dS ak 158 [L k,fg l] (.bool (En k l)):=by
 refine eV Tryz.func158 (fu 1 (dg _) (amU k l) all_nil ?_);refine dI C (dI C (gz (dg _) eH (amV k l) (dA (g0 ⟨all_nil,fun A dU=>?_⟩))));simp only[andThen];refine iQ 0 l.length (fun i=>XR k l i) (fun i=>decide (l.getD i 0<IntKind.i64.wrap (0-k))||decide (l.getD i 0>k)) (dZ.norm dU) (fun i hi hj Q' k1 k2 k3=>?_) (fun Q A dU=>?_)
 . rcases br i l.length with q|q
   . have b0:V.bool (decide (Int.ofNat i<Int.ofNat l.length))=V.bool true:=aH V.bool (aY (cg.2 q));have hF:(decide (l.getD i 0<IntKind.i64.wrap (0-k))||decide (l.getD i 0>k))=true->V.bool false=V.bool (En k l):=fun h=>by
      unfold En;rw[Ee (d:=0) q h];rfl
     refine gz (dg _) (fun u _ _=>u= .bool (En k l)) (amW k l i (l.getD i 0)) (dz (g1 fun h=>⟨J b0 (J (iM q) (J (ew l) (eC (fJ q)))),hF (by rw[h];rfl),k3⟩) (dz (g2 fun h R=>⟨J b0 (J (iM q) (J (ew l) (eC (fJ q)))),hF (by rw[h,R];rfl),k3⟩) (dA (g2 fun h R=>⟨J b0 (J (iM q) (J (ew l) (J (fJ q) (eC (gJ G))))),fun A dU=>k1 q (by rw[h,R];rfl) A (dZ.norm dU)⟩))))
   . obtain rfl:i=l.length:=by omega
     exact gz (dg _) eH (amX k l _) (dA (g0 ⟨eC (aH V.bool (aU (by simp only[gT];omega))),fun A dU=>k2 rfl A (dZ.norm dU)⟩))
 simp only[andThen];refine dU _ _ (eI (dg _) (amY k l _) (dA (g0 ⟨all_nil,_,_,_,rfl,aH V.bool (Eq.symm ?_)⟩)));unfold En;rw[HI (d:=0) Q];rfl
theorem adD(p:P7):dS ak 159 [p.v] (L (Mv p)):=eV Tryz.func159 (eI (dg _) (amZ p) (dA (g0 ⟨all_nil,_,_,_,rfl,rfl⟩)))
def Ig(x:Int×Int):Bool:=decide ((if x.2<x.1 then x.2 else x.1)< -65536)||decide ((if x.2>x.1 then x.2 else x.1)>65536)
theorem anu(x:Int×Int):dS ak 163 [.agg [L x.1,L x.2]] (.bool (Ig x)):=
 eV Tryz.func163 (eI (dg _) (am0 x.1 x.2) (dz (g1 fun h=>⟨all_nil,_,_,_,rfl,aH V.bool (by simp only[Ig,h,cj])⟩) (dA (g1 fun h=>⟨all_nil,_,_,_,rfl,aH V.bool (by simp only[Ig,h,cm])⟩))))
section
variable(x:Int){α:Type}{p:α->Bool}
def XY:Bool:=decide (x< -65536)||decide (x>65536)
theorem cwD:dS ak 150 [L x] (.bool (XY x)):=
 eV Tryz.func150 (eI (dg _) (am2 x) (dz (g1 fun h=>⟨all_nil,_,_,_,rfl,aH V.bool (by simp only[XY,h,cj])⟩) (dA (g1 fun h=>⟨all_nil,_,_,_,rfl,aH V.bool (by simp only[XY,h,cm])⟩))))
def U4:Bool:=!qX x (-4096) 4096
theorem fcD:dS ak 160 [L x] (.bool (U4 x)):=
 eV Tryz.func160 (eI wY (am3 x) (dA (g0 ⟨all_nil,_,_,_,rfl,rfl⟩)))
theorem Bi(p:α->Bool)(l:List α):decide (Gc p l>=0)=l.any p:=by
 unfold Gc;cases h:l.findIdx? p with
 |some i=>
  have:l.any p=true:=by
   rw[bL]at h;obtain⟨Q,R,_⟩:=h;exact List.any_eq_true.2 ⟨_,bK Q,R⟩
  rw[this];exact aY (by show Int.ofNat i>=0;simp only[gT];omega)
 |none=>
  rw[cH]at h;have:l.any p=false:=cR.2 fun x H=>by rw[h x H];simp
  rw[this];rfl
theorem yp{l:List α}{d:α}{i:Nat}(hi:i<l.length)(h:p (l.getD i d)=true)(hj:∀j,j<i->p (l.getD j d)=false):Gc p l=Int.ofNat i:=by
 have:l.findIdx? p=some i:=by
  rw[bL];refine⟨hi,?_,fun j q=>?_⟩
  . rw[ax,au hi]at h;exact h
  . have:=hj j q;rw[ax,au G]at this;simpa using this
 unfold Gc;rw[this]
theorem yq{l:List α}{d:α}(hj:∀j,j<l.length->p (l.getD j d)=false):Gc p l= -1:=by
 have:l.findIdx? p=none:=by
  rw[cH];intro x H;obtain⟨j,w7,rfl⟩:=bW H;have:=hj j w7;rw[ax,au w7]at this;exact this
 unfold Gc;rw[this]
theorem yu{l:List α}{i:Nat}{d:α}(h:i<l.length):l.getD i d∈l:=by rw[ax,au h];exact bK h
end
theorem iaD(l:List Int)(p:Int->Bool)(hp:∀x∈l,dS ak 150 [L x] (.bool (p x)))(hl:l.length<=1000000):dS ak 171 [fg l,mG 150] (L (Gc p l)):=by
 refine eV Tryz.func171 (fu 1 (dg _) (am4 l) all_nil ?_);refine dI C (dI C (gz (dg _) eH (am5 l) (dA (g0 ⟨all_nil,fun A dU=>?_⟩))));simp only[andThen];refine iQ 0 l.length (fun i=>XS l i) (fun i=>p (l.getD i 0)) (dZ.norm dU) (fun i hi hj Q' k1 k2 k3=>?_) (fun Q A dU=>?_)
 . rcases br i l.length with q|q
   . have b0:V.bool (decide (Int.ofNat i<Int.ofNat l.length))=V.bool true:=aH V.bool (aY (cg.2 q));exact gz (fj (hp _ (yu q)) (dg _)) (fun u _ _=>u=L (Gc p l)) (am6 l i (l.getD i 0) (p (l.getD i 0))) (dz (g1 fun h=>⟨J b0 (J (iM q) (J (ew l) (J (fJ q) (eC rfl)))),by rw[yp q h hj],k3⟩) (dA (g1 fun h=>⟨J b0 (J (iM q) (J (ew l) (J (fJ q) (J rfl (eC (gJ G)))))),fun A dU=>k1 q h A (dZ.norm dU)⟩)))
   . obtain rfl:i=l.length:=by omega
     exact gz (dg _) eH (am7 l _) (dA (g0 ⟨eC (aH V.bool (aU (by simp only[gT];omega))),fun A dU=>k2 rfl A (dZ.norm dU)⟩))
 simp only[andThen];exact dU _ _ (eI (dg _) (am8 l _) (dA (g0 ⟨all_nil,_,_,_,rfl,by rw[yq Q]⟩)))
theorem ibD(l:List Int)(p:Int->Bool)(hp:∀x∈l,dS ak 160 [L x] (.bool (p x)))(hl:l.length<=1000000):dS ak 171 [fg l,mG 160] (L (Gc p l)):=by
 refine eV Tryz.func171 (fu 1 (dg _) (am9 l) all_nil ?_);refine dI C (dI C (gz (dg _) eH (ana l) (dA (g0 ⟨all_nil,fun A dU=>?_⟩))));simp only[andThen];refine iQ 0 l.length (fun i=>XT l i) (fun i=>p (l.getD i 0)) (dZ.norm dU) (fun i hi hj Q' k1 k2 k3=>?_) (fun Q A dU=>?_)
 . rcases br i l.length with q|q
   . have b0:V.bool (decide (Int.ofNat i<Int.ofNat l.length))=V.bool true:=aH V.bool (aY (cg.2 q));exact gz (fj (hp _ (yu q)) (dg _)) (fun u _ _=>u=L (Gc p l)) (anb l i (l.getD i 0) (p (l.getD i 0))) (dz (g1 fun h=>⟨J b0 (J (iM q) (J (ew l) (J (fJ q) (eC rfl)))),by rw[yp q h hj],k3⟩) (dA (g1 fun h=>⟨J b0 (J (iM q) (J (ew l) (J (fJ q) (J rfl (eC (gJ G)))))),fun A dU=>k1 q h A (dZ.norm dU)⟩)))
   . obtain rfl:i=l.length:=by omega
     exact gz (dg _) eH (ane l _) (dA (g0 ⟨eC (aH V.bool (aU (by simp only[gT];omega))),fun A dU=>k2 rfl A (dZ.norm dU)⟩))
 simp only[andThen];exact dU _ _ (eI (dg _) (anf l _) (dA (g0 ⟨all_nil,_,_,_,rfl,by rw[yq Q]⟩)))
theorem icD(l:List (Int×Int))(p:(Int×Int)->Bool)(hp:∀x∈l,dS ak 163 [.agg [L x.1,L x.2]] (.bool (p x)))(hl:l.length<=1000000):dS ak 177 [wM l,mG 163] (L (Gc p l)):=by
 refine eV Tryz.func177 (fu 1 (dg _) (ang l) all_nil ?_);refine dI C (dI C (gz (dg _) eH (anh l) (dA (g0 ⟨all_nil,fun A dU=>?_⟩))));simp only[andThen];refine iQ 0 l.length (fun i=>XU l i) (fun i=>p (l.getD i (0,0))) (dZ.norm dU) (fun i hi hj Q' k1 k2 k3=>?_) (fun Q A dU=>?_)
 . rcases br i l.length with q|q
   . have b0:V.bool (decide (Int.ofNat i<Int.ofNat l.length))=V.bool true:=aH V.bool (aY (cg.2 q));exact gz (fj (hp _ (yu q)) (dg _)) (fun u _ _=>u=L (Gc p l)) (ani l i (l.getD i (0,0)) (p (l.getD i (0,0)))) (dz (g1 fun h=>⟨J b0 (J (iM q) (J (A9 l) (J (Fx q) (eC rfl)))),by rw[yp q h hj],k3⟩) (dA (g1 fun h=>⟨J b0 (J (iM q) (J (A9 l) (J (Fx q) (J rfl (eC (gJ G)))))),fun A dU=>k1 q h A (dZ.norm dU)⟩)))
   . obtain rfl:i=l.length:=by omega
     exact gz (dg _) eH (anj l _) (dA (g0 ⟨eC (aH V.bool (aU (by simp only[gT];omega))),fun A dU=>k2 rfl A (dZ.norm dU)⟩))
 simp only[andThen];exact dU _ _ (eI (dg _) (ank l _) (dA (g0 ⟨all_nil,_,_,_,rfl,by rw[yq Q]⟩)))
theorem idD(l:List Sp)(p:Sp->Bool)(hp:∀x∈l,dS ak 90 [x.v] (.bool (p x)))(hl:l.length<=1000000):dS ak 124 [.eo false l.length (lT l),mG 90] (L (Gc p l)):=by
 refine eV Tryz.func124 (fu 1 (dg _) (anl l) all_nil ?_);refine dI C (dI C (gz (dg _) eH (anm l) (dA (g0 ⟨all_nil,fun A dU=>?_⟩))));simp only[andThen];refine iQ 0 l.length (fun i=>XV l i) (fun i=>p (l.getD i Nc)) (dZ.norm dU) (fun i hi hj Q' k1 k2 k3=>?_) (fun Q A dU=>?_)
 . rcases br i l.length with q|q
   . have b0:V.bool (decide (Int.ofNat i<Int.ofNat l.length))=V.bool true:=aH V.bool (aY (cg.2 q));exact gz (fj (hp _ (yu q)) (dg _)) (fun u _ _=>u=L (Gc p l)) (ann l i (l.getD i Nc) (p (l.getD i Nc))) (dz (g1 fun h=>⟨J b0 (J (iM q) (J (Bb l) (J (FE q) (eC rfl)))),by rw[yp q h hj],k3⟩) (dA (g1 fun h=>⟨J b0 (J (iM q) (J (Bb l) (J (FE q) (J rfl (eC (gJ G)))))),fun A dU=>k1 q h A (dZ.norm dU)⟩)))
   . obtain rfl:i=l.length:=by omega
     exact gz (dg _) eH (ano l _) (dA (g0 ⟨eC (aH V.bool (aU (by simp only[gT];omega))),fun A dU=>k2 rfl A (dZ.norm dU)⟩))
 simp only[andThen];exact dU _ _ (eI (dg _) (anp l _) (dA (g0 ⟨all_nil,_,_,_,rfl,by rw[yq Q]⟩)))
theorem caD(l:List Int)(p:Int->Bool)(hp:∀x∈l,dS ak 150 [L x] (.bool (p x)))(hl:l.length<=1000000):dS ak 149 [fg l,mG 150] (.bool (l.any p)):=
 eV Tryz.func149 (eI (fj (iaD l p hp hl) (dg _)) (anq l (Gc p l)) (dA (g0 ⟨eC rfl,_,_,_,rfl,aH V.bool (Bi p l)⟩)))
theorem cbD(l:List Int)(p:Int->Bool)(hp:∀x∈l,dS ak 160 [L x] (.bool (p x)))(hl:l.length<=1000000):dS ak 149 [fg l,mG 160] (.bool (l.any p)):=
 eV Tryz.func149 (eI (fj (ibD l p hp hl) (dg _)) (anr l (Gc p l)) (dA (g0 ⟨eC rfl,_,_,_,rfl,aH V.bool (Bi p l)⟩)))
theorem ccD(l:List (Int×Int))(p:(Int×Int)->Bool)(hp:∀x∈l,dS ak 163 [.agg [L x.1,L x.2]] (.bool (p x)))(hl:l.length<=1000000):dS ak 162 [wM l,mG 163] (.bool (l.any p)):=
 eV Tryz.func162 (eI (fj (icD l p hp hl) (dg _)) (ans l (Gc p l)) (dA (g0 ⟨eC rfl,_,_,_,rfl,aH V.bool (Bi p l)⟩)))
theorem ceD(l:List Sp)(p:Sp->Bool)(hp:∀x∈l,dS ak 90 [x.v] (.bool (p x)))(hl:l.length<=1000000):dS ak 92 [.eo false l.length (lT l),mG 90] (.bool (l.any p)):=
 eV Tryz.func92 (eI (fj (idD l p hp hl) (dg _)) (ant l (Gc p l)) (dA (g0 ⟨eC rfl,_,_,_,rfl,aH V.bool (Bi p l)⟩)))
set_option maxRecDepth 10000
section
variable(a m b:M9)(i:Nat)
def M9.l:List Int:=[m.a,m.b,m.c,m.d,m.e,m.f,m.g,m.h,m.i]
noncomputable abbrev Tw:Code:=dG Tryz.f122
theorem anv:dn (U dY []) [] 0 Tryz.f122 [1] (dN 1 Tw) (dw [.agg (D.fN m.ds)] .nil 0) [([],
   [],
   .to .normal (ff [(1,.ptr (some (0,0)))] (W [(0,.cells [.int .i64 (m.a),.int .i64 (m.b),.int .i64 (m.c),.int .i64 (m.d),.int .i64 (m.e),.int .i64 (m.f),.int .i64 (m.g),.int .i64 (m.h),.int .i64 (m.i)])]) 1))]
 :=dh.of C C C
theorem anw:dn (U dY []) [] 0 Tryz.f122 [3] (Dz 1 (dB (dm 1 Tw))) (ff [(1,.ptr (some (0,0)))] (W [(0,.cells (D.fN m.ds))]) 1) [([],
   [],
   .to .normal (ff [(3,.eS (some (0,0)) 9 9 1)] (W [(0,.cells [.int .i64 (m.a),.int .i64 (m.b),.int .i64 (m.c),.int .i64 (m.d),.int .i64 (m.e),.int .i64 (m.f),.int .i64 (m.g),.int .i64 (m.h),.int .i64 (m.i)])]) 1))]
 :=dh.of C C C
theorem anx(b:Bool):dn (U (eZ 149 [fg m.l,mG 150] (.bool b) dY) []) [] 0 Tryz.f122 [2] (If 1 (dB (dm 1 Tw))) (ff [(3,fg m.l)] (W []) 0) [([],
   [(V.lE ([]++[fg m.l,V.fn (Fn.func 150) [] []]++[])=[fg m.l,mG 150])],
   .to .normal (ff [(2,.bool (!b))] (W []) 0))]
 :=dh.of C C C
theorem anz(b:Bool):dn (U dY []) [] 0 Tryz.f122 [] (dP (dm 1 Tw)) (ff [(2,.bool b)] (W []) 0) [([],
   [],
   .ret (.bool b) (W []) 0)]
 :=dh.of C C C
noncomputable abbrev Tx:Code:=dG Tryz.f123
noncomputable abbrev bIv:Code:=dD (dD (dP (dB (dm 1 Tx))))
def XZ:St:=ff [(2,.ptr (some (0,0))),(3,.ptr (some (1,0))),(9,M i)] (W [(0,.cells (D.fN a.ds)),(1,.cells (D.fN b.ds))]) 2
theorem anA:dn (U dY []) [] 0 Tryz.f123 [2,3] (dN 1 Tx) (dw [.agg (D.fN a.ds),.agg (D.fN b.ds)] .nil 0) [([],
   [],
   .to .normal (ff [(2,.ptr (some (0,0))),(3,.ptr (some (1,0)))] (W [(0,.cells [.int .i64 (a.a),.int .i64 (a.b),.int .i64 (a.c),.int .i64 (a.d),.int .i64 (a.e),.int .i64 (a.f),.int .i64 (a.g),.int .i64 (a.h),.int .i64 (a.i)]),(1,.cells [.int .i64 (b.a),.int .i64 (b.b),.int .i64 (b.c),.int .i64 (b.d),.int .i64 (b.e),.int .i64 (b.f),.int .i64 (b.g),.int .i64 (b.h),.int .i64 (b.i)])]) 2))]
 :=dh.of C C C
theorem anB:dn (U dY []) [] 0 Tryz.f123 [2,3,9] (dB (dB (dm 1 Tx))) (ff [(2,.ptr (some (0,0))),(3,.ptr (some (1,0)))] (W [(0,.cells (D.fN a.ds)),(1,.cells (D.fN b.ds))]) 2) [([],
   [],
   .to .normal (XZ a b 0))]
 :=dh.of C C C
def ivS(j:Nat):Int:=IntKind.i64.wrap (IntKind.i64.wrap (IntKind.i64.wrap (a.at (3*i)*b.at j)+IntKind.i64.wrap (a.at (3*i+1)*b.at (3+j)))+IntKind.i64.wrap (a.at (3*i+2)*b.at (6+j)))
def Tz:Int:=bif Nat.beq (i/3) (i%3)then IntKind.i64.wrap (ivS a b (i/3) (i%3)-16777216)else ivS a b (i/3) (i%3)
def ivA:ah:=[(3:Int)≠(0:Int),n9 (3*(i/3)),n9 (i%3),n9 (3*(i/3)+1),n9 (3+i%3),n9 (3*(i/3)+2),n9 (6+i%3)]
theorem anC(a b:M9):∀i,i<9->dn (U dY []) [(52,.split),(55,.split)] 0 Tryz.f123 [2,3,9] bIv (XZ a b i) [([(decide (Tz a b i<(-32768:Int)),true)],ivA i,.ret (.bool false) (W []) 0),([(decide (Tz a b i<(-32768:Int)),false),(decide (Tz a b i>(32768:Int)),true)],ivA i,.ret (.bool false) (W []) 0),([(decide (Tz a b i<(-32768:Int)),false),(decide (Tz a b i>(32768:Int)),false)],ivA i,.to .normal (XZ a b (i+1)))]:=by
 intro i hi;obtain rfl|rfl|rfl|rfl|rfl|rfl|rfl|rfl|rfl:i=0\/i=1\/i=2\/i=3\/i=4\/i=5\/i=6\/i=7\/i=8:=by omega
 all_goals exact dh.of C C C
theorem anD:dn (U dY []) [] 0 Tryz.f123 [2,3,9] (bIv) (XZ a b 9) [([],
   [],
   .to (.exit 0) (XZ a b 9))]
 :=dh.of C C C
theorem anE:dn (U dY []) [] 0 Tryz.f123 [] (dP (dm 1 Tx)) (XZ a b 9) [([],
   [],
   .ret (.bool true) (W []) 0)]
 :=dh.of C C C
noncomputable abbrev TA:Code:=dG Tryz.f91
end
noncomputable abbrev bSv:Code:=dD (dD (dP (dB (dm 1 TA))))
def X3(s:Sp)(i:Nat):St:=ff [(1,.ptr (some (0,0))),(6,.agg [fg s.c0,fg s.c1,fg s.c2]),(7,M i)] (W [(0,.cells (D.fN s.ds))]) 1
section
variable(f:FL)(s:Sp)(p:P7)(b:Bool)(u:ag)
theorem anF:dn (U dY []) [] 0 Tryz.f91 [1] (dN 1 TA) (dw [s.v] .nil 0) [([],
   [],
   .to .normal (ff [(1,.ptr (some (0,0)))] (W [(0,.cells [.eo false (s.c0.length) (dM s.c0),.eo false (s.c1.length) (dM s.c1),.eo false (s.c2.length) (dM s.c2),.int .i64 (s.to.a),.int .i64 (s.to.b),.int .i64 (s.to.c),.int .i64 (s.to.d),.int .i64 (s.to.e),.int .i64 (s.to.f),.int .i64 (s.to.g),.int .i64 (s.to.h),.int .i64 (s.to.i),.int .i64 (s.F.a),.int .i64 (s.F.b),.int .i64 (s.F.c),.int .i64 (s.F.d),.int .i64 (s.F.e),.int .i64 (s.F.f),.int .i64 (s.F.g),.int .i64 (s.F.h),.int .i64 (s.F.i)])]) 1))]
 :=dh.of C C C
theorem anG:dn (U dY []) [] 0 Tryz.f91 [1,6,7] (dB (dB (dm 1 TA))) (ff [(1,.ptr (some (0,0)))] (W [(0,.cells (D.fN s.ds))]) 1) [([],
   [],
   .to .normal (X3 s 0))]
 :=dh.of C C C
theorem anH:∀i,i<3->dn (U (eZ 121 [fg (s.cv i)] (.bool b) dY) []) [(12,.split)] 0 Tryz.f91 [1,6,7] bSv (X3 s i) [([(!b,true)],[eY [fg (s.cv i)]],.ret (.bool false) (W []) 0),([(!b,false)],[eY [fg (s.cv i)]],.to .normal (X3 s (i+1)))]:=by
 intro i hi;obtain rfl|rfl|rfl:i=0\/i=1\/i=2:=by omega
 all_goals exact dh.of C C C
theorem anI:dn (U dY []) [] 0 Tryz.f91 [1,6,7] (bSv) (X3 s 3) [([],
   [],
   .to (.exit 0) (X3 s 3))]
 :=dh.of C C C
def C3(l:List Int):Bool:=!(l.any XY)
def Kb:List Eng.D->Option (ah×V)
 | [.agg T]=>some ([T=dM (dX T),(dX T).length=9],.bool (C3 (dX T)))
 |_=>none
noncomputable abbrev Wwm:gy:=lC 122 (Go.Eng.dW Kb) dY
abbrev FU:Prop:=(dX [D.int B s.to.a,D.int B s.to.b,D.int B s.to.c,D.int B s.to.d,D.int B s.to.e,D.int B s.to.f,D.int B s.to.g,D.int B s.to.h,D.int B s.to.i]).length=9
abbrev Qw:Prop:=(dX [D.int B s.F.a,D.int B s.F.b,D.int B s.F.c,D.int B s.F.d,D.int B s.F.e,D.int B s.F.f,D.int B s.F.g,D.int B s.F.h,D.int B s.F.i]).length=9
abbrev Qx:Prop:=V.lE ([]++[V.agg (List.take 9 (List.drop 12 (D.fN s.ds))),V.agg (List.take 9 (List.drop 3 (D.fN s.ds)))]++[])=[V.agg (D.fN s.F.ds),V.agg (D.fN s.to.ds)]
theorem anJ(c:Bool):dn (U (eZ 123 [.agg (D.fN s.F.ds),.agg (D.fN s.to.ds)] (.bool c) Wwm) []) [(17,.split),(22,.split)] 0 Tryz.f91 [] (dP (dm 1 TA)) (X3 s 3) [([((C3 (dX [D.int B s.to.a,D.int B s.to.b,D.int B s.to.c,D.int B s.to.d,D.int B s.to.e,D.int B s.to.f,D.int B s.to.g,D.int B s.to.h,D.int B s.to.i])),true),((C3 (dX [D.int B s.F.a,D.int B s.F.b,D.int B s.F.c,D.int B s.F.d,D.int B s.F.e,D.int B s.F.f,D.int B s.F.g,D.int B s.F.h,D.int B s.F.i])),true)],
   [([D.int B s.to.a,D.int B s.to.b,D.int B s.to.c,D.int B s.to.d,D.int B s.to.e,D.int B s.to.f,D.int B s.to.g,D.int B s.to.h,D.int B s.to.i]=dM (dX [D.int B s.to.a,D.int B s.to.b,D.int B s.to.c,D.int B s.to.d,D.int B s.to.e,D.int B s.to.f,D.int B s.to.g,D.int B s.to.h,D.int B s.to.i])),FU s,([D.int B s.F.a,D.int B s.F.b,D.int B s.F.c,D.int B s.F.d,D.int B s.F.e,D.int B s.F.f,D.int B s.F.g,D.int B s.F.h,D.int B s.F.i]=dM (dX [D.int B s.F.a,D.int B s.F.b,D.int B s.F.c,D.int B s.F.d,D.int B s.F.e,D.int B s.F.f,D.int B s.F.g,D.int B s.F.h,D.int B s.F.i])),Qw s,Qx s],
   .ret (.bool c) (W []) 0),
  ([((C3 (dX [D.int B s.to.a,D.int B s.to.b,D.int B s.to.c,D.int B s.to.d,D.int B s.to.e,D.int B s.to.f,D.int B s.to.g,D.int B s.to.h,D.int B s.to.i])),true),((C3 (dX [D.int B s.F.a,D.int B s.F.b,D.int B s.F.c,D.int B s.F.d,D.int B s.F.e,D.int B s.F.f,D.int B s.F.g,D.int B s.F.h,D.int B s.F.i])),false)],
   [([D.int B s.to.a,D.int B s.to.b,D.int B s.to.c,D.int B s.to.d,D.int B s.to.e,D.int B s.to.f,D.int B s.to.g,D.int B s.to.h,D.int B s.to.i]=dM (dX [D.int B s.to.a,D.int B s.to.b,D.int B s.to.c,D.int B s.to.d,D.int B s.to.e,D.int B s.to.f,D.int B s.to.g,D.int B s.to.h,D.int B s.to.i])),FU s,([D.int B s.F.a,D.int B s.F.b,D.int B s.F.c,D.int B s.F.d,D.int B s.F.e,D.int B s.F.f,D.int B s.F.g,D.int B s.F.h,D.int B s.F.i]=dM (dX [D.int B s.F.a,D.int B s.F.b,D.int B s.F.c,D.int B s.F.d,D.int B s.F.e,D.int B s.F.f,D.int B s.F.g,D.int B s.F.h,D.int B s.F.i])),Qw s],
   .ret (.bool false) (W []) 0),
  ([((C3 (dX [D.int B s.to.a,D.int B s.to.b,D.int B s.to.c,D.int B s.to.d,D.int B s.to.e,D.int B s.to.f,D.int B s.to.g,D.int B s.to.h,D.int B s.to.i])),false),(false,true)],
   [([D.int B s.to.a,D.int B s.to.b,D.int B s.to.c,D.int B s.to.d,D.int B s.to.e,D.int B s.to.f,D.int B s.to.g,D.int B s.to.h,D.int B s.to.i]=dM (dX [D.int B s.to.a,D.int B s.to.b,D.int B s.to.c,D.int B s.to.d,D.int B s.to.e,D.int B s.to.f,D.int B s.to.g,D.int B s.to.h,D.int B s.to.i])),FU s,Qx s],
   .ret (.bool c) (W []) 0),
  ([((C3 (dX [D.int B s.to.a,D.int B s.to.b,D.int B s.to.c,D.int B s.to.d,D.int B s.to.e,D.int B s.to.f,D.int B s.to.g,D.int B s.to.h,D.int B s.to.i])),false),(false,false)],
   [([D.int B s.to.a,D.int B s.to.b,D.int B s.to.c,D.int B s.to.d,D.int B s.to.e,D.int B s.to.f,D.int B s.to.g,D.int B s.to.h,D.int B s.to.i]=dM (dX [D.int B s.to.a,D.int B s.to.b,D.int B s.to.c,D.int B s.to.d,D.int B s.to.e,D.int B s.to.f,D.int B s.to.g,D.int B s.to.h,D.int B s.to.i])),FU s],
   .ret (.bool false) (W []) 0)]
 :=dh.of C C C
theorem anK:dn (U (eZ 91 [s.v] (.bool b) dY) []) [] 0 Tryz.f90 [] (dG Tryz.f90) (dw [s.v] .nil 0) [([],
   [(V.lE ([]++[V.agg (List.take 21 (List.drop 0 s.v.cells))]++[])=[s.v])],
   .ret (.bool (!b)) (W []) 0)]
 :=dh.of C C C
def Kc:List Eng.D->Option (ah×V)
 | [.int .i64 k,.eo n T]=>some ([T=dM (dX T),n=(dX T).length,n<=1000000],.bool (En k (dX T)))
 |_=>none
noncomputable abbrev Waw:gy:=lC 158 (vP Kc) dY
abbrev Ke:Prop:=5=(dX [D.int B p.a,D.int B p.b,D.int B p.d,D.int B p.e,D.int B p.n]).length
theorem anL:dn (U (eZ 159 [p.v] (L (Mv p)) Waw) []) [(5,.split),(18,.split),(26,.split)] 0 Tryz.f127 [] (dG Tryz.f127) (dw [p.v] .nil 0) [([((decide (p.n>=(1:Int))),true),((En (4096:Int) (dX [D.int B p.a,D.int B p.b,D.int B p.d,D.int B p.e,D.int B p.n])),true),((En (268435456:Int) (dX [D.int B p.c,D.int B p.f])),true)],
   [([D.int B p.a,D.int B p.b,D.int B p.d,D.int B p.e,D.int B p.n].length=5),([D.int B p.a,D.int B p.b,D.int B p.d,D.int B p.e,D.int B p.n]=dM (dX [D.int B p.a,D.int B p.b,D.int B p.d,D.int B p.e,D.int B p.n])),Ke p,(5<=1000000),([D.int B p.c,D.int B p.f].length=2),([D.int B p.c,D.int B p.f]=dM (dX [D.int B p.c,D.int B p.f])),(2=(dX [D.int B p.c,D.int B p.f]).length),(2<=1000000),(V.lE ([]++[V.agg (List.take 7 (List.drop 0 p.v.cells))]++[])=[p.v])],
   .ret (.bool (Mv p !=(0:Int))) (W []) 0),
  ([((decide (p.n>=(1:Int))),true),((En (4096:Int) (dX [D.int B p.a,D.int B p.b,D.int B p.d,D.int B p.e,D.int B p.n])),true),((En (268435456:Int) (dX [D.int B p.c,D.int B p.f])),false)],
   [([D.int B p.a,D.int B p.b,D.int B p.d,D.int B p.e,D.int B p.n].length=5),([D.int B p.a,D.int B p.b,D.int B p.d,D.int B p.e,D.int B p.n]=dM (dX [D.int B p.a,D.int B p.b,D.int B p.d,D.int B p.e,D.int B p.n])),Ke p,(5<=1000000),([D.int B p.c,D.int B p.f].length=2),([D.int B p.c,D.int B p.f]=dM (dX [D.int B p.c,D.int B p.f])),(2=(dX [D.int B p.c,D.int B p.f]).length),(2<=1000000)],
   .ret (.bool false) (W []) 0),
  ([((decide (p.n>=(1:Int))),true),((En (4096:Int) (dX [D.int B p.a,D.int B p.b,D.int B p.d,D.int B p.e,D.int B p.n])),false)],
   [([D.int B p.a,D.int B p.b,D.int B p.d,D.int B p.e,D.int B p.n].length=5),([D.int B p.a,D.int B p.b,D.int B p.d,D.int B p.e,D.int B p.n]=dM (dX [D.int B p.a,D.int B p.b,D.int B p.d,D.int B p.e,D.int B p.n])),Ke p,(5<=1000000)],
   .ret (.bool false) (W []) 0),
  ([((decide (p.n>=(1:Int))),false)],
   [],
   .ret (.bool false) (W []) 0)]
 :=dh.of C C C
theorem ade(l:List (Int×Int))(b:Bool):dn (U (eZ 162 [wM l,mG 163] (.bool b) dY) []) [(5,.split),(9,.split)] 0 Tryz.f129 [] (dG Tryz.f129) (dw [wM l] .nil 0) [([((decide ((Int.ofNat l.length)>=(3:Int))),true),((decide ((Int.ofNat l.length)<=(64:Int))),true)],
   [(V.lE ([]++[wM l,V.fn (Fn.func 163) [] []]++[])=[wM l,mG 163])],
   .ret (.bool (!b)) (W []) 0),
  ([((decide ((Int.ofNat l.length)>=(3:Int))),true),((decide ((Int.ofNat l.length)<=(64:Int))),false)],
   [],
   .ret (.bool false) (W []) 0),
  ([((decide ((Int.ofNat l.length)>=(3:Int))),false)],
   [],
   .ret (.bool false) (W []) 0)]
 :=dh.of C C C
def wZ(t:Bool):St:=ff [(1,.ptr (some (0,0))),(3,.bool t),(4,.ptr (some (1,0)))] (W [(0,.cells f.T),(1,.cells u)]) 2
def TB:ag:=[L f.k,L f.r,fg f.eK,L f.dv,L 0,gA]
def uF2:ag:=[L f.k,L f.r,gA,L 0,L 0,gA]
def uF5:ag:=[L f.k,L 0,gA,L 0,L 0,fg f.cu]
def uF6:ag:=[L f.k,L 0,gA,L 0,L 0,gA]
def uF7:ag:=[L f.k,L 0,gA,L 0,L f.vl,gA]
def X4:ag:=[L f.k,L f.r,gA,L 0,L f.vl,gA]
theorem anP:dn (U (eZ 149 [fg f.eK,mG 160] (.bool b) dY) [(161,[(9,.split),(13,.split)])]) [(37,.split)] 0 Tryz.f128 [3,1,4] (dN 4 (dG Tryz.f128)) (dw [(jU f 1).v] .nil 0) [([((decide (f.r>=(0:Int))),true),((decide (f.r<=(3:Int))),true),(((Int.ofNat f.eK.length)==IntKind.i64.wrap (IntKind.i64.wrap (IntKind.i64.wrap ((2:Int)*f.r)+(1:Int))*IntKind.i64.wrap (IntKind.i64.wrap ((2:Int)*f.r)+(1:Int)))),true),((decide (f.dv>=(1:Int))),true),((decide (f.dv<=(1048576:Int))),true)],
   [(V.lE ([]++[fg f.eK,V.fn (Fn.func 160) [] []]++[])=[fg f.eK,mG 160])],
   .to .normal (wZ (jU f 1) (TB (jU f 1)) (!b))),
  ([((decide (f.r>=(0:Int))),true),((decide (f.r<=(3:Int))),true),(((Int.ofNat f.eK.length)==IntKind.i64.wrap (IntKind.i64.wrap (IntKind.i64.wrap ((2:Int)*f.r)+(1:Int))*IntKind.i64.wrap (IntKind.i64.wrap ((2:Int)*f.r)+(1:Int)))),true),((decide (f.dv>=(1:Int))),true),((decide (f.dv<=(1048576:Int))),false)],
   [],
   .to .normal (wZ (jU f 1) (TB (jU f 1)) false)),
  ([((decide (f.r>=(0:Int))),true),((decide (f.r<=(3:Int))),true),(((Int.ofNat f.eK.length)==IntKind.i64.wrap (IntKind.i64.wrap (IntKind.i64.wrap ((2:Int)*f.r)+(1:Int))*IntKind.i64.wrap (IntKind.i64.wrap ((2:Int)*f.r)+(1:Int)))),true),((decide (f.dv>=(1:Int))),false)],
   [],
   .to .normal (wZ (jU f 1) (TB (jU f 1)) false)),
  ([((decide (f.r>=(0:Int))),true),((decide (f.r<=(3:Int))),true),(((Int.ofNat f.eK.length)==IntKind.i64.wrap (IntKind.i64.wrap (IntKind.i64.wrap ((2:Int)*f.r)+(1:Int))*IntKind.i64.wrap (IntKind.i64.wrap ((2:Int)*f.r)+(1:Int)))),false)],
   [],
   .to .normal (wZ (jU f 1) (TB (jU f 1)) false)),
  ([((decide (f.r>=(0:Int))),true),((decide (f.r<=(3:Int))),false)],
   [],
   .to .normal (wZ (jU f 1) (TB (jU f 1)) false)),
  ([((decide (f.r>=(0:Int))),false)],
   [],
   .to .normal (wZ (jU f 1) (TB (jU f 1)) false))]
 :=dh.of C C C
theorem anQ:dn (U U3 []) [] 0 Tryz.f128 [3,1,4] (dN 4 (dG Tryz.f128)) (dw [(jU f 2).v] .nil 0) [([],
   [],
   .to .normal (wZ (jU f 2) (uF2 (jU f 2)) (qX f.r 0 3)))]
 :=dh.of C C C
theorem anR:dn (U U3 []) [] 0 Tryz.f128 [3,1,4] (dN 4 (dG Tryz.f128)) (dw [(jU f 3).v] .nil 0) [([],
   [],
   .to .normal (wZ (jU f 3) (uF2 (jU f 3)) (qX f.r 0 3)))]
 :=dh.of C C C
theorem anS:dn (U U3 []) [] 0 Tryz.f128 [3,1,4] (dN 4 (dG Tryz.f128)) (dw [(jU f 4).v] .nil 0) [([],
   [],
   .to .normal (wZ (jU f 4) (uF2 (jU f 4)) (qX f.r 0 3)))]
 :=dh.of C C C
theorem anT:dn (U (eZ 121 [fg f.cu] (.bool b) U3) []) [] 0 Tryz.f128 [3,1,4] (dN 4 (dG Tryz.f128)) (dw [(jU f 5).v] .nil 0) [([],
   [(V.lE ([]++[fg f.cu]++[])=[fg f.cu])],
   .to .normal (wZ (jU f 5) (uF5 (jU f 5)) b))]
 :=dh.of C C C
theorem anU:dn (U U3 []) [] 0 Tryz.f128 [3,1,4] (dN 4 (dG Tryz.f128)) (dw [(jU f 6).v] .nil 0) [([],
   [],
   .to .normal (wZ (jU f 6) (uF6 (jU f 6)) true))]
 :=dh.of C C C
theorem anV:dn (U U3 []) [] 0 Tryz.f128 [3,1,4] (dN 4 (dG Tryz.f128)) (dw [(jU f 7).v] .nil 0) [([],
   [],
   .to .normal (wZ (jU f 7) (uF7 (jU f 7)) (qX f.vl 0 256)))]
 :=dh.of C C C
theorem anW:dn (U dY [(161,[(9,.split),(13,.split)])]) [] 0 Tryz.f128 [3,1,4] (dN 4 (dG Tryz.f128)) (dw [(jU f 8).v] .nil 0) [([((decide (f.r>=(-3:Int))),true),((decide (f.r<=(3:Int))),true),((decide (f.vl>=(-3:Int))),true),((decide (f.vl<=(3:Int))),true)],
   [],
   .to .normal (wZ (jU f 8) (X4 (jU f 8)) true)),
  ([((decide (f.r>=(-3:Int))),true),((decide (f.r<=(3:Int))),true),((decide (f.vl>=(-3:Int))),true),((decide (f.vl<=(3:Int))),false)],
   [],
   .to .normal (wZ (jU f 8) (X4 (jU f 8)) false)),
  ([((decide (f.r>=(-3:Int))),true),((decide (f.r<=(3:Int))),true),((decide (f.vl>=(-3:Int))),false)],
   [],
   .to .normal (wZ (jU f 8) (X4 (jU f 8)) false)),
  ([((decide (f.r>=(-3:Int))),true),((decide (f.r<=(3:Int))),false)],
   [],
   .to .normal (wZ (jU f 8) (X4 (jU f 8)) false)),
  ([((decide (f.r>=(-3:Int))),false)],
   [],
   .to .normal (wZ (jU f 8) (X4 (jU f 8)) false))]
 :=dh.of C C C
theorem MM:dn (U dY []) [] 0 Tryz.f128 [] (dm 4 (dG Tryz.f128)) (wZ f u false) [([],
   [],
   .ret (.bool false) (W []) 0)]
 :=dh.of C C C
theorem anX:dn (U dY []) [(101,.dy (.bool true)),(108,.dy (.bool true)),(115,.split),(124,.dy (.bool true))] 0 Tryz.f128 [] (dm 4 (dG Tryz.f128)) (wZ f (TB f) true) [([((f.vl==(0:Int)),true)],
   [(V.bool (f.r==f.r)=V.bool true),(V.bool (f.dv==f.dv)=V.bool true),(V.bool ((Int.ofNat f.eK.length)==(Int.ofNat f.eK.length))=V.bool true)],
   .ret (.bool ((Int.ofNat f.cu.length)==(0:Int))) (W []) 0),
  ([((f.vl==(0:Int)),false)],
   [(V.bool (f.r==f.r)=V.bool true),(V.bool (f.dv==f.dv)=V.bool true)],
   .ret (.bool false) (W []) 0)]
 :=dh.of C C C
theorem anY:dn (U dY []) [(101,.dy (.bool true)),(108,.split),(115,.split),(124,.split)] 0 Tryz.f128 [] (dm 4 (dG Tryz.f128)) (wZ f (uF2 f) true) [([((f.dv==(0:Int)),true),((f.vl==(0:Int)),true),(((Int.ofNat f.eK.length)==(0:Int)),true)],
   [(V.bool (f.r==f.r)=V.bool true)],
   .ret (.bool ((Int.ofNat f.cu.length)==(0:Int))) (W []) 0),
  ([((f.dv==(0:Int)),true),((f.vl==(0:Int)),true),(((Int.ofNat f.eK.length)==(0:Int)),false)],
   [(V.bool (f.r==f.r)=V.bool true)],
   .ret (.bool false) (W []) 0),
  ([((f.dv==(0:Int)),true),((f.vl==(0:Int)),false)],
   [(V.bool (f.r==f.r)=V.bool true)],
   .ret (.bool false) (W []) 0),
  ([((f.dv==(0:Int)),false)],
   [(V.bool (f.r==f.r)=V.bool true)],
   .ret (.bool false) (W []) 0)]
 :=dh.of C C C
theorem anZ:dn (U dY []) [(101,.split),(108,.split),(115,.split),(124,.split),(133,.dy (.bool true))] 0 Tryz.f128 [] (dm 4 (dG Tryz.f128)) (wZ f (uF5 f) true) [([((f.r==(0:Int)),true),((f.dv==(0:Int)),true),((f.vl==(0:Int)),true),(((Int.ofNat f.eK.length)==(0:Int)),true)],
   [(V.bool ((Int.ofNat f.cu.length)==(Int.ofNat f.cu.length))=V.bool true)],
   .ret (.bool true) (W []) 0),
  ([((f.r==(0:Int)),true),((f.dv==(0:Int)),true),((f.vl==(0:Int)),true),(((Int.ofNat f.eK.length)==(0:Int)),false)],
   [],
   .ret (.bool false) (W []) 0),
  ([((f.r==(0:Int)),true),((f.dv==(0:Int)),true),((f.vl==(0:Int)),false)],
   [],
   .ret (.bool false) (W []) 0),
  ([((f.r==(0:Int)),true),((f.dv==(0:Int)),false)],
   [],
   .ret (.bool false) (W []) 0),
  ([((f.r==(0:Int)),false)],
   [],
   .ret (.bool false) (W []) 0)]
 :=dh.of C C C
theorem an0:dn (U dY []) [(101,.split),(108,.split),(115,.split),(124,.split)] 0 Tryz.f128 [] (dm 4 (dG Tryz.f128)) (wZ f (uF6 f) true) [([((f.r==(0:Int)),true),((f.dv==(0:Int)),true),((f.vl==(0:Int)),true),(((Int.ofNat f.eK.length)==(0:Int)),true)],
   [],
   .ret (.bool ((Int.ofNat f.cu.length)==(0:Int))) (W []) 0),
  ([((f.r==(0:Int)),true),((f.dv==(0:Int)),true),((f.vl==(0:Int)),true),(((Int.ofNat f.eK.length)==(0:Int)),false)],
   [],
   .ret (.bool false) (W []) 0),
  ([((f.r==(0:Int)),true),((f.dv==(0:Int)),true),((f.vl==(0:Int)),false)],
   [],
   .ret (.bool false) (W []) 0),
  ([((f.r==(0:Int)),true),((f.dv==(0:Int)),false)],
   [],
   .ret (.bool false) (W []) 0),
  ([((f.r==(0:Int)),false)],
   [],
   .ret (.bool false) (W []) 0)]
 :=dh.of C C C
theorem an1:dn (U dY []) [(101,.split),(108,.split),(115,.dy (.bool true)),(124,.split)] 0 Tryz.f128 [] (dm 4 (dG Tryz.f128)) (wZ f (uF7 f) true) [([((f.r==(0:Int)),true),((f.dv==(0:Int)),true),(((Int.ofNat f.eK.length)==(0:Int)),true)],
   [(V.bool (f.vl==f.vl)=V.bool true)],
   .ret (.bool ((Int.ofNat f.cu.length)==(0:Int))) (W []) 0),
  ([((f.r==(0:Int)),true),((f.dv==(0:Int)),true),(((Int.ofNat f.eK.length)==(0:Int)),false)],
   [(V.bool (f.vl==f.vl)=V.bool true)],
   .ret (.bool false) (W []) 0),
  ([((f.r==(0:Int)),true),((f.dv==(0:Int)),false)],
   [],
   .ret (.bool false) (W []) 0),
  ([((f.r==(0:Int)),false)],
   [],
   .ret (.bool false) (W []) 0)]
 :=dh.of C C C
theorem an2:dn (U dY []) [(101,.dy (.bool true)),(108,.split),(115,.dy (.bool true)),(124,.split)] 0 Tryz.f128 [] (dm 4 (dG Tryz.f128)) (wZ f (X4 f) true) [([((f.dv==(0:Int)),true),(((Int.ofNat f.eK.length)==(0:Int)),true)],
   [(V.bool (f.r==f.r)=V.bool true),(V.bool (f.vl==f.vl)=V.bool true)],
   .ret (.bool ((Int.ofNat f.cu.length)==(0:Int))) (W []) 0),
  ([((f.dv==(0:Int)),true),(((Int.ofNat f.eK.length)==(0:Int)),false)],
   [(V.bool (f.r==f.r)=V.bool true),(V.bool (f.vl==f.vl)=V.bool true)],
   .ret (.bool false) (W []) 0),
  ([((f.dv==(0:Int)),false)],
   [(V.bool (f.r==f.r)=V.bool true)],
   .ret (.bool false) (W []) 0)]
 :=dh.of C C C
theorem an3:dn (U dY []) [(13,.dy (.bool false)),(52,.dy (.bool false)),(53,.dy (.bool false)),(54,.dy (.bool false)),(62,.dy (.bool false)),(70,.dy (.bool false)),(72,.dy (.bool false)),(80,.dy (.bool false))] 0 Tryz.f128 [] (dN 4 (dG Tryz.f128)) (dw [f.v] .nil 0) [([],
   [(V.bool (f.k==(1:Int))=V.bool false),(V.bool (f.k==(2:Int))=V.bool false),(V.bool (f.k==(3:Int))=V.bool false),(V.bool (f.k==(4:Int))=V.bool false),(V.bool (f.k==(5:Int))=V.bool false),(V.bool (f.k==(6:Int))=V.bool false),(V.bool (f.k==(7:Int))=V.bool false),(V.bool (f.k==(8:Int))=V.bool false)],
   .ret (.bool false) (W []) 0)]
 :=dh.of C C C
end
set_option maxRecDepth 10000
theorem wmD(m:M9):dS ak 122 [.agg (D.fN m.ds)] (.bool (C3 m.l)):=by
 refine eV Tryz.func122 (fu 1 (dg _) (anv m) all_nil ?_);refine dI C ?_;refine ac9 (fn:=Tryz.f122) 1 [0] [3] (dg _) (anw m) all_nil (s2:=ff [(3,fg m.l)] (W []) 0) (aj:=[m.ds.length=9*1]) C (eC rfl) (fj (caD m.l XY (fun x _=>cwD x) (show(9:Nat)<=1000000 by decide)) (dg _)) (anx m (m.l.any XY)) ?_;refine dA (g0 ⟨eC rfl,_,rfl,fun A dU=>?_⟩);simp only[andThen];exact dU _ _ (eI (dg _) (anz _) (dA (g0 ⟨all_nil,_,_,_,rfl,rfl⟩)))
theorem Kf{i:Nat}(h:i<9):∀a∈ivA i,a:=J fa (J (ye G) (J (ye G) (J (ye G) (J (ye G) (J (ye G) (eC (ye G)))))))
def Kg(a b:M9)(i:Nat):Bool:=decide (Tz a b i< -32768)||decide (Tz a b i>32768)
theorem ivD(a b:M9):dS ak 123 [.agg (D.fN a.ds),.agg (D.fN b.ds)] (.bool (!((List.range 9).any (Kg a b)))):=by
 refine eV Tryz.func123 (fu 1 (dg _) (anA a b) all_nil ?_);refine dI C (dI C (gz (dg _) eH (anB a b) (dA (g0 ⟨all_nil,fun A dU=>?_⟩))));simp only[andThen];refine iQ 0 9 (fun i=>XZ a b i) (Kg a b) (dZ.norm dU) (fun i hi hj Q' k1 k2 k3=>?_) (fun Q A dU=>?_)
 . rcases br i 9 with q|q
   . have hF:Kg a b i=true->V.bool false=V.bool (!((List.range 9).any (Kg a b))):=fun h=>by rw[qB (f:=Kg a b) q h];rfl
     exact gz (dg _) (fun u _ _=>u= .bool (!((List.range 9).any (Kg a b)))) (anC a b i q) (dz (g1 fun h=>⟨Kf q,hF (by unfold Kg;rw[h];rfl),k3⟩) (dz (g2 fun h R=>⟨Kf q,hF (by unfold Kg;rw[h,R];rfl),k3⟩) (dA (g2 fun h R=>⟨Kf q,fun A dU=>k1 q (by unfold Kg;rw[h,R];rfl) A (dZ.norm dU)⟩))))
   . obtain rfl:i=9:=by omega
     exact gz (dg _) eH (anD a b) (dA (g0 ⟨all_nil,fun A dU=>k2 rfl A (dZ.norm dU)⟩))
 simp only[andThen];exact dU _ _ (eI (dg _) (anE a b) (dA (g0 ⟨all_nil,_,_,_,rfl,by rw[qC (f:=Kg a b) Q];rfl⟩)))
section
variable(f:FL)(p:P7)(s:Sp)(t:Bool)
theorem X5:kE ak 122 (Go.Eng.dW Kb):=by
 refine OB (az C) fun ds s' v e hA=>?_;unfold Kb at e;split at e
 case h_2=>cases e
 rename_i T;obtain⟨rfl,rfl⟩:=sm e;have e1:T=dM (dX T):=hA _ (by simp);have e2:(dX T).length=9:=hA ((dX T).length=9) (by simp);generalize dX T=l at *;subst e1
 match l,e2 with
 | [a,b,c,d,e,f,g,h,i],_=>exact wmD ⟨a,b,c,d,e,f,g,h,i⟩
theorem X6:eR ak Wwm:=fQ X5 (dg _)
def TC:Bool:=!((List.range 3).any fun i=>!Ln (s.cv i))&&(C3 s.to.l&&(C3 s.F.l&& !((List.range 9).any (Kg s.F s.to))))
theorem svD(h0:∀i,i<3->(s.cv i).length<=1000000000):dS ak 91 [s.v] (.bool (TC s)):=by
 refine eV Tryz.func91 (fu 1 (dg _) (anF s) all_nil ?_);refine dI C (dI C (gz (dg _) eH (anG s) (dA (g0 ⟨all_nil,fun A dU=>?_⟩))));simp only[andThen];refine iQ 0 3 (fun i=>X3 s i) (fun i=>!Ln (s.cv i)) (dZ.norm dU) (fun i hi hj Q' k1 k2 k3=>?_) (fun Q A dU=>?_)
 . rcases br i 3 with q|q
   . have hF:(!Ln (s.cv i))=true->V.bool false=V.bool (TC s):=fun h=>by unfold TC;rw[qB (f:=fun i=>!Ln (s.cv i)) q h];rfl
     exact gz (fj (cvD (s.cv i) (h0 i q)) (dg _)) (fun u _ _=>u= .bool (TC s)) (anH s (Ln (s.cv i)) i q) (dz (g1 fun h=>⟨eC rfl,hF h,k3⟩) (dA (g1 fun h=>⟨eC rfl,fun A dU=>k1 q h A (dZ.norm dU)⟩)))
   . obtain rfl:i=3:=by omega
     exact gz (dg _) eH (anI s) (dA (g0 ⟨all_nil,fun A dU=>k2 rfl A (dZ.norm dU)⟩))
 simp only[andThen];have e:TC s=(C3 s.to.l&&(C3 s.F.l&& !((List.range 9).any (Kg s.F s.to)))):=by unfold TC;rw[qC (f:=fun i=>!Ln (s.cv i)) Q];rfl
 rw[e];refine dU _ _ (eI (fj (ivD s.F s.to) X6) (anJ s _) ?_)
 repeat' (first|exact gB|refine dz ?_ ?_)
 all_goals
  intro K;simp only[aD,aI,bh,aL,bg]at K;refine⟨?_,_,_,_,rfl,aH V.bool ?_⟩
  . repeat' (first|exact all_nil|refine J ?_ ?_)
    all_goals rfl
  . first
    |(have a1:C3 s.to.l=true:=K.1
      have a2:C3 s.F.l=true:=K.2;rw[a1,a2];rfl)
    |(have a1:C3 s.to.l=true:=K.1
      have a2:C3 s.F.l=false:=K.2;rw[a1,a2];rfl)
    |exact absurd K.2 Bool.false_ne_true
    |(have a1:C3 s.to.l=false:=K.1
      rw[a1];rfl)
theorem czD(h0:∀i,i<3->(s.cv i).length<=1000000000):dS ak 90 [s.v] (.bool (!TC s)):=
 eV Tryz.func90 (eI (fj (svD s h0) (dg _)) (anK s _) (dA (g0 ⟨eC rfl,_,_,_,rfl,rfl⟩)))
theorem awT:∀ds s' v,Kc ds=some (s',v)->(∀a∈s',a)->dS ak 158 (ds.map D.jJ) v:=fun ds s' v e hA=>by
 unfold Kc at e;split at e
 case h_2=>cases e
 rename_i k n T;obtain⟨rfl,rfl⟩:=sm e;have e1:T=dM (dX T):=hA _ (by simp);have e2:n=(dX T).length:=hA (n=(dX T).length) (by simp);have e3:n<=1000000:=hA (n<=1000000) (by simp);generalize dX T=l at *;subst e1 e2;exact awD k l e3
theorem X7:eR ak Waw:=fQ (x8 C awT) (dg _)
def avP:Bool:=decide (p.n>=1)&&(En 4096 [p.a,p.b,p.d,p.e,p.n]&&(En 268435456 [p.c,p.f]&&(Mv p !=0)))
theorem avD:dS ak 127 [p.v] (.bool (avP p)):=by
 refine eV Tryz.func127 (eI (fj (adD p) X7) (anL p) ?_)
 repeat' (first|exact gB|refine dz ?_ ?_)
 all_goals
  intro K;simp only[aD,aI,bh,aL,bg]at K;refine⟨?_,_,_,_,rfl,aH V.bool ?_⟩
  . repeat' (first|exact all_nil|refine J ?_ ?_)
    all_goals first|rfl|exact aW rfl
  . unfold avP
    first
    |(have a1:En 4096 [p.a,p.b,p.d,p.e,p.n]=true:=K.2.1
      have a2:En 268435456 [p.c,p.f]=true:=K.2.2;rw[K.1,a1,a2];rfl)
    |(have a1:En 4096 [p.a,p.b,p.d,p.e,p.n]=true:=K.2.1
      have a2:En 268435456 [p.c,p.f]=false:=K.2.2;rw[K.1,a1,a2];rfl)
    |(have a1:En 4096 [p.a,p.b,p.d,p.e,p.n]=false:=K.2
      rw[K.1,a1];rfl)
    |(rw[K];rfl)
theorem Qy(k:Int)(h0:0<=k)(Q:k<=1000000000)(l:List Int):En k l=l.all fun x=>w9 x k:=by
 unfold En;rw[List.not_any_eq_all_not];congr 1;funext x;rw[ik G G];unfold w9;rw[Bool.not_or,<- decide_not,<- decide_not];congr 1<;>exact decide_eq_decide.2 G
theorem X8:avP p=Aq p:=by
 unfold avP Aq Rl US;rw[Qy _ fa fa,Qy _ fa fa];simp only[List.all_cons,List.all_nil,cq];by_cases h:p.n>=1
 . have e:w9 p.n 4096=decide (p.n<=4096):=by
    unfold w9;rw[show decide (-4096<=p.n)=true from aY G,aN]
   rw[e];generalize decide (p.n<=4096)=x;generalize w9 p.a 4096=a;generalize w9 p.b 4096=b;generalize w9 p.d 4096=c;generalize w9 p.e 4096=d;cases x<;>cases a<;>cases b<;>cases c<;>cases d<;>simp
 . rw[aU h];rfl
theorem afD:dS ak 127 [p.v] (.bool (Aq p)):=X8 p▸avD p
theorem Qz(x:Int×Int):Ig x=JH x:=by
 have e1:decide ((if x.2<x.1 then x.2 else x.1)< -65536)=(decide (x.1< -65536)||decide (x.2< -65536)):=by
  rw[<- Bool.decide_or];refine decide_eq_decide.2 ?_;split<;>omega
 have e2:decide ((if x.2>x.1 then x.2 else x.1)>65536)=(decide (x.1>65536)||decide (x.2>65536)):=by
  rw[<- Bool.decide_or];refine decide_eq_decide.2 ?_;split<;>omega
 unfold Ig JH;rw[e1,e2];generalize decide (x.1< -65536)=a;generalize decide (x.2< -65536)=b;generalize decide (x.1>65536)=c;generalize decide (x.2>65536)=d;cases a<;>cases b<;>cases c<;>cases d<;>rfl
theorem an4(l:List (Int×Int))(hl:l.length<=1000000):dS ak 129 [wM l] (.bool (jw l)):=by
 have e:jw l=(decide (Int.ofNat l.length>=3)&&(decide (Int.ofNat l.length<=64)&& !(l.any Ig))):=by
  unfold jw;rw[show Ig=JH from funext Qz];generalize l.any JH=a;cases a<;>simp
 rw[e];refine eV Tryz.func129 (eI (fj (ccD l Ig (fun x _=>anu x) hl) (dg _)) (ade l _) ?_)
 repeat' (first|exact gB|refine dz ?_ ?_)
 all_goals
  intro K;simp only[aD,aI,bh,aL,bg]at K;exact⟨by first|exact all_nil|exact eC rfl,_,_,_,rfl,aH V.bool (by simp only[K,aN,aP])⟩
theorem ty1:TG ak 0 Tryz.f128.ntmps (dm 4 (dG Tryz.f128)) (wZ f (TB f) t) (fD ak 0 Tryz.f128 fun u _ _=>u= .bool (t&&((f.vl==(0:Int))&&nN f.cu.length))):=by
 cases t with
 |false=>exact eI (dg _) (MM f _) (dA (g0 ⟨all_nil,_,_,_,rfl,rfl⟩))
 |true=>
  refine eI (dg _) (anX f) ?_
  repeat' (first|exact gB|refine dz ?_ ?_)
  all_goals
   intro K;simp only[aD,aI,bh,aL,bg]at K;refine⟨?_,_,_,_,rfl,aH V.bool (by simp only[K,aN,aP])⟩
   repeat' (first|exact all_nil|refine J ?_ ?_)
   all_goals exact aH V.bool (beq_self_eq_true _)
theorem ty2:TG ak 0 Tryz.f128.ntmps (dm 4 (dG Tryz.f128)) (wZ f (uF2 f) t) (fD ak 0 Tryz.f128 fun u _ _=>u= .bool (t&&((f.dv==(0:Int))&&((f.vl==(0:Int))&&(nN f.eK.length&&nN f.cu.length))))):=by
 cases t with
 |false=>exact eI (dg _) (MM f _) (dA (g0 ⟨all_nil,_,_,_,rfl,rfl⟩))
 |true=>
  refine eI (dg _) (anY f) ?_
  repeat' (first|exact gB|refine dz ?_ ?_)
  all_goals
   intro K;simp only[aD,aI,bh,aL,bg]at K;refine⟨?_,_,_,_,rfl,aH V.bool (by simp only[K,aN,aP])⟩
   repeat' (first|exact all_nil|refine J ?_ ?_)
   all_goals exact aH V.bool (beq_self_eq_true _)
theorem ty5:TG ak 0 Tryz.f128.ntmps (dm 4 (dG Tryz.f128)) (wZ f (uF5 f) t) (fD ak 0 Tryz.f128 fun u _ _=>u= .bool (t&&((f.r==(0:Int))&&((f.dv==(0:Int))&&((f.vl==(0:Int))&&nN f.eK.length))))):=by
 cases t with
 |false=>exact eI (dg _) (MM f _) (dA (g0 ⟨all_nil,_,_,_,rfl,rfl⟩))
 |true=>
  refine eI (dg _) (anZ f) ?_
  repeat' (first|exact gB|refine dz ?_ ?_)
  all_goals
   intro K;simp only[aD,aI,bh,aL,bg]at K;refine⟨?_,_,_,_,rfl,aH V.bool (by simp only[K,aN,aP])⟩
   repeat' (first|exact all_nil|refine J ?_ ?_)
   all_goals exact aH V.bool (beq_self_eq_true _)
theorem ty6:TG ak 0 Tryz.f128.ntmps (dm 4 (dG Tryz.f128)) (wZ f (uF6 f) t) (fD ak 0 Tryz.f128 fun u _ _=>u= .bool (t&&((f.r==(0:Int))&&((f.dv==(0:Int))&&((f.vl==(0:Int))&&(nN f.eK.length&&nN f.cu.length)))))):=by
 cases t with
 |false=>exact eI (dg _) (MM f _) (dA (g0 ⟨all_nil,_,_,_,rfl,rfl⟩))
 |true=>
  refine eI (dg _) (an0 f) ?_
  repeat' (first|exact gB|refine dz ?_ ?_)
  all_goals
   intro K;simp only[aD,aI,bh,aL,bg]at K;refine⟨?_,_,_,_,rfl,aH V.bool (by simp only[K,aN,aP])⟩
   repeat' (first|exact all_nil|refine J ?_ ?_)
   all_goals exact aH V.bool (beq_self_eq_true _)
theorem ty7:TG ak 0 Tryz.f128.ntmps (dm 4 (dG Tryz.f128)) (wZ f (uF7 f) t) (fD ak 0 Tryz.f128 fun u _ _=>u= .bool (t&&((f.r==(0:Int))&&((f.dv==(0:Int))&&(nN f.eK.length&&nN f.cu.length))))):=by
 cases t with
 |false=>exact eI (dg _) (MM f _) (dA (g0 ⟨all_nil,_,_,_,rfl,rfl⟩))
 |true=>
  refine eI (dg _) (an1 f) ?_
  repeat' (first|exact gB|refine dz ?_ ?_)
  all_goals
   intro K;simp only[aD,aI,bh,aL,bg]at K;refine⟨?_,_,_,_,rfl,aH V.bool (by simp only[K,aN,aP])⟩
   repeat' (first|exact all_nil|refine J ?_ ?_)
   all_goals exact aH V.bool (beq_self_eq_true _)
theorem ty8:TG ak 0 Tryz.f128.ntmps (dm 4 (dG Tryz.f128)) (wZ f (X4 f) t) (fD ak 0 Tryz.f128 fun u _ _=>u= .bool (t&&((f.dv==(0:Int))&&(nN f.eK.length&&nN f.cu.length)))):=by
 cases t with
 |false=>exact eI (dg _) (MM f _) (dA (g0 ⟨all_nil,_,_,_,rfl,rfl⟩))
 |true=>
  refine eI (dg _) (an2 f) ?_
  repeat' (first|exact gB|refine dz ?_ ?_)
  all_goals
   intro K;simp only[aD,aI,bh,aL,bg]at K;refine⟨?_,_,_,_,rfl,aH V.bool (by simp only[K,aN,aP])⟩
   repeat' (first|exact all_nil|refine J ?_ ?_)
   all_goals exact aH V.bool (beq_self_eq_true _)
theorem TD(x:Int):U4 x=CC x:=by
 unfold U4 qX CC;rw[Bool.not_and];congr 1<;>rw[<- decide_not]<;>exact decide_eq_decide.2 G
theorem an6(Y:f.eK.length<=1000000)(I3:f.cu.length<=1000000000)(ND:Ln f.cu=jF f.cu):dS ak 128 [f.v] (.bool (iH f)):=by
 have CD:∀k,f.k=k->f=jU f k:=fun k h=>by obtain⟨a,_,_,_,_,_⟩:=f;simp only at h;subst h;rfl
 refine eV Tryz.func128 ?_;by_cases Q:f.k=1
 . have e:iH f=JI f:=by unfold iH;rw[aE Q]
   have ef:=CD 1 Q;have hr:=anP f (f.eK.any U4);rw[<- ef]at hr;have hT:=ty1 f;rw[e];have cv:∀t,t=(zA f&&(!((Int.ofNat f.eK.length) !=(2*f.r+1)*(2*f.r+1))&&(qX f.dv 1 1048576&& !f.eK.any U4)))->JI f=(t&&((f.vl==(0:Int))&&nN f.cu.length)):=fun t ht=>by
    rw[ht,show U4=CC from funext TD];unfold JI qW qX;rw[show decide (f.dv>=1)=!decide (f.dv<1)by rw[<- decide_not];exact decide_eq_decide.2 G,show decide (f.dv<=1048576)=!decide (f.dv>1048576)by rw[<- decide_not];exact decide_eq_decide.2 G];simp only[cj,aN,cm,cq,Bool.and_assoc]
   have hw:zA f=true->IntKind.i64.wrap (IntKind.i64.wrap (IntKind.i64.wrap ((2:Int)*f.r)+(1:Int))*IntKind.i64.wrap (IntKind.i64.wrap ((2:Int)*f.r)+(1:Int)))=((2:Int)*f.r+(1:Int))*((2:Int)*f.r+(1:Int)):=fun IN=>by
    unfold zA at IN;rw[ay,aX,aX]at IN;obtain⟨k1,k2⟩:=IN;rcases(by omega:f.r=0\/f.r=1\/f.r=2\/f.r=3)with h|h|h|h<;>rw[h]<;>rfl
   have go:∀t,t=(zA f&&(!((Int.ofNat f.eK.length) !=(2*f.r+1)*(2*f.r+1))&&(qX f.dv 1 1048576&& !f.eK.any U4)))->TG ak 0 Tryz.f128.ntmps (dm 4 (dG Tryz.f128)) (wZ f (TB f) t) (fD ak 0 Tryz.f128 fun u _ _=>u= .bool (JI f)):=fun t ht=>by
    rw[cv t ht];exact hT t
   refine tO 4 (fj (cbD f.eK U4 (fun x _=>fcD x) Y) (dg _)) hr ?_
   repeat' (first|exact gB|refine dz ?_ ?_)
   all_goals
    intro K;simp only[aD,aI,bh,aL,bg]at K;refine⟨by first|exact all_nil|exact eC rfl,_,rfl,go _ ?_⟩
   . have q1:zA f=true:=by unfold zA;rw[K.1,K.2.1];rfl
     rw[hw q1]at K;rw[q1,show qX f.dv 1 1048576=true by unfold qX;rw[K.2.2.2.1,K.2.2.2.2];rfl];rw[show((Int.ofNat f.eK.length) !=(2*f.r+1)*(2*f.r+1))=false by unfold bne;rw[K.2.2.1];rfl];rfl
   . have q1:zA f=true:=by unfold zA;rw[K.1,K.2.1];rfl
     rw[q1,show qX f.dv 1 1048576=false by unfold qX;rw[K.2.2.2.1,K.2.2.2.2];rfl];simp
   . have q1:zA f=true:=by unfold zA;rw[K.1,K.2.1];rfl
     rw[q1,show qX f.dv 1 1048576=false by unfold qX;rw[K.2.2.2];rfl];simp
   . have q1:zA f=true:=by unfold zA;rw[K.1,K.2.1];rfl
     rw[hw q1]at K;rw[q1,show((Int.ofNat f.eK.length) !=(2*f.r+1)*(2*f.r+1))=true by unfold bne;rw[K.2.2];rfl];rfl
   . have q1:zA f=false:=by unfold zA;rw[K.1,K.2];rfl
     rw[q1];rfl
   . have q1:zA f=false:=by unfold zA;rw[K];rfl
     rw[q1];rfl
 by_cases R:f.k=2\/f.k=3\/f.k=4
 . have e:iH f=(zA f&&((f.dv==(0:Int))&&((f.vl==(0:Int))&&(nN f.eK.length&&nN f.cu.length)))):=by
    unfold iH qW;rw[aB Q,aE R];generalize zA f=a;generalize nN f.eK.length=b;generalize (f.dv==(0:Int))=c;generalize (f.vl==(0:Int))=d;generalize nN f.cu.length=x;cases a<;>cases b<;>cases c<;>cases d<;>cases x<;>rfl
   rw[e];rcases R with h|h|h
   . have hr:=anQ f;rw[<- CD _ h]at hr;exact tO 4 wY hr (dA (g0 ⟨all_nil,_,rfl,ty2 f (qX f.r 0 3)⟩))
   . have hr:=anR f;rw[<- CD _ h]at hr;exact tO 4 wY hr (dA (g0 ⟨all_nil,_,rfl,ty2 f (qX f.r 0 3)⟩))
   . have hr:=anS f;rw[<- CD _ h]at hr;exact tO 4 wY hr (dA (g0 ⟨all_nil,_,rfl,ty2 f (qX f.r 0 3)⟩))
 by_cases h5:f.k=5
 . have e:iH f=(Ln f.cu&&((f.r==(0:Int))&&((f.dv==(0:Int))&&((f.vl==(0:Int))&&nN f.eK.length)))):=by
    unfold iH qW;rw[aB Q,aB R,aE h5,ND];generalize jF f.cu=a;generalize nN f.eK.length=b;generalize (f.dv==(0:Int))=c;generalize (f.vl==(0:Int))=d;generalize (f.r==(0:Int))=x;cases a<;>cases b<;>cases c<;>cases d<;>cases x<;>rfl
   rw[e];have hr:=anT f (Ln f.cu);rw[<- CD _ h5]at hr;exact tO 4 (fj (cvD f.cu I3) wY) hr (dA (g0 ⟨eC rfl,_,rfl,ty5 f _⟩))
 by_cases h6:f.k=6
 . have e:iH f=(true&&((f.r==(0:Int))&&((f.dv==(0:Int))&&((f.vl==(0:Int))&&(nN f.eK.length&&nN f.cu.length))))):=by
    unfold iH qW;rw[aB Q,aB R,aB h5,aE h6];generalize nN f.cu.length=a;generalize nN f.eK.length=b;generalize (f.dv==(0:Int))=c;generalize (f.vl==(0:Int))=d;generalize (f.r==(0:Int))=x;cases a<;>cases b<;>cases c<;>cases d<;>cases x<;>rfl
   rw[e];have hr:=anU f;rw[<- CD _ h6]at hr;exact tO 4 wY hr (dA (g0 ⟨all_nil,_,rfl,ty6 f _⟩))
 by_cases h7:f.k=7
 . have e:iH f=(qX f.vl 0 256&&((f.r==(0:Int))&&((f.dv==(0:Int))&&(nN f.eK.length&&nN f.cu.length)))):=by
    unfold iH qW qX;rw[aB Q,aB R,aB h5,aB h6,aE h7];generalize (decide (f.vl>=0)&&decide (f.vl<=256))=d;generalize nN f.cu.length=a;generalize nN f.eK.length=b;generalize (f.dv==(0:Int))=c;generalize (f.r==(0:Int))=x;cases a<;>cases b<;>cases c<;>cases d<;>cases x<;>rfl
   rw[e];have hr:=anV f;rw[<- CD _ h7]at hr;exact tO 4 wY hr (dA (g0 ⟨all_nil,_,rfl,ty7 f _⟩))
 by_cases h8:f.k=8
 . have e:iH f=((qX f.r (-3) 3&&qX f.vl (-3) 3)&&((f.dv==(0:Int))&&(nN f.eK.length&&nN f.cu.length))):=by
    unfold iH qW qX;rw[aB Q,aB R,aB h5,aB h6,aB h7,aE h8];generalize decide (f.r>= -3)=d;generalize decide (f.r<=3)=d1;generalize decide (f.vl>= -3)=d2;generalize decide (f.vl<=3)=d3;generalize nN f.cu.length=a;generalize nN f.eK.length=b;generalize (f.dv==(0:Int))=c;cases a<;>cases b<;>cases c<;>cases d<;>cases d1<;>cases d2<;>cases d3<;>rfl
   rw[e];have hr:=anW f;rw[<- CD _ h8]at hr;refine tO 4 (dg _) hr ?_
   repeat' (first|exact gB|refine dz ?_ ?_)
   all_goals
    intro K;simp only[aD,aI,bh,aL,bg]at K;refine⟨all_nil,_,rfl,?_⟩
   . rw[show(qX f.r (-3) 3&&qX f.vl (-3) 3)=true by unfold qX;rw[K.1,K.2.1,K.2.2.1,K.2.2.2];rfl];exact ty8 f true
   . rw[show(qX f.r (-3) 3&&qX f.vl (-3) 3)=false by unfold qX;rw[K.1,K.2.1,K.2.2.1,K.2.2.2];rfl];exact ty8 f false
   . rw[show(qX f.r (-3) 3&&qX f.vl (-3) 3)=false by unfold qX;rw[K.1,K.2.1,K.2.2];rfl];exact ty8 f false
   . rw[show(qX f.r (-3) 3&&qX f.vl (-3) 3)=false by unfold qX;rw[K.1,K.2];rfl];exact ty8 f false
   . rw[show(qX f.r (-3) 3&&qX f.vl (-3) 3)=false by unfold qX;rw[K];rfl];exact ty8 f false
 . have e:iH f=false:=by unfold iH;rw[aB Q,aB R,aB h5,aB h6,aB h7,aB h8]
   rw[e];have nb:∀k:Int,f.k≠k->V.bool (f.k==k)=V.bool false:=fun k h=>aH V.bool (bZ.2 h);exact isH 4 (dg _) (an3 f) (dA (g0 ⟨J (nb 1 Q) (J (nb 2 fun q=>R (.inl q)) (J (nb 3 fun q=>R (.inr (.inl q))) (J (nb 4 fun q=>R (.inr (.inr q))) (J (nb 5 h5) (J (nb 6 h6) (J (nb 7 h7) (eC (nb 8 h8)))))))),rfl⟩))
end
noncomputable abbrev adh:Code:=dG Tryz.f174
noncomputable abbrev adi:Code:=dG Tryz.f156
noncomputable abbrev X9:Code:=dm 1 adi
noncomputable abbrev an7:Code:=dG Tryz.f155
abbrev ZH(r g b a:Int):V:=.agg [.int .u8 r,.int .u8 g,.int .u8 b,.int .u8 a]
theorem adk(r g b a:Int):dn (U dY []) [(5,.split)] 0 Tryz.f174 [] (adh) (dw [ZH r g b a] .nil 0) [([((a==(0:Int)),true)],
   [],
   .ret (.agg [.int .u8 0,.int .u8 0,.int .u8 0,.int .u8 0]) (W []) 0),
  ([((a==(0:Int)),false)],
   [],
   .ret (.agg [.int .u8 r,.int .u8 g,.int .u8 b,.int .u8 a]) (W []) 0)]
 :=dh.of C C C
def Kh:ag->Option (ah×V)
 | [.agg [.int .u8 r,.int .u8 g,.int .u8 b,.int .u8 a]]=>some ([],ZH (cl a r) (cl a g) (cl a b) (cl a a))
 |_=>none
noncomputable abbrev Wpc:gy:=lC 174 (gS Kh) dY
theorem Ya:kE ak 174 (gS Kh):=by
 refine og Tryz.func174 fun args s' v e=>?_;unfold Kh at e;split at e
 case h_2=>cases e
 rename_i r g b a;obtain⟨rfl,rfl⟩:=sm e;refine⟨rfl,rfl,rfl,fun _=>eI (dg _) (adk r g b a) (dz (g1 fun h=>⟨all_nil,_,_,_,rfl,?_⟩) (dA (g1 fun h=>⟨all_nil,_,_,_,rfl,?_⟩)))⟩
 . have h:a=0:=by simpa using h
   simp only[ZH,cl,aE h]
 . have h:¬a=0:=by simpa using h
   simp only[ZH,cl,aB h]
theorem FV:eR ak Wpc:=fQ Ya (dg _)
section
variable(p:Nat->Int)(ks:List Int)(q:Nat->Int)
def sTc(i:Nat):St:=ff [(1,.ptr (some (0,0))),(2,.ptr (some (1,0))),(5,iU p),(6,M i)] (W [(0,.own .u8 ks),(1,.own .u8 (List.replicate 256 0))]) 2
theorem an8:dn (U Wpc []) [] 0 Tryz.f156 [1,2] (dN 1 adi) (dw [iU p] .nil 0) [([],
   [],
   .to .normal (ff [(1,.ptr (some (0,0))),(2,.ptr (some (1,0)))] (W [(0,.cells (D.fN (CW p))),(1,.cells (List.replicate 256 (.int .u8 0)))]) 2))]
 :=dh.of C C C
theorem an9(ks:List Int):dn (U Wpc []) [] 0 Tryz.f156 [1,2,5,6] (dB (dB X9)) (ff [(1,.ptr (some (0,0))),(2,.ptr (some (1,0)))] (W [(0,.cells (D.fN (CW p))),(1,.cells (List.replicate 256 (.int .u8 0)))]) 2) [([],[],.to .normal (ff [(1,.ptr (some (0,0))),(2,.ptr (some (1,0))),(5,iU p),(6,L 0)] (W [(0,.cells (D.fN (CW p))),(1,.cells (List.replicate 256 (.int .u8 0)))]) 2))]:=dh.of C C C
theorem aoa(i:Nat)(r g b a:Int):dn (U Wpc []) [(7,.split),(9,.dy (ZH r g b a)),(14,.dy (M (i+1)))] 0 Tryz.f156 [1,2,5,6] (dD (dD (dP (dB X9)))) (sTc p ks i)
  [([(decide (Int.ofNat i<64),true)],[(0:Int)<=Int.ofNat i/\Int.ofNat i<64,i*4+4<=(D.fN (CW p)).length,V.agg (List.take 4 (List.drop (i*4) (D.fN (CW p))))=ZH r g b a,(0:Int)<=Int.ofNat i/\Int.ofNat i<64,0+i*4+4<=ks.length,V.int .i64 (IntKind.i64.wrap (Int.ofNat i+1))=M (i+1)],
   .to .normal (sTc p (AA ks (0+i*4) [cl a r,cl a g,cl a b,cl a a]) (i+1))),
   ([(decide (Int.ofNat i<64),false)],[],.to (.exit 0) (sTc p ks i))]:=dh.of C C C
theorem aob:dn (U Wpc []) [] 0 Tryz.f156 [] (dP X9) (sTc p ks 64) [([],[256<=ks.length,256<=256],.ret (lW .u8 ks 0 256) (W []) 0)]:=dh.of C C C
def Ix:Bool:=(List.range 64).all fun i=>(p (i*4)==q (i*4))&&((p (i*4+1)==q (i*4+1))&&((p (i*4+2)==q (i*4+2))&&((p (i*4+3)==q (i*4+3))&&true)))
theorem aoc:dn (U (eZ 156 [iU p] (iU q) dY) []) [] 0 Tryz.f155 [] an7 (dw [iU p] .nil 0) [([],[eY [iU p]],.ret (.bool (Ix q fun _=>0)) (W []) 0)]:=dh.of C C C
theorem QA:D.fN (CW p)=(List.range 256).map fun j=>V.int .u8 (p j):=by
 unfold CW;rw[D.ga,List.map_map];rfl
theorem Yb{i:Nat}(h:i<64):List.take 4 (List.drop (i*4) (D.fN (CW p)))=[.int .u8 (p (4*i)),.int .u8 (p (4*i+1)),.int .u8 (p (4*i+2)),.int .u8 (p (4*i+3))]:=by
 rw[QA];refine List.ext_getElem? fun j=>?_;rw[bN];by_cases c:j<4
 . rw[aE c,bO,bE,cV G,Nat.mul_comm i 4];rcases(by omega:j=0\/j=1\/j=2\/j=3)with rfl|rfl|rfl|rfl<;>rfl
 . rw[aB c,cK (by simp only[aR,bU];omega)]
theorem TE:(D.fN (CW p)).length=256:=by rw[QA];simp
theorem tcD:dS ak 156 [iU p] (iU (iw p)):=by
 refine eV Tryz.func156 ?_;refine fu 1 FV (an8 p) all_nil ?_;refine pZ FV 0 _ [1,2,5,6] (64-·) (. <=64) (fun i=>sTc p (tl fun j=>if j<4*i then iw p j else p j) i) 0 fa (an9 p []) all_nil (by
  rw[Cu (q:=p) fun j _=>aB G];exact .own [(0,.u8),(1,.u8)] C) fun i hi=>?_
 refine⟨_,FV,[],_,_,aoa p _ i (p (4*i)) (p (4*i+1)) (p (4*i+2)) (p (4*i+3)),dz (g1 fun Q=>?_) (dA (g1 fun h=>?_))⟩
 . have eM:=d64 Q;refine⟨J (b64 eM) (J (by rw[TE];omega) (J (aH V.agg (Yb p eM)) (J (b64 eM) (J (by rw[oA];omega) (eC (gJ G)))))),i+1,wJ eM,by show i+1<=64;omega,?_⟩;rw[Jv (k:=fun j=>if j<4*(i+1)then iw p j else p j) eM]
   . exact .refl
   all_goals first
    |(rw[aE G];unfold iw;congr 2;omega)
    |skip
   intro j _ hj;by_cases c:j<4*i
   . rw[aE c,aE G]
   . rw[aB c,aB G]
 . have:=n64 h;obtain rfl:i=64:=by omega
   refine⟨all_nil,rfl,eI FV (aob p _) (dA (g0 ⟨J (by rw[oA];exact aK _) (eC (aK _)),_,_,_,rfl,?_⟩))⟩;rw[x4];exact zu fun j hj=>aE G
theorem tzD:dS ak 155 [iU p] (.bool (Ix (iw p) fun _=>0)):=by
 refine eV Tryz.func155 ?_;exact eI (fj (tcD p) (dg _)) (aoc p (iw p)) (dA (g0 ⟨eC rfl,_,_,_,rfl,rfl⟩))
end
set_option maxRecDepth 100000
noncomputable abbrev adn:Code:=dG Tryz.f175
section
variable(a x b y:Int)
noncomputable abbrev aod:Code:=dG Tryz.f157
noncomputable abbrev aoe:Code:=dG Tryz.f176
theorem aof:dn (U dY []) [(11,.dy (.bool false)),(13,.dy (.bool false)),(16,.split),(19,.split)] 0 Tryz.f176 [] aoe (dw [L x,L y] .nil 0)
  [([(decide (x<y),true)],[V.bool (x !=x)=V.bool false,V.bool (y !=y)=V.bool false],.ret (.int .i64 (-1)) (W []) 0),
   ([(decide (x<y),false),(decide (x>y),true)],[V.bool (x !=x)=V.bool false,V.bool (y !=y)=V.bool false],.ret (.int .i64 1) (W []) 0),
   ([(decide (x<y),false),(decide (x>y),false)],[V.bool (x !=x)=V.bool false,V.bool (y !=y)=V.bool false],.ret (.int .i64 0) (W []) 0)]:=dh.of C C C
def oB:Int:=if x<y then -1 else if y<x then 1 else 0
def Ki:ag->Option (ah×V)
 | [.int .i64 x,.int .i64 y]=>some ([],.int .i64 (oB x y))
 |_=>none
theorem Eo:V.bool (x !=x)=V.bool false:=aH V.bool (by simp)
theorem Yc:kE ak 176 (gS Ki):=by
 refine og Tryz.func176 fun args s' v e=>?_;unfold Ki at e;split at e
 case h_2=>cases e
 rename_i x y;obtain⟨rfl,rfl⟩:=sm e;refine⟨rfl,rfl,rfl,fun _=>eI (dg _) (aof x y) (dz (g1 fun h=>⟨J (Eo x) (eC (Eo y)),_,_,_,rfl,?_⟩) (dz (g2 fun h R=>⟨J (Eo x) (eC (Eo y)),_,_,_,rfl,?_⟩) (dA (g2 fun h R=>⟨J (Eo x) (eC (Eo y)),_,_,_,rfl,?_⟩))))⟩
 . have h:=aW h;unfold oB;rw[aE h]
 . have h:=bx h;have R:=aW R;unfold oB;rw[aB h,aE R]
 . have h:=bx h;have R:=bx R;unfold oB;rw[aB h,aB R]
noncomputable abbrev QB:Code:=dm 2 adn
def sOr(i:Int):St:=ff [(3,L 0),(6,.eo false 2 [.int .i64 a,.int .i64 b]),(7,L 2),(8,L i)] .nil 0
theorem aog:dn (U dY []) [] 0 Tryz.f175 [0,3] (dN 2 adn) (dw [.eo false 2 [.int .i64 a,.int .i64 b]] .nil 0) [([],
   [],
   .to .normal (ff [(0,.eo false 2 [.int .i64 a,.int .i64 b]),(3,.int .i64 0)] (W []) 0))]
 :=dh.of C C C
theorem aoh:dn (U dY []) [] 0 Tryz.f175 [3,6,7,8] (dB (dB QB)) (ff [(0,.eo false 2 [.int .i64 a,.int .i64 b]),(3,L 0)] .nil 0) [([],
   [],
   .to .normal (ff [(3,.int .i64 0),(6,.eo false 2 [.int .i64 a,.int .i64 b]),(7,.int .i64 2),(8,.int .i64 0)] (W []) 0))]
 :=dh.of C C C
theorem aoi:dn (U dY []) [(14,.split)] 0 Tryz.f175 [3,6,7,8] (dD (dD (dP (dB QB)))) (sOr a b 0) [([((a !=(0:Int)),true)],
   [((0:Int)<=(0:Int)/\(0:Int)<(2:Int)),([D.int B a,D.int B b].length=2)],
   .ret (.int .i64 a) (W []) 0),
  ([((a !=(0:Int)),false)],
   [((0:Int)<=(0:Int)/\(0:Int)<(2:Int)),([D.int B a,D.int B b].length=2)],
   .to .normal (ff [(3,.int .i64 0),(6,.eo false 2 [.int .i64 a,.int .i64 b]),(7,.int .i64 2),(8,.int .i64 1)] (W []) 0))]
 :=dh.of C C C
theorem aoj:dn (U dY []) [(14,.split)] 0 Tryz.f175 [3,6,7,8] (dD (dD (dP (dB QB)))) (sOr a b 1) [([((b !=(0:Int)),true)],
   [((0:Int)<=(1:Int)/\(1:Int)<(2:Int)),([D.int B a,D.int B b].length=2)],
   .ret (.int .i64 b) (W []) 0),
  ([((b !=(0:Int)),false)],
   [((0:Int)<=(1:Int)/\(1:Int)<(2:Int)),([D.int B a,D.int B b].length=2)],
   .to .normal (ff [(3,.int .i64 0),(6,.eo false 2 [.int .i64 a,.int .i64 b]),(7,.int .i64 2),(8,.int .i64 2)] (W []) 0))]
 :=dh.of C C C
theorem aok:dn (U dY []) [] 0 Tryz.f175 [3,6,7,8] (dD (dD (dP (dB QB)))) (sOr a b 2) [([],
   [],
   .to (.exit 0) (ff [(3,.int .i64 0),(6,.eo false 2 [.int .i64 a,.int .i64 b]),(7,.int .i64 2),(8,.int .i64 2)] (W []) 0))]
 :=dh.of C C C
theorem aol:dn (U dY []) [] 0 Tryz.f175 [] (dP QB) (sOr a b 2) [([],
   [],
   .ret (.int .i64 0) (W []) 0)]
 :=dh.of C C C
def Gd:Int:=if a≠0 then a else b
theorem orD:dS ak 175 [.eo false 2 [.int .i64 a,.int .i64 b]] (L (Gd a b)):=by
 refine eV Tryz.func175 ?_;refine fu 2 (dg _) (aog a b) all_nil ?_;refine pZ (dg _) 0 _ [3,6,7,8] (2-·) (fun i:Nat=>i<=2/\(1<=i->a=0)/\(2<=i->b=0)) (fun i=>sOr a b (Int.ofNat i)) 0 ⟨aS _,fun h=>absurd h fa,fun h=>absurd h fa⟩ (aoh a b) all_nil .refl fun i ⟨hi,Q,R⟩=>?_;have A0:∀p∈[((0:Int)<=(0:Int)/\(0:Int)<(2:Int)),([D.int B a,D.int B b].length=2)],p:=J fa (eC rfl);have A1:∀p∈[((0:Int)<=(1:Int)/\(1:Int)<(2:Int)),([D.int B a,D.int B b].length=2)],p:=J fa (eC rfl);rcases(by omega:i=0\/i=1\/i=2)with rfl|rfl|rfl
 . refine⟨_,dg _,_,_,_,aoi a b,dz (g1 fun h=>⟨A0,?_⟩) (dA (g1 fun h=>⟨A0,1,fa,⟨fa,fun _=>?_,fun h=>absurd h fa⟩,.refl⟩))⟩
   . show L a=L (Gd a b);unfold Gd;rw[aE (by simpa using h)]
   . simpa using h
 . refine⟨_,dg _,_,_,_,aoj a b,dz (g1 fun h=>⟨A1,?_⟩) (dA (g1 fun h=>⟨A1,2,fa,⟨fa,fun _=>Q fa,fun _=>?_⟩,.refl⟩))⟩
   . show L b=L (Gd a b);unfold Gd;rw[aB (by simpa using Q fa)]
   . simpa using h
 . refine⟨_,dg _,_,_,_,aok a b,dA (g0 ⟨all_nil,rfl,eI (dg _) (aol a b) (dA (g0 ⟨all_nil,_,_,_,rfl,?_⟩))⟩)⟩;show L 0=L (Gd a b);unfold Gd;rw[aB (by simpa using Q fa),R fa]
def Kj:ai->Option (ah×V)
 | [.eo 2 [.int .i64 a,.int .i64 b]]=>some ([],.int .i64 (Gd a b))
 |_=>none
theorem Yd:kE ak 175 (vP Kj):=by
 refine x8 C fun ds s' v e hA=>?_;unfold Kj at e;split at e
 case h_2=>cases e
 obtain⟨rfl,rfl⟩:=sm e;exact orD _ _
noncomputable abbrev Wod:gy:=lC 175 (vP Kj) (lC 176 (gS Ki) dY)
theorem Ye:eR ak Wod:=fQ Yd (fQ Yc (dg _))
theorem aom(z w:Int):dn (U Wod []) [] 0 Tryz.f157 [] (aod) (dw [.agg [L x,L y],.agg [L z,L w]] .nil 0) [([],
   [([D.int B (oB y w),D.int B (oB x z)].length=2)],
   .ret (.int .i64 (Gd (oB y w) (oB x z))) (W []) 0)]
 :=dh.of C C C
end
set_option maxRecDepth 100000
noncomputable abbrev aon:Code:=dG Tryz.f154
noncomputable abbrev Yf:Code:=dG Tryz.f126
noncomputable abbrev FW:Code:=dm 2 Yf
section
variable(n:Nat)
theorem aoo(x y:Int):dn (U dY []) [(5,.split),(9,.split),(14,.split)] 0 Tryz.f154 [] (aon) (dw [.agg [L x,L y]] .nil 0) [([((decide (x>=(-8192:Int))),true),((decide (x<=(8191:Int))),true),((decide (y>=(-8192:Int))),true)],
   [],
   .ret (.bool (decide (y<=(8191:Int)))) (W []) 0),
  ([((decide (x>=(-8192:Int))),true),((decide (x<=(8191:Int))),true),((decide (y>=(-8192:Int))),false)],
   [],
   .ret (.bool false) (W []) 0),
  ([((decide (x>=(-8192:Int))),true),((decide (x<=(8191:Int))),false)],
   [],
   .ret (.bool false) (W []) 0),
  ([((decide (x>=(-8192:Int))),false)],
   [],
   .ret (.bool false) (W []) 0)]
 :=dh.of C C C
theorem Yg:kE ak 154 (gS zq):=by
 refine og Tryz.func154 fun args s' v e=>?_;unfold zq at e;split at e
 case h_2=>cases e
 rename_i x y;obtain⟨rfl,rfl⟩:=sm e;refine⟨rfl,rfl,rfl,fun _=>eI (dg _) (aoo x y) (dz (g3 fun h R h3=>⟨all_nil,_,_,_,rfl,?_⟩) (dz (g3 fun h R h3=>⟨all_nil,_,_,_,rfl,?_⟩) (dz (g2 fun h R=>⟨all_nil,_,_,_,rfl,?_⟩) (dA (g1 fun h=>⟨all_nil,_,_,_,rfl,?_⟩)))))⟩<;>simp only[Ao, *,aN,aP]
theorem aop(T:ai):dn (U dY []) [(8,.dy (.bool false))] 0 Tryz.f126 [1] (dN 2 Yf) (dw [.agg [.eo false n T]] .nil 0) [([],
   [(V.bool (decide ((Int.ofNat n)>(1024:Int)))=V.bool false)],
   .to .normal (ff [(1,.ptr (some (0,0)))] (W [(0,.cells [.eo false n T])]) 1))]
 :=dh.of C C C
theorem aoq(T:ai):dn (U dY []) [(8,.dy (.bool true))] 0 Tryz.f126 [] (Yf) (dw [.agg [.eo false n T]] .nil 0) [([],
   [(V.bool (decide ((Int.ofNat n)>(1024:Int)))=V.bool true)],
   .ret (.bool false) (W []) 0)]
 :=dh.of C C C
def Kk:ag->Option (ah×V)
 | [.agg [.int .i64 x,.int .i64 y],.agg [.int .i64 z,.int .i64 w]]=>some ([],.int .i64 (Gd (oB y w) (oB x z)))
 |_=>none
theorem Yh:kE ak 157 (gS Kk):=by
 refine og Tryz.func157 fun args s' v e=>?_;unfold Kk at e;split at e
 case h_2=>cases e
 rename_i x y z w;obtain⟨rfl,rfl⟩:=sm e;exact⟨rfl,rfl,rfl,fun _=>eI Ye (aom x y z w) (dA (g0 ⟨eC rfl,_,_,_,rfl,rfl⟩))⟩
noncomputable abbrev Yi:gy:=lC 157 (gS Kk) (lC 154 (gS zq) dY)
theorem Kl:eR ak Yi:=fQ Yh (fQ Yg (dg _))
def zM(T:ai)(i:Nat):St:=ff [(1,.ptr (some (0,0))),(10,.eo false n T),(11,M n),(12,M i)] (W [(0,.cells [.eo false n T])]) 1
theorem aor(T:ai):dn (U dY []) [] 0 Tryz.f126 [1,10,11,12] (dB (dB FW)) (ff [(1,.ptr (some (0,0)))] (W [(0,.cells [.eo false n T])]) 1) [([],
   [],
   .to .normal (zM n T 0))]
 :=dh.of C C C
theorem aos(T:ai)(i:Nat)(t:Tl):dn (U Yi []) [(13,.dy (.bool true)),(15,.dy (.dr t.d)),(21,.dy (.bool true))] 0 Tryz.f126 [1,10,11,12] (dD (dD (dP (dB FW)))) (zM n T i) [([],[V.bool (decide (Int.ofNat i<Int.ofNat n))=V.bool true,(0:Int)<=Int.ofNat i/\Int.ofNat i<Int.ofNat n,T.length=n*258,V.dr (dj T (i*258) 258)=V.dr t.d,V.bool (!Ao t.x t.y)=V.bool true],.ret (.bool false) (W []) 0)]:=dh.of C C C
theorem aot(T:ai)(i:Nat)(t:Tl)(z:Bool):dn (U (eZ 155 [iU t.p] (.bool z) Yi) []) [(13,.dy (.bool true)),(15,.dy (.dr t.d)),(21,.dy (.bool false)),(26,.dy (.bool true))] 0 Tryz.f126 [1,10,11,12] (dD (dD (dP (dB FW)))) (zM n T i) [([],[V.bool (decide (Int.ofNat i<Int.ofNat n))=V.bool true,(0:Int)<=Int.ofNat i/\Int.ofNat i<Int.ofNat n,T.length=n*258,V.dr (dj T (i*258) 258)=V.dr t.d,V.bool (!Ao t.x t.y)=V.bool false,eY [iU t.p],V.bool (z)=V.bool true],.ret (.bool false) (W []) 0)]:=dh.of C C C
theorem aou(T:ai)(i:Nat)(t:Tl)(z:Bool)(q:Nat->Int):dn (U (eZ 155 [iU t.p] (.bool z) (eZ 156 [iU t.p] (iU q) Yi)) []) [(13,.dy (.bool true)),(15,.dy (.dr t.d)),(21,.dy (.bool false)),(26,.dy (.bool false)),(34,.dy (.bool true))] 0 Tryz.f126 [1,10,11,12] (dD (dD (dP (dB FW)))) (zM n T i) [([],[V.bool (decide (Int.ofNat i<Int.ofNat n))=V.bool true,(0:Int)<=Int.ofNat i/\Int.ofNat i<Int.ofNat n,T.length=n*258,V.dr (dj T (i*258) 258)=V.dr t.d,V.bool (!Ao t.x t.y)=V.bool false,eY [iU t.p],V.bool (z)=V.bool false,eY [iU t.p],V.bool (!Ix q t.p)=V.bool true],.ret (.bool false) (W []) 0)]:=dh.of C C C
theorem aov(T:ai)(j:Nat)(t u:Tl)(z:Bool)(q:Nat->Int):dn (U (eZ 155 [iU t.p] (.bool z) (eZ 156 [iU t.p] (iU q) Yi)) []) [(13,.dy (.bool true)),(15,.dy (.dr t.d)),(21,.dy (.bool false)),(26,.dy (.bool false)),(34,.dy (.bool false)),(37,.dy (.bool true)),(41,.dy (M j)),(42,.dy (.dr u.d)),(50,.dy (.bool true))] 0 Tryz.f126 [1,10,11,12] (dD (dD (dP (dB FW)))) (zM n T (j+1)) [([],[V.bool (decide (Int.ofNat (j+1)<Int.ofNat n))=V.bool true,(0:Int)<=Int.ofNat (j+1)/\Int.ofNat (j+1)<Int.ofNat n,T.length=n*258,V.dr (dj T ((j+1)*258) 258)=V.dr t.d,V.bool (!Ao t.x t.y)=V.bool false,eY [iU t.p],V.bool (z)=V.bool false,eY [iU t.p],V.bool (!Ix q t.p)=V.bool false,V.bool (decide (Int.ofNat (j+1)>(0:Int)))=V.bool true,V.int .i64 (IntKind.i64.wrap (Int.ofNat (j+1)-(1:Int)))=M j,(0:Int)<=Int.ofNat j/\Int.ofNat j<Int.ofNat n,T.length=n*258,V.dr (dj T (j*258) 258)=V.dr u.d,V.bool (decide (Gd (oB u.y t.y) (oB u.x t.x)>=(0:Int)))=V.bool true],.ret (.bool false) (W []) 0)]:=dh.of C C C
theorem aow(T:ai)(j:Nat)(t u:Tl)(z:Bool)(q:Nat->Int):dn (U (eZ 155 [iU t.p] (.bool z) (eZ 156 [iU t.p] (iU q) Yi)) []) [(13,.dy (.bool true)),(15,.dy (.dr t.d)),(21,.dy (.bool false)),(26,.dy (.bool false)),(34,.dy (.bool false)),(37,.dy (.bool true)),(41,.dy (M j)),(42,.dy (.dr u.d)),(50,.dy (.bool false)),(51,.dy (M (j+2)))] 0 Tryz.f126 [1,10,11,12] (dD (dD (dP (dB FW)))) (zM n T (j+1)) [([],[V.bool (decide (Int.ofNat (j+1)<Int.ofNat n))=V.bool true,(0:Int)<=Int.ofNat (j+1)/\Int.ofNat (j+1)<Int.ofNat n,T.length=n*258,V.dr (dj T ((j+1)*258) 258)=V.dr t.d,V.bool (!Ao t.x t.y)=V.bool false,eY [iU t.p],V.bool (z)=V.bool false,eY [iU t.p],V.bool (!Ix q t.p)=V.bool false,V.bool (decide (Int.ofNat (j+1)>(0:Int)))=V.bool true,V.int .i64 (IntKind.i64.wrap (Int.ofNat (j+1)-(1:Int)))=M j,(0:Int)<=Int.ofNat j/\Int.ofNat j<Int.ofNat n,T.length=n*258,V.dr (dj T (j*258) 258)=V.dr u.d,V.bool (decide (Gd (oB u.y t.y) (oB u.x t.x)>=(0:Int)))=V.bool false,V.int .i64 (IntKind.i64.wrap (Int.ofNat (j+1)+(1:Int)))=M (j+2)],.to .normal (zM n T (j+2)))]:=dh.of C C C
theorem aox(T:ai)(i:Nat)(t:Tl)(z:Bool)(q:Nat->Int):dn (U (eZ 155 [iU t.p] (.bool z) (eZ 156 [iU t.p] (iU q) Yi)) []) [(13,.dy (.bool true)),(15,.dy (.dr t.d)),(21,.dy (.bool false)),(26,.dy (.bool false)),(34,.dy (.bool false)),(37,.dy (.bool false)),(51,.dy (M (i+1)))] 0 Tryz.f126 [1,10,11,12] (dD (dD (dP (dB FW)))) (zM n T i) [([],[V.bool (decide (Int.ofNat i<Int.ofNat n))=V.bool true,(0:Int)<=Int.ofNat i/\Int.ofNat i<Int.ofNat n,T.length=n*258,V.dr (dj T (i*258) 258)=V.dr t.d,V.bool (!Ao t.x t.y)=V.bool false,eY [iU t.p],V.bool (z)=V.bool false,eY [iU t.p],V.bool (!Ix q t.p)=V.bool false,V.bool (decide (Int.ofNat i>(0:Int)))=V.bool false,V.int .i64 (IntKind.i64.wrap (Int.ofNat i+(1:Int)))=M (i+1)],.to .normal (zM n T (i+1)))]:=dh.of C C C
theorem aoy(T:ai)(i:Nat):dn (U dY []) [(13,.dy (.bool false))] 0 Tryz.f126 [1,10,11,12] (dD (dD (dP (dB FW)))) (zM n T i) [([],
   [(V.bool (decide (Int.ofNat i<Int.ofNat n))=V.bool false)],
   .to (.exit 0) (zM n T i))]
 :=dh.of C C C
theorem aoz(T:ai)(i:Nat):dn (U dY []) [] 0 Tryz.f126 [] (dP FW) (zM n T i) [([],
   [],
   .ret (.bool true) (W []) 0)]
 :=dh.of C C C
end
set_option maxRecDepth 100000
def kx(u:Option Tl)(t:Tl):Bool:=Ao t.x t.y&&(!(Ix (iw t.p) fun _=>0)&&(Ix (iw t.p) t.p&&(match u with|none=>true|some u=>decide (Gd (oB u.y t.y) (oB u.x t.x)<0))))
def kA:Option Tl->List Tl->Bool
 |_,[]=>true
 |u,t::l=>kx u t&&kA (some t) l
def Yj(l:List Tl):Bool:=decide (l.length<=1024)&&kA none l
def Yk(l:List Tl):Nat->Option Tl
 |0=>none
 |i+1=>l[i]?
theorem bT{p:Prop}[Decidable p](h:p):V.bool (decide p)=V.bool true:=aH V.bool (aY h)
theorem bF{p:Prop}[Decidable p](h:¬p):V.bool (decide p)=V.bool false:=aH V.bool (aU h)
theorem rvD(l:List Tl)(hl:l.length<=1000000):dS ak 126 [oh l] (.bool (Yj l)):=by
 refine eV Tryz.func126 ?_;by_cases hb:l.length<=1024
 case neg=>
  have e:Yj l=false:=by unfold Yj;rw[aU hb];rfl
  rw[e];exact eI (dg _) (aoq _ _) (dA (g0 ⟨eC (bT (by simp only[gT];omega)),_,_,_,rfl,rfl⟩))
 have e0:Yj l=kA none l:=by unfold Yj;rw[aY hb,aN]
 rw[e0];refine fu 2 (dg _) (aop l.length (jv l)) (eC (bF (by simp only[gT];omega))) ?_;refine pZ (dg _) 0 _ [1,10,11,12] (l.length-·) (fun i=>i<=l.length/\kA none l=kA (Yk l i) (l.drop i)) (fun i=>zM l.length (jv l) i) 0 ⟨aS _,rfl⟩ (aor _ _) all_nil .refl fun i ⟨hi,hv⟩=>?_;by_cases eM:i<l.length
 case neg=>
  obtain rfl:i=l.length:=by omega
  refine⟨_,dg _,_,_,_,aoy _ _ _,dA (g0 ⟨eC (bF (by simp only[gT];omega)),rfl,eI (dg _) (aoz _ _ _) (dA (g0 ⟨all_nil,_,_,_,rfl,?_⟩))⟩)⟩;rw[hv,List.drop_length];rfl
 have hd:l.drop i=l[i]::l.drop (i+1):=bY eM;have mR:=zv eM;have jO:=kp l;have hn:l[i]? =some l[i]:=au eM;generalize l[i]=t at hd mR hn;rw[hd]at hv;have hv:kA none l=(kx (Yk l i) t&&kA (some t) (l.drop (i+1))):=hv;have hT:V.bool (decide (Int.ofNat i<Int.ofNat l.length))=V.bool true:=bT (by simp only[gT];omega);have bad:kx (Yk l i) t=false->V.bool false=V.bool (kA none l):=fun h=>by rw[hv,h];rfl
 cases Q:Ao t.x t.y with
 |false=>exact⟨_,Kl,_,_,_,aos _ _ i t,dA (g0 ⟨J hT (J (iM eM) (J jO (J mR (eC (by rw[Q];rfl))))),bad (by unfold kx;rw[Q];rfl)⟩)⟩
 |true=>
 cases R:Ix (iw t.p) (fun _=>0)with
 |true=>exact⟨_,fj (tzD t.p) Kl,_,_,_,aot _ _ i t _,dA (g0 ⟨J hT (J (iM eM) (J jO (J mR (J (by rw[Q];rfl) (J rfl (eC (aH V.bool R))))))),bad (by unfold kx;rw[Q,R];rfl)⟩)⟩
 |false=>
 have es:=fj (tzD t.p) (fj (tcD t.p) Kl);cases h3:Ix (iw t.p) t.p with
 |false=>exact⟨_,es,_,_,_,aou _ _ i t _ _,dA (g0 ⟨J hT (J (iM eM) (J jO (J mR (J (by rw[Q];rfl) (J rfl (J (aH V.bool R) (J rfl (eC (by rw[h3];rfl))))))))),bad (by unfold kx;rw[Q,R,h3];rfl)⟩)⟩
 |true=>
 cases i with
 |zero=>
  refine⟨_,es,_,_,_,aox _ _ 0 t _ _,dA (g0 ⟨?_,1,wJ eM,⟨eM,?_⟩,.refl⟩)⟩
  . repeat' (first|exact all_nil|refine J ?_ ?_)
    all_goals first
     |exact hT
     |exact iM eM
     |exact jO
     |exact mR
     |rfl
     |exact aH V.bool R
     |(rw[Q];rfl)
     |(rw[h3];rfl)
     |exact bF fa
     |exact gJ G
  rw[hv];have:kx (Yk l 0) t=true:=by unfold kx Yk;rw[Q,R,h3];rfl
  rw[this,aN];show _=kA l[0]? _;rw[hn]
 |succ j=>
  have hj:j<l.length:=by omega
  have Yl:=zv hj;have o4:l[j]? =some l[j]:=au hj;generalize l[j]=u at Yl o4;have hpv:Yk l (j+1)=some u:=o4;rw[hpv]at hv bad;have s':∀(o:Bool),V.bool (decide (Gd (oB u.y t.y) (oB u.x t.x)>=(0:Int)))=V.bool o->∀p∈[V.bool (decide (Int.ofNat (j+1)<Int.ofNat l.length))=V.bool true,(0:Int)<=Int.ofNat (j+1)/\Int.ofNat (j+1)<Int.ofNat l.length,(jv l).length=l.length*258,V.dr (dj (jv l) ((j+1)*258) 258)=V.dr t.d,V.bool (!Ao t.x t.y)=V.bool false,eY [iU t.p],V.bool (Ix (iw t.p) fun _=>0)=V.bool false,eY [iU t.p],V.bool (!Ix (iw t.p) t.p)=V.bool false,V.bool (decide (Int.ofNat (j+1)>(0:Int)))=V.bool true,V.int .i64 (IntKind.i64.wrap (Int.ofNat (j+1)-(1:Int)))=M j,(0:Int)<=Int.ofNat j/\Int.ofNat j<Int.ofNat l.length,(jv l).length=l.length*258,V.dr (dj (jv l) (j*258) 258)=V.dr u.d,V.bool (decide (Gd (oB u.y t.y) (oB u.x t.x)>=(0:Int)))=V.bool o],p:=fun o ho=>
   J hT (J (iM eM) (J jO (J mR (J (by rw[Q];rfl) (J rfl (J (aH V.bool R) (J rfl (J (by rw[h3];rfl) (J (bT (by simp only[gT];omega)) (J (wH (by simp only[gT];omega) G) (J (iM hj) (J jO (J Yl (eC ho))))))))))))))
  by_cases ho:Gd (oB u.y t.y) (oB u.x t.x)>=0
  . exact⟨_,es,_,_,_,aov _ _ j t u _ _,dA (g0 ⟨s' true (bT ho),bad (by unfold kx;rw[Q,R,h3];simp only[aN,Bool.not_false];exact aU G)⟩)⟩
  . refine⟨_,es,_,_,_,aow _ _ j t u _ _,dA (g0 ⟨?_,j+2,by show l.length-(j+2)<l.length-(j+1);omega,⟨eM,?_⟩,.refl⟩)⟩
    . clear s'
      repeat' (first|exact all_nil|refine J ?_ ?_)
      all_goals first
       |exact hT
       |exact iM eM
       |exact jO
       |exact mR
       |rfl
       |exact aH V.bool R
       |(rw[Q];rfl)
       |(rw[h3];rfl)
       |exact bT (by simp only[gT];omega)
       |exact wH (by simp only[gT];omega) G
       |exact iM hj
       |exact Yl
       |exact bF ho
       |exact gJ G
    . rw[hv];have:kx (some u) t=true:=by unfold kx;rw[Q,R,h3];simp only[aN,Bool.not_false];exact aY G
      rw[this,aN];show _=kA l[j+1]? _;rw[hn]
set_option maxRecDepth 10000
theorem QC{l:List Int}:Aw l=true↔∀j,j+1<l.length->l.getD j 0<=l.getD (j+1) 0:=by
 unfold Aw;rw[bP,cR];constructor
 . intro h j hj;have:=h j (bH.2 G);unfold U1 at this;rw[aX]at this;omega
 . intro h j hj;have:=h j (by have:=bH.1 hj;omega);unfold U1;rw[aX];omega
theorem Ih{c:List Int}{i:Nat}:Mw c i=false↔(0<=c.getD i 0/\c.getD i 0<=65535)/\∀j,i=j+1->c.getD j 0<=c.getD (j+1) 0:=by
 unfold Mw;cases i with
 |zero=>
  simp only[cI,bt,and_true];exact⟨fun h=>⟨G,fun j e=>by omega⟩,fun h=>by omega⟩
 |succ j=>
  simp only[cI,bt];refine⟨fun h=>⟨G,fun k e=>?_⟩,fun h=>⟨G,?_⟩⟩
  . obtain rfl:k=j:=by omega
    omega
  . have:=h.2 j rfl;omega
theorem Ep(l:List Int):Ln l=jF l:=by
 rw[Bool.eq_iff_iff];unfold Ln jF Tp;simp only[ay,bP,cR,aX,QC];constructor
 . rintro⟨⟨Q,R⟩,h3,h4,h5⟩;refine⟨⟨Q,R⟩,fun i hi=>?_⟩;have hi:=bH.1 hi;have up:∀k,∀i,i+k<l.length->l.getD i 0<=l.getD (i+k) 0:=fun k=>by
    induction k with
    |zero=>intro i _;exact Int.le_refl _
    |succ k ih=>intro i hi;exact Int.le_trans (ih i G) (h5 (i+k) G)
   have a1:=up i 0 G;have a2:=up (l.length-1-i) i G;rw[b5]at a1;rw[show i+(l.length-1-i)=l.length-1 by omega]at a2;rw[Bool.not_eq_true,Ih];exact⟨G,fun j e=>h5 j G⟩
 . rintro⟨⟨Q,R⟩,h3⟩;have hb:=fun i (hi:i<l.length)=>Ih.1 (by have:=h3 i (bH.2 hi);simpa using this);simp only[gT]at Q;refine⟨⟨Q,R⟩,(hb 0 G).1.1,(hb (l.length-1) G).1.2,fun j hj=>(hb (j+1) hj).2 j rfl⟩
theorem QD{α:Type}(p q:α->Bool):∀l:List α,(l.any fun x=>p x||q x)=(l.any p||l.any q)
 | []=>rfl
 |x::l=>by
  simp only[List.any_cons,QD p q l];generalize p x=a;generalize q x=b;generalize l.any p=c;generalize l.any q=d;cases a<;>cases b<;>cases c<;>cases d<;>rfl
theorem M9.aoA(m:M9):m.l=(List.range 9).map m.at:=rfl
section
variable(s:Sp)
theorem Ym:(C3 s.to.l&&C3 s.F.l)=!((List.range 9).any (FD s)):=by
 have e:∀m:M9,m.l.any XY=(List.range 9).any fun i=>x1 (m.at i)||x2 (m.at i):=fun m=>by
  rw[M9.aoA,List.any_map];rfl
 unfold C3;rw[e,e,<- Bool.not_or,<- QD];rfl
theorem TF(x:Int):IntKind.i64.wrap (0+IntKind.i64.wrap x)=IntKind.i64.wrap x:=by
 rw[Int.zero_add];unfold IntKind.wrap;have e1:(2^IntKind.i64.bits:Int)=18446744073709551616:=by decide
 have e2:(2^(IntKind.i64.bits-1):Int)=9223372036854775808:=by decide
 have e3:IntKind.i64.signed=true:=rfl;simp only[e1,e2,e3,aN,aX];split<;>split<;>omega
theorem tn(i j:Nat)(hi:i<3)(hj:j<3):Kg s.F s.to (3*i+j)=zD s i j:=by
 have e:Xi s i j 3=ivS s.F s.to i j:=by
  show Zz s i j 2 (Zz s i j 1 (Zz s i j 0 0))=_;unfold Zz ivS;rw[TF,Nat.mul_zero,b5,Nat.add_zero]
 have e2:Tz s.F s.to (3*i+j)=ZA s i j:=by
  unfold Tz ZA;rw[e,show(3*i+j)/3=i by omega,show(3*i+j)%3=j by omega];have h:Nat.beq i j=(Int.ofNat i==Int.ofNat j):=by
   rcases(by omega:i=0\/i=1\/i=2)with rfl|rfl|rfl<;>rcases(by omega:j=0\/j=1\/j=2)with rfl|rfl|rfl<;>rfl
  rw[h]
 unfold Kg zD;rw[e2]
theorem Yn:(List.range 9).any (Kg s.F s.to)=(List.range 3).any fun i=>(List.range 3).any (zD s i):=by
 have e:List.range 9=[3*0+0,3*0+1,3*0+2,3*1+0,3*1+1,3*1+2,3*2+0,3*2+1,3*2+2]:=rfl;have e3:List.range 3=[0,1,2]:=rfl;rw[e,e3];simp only[List.any_cons,List.any_nil];rw[tn s 0 0,tn s 0 1,tn s 0 2,tn s 1 0,tn s 1 1,tn s 1 2,tn s 2 0,tn s 2 1,tn s 2 2]<;>try decide
 simp only[Bool.or_assoc,cE]
theorem Yo:TC s=Ar s:=by
 unfold TC Ar;rw[Yn,<- Ym,show(fun i=>!Ln (s.cv i))=fun i=>!jF (s.cv i)from funext fun i=>by rw[Ep]];generalize ((List.range 3).any fun i=>!jF (s.cv i))=a;generalize C3 s.to.l=b;generalize C3 s.F.l=c;cases a<;>cases b<;>cases c<;>rfl
theorem aoB(h:SS s):dS ak 90 [s.v] (.bool (!Ar s)):=Yo s▸czD s fun i _=>h.cv i
end
theorem adp(f:FL)(Y:f.eK.length<=1000000)(K:f.cu.length<=1000000000):dS ak 128 [f.v] (.bool (iH f)):=an6 f Y K (Ep _)
theorem TH(l:List Sp)(hs:∀s∈l,SS s)(hl:l.length<=1000000):dS ak 92 [.eo false l.length (lT l),mG 90] (.bool (l.any fun s=>!Ar s)):=
 ceD l (fun s=>!Ar s) (fun s h=>aoB s (hs s h)) hl
set_option maxRecDepth 10000
theorem Lo{p q:Nat->Int}:Ix p q=true↔∀j,j<256->p j=q j:=by
 unfold Ix;rw[bq];simp only[bH,ay,cJ,and_true];constructor
 . intro h j hj;obtain⟨h0,Q,R,h3⟩:=h (j/4) G;rcases(by omega:j=j/4*4\/j=j/4*4+1\/j=j/4*4+2\/j=j/4*4+3)with e|e|e|e
   . rw[e];exact h0
   . rw[e];exact Q
   . rw[e];exact R
   . rw[e];exact h3
 . intro h i hi;exact⟨h _ G,h _ G,h _ G,h _ G⟩
theorem QE(p:Nat->Int):Ix (iw p) (fun _=>0)=nc p:=by
 unfold nc;rw[Bool.eq_iff_iff,Lo,Fl];constructor
 . intro h i hi;have:=h (4*i+3) G;unfold iw cl at this;rw[show(4*i+3)/4=i by omega]at this;split at this
   . assumption
   . exact this
 . intro h j hj;unfold iw cl;rw[aE (h (j/4) G)]
theorem QF(p q:Nat->Int):Ix p q=uI p q:=by
 unfold uI;rw[Bool.eq_iff_iff,Lo,Fl]
theorem QG(a b c d:Int):decide (Gd (oB b d) (oB a c)<0)=F9 a b c d:=by
 unfold Gd oB F9;by_cases Q:b<d
 . rw[aE Q];simp[Q]
 . by_cases R:d<b
   . rw[aB Q,aE R];have:¬b=d:=by omega
     simp[Q,this]
   . rw[aB Q,aB R];obtain rfl:b=d:=by omega
     by_cases h3:a<c
     . simp[h3]
     . by_cases h4:c<a
       . simp[h3,h4]
       . simp[h3,h4]
theorem QH(l:List Tl):∀(k:Nat) (m:List Tl) (u:Option Tl),m=l.drop k->u=Yk l k->k<=l.length->(kA u m=true↔∀i,k<=i->i<l.length->UF l i):=by
 intro k m
 induction m generalizing k with
 |nil=>
  intro u S hu Y;have:l.length<=k:=by
   have:=aH List.length S;rw[List.length_drop,bU]at this;omega
  exact⟨fun _ i Q R=>absurd R G,fun _=>rfl⟩
 |cons t m ih=>
  intro u S hu Y;have eM:k<l.length:=by
   rcases br k l.length with q|q
   . exact q
   . rw[List.drop_eq_nil_of_le q]at S;cases S
  have hd:l.drop k=l[k]::l.drop (k+1):=bY eM;rw[hd]at S;injection S with ht qe;have hg:l[k]? =some t:=by rw[au eM,ht]
  have ih:=ih (k+1) (some t) qe (by rw[<- hg];rfl) eM;have e:kA u (t::m)=(kx u t&&kA (some t) m):=rfl;rw[e,ay,ih];have mC:kx u t=true↔UF l k:=by
   unfold kx UF okT;rw[QE,QF];simp only[ay,bP];constructor
   . rintro⟨Q,R,h3,h4⟩ t' UG;rw[hg]at UG;cases UG;refine⟨⟨Q,R,h3⟩,fun h0 u' AR=>?_⟩;obtain⟨j,rfl⟩:∃j,k=j+1:=⟨k-1,G⟩;have:u=some u':=hu.trans AR;subst this;simp only at h4;rw[QG]at h4;exact h4
   . intro h;obtain⟨⟨Q,R,h3⟩,h4⟩:=h t hg;refine⟨Q,R,h3,?_⟩;cases k with
     |zero=>
      have:u=none:=hu;rw[this]
     |succ j=>
      have hj:u=some (l[j]'(by omega)):=hu.trans (au G);rw[hj];simp only;rw[QG];exact h4 G _ (au G)
  rw[mC];constructor
  . rintro⟨Q,R⟩ i hi hl;rcases Nat.eq_or_lt_of_le hi with rfl|q
    . exact Q
    . exact R i q hl
  . exact fun h=>⟨h k (aK _) eM,fun i hi hl=>h i G hl⟩
theorem MN(l:List Tl):Yj l=cD (fc l):=by
 unfold Yj fc;rw[Bool.eq_iff_iff,ay,aX,Fl,QH l 0 l none rfl rfl (aS _)];exact⟨fun⟨Q,R⟩=>⟨Q,fun i hi=>R i (aS _) hi⟩,fun⟨Q,R⟩=>⟨Q,fun i _ hi=>R i hi⟩⟩
theorem vk(l:List Tl)(hl:l.length<=1000000):dS ak 126 [oh l] (.bool (cD (fc l))):=MN l▸rvD l hl
open Go.Shelf Go.RowKit
set_option maxRecDepth 10000
def adq:Go.Shelf.Ren:=⟨fun|137=>179|217=>183|266=>184|n=>n,fun n=>n,fun n=>n⟩
theorem Yp:Lays.n137 ak adq:={
 mixed:=mo
 f137:=Tryz.func179.trans (aH some C)
 f217:=Tryz.func183.trans (aH some C)
 f266:=Tryz.func184.trans (aH some C)
 t3:=Tryz.underlying3
 a3:=Tryz.isAgg3
 z3:=Tryz.sizeOf3
 v3:=Tryz.zeroValue3
 t5:=Tryz.underlying5
 a5:=Tryz.isAgg5
 z5:=Tryz.sizeOf5
 v5:=Tryz.zeroValue5
 t9:=Tryz.underlying9
 a9:=Tryz.isAgg9
 z9:=Tryz.sizeOf9
 v9:=Tryz.zeroValue9
}
def adr:Go.Shelf.Ren:=⟨fun|315=>173|n=>n,fun|40=>211|n=>n,fun n=>n⟩
theorem Yq:Lays.n315 ak adr:={
 mixed:=mo
 f315:=Tryz.func173.trans (aH some C)
 t0:=Tryz.underlying0
 a0:=Tryz.isAgg0
 z0:=Tryz.sizeOf0
 v0:=Tryz.zeroValue0
 t3:=Tryz.underlying3
 a3:=Tryz.isAgg3
 z3:=Tryz.sizeOf3
 v3:=Tryz.zeroValue3
 t4:=Tryz.underlying4
 a4:=Tryz.isAgg4
 z4:=Tryz.sizeOf4
 v4:=Tryz.zeroValue4
 t9:=Tryz.underlying9
 a9:=Tryz.isAgg9
 z9:=Tryz.sizeOf9
 v9:=Tryz.zeroValue9
 t21:=Tryz.underlying21
 a21:=Tryz.isAgg21
 z21:=Tryz.sizeOf21
 v21:=Tryz.zeroValue21
 t40:=Tryz.underlying211
 a40:=Tryz.isAgg211
 z40:=Tryz.sizeOf211
 v40:=Tryz.zeroValue211
}
section
variable(r:Int)(s:aa)(b a:Int)
def Km:ag->Option (ah×V)
 | [.str s,.int .u8 c]=>some ([],L (Lib.indexByte s c.toNat.toUInt8))
 |_=>none
theorem Yr:kE ak 179 (gS Km):=by
 refine⟨az C,fun args h n s' v h' n' e hA E w dF ra g hd K=>?_⟩;unfold gS Km at e;split at e
 case h_2=>cases e
 rename_i A1 v1 e1;split at e1
 case h_2=>cases e1
 rename_i s c;simp only[aq,aF]at e e1;obtain⟨rfl,rfl⟩:=e1;obtain⟨rfl,rfl,rfl,rfl⟩:=e;obtain⟨y,ys,r0,rs,rfl⟩:=ra;obtain⟨z,zs,r1,rs2,rfl⟩:=rs;have rs2:zs=[]:=rs2;subst rs2;have r0:y= .string ⟨s.toArray⟩:=r0;have r1:z= .int .u8 c:=r1;subst r0;subst r1;refine(Any.strings_IndexByte Yp ⟨s.toArray⟩ c w).mono fun en w' ⟨he,hw⟩=>?_;subst he;subst hw;exact uD g hd rfl ⟨E,rfl⟩ (Below.refl _ _)
noncomputable abbrev Wib:gy:=lC 179 (gS Km) dY
theorem FX:eR ak Wib:=fQ Yr (dg _)
def oo:aa:=[97,98,99,100,101,102,103,104,105,106,107,108,109,110,111,112,113,114,115,116,117,118,119,120,121,122,48,49,50,51,52,53,54,55,56,57,45,95]
abbrev iR:V:=.int .i32 r
noncomputable abbrev QI:Code:=dG Tryz.f172
noncomputable abbrev adu:Code:=dD (dm 1 QI)
noncomputable abbrev adv:Code:=oH (dP adu)
noncomputable abbrev Ys:Code:=oH (dP adv)
noncomputable abbrev QJ:Code:=oH (dP Ys)
def Ii(q:List (Nat×V)):St:=ff ([(0,.str oo),(1,iR r)]++q) (W []) 0
theorem aoC:dn (U Wib []) [(162,.dy (.bool true)),(165,.dy (.bool true))] 0 Tryz.f172 [] (QI) (dw [.str oo,iR r] .nil 0) [([],
   [(V.bool (decide ((0:Int)<=r))=V.bool true),(V.bool (decide (r<(128:Int)))=V.bool true)],
   .ret (.int .i64 (Lib.indexByte oo (IntKind.u8.wrap r).toNat.toUInt8)) (W []) 0)]
 :=dh.of C C C
theorem aoD:dn (U dY []) [] 0 Tryz.f172 [] (QI) (dw [.str oo,iR 65533] .nil 0) [([],
   [],
   .ret (.int .i64 (-1)) (W []) 0)]
 :=dh.of C C C
theorem aoE:dn (U dY [(180,[(5,.dy (.bool true)),(8,.dy (.bool false)),(12,.dy (.bool false))])]) [(162,.dy (.bool true)),(165,.dy (.bool false)),(173,.dy (.bool false))] 0 Tryz.f172 [] (QI) (dw [.str oo,iR r] .nil 0) [([],
   [(V.bool (decide ((0:Int)<=r))=V.bool true),(V.bool (decide (r<(128:Int)))=V.bool false),(V.bool (r==(65533:Int))=V.bool false),(V.bool (decide ((0:Int)<=r))=V.bool true),(V.bool (decide (r<(55296:Int)))=V.bool false),(V.bool (decide ((57343:Int)<r))=V.bool false)],
   .ret (.int .i64 (-1)) (W []) 0)]
 :=dh.of C C C
theorem aoF:dn (U dY []) [] 0 Tryz.f172 [0,1] (dN 1 QI) (dw [.str oo,iR r] .nil 0) [([],
   [],
   .to .normal (Ii r []))]
 :=dh.of C C C
theorem aoG:dn (U dY []) [(162,.dy (.bool true)),(165,.dy (.bool false))] 0 Tryz.f172 [0,1,160] (dB adu) (Ii r []) [([],
   [(V.bool (decide ((0:Int)<=r))=V.bool true),(V.bool (decide (r<(128:Int)))=V.bool false)],
   .to .normal (Ii r [(160,.bool false)]))]
 :=dh.of C C C
theorem aoH:dn (U dY []) [(173,.dy (.bool false))] 0 Tryz.f172 [0,1,171] (dB adv) (Ii r [(160,.bool false)]) [([],
   [(V.bool (r==(65533:Int))=V.bool false)],
   .to .normal (Ii r [(171,.bool false)]))]
 :=dh.of C C C
theorem aoI:dn (U dY [(180,[(5,.dy (.bool true)),(8,.split),(12,.dy (.bool true)),(15,.dy (.bool true))])]) [] 0 Tryz.f172 [0,1,183] (dB Ys) (Ii r [(171,.bool false)]) [([((decide (r<(55296:Int))),true)],
   [(V.bool (decide ((0:Int)<=r))=V.bool true)],
   .to .normal (Ii r [(183,.bool false)])),
  ([((decide (r<(55296:Int))),false)],
   [(V.bool (decide ((0:Int)<=r))=V.bool true),(V.bool (decide ((57343:Int)<r))=V.bool true),(V.bool (decide (r<=(1114111:Int)))=V.bool true)],
   .to .normal (Ii r [(183,.bool false)]))]
 :=dh.of C C C
def w5:Code->Code
 | .scope c=>c
 |c=>c
noncomputable abbrev cS1:Code:=w5 QJ
noncomputable abbrev bS1:Code:=dD (dD (dB (dm 4 cS1)))
noncomputable abbrev cS2:Code:=w5 (dD (dP bS1))
def Kn(k:Nat):St:=Ii r [(7,.str (gP r)),(8,M k),(9,M k),(10,M 0)]
theorem adw:dn (U dY []) [(20,.dy (M 2))] 0 Tryz.f172 [0,1,7,8,9,10] (dN 4 cS1) (Ii r [(183,.bool false)]) [([],
   [(V.int B (Int.ofNat (gP r).length)=M 2)],
   .to .normal (Kn r 1))]
 :=dh.of C C C
theorem adx:dn (U dY []) [] 0 Tryz.f172 [0,1,7,8,9,10] (dB bS1) (Kn r 1) [([],
   [],
   .to .normal (Kn r 1))]
 :=dh.of C C C
abbrev Lp:Prop:=V.int IntKind.u8 (Int.ofNat ((gP r).getD 1 (0:UInt8)).toNat)=V.int IntKind.u8 b
theorem ady:dn (U Wib []) [(32,.dy (.int .u8 b)),(33,.dy (.bool true)),(40,.dy (.int .u8 b)),(43,.dy (.bool true))] 0 Tryz.f172 [0] (dB cS2) (Kn r 1) [([],
   [((0:Int)<=(1:Int)/\1<38),((0:Int)<=(1:Int)/\1<(gP r).length),Lp r b,(V.bool ((98:Int) !=b)=V.bool true),((0:Int)<=(2:Int)/\(2:Int)<=(38:Int)),((0:Int)<=(1:Int)/\1<(gP r).length),Lp r b,(V.bool (decide (Lib.indexByte (List.drop 2 (List.take 38 oo)) b.toNat.toUInt8<(0:Int)))=V.bool true)],
   .ret (.int .i64 (-1)) (W []) 0)]
 :=dh.of C C C
theorem adz:dn (U dY []) [(20,.dy (M 3))] 0 Tryz.f172 [0,1,7,8,9,10] (dN 4 cS1) (Ii r [(183,.bool false)]) [([],
   [(V.int B (Int.ofNat (gP r).length)=M 3)],
   .to .normal (Kn r 2))]
 :=dh.of C C C
theorem adA:dn (U dY []) [] 0 Tryz.f172 [0,1,7,8,9,10] (dB bS1) (Kn r 2) [([],
   [],
   .to .normal (Kn r 2))]
 :=dh.of C C C
abbrev Lq:Prop:=V.int IntKind.u8 (Int.ofNat ((gP r).getD 2 (0:UInt8)).toNat)=V.int IntKind.u8 b
theorem adB:dn (U Wib []) [(32,.dy (.int .u8 b)),(33,.dy (.bool true)),(40,.dy (.int .u8 b)),(43,.dy (.bool true))] 0 Tryz.f172 [0] (dB cS2) (Kn r 2) [([],
   [((0:Int)<=(2:Int)/\2<38),((0:Int)<=(2:Int)/\2<(gP r).length),Lq r b,(V.bool ((99:Int) !=b)=V.bool true),((0:Int)<=(3:Int)/\(3:Int)<=(38:Int)),((0:Int)<=(2:Int)/\2<(gP r).length),Lq r b,(V.bool (decide (Lib.indexByte (List.drop 3 (List.take 38 oo)) b.toNat.toUInt8<(0:Int)))=V.bool true)],
   .ret (.int .i64 (-1)) (W []) 0)]
 :=dh.of C C C
theorem adC:dn (U dY []) [(20,.dy (M 4))] 0 Tryz.f172 [0,1,7,8,9,10] (dN 4 cS1) (Ii r [(183,.bool false)]) [([],
   [(V.int B (Int.ofNat (gP r).length)=M 4)],
   .to .normal (Kn r 3))]
 :=dh.of C C C
theorem adE:dn (U dY []) [] 0 Tryz.f172 [0,1,7,8,9,10] (dB bS1) (Kn r 3) [([],
   [],
   .to .normal (Kn r 3))]
 :=dh.of C C C
abbrev Lr:Prop:=V.int IntKind.u8 (Int.ofNat ((gP r).getD 3 (0:UInt8)).toNat)=V.int IntKind.u8 b
theorem adF:dn (U Wib []) [(32,.dy (.int .u8 b)),(33,.dy (.bool true)),(40,.dy (.int .u8 b)),(43,.dy (.bool true))] 0 Tryz.f172 [0] (dB cS2) (Kn r 3) [([],
   [((0:Int)<=(3:Int)/\3<38),((0:Int)<=(3:Int)/\3<(gP r).length),Lr r b,(V.bool ((100:Int) !=b)=V.bool true),((0:Int)<=(4:Int)/\(4:Int)<=(38:Int)),((0:Int)<=(3:Int)/\3<(gP r).length),Lr r b,(V.bool (decide (Lib.indexByte (List.drop 4 (List.take 38 oo)) b.toNat.toUInt8<(0:Int)))=V.bool true)],
   .ret (.int .i64 (-1)) (W []) 0)]
 :=dh.of C C C
theorem aoK:dn (U (eZ 172 [.str oo,iR r] (L a) dY) []) [] 0 Tryz.f152 [] (dG Tryz.f152) (dw [.str oo,iR r] .nil 0) [([],
   [(eY [.str oo,iR r])],
   .ret (.bool (decide (a>=(0:Int)))) (W []) 0)]
 :=dh.of C C C
theorem aoL(b:Bool):dn (U (eZ 152 [.str oo,iR r] (.bool b) dY) []) [] 0 Tryz.f151 [] (dG Tryz.f151) (dw [iR r] .nil 0) [([],
   [(eY [.str oo,iR r])],
   .ret (.bool (!b)) (W []) 0)]
 :=dh.of C C C
theorem aoM:dn (U (eZ 173 [.str s,mG 151,.bool true] (L a) dY) []) [] 0 Tryz.f153 [] (dG Tryz.f153) (dw [.str s,mG 151] .nil 0) [([],
   [(V.lE ([]++[V.str s,mG 151,V.bool true]++[])=[V.str s,mG 151,V.bool true])],
   .ret (.int .i64 a) (W []) 0)]
 :=dh.of C C C
theorem aoN:dn (U (eZ 153 [.str s,mG 151] (L a) dY) []) [(6,.split)] 0 Tryz.f125 [] (dG Tryz.f125) (dw [.str s] .nil 0) [([((decide ((Int.ofNat s.length)<=(12:Int))),true)],
   [(V.lE ([]++[V.str s,V.fn (Fn.func 151) [] []]++[])=[V.str s,mG 151])],
   .ret (.bool (decide (a<(0:Int)))) (W []) 0),
  ([((decide ((Int.ofNat s.length)<=(12:Int))),false)],
   [],
   .ret (.bool false) (W []) 0)]
 :=dh.of C C C
end
set_option maxRecDepth 10000
section
variable{N n0:Nat}{c:Code}{s:St}{h1:Exit->St->Prop}
def QK(h1:Exit->St->Prop):Exit->St->Prop
 | .goto _,_=>False
 |y,s=>h1 y s
def Ls:Code->Bool
 | .scope _=>true
 |_=>false
theorem yw(h:TG ak N n0 (w5 c) s (QK h1))(K:Ls c=true:=by kernel_rfl):TG ak N n0 c s h1:=by
 cases c<;>simp only[Ls,aM]at K;intro E a w hc r hn k;refine wp_scope_straight (h E a w _ r hn fun y A E' a' w' q u nV r'=>?_);cases y<;>first|exact k _ A E' a' w' q u nV r'|exact q.elim
end
theorem TI{r:Int}(Q:128<=r)(R:r<1114112)(hv:¬(55296<=r/\r<=57343)):∃k,(k=1\/k=2\/k=3)/\(gP r).length=k+1/\(gP r).getD k 0=UInt8.ofNat (128+r.toNat%64):=by
 have TJ:Utf8.valid r=true:=by
  unfold Utf8.valid;simp only[bV,ay,aX];omega
 unfold gP Utf8.encode;simp only[TJ,if_true];rw[aB (show ¬r.toNat<0x80 by omega)];by_cases c1:r.toNat<0x800
 . rw[aE c1];exact⟨1,.inl rfl,rfl,rfl⟩
 . rw[aB c1];by_cases c2:r.toNat<0x10000
   . rw[aE c2];exact⟨2,.inr (.inl rfl),rfl,rfl⟩
   . rw[aB c2];exact⟨3,.inr (.inr rfl),rfl,rfl⟩
section
variable(r:Int)(x:Nat)(s:aa)(b:UInt8)
def U5:Int:=if r<128 then Lib.indexByte oo r.toNat.toUInt8 else -1
theorem TK:oo.all (fun b=>decide (b.toNat<128))=true:=by decide
theorem vm{l:aa}{c:UInt8}(h:∀b∈l,b≠c):Lib.indexByte l c= -1:=by
 induction l with
 |nil=>rfl
 |cons b l ih=>
  unfold Lib.indexByte;rw[aB (by simpa using h b (bz ..)),ih fun b hb=>h b (bj _ hb)];rfl
abbrev RGi:Exit->St->Prop:=fD ak 0 Tryz.f172 fun u _ _=>u=L (-1)
theorem Yt(hl:(gP r).length=1+1)(hg:(gP r).getD 1 0=b)(hb:∀x∈oo,x≠b):TG ak 0 Tryz.f172.ntmps (w5 QJ) (Ii r [(183,.bool false)]) (QK (gw 0 RGi)):=by
 have e1:V.int B (Int.ofNat (gP r).length)=M 2:=by rw[hl]
 have e2:V.int IntKind.u8 (Int.ofNat ((gP r).getD 1 (0:UInt8)).toNat)=V.int IntKind.u8 (Int.ofNat b.toNat):=by rw[hg]
 have e3:V.bool ((98:Int) !=Int.ofNat b.toNat)=V.bool true:=aH V.bool (by
  have:(98:UInt8)≠b:=hb _ fa;rw[bne_iff_ne];intro e;refine this (UInt8.toNat_inj.1 ?_);have e:((98:Nat):Int)=(b.toNat:Int):=e;exact Int.ofNat_inj.1 e)
 have e4:V.bool (decide (Lib.indexByte (List.drop 2 (List.take 38 oo)) (Int.ofNat b.toNat).toNat.toUInt8<(0:Int)))=V.bool true:=by
  have eb:(Int.ofNat b.toNat).toNat.toUInt8=b:=by
   show b.toNat.toUInt8=b;exact UInt8.ofNat_toNat
  rw[eb,vm fun x H=>hb x (cB (List.mem_of_mem_drop H))];rfl
 refine fu 4 (dg _) (adw r) (eC e1) ?_;refine dI C (fB (i:=1) C (ju (fun _ s=>s=Kn r 1) C ?_ 0 rfl));rintro m s rfl;refine dI C (gz (dg _) eH (adx r) (dA (g0 ⟨all_nil,fun A dU=>?_⟩)));simp only[andThen];refine fU dU (fB (i:=2) C (yw ?_));refine pF FX (fun u _ _=>u=L (-1)) (ady r (Int.ofNat b.toNat)) (dA (g0 ⟨?_,rfl,fun A h=>h⟩))
 repeat' (first|exact all_nil|refine J ?_ ?_)
 all_goals first
  |exact e2
  |exact e3
  |exact e4
  |decide
  |(rw[hl];decide)
theorem Yu(hl:(gP r).length=2+1)(hg:(gP r).getD 2 0=b)(hb:∀x∈oo,x≠b):TG ak 0 Tryz.f172.ntmps (w5 QJ) (Ii r [(183,.bool false)]) (QK (gw 0 RGi)):=by
 have e1:V.int B (Int.ofNat (gP r).length)=M 3:=by rw[hl]
 have e2:V.int IntKind.u8 (Int.ofNat ((gP r).getD 2 (0:UInt8)).toNat)=V.int IntKind.u8 (Int.ofNat b.toNat):=by rw[hg]
 have e3:V.bool ((99:Int) !=Int.ofNat b.toNat)=V.bool true:=aH V.bool (by
  have:(99:UInt8)≠b:=hb _ fa;rw[bne_iff_ne];intro e;refine this (UInt8.toNat_inj.1 ?_);have e:((99:Nat):Int)=(b.toNat:Int):=e;exact Int.ofNat_inj.1 e)
 have e4:V.bool (decide (Lib.indexByte (List.drop 3 (List.take 38 oo)) (Int.ofNat b.toNat).toNat.toUInt8<(0:Int)))=V.bool true:=by
  have eb:(Int.ofNat b.toNat).toNat.toUInt8=b:=by
   show b.toNat.toUInt8=b;exact UInt8.ofNat_toNat
  rw[eb,vm fun x H=>hb x (cB (List.mem_of_mem_drop H))];rfl
 refine fu 4 (dg _) (adz r) (eC e1) ?_;refine dI C (fB (i:=1) C (ju (fun _ s=>s=Kn r 2) C ?_ 0 rfl));rintro m s rfl;refine dI C (gz (dg _) eH (adA r) (dA (g0 ⟨all_nil,fun A dU=>?_⟩)));simp only[andThen];refine fU dU (fB (i:=2) C (yw ?_));refine pF FX (fun u _ _=>u=L (-1)) (adB r (Int.ofNat b.toNat)) (dA (g0 ⟨?_,rfl,fun A h=>h⟩))
 repeat' (first|exact all_nil|refine J ?_ ?_)
 all_goals first
  |exact e2
  |exact e3
  |exact e4
  |decide
  |(rw[hl];decide)
theorem Yv(hl:(gP r).length=3+1)(hg:(gP r).getD 3 0=b)(hb:∀x∈oo,x≠b):TG ak 0 Tryz.f172.ntmps (w5 QJ) (Ii r [(183,.bool false)]) (QK (gw 0 RGi)):=by
 have e1:V.int B (Int.ofNat (gP r).length)=M 4:=by rw[hl]
 have e2:V.int IntKind.u8 (Int.ofNat ((gP r).getD 3 (0:UInt8)).toNat)=V.int IntKind.u8 (Int.ofNat b.toNat):=by rw[hg]
 have e3:V.bool ((100:Int) !=Int.ofNat b.toNat)=V.bool true:=aH V.bool (by
  have:(100:UInt8)≠b:=hb _ fa;rw[bne_iff_ne];intro e;refine this (UInt8.toNat_inj.1 ?_);have e:((100:Nat):Int)=(b.toNat:Int):=e;exact Int.ofNat_inj.1 e)
 have e4:V.bool (decide (Lib.indexByte (List.drop 4 (List.take 38 oo)) (Int.ofNat b.toNat).toNat.toUInt8<(0:Int)))=V.bool true:=by
  have eb:(Int.ofNat b.toNat).toNat.toUInt8=b:=by
   show b.toNat.toUInt8=b;exact UInt8.ofNat_toNat
  rw[eb,vm fun x H=>hb x (cB (List.mem_of_mem_drop H))];rfl
 refine fu 4 (dg _) (adC r) (eC e1) ?_;refine dI C (fB (i:=1) C (ju (fun _ s=>s=Kn r 3) C ?_ 0 rfl));rintro m s rfl;refine dI C (gz (dg _) eH (adE r) (dA (g0 ⟨all_nil,fun A dU=>?_⟩)));simp only[andThen];refine fU dU (fB (i:=2) C (yw ?_));refine pF FX (fun u _ _=>u=L (-1)) (adF r (Int.ofNat b.toNat)) (dA (g0 ⟨?_,rfl,fun A h=>h⟩))
 repeat' (first|exact all_nil|refine J ?_ ?_)
 all_goals first
  |exact e2
  |exact e3
  |exact e4
  |decide
  |(rw[hl];decide)
theorem irD(h0:0<=r)(Q:r<=1114111):dS ak 172 [.str oo,iR r] (L (U5 r)):=by
 have b0:V.bool (decide ((0:Int)<=r))=V.bool true:=aH V.bool (aY h0);by_cases ha:r<128
 . refine eV Tryz.func172 (eI FX (aoC r) (dA (g0 ⟨J b0 (eC (aH V.bool (aY ha))),_,_,_,rfl,?_⟩)));unfold U5;have e:IntKind.u8.wrap r=r:=by
    unfold IntKind.wrap;have e1:(2^IntKind.u8.bits:Int)=256:=by decide
    have e3:IntKind.u8.signed=false:=rfl;simp only[e1,e3,aP,aM,cr];omega
   rw[aE ha,e]
 have eF:U5 r= -1:=aB ha;rw[eF];have b1:V.bool (decide (r<(128:Int)))=V.bool false:=aH V.bool (aU ha);by_cases hb:r=65533
 . subst hb;exact eV Tryz.func172 (eI (dg _) aoD (dA (g0 ⟨all_nil,_,_,_,rfl,rfl⟩)))
 have b2:V.bool (r==(65533:Int))=V.bool false:=aH V.bool (bZ.2 hb);by_cases K:55296<=r/\r<=57343
 . exact eV Tryz.func172 (eI (dg _) (aoE r) (dA (g0 ⟨J b0 (J b1 (J b2 (J b0 (J (aH V.bool (aU G)) (eC (aH V.bool (aU G))))))),_,_,_,rfl,rfl⟩)))
 obtain⟨k,Y,hl,hg⟩:=TI G G K;have hby:(UInt8.ofNat (128+r.toNat%64)).toNat=128+r.toNat%64:=by
  have:128+r.toNat%64<256:=by omega
  simp[UInt8.toNat_ofNat'];omega
 have hbn:∀b∈oo,b≠UInt8.ofNat (128+r.toNat%64):=fun b hb e=>by
  have Q:=bq.1 TK b hb;rw[aX]at Q;rw[e,hby]at Q;omega
 have go:TG ak 0 Tryz.f172.ntmps (w5 QJ) (Ii r [(183,.bool false)]) (QK (gw 0 RGi)):=by
  rcases Y with rfl|rfl|rfl
  . exact Yt r _ hl hg hbn
  . exact Yu r _ hl hg hbn
  . exact Yv r _ hl hg hbn
 refine eV Tryz.func172 (fu 1 (dg _) (aoF r) all_nil (fB (i:=0) C ?_));refine pF (dg _) eH (aoG r) (dA (g0 ⟨J b0 (eC b1),?_⟩));refine jK (t:=false) C C (fun q=>by cases q) (fun _=>?_);refine pF (dg _) eH (aoH r) (dA (g0 ⟨eC b2,?_⟩));refine jK (t:=false) C C (fun q=>by cases q) (fun _=>?_);have pJ:=jK (P:=ak) (N:=0) (n0:=Tryz.f172.ntmps) (c:=dP Ys) (s:=Ii r [(183,.bool false)]) (h1:=gw 0 RGi) (t:=false) C C (fun q=>by cases q) (fun _=>yw go);refine pF (dg _) eH (aoI r) (dz (g1 fun _=>⟨eC b0,pJ⟩) (dA (g1 fun h=>⟨J b0 (J (aH V.bool (aY (by have:=bx h;omega))) (eC (aH V.bool (aY Q)))),pJ⟩)))
def nh:Bool:=!decide (U5 (x:Int)>=0)
theorem aoO(h:x<=1114111):dS ak 151 [iR x] (.bool (nh x)):=by
 have Q:=irD (x:Int) G G;have R:dS ak 152 [.str oo,iR x] (.bool (decide (U5 (x:Int)>=0))):=eV Tryz.func152 (eI (fj Q (dg _)) (aoK x (U5 x)) (dA (g0 ⟨eC rfl,_,_,_,rfl,rfl⟩)));exact eV Tryz.func151 (eI (fj R (dg _)) (aoL x _) (dA (g0 ⟨eC rfl,_,_,_,rfl,rfl⟩)))
theorem Yw:dS ak 173 [.str s,mG 151,.bool true] (L (Lib.idxFunc nh true ⟨s.toArray⟩)):=fun E h n w dF ra g hd=>by
 obtain⟨y,ys,r0,rs,rfl⟩:=ra;obtain⟨z,zs,r1,rs2,rfl⟩:=rs;obtain⟨t,ts,r2,rs3,rfl⟩:=rs2;have rs3:ts=[]:=rs3;subst rs3;have r0:y= .string ⟨s.toArray⟩:=r0;have r2:t= .bool true:=r2;subst r0;subst r2;obtain⟨f',a',c',rf,qa,qc,rfl⟩:=r1;have rf:f'= .func 151:=rf;have qa:a'=[]:=qa;have qc:c'=[]:=qc;subst rf;subst qa;subst qc;refine(Any.strings_indexFunc_grows Yq 151 #[] (fun args w=>rfl) nh true ⟨s.toArray⟩ w fun hL x H hb=>?_).mono fun en w' ⟨he,hw⟩=>?_
 . have g0:Eng.Good (AW fun _=>none) .nil hL:=wA (fun p hp=>by cases hp) (fun b c q=>by cases q);refine(aoO x H (AW fun _=>none) .nil gN hL [.int .i32 x] ⟨_,[],rfl,rfl,rfl⟩ g0 (B6 (aK _))).mono fun en w' c=>?_;obtain⟨⟨E2,ho⟩,b⟩:=qx wG c;cases en with
   |returned v=>have ho:v= .bool (nh x):=ho;exact⟨by rw[ho],b⟩
   |_=>exact ho.elim
 . subst he;exact uD g hd rfl ⟨E,rfl⟩ hw
theorem aoQ:dS ak 153 [.str s,mG 151] (L (Lib.idxFunc nh true ⟨s.toArray⟩)):=
 eV Tryz.func153 (eI (fj (Yw s) (dg _)) (aoM s _) (dA (g0 ⟨eC rfl,_,_,_,rfl,rfl⟩)))
end
set_option maxRecDepth 10000
theorem MO{l:aa}{c:UInt8}(h:c∈l):0<=Lib.indexByte l c:=by
 induction l with
 |nil=>cases h
 |cons b l ih=>
  unfold Lib.indexByte;by_cases e:b=c
  . rw[aE (by simpa using e)];exact Int.le_refl _
  . rw[aB (by simpa using e)];have:=ih ((aD.1 h).resolve_left fun q=>e q.symm);rw[aB (by simp;omega)];omega
theorem Ko(l:aa)(c:UInt8):decide (Lib.indexByte l c>=0)=l.contains c:=by
 by_cases h:c∈l
 . rw[ck.2 h];exact aY (MO h)
 . rw[vm (l:=l) (c:=c) fun b hb e=>h (by rw[<- e];exact hb)];have:l.contains c=false:=by rw[<- Bool.not_eq_true,ck];exact h
   rw[this];rfl
theorem TL:((List.range 256).all fun n=>(oo.contains (UInt8.ofNat n))== !CA (n:Int))=true:=by decide
section
variable{x:Nat}(s:ByteArray)(i:Nat)
theorem Ij(h:x<128):nh x=CA (x:Int):=by
 unfold nh U5;rw[aE G,Ko];have:=bq.1 TL x (bH.2 G);rw[cJ]at this;have e:((x:Int).toNat).toUInt8=UInt8.ofNat x:=rfl;rw[e,this,Bool.not_not]
theorem FY(h:128<=x):nh x=true:=by
 unfold nh U5;rw[aB G];rfl
theorem TM(h:(s.get! i).toNat<128):Utf8.decode s i=((s.get! i).toNat,1):=by
 unfold Utf8.decode;simp only[Nat.add_zero];rw[aE h]
theorem QL(h:128<=(s.get! i).toNat):128<=(Utf8.decode s i).1:=by
 unfold Utf8.decode;simp only[Nat.add_zero];rw[aB G];split
 . split
   . rename_i R;exact R
   . decide
 . split
   . split
     . rename_i R;simp only[ay,aX]at R;omega
     . decide
   . split
     . split
       . rename_i R;simp only[ay,aX]at R;omega
       . decide
     . decide
end
theorem TN(l:aa):∀(f pos:Nat),l.length<=pos+f->(Lib.idxFuncFrom nh true ⟨l.toArray⟩ f pos<0↔∀i,pos<=i->i<l.length->CA (Int.ofNat (l.getD i 0).toNat)=false):=by
 have mg:(⟨l.toArray⟩:ByteArray).size=l.length:=by show l.toArray.size=_;simp
 have lq:∀i,i<l.length->(⟨l.toArray⟩:ByteArray).get! i=l.getD i 0:=fun i hi=>by
  show l.toArray[i]! =_;rw[ax,au hi];simp[hi]
 intro f
 induction f with
 |zero=>
  intro pos h;unfold Lib.idxFuncFrom;exact⟨fun _ i Q R=>absurd R G,fun _=>by decide⟩
 |succ f ih=>
  intro pos h;unfold Lib.idxFuncFrom;rw[mg];by_cases hp:pos<l.length
  . rw[aE hp];have hg:=lq pos hp;by_cases hb:(l.getD pos 0).toNat<128
    . rw[TM _ _ (by rw[hg];exact hb),hg];simp only;rw[Ij hb];cases K:CA ((l.getD pos 0).toNat:Int)with
      |true=>
       rw[aE rfl];refine⟨fun q=>absurd q G,fun q=>?_⟩;have:=q pos (aK _) hp;rw[gT,K]at this;cases this
      |false=>
       rw[aB fa,ih (pos+1) G];constructor
       . intro q i Q R;rcases Nat.eq_or_lt_of_le Q with rfl|h3
         . exact K
         . exact q i h3 R
       . exact fun q i Q R=>q i G R
    . have hd:=QL ⟨l.toArray⟩ pos (by rw[hg];omega);rw[FY hd,aE rfl];refine⟨fun q=>absurd q G,fun q=>?_⟩;have:=q pos (aK _) hp;unfold CA at this;simp only[gT,Bool.and_eq_false_iff,cI,bt,bne_eq_false_iff_eq]at this;omega
  . rw[aB hp];exact⟨fun _ i Q R=>absurd R G,fun _=>by decide⟩
theorem TO(s:aa):dS ak 125 [.str s] (.bool (rU s)):=by
 have e:decide (Lib.idxFunc nh true ⟨s.toArray⟩<(0:Int))=!(s.any fun b=>CA (Int.ofNat b.toNat)):=by
  rw[Bool.eq_iff_iff,aX,bP,cR];have mg:(⟨s.toArray⟩:ByteArray).size=s.length:=by show s.toArray.size=_;simp
  unfold Lib.idxFunc;rw[mg,TN s s.length 0 G];constructor
  . intro h b hb;obtain⟨i,hi,rfl⟩:=bW hb;have:=h i (aS _) hi;rw[ax,au hi]at this;simpa using this
  . intro h i _ hi;have:=h _ (bK hi);rw[ax,au hi];simpa using this
 refine eV Tryz.func125 (eI (fj (aoQ s) (dg _)) (aoN s _) (dz (g1 fun h=>⟨eC rfl,_,_,_,rfl,aH V.bool ?_⟩) (dA (g1 fun h=>⟨all_nil,_,_,_,rfl,aH V.bool ?_⟩))))
 . rw[e];unfold rU;rw[h,cq]
 . unfold rU;rw[h,cz]
set_option maxRecDepth 10000
def qY:Code->Nat
 | .region _ ops _=>ops.size-1
 |_=>0
abbrev ku(c:Code):Code:=Dz (qY c) c
def Kp:List Eng.D->Option (ah×V)
 | [.agg [.int .i64 k,.int .i64 r,.eo n eK,.int .i64 dv,.int .i64 vl,.eo m cu]]=>some ([eK=dM (dX eK),n=(dX eK).length,n<=1000000,cu=dM (dX cu),m=(dX cu).length,m<=1000000],.str (fT ⟨k,r,dX eK,dv,vl,dX cu⟩))
 |_=>none
noncomputable abbrev ZI:gy:=lC 63 (Go.Eng.dW Kp) dY
noncomputable abbrev gk:Code:=dG Tryz.f93
def jk(d:Dc)(X:List (Eng.D×Eng.D))(x:eG)(r:List (Nat×V)):St:=ff ([(0,pT),(3,.ptr (some (2,0)))]++r) (W [(0,.cells (d.T++[.map (some 1)])),(1,.gh (some .i64) X),(2,.cells x.T)]) 3
theorem aoR(d:Dc)(X:List (Eng.D×Eng.D))(x:eG):dn (U dY []) [] 2 Tryz.f93 [0,3] (dN 1 gk) (dw [pT,x.v] (kI d X) 2) [([],
   [],
   .to .normal (jk d X x []))]
 :=dh.of C C C
section
variable(x:eG)
theorem aoS(d:Dc)(X:List (Eng.D×Eng.D))(x:eG):dn (U dY []) [(8,.split),(12,.split)] 2 Tryz.f93 [0,3,13,15] (ku (dB (dm 1 gk))) (jk d X x []) [([((decide (x.kd>=(1:Int))),true),((decide (x.kd<=(5:Int))),true)],
   [],
   .to .normal (jk d X x [(13,.bool true),(15,L x.id)])),
  ([((decide (x.kd>=(1:Int))),true),((decide (x.kd<=(5:Int))),false)],
   [],
   .to .normal (jk d X x [(13,.bool false),(15,L x.id)])),
  ([((decide (x.kd>=(1:Int))),false)],
   [],
   .to .normal (jk d X x [(13,.bool false),(15,L x.id)]))]
 :=dh.of C C C
theorem aoT(d:Dc)(X:List (Eng.D×Eng.D))(x:eG)(b:Bool):dn (U (eZ 125 [.str x.nm] (.bool b) dY) []) [] 2 Tryz.f93 [0,3,19,21] (ku (dB (dm 2 gk))) (jk d X x []) [([],
   [(V.lE ([]++[V.str x.nm]++[])=[V.str x.nm])],
   .to .normal (jk d X x [(19,.bool b),(21,L x.id)]))]
 :=dh.of C C C
theorem aoU(d:Dc)(X:List (Eng.D×Eng.D))(x:eG):dn (U dY []) [(25,.split),(29,.split),(34,.split),(39,.split)] 2 Tryz.f93 [0,3,40,42] (ku (dB (dm 3 gk))) (jk d X x []) [([((decide (x.op>=(0:Int))),true),((decide (x.op<=(255:Int))),true),((decide (x.md>=(0:Int))),true),((decide (x.md<=(15:Int))),true)],
   [],
   .to .normal (jk d X x [(40,.bool true),(42,L x.id)])),
  ([((decide (x.op>=(0:Int))),true),((decide (x.op<=(255:Int))),true),((decide (x.md>=(0:Int))),true),((decide (x.md<=(15:Int))),false)],
   [],
   .to .normal (jk d X x [(40,.bool false),(42,L x.id)])),
  ([((decide (x.op>=(0:Int))),true),((decide (x.op<=(255:Int))),true),((decide (x.md>=(0:Int))),false)],
   [],
   .to .normal (jk d X x [(40,.bool false),(42,L x.id)])),
  ([((decide (x.op>=(0:Int))),true),((decide (x.op<=(255:Int))),false)],
   [],
   .to .normal (jk d X x [(40,.bool false),(42,L x.id)])),
  ([((decide (x.op>=(0:Int))),false)],
   [],
   .to .normal (jk d X x [(40,.bool false),(42,L x.id)]))]
 :=dh.of C C C
abbrev FZ:Prop:=V.lE ([]++[V.agg (List.take 1 (List.drop 30 x.T))]++[])=[oh x.iD]
theorem aoV(d:Dc)(X:List (Eng.D×Eng.D))(x:eG)(b:Bool):dn (U (eZ 126 [oh x.iD] (.bool b) dY) []) [(47,.split),(49,.split),(55,.split)] 2 Tryz.f93 [0,3,57,59] (ku (dB (dm 4 gk))) (jk d X x []) [([(b,true),((x.S),true)],
   [FZ x],
   .to .normal (jk d X x [(57,.bool true),(59,L x.id)])),
  ([(b,true),((x.S),false),(((Int.ofNat x.iD.length)==(0:Int)),true)],
   [FZ x],
   .to .normal (jk d X x [(57,.bool true),(59,L x.id)])),
  ([(b,true),((x.S),false),(((Int.ofNat x.iD.length)==(0:Int)),false)],
   [FZ x],
   .to .normal (jk d X x [(57,.bool false),(59,L x.id)])),
  ([(b,false)],
   [FZ x],
   .to .normal (jk d X x [(57,.bool false),(59,L x.id)]))]
 :=dh.of C C C
abbrev zfC:ag:=[L 0,L 0,gA,L 0,L 0,gA]
def Ik(pl:P7)(sp:Int)(kids:V)(of:Int)(f:ag)(fi:C4)(gU fZ:V):ag:=[L 0,L 0,.str [],.bool false,L 0,L 0,.bool false]++(pl.T++([L sp,kids,L of]++(f++(fi.T++[gU,fZ,.bool false,gA]))))
def QM:ag:=Ik x.pl x.sp gA 0 zfC z4 gA (rsV x.fZ)
def MP:ag:=Ik z7 0 (fg x.kids) 0 zfC z4 gA gA
def Lt:ag:=Ik z7 0 gA 0 x.f.T z4 gA gA
def Ni:ag:=Ik x.pl 0 gA x.of zfC z4 gA gA
def Nj:ag:=Ik z7 0 gA 0 zfC x.fi (wM x.gU) gA
def mA(d:Dc)(X:List (Eng.D×Eng.D))(x:eG)(pl:Bool)(u:ag)(r:List (Nat×V)):St:=ff ([(0,pT),(3,.ptr (some (2,0))),(4,.ptr (some (3,0))),(5,.bool pl)]++r) (W [(0,.cells (d.T++[.map (some 1)])),(1,.gh (some .i64) X),(2,.cells x.T),(3,.cells u)]) 4
def vz(d:Dc)(X:List (Eng.D×Eng.D))(x:eG)(pl:Bool)(r:List (Nat×V)):St:=ff ([(0,pT),(3,.ptr (some (2,0))),(5,.bool pl)]++r) (W [(0,.cells (d.T++[.map (some 1)])),(1,.gh (some .i64) X),(2,.cells x.T)]) 3
theorem adI(d:Dc)(X:List (Eng.D×Eng.D))(x:eG):dn (U dY []) [] 2 Tryz.f93 [0,3,4,5] (dN 4 (dm 5 gk)) (jk d X (eN x 1) []) [([],
   [],
   .to .normal (mA d X (eN x 1) true (QM (eN x 1)) []))]
 :=dh.of C C C
abbrev yx:Prop:=V.bool (x.pl.a==x.pl.a&&(x.pl.b==x.pl.b&&(x.pl.c==x.pl.c&&(x.pl.d==x.pl.d&&(x.pl.e==x.pl.e&&(x.pl.f==x.pl.f&&(x.pl.n==x.pl.n&&true)))))))=V.bool true
abbrev yy:Prop:=V.bool ((Int.ofNat x.fZ.length)==(Int.ofNat x.fZ.length))=V.bool true
theorem adJ(d:Dc)(X:List (Eng.D×Eng.D))(x:eG):dn (U dY []) [(111,.dy (.bool true)),(117,.dy (.bool true)),(128,.dy (.bool true)),(137,.split),(144,.split),(151,.split),(160,.split)] 2 Tryz.f93 [0,3,4,5,161,163] (ku (dB (dm 9 gk))) (mA d X (eN x 1) true (QM (eN x 1)) []) [([(((Int.ofNat x.kids.length)==(0:Int)),true),((x.of==(0:Int)),true),((x.fi.r==(0:Int)&&(x.fi.g==(0:Int)&&(x.fi.b==(0:Int)&&(x.fi.a==(0:Int)&&true)))),true),(((Int.ofNat x.gU.length)==(0:Int)),true)],
   [yx x,(V.bool (x.sp==x.sp)=V.bool true),yy x],
   .to .normal (mA d X (eN x 1) true (QM (eN x 1)) [(161,.bool true),(163,L x.id)])),
  ([(((Int.ofNat x.kids.length)==(0:Int)),true),((x.of==(0:Int)),true),((x.fi.r==(0:Int)&&(x.fi.g==(0:Int)&&(x.fi.b==(0:Int)&&(x.fi.a==(0:Int)&&true)))),true),(((Int.ofNat x.gU.length)==(0:Int)),false)],
   [yx x,(V.bool (x.sp==x.sp)=V.bool true),yy x],
   .to .normal (mA d X (eN x 1) true (QM (eN x 1)) [(161,.bool false),(163,L x.id)])),
  ([(((Int.ofNat x.kids.length)==(0:Int)),true),((x.of==(0:Int)),true),((x.fi.r==(0:Int)&&(x.fi.g==(0:Int)&&(x.fi.b==(0:Int)&&(x.fi.a==(0:Int)&&true)))),false)],
   [yx x,(V.bool (x.sp==x.sp)=V.bool true),yy x],
   .to .normal (mA d X (eN x 1) true (QM (eN x 1)) [(161,.bool false),(163,L x.id)])),
  ([(((Int.ofNat x.kids.length)==(0:Int)),true),((x.of==(0:Int)),false)],
   [yx x,(V.bool (x.sp==x.sp)=V.bool true),yy x],
   .to .normal (mA d X (eN x 1) true (QM (eN x 1)) [(161,.bool false),(163,L x.id)])),
  ([(((Int.ofNat x.kids.length)==(0:Int)),false)],
   [yx x,(V.bool (x.sp==x.sp)=V.bool true),yy x],
   .to .normal (mA d X (eN x 1) true (QM (eN x 1)) [(161,.bool false),(163,L x.id)]))]
 :=dh.of C C C
theorem adK(d:Dc)(X:List (Eng.D×Eng.D))(x:eG):dn (U ZI []) [(171,.split)] 2 Tryz.f93 [0,3,5,171,173] (ku (dB (dm 10 gk))) (mA d X (eN x 1) true (QM (eN x 1)) []) [([((lK (fT { k:=x.f.k,r:=x.f.r,eK:=dX (dM x.f.eK),dv:=x.f.dv,vl:=x.f.vl,cu:=dX (dM x.f.cu) }) (fT { k:=(0:Int),r:=(0:Int),eK:=dX [],dv:=(0:Int),vl:=(0:Int),cu:=dX [] })),true)],
   [(dM x.f.eK=dM (dX (dM x.f.eK))),(x.f.eK.length=(dX (dM x.f.eK)).length),(x.f.eK.length<=1000000),(dM x.f.cu=dM (dX (dM x.f.cu))),(x.f.cu.length=(dX (dM x.f.cu)).length),(x.f.cu.length<=1000000),([]=dM (dX [])),(0=0),(0<=1000000),([]=dM (dX [])),(0=0),(0<=1000000)],
   .to .normal (vz d X (eN x 1) true [(171,.bool true),(173,L x.id)])),
  ([((lK (fT { k:=x.f.k,r:=x.f.r,eK:=dX (dM x.f.eK),dv:=x.f.dv,vl:=x.f.vl,cu:=dX (dM x.f.cu) }) (fT { k:=(0:Int),r:=(0:Int),eK:=dX [],dv:=(0:Int),vl:=(0:Int),cu:=dX [] })),false)],
   [(dM x.f.eK=dM (dX (dM x.f.eK))),(x.f.eK.length=(dX (dM x.f.eK)).length),(x.f.eK.length<=1000000),(dM x.f.cu=dM (dX (dM x.f.cu))),(x.f.cu.length=(dX (dM x.f.cu)).length),(x.f.cu.length<=1000000),([]=dM (dX [])),(0=0),(0<=1000000),([]=dM (dX [])),(0=0),(0<=1000000)],
   .to .normal (vz d X (eN x 1) true [(171,.bool false),(173,L x.id)]))]
 :=dh.of C C C
theorem adL(d:Dc)(X:List (Eng.D×Eng.D))(x:eG)(b:Bool):dn (U (eZ 127 [x.pl.v] (.bool b) dY) []) [] 2 Tryz.f93 [0,3,181,183] (ku (dB (dm 11 gk))) (vz d X (eN x 1) true []) [([],
   [(V.lE ([]++[V.agg (List.take 7 (List.drop 7 x.T))]++[])=[x.pl.v])],
   .to .normal (jk d X (eN x 1) [(181,.bool b),(183,L x.id)]))]
 :=dh.of C C C
abbrev Lu:Prop:=V.lE ([]++[V.agg (List.take 1 (List.drop 28 x.T))]++[])=[oh x.fZ]
theorem adM(d:Dc)(X:List (Eng.D×Eng.D))(x:eG)(b:Bool):dn (U (eZ 126 [oh x.fZ] (.bool b) dY) []) [(205,.split)] 2 Tryz.f93 [0,3,224,226] (ku (dm 13 gk)) (jk d X (eN x 1) []) [([(b,true)],
   [Lu x],
   .to .normal (jk d X (eN x 1) [(224,.bool true),(226,L x.id)])),
  ([(b,false)],
   [Lu x],
   .to .normal (jk d X (eN x 1) [(224,.bool false),(226,L x.id)]))]
 :=dh.of C C C
theorem adN(d:Dc)(X:List (Eng.D×Eng.D))(x:eG):dn (U dY []) [] 2 Tryz.f93 [0,3,4,5] (dN 4 (dm 5 gk)) (jk d X (eN x 2) []) [([],
   [],
   .to .normal (mA d X (eN x 2) false (MP (eN x 2)) []))]
 :=dh.of C C C
abbrev Bj:Prop:=V.bool ((Int.ofNat x.kids.length)==(Int.ofNat x.kids.length))=V.bool true
theorem adO(d:Dc)(X:List (Eng.D×Eng.D))(x:eG):dn (U dY []) [(111,.split),(117,.split),(128,.split),(137,.dy (.bool true)),(144,.split),(151,.split),(160,.split)] 2 Tryz.f93 [0,3,4,5,161,163] (ku (dB (dm 9 gk))) (mA d X (eN x 2) false (MP (eN x 2)) []) [([((x.pl.a==(0:Int)&&(x.pl.b==(0:Int)&&(x.pl.c==(0:Int)&&(x.pl.d==(0:Int)&&(x.pl.e==(0:Int)&&(x.pl.f==(0:Int)&&(x.pl.n==(0:Int)&&true))))))),true),((x.sp==(0:Int)),true),(((Int.ofNat x.fZ.length)==(0:Int)),true),((x.of==(0:Int)),true),((x.fi.r==(0:Int)&&(x.fi.g==(0:Int)&&(x.fi.b==(0:Int)&&(x.fi.a==(0:Int)&&true)))),true),(((Int.ofNat x.gU.length)==(0:Int)),true)],
   [Bj x],
   .to .normal (mA d X (eN x 2) false (MP (eN x 2)) [(161,.bool true),(163,L x.id)])),
  ([((x.pl.a==(0:Int)&&(x.pl.b==(0:Int)&&(x.pl.c==(0:Int)&&(x.pl.d==(0:Int)&&(x.pl.e==(0:Int)&&(x.pl.f==(0:Int)&&(x.pl.n==(0:Int)&&true))))))),true),((x.sp==(0:Int)),true),(((Int.ofNat x.fZ.length)==(0:Int)),true),((x.of==(0:Int)),true),((x.fi.r==(0:Int)&&(x.fi.g==(0:Int)&&(x.fi.b==(0:Int)&&(x.fi.a==(0:Int)&&true)))),true),(((Int.ofNat x.gU.length)==(0:Int)),false)],
   [Bj x],
   .to .normal (mA d X (eN x 2) false (MP (eN x 2)) [(161,.bool false),(163,L x.id)])),
  ([((x.pl.a==(0:Int)&&(x.pl.b==(0:Int)&&(x.pl.c==(0:Int)&&(x.pl.d==(0:Int)&&(x.pl.e==(0:Int)&&(x.pl.f==(0:Int)&&(x.pl.n==(0:Int)&&true))))))),true),((x.sp==(0:Int)),true),(((Int.ofNat x.fZ.length)==(0:Int)),true),((x.of==(0:Int)),true),((x.fi.r==(0:Int)&&(x.fi.g==(0:Int)&&(x.fi.b==(0:Int)&&(x.fi.a==(0:Int)&&true)))),false)],
   [Bj x],
   .to .normal (mA d X (eN x 2) false (MP (eN x 2)) [(161,.bool false),(163,L x.id)])),
  ([((x.pl.a==(0:Int)&&(x.pl.b==(0:Int)&&(x.pl.c==(0:Int)&&(x.pl.d==(0:Int)&&(x.pl.e==(0:Int)&&(x.pl.f==(0:Int)&&(x.pl.n==(0:Int)&&true))))))),true),((x.sp==(0:Int)),true),(((Int.ofNat x.fZ.length)==(0:Int)),true),((x.of==(0:Int)),false)],
   [Bj x],
   .to .normal (mA d X (eN x 2) false (MP (eN x 2)) [(161,.bool false),(163,L x.id)])),
  ([((x.pl.a==(0:Int)&&(x.pl.b==(0:Int)&&(x.pl.c==(0:Int)&&(x.pl.d==(0:Int)&&(x.pl.e==(0:Int)&&(x.pl.f==(0:Int)&&(x.pl.n==(0:Int)&&true))))))),true),((x.sp==(0:Int)),true),(((Int.ofNat x.fZ.length)==(0:Int)),false)],
   [],
   .to .normal (mA d X (eN x 2) false (MP (eN x 2)) [(161,.bool false),(163,L x.id)])),
  ([((x.pl.a==(0:Int)&&(x.pl.b==(0:Int)&&(x.pl.c==(0:Int)&&(x.pl.d==(0:Int)&&(x.pl.e==(0:Int)&&(x.pl.f==(0:Int)&&(x.pl.n==(0:Int)&&true))))))),true),((x.sp==(0:Int)),false)],
   [],
   .to .normal (mA d X (eN x 2) false (MP (eN x 2)) [(161,.bool false),(163,L x.id)])),
  ([((x.pl.a==(0:Int)&&(x.pl.b==(0:Int)&&(x.pl.c==(0:Int)&&(x.pl.d==(0:Int)&&(x.pl.e==(0:Int)&&(x.pl.f==(0:Int)&&(x.pl.n==(0:Int)&&true))))))),false)],
   [],
   .to .normal (mA d X (eN x 2) false (MP (eN x 2)) [(161,.bool false),(163,L x.id)]))]
 :=dh.of C C C
theorem adP(d:Dc)(X:List (Eng.D×Eng.D))(x:eG):dn (U ZI []) [(171,.split)] 2 Tryz.f93 [0,3,5,171,173] (ku (dB (dm 10 gk))) (mA d X (eN x 2) false (MP (eN x 2)) []) [([((lK (fT { k:=x.f.k,r:=x.f.r,eK:=dX (dM x.f.eK),dv:=x.f.dv,vl:=x.f.vl,cu:=dX (dM x.f.cu) }) (fT { k:=(0:Int),r:=(0:Int),eK:=dX [],dv:=(0:Int),vl:=(0:Int),cu:=dX [] })),true)],
   [(dM x.f.eK=dM (dX (dM x.f.eK))),(x.f.eK.length=(dX (dM x.f.eK)).length),(x.f.eK.length<=1000000),(dM x.f.cu=dM (dX (dM x.f.cu))),(x.f.cu.length=(dX (dM x.f.cu)).length),(x.f.cu.length<=1000000),([]=dM (dX [])),(0=0),(0<=1000000),([]=dM (dX [])),(0=0),(0<=1000000)],
   .to .normal (vz d X (eN x 2) false [(171,.bool true),(173,L x.id)])),
  ([((lK (fT { k:=x.f.k,r:=x.f.r,eK:=dX (dM x.f.eK),dv:=x.f.dv,vl:=x.f.vl,cu:=dX (dM x.f.cu) }) (fT { k:=(0:Int),r:=(0:Int),eK:=dX [],dv:=(0:Int),vl:=(0:Int),cu:=dX [] })),false)],
   [(dM x.f.eK=dM (dX (dM x.f.eK))),(x.f.eK.length=(dX (dM x.f.eK)).length),(x.f.eK.length<=1000000),(dM x.f.cu=dM (dX (dM x.f.cu))),(x.f.cu.length=(dX (dM x.f.cu)).length),(x.f.cu.length<=1000000),([]=dM (dX [])),(0=0),(0<=1000000),([]=dM (dX [])),(0=0),(0<=1000000)],
   .to .normal (vz d X (eN x 2) false [(171,.bool false),(173,L x.id)]))]
 :=dh.of C C C
theorem adQ(d:Dc)(X:List (Eng.D×Eng.D))(x:eG):dn (U dY []) [] 2 Tryz.f93 [0,3,181,183] (ku (dB (dm 11 gk))) (vz d X (eN x 2) false []) [([],
   [],
   .to .normal (jk d X (eN x 2) [(181,.bool true),(183,L x.id)]))]
 :=dh.of C C C
abbrev Lv:Prop:=V.lE ([]++[V.agg (List.take 1 (List.drop 28 x.T))]++[])=[oh x.fZ]
theorem adR(d:Dc)(X:List (Eng.D×Eng.D))(x:eG)(b:Bool):dn (U (eZ 126 [oh x.fZ] (.bool b) dY) []) [(205,.split)] 2 Tryz.f93 [0,3,224,226] (ku (dm 13 gk)) (jk d X (eN x 2) []) [([(b,true)],
   [Lv x],
   .to .normal (jk d X (eN x 2) [(224,.bool true),(226,L x.id)])),
  ([(b,false)],
   [Lv x],
   .to .normal (jk d X (eN x 2) [(224,.bool false),(226,L x.id)]))]
 :=dh.of C C C
theorem adS(d:Dc)(X:List (Eng.D×Eng.D))(x:eG):dn (U dY []) [] 2 Tryz.f93 [0,3,4,5] (dN 4 (dm 5 gk)) (jk d X (eN x 3) []) [([],
   [],
   .to .normal (mA d X (eN x 3) false (Lt (eN x 3)) []))]
 :=dh.of C C C
theorem adT(d:Dc)(X:List (Eng.D×Eng.D))(x:eG):dn (U dY []) [(111,.split),(117,.split),(128,.split),(137,.split),(144,.split),(151,.split),(160,.split)] 2 Tryz.f93 [0,3,4,5,161,163] (ku (dB (dm 9 gk))) (mA d X (eN x 3) false (Lt (eN x 3)) []) [([((x.pl.a==(0:Int)&&(x.pl.b==(0:Int)&&(x.pl.c==(0:Int)&&(x.pl.d==(0:Int)&&(x.pl.e==(0:Int)&&(x.pl.f==(0:Int)&&(x.pl.n==(0:Int)&&true))))))),true),((x.sp==(0:Int)),true),(((Int.ofNat x.fZ.length)==(0:Int)),true),(((Int.ofNat x.kids.length)==(0:Int)),true),((x.of==(0:Int)),true),((x.fi.r==(0:Int)&&(x.fi.g==(0:Int)&&(x.fi.b==(0:Int)&&(x.fi.a==(0:Int)&&true)))),true),(((Int.ofNat x.gU.length)==(0:Int)),true)],
   [],
   .to .normal (mA d X (eN x 3) false (Lt (eN x 3)) [(161,.bool true),(163,L x.id)])),
  ([((x.pl.a==(0:Int)&&(x.pl.b==(0:Int)&&(x.pl.c==(0:Int)&&(x.pl.d==(0:Int)&&(x.pl.e==(0:Int)&&(x.pl.f==(0:Int)&&(x.pl.n==(0:Int)&&true))))))),true),((x.sp==(0:Int)),true),(((Int.ofNat x.fZ.length)==(0:Int)),true),(((Int.ofNat x.kids.length)==(0:Int)),true),((x.of==(0:Int)),true),((x.fi.r==(0:Int)&&(x.fi.g==(0:Int)&&(x.fi.b==(0:Int)&&(x.fi.a==(0:Int)&&true)))),true),(((Int.ofNat x.gU.length)==(0:Int)),false)],
   [],
   .to .normal (mA d X (eN x 3) false (Lt (eN x 3)) [(161,.bool false),(163,L x.id)])),
  ([((x.pl.a==(0:Int)&&(x.pl.b==(0:Int)&&(x.pl.c==(0:Int)&&(x.pl.d==(0:Int)&&(x.pl.e==(0:Int)&&(x.pl.f==(0:Int)&&(x.pl.n==(0:Int)&&true))))))),true),((x.sp==(0:Int)),true),(((Int.ofNat x.fZ.length)==(0:Int)),true),(((Int.ofNat x.kids.length)==(0:Int)),true),((x.of==(0:Int)),true),((x.fi.r==(0:Int)&&(x.fi.g==(0:Int)&&(x.fi.b==(0:Int)&&(x.fi.a==(0:Int)&&true)))),false)],
   [],
   .to .normal (mA d X (eN x 3) false (Lt (eN x 3)) [(161,.bool false),(163,L x.id)])),
  ([((x.pl.a==(0:Int)&&(x.pl.b==(0:Int)&&(x.pl.c==(0:Int)&&(x.pl.d==(0:Int)&&(x.pl.e==(0:Int)&&(x.pl.f==(0:Int)&&(x.pl.n==(0:Int)&&true))))))),true),((x.sp==(0:Int)),true),(((Int.ofNat x.fZ.length)==(0:Int)),true),(((Int.ofNat x.kids.length)==(0:Int)),true),((x.of==(0:Int)),false)],
   [],
   .to .normal (mA d X (eN x 3) false (Lt (eN x 3)) [(161,.bool false),(163,L x.id)])),
  ([((x.pl.a==(0:Int)&&(x.pl.b==(0:Int)&&(x.pl.c==(0:Int)&&(x.pl.d==(0:Int)&&(x.pl.e==(0:Int)&&(x.pl.f==(0:Int)&&(x.pl.n==(0:Int)&&true))))))),true),((x.sp==(0:Int)),true),(((Int.ofNat x.fZ.length)==(0:Int)),true),(((Int.ofNat x.kids.length)==(0:Int)),false)],
   [],
   .to .normal (mA d X (eN x 3) false (Lt (eN x 3)) [(161,.bool false),(163,L x.id)])),
  ([((x.pl.a==(0:Int)&&(x.pl.b==(0:Int)&&(x.pl.c==(0:Int)&&(x.pl.d==(0:Int)&&(x.pl.e==(0:Int)&&(x.pl.f==(0:Int)&&(x.pl.n==(0:Int)&&true))))))),true),((x.sp==(0:Int)),true),(((Int.ofNat x.fZ.length)==(0:Int)),false)],
   [],
   .to .normal (mA d X (eN x 3) false (Lt (eN x 3)) [(161,.bool false),(163,L x.id)])),
  ([((x.pl.a==(0:Int)&&(x.pl.b==(0:Int)&&(x.pl.c==(0:Int)&&(x.pl.d==(0:Int)&&(x.pl.e==(0:Int)&&(x.pl.f==(0:Int)&&(x.pl.n==(0:Int)&&true))))))),true),((x.sp==(0:Int)),false)],
   [],
   .to .normal (mA d X (eN x 3) false (Lt (eN x 3)) [(161,.bool false),(163,L x.id)])),
  ([((x.pl.a==(0:Int)&&(x.pl.b==(0:Int)&&(x.pl.c==(0:Int)&&(x.pl.d==(0:Int)&&(x.pl.e==(0:Int)&&(x.pl.f==(0:Int)&&(x.pl.n==(0:Int)&&true))))))),false)],
   [],
   .to .normal (mA d X (eN x 3) false (Lt (eN x 3)) [(161,.bool false),(163,L x.id)]))]
 :=dh.of C C C
theorem adU(d:Dc)(X:List (Eng.D×Eng.D))(x:eG):dn (U ZI []) [(171,.dy (.bool true))] 2 Tryz.f93 [0,3,5,171,173] (ku (dB (dm 10 gk))) (mA d X (eN x 3) false (Lt (eN x 3)) []) [([],
   [(dM x.f.eK=dM (dX (dM x.f.eK))),(x.f.eK.length=(dX (dM x.f.eK)).length),(x.f.eK.length<=1000000),(dM x.f.cu=dM (dX (dM x.f.cu))),(x.f.cu.length=(dX (dM x.f.cu)).length),(x.f.cu.length<=1000000),(dM x.f.eK=dM (dX (dM x.f.eK))),(x.f.eK.length=(dX (dM x.f.eK)).length),(x.f.eK.length<=1000000),(dM x.f.cu=dM (dX (dM x.f.cu))),(x.f.cu.length=(dX (dM x.f.cu)).length),(x.f.cu.length<=1000000),(V.bool (lK (fT { k:=x.f.k,r:=x.f.r,eK:=dX (dM x.f.eK),dv:=x.f.dv,vl:=x.f.vl,cu:=dX (dM x.f.cu) }) (fT { k:=x.f.k,r:=x.f.r,eK:=dX (dM x.f.eK),dv:=x.f.dv,vl:=x.f.vl,cu:=dX (dM x.f.cu) }))=V.bool true)],
   .to .normal (vz d X (eN x 3) false [(171,.bool true),(173,L x.id)]))]
 :=dh.of C C C
theorem adV(d:Dc)(X:List (Eng.D×Eng.D))(x:eG):dn (U dY []) [] 2 Tryz.f93 [0,3,181,183] (ku (dB (dm 11 gk))) (vz d X (eN x 3) false []) [([],
   [],
   .to .normal (jk d X (eN x 3) [(181,.bool true),(183,L x.id)]))]
 :=dh.of C C C
abbrev Bk:Prop:=V.lE ([]++[V.agg (List.take 1 (List.drop 28 x.T))]++[])=[oh x.fZ]
abbrev Lw:Prop:=V.lE ([]++[V.agg (List.take 6 (List.drop 17 x.T))]++[])=[x.f.v]
theorem adW(d:Dc)(X:List (Eng.D×Eng.D))(x:eG)(b c:Bool):dn (U (eZ 128 [x.f.v] (.bool c) (eZ 126 [oh x.fZ] (.bool b) dY)) []) [(205,.split),(215,.split)] 2 Tryz.f93 [0,3,224,226] (ku (dm 13 gk)) (jk d X (eN x 3) []) [([(b,true),(c,true)],
   [Bk x,Lw x],
   .to .normal (jk d X (eN x 3) [(224,.bool true),(226,L x.id)])),
  ([(b,true),(c,false)],
   [Bk x,Lw x],
   .to .normal (jk d X (eN x 3) [(224,.bool false),(226,L x.id)])),
  ([(b,false),(false,true)],
   [Bk x],
   .to .normal (jk d X (eN x 3) [(224,.bool true),(226,L x.id)])),
  ([(b,false),(false,false)],
   [Bk x],
   .to .normal (jk d X (eN x 3) [(224,.bool false),(226,L x.id)]))]
 :=dh.of C C C
theorem adX(d:Dc)(X:List (Eng.D×Eng.D))(x:eG):dn (U dY []) [] 2 Tryz.f93 [0,3,4,5] (dN 4 (dm 5 gk)) (jk d X (eN x 4) []) [([],
   [],
   .to .normal (mA d X (eN x 4) true (Ni (eN x 4)) []))]
 :=dh.of C C C
abbrev vn:Prop:=V.bool (x.pl.a==x.pl.a&&(x.pl.b==x.pl.b&&(x.pl.c==x.pl.c&&(x.pl.d==x.pl.d&&(x.pl.e==x.pl.e&&(x.pl.f==x.pl.f&&(x.pl.n==x.pl.n&&true)))))))=V.bool true
theorem adY(d:Dc)(X:List (Eng.D×Eng.D))(x:eG):dn (U dY []) [(111,.dy (.bool true)),(117,.split),(128,.split),(137,.split),(144,.dy (.bool true)),(151,.split),(160,.split)] 2 Tryz.f93 [0,3,4,5,161,163] (ku (dB (dm 9 gk))) (mA d X (eN x 4) true (Ni (eN x 4)) []) [([((x.sp==(0:Int)),true),(((Int.ofNat x.fZ.length)==(0:Int)),true),(((Int.ofNat x.kids.length)==(0:Int)),true),((x.fi.r==(0:Int)&&(x.fi.g==(0:Int)&&(x.fi.b==(0:Int)&&(x.fi.a==(0:Int)&&true)))),true),(((Int.ofNat x.gU.length)==(0:Int)),true)],
   [vn x,(V.bool (x.of==x.of)=V.bool true)],
   .to .normal (mA d X (eN x 4) true (Ni (eN x 4)) [(161,.bool true),(163,L x.id)])),
  ([((x.sp==(0:Int)),true),(((Int.ofNat x.fZ.length)==(0:Int)),true),(((Int.ofNat x.kids.length)==(0:Int)),true),((x.fi.r==(0:Int)&&(x.fi.g==(0:Int)&&(x.fi.b==(0:Int)&&(x.fi.a==(0:Int)&&true)))),true),(((Int.ofNat x.gU.length)==(0:Int)),false)],
   [vn x,(V.bool (x.of==x.of)=V.bool true)],
   .to .normal (mA d X (eN x 4) true (Ni (eN x 4)) [(161,.bool false),(163,L x.id)])),
  ([((x.sp==(0:Int)),true),(((Int.ofNat x.fZ.length)==(0:Int)),true),(((Int.ofNat x.kids.length)==(0:Int)),true),((x.fi.r==(0:Int)&&(x.fi.g==(0:Int)&&(x.fi.b==(0:Int)&&(x.fi.a==(0:Int)&&true)))),false)],
   [vn x,(V.bool (x.of==x.of)=V.bool true)],
   .to .normal (mA d X (eN x 4) true (Ni (eN x 4)) [(161,.bool false),(163,L x.id)])),
  ([((x.sp==(0:Int)),true),(((Int.ofNat x.fZ.length)==(0:Int)),true),(((Int.ofNat x.kids.length)==(0:Int)),false)],
   [vn x],
   .to .normal (mA d X (eN x 4) true (Ni (eN x 4)) [(161,.bool false),(163,L x.id)])),
  ([((x.sp==(0:Int)),true),(((Int.ofNat x.fZ.length)==(0:Int)),false)],
   [vn x],
   .to .normal (mA d X (eN x 4) true (Ni (eN x 4)) [(161,.bool false),(163,L x.id)])),
  ([((x.sp==(0:Int)),false)],
   [vn x],
   .to .normal (mA d X (eN x 4) true (Ni (eN x 4)) [(161,.bool false),(163,L x.id)]))]
 :=dh.of C C C
theorem adZ(d:Dc)(X:List (Eng.D×Eng.D))(x:eG):dn (U ZI []) [(171,.split)] 2 Tryz.f93 [0,3,5,171,173] (ku (dB (dm 10 gk))) (mA d X (eN x 4) true (Ni (eN x 4)) []) [([((lK (fT { k:=x.f.k,r:=x.f.r,eK:=dX (dM x.f.eK),dv:=x.f.dv,vl:=x.f.vl,cu:=dX (dM x.f.cu) }) (fT { k:=(0:Int),r:=(0:Int),eK:=dX [],dv:=(0:Int),vl:=(0:Int),cu:=dX [] })),true)],
   [(dM x.f.eK=dM (dX (dM x.f.eK))),(x.f.eK.length=(dX (dM x.f.eK)).length),(x.f.eK.length<=1000000),(dM x.f.cu=dM (dX (dM x.f.cu))),(x.f.cu.length=(dX (dM x.f.cu)).length),(x.f.cu.length<=1000000),([]=dM (dX [])),(0=0),(0<=1000000),([]=dM (dX [])),(0=0),(0<=1000000)],
   .to .normal (vz d X (eN x 4) true [(171,.bool true),(173,L x.id)])),
  ([((lK (fT { k:=x.f.k,r:=x.f.r,eK:=dX (dM x.f.eK),dv:=x.f.dv,vl:=x.f.vl,cu:=dX (dM x.f.cu) }) (fT { k:=(0:Int),r:=(0:Int),eK:=dX [],dv:=(0:Int),vl:=(0:Int),cu:=dX [] })),false)],
   [(dM x.f.eK=dM (dX (dM x.f.eK))),(x.f.eK.length=(dX (dM x.f.eK)).length),(x.f.eK.length<=1000000),(dM x.f.cu=dM (dX (dM x.f.cu))),(x.f.cu.length=(dX (dM x.f.cu)).length),(x.f.cu.length<=1000000),([]=dM (dX [])),(0=0),(0<=1000000),([]=dM (dX [])),(0=0),(0<=1000000)],
   .to .normal (vz d X (eN x 4) true [(171,.bool false),(173,L x.id)]))]
 :=dh.of C C C
theorem ad0(d:Dc)(X:List (Eng.D×Eng.D))(x:eG)(b:Bool):dn (U (eZ 127 [x.pl.v] (.bool b) dY) []) [] 2 Tryz.f93 [0,3,181,183] (ku (dB (dm 11 gk))) (vz d X (eN x 4) true []) [([],
   [(V.lE ([]++[V.agg (List.take 7 (List.drop 7 x.T))]++[])=[x.pl.v])],
   .to .normal (jk d X (eN x 4) [(181,.bool b),(183,L x.id)]))]
 :=dh.of C C C
abbrev Lx:Prop:=V.lE ([]++[V.agg (List.take 1 (List.drop 28 x.T))]++[])=[oh x.fZ]
theorem ad1(d:Dc)(X:List (Eng.D×Eng.D))(x:eG)(b:Bool):dn (U (eZ 126 [oh x.fZ] (.bool b) dY) []) [(205,.split)] 2 Tryz.f93 [0,3,224,226] (ku (dm 13 gk)) (jk d X (eN x 4) []) [([(b,true)],
   [Lx x],
   .to .normal (jk d X (eN x 4) [(224,.bool true),(226,L x.id)])),
  ([(b,false)],
   [Lx x],
   .to .normal (jk d X (eN x 4) [(224,.bool false),(226,L x.id)]))]
 :=dh.of C C C
theorem ad2(d:Dc)(X:List (Eng.D×Eng.D))(x:eG):dn (U dY []) [] 2 Tryz.f93 [0,3,4,5] (dN 4 (dm 5 gk)) (jk d X (eN x 5) []) [([],
   [],
   .to .normal (mA d X (eN x 5) false (Nj (eN x 5)) []))]
 :=dh.of C C C
theorem ad3(d:Dc)(X:List (Eng.D×Eng.D))(x:eG):dn (U dY []) [(111,.split),(117,.split),(128,.split),(137,.split),(144,.split),(151,.dy (.bool true)),(160,.dy (.bool true))] 2 Tryz.f93 [0,3,4,5,161,163] (ku (dB (dm 9 gk))) (mA d X (eN x 5) false (Nj (eN x 5)) []) [([((x.pl.a==(0:Int)&&(x.pl.b==(0:Int)&&(x.pl.c==(0:Int)&&(x.pl.d==(0:Int)&&(x.pl.e==(0:Int)&&(x.pl.f==(0:Int)&&(x.pl.n==(0:Int)&&true))))))),true),((x.sp==(0:Int)),true),(((Int.ofNat x.fZ.length)==(0:Int)),true),(((Int.ofNat x.kids.length)==(0:Int)),true),((x.of==(0:Int)),true)],
   [(V.bool (x.fi.r==x.fi.r&&(x.fi.g==x.fi.g&&(x.fi.b==x.fi.b&&(x.fi.a==x.fi.a&&true))))=V.bool true),(V.bool ((Int.ofNat x.gU.length)==(Int.ofNat x.gU.length))=V.bool true)],
   .to .normal (mA d X (eN x 5) false (Nj (eN x 5)) [(161,.bool true),(163,L x.id)])),
  ([((x.pl.a==(0:Int)&&(x.pl.b==(0:Int)&&(x.pl.c==(0:Int)&&(x.pl.d==(0:Int)&&(x.pl.e==(0:Int)&&(x.pl.f==(0:Int)&&(x.pl.n==(0:Int)&&true))))))),true),((x.sp==(0:Int)),true),(((Int.ofNat x.fZ.length)==(0:Int)),true),(((Int.ofNat x.kids.length)==(0:Int)),true),((x.of==(0:Int)),false)],
   [],
   .to .normal (mA d X (eN x 5) false (Nj (eN x 5)) [(161,.bool false),(163,L x.id)])),
  ([((x.pl.a==(0:Int)&&(x.pl.b==(0:Int)&&(x.pl.c==(0:Int)&&(x.pl.d==(0:Int)&&(x.pl.e==(0:Int)&&(x.pl.f==(0:Int)&&(x.pl.n==(0:Int)&&true))))))),true),((x.sp==(0:Int)),true),(((Int.ofNat x.fZ.length)==(0:Int)),true),(((Int.ofNat x.kids.length)==(0:Int)),false)],
   [],
   .to .normal (mA d X (eN x 5) false (Nj (eN x 5)) [(161,.bool false),(163,L x.id)])),
  ([((x.pl.a==(0:Int)&&(x.pl.b==(0:Int)&&(x.pl.c==(0:Int)&&(x.pl.d==(0:Int)&&(x.pl.e==(0:Int)&&(x.pl.f==(0:Int)&&(x.pl.n==(0:Int)&&true))))))),true),((x.sp==(0:Int)),true),(((Int.ofNat x.fZ.length)==(0:Int)),false)],
   [],
   .to .normal (mA d X (eN x 5) false (Nj (eN x 5)) [(161,.bool false),(163,L x.id)])),
  ([((x.pl.a==(0:Int)&&(x.pl.b==(0:Int)&&(x.pl.c==(0:Int)&&(x.pl.d==(0:Int)&&(x.pl.e==(0:Int)&&(x.pl.f==(0:Int)&&(x.pl.n==(0:Int)&&true))))))),true),((x.sp==(0:Int)),false)],
   [],
   .to .normal (mA d X (eN x 5) false (Nj (eN x 5)) [(161,.bool false),(163,L x.id)])),
  ([((x.pl.a==(0:Int)&&(x.pl.b==(0:Int)&&(x.pl.c==(0:Int)&&(x.pl.d==(0:Int)&&(x.pl.e==(0:Int)&&(x.pl.f==(0:Int)&&(x.pl.n==(0:Int)&&true))))))),false)],
   [],
   .to .normal (mA d X (eN x 5) false (Nj (eN x 5)) [(161,.bool false),(163,L x.id)]))]
 :=dh.of C C C
theorem ad4(d:Dc)(X:List (Eng.D×Eng.D))(x:eG):dn (U ZI []) [(171,.split)] 2 Tryz.f93 [0,3,5,171,173] (ku (dB (dm 10 gk))) (mA d X (eN x 5) false (Nj (eN x 5)) []) [([((lK (fT { k:=x.f.k,r:=x.f.r,eK:=dX (dM x.f.eK),dv:=x.f.dv,vl:=x.f.vl,cu:=dX (dM x.f.cu) }) (fT { k:=(0:Int),r:=(0:Int),eK:=dX [],dv:=(0:Int),vl:=(0:Int),cu:=dX [] })),true)],
   [(dM x.f.eK=dM (dX (dM x.f.eK))),(x.f.eK.length=(dX (dM x.f.eK)).length),(x.f.eK.length<=1000000),(dM x.f.cu=dM (dX (dM x.f.cu))),(x.f.cu.length=(dX (dM x.f.cu)).length),(x.f.cu.length<=1000000),([]=dM (dX [])),(0=0),(0<=1000000),([]=dM (dX [])),(0=0),(0<=1000000)],
   .to .normal (vz d X (eN x 5) false [(171,.bool true),(173,L x.id)])),
  ([((lK (fT { k:=x.f.k,r:=x.f.r,eK:=dX (dM x.f.eK),dv:=x.f.dv,vl:=x.f.vl,cu:=dX (dM x.f.cu) }) (fT { k:=(0:Int),r:=(0:Int),eK:=dX [],dv:=(0:Int),vl:=(0:Int),cu:=dX [] })),false)],
   [(dM x.f.eK=dM (dX (dM x.f.eK))),(x.f.eK.length=(dX (dM x.f.eK)).length),(x.f.eK.length<=1000000),(dM x.f.cu=dM (dX (dM x.f.cu))),(x.f.cu.length=(dX (dM x.f.cu)).length),(x.f.cu.length<=1000000),([]=dM (dX [])),(0=0),(0<=1000000),([]=dM (dX [])),(0=0),(0<=1000000)],
   .to .normal (vz d X (eN x 5) false [(171,.bool false),(173,L x.id)]))]
 :=dh.of C C C
theorem ad5(d:Dc)(X:List (Eng.D×Eng.D))(x:eG):dn (U dY []) [] 2 Tryz.f93 [0,3,181,183] (ku (dB (dm 11 gk))) (vz d X (eN x 5) false []) [([],
   [],
   .to .normal (jk d X (eN x 5) [(181,.bool true),(183,L x.id)]))]
 :=dh.of C C C
abbrev Ly:Prop:=V.lE ([]++[V.agg (List.take 1 (List.drop 28 x.T))]++[])=[oh x.fZ]
theorem ad6(d:Dc)(X:List (Eng.D×Eng.D))(x:eG)(b c:Bool):dn (U (eZ 129 [wM x.gU] (.bool c) (eZ 126 [oh x.fZ] (.bool b) dY)) []) [(205,.split)] 2 Tryz.f93 [0,3,224,226] (ku (dm 13 gk)) (jk d X (eN x 5) []) [([(b,true)],
   [Ly x,(V.lE ([]++[wM x.gU]++[])=[wM x.gU])],
   .to .normal (jk d X (eN x 5) [(224,.bool c),(226,L x.id)])),
  ([(b,false)],
   [Ly x],
   .to .normal (jk d X (eN x 5) [(224,.bool false),(226,L x.id)]))]
 :=dh.of C C C
theorem aoW(d:Dc)(X:List (Eng.D×Eng.D))(x:eG):dn (U dY []) [(187,.split),(197,.split)] 2 Tryz.f93 [0,3,198,200] (ku (dB (dm 12 gk))) (jk d X x []) [([((decide (x.sp>=(0:Int))),true),((decide (x.sp<=(Int.ofNat d.sp.length))),true)],
   [],
   .to .normal (jk d X x [(198,.bool true),(200,L x.id)])),
  ([((decide (x.sp>=(0:Int))),true),((decide (x.sp<=(Int.ofNat d.sp.length))),false)],
   [],
   .to .normal (jk d X x [(198,.bool false),(200,L x.id)])),
  ([((decide (x.sp>=(0:Int))),false)],
   [],
   .to .normal (jk d X x [(198,.bool false),(200,L x.id)]))]
 :=dh.of C C C
end
end Go.Proofs.YtmjggdmekboefaaGreat
