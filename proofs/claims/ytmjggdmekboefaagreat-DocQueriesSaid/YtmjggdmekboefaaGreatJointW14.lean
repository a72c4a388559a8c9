/- The Doc laws: the program's demand, whatever it finds; statements that end with it. No conditions. -/
import Derived.Test.YtmjggdmekboefaaGreatJointW12
import Derived.Test.YtmjggdmekboefaaGreatJointW13
import Derived.Shelf.Strings.FuncGrows
import Derived.Shelf.Small.Strs
import Derived.Scope
set_option linter.unusedVariables false
set_option linter.unusedSimpArgs false
set_option linter.unusedSectionVars false
namespace Go.Proofs.YtmjggdmekboefaaGreat
open Go Go.Eng
set_option maxRecDepth 10000
def D6(p:Int×Int):V:=.iface 99 (.agg [R p.1,R p.2])
noncomputable def afT(N:Nat)(fn:Func)(c:Code)(s:St):Option (V×qb×I es×Nat):=match gY ak (fun _ _ _ _=>none) 20 c s with
 |some (.panic v,T)=>match Oy ak N fn T (.nI v false)with
  |some r=>some (v,r)
  |none=>none
 |_=>none
theorem Vl{N n0:Nat}{fn:Func}{c:Code}{s:St}{v:V}{o:qb}{h:I es}{n:Nat}{iX:qb->I es->Nat->Prop}(e:afT N fn c s=some (v,o,h,n))(hv:v.free=true)(hR:iX o h n)(A:fe n0 c=true:=by kernel_rfl):TG ak N n0 c s (DP ak N fn iX):=by
 unfold afT at e;split at e
 case h_2=>cases e
 rename_i v' T he;split at e
 case h_2=>cases e
 rename_i r hr;simp only[aq,aB]at e;obtain⟨rfl,rfl⟩:=e;exact R9 (fr:=20) (fun _ _ _ _ _ _ _ e=>by cases e) mo A he hv fun ch hp=>.DQ hp hr hR
theorem MJ(a b:Int):Sb ak 89 [.bool false,R a,R b] (D6 (a,b)):=
 Sc (o:=.nI (D6 (a,b))) mo po Tryz.func89 (code:=dQ Tryz.f89) dJ dJ dJ rfl
  (Vl (N:=0) (v:=D6 (a,b)) (o:=.nI (D6 (a,b))) (h:=.nil) (n:=0) dJ rfl rfl)
noncomputable def JB(k:Nat)(c:Code)(s:St):Option iX:=match lV k c with
 | [o]=>match o.guard with
   |none=>eG ak o s.F s.h s.n
   |some _=>none
 |_=>none
def Se(N k:Nat)(live:List Nat)(c:Code)(s:St):Option St:=match lV k c with
 | [o]=>match Go.Eng.jR s.F o.dst (.gK [])with
   |some F=>lB N live { s with F:=F }
   |none=>none
 |_=>none
section
variable{N n0:Nat}{c:Code}{s:St}{Q:Exit->St->Prop}{ks:gG}{hh:List (Nat×List (Nat×mH))}{dG:List (Nat×mH)}{fn:Func}{live:List Nat}{dD:List (List (Bool×Bool)×ah×ko)}
theorem JC{a:ag}{v:V}(h:ee ak 89 a v):jM ak 89 (fun args h n=>some ([V.jj args=a],v,h,n)):=by
 refine⟨aE dJ,fun args h' n hc v' C n2 e hA E w dZ ra g hd _=>?_⟩;simp only[aq,aB]at e;obtain⟨rfl,rfl,rfl,rfl⟩:=e;have e1:V.jj args=a:=hA _ (by simp);exact h E _ _ w dZ (e1▸tN _ _ ra) g hd
section
variable(k:Nat)
theorem Oz(fm:fo ak ks)(β:Bool)(dF:Bool->St)(e a:Int)(y9:List Nat)(S1:St)(hr:H (M ks hh) dG N fn live (Ez k c) s dD)(h:∀g∈dD,(∀b∈g.1,b.1=b.2)->(∀a∈g.2.1,a)/\g.2.2= .to .normal (dF β))
  (ho:∀b,JB k c (dF b)=some (.call 89 [.bool b,R e,R a])) (hn:Se N k y9 c (dF true)=some S1) (k1:β=true->∀T,kF N n0 T S1->Q .normal T) (k2:β=false->∀ch,BP (D6 (e,a)) ch->Q (.panic ch) (dF false))
  (hs:(fe n0 c&&(EA k c&&(lV k c).all fun o=>match o.dst with|some d=>decide (d<n0)|none=>true))=true:=by kernel_rfl):TG ak N n0 c s Q:=by
 simp only[ay]at hs;obtain⟨h1,C,h3⟩:=hs;obtain⟨hm,hr⟩:=hr;have hd:∀x∈lV k c,nw n0 x.dst:=fun x K d hd=>by
  have:=bw.1 h3 x K;rw[hd]at this;exact aZ this
 refine Cd k (XH fm hh) mo h1 C hr fun g hg A=>?_;obtain⟨q1,q2⟩:=h g hg A;refine⟨q1,_,q2,?_⟩;have ho:=ho β;unfold JB at ho;unfold Se at hn;generalize lV k c=l at *;split at ho
 case h_2=>cases ho
 rename_i o;split at ho
 case h_2=>cases ho
 rename_i Tv;cases β with
 |true=>
  simp only at hn;split at hn
  case h_2=>cases hn
  rename_i F zz;exact G2 (hd o (aI.2 rfl)) Tv ho (JC (MG e a)) rfl (eO rfl) zz (k1 rfl _ (kF.norm hn))
 |false=>
  exact Cc hd Tv ho (G4 dJ (MJ e a)) rfl (eO rfl) rfl fun ch hp=>k2 rfl ch hp
noncomputable def Xl(N:Nat)(fn:Func)(k:Nat)(c:Code)(s:St):Option (qb×I es×Nat):=match lV k c with
 | [o]=>match Go.Eng.jR s.F o.dst (.gK [])with
   |some F=>Oy ak N fn { s with F:=F } .ret
   |none=>none
 |_=>none
theorem JD(fm:fo ak ks)(β:Bool)(dF:Bool->St)(e a:Int){iX:qb->I es->Nat->Prop}{o1:qb}{h1:I es}{n1:Nat}(hr:H (M ks hh) dG N fn live (Ez k c) s dD)(h:∀g∈dD,(∀b∈g.1,b.1=b.2)->(∀a∈g.2.1,a)/\g.2.2= .to .normal (dF β))
  (ho:∀b,JB k c (dF b)=some (.call 89 [.bool b,R e,R a])) (hn:Xl N fn k c (dF true)=some (o1,h1,n1)) (k1:β=true->iX o1 h1 n1) (k2:β=false->∀ch,BP (D6 (e,a)) ch->DP ak N fn iX (.panic ch) (dF false))
  (hs:(fe n0 c&&(EA k c&&(lV k c).all fun o=>match o.dst with|some d=>decide (d<n0)|none=>true))=true:=by kernel_rfl):TG ak N n0 c s (DP ak N fn iX):=by
 simp only[ay]at hs;obtain⟨h1,C,h3⟩:=hs;obtain⟨hm,hr⟩:=hr;have hd:∀x∈lV k c,nw n0 x.dst:=fun x K d hd=>by
  have:=bw.1 h3 x K;rw[hd]at this;exact aZ this
 refine Cd k (XH fm hh) mo h1 C hr fun g hg A=>?_;obtain⟨q1,q2⟩:=h g hg A;refine⟨q1,_,q2,?_⟩;have ho:=ho β;unfold JB at ho;unfold Xl at hn;generalize lV k c=l at *;split at ho
 case h_2=>cases ho
 rename_i o;split at ho
 case h_2=>cases ho
 rename_i Tv;cases β with
 |true=>
  simp only at hn;split at hn
  case h_2=>cases hn
  rename_i F zz;exact G2 (hd o (aI.2 rfl)) Tv ho (JC (MG e a)) rfl (eO rfl) zz ⟨.ret,trivial,_,_,_,hn,k1 rfl⟩
 |false=>
  exact Cc hd Tv ho (G4 dJ (MJ e a)) rfl (eO rfl) rfl fun ch hp=>k2 rfl ch hp
theorem kJ(fm:fo ak ks)(β:Bool)(dF:Bool->St)(e a:Int)(y9:List Nat)(S1:St)(hr:H (M ks hh) dG N fn live (Ez k (dO c)) s dD)(h:∀g∈dD,(∀b∈g.1,b.1=b.2)->(∀a∈g.2.1,a)/\g.2.2= .to .normal (dF β))
  (ho:∀b,JB k (dO c) (dF b)=some (.call 89 [.bool b,R e,R a])) (hn:Se N k y9 (dO c) (dF true)=some S1) (k1:β=true->TG ak N n0 (eB c) S1 Q) (k2:β=false->∀ch,BP (D6 (e,a)) ch->Q (.panic ch) (dF false))
  (hs:(sB c&&(fe n0 (dO c)&&(EA k (dO c)&&(lV k (dO c)).all fun o=>match o.dst with|some d=>decide (d<n0)|none=>true)))=true:=by kernel_rfl):TG ak N n0 c s Q:=by
 rw[ay]at hs;exact dY hs.1 (Oz k fm β dF e a y9 S1 hr h ho hn (fun q T eu=>eu.xC _ _ (k1 q)) (fun q ch hp=>k2 q ch hp) hs.2)
def JE(c:Code):Code:=.region 0 (lV k c).toArray false
def aqb(c:Code):Bool:=(lV k c).all fun o=>o.guard.isNone
theorem afU(ms lv:List Nat)(fm:fo ak ks){hc aj:ah}{s1 s2:St}(hr:H (M ks hh) dG N fn live (Ez k c) s [([],hc,.to .normal s1)])(hA:∀a∈hc,a)(hf:Fl N ms lv s1=some (aj,s2))(hB:∀b∈aj,b)
  {W2:gG} {Tk:List (Nat×List (Nat×mH))} {H2:List (Nat×mH)} {y9:List Nat} (X2:fo ak W2) (hr2:H (M W2 Tk) H2 N fn y9 (JE k c) s2 dD) (h:∀g∈dD,(∀b∈g.1,b.1=b.2)->(∀a∈g.2.1,a)/\∃s3,g.2.2= .to .normal s3/\∀T,eJ ak N n0 T s3->Q .normal T)
  (hs:(fe n0 c&&(EA k c&&(aqb k c&&fe n0 (JE k c))))=true:=by kernel_rfl):TG ak N n0 c s Q:=by
 simp only[ay]at hs;obtain⟨h1,C,h3,h4⟩:=hs;obtain⟨hm,hr⟩:=hr;obtain⟨L2,hr2⟩:=hr2;refine Cd k (XH fm hh) mo h1 C hr (acL ?_);refine⟨hA,s1,rfl,MH (kF.Fl ms lv hf hB) ?_⟩;obtain⟨g,hg,ho,s3,T,N9,Mb,he2⟩:=Ca (X':=XH X2 Tk) hr2 fun g hg ho=>by
  obtain⟨h1,s3,C,_⟩:=h g hg ho;exact⟨h1,s3,C⟩
 obtain⟨_,s3',e3,hq⟩:=h g hg ho;rw[N9]at e3;cases e3;simp only[JE,gY]at he2;simp only[JE,fe,ay]at h4;rw[xP (ops':=Ox c)]at he2
 . exact DO (XH X2 Tk).ok (fun o ho d hod=>by have:=bw.1 h4.1 o (by simpa using ho);rw[hod]at this;exact aZ this) he2 rfl (hq T (eJ.norm Mb))
 . intro o ho F;have:=bw.1 h3 o ho;unfold gq;cases hg:o.guard with
   |none=>rfl
   |some q=>rw[hg]at this;cases this
def RQ(N n0:Nat)(Q:Exit->St->Prop)(y:Exit)(s:St):Prop:=∃dF,kF N n0 s dF/\Q y dF
end
theorem Sf(h:TG ak N n0 c s (RQ N n0 Q)):TG ak N n0 c s Q:=fun E a w hx r hn k=>h E a w hx r hn fun y T E' a' w' ⟨dF,hr,hq⟩ u oy r'=>by
 obtain⟨qQ,E2,r2,u2⟩:=hr E' a' w' r' oy;exact k y dF E2 a' w' hq (u.trans u2) qQ r2
theorem RQ.of{y:Exit}{s:St}(h:Q y s):RQ N n0 Q y s:=⟨s,fun E a w r hn=>⟨hn,E,r,mO.refl r.good⟩,h⟩
theorem vB(b n:Nat)(dF:Nat->St)(t:Nat->Bool)(h0:kF N n0 s (dF 0))
  (U:∀i,i<=n->(∀j,j<i->t j=false)->∀Q':Exit->St->Prop,(i<n->t i=false->∀T,kF N n0 T (dF (i+1))->Q' .normal T)->(i=n->∀T,kF N n0 T (dF i)->Q' (.exit b) T)->(∀ch T,Q (.panic ch) T->Q' (.panic ch) T)->TG ak N n0 (dP (dP c)) (dF i) Q')
  (he:(∀j,j<n->t j=false)->∀T,kF N n0 T (dF n)->Q .normal T) (hs:(nC c b&&o4 (dP c))=true:=by kernel_rfl):TG ak N n0 c s Q:=by
 rw[ay]at hs;refine fJ (i:=b) hs.1 (j9 (fun m s=>∃i,m=n-i/\i<=n/\(∀j,j<i->t j=false)/\kF N n0 s (dF i)) hs.2 ?_ n ⟨0,S,aR _,fun _ h=>absurd h (bE _),h0⟩);rintro m s1 ⟨i,rfl,hi,hj,hg⟩;refine hg.xC _ _ (U i hi hj _ (fun h1 C T eu=>?_) (fun h1 T eu=>?_) (fun ch T h=>?_))
 . simp only[andThen];refine⟨n-(i+1),S,i+1,rfl,h1,fun j W8=>?_,eu⟩;rcases bx j i with q|q
   . exact hj j q
   . obtain rfl:j=i:=by omega
     exact C
 . subst h1;simp only[andThen];rw[jc];exact he hj T eu
 . simp only[andThen,gT];exact h
end
set_option maxRecDepth 10000
section
variable(k n x a b y:Int)
def ptB:Bool:=decide (n>=2)&&decide (n<=257)
def rQ:Bool:=decide (x>=a)&&decide (x<=b)
def Lt:ag->Option (ah×V)
 | [.int .i64 n]=>some ([],.bool (ptB n))
 |_=>none
def Lu:ag->Option (ah×V)
 | [.int .i64 x,.int .i64 a,.int .i64 b]=>some ([],.bool (rQ x a b))
 |_=>none
noncomputable abbrev Wpt:gG:=jC 147 (ic Lt) ew
noncomputable abbrev Xm:gG:=jC 161 (ic Lu) ew
theorem aqd:H (M Wpt []) [] 0 Tryz.f121 [] (dQ Tryz.f121) (dI [fD []] .nil 0) [([],[],ji)]:=G.Y
abbrev Sg(l:List Int)(m:Nat):Prop:=V.int B (IntKind.i64.wrap ((Int.ofNat l.length)-(1:Int)))=J m
theorem aqe(l:List Int)(m:Nat)(x y:Int)(b:Bool):H (M (fa 148 [fD l] (.bool b) Wpt) []) [(8,.dL (.eo [.int .i64 x])),(16,.dL (J m)),(17,.dL (.eo [.int .i64 y])),(6,.split),(10,.split),(19,.split)] 0 Tryz.f121 [] (dQ Tryz.f121) (dI [fD l] .nil 0) (N4 (ptB (Int.ofNat l.length)) (decide (x>=(0:Int))) (decide (y<=(65535:Int))) ([(0:Int)<=(0:Int)/\(0:Int)<(Int.ofNat l.length),jo l,V.eo (dU (eL l) 0 1)=V.eo [D.int B x],Sg l m,fT m l.length,jo l,gv (eL l) m 1 [D.int B y],V.jj ([]++[fD l]++[])=[fD l]],.ret (.bool b) (hL []) 0) ([(0:Int)<=(0:Int)/\(0:Int)<(Int.ofNat l.length),jo l,V.eo (dU (eL l) 0 1)=V.eo [D.int B x],Sg l m,fT m l.length,jo l,gv (eL l) m 1 [D.int B y]],ji) ([(0:Int)<=(0:Int)/\(0:Int)<(Int.ofNat l.length),jo l,V.eo (dU (eL l) 0 1)=V.eo [D.int B x]],ji) ([],ji)):=G.Y
noncomputable abbrev Vm:Code:=dQ Tryz.f158
noncomputable abbrev bAw:Code:=dP (dP (eB (dO (dH 1 Vm))))
def sAw(l:List Int)(i:Nat):St:=fI [(0,R k),(7,fD l),(8,J l.length),(9,J i)] (hL []) 0
theorem aqf(l:List Int):H (M ew []) [] 0 Tryz.f158 [0,1] (ek 1 Vm) (dI [R k,fD l] .nil 0) [([],[],eC (dI [R k,fD l] .nil 0))]:=G.Y
theorem aqg(l:List Int):H (M ew []) [] 0 Tryz.f158 [0,7,8,9] (dO (dO (dH 1 Vm))) (dI [R k,fD l] .nil 0) [([],[],eC (sAw k l 0))]:=G.Y
theorem aqh(l:List Int)(i:Nat)(x:Int):H (M ew []) [(10,.dL (.bool true)),(11,.dL (.eo [.int .i64 x])),(16,.split),(20,.split),(22,.dL (J (i+1)))] 0 Tryz.f158 [0,7,8,9] (bAw) (sAw k l i) (Ut (decide (x<IntKind.i64.wrap ((0:Int)-k))) (decide (x>k)) ([kr (decide (Int.ofNat i<Int.ofNat l.length)),fT i l.length,jo l,gv (eL l) i 1 [D.int B x]],ji) ([kr (decide (Int.ofNat i<Int.ofNat l.length)),fT i l.length,jo l,gv (eL l) i 1 [D.int B x],oq i],eC (sAw k l (i+1)))):=G.Y
theorem aqi(l:List Int)(i:Nat):H (M ew []) [(10,.dL (.bool false))] 0 Tryz.f158 [0,7,8,9] (bAw) (sAw k l i) [([],[kP (decide (Int.ofNat i<Int.ofNat l.length))],.to (.exit 0) (sAw k l i))]:=G.Y
theorem aqj(l:List Int)(i:Nat):H (M ew []) [] 0 Tryz.f158 [] (eB (dH 1 Vm)) (sAw k l i) [([],[],B0)]:=G.Y
theorem aqk(p:P7):H (M ew []) [] 0 Tryz.f159 [] (dQ Tryz.f159) (dI [.agg p.cs] .nil 0) [([],[],.ret (.int .i64 (IntKind.i64.wrap (IntKind.i64.wrap (p.a*p.e)-IntKind.i64.wrap (p.b*p.d)))) (hL []) 0)]:=G.Y
theorem aql:H (M ew []) [(8,.split)] 0 Tryz.f163 [] (dQ Tryz.f163) (dI [.agg [R x,R y]] .nil 0) (fV (decide ((if y<x then y else x)<(-65536:Int))) ([],B0) ([],.ret (.bool (decide ((if y>x then y else x)>(65536:Int)))) (hL []) 0)):=G.Y
theorem aas:H (M ew []) [(9,.split)] 0 Tryz.f161 [] (dQ Tryz.f161) (dI [R x,R a,R b] .nil 0) (fV (decide (x>=a)) ([],.ret (.bool (decide (x<=b))) (hL []) 0) ([],ji)):=G.Y
theorem afV:H (M ew []) [(4,.split)] 0 Tryz.f147 [] (dQ Tryz.f147) (dI [R n] .nil 0) (fV (decide (n>=(2:Int))) ([],.ret (.bool (decide (n<=(257:Int)))) (hL []) 0) ([],ji)):=G.Y
theorem aqm:H (M ew []) [(4,.split)] 0 Tryz.f150 [] (dQ Tryz.f150) (dI [R x] .nil 0) (fV (decide (x<(-65536:Int))) ([],B0) ([],.ret (.bool (decide (x>(65536:Int)))) (hL []) 0)):=G.Y
theorem aqn:H (M Xm []) [] 0 Tryz.f160 [] (dQ Tryz.f160) (dI [R x] .nil 0) [([],[],.ret (.bool (!rQ x (-4096:Int) (4096:Int))) (hL []) 0)]:=G.Y
abbrev ng(g:Nat):V:=.fn (.func g) [] []
def HG{α:Type}(p:α->Bool)(l:List α):Int:=match l.findIdx? p with
 |some i=>Int.ofNat i
 |none=> -1
noncomputable abbrev Vn:Code:=dQ Tryz.f171
noncomputable abbrev bia:Code:=dP (dP (eB (dO (dH 1 Vn))))
end
def sia(l:List Int)(i:Nat):St:=fI [(0,fD l),(1,ng 150),(7,J l.length),(8,J i)] (hL []) 0
theorem aqo(l:List Int):H (M ew []) [] 0 Tryz.f171 [0,1] (ek 1 Vn) (dI [fD l,ng 150] .nil 0) [([],[],eC (dI [fD l,ng 150] .nil 0))]:=G.Y
theorem aqp(l:List Int):H (M ew []) [] 0 Tryz.f171 [0,1,7,8] (dO (dO (dH 1 Vn))) (dI [fD l,ng 150] .nil 0) [([],[],eC (sia l 0))]:=G.Y
theorem aqq(l:List Int)(i:Nat)(x:Int)(b:Bool):H (M (fa 150 [R x] (.bool b) ew) []) [(9,.dL (.bool true)),(14,.dL (.eo [.int .i64 x])),(16,.split),(18,.dL (J (i+1)))] 0 Tryz.f171 [0,1,7,8] (bia) (sia l i) (fV b ([kr (decide (Int.ofNat i<Int.ofNat l.length)),fT i l.length,jo l,gv (eL l) i 1 [D.int B x],fG [R x]],.ret (.int .i64 (Int.ofNat i)) (hL []) 0) ([kr (decide (Int.ofNat i<Int.ofNat l.length)),fT i l.length,jo l,gv (eL l) i 1 [D.int B x],fG [R x],oq i],eC (sia l (i+1)))):=G.Y
theorem aqr(l:List Int)(i:Nat):H (M ew []) [(9,.dL (.bool false))] 0 Tryz.f171 [0,1,7,8] (bia) (sia l i) [([],[kP (decide (Int.ofNat i<Int.ofNat l.length))],.to (.exit 0) (sia l i))]:=G.Y
theorem aqs(l:List Int)(i:Nat):H (M ew []) [] 0 Tryz.f171 [] (eB (dH 1 Vn)) (sia l i) [([],[],.ret (.int .i64 (-1)) (hL []) 0)]:=G.Y
noncomputable abbrev Vo:Code:=dQ Tryz.f171
noncomputable abbrev bib:Code:=dP (dP (eB (dO (dH 1 Vo))))
def sib(l:List Int)(i:Nat):St:=fI [(0,fD l),(1,ng 160),(7,J l.length),(8,J i)] (hL []) 0
theorem aqt(l:List Int):H (M ew []) [] 0 Tryz.f171 [0,1] (ek 1 Vo) (dI [fD l,ng 160] .nil 0) [([],[],eC (dI [fD l,ng 160] .nil 0))]:=G.Y
theorem aqu(l:List Int):H (M ew []) [] 0 Tryz.f171 [0,1,7,8] (dO (dO (dH 1 Vo))) (dI [fD l,ng 160] .nil 0) [([],[],eC (sib l 0))]:=G.Y
theorem aqv(l:List Int)(i:Nat)(x:Int)(b:Bool):H (M (fa 160 [R x] (.bool b) ew) []) [(9,.dL (.bool true)),(14,.dL (.eo [.int .i64 x])),(16,.split),(18,.dL (J (i+1)))] 0 Tryz.f171 [0,1,7,8] (bib) (sib l i) (fV b ([kr (decide (Int.ofNat i<Int.ofNat l.length)),fT i l.length,jo l,gv (eL l) i 1 [D.int B x],fG [R x]],.ret (.int .i64 (Int.ofNat i)) (hL []) 0) ([kr (decide (Int.ofNat i<Int.ofNat l.length)),fT i l.length,jo l,gv (eL l) i 1 [D.int B x],fG [R x],oq i],eC (sib l (i+1)))):=G.Y
theorem aqw(l:List Int)(i:Nat):H (M ew []) [(9,.dL (.bool false))] 0 Tryz.f171 [0,1,7,8] (bib) (sib l i) [([],[kP (decide (Int.ofNat i<Int.ofNat l.length))],.to (.exit 0) (sib l i))]:=G.Y
theorem aqx(l:List Int)(i:Nat):H (M ew []) [] 0 Tryz.f171 [] (eB (dH 1 Vo)) (sib l i) [([],[],.ret (.int .i64 (-1)) (hL []) 0)]:=G.Y
noncomputable abbrev Vp:Code:=dQ Tryz.f177
noncomputable abbrev bic:Code:=dP (dP (eB (dO (dH 1 Vp))))
def sic(l:List (Int×Int))(i:Nat):St:=fI [(0,wA l),(1,ng 163),(7,J l.length),(8,J i)] (hL []) 0
theorem aqy(l:List (Int×Int)):H (M ew []) [] 0 Tryz.f177 [0,1] (ek 1 Vp) (dI [wA l,ng 163] .nil 0) [([],[],eC (dI [wA l,ng 163] .nil 0))]:=G.Y
theorem aqz(l:List (Int×Int)):H (M ew []) [] 0 Tryz.f177 [0,1,7,8] (dO (dO (dH 1 Vp))) (dI [wA l,ng 163] .nil 0) [([],[],eC (sic l 0))]:=G.Y
abbrev Sh(l:List (Int×Int))(i:Nat)(x:(Int×Int)):Prop:=V.eo (dU (nf l) (i*2) 2)=V.eo [D.int B x.1,D.int B x.2]
theorem aqA(l:List (Int×Int))(i:Nat)(x:(Int×Int))(b:Bool):H (M (fa 163 [.agg [R x.1,R x.2]] (.bool b) ew) []) [(9,.dL (.bool true)),(14,.dL (.eo [.int .i64 x.1,.int .i64 x.2])),(16,.split),(18,.dL (J (i+1)))] 0 Tryz.f177 [0,1,7,8] (bic) (sic l i) (fV b ([kr (decide (Int.ofNat i<Int.ofNat l.length)),fT i l.length,(nf l).length=l.length*2,Sh l i x,fG [.agg [R x.1,R x.2]]],.ret (.int .i64 (Int.ofNat i)) (hL []) 0) ([kr (decide (Int.ofNat i<Int.ofNat l.length)),fT i l.length,(nf l).length=l.length*2,Sh l i x,fG [.agg [R x.1,R x.2]],oq i],eC (sic l (i+1)))):=G.Y
theorem aqB(l:List (Int×Int))(i:Nat):H (M ew []) [(9,.dL (.bool false))] 0 Tryz.f177 [0,1,7,8] (bic) (sic l i) [([],[kP (decide (Int.ofNat i<Int.ofNat l.length))],.to (.exit 0) (sic l i))]:=G.Y
theorem aqC(l:List (Int×Int))(i:Nat):H (M ew []) [] 0 Tryz.f177 [] (eB (dH 1 Vp)) (sic l i) [([],[],.ret (.int .i64 (-1)) (hL []) 0)]:=G.Y
noncomputable abbrev Vq:Code:=dQ Tryz.f124
noncomputable abbrev bid:Code:=dP (dP (eB (dO (dH 1 Vq))))
def sid(l:List Sp)(i:Nat):St:=fI [(0,.eM false l.length (lj l)),(1,ng 90),(7,J l.length),(8,J i)] (hL []) 0
theorem aqD(l:List Sp):H (M ew []) [] 0 Tryz.f124 [0,1] (ek 1 Vq) (dI [.eM false l.length (lj l),ng 90] .nil 0) [([],[],eC (dI [.eM false l.length (lj l),ng 90] .nil 0))]:=G.Y
theorem aqE(l:List Sp):H (M ew []) [] 0 Tryz.f124 [0,1,7,8] (dO (dO (dH 1 Vq))) (dI [.eM false l.length (lj l),ng 90] .nil 0) [([],[],eC (sid l 0))]:=G.Y
theorem aqF(l:List Sp)(i:Nat)(x:Sp)(b:Bool):H (M (fa 90 [x.v] (.bool b) ew) []) [(9,.dL (.bool true)),(14,.dL (.eo x.ds)),(16,.split),(18,.dL (J (i+1)))] 0 Tryz.f124 [0,1,7,8] (bid) (sid l i) (fV b ([kr (decide (Int.ofNat i<Int.ofNat l.length)),fT i l.length,(lj l).length=l.length*21,gv (lj l) i 21 x.ds,fG [x.v]],.ret (.int .i64 (Int.ofNat i)) (hL []) 0) ([kr (decide (Int.ofNat i<Int.ofNat l.length)),fT i l.length,(lj l).length=l.length*21,gv (lj l) i 21 x.ds,fG [x.v],oq i],eC (sid l (i+1)))):=G.Y
theorem aqG(l:List Sp)(i:Nat):H (M ew []) [(9,.dL (.bool false))] 0 Tryz.f124 [0,1,7,8] (bid) (sid l i) [([],[kP (decide (Int.ofNat i<Int.ofNat l.length))],.to (.exit 0) (sid l i))]:=G.Y
theorem aqH(l:List Sp)(i:Nat):H (M ew []) [] 0 Tryz.f124 [] (eB (dH 1 Vq)) (sid l i) [([],[],.ret (.int .i64 (-1)) (hL []) 0)]:=G.Y
theorem aqI(l:List Int)(a:Int):H (M (fa 171 [fD l,ng 150] (R a) ew) []) [] 0 Tryz.f149 [] (dQ Tryz.f149) (dI [fD l,ng 150] .nil 0) [([],[V.jj ([]++[fD l,ng 150]++[])=[fD l,ng 150]],.ret (.bool (decide (a>=(0:Int)))) (hL []) 0)]:=G.Y
theorem aqJ(l:List Int)(a:Int):H (M (fa 171 [fD l,ng 160] (R a) ew) []) [] 0 Tryz.f149 [] (dQ Tryz.f149) (dI [fD l,ng 160] .nil 0) [([],[V.jj ([]++[fD l,ng 160]++[])=[fD l,ng 160]],.ret (.bool (decide (a>=(0:Int)))) (hL []) 0)]:=G.Y
theorem aqK(l:List (Int×Int))(a:Int):H (M (fa 177 [wA l,ng 163] (R a) ew) []) [] 0 Tryz.f162 [] (dQ Tryz.f162) (dI [wA l,ng 163] .nil 0) [([],[V.jj ([]++[wA l,ng 163]++[])=[wA l,ng 163]],.ret (.bool (decide (a>=(0:Int)))) (hL []) 0)]:=G.Y
theorem aqL(l:List Sp)(a:Int):H (M (fa 124 [.eM false l.length (lj l),ng 90] (R a) ew) []) [] 0 Tryz.f92 [] (dQ Tryz.f92) (dI [.eM false l.length (lj l),ng 90] .nil 0) [([],[V.jj ([]++[V.eM false l.length (lj l),ng 90]++[])=[V.eM false l.length (lj l),ng 90]],.ret (.bool (decide (a>=(0:Int)))) (hL []) 0)]:=G.Y
set_option maxRecDepth 10000
theorem aax:jM ak 147 (ic Lt):=by
 refine nD Tryz.func147 fun args hc v e=>?_;unfold Lt at e;split at e
 case h_2=>cases e
 rename_i n;obtain⟨rfl,rfl⟩:=sm e;exact⟨rfl,rfl,rfl,fun _=>eR (be _) (afV n) (dN (g1 fun h=>⟨all_nil,_,_,_,rfl,aG V.bool (by simp only[ptB,h,aP])⟩) (dK (g1 fun h=>⟨all_nil,_,_,_,rfl,aG V.bool (by simp only[ptB,h,aT])⟩)))⟩
theorem aay:jM ak 161 (ic Lu):=by
 refine nD Tryz.func161 fun args hc v e=>?_;unfold Lu at e;split at e
 case h_2=>cases e
 rename_i x a b;obtain⟨rfl,rfl⟩:=sm e;exact⟨rfl,rfl,rfl,fun _=>eR (be _) (aas x a b) (dN (g1 fun h=>⟨all_nil,_,_,_,rfl,aG V.bool (by simp only[rQ,h,aP])⟩) (dK (g1 fun h=>⟨all_nil,_,_,_,rfl,aG V.bool (by simp only[rQ,h,aT])⟩)))⟩
theorem Si:fo ak Wpt:=fq aax (be _)
theorem xQ:fo ak Xm:=fq aay (be _)
def MK(l:List Int):Bool:=ptB (Int.ofNat l.length)&&(decide (l.getD 0 0>=0)&&(decide (l.getD (l.length-1) 0<=65535)&&Bu l))
theorem cvD(l:List Int)(hl:l.length<=1000000000):ee ak 121 [fD l] (.bool (MK l)):=by
 refine fc Tryz.func121 ?_;by_cases h0:0<l.length
 case neg=>
  have h1:l.length=0:=by omega
  have hn:l=[]:=cN.2 h1;subst hn;exact eR Si aqd (dK (g0 ⟨all_nil,_,_,_,rfl,rfl⟩))
 refine eR (ff (Vk l h0 hl) Si) (aqe l (l.length-1) (l.getD 0 0) (l.getD (l.length-1) 0) (Bu l)) ?_;have e1:(0:Int)<=(0:Int)/\(0:Int)<Int.ofNat l.length:=by simp only[gD];omega
 have e2:V.eo (dU (eL l) 0 1)=V.eo [.int .i64 (l.getD 0 0)]:=fP h0;have e3:V.int B (IntKind.i64.wrap (Int.ofNat l.length-(1:Int)))=J (l.length-1):=aG (V.int .i64) (by rw[show Int.ofNat l.length-1=Int.ofNat (l.length-1)by simp only[gD];omega];exact iz (by simp only[gD];omega) (by simp only[gD];omega));have e4:=iI (show l.length-1<l.length by omega);have e5:=fP (l:=l) (show l.length-1<l.length by omega)
 repeat' (first|exact ij|refine dN ?_ ?_)
 all_goals
  intro A;simp only[aA,aH,bq,aL,bn]at A;refine⟨?_,_,_,_,rfl,aG V.bool (by simp only[MK,A,aP,aT])⟩
  repeat' (first|exact all_nil|refine X ?_ ?_)
  all_goals first
   |exact e1
   |exact eI l
   |exact e2
   |exact e3
   |exact e4
   |exact e5
   |exact rfl
def JF(k:Int)(l:List Int):Bool:=!(l.any fun x=>decide (x<IntKind.i64.wrap (0-k))||decide (x>k))
theorem awD(k:Int)(l:List Int)(hl:l.length<=1000000):ee ak 158 [R k,fD l] (.bool (JF k l)):=by
 refine fc Tryz.func158 (fN 1 (be _) (aqf k l) all_nil ?_);refine dY dJ (dY dJ (gw (be _) eP (aqg k l) (dK (g0 ⟨all_nil,fun T eu=>?_⟩))));simp only[andThen];refine je 0 l.length (fun i=>sAw k l i) (fun i=>decide (l.getD i 0<IntKind.i64.wrap (0-k))||decide (l.getD i 0>k)) (eJ.norm eu) (fun i hi hj Q' k1 k2 k3=>?_) (fun h1 T eu=>?_)
 . rcases bx i l.length with q|q
   . have b0:V.bool (decide (Int.ofNat i<Int.ofNat l.length))=V.bool true:=aG V.bool (aW (cE.2 q));have hF:(decide (l.getD i 0<IntKind.i64.wrap (0-k))||decide (l.getD i 0>k))=true->V.bool false=V.bool (JF k l):=fun h=>by
      unfold JF;rw[Fm (d:=0) q h];rfl
     refine gw (be _) (fun u _ _=>u= .bool (JF k l)) (aqh k l i (l.getD i 0)) (dN (g1 fun h=>⟨X b0 (X (iI q) (X (eI l) (eO (fP q)))),hF (by rw[h];rfl),k3⟩) (dN (g2 fun h C=>⟨X b0 (X (iI q) (X (eI l) (eO (fP q)))),hF (by rw[h,C];rfl),k3⟩) (dK (g2 fun h C=>⟨X b0 (X (iI q) (X (eI l) (X (fP q) (eO (gV S))))),fun T eu=>k1 q (by rw[h,C];rfl) T (eJ.norm eu)⟩))))
   . obtain rfl:i=l.length:=by omega
     exact gw (be _) eP (aqi k l _) (dK (g0 ⟨eO (aG V.bool (aX (by simp only[gD];omega))),fun T eu=>k2 rfl T (eJ.norm eu)⟩))
 simp only[andThen];refine eu _ _ (eR (be _) (aqj k l _) (dK (g0 ⟨all_nil,_,_,_,rfl,aG V.bool (Eq.symm ?_)⟩)));unfold JF;rw[Jd (d:=0) h1];rfl
theorem adD(p:P7):ee ak 159 [p.v] (R (Od p)):=fc Tryz.func159 (eR (be _) (aqk p) (dK (g0 ⟨all_nil,_,_,_,rfl,rfl⟩)))
def JG(x:Int×Int):Bool:=decide ((if x.2<x.1 then x.2 else x.1)< -65536)||decide ((if x.2>x.1 then x.2 else x.1)>65536)
theorem aqM(x:Int×Int):ee ak 163 [.agg [R x.1,R x.2]] (.bool (JG x)):=
 fc Tryz.func163 (eR (be _) (aql x.1 x.2) (dN (g1 fun h=>⟨all_nil,_,_,_,rfl,aG V.bool (by simp only[JG,h,bY])⟩) (dK (g1 fun h=>⟨all_nil,_,_,_,rfl,aG V.bool (by simp only[JG,h,bX])⟩))))
section
variable(x:Int){α:Type}{p:α->Bool}
def cwB:Bool:=decide (x< -65536)||decide (x>65536)
theorem cwD:ee ak 150 [R x] (.bool (cwB x)):=
 fc Tryz.func150 (eR (be _) (aqm x) (dN (g1 fun h=>⟨all_nil,_,_,_,rfl,aG V.bool (by simp only[cwB,h,bY])⟩) (dK (g1 fun h=>⟨all_nil,_,_,_,rfl,aG V.bool (by simp only[cwB,h,bX])⟩))))
def Xn:Bool:=!rQ x (-4096) 4096
theorem fcD:ee ak 160 [R x] (.bool (Xn x)):=
 fc Tryz.func160 (eR xQ (aqn x) (dK (g0 ⟨all_nil,_,_,_,rfl,rfl⟩)))
theorem Ce(p:α->Bool)(l:List α):decide (HG p l>=0)=l.any p:=by
 unfold HG;cases h:l.findIdx? p with
 |some i=>
  have:l.any p=true:=by
   rw[bW]at h;obtain⟨h1,C,_⟩:=h;exact List.any_eq_true.2 ⟨_,bV h1,C⟩
  rw[this];exact aW (by show Int.ofNat i>=0;simp only[gD];omega)
 |none=>
  rw[cH]at h;have:l.any p=false:=dn.2 fun x K=>by rw[h x K];simp
  rw[this];rfl
theorem zf{l:List α}{d:α}{i:Nat}(hi:i<l.length)(h:p (l.getD i d)=true)(hj:∀j,j<i->p (l.getD j d)=false):HG p l=Int.ofNat i:=by
 have:l.findIdx? p=some i:=by
  rw[bW];refine⟨hi,?_,fun j q=>?_⟩
  . rw[ax,au hi]at h;exact h
  . have:=hj j q;rw[ax,au S]at this;simpa using this
 unfold HG;rw[this]
theorem zg{l:List α}{d:α}(hj:∀j,j<l.length->p (l.getD j d)=false):HG p l= -1:=by
 have:l.findIdx? p=none:=by
  rw[cH];intro x K;obtain⟨j,zB,rfl⟩:=ck K;have:=hj j zB;rw[ax,au zB]at this;exact this
 unfold HG;rw[this]
theorem zh{l:List α}{i:Nat}{d:α}(h:i<l.length):l.getD i d∈l:=by rw[ax,au h];exact bV h
end
theorem iaD(l:List Int)(p:Int->Bool)(hp:∀x∈l,ee ak 150 [R x] (.bool (p x)))(hl:l.length<=1000000):ee ak 171 [fD l,ng 150] (R (HG p l)):=by
 refine fc Tryz.func171 (fN 1 (be _) (aqo l) all_nil ?_);refine dY dJ (dY dJ (gw (be _) eP (aqp l) (dK (g0 ⟨all_nil,fun T eu=>?_⟩))));simp only[andThen];refine je 0 l.length (fun i=>sia l i) (fun i=>p (l.getD i 0)) (eJ.norm eu) (fun i hi hj Q' k1 k2 k3=>?_) (fun h1 T eu=>?_)
 . rcases bx i l.length with q|q
   . have b0:V.bool (decide (Int.ofNat i<Int.ofNat l.length))=V.bool true:=aG V.bool (aW (cE.2 q));exact gw (ff (hp _ (zh q)) (be _)) (fun u _ _=>u=R (HG p l)) (aqq l i (l.getD i 0) (p (l.getD i 0))) (dN (g1 fun h=>⟨X b0 (X (iI q) (X (eI l) (X (fP q) (eO rfl)))),by rw[zf q h hj],k3⟩) (dK (g1 fun h=>⟨X b0 (X (iI q) (X (eI l) (X (fP q) (X rfl (eO (gV S)))))),fun T eu=>k1 q h T (eJ.norm eu)⟩)))
   . obtain rfl:i=l.length:=by omega
     exact gw (be _) eP (aqr l _) (dK (g0 ⟨eO (aG V.bool (aX (by simp only[gD];omega))),fun T eu=>k2 rfl T (eJ.norm eu)⟩))
 simp only[andThen];exact eu _ _ (eR (be _) (aqs l _) (dK (g0 ⟨all_nil,_,_,_,rfl,by rw[zg h1]⟩)))
theorem ibD(l:List Int)(p:Int->Bool)(hp:∀x∈l,ee ak 160 [R x] (.bool (p x)))(hl:l.length<=1000000):ee ak 171 [fD l,ng 160] (R (HG p l)):=by
 refine fc Tryz.func171 (fN 1 (be _) (aqt l) all_nil ?_);refine dY dJ (dY dJ (gw (be _) eP (aqu l) (dK (g0 ⟨all_nil,fun T eu=>?_⟩))));simp only[andThen];refine je 0 l.length (fun i=>sib l i) (fun i=>p (l.getD i 0)) (eJ.norm eu) (fun i hi hj Q' k1 k2 k3=>?_) (fun h1 T eu=>?_)
 . rcases bx i l.length with q|q
   . have b0:V.bool (decide (Int.ofNat i<Int.ofNat l.length))=V.bool true:=aG V.bool (aW (cE.2 q));exact gw (ff (hp _ (zh q)) (be _)) (fun u _ _=>u=R (HG p l)) (aqv l i (l.getD i 0) (p (l.getD i 0))) (dN (g1 fun h=>⟨X b0 (X (iI q) (X (eI l) (X (fP q) (eO rfl)))),by rw[zf q h hj],k3⟩) (dK (g1 fun h=>⟨X b0 (X (iI q) (X (eI l) (X (fP q) (X rfl (eO (gV S)))))),fun T eu=>k1 q h T (eJ.norm eu)⟩)))
   . obtain rfl:i=l.length:=by omega
     exact gw (be _) eP (aqw l _) (dK (g0 ⟨eO (aG V.bool (aX (by simp only[gD];omega))),fun T eu=>k2 rfl T (eJ.norm eu)⟩))
 simp only[andThen];exact eu _ _ (eR (be _) (aqx l _) (dK (g0 ⟨all_nil,_,_,_,rfl,by rw[zg h1]⟩)))
theorem icD(l:List (Int×Int))(p:(Int×Int)->Bool)(hp:∀x∈l,ee ak 163 [.agg [R x.1,R x.2]] (.bool (p x)))(hl:l.length<=1000000):ee ak 177 [wA l,ng 163] (R (HG p l)):=by
 refine fc Tryz.func177 (fN 1 (be _) (aqy l) all_nil ?_);refine dY dJ (dY dJ (gw (be _) eP (aqz l) (dK (g0 ⟨all_nil,fun T eu=>?_⟩))));simp only[andThen];refine je 0 l.length (fun i=>sic l i) (fun i=>p (l.getD i (0,0))) (eJ.norm eu) (fun i hi hj Q' k1 k2 k3=>?_) (fun h1 T eu=>?_)
 . rcases bx i l.length with q|q
   . have b0:V.bool (decide (Int.ofNat i<Int.ofNat l.length))=V.bool true:=aG V.bool (aW (cE.2 q));exact gw (ff (hp _ (zh q)) (be _)) (fun u _ _=>u=R (HG p l)) (aqA l i (l.getD i (0,0)) (p (l.getD i (0,0)))) (dN (g1 fun h=>⟨X b0 (X (iI q) (X (pK l) (X (GF q) (eO rfl)))),by rw[zf q h hj],k3⟩) (dK (g1 fun h=>⟨X b0 (X (iI q) (X (pK l) (X (GF q) (X rfl (eO (gV S)))))),fun T eu=>k1 q h T (eJ.norm eu)⟩)))
   . obtain rfl:i=l.length:=by omega
     exact gw (be _) eP (aqB l _) (dK (g0 ⟨eO (aG V.bool (aX (by simp only[gD];omega))),fun T eu=>k2 rfl T (eJ.norm eu)⟩))
 simp only[andThen];exact eu _ _ (eR (be _) (aqC l _) (dK (g0 ⟨all_nil,_,_,_,rfl,by rw[zg h1]⟩)))
theorem idD(l:List Sp)(p:Sp->Bool)(hp:∀x∈l,ee ak 90 [x.v] (.bool (p x)))(hl:l.length<=1000000):ee ak 124 [.eM false l.length (lj l),ng 90] (R (HG p l)):=by
 refine fc Tryz.func124 (fN 1 (be _) (aqD l) all_nil ?_);refine dY dJ (dY dJ (gw (be _) eP (aqE l) (dK (g0 ⟨all_nil,fun T eu=>?_⟩))));simp only[andThen];refine je 0 l.length (fun i=>sid l i) (fun i=>p (l.getD i OZ)) (eJ.norm eu) (fun i hi hj Q' k1 k2 k3=>?_) (fun h1 T eu=>?_)
 . rcases bx i l.length with q|q
   . have b0:V.bool (decide (Int.ofNat i<Int.ofNat l.length))=V.bool true:=aG V.bool (aW (cE.2 q));exact gw (ff (hp _ (zh q)) (be _)) (fun u _ _=>u=R (HG p l)) (aqF l i (l.getD i OZ) (p (l.getD i OZ))) (dN (g1 fun h=>⟨X b0 (X (iI q) (X (rq l) (X (GM q) (eO rfl)))),by rw[zf q h hj],k3⟩) (dK (g1 fun h=>⟨X b0 (X (iI q) (X (rq l) (X (GM q) (X rfl (eO (gV S)))))),fun T eu=>k1 q h T (eJ.norm eu)⟩)))
   . obtain rfl:i=l.length:=by omega
     exact gw (be _) eP (aqG l _) (dK (g0 ⟨eO (aG V.bool (aX (by simp only[gD];omega))),fun T eu=>k2 rfl T (eJ.norm eu)⟩))
 simp only[andThen];exact eu _ _ (eR (be _) (aqH l _) (dK (g0 ⟨all_nil,_,_,_,rfl,by rw[zg h1]⟩)))
theorem caD(l:List Int)(p:Int->Bool)(hp:∀x∈l,ee ak 150 [R x] (.bool (p x)))(hl:l.length<=1000000):ee ak 149 [fD l,ng 150] (.bool (l.any p)):=
 fc Tryz.func149 (eR (ff (iaD l p hp hl) (be _)) (aqI l (HG p l)) (dK (g0 ⟨eO rfl,_,_,_,rfl,aG V.bool (Ce p l)⟩)))
theorem cbD(l:List Int)(p:Int->Bool)(hp:∀x∈l,ee ak 160 [R x] (.bool (p x)))(hl:l.length<=1000000):ee ak 149 [fD l,ng 160] (.bool (l.any p)):=
 fc Tryz.func149 (eR (ff (ibD l p hp hl) (be _)) (aqJ l (HG p l)) (dK (g0 ⟨eO rfl,_,_,_,rfl,aG V.bool (Ce p l)⟩)))
theorem ccD(l:List (Int×Int))(p:(Int×Int)->Bool)(hp:∀x∈l,ee ak 163 [.agg [R x.1,R x.2]] (.bool (p x)))(hl:l.length<=1000000):ee ak 162 [wA l,ng 163] (.bool (l.any p)):=
 fc Tryz.func162 (eR (ff (icD l p hp hl) (be _)) (aqK l (HG p l)) (dK (g0 ⟨eO rfl,_,_,_,rfl,aG V.bool (Ce p l)⟩)))
theorem ceD(l:List Sp)(p:Sp->Bool)(hp:∀x∈l,ee ak 90 [x.v] (.bool (p x)))(hl:l.length<=1000000):ee ak 92 [.eM false l.length (lj l),ng 90] (.bool (l.any p)):=
 fc Tryz.func92 (eR (ff (idD l p hp hl) (be _)) (aqL l (HG p l)) (dK (g0 ⟨eO rfl,_,_,_,rfl,aG V.bool (Ce p l)⟩)))
set_option maxRecDepth 10000
section
variable(a m b:M9)(i:Nat)
def M9.l:List Int:=[m.a,m.b,m.c,m.d,m.e,m.f,m.g,m.h,m.i]
noncomputable abbrev Vr:Code:=dQ Tryz.f122
theorem aqN:H (M ew []) [] 0 Tryz.f122 [1] (ek 1 Vr) (dI [.agg (D.gk m.ds)] .nil 0) [([],[],eC (fI [(1,.ptr (some (0,0)))] (hL [(0,.cells [.int .i64 (m.a),.int .i64 (m.b),.int .i64 (m.c),.int .i64 (m.d),.int .i64 (m.e),.int .i64 (m.f),.int .i64 (m.g),.int .i64 (m.h),.int .i64 (m.i)])]) 1))]:=G.Y
theorem aqO:H (M ew []) [] 0 Tryz.f122 [3] (Ez 1 (dO (dH 1 Vr))) (fI [(1,.ptr (some (0,0)))] (hL [(0,.cells (D.gk m.ds))]) 1) [([],[],eC (fI [(3,.fk (some (0,0)) 9 9 1)] (hL [(0,.cells [.int .i64 (m.a),.int .i64 (m.b),.int .i64 (m.c),.int .i64 (m.d),.int .i64 (m.e),.int .i64 (m.f),.int .i64 (m.g),.int .i64 (m.h),.int .i64 (m.i)])]) 1))]:=G.Y
theorem aqP(b:Bool):H (M (fa 149 [fD m.l,ng 150] (.bool b) ew) []) [] 0 Tryz.f122 [2] (JE 1 (dO (dH 1 Vr))) (fI [(3,fD m.l)] (hL []) 0) [([],[V.jj ([]++[fD m.l,V.fn (Fn.func 150) [] []]++[])=[fD m.l,ng 150]],eC (fI [(2,.bool (!b))] (hL []) 0))]:=G.Y
theorem aqQ(b:Bool):H (M ew []) [] 0 Tryz.f122 [] (eB (dH 1 Vr)) (fI [(2,.bool b)] (hL []) 0) [([],[],.ret (.bool b) (hL []) 0)]:=G.Y
noncomputable abbrev Vs:Code:=dQ Tryz.f123
noncomputable abbrev bIv:Code:=dP (dP (eB (dO (dH 1 Vs))))
def sIv:St:=fI [(2,.ptr (some (0,0))),(3,.ptr (some (1,0))),(9,J i)] (hL [(0,.cells (D.gk a.ds)),(1,.cells (D.gk b.ds))]) 2
theorem aqR:H (M ew []) [] 0 Tryz.f123 [2,3] (ek 1 Vs) (dI [.agg (D.gk a.ds),.agg (D.gk b.ds)] .nil 0) [([],[],eC (fI [(2,.ptr (some (0,0))),(3,.ptr (some (1,0)))] (hL [(0,.cells [.int .i64 (a.a),.int .i64 (a.b),.int .i64 (a.c),.int .i64 (a.d),.int .i64 (a.e),.int .i64 (a.f),.int .i64 (a.g),.int .i64 (a.h),.int .i64 (a.i)]),(1,.cells [.int .i64 (b.a),.int .i64 (b.b),.int .i64 (b.c),.int .i64 (b.d),.int .i64 (b.e),.int .i64 (b.f),.int .i64 (b.g),.int .i64 (b.h),.int .i64 (b.i)])]) 2))]:=G.Y
theorem aqS:H (M ew []) [] 0 Tryz.f123 [2,3,9] (dO (dO (dH 1 Vs))) (fI [(2,.ptr (some (0,0))),(3,.ptr (some (1,0)))] (hL [(0,.cells (D.gk a.ds)),(1,.cells (D.gk b.ds))]) 2) [([],[],eC (sIv a b 0))]:=G.Y
def ivS(j:Nat):Int:=IntKind.i64.wrap (IntKind.i64.wrap (IntKind.i64.wrap (a.at (3*i)*b.at j)+IntKind.i64.wrap (a.at (3*i+1)*b.at (3+j)))+IntKind.i64.wrap (a.at (3*i+2)*b.at (6+j)))
def Vt:Int:=bif Nat.beq (i/3) (i%3)then IntKind.i64.wrap (ivS a b (i/3) (i%3)-16777216)else ivS a b (i/3) (i%3)
def ivA:ah:=[(3:Int)≠(0:Int),n9 (3*(i/3)),n9 (i%3),n9 (3*(i/3)+1),n9 (3+i%3),n9 (3*(i/3)+2),n9 (6+i%3)]
theorem aqT(a b:M9):∀i,i<9->H (M ew []) [(52,.split),(55,.split)] 0 Tryz.f123 [2,3,9] bIv (sIv a b i) [([(decide (Vt a b i<(-32768:Int)),true)],ivA i,.ret (.bool false) (hL []) 0),([(decide (Vt a b i<(-32768:Int)),false),(decide (Vt a b i>(32768:Int)),true)],ivA i,.ret (.bool false) (hL []) 0),([(decide (Vt a b i<(-32768:Int)),false),(decide (Vt a b i>(32768:Int)),false)],ivA i,.to .normal (sIv a b (i+1)))]:=by
 intro i hi;obtain rfl|rfl|rfl|rfl|rfl|rfl|rfl|rfl|rfl:i=0\/i=1\/i=2\/i=3\/i=4\/i=5\/i=6\/i=7\/i=8:=by omega
 all_goals exact G.Y
theorem aqU:H (M ew []) [] 0 Tryz.f123 [2,3,9] (bIv) (sIv a b 9) [([],[],.to (.exit 0) (sIv a b 9))]:=G.Y
theorem aqV:H (M ew []) [] 0 Tryz.f123 [] (eB (dH 1 Vs)) (sIv a b 9) [([],[],B0)]:=G.Y
noncomputable abbrev Vu:Code:=dQ Tryz.f91
end
noncomputable abbrev bSv:Code:=dP (dP (eB (dO (dH 1 Vu))))
def sSv(s:Sp)(i:Nat):St:=fI [(1,.ptr (some (0,0))),(6,.agg [fD s.c0,fD s.c1,fD s.c2]),(7,J i)] (hL [(0,.cells (D.gk s.ds))]) 1
section
variable(f:FL)(s:Sp)(p:P7)(b:Bool)(u:ag)
theorem aqW:H (M ew []) [] 0 Tryz.f91 [1] (ek 1 Vu) (dI [s.v] .nil 0) [([],[],eC (fI [(1,.ptr (some (0,0)))] (hL [(0,.cells [.eM false (s.c0.length) (eL s.c0),.eM false (s.c1.length) (eL s.c1),.eM false (s.c2.length) (eL s.c2),.int .i64 (s.to.a),.int .i64 (s.to.b),.int .i64 (s.to.c),.int .i64 (s.to.d),.int .i64 (s.to.e),.int .i64 (s.to.f),.int .i64 (s.to.g),.int .i64 (s.to.h),.int .i64 (s.to.i),.int .i64 (s.F.a),.int .i64 (s.F.b),.int .i64 (s.F.c),.int .i64 (s.F.d),.int .i64 (s.F.e),.int .i64 (s.F.f),.int .i64 (s.F.g),.int .i64 (s.F.h),.int .i64 (s.F.i)])]) 1))]:=G.Y
theorem aqX:H (M ew []) [] 0 Tryz.f91 [1,6,7] (dO (dO (dH 1 Vu))) (fI [(1,.ptr (some (0,0)))] (hL [(0,.cells (D.gk s.ds))]) 1) [([],[],eC (sSv s 0))]:=G.Y
theorem aqY:∀i,i<3->H (M (fa 121 [fD (s.cv i)] (.bool b) ew) []) [(12,.split)] 0 Tryz.f91 [1,6,7] bSv (sSv s i) [([(!b,true)],[fG [fD (s.cv i)]],.ret (.bool false) (hL []) 0),([(!b,false)],[fG [fD (s.cv i)]],.to .normal (sSv s (i+1)))]:=by
 intro i hi;obtain rfl|rfl|rfl:i=0\/i=1\/i=2:=by omega
 all_goals exact G.Y
theorem aqZ:H (M ew []) [] 0 Tryz.f91 [1,6,7] (bSv) (sSv s 3) [([],[],.to (.exit 0) (sSv s 3))]:=G.Y
def D7(l:List Int):Bool:=!(l.any cwB)
def Lv:List Eng.D->Option (ah×V)
 | [.agg cs]=>some ([cs=eL (eN cs),(eN cs).length=9],.bool (D7 (eN cs)))
 |_=>none
noncomputable abbrev Wwm:gG:=jC 122 (Go.Eng.dW Lv) ew
abbrev G5:Prop:=(eN [D.int B s.to.a,D.int B s.to.b,D.int B s.to.c,D.int B s.to.d,D.int B s.to.e,D.int B s.to.f,D.int B s.to.g,D.int B s.to.h,D.int B s.to.i]).length=9
abbrev Sj:Prop:=(eN [D.int B s.F.a,D.int B s.F.b,D.int B s.F.c,D.int B s.F.d,D.int B s.F.e,D.int B s.F.f,D.int B s.F.g,D.int B s.F.h,D.int B s.F.i]).length=9
abbrev Sk:Prop:=V.jj ([]++[V.agg (List.take 9 (List.drop 12 (D.gk s.ds))),V.agg (List.take 9 (List.drop 3 (D.gk s.ds)))]++[])=[V.agg (D.gk s.F.ds),V.agg (D.gk s.to.ds)]
theorem aq0(c:Bool):H (M (fa 123 [.agg (D.gk s.F.ds),.agg (D.gk s.to.ds)] (.bool c) Wwm) []) [(17,.split),(22,.split)] 0 Tryz.f91 [] (eB (dH 1 Vu)) (sSv s 3) [([(D7 (eN [D.int B s.to.a,D.int B s.to.b,D.int B s.to.c,D.int B s.to.d,D.int B s.to.e,D.int B s.to.f,D.int B s.to.g,D.int B s.to.h,D.int B s.to.i]),true),(D7 (eN [D.int B s.F.a,D.int B s.F.b,D.int B s.F.c,D.int B s.F.d,D.int B s.F.e,D.int B s.F.f,D.int B s.F.g,D.int B s.F.h,D.int B s.F.i]),true)],[[D.int B s.to.a,D.int B s.to.b,D.int B s.to.c,D.int B s.to.d,D.int B s.to.e,D.int B s.to.f,D.int B s.to.g,D.int B s.to.h,D.int B s.to.i]=eL (eN [D.int B s.to.a,D.int B s.to.b,D.int B s.to.c,D.int B s.to.d,D.int B s.to.e,D.int B s.to.f,D.int B s.to.g,D.int B s.to.h,D.int B s.to.i]),G5 s,[D.int B s.F.a,D.int B s.F.b,D.int B s.F.c,D.int B s.F.d,D.int B s.F.e,D.int B s.F.f,D.int B s.F.g,D.int B s.F.h,D.int B s.F.i]=eL (eN [D.int B s.F.a,D.int B s.F.b,D.int B s.F.c,D.int B s.F.d,D.int B s.F.e,D.int B s.F.f,D.int B s.F.g,D.int B s.F.h,D.int B s.F.i]),Sj s,Sk s],.ret (.bool c) (hL []) 0),([(D7 (eN [D.int B s.to.a,D.int B s.to.b,D.int B s.to.c,D.int B s.to.d,D.int B s.to.e,D.int B s.to.f,D.int B s.to.g,D.int B s.to.h,D.int B s.to.i]),true),(D7 (eN [D.int B s.F.a,D.int B s.F.b,D.int B s.F.c,D.int B s.F.d,D.int B s.F.e,D.int B s.F.f,D.int B s.F.g,D.int B s.F.h,D.int B s.F.i]),false)],[[D.int B s.to.a,D.int B s.to.b,D.int B s.to.c,D.int B s.to.d,D.int B s.to.e,D.int B s.to.f,D.int B s.to.g,D.int B s.to.h,D.int B s.to.i]=eL (eN [D.int B s.to.a,D.int B s.to.b,D.int B s.to.c,D.int B s.to.d,D.int B s.to.e,D.int B s.to.f,D.int B s.to.g,D.int B s.to.h,D.int B s.to.i]),G5 s,[D.int B s.F.a,D.int B s.F.b,D.int B s.F.c,D.int B s.F.d,D.int B s.F.e,D.int B s.F.f,D.int B s.F.g,D.int B s.F.h,D.int B s.F.i]=eL (eN [D.int B s.F.a,D.int B s.F.b,D.int B s.F.c,D.int B s.F.d,D.int B s.F.e,D.int B s.F.f,D.int B s.F.g,D.int B s.F.h,D.int B s.F.i]),Sj s],ji),([(D7 (eN [D.int B s.to.a,D.int B s.to.b,D.int B s.to.c,D.int B s.to.d,D.int B s.to.e,D.int B s.to.f,D.int B s.to.g,D.int B s.to.h,D.int B s.to.i]),false),(false,true)],[[D.int B s.to.a,D.int B s.to.b,D.int B s.to.c,D.int B s.to.d,D.int B s.to.e,D.int B s.to.f,D.int B s.to.g,D.int B s.to.h,D.int B s.to.i]=eL (eN [D.int B s.to.a,D.int B s.to.b,D.int B s.to.c,D.int B s.to.d,D.int B s.to.e,D.int B s.to.f,D.int B s.to.g,D.int B s.to.h,D.int B s.to.i]),G5 s,Sk s],.ret (.bool c) (hL []) 0),([(D7 (eN [D.int B s.to.a,D.int B s.to.b,D.int B s.to.c,D.int B s.to.d,D.int B s.to.e,D.int B s.to.f,D.int B s.to.g,D.int B s.to.h,D.int B s.to.i]),false),(false,false)],[[D.int B s.to.a,D.int B s.to.b,D.int B s.to.c,D.int B s.to.d,D.int B s.to.e,D.int B s.to.f,D.int B s.to.g,D.int B s.to.h,D.int B s.to.i]=eL (eN [D.int B s.to.a,D.int B s.to.b,D.int B s.to.c,D.int B s.to.d,D.int B s.to.e,D.int B s.to.f,D.int B s.to.g,D.int B s.to.h,D.int B s.to.i]),G5 s],ji)]:=G.Y
theorem aq1:H (M (fa 91 [s.v] (.bool b) ew) []) [] 0 Tryz.f90 [] (dQ Tryz.f90) (dI [s.v] .nil 0) [([],[V.jj ([]++[V.agg (List.take 21 (List.drop 0 s.v.cells))]++[])=[s.v]],.ret (.bool (!b)) (hL []) 0)]:=G.Y
def Lw:List Eng.D->Option (ah×V)
 | [.int .i64 k,.eM n cs]=>some ([cs=eL (eN cs),n=(eN cs).length,n<=1000000],.bool (JF k (eN cs)))
 |_=>none
noncomputable abbrev Waw:gG:=jC 158 (yQ Lw) ew
abbrev Lx:Prop:=5=(eN [D.int B p.a,D.int B p.b,D.int B p.d,D.int B p.e,D.int B p.n]).length
theorem aq2:H (M (fa 159 [p.v] (R (Od p)) Waw) []) [(5,.split),(18,.split),(26,.split)] 0 Tryz.f127 [] (dQ Tryz.f127) (dI [p.v] .nil 0) (N4 (decide (p.n>=(1:Int))) (JF (4096:Int) (eN [D.int B p.a,D.int B p.b,D.int B p.d,D.int B p.e,D.int B p.n])) (JF (268435456:Int) (eN [D.int B p.c,D.int B p.f])) ([[D.int B p.a,D.int B p.b,D.int B p.d,D.int B p.e,D.int B p.n].length=5,[D.int B p.a,D.int B p.b,D.int B p.d,D.int B p.e,D.int B p.n]=eL (eN [D.int B p.a,D.int B p.b,D.int B p.d,D.int B p.e,D.int B p.n]),Lx p,5<=1000000,[D.int B p.c,D.int B p.f].length=2,[D.int B p.c,D.int B p.f]=eL (eN [D.int B p.c,D.int B p.f]),2=(eN [D.int B p.c,D.int B p.f]).length,2<=1000000,V.jj ([]++[V.agg (List.take 7 (List.drop 0 p.v.cells))]++[])=[p.v]],.ret (.bool (Od p !=(0:Int))) (hL []) 0) ([[D.int B p.a,D.int B p.b,D.int B p.d,D.int B p.e,D.int B p.n].length=5,[D.int B p.a,D.int B p.b,D.int B p.d,D.int B p.e,D.int B p.n]=eL (eN [D.int B p.a,D.int B p.b,D.int B p.d,D.int B p.e,D.int B p.n]),Lx p,5<=1000000,[D.int B p.c,D.int B p.f].length=2,[D.int B p.c,D.int B p.f]=eL (eN [D.int B p.c,D.int B p.f]),2=(eN [D.int B p.c,D.int B p.f]).length,2<=1000000],ji) ([[D.int B p.a,D.int B p.b,D.int B p.d,D.int B p.e,D.int B p.n].length=5,[D.int B p.a,D.int B p.b,D.int B p.d,D.int B p.e,D.int B p.n]=eL (eN [D.int B p.a,D.int B p.b,D.int B p.d,D.int B p.e,D.int B p.n]),Lx p,5<=1000000],ji) ([],ji)):=G.Y
theorem afW(l:List (Int×Int))(b:Bool):H (M (fa 162 [wA l,ng 163] (.bool b) ew) []) [(5,.split),(9,.split)] 0 Tryz.f129 [] (dQ Tryz.f129) (dI [wA l] .nil 0) (BJ (decide ((Int.ofNat l.length)>=(3:Int))) (decide ((Int.ofNat l.length)<=(64:Int))) ([V.jj ([]++[wA l,V.fn (Fn.func 163) [] []]++[])=[wA l,ng 163]],.ret (.bool (!b)) (hL []) 0) ([],ji)):=G.Y
def Cf(t:Bool):St:=fI [(1,.ptr (some (0,0))),(3,.bool t),(4,.ptr (some (1,0)))] (hL [(0,.cells f.cs),(1,.cells u)]) 2
def uF1:ag:=[R f.k,R f.r,fD f.fh,R f.dv,R 0,gH]
def uF2:ag:=[R f.k,R f.r,gH,R 0,R 0,gH]
def uF5:ag:=[R f.k,R 0,gH,R 0,R 0,fD f.cu]
def uF6:ag:=[R f.k,R 0,gH,R 0,R 0,gH]
def uF7:ag:=[R f.k,R 0,gH,R 0,R f.vl,gH]
def uF8:ag:=[R f.k,R f.r,gH,R 0,R f.vl,gH]
theorem aq6:H (M (fa 149 [fD f.fh,ng 160] (.bool b) ew) [(161,[(9,.split),(13,.split)])]) [(37,.split)] 0 Tryz.f128 [3,1,4] (ek 4 (dQ Tryz.f128)) (dI [(mh f 1).v] .nil 0) (Us (decide (f.r>=(0:Int))) (decide (f.r<=(3:Int))) ((Int.ofNat f.fh.length)==IntKind.i64.wrap (IntKind.i64.wrap (IntKind.i64.wrap ((2:Int)*f.r)+(1:Int))*IntKind.i64.wrap (IntKind.i64.wrap ((2:Int)*f.r)+(1:Int)))) (decide (f.dv>=(1:Int))) (decide (f.dv<=(1048576:Int))) ([V.jj ([]++[fD f.fh,V.fn (Fn.func 160) [] []]++[])=[fD f.fh,ng 160]],eC (Cf (mh f 1) (uF1 (mh f 1)) (!b))) ([],eC (Cf (mh f 1) (uF1 (mh f 1)) false))):=G.Y
theorem aq7:H (M Xm []) [] 0 Tryz.f128 [3,1,4] (ek 4 (dQ Tryz.f128)) (dI [(mh f 2).v] .nil 0) [([],[],eC (Cf (mh f 2) (uF2 (mh f 2)) (rQ f.r 0 3)))]:=G.Y
theorem aq8:H (M Xm []) [] 0 Tryz.f128 [3,1,4] (ek 4 (dQ Tryz.f128)) (dI [(mh f 3).v] .nil 0) [([],[],eC (Cf (mh f 3) (uF2 (mh f 3)) (rQ f.r 0 3)))]:=G.Y
theorem aq9:H (M Xm []) [] 0 Tryz.f128 [3,1,4] (ek 4 (dQ Tryz.f128)) (dI [(mh f 4).v] .nil 0) [([],[],eC (Cf (mh f 4) (uF2 (mh f 4)) (rQ f.r 0 3)))]:=G.Y
theorem ara:H (M (fa 121 [fD f.cu] (.bool b) Xm) []) [] 0 Tryz.f128 [3,1,4] (ek 4 (dQ Tryz.f128)) (dI [(mh f 5).v] .nil 0) [([],[V.jj ([]++[fD f.cu]++[])=[fD f.cu]],eC (Cf (mh f 5) (uF5 (mh f 5)) b))]:=G.Y
theorem arb:H (M Xm []) [] 0 Tryz.f128 [3,1,4] (ek 4 (dQ Tryz.f128)) (dI [(mh f 6).v] .nil 0) [([],[],eC (Cf (mh f 6) (uF6 (mh f 6)) true))]:=G.Y
theorem arc:H (M Xm []) [] 0 Tryz.f128 [3,1,4] (ek 4 (dQ Tryz.f128)) (dI [(mh f 7).v] .nil 0) [([],[],eC (Cf (mh f 7) (uF7 (mh f 7)) (rQ f.vl 0 256)))]:=G.Y
theorem ard:H (M ew [(161,[(9,.split),(13,.split)])]) [] 0 Tryz.f128 [3,1,4] (ek 4 (dQ Tryz.f128)) (dI [(mh f 8).v] .nil 0) (Er (decide (f.r>=(-3:Int))) (decide (f.r<=(3:Int))) (decide (f.vl>=(-3:Int))) (decide (f.vl<=(3:Int))) ([],eC (Cf (mh f 8) (uF8 (mh f 8)) true)) ([],eC (Cf (mh f 8) (uF8 (mh f 8)) false))):=G.Y
theorem OA:H (M ew []) [] 0 Tryz.f128 [] (dH 4 (dQ Tryz.f128)) (Cf f u false) [([],[],ji)]:=G.Y
theorem are:H (M ew []) [(101,.dL (.bool true)),(108,.dL (.bool true)),(115,.split),(124,.dL (.bool true))] 0 Tryz.f128 [] (dH 4 (dQ Tryz.f128)) (Cf f (uF1 f) true) (fV (f.vl==(0:Int)) ([kr (f.r==f.r),kr (f.dv==f.dv),kr ((Int.ofNat f.fh.length)==(Int.ofNat f.fh.length))],.ret (.bool ((Int.ofNat f.cu.length)==(0:Int))) (hL []) 0) ([kr (f.r==f.r),kr (f.dv==f.dv)],ji)):=G.Y
theorem arf:H (M ew []) [(101,.dL (.bool true)),(108,.split),(115,.split),(124,.split)] 0 Tryz.f128 [] (dH 4 (dQ Tryz.f128)) (Cf f (uF2 f) true) (Qy (f.dv==(0:Int)) (f.vl==(0:Int)) ((Int.ofNat f.fh.length)==(0:Int)) ([kr (f.r==f.r)],.ret (.bool ((Int.ofNat f.cu.length)==(0:Int))) (hL []) 0) ([kr (f.r==f.r)],ji)):=G.Y
theorem arh:H (M ew []) [(101,.split),(108,.split),(115,.split),(124,.split),(133,.dL (.bool true))] 0 Tryz.f128 [] (dH 4 (dQ Tryz.f128)) (Cf f (uF5 f) true) (Er (f.r==(0:Int)) (f.dv==(0:Int)) (f.vl==(0:Int)) ((Int.ofNat f.fh.length)==(0:Int)) ([kr ((Int.ofNat f.cu.length)==(Int.ofNat f.cu.length))],B0) ([],ji)):=G.Y
theorem ari:H (M ew []) [(101,.split),(108,.split),(115,.split),(124,.split)] 0 Tryz.f128 [] (dH 4 (dQ Tryz.f128)) (Cf f (uF6 f) true) (Er (f.r==(0:Int)) (f.dv==(0:Int)) (f.vl==(0:Int)) ((Int.ofNat f.fh.length)==(0:Int)) ([],.ret (.bool ((Int.ofNat f.cu.length)==(0:Int))) (hL []) 0) ([],ji)):=G.Y
theorem arj:H (M ew []) [(101,.split),(108,.split),(115,.dL (.bool true)),(124,.split)] 0 Tryz.f128 [] (dH 4 (dQ Tryz.f128)) (Cf f (uF7 f) true) (N4 (f.r==(0:Int)) (f.dv==(0:Int)) ((Int.ofNat f.fh.length)==(0:Int)) ([kr (f.vl==f.vl)],.ret (.bool ((Int.ofNat f.cu.length)==(0:Int))) (hL []) 0) ([kr (f.vl==f.vl)],ji) ([],ji) ([],ji)):=G.Y
theorem ark:H (M ew []) [(101,.dL (.bool true)),(108,.split),(115,.dL (.bool true)),(124,.split)] 0 Tryz.f128 [] (dH 4 (dQ Tryz.f128)) (Cf f (uF8 f) true) (sI (f.dv==(0:Int)) ((Int.ofNat f.fh.length)==(0:Int)) ([kr (f.r==f.r),kr (f.vl==f.vl)],.ret (.bool ((Int.ofNat f.cu.length)==(0:Int))) (hL []) 0) ([kr (f.r==f.r),kr (f.vl==f.vl)],ji) ([kr (f.r==f.r)],ji)):=G.Y
theorem arl:H (M ew []) [(13,.dL (.bool false)),(52,.dL (.bool false)),(53,.dL (.bool false)),(54,.dL (.bool false)),(62,.dL (.bool false)),(70,.dL (.bool false)),(72,.dL (.bool false)),(80,.dL (.bool false))] 0 Tryz.f128 [] (ek 4 (dQ Tryz.f128)) (dI [f.v] .nil 0) [([],[kP (f.k==(1:Int)),kP (f.k==(2:Int)),kP (f.k==(3:Int)),kP (f.k==(4:Int)),kP (f.k==(5:Int)),kP (f.k==(6:Int)),kP (f.k==(7:Int)),kP (f.k==(8:Int))],ji)]:=G.Y
end
set_option maxRecDepth 10000
theorem wmD(m:M9):ee ak 122 [.agg (D.gk m.ds)] (.bool (D7 m.l)):=by
 refine fc Tryz.func122 (fN 1 (be _) (aqN m) all_nil ?_);refine dY dJ ?_;refine afU (fn:=Tryz.f122) 1 [0] [3] (be _) (aqO m) all_nil (s2:=fI [(3,fD m.l)] (hL []) 0) (aj:=[m.ds.length=9*1]) dJ (eO rfl) (ff (caD m.l cwB (fun x _=>cwD x) (show(9:Nat)<=1000000 by decide)) (be _)) (aqP m (m.l.any cwB)) ?_;refine dK (g0 ⟨eO rfl,_,rfl,fun T eu=>?_⟩);simp only[andThen];exact eu _ _ (eR (be _) (aqQ _) (dK (g0 ⟨all_nil,_,_,_,rfl,rfl⟩)))
theorem Ly{i:Nat}(h:i<9):∀a∈ivA i,a:=X fg (X (yX S) (X (yX S) (X (yX S) (X (yX S) (X (yX S) (eO (yX S)))))))
def Lz(a b:M9)(i:Nat):Bool:=decide (Vt a b i< -32768)||decide (Vt a b i>32768)
theorem ivD(a b:M9):ee ak 123 [.agg (D.gk a.ds),.agg (D.gk b.ds)] (.bool (!((List.range 9).any (Lz a b)))):=by
 refine fc Tryz.func123 (fN 1 (be _) (aqR a b) all_nil ?_);refine dY dJ (dY dJ (gw (be _) eP (aqS a b) (dK (g0 ⟨all_nil,fun T eu=>?_⟩))));simp only[andThen];refine je 0 9 (fun i=>sIv a b i) (Lz a b) (eJ.norm eu) (fun i hi hj Q' k1 k2 k3=>?_) (fun h1 T eu=>?_)
 . rcases bx i 9 with q|q
   . have hF:Lz a b i=true->V.bool false=V.bool (!((List.range 9).any (Lz a b))):=fun h=>by rw[qZ (f:=Lz a b) q h];rfl
     exact gw (be _) (fun u _ _=>u= .bool (!((List.range 9).any (Lz a b)))) (aqT a b i q) (dN (g1 fun h=>⟨Ly q,hF (by unfold Lz;rw[h];rfl),k3⟩) (dN (g2 fun h C=>⟨Ly q,hF (by unfold Lz;rw[h,C];rfl),k3⟩) (dK (g2 fun h C=>⟨Ly q,fun T eu=>k1 q (by unfold Lz;rw[h,C];rfl) T (eJ.norm eu)⟩))))
   . obtain rfl:i=9:=by omega
     exact gw (be _) eP (aqU a b) (dK (g0 ⟨all_nil,fun T eu=>k2 rfl T (eJ.norm eu)⟩))
 simp only[andThen];exact eu _ _ (eR (be _) (aqV a b) (dK (g0 ⟨all_nil,_,_,_,rfl,by rw[q8 (f:=Lz a b) h1];rfl⟩)))
section
variable(f:FL)(p:P7)(s:Sp)(t:Bool)
theorem aaC:jM ak 122 (Go.Eng.dW Lv):=by
 refine Qp (aE dJ) fun ds hc v e hA=>?_;unfold Lv at e;split at e
 case h_2=>cases e
 rename_i cs;obtain⟨rfl,rfl⟩:=sm e;have e1:cs=eL (eN cs):=hA _ (by simp);have e2:(eN cs).length=9:=hA ((eN cs).length=9) (by simp);generalize eN cs=l at *;subst e1
 match l,e2 with
 | [a,b,c,d,e,f,g,h,i],_=>exact wmD ⟨a,b,c,d,e,f,g,h,i⟩
theorem aaD:fo ak Wwm:=fq aaC (be _)
def Vv:Bool:=!((List.range 3).any fun i=>!MK (s.cv i))&&(D7 s.to.l&&(D7 s.F.l&& !((List.range 9).any (Lz s.F s.to))))
theorem svD(h0:∀i,i<3->(s.cv i).length<=1000000000):ee ak 91 [s.v] (.bool (Vv s)):=by
 refine fc Tryz.func91 (fN 1 (be _) (aqW s) all_nil ?_);refine dY dJ (dY dJ (gw (be _) eP (aqX s) (dK (g0 ⟨all_nil,fun T eu=>?_⟩))));simp only[andThen];refine je 0 3 (fun i=>sSv s i) (fun i=>!MK (s.cv i)) (eJ.norm eu) (fun i hi hj Q' k1 k2 k3=>?_) (fun h1 T eu=>?_)
 . rcases bx i 3 with q|q
   . have hF:(!MK (s.cv i))=true->V.bool false=V.bool (Vv s):=fun h=>by unfold Vv;rw[qZ (f:=fun i=>!MK (s.cv i)) q h];rfl
     exact gw (ff (cvD (s.cv i) (h0 i q)) (be _)) (fun u _ _=>u= .bool (Vv s)) (aqY s (MK (s.cv i)) i q) (dN (g1 fun h=>⟨eO rfl,hF h,k3⟩) (dK (g1 fun h=>⟨eO rfl,fun T eu=>k1 q h T (eJ.norm eu)⟩)))
   . obtain rfl:i=3:=by omega
     exact gw (be _) eP (aqZ s) (dK (g0 ⟨all_nil,fun T eu=>k2 rfl T (eJ.norm eu)⟩))
 simp only[andThen];have e:Vv s=(D7 s.to.l&&(D7 s.F.l&& !((List.range 9).any (Lz s.F s.to)))):=by unfold Vv;rw[q8 (f:=fun i=>!MK (s.cv i)) h1];rfl
 rw[e];refine eu _ _ (eR (ff (ivD s.F s.to) aaD) (aq0 s _) ?_)
 repeat' (first|exact ij|refine dN ?_ ?_)
 all_goals
  intro A;simp only[aA,aH,bq,aL,bn]at A;refine⟨?_,_,_,_,rfl,aG V.bool ?_⟩
  . repeat' (first|exact all_nil|refine X ?_ ?_)
    all_goals rfl
  . first
    |(have a1:D7 s.to.l=true:=A.1
      have a2:D7 s.F.l=true:=A.2;rw[a1,a2];rfl)
    |(have a1:D7 s.to.l=true:=A.1
      have a2:D7 s.F.l=false:=A.2;rw[a1,a2];rfl)
    |exact absurd A.2 Bool.false_ne_true
    |(have a1:D7 s.to.l=false:=A.1
      rw[a1];rfl)
theorem czD(h0:∀i,i<3->(s.cv i).length<=1000000000):ee ak 90 [s.v] (.bool (!Vv s)):=
 fc Tryz.func90 (eR (ff (svD s h0) (be _)) (aq1 s _) (dK (g0 ⟨eO rfl,_,_,_,rfl,rfl⟩)))
theorem awT:∀ds hc v,Lw ds=some (hc,v)->(∀a∈hc,a)->ee ak 158 (ds.map D.kx) v:=fun ds hc v e hA=>by
 unfold Lw at e;split at e
 case h_2=>cases e
 rename_i k n cs;obtain⟨rfl,rfl⟩:=sm e;have e1:cs=eL (eN cs):=hA _ (by simp);have e2:n=(eN cs).length:=hA (n=(eN cs).length) (by simp);have e3:n<=1000000:=hA (n<=1000000) (by simp);generalize eN cs=l at *;subst e1 e2;exact awD k l e3
theorem aaE:fo ak Waw:=fq (yR dJ awT) (be _)
def avP:Bool:=decide (p.n>=1)&&(JF 4096 [p.a,p.b,p.d,p.e,p.n]&&(JF 268435456 [p.c,p.f]&&(Od p !=0)))
theorem avD:ee ak 127 [p.v] (.bool (avP p)):=by
 refine fc Tryz.func127 (eR (ff (adD p) aaE) (aq2 p) ?_)
 repeat' (first|exact ij|refine dN ?_ ?_)
 all_goals
  intro A;simp only[aA,aH,bq,aL,bn]at A;refine⟨?_,_,_,_,rfl,aG V.bool ?_⟩
  . repeat' (first|exact all_nil|refine X ?_ ?_)
    all_goals first|rfl|exact aZ rfl
  . unfold avP
    first
    |(have a1:JF 4096 [p.a,p.b,p.d,p.e,p.n]=true:=A.2.1
      have a2:JF 268435456 [p.c,p.f]=true:=A.2.2;rw[A.1,a1,a2];rfl)
    |(have a1:JF 4096 [p.a,p.b,p.d,p.e,p.n]=true:=A.2.1
      have a2:JF 268435456 [p.c,p.f]=false:=A.2.2;rw[A.1,a1,a2];rfl)
    |(have a1:JF 4096 [p.a,p.b,p.d,p.e,p.n]=false:=A.2
      rw[A.1,a1];rfl)
    |(rw[A];rfl)
theorem Sl(k:Int)(h0:0<=k)(h1:k<=1000000000)(l:List Int):JF k l=l.all fun x=>w9 x k:=by
 unfold JF;rw[List.not_any_eq_all_not];congr 1;funext x;rw[iz S S];unfold w9;rw[Bool.not_or,<- decide_not,<- decide_not];congr 1<;>exact decide_eq_decide.2 S
theorem aaF:avP p=Bn p:=by
 unfold avP Bn Tt Xa;rw[Sl _ fg fg,Sl _ fg fg];simp only[List.all_cons,List.all_nil,cG];by_cases h:p.n>=1
 . have e:w9 p.n 4096=decide (p.n<=4096):=by
    unfold w9;rw[show decide (-4096<=p.n)=true from aW S,aP]
   rw[e];generalize decide (p.n<=4096)=x;generalize w9 p.a 4096=a;generalize w9 p.b 4096=b;generalize w9 p.d 4096=c;generalize w9 p.e 4096=d;cases x<;>cases a<;>cases b<;>cases c<;>cases d<;>simp
 . rw[aX h];rfl
theorem afD:ee ak 127 [p.v] (.bool (Bn p)):=aaF p▸avD p
theorem Sm(x:Int×Int):JG x=K6 x:=by
 have e1:decide ((if x.2<x.1 then x.2 else x.1)< -65536)=(decide (x.1< -65536)||decide (x.2< -65536)):=by
  rw[<- Bool.decide_or];refine decide_eq_decide.2 ?_;split<;>omega
 have e2:decide ((if x.2>x.1 then x.2 else x.1)>65536)=(decide (x.1>65536)||decide (x.2>65536)):=by
  rw[<- Bool.decide_or];refine decide_eq_decide.2 ?_;split<;>omega
 unfold JG K6;rw[e1,e2];generalize decide (x.1< -65536)=a;generalize decide (x.2< -65536)=b;generalize decide (x.1>65536)=c;generalize decide (x.2>65536)=d;cases a<;>cases b<;>cases c<;>cases d<;>rfl
theorem arn(l:List (Int×Int))(hl:l.length<=1000000):ee ak 129 [wA l] (.bool (kf l)):=by
 have e:kf l=(decide (Int.ofNat l.length>=3)&&(decide (Int.ofNat l.length<=64)&& !(l.any JG))):=by
  unfold kf;rw[show JG=K6 from funext Sm];generalize l.any K6=a;cases a<;>simp
 rw[e];refine fc Tryz.func129 (eR (ff (ccD l JG (fun x _=>aqM x) hl) (be _)) (afW l _) ?_)
 repeat' (first|exact ij|refine dN ?_ ?_)
 all_goals
  intro A;simp only[aA,aH,bq,aL,bn]at A;exact⟨by first|exact all_nil|exact eO rfl,_,_,_,rfl,aG V.bool (by simp only[A,aP,aT])⟩
theorem ty1:TG ak 0 Tryz.f128.ntmps (dH 4 (dQ Tryz.f128)) (Cf f (uF1 f) t) (gi ak 0 Tryz.f128 fun u _ _=>u= .bool (t&&((f.vl==(0:Int))&&nN f.cu.length))):=by
 cases t with
 |false=>exact eR (be _) (OA f _) (dK (g0 ⟨all_nil,_,_,_,rfl,rfl⟩))
 |true=>
  refine eR (be _) (are f) ?_
  repeat' (first|exact ij|refine dN ?_ ?_)
  all_goals
   intro A;simp only[aA,aH,bq,aL,bn]at A;refine⟨?_,_,_,_,rfl,aG V.bool (by simp only[A,aP,aT])⟩
   repeat' (first|exact all_nil|refine X ?_ ?_)
   all_goals exact aG V.bool (beq_self_eq_true _)
theorem ty2:TG ak 0 Tryz.f128.ntmps (dH 4 (dQ Tryz.f128)) (Cf f (uF2 f) t) (gi ak 0 Tryz.f128 fun u _ _=>u= .bool (t&&((f.dv==(0:Int))&&((f.vl==(0:Int))&&(nN f.fh.length&&nN f.cu.length))))):=by
 cases t with
 |false=>exact eR (be _) (OA f _) (dK (g0 ⟨all_nil,_,_,_,rfl,rfl⟩))
 |true=>
  refine eR (be _) (arf f) ?_
  repeat' (first|exact ij|refine dN ?_ ?_)
  all_goals
   intro A;simp only[aA,aH,bq,aL,bn]at A;refine⟨?_,_,_,_,rfl,aG V.bool (by simp only[A,aP,aT])⟩
   repeat' (first|exact all_nil|refine X ?_ ?_)
   all_goals exact aG V.bool (beq_self_eq_true _)
theorem ty5:TG ak 0 Tryz.f128.ntmps (dH 4 (dQ Tryz.f128)) (Cf f (uF5 f) t) (gi ak 0 Tryz.f128 fun u _ _=>u= .bool (t&&((f.r==(0:Int))&&((f.dv==(0:Int))&&((f.vl==(0:Int))&&nN f.fh.length))))):=by
 cases t with
 |false=>exact eR (be _) (OA f _) (dK (g0 ⟨all_nil,_,_,_,rfl,rfl⟩))
 |true=>
  refine eR (be _) (arh f) ?_
  repeat' (first|exact ij|refine dN ?_ ?_)
  all_goals
   intro A;simp only[aA,aH,bq,aL,bn]at A;refine⟨?_,_,_,_,rfl,aG V.bool (by simp only[A,aP,aT])⟩
   repeat' (first|exact all_nil|refine X ?_ ?_)
   all_goals exact aG V.bool (beq_self_eq_true _)
theorem ty6:TG ak 0 Tryz.f128.ntmps (dH 4 (dQ Tryz.f128)) (Cf f (uF6 f) t) (gi ak 0 Tryz.f128 fun u _ _=>u= .bool (t&&((f.r==(0:Int))&&((f.dv==(0:Int))&&((f.vl==(0:Int))&&(nN f.fh.length&&nN f.cu.length)))))):=by
 cases t with
 |false=>exact eR (be _) (OA f _) (dK (g0 ⟨all_nil,_,_,_,rfl,rfl⟩))
 |true=>
  refine eR (be _) (ari f) ?_
  repeat' (first|exact ij|refine dN ?_ ?_)
  all_goals
   intro A;simp only[aA,aH,bq,aL,bn]at A;refine⟨?_,_,_,_,rfl,aG V.bool (by simp only[A,aP,aT])⟩
   repeat' (first|exact all_nil|refine X ?_ ?_)
   all_goals exact aG V.bool (beq_self_eq_true _)
theorem ty7:TG ak 0 Tryz.f128.ntmps (dH 4 (dQ Tryz.f128)) (Cf f (uF7 f) t) (gi ak 0 Tryz.f128 fun u _ _=>u= .bool (t&&((f.r==(0:Int))&&((f.dv==(0:Int))&&(nN f.fh.length&&nN f.cu.length))))):=by
 cases t with
 |false=>exact eR (be _) (OA f _) (dK (g0 ⟨all_nil,_,_,_,rfl,rfl⟩))
 |true=>
  refine eR (be _) (arj f) ?_
  repeat' (first|exact ij|refine dN ?_ ?_)
  all_goals
   intro A;simp only[aA,aH,bq,aL,bn]at A;refine⟨?_,_,_,_,rfl,aG V.bool (by simp only[A,aP,aT])⟩
   repeat' (first|exact all_nil|refine X ?_ ?_)
   all_goals exact aG V.bool (beq_self_eq_true _)
theorem ty8:TG ak 0 Tryz.f128.ntmps (dH 4 (dQ Tryz.f128)) (Cf f (uF8 f) t) (gi ak 0 Tryz.f128 fun u _ _=>u= .bool (t&&((f.dv==(0:Int))&&(nN f.fh.length&&nN f.cu.length)))):=by
 cases t with
 |false=>exact eR (be _) (OA f _) (dK (g0 ⟨all_nil,_,_,_,rfl,rfl⟩))
 |true=>
  refine eR (be _) (ark f) ?_
  repeat' (first|exact ij|refine dN ?_ ?_)
  all_goals
   intro A;simp only[aA,aH,bq,aL,bn]at A;refine⟨?_,_,_,_,rfl,aG V.bool (by simp only[A,aP,aT])⟩
   repeat' (first|exact all_nil|refine X ?_ ?_)
   all_goals exact aG V.bool (beq_self_eq_true _)
theorem Vw(x:Int):Xn x=DB x:=by
 unfold Xn rQ DB;rw[Bool.not_and];congr 1<;>rw[<- decide_not]<;>exact decide_eq_decide.2 S
theorem arp(hk:f.fh.length<=1000000)(Ku:f.cu.length<=1000000000)(Po:MK f.cu=kp f.cu):ee ak 128 [f.v] (.bool (iV f)):=by
 have DC:∀k,f.k=k->f=mh f k:=fun k h=>by obtain⟨a,_,_,_,_,_⟩:=f;simp only at h;subst h;rfl
 refine fc Tryz.func128 ?_;by_cases h1:f.k=1
 . have e:iV f=JY f:=by unfold iV;rw[aF h1]
   have ef:=DC 1 h1;have hr:=aq6 f (f.fh.any Xn);rw[<- ef]at hr;have hT:=ty1 f;rw[e];have cv:∀t,t=(yS f&&(!((Int.ofNat f.fh.length) !=(2*f.r+1)*(2*f.r+1))&&(rQ f.dv 1 1048576&& !f.fh.any Xn)))->JY f=(t&&((f.vl==(0:Int))&&nN f.cu.length)):=fun t ht=>by
    rw[ht,show Xn=DB from funext Vw];unfold JY pX rQ;rw[show decide (f.dv>=1)=!decide (f.dv<1)by rw[<- decide_not];exact decide_eq_decide.2 S,show decide (f.dv<=1048576)=!decide (f.dv>1048576)by rw[<- decide_not];exact decide_eq_decide.2 S];simp only[bY,aP,bX,cG,Bool.and_assoc]
   have hw:yS f=true->IntKind.i64.wrap (IntKind.i64.wrap (IntKind.i64.wrap ((2:Int)*f.r)+(1:Int))*IntKind.i64.wrap (IntKind.i64.wrap ((2:Int)*f.r)+(1:Int)))=((2:Int)*f.r+(1:Int))*((2:Int)*f.r+(1:Int)):=fun Kg=>by
    unfold yS at Kg;rw[ay,aU,aU]at Kg;obtain⟨k1,k2⟩:=Kg;rcases(by omega:f.r=0\/f.r=1\/f.r=2\/f.r=3)with h|h|h|h<;>rw[h]<;>rfl
   have go:∀t,t=(yS f&&(!((Int.ofNat f.fh.length) !=(2*f.r+1)*(2*f.r+1))&&(rQ f.dv 1 1048576&& !f.fh.any Xn)))->TG ak 0 Tryz.f128.ntmps (dH 4 (dQ Tryz.f128)) (Cf f (uF1 f) t) (gi ak 0 Tryz.f128 fun u _ _=>u= .bool (JY f)):=fun t ht=>by
    rw[cv t ht];exact hT t
   refine uB 4 (ff (cbD f.fh Xn (fun x _=>fcD x) hk) (be _)) hr ?_
   repeat' (first|exact ij|refine dN ?_ ?_)
   all_goals
    intro A;simp only[aA,aH,bq,aL,bn]at A;refine⟨by first|exact all_nil|exact eO rfl,_,rfl,go _ ?_⟩
   . have q1:yS f=true:=by unfold yS;rw[A.1,A.2.1];rfl
     rw[hw q1]at A;rw[q1,show rQ f.dv 1 1048576=true by unfold rQ;rw[A.2.2.2.1,A.2.2.2.2];rfl];rw[show((Int.ofNat f.fh.length) !=(2*f.r+1)*(2*f.r+1))=false by unfold bne;rw[A.2.2.1];rfl];rfl
   . have q1:yS f=true:=by unfold yS;rw[A.1,A.2.1];rfl
     rw[q1,show rQ f.dv 1 1048576=false by unfold rQ;rw[A.2.2.2.1,A.2.2.2.2];rfl];simp
   . have q1:yS f=true:=by unfold yS;rw[A.1,A.2.1];rfl
     rw[q1,show rQ f.dv 1 1048576=false by unfold rQ;rw[A.2.2.2];rfl];simp
   . have q1:yS f=true:=by unfold yS;rw[A.1,A.2.1];rfl
     rw[hw q1]at A;rw[q1,show((Int.ofNat f.fh.length) !=(2*f.r+1)*(2*f.r+1))=true by unfold bne;rw[A.2.2];rfl];rfl
   . have q1:yS f=false:=by unfold yS;rw[A.1,A.2];rfl
     rw[q1];rfl
   . have q1:yS f=false:=by unfold yS;rw[A];rfl
     rw[q1];rfl
 by_cases C:f.k=2\/f.k=3\/f.k=4
 . have e:iV f=(yS f&&((f.dv==(0:Int))&&((f.vl==(0:Int))&&(nN f.fh.length&&nN f.cu.length)))):=by
    unfold iV pX;rw[aD h1,aF C];generalize yS f=a;generalize nN f.fh.length=b;generalize (f.dv==(0:Int))=c;generalize (f.vl==(0:Int))=d;generalize nN f.cu.length=x;cases a<;>cases b<;>cases c<;>cases d<;>cases x<;>rfl
   rw[e];rcases C with h|h|h
   . have hr:=aq7 f;rw[<- DC _ h]at hr;exact uB 4 xQ hr (dK (g0 ⟨all_nil,_,rfl,ty2 f (rQ f.r 0 3)⟩))
   . have hr:=aq8 f;rw[<- DC _ h]at hr;exact uB 4 xQ hr (dK (g0 ⟨all_nil,_,rfl,ty2 f (rQ f.r 0 3)⟩))
   . have hr:=aq9 f;rw[<- DC _ h]at hr;exact uB 4 xQ hr (dK (g0 ⟨all_nil,_,rfl,ty2 f (rQ f.r 0 3)⟩))
 by_cases h5:f.k=5
 . have e:iV f=(MK f.cu&&((f.r==(0:Int))&&((f.dv==(0:Int))&&((f.vl==(0:Int))&&nN f.fh.length)))):=by
    unfold iV pX;rw[aD h1,aD C,aF h5,Po];generalize kp f.cu=a;generalize nN f.fh.length=b;generalize (f.dv==(0:Int))=c;generalize (f.vl==(0:Int))=d;generalize (f.r==(0:Int))=x;cases a<;>cases b<;>cases c<;>cases d<;>cases x<;>rfl
   rw[e];have hr:=ara f (MK f.cu);rw[<- DC _ h5]at hr;exact uB 4 (ff (cvD f.cu Ku) xQ) hr (dK (g0 ⟨eO rfl,_,rfl,ty5 f _⟩))
 by_cases h6:f.k=6
 . have e:iV f=(true&&((f.r==(0:Int))&&((f.dv==(0:Int))&&((f.vl==(0:Int))&&(nN f.fh.length&&nN f.cu.length))))):=by
    unfold iV pX;rw[aD h1,aD C,aD h5,aF h6];generalize nN f.cu.length=a;generalize nN f.fh.length=b;generalize (f.dv==(0:Int))=c;generalize (f.vl==(0:Int))=d;generalize (f.r==(0:Int))=x;cases a<;>cases b<;>cases c<;>cases d<;>cases x<;>rfl
   rw[e];have hr:=arb f;rw[<- DC _ h6]at hr;exact uB 4 xQ hr (dK (g0 ⟨all_nil,_,rfl,ty6 f _⟩))
 by_cases h7:f.k=7
 . have e:iV f=(rQ f.vl 0 256&&((f.r==(0:Int))&&((f.dv==(0:Int))&&(nN f.fh.length&&nN f.cu.length)))):=by
    unfold iV pX rQ;rw[aD h1,aD C,aD h5,aD h6,aF h7];generalize (decide (f.vl>=0)&&decide (f.vl<=256))=d;generalize nN f.cu.length=a;generalize nN f.fh.length=b;generalize (f.dv==(0:Int))=c;generalize (f.r==(0:Int))=x;cases a<;>cases b<;>cases c<;>cases d<;>cases x<;>rfl
   rw[e];have hr:=arc f;rw[<- DC _ h7]at hr;exact uB 4 xQ hr (dK (g0 ⟨all_nil,_,rfl,ty7 f _⟩))
 by_cases h8:f.k=8
 . have e:iV f=((rQ f.r (-3) 3&&rQ f.vl (-3) 3)&&((f.dv==(0:Int))&&(nN f.fh.length&&nN f.cu.length))):=by
    unfold iV pX rQ;rw[aD h1,aD C,aD h5,aD h6,aD h7,aF h8];generalize decide (f.r>= -3)=d;generalize decide (f.r<=3)=d1;generalize decide (f.vl>= -3)=d2;generalize decide (f.vl<=3)=d3;generalize nN f.cu.length=a;generalize nN f.fh.length=b;generalize (f.dv==(0:Int))=c;cases a<;>cases b<;>cases c<;>cases d<;>cases d1<;>cases d2<;>cases d3<;>rfl
   rw[e];have hr:=ard f;rw[<- DC _ h8]at hr;refine uB 4 (be _) hr ?_
   repeat' (first|exact ij|refine dN ?_ ?_)
   all_goals
    intro A;simp only[aA,aH,bq,aL,bn]at A;refine⟨all_nil,_,rfl,?_⟩
   . rw[show(rQ f.r (-3) 3&&rQ f.vl (-3) 3)=true by unfold rQ;rw[A.1,A.2.1,A.2.2.1,A.2.2.2];rfl];exact ty8 f true
   . rw[show(rQ f.r (-3) 3&&rQ f.vl (-3) 3)=false by unfold rQ;rw[A.1,A.2.1,A.2.2.1,A.2.2.2];rfl];exact ty8 f false
   . rw[show(rQ f.r (-3) 3&&rQ f.vl (-3) 3)=false by unfold rQ;rw[A.1,A.2.1,A.2.2];rfl];exact ty8 f false
   . rw[show(rQ f.r (-3) 3&&rQ f.vl (-3) 3)=false by unfold rQ;rw[A.1,A.2];rfl];exact ty8 f false
   . rw[show(rQ f.r (-3) 3&&rQ f.vl (-3) 3)=false by unfold rQ;rw[A];rfl];exact ty8 f false
 . have e:iV f=false:=by unfold iV;rw[aD h1,aD C,aD h5,aD h6,aD h7,aD h8]
   rw[e];have nb:∀k:Int,f.k≠k->V.bool (f.k==k)=V.bool false:=fun k h=>aG V.bool (cB.2 h);exact isH 4 (be _) (arl f) (dK (g0 ⟨X (nb 1 h1) (X (nb 2 fun q=>C (.inl q)) (X (nb 3 fun q=>C (.inr (.inl q))) (X (nb 4 fun q=>C (.inr (.inr q))) (X (nb 5 h5) (X (nb 6 h6) (X (nb 7 h7) (eO (nb 8 h8)))))))),rfl⟩))
end
noncomputable abbrev af0:Code:=dQ Tryz.f174
noncomputable abbrev af1:Code:=dQ Tryz.f156
noncomputable abbrev aaG:Code:=dH 1 af1
noncomputable abbrev arq:Code:=dQ Tryz.f155
abbrev pq4(r g b a:Int):V:=.agg [.int .u8 r,.int .u8 g,.int .u8 b,.int .u8 a]
theorem af2(r g b a:Int):H (M ew []) [(5,.split)] 0 Tryz.f174 [] (af0) (dI [pq4 r g b a] .nil 0) (fV (a==(0:Int)) ([],.ret (.agg [.int .u8 0,.int .u8 0,.int .u8 0,.int .u8 0]) (hL []) 0) ([],.ret (.agg [.int .u8 r,.int .u8 g,.int .u8 b,.int .u8 a]) (hL []) 0)):=G.Y
def LA:ag->Option (ah×V)
 | [.agg [.int .u8 r,.int .u8 g,.int .u8 b,.int .u8 a]]=>some ([],pq4 (cl a r) (cl a g) (cl a b) (cl a a))
 |_=>none
noncomputable abbrev Wpc:gG:=jC 174 (ic LA) ew
theorem aaH:jM ak 174 (ic LA):=by
 refine nD Tryz.func174 fun args hc v e=>?_;unfold LA at e;split at e
 case h_2=>cases e
 rename_i r g b a;obtain⟨rfl,rfl⟩:=sm e;refine⟨rfl,rfl,rfl,fun _=>eR (be _) (af2 r g b a) (dN (g1 fun h=>⟨all_nil,_,_,_,rfl,?_⟩) (dK (g1 fun h=>⟨all_nil,_,_,_,rfl,?_⟩)))⟩
 . have h:a=0:=by simpa using h
   simp only[pq4,cl,aF h]
 . have h:¬a=0:=by simpa using h
   simp only[pq4,cl,aD h]
theorem G6:fo ak Wpc:=fq aaH (be _)
section
variable(p:Nat->Int)(W:List Int)(q:Nat->Int)
def sTc(i:Nat):St:=fI [(1,.ptr (some (0,0))),(2,.ptr (some (1,0))),(5,jv p),(6,J i)] (hL [(0,.own .u8 W),(1,.own .u8 (List.replicate 256 0))]) 2
theorem ars:H (M Wpc []) [] 0 Tryz.f156 [1,2] (ek 1 af1) (dI [jv p] .nil 0) [([],[],eC (fI [(1,.ptr (some (0,0))),(2,.ptr (some (1,0)))] (hL [(0,.cells (D.gk (vZ p))),(1,.cells (List.replicate 256 (.int .u8 0)))]) 2))]:=G.Y
theorem art(W:List Int):H (M Wpc []) [] 0 Tryz.f156 [1,2,5,6] (dO (dO aaG)) (fI [(1,.ptr (some (0,0))),(2,.ptr (some (1,0)))] (hL [(0,.cells (D.gk (vZ p))),(1,.cells (List.replicate 256 (.int .u8 0)))]) 2) [([],[],eC (fI [(1,.ptr (some (0,0))),(2,.ptr (some (1,0))),(5,jv p),(6,R 0)] (hL [(0,.cells (D.gk (vZ p))),(1,.cells (List.replicate 256 (.int .u8 0)))]) 2))]:=G.Y
theorem aru(i:Nat)(r g b a:Int):H (M Wpc []) [(7,.split),(9,.dL (pq4 r g b a)),(14,.dL (J (i+1)))] 0 Tryz.f156 [1,2,5,6] (dP (dP (eB (dO aaG)))) (sTc p W i)
  (fV (decide (Int.ofNat i<64)) ([(0:Int)<=Int.ofNat i/\Int.ofNat i<64,i*4+4<=(D.gk (vZ p)).length,V.agg (List.take 4 (List.drop (i*4) (D.gk (vZ p))))=pq4 r g b a,(0:Int)<=Int.ofNat i/\Int.ofNat i<64,0+i*4+4<=W.length,V.int .i64 (IntKind.i64.wrap (Int.ofNat i+1))=J (i+1)],eC (sTc p (By W (0+i*4) [cl a r,cl a g,cl a b,cl a a]) (i+1))) ([],.to (.exit 0) (sTc p W i))):=G.Y
theorem arv:H (M Wpc []) [] 0 Tryz.f156 [] (eB aaG) (sTc p W 64) [([],[256<=W.length,256<=256],.ret (mG .u8 W 0 256) (hL []) 0)]:=G.Y
def J1:Bool:=(List.range 64).all fun i=>(p (i*4)==q (i*4))&&((p (i*4+1)==q (i*4+1))&&((p (i*4+2)==q (i*4+2))&&((p (i*4+3)==q (i*4+3))&&true)))
theorem arw:H (M (fa 156 [jv p] (jv q) ew) []) [] 0 Tryz.f155 [] arq (dI [jv p] .nil 0) [([],[fG [jv p]],.ret (.bool (J1 q fun _=>0)) (hL []) 0)]:=G.Y
theorem Sq:D.gk (vZ p)=(List.range 256).map fun j=>V.int .u8 (p j):=by
 unfold vZ;rw[D.gy,List.map_map];rfl
theorem aaI{i:Nat}(h:i<64):List.take 4 (List.drop (i*4) (D.gk (vZ p)))=[.int .u8 (p (4*i)),.int .u8 (p (4*i+1)),.int .u8 (p (4*i+2)),.int .u8 (p (4*i+3))]:=by
 rw[Sq];refine List.ext_getElem? fun j=>?_;rw[cg];by_cases c:j<4
 . rw[aF c,cj,bD,di S,Nat.mul_comm i 4];rcases(by omega:j=0\/j=1\/j=2\/j=3)with rfl|rfl|rfl|rfl<;>rfl
 . rw[aD c,cF (by simp only[aN,cm];omega)]
theorem Vx:(D.gk (vZ p)).length=256:=by rw[Sq];simp
theorem tcD:ee ak 156 [jv p] (jv (iU p)):=by
 refine fc Tryz.func156 ?_;refine fN 1 G6 (ars p) all_nil ?_;refine nO G6 0 _ [1,2,5,6] (64-·) (. <=64) (fun i=>sTc p (tl fun j=>if j<4*i then iU p j else p j) i) 0 fg (art p []) all_nil (by
  rw[Du (q:=p) fun j _=>aD S];exact .own [(0,.u8),(1,.u8)] dJ) fun i hi=>?_
 refine⟨_,G6,[],_,_,aru p _ i (p (4*i)) (p (4*i+1)) (p (4*i+2)) (p (4*i+3)),dN (g1 fun h1=>?_) (dK (g1 fun h=>?_))⟩
 . have fj:=d64 h1;refine⟨X (b64 fj) (X (by rw[Vx];omega) (X (aG V.agg (aaI p fj)) (X (b64 fj) (X (by rw[o5];omega) (eO (gV S)))))),i+1,uD fj,by show i+1<=64;omega,?_⟩;rw[KT (k:=fun j=>if j<4*(i+1)then iU p j else p j) fj]
   . exact .refl
   all_goals first
    |(rw[aF S];unfold iU;congr 2;omega)
    |skip
   intro j _ hj;by_cases c:j<4*i
   . rw[aF c,aF S]
   . rw[aD c,aD S]
 . have:=n64 h;obtain rfl:i=64:=by omega
   refine⟨all_nil,rfl,eR G6 (arv p _) (dK (g0 ⟨X (by rw[o5];exact aK _) (eO (aK _)),_,_,_,rfl,?_⟩))⟩;rw[yN];exact As fun j hj=>aF S
theorem tzD:ee ak 155 [jv p] (.bool (J1 (iU p) fun _=>0)):=by
 refine fc Tryz.func155 ?_;exact eR (ff (tcD p) (be _)) (arw p (iU p)) (dK (g0 ⟨eO rfl,_,_,_,rfl,rfl⟩))
end
set_option maxRecDepth 100000
noncomputable abbrev af5:Code:=dQ Tryz.f175
section
variable(a x b y:Int)
noncomputable abbrev arx:Code:=dQ Tryz.f157
noncomputable abbrev ary:Code:=dQ Tryz.f176
theorem arz:H (M ew []) [(11,.dL (.bool false)),(13,.dL (.bool false)),(16,.split),(19,.split)] 0 Tryz.f176 [] ary (dI [R x,R y] .nil 0)
  (Ur (decide (x<y)) (decide (x>y)) ([kP (x !=x),kP (y !=y)],.ret (.int .i64 (-1)) (hL []) 0) ([kP (x !=x),kP (y !=y)],.ret (.int .i64 1) (hL []) 0) ([kP (x !=x),kP (y !=y)],.ret (.int .i64 0) (hL []) 0)):=G.Y
def o7:Int:=if x<y then -1 else if y<x then 1 else 0
def LB:ag->Option (ah×V)
 | [.int .i64 x,.int .i64 y]=>some ([],.int .i64 (o7 x y))
 |_=>none
theorem Fw:V.bool (x !=x)=V.bool false:=aG V.bool (by simp)
theorem aaJ:jM ak 176 (ic LB):=by
 refine nD Tryz.func176 fun args hc v e=>?_;unfold LB at e;split at e
 case h_2=>cases e
 rename_i x y;obtain⟨rfl,rfl⟩:=sm e;refine⟨rfl,rfl,rfl,fun _=>eR (be _) (arz x y) (dN (g1 fun h=>⟨X (Fw x) (eO (Fw y)),_,_,_,rfl,?_⟩) (dN (g2 fun h C=>⟨X (Fw x) (eO (Fw y)),_,_,_,rfl,?_⟩) (dK (g2 fun h C=>⟨X (Fw x) (eO (Fw y)),_,_,_,rfl,?_⟩))))⟩
 . have h:=aZ h;unfold o7;rw[aF h]
 . have h:=bt h;have C:=aZ C;unfold o7;rw[aD h,aF C]
 . have h:=bt h;have C:=bt C;unfold o7;rw[aD h,aD C]
noncomputable abbrev Sr:Code:=dH 2 af5
def sOr(i:Int):St:=fI [(3,R 0),(6,.eM false 2 [.int .i64 a,.int .i64 b]),(7,R 2),(8,R i)] .nil 0
theorem arA:H (M ew []) [] 0 Tryz.f175 [0,3] (ek 2 af5) (dI [.eM false 2 [.int .i64 a,.int .i64 b]] .nil 0) [([],[],eC (fI [(0,.eM false 2 [.int .i64 a,.int .i64 b]),(3,.int .i64 0)] (hL []) 0))]:=G.Y
theorem arB:H (M ew []) [] 0 Tryz.f175 [3,6,7,8] (dO (dO Sr)) (fI [(0,.eM false 2 [.int .i64 a,.int .i64 b]),(3,R 0)] .nil 0) [([],[],eC (fI [(3,.int .i64 0),(6,.eM false 2 [.int .i64 a,.int .i64 b]),(7,.int .i64 2),(8,.int .i64 0)] (hL []) 0))]:=G.Y
theorem arC:H (M ew []) [(14,.split)] 0 Tryz.f175 [3,6,7,8] (dP (dP (eB (dO Sr)))) (sOr a b 0) (fV (a !=(0:Int)) ([(0:Int)<=(0:Int)/\(0:Int)<(2:Int),[D.int B a,D.int B b].length=2],.ret (.int .i64 a) (hL []) 0) ([(0:Int)<=(0:Int)/\(0:Int)<(2:Int),[D.int B a,D.int B b].length=2],eC (fI [(3,.int .i64 0),(6,.eM false 2 [.int .i64 a,.int .i64 b]),(7,.int .i64 2),(8,.int .i64 1)] (hL []) 0))):=G.Y
theorem arD:H (M ew []) [(14,.split)] 0 Tryz.f175 [3,6,7,8] (dP (dP (eB (dO Sr)))) (sOr a b 1) (fV (b !=(0:Int)) ([(0:Int)<=(1:Int)/\(1:Int)<(2:Int),[D.int B a,D.int B b].length=2],.ret (.int .i64 b) (hL []) 0) ([(0:Int)<=(1:Int)/\(1:Int)<(2:Int),[D.int B a,D.int B b].length=2],eC (fI [(3,.int .i64 0),(6,.eM false 2 [.int .i64 a,.int .i64 b]),(7,.int .i64 2),(8,.int .i64 2)] (hL []) 0))):=G.Y
theorem arE:H (M ew []) [] 0 Tryz.f175 [3,6,7,8] (dP (dP (eB (dO Sr)))) (sOr a b 2) [([],[],.to (.exit 0) (fI [(3,.int .i64 0),(6,.eM false 2 [.int .i64 a,.int .i64 b]),(7,.int .i64 2),(8,.int .i64 2)] (hL []) 0))]:=G.Y
theorem arF:H (M ew []) [] 0 Tryz.f175 [] (eB Sr) (sOr a b 2) [([],[],.ret (.int .i64 0) (hL []) 0)]:=G.Y
def HI:Int:=if a≠0 then a else b
theorem orD:ee ak 175 [.eM false 2 [.int .i64 a,.int .i64 b]] (R (HI a b)):=by
 refine fc Tryz.func175 ?_;refine fN 2 (be _) (arA a b) all_nil ?_;refine nO (be _) 0 _ [3,6,7,8] (2-·) (fun i:Nat=>i<=2/\(1<=i->a=0)/\(2<=i->b=0)) (fun i=>sOr a b (Int.ofNat i)) 0 ⟨aR _,fun h=>absurd h fg,fun h=>absurd h fg⟩ (arB a b) all_nil .refl fun i ⟨hi,h1,C⟩=>?_;have A0:∀p∈[((0:Int)<=(0:Int)/\(0:Int)<(2:Int)),([D.int B a,D.int B b].length=2)],p:=X fg (eO rfl);have A1:∀p∈[((0:Int)<=(1:Int)/\(1:Int)<(2:Int)),([D.int B a,D.int B b].length=2)],p:=X fg (eO rfl);rcases(by omega:i=0\/i=1\/i=2)with rfl|rfl|rfl
 . refine⟨_,be _,_,_,_,arC a b,dN (g1 fun h=>⟨A0,?_⟩) (dK (g1 fun h=>⟨A0,1,fg,⟨fg,fun _=>?_,fun h=>absurd h fg⟩,.refl⟩))⟩
   . show R a=R (HI a b);unfold HI;rw[aF (by simpa using h)]
   . simpa using h
 . refine⟨_,be _,_,_,_,arD a b,dN (g1 fun h=>⟨A1,?_⟩) (dK (g1 fun h=>⟨A1,2,fg,⟨fg,fun _=>h1 fg,fun _=>?_⟩,.refl⟩))⟩
   . show R b=R (HI a b);unfold HI;rw[aD (by simpa using h1 fg)]
   . simpa using h
 . refine⟨_,be _,_,_,_,arE a b,dK (g0 ⟨all_nil,rfl,eR (be _) (arF a b) (dK (g0 ⟨all_nil,_,_,_,rfl,?_⟩))⟩)⟩;show R 0=R (HI a b);unfold HI;rw[aD (by simpa using h1 fg),C fg]
def LC:ai->Option (ah×V)
 | [.eM 2 [.int .i64 a,.int .i64 b]]=>some ([],.int .i64 (HI a b))
 |_=>none
theorem aaK:jM ak 175 (yQ LC):=by
 refine yR dJ fun ds hc v e hA=>?_;unfold LC at e;split at e
 case h_2=>cases e
 obtain⟨rfl,rfl⟩:=sm e;exact orD _ _
noncomputable abbrev Wod:gG:=jC 175 (yQ LC) (jC 176 (ic LB) ew)
theorem aaL:fo ak Wod:=fq aaK (fq aaJ (be _))
theorem arG(z w:Int):H (M Wod []) [] 0 Tryz.f157 [] (arx) (dI [.agg [R x,R y],.agg [R z,R w]] .nil 0) [([],[[D.int B (o7 y w),D.int B (o7 x z)].length=2],.ret (.int .i64 (HI (o7 y w) (o7 x z))) (hL []) 0)]:=G.Y
end
set_option maxRecDepth 100000
noncomputable abbrev arH:Code:=dQ Tryz.f154
noncomputable abbrev aaM:Code:=dQ Tryz.f126
noncomputable abbrev G7:Code:=dH 2 aaM
section
variable(n:Nat)
theorem arI(x y:Int):H (M ew []) [(5,.split),(9,.split),(14,.split)] 0 Tryz.f154 [] (arH) (dI [.agg [R x,R y]] .nil 0) (Qy (decide (x>=(-8192:Int))) (decide (x<=(8191:Int))) (decide (y>=(-8192:Int))) ([],.ret (.bool (decide (y<=(8191:Int)))) (hL []) 0) ([],ji)):=G.Y
theorem aaN:jM ak 154 (ic Ar):=by
 refine nD Tryz.func154 fun args hc v e=>?_;unfold Ar at e;split at e
 case h_2=>cases e
 rename_i x y;obtain⟨rfl,rfl⟩:=sm e;refine⟨rfl,rfl,rfl,fun _=>eR (be _) (arI x y) (dN (g3 fun h C h3=>⟨all_nil,_,_,_,rfl,?_⟩) (dN (g3 fun h C h3=>⟨all_nil,_,_,_,rfl,?_⟩) (dN (g2 fun h C=>⟨all_nil,_,_,_,rfl,?_⟩) (dK (g1 fun h=>⟨all_nil,_,_,_,rfl,?_⟩)))))⟩<;>simp only[B3, *,aP,aT]
theorem arJ(cs:ai):H (M ew []) [(8,.dL (.bool false))] 0 Tryz.f126 [1] (ek 2 aaM) (dI [.agg [.eM false n cs]] .nil 0) [([],[kP (decide ((Int.ofNat n)>(1024:Int)))],eC (fI [(1,.ptr (some (0,0)))] (hL [(0,.cells [.eM false n cs])]) 1))]:=G.Y
theorem arK(cs:ai):H (M ew []) [(8,.dL (.bool true))] 0 Tryz.f126 [] (aaM) (dI [.agg [.eM false n cs]] .nil 0) [([],[kr (decide ((Int.ofNat n)>(1024:Int)))],ji)]:=G.Y
def LD:ag->Option (ah×V)
 | [.agg [.int .i64 x,.int .i64 y],.agg [.int .i64 z,.int .i64 w]]=>some ([],.int .i64 (HI (o7 y w) (o7 x z)))
 |_=>none
theorem aaO:jM ak 157 (ic LD):=by
 refine nD Tryz.func157 fun args hc v e=>?_;unfold LD at e;split at e
 case h_2=>cases e
 rename_i x y z w;obtain⟨rfl,rfl⟩:=sm e;exact⟨rfl,rfl,rfl,fun _=>eR aaL (arG x y z w) (dK (g0 ⟨eO rfl,_,_,_,rfl,rfl⟩))⟩
noncomputable abbrev Wrv:gG:=jC 157 (ic LD) (jC 154 (ic Ar) ew)
theorem LF:fo ak Wrv:=fq aaO (fq aaN (be _))
def AJ(cs:ai)(i:Nat):St:=fI [(1,.ptr (some (0,0))),(10,.eM false n cs),(11,J n),(12,J i)] (hL [(0,.cells [.eM false n cs])]) 1
theorem arL(cs:ai):H (M ew []) [] 0 Tryz.f126 [1,10,11,12] (dO (dO G7)) (fI [(1,.ptr (some (0,0)))] (hL [(0,.cells [.eM false n cs])]) 1) [([],[],eC (AJ n cs 0))]:=G.Y
theorem arM(cs:ai)(i:Nat)(t:Tl):H (M Wrv []) [(13,.dL (.bool true)),(15,.dL (.eo t.d)),(21,.dL (.bool true))] 0 Tryz.f126 [1,10,11,12] (dP (dP (eB (dO G7)))) (AJ n cs i) [([],[kr (decide (Int.ofNat i<Int.ofNat n)),fT i n,cs.length=n*258,gv cs i 258 t.d,kr (!B3 t.x t.y)],ji)]:=G.Y
theorem arN(cs:ai)(i:Nat)(t:Tl)(z:Bool):H (M (fa 155 [jv t.p] (.bool z) Wrv) []) [(13,.dL (.bool true)),(15,.dL (.eo t.d)),(21,.dL (.bool false)),(26,.dL (.bool true))] 0 Tryz.f126 [1,10,11,12] (dP (dP (eB (dO G7)))) (AJ n cs i) [([],[kr (decide (Int.ofNat i<Int.ofNat n)),fT i n,cs.length=n*258,gv cs i 258 t.d,kP (!B3 t.x t.y),fG [jv t.p],kr (z)],ji)]:=G.Y
theorem arO(cs:ai)(i:Nat)(t:Tl)(z:Bool)(q:Nat->Int):H (M (fa 155 [jv t.p] (.bool z) (fa 156 [jv t.p] (jv q) Wrv)) []) [(13,.dL (.bool true)),(15,.dL (.eo t.d)),(21,.dL (.bool false)),(26,.dL (.bool false)),(34,.dL (.bool true))] 0 Tryz.f126 [1,10,11,12] (dP (dP (eB (dO G7)))) (AJ n cs i) [([],[kr (decide (Int.ofNat i<Int.ofNat n)),fT i n,cs.length=n*258,gv cs i 258 t.d,kP (!B3 t.x t.y),fG [jv t.p],kP (z),fG [jv t.p],kr (!J1 q t.p)],ji)]:=G.Y
theorem arP(cs:ai)(j:Nat)(t u:Tl)(z:Bool)(q:Nat->Int):H (M (fa 155 [jv t.p] (.bool z) (fa 156 [jv t.p] (jv q) Wrv)) []) [(13,.dL (.bool true)),(15,.dL (.eo t.d)),(21,.dL (.bool false)),(26,.dL (.bool false)),(34,.dL (.bool false)),(37,.dL (.bool true)),(41,.dL (J j)),(42,.dL (.eo u.d)),(50,.dL (.bool true))] 0 Tryz.f126 [1,10,11,12] (dP (dP (eB (dO G7)))) (AJ n cs (j+1)) [([],[kr (decide (Int.ofNat (j+1)<Int.ofNat n)),fT (j+1) n,cs.length=n*258,gv cs (j+1) 258 t.d,kP (!B3 t.x t.y),fG [jv t.p],kP (z),fG [jv t.p],kP (!J1 q t.p),kr (decide (Int.ofNat (j+1)>(0:Int))),V.int .i64 (IntKind.i64.wrap (Int.ofNat (j+1)-(1:Int)))=J j,fT j n,cs.length=n*258,gv cs j 258 u.d,kr (decide (HI (o7 u.y t.y) (o7 u.x t.x)>=(0:Int)))],ji)]:=G.Y
theorem arQ(cs:ai)(j:Nat)(t u:Tl)(z:Bool)(q:Nat->Int):H (M (fa 155 [jv t.p] (.bool z) (fa 156 [jv t.p] (jv q) Wrv)) []) [(13,.dL (.bool true)),(15,.dL (.eo t.d)),(21,.dL (.bool false)),(26,.dL (.bool false)),(34,.dL (.bool false)),(37,.dL (.bool true)),(41,.dL (J j)),(42,.dL (.eo u.d)),(50,.dL (.bool false)),(51,.dL (J (j+2)))] 0 Tryz.f126 [1,10,11,12] (dP (dP (eB (dO G7)))) (AJ n cs (j+1)) [([],[kr (decide (Int.ofNat (j+1)<Int.ofNat n)),fT (j+1) n,cs.length=n*258,gv cs (j+1) 258 t.d,kP (!B3 t.x t.y),fG [jv t.p],kP (z),fG [jv t.p],kP (!J1 q t.p),kr (decide (Int.ofNat (j+1)>(0:Int))),V.int .i64 (IntKind.i64.wrap (Int.ofNat (j+1)-(1:Int)))=J j,fT j n,cs.length=n*258,gv cs j 258 u.d,kP (decide (HI (o7 u.y t.y) (o7 u.x t.x)>=(0:Int))),V.int .i64 (IntKind.i64.wrap (Int.ofNat (j+1)+(1:Int)))=J (j+2)],eC (AJ n cs (j+2)))]:=G.Y
theorem arR(cs:ai)(i:Nat)(t:Tl)(z:Bool)(q:Nat->Int):H (M (fa 155 [jv t.p] (.bool z) (fa 156 [jv t.p] (jv q) Wrv)) []) [(13,.dL (.bool true)),(15,.dL (.eo t.d)),(21,.dL (.bool false)),(26,.dL (.bool false)),(34,.dL (.bool false)),(37,.dL (.bool false)),(51,.dL (J (i+1)))] 0 Tryz.f126 [1,10,11,12] (dP (dP (eB (dO G7)))) (AJ n cs i) [([],[kr (decide (Int.ofNat i<Int.ofNat n)),fT i n,cs.length=n*258,gv cs i 258 t.d,kP (!B3 t.x t.y),fG [jv t.p],kP (z),fG [jv t.p],kP (!J1 q t.p),kP (decide (Int.ofNat i>(0:Int))),oq i],eC (AJ n cs (i+1)))]:=G.Y
theorem arS(cs:ai)(i:Nat):H (M ew []) [(13,.dL (.bool false))] 0 Tryz.f126 [1,10,11,12] (dP (dP (eB (dO G7)))) (AJ n cs i) [([],[kP (decide (Int.ofNat i<Int.ofNat n))],.to (.exit 0) (AJ n cs i))]:=G.Y
theorem arT(cs:ai)(i:Nat):H (M ew []) [] 0 Tryz.f126 [] (eB G7) (AJ n cs i) [([],[],B0)]:=G.Y
end
set_option maxRecDepth 100000
def kK(u:Option Tl)(t:Tl):Bool:=B3 t.x t.y&&(!(J1 (iU t.p) fun _=>0)&&(J1 (iU t.p) t.p&&(match u with|none=>true|some u=>decide (HI (o7 u.y t.y) (o7 u.x t.x)<0))))
def kV:Option Tl->List Tl->Bool
 |_,[]=>true
 |u,t::l=>kK u t&&kV (some t) l
def rvF(l:List Tl):Bool:=decide (l.length<=1024)&&kV none l
def pvT(l:List Tl):Nat->Option Tl
 |0=>none
 |i+1=>l[i]?
theorem bT{p:Prop}[Decidable p](h:p):V.bool (decide p)=V.bool true:=aG V.bool (aW h)
theorem bF{p:Prop}[Decidable p](h:¬p):V.bool (decide p)=V.bool false:=aG V.bool (aX h)
theorem rvD(l:List Tl)(hl:l.length<=1000000):ee ak 126 [lu l] (.bool (rvF l)):=by
 refine fc Tryz.func126 ?_;by_cases U:l.length<=1024
 case neg=>
  have e:rvF l=false:=by unfold rvF;rw[aX U];rfl
  rw[e];exact eR (be _) (arK _ _) (dK (g0 ⟨eO (bT (by simp only[gD];omega)),_,_,_,rfl,rfl⟩))
 have e0:rvF l=kV none l:=by unfold rvF;rw[aW U,aP]
 rw[e0];refine fN 2 (be _) (arJ l.length (iO l)) (eO (bF (by simp only[gD];omega))) ?_;refine nO (be _) 0 _ [1,10,11,12] (l.length-·) (fun i=>i<=l.length/\kV none l=kV (pvT l i) (l.drop i)) (fun i=>AJ l.length (iO l) i) 0 ⟨aR _,rfl⟩ (arL _ _) all_nil .refl fun i ⟨hi,hv⟩=>?_;by_cases fj:i<l.length
 case neg=>
  obtain rfl:i=l.length:=by omega
  refine⟨_,be _,_,_,_,arS _ _ _,dK (g0 ⟨eO (bF (by simp only[gD];omega)),rfl,eR (be _) (arT _ _ _) (dK (g0 ⟨all_nil,_,_,_,rfl,?_⟩))⟩)⟩;rw[hv,List.drop_length];rfl
 have hd:l.drop i=l[i]::l.drop (i+1):=bC fj;have nJ:=xF fj;have jJ:=iS l;have hn:l[i]? =some l[i]:=au fj;generalize l[i]=t at hd nJ hn;rw[hd]at hv;have hv:kV none l=(kK (pvT l i) t&&kV (some t) (l.drop (i+1))):=hv;have hT:V.bool (decide (Int.ofNat i<Int.ofNat l.length))=V.bool true:=bT (by simp only[gD];omega);have bad:kK (pvT l i) t=false->V.bool false=V.bool (kV none l):=fun h=>by rw[hv,h];rfl
 cases h1:B3 t.x t.y with
 |false=>exact⟨_,LF,_,_,_,arM _ _ i t,dK (g0 ⟨X hT (X (iI fj) (X jJ (X nJ (eO (by rw[h1];rfl))))),bad (by unfold kK;rw[h1];rfl)⟩)⟩
 |true=>
 cases C:J1 (iU t.p) (fun _=>0)with
 |true=>exact⟨_,ff (tzD t.p) LF,_,_,_,arN _ _ i t _,dK (g0 ⟨X hT (X (iI fj) (X jJ (X nJ (X (by rw[h1];rfl) (X rfl (eO (aG V.bool C))))))),bad (by unfold kK;rw[h1,C];rfl)⟩)⟩
 |false=>
 have fm:=ff (tzD t.p) (ff (tcD t.p) LF);cases h3:J1 (iU t.p) t.p with
 |false=>exact⟨_,fm,_,_,_,arO _ _ i t _ _,dK (g0 ⟨X hT (X (iI fj) (X jJ (X nJ (X (by rw[h1];rfl) (X rfl (X (aG V.bool C) (X rfl (eO (by rw[h3];rfl))))))))),bad (by unfold kK;rw[h1,C,h3];rfl)⟩)⟩
 |true=>
 cases i with
 |zero=>
  refine⟨_,fm,_,_,_,arR _ _ 0 t _ _,dK (g0 ⟨?_,1,uD fj,⟨fj,?_⟩,.refl⟩)⟩
  . repeat' (first|exact all_nil|refine X ?_ ?_)
    all_goals first
     |exact hT
     |exact iI fj
     |exact jJ
     |exact nJ
     |rfl
     |exact aG V.bool C
     |(rw[h1];rfl)
     |(rw[h3];rfl)
     |exact bF fg
     |exact gV S
  rw[hv];have:kK (pvT l 0) t=true:=by unfold kK pvT;rw[h1,C,h3];rfl
  rw[this,aP];show _=kV l[0]? _;rw[hn]
 |succ j=>
  have hj:j<l.length:=by omega
  have aaS:=xF hj;have qQ:l[j]? =some l[j]:=au hj;generalize l[j]=u at aaS qQ;have hpv:pvT l (j+1)=some u:=qQ;rw[hpv]at hv bad;have hc:∀(o:Bool),V.bool (decide (HI (o7 u.y t.y) (o7 u.x t.x)>=(0:Int)))=V.bool o->∀p∈[V.bool (decide (Int.ofNat (j+1)<Int.ofNat l.length))=V.bool true,(0:Int)<=Int.ofNat (j+1)/\Int.ofNat (j+1)<Int.ofNat l.length,(iO l).length=l.length*258,V.eo (dU (iO l) ((j+1)*258) 258)=V.eo t.d,V.bool (!B3 t.x t.y)=V.bool false,fG [jv t.p],V.bool (J1 (iU t.p) fun _=>0)=V.bool false,fG [jv t.p],V.bool (!J1 (iU t.p) t.p)=V.bool false,V.bool (decide (Int.ofNat (j+1)>(0:Int)))=V.bool true,V.int .i64 (IntKind.i64.wrap (Int.ofNat (j+1)-(1:Int)))=J j,(0:Int)<=Int.ofNat j/\Int.ofNat j<Int.ofNat l.length,(iO l).length=l.length*258,V.eo (dU (iO l) (j*258) 258)=V.eo u.d,V.bool (decide (HI (o7 u.y t.y) (o7 u.x t.x)>=(0:Int)))=V.bool o],p:=fun o ho=>
   X hT (X (iI fj) (X jJ (X nJ (X (by rw[h1];rfl) (X rfl (X (aG V.bool C) (X rfl (X (by rw[h3];rfl) (X (bT (by simp only[gD];omega)) (X (xD (by simp only[gD];omega) S) (X (iI hj) (X jJ (X aaS (eO ho))))))))))))))
  by_cases ho:HI (o7 u.y t.y) (o7 u.x t.x)>=0
  . exact⟨_,fm,_,_,_,arP _ _ j t u _ _,dK (g0 ⟨hc true (bT ho),bad (by unfold kK;rw[h1,C,h3];simp only[aP,Bool.not_false];exact aX S)⟩)⟩
  . refine⟨_,fm,_,_,_,arQ _ _ j t u _ _,dK (g0 ⟨?_,j+2,by show l.length-(j+2)<l.length-(j+1);omega,⟨fj,?_⟩,.refl⟩)⟩
    . clear hc
      repeat' (first|exact all_nil|refine X ?_ ?_)
      all_goals first
       |exact hT
       |exact iI fj
       |exact jJ
       |exact nJ
       |rfl
       |exact aG V.bool C
       |(rw[h1];rfl)
       |(rw[h3];rfl)
       |exact bT (by simp only[gD];omega)
       |exact xD (by simp only[gD];omega) S
       |exact iI hj
       |exact aaS
       |exact bF ho
       |exact gV S
    . rw[hv];have:kK (some u) t=true:=by unfold kK;rw[h1,C,h3];simp only[aP,Bool.not_false];exact aW S
      rw[this,aP];show _=kV l[j+1]? _;rw[hn]
set_option maxRecDepth 10000
theorem Ss{l:List Int}:Bu l=true↔∀j,j+1<l.length->l.getD j 0<=l.getD (j+1) 0:=by
 unfold Bu;rw[bZ,dn];constructor
 . intro h j hj;have:=h j (bQ.2 S);unfold Xk at this;rw[aU]at this;omega
 . intro h j hj;have:=h j (by have:=bQ.1 hj;omega);unfold Xk;rw[aU];omega
theorem JH{c:List Int}{i:Nat}:Oe c i=false↔(0<=c.getD i 0/\c.getD i 0<=65535)/\∀j,i=j+1->c.getD j 0<=c.getD (j+1) 0:=by
 unfold Oe;cases i with
 |zero=>
  simp only[cM,bu,and_true];exact⟨fun h=>⟨S,fun j e=>by omega⟩,fun h=>by omega⟩
 |succ j=>
  simp only[cM,bu];refine⟨fun h=>⟨S,fun k e=>?_⟩,fun h=>⟨S,?_⟩⟩
  . obtain rfl:k=j:=by omega
    omega
  . have:=h.2 j rfl;omega
theorem Fx(l:List Int):MK l=kp l:=by
 rw[Bool.eq_iff_iff];unfold MK kp ptB;simp only[ay,bZ,dn,aU,Ss];constructor
 . rintro⟨⟨h1,C⟩,h3,h4,h5⟩;refine⟨⟨h1,C⟩,fun i hi=>?_⟩;have hi:=bQ.1 hi;have up:∀k,∀i,i+k<l.length->l.getD i 0<=l.getD (i+k) 0:=fun k=>by
    induction k with
    |zero=>intro i _;exact Int.le_refl _
    |succ k ih=>intro i hi;exact Int.le_trans (ih i S) (h5 (i+k) S)
   have a1:=up i 0 S;have a2:=up (l.length-1-i) i S;rw[bI]at a1;rw[show i+(l.length-1-i)=l.length-1 by omega]at a2;rw[Bool.not_eq_true,JH];exact⟨S,fun j e=>h5 j S⟩
 . rintro⟨⟨h1,C⟩,h3⟩;have U:=fun i (hi:i<l.length)=>JH.1 (by have:=h3 i (bQ.2 hi);simpa using this);simp only[gD]at h1;refine⟨⟨h1,C⟩,(U 0 S).1.1,(U (l.length-1) S).1.2,fun j hj=>(U (j+1) hj).2 j rfl⟩
theorem Su{α:Type}(p q:α->Bool):∀l:List α,(l.any fun x=>p x||q x)=(l.any p||l.any q)
 | []=>rfl
 |x::l=>by
  simp only[List.any_cons,Su p q l];generalize p x=a;generalize q x=b;generalize l.any p=c;generalize l.any q=d;cases a<;>cases b<;>cases c<;>cases d<;>rfl
theorem M9.arU(m:M9):m.l=(List.range 9).map m.at:=rfl
section
variable(s:Sp)
theorem aaT:(D7 s.to.l&&D7 s.F.l)=!((List.range 9).any (GL s)):=by
 have e:∀m:M9,m.l.any cwB=(List.range 9).any fun i=>x1 (m.at i)||x2 (m.at i):=fun m=>by
  rw[M9.arU,List.any_map];rfl
 unfold D7;rw[e,e,<- Bool.not_or,<- Su];rfl
theorem Vy(x:Int):IntKind.i64.wrap (0+IntKind.i64.wrap x)=IntKind.i64.wrap x:=by
 rw[Int.zero_add];unfold IntKind.wrap;have e1:(2^IntKind.i64.bits:Int)=18446744073709551616:=by decide
 have e2:(2^(IntKind.i64.bits-1):Int)=9223372036854775808:=by decide
 have e3:IntKind.i64.signed=true:=rfl;simp only[e1,e2,e3,aP,aU];split<;>split<;>omega
theorem tX(i j:Nat)(hi:i<3)(hj:j<3):Lz s.F s.to (3*i+j)=AB s i j:=by
 have e:ZM s i j 3=ivS s.F s.to i j:=by
  show prI s i j 2 (prI s i j 1 (prI s i j 0 0))=_;unfold prI ivS;rw[Vy,Nat.mul_zero,bI,Nat.add_zero]
 have e2:Vt s.F s.to (3*i+j)=fiI s i j:=by
  unfold Vt fiI;rw[e,show(3*i+j)/3=i by omega,show(3*i+j)%3=j by omega];have h:Nat.beq i j=(Int.ofNat i==Int.ofNat j):=by
   rcases(by omega:i=0\/i=1\/i=2)with rfl|rfl|rfl<;>rcases(by omega:j=0\/j=1\/j=2)with rfl|rfl|rfl<;>rfl
  rw[h]
 unfold Lz AB;rw[e2]
theorem aaU:(List.range 9).any (Lz s.F s.to)=(List.range 3).any fun i=>(List.range 3).any (AB s i):=by
 have e:List.range 9=[3*0+0,3*0+1,3*0+2,3*1+0,3*1+1,3*1+2,3*2+0,3*2+1,3*2+2]:=rfl;have e3:List.range 3=[0,1,2]:=rfl;rw[e,e3];simp only[List.any_cons,List.any_nil];rw[tX s 0 0,tX s 0 1,tX s 0 2,tX s 1 0,tX s 1 1,tX s 1 2,tX s 2 0,tX s 2 1,tX s 2 2]<;>try decide
 simp only[Bool.or_assoc,cL]
theorem aaV:Vv s=Bo s:=by
 unfold Vv Bo;rw[aaU,<- aaT,show(fun i=>!MK (s.cv i))=fun i=>!kp (s.cv i)from funext fun i=>by rw[Fx]];generalize ((List.range 3).any fun i=>!kp (s.cv i))=a;generalize D7 s.to.l=b;generalize D7 s.F.l=c;cases a<;>cases b<;>cases c<;>rfl
theorem arV(h:Tu s):ee ak 90 [s.v] (.bool (!Bo s)):=aaV s▸czD s fun i _=>h.cv i
end
theorem af7(f:FL)(hk:f.fh.length<=1000000)(A:f.cu.length<=1000000000):ee ak 128 [f.v] (.bool (iV f)):=arp f hk A (Fx _)
theorem Vz(l:List Sp)(hs:∀s∈l,Tu s)(hl:l.length<=1000000):ee ak 92 [.eM false l.length (lj l),ng 90] (.bool (l.any fun s=>!Bo s)):=
 ceD l (fun s=>!Bo s) (fun s h=>arV s (hs s h)) hl
set_option maxRecDepth 10000
theorem ML{p q:Nat->Int}:J1 p q=true↔∀j,j<256->p j=q j:=by
 unfold J1;rw[bw];simp only[bQ,ay,ct,and_true];constructor
 . intro h j hj;obtain⟨h0,h1,C,h3⟩:=h (j/4) S;rcases(by omega:j=j/4*4\/j=j/4*4+1\/j=j/4*4+2\/j=j/4*4+3)with e|e|e|e
   . rw[e];exact h0
   . rw[e];exact h1
   . rw[e];exact C
   . rw[e];exact h3
 . intro h i hi;exact⟨h _ S,h _ S,h _ S,h _ S⟩
theorem Sv(p:Nat->Int):J1 (iU p) (fun _=>0)=nE p:=by
 unfold nE;rw[Bool.eq_iff_iff,ML,Gv];constructor
 . intro h i hi;have:=h (4*i+3) S;unfold iU cl at this;rw[show(4*i+3)/4=i by omega]at this;split at this
   . assumption
   . exact this
 . intro h j hj;unfold iU cl;rw[aF (h (j/4) S)]
theorem Sw(p q:Nat->Int):J1 p q=vp p q:=by
 unfold vp;rw[Bool.eq_iff_iff,ML,Gv]
theorem G8(a b c d:Int):decide (HI (o7 b d) (o7 a c)<0)=HD a b c d:=by
 unfold HI o7 HD;by_cases h1:b<d
 . rw[aF h1];simp[h1]
 . by_cases C:d<b
   . rw[aD h1,aF C];have:¬b=d:=by omega
     simp[h1,this]
   . rw[aD h1,aD C];obtain rfl:b=d:=by omega
     by_cases h3:a<c
     . simp[h3]
     . by_cases h4:c<a
       . simp[h3,h4]
       . simp[h3,h4]
theorem Sx(l:List Tl):∀(k:Nat) (m:List Tl) (u:Option Tl),m=l.drop k->u=pvT l k->k<=l.length->(kV u m=true↔∀i,k<=i->i<l.length->WV l i):=by
 intro k m
 induction m generalizing k with
 |nil=>
  intro u L hu hk;have:l.length<=k:=by
   have:=aG List.length L;rw[dA,cm]at this;omega
  exact⟨fun _ i h1 C=>absurd C S,fun _=>rfl⟩
 |cons t m ih=>
  intro u L hu hk;have fj:k<l.length:=by
   rcases bx k l.length with q|q
   . exact q
   . rw[List.drop_eq_nil_of_le q]at L;cases L
  have hd:l.drop k=l[k]::l.drop (k+1):=bC fj;rw[hd]at L;injection L with ht ue;have hg:l[k]? =some t:=by rw[au fj,ht]
  have ih:=ih (k+1) (some t) ue (by rw[<- hg];rfl) fj;have e:kV u (t::m)=(kK u t&&kV (some t) m):=rfl;rw[e,ay,ih];have mY:kK u t=true↔WV l k:=by
   unfold kK WV okT;rw[Sv,Sw];simp only[ay,bZ];constructor
   . rintro⟨h1,C,h3,h4⟩ t' WW;rw[hg]at WW;cases WW;refine⟨⟨h1,C,h3⟩,fun h0 u' BS=>?_⟩;obtain⟨j,rfl⟩:∃j,k=j+1:=⟨k-1,S⟩;have:u=some u':=hu.trans BS;subst this;simp only at h4;rw[G8]at h4;exact h4
   . intro h;obtain⟨⟨h1,C,h3⟩,h4⟩:=h t hg;refine⟨h1,C,h3,?_⟩;cases k with
     |zero=>
      have:u=none:=hu;rw[this]
     |succ j=>
      have hj:u=some (l[j]'(by omega)):=hu.trans (au S);rw[hj];simp only;rw[G8];exact h4 S _ (au S)
  rw[mY];constructor
  . rintro⟨h1,C⟩ i hi hl;rcases Nat.eq_or_lt_of_le hi with rfl|q
    . exact h1
    . exact C i q hl
  . exact fun h=>⟨h k (aK _) fj,fun i hi hl=>h i S hl⟩
theorem OB(l:List Tl):rvF l=cD (fK l):=by
 unfold rvF fK;rw[Bool.eq_iff_iff,ay,aU,Gv,Sx l 0 l none rfl rfl (aR _)];exact⟨fun⟨h1,C⟩=>⟨h1,fun i hi=>C i (aR _) hi⟩,fun⟨h1,C⟩=>⟨h1,fun i _ hi=>C i hi⟩⟩
theorem v7(l:List Tl)(hl:l.length<=1000000):ee ak 126 [lu l] (.bool (cD (fK l))):=OB l▸rvD l hl
open Go.Shelf Go.RowKit
set_option maxRecDepth 10000
def af8:Go.Shelf.Ren:=⟨fun|137=>179|217=>183|266=>184|n=>n,fun n=>n,fun n=>n⟩
theorem aaW:Lays.n137 ak af8:={
 mixed:=mo
 f137:=Tryz.func179.trans (aG some dJ)
 f217:=Tryz.func183.trans (aG some dJ)
 f266:=Tryz.func184.trans (aG some dJ)
 t3:=Tryz.underlying3
 a3:=Tryz.isAgg3
 z3:=Tryz.sizeOf3
 v3:=Tryz.zeroValue3
 t5:=Tryz.underlying5
 a5:=Tryz.isAgg5
 z5:=Tryz.sizeOf5
 v5:=Tryz.zeroValue5
 t9:=Tryz.underlying9
 a9:=Tryz.isAgg9
 z9:=Tryz.sizeOf9
 v9:=Tryz.zeroValue9
}
def af9:Go.Shelf.Ren:=⟨fun|315=>173|n=>n,fun|40=>211|n=>n,fun n=>n⟩
theorem aaX:Lays.n315 ak af9:={
 mixed:=mo
 f315:=Tryz.func173.trans (aG some dJ)
 t0:=Tryz.underlying0
 a0:=Tryz.isAgg0
 z0:=Tryz.sizeOf0
 v0:=Tryz.zeroValue0
 t3:=Tryz.underlying3
 a3:=Tryz.isAgg3
 z3:=Tryz.sizeOf3
 v3:=Tryz.zeroValue3
 t4:=Tryz.underlying4
 a4:=Tryz.isAgg4
 z4:=Tryz.sizeOf4
 v4:=Tryz.zeroValue4
 t9:=Tryz.underlying9
 a9:=Tryz.isAgg9
 z9:=Tryz.sizeOf9
 v9:=Tryz.zeroValue9
 t21:=Tryz.underlying21
 a21:=Tryz.isAgg21
 z21:=Tryz.sizeOf21
 v21:=Tryz.zeroValue21
 t40:=Tryz.underlying211
 a40:=Tryz.isAgg211
 z40:=Tryz.sizeOf211
 v40:=Tryz.zeroValue211
}
section
variable(r:Int)(s:aa)(b a:Int)
def LG:ag->Option (ah×V)
 | [.str s,.int .u8 c]=>some ([],R (Lib.indexByte s c.toNat.toUInt8))
 |_=>none
theorem aaY:jM ak 179 (ic LG):=by
 refine⟨aE dJ,fun args h n hc v h' n' e hA E w dZ ra g hd A=>?_⟩;unfold ic LG at e;split at e
 case h_2=>cases e
 rename_i A1 v1 e1;split at e1
 case h_2=>cases e1
 rename_i s c;simp only[aq,aB]at e e1;obtain⟨rfl,rfl⟩:=e1;obtain⟨rfl,rfl,rfl,rfl⟩:=e;obtain⟨y,ys,r0,rs,rfl⟩:=ra;obtain⟨z,zs,r1,rs2,rfl⟩:=rs;have rs2:zs=[]:=rs2;subst rs2;have r0:y= .string ⟨s.toArray⟩:=r0;have r1:z= .int .u8 c:=r1;subst r0;subst r1;refine(Any.strings_IndexByte aaW ⟨s.toArray⟩ c w).mono fun en w' ⟨he,hw⟩=>?_;subst he;subst hw;exact vi g hd rfl ⟨E,rfl⟩ (Below.refl _ _)
noncomputable abbrev Wib:gG:=jC 179 (ic LG) ew
theorem G9:fo ak Wib:=fq aaY (be _)
def oP:aa:=[97,98,99,100,101,102,103,104,105,106,107,108,109,110,111,112,113,114,115,116,117,118,119,120,121,122,48,49,50,51,52,53,54,55,56,57,45,95]
abbrev iR:V:=.int .i32 r
noncomputable abbrev Sy:Code:=dQ Tryz.f172
noncomputable abbrev agc:Code:=dP (dH 1 Sy)
noncomputable abbrev agd:Code:=pc (eB agc)
noncomputable abbrev aaZ:Code:=pc (eB agd)
noncomputable abbrev Sz:Code:=pc (eB aaZ)
def JI(q:List (Nat×V)):St:=fI ([(0,.str oP),(1,iR r)]++q) (hL []) 0
theorem arW:H (M Wib []) [(162,.dL (.bool true)),(165,.dL (.bool true))] 0 Tryz.f172 [] (Sy) (dI [.str oP,iR r] .nil 0) [([],[kr (decide ((0:Int)<=r)),kr (decide (r<(128:Int)))],.ret (.int .i64 (Lib.indexByte oP (IntKind.u8.wrap r).toNat.toUInt8)) (hL []) 0)]:=G.Y
theorem arX:H (M ew []) [] 0 Tryz.f172 [] (Sy) (dI [.str oP,iR 65533] .nil 0) [([],[],.ret (.int .i64 (-1)) (hL []) 0)]:=G.Y
theorem arY:H (M ew [(180,[(5,.dL (.bool true)),(8,.dL (.bool false)),(12,.dL (.bool false))])]) [(162,.dL (.bool true)),(165,.dL (.bool false)),(173,.dL (.bool false))] 0 Tryz.f172 [] (Sy) (dI [.str oP,iR r] .nil 0) [([],[kr (decide ((0:Int)<=r)),kP (decide (r<(128:Int))),kP (r==(65533:Int)),kr (decide ((0:Int)<=r)),kP (decide (r<(55296:Int))),kP (decide ((57343:Int)<r))],.ret (.int .i64 (-1)) (hL []) 0)]:=G.Y
theorem arZ:H (M ew []) [] 0 Tryz.f172 [0,1] (ek 1 Sy) (dI [.str oP,iR r] .nil 0) [([],[],eC (JI r []))]:=G.Y
theorem ar0:H (M ew []) [(162,.dL (.bool true)),(165,.dL (.bool false))] 0 Tryz.f172 [0,1,160] (dO agc) (JI r []) [([],[kr (decide ((0:Int)<=r)),kP (decide (r<(128:Int)))],eC (JI r [(160,.bool false)]))]:=G.Y
theorem ar1:H (M ew []) [(173,.dL (.bool false))] 0 Tryz.f172 [0,1,171] (dO agd) (JI r [(160,.bool false)]) [([],[kP (r==(65533:Int))],eC (JI r [(171,.bool false)]))]:=G.Y
theorem ar2:H (M ew [(180,[(5,.dL (.bool true)),(8,.split),(12,.dL (.bool true)),(15,.dL (.bool true))])]) [] 0 Tryz.f172 [0,1,183] (dO aaZ) (JI r [(171,.bool false)]) (fV (decide (r<(55296:Int))) ([kr (decide ((0:Int)<=r))],eC (JI r [(183,.bool false)])) ([kr (decide ((0:Int)<=r)),kr (decide ((57343:Int)<r)),kr (decide (r<=(1114111:Int)))],eC (JI r [(183,.bool false)]))):=G.Y
def xS:Code->Code
 | .scope c=>c
 |c=>c
noncomputable abbrev cS1:Code:=xS Sz
noncomputable abbrev bS1:Code:=dP (dP (dO (dH 4 cS1)))
noncomputable abbrev cS2:Code:=xS (dP (eB bS1))
def LH(k:Nat):St:=JI r [(7,.str (iE r)),(8,J k),(9,J k),(10,J 0)]
theorem age:H (M ew []) [(20,.dL (J 2))] 0 Tryz.f172 [0,1,7,8,9,10] (ek 4 cS1) (JI r [(183,.bool false)]) [([],[V.int B (Int.ofNat (iE r).length)=J 2],eC (LH r 1))]:=G.Y
theorem agf:H (M ew []) [] 0 Tryz.f172 [0,1,7,8,9,10] (dO bS1) (LH r 1) [([],[],eC (LH r 1))]:=G.Y
abbrev MM:Prop:=V.int IntKind.u8 (Int.ofNat ((iE r).getD 1 (0:UInt8)).toNat)=V.int IntKind.u8 b
theorem agh:H (M Wib []) [(32,.dL (.int .u8 b)),(33,.dL (.bool true)),(40,.dL (.int .u8 b)),(43,.dL (.bool true))] 0 Tryz.f172 [0] (dO cS2) (LH r 1) [([],[(0:Int)<=(1:Int)/\1<38,(0:Int)<=(1:Int)/\1<(iE r).length,MM r b,kr ((98:Int) !=b),(0:Int)<=(2:Int)/\(2:Int)<=(38:Int),(0:Int)<=(1:Int)/\1<(iE r).length,MM r b,kr (decide (Lib.indexByte (List.drop 2 (List.take 38 oP)) b.toNat.toUInt8<(0:Int)))],.ret (.int .i64 (-1)) (hL []) 0)]:=G.Y
theorem agi:H (M ew []) [(20,.dL (J 3))] 0 Tryz.f172 [0,1,7,8,9,10] (ek 4 cS1) (JI r [(183,.bool false)]) [([],[V.int B (Int.ofNat (iE r).length)=J 3],eC (LH r 2))]:=G.Y
theorem agj:H (M ew []) [] 0 Tryz.f172 [0,1,7,8,9,10] (dO bS1) (LH r 2) [([],[],eC (LH r 2))]:=G.Y
abbrev MN:Prop:=V.int IntKind.u8 (Int.ofNat ((iE r).getD 2 (0:UInt8)).toNat)=V.int IntKind.u8 b
theorem agk:H (M Wib []) [(32,.dL (.int .u8 b)),(33,.dL (.bool true)),(40,.dL (.int .u8 b)),(43,.dL (.bool true))] 0 Tryz.f172 [0] (dO cS2) (LH r 2) [([],[(0:Int)<=(2:Int)/\2<38,(0:Int)<=(2:Int)/\2<(iE r).length,MN r b,kr ((99:Int) !=b),(0:Int)<=(3:Int)/\(3:Int)<=(38:Int),(0:Int)<=(2:Int)/\2<(iE r).length,MN r b,kr (decide (Lib.indexByte (List.drop 3 (List.take 38 oP)) b.toNat.toUInt8<(0:Int)))],.ret (.int .i64 (-1)) (hL []) 0)]:=G.Y
theorem agl:H (M ew []) [(20,.dL (J 4))] 0 Tryz.f172 [0,1,7,8,9,10] (ek 4 cS1) (JI r [(183,.bool false)]) [([],[V.int B (Int.ofNat (iE r).length)=J 4],eC (LH r 3))]:=G.Y
theorem agm:H (M ew []) [] 0 Tryz.f172 [0,1,7,8,9,10] (dO bS1) (LH r 3) [([],[],eC (LH r 3))]:=G.Y
abbrev MO:Prop:=V.int IntKind.u8 (Int.ofNat ((iE r).getD 3 (0:UInt8)).toNat)=V.int IntKind.u8 b
theorem agn:H (M Wib []) [(32,.dL (.int .u8 b)),(33,.dL (.bool true)),(40,.dL (.int .u8 b)),(43,.dL (.bool true))] 0 Tryz.f172 [0] (dO cS2) (LH r 3) [([],[(0:Int)<=(3:Int)/\3<38,(0:Int)<=(3:Int)/\3<(iE r).length,MO r b,kr ((100:Int) !=b),(0:Int)<=(4:Int)/\(4:Int)<=(38:Int),(0:Int)<=(3:Int)/\3<(iE r).length,MO r b,kr (decide (Lib.indexByte (List.drop 4 (List.take 38 oP)) b.toNat.toUInt8<(0:Int)))],.ret (.int .i64 (-1)) (hL []) 0)]:=G.Y
theorem ar4:H (M (fa 172 [.str oP,iR r] (R a) ew) []) [] 0 Tryz.f152 [] (dQ Tryz.f152) (dI [.str oP,iR r] .nil 0) [([],[fG [.str oP,iR r]],.ret (.bool (decide (a>=(0:Int)))) (hL []) 0)]:=G.Y
theorem ar5(b:Bool):H (M (fa 152 [.str oP,iR r] (.bool b) ew) []) [] 0 Tryz.f151 [] (dQ Tryz.f151) (dI [iR r] .nil 0) [([],[fG [.str oP,iR r]],.ret (.bool (!b)) (hL []) 0)]:=G.Y
theorem ar6:H (M (fa 173 [.str s,ng 151,.bool true] (R a) ew) []) [] 0 Tryz.f153 [] (dQ Tryz.f153) (dI [.str s,ng 151] .nil 0) [([],[V.jj ([]++[V.str s,ng 151,V.bool true]++[])=[V.str s,ng 151,V.bool true]],.ret (.int .i64 a) (hL []) 0)]:=G.Y
theorem ar7:H (M (fa 153 [.str s,ng 151] (R a) ew) []) [(6,.split)] 0 Tryz.f125 [] (dQ Tryz.f125) (dI [.str s] .nil 0) (fV (decide ((Int.ofNat s.length)<=(12:Int))) ([V.jj ([]++[V.str s,V.fn (Fn.func 151) [] []]++[])=[V.str s,ng 151]],.ret (.bool (decide (a<(0:Int)))) (hL []) 0) ([],ji)):=G.Y
end
set_option maxRecDepth 10000
section
variable{N n0:Nat}{c:Code}{s:St}{Q:Exit->St->Prop}
def SA(Q:Exit->St->Prop):Exit->St->Prop
 | .goto _,_=>False
 |y,s=>Q y s
def MP:Code->Bool
 | .scope _=>true
 |_=>false
theorem zi(h:TG ak N n0 (xS c) s (SA Q))(A:MP c=true:=by kernel_rfl):TG ak N n0 c s Q:=by
 cases c<;>simp only[MP,aM]at A;intro E a w hx r hn k;refine wp_scope_straight (h E a w _ r hn fun y T E' a' w' q u oy r'=>?_);cases y<;>first|exact k _ T E' a' w' q u oy r'|exact q.elim
end
theorem VA{r:Int}(h1:128<=r)(C:r<1114112)(hv:¬(55296<=r/\r<=57343)):∃k,(k=1\/k=2\/k=3)/\(iE r).length=k+1/\(iE r).getD k 0=UInt8.ofNat (128+r.toNat%64):=by
 have OC:Utf8.valid r=true:=by
  unfold Utf8.valid;simp only[cq,ay,aU];omega
 unfold iE Utf8.encode;simp only[OC,if_true];rw[aD (show ¬r.toNat<0x80 by omega)];by_cases c1:r.toNat<0x800
 . rw[aF c1];exact⟨1,.inl rfl,rfl,rfl⟩
 . rw[aD c1];by_cases c2:r.toNat<0x10000
   . rw[aF c2];exact⟨2,.inr (.inl rfl),rfl,rfl⟩
   . rw[aD c2];exact⟨3,.inr (.inr rfl),rfl,rfl⟩
section
variable(r:Int)(x:Nat)(s:aa)(b:UInt8)
def Xo:Int:=if r<128 then Lib.indexByte oP r.toNat.toUInt8 else -1
theorem VB:oP.all (fun b=>decide (b.toNat<128))=true:=by decide
theorem v8{l:aa}{c:UInt8}(h:∀b∈l,b≠c):Lib.indexByte l c= -1:=by
 induction l with
 |nil=>rfl
 |cons b l ih=>
  unfold Lib.indexByte;rw[aD (by simpa using h b (bB ..)),ih fun b U=>h b (bh _ U)];rfl
abbrev RGi:Exit->St->Prop:=gi ak 0 Tryz.f172 fun u _ _=>u=R (-1)
theorem aa0(hl:(iE r).length=1+1)(hg:(iE r).getD 1 0=b)(U:∀x∈oP,x≠b):TG ak 0 Tryz.f172.ntmps (xS Sz) (JI r [(183,.bool false)]) (SA (gT 0 RGi)):=by
 have e1:V.int B (Int.ofNat (iE r).length)=J 2:=by rw[hl]
 have e2:V.int IntKind.u8 (Int.ofNat ((iE r).getD 1 (0:UInt8)).toNat)=V.int IntKind.u8 (Int.ofNat b.toNat):=by rw[hg]
 have e3:V.bool ((98:Int) !=Int.ofNat b.toNat)=V.bool true:=aG V.bool (by
  have:(98:UInt8)≠b:=U _ fg;rw[bne_iff_ne];intro e;refine this (UInt8.toNat_inj.1 ?_);have e:((98:Nat):Int)=(b.toNat:Int):=e;exact Int.ofNat_inj.1 e)
 have e4:V.bool (decide (Lib.indexByte (List.drop 2 (List.take 38 oP)) (Int.ofNat b.toNat).toNat.toUInt8<(0:Int)))=V.bool true:=by
  have eb:(Int.ofNat b.toNat).toNat.toUInt8=b:=by
   show b.toNat.toUInt8=b;exact UInt8.ofNat_toNat
  rw[eb,v8 fun x K=>U x (cK (List.mem_of_mem_drop K))];rfl
 refine fN 4 (be _) (age r) (eO e1) ?_;refine dY dJ (fJ (i:=1) dJ (j9 (fun _ s=>s=LH r 1) dJ ?_ 0 rfl));rintro m s rfl;refine dY dJ (gw (be _) eP (agf r) (dK (g0 ⟨all_nil,fun T eu=>?_⟩)));simp only[andThen];refine gj eu (fJ (i:=2) dJ (zi ?_));refine qm G9 (fun u _ _=>u=R (-1)) (agh r (Int.ofNat b.toNat)) (dK (g0 ⟨?_,rfl,fun T h=>h⟩))
 repeat' (first|exact all_nil|refine X ?_ ?_)
 all_goals first
  |exact e2
  |exact e3
  |exact e4
  |decide
  |(rw[hl];decide)
theorem aa1(hl:(iE r).length=2+1)(hg:(iE r).getD 2 0=b)(U:∀x∈oP,x≠b):TG ak 0 Tryz.f172.ntmps (xS Sz) (JI r [(183,.bool false)]) (SA (gT 0 RGi)):=by
 have e1:V.int B (Int.ofNat (iE r).length)=J 3:=by rw[hl]
 have e2:V.int IntKind.u8 (Int.ofNat ((iE r).getD 2 (0:UInt8)).toNat)=V.int IntKind.u8 (Int.ofNat b.toNat):=by rw[hg]
 have e3:V.bool ((99:Int) !=Int.ofNat b.toNat)=V.bool true:=aG V.bool (by
  have:(99:UInt8)≠b:=U _ fg;rw[bne_iff_ne];intro e;refine this (UInt8.toNat_inj.1 ?_);have e:((99:Nat):Int)=(b.toNat:Int):=e;exact Int.ofNat_inj.1 e)
 have e4:V.bool (decide (Lib.indexByte (List.drop 3 (List.take 38 oP)) (Int.ofNat b.toNat).toNat.toUInt8<(0:Int)))=V.bool true:=by
  have eb:(Int.ofNat b.toNat).toNat.toUInt8=b:=by
   show b.toNat.toUInt8=b;exact UInt8.ofNat_toNat
  rw[eb,v8 fun x K=>U x (cK (List.mem_of_mem_drop K))];rfl
 refine fN 4 (be _) (agi r) (eO e1) ?_;refine dY dJ (fJ (i:=1) dJ (j9 (fun _ s=>s=LH r 2) dJ ?_ 0 rfl));rintro m s rfl;refine dY dJ (gw (be _) eP (agj r) (dK (g0 ⟨all_nil,fun T eu=>?_⟩)));simp only[andThen];refine gj eu (fJ (i:=2) dJ (zi ?_));refine qm G9 (fun u _ _=>u=R (-1)) (agk r (Int.ofNat b.toNat)) (dK (g0 ⟨?_,rfl,fun T h=>h⟩))
 repeat' (first|exact all_nil|refine X ?_ ?_)
 all_goals first
  |exact e2
  |exact e3
  |exact e4
  |decide
  |(rw[hl];decide)
theorem aa2(hl:(iE r).length=3+1)(hg:(iE r).getD 3 0=b)(U:∀x∈oP,x≠b):TG ak 0 Tryz.f172.ntmps (xS Sz) (JI r [(183,.bool false)]) (SA (gT 0 RGi)):=by
 have e1:V.int B (Int.ofNat (iE r).length)=J 4:=by rw[hl]
 have e2:V.int IntKind.u8 (Int.ofNat ((iE r).getD 3 (0:UInt8)).toNat)=V.int IntKind.u8 (Int.ofNat b.toNat):=by rw[hg]
 have e3:V.bool ((100:Int) !=Int.ofNat b.toNat)=V.bool true:=aG V.bool (by
  have:(100:UInt8)≠b:=U _ fg;rw[bne_iff_ne];intro e;refine this (UInt8.toNat_inj.1 ?_);have e:((100:Nat):Int)=(b.toNat:Int):=e;exact Int.ofNat_inj.1 e)
 have e4:V.bool (decide (Lib.indexByte (List.drop 4 (List.take 38 oP)) (Int.ofNat b.toNat).toNat.toUInt8<(0:Int)))=V.bool true:=by
  have eb:(Int.ofNat b.toNat).toNat.toUInt8=b:=by
   show b.toNat.toUInt8=b;exact UInt8.ofNat_toNat
  rw[eb,v8 fun x K=>U x (cK (List.mem_of_mem_drop K))];rfl
 refine fN 4 (be _) (agl r) (eO e1) ?_;refine dY dJ (fJ (i:=1) dJ (j9 (fun _ s=>s=LH r 3) dJ ?_ 0 rfl));rintro m s rfl;refine dY dJ (gw (be _) eP (agm r) (dK (g0 ⟨all_nil,fun T eu=>?_⟩)));simp only[andThen];refine gj eu (fJ (i:=2) dJ (zi ?_));refine qm G9 (fun u _ _=>u=R (-1)) (agn r (Int.ofNat b.toNat)) (dK (g0 ⟨?_,rfl,fun T h=>h⟩))
 repeat' (first|exact all_nil|refine X ?_ ?_)
 all_goals first
  |exact e2
  |exact e3
  |exact e4
  |decide
  |(rw[hl];decide)
theorem irD(h0:0<=r)(h1:r<=1114111):ee ak 172 [.str oP,iR r] (R (Xo r)):=by
 have b0:V.bool (decide ((0:Int)<=r))=V.bool true:=aG V.bool (aW h0);by_cases ha:r<128
 . refine fc Tryz.func172 (eR G9 (arW r) (dK (g0 ⟨X b0 (eO (aG V.bool (aW ha))),_,_,_,rfl,?_⟩)));unfold Xo;have e:IntKind.u8.wrap r=r:=by
    unfold IntKind.wrap;have e1:(2^IntKind.u8.bits:Int)=256:=by decide
    have e3:IntKind.u8.signed=false:=rfl;simp only[e1,e3,aT,aM,cI];omega
   rw[aF ha,e]
 have eF:Xo r= -1:=aD ha;rw[eF];have b1:V.bool (decide (r<(128:Int)))=V.bool false:=aG V.bool (aX ha);by_cases U:r=65533
 . subst U;exact fc Tryz.func172 (eR (be _) arX (dK (g0 ⟨all_nil,_,_,_,rfl,rfl⟩)))
 have b2:V.bool (r==(65533:Int))=V.bool false:=aG V.bool (cB.2 U);by_cases A:55296<=r/\r<=57343
 . exact fc Tryz.func172 (eR (be _) (arY r) (dK (g0 ⟨X b0 (X b1 (X b2 (X b0 (X (aG V.bool (aX S)) (eO (aG V.bool (aX S))))))),_,_,_,rfl,rfl⟩)))
 obtain⟨k,hk,hl,hg⟩:=VA S S A;have hby:(UInt8.ofNat (128+r.toNat%64)).toNat=128+r.toNat%64:=by
  have:128+r.toNat%64<256:=by omega
  simp[UInt8.toNat_ofNat'];omega
 have hbn:∀b∈oP,b≠UInt8.ofNat (128+r.toNat%64):=fun b U e=>by
  have h1:=bw.1 VB b U;rw[aU]at h1;rw[e,hby]at h1;omega
 have go:TG ak 0 Tryz.f172.ntmps (xS Sz) (JI r [(183,.bool false)]) (SA (gT 0 RGi)):=by
  rcases hk with rfl|rfl|rfl
  . exact aa0 r _ hl hg hbn
  . exact aa1 r _ hl hg hbn
  . exact aa2 r _ hl hg hbn
 refine fc Tryz.func172 (fN 1 (be _) (arZ r) all_nil (fJ (i:=0) dJ ?_));refine qm (be _) eP (ar0 r) (dK (g0 ⟨X b0 (eO b1),?_⟩));refine kz (t:=false) dJ dJ (fun q=>by cases q) (fun _=>?_);refine qm (be _) eP (ar1 r) (dK (g0 ⟨eO b2,?_⟩));refine kz (t:=false) dJ dJ (fun q=>by cases q) (fun _=>?_);have oc:=kz (P:=ak) (N:=0) (n0:=Tryz.f172.ntmps) (c:=eB aaZ) (s:=JI r [(183,.bool false)]) (Q:=gT 0 RGi) (t:=false) dJ dJ (fun q=>by cases q) (fun _=>zi go);refine qm (be _) eP (ar2 r) (dN (g1 fun _=>⟨eO b0,oc⟩) (dK (g1 fun h=>⟨X b0 (X (aG V.bool (aW (by have:=bt h;omega))) (eO (aG V.bool (aW h1)))),oc⟩)))
def nH:Bool:=!decide (Xo (x:Int)>=0)
theorem ar8(h:x<=1114111):ee ak 151 [iR x] (.bool (nH x)):=by
 have h1:=irD (x:Int) S S;have C:ee ak 152 [.str oP,iR x] (.bool (decide (Xo (x:Int)>=0))):=fc Tryz.func152 (eR (ff h1 (be _)) (ar4 x (Xo x)) (dK (g0 ⟨eO rfl,_,_,_,rfl,rfl⟩)));exact fc Tryz.func151 (eR (ff C (be _)) (ar5 x _) (dK (g0 ⟨eO rfl,_,_,_,rfl,rfl⟩)))
theorem aa3:ee ak 173 [.str s,ng 151,.bool true] (R (Lib.idxFunc nH true ⟨s.toArray⟩)):=fun E h n w dZ ra g hd=>by
 obtain⟨y,ys,r0,rs,rfl⟩:=ra;obtain⟨z,zs,r1,rs2,rfl⟩:=rs;obtain⟨t,ts,r2,rs3,rfl⟩:=rs2;have rs3:ts=[]:=rs3;subst rs3;have r0:y= .string ⟨s.toArray⟩:=r0;have r2:t= .bool true:=r2;subst r0;subst r2;obtain⟨f',a',c',rf,qa,qc,rfl⟩:=r1;have rf:f'= .func 151:=rf;have qa:a'=[]:=qa;have qc:c'=[]:=qc;subst rf;subst qa;subst qc;refine(Any.strings_indexFunc_grows aaX 151 #[] (fun args w=>rfl) nH true ⟨s.toArray⟩ w fun ks x K U=>?_).mono fun en w' ⟨he,hw⟩=>?_
 . have g0:Eng.Good (BH fun _=>none) .nil ks:=xx (fun p hp=>by cases hp) (fun b c q=>by cases q);refine(ar8 x K (BH fun _=>none) .nil gN ks [.int .i32 x] ⟨_,[],rfl,rfl,rfl⟩ g0 (C3 (aK _))).mono fun en w' c=>?_;obtain⟨⟨E2,ho⟩,b⟩:=qW xB c;cases en with
   |returned v=>have ho:v= .bool (nH x):=ho;exact⟨by rw[ho],b⟩
   |_=>exact ho.elim
 . subst he;exact vi g hd rfl ⟨E,rfl⟩ hw
theorem asa:ee ak 153 [.str s,ng 151] (R (Lib.idxFunc nH true ⟨s.toArray⟩)):=
 fc Tryz.func153 (eR (ff (aa3 s) (be _)) (ar6 s _) (dK (g0 ⟨eO rfl,_,_,_,rfl,rfl⟩)))
end
set_option maxRecDepth 10000
theorem OD{l:aa}{c:UInt8}(h:c∈l):0<=Lib.indexByte l c:=by
 induction l with
 |nil=>cases h
 |cons b l ih=>
  unfold Lib.indexByte;by_cases e:b=c
  . rw[aF (by simpa using e)];exact Int.le_refl _
  . rw[aD (by simpa using e)];have:=ih ((aA.1 h).resolve_left fun q=>e q.symm);rw[aD (by simp;omega)];omega
theorem LI(l:aa)(c:UInt8):decide (Lib.indexByte l c>=0)=l.contains c:=by
 by_cases h:c∈l
 . rw[cQ.2 h];exact aW (OD h)
 . rw[v8 (l:=l) (c:=c) fun b U e=>h (by rw[<- e];exact U)];have:l.contains c=false:=by rw[<- Bool.not_eq_true,cQ];exact h
   rw[this];rfl
theorem VC:((List.range 256).all fun n=>(oP.contains (UInt8.ofNat n))== !Dz (n:Int))=true:=by decide
section
variable{x:Nat}(s:ByteArray)(i:Nat)
theorem JJ(h:x<128):nH x=Dz (x:Int):=by
 unfold nH Xo;rw[aF S,LI];have:=bw.1 VC x (bQ.2 S);rw[ct]at this;have e:((x:Int).toNat).toUInt8=UInt8.ofNat x:=rfl;rw[e,this,Bool.not_not]
theorem He(h:128<=x):nH x=true:=by
 unfold nH Xo;rw[aD S];rfl
theorem VD(h:(s.get! i).toNat<128):Utf8.decode s i=((s.get! i).toNat,1):=by
 unfold Utf8.decode;simp only[Nat.add_zero];rw[aF h]
theorem SB(h:128<=(s.get! i).toNat):128<=(Utf8.decode s i).1:=by
 unfold Utf8.decode;simp only[Nat.add_zero];rw[aD S];split
 . split
   . rename_i C;exact C
   . decide
 . split
   . split
     . rename_i C;simp only[ay,aU]at C;omega
     . decide
   . split
     . split
       . rename_i C;simp only[ay,aU]at C;omega
       . decide
     . decide
end
theorem VE(l:aa):∀(f pos:Nat),l.length<=pos+f->(Lib.idxFuncFrom nH true ⟨l.toArray⟩ f pos<0↔∀i,pos<=i->i<l.length->Dz (Int.ofNat (l.getD i 0).toNat)=false):=by
 have nc:(⟨l.toArray⟩:ByteArray).size=l.length:=by show l.toArray.size=_;simp
 have pF:∀i,i<l.length->(⟨l.toArray⟩:ByteArray).get! i=l.getD i 0:=fun i hi=>by
  show l.toArray[i]! =_;rw[ax,au hi];simp[hi]
 intro f
 induction f with
 |zero=>
  intro pos h;unfold Lib.idxFuncFrom;exact⟨fun _ i h1 C=>absurd C S,fun _=>by decide⟩
 |succ f ih=>
  intro pos h;unfold Lib.idxFuncFrom;rw[nc];by_cases hp:pos<l.length
  . rw[aF hp];have hg:=pF pos hp;by_cases U:(l.getD pos 0).toNat<128
    . rw[VD _ _ (by rw[hg];exact U),hg];simp only;rw[JJ U];cases A:Dz ((l.getD pos 0).toNat:Int)with
      |true=>
       rw[aF rfl];refine⟨fun q=>absurd q S,fun q=>?_⟩;have:=q pos (aK _) hp;rw[gD,A]at this;cases this
      |false=>
       rw[aD fg,ih (pos+1) S];constructor
       . intro q i h1 C;rcases Nat.eq_or_lt_of_le h1 with rfl|h3
         . exact A
         . exact q i h3 C
       . exact fun q i h1 C=>q i S C
    . have hd:=SB ⟨l.toArray⟩ pos (by rw[hg];omega);rw[He hd,aF rfl];refine⟨fun q=>absurd q S,fun q=>?_⟩;have:=q pos (aK _) hp;unfold Dz at this;simp only[gD,Bool.and_eq_false_iff,cM,bu,bne_eq_false_iff_eq]at this;omega
  . rw[aD hp];exact⟨fun _ i h1 C=>absurd C S,fun _=>by decide⟩
theorem VF(s:aa):ee ak 125 [.str s] (.bool (qY s)):=by
 have e:decide (Lib.idxFunc nH true ⟨s.toArray⟩<(0:Int))=!(s.any fun b=>Dz (Int.ofNat b.toNat)):=by
  rw[Bool.eq_iff_iff,aU,bZ,dn];have nc:(⟨s.toArray⟩:ByteArray).size=s.length:=by show s.toArray.size=_;simp
  unfold Lib.idxFunc;rw[nc,VE s s.length 0 S];constructor
  . intro h b U;obtain⟨i,hi,rfl⟩:=ck U;have:=h i (aR _) hi;rw[ax,au hi]at this;simpa using this
  . intro h i _ hi;have:=h _ (bV hi);rw[ax,au hi];simpa using this
 refine fc Tryz.func125 (eR (ff (asa s) (be _)) (ar7 s _) (dN (g1 fun h=>⟨eO rfl,_,_,_,rfl,aG V.bool ?_⟩) (dK (g1 fun h=>⟨all_nil,_,_,_,rfl,aG V.bool ?_⟩))))
 . rw[e];unfold qY;rw[h,cG]
 . unfold qY;rw[h,cJ]
set_option maxRecDepth 10000
def rR:Code->Nat
 | .region _ ops _=>ops.size-1
 |_=>0
abbrev kS(c:Code):Code:=Ez (rR c) c
def LJ:List Eng.D->Option (ah×V)
 | [.agg [.int .i64 k,.int .i64 r,.eM n fh,.int .i64 dv,.int .i64 vl,.eM m cu]]=>some ([fh=eL (eN fh),n=(eN fh).length,n<=1000000,cu=eL (eN cu),m=(eN cu).length,m<=1000000],.str (iw ⟨k,r,eN fh,dv,vl,eN cu⟩))
 |_=>none
noncomputable abbrev Wfb:gG:=jC 63 (Go.Eng.dW LJ) ew
noncomputable abbrev gJ:Code:=dQ Tryz.f93
def jY(d:Dc)(O:List (Eng.D×Eng.D))(x:eV)(r:List (Nat×V)):St:=fI ([(0,pT),(3,.ptr (some (2,0)))]++r) (hL [(0,.cells (d.cs++[.map (some 1)])),(1,.gL (some .i64) O),(2,.cells x.cs)]) 3
theorem asb(d:Dc)(O:List (Eng.D×Eng.D))(x:eV):H (M ew []) [] 2 Tryz.f93 [0,3] (ek 1 gJ) (dI [pT,x.v] (kT d O) 2) [([],[],eC (jY d O x []))]:=G.Y
section
variable(x:eV)
theorem asc(d:Dc)(O:List (Eng.D×Eng.D))(x:eV):H (M ew []) [(8,.split),(12,.split)] 2 Tryz.f93 [0,3,13,15] (kS (dO (dH 1 gJ))) (jY d O x []) (BJ (decide (x.kd>=(1:Int))) (decide (x.kd<=(5:Int))) ([],eC (jY d O x [(13,.bool true),(15,R x.id)])) ([],eC (jY d O x [(13,.bool false),(15,R x.id)]))):=G.Y
theorem asd(d:Dc)(O:List (Eng.D×Eng.D))(x:eV)(b:Bool):H (M (fa 125 [.str x.nm] (.bool b) ew) []) [] 2 Tryz.f93 [0,3,19,21] (kS (dO (dH 2 gJ))) (jY d O x []) [([],[V.jj ([]++[V.str x.nm]++[])=[V.str x.nm]],eC (jY d O x [(19,.bool b),(21,R x.id)]))]:=G.Y
theorem ase(d:Dc)(O:List (Eng.D×Eng.D))(x:eV):H (M ew []) [(25,.split),(29,.split),(34,.split),(39,.split)] 2 Tryz.f93 [0,3,40,42] (kS (dO (dH 3 gJ))) (jY d O x []) (Er (decide (x.op>=(0:Int))) (decide (x.op<=(255:Int))) (decide (x.md>=(0:Int))) (decide (x.md<=(15:Int))) ([],eC (jY d O x [(40,.bool true),(42,R x.id)])) ([],eC (jY d O x [(40,.bool false),(42,R x.id)]))):=G.Y
abbrev Hf:Prop:=V.jj ([]++[V.agg (List.take 1 (List.drop 30 x.cs))]++[])=[lu x.ig]
theorem asf(d:Dc)(O:List (Eng.D×Eng.D))(x:eV)(b:Bool):H (M (fa 126 [lu x.ig] (.bool b) ew) []) [(47,.split),(49,.split),(55,.split)] 2 Tryz.f93 [0,3,57,59] (kS (dO (dH 4 gJ))) (jY d O x []) [([(b,true),(x.L,true)],[Hf x],eC (jY d O x [(57,.bool true),(59,R x.id)])),([(b,true),(x.L,false),((Int.ofNat x.ig.length)==(0:Int),true)],[Hf x],eC (jY d O x [(57,.bool true),(59,R x.id)])),([(b,true),(x.L,false),((Int.ofNat x.ig.length)==(0:Int),false)],[Hf x],eC (jY d O x [(57,.bool false),(59,R x.id)])),([(b,false)],[Hf x],eC (jY d O x [(57,.bool false),(59,R x.id)]))]:=G.Y
abbrev zfC:ag:=[R 0,R 0,gH,R 0,R 0,gH]
def JK(pl:P7)(sp:Int)(kids:V)(of:Int)(f:ag)(fi:C4)(gA gx:V):ag:=[R 0,R 0,.str [],.bool false,R 0,R 0,.bool false]++(pl.cs++([R sp,kids,R of]++(f++(fi.cs++[gA,gx,.bool false,gH]))))
def Xp:ag:=JK x.pl x.sp gH 0 zfC z4 gH (rsV x.gx)
def OE:ag:=JK z7 0 (fD x.kids) 0 zfC z4 gH gH
def Xq:ag:=JK z7 0 gH 0 x.f.cs z4 gH gH
def O3:ag:=JK x.pl 0 gH x.of zfC z4 gH gH
def Xr:ag:=JK z7 0 gH 0 zfC x.fi (wA x.gA) gH
def pM(d:Dc)(O:List (Eng.D×Eng.D))(x:eV)(pl:Bool)(u:ag)(r:List (Nat×V)):St:=fI ([(0,pT),(3,.ptr (some (2,0))),(4,.ptr (some (3,0))),(5,.bool pl)]++r) (hL [(0,.cells (d.cs++[.map (some 1)])),(1,.gL (some .i64) O),(2,.cells x.cs),(3,.cells u)]) 4
def wD(d:Dc)(O:List (Eng.D×Eng.D))(x:eV)(pl:Bool)(r:List (Nat×V)):St:=fI ([(0,pT),(3,.ptr (some (2,0))),(5,.bool pl)]++r) (hL [(0,.cells (d.cs++[.map (some 1)])),(1,.gL (some .i64) O),(2,.cells x.cs)]) 3
theorem agq(d:Dc)(O:List (Eng.D×Eng.D))(x:eV):H (M ew []) [] 2 Tryz.f93 [0,3,4,5] (ek 4 (dH 5 gJ)) (jY d O (fF x 1) []) [([],[],eC (pM d O (fF x 1) true (Xp (fF x 1)) []))]:=G.Y
abbrev MQ:Prop:=V.bool (x.pl.a==x.pl.a&&(x.pl.b==x.pl.b&&(x.pl.c==x.pl.c&&(x.pl.d==x.pl.d&&(x.pl.e==x.pl.e&&(x.pl.f==x.pl.f&&(x.pl.n==x.pl.n&&true)))))))=V.bool true
abbrev MR:Prop:=V.bool ((Int.ofNat x.gx.length)==(Int.ofNat x.gx.length))=V.bool true
theorem agr(d:Dc)(O:List (Eng.D×Eng.D))(x:eV):H (M ew []) [(111,.dL (.bool true)),(117,.dL (.bool true)),(128,.dL (.bool true)),(137,.split),(144,.split),(151,.split),(160,.split)] 2 Tryz.f93 [0,3,4,5,161,163] (kS (dO (dH 9 gJ))) (pM d O (fF x 1) true (Xp (fF x 1)) []) (Er ((Int.ofNat x.kids.length)==(0:Int)) (x.of==(0:Int)) (x.fi.r==(0:Int)&&(x.fi.g==(0:Int)&&(x.fi.b==(0:Int)&&(x.fi.a==(0:Int)&&true)))) ((Int.ofNat x.gA.length)==(0:Int)) ([MQ x,kr (x.sp==x.sp),MR x],eC (pM d O (fF x 1) true (Xp (fF x 1)) [(161,.bool true),(163,R x.id)])) ([MQ x,kr (x.sp==x.sp),MR x],eC (pM d O (fF x 1) true (Xp (fF x 1)) [(161,.bool false),(163,R x.id)]))):=G.Y
theorem ags(d:Dc)(O:List (Eng.D×Eng.D))(x:eV):H (M Wfb []) [(171,.split)] 2 Tryz.f93 [0,3,5,171,173] (kS (dO (dH 10 gJ))) (pM d O (fF x 1) true (Xp (fF x 1)) []) (fV (mX (iw { k:=x.f.k,r:=x.f.r,fh:=eN (eL x.f.fh),dv:=x.f.dv,vl:=x.f.vl,cu:=eN (eL x.f.cu) }) (iw { k:=(0:Int),r:=(0:Int),fh:=eN [],dv:=(0:Int),vl:=(0:Int),cu:=eN [] })) ([eL x.f.fh=eL (eN (eL x.f.fh)),x.f.fh.length=(eN (eL x.f.fh)).length,x.f.fh.length<=1000000,eL x.f.cu=eL (eN (eL x.f.cu)),x.f.cu.length=(eN (eL x.f.cu)).length,x.f.cu.length<=1000000,[]=eL (eN []),0=0,0<=1000000,[]=eL (eN []),0=0,0<=1000000],eC (wD d O (fF x 1) true [(171,.bool true),(173,R x.id)])) ([eL x.f.fh=eL (eN (eL x.f.fh)),x.f.fh.length=(eN (eL x.f.fh)).length,x.f.fh.length<=1000000,eL x.f.cu=eL (eN (eL x.f.cu)),x.f.cu.length=(eN (eL x.f.cu)).length,x.f.cu.length<=1000000,[]=eL (eN []),0=0,0<=1000000,[]=eL (eN []),0=0,0<=1000000],eC (wD d O (fF x 1) true [(171,.bool false),(173,R x.id)]))):=G.Y
theorem agt(d:Dc)(O:List (Eng.D×Eng.D))(x:eV)(b:Bool):H (M (fa 127 [x.pl.v] (.bool b) ew) []) [] 2 Tryz.f93 [0,3,181,183] (kS (dO (dH 11 gJ))) (wD d O (fF x 1) true []) [([],[V.jj ([]++[V.agg (List.take 7 (List.drop 7 x.cs))]++[])=[x.pl.v]],eC (jY d O (fF x 1) [(181,.bool b),(183,R x.id)]))]:=G.Y
abbrev MS:Prop:=V.jj ([]++[V.agg (List.take 1 (List.drop 28 x.cs))]++[])=[lu x.gx]
theorem agu(d:Dc)(O:List (Eng.D×Eng.D))(x:eV)(b:Bool):H (M (fa 126 [lu x.gx] (.bool b) ew) []) [(205,.split)] 2 Tryz.f93 [0,3,224,226] (kS (dH 13 gJ)) (jY d O (fF x 1) []) (fV b ([MS x],eC (jY d O (fF x 1) [(224,.bool true),(226,R x.id)])) ([MS x],eC (jY d O (fF x 1) [(224,.bool false),(226,R x.id)]))):=G.Y
theorem agv(d:Dc)(O:List (Eng.D×Eng.D))(x:eV):H (M ew []) [] 2 Tryz.f93 [0,3,4,5] (ek 4 (dH 5 gJ)) (jY d O (fF x 2) []) [([],[],eC (pM d O (fF x 2) false (OE (fF x 2)) []))]:=G.Y
abbrev Cg:Prop:=V.bool ((Int.ofNat x.kids.length)==(Int.ofNat x.kids.length))=V.bool true
theorem agw(d:Dc)(O:List (Eng.D×Eng.D))(x:eV):H (M ew []) [(111,.split),(117,.split),(128,.split),(137,.dL (.bool true)),(144,.split),(151,.split),(160,.split)] 2 Tryz.f93 [0,3,4,5,161,163] (kS (dO (dH 9 gJ))) (pM d O (fF x 2) false (OE (fF x 2)) []) (YD (x.pl.a==(0:Int)&&(x.pl.b==(0:Int)&&(x.pl.c==(0:Int)&&(x.pl.d==(0:Int)&&(x.pl.e==(0:Int)&&(x.pl.f==(0:Int)&&(x.pl.n==(0:Int)&&true))))))) (x.sp==(0:Int)) ((Int.ofNat x.gx.length)==(0:Int)) (x.of==(0:Int)) (x.fi.r==(0:Int)&&(x.fi.g==(0:Int)&&(x.fi.b==(0:Int)&&(x.fi.a==(0:Int)&&true)))) ((Int.ofNat x.gA.length)==(0:Int)) ([Cg x],eC (pM d O (fF x 2) false (OE (fF x 2)) [(161,.bool true),(163,R x.id)])) ([Cg x],eC (pM d O (fF x 2) false (OE (fF x 2)) [(161,.bool false),(163,R x.id)])) ([Cg x],eC (pM d O (fF x 2) false (OE (fF x 2)) [(161,.bool false),(163,R x.id)])) ([Cg x],eC (pM d O (fF x 2) false (OE (fF x 2)) [(161,.bool false),(163,R x.id)])) ([],eC (pM d O (fF x 2) false (OE (fF x 2)) [(161,.bool false),(163,R x.id)])) ([],eC (pM d O (fF x 2) false (OE (fF x 2)) [(161,.bool false),(163,R x.id)])) ([],eC (pM d O (fF x 2) false (OE (fF x 2)) [(161,.bool false),(163,R x.id)]))):=G.Y
theorem agx(d:Dc)(O:List (Eng.D×Eng.D))(x:eV):H (M Wfb []) [(171,.split)] 2 Tryz.f93 [0,3,5,171,173] (kS (dO (dH 10 gJ))) (pM d O (fF x 2) false (OE (fF x 2)) []) (fV (mX (iw { k:=x.f.k,r:=x.f.r,fh:=eN (eL x.f.fh),dv:=x.f.dv,vl:=x.f.vl,cu:=eN (eL x.f.cu) }) (iw { k:=(0:Int),r:=(0:Int),fh:=eN [],dv:=(0:Int),vl:=(0:Int),cu:=eN [] })) ([eL x.f.fh=eL (eN (eL x.f.fh)),x.f.fh.length=(eN (eL x.f.fh)).length,x.f.fh.length<=1000000,eL x.f.cu=eL (eN (eL x.f.cu)),x.f.cu.length=(eN (eL x.f.cu)).length,x.f.cu.length<=1000000,[]=eL (eN []),0=0,0<=1000000,[]=eL (eN []),0=0,0<=1000000],eC (wD d O (fF x 2) false [(171,.bool true),(173,R x.id)])) ([eL x.f.fh=eL (eN (eL x.f.fh)),x.f.fh.length=(eN (eL x.f.fh)).length,x.f.fh.length<=1000000,eL x.f.cu=eL (eN (eL x.f.cu)),x.f.cu.length=(eN (eL x.f.cu)).length,x.f.cu.length<=1000000,[]=eL (eN []),0=0,0<=1000000,[]=eL (eN []),0=0,0<=1000000],eC (wD d O (fF x 2) false [(171,.bool false),(173,R x.id)]))):=G.Y
theorem agy(d:Dc)(O:List (Eng.D×Eng.D))(x:eV):H (M ew []) [] 2 Tryz.f93 [0,3,181,183] (kS (dO (dH 11 gJ))) (wD d O (fF x 2) false []) [([],[],eC (jY d O (fF x 2) [(181,.bool true),(183,R x.id)]))]:=G.Y
abbrev MT:Prop:=V.jj ([]++[V.agg (List.take 1 (List.drop 28 x.cs))]++[])=[lu x.gx]
theorem agz(d:Dc)(O:List (Eng.D×Eng.D))(x:eV)(b:Bool):H (M (fa 126 [lu x.gx] (.bool b) ew) []) [(205,.split)] 2 Tryz.f93 [0,3,224,226] (kS (dH 13 gJ)) (jY d O (fF x 2) []) (fV b ([MT x],eC (jY d O (fF x 2) [(224,.bool true),(226,R x.id)])) ([MT x],eC (jY d O (fF x 2) [(224,.bool false),(226,R x.id)]))):=G.Y
theorem agA(d:Dc)(O:List (Eng.D×Eng.D))(x:eV):H (M ew []) [] 2 Tryz.f93 [0,3,4,5] (ek 4 (dH 5 gJ)) (jY d O (fF x 3) []) [([],[],eC (pM d O (fF x 3) false (Xq (fF x 3)) []))]:=G.Y
theorem agB(d:Dc)(O:List (Eng.D×Eng.D))(x:eV):H (M ew []) [(111,.split),(117,.split),(128,.split),(137,.split),(144,.split),(151,.split),(160,.split)] 2 Tryz.f93 [0,3,4,5,161,163] (kS (dO (dH 9 gJ))) (pM d O (fF x 3) false (Xq (fF x 3)) []) (adO (x.pl.a==(0:Int)&&(x.pl.b==(0:Int)&&(x.pl.c==(0:Int)&&(x.pl.d==(0:Int)&&(x.pl.e==(0:Int)&&(x.pl.f==(0:Int)&&(x.pl.n==(0:Int)&&true))))))) (x.sp==(0:Int)) ((Int.ofNat x.gx.length)==(0:Int)) ((Int.ofNat x.kids.length)==(0:Int)) (x.of==(0:Int)) (x.fi.r==(0:Int)&&(x.fi.g==(0:Int)&&(x.fi.b==(0:Int)&&(x.fi.a==(0:Int)&&true)))) ((Int.ofNat x.gA.length)==(0:Int)) ([],eC (pM d O (fF x 3) false (Xq (fF x 3)) [(161,.bool true),(163,R x.id)])) ([],eC (pM d O (fF x 3) false (Xq (fF x 3)) [(161,.bool false),(163,R x.id)]))):=G.Y
theorem agC(d:Dc)(O:List (Eng.D×Eng.D))(x:eV):H (M Wfb []) [(171,.dL (.bool true))] 2 Tryz.f93 [0,3,5,171,173] (kS (dO (dH 10 gJ))) (pM d O (fF x 3) false (Xq (fF x 3)) []) [([],[eL x.f.fh=eL (eN (eL x.f.fh)),x.f.fh.length=(eN (eL x.f.fh)).length,x.f.fh.length<=1000000,eL x.f.cu=eL (eN (eL x.f.cu)),x.f.cu.length=(eN (eL x.f.cu)).length,x.f.cu.length<=1000000,eL x.f.fh=eL (eN (eL x.f.fh)),x.f.fh.length=(eN (eL x.f.fh)).length,x.f.fh.length<=1000000,eL x.f.cu=eL (eN (eL x.f.cu)),x.f.cu.length=(eN (eL x.f.cu)).length,x.f.cu.length<=1000000,kr (mX (iw { k:=x.f.k,r:=x.f.r,fh:=eN (eL x.f.fh),dv:=x.f.dv,vl:=x.f.vl,cu:=eN (eL x.f.cu) }) (iw { k:=x.f.k,r:=x.f.r,fh:=eN (eL x.f.fh),dv:=x.f.dv,vl:=x.f.vl,cu:=eN (eL x.f.cu) }))],eC (wD d O (fF x 3) false [(171,.bool true),(173,R x.id)]))]:=G.Y
theorem agD(d:Dc)(O:List (Eng.D×Eng.D))(x:eV):H (M ew []) [] 2 Tryz.f93 [0,3,181,183] (kS (dO (dH 11 gJ))) (wD d O (fF x 3) false []) [([],[],eC (jY d O (fF x 3) [(181,.bool true),(183,R x.id)]))]:=G.Y
abbrev Ch:Prop:=V.jj ([]++[V.agg (List.take 1 (List.drop 28 x.cs))]++[])=[lu x.gx]
abbrev MU:Prop:=V.jj ([]++[V.agg (List.take 6 (List.drop 17 x.cs))]++[])=[x.f.v]
theorem agE(d:Dc)(O:List (Eng.D×Eng.D))(x:eV)(b c:Bool):H (M (fa 128 [x.f.v] (.bool c) (fa 126 [lu x.gx] (.bool b) ew)) []) [(205,.split),(215,.split)] 2 Tryz.f93 [0,3,224,226] (kS (dH 13 gJ)) (jY d O (fF x 3) []) [([(b,true),(c,true)],[Ch x,MU x],eC (jY d O (fF x 3) [(224,.bool true),(226,R x.id)])),([(b,true),(c,false)],[Ch x,MU x],eC (jY d O (fF x 3) [(224,.bool false),(226,R x.id)])),([(b,false),(false,true)],[Ch x],eC (jY d O (fF x 3) [(224,.bool true),(226,R x.id)])),([(b,false),(false,false)],[Ch x],eC (jY d O (fF x 3) [(224,.bool false),(226,R x.id)]))]:=G.Y
theorem agF(d:Dc)(O:List (Eng.D×Eng.D))(x:eV):H (M ew []) [] 2 Tryz.f93 [0,3,4,5] (ek 4 (dH 5 gJ)) (jY d O (fF x 4) []) [([],[],eC (pM d O (fF x 4) true (O3 (fF x 4)) []))]:=G.Y
abbrev wc:Prop:=V.bool (x.pl.a==x.pl.a&&(x.pl.b==x.pl.b&&(x.pl.c==x.pl.c&&(x.pl.d==x.pl.d&&(x.pl.e==x.pl.e&&(x.pl.f==x.pl.f&&(x.pl.n==x.pl.n&&true)))))))=V.bool true
theorem agG(d:Dc)(O:List (Eng.D×Eng.D))(x:eV):H (M ew []) [(111,.dL (.bool true)),(117,.split),(128,.split),(137,.split),(144,.dL (.bool true)),(151,.split),(160,.split)] 2 Tryz.f93 [0,3,4,5,161,163] (kS (dO (dH 9 gJ))) (pM d O (fF x 4) true (O3 (fF x 4)) []) (YC (x.sp==(0:Int)) ((Int.ofNat x.gx.length)==(0:Int)) ((Int.ofNat x.kids.length)==(0:Int)) (x.fi.r==(0:Int)&&(x.fi.g==(0:Int)&&(x.fi.b==(0:Int)&&(x.fi.a==(0:Int)&&true)))) ((Int.ofNat x.gA.length)==(0:Int)) ([wc x,kr (x.of==x.of)],eC (pM d O (fF x 4) true (O3 (fF x 4)) [(161,.bool true),(163,R x.id)])) ([wc x,kr (x.of==x.of)],eC (pM d O (fF x 4) true (O3 (fF x 4)) [(161,.bool false),(163,R x.id)])) ([wc x,kr (x.of==x.of)],eC (pM d O (fF x 4) true (O3 (fF x 4)) [(161,.bool false),(163,R x.id)])) ([wc x],eC (pM d O (fF x 4) true (O3 (fF x 4)) [(161,.bool false),(163,R x.id)])) ([wc x],eC (pM d O (fF x 4) true (O3 (fF x 4)) [(161,.bool false),(163,R x.id)])) ([wc x],eC (pM d O (fF x 4) true (O3 (fF x 4)) [(161,.bool false),(163,R x.id)]))):=G.Y
theorem agH(d:Dc)(O:List (Eng.D×Eng.D))(x:eV):H (M Wfb []) [(171,.split)] 2 Tryz.f93 [0,3,5,171,173] (kS (dO (dH 10 gJ))) (pM d O (fF x 4) true (O3 (fF x 4)) []) (fV (mX (iw { k:=x.f.k,r:=x.f.r,fh:=eN (eL x.f.fh),dv:=x.f.dv,vl:=x.f.vl,cu:=eN (eL x.f.cu) }) (iw { k:=(0:Int),r:=(0:Int),fh:=eN [],dv:=(0:Int),vl:=(0:Int),cu:=eN [] })) ([eL x.f.fh=eL (eN (eL x.f.fh)),x.f.fh.length=(eN (eL x.f.fh)).length,x.f.fh.length<=1000000,eL x.f.cu=eL (eN (eL x.f.cu)),x.f.cu.length=(eN (eL x.f.cu)).length,x.f.cu.length<=1000000,[]=eL (eN []),0=0,0<=1000000,[]=eL (eN []),0=0,0<=1000000],eC (wD d O (fF x 4) true [(171,.bool true),(173,R x.id)])) ([eL x.f.fh=eL (eN (eL x.f.fh)),x.f.fh.length=(eN (eL x.f.fh)).length,x.f.fh.length<=1000000,eL x.f.cu=eL (eN (eL x.f.cu)),x.f.cu.length=(eN (eL x.f.cu)).length,x.f.cu.length<=1000000,[]=eL (eN []),0=0,0<=1000000,[]=eL (eN []),0=0,0<=1000000],eC (wD d O (fF x 4) true [(171,.bool false),(173,R x.id)]))):=G.Y
theorem agI(d:Dc)(O:List (Eng.D×Eng.D))(x:eV)(b:Bool):H (M (fa 127 [x.pl.v] (.bool b) ew) []) [] 2 Tryz.f93 [0,3,181,183] (kS (dO (dH 11 gJ))) (wD d O (fF x 4) true []) [([],[V.jj ([]++[V.agg (List.take 7 (List.drop 7 x.cs))]++[])=[x.pl.v]],eC (jY d O (fF x 4) [(181,.bool b),(183,R x.id)]))]:=G.Y
abbrev MV:Prop:=V.jj ([]++[V.agg (List.take 1 (List.drop 28 x.cs))]++[])=[lu x.gx]
theorem agJ(d:Dc)(O:List (Eng.D×Eng.D))(x:eV)(b:Bool):H (M (fa 126 [lu x.gx] (.bool b) ew) []) [(205,.split)] 2 Tryz.f93 [0,3,224,226] (kS (dH 13 gJ)) (jY d O (fF x 4) []) (fV b ([MV x],eC (jY d O (fF x 4) [(224,.bool true),(226,R x.id)])) ([MV x],eC (jY d O (fF x 4) [(224,.bool false),(226,R x.id)]))):=G.Y
theorem agK(d:Dc)(O:List (Eng.D×Eng.D))(x:eV):H (M ew []) [] 2 Tryz.f93 [0,3,4,5] (ek 4 (dH 5 gJ)) (jY d O (fF x 5) []) [([],[],eC (pM d O (fF x 5) false (Xr (fF x 5)) []))]:=G.Y
theorem agL(d:Dc)(O:List (Eng.D×Eng.D))(x:eV):H (M ew []) [(111,.split),(117,.split),(128,.split),(137,.split),(144,.split),(151,.dL (.bool true)),(160,.dL (.bool true))] 2 Tryz.f93 [0,3,4,5,161,163] (kS (dO (dH 9 gJ))) (pM d O (fF x 5) false (Xr (fF x 5)) []) (Us (x.pl.a==(0:Int)&&(x.pl.b==(0:Int)&&(x.pl.c==(0:Int)&&(x.pl.d==(0:Int)&&(x.pl.e==(0:Int)&&(x.pl.f==(0:Int)&&(x.pl.n==(0:Int)&&true))))))) (x.sp==(0:Int)) ((Int.ofNat x.gx.length)==(0:Int)) ((Int.ofNat x.kids.length)==(0:Int)) (x.of==(0:Int)) ([kr (x.fi.r==x.fi.r&&(x.fi.g==x.fi.g&&(x.fi.b==x.fi.b&&(x.fi.a==x.fi.a&&true)))),kr ((Int.ofNat x.gA.length)==(Int.ofNat x.gA.length))],eC (pM d O (fF x 5) false (Xr (fF x 5)) [(161,.bool true),(163,R x.id)])) ([],eC (pM d O (fF x 5) false (Xr (fF x 5)) [(161,.bool false),(163,R x.id)]))):=G.Y
theorem agM(d:Dc)(O:List (Eng.D×Eng.D))(x:eV):H (M Wfb []) [(171,.split)] 2 Tryz.f93 [0,3,5,171,173] (kS (dO (dH 10 gJ))) (pM d O (fF x 5) false (Xr (fF x 5)) []) (fV (mX (iw { k:=x.f.k,r:=x.f.r,fh:=eN (eL x.f.fh),dv:=x.f.dv,vl:=x.f.vl,cu:=eN (eL x.f.cu) }) (iw { k:=(0:Int),r:=(0:Int),fh:=eN [],dv:=(0:Int),vl:=(0:Int),cu:=eN [] })) ([eL x.f.fh=eL (eN (eL x.f.fh)),x.f.fh.length=(eN (eL x.f.fh)).length,x.f.fh.length<=1000000,eL x.f.cu=eL (eN (eL x.f.cu)),x.f.cu.length=(eN (eL x.f.cu)).length,x.f.cu.length<=1000000,[]=eL (eN []),0=0,0<=1000000,[]=eL (eN []),0=0,0<=1000000],eC (wD d O (fF x 5) false [(171,.bool true),(173,R x.id)])) ([eL x.f.fh=eL (eN (eL x.f.fh)),x.f.fh.length=(eN (eL x.f.fh)).length,x.f.fh.length<=1000000,eL x.f.cu=eL (eN (eL x.f.cu)),x.f.cu.length=(eN (eL x.f.cu)).length,x.f.cu.length<=1000000,[]=eL (eN []),0=0,0<=1000000,[]=eL (eN []),0=0,0<=1000000],eC (wD d O (fF x 5) false [(171,.bool false),(173,R x.id)]))):=G.Y
theorem agN(d:Dc)(O:List (Eng.D×Eng.D))(x:eV):H (M ew []) [] 2 Tryz.f93 [0,3,181,183] (kS (dO (dH 11 gJ))) (wD d O (fF x 5) false []) [([],[],eC (jY d O (fF x 5) [(181,.bool true),(183,R x.id)]))]:=G.Y
abbrev MW:Prop:=V.jj ([]++[V.agg (List.take 1 (List.drop 28 x.cs))]++[])=[lu x.gx]
theorem agO(d:Dc)(O:List (Eng.D×Eng.D))(x:eV)(b c:Bool):H (M (fa 129 [wA x.gA] (.bool c) (fa 126 [lu x.gx] (.bool b) ew)) []) [(205,.split)] 2 Tryz.f93 [0,3,224,226] (kS (dH 13 gJ)) (jY d O (fF x 5) []) (fV b ([MW x,V.jj ([]++[wA x.gA]++[])=[wA x.gA]],eC (jY d O (fF x 5) [(224,.bool c),(226,R x.id)])) ([MW x],eC (jY d O (fF x 5) [(224,.bool false),(226,R x.id)]))):=G.Y
theorem asg(d:Dc)(O:List (Eng.D×Eng.D))(x:eV):H (M ew []) [(187,.split),(197,.split)] 2 Tryz.f93 [0,3,198,200] (kS (dO (dH 12 gJ))) (jY d O x []) (BJ (decide (x.sp>=(0:Int))) (decide (x.sp<=(Int.ofNat d.sp.length))) ([],eC (jY d O x [(198,.bool true),(200,R x.id)])) ([],eC (jY d O x [(198,.bool false),(200,R x.id)]))):=G.Y
end
end Go.Proofs.YtmjggdmekboefaaGreat
