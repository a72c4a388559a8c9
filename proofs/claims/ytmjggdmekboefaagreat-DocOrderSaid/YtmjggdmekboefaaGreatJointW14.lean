/- The Doc laws: the program's demand, whatever it finds; statements that end with it. No conditions. -/
import Derived.Test.YtmjggdmekboefaaGreatJointW12
import Derived.Test.YtmjggdmekboefaaGreatJointW13
import Derived.Shelf.Strings.FuncGrows
import Derived.Shelf.Small.Strs
import Derived.Scope
set_option linter.unusedVariables false
set_option linter.unusedSimpArgs false
set_option linter.unusedSectionVars false
namespace Go.Proofs.YtmjggdmekboefaaGreat
open Go Go.Eng
set_option maxRecDepth 10000
def DD(p:Int×Int):V:=.iface 99 (.agg [L p.1,L p.2])
noncomputable def ad8(F:Nat)(fn:Func)(c:Code)(s:St):Option (V×pO×J h2×Nat):=match gD ak (fun _ _ _ _=>none) 20 c s with
 |some (.panic v,X)=>match Nu ak F fn X (.nr v false)with
  |some r=>some (v,r)
  |none=>none
 |_=>none
theorem Ug{F fr:Nat}{fn:Func}{c:Code}{s:St}{v:V}{o:pO}{h:J h2}{n:Nat}{cs:pO->J h2->Nat->Prop}(e:ad8 F fn c s=some (v,o,h,n))(hv:v.free=true)(hR:cs o h n)(B:eL fr c=true:=by kernel_rfl):TG ak F fr c s (Dm ak F fn cs):=by
 unfold ad8 at e;split at e
 case h_2=>cases e
 rename_i v' X he;split at e
 case h_2=>cases e
 rename_i r hr;simp only[aq,aF]at e;obtain⟨rfl,rfl⟩:=e;exact Q9 (n0:=20) (fun _ _ _ _ _ _ _ e=>by cases e) mo B he hv fun ch hp=>.Dn hp hr hR
theorem LW(a b:Int):Rb ak 89 [.bool false,L a,L b] (DD (a,b)):=
 Rc (o:=.nr (DD (a,b))) mo po Tryz.func89 (code:=dI Tryz.f89) C C C rfl
  (Ug (F:=0) (v:=DD (a,b)) (o:=.nr (DD (a,b))) (h:=.nil) (n:=0) C rfl rfl)
noncomputable def IN(k:Nat)(c:Code)(s:St):Option cs:=match lz k c with
 | [o]=>match o.guard with
   |none=>dS ak o s.N s.h s.n
   |some _=>none
 |_=>none
def Re(F k:Nat)(live:List Nat)(c:Code)(s:St):Option St:=match lz k c with
 | [o]=>match Go.Eng.jw s.N o.dst (.gw [])with
   |some N=>ld F live { s with N:=N }
   |none=>none
 |_=>none
section
variable{F fr:Nat}{c:Code}{s:St}{h1:Exit->St->Prop}{hk:gF}{hh:List (Nat×List (Nat×lM))}{dm:List (Nat×lM)}{fn:Func}{live:List Nat}{hL:List (List (Bool×Bool)×ah×jL)}
theorem IP{a:ag}{v:V}(h:dU ak 89 a v):jK ak 89 (fun args h n=>some ([V.lA args=a],v,h,n)):=by
 refine⟨az C,fun args h' n aj v' O n2 e hA E w dH ra g hd _=>?_⟩;simp only[aq,aF]at e;obtain⟨rfl,rfl,rfl,rfl⟩:=e;have e1:V.lA args=a:=hA _ (by simp);exact h E _ _ w dH (e1▸tx _ _ ra) g hd
section
variable(k:Nat)
theorem Nv(s':eU ak hk)(β:Bool)(fm:Bool->St)(e a:Int)(yC:List Nat)(S1:St)(hr:dw (U hk hh) dm F fn live (D5 k c) s hL)(h:∀g∈hL,(∀b∈g.1,b.1=b.2)->(∀a∈g.2.1,a)/\g.2.2= .to .normal (fm β))
  (ho:∀b,IN k c (fm b)=some (.call 89 [.bool b,L e,L a])) (hn:Re F k yC c (fm true)=some S1) (k1:β=true->∀X,j9 F fr X S1->h1 .normal X) (k2:β=false->∀ch,Bg (DD (e,a)) ch->h1 (.panic ch) (fm false))
  (hs:(eL fr c&&(D6 k c&&(lz k c).all fun o=>match o.dst with|some d=>decide (d<fr)|none=>true))=true:=by kernel_rfl):TG ak F fr c s h1:=by
 simp only[ay]at hs;obtain⟨Q,O,h3⟩:=hs;obtain⟨iX,hr⟩:=hr;have hd:∀x∈lz k c,mX fr x.dst:=fun x I d hd=>by
  have:=br.1 h3 x I;rw[hd]at this;exact aX this
 refine BE k (XH s' hh) mo Q O hr fun g hg B=>?_;obtain⟨q1,q2⟩:=h g hg B;refine⟨q1,_,q2,?_⟩;have ho:=ho β;unfold IN at ho;unfold Re at hn;generalize lz k c=l at *;split at ho
 case h_2=>cases ho
 rename_i o;split at ho
 case h_2=>cases ho
 rename_i Sg;cases β with
 |true=>
  simp only at hn;split at hn
  case h_2=>cases hn
  rename_i N vy;exact Gp (hd o (aH.2 rfl)) Sg ho (IP (LR e a)) rfl (eG rfl) vy (k1 rfl _ (j9.norm hn))
 |false=>
  exact BD hd Sg ho (Gr C (LW e a)) rfl (eG rfl) rfl fun ch hp=>k2 rfl ch hp
noncomputable def VS(F:Nat)(fn:Func)(k:Nat)(c:Code)(s:St):Option (pO×J h2×Nat):=match lz k c with
 | [o]=>match Go.Eng.jw s.N o.dst (.gw [])with
   |some N=>Nu ak F fn { s with N:=N } .ret
   |none=>none
 |_=>none
theorem IQ(s':eU ak hk)(β:Bool)(fm:Bool->St)(e a:Int){cs:pO->J h2->Nat->Prop}{o1:pO}{Q:J h2}{n1:Nat}(hr:dw (U hk hh) dm F fn live (D5 k c) s hL)(h:∀g∈hL,(∀b∈g.1,b.1=b.2)->(∀a∈g.2.1,a)/\g.2.2= .to .normal (fm β))
  (ho:∀b,IN k c (fm b)=some (.call 89 [.bool b,L e,L a])) (hn:VS F fn k c (fm true)=some (o1,Q,n1)) (k1:β=true->cs o1 Q n1) (k2:β=false->∀ch,Bg (DD (e,a)) ch->Dm ak F fn cs (.panic ch) (fm false))
  (hs:(eL fr c&&(D6 k c&&(lz k c).all fun o=>match o.dst with|some d=>decide (d<fr)|none=>true))=true:=by kernel_rfl):TG ak F fr c s (Dm ak F fn cs):=by
 simp only[ay]at hs;obtain⟨Q,O,h3⟩:=hs;obtain⟨iX,hr⟩:=hr;have hd:∀x∈lz k c,mX fr x.dst:=fun x I d hd=>by
  have:=br.1 h3 x I;rw[hd]at this;exact aX this
 refine BE k (XH s' hh) mo Q O hr fun g hg B=>?_;obtain⟨q1,q2⟩:=h g hg B;refine⟨q1,_,q2,?_⟩;have ho:=ho β;unfold IN at ho;unfold VS at hn;generalize lz k c=l at *;split at ho
 case h_2=>cases ho
 rename_i o;split at ho
 case h_2=>cases ho
 rename_i Sg;cases β with
 |true=>
  simp only at hn;split at hn
  case h_2=>cases hn
  rename_i N vy;exact Gp (hd o (aH.2 rfl)) Sg ho (IP (LR e a)) rfl (eG rfl) vy ⟨.ret,trivial,_,_,_,hn,k1 rfl⟩
 |false=>
  exact BD hd Sg ho (Gr C (LW e a)) rfl (eG rfl) rfl fun ch hp=>k2 rfl ch hp
theorem kr(s':eU ak hk)(β:Bool)(fm:Bool->St)(e a:Int)(yC:List Nat)(S1:St)(hr:dw (U hk hh) dm F fn live (D5 k (dF c)) s hL)(h:∀g∈hL,(∀b∈g.1,b.1=b.2)->(∀a∈g.2.1,a)/\g.2.2= .to .normal (fm β))
  (ho:∀b,IN k (dF c) (fm b)=some (.call 89 [.bool b,L e,L a])) (hn:Re F k yC (dF c) (fm true)=some S1) (k1:β=true->TG ak F fr (dX c) S1 h1) (k2:β=false->∀ch,Bg (DD (e,a)) ch->h1 (.panic ch) (fm false))
  (hs:(rT c&&(eL fr (dF c)&&(D6 k (dF c)&&(lz k (dF c)).all fun o=>match o.dst with|some d=>decide (d<fr)|none=>true)))=true:=by kernel_rfl):TG ak F fr c s h1:=by
 rw[ay]at hs;exact dK hs.1 (Nv k s' β fm e a yC S1 hr h ho hn (fun q X dQ=>dQ.vO _ _ (k1 q)) (fun q ch hp=>k2 q ch hp) hs.2)
def IS(c:Code):Code:=.region 0 (lz k c).toArray false
def an9(c:Code):Bool:=(lz k c).all fun o=>o.guard.isNone
theorem ad9(ms lv:List Nat)(s':eU ak hk){aj hc:ah}{s1 s2:St}(hr:dw (U hk hh) dm F fn live (D5 k c) s [([],aj,.to .normal s1)])(hA:∀a∈aj,a)(hf:Ip F ms lv s1=some (hc,s2))(hB:∀b∈hc,b)
  {W2:gF} {Ja:List (Nat×List (Nat×lM))} {H2:List (Nat×lM)} {yC:List Nat} (X2:eU ak W2) (hr2:dw (U W2 Ja) H2 F fn yC (IS k c) s2 hL) (h:∀g∈hL,(∀b∈g.1,b.1=b.2)->(∀a∈g.2.1,a)/\∃s3,g.2.2= .to .normal s3/\∀X,ek ak F fr X s3->h1 .normal X)
  (hs:(eL fr c&&(D6 k c&&(an9 k c&&eL fr (IS k c))))=true:=by kernel_rfl):TG ak F fr c s h1:=by
 simp only[ay]at hs;obtain⟨Q,O,h3,h4⟩:=hs;obtain⟨iX,hr⟩:=hr;obtain⟨L2,hr2⟩:=hr2;refine BE k (XH s' hh) mo Q O hr (aaJ ?_);refine⟨hA,s1,rfl,LU (j9.Ip ms lv hf hB) ?_⟩;obtain⟨g,hg,ho,s3,X,Lz,Jb,he2⟩:=BC (X':=XH X2 Ja) hr2 fun g hg ho=>by
  obtain⟨Q,s3,O,_⟩:=h g hg ho;exact⟨Q,s3,O⟩
 obtain⟨_,s3',e3,hq⟩:=h g hg ho;rw[Lz]at e3;cases e3;simp only[IS,gD]at he2;simp only[IS,eL,ay]at h4;rw[xo (ops':=Nt c)]at he2
 . exact Dl (XH X2 Ja).ok (fun o ho d hod=>by have:=br.1 h4.1 o (by simpa using ho);rw[hod]at this;exact aX this) he2 rfl (hq X (ek.norm Jb))
 . intro o ho N;have:=br.1 h3 o ho;unfold fT;cases hg:o.guard with
   |none=>rfl
   |some q=>rw[hg]at this;cases this
def RQ(F fr:Nat)(h1:Exit->St->Prop)(y:Exit)(s:St):Prop:=∃fm,j9 F fr s fm/\h1 y fm
end
theorem Rf(h:TG ak F fr c s (RQ F fr h1)):TG ak F fr c s h1:=fun E a w hm r hn k=>h E a w hm r hn fun y X E' a' w' ⟨fm,hr,hq⟩ u n7 r'=>by
 obtain⟨pD,E2,r2,u2⟩:=hr E' a' w' r' n7;exact k y fm E2 a' w' hq (u.trans u2) pD r2
theorem RQ.of{y:Exit}{s:St}(h:h1 y s):RQ F fr h1 y s:=⟨s,fun E a w r hn=>⟨hn,E,r,kB.refl r.good⟩,h⟩
theorem vc(b n:Nat)(fm:Nat->St)(t:Nat->Bool)(h0:j9 F fr s (fm 0))
  (hb:∀i,i<=n->(∀j,j<i->t j=false)->∀Q':Exit->St->Prop,(i<n->t i=false->∀X,j9 F fr X (fm (i+1))->Q' .normal X)->(i=n->∀X,j9 F fr X (fm i)->Q' (.exit b) X)->(∀ch X,h1 (.panic ch) X->Q' (.panic ch) X)->TG ak F fr (dG (dG c)) (fm i) Q')
  (he:(∀j,j<n->t j=false)->∀X,j9 F fr X (fm n)->h1 .normal X) (hs:(nf c b&&oM (dG c))=true:=by kernel_rfl):TG ak F fr c s h1:=by
 rw[ay]at hs;refine fh (i:=b) hs.1 (jD (fun m s=>∃i,m=n-i/\i<=n/\(∀j,j<i->t j=false)/\j9 F fr s (fm i)) hs.2 ?_ n ⟨0,H,aU _,fun _ h=>absurd h (bC _),h0⟩);rintro m s1 ⟨i,rfl,hi,hj,hg⟩;refine hg.vO _ _ (hb i hi hj _ (fun Q O X dQ=>?_) (fun Q X dQ=>?_) (fun ch X h=>?_))
 . simp only[andThen];refine⟨n-(i+1),H,i+1,rfl,Q,fun j VI=>?_,dQ⟩;rcases bt j i with q|q
   . exact hj j q
   . obtain rfl:j=i:=by omega
     exact O
 . subst Q;simp only[andThen];rw[gY];exact he hj X dQ
 . simp only[andThen,gk];exact h
end
set_option maxRecDepth 10000
section
variable(k n x a b y:Int)
def Uh:Bool:=decide (n>=2)&&decide (n<=257)
def rB:Bool:=decide (x>=a)&&decide (x<=b)
def KL:ag->Option (ah×V)
 | [.int .i64 n]=>some ([],.bool (Uh n))
 |_=>none
def KM:ag->Option (ah×V)
 | [.int .i64 x,.int .i64 a,.int .i64 b]=>some ([],.bool (rB x a b))
 |_=>none
noncomputable abbrev Wpt:gF:=jZ 147 (gV KL) dY
noncomputable abbrev VT:gF:=jZ 161 (gV KM) dY
theorem aob:dw (U Wpt []) [] 0 Tryz.f121 [] (dI Tryz.f121) (dy [fj []] .nil 0) [([],
   [],
   .ret (.bool false) (G []) 0)]
 :=dj.of C C C
abbrev Rg(l:List Int)(m:Nat):Prop:=V.int A (IntKind.i64.wrap ((Int.ofNat l.length)-(1:Int)))=M m
theorem aoc(l:List Int)(m:Nat)(x y:Int)(b:Bool):dw (U (fb 148 [fj l] (.bool b) Wpt) []) [(8,.dz (.dx [.int .i64 x])),(16,.dz (M m)),(17,.dz (.dx [.int .i64 y])),(6,.split),(10,.split),(19,.split)] 0 Tryz.f121 [] (dI Tryz.f121) (dy [fj l] .nil 0) [([((Uh (Int.ofNat l.length)),true),((decide (x>=(0:Int))),true),((decide (y<=(65535:Int))),true)],
   [((0:Int)<=(0:Int)/\(0:Int)<(Int.ofNat l.length)),((dO l).length=l.length*1),(V.dx (dn (dO l) 0 1)=V.dx [D.int A x]),Rg l m,((0:Int)<=Int.ofNat m/\Int.ofNat m<(Int.ofNat l.length)),((dO l).length=l.length*1),(V.dx (dn (dO l) (m*1) 1)=V.dx [D.int A y]),(V.lA ([]++[fj l]++[])=[fj l])],
   .ret (.bool b) (G []) 0),
  ([((Uh (Int.ofNat l.length)),true),((decide (x>=(0:Int))),true),((decide (y<=(65535:Int))),false)],
   [((0:Int)<=(0:Int)/\(0:Int)<(Int.ofNat l.length)),((dO l).length=l.length*1),(V.dx (dn (dO l) 0 1)=V.dx [D.int A x]),Rg l m,((0:Int)<=Int.ofNat m/\Int.ofNat m<(Int.ofNat l.length)),((dO l).length=l.length*1),(V.dx (dn (dO l) (m*1) 1)=V.dx [D.int A y])],
   .ret (.bool false) (G []) 0),
  ([((Uh (Int.ofNat l.length)),true),((decide (x>=(0:Int))),false)],
   [((0:Int)<=(0:Int)/\(0:Int)<(Int.ofNat l.length)),((dO l).length=l.length*1),(V.dx (dn (dO l) 0 1)=V.dx [D.int A x])],
   .ret (.bool false) (G []) 0),
  ([((Uh (Int.ofNat l.length)),false)],
   [],
   .ret (.bool false) (G []) 0)]
 :=dj.of C C C
noncomputable abbrev Ui:Code:=dI Tryz.f158
noncomputable abbrev bAw:Code:=dG (dG (dX (dF (dr 1 Ui))))
def YK(l:List Int)(i:Nat):St:=fq [(0,L k),(7,fj l),(8,M l.length),(9,M i)] (G []) 0
theorem aod(l:List Int):dw (U dY []) [] 0 Tryz.f158 [0,1] (dM 1 Ui) (dy [L k,fj l] .nil 0) [([],
   [],
   .to .normal (dy [L k,fj l] .nil 0))]
 :=dj.of C C C
theorem aoe(l:List Int):dw (U dY []) [] 0 Tryz.f158 [0,7,8,9] (dF (dF (dr 1 Ui))) (dy [L k,fj l] .nil 0) [([],
   [],
   .to .normal (YK k l 0))]
 :=dj.of C C C
theorem aof(l:List Int)(i:Nat)(x:Int):dw (U dY []) [(10,.dz (.bool true)),(11,.dz (.dx [.int .i64 x])),(16,.split),(20,.split),(22,.dz (M (i+1)))] 0 Tryz.f158 [0,7,8,9] (bAw) (YK k l i) [([((decide (x<IntKind.i64.wrap ((0:Int)-k))),true)],
   [(V.bool (decide (Int.ofNat i<Int.ofNat l.length))=V.bool true),((0:Int)<=Int.ofNat i/\Int.ofNat i<(Int.ofNat l.length)),((dO l).length=l.length*1),(V.dx (dn (dO l) (i*1) 1)=V.dx [D.int A x])],
   .ret (.bool false) (G []) 0),
  ([((decide (x<IntKind.i64.wrap ((0:Int)-k))),false),((decide (x>k)),true)],
   [(V.bool (decide (Int.ofNat i<Int.ofNat l.length))=V.bool true),((0:Int)<=Int.ofNat i/\Int.ofNat i<(Int.ofNat l.length)),((dO l).length=l.length*1),(V.dx (dn (dO l) (i*1) 1)=V.dx [D.int A x])],
   .ret (.bool false) (G []) 0),
  ([((decide (x<IntKind.i64.wrap ((0:Int)-k))),false),((decide (x>k)),false)],
   [(V.bool (decide (Int.ofNat i<Int.ofNat l.length))=V.bool true),((0:Int)<=Int.ofNat i/\Int.ofNat i<(Int.ofNat l.length)),((dO l).length=l.length*1),(V.dx (dn (dO l) (i*1) 1)=V.dx [D.int A x]),(V.int A (IntKind.i64.wrap (Int.ofNat i+(1:Int)))=M (i+1))],
   .to .normal (YK k l (i+1)))]
 :=dj.of C C C
theorem aog(l:List Int)(i:Nat):dw (U dY []) [(10,.dz (.bool false))] 0 Tryz.f158 [0,7,8,9] (bAw) (YK k l i) [([],
   [(V.bool (decide (Int.ofNat i<Int.ofNat l.length))=V.bool false)],
   .to (.exit 0) (YK k l i))]
 :=dj.of C C C
theorem aoh(l:List Int)(i:Nat):dw (U dY []) [] 0 Tryz.f158 [] (dX (dr 1 Ui)) (YK k l i) [([],
   [],
   .ret (.bool true) (G []) 0)]
 :=dj.of C C C
theorem aoi(p:P7):dw (U dY []) [] 0 Tryz.f159 [] (dI Tryz.f159) (dy [.agg p.R] .nil 0) [([],
   [],
   .ret (.int .i64 (IntKind.i64.wrap (IntKind.i64.wrap (p.a*p.e)-IntKind.i64.wrap (p.b*p.d)))) (G []) 0)]
 :=dj.of C C C
theorem aoj:dw (U dY []) [(8,.split)] 0 Tryz.f163 [] (dI Tryz.f163) (dy [.agg [L x,L y]] .nil 0) [([((decide ((if y<x then y else x)<(-65536:Int))),true)],
   [],
   .ret (.bool true) (G []) 0),
  ([((decide ((if y<x then y else x)<(-65536:Int))),false)],
   [],
   .ret (.bool (decide ((if y>x then y else x)>(65536:Int)))) (G []) 0)]
 :=dj.of C C C
theorem aok:dw (U dY []) [(9,.split)] 0 Tryz.f161 [] (dI Tryz.f161) (dy [L x,L a,L b] .nil 0) [([((decide (x>=a)),true)],
   [],
   .ret (.bool (decide (x<=b))) (G []) 0),
  ([((decide (x>=a)),false)],
   [],
   .ret (.bool false) (G []) 0)]
 :=dj.of C C C
theorem aea:dw (U dY []) [(4,.split)] 0 Tryz.f147 [] (dI Tryz.f147) (dy [L n] .nil 0) [([((decide (n>=(2:Int))),true)],
   [],
   .ret (.bool (decide (n<=(257:Int)))) (G []) 0),
  ([((decide (n>=(2:Int))),false)],
   [],
   .ret (.bool false) (G []) 0)]
 :=dj.of C C C
theorem aol:dw (U dY []) [(4,.split)] 0 Tryz.f150 [] (dI Tryz.f150) (dy [L x] .nil 0) [([((decide (x<(-65536:Int))),true)],
   [],
   .ret (.bool true) (G []) 0),
  ([((decide (x<(-65536:Int))),false)],
   [],
   .ret (.bool (decide (x>(65536:Int)))) (G []) 0)]
 :=dj.of C C C
theorem aom:dw (U VT []) [] 0 Tryz.f160 [] (dI Tryz.f160) (dy [L x] .nil 0) [([],
   [],
   .ret (.bool (!rB x (-4096:Int) (4096:Int))) (G []) 0)]
 :=dj.of C C C
abbrev mK(g:Nat):V:=.fn (.func g) [] []
def GQ{α:Type}(p:α->Bool)(l:List α):Int:=match l.findIdx? p with
 |some i=>Int.ofNat i
 |none=> -1
noncomputable abbrev Uj:Code:=dI Tryz.f171
noncomputable abbrev bia:Code:=dG (dG (dX (dF (dr 1 Uj))))
end
def YL(l:List Int)(i:Nat):St:=fq [(0,fj l),(1,mK 150),(7,M l.length),(8,M i)] (G []) 0
theorem aon(l:List Int):dw (U dY []) [] 0 Tryz.f171 [0,1] (dM 1 Uj) (dy [fj l,mK 150] .nil 0) [([],
   [],
   .to .normal (dy [fj l,mK 150] .nil 0))]
 :=dj.of C C C
theorem aoo(l:List Int):dw (U dY []) [] 0 Tryz.f171 [0,1,7,8] (dF (dF (dr 1 Uj))) (dy [fj l,mK 150] .nil 0) [([],
   [],
   .to .normal (YL l 0))]
 :=dj.of C C C
theorem aop(l:List Int)(i:Nat)(x:Int)(b:Bool):dw (U (fb 150 [L x] (.bool b) dY) []) [(9,.dz (.bool true)),(14,.dz (.dx [.int .i64 x])),(16,.split),(18,.dz (M (i+1)))] 0 Tryz.f171 [0,1,7,8] (bia) (YL l i) [([(b,true)],
   [(V.bool (decide (Int.ofNat i<Int.ofNat l.length))=V.bool true),((0:Int)<=Int.ofNat i/\Int.ofNat i<(Int.ofNat l.length)),((dO l).length=l.length*1),(V.dx (dn (dO l) (i*1) 1)=V.dx [D.int A x]),(fa [L x])],
   .ret (.int .i64 (Int.ofNat i)) (G []) 0),
  ([(b,false)],
   [(V.bool (decide (Int.ofNat i<Int.ofNat l.length))=V.bool true),((0:Int)<=Int.ofNat i/\Int.ofNat i<(Int.ofNat l.length)),((dO l).length=l.length*1),(V.dx (dn (dO l) (i*1) 1)=V.dx [D.int A x]),(fa [L x]),(V.int A (IntKind.i64.wrap (Int.ofNat i+(1:Int)))=M (i+1))],
   .to .normal (YL l (i+1)))]
 :=dj.of C C C
theorem aoq(l:List Int)(i:Nat):dw (U dY []) [(9,.dz (.bool false))] 0 Tryz.f171 [0,1,7,8] (bia) (YL l i) [([],
   [(V.bool (decide (Int.ofNat i<Int.ofNat l.length))=V.bool false)],
   .to (.exit 0) (YL l i))]
 :=dj.of C C C
theorem aor(l:List Int)(i:Nat):dw (U dY []) [] 0 Tryz.f171 [] (dX (dr 1 Uj)) (YL l i) [([],
   [],
   .ret (.int .i64 (-1)) (G []) 0)]
 :=dj.of C C C
noncomputable abbrev Uk:Code:=dI Tryz.f171
noncomputable abbrev bib:Code:=dG (dG (dX (dF (dr 1 Uk))))
def YM(l:List Int)(i:Nat):St:=fq [(0,fj l),(1,mK 160),(7,M l.length),(8,M i)] (G []) 0
theorem aos(l:List Int):dw (U dY []) [] 0 Tryz.f171 [0,1] (dM 1 Uk) (dy [fj l,mK 160] .nil 0) [([],
   [],
   .to .normal (dy [fj l,mK 160] .nil 0))]
 :=dj.of C C C
theorem aot(l:List Int):dw (U dY []) [] 0 Tryz.f171 [0,1,7,8] (dF (dF (dr 1 Uk))) (dy [fj l,mK 160] .nil 0) [([],
   [],
   .to .normal (YM l 0))]
 :=dj.of C C C
theorem aou(l:List Int)(i:Nat)(x:Int)(b:Bool):dw (U (fb 160 [L x] (.bool b) dY) []) [(9,.dz (.bool true)),(14,.dz (.dx [.int .i64 x])),(16,.split),(18,.dz (M (i+1)))] 0 Tryz.f171 [0,1,7,8] (bib) (YM l i) [([(b,true)],
   [(V.bool (decide (Int.ofNat i<Int.ofNat l.length))=V.bool true),((0:Int)<=Int.ofNat i/\Int.ofNat i<(Int.ofNat l.length)),((dO l).length=l.length*1),(V.dx (dn (dO l) (i*1) 1)=V.dx [D.int A x]),(fa [L x])],
   .ret (.int .i64 (Int.ofNat i)) (G []) 0),
  ([(b,false)],
   [(V.bool (decide (Int.ofNat i<Int.ofNat l.length))=V.bool true),((0:Int)<=Int.ofNat i/\Int.ofNat i<(Int.ofNat l.length)),((dO l).length=l.length*1),(V.dx (dn (dO l) (i*1) 1)=V.dx [D.int A x]),(fa [L x]),(V.int A (IntKind.i64.wrap (Int.ofNat i+(1:Int)))=M (i+1))],
   .to .normal (YM l (i+1)))]
 :=dj.of C C C
theorem aov(l:List Int)(i:Nat):dw (U dY []) [(9,.dz (.bool false))] 0 Tryz.f171 [0,1,7,8] (bib) (YM l i) [([],
   [(V.bool (decide (Int.ofNat i<Int.ofNat l.length))=V.bool false)],
   .to (.exit 0) (YM l i))]
 :=dj.of C C C
theorem aow(l:List Int)(i:Nat):dw (U dY []) [] 0 Tryz.f171 [] (dX (dr 1 Uk)) (YM l i) [([],
   [],
   .ret (.int .i64 (-1)) (G []) 0)]
 :=dj.of C C C
noncomputable abbrev Ul:Code:=dI Tryz.f177
noncomputable abbrev bic:Code:=dG (dG (dX (dF (dr 1 Ul))))
def YN(l:List (Int×Int))(i:Nat):St:=fq [(0,w8 l),(1,mK 163),(7,M l.length),(8,M i)] (G []) 0
theorem aox(l:List (Int×Int)):dw (U dY []) [] 0 Tryz.f177 [0,1] (dM 1 Ul) (dy [w8 l,mK 163] .nil 0) [([],
   [],
   .to .normal (dy [w8 l,mK 163] .nil 0))]
 :=dj.of C C C
theorem aoy(l:List (Int×Int)):dw (U dY []) [] 0 Tryz.f177 [0,1,7,8] (dF (dF (dr 1 Ul))) (dy [w8 l,mK 163] .nil 0) [([],
   [],
   .to .normal (YN l 0))]
 :=dj.of C C C
abbrev Rh(l:List (Int×Int))(i:Nat)(x:(Int×Int)):Prop:=V.dx (dn (qZ l) (i*2) 2)=V.dx [D.int A x.1,D.int A x.2]
theorem aoz(l:List (Int×Int))(i:Nat)(x:(Int×Int))(b:Bool):dw (U (fb 163 [.agg [L x.1,L x.2]] (.bool b) dY) []) [(9,.dz (.bool true)),(14,.dz (.dx [.int .i64 x.1,.int .i64 x.2])),(16,.split),(18,.dz (M (i+1)))] 0 Tryz.f177 [0,1,7,8] (bic) (YN l i) [([(b,true)],
   [(V.bool (decide (Int.ofNat i<Int.ofNat l.length))=V.bool true),((0:Int)<=Int.ofNat i/\Int.ofNat i<(Int.ofNat l.length)),((qZ l).length=l.length*2),Rh l i x,(fa [.agg [L x.1,L x.2]])],
   .ret (.int .i64 (Int.ofNat i)) (G []) 0),
  ([(b,false)],
   [(V.bool (decide (Int.ofNat i<Int.ofNat l.length))=V.bool true),((0:Int)<=Int.ofNat i/\Int.ofNat i<(Int.ofNat l.length)),((qZ l).length=l.length*2),Rh l i x,(fa [.agg [L x.1,L x.2]]),(V.int A (IntKind.i64.wrap (Int.ofNat i+(1:Int)))=M (i+1))],
   .to .normal (YN l (i+1)))]
 :=dj.of C C C
theorem aoA(l:List (Int×Int))(i:Nat):dw (U dY []) [(9,.dz (.bool false))] 0 Tryz.f177 [0,1,7,8] (bic) (YN l i) [([],
   [(V.bool (decide (Int.ofNat i<Int.ofNat l.length))=V.bool false)],
   .to (.exit 0) (YN l i))]
 :=dj.of C C C
theorem aoB(l:List (Int×Int))(i:Nat):dw (U dY []) [] 0 Tryz.f177 [] (dX (dr 1 Ul)) (YN l i) [([],
   [],
   .ret (.int .i64 (-1)) (G []) 0)]
 :=dj.of C C C
noncomputable abbrev Um:Code:=dI Tryz.f124
noncomputable abbrev bid:Code:=dG (dG (dX (dF (dr 1 Um))))
def YO(l:List Sp)(i:Nat):St:=fq [(0,.eB false l.length (mE l)),(1,mK 90),(7,M l.length),(8,M i)] (G []) 0
theorem aoC(l:List Sp):dw (U dY []) [] 0 Tryz.f124 [0,1] (dM 1 Um) (dy [.eB false l.length (mE l),mK 90] .nil 0) [([],
   [],
   .to .normal (dy [.eB false l.length (mE l),mK 90] .nil 0))]
 :=dj.of C C C
theorem aoD(l:List Sp):dw (U dY []) [] 0 Tryz.f124 [0,1,7,8] (dF (dF (dr 1 Um))) (dy [.eB false l.length (mE l),mK 90] .nil 0) [([],
   [],
   .to .normal (YO l 0))]
 :=dj.of C C C
theorem aoE(l:List Sp)(i:Nat)(x:Sp)(b:Bool):dw (U (fb 90 [x.v] (.bool b) dY) []) [(9,.dz (.bool true)),(14,.dz (.dx x.ds)),(16,.split),(18,.dz (M (i+1)))] 0 Tryz.f124 [0,1,7,8] (bid) (YO l i) [([(b,true)],
   [(V.bool (decide (Int.ofNat i<Int.ofNat l.length))=V.bool true),((0:Int)<=Int.ofNat i/\Int.ofNat i<(Int.ofNat l.length)),((mE l).length=l.length*21),(V.dx (dn (mE l) (i*21) 21)=V.dx x.ds),(fa [x.v])],
   .ret (.int .i64 (Int.ofNat i)) (G []) 0),
  ([(b,false)],
   [(V.bool (decide (Int.ofNat i<Int.ofNat l.length))=V.bool true),((0:Int)<=Int.ofNat i/\Int.ofNat i<(Int.ofNat l.length)),((mE l).length=l.length*21),(V.dx (dn (mE l) (i*21) 21)=V.dx x.ds),(fa [x.v]),(V.int A (IntKind.i64.wrap (Int.ofNat i+(1:Int)))=M (i+1))],
   .to .normal (YO l (i+1)))]
 :=dj.of C C C
theorem aoF(l:List Sp)(i:Nat):dw (U dY []) [(9,.dz (.bool false))] 0 Tryz.f124 [0,1,7,8] (bid) (YO l i) [([],
   [(V.bool (decide (Int.ofNat i<Int.ofNat l.length))=V.bool false)],
   .to (.exit 0) (YO l i))]
 :=dj.of C C C
theorem aoG(l:List Sp)(i:Nat):dw (U dY []) [] 0 Tryz.f124 [] (dX (dr 1 Um)) (YO l i) [([],
   [],
   .ret (.int .i64 (-1)) (G []) 0)]
 :=dj.of C C C
theorem aoH(l:List Int)(a:Int):dw (U (fb 171 [fj l,mK 150] (L a) dY) []) [] 0 Tryz.f149 [] (dI Tryz.f149) (dy [fj l,mK 150] .nil 0) [([],
   [(V.lA ([]++[fj l,mK 150]++[])=[fj l,mK 150])],
   .ret (.bool (decide (a>=(0:Int)))) (G []) 0)]
 :=dj.of C C C
theorem aoI(l:List Int)(a:Int):dw (U (fb 171 [fj l,mK 160] (L a) dY) []) [] 0 Tryz.f149 [] (dI Tryz.f149) (dy [fj l,mK 160] .nil 0) [([],
   [(V.lA ([]++[fj l,mK 160]++[])=[fj l,mK 160])],
   .ret (.bool (decide (a>=(0:Int)))) (G []) 0)]
 :=dj.of C C C
theorem aoJ(l:List (Int×Int))(a:Int):dw (U (fb 177 [w8 l,mK 163] (L a) dY) []) [] 0 Tryz.f162 [] (dI Tryz.f162) (dy [w8 l,mK 163] .nil 0) [([],
   [(V.lA ([]++[w8 l,mK 163]++[])=[w8 l,mK 163])],
   .ret (.bool (decide (a>=(0:Int)))) (G []) 0)]
 :=dj.of C C C
theorem aoK(l:List Sp)(a:Int):dw (U (fb 124 [.eB false l.length (mE l),mK 90] (L a) dY) []) [] 0 Tryz.f92 [] (dI Tryz.f92) (dy [.eB false l.length (mE l),mK 90] .nil 0) [([],
   [(V.lA ([]++[V.eB false l.length (mE l),mK 90]++[])=[V.eB false l.length (mE l),mK 90])],
   .ret (.bool (decide (a>=(0:Int)))) (G []) 0)]
 :=dj.of C C C
set_option maxRecDepth 10000
theorem YP:jK ak 147 (gV KL):=by
 refine ow Tryz.func147 fun args aj v e=>?_;unfold KL at e;split at e
 case h_2=>cases e
 rename_i n;obtain⟨rfl,rfl⟩:=sm e;exact⟨rfl,rfl,rfl,fun _=>eK (di _) (aea n) (dD (g1 fun h=>⟨all_nil,_,_,_,rfl,aI V.bool (by simp only[Uh,h,aN])⟩) (dB (g1 fun h=>⟨all_nil,_,_,_,rfl,aI V.bool (by simp only[Uh,h,aS])⟩)))⟩
theorem YQ:jK ak 161 (gV KM):=by
 refine ow Tryz.func161 fun args aj v e=>?_;unfold KM at e;split at e
 case h_2=>cases e
 rename_i x a b;obtain⟨rfl,rfl⟩:=sm e;exact⟨rfl,rfl,rfl,fun _=>eK (di _) (aok x a b) (dD (g1 fun h=>⟨all_nil,_,_,_,rfl,aI V.bool (by simp only[rB,h,aN])⟩) (dB (g1 fun h=>⟨all_nil,_,_,_,rfl,aI V.bool (by simp only[rB,h,aS])⟩)))⟩
theorem Ri:eU ak Wpt:=fC YP (di _)
theorem xp:eU ak VT:=fC YQ (di _)
def LX(l:List Int):Bool:=Uh (Int.ofNat l.length)&&(decide (l.getD 0 0>=0)&&(decide (l.getD (l.length-1) 0<=65535)&&AO l))
theorem cvD(l:List Int)(hl:l.length<=1000000000):dU ak 121 [fj l] (.bool (LX l)):=by
 refine eX Tryz.func121 ?_;by_cases h0:0<l.length
 case neg=>
  have Q:l.length=0:=by omega
  have hn:l=[]:=cE.2 Q;subst hn;exact eK Ri aob (dB (g0 ⟨all_nil,_,_,_,rfl,rfl⟩))
 refine eK (fu (Uf l h0 hl) Ri) (aoc l (l.length-1) (l.getD 0 0) (l.getD (l.length-1) 0) (AO l)) ?_;have e1:(0:Int)<=(0:Int)/\(0:Int)<Int.ofNat l.length:=by simp only[gQ];omega
 have e2:V.dx (dn (dO l) 0 1)=V.dx [.int .i64 (l.getD 0 0)]:=fD h0;have e3:V.int A (IntKind.i64.wrap (Int.ofNat l.length-(1:Int)))=M (l.length-1):=aI (V.int .i64) (by rw[show Int.ofNat l.length-1=Int.ofNat (l.length-1)by simp only[gQ];omega];exact gZ (by simp only[gQ];omega) (by simp only[gQ];omega));have e4:=iI (show l.length-1<l.length by omega);have e5:=fD (l:=l) (show l.length-1<l.length by omega)
 repeat' (first|exact gH|refine dD ?_ ?_)
 all_goals
  intro B;simp only[aD,aJ,bn,aL,bh]at B;refine⟨?_,_,_,_,rfl,aI V.bool (by simp only[LX,B,aN,aS])⟩
  repeat' (first|exact all_nil|refine S ?_ ?_)
  all_goals first
   |exact e1
   |exact eo l
   |exact e2
   |exact e3
   |exact e4
   |exact e5
   |exact rfl
def EU(k:Int)(l:List Int):Bool:=!(l.any fun x=>decide (x<IntKind.i64.wrap (0-k))||decide (x>k))
theorem awD(k:Int)(l:List Int)(hl:l.length<=1000000):dU ak 158 [L k,fj l] (.bool (EU k l)):=by
 refine eX Tryz.func158 (fF 1 (di _) (aod k l) all_nil ?_);refine dK C (dK C (gv (di _) eE (aoe k l) (dB (g0 ⟨all_nil,fun X dQ=>?_⟩))));simp only[andThen];refine jf 0 l.length (fun i=>YK k l i) (fun i=>decide (l.getD i 0<IntKind.i64.wrap (0-k))||decide (l.getD i 0>k)) (ek.norm dQ) (fun i hi hj Q' k1 k2 k3=>?_) (fun Q X dQ=>?_)
 . rcases bt i l.length with q|q
   . have b0:V.bool (decide (Int.ofNat i<Int.ofNat l.length))=V.bool true:=aI V.bool (aZ (cm.2 q));have hF:(decide (l.getD i 0<IntKind.i64.wrap (0-k))||decide (l.getD i 0>k))=true->V.bool false=V.bool (EU k l):=fun h=>by
      unfold EU;rw[EK (d:=0) q h];rfl
     refine gv (di _) (fun u _ _=>u= .bool (EU k l)) (aof k l i (l.getD i 0)) (dD (g1 fun h=>⟨S b0 (S (iI q) (S (eo l) (eG (fD q)))),hF (by rw[h];rfl),k3⟩) (dD (g2 fun h O=>⟨S b0 (S (iI q) (S (eo l) (eG (fD q)))),hF (by rw[h,O];rfl),k3⟩) (dB (g2 fun h O=>⟨S b0 (S (iI q) (S (eo l) (S (fD q) (eG (gJ H))))),fun X dQ=>k1 q (by rw[h,O];rfl) X (ek.norm dQ)⟩))))
   . obtain rfl:i=l.length:=by omega
     exact gv (di _) eE (aog k l _) (dB (g0 ⟨eG (aI V.bool (aT (by simp only[gQ];omega))),fun X dQ=>k2 rfl X (ek.norm dQ)⟩))
 simp only[andThen];refine dQ _ _ (eK (di _) (aoh k l _) (dB (g0 ⟨all_nil,_,_,_,rfl,aI V.bool (Eq.symm ?_)⟩)));unfold EU;rw[Ir (d:=0) Q];rfl
theorem adD(p:P7):dU ak 159 [p.v] (L (Nb p)):=eX Tryz.func159 (eK (di _) (aoi p) (dB (g0 ⟨all_nil,_,_,_,rfl,rfl⟩)))
def IT(x:Int×Int):Bool:=decide ((if x.2<x.1 then x.2 else x.1)< -65536)||decide ((if x.2>x.1 then x.2 else x.1)>65536)
theorem aoL(x:Int×Int):dU ak 163 [.agg [L x.1,L x.2]] (.bool (IT x)):=
 eX Tryz.func163 (eK (di _) (aoj x.1 x.2) (dD (g1 fun h=>⟨all_nil,_,_,_,rfl,aI V.bool (by simp only[IT,h,cq])⟩) (dB (g1 fun h=>⟨all_nil,_,_,_,rfl,aI V.bool (by simp only[IT,h,cr])⟩))))
section
variable(x:Int){α:Type}{p:α->Bool}
def YR:Bool:=decide (x< -65536)||decide (x>65536)
theorem cwD:dU ak 150 [L x] (.bool (YR x)):=
 eX Tryz.func150 (eK (di _) (aol x) (dD (g1 fun h=>⟨all_nil,_,_,_,rfl,aI V.bool (by simp only[YR,h,cq])⟩) (dB (g1 fun h=>⟨all_nil,_,_,_,rfl,aI V.bool (by simp only[YR,h,cr])⟩))))
def VU:Bool:=!rB x (-4096) 4096
theorem fcD:dU ak 160 [L x] (.bool (VU x)):=
 eX Tryz.func160 (eK xp (aom x) (dB (g0 ⟨all_nil,_,_,_,rfl,rfl⟩)))
theorem BF(p:α->Bool)(l:List α):decide (GQ p l>=0)=l.any p:=by
 unfold GQ;cases h:l.findIdx? p with
 |some i=>
  have:l.any p=true:=by
   rw[bO]at h;obtain⟨Q,O,_⟩:=h;exact List.any_eq_true.2 ⟨_,bK Q,O⟩
  rw[this];exact aZ (by show Int.ofNat i>=0;simp only[gQ];omega)
 |none=>
  rw[cH]at h;have:l.any p=false:=cT.2 fun x I=>by rw[h x I];simp
  rw[this];rfl
theorem yF{l:List α}{d:α}{i:Nat}(hi:i<l.length)(h:p (l.getD i d)=true)(hj:∀j,j<i->p (l.getD j d)=false):GQ p l=Int.ofNat i:=by
 have:l.findIdx? p=some i:=by
  rw[bO];refine⟨hi,?_,fun j q=>?_⟩
  . rw[ax,au hi]at h;exact h
  . have:=hj j q;rw[ax,au H]at this;simpa using this
 unfold GQ;rw[this]
theorem yG{l:List α}{d:α}(hj:∀j,j<l.length->p (l.getD j d)=false):GQ p l= -1:=by
 have:l.findIdx? p=none:=by
  rw[cH];intro x I;obtain⟨j,xy,rfl⟩:=b6 I;have:=hj j xy;rw[ax,au xy]at this;exact this
 unfold GQ;rw[this]
theorem yH{l:List α}{i:Nat}{d:α}(h:i<l.length):l.getD i d∈l:=by rw[ax,au h];exact bK h
end
theorem iaD(l:List Int)(p:Int->Bool)(hp:∀x∈l,dU ak 150 [L x] (.bool (p x)))(hl:l.length<=1000000):dU ak 171 [fj l,mK 150] (L (GQ p l)):=by
 refine eX Tryz.func171 (fF 1 (di _) (aon l) all_nil ?_);refine dK C (dK C (gv (di _) eE (aoo l) (dB (g0 ⟨all_nil,fun X dQ=>?_⟩))));simp only[andThen];refine jf 0 l.length (fun i=>YL l i) (fun i=>p (l.getD i 0)) (ek.norm dQ) (fun i hi hj Q' k1 k2 k3=>?_) (fun Q X dQ=>?_)
 . rcases bt i l.length with q|q
   . have b0:V.bool (decide (Int.ofNat i<Int.ofNat l.length))=V.bool true:=aI V.bool (aZ (cm.2 q));exact gv (fu (hp _ (yH q)) (di _)) (fun u _ _=>u=L (GQ p l)) (aop l i (l.getD i 0) (p (l.getD i 0))) (dD (g1 fun h=>⟨S b0 (S (iI q) (S (eo l) (S (fD q) (eG rfl)))),by rw[yF q h hj],k3⟩) (dB (g1 fun h=>⟨S b0 (S (iI q) (S (eo l) (S (fD q) (S rfl (eG (gJ H)))))),fun X dQ=>k1 q h X (ek.norm dQ)⟩)))
   . obtain rfl:i=l.length:=by omega
     exact gv (di _) eE (aoq l _) (dB (g0 ⟨eG (aI V.bool (aT (by simp only[gQ];omega))),fun X dQ=>k2 rfl X (ek.norm dQ)⟩))
 simp only[andThen];exact dQ _ _ (eK (di _) (aor l _) (dB (g0 ⟨all_nil,_,_,_,rfl,by rw[yG Q]⟩)))
theorem ibD(l:List Int)(p:Int->Bool)(hp:∀x∈l,dU ak 160 [L x] (.bool (p x)))(hl:l.length<=1000000):dU ak 171 [fj l,mK 160] (L (GQ p l)):=by
 refine eX Tryz.func171 (fF 1 (di _) (aos l) all_nil ?_);refine dK C (dK C (gv (di _) eE (aot l) (dB (g0 ⟨all_nil,fun X dQ=>?_⟩))));simp only[andThen];refine jf 0 l.length (fun i=>YM l i) (fun i=>p (l.getD i 0)) (ek.norm dQ) (fun i hi hj Q' k1 k2 k3=>?_) (fun Q X dQ=>?_)
 . rcases bt i l.length with q|q
   . have b0:V.bool (decide (Int.ofNat i<Int.ofNat l.length))=V.bool true:=aI V.bool (aZ (cm.2 q));exact gv (fu (hp _ (yH q)) (di _)) (fun u _ _=>u=L (GQ p l)) (aou l i (l.getD i 0) (p (l.getD i 0))) (dD (g1 fun h=>⟨S b0 (S (iI q) (S (eo l) (S (fD q) (eG rfl)))),by rw[yF q h hj],k3⟩) (dB (g1 fun h=>⟨S b0 (S (iI q) (S (eo l) (S (fD q) (S rfl (eG (gJ H)))))),fun X dQ=>k1 q h X (ek.norm dQ)⟩)))
   . obtain rfl:i=l.length:=by omega
     exact gv (di _) eE (aov l _) (dB (g0 ⟨eG (aI V.bool (aT (by simp only[gQ];omega))),fun X dQ=>k2 rfl X (ek.norm dQ)⟩))
 simp only[andThen];exact dQ _ _ (eK (di _) (aow l _) (dB (g0 ⟨all_nil,_,_,_,rfl,by rw[yG Q]⟩)))
theorem icD(l:List (Int×Int))(p:(Int×Int)->Bool)(hp:∀x∈l,dU ak 163 [.agg [L x.1,L x.2]] (.bool (p x)))(hl:l.length<=1000000):dU ak 177 [w8 l,mK 163] (L (GQ p l)):=by
 refine eX Tryz.func177 (fF 1 (di _) (aox l) all_nil ?_);refine dK C (dK C (gv (di _) eE (aoy l) (dB (g0 ⟨all_nil,fun X dQ=>?_⟩))));simp only[andThen];refine jf 0 l.length (fun i=>YN l i) (fun i=>p (l.getD i (0,0))) (ek.norm dQ) (fun i hi hj Q' k1 k2 k3=>?_) (fun Q X dQ=>?_)
 . rcases bt i l.length with q|q
   . have b0:V.bool (decide (Int.ofNat i<Int.ofNat l.length))=V.bool true:=aI V.bool (aZ (cm.2 q));exact gv (fu (hp _ (yH q)) (di _)) (fun u _ _=>u=L (GQ p l)) (aoz l i (l.getD i (0,0)) (p (l.getD i (0,0)))) (dD (g1 fun h=>⟨S b0 (S (iI q) (S (Bv l) (S (F6 q) (eG rfl)))),by rw[yF q h hj],k3⟩) (dB (g1 fun h=>⟨S b0 (S (iI q) (S (Bv l) (S (F6 q) (S rfl (eG (gJ H)))))),fun X dQ=>k1 q h X (ek.norm dQ)⟩)))
   . obtain rfl:i=l.length:=by omega
     exact gv (di _) eE (aoA l _) (dB (g0 ⟨eG (aI V.bool (aT (by simp only[gQ];omega))),fun X dQ=>k2 rfl X (ek.norm dQ)⟩))
 simp only[andThen];exact dQ _ _ (eK (di _) (aoB l _) (dB (g0 ⟨all_nil,_,_,_,rfl,by rw[yG Q]⟩)))
theorem idD(l:List Sp)(p:Sp->Bool)(hp:∀x∈l,dU ak 90 [x.v] (.bool (p x)))(hl:l.length<=1000000):dU ak 124 [.eB false l.length (mE l),mK 90] (L (GQ p l)):=by
 refine eX Tryz.func124 (fF 1 (di _) (aoC l) all_nil ?_);refine dK C (dK C (gv (di _) eE (aoD l) (dB (g0 ⟨all_nil,fun X dQ=>?_⟩))));simp only[andThen];refine jf 0 l.length (fun i=>YO l i) (fun i=>p (l.getD i N0)) (ek.norm dQ) (fun i hi hj Q' k1 k2 k3=>?_) (fun Q X dQ=>?_)
 . rcases bt i l.length with q|q
   . have b0:V.bool (decide (Int.ofNat i<Int.ofNat l.length))=V.bool true:=aI V.bool (aZ (cm.2 q));exact gv (fu (hp _ (yH q)) (di _)) (fun u _ _=>u=L (GQ p l)) (aoE l i (l.getD i N0) (p (l.getD i N0))) (dD (g1 fun h=>⟨S b0 (S (iI q) (S (Bx l) (S (Gd q) (eG rfl)))),by rw[yF q h hj],k3⟩) (dB (g1 fun h=>⟨S b0 (S (iI q) (S (Bx l) (S (Gd q) (S rfl (eG (gJ H)))))),fun X dQ=>k1 q h X (ek.norm dQ)⟩)))
   . obtain rfl:i=l.length:=by omega
     exact gv (di _) eE (aoF l _) (dB (g0 ⟨eG (aI V.bool (aT (by simp only[gQ];omega))),fun X dQ=>k2 rfl X (ek.norm dQ)⟩))
 simp only[andThen];exact dQ _ _ (eK (di _) (aoG l _) (dB (g0 ⟨all_nil,_,_,_,rfl,by rw[yG Q]⟩)))
theorem caD(l:List Int)(p:Int->Bool)(hp:∀x∈l,dU ak 150 [L x] (.bool (p x)))(hl:l.length<=1000000):dU ak 149 [fj l,mK 150] (.bool (l.any p)):=
 eX Tryz.func149 (eK (fu (iaD l p hp hl) (di _)) (aoH l (GQ p l)) (dB (g0 ⟨eG rfl,_,_,_,rfl,aI V.bool (BF p l)⟩)))
theorem cbD(l:List Int)(p:Int->Bool)(hp:∀x∈l,dU ak 160 [L x] (.bool (p x)))(hl:l.length<=1000000):dU ak 149 [fj l,mK 160] (.bool (l.any p)):=
 eX Tryz.func149 (eK (fu (ibD l p hp hl) (di _)) (aoI l (GQ p l)) (dB (g0 ⟨eG rfl,_,_,_,rfl,aI V.bool (BF p l)⟩)))
theorem ccD(l:List (Int×Int))(p:(Int×Int)->Bool)(hp:∀x∈l,dU ak 163 [.agg [L x.1,L x.2]] (.bool (p x)))(hl:l.length<=1000000):dU ak 162 [w8 l,mK 163] (.bool (l.any p)):=
 eX Tryz.func162 (eK (fu (icD l p hp hl) (di _)) (aoJ l (GQ p l)) (dB (g0 ⟨eG rfl,_,_,_,rfl,aI V.bool (BF p l)⟩)))
theorem ceD(l:List Sp)(p:Sp->Bool)(hp:∀x∈l,dU ak 90 [x.v] (.bool (p x)))(hl:l.length<=1000000):dU ak 92 [.eB false l.length (mE l),mK 90] (.bool (l.any p)):=
 eX Tryz.func92 (eK (fu (idD l p hp hl) (di _)) (aoK l (GQ p l)) (dB (g0 ⟨eG rfl,_,_,_,rfl,aI V.bool (BF p l)⟩)))
set_option maxRecDepth 10000
section
variable(a m b:M9)(i:Nat)
def M9.l:List Int:=[m.a,m.b,m.c,m.d,m.e,m.f,m.g,m.h,m.i]
noncomputable abbrev Un:Code:=dI Tryz.f122
theorem aoM:dw (U dY []) [] 0 Tryz.f122 [1] (dM 1 Un) (dy [.agg (D.fQ m.ds)] .nil 0) [([],
   [],
   .to .normal (fq [(1,.ptr (some (0,0)))] (G [(0,.cells [.int .i64 (m.a),.int .i64 (m.b),.int .i64 (m.c),.int .i64 (m.d),.int .i64 (m.e),.int .i64 (m.f),.int .i64 (m.g),.int .i64 (m.h),.int .i64 (m.i)])]) 1))]
 :=dj.of C C C
theorem aoN:dw (U dY []) [] 0 Tryz.f122 [3] (D5 1 (dF (dr 1 Un))) (fq [(1,.ptr (some (0,0)))] (G [(0,.cells (D.fQ m.ds))]) 1) [([],
   [],
   .to .normal (fq [(3,.eR (some (0,0)) 9 9 1)] (G [(0,.cells [.int .i64 (m.a),.int .i64 (m.b),.int .i64 (m.c),.int .i64 (m.d),.int .i64 (m.e),.int .i64 (m.f),.int .i64 (m.g),.int .i64 (m.h),.int .i64 (m.i)])]) 1))]
 :=dj.of C C C
theorem aoO(b:Bool):dw (U (fb 149 [fj m.l,mK 150] (.bool b) dY) []) [] 0 Tryz.f122 [2] (IS 1 (dF (dr 1 Un))) (fq [(3,fj m.l)] (G []) 0) [([],
   [(V.lA ([]++[fj m.l,V.fn (Fn.func 150) [] []]++[])=[fj m.l,mK 150])],
   .to .normal (fq [(2,.bool (!b))] (G []) 0))]
 :=dj.of C C C
theorem aoP(b:Bool):dw (U dY []) [] 0 Tryz.f122 [] (dX (dr 1 Un)) (fq [(2,.bool b)] (G []) 0) [([],
   [],
   .ret (.bool b) (G []) 0)]
 :=dj.of C C C
noncomputable abbrev Uo:Code:=dI Tryz.f123
noncomputable abbrev bIv:Code:=dG (dG (dX (dF (dr 1 Uo))))
def YS:St:=fq [(2,.ptr (some (0,0))),(3,.ptr (some (1,0))),(9,M i)] (G [(0,.cells (D.fQ a.ds)),(1,.cells (D.fQ b.ds))]) 2
theorem aoQ:dw (U dY []) [] 0 Tryz.f123 [2,3] (dM 1 Uo) (dy [.agg (D.fQ a.ds),.agg (D.fQ b.ds)] .nil 0) [([],
   [],
   .to .normal (fq [(2,.ptr (some (0,0))),(3,.ptr (some (1,0)))] (G [(0,.cells [.int .i64 (a.a),.int .i64 (a.b),.int .i64 (a.c),.int .i64 (a.d),.int .i64 (a.e),.int .i64 (a.f),.int .i64 (a.g),.int .i64 (a.h),.int .i64 (a.i)]),(1,.cells [.int .i64 (b.a),.int .i64 (b.b),.int .i64 (b.c),.int .i64 (b.d),.int .i64 (b.e),.int .i64 (b.f),.int .i64 (b.g),.int .i64 (b.h),.int .i64 (b.i)])]) 2))]
 :=dj.of C C C
theorem aoR:dw (U dY []) [] 0 Tryz.f123 [2,3,9] (dF (dF (dr 1 Uo))) (fq [(2,.ptr (some (0,0))),(3,.ptr (some (1,0)))] (G [(0,.cells (D.fQ a.ds)),(1,.cells (D.fQ b.ds))]) 2) [([],
   [],
   .to .normal (YS a b 0))]
 :=dj.of C C C
def ivS(j:Nat):Int:=IntKind.i64.wrap (IntKind.i64.wrap (IntKind.i64.wrap (a.at (3*i)*b.at j)+IntKind.i64.wrap (a.at (3*i+1)*b.at (3+j)))+IntKind.i64.wrap (a.at (3*i+2)*b.at (6+j)))
def Up:Int:=bif Nat.beq (i/3) (i%3)then IntKind.i64.wrap (ivS a b (i/3) (i%3)-16777216)else ivS a b (i/3) (i%3)
def ivA:ah:=[(3:Int)≠(0:Int),n9 (3*(i/3)),n9 (i%3),n9 (3*(i/3)+1),n9 (3+i%3),n9 (3*(i/3)+2),n9 (6+i%3)]
theorem aoS(a b:M9):∀i,i<9->dw (U dY []) [(52,.split),(55,.split)] 0 Tryz.f123 [2,3,9] bIv (YS a b i) [([(decide (Up a b i<(-32768:Int)),true)],ivA i,.ret (.bool false) (G []) 0),([(decide (Up a b i<(-32768:Int)),false),(decide (Up a b i>(32768:Int)),true)],ivA i,.ret (.bool false) (G []) 0),([(decide (Up a b i<(-32768:Int)),false),(decide (Up a b i>(32768:Int)),false)],ivA i,.to .normal (YS a b (i+1)))]:=by
 intro i hi;obtain rfl|rfl|rfl|rfl|rfl|rfl|rfl|rfl|rfl:i=0\/i=1\/i=2\/i=3\/i=4\/i=5\/i=6\/i=7\/i=8:=by omega
 all_goals exact dj.of C C C
theorem aoT:dw (U dY []) [] 0 Tryz.f123 [2,3,9] (bIv) (YS a b 9) [([],
   [],
   .to (.exit 0) (YS a b 9))]
 :=dj.of C C C
theorem aoU:dw (U dY []) [] 0 Tryz.f123 [] (dX (dr 1 Uo)) (YS a b 9) [([],
   [],
   .ret (.bool true) (G []) 0)]
 :=dj.of C C C
noncomputable abbrev Uq:Code:=dI Tryz.f91
end
noncomputable abbrev bSv:Code:=dG (dG (dX (dF (dr 1 Uq))))
def YT(s:Sp)(i:Nat):St:=fq [(1,.ptr (some (0,0))),(6,.agg [fj s.c0,fj s.c1,fj s.c2]),(7,M i)] (G [(0,.cells (D.fQ s.ds))]) 1
section
variable(f:FL)(s:Sp)(p:P7)(b:Bool)(u:ag)
theorem aoV:dw (U dY []) [] 0 Tryz.f91 [1] (dM 1 Uq) (dy [s.v] .nil 0) [([],
   [],
   .to .normal (fq [(1,.ptr (some (0,0)))] (G [(0,.cells [.eB false (s.c0.length) (dO s.c0),.eB false (s.c1.length) (dO s.c1),.eB false (s.c2.length) (dO s.c2),.int .i64 (s.to.a),.int .i64 (s.to.b),.int .i64 (s.to.c),.int .i64 (s.to.d),.int .i64 (s.to.e),.int .i64 (s.to.f),.int .i64 (s.to.g),.int .i64 (s.to.h),.int .i64 (s.to.i),.int .i64 (s.N.a),.int .i64 (s.N.b),.int .i64 (s.N.c),.int .i64 (s.N.d),.int .i64 (s.N.e),.int .i64 (s.N.f),.int .i64 (s.N.g),.int .i64 (s.N.h),.int .i64 (s.N.i)])]) 1))]
 :=dj.of C C C
theorem aoW:dw (U dY []) [] 0 Tryz.f91 [1,6,7] (dF (dF (dr 1 Uq))) (fq [(1,.ptr (some (0,0)))] (G [(0,.cells (D.fQ s.ds))]) 1) [([],
   [],
   .to .normal (YT s 0))]
 :=dj.of C C C
theorem aoX:∀i,i<3->dw (U (fb 121 [fj (s.cv i)] (.bool b) dY) []) [(12,.split)] 0 Tryz.f91 [1,6,7] bSv (YT s i) [([(!b,true)],[fa [fj (s.cv i)]],.ret (.bool false) (G []) 0),([(!b,false)],[fa [fj (s.cv i)]],.to .normal (YT s (i+1)))]:=by
 intro i hi;obtain rfl|rfl|rfl:i=0\/i=1\/i=2:=by omega
 all_goals exact dj.of C C C
theorem aoY:dw (U dY []) [] 0 Tryz.f91 [1,6,7] (bSv) (YT s 3) [([],
   [],
   .to (.exit 0) (YT s 3))]
 :=dj.of C C C
def DE(l:List Int):Bool:=!(l.any YR)
def KN:List Eng.D->Option (ah×V)
 | [.agg R]=>some ([R=dO (ee R),(ee R).length=9],.bool (DE (ee R)))
 |_=>none
noncomputable abbrev Wwm:gF:=jZ 122 (Go.Eng.dW KN) dY
abbrev Gs:Prop:=(ee [D.int A s.to.a,D.int A s.to.b,D.int A s.to.c,D.int A s.to.d,D.int A s.to.e,D.int A s.to.f,D.int A s.to.g,D.int A s.to.h,D.int A s.to.i]).length=9
abbrev Rj:Prop:=(ee [D.int A s.N.a,D.int A s.N.b,D.int A s.N.c,D.int A s.N.d,D.int A s.N.e,D.int A s.N.f,D.int A s.N.g,D.int A s.N.h,D.int A s.N.i]).length=9
abbrev Rk:Prop:=V.lA ([]++[V.agg (List.take 9 (List.drop 12 (D.fQ s.ds))),V.agg (List.take 9 (List.drop 3 (D.fQ s.ds)))]++[])=[V.agg (D.fQ s.N.ds),V.agg (D.fQ s.to.ds)]
theorem aoZ(c:Bool):dw (U (fb 123 [.agg (D.fQ s.N.ds),.agg (D.fQ s.to.ds)] (.bool c) Wwm) []) [(17,.split),(22,.split)] 0 Tryz.f91 [] (dX (dr 1 Uq)) (YT s 3) [([((DE (ee [D.int A s.to.a,D.int A s.to.b,D.int A s.to.c,D.int A s.to.d,D.int A s.to.e,D.int A s.to.f,D.int A s.to.g,D.int A s.to.h,D.int A s.to.i])),true),((DE (ee [D.int A s.N.a,D.int A s.N.b,D.int A s.N.c,D.int A s.N.d,D.int A s.N.e,D.int A s.N.f,D.int A s.N.g,D.int A s.N.h,D.int A s.N.i])),true)],
   [([D.int A s.to.a,D.int A s.to.b,D.int A s.to.c,D.int A s.to.d,D.int A s.to.e,D.int A s.to.f,D.int A s.to.g,D.int A s.to.h,D.int A s.to.i]=dO (ee [D.int A s.to.a,D.int A s.to.b,D.int A s.to.c,D.int A s.to.d,D.int A s.to.e,D.int A s.to.f,D.int A s.to.g,D.int A s.to.h,D.int A s.to.i])),Gs s,([D.int A s.N.a,D.int A s.N.b,D.int A s.N.c,D.int A s.N.d,D.int A s.N.e,D.int A s.N.f,D.int A s.N.g,D.int A s.N.h,D.int A s.N.i]=dO (ee [D.int A s.N.a,D.int A s.N.b,D.int A s.N.c,D.int A s.N.d,D.int A s.N.e,D.int A s.N.f,D.int A s.N.g,D.int A s.N.h,D.int A s.N.i])),Rj s,Rk s],
   .ret (.bool c) (G []) 0),
  ([((DE (ee [D.int A s.to.a,D.int A s.to.b,D.int A s.to.c,D.int A s.to.d,D.int A s.to.e,D.int A s.to.f,D.int A s.to.g,D.int A s.to.h,D.int A s.to.i])),true),((DE (ee [D.int A s.N.a,D.int A s.N.b,D.int A s.N.c,D.int A s.N.d,D.int A s.N.e,D.int A s.N.f,D.int A s.N.g,D.int A s.N.h,D.int A s.N.i])),false)],
   [([D.int A s.to.a,D.int A s.to.b,D.int A s.to.c,D.int A s.to.d,D.int A s.to.e,D.int A s.to.f,D.int A s.to.g,D.int A s.to.h,D.int A s.to.i]=dO (ee [D.int A s.to.a,D.int A s.to.b,D.int A s.to.c,D.int A s.to.d,D.int A s.to.e,D.int A s.to.f,D.int A s.to.g,D.int A s.to.h,D.int A s.to.i])),Gs s,([D.int A s.N.a,D.int A s.N.b,D.int A s.N.c,D.int A s.N.d,D.int A s.N.e,D.int A s.N.f,D.int A s.N.g,D.int A s.N.h,D.int A s.N.i]=dO (ee [D.int A s.N.a,D.int A s.N.b,D.int A s.N.c,D.int A s.N.d,D.int A s.N.e,D.int A s.N.f,D.int A s.N.g,D.int A s.N.h,D.int A s.N.i])),Rj s],
   .ret (.bool false) (G []) 0),
  ([((DE (ee [D.int A s.to.a,D.int A s.to.b,D.int A s.to.c,D.int A s.to.d,D.int A s.to.e,D.int A s.to.f,D.int A s.to.g,D.int A s.to.h,D.int A s.to.i])),false),(false,true)],
   [([D.int A s.to.a,D.int A s.to.b,D.int A s.to.c,D.int A s.to.d,D.int A s.to.e,D.int A s.to.f,D.int A s.to.g,D.int A s.to.h,D.int A s.to.i]=dO (ee [D.int A s.to.a,D.int A s.to.b,D.int A s.to.c,D.int A s.to.d,D.int A s.to.e,D.int A s.to.f,D.int A s.to.g,D.int A s.to.h,D.int A s.to.i])),Gs s,Rk s],
   .ret (.bool c) (G []) 0),
  ([((DE (ee [D.int A s.to.a,D.int A s.to.b,D.int A s.to.c,D.int A s.to.d,D.int A s.to.e,D.int A s.to.f,D.int A s.to.g,D.int A s.to.h,D.int A s.to.i])),false),(false,false)],
   [([D.int A s.to.a,D.int A s.to.b,D.int A s.to.c,D.int A s.to.d,D.int A s.to.e,D.int A s.to.f,D.int A s.to.g,D.int A s.to.h,D.int A s.to.i]=dO (ee [D.int A s.to.a,D.int A s.to.b,D.int A s.to.c,D.int A s.to.d,D.int A s.to.e,D.int A s.to.f,D.int A s.to.g,D.int A s.to.h,D.int A s.to.i])),Gs s],
   .ret (.bool false) (G []) 0)]
 :=dj.of C C C
theorem ao0:dw (U (fb 91 [s.v] (.bool b) dY) []) [] 0 Tryz.f90 [] (dI Tryz.f90) (dy [s.v] .nil 0) [([],
   [(V.lA ([]++[V.agg (List.take 21 (List.drop 0 s.v.cells))]++[])=[s.v])],
   .ret (.bool (!b)) (G []) 0)]
 :=dj.of C C C
def KO:List Eng.D->Option (ah×V)
 | [.int .i64 k,.eB n R]=>some ([R=dO (ee R),n=(ee R).length,n<=1000000],.bool (EU k (ee R)))
 |_=>none
noncomputable abbrev Waw:gF:=jZ 158 (wo KO) dY
abbrev KP:Prop:=5=(ee [D.int A p.a,D.int A p.b,D.int A p.d,D.int A p.e,D.int A p.n]).length
theorem ao1:dw (U (fb 159 [p.v] (L (Nb p)) Waw) []) [(5,.split),(18,.split),(26,.split)] 0 Tryz.f127 [] (dI Tryz.f127) (dy [p.v] .nil 0) [([((decide (p.n>=(1:Int))),true),((EU (4096:Int) (ee [D.int A p.a,D.int A p.b,D.int A p.d,D.int A p.e,D.int A p.n])),true),((EU (268435456:Int) (ee [D.int A p.c,D.int A p.f])),true)],
   [([D.int A p.a,D.int A p.b,D.int A p.d,D.int A p.e,D.int A p.n].length=5),([D.int A p.a,D.int A p.b,D.int A p.d,D.int A p.e,D.int A p.n]=dO (ee [D.int A p.a,D.int A p.b,D.int A p.d,D.int A p.e,D.int A p.n])),KP p,(5<=1000000),([D.int A p.c,D.int A p.f].length=2),([D.int A p.c,D.int A p.f]=dO (ee [D.int A p.c,D.int A p.f])),(2=(ee [D.int A p.c,D.int A p.f]).length),(2<=1000000),(V.lA ([]++[V.agg (List.take 7 (List.drop 0 p.v.cells))]++[])=[p.v])],
   .ret (.bool (Nb p !=(0:Int))) (G []) 0),
  ([((decide (p.n>=(1:Int))),true),((EU (4096:Int) (ee [D.int A p.a,D.int A p.b,D.int A p.d,D.int A p.e,D.int A p.n])),true),((EU (268435456:Int) (ee [D.int A p.c,D.int A p.f])),false)],
   [([D.int A p.a,D.int A p.b,D.int A p.d,D.int A p.e,D.int A p.n].length=5),([D.int A p.a,D.int A p.b,D.int A p.d,D.int A p.e,D.int A p.n]=dO (ee [D.int A p.a,D.int A p.b,D.int A p.d,D.int A p.e,D.int A p.n])),KP p,(5<=1000000),([D.int A p.c,D.int A p.f].length=2),([D.int A p.c,D.int A p.f]=dO (ee [D.int A p.c,D.int A p.f])),(2=(ee [D.int A p.c,D.int A p.f]).length),(2<=1000000)],
   .ret (.bool false) (G []) 0),
  ([((decide (p.n>=(1:Int))),true),((EU (4096:Int) (ee [D.int A p.a,D.int A p.b,D.int A p.d,D.int A p.e,D.int A p.n])),false)],
   [([D.int A p.a,D.int A p.b,D.int A p.d,D.int A p.e,D.int A p.n].length=5),([D.int A p.a,D.int A p.b,D.int A p.d,D.int A p.e,D.int A p.n]=dO (ee [D.int A p.a,D.int A p.b,D.int A p.d,D.int A p.e,D.int A p.n])),KP p,(5<=1000000)],
   .ret (.bool false) (G []) 0),
  ([((decide (p.n>=(1:Int))),false)],
   [],
   .ret (.bool false) (G []) 0)]
 :=dj.of C C C
theorem aeb(l:List (Int×Int))(b:Bool):dw (U (fb 162 [w8 l,mK 163] (.bool b) dY) []) [(5,.split),(9,.split)] 0 Tryz.f129 [] (dI Tryz.f129) (dy [w8 l] .nil 0) [([((decide ((Int.ofNat l.length)>=(3:Int))),true),((decide ((Int.ofNat l.length)<=(64:Int))),true)],
   [(V.lA ([]++[w8 l,V.fn (Fn.func 163) [] []]++[])=[w8 l,mK 163])],
   .ret (.bool (!b)) (G []) 0),
  ([((decide ((Int.ofNat l.length)>=(3:Int))),true),((decide ((Int.ofNat l.length)<=(64:Int))),false)],
   [],
   .ret (.bool false) (G []) 0),
  ([((decide ((Int.ofNat l.length)>=(3:Int))),false)],
   [],
   .ret (.bool false) (G []) 0)]
 :=dj.of C C C
def xq(t:Bool):St:=fq [(1,.ptr (some (0,0))),(3,.bool t),(4,.ptr (some (1,0)))] (G [(0,.cells f.R),(1,.cells u)]) 2
def Ur:ag:=[L f.k,L f.r,fj f.eM,L f.dv,L 0,gG]
def uF2:ag:=[L f.k,L f.r,gG,L 0,L 0,gG]
def uF5:ag:=[L f.k,L 0,gG,L 0,L 0,fj f.cu]
def uF6:ag:=[L f.k,L 0,gG,L 0,L 0,gG]
def uF7:ag:=[L f.k,L 0,gG,L 0,L f.vl,gG]
def YU:ag:=[L f.k,L f.r,gG,L 0,L f.vl,gG]
theorem ao5:dw (U (fb 149 [fj f.eM,mK 160] (.bool b) dY) [(161,[(9,.split),(13,.split)])]) [(37,.split)] 0 Tryz.f128 [3,1,4] (dM 4 (dI Tryz.f128)) (dy [(kf f 1).v] .nil 0) [([((decide (f.r>=(0:Int))),true),((decide (f.r<=(3:Int))),true),(((Int.ofNat f.eM.length)==IntKind.i64.wrap (IntKind.i64.wrap (IntKind.i64.wrap ((2:Int)*f.r)+(1:Int))*IntKind.i64.wrap (IntKind.i64.wrap ((2:Int)*f.r)+(1:Int)))),true),((decide (f.dv>=(1:Int))),true),((decide (f.dv<=(1048576:Int))),true)],
   [(V.lA ([]++[fj f.eM,V.fn (Fn.func 160) [] []]++[])=[fj f.eM,mK 160])],
   .to .normal (xq (kf f 1) (Ur (kf f 1)) (!b))),
  ([((decide (f.r>=(0:Int))),true),((decide (f.r<=(3:Int))),true),(((Int.ofNat f.eM.length)==IntKind.i64.wrap (IntKind.i64.wrap (IntKind.i64.wrap ((2:Int)*f.r)+(1:Int))*IntKind.i64.wrap (IntKind.i64.wrap ((2:Int)*f.r)+(1:Int)))),true),((decide (f.dv>=(1:Int))),true),((decide (f.dv<=(1048576:Int))),false)],
   [],
   .to .normal (xq (kf f 1) (Ur (kf f 1)) false)),
  ([((decide (f.r>=(0:Int))),true),((decide (f.r<=(3:Int))),true),(((Int.ofNat f.eM.length)==IntKind.i64.wrap (IntKind.i64.wrap (IntKind.i64.wrap ((2:Int)*f.r)+(1:Int))*IntKind.i64.wrap (IntKind.i64.wrap ((2:Int)*f.r)+(1:Int)))),true),((decide (f.dv>=(1:Int))),false)],
   [],
   .to .normal (xq (kf f 1) (Ur (kf f 1)) false)),
  ([((decide (f.r>=(0:Int))),true),((decide (f.r<=(3:Int))),true),(((Int.ofNat f.eM.length)==IntKind.i64.wrap (IntKind.i64.wrap (IntKind.i64.wrap ((2:Int)*f.r)+(1:Int))*IntKind.i64.wrap (IntKind.i64.wrap ((2:Int)*f.r)+(1:Int)))),false)],
   [],
   .to .normal (xq (kf f 1) (Ur (kf f 1)) false)),
  ([((decide (f.r>=(0:Int))),true),((decide (f.r<=(3:Int))),false)],
   [],
   .to .normal (xq (kf f 1) (Ur (kf f 1)) false)),
  ([((decide (f.r>=(0:Int))),false)],
   [],
   .to .normal (xq (kf f 1) (Ur (kf f 1)) false))]
 :=dj.of C C C
theorem ao6:dw (U VT []) [] 0 Tryz.f128 [3,1,4] (dM 4 (dI Tryz.f128)) (dy [(kf f 2).v] .nil 0) [([],
   [],
   .to .normal (xq (kf f 2) (uF2 (kf f 2)) (rB f.r 0 3)))]
 :=dj.of C C C
theorem ao7:dw (U VT []) [] 0 Tryz.f128 [3,1,4] (dM 4 (dI Tryz.f128)) (dy [(kf f 3).v] .nil 0) [([],
   [],
   .to .normal (xq (kf f 3) (uF2 (kf f 3)) (rB f.r 0 3)))]
 :=dj.of C C C
theorem ao8:dw (U VT []) [] 0 Tryz.f128 [3,1,4] (dM 4 (dI Tryz.f128)) (dy [(kf f 4).v] .nil 0) [([],
   [],
   .to .normal (xq (kf f 4) (uF2 (kf f 4)) (rB f.r 0 3)))]
 :=dj.of C C C
theorem ao9:dw (U (fb 121 [fj f.cu] (.bool b) VT) []) [] 0 Tryz.f128 [3,1,4] (dM 4 (dI Tryz.f128)) (dy [(kf f 5).v] .nil 0) [([],
   [(V.lA ([]++[fj f.cu]++[])=[fj f.cu])],
   .to .normal (xq (kf f 5) (uF5 (kf f 5)) b))]
 :=dj.of C C C
theorem apa:dw (U VT []) [] 0 Tryz.f128 [3,1,4] (dM 4 (dI Tryz.f128)) (dy [(kf f 6).v] .nil 0) [([],
   [],
   .to .normal (xq (kf f 6) (uF6 (kf f 6)) true))]
 :=dj.of C C C
theorem apb:dw (U VT []) [] 0 Tryz.f128 [3,1,4] (dM 4 (dI Tryz.f128)) (dy [(kf f 7).v] .nil 0) [([],
   [],
   .to .normal (xq (kf f 7) (uF7 (kf f 7)) (rB f.vl 0 256)))]
 :=dj.of C C C
theorem apc:dw (U dY [(161,[(9,.split),(13,.split)])]) [] 0 Tryz.f128 [3,1,4] (dM 4 (dI Tryz.f128)) (dy [(kf f 8).v] .nil 0) [([((decide (f.r>=(-3:Int))),true),((decide (f.r<=(3:Int))),true),((decide (f.vl>=(-3:Int))),true),((decide (f.vl<=(3:Int))),true)],
   [],
   .to .normal (xq (kf f 8) (YU (kf f 8)) true)),
  ([((decide (f.r>=(-3:Int))),true),((decide (f.r<=(3:Int))),true),((decide (f.vl>=(-3:Int))),true),((decide (f.vl<=(3:Int))),false)],
   [],
   .to .normal (xq (kf f 8) (YU (kf f 8)) false)),
  ([((decide (f.r>=(-3:Int))),true),((decide (f.r<=(3:Int))),true),((decide (f.vl>=(-3:Int))),false)],
   [],
   .to .normal (xq (kf f 8) (YU (kf f 8)) false)),
  ([((decide (f.r>=(-3:Int))),true),((decide (f.r<=(3:Int))),false)],
   [],
   .to .normal (xq (kf f 8) (YU (kf f 8)) false)),
  ([((decide (f.r>=(-3:Int))),false)],
   [],
   .to .normal (xq (kf f 8) (YU (kf f 8)) false))]
 :=dj.of C C C
theorem Nw:dw (U dY []) [] 0 Tryz.f128 [] (dr 4 (dI Tryz.f128)) (xq f u false) [([],
   [],
   .ret (.bool false) (G []) 0)]
 :=dj.of C C C
theorem apd:dw (U dY []) [(101,.dz (.bool true)),(108,.dz (.bool true)),(115,.split),(124,.dz (.bool true))] 0 Tryz.f128 [] (dr 4 (dI Tryz.f128)) (xq f (Ur f) true) [([((f.vl==(0:Int)),true)],
   [(V.bool (f.r==f.r)=V.bool true),(V.bool (f.dv==f.dv)=V.bool true),(V.bool ((Int.ofNat f.eM.length)==(Int.ofNat f.eM.length))=V.bool true)],
   .ret (.bool ((Int.ofNat f.cu.length)==(0:Int))) (G []) 0),
  ([((f.vl==(0:Int)),false)],
   [(V.bool (f.r==f.r)=V.bool true),(V.bool (f.dv==f.dv)=V.bool true)],
   .ret (.bool false) (G []) 0)]
 :=dj.of C C C
theorem ape:dw (U dY []) [(101,.dz (.bool true)),(108,.split),(115,.split),(124,.split)] 0 Tryz.f128 [] (dr 4 (dI Tryz.f128)) (xq f (uF2 f) true) [([((f.dv==(0:Int)),true),((f.vl==(0:Int)),true),(((Int.ofNat f.eM.length)==(0:Int)),true)],
   [(V.bool (f.r==f.r)=V.bool true)],
   .ret (.bool ((Int.ofNat f.cu.length)==(0:Int))) (G []) 0),
  ([((f.dv==(0:Int)),true),((f.vl==(0:Int)),true),(((Int.ofNat f.eM.length)==(0:Int)),false)],
   [(V.bool (f.r==f.r)=V.bool true)],
   .ret (.bool false) (G []) 0),
  ([((f.dv==(0:Int)),true),((f.vl==(0:Int)),false)],
   [(V.bool (f.r==f.r)=V.bool true)],
   .ret (.bool false) (G []) 0),
  ([((f.dv==(0:Int)),false)],
   [(V.bool (f.r==f.r)=V.bool true)],
   .ret (.bool false) (G []) 0)]
 :=dj.of C C C
theorem apf:dw (U dY []) [(101,.split),(108,.split),(115,.split),(124,.split),(133,.dz (.bool true))] 0 Tryz.f128 [] (dr 4 (dI Tryz.f128)) (xq f (uF5 f) true) [([((f.r==(0:Int)),true),((f.dv==(0:Int)),true),((f.vl==(0:Int)),true),(((Int.ofNat f.eM.length)==(0:Int)),true)],
   [(V.bool ((Int.ofNat f.cu.length)==(Int.ofNat f.cu.length))=V.bool true)],
   .ret (.bool true) (G []) 0),
  ([((f.r==(0:Int)),true),((f.dv==(0:Int)),true),((f.vl==(0:Int)),true),(((Int.ofNat f.eM.length)==(0:Int)),false)],
   [],
   .ret (.bool false) (G []) 0),
  ([((f.r==(0:Int)),true),((f.dv==(0:Int)),true),((f.vl==(0:Int)),false)],
   [],
   .ret (.bool false) (G []) 0),
  ([((f.r==(0:Int)),true),((f.dv==(0:Int)),false)],
   [],
   .ret (.bool false) (G []) 0),
  ([((f.r==(0:Int)),false)],
   [],
   .ret (.bool false) (G []) 0)]
 :=dj.of C C C
theorem apg:dw (U dY []) [(101,.split),(108,.split),(115,.split),(124,.split)] 0 Tryz.f128 [] (dr 4 (dI Tryz.f128)) (xq f (uF6 f) true) [([((f.r==(0:Int)),true),((f.dv==(0:Int)),true),((f.vl==(0:Int)),true),(((Int.ofNat f.eM.length)==(0:Int)),true)],
   [],
   .ret (.bool ((Int.ofNat f.cu.length)==(0:Int))) (G []) 0),
  ([((f.r==(0:Int)),true),((f.dv==(0:Int)),true),((f.vl==(0:Int)),true),(((Int.ofNat f.eM.length)==(0:Int)),false)],
   [],
   .ret (.bool false) (G []) 0),
  ([((f.r==(0:Int)),true),((f.dv==(0:Int)),true),((f.vl==(0:Int)),false)],
   [],
   .ret (.bool false) (G []) 0),
  ([((f.r==(0:Int)),true),((f.dv==(0:Int)),false)],
   [],
   .ret (.bool false) (G []) 0),
  ([((f.r==(0:Int)),false)],
   [],
   .ret (.bool false) (G []) 0)]
 :=dj.of C C C
theorem aph:dw (U dY []) [(101,.split),(108,.split),(115,.dz (.bool true)),(124,.split)] 0 Tryz.f128 [] (dr 4 (dI Tryz.f128)) (xq f (uF7 f) true) [([((f.r==(0:Int)),true),((f.dv==(0:Int)),true),(((Int.ofNat f.eM.length)==(0:Int)),true)],
   [(V.bool (f.vl==f.vl)=V.bool true)],
   .ret (.bool ((Int.ofNat f.cu.length)==(0:Int))) (G []) 0),
  ([((f.r==(0:Int)),true),((f.dv==(0:Int)),true),(((Int.ofNat f.eM.length)==(0:Int)),false)],
   [(V.bool (f.vl==f.vl)=V.bool true)],
   .ret (.bool false) (G []) 0),
  ([((f.r==(0:Int)),true),((f.dv==(0:Int)),false)],
   [],
   .ret (.bool false) (G []) 0),
  ([((f.r==(0:Int)),false)],
   [],
   .ret (.bool false) (G []) 0)]
 :=dj.of C C C
theorem api:dw (U dY []) [(101,.dz (.bool true)),(108,.split),(115,.dz (.bool true)),(124,.split)] 0 Tryz.f128 [] (dr 4 (dI Tryz.f128)) (xq f (YU f) true) [([((f.dv==(0:Int)),true),(((Int.ofNat f.eM.length)==(0:Int)),true)],
   [(V.bool (f.r==f.r)=V.bool true),(V.bool (f.vl==f.vl)=V.bool true)],
   .ret (.bool ((Int.ofNat f.cu.length)==(0:Int))) (G []) 0),
  ([((f.dv==(0:Int)),true),(((Int.ofNat f.eM.length)==(0:Int)),false)],
   [(V.bool (f.r==f.r)=V.bool true),(V.bool (f.vl==f.vl)=V.bool true)],
   .ret (.bool false) (G []) 0),
  ([((f.dv==(0:Int)),false)],
   [(V.bool (f.r==f.r)=V.bool true)],
   .ret (.bool false) (G []) 0)]
 :=dj.of C C C
theorem apj:dw (U dY []) [(13,.dz (.bool false)),(52,.dz (.bool false)),(53,.dz (.bool false)),(54,.dz (.bool false)),(62,.dz (.bool false)),(70,.dz (.bool false)),(72,.dz (.bool false)),(80,.dz (.bool false))] 0 Tryz.f128 [] (dM 4 (dI Tryz.f128)) (dy [f.v] .nil 0) [([],
   [(V.bool (f.k==(1:Int))=V.bool false),(V.bool (f.k==(2:Int))=V.bool false),(V.bool (f.k==(3:Int))=V.bool false),(V.bool (f.k==(4:Int))=V.bool false),(V.bool (f.k==(5:Int))=V.bool false),(V.bool (f.k==(6:Int))=V.bool false),(V.bool (f.k==(7:Int))=V.bool false),(V.bool (f.k==(8:Int))=V.bool false)],
   .ret (.bool false) (G []) 0)]
 :=dj.of C C C
end
set_option maxRecDepth 10000
theorem wmD(m:M9):dU ak 122 [.agg (D.fQ m.ds)] (.bool (DE m.l)):=by
 refine eX Tryz.func122 (fF 1 (di _) (aoM m) all_nil ?_);refine dK C ?_;refine ad9 (fn:=Tryz.f122) 1 [0] [3] (di _) (aoN m) all_nil (s2:=fq [(3,fj m.l)] (G []) 0) (hc:=[m.ds.length=9*1]) C (eG rfl) (fu (caD m.l YR (fun x _=>cwD x) (show(9:Nat)<=1000000 by decide)) (di _)) (aoO m (m.l.any YR)) ?_;refine dB (g0 ⟨eG rfl,_,rfl,fun X dQ=>?_⟩);simp only[andThen];exact dQ _ _ (eK (di _) (aoP _) (dB (g0 ⟨all_nil,_,_,_,rfl,rfl⟩)))
theorem KQ{i:Nat}(h:i<9):∀a∈ivA i,a:=S eY (S (yz H) (S (yz H) (S (yz H) (S (yz H) (S (yz H) (eG (yz H)))))))
def KR(a b:M9)(i:Nat):Bool:=decide (Up a b i< -32768)||decide (Up a b i>32768)
theorem ivD(a b:M9):dU ak 123 [.agg (D.fQ a.ds),.agg (D.fQ b.ds)] (.bool (!((List.range 9).any (KR a b)))):=by
 refine eX Tryz.func123 (fF 1 (di _) (aoQ a b) all_nil ?_);refine dK C (dK C (gv (di _) eE (aoR a b) (dB (g0 ⟨all_nil,fun X dQ=>?_⟩))));simp only[andThen];refine jf 0 9 (fun i=>YS a b i) (KR a b) (ek.norm dQ) (fun i hi hj Q' k1 k2 k3=>?_) (fun Q X dQ=>?_)
 . rcases bt i 9 with q|q
   . have hF:KR a b i=true->V.bool false=V.bool (!((List.range 9).any (KR a b))):=fun h=>by rw[qO (f:=KR a b) q h];rfl
     exact gv (di _) (fun u _ _=>u= .bool (!((List.range 9).any (KR a b)))) (aoS a b i q) (dD (g1 fun h=>⟨KQ q,hF (by unfold KR;rw[h];rfl),k3⟩) (dD (g2 fun h O=>⟨KQ q,hF (by unfold KR;rw[h,O];rfl),k3⟩) (dB (g2 fun h O=>⟨KQ q,fun X dQ=>k1 q (by unfold KR;rw[h,O];rfl) X (ek.norm dQ)⟩))))
   . obtain rfl:i=9:=by omega
     exact gv (di _) eE (aoT a b) (dB (g0 ⟨all_nil,fun X dQ=>k2 rfl X (ek.norm dQ)⟩))
 simp only[andThen];exact dQ _ _ (eK (di _) (aoU a b) (dB (g0 ⟨all_nil,_,_,_,rfl,by rw[qP (f:=KR a b) Q];rfl⟩)))
section
variable(f:FL)(p:P7)(s:Sp)(t:Bool)
theorem YV:jK ak 122 (Go.Eng.dW KN):=by
 refine Ph (az C) fun ds aj v e hA=>?_;unfold KN at e;split at e
 case h_2=>cases e
 rename_i R;obtain⟨rfl,rfl⟩:=sm e;have e1:R=dO (ee R):=hA _ (by simp);have e2:(ee R).length=9:=hA ((ee R).length=9) (by simp);generalize ee R=l at *;subst e1
 match l,e2 with
 | [a,b,c,d,e,f,g,h,i],_=>exact wmD ⟨a,b,c,d,e,f,g,h,i⟩
theorem YW:eU ak Wwm:=fC YV (di _)
def Us:Bool:=!((List.range 3).any fun i=>!LX (s.cv i))&&(DE s.to.l&&(DE s.N.l&& !((List.range 9).any (KR s.N s.to))))
theorem svD(h0:∀i,i<3->(s.cv i).length<=1000000000):dU ak 91 [s.v] (.bool (Us s)):=by
 refine eX Tryz.func91 (fF 1 (di _) (aoV s) all_nil ?_);refine dK C (dK C (gv (di _) eE (aoW s) (dB (g0 ⟨all_nil,fun X dQ=>?_⟩))));simp only[andThen];refine jf 0 3 (fun i=>YT s i) (fun i=>!LX (s.cv i)) (ek.norm dQ) (fun i hi hj Q' k1 k2 k3=>?_) (fun Q X dQ=>?_)
 . rcases bt i 3 with q|q
   . have hF:(!LX (s.cv i))=true->V.bool false=V.bool (Us s):=fun h=>by unfold Us;rw[qO (f:=fun i=>!LX (s.cv i)) q h];rfl
     exact gv (fu (cvD (s.cv i) (h0 i q)) (di _)) (fun u _ _=>u= .bool (Us s)) (aoX s (LX (s.cv i)) i q) (dD (g1 fun h=>⟨eG rfl,hF h,k3⟩) (dB (g1 fun h=>⟨eG rfl,fun X dQ=>k1 q h X (ek.norm dQ)⟩)))
   . obtain rfl:i=3:=by omega
     exact gv (di _) eE (aoY s) (dB (g0 ⟨all_nil,fun X dQ=>k2 rfl X (ek.norm dQ)⟩))
 simp only[andThen];have e:Us s=(DE s.to.l&&(DE s.N.l&& !((List.range 9).any (KR s.N s.to)))):=by unfold Us;rw[qP (f:=fun i=>!LX (s.cv i)) Q];rfl
 rw[e];refine dQ _ _ (eK (fu (ivD s.N s.to) YW) (aoZ s _) ?_)
 repeat' (first|exact gH|refine dD ?_ ?_)
 all_goals
  intro B;simp only[aD,aJ,bn,aL,bh]at B;refine⟨?_,_,_,_,rfl,aI V.bool ?_⟩
  . repeat' (first|exact all_nil|refine S ?_ ?_)
    all_goals rfl
  . first
    |(have a1:DE s.to.l=true:=B.1
      have a2:DE s.N.l=true:=B.2;rw[a1,a2];rfl)
    |(have a1:DE s.to.l=true:=B.1
      have a2:DE s.N.l=false:=B.2;rw[a1,a2];rfl)
    |exact absurd B.2 Bool.false_ne_true
    |(have a1:DE s.to.l=false:=B.1
      rw[a1];rfl)
theorem czD(h0:∀i,i<3->(s.cv i).length<=1000000000):dU ak 90 [s.v] (.bool (!Us s)):=
 eX Tryz.func90 (eK (fu (svD s h0) (di _)) (ao0 s _) (dB (g0 ⟨eG rfl,_,_,_,rfl,rfl⟩)))
theorem awT:∀ds aj v,KO ds=some (aj,v)->(∀a∈aj,a)->dU ak 158 (ds.map D.jQ) v:=fun ds aj v e hA=>by
 unfold KO at e;split at e
 case h_2=>cases e
 rename_i k n R;obtain⟨rfl,rfl⟩:=sm e;have e1:R=dO (ee R):=hA _ (by simp);have e2:n=(ee R).length:=hA (n=(ee R).length) (by simp);have e3:n<=1000000:=hA (n<=1000000) (by simp);generalize ee R=l at *;subst e1 e2;exact awD k l e3
theorem YX:eU ak Waw:=fC (yq C awT) (di _)
def avP:Bool:=decide (p.n>=1)&&(EU 4096 [p.a,p.b,p.d,p.e,p.n]&&(EU 268435456 [p.c,p.f]&&(Nb p !=0)))
theorem avD:dU ak 127 [p.v] (.bool (avP p)):=by
 refine eX Tryz.func127 (eK (fu (adD p) YX) (ao1 p) ?_)
 repeat' (first|exact gH|refine dD ?_ ?_)
 all_goals
  intro B;simp only[aD,aJ,bn,aL,bh]at B;refine⟨?_,_,_,_,rfl,aI V.bool ?_⟩
  . repeat' (first|exact all_nil|refine S ?_ ?_)
    all_goals first|rfl|exact aX rfl
  . unfold avP
    first
    |(have a1:EU 4096 [p.a,p.b,p.d,p.e,p.n]=true:=B.2.1
      have a2:EU 268435456 [p.c,p.f]=true:=B.2.2;rw[B.1,a1,a2];rfl)
    |(have a1:EU 4096 [p.a,p.b,p.d,p.e,p.n]=true:=B.2.1
      have a2:EU 268435456 [p.c,p.f]=false:=B.2.2;rw[B.1,a1,a2];rfl)
    |(have a1:EU 4096 [p.a,p.b,p.d,p.e,p.n]=false:=B.2
      rw[B.1,a1];rfl)
    |(rw[B];rfl)
theorem Rl(k:Int)(h0:0<=k)(Q:k<=1000000000)(l:List Int):EU k l=l.all fun x=>w9 x k:=by
 unfold EU;rw[List.not_any_eq_all_not];congr 1;funext x;rw[gZ H H];unfold w9;rw[Bool.not_or,<- decide_not,<- decide_not];congr 1<;>exact decide_eq_decide.2 H
theorem YY:avP p=AI p:=by
 unfold avP AI Sf VJ;rw[Rl _ eY eY,Rl _ eY eY];simp only[List.all_cons,List.all_nil,ct];by_cases h:p.n>=1
 . have e:w9 p.n 4096=decide (p.n<=4096):=by
    unfold w9;rw[show decide (-4096<=p.n)=true from aZ H,aN]
   rw[e];generalize decide (p.n<=4096)=x;generalize w9 p.a 4096=a;generalize w9 p.b 4096=b;generalize w9 p.d 4096=c;generalize w9 p.e 4096=d;cases x<;>cases a<;>cases b<;>cases c<;>cases d<;>simp
 . rw[aT h];rfl
theorem afD:dU ak 127 [p.v] (.bool (AI p)):=YY p▸avD p
theorem Rm(x:Int×Int):IT x=Km x:=by
 have e1:decide ((if x.2<x.1 then x.2 else x.1)< -65536)=(decide (x.1< -65536)||decide (x.2< -65536)):=by
  rw[<- Bool.decide_or];refine decide_eq_decide.2 ?_;split<;>omega
 have e2:decide ((if x.2>x.1 then x.2 else x.1)>65536)=(decide (x.1>65536)||decide (x.2>65536)):=by
  rw[<- Bool.decide_or];refine decide_eq_decide.2 ?_;split<;>omega
 unfold IT Km;rw[e1,e2];generalize decide (x.1< -65536)=a;generalize decide (x.2< -65536)=b;generalize decide (x.1>65536)=c;generalize decide (x.2>65536)=d;cases a<;>cases b<;>cases c<;>cases d<;>rfl
theorem apk(l:List (Int×Int))(hl:l.length<=1000000):dU ak 129 [w8 l] (.bool (jF l)):=by
 have e:jF l=(decide (Int.ofNat l.length>=3)&&(decide (Int.ofNat l.length<=64)&& !(l.any IT))):=by
  unfold jF;rw[show IT=Km from funext Rm];generalize l.any Km=a;cases a<;>simp
 rw[e];refine eX Tryz.func129 (eK (fu (ccD l IT (fun x _=>aoL x) hl) (di _)) (aeb l _) ?_)
 repeat' (first|exact gH|refine dD ?_ ?_)
 all_goals
  intro B;simp only[aD,aJ,bn,aL,bh]at B;exact⟨by first|exact all_nil|exact eG rfl,_,_,_,rfl,aI V.bool (by simp only[B,aN,aS])⟩
theorem ty1:TG ak 0 Tryz.f128.ntmps (dr 4 (dI Tryz.f128)) (xq f (Ur f) t) (fH ak 0 Tryz.f128 fun u _ _=>u= .bool (t&&((f.vl==(0:Int))&&nN f.cu.length))):=by
 cases t with
 |false=>exact eK (di _) (Nw f _) (dB (g0 ⟨all_nil,_,_,_,rfl,rfl⟩))
 |true=>
  refine eK (di _) (apd f) ?_
  repeat' (first|exact gH|refine dD ?_ ?_)
  all_goals
   intro B;simp only[aD,aJ,bn,aL,bh]at B;refine⟨?_,_,_,_,rfl,aI V.bool (by simp only[B,aN,aS])⟩
   repeat' (first|exact all_nil|refine S ?_ ?_)
   all_goals exact aI V.bool (beq_self_eq_true _)
theorem ty2:TG ak 0 Tryz.f128.ntmps (dr 4 (dI Tryz.f128)) (xq f (uF2 f) t) (fH ak 0 Tryz.f128 fun u _ _=>u= .bool (t&&((f.dv==(0:Int))&&((f.vl==(0:Int))&&(nN f.eM.length&&nN f.cu.length))))):=by
 cases t with
 |false=>exact eK (di _) (Nw f _) (dB (g0 ⟨all_nil,_,_,_,rfl,rfl⟩))
 |true=>
  refine eK (di _) (ape f) ?_
  repeat' (first|exact gH|refine dD ?_ ?_)
  all_goals
   intro B;simp only[aD,aJ,bn,aL,bh]at B;refine⟨?_,_,_,_,rfl,aI V.bool (by simp only[B,aN,aS])⟩
   repeat' (first|exact all_nil|refine S ?_ ?_)
   all_goals exact aI V.bool (beq_self_eq_true _)
theorem ty5:TG ak 0 Tryz.f128.ntmps (dr 4 (dI Tryz.f128)) (xq f (uF5 f) t) (fH ak 0 Tryz.f128 fun u _ _=>u= .bool (t&&((f.r==(0:Int))&&((f.dv==(0:Int))&&((f.vl==(0:Int))&&nN f.eM.length))))):=by
 cases t with
 |false=>exact eK (di _) (Nw f _) (dB (g0 ⟨all_nil,_,_,_,rfl,rfl⟩))
 |true=>
  refine eK (di _) (apf f) ?_
  repeat' (first|exact gH|refine dD ?_ ?_)
  all_goals
   intro B;simp only[aD,aJ,bn,aL,bh]at B;refine⟨?_,_,_,_,rfl,aI V.bool (by simp only[B,aN,aS])⟩
   repeat' (first|exact all_nil|refine S ?_ ?_)
   all_goals exact aI V.bool (beq_self_eq_true _)
theorem ty6:TG ak 0 Tryz.f128.ntmps (dr 4 (dI Tryz.f128)) (xq f (uF6 f) t) (fH ak 0 Tryz.f128 fun u _ _=>u= .bool (t&&((f.r==(0:Int))&&((f.dv==(0:Int))&&((f.vl==(0:Int))&&(nN f.eM.length&&nN f.cu.length)))))):=by
 cases t with
 |false=>exact eK (di _) (Nw f _) (dB (g0 ⟨all_nil,_,_,_,rfl,rfl⟩))
 |true=>
  refine eK (di _) (apg f) ?_
  repeat' (first|exact gH|refine dD ?_ ?_)
  all_goals
   intro B;simp only[aD,aJ,bn,aL,bh]at B;refine⟨?_,_,_,_,rfl,aI V.bool (by simp only[B,aN,aS])⟩
   repeat' (first|exact all_nil|refine S ?_ ?_)
   all_goals exact aI V.bool (beq_self_eq_true _)
theorem ty7:TG ak 0 Tryz.f128.ntmps (dr 4 (dI Tryz.f128)) (xq f (uF7 f) t) (fH ak 0 Tryz.f128 fun u _ _=>u= .bool (t&&((f.r==(0:Int))&&((f.dv==(0:Int))&&(nN f.eM.length&&nN f.cu.length))))):=by
 cases t with
 |false=>exact eK (di _) (Nw f _) (dB (g0 ⟨all_nil,_,_,_,rfl,rfl⟩))
 |true=>
  refine eK (di _) (aph f) ?_
  repeat' (first|exact gH|refine dD ?_ ?_)
  all_goals
   intro B;simp only[aD,aJ,bn,aL,bh]at B;refine⟨?_,_,_,_,rfl,aI V.bool (by simp only[B,aN,aS])⟩
   repeat' (first|exact all_nil|refine S ?_ ?_)
   all_goals exact aI V.bool (beq_self_eq_true _)
theorem ty8:TG ak 0 Tryz.f128.ntmps (dr 4 (dI Tryz.f128)) (xq f (YU f) t) (fH ak 0 Tryz.f128 fun u _ _=>u= .bool (t&&((f.dv==(0:Int))&&(nN f.eM.length&&nN f.cu.length)))):=by
 cases t with
 |false=>exact eK (di _) (Nw f _) (dB (g0 ⟨all_nil,_,_,_,rfl,rfl⟩))
 |true=>
  refine eK (di _) (api f) ?_
  repeat' (first|exact gH|refine dD ?_ ?_)
  all_goals
   intro B;simp only[aD,aJ,bn,aL,bh]at B;refine⟨?_,_,_,_,rfl,aI V.bool (by simp only[B,aN,aS])⟩
   repeat' (first|exact all_nil|refine S ?_ ?_)
   all_goals exact aI V.bool (beq_self_eq_true _)
theorem Ut(x:Int):VU x=C5 x:=by
 unfold VU rB C5;rw[Bool.not_and];congr 1<;>rw[<- decide_not]<;>exact decide_eq_decide.2 H
theorem apm(W:f.eM.length<=1000000)(JH:f.cu.length<=1000000000)(On:LX f.cu=jN f.cu):dU ak 128 [f.v] (.bool (iM f)):=by
 have C6:∀k,f.k=k->f=kf f k:=fun k h=>by obtain⟨a,_,_,_,_,_⟩:=f;simp only at h;subst h;rfl
 refine eX Tryz.func128 ?_;by_cases Q:f.k=1
 . have e:iM f=Kn f:=by unfold iM;rw[aG Q]
   have ef:=C6 1 Q;have hr:=ao5 f (f.eM.any VU);rw[<- ef]at hr;have hT:=ty1 f;rw[e];have cv:∀t,t=(zP f&&(!((Int.ofNat f.eM.length) !=(2*f.r+1)*(2*f.r+1))&&(rB f.dv 1 1048576&& !f.eM.any VU)))->Kn f=(t&&((f.vl==(0:Int))&&nN f.cu.length)):=fun t ht=>by
    rw[ht,show VU=C5 from funext Ut];unfold Kn rA rB;rw[show decide (f.dv>=1)=!decide (f.dv<1)by rw[<- decide_not];exact decide_eq_decide.2 H,show decide (f.dv<=1048576)=!decide (f.dv>1048576)by rw[<- decide_not];exact decide_eq_decide.2 H];simp only[cq,aN,cr,ct,Bool.and_assoc]
   have hw:zP f=true->IntKind.i64.wrap (IntKind.i64.wrap (IntKind.i64.wrap ((2:Int)*f.r)+(1:Int))*IntKind.i64.wrap (IntKind.i64.wrap ((2:Int)*f.r)+(1:Int)))=((2:Int)*f.r+(1:Int))*((2:Int)*f.r+(1:Int)):=fun Js=>by
    unfold zP at Js;rw[ay,aY,aY]at Js;obtain⟨k1,k2⟩:=Js;rcases(by omega:f.r=0\/f.r=1\/f.r=2\/f.r=3)with h|h|h|h<;>rw[h]<;>rfl
   have go:∀t,t=(zP f&&(!((Int.ofNat f.eM.length) !=(2*f.r+1)*(2*f.r+1))&&(rB f.dv 1 1048576&& !f.eM.any VU)))->TG ak 0 Tryz.f128.ntmps (dr 4 (dI Tryz.f128)) (xq f (Ur f) t) (fH ak 0 Tryz.f128 fun u _ _=>u= .bool (Kn f)):=fun t ht=>by
    rw[cv t ht];exact hT t
   refine ud 4 (fu (cbD f.eM VU (fun x _=>fcD x) W) (di _)) hr ?_
   repeat' (first|exact gH|refine dD ?_ ?_)
   all_goals
    intro B;simp only[aD,aJ,bn,aL,bh]at B;refine⟨by first|exact all_nil|exact eG rfl,_,rfl,go _ ?_⟩
   . have q1:zP f=true:=by unfold zP;rw[B.1,B.2.1];rfl
     rw[hw q1]at B;rw[q1,show rB f.dv 1 1048576=true by unfold rB;rw[B.2.2.2.1,B.2.2.2.2];rfl];rw[show((Int.ofNat f.eM.length) !=(2*f.r+1)*(2*f.r+1))=false by unfold bne;rw[B.2.2.1];rfl];rfl
   . have q1:zP f=true:=by unfold zP;rw[B.1,B.2.1];rfl
     rw[q1,show rB f.dv 1 1048576=false by unfold rB;rw[B.2.2.2.1,B.2.2.2.2];rfl];simp
   . have q1:zP f=true:=by unfold zP;rw[B.1,B.2.1];rfl
     rw[q1,show rB f.dv 1 1048576=false by unfold rB;rw[B.2.2.2];rfl];simp
   . have q1:zP f=true:=by unfold zP;rw[B.1,B.2.1];rfl
     rw[hw q1]at B;rw[q1,show((Int.ofNat f.eM.length) !=(2*f.r+1)*(2*f.r+1))=true by unfold bne;rw[B.2.2];rfl];rfl
   . have q1:zP f=false:=by unfold zP;rw[B.1,B.2];rfl
     rw[q1];rfl
   . have q1:zP f=false:=by unfold zP;rw[B];rfl
     rw[q1];rfl
 by_cases O:f.k=2\/f.k=3\/f.k=4
 . have e:iM f=(zP f&&((f.dv==(0:Int))&&((f.vl==(0:Int))&&(nN f.eM.length&&nN f.cu.length)))):=by
    unfold iM rA;rw[aB Q,aG O];generalize zP f=a;generalize nN f.eM.length=b;generalize (f.dv==(0:Int))=c;generalize (f.vl==(0:Int))=d;generalize nN f.cu.length=x;cases a<;>cases b<;>cases c<;>cases d<;>cases x<;>rfl
   rw[e];rcases O with h|h|h
   . have hr:=ao6 f;rw[<- C6 _ h]at hr;exact ud 4 xp hr (dB (g0 ⟨all_nil,_,rfl,ty2 f (rB f.r 0 3)⟩))
   . have hr:=ao7 f;rw[<- C6 _ h]at hr;exact ud 4 xp hr (dB (g0 ⟨all_nil,_,rfl,ty2 f (rB f.r 0 3)⟩))
   . have hr:=ao8 f;rw[<- C6 _ h]at hr;exact ud 4 xp hr (dB (g0 ⟨all_nil,_,rfl,ty2 f (rB f.r 0 3)⟩))
 by_cases h5:f.k=5
 . have e:iM f=(LX f.cu&&((f.r==(0:Int))&&((f.dv==(0:Int))&&((f.vl==(0:Int))&&nN f.eM.length)))):=by
    unfold iM rA;rw[aB Q,aB O,aG h5,On];generalize jN f.cu=a;generalize nN f.eM.length=b;generalize (f.dv==(0:Int))=c;generalize (f.vl==(0:Int))=d;generalize (f.r==(0:Int))=x;cases a<;>cases b<;>cases c<;>cases d<;>cases x<;>rfl
   rw[e];have hr:=ao9 f (LX f.cu);rw[<- C6 _ h5]at hr;exact ud 4 (fu (cvD f.cu JH) xp) hr (dB (g0 ⟨eG rfl,_,rfl,ty5 f _⟩))
 by_cases h6:f.k=6
 . have e:iM f=(true&&((f.r==(0:Int))&&((f.dv==(0:Int))&&((f.vl==(0:Int))&&(nN f.eM.length&&nN f.cu.length))))):=by
    unfold iM rA;rw[aB Q,aB O,aB h5,aG h6];generalize nN f.cu.length=a;generalize nN f.eM.length=b;generalize (f.dv==(0:Int))=c;generalize (f.vl==(0:Int))=d;generalize (f.r==(0:Int))=x;cases a<;>cases b<;>cases c<;>cases d<;>cases x<;>rfl
   rw[e];have hr:=apa f;rw[<- C6 _ h6]at hr;exact ud 4 xp hr (dB (g0 ⟨all_nil,_,rfl,ty6 f _⟩))
 by_cases h7:f.k=7
 . have e:iM f=(rB f.vl 0 256&&((f.r==(0:Int))&&((f.dv==(0:Int))&&(nN f.eM.length&&nN f.cu.length)))):=by
    unfold iM rA rB;rw[aB Q,aB O,aB h5,aB h6,aG h7];generalize (decide (f.vl>=0)&&decide (f.vl<=256))=d;generalize nN f.cu.length=a;generalize nN f.eM.length=b;generalize (f.dv==(0:Int))=c;generalize (f.r==(0:Int))=x;cases a<;>cases b<;>cases c<;>cases d<;>cases x<;>rfl
   rw[e];have hr:=apb f;rw[<- C6 _ h7]at hr;exact ud 4 xp hr (dB (g0 ⟨all_nil,_,rfl,ty7 f _⟩))
 by_cases h8:f.k=8
 . have e:iM f=((rB f.r (-3) 3&&rB f.vl (-3) 3)&&((f.dv==(0:Int))&&(nN f.eM.length&&nN f.cu.length))):=by
    unfold iM rA rB;rw[aB Q,aB O,aB h5,aB h6,aB h7,aG h8];generalize decide (f.r>= -3)=d;generalize decide (f.r<=3)=d1;generalize decide (f.vl>= -3)=d2;generalize decide (f.vl<=3)=d3;generalize nN f.cu.length=a;generalize nN f.eM.length=b;generalize (f.dv==(0:Int))=c;cases a<;>cases b<;>cases c<;>cases d<;>cases d1<;>cases d2<;>cases d3<;>rfl
   rw[e];have hr:=apc f;rw[<- C6 _ h8]at hr;refine ud 4 (di _) hr ?_
   repeat' (first|exact gH|refine dD ?_ ?_)
   all_goals
    intro B;simp only[aD,aJ,bn,aL,bh]at B;refine⟨all_nil,_,rfl,?_⟩
   . rw[show(rB f.r (-3) 3&&rB f.vl (-3) 3)=true by unfold rB;rw[B.1,B.2.1,B.2.2.1,B.2.2.2];rfl];exact ty8 f true
   . rw[show(rB f.r (-3) 3&&rB f.vl (-3) 3)=false by unfold rB;rw[B.1,B.2.1,B.2.2.1,B.2.2.2];rfl];exact ty8 f false
   . rw[show(rB f.r (-3) 3&&rB f.vl (-3) 3)=false by unfold rB;rw[B.1,B.2.1,B.2.2];rfl];exact ty8 f false
   . rw[show(rB f.r (-3) 3&&rB f.vl (-3) 3)=false by unfold rB;rw[B.1,B.2];rfl];exact ty8 f false
   . rw[show(rB f.r (-3) 3&&rB f.vl (-3) 3)=false by unfold rB;rw[B];rfl];exact ty8 f false
 . have e:iM f=false:=by unfold iM;rw[aB Q,aB O,aB h5,aB h6,aB h7,aB h8]
   rw[e];have nb:∀k:Int,f.k≠k->V.bool (f.k==k)=V.bool false:=fun k h=>aI V.bool (b5.2 h);exact isH 4 (di _) (apj f) (dB (g0 ⟨S (nb 1 Q) (S (nb 2 fun q=>O (.inl q)) (S (nb 3 fun q=>O (.inr (.inl q))) (S (nb 4 fun q=>O (.inr (.inr q))) (S (nb 5 h5) (S (nb 6 h6) (S (nb 7 h7) (eG (nb 8 h8)))))))),rfl⟩))
end
noncomputable abbrev aee:Code:=dI Tryz.f174
noncomputable abbrev aef:Code:=dI Tryz.f156
noncomputable abbrev YZ:Code:=dr 1 aef
noncomputable abbrev apn:Code:=dI Tryz.f155
abbrev pq4(r g b a:Int):V:=.agg [.int .u8 r,.int .u8 g,.int .u8 b,.int .u8 a]
theorem aeg(r g b a:Int):dw (U dY []) [(5,.split)] 0 Tryz.f174 [] (aee) (dy [pq4 r g b a] .nil 0) [([((a==(0:Int)),true)],
   [],
   .ret (.agg [.int .u8 0,.int .u8 0,.int .u8 0,.int .u8 0]) (G []) 0),
  ([((a==(0:Int)),false)],
   [],
   .ret (.agg [.int .u8 r,.int .u8 g,.int .u8 b,.int .u8 a]) (G []) 0)]
 :=dj.of C C C
def KS:ag->Option (ah×V)
 | [.agg [.int .u8 r,.int .u8 g,.int .u8 b,.int .u8 a]]=>some ([],pq4 (cl a r) (cl a g) (cl a b) (cl a a))
 |_=>none
noncomputable abbrev Wpc:gF:=jZ 174 (gV KS) dY
theorem Y0:jK ak 174 (gV KS):=by
 refine ow Tryz.func174 fun args aj v e=>?_;unfold KS at e;split at e
 case h_2=>cases e
 rename_i r g b a;obtain⟨rfl,rfl⟩:=sm e;refine⟨rfl,rfl,rfl,fun _=>eK (di _) (aeg r g b a) (dD (g1 fun h=>⟨all_nil,_,_,_,rfl,?_⟩) (dB (g1 fun h=>⟨all_nil,_,_,_,rfl,?_⟩)))⟩
 . have h:a=0:=by simpa using h
   simp only[pq4,cl,aG h]
 . have h:¬a=0:=by simpa using h
   simp only[pq4,cl,aB h]
theorem Gt:eU ak Wpc:=fC Y0 (di _)
section
variable(p:Nat->Int)(Y:List Int)(q:Nat->Int)
def sTc(i:Nat):St:=fq [(1,.ptr (some (0,0))),(2,.ptr (some (1,0))),(5,ja p),(6,M i)] (G [(0,.own .u8 Y),(1,.own .u8 (List.replicate 256 0))]) 2
theorem apo:dw (U Wpc []) [] 0 Tryz.f156 [1,2] (dM 1 aef) (dy [ja p] .nil 0) [([],
   [],
   .to .normal (fq [(1,.ptr (some (0,0))),(2,.ptr (some (1,0)))] (G [(0,.cells (D.fQ (DB p))),(1,.cells (List.replicate 256 (.int .u8 0)))]) 2))]
 :=dj.of C C C
theorem apq(Y:List Int):dw (U Wpc []) [] 0 Tryz.f156 [1,2,5,6] (dF (dF YZ)) (fq [(1,.ptr (some (0,0))),(2,.ptr (some (1,0)))] (G [(0,.cells (D.fQ (DB p))),(1,.cells (List.replicate 256 (.int .u8 0)))]) 2) [([],[],.to .normal (fq [(1,.ptr (some (0,0))),(2,.ptr (some (1,0))),(5,ja p),(6,L 0)] (G [(0,.cells (D.fQ (DB p))),(1,.cells (List.replicate 256 (.int .u8 0)))]) 2))]:=dj.of C C C
theorem apr(i:Nat)(r g b a:Int):dw (U Wpc []) [(7,.split),(9,.dz (pq4 r g b a)),(14,.dz (M (i+1)))] 0 Tryz.f156 [1,2,5,6] (dG (dG (dX (dF YZ)))) (sTc p Y i)
  [([(decide (Int.ofNat i<64),true)],[(0:Int)<=Int.ofNat i/\Int.ofNat i<64,i*4+4<=(D.fQ (DB p)).length,V.agg (List.take 4 (List.drop (i*4) (D.fQ (DB p))))=pq4 r g b a,(0:Int)<=Int.ofNat i/\Int.ofNat i<64,0+i*4+4<=Y.length,V.int .i64 (IntKind.i64.wrap (Int.ofNat i+1))=M (i+1)],
   .to .normal (sTc p (AT Y (0+i*4) [cl a r,cl a g,cl a b,cl a a]) (i+1))),
   ([(decide (Int.ofNat i<64),false)],[],.to (.exit 0) (sTc p Y i))]:=dj.of C C C
theorem aps:dw (U Wpc []) [] 0 Tryz.f156 [] (dX YZ) (sTc p Y 64) [([],[256<=Y.length,256<=256],.ret (lY .u8 Y 0 256) (G []) 0)]:=dj.of C C C
def Je:Bool:=(List.range 64).all fun i=>(p (i*4)==q (i*4))&&((p (i*4+1)==q (i*4+1))&&((p (i*4+2)==q (i*4+2))&&((p (i*4+3)==q (i*4+3))&&true)))
theorem apt:dw (U (fb 156 [ja p] (ja q) dY) []) [] 0 Tryz.f155 [] apn (dy [ja p] .nil 0) [([],[fa [ja p]],.ret (.bool (Je q fun _=>0)) (G []) 0)]:=dj.of C C C
theorem Rn:D.fQ (DB p)=(List.range 256).map fun j=>V.int .u8 (p j):=by
 unfold DB;rw[D.gh,List.map_map];rfl
theorem Y1{i:Nat}(h:i<64):List.take 4 (List.drop (i*4) (D.fQ (DB p)))=[.int .u8 (p (4*i)),.int .u8 (p (4*i+1)),.int .u8 (p (4*i+2)),.int .u8 (p (4*i+3))]:=by
 rw[Rn];refine List.ext_getElem? fun j=>?_;rw[bS];by_cases c:j<4
 . rw[aG c,bU,bI,cZ H,Nat.mul_comm i 4];rcases(by omega:j=0\/j=1\/j=2\/j=3)with rfl|rfl|rfl|rfl<;>rfl
 . rw[aB c,cL (by simp only[aP,bW];omega)]
theorem Uu:(D.fQ (DB p)).length=256:=by rw[Rn];simp
theorem tcD:dU ak 156 [ja p] (ja (iA p)):=by
 refine eX Tryz.func156 ?_;refine fF 1 Gt (apo p) all_nil ?_;refine qm Gt 0 _ [1,2,5,6] (64-·) (. <=64) (fun i=>sTc p (tl fun j=>if j<4*i then iA p j else p j) i) 0 eY (apq p []) all_nil (by
  rw[CT (q:=p) fun j _=>aB H];exact .own [(0,.u8),(1,.u8)] C) fun i hi=>?_
 refine⟨_,Gt,[],_,_,apr p _ i (p (4*i)) (p (4*i+1)) (p (4*i+2)) (p (4*i+3)),dD (g1 fun Q=>?_) (dB (g1 fun h=>?_))⟩
 . have eO:=d64 Q;refine⟨S (b64 eO) (S (by rw[Uu];omega) (S (aI V.agg (Y1 p eO)) (S (b64 eO) (S (by rw[oO];omega) (eG (gJ H)))))),i+1,w5 eO,by show i+1<=64;omega,?_⟩;rw[J9 (k:=fun j=>if j<4*(i+1)then iA p j else p j) eO]
   . exact .refl
   all_goals first
    |(rw[aG H];unfold iA;congr 2;omega)
    |skip
   intro j _ hj;by_cases c:j<4*i
   . rw[aG c,aG H]
   . rw[aB c,aB H]
 . have:=n64 h;obtain rfl:i=64:=by omega
   refine⟨all_nil,rfl,eK Gt (aps p _) (dB (g0 ⟨S (by rw[oO];exact aK _) (eG (aK _)),_,_,_,rfl,?_⟩))⟩;rw[yl];exact zJ fun j hj=>aG H
theorem tzD:dU ak 155 [ja p] (.bool (Je (iA p) fun _=>0)):=by
 refine eX Tryz.func155 ?_;exact eK (fu (tcD p) (di _)) (apt p (iA p)) (dB (g0 ⟨eG rfl,_,_,_,rfl,rfl⟩))
end
set_option maxRecDepth 100000
noncomputable abbrev aej:Code:=dI Tryz.f175
section
variable(a x b y:Int)
noncomputable abbrev apu:Code:=dI Tryz.f157
noncomputable abbrev apv:Code:=dI Tryz.f176
theorem apw:dw (U dY []) [(11,.dz (.bool false)),(13,.dz (.bool false)),(16,.split),(19,.split)] 0 Tryz.f176 [] apv (dy [L x,L y] .nil 0)
  [([(decide (x<y),true)],[V.bool (x !=x)=V.bool false,V.bool (y !=y)=V.bool false],.ret (.int .i64 (-1)) (G []) 0),
   ([(decide (x<y),false),(decide (x>y),true)],[V.bool (x !=x)=V.bool false,V.bool (y !=y)=V.bool false],.ret (.int .i64 1) (G []) 0),
   ([(decide (x<y),false),(decide (x>y),false)],[V.bool (x !=x)=V.bool false,V.bool (y !=y)=V.bool false],.ret (.int .i64 0) (G []) 0)]:=dj.of C C C
def oP:Int:=if x<y then -1 else if y<x then 1 else 0
def KT:ag->Option (ah×V)
 | [.int .i64 x,.int .i64 y]=>some ([],.int .i64 (oP x y))
 |_=>none
theorem EV:V.bool (x !=x)=V.bool false:=aI V.bool (by simp)
theorem Y2:jK ak 176 (gV KT):=by
 refine ow Tryz.func176 fun args aj v e=>?_;unfold KT at e;split at e
 case h_2=>cases e
 rename_i x y;obtain⟨rfl,rfl⟩:=sm e;refine⟨rfl,rfl,rfl,fun _=>eK (di _) (apw x y) (dD (g1 fun h=>⟨S (EV x) (eG (EV y)),_,_,_,rfl,?_⟩) (dD (g2 fun h O=>⟨S (EV x) (eG (EV y)),_,_,_,rfl,?_⟩) (dB (g2 fun h O=>⟨S (EV x) (eG (EV y)),_,_,_,rfl,?_⟩))))⟩
 . have h:=aX h;unfold oP;rw[aG h]
 . have h:=bB h;have O:=aX O;unfold oP;rw[aB h,aG O]
 . have h:=bB h;have O:=bB O;unfold oP;rw[aB h,aB O]
noncomputable abbrev Ro:Code:=dr 2 aej
def sOr(i:Int):St:=fq [(3,L 0),(6,.eB false 2 [.int .i64 a,.int .i64 b]),(7,L 2),(8,L i)] .nil 0
theorem apx:dw (U dY []) [] 0 Tryz.f175 [0,3] (dM 2 aej) (dy [.eB false 2 [.int .i64 a,.int .i64 b]] .nil 0) [([],
   [],
   .to .normal (fq [(0,.eB false 2 [.int .i64 a,.int .i64 b]),(3,.int .i64 0)] (G []) 0))]
 :=dj.of C C C
theorem apy:dw (U dY []) [] 0 Tryz.f175 [3,6,7,8] (dF (dF Ro)) (fq [(0,.eB false 2 [.int .i64 a,.int .i64 b]),(3,L 0)] .nil 0) [([],
   [],
   .to .normal (fq [(3,.int .i64 0),(6,.eB false 2 [.int .i64 a,.int .i64 b]),(7,.int .i64 2),(8,.int .i64 0)] (G []) 0))]
 :=dj.of C C C
theorem apz:dw (U dY []) [(14,.split)] 0 Tryz.f175 [3,6,7,8] (dG (dG (dX (dF Ro)))) (sOr a b 0) [([((a !=(0:Int)),true)],
   [((0:Int)<=(0:Int)/\(0:Int)<(2:Int)),([D.int A a,D.int A b].length=2)],
   .ret (.int .i64 a) (G []) 0),
  ([((a !=(0:Int)),false)],
   [((0:Int)<=(0:Int)/\(0:Int)<(2:Int)),([D.int A a,D.int A b].length=2)],
   .to .normal (fq [(3,.int .i64 0),(6,.eB false 2 [.int .i64 a,.int .i64 b]),(7,.int .i64 2),(8,.int .i64 1)] (G []) 0))]
 :=dj.of C C C
theorem apA:dw (U dY []) [(14,.split)] 0 Tryz.f175 [3,6,7,8] (dG (dG (dX (dF Ro)))) (sOr a b 1) [([((b !=(0:Int)),true)],
   [((0:Int)<=(1:Int)/\(1:Int)<(2:Int)),([D.int A a,D.int A b].length=2)],
   .ret (.int .i64 b) (G []) 0),
  ([((b !=(0:Int)),false)],
   [((0:Int)<=(1:Int)/\(1:Int)<(2:Int)),([D.int A a,D.int A b].length=2)],
   .to .normal (fq [(3,.int .i64 0),(6,.eB false 2 [.int .i64 a,.int .i64 b]),(7,.int .i64 2),(8,.int .i64 2)] (G []) 0))]
 :=dj.of C C C
theorem apB:dw (U dY []) [] 0 Tryz.f175 [3,6,7,8] (dG (dG (dX (dF Ro)))) (sOr a b 2) [([],
   [],
   .to (.exit 0) (fq [(3,.int .i64 0),(6,.eB false 2 [.int .i64 a,.int .i64 b]),(7,.int .i64 2),(8,.int .i64 2)] (G []) 0))]
 :=dj.of C C C
theorem apC:dw (U dY []) [] 0 Tryz.f175 [] (dX Ro) (sOr a b 2) [([],
   [],
   .ret (.int .i64 0) (G []) 0)]
 :=dj.of C C C
def GR:Int:=if a≠0 then a else b
theorem orD:dU ak 175 [.eB false 2 [.int .i64 a,.int .i64 b]] (L (GR a b)):=by
 refine eX Tryz.func175 ?_;refine fF 2 (di _) (apx a b) all_nil ?_;refine qm (di _) 0 _ [3,6,7,8] (2-·) (fun i:Nat=>i<=2/\(1<=i->a=0)/\(2<=i->b=0)) (fun i=>sOr a b (Int.ofNat i)) 0 ⟨aU _,fun h=>absurd h eY,fun h=>absurd h eY⟩ (apy a b) all_nil .refl fun i ⟨hi,Q,O⟩=>?_;have A0:∀p∈[((0:Int)<=(0:Int)/\(0:Int)<(2:Int)),([D.int A a,D.int A b].length=2)],p:=S eY (eG rfl);have A1:∀p∈[((0:Int)<=(1:Int)/\(1:Int)<(2:Int)),([D.int A a,D.int A b].length=2)],p:=S eY (eG rfl);rcases(by omega:i=0\/i=1\/i=2)with rfl|rfl|rfl
 . refine⟨_,di _,_,_,_,apz a b,dD (g1 fun h=>⟨A0,?_⟩) (dB (g1 fun h=>⟨A0,1,eY,⟨eY,fun _=>?_,fun h=>absurd h eY⟩,.refl⟩))⟩
   . show L a=L (GR a b);unfold GR;rw[aG (by simpa using h)]
   . simpa using h
 . refine⟨_,di _,_,_,_,apA a b,dD (g1 fun h=>⟨A1,?_⟩) (dB (g1 fun h=>⟨A1,2,eY,⟨eY,fun _=>Q eY,fun _=>?_⟩,.refl⟩))⟩
   . show L b=L (GR a b);unfold GR;rw[aB (by simpa using Q eY)]
   . simpa using h
 . refine⟨_,di _,_,_,_,apB a b,dB (g0 ⟨all_nil,rfl,eK (di _) (apC a b) (dB (g0 ⟨all_nil,_,_,_,rfl,?_⟩))⟩)⟩;show L 0=L (GR a b);unfold GR;rw[aB (by simpa using Q eY),O eY]
def KU:ai->Option (ah×V)
 | [.eB 2 [.int .i64 a,.int .i64 b]]=>some ([],.int .i64 (GR a b))
 |_=>none
theorem Y3:jK ak 175 (wo KU):=by
 refine yq C fun ds aj v e hA=>?_;unfold KU at e;split at e
 case h_2=>cases e
 obtain⟨rfl,rfl⟩:=sm e;exact orD _ _
noncomputable abbrev Wod:gF:=jZ 175 (wo KU) (jZ 176 (gV KT) dY)
theorem Y4:eU ak Wod:=fC Y3 (fC Y2 (di _))
theorem apE(z w:Int):dw (U Wod []) [] 0 Tryz.f157 [] (apu) (dy [.agg [L x,L y],.agg [L z,L w]] .nil 0) [([],
   [([D.int A (oP y w),D.int A (oP x z)].length=2)],
   .ret (.int .i64 (GR (oP y w) (oP x z))) (G []) 0)]
 :=dj.of C C C
end
set_option maxRecDepth 100000
noncomputable abbrev apF:Code:=dI Tryz.f154
noncomputable abbrev Y5:Code:=dI Tryz.f126
noncomputable abbrev Gu:Code:=dr 2 Y5
section
variable(n:Nat)
theorem apG(x y:Int):dw (U dY []) [(5,.split),(9,.split),(14,.split)] 0 Tryz.f154 [] (apF) (dy [.agg [L x,L y]] .nil 0) [([((decide (x>=(-8192:Int))),true),((decide (x<=(8191:Int))),true),((decide (y>=(-8192:Int))),true)],
   [],
   .ret (.bool (decide (y<=(8191:Int)))) (G []) 0),
  ([((decide (x>=(-8192:Int))),true),((decide (x<=(8191:Int))),true),((decide (y>=(-8192:Int))),false)],
   [],
   .ret (.bool false) (G []) 0),
  ([((decide (x>=(-8192:Int))),true),((decide (x<=(8191:Int))),false)],
   [],
   .ret (.bool false) (G []) 0),
  ([((decide (x>=(-8192:Int))),false)],
   [],
   .ret (.bool false) (G []) 0)]
 :=dj.of C C C
theorem Y6:jK ak 154 (gV zI):=by
 refine ow Tryz.func154 fun args aj v e=>?_;unfold zI at e;split at e
 case h_2=>cases e
 rename_i x y;obtain⟨rfl,rfl⟩:=sm e;refine⟨rfl,rfl,rfl,fun _=>eK (di _) (apG x y) (dD (g3 fun h O h3=>⟨all_nil,_,_,_,rfl,?_⟩) (dD (g3 fun h O h3=>⟨all_nil,_,_,_,rfl,?_⟩) (dD (g2 fun h O=>⟨all_nil,_,_,_,rfl,?_⟩) (dB (g1 fun h=>⟨all_nil,_,_,_,rfl,?_⟩)))))⟩<;>simp only[AG, *,aN,aS]
theorem apH(R:ai):dw (U dY []) [(8,.dz (.bool false))] 0 Tryz.f126 [1] (dM 2 Y5) (dy [.agg [.eB false n R]] .nil 0) [([],
   [(V.bool (decide ((Int.ofNat n)>(1024:Int)))=V.bool false)],
   .to .normal (fq [(1,.ptr (some (0,0)))] (G [(0,.cells [.eB false n R])]) 1))]
 :=dj.of C C C
theorem apJ(R:ai):dw (U dY []) [(8,.dz (.bool true))] 0 Tryz.f126 [] (Y5) (dy [.agg [.eB false n R]] .nil 0) [([],
   [(V.bool (decide ((Int.ofNat n)>(1024:Int)))=V.bool true)],
   .ret (.bool false) (G []) 0)]
 :=dj.of C C C
def KV:ag->Option (ah×V)
 | [.agg [.int .i64 x,.int .i64 y],.agg [.int .i64 z,.int .i64 w]]=>some ([],.int .i64 (GR (oP y w) (oP x z)))
 |_=>none
theorem Y7:jK ak 157 (gV KV):=by
 refine ow Tryz.func157 fun args aj v e=>?_;unfold KV at e;split at e
 case h_2=>cases e
 rename_i x y z w;obtain⟨rfl,rfl⟩:=sm e;exact⟨rfl,rfl,rfl,fun _=>eK Y4 (apE x y z w) (dB (g0 ⟨eG rfl,_,_,_,rfl,rfl⟩))⟩
noncomputable abbrev Y8:gF:=jZ 157 (gV KV) (jZ 154 (gV zI) dY)
theorem KW:eU ak Y8:=fC Y7 (fC Y6 (di _))
def z8(R:ai)(i:Nat):St:=fq [(1,.ptr (some (0,0))),(10,.eB false n R),(11,M n),(12,M i)] (G [(0,.cells [.eB false n R])]) 1
theorem apK(R:ai):dw (U dY []) [] 0 Tryz.f126 [1,10,11,12] (dF (dF Gu)) (fq [(1,.ptr (some (0,0)))] (G [(0,.cells [.eB false n R])]) 1) [([],
   [],
   .to .normal (z8 n R 0))]
 :=dj.of C C C
theorem apL(R:ai)(i:Nat)(t:Tl):dw (U Y8 []) [(13,.dz (.bool true)),(15,.dz (.dx t.d)),(21,.dz (.bool true))] 0 Tryz.f126 [1,10,11,12] (dG (dG (dX (dF Gu)))) (z8 n R i) [([],[V.bool (decide (Int.ofNat i<Int.ofNat n))=V.bool true,(0:Int)<=Int.ofNat i/\Int.ofNat i<Int.ofNat n,R.length=n*258,V.dx (dn R (i*258) 258)=V.dx t.d,V.bool (!AG t.x t.y)=V.bool true],.ret (.bool false) (G []) 0)]:=dj.of C C C
theorem apM(R:ai)(i:Nat)(t:Tl)(z:Bool):dw (U (fb 155 [ja t.p] (.bool z) Y8) []) [(13,.dz (.bool true)),(15,.dz (.dx t.d)),(21,.dz (.bool false)),(26,.dz (.bool true))] 0 Tryz.f126 [1,10,11,12] (dG (dG (dX (dF Gu)))) (z8 n R i) [([],[V.bool (decide (Int.ofNat i<Int.ofNat n))=V.bool true,(0:Int)<=Int.ofNat i/\Int.ofNat i<Int.ofNat n,R.length=n*258,V.dx (dn R (i*258) 258)=V.dx t.d,V.bool (!AG t.x t.y)=V.bool false,fa [ja t.p],V.bool (z)=V.bool true],.ret (.bool false) (G []) 0)]:=dj.of C C C
theorem apN(R:ai)(i:Nat)(t:Tl)(z:Bool)(q:Nat->Int):dw (U (fb 155 [ja t.p] (.bool z) (fb 156 [ja t.p] (ja q) Y8)) []) [(13,.dz (.bool true)),(15,.dz (.dx t.d)),(21,.dz (.bool false)),(26,.dz (.bool false)),(34,.dz (.bool true))] 0 Tryz.f126 [1,10,11,12] (dG (dG (dX (dF Gu)))) (z8 n R i) [([],[V.bool (decide (Int.ofNat i<Int.ofNat n))=V.bool true,(0:Int)<=Int.ofNat i/\Int.ofNat i<Int.ofNat n,R.length=n*258,V.dx (dn R (i*258) 258)=V.dx t.d,V.bool (!AG t.x t.y)=V.bool false,fa [ja t.p],V.bool (z)=V.bool false,fa [ja t.p],V.bool (!Je q t.p)=V.bool true],.ret (.bool false) (G []) 0)]:=dj.of C C C
theorem apO(R:ai)(j:Nat)(t u:Tl)(z:Bool)(q:Nat->Int):dw (U (fb 155 [ja t.p] (.bool z) (fb 156 [ja t.p] (ja q) Y8)) []) [(13,.dz (.bool true)),(15,.dz (.dx t.d)),(21,.dz (.bool false)),(26,.dz (.bool false)),(34,.dz (.bool false)),(37,.dz (.bool true)),(41,.dz (M j)),(42,.dz (.dx u.d)),(50,.dz (.bool true))] 0 Tryz.f126 [1,10,11,12] (dG (dG (dX (dF Gu)))) (z8 n R (j+1)) [([],[V.bool (decide (Int.ofNat (j+1)<Int.ofNat n))=V.bool true,(0:Int)<=Int.ofNat (j+1)/\Int.ofNat (j+1)<Int.ofNat n,R.length=n*258,V.dx (dn R ((j+1)*258) 258)=V.dx t.d,V.bool (!AG t.x t.y)=V.bool false,fa [ja t.p],V.bool (z)=V.bool false,fa [ja t.p],V.bool (!Je q t.p)=V.bool false,V.bool (decide (Int.ofNat (j+1)>(0:Int)))=V.bool true,V.int .i64 (IntKind.i64.wrap (Int.ofNat (j+1)-(1:Int)))=M j,(0:Int)<=Int.ofNat j/\Int.ofNat j<Int.ofNat n,R.length=n*258,V.dx (dn R (j*258) 258)=V.dx u.d,V.bool (decide (GR (oP u.y t.y) (oP u.x t.x)>=(0:Int)))=V.bool true],.ret (.bool false) (G []) 0)]:=dj.of C C C
theorem apP(R:ai)(j:Nat)(t u:Tl)(z:Bool)(q:Nat->Int):dw (U (fb 155 [ja t.p] (.bool z) (fb 156 [ja t.p] (ja q) Y8)) []) [(13,.dz (.bool true)),(15,.dz (.dx t.d)),(21,.dz (.bool false)),(26,.dz (.bool false)),(34,.dz (.bool false)),(37,.dz (.bool true)),(41,.dz (M j)),(42,.dz (.dx u.d)),(50,.dz (.bool false)),(51,.dz (M (j+2)))] 0 Tryz.f126 [1,10,11,12] (dG (dG (dX (dF Gu)))) (z8 n R (j+1)) [([],[V.bool (decide (Int.ofNat (j+1)<Int.ofNat n))=V.bool true,(0:Int)<=Int.ofNat (j+1)/\Int.ofNat (j+1)<Int.ofNat n,R.length=n*258,V.dx (dn R ((j+1)*258) 258)=V.dx t.d,V.bool (!AG t.x t.y)=V.bool false,fa [ja t.p],V.bool (z)=V.bool false,fa [ja t.p],V.bool (!Je q t.p)=V.bool false,V.bool (decide (Int.ofNat (j+1)>(0:Int)))=V.bool true,V.int .i64 (IntKind.i64.wrap (Int.ofNat (j+1)-(1:Int)))=M j,(0:Int)<=Int.ofNat j/\Int.ofNat j<Int.ofNat n,R.length=n*258,V.dx (dn R (j*258) 258)=V.dx u.d,V.bool (decide (GR (oP u.y t.y) (oP u.x t.x)>=(0:Int)))=V.bool false,V.int .i64 (IntKind.i64.wrap (Int.ofNat (j+1)+(1:Int)))=M (j+2)],.to .normal (z8 n R (j+2)))]:=dj.of C C C
theorem apQ(R:ai)(i:Nat)(t:Tl)(z:Bool)(q:Nat->Int):dw (U (fb 155 [ja t.p] (.bool z) (fb 156 [ja t.p] (ja q) Y8)) []) [(13,.dz (.bool true)),(15,.dz (.dx t.d)),(21,.dz (.bool false)),(26,.dz (.bool false)),(34,.dz (.bool false)),(37,.dz (.bool false)),(51,.dz (M (i+1)))] 0 Tryz.f126 [1,10,11,12] (dG (dG (dX (dF Gu)))) (z8 n R i) [([],[V.bool (decide (Int.ofNat i<Int.ofNat n))=V.bool true,(0:Int)<=Int.ofNat i/\Int.ofNat i<Int.ofNat n,R.length=n*258,V.dx (dn R (i*258) 258)=V.dx t.d,V.bool (!AG t.x t.y)=V.bool false,fa [ja t.p],V.bool (z)=V.bool false,fa [ja t.p],V.bool (!Je q t.p)=V.bool false,V.bool (decide (Int.ofNat i>(0:Int)))=V.bool false,V.int .i64 (IntKind.i64.wrap (Int.ofNat i+(1:Int)))=M (i+1)],.to .normal (z8 n R (i+1)))]:=dj.of C C C
theorem apR(R:ai)(i:Nat):dw (U dY []) [(13,.dz (.bool false))] 0 Tryz.f126 [1,10,11,12] (dG (dG (dX (dF Gu)))) (z8 n R i) [([],
   [(V.bool (decide (Int.ofNat i<Int.ofNat n))=V.bool false)],
   .to (.exit 0) (z8 n R i))]
 :=dj.of C C C
theorem apS(R:ai)(i:Nat):dw (U dY []) [] 0 Tryz.f126 [] (dX Gu) (z8 n R i) [([],
   [],
   .ret (.bool true) (G []) 0)]
 :=dj.of C C C
end
set_option maxRecDepth 100000
def kF(u:Option Tl)(t:Tl):Bool:=AG t.x t.y&&(!(Je (iA t.p) fun _=>0)&&(Je (iA t.p) t.p&&(match u with|none=>true|some u=>decide (GR (oP u.y t.y) (oP u.x t.x)<0))))
def jX:Option Tl->List Tl->Bool
 |_,[]=>true
 |u,t::l=>kF u t&&jX (some t) l
def Y9(l:List Tl):Bool:=decide (l.length<=1024)&&jX none l
def Za(l:List Tl):Nat->Option Tl
 |0=>none
 |i+1=>l[i]?
theorem bT{p:Prop}[Decidable p](h:p):V.bool (decide p)=V.bool true:=aI V.bool (aZ h)
theorem bF{p:Prop}[Decidable p](h:¬p):V.bool (decide p)=V.bool false:=aI V.bool (aT h)
theorem rvD(l:List Tl)(hl:l.length<=1000000):dU ak 126 [ox l] (.bool (Y9 l)):=by
 refine eX Tryz.func126 ?_;by_cases hb:l.length<=1024
 case neg=>
  have e:Y9 l=false:=by unfold Y9;rw[aT hb];rfl
  rw[e];exact eK (di _) (apJ _ _) (dB (g0 ⟨eG (bT (by simp only[gQ];omega)),_,_,_,rfl,rfl⟩))
 have e0:Y9 l=jX none l:=by unfold Y9;rw[aZ hb,aN]
 rw[e0];refine fF 2 (di _) (apH l.length (jE l)) (eG (bF (by simp only[gQ];omega))) ?_;refine qm (di _) 0 _ [1,10,11,12] (l.length-·) (fun i=>i<=l.length/\jX none l=jX (Za l i) (l.drop i)) (fun i=>z8 l.length (jE l) i) 0 ⟨aU _,rfl⟩ (apK _ _) all_nil .refl fun i ⟨hi,hv⟩=>?_;by_cases eO:i<l.length
 case neg=>
  obtain rfl:i=l.length:=by omega
  refine⟨_,di _,_,_,_,apR _ _ _,dB (g0 ⟨eG (bF (by simp only[gQ];omega)),rfl,eK (di _) (apS _ _ _) (dB (g0 ⟨all_nil,_,_,_,rfl,?_⟩))⟩)⟩;rw[hv,List.drop_length];rfl
 have hd:l.drop i=l[i]::l.drop (i+1):=b9 eO;have mV:=zK eO;have jx:=kD l;have hn:l[i]? =some l[i]:=au eO;generalize l[i]=t at hd mV hn;rw[hd]at hv;have hv:jX none l=(kF (Za l i) t&&jX (some t) (l.drop (i+1))):=hv;have hT:V.bool (decide (Int.ofNat i<Int.ofNat l.length))=V.bool true:=bT (by simp only[gQ];omega);have bad:kF (Za l i) t=false->V.bool false=V.bool (jX none l):=fun h=>by rw[hv,h];rfl
 cases Q:AG t.x t.y with
 |false=>exact⟨_,KW,_,_,_,apL _ _ i t,dB (g0 ⟨S hT (S (iI eO) (S jx (S mV (eG (by rw[Q];rfl))))),bad (by unfold kF;rw[Q];rfl)⟩)⟩
 |true=>
 cases O:Je (iA t.p) (fun _=>0)with
 |true=>exact⟨_,fu (tzD t.p) KW,_,_,_,apM _ _ i t _,dB (g0 ⟨S hT (S (iI eO) (S jx (S mV (S (by rw[Q];rfl) (S rfl (eG (aI V.bool O))))))),bad (by unfold kF;rw[Q,O];rfl)⟩)⟩
 |false=>
 have s':=fu (tzD t.p) (fu (tcD t.p) KW);cases h3:Je (iA t.p) t.p with
 |false=>exact⟨_,s',_,_,_,apN _ _ i t _ _,dB (g0 ⟨S hT (S (iI eO) (S jx (S mV (S (by rw[Q];rfl) (S rfl (S (aI V.bool O) (S rfl (eG (by rw[h3];rfl))))))))),bad (by unfold kF;rw[Q,O,h3];rfl)⟩)⟩
 |true=>
 cases i with
 |zero=>
  refine⟨_,s',_,_,_,apQ _ _ 0 t _ _,dB (g0 ⟨?_,1,w5 eO,⟨eO,?_⟩,.refl⟩)⟩
  . repeat' (first|exact all_nil|refine S ?_ ?_)
    all_goals first
     |exact hT
     |exact iI eO
     |exact jx
     |exact mV
     |rfl
     |exact aI V.bool O
     |(rw[Q];rfl)
     |(rw[h3];rfl)
     |exact bF eY
     |exact gJ H
  rw[hv];have:kF (Za l 0) t=true:=by unfold kF Za;rw[Q,O,h3];rfl
  rw[this,aN];show _=jX l[0]? _;rw[hn]
 |succ j=>
  have hj:j<l.length:=by omega
  have Zb:=zK hj;have pD:l[j]? =some l[j]:=au hj;generalize l[j]=u at Zb pD;have hpv:Za l (j+1)=some u:=pD;rw[hpv]at hv bad;have aj:∀(o:Bool),V.bool (decide (GR (oP u.y t.y) (oP u.x t.x)>=(0:Int)))=V.bool o->∀p∈[V.bool (decide (Int.ofNat (j+1)<Int.ofNat l.length))=V.bool true,(0:Int)<=Int.ofNat (j+1)/\Int.ofNat (j+1)<Int.ofNat l.length,(jE l).length=l.length*258,V.dx (dn (jE l) ((j+1)*258) 258)=V.dx t.d,V.bool (!AG t.x t.y)=V.bool false,fa [ja t.p],V.bool (Je (iA t.p) fun _=>0)=V.bool false,fa [ja t.p],V.bool (!Je (iA t.p) t.p)=V.bool false,V.bool (decide (Int.ofNat (j+1)>(0:Int)))=V.bool true,V.int .i64 (IntKind.i64.wrap (Int.ofNat (j+1)-(1:Int)))=M j,(0:Int)<=Int.ofNat j/\Int.ofNat j<Int.ofNat l.length,(jE l).length=l.length*258,V.dx (dn (jE l) (j*258) 258)=V.dx u.d,V.bool (decide (GR (oP u.y t.y) (oP u.x t.x)>=(0:Int)))=V.bool o],p:=fun o ho=>
   S hT (S (iI eO) (S jx (S mV (S (by rw[Q];rfl) (S rfl (S (aI V.bool O) (S rfl (S (by rw[h3];rfl) (S (bT (by simp only[gQ];omega)) (S (wY (by simp only[gQ];omega) H) (S (iI hj) (S jx (S Zb (eG ho))))))))))))))
  by_cases ho:GR (oP u.y t.y) (oP u.x t.x)>=0
  . exact⟨_,s',_,_,_,apO _ _ j t u _ _,dB (g0 ⟨aj true (bT ho),bad (by unfold kF;rw[Q,O,h3];simp only[aN,Bool.not_false];exact aT H)⟩)⟩
  . refine⟨_,s',_,_,_,apP _ _ j t u _ _,dB (g0 ⟨?_,j+2,by show l.length-(j+2)<l.length-(j+1);omega,⟨eO,?_⟩,.refl⟩)⟩
    . clear aj
      repeat' (first|exact all_nil|refine S ?_ ?_)
      all_goals first
       |exact hT
       |exact iI eO
       |exact jx
       |exact mV
       |rfl
       |exact aI V.bool O
       |(rw[Q];rfl)
       |(rw[h3];rfl)
       |exact bT (by simp only[gQ];omega)
       |exact wY (by simp only[gQ];omega) H
       |exact iI hj
       |exact Zb
       |exact bF ho
       |exact gJ H
    . rw[hv];have:kF (some u) t=true:=by unfold kF;rw[Q,O,h3];simp only[aN,Bool.not_false];exact aZ H
      rw[this,aN];show _=jX l[j+1]? _;rw[hn]
set_option maxRecDepth 10000
theorem Rp{l:List Int}:AO l=true↔∀j,j+1<l.length->l.getD j 0<=l.getD (j+1) 0:=by
 unfold AO;rw[bV,cT];constructor
 . intro h j hj;have:=h j (bL.2 H);unfold VR at this;rw[aY]at this;omega
 . intro h j hj;have:=h j (by have:=bL.1 hj;omega);unfold VR;rw[aY];omega
theorem IU{c:List Int}{i:Nat}:Nc c i=false↔(0<=c.getD i 0/\c.getD i 0<=65535)/\∀j,i=j+1->c.getD j 0<=c.getD (j+1) 0:=by
 unfold Nc;cases i with
 |zero=>
  simp only[cK,bu,and_true];exact⟨fun h=>⟨H,fun j e=>by omega⟩,fun h=>by omega⟩
 |succ j=>
  simp only[cK,bu];refine⟨fun h=>⟨H,fun k e=>?_⟩,fun h=>⟨H,?_⟩⟩
  . obtain rfl:k=j:=by omega
    omega
  . have:=h.2 j rfl;omega
theorem EW(l:List Int):LX l=jN l:=by
 rw[Bool.eq_iff_iff];unfold LX jN Uh;simp only[ay,bV,cT,aY,Rp];constructor
 . rintro⟨⟨Q,O⟩,h3,h4,h5⟩;refine⟨⟨Q,O⟩,fun i hi=>?_⟩;have hi:=bL.1 hi;have up:∀k,∀i,i+k<l.length->l.getD i 0<=l.getD (i+k) 0:=fun k=>by
    induction k with
    |zero=>intro i _;exact Int.le_refl _
    |succ k ih=>intro i hi;exact Int.le_trans (ih i H) (h5 (i+k) H)
   have a1:=up i 0 H;have a2:=up (l.length-1-i) i H;rw[b7]at a1;rw[show i+(l.length-1-i)=l.length-1 by omega]at a2;rw[Bool.not_eq_true,IU];exact⟨H,fun j e=>h5 j H⟩
 . rintro⟨⟨Q,O⟩,h3⟩;have hb:=fun i (hi:i<l.length)=>IU.1 (by have:=h3 i (bL.2 hi);simpa using this);simp only[gQ]at Q;refine⟨⟨Q,O⟩,(hb 0 H).1.1,(hb (l.length-1) H).1.2,fun j hj=>(hb (j+1) hj).2 j rfl⟩
theorem Rq{α:Type}(p q:α->Bool):∀l:List α,(l.any fun x=>p x||q x)=(l.any p||l.any q)
 | []=>rfl
 |x::l=>by
  simp only[List.any_cons,Rq p q l];generalize p x=a;generalize q x=b;generalize l.any p=c;generalize l.any q=d;cases a<;>cases b<;>cases c<;>cases d<;>rfl
theorem M9.apT(m:M9):m.l=(List.range 9).map m.at:=rfl
section
variable(s:Sp)
theorem Zc:(DE s.to.l&&DE s.N.l)=!((List.range 9).any (Gc s)):=by
 have e:∀m:M9,m.l.any YR=(List.range 9).any fun i=>x1 (m.at i)||x2 (m.at i):=fun m=>by
  rw[M9.apT,List.any_map];rfl
 unfold DE;rw[e,e,<- Bool.not_or,<- Rq];rfl
theorem Uv(x:Int):IntKind.i64.wrap (0+IntKind.i64.wrap x)=IntKind.i64.wrap x:=by
 rw[Int.zero_add];unfold IntKind.wrap;have e1:(2^IntKind.i64.bits:Int)=18446744073709551616:=by decide
 have e2:(2^(IntKind.i64.bits-1):Int)=9223372036854775808:=by decide
 have e3:IntKind.i64.signed=true:=rfl;simp only[e1,e2,e3,aN,aY];split<;>split<;>omega
theorem tF(i j:Nat)(hi:i<3)(hj:j<3):KR s.N s.to (3*i+j)=zT s i j:=by
 have e:Yc s i j 3=ivS s.N s.to i j:=by
  show prI s i j 2 (prI s i j 1 (prI s i j 0 0))=_;unfold prI ivS;rw[Uv,Nat.mul_zero,b7,Nat.add_zero]
 have e2:Up s.N s.to (3*i+j)=fiI s i j:=by
  unfold Up fiI;rw[e,show(3*i+j)/3=i by omega,show(3*i+j)%3=j by omega];have h:Nat.beq i j=(Int.ofNat i==Int.ofNat j):=by
   rcases(by omega:i=0\/i=1\/i=2)with rfl|rfl|rfl<;>rcases(by omega:j=0\/j=1\/j=2)with rfl|rfl|rfl<;>rfl
  rw[h]
 unfold KR zT;rw[e2]
theorem Zd:(List.range 9).any (KR s.N s.to)=(List.range 3).any fun i=>(List.range 3).any (zT s i):=by
 have e:List.range 9=[3*0+0,3*0+1,3*0+2,3*1+0,3*1+1,3*1+2,3*2+0,3*2+1,3*2+2]:=rfl;have e3:List.range 3=[0,1,2]:=rfl;rw[e,e3];simp only[List.any_cons,List.any_nil];rw[tF s 0 0,tF s 0 1,tF s 0 2,tF s 1 0,tF s 1 1,tF s 1 2,tF s 2 0,tF s 2 1,tF s 2 2]<;>try decide
 simp only[Bool.or_assoc,cC]
theorem Ze:Us s=AJ s:=by
 unfold Us AJ;rw[Zd,<- Zc,show(fun i=>!LX (s.cv i))=fun i=>!jN (s.cv i)from funext fun i=>by rw[EW]];generalize ((List.range 3).any fun i=>!jN (s.cv i))=a;generalize DE s.to.l=b;generalize DE s.N.l=c;cases a<;>cases b<;>cases c<;>rfl
theorem apU(h:TN s):dU ak 90 [s.v] (.bool (!AJ s)):=Ze s▸czD s fun i _=>h.cv i
end
theorem ael(f:FL)(W:f.eM.length<=1000000)(B:f.cu.length<=1000000000):dU ak 128 [f.v] (.bool (iM f)):=apm f W B (EW _)
theorem Uw(l:List Sp)(hs:∀s∈l,TN s)(hl:l.length<=1000000):dU ak 92 [.eB false l.length (mE l),mK 90] (.bool (l.any fun s=>!AJ s)):=
 ceD l (fun s=>!AJ s) (fun s h=>apU s (hs s h)) hl
set_option maxRecDepth 10000
theorem LY{p q:Nat->Int}:Je p q=true↔∀j,j<256->p j=q j:=by
 unfold Je;rw[br];simp only[bL,ay,cG,and_true];constructor
 . intro h j hj;obtain⟨h0,Q,O,h3⟩:=h (j/4) H;rcases(by omega:j=j/4*4\/j=j/4*4+1\/j=j/4*4+2\/j=j/4*4+3)with e|e|e|e
   . rw[e];exact h0
   . rw[e];exact Q
   . rw[e];exact O
   . rw[e];exact h3
 . intro h i hi;exact⟨h _ H,h _ H,h _ H,h _ H⟩
theorem Rr(p:Nat->Int):Je (iA p) (fun _=>0)=nh p:=by
 unfold nh;rw[Bool.eq_iff_iff,LY,FW];constructor
 . intro h i hi;have:=h (4*i+3) H;unfold iA cl at this;rw[show(4*i+3)/4=i by omega]at this;split at this
   . assumption
   . exact this
 . intro h j hj;unfold iA cl;rw[aG (h (j/4) H)]
theorem Rs(p q:Nat->Int):Je p q=uW p q:=by
 unfold uW;rw[Bool.eq_iff_iff,LY,FW]
theorem Rt(a b c d:Int):decide (GR (oP b d) (oP a c)<0)=GM a b c d:=by
 unfold GR oP GM;by_cases Q:b<d
 . rw[aG Q];simp[Q]
 . by_cases O:d<b
   . rw[aB Q,aG O];have:¬b=d:=by omega
     simp[Q,this]
   . rw[aB Q,aB O];obtain rfl:b=d:=by omega
     by_cases h3:a<c
     . simp[h3]
     . by_cases h4:c<a
       . simp[h3,h4]
       . simp[h3,h4]
theorem Ru(l:List Tl):∀(k:Nat) (m:List Tl) (u:Option Tl),m=l.drop k->u=Za l k->k<=l.length->(jX u m=true↔∀i,k<=i->i<l.length->Vx l i):=by
 intro k m
 induction m generalizing k with
 |nil=>
  intro u K hu W;have:l.length<=k:=by
   have:=aI List.length K;rw[List.length_drop,bW]at this;omega
  exact⟨fun _ i Q O=>absurd O H,fun _=>rfl⟩
 |cons t m ih=>
  intro u K hu W;have eO:k<l.length:=by
   rcases bt k l.length with q|q
   . exact q
   . rw[List.drop_eq_nil_of_le q]at K;cases K
  have hd:l.drop k=l[k]::l.drop (k+1):=b9 eO;rw[hd]at K;injection K with ht sD;have hg:l[k]? =some t:=by rw[au eO,ht]
  have ih:=ih (k+1) (some t) sD (by rw[<- hg];rfl) eO;have e:jX u (t::m)=(kF u t&&jX (some t) m):=rfl;rw[e,ay,ih];have mc:kF u t=true↔Vx l k:=by
   unfold kF Vx okT;rw[Rr,Rs];simp only[ay,bV];constructor
   . rintro⟨Q,O,h3,h4⟩ t' Vy;rw[hg]at Vy;cases Vy;refine⟨⟨Q,O,h3⟩,fun h0 u' Bj=>?_⟩;obtain⟨j,rfl⟩:∃j,k=j+1:=⟨k-1,H⟩;have:u=some u':=hu.trans Bj;subst this;simp only at h4;rw[Rt]at h4;exact h4
   . intro h;obtain⟨⟨Q,O,h3⟩,h4⟩:=h t hg;refine⟨Q,O,h3,?_⟩;cases k with
     |zero=>
      have:u=none:=hu;rw[this]
     |succ j=>
      have hj:u=some (l[j]'(by omega)):=hu.trans (au H);rw[hj];simp only;rw[Rt];exact h4 H _ (au H)
  rw[mc];constructor
  . rintro⟨Q,O⟩ i hi hl;rcases Nat.eq_or_lt_of_le hi with rfl|q
    . exact Q
    . exact O i q hl
  . exact fun h=>⟨h k (aK _) eO,fun i hi hl=>h i H hl⟩
theorem Nx(l:List Tl):Y9 l=cD (fg l):=by
 unfold Y9 fg;rw[Bool.eq_iff_iff,ay,aY,FW,Ru l 0 l none rfl rfl (aU _)];exact⟨fun⟨Q,O⟩=>⟨Q,fun i hi=>O i (aU _) hi⟩,fun⟨Q,O⟩=>⟨Q,fun i _ hi=>O i hi⟩⟩
theorem vG(l:List Tl)(hl:l.length<=1000000):dU ak 126 [ox l] (.bool (cD (fg l))):=Nx l▸rvD l hl
open Go.Shelf Go.RowKit
set_option maxRecDepth 10000
def aem:Go.Shelf.Ren:=⟨fun|137=>179|217=>183|266=>184|n=>n,fun n=>n,fun n=>n⟩
theorem Zf:Lays.n137 ak aem:={
 mixed:=mo
 f137:=Tryz.func179.trans (aI some C)
 f217:=Tryz.func183.trans (aI some C)
 f266:=Tryz.func184.trans (aI some C)
 t3:=Tryz.underlying3
 a3:=Tryz.isAgg3
 z3:=Tryz.sizeOf3
 v3:=Tryz.zeroValue3
 t5:=Tryz.underlying5
 a5:=Tryz.isAgg5
 z5:=Tryz.sizeOf5
 v5:=Tryz.zeroValue5
 t9:=Tryz.underlying9
 a9:=Tryz.isAgg9
 z9:=Tryz.sizeOf9
 v9:=Tryz.zeroValue9
}
def aen:Go.Shelf.Ren:=⟨fun|315=>173|n=>n,fun|40=>211|n=>n,fun n=>n⟩
theorem Zg:Lays.n315 ak aen:={
 mixed:=mo
 f315:=Tryz.func173.trans (aI some C)
 t0:=Tryz.underlying0
 a0:=Tryz.isAgg0
 z0:=Tryz.sizeOf0
 v0:=Tryz.zeroValue0
 t3:=Tryz.underlying3
 a3:=Tryz.isAgg3
 z3:=Tryz.sizeOf3
 v3:=Tryz.zeroValue3
 t4:=Tryz.underlying4
 a4:=Tryz.isAgg4
 z4:=Tryz.sizeOf4
 v4:=Tryz.zeroValue4
 t9:=Tryz.underlying9
 a9:=Tryz.isAgg9
 z9:=Tryz.sizeOf9
 v9:=Tryz.zeroValue9
 t21:=Tryz.underlying21
 a21:=Tryz.isAgg21
 z21:=Tryz.sizeOf21
 v21:=Tryz.zeroValue21
 t40:=Tryz.underlying211
 a40:=Tryz.isAgg211
 z40:=Tryz.sizeOf211
 v40:=Tryz.zeroValue211
}
section
variable(r:Int)(s:aa)(b a:Int)
def KX:ag->Option (ah×V)
 | [.str s,.int .u8 c]=>some ([],L (Lib.indexByte s c.toNat.toUInt8))
 |_=>none
theorem Zh:jK ak 179 (gV KX):=by
 refine⟨az C,fun args h n aj v h' n' e hA E w dH ra g hd B=>?_⟩;unfold gV KX at e;split at e
 case h_2=>cases e
 rename_i A1 v1 e1;split at e1
 case h_2=>cases e1
 rename_i s c;simp only[aq,aF]at e e1;obtain⟨rfl,rfl⟩:=e1;obtain⟨rfl,rfl,rfl,rfl⟩:=e;obtain⟨y,ys,r0,rs,rfl⟩:=ra;obtain⟨z,zs,r1,rs2,rfl⟩:=rs;have rs2:zs=[]:=rs2;subst rs2;have r0:y= .string ⟨s.toArray⟩:=r0;have r1:z= .int .u8 c:=r1;subst r0;subst r1;refine(Any.strings_IndexByte Zf ⟨s.toArray⟩ c w).mono fun en w' ⟨he,hw⟩=>?_;subst he;subst hw;exact uR g hd rfl ⟨E,rfl⟩ (Below.refl _ _)
noncomputable abbrev Wib:gF:=jZ 179 (gV KX) dY
theorem Gv:eU ak Wib:=fC Zh (di _)
def oC:aa:=[97,98,99,100,101,102,103,104,105,106,107,108,109,110,111,112,113,114,115,116,117,118,119,120,121,122,48,49,50,51,52,53,54,55,56,57,45,95]
abbrev iR:V:=.int .i32 r
noncomputable abbrev Rv:Code:=dI Tryz.f172
noncomputable abbrev aeq:Code:=dG (dr 1 Rv)
noncomputable abbrev aer:Code:=oW (dX aeq)
noncomputable abbrev Zi:Code:=oW (dX aer)
noncomputable abbrev Rw:Code:=oW (dX Zi)
def IV(q:List (Nat×V)):St:=fq ([(0,.str oC),(1,iR r)]++q) (G []) 0
theorem apV:dw (U Wib []) [(162,.dz (.bool true)),(165,.dz (.bool true))] 0 Tryz.f172 [] (Rv) (dy [.str oC,iR r] .nil 0) [([],
   [(V.bool (decide ((0:Int)<=r))=V.bool true),(V.bool (decide (r<(128:Int)))=V.bool true)],
   .ret (.int .i64 (Lib.indexByte oC (IntKind.u8.wrap r).toNat.toUInt8)) (G []) 0)]
 :=dj.of C C C
theorem apW:dw (U dY []) [] 0 Tryz.f172 [] (Rv) (dy [.str oC,iR 65533] .nil 0) [([],
   [],
   .ret (.int .i64 (-1)) (G []) 0)]
 :=dj.of C C C
theorem apX:dw (U dY [(180,[(5,.dz (.bool true)),(8,.dz (.bool false)),(12,.dz (.bool false))])]) [(162,.dz (.bool true)),(165,.dz (.bool false)),(173,.dz (.bool false))] 0 Tryz.f172 [] (Rv) (dy [.str oC,iR r] .nil 0) [([],
   [(V.bool (decide ((0:Int)<=r))=V.bool true),(V.bool (decide (r<(128:Int)))=V.bool false),(V.bool (r==(65533:Int))=V.bool false),(V.bool (decide ((0:Int)<=r))=V.bool true),(V.bool (decide (r<(55296:Int)))=V.bool false),(V.bool (decide ((57343:Int)<r))=V.bool false)],
   .ret (.int .i64 (-1)) (G []) 0)]
 :=dj.of C C C
theorem apY:dw (U dY []) [] 0 Tryz.f172 [0,1] (dM 1 Rv) (dy [.str oC,iR r] .nil 0) [([],
   [],
   .to .normal (IV r []))]
 :=dj.of C C C
theorem apZ:dw (U dY []) [(162,.dz (.bool true)),(165,.dz (.bool false))] 0 Tryz.f172 [0,1,160] (dF aeq) (IV r []) [([],
   [(V.bool (decide ((0:Int)<=r))=V.bool true),(V.bool (decide (r<(128:Int)))=V.bool false)],
   .to .normal (IV r [(160,.bool false)]))]
 :=dj.of C C C
theorem ap0:dw (U dY []) [(173,.dz (.bool false))] 0 Tryz.f172 [0,1,171] (dF aer) (IV r [(160,.bool false)]) [([],
   [(V.bool (r==(65533:Int))=V.bool false)],
   .to .normal (IV r [(171,.bool false)]))]
 :=dj.of C C C
theorem ap1:dw (U dY [(180,[(5,.dz (.bool true)),(8,.split),(12,.dz (.bool true)),(15,.dz (.bool true))])]) [] 0 Tryz.f172 [0,1,183] (dF Zi) (IV r [(171,.bool false)]) [([((decide (r<(55296:Int))),true)],
   [(V.bool (decide ((0:Int)<=r))=V.bool true)],
   .to .normal (IV r [(183,.bool false)])),
  ([((decide (r<(55296:Int))),false)],
   [(V.bool (decide ((0:Int)<=r))=V.bool true),(V.bool (decide ((57343:Int)<r))=V.bool true),(V.bool (decide (r<=(1114111:Int)))=V.bool true)],
   .to .normal (IV r [(183,.bool false)]))]
 :=dj.of C C C
def xu:Code->Code
 | .scope c=>c
 |c=>c
noncomputable abbrev cS1:Code:=xu Rw
noncomputable abbrev bS1:Code:=dG (dG (dF (dr 4 cS1)))
noncomputable abbrev cS2:Code:=xu (dG (dX bS1))
def KY(k:Nat):St:=IV r [(7,.str (gT r)),(8,M k),(9,M k),(10,M 0)]
theorem aes:dw (U dY []) [(20,.dz (M 2))] 0 Tryz.f172 [0,1,7,8,9,10] (dM 4 cS1) (IV r [(183,.bool false)]) [([],
   [(V.int A (Int.ofNat (gT r).length)=M 2)],
   .to .normal (KY r 1))]
 :=dj.of C C C
theorem aet:dw (U dY []) [] 0 Tryz.f172 [0,1,7,8,9,10] (dF bS1) (KY r 1) [([],
   [],
   .to .normal (KY r 1))]
 :=dj.of C C C
abbrev LZ:Prop:=V.int IntKind.u8 (Int.ofNat ((gT r).getD 1 (0:UInt8)).toNat)=V.int IntKind.u8 b
theorem aeu:dw (U Wib []) [(32,.dz (.int .u8 b)),(33,.dz (.bool true)),(40,.dz (.int .u8 b)),(43,.dz (.bool true))] 0 Tryz.f172 [0] (dF cS2) (KY r 1) [([],
   [((0:Int)<=(1:Int)/\1<38),((0:Int)<=(1:Int)/\1<(gT r).length),LZ r b,(V.bool ((98:Int) !=b)=V.bool true),((0:Int)<=(2:Int)/\(2:Int)<=(38:Int)),((0:Int)<=(1:Int)/\1<(gT r).length),LZ r b,(V.bool (decide (Lib.indexByte (List.drop 2 (List.take 38 oC)) b.toNat.toUInt8<(0:Int)))=V.bool true)],
   .ret (.int .i64 (-1)) (G []) 0)]
 :=dj.of C C C
theorem aev:dw (U dY []) [(20,.dz (M 3))] 0 Tryz.f172 [0,1,7,8,9,10] (dM 4 cS1) (IV r [(183,.bool false)]) [([],
   [(V.int A (Int.ofNat (gT r).length)=M 3)],
   .to .normal (KY r 2))]
 :=dj.of C C C
theorem aew:dw (U dY []) [] 0 Tryz.f172 [0,1,7,8,9,10] (dF bS1) (KY r 2) [([],
   [],
   .to .normal (KY r 2))]
 :=dj.of C C C
abbrev L0:Prop:=V.int IntKind.u8 (Int.ofNat ((gT r).getD 2 (0:UInt8)).toNat)=V.int IntKind.u8 b
theorem aex:dw (U Wib []) [(32,.dz (.int .u8 b)),(33,.dz (.bool true)),(40,.dz (.int .u8 b)),(43,.dz (.bool true))] 0 Tryz.f172 [0] (dF cS2) (KY r 2) [([],
   [((0:Int)<=(2:Int)/\2<38),((0:Int)<=(2:Int)/\2<(gT r).length),L0 r b,(V.bool ((99:Int) !=b)=V.bool true),((0:Int)<=(3:Int)/\(3:Int)<=(38:Int)),((0:Int)<=(2:Int)/\2<(gT r).length),L0 r b,(V.bool (decide (Lib.indexByte (List.drop 3 (List.take 38 oC)) b.toNat.toUInt8<(0:Int)))=V.bool true)],
   .ret (.int .i64 (-1)) (G []) 0)]
 :=dj.of C C C
theorem aey:dw (U dY []) [(20,.dz (M 4))] 0 Tryz.f172 [0,1,7,8,9,10] (dM 4 cS1) (IV r [(183,.bool false)]) [([],
   [(V.int A (Int.ofNat (gT r).length)=M 4)],
   .to .normal (KY r 3))]
 :=dj.of C C C
theorem aez:dw (U dY []) [] 0 Tryz.f172 [0,1,7,8,9,10] (dF bS1) (KY r 3) [([],
   [],
   .to .normal (KY r 3))]
 :=dj.of C C C
abbrev L3:Prop:=V.int IntKind.u8 (Int.ofNat ((gT r).getD 3 (0:UInt8)).toNat)=V.int IntKind.u8 b
theorem aeA:dw (U Wib []) [(32,.dz (.int .u8 b)),(33,.dz (.bool true)),(40,.dz (.int .u8 b)),(43,.dz (.bool true))] 0 Tryz.f172 [0] (dF cS2) (KY r 3) [([],
   [((0:Int)<=(3:Int)/\3<38),((0:Int)<=(3:Int)/\3<(gT r).length),L3 r b,(V.bool ((100:Int) !=b)=V.bool true),((0:Int)<=(4:Int)/\(4:Int)<=(38:Int)),((0:Int)<=(3:Int)/\3<(gT r).length),L3 r b,(V.bool (decide (Lib.indexByte (List.drop 4 (List.take 38 oC)) b.toNat.toUInt8<(0:Int)))=V.bool true)],
   .ret (.int .i64 (-1)) (G []) 0)]
 :=dj.of C C C
theorem ap3:dw (U (fb 172 [.str oC,iR r] (L a) dY) []) [] 0 Tryz.f152 [] (dI Tryz.f152) (dy [.str oC,iR r] .nil 0) [([],
   [(fa [.str oC,iR r])],
   .ret (.bool (decide (a>=(0:Int)))) (G []) 0)]
 :=dj.of C C C
theorem ap4(b:Bool):dw (U (fb 152 [.str oC,iR r] (.bool b) dY) []) [] 0 Tryz.f151 [] (dI Tryz.f151) (dy [iR r] .nil 0) [([],
   [(fa [.str oC,iR r])],
   .ret (.bool (!b)) (G []) 0)]
 :=dj.of C C C
theorem ap5:dw (U (fb 173 [.str s,mK 151,.bool true] (L a) dY) []) [] 0 Tryz.f153 [] (dI Tryz.f153) (dy [.str s,mK 151] .nil 0) [([],
   [(V.lA ([]++[V.str s,mK 151,V.bool true]++[])=[V.str s,mK 151,V.bool true])],
   .ret (.int .i64 a) (G []) 0)]
 :=dj.of C C C
theorem ap6:dw (U (fb 153 [.str s,mK 151] (L a) dY) []) [(6,.split)] 0 Tryz.f125 [] (dI Tryz.f125) (dy [.str s] .nil 0) [([((decide ((Int.ofNat s.length)<=(12:Int))),true)],
   [(V.lA ([]++[V.str s,V.fn (Fn.func 151) [] []]++[])=[V.str s,mK 151])],
   .ret (.bool (decide (a<(0:Int)))) (G []) 0),
  ([((decide ((Int.ofNat s.length)<=(12:Int))),false)],
   [],
   .ret (.bool false) (G []) 0)]
 :=dj.of C C C
end
set_option maxRecDepth 10000
section
variable{F fr:Nat}{c:Code}{s:St}{h1:Exit->St->Prop}
def Rx(h1:Exit->St->Prop):Exit->St->Prop
 | .goto _,_=>False
 |y,s=>h1 y s
def L4:Code->Bool
 | .scope _=>true
 |_=>false
theorem yI(h:TG ak F fr (xu c) s (Rx h1))(B:L4 c=true:=by kernel_rfl):TG ak F fr c s h1:=by
 cases c<;>simp only[L4,aM]at B;intro E a w hm r hn k;refine wp_scope_straight (h E a w _ r hn fun y X E' a' w' q u n7 r'=>?_);cases y<;>first|exact k _ X E' a' w' q u n7 r'|exact q.elim
end
theorem Ux{r:Int}(Q:128<=r)(O:r<1114112)(hv:¬(55296<=r/\r<=57343)):∃k,(k=1\/k=2\/k=3)/\(gT r).length=k+1/\(gT r).getD k 0=UInt8.ofNat (128+r.toNat%64):=by
 have Uy:Utf8.valid r=true:=by
  unfold Utf8.valid;simp only[bX,ay,aY];omega
 unfold gT Utf8.encode;simp only[Uy,if_true];rw[aB (show ¬r.toNat<0x80 by omega)];by_cases c1:r.toNat<0x800
 . rw[aG c1];exact⟨1,.inl rfl,rfl,rfl⟩
 . rw[aB c1];by_cases c2:r.toNat<0x10000
   . rw[aG c2];exact⟨2,.inr (.inl rfl),rfl,rfl⟩
   . rw[aB c2];exact⟨3,.inr (.inr rfl),rfl,rfl⟩
section
variable(r:Int)(x:Nat)(s:aa)(b:UInt8)
def VV:Int:=if r<128 then Lib.indexByte oC r.toNat.toUInt8 else -1
theorem Uz:oC.all (fun b=>decide (b.toNat<128))=true:=by decide
theorem vH{l:aa}{c:UInt8}(h:∀b∈l,b≠c):Lib.indexByte l c= -1:=by
 induction l with
 |nil=>rfl
 |cons b l ih=>
  unfold Lib.indexByte;rw[aB (by simpa using h b (bx ..)),ih fun b hb=>h b (bj _ hb)];rfl
abbrev RGi:Exit->St->Prop:=fH ak 0 Tryz.f172 fun u _ _=>u=L (-1)
theorem Zj(hl:(gT r).length=1+1)(hg:(gT r).getD 1 0=b)(hb:∀x∈oC,x≠b):TG ak 0 Tryz.f172.ntmps (xu Rw) (IV r [(183,.bool false)]) (Rx (gk 0 RGi)):=by
 have e1:V.int A (Int.ofNat (gT r).length)=M 2:=by rw[hl]
 have e2:V.int IntKind.u8 (Int.ofNat ((gT r).getD 1 (0:UInt8)).toNat)=V.int IntKind.u8 (Int.ofNat b.toNat):=by rw[hg]
 have e3:V.bool ((98:Int) !=Int.ofNat b.toNat)=V.bool true:=aI V.bool (by
  have:(98:UInt8)≠b:=hb _ eY;rw[bne_iff_ne];intro e;refine this (UInt8.toNat_inj.1 ?_);have e:((98:Nat):Int)=(b.toNat:Int):=e;exact Int.ofNat_inj.1 e)
 have e4:V.bool (decide (Lib.indexByte (List.drop 2 (List.take 38 oC)) (Int.ofNat b.toNat).toNat.toUInt8<(0:Int)))=V.bool true:=by
  have eb:(Int.ofNat b.toNat).toNat.toUInt8=b:=by
   show b.toNat.toUInt8=b;exact UInt8.ofNat_toNat
  rw[eb,vH fun x I=>hb x (cJ (List.mem_of_mem_drop I))];rfl
 refine fF 4 (di _) (aes r) (eG e1) ?_;refine dK C (fh (i:=1) C (jD (fun _ s=>s=KY r 1) C ?_ 0 rfl));rintro m s rfl;refine dK C (gv (di _) eE (aet r) (dB (g0 ⟨all_nil,fun X dQ=>?_⟩)));simp only[andThen];refine fU dQ (fh (i:=2) C (yI ?_));refine qt Gv (fun u _ _=>u=L (-1)) (aeu r (Int.ofNat b.toNat)) (dB (g0 ⟨?_,rfl,fun X h=>h⟩))
 repeat' (first|exact all_nil|refine S ?_ ?_)
 all_goals first
  |exact e2
  |exact e3
  |exact e4
  |decide
  |(rw[hl];decide)
theorem Zk(hl:(gT r).length=2+1)(hg:(gT r).getD 2 0=b)(hb:∀x∈oC,x≠b):TG ak 0 Tryz.f172.ntmps (xu Rw) (IV r [(183,.bool false)]) (Rx (gk 0 RGi)):=by
 have e1:V.int A (Int.ofNat (gT r).length)=M 3:=by rw[hl]
 have e2:V.int IntKind.u8 (Int.ofNat ((gT r).getD 2 (0:UInt8)).toNat)=V.int IntKind.u8 (Int.ofNat b.toNat):=by rw[hg]
 have e3:V.bool ((99:Int) !=Int.ofNat b.toNat)=V.bool true:=aI V.bool (by
  have:(99:UInt8)≠b:=hb _ eY;rw[bne_iff_ne];intro e;refine this (UInt8.toNat_inj.1 ?_);have e:((99:Nat):Int)=(b.toNat:Int):=e;exact Int.ofNat_inj.1 e)
 have e4:V.bool (decide (Lib.indexByte (List.drop 3 (List.take 38 oC)) (Int.ofNat b.toNat).toNat.toUInt8<(0:Int)))=V.bool true:=by
  have eb:(Int.ofNat b.toNat).toNat.toUInt8=b:=by
   show b.toNat.toUInt8=b;exact UInt8.ofNat_toNat
  rw[eb,vH fun x I=>hb x (cJ (List.mem_of_mem_drop I))];rfl
 refine fF 4 (di _) (aev r) (eG e1) ?_;refine dK C (fh (i:=1) C (jD (fun _ s=>s=KY r 2) C ?_ 0 rfl));rintro m s rfl;refine dK C (gv (di _) eE (aew r) (dB (g0 ⟨all_nil,fun X dQ=>?_⟩)));simp only[andThen];refine fU dQ (fh (i:=2) C (yI ?_));refine qt Gv (fun u _ _=>u=L (-1)) (aex r (Int.ofNat b.toNat)) (dB (g0 ⟨?_,rfl,fun X h=>h⟩))
 repeat' (first|exact all_nil|refine S ?_ ?_)
 all_goals first
  |exact e2
  |exact e3
  |exact e4
  |decide
  |(rw[hl];decide)
theorem Zl(hl:(gT r).length=3+1)(hg:(gT r).getD 3 0=b)(hb:∀x∈oC,x≠b):TG ak 0 Tryz.f172.ntmps (xu Rw) (IV r [(183,.bool false)]) (Rx (gk 0 RGi)):=by
 have e1:V.int A (Int.ofNat (gT r).length)=M 4:=by rw[hl]
 have e2:V.int IntKind.u8 (Int.ofNat ((gT r).getD 3 (0:UInt8)).toNat)=V.int IntKind.u8 (Int.ofNat b.toNat):=by rw[hg]
 have e3:V.bool ((100:Int) !=Int.ofNat b.toNat)=V.bool true:=aI V.bool (by
  have:(100:UInt8)≠b:=hb _ eY;rw[bne_iff_ne];intro e;refine this (UInt8.toNat_inj.1 ?_);have e:((100:Nat):Int)=(b.toNat:Int):=e;exact Int.ofNat_inj.1 e)
 have e4:V.bool (decide (Lib.indexByte (List.drop 4 (List.take 38 oC)) (Int.ofNat b.toNat).toNat.toUInt8<(0:Int)))=V.bool true:=by
  have eb:(Int.ofNat b.toNat).toNat.toUInt8=b:=by
   show b.toNat.toUInt8=b;exact UInt8.ofNat_toNat
  rw[eb,vH fun x I=>hb x (cJ (List.mem_of_mem_drop I))];rfl
 refine fF 4 (di _) (aey r) (eG e1) ?_;refine dK C (fh (i:=1) C (jD (fun _ s=>s=KY r 3) C ?_ 0 rfl));rintro m s rfl;refine dK C (gv (di _) eE (aez r) (dB (g0 ⟨all_nil,fun X dQ=>?_⟩)));simp only[andThen];refine fU dQ (fh (i:=2) C (yI ?_));refine qt Gv (fun u _ _=>u=L (-1)) (aeA r (Int.ofNat b.toNat)) (dB (g0 ⟨?_,rfl,fun X h=>h⟩))
 repeat' (first|exact all_nil|refine S ?_ ?_)
 all_goals first
  |exact e2
  |exact e3
  |exact e4
  |decide
  |(rw[hl];decide)
theorem irD(h0:0<=r)(Q:r<=1114111):dU ak 172 [.str oC,iR r] (L (VV r)):=by
 have b0:V.bool (decide ((0:Int)<=r))=V.bool true:=aI V.bool (aZ h0);by_cases ha:r<128
 . refine eX Tryz.func172 (eK Gv (apV r) (dB (g0 ⟨S b0 (eG (aI V.bool (aZ ha))),_,_,_,rfl,?_⟩)));unfold VV;have e:IntKind.u8.wrap r=r:=by
    unfold IntKind.wrap;have e1:(2^IntKind.u8.bits:Int)=256:=by decide
    have e3:IntKind.u8.signed=false:=rfl;simp only[e1,e3,aS,aM,cz];omega
   rw[aG ha,e]
 have eF:VV r= -1:=aB ha;rw[eF];have b1:V.bool (decide (r<(128:Int)))=V.bool false:=aI V.bool (aT ha);by_cases hb:r=65533
 . subst hb;exact eX Tryz.func172 (eK (di _) apW (dB (g0 ⟨all_nil,_,_,_,rfl,rfl⟩)))
 have b2:V.bool (r==(65533:Int))=V.bool false:=aI V.bool (b5.2 hb);by_cases B:55296<=r/\r<=57343
 . exact eX Tryz.func172 (eK (di _) (apX r) (dB (g0 ⟨S b0 (S b1 (S b2 (S b0 (S (aI V.bool (aT H)) (eG (aI V.bool (aT H))))))),_,_,_,rfl,rfl⟩)))
 obtain⟨k,W,hl,hg⟩:=Ux H H B;have hby:(UInt8.ofNat (128+r.toNat%64)).toNat=128+r.toNat%64:=by
  have:128+r.toNat%64<256:=by omega
  simp[UInt8.toNat_ofNat'];omega
 have hbn:∀b∈oC,b≠UInt8.ofNat (128+r.toNat%64):=fun b hb e=>by
  have Q:=br.1 Uz b hb;rw[aY]at Q;rw[e,hby]at Q;omega
 have go:TG ak 0 Tryz.f172.ntmps (xu Rw) (IV r [(183,.bool false)]) (Rx (gk 0 RGi)):=by
  rcases W with rfl|rfl|rfl
  . exact Zj r _ hl hg hbn
  . exact Zk r _ hl hg hbn
  . exact Zl r _ hl hg hbn
 refine eX Tryz.func172 (fF 1 (di _) (apY r) all_nil (fh (i:=0) C ?_));refine qt (di _) eE (apZ r) (dB (g0 ⟨S b0 (eG b1),?_⟩));refine jR (t:=false) C C (fun q=>by cases q) (fun _=>?_);refine qt (di _) eE (ap0 r) (dB (g0 ⟨eG b2,?_⟩));refine jR (t:=false) C C (fun q=>by cases q) (fun _=>?_);have oI:=jR (P:=ak) (F:=0) (fr:=Tryz.f172.ntmps) (c:=dX Zi) (s:=IV r [(183,.bool false)]) (h1:=gk 0 RGi) (t:=false) C C (fun q=>by cases q) (fun _=>yI go);refine qt (di _) eE (ap1 r) (dD (g1 fun _=>⟨eG b0,oI⟩) (dB (g1 fun h=>⟨S b0 (S (aI V.bool (aZ (by have:=bB h;omega))) (eG (aI V.bool (aZ Q)))),oI⟩)))
def nk:Bool:=!decide (VV (x:Int)>=0)
theorem ap7(h:x<=1114111):dU ak 151 [iR x] (.bool (nk x)):=by
 have Q:=irD (x:Int) H H;have O:dU ak 152 [.str oC,iR x] (.bool (decide (VV (x:Int)>=0))):=eX Tryz.func152 (eK (fu Q (di _)) (ap3 x (VV x)) (dB (g0 ⟨eG rfl,_,_,_,rfl,rfl⟩)));exact eX Tryz.func151 (eK (fu O (di _)) (ap4 x _) (dB (g0 ⟨eG rfl,_,_,_,rfl,rfl⟩)))
theorem Zm:dU ak 173 [.str s,mK 151,.bool true] (L (Lib.idxFunc nk true ⟨s.toArray⟩)):=fun E h n w dH ra g hd=>by
 obtain⟨y,ys,r0,rs,rfl⟩:=ra;obtain⟨z,zs,r1,rs2,rfl⟩:=rs;obtain⟨t,ts,r2,rs3,rfl⟩:=rs2;have rs3:ts=[]:=rs3;subst rs3;have r0:y= .string ⟨s.toArray⟩:=r0;have r2:t= .bool true:=r2;subst r0;subst r2;obtain⟨f',a',c',rf,qa,qc,rfl⟩:=r1;have rf:f'= .func 151:=rf;have qa:a'=[]:=qa;have qc:c'=[]:=qc;subst rf;subst qa;subst qc;refine(Any.strings_indexFunc_grows Zg 151 #[] (fun args w=>rfl) nk true ⟨s.toArray⟩ w fun hk x I hb=>?_).mono fun en w' ⟨he,hw⟩=>?_
 . have g0:Eng.Good (Bo fun _=>none) .nil hk:=wR (fun p hp=>by cases hp) (fun b c q=>by cases q);refine(ap7 x I (Bo fun _=>none) .nil gN hk [.int .i32 x] ⟨_,[],rfl,rfl,rfl⟩ g0 (Cw (aK _))).mono fun en w' c=>?_;obtain⟨⟨E2,ho⟩,b⟩:=qJ wX c;cases en with
   |returned v=>have ho:v= .bool (nk x):=ho;exact⟨by rw[ho],b⟩
   |_=>exact ho.elim
 . subst he;exact uR g hd rfl ⟨E,rfl⟩ hw
theorem ap9:dU ak 153 [.str s,mK 151] (L (Lib.idxFunc nk true ⟨s.toArray⟩)):=
 eX Tryz.func153 (eK (fu (Zm s) (di _)) (ap5 s _) (dB (g0 ⟨eG rfl,_,_,_,rfl,rfl⟩)))
end
set_option maxRecDepth 10000
theorem Ny{l:aa}{c:UInt8}(h:c∈l):0<=Lib.indexByte l c:=by
 induction l with
 |nil=>cases h
 |cons b l ih=>
  unfold Lib.indexByte;by_cases e:b=c
  . rw[aG (by simpa using e)];exact Int.le_refl _
  . rw[aB (by simpa using e)];have:=ih ((aD.1 h).resolve_left fun q=>e q.symm);rw[aB (by simp;omega)];omega
theorem KZ(l:aa)(c:UInt8):decide (Lib.indexByte l c>=0)=l.contains c:=by
 by_cases h:c∈l
 . rw[cM.2 h];exact aZ (Ny h)
 . rw[vH (l:=l) (c:=c) fun b hb e=>h (by rw[<- e];exact hb)];have:l.contains c=false:=by rw[<- Bool.not_eq_true,cM];exact h
   rw[this];rfl
theorem UA:((List.range 256).all fun n=>(oC.contains (UInt8.ofNat n))== !C0 (n:Int))=true:=by decide
section
variable{x:Nat}(s:ByteArray)(i:Nat)
theorem IW(h:x<128):nk x=C0 (x:Int):=by
 unfold nk VV;rw[aG H,KZ];have:=br.1 UA x (bL.2 H);rw[cG]at this;have e:((x:Int).toNat).toUInt8=UInt8.ofNat x:=rfl;rw[e,this,Bool.not_not]
theorem Gw(h:128<=x):nk x=true:=by
 unfold nk VV;rw[aB H];rfl
theorem UB(h:(s.get! i).toNat<128):Utf8.decode s i=((s.get! i).toNat,1):=by
 unfold Utf8.decode;simp only[Nat.add_zero];rw[aG h]
theorem Ry(h:128<=(s.get! i).toNat):128<=(Utf8.decode s i).1:=by
 unfold Utf8.decode;simp only[Nat.add_zero];rw[aB H];split
 . split
   . rename_i O;exact O
   . decide
 . split
   . split
     . rename_i O;simp only[ay,aY]at O;omega
     . decide
   . split
     . split
       . rename_i O;simp only[ay,aY]at O;omega
       . decide
     . decide
end
theorem UC(l:aa):∀(f pos:Nat),l.length<=pos+f->(Lib.idxFuncFrom nk true ⟨l.toArray⟩ f pos<0↔∀i,pos<=i->i<l.length->C0 (Int.ofNat (l.getD i 0).toNat)=false):=by
 have my:(⟨l.toArray⟩:ByteArray).size=l.length:=by show l.toArray.size=_;simp
 have lC:∀i,i<l.length->(⟨l.toArray⟩:ByteArray).get! i=l.getD i 0:=fun i hi=>by
  show l.toArray[i]! =_;rw[ax,au hi];simp[hi]
 intro f
 induction f with
 |zero=>
  intro pos h;unfold Lib.idxFuncFrom;exact⟨fun _ i Q O=>absurd O H,fun _=>by decide⟩
 |succ f ih=>
  intro pos h;unfold Lib.idxFuncFrom;rw[my];by_cases hp:pos<l.length
  . rw[aG hp];have hg:=lC pos hp;by_cases hb:(l.getD pos 0).toNat<128
    . rw[UB _ _ (by rw[hg];exact hb),hg];simp only;rw[IW hb];cases B:C0 ((l.getD pos 0).toNat:Int)with
      |true=>
       rw[aG rfl];refine⟨fun q=>absurd q H,fun q=>?_⟩;have:=q pos (aK _) hp;rw[gQ,B]at this;cases this
      |false=>
       rw[aB eY,ih (pos+1) H];constructor
       . intro q i Q O;rcases Nat.eq_or_lt_of_le Q with rfl|h3
         . exact B
         . exact q i h3 O
       . exact fun q i Q O=>q i H O
    . have hd:=Ry ⟨l.toArray⟩ pos (by rw[hg];omega);rw[Gw hd,aG rfl];refine⟨fun q=>absurd q H,fun q=>?_⟩;have:=q pos (aK _) hp;unfold C0 at this;simp only[gQ,Bool.and_eq_false_iff,cK,bu,bne_eq_false_iff_eq]at this;omega
  . rw[aB hp];exact⟨fun _ i Q O=>absurd O H,fun _=>by decide⟩
theorem UD(s:aa):dU ak 125 [.str s] (.bool (sk s)):=by
 have e:decide (Lib.idxFunc nk true ⟨s.toArray⟩<(0:Int))=!(s.any fun b=>C0 (Int.ofNat b.toNat)):=by
  rw[Bool.eq_iff_iff,aY,bV,cT];have my:(⟨s.toArray⟩:ByteArray).size=s.length:=by show s.toArray.size=_;simp
  unfold Lib.idxFunc;rw[my,UC s s.length 0 H];constructor
  . intro h b hb;obtain⟨i,hi,rfl⟩:=b6 hb;have:=h i (aU _) hi;rw[ax,au hi]at this;simpa using this
  . intro h i _ hi;have:=h _ (bK hi);rw[ax,au hi];simpa using this
 refine eX Tryz.func125 (eK (fu (ap9 s) (di _)) (ap6 s _) (dD (g1 fun h=>⟨eG rfl,_,_,_,rfl,aI V.bool ?_⟩) (dB (g1 fun h=>⟨all_nil,_,_,_,rfl,aI V.bool ?_⟩))))
 . rw[e];unfold sk;rw[h,ct]
 . unfold sk;rw[h,cB]
set_option maxRecDepth 10000
def rC:Code->Nat
 | .region _ ops _=>ops.size-1
 |_=>0
abbrev kE(c:Code):Code:=D5 (rC c) c
def K0:List Eng.D->Option (ah×V)
 | [.agg [.int .i64 k,.int .i64 r,.eB n eM,.int .i64 dv,.int .i64 vl,.eB m cu]]=>some ([eM=dO (ee eM),n=(ee eM).length,n<=1000000,cu=dO (ee cu),m=(ee cu).length,m<=1000000],.str (fW ⟨k,r,ee eM,dv,vl,ee cu⟩))
 |_=>none
noncomputable abbrev Wfb:gF:=jZ 63 (Go.Eng.dW K0) dY
noncomputable abbrev gq:Code:=dI Tryz.f93
def jq(d:Dc)(T:List (Eng.D×Eng.D))(x:eJ)(r:List (Nat×V)):St:=fq ([(0,pT),(3,.ptr (some (2,0)))]++r) (G [(0,.cells (d.R++[.map (some 1)])),(1,.gl (some .i64) T),(2,.cells x.R)]) 3
theorem aqa(d:Dc)(T:List (Eng.D×Eng.D))(x:eJ):dw (U dY []) [] 2 Tryz.f93 [0,3] (dM 1 gq) (dy [pT,x.v] (lR d T) 2) [([],
   [],
   .to .normal (jq d T x []))]
 :=dj.of C C C
section
variable(x:eJ)
theorem aqb(d:Dc)(T:List (Eng.D×Eng.D))(x:eJ):dw (U dY []) [(8,.split),(12,.split)] 2 Tryz.f93 [0,3,13,15] (kE (dF (dr 1 gq))) (jq d T x []) [([((decide (x.kd>=(1:Int))),true),((decide (x.kd<=(5:Int))),true)],
   [],
   .to .normal (jq d T x [(13,.bool true),(15,L x.id)])),
  ([((decide (x.kd>=(1:Int))),true),((decide (x.kd<=(5:Int))),false)],
   [],
   .to .normal (jq d T x [(13,.bool false),(15,L x.id)])),
  ([((decide (x.kd>=(1:Int))),false)],
   [],
   .to .normal (jq d T x [(13,.bool false),(15,L x.id)]))]
 :=dj.of C C C
theorem aqc(d:Dc)(T:List (Eng.D×Eng.D))(x:eJ)(b:Bool):dw (U (fb 125 [.str x.nm] (.bool b) dY) []) [] 2 Tryz.f93 [0,3,19,21] (kE (dF (dr 2 gq))) (jq d T x []) [([],
   [(V.lA ([]++[V.str x.nm]++[])=[V.str x.nm])],
   .to .normal (jq d T x [(19,.bool b),(21,L x.id)]))]
 :=dj.of C C C
theorem aqd(d:Dc)(T:List (Eng.D×Eng.D))(x:eJ):dw (U dY []) [(25,.split),(29,.split),(34,.split),(39,.split)] 2 Tryz.f93 [0,3,40,42] (kE (dF (dr 3 gq))) (jq d T x []) [([((decide (x.op>=(0:Int))),true),((decide (x.op<=(255:Int))),true),((decide (x.md>=(0:Int))),true),((decide (x.md<=(15:Int))),true)],
   [],
   .to .normal (jq d T x [(40,.bool true),(42,L x.id)])),
  ([((decide (x.op>=(0:Int))),true),((decide (x.op<=(255:Int))),true),((decide (x.md>=(0:Int))),true),((decide (x.md<=(15:Int))),false)],
   [],
   .to .normal (jq d T x [(40,.bool false),(42,L x.id)])),
  ([((decide (x.op>=(0:Int))),true),((decide (x.op<=(255:Int))),true),((decide (x.md>=(0:Int))),false)],
   [],
   .to .normal (jq d T x [(40,.bool false),(42,L x.id)])),
  ([((decide (x.op>=(0:Int))),true),((decide (x.op<=(255:Int))),false)],
   [],
   .to .normal (jq d T x [(40,.bool false),(42,L x.id)])),
  ([((decide (x.op>=(0:Int))),false)],
   [],
   .to .normal (jq d T x [(40,.bool false),(42,L x.id)]))]
 :=dj.of C C C
abbrev Gx:Prop:=V.lA ([]++[V.agg (List.take 1 (List.drop 30 x.R))]++[])=[ox x.iH]
theorem aqe(d:Dc)(T:List (Eng.D×Eng.D))(x:eJ)(b:Bool):dw (U (fb 126 [ox x.iH] (.bool b) dY) []) [(47,.split),(49,.split),(55,.split)] 2 Tryz.f93 [0,3,57,59] (kE (dF (dr 4 gq))) (jq d T x []) [([(b,true),((x.K),true)],
   [Gx x],
   .to .normal (jq d T x [(57,.bool true),(59,L x.id)])),
  ([(b,true),((x.K),false),(((Int.ofNat x.iH.length)==(0:Int)),true)],
   [Gx x],
   .to .normal (jq d T x [(57,.bool true),(59,L x.id)])),
  ([(b,true),((x.K),false),(((Int.ofNat x.iH.length)==(0:Int)),false)],
   [Gx x],
   .to .normal (jq d T x [(57,.bool false),(59,L x.id)])),
  ([(b,false)],
   [Gx x],
   .to .normal (jq d T x [(57,.bool false),(59,L x.id)]))]
 :=dj.of C C C
abbrev zfC:ag:=[L 0,L 0,gG,L 0,L 0,gG]
def IX(pl:P7)(sp:Int)(kids:V)(of:Int)(f:ag)(fi:C4)(gW gd:V):ag:=[L 0,L 0,.str [],.bool false,L 0,L 0,.bool false]++(pl.R++([L sp,kids,L of]++(f++(fi.R++[gW,gd,.bool false,gG]))))
def Rz:ag:=IX x.pl x.sp gG 0 zfC z4 gG (rsV x.gd)
def Nz:ag:=IX z7 0 (fj x.kids) 0 zfC z4 gG gG
def L5:ag:=IX z7 0 gG 0 x.f.R z4 gG gG
def N4:ag:=IX x.pl 0 gG x.of zfC z4 gG gG
def N5:ag:=IX z7 0 gG 0 zfC x.fi (w8 x.gW) gG
def mG(d:Dc)(T:List (Eng.D×Eng.D))(x:eJ)(pl:Bool)(u:ag)(r:List (Nat×V)):St:=fq ([(0,pT),(3,.ptr (some (2,0))),(4,.ptr (some (3,0))),(5,.bool pl)]++r) (G [(0,.cells (d.R++[.map (some 1)])),(1,.gl (some .i64) T),(2,.cells x.R),(3,.cells u)]) 4
def vR(d:Dc)(T:List (Eng.D×Eng.D))(x:eJ)(pl:Bool)(r:List (Nat×V)):St:=fq ([(0,pT),(3,.ptr (some (2,0))),(5,.bool pl)]++r) (G [(0,.cells (d.R++[.map (some 1)])),(1,.gl (some .i64) T),(2,.cells x.R)]) 3
theorem aeD(d:Dc)(T:List (Eng.D×Eng.D))(x:eJ):dw (U dY []) [] 2 Tryz.f93 [0,3,4,5] (dM 4 (dr 5 gq)) (jq d T (eP x 1) []) [([],
   [],
   .to .normal (mG d T (eP x 1) true (Rz (eP x 1)) []))]
 :=dj.of C C C
abbrev yJ:Prop:=V.bool (x.pl.a==x.pl.a&&(x.pl.b==x.pl.b&&(x.pl.c==x.pl.c&&(x.pl.d==x.pl.d&&(x.pl.e==x.pl.e&&(x.pl.f==x.pl.f&&(x.pl.n==x.pl.n&&true)))))))=V.bool true
abbrev yK:Prop:=V.bool ((Int.ofNat x.gd.length)==(Int.ofNat x.gd.length))=V.bool true
theorem aeE(d:Dc)(T:List (Eng.D×Eng.D))(x:eJ):dw (U dY []) [(111,.dz (.bool true)),(117,.dz (.bool true)),(128,.dz (.bool true)),(137,.split),(144,.split),(151,.split),(160,.split)] 2 Tryz.f93 [0,3,4,5,161,163] (kE (dF (dr 9 gq))) (mG d T (eP x 1) true (Rz (eP x 1)) []) [([(((Int.ofNat x.kids.length)==(0:Int)),true),((x.of==(0:Int)),true),((x.fi.r==(0:Int)&&(x.fi.g==(0:Int)&&(x.fi.b==(0:Int)&&(x.fi.a==(0:Int)&&true)))),true),(((Int.ofNat x.gW.length)==(0:Int)),true)],
   [yJ x,(V.bool (x.sp==x.sp)=V.bool true),yK x],
   .to .normal (mG d T (eP x 1) true (Rz (eP x 1)) [(161,.bool true),(163,L x.id)])),
  ([(((Int.ofNat x.kids.length)==(0:Int)),true),((x.of==(0:Int)),true),((x.fi.r==(0:Int)&&(x.fi.g==(0:Int)&&(x.fi.b==(0:Int)&&(x.fi.a==(0:Int)&&true)))),true),(((Int.ofNat x.gW.length)==(0:Int)),false)],
   [yJ x,(V.bool (x.sp==x.sp)=V.bool true),yK x],
   .to .normal (mG d T (eP x 1) true (Rz (eP x 1)) [(161,.bool false),(163,L x.id)])),
  ([(((Int.ofNat x.kids.length)==(0:Int)),true),((x.of==(0:Int)),true),((x.fi.r==(0:Int)&&(x.fi.g==(0:Int)&&(x.fi.b==(0:Int)&&(x.fi.a==(0:Int)&&true)))),false)],
   [yJ x,(V.bool (x.sp==x.sp)=V.bool true),yK x],
   .to .normal (mG d T (eP x 1) true (Rz (eP x 1)) [(161,.bool false),(163,L x.id)])),
  ([(((Int.ofNat x.kids.length)==(0:Int)),true),((x.of==(0:Int)),false)],
   [yJ x,(V.bool (x.sp==x.sp)=V.bool true),yK x],
   .to .normal (mG d T (eP x 1) true (Rz (eP x 1)) [(161,.bool false),(163,L x.id)])),
  ([(((Int.ofNat x.kids.length)==(0:Int)),false)],
   [yJ x,(V.bool (x.sp==x.sp)=V.bool true),yK x],
   .to .normal (mG d T (eP x 1) true (Rz (eP x 1)) [(161,.bool false),(163,L x.id)]))]
 :=dj.of C C C
theorem aeF(d:Dc)(T:List (Eng.D×Eng.D))(x:eJ):dw (U Wfb []) [(171,.split)] 2 Tryz.f93 [0,3,5,171,173] (kE (dF (dr 10 gq))) (mG d T (eP x 1) true (Rz (eP x 1)) []) [([((lO (fW { k:=x.f.k,r:=x.f.r,eM:=ee (dO x.f.eM),dv:=x.f.dv,vl:=x.f.vl,cu:=ee (dO x.f.cu) }) (fW { k:=(0:Int),r:=(0:Int),eM:=ee [],dv:=(0:Int),vl:=(0:Int),cu:=ee [] })),true)],
   [(dO x.f.eM=dO (ee (dO x.f.eM))),(x.f.eM.length=(ee (dO x.f.eM)).length),(x.f.eM.length<=1000000),(dO x.f.cu=dO (ee (dO x.f.cu))),(x.f.cu.length=(ee (dO x.f.cu)).length),(x.f.cu.length<=1000000),([]=dO (ee [])),(0=0),(0<=1000000),([]=dO (ee [])),(0=0),(0<=1000000)],
   .to .normal (vR d T (eP x 1) true [(171,.bool true),(173,L x.id)])),
  ([((lO (fW { k:=x.f.k,r:=x.f.r,eM:=ee (dO x.f.eM),dv:=x.f.dv,vl:=x.f.vl,cu:=ee (dO x.f.cu) }) (fW { k:=(0:Int),r:=(0:Int),eM:=ee [],dv:=(0:Int),vl:=(0:Int),cu:=ee [] })),false)],
   [(dO x.f.eM=dO (ee (dO x.f.eM))),(x.f.eM.length=(ee (dO x.f.eM)).length),(x.f.eM.length<=1000000),(dO x.f.cu=dO (ee (dO x.f.cu))),(x.f.cu.length=(ee (dO x.f.cu)).length),(x.f.cu.length<=1000000),([]=dO (ee [])),(0=0),(0<=1000000),([]=dO (ee [])),(0=0),(0<=1000000)],
   .to .normal (vR d T (eP x 1) true [(171,.bool false),(173,L x.id)]))]
 :=dj.of C C C
theorem aeG(d:Dc)(T:List (Eng.D×Eng.D))(x:eJ)(b:Bool):dw (U (fb 127 [x.pl.v] (.bool b) dY) []) [] 2 Tryz.f93 [0,3,181,183] (kE (dF (dr 11 gq))) (vR d T (eP x 1) true []) [([],
   [(V.lA ([]++[V.agg (List.take 7 (List.drop 7 x.R))]++[])=[x.pl.v])],
   .to .normal (jq d T (eP x 1) [(181,.bool b),(183,L x.id)]))]
 :=dj.of C C C
abbrev L6:Prop:=V.lA ([]++[V.agg (List.take 1 (List.drop 28 x.R))]++[])=[ox x.gd]
theorem aeH(d:Dc)(T:List (Eng.D×Eng.D))(x:eJ)(b:Bool):dw (U (fb 126 [ox x.gd] (.bool b) dY) []) [(205,.split)] 2 Tryz.f93 [0,3,224,226] (kE (dr 13 gq)) (jq d T (eP x 1) []) [([(b,true)],
   [L6 x],
   .to .normal (jq d T (eP x 1) [(224,.bool true),(226,L x.id)])),
  ([(b,false)],
   [L6 x],
   .to .normal (jq d T (eP x 1) [(224,.bool false),(226,L x.id)]))]
 :=dj.of C C C
theorem aeI(d:Dc)(T:List (Eng.D×Eng.D))(x:eJ):dw (U dY []) [] 2 Tryz.f93 [0,3,4,5] (dM 4 (dr 5 gq)) (jq d T (eP x 2) []) [([],
   [],
   .to .normal (mG d T (eP x 2) false (Nz (eP x 2)) []))]
 :=dj.of C C C
abbrev BG:Prop:=V.bool ((Int.ofNat x.kids.length)==(Int.ofNat x.kids.length))=V.bool true
theorem aeJ(d:Dc)(T:List (Eng.D×Eng.D))(x:eJ):dw (U dY []) [(111,.split),(117,.split),(128,.split),(137,.dz (.bool true)),(144,.split),(151,.split),(160,.split)] 2 Tryz.f93 [0,3,4,5,161,163] (kE (dF (dr 9 gq))) (mG d T (eP x 2) false (Nz (eP x 2)) []) [([((x.pl.a==(0:Int)&&(x.pl.b==(0:Int)&&(x.pl.c==(0:Int)&&(x.pl.d==(0:Int)&&(x.pl.e==(0:Int)&&(x.pl.f==(0:Int)&&(x.pl.n==(0:Int)&&true))))))),true),((x.sp==(0:Int)),true),(((Int.ofNat x.gd.length)==(0:Int)),true),((x.of==(0:Int)),true),((x.fi.r==(0:Int)&&(x.fi.g==(0:Int)&&(x.fi.b==(0:Int)&&(x.fi.a==(0:Int)&&true)))),true),(((Int.ofNat x.gW.length)==(0:Int)),true)],
   [BG x],
   .to .normal (mG d T (eP x 2) false (Nz (eP x 2)) [(161,.bool true),(163,L x.id)])),
  ([((x.pl.a==(0:Int)&&(x.pl.b==(0:Int)&&(x.pl.c==(0:Int)&&(x.pl.d==(0:Int)&&(x.pl.e==(0:Int)&&(x.pl.f==(0:Int)&&(x.pl.n==(0:Int)&&true))))))),true),((x.sp==(0:Int)),true),(((Int.ofNat x.gd.length)==(0:Int)),true),((x.of==(0:Int)),true),((x.fi.r==(0:Int)&&(x.fi.g==(0:Int)&&(x.fi.b==(0:Int)&&(x.fi.a==(0:Int)&&true)))),true),(((Int.ofNat x.gW.length)==(0:Int)),false)],
   [BG x],
   .to .normal (mG d T (eP x 2) false (Nz (eP x 2)) [(161,.bool false),(163,L x.id)])),
  ([((x.pl.a==(0:Int)&&(x.pl.b==(0:Int)&&(x.pl.c==(0:Int)&&(x.pl.d==(0:Int)&&(x.pl.e==(0:Int)&&(x.pl.f==(0:Int)&&(x.pl.n==(0:Int)&&true))))))),true),((x.sp==(0:Int)),true),(((Int.ofNat x.gd.length)==(0:Int)),true),((x.of==(0:Int)),true),((x.fi.r==(0:Int)&&(x.fi.g==(0:Int)&&(x.fi.b==(0:Int)&&(x.fi.a==(0:Int)&&true)))),false)],
   [BG x],
   .to .normal (mG d T (eP x 2) false (Nz (eP x 2)) [(161,.bool false),(163,L x.id)])),
  ([((x.pl.a==(0:Int)&&(x.pl.b==(0:Int)&&(x.pl.c==(0:Int)&&(x.pl.d==(0:Int)&&(x.pl.e==(0:Int)&&(x.pl.f==(0:Int)&&(x.pl.n==(0:Int)&&true))))))),true),((x.sp==(0:Int)),true),(((Int.ofNat x.gd.length)==(0:Int)),true),((x.of==(0:Int)),false)],
   [BG x],
   .to .normal (mG d T (eP x 2) false (Nz (eP x 2)) [(161,.bool false),(163,L x.id)])),
  ([((x.pl.a==(0:Int)&&(x.pl.b==(0:Int)&&(x.pl.c==(0:Int)&&(x.pl.d==(0:Int)&&(x.pl.e==(0:Int)&&(x.pl.f==(0:Int)&&(x.pl.n==(0:Int)&&true))))))),true),((x.sp==(0:Int)),true),(((Int.ofNat x.gd.length)==(0:Int)),false)],
   [],
   .to .normal (mG d T (eP x 2) false (Nz (eP x 2)) [(161,.bool false),(163,L x.id)])),
  ([((x.pl.a==(0:Int)&&(x.pl.b==(0:Int)&&(x.pl.c==(0:Int)&&(x.pl.d==(0:Int)&&(x.pl.e==(0:Int)&&(x.pl.f==(0:Int)&&(x.pl.n==(0:Int)&&true))))))),true),((x.sp==(0:Int)),false)],
   [],
   .to .normal (mG d T (eP x 2) false (Nz (eP x 2)) [(161,.bool false),(163,L x.id)])),
  ([((x.pl.a==(0:Int)&&(x.pl.b==(0:Int)&&(x.pl.c==(0:Int)&&(x.pl.d==(0:Int)&&(x.pl.e==(0:Int)&&(x.pl.f==(0:Int)&&(x.pl.n==(0:Int)&&true))))))),false)],
   [],
   .to .normal (mG d T (eP x 2) false (Nz (eP x 2)) [(161,.bool false),(163,L x.id)]))]
 :=dj.of C C C
theorem aeK(d:Dc)(T:List (Eng.D×Eng.D))(x:eJ):dw (U Wfb []) [(171,.split)] 2 Tryz.f93 [0,3,5,171,173] (kE (dF (dr 10 gq))) (mG d T (eP x 2) false (Nz (eP x 2)) []) [([((lO (fW { k:=x.f.k,r:=x.f.r,eM:=ee (dO x.f.eM),dv:=x.f.dv,vl:=x.f.vl,cu:=ee (dO x.f.cu) }) (fW { k:=(0:Int),r:=(0:Int),eM:=ee [],dv:=(0:Int),vl:=(0:Int),cu:=ee [] })),true)],
   [(dO x.f.eM=dO (ee (dO x.f.eM))),(x.f.eM.length=(ee (dO x.f.eM)).length),(x.f.eM.length<=1000000),(dO x.f.cu=dO (ee (dO x.f.cu))),(x.f.cu.length=(ee (dO x.f.cu)).length),(x.f.cu.length<=1000000),([]=dO (ee [])),(0=0),(0<=1000000),([]=dO (ee [])),(0=0),(0<=1000000)],
   .to .normal (vR d T (eP x 2) false [(171,.bool true),(173,L x.id)])),
  ([((lO (fW { k:=x.f.k,r:=x.f.r,eM:=ee (dO x.f.eM),dv:=x.f.dv,vl:=x.f.vl,cu:=ee (dO x.f.cu) }) (fW { k:=(0:Int),r:=(0:Int),eM:=ee [],dv:=(0:Int),vl:=(0:Int),cu:=ee [] })),false)],
   [(dO x.f.eM=dO (ee (dO x.f.eM))),(x.f.eM.length=(ee (dO x.f.eM)).length),(x.f.eM.length<=1000000),(dO x.f.cu=dO (ee (dO x.f.cu))),(x.f.cu.length=(ee (dO x.f.cu)).length),(x.f.cu.length<=1000000),([]=dO (ee [])),(0=0),(0<=1000000),([]=dO (ee [])),(0=0),(0<=1000000)],
   .to .normal (vR d T (eP x 2) false [(171,.bool false),(173,L x.id)]))]
 :=dj.of C C C
theorem aeL(d:Dc)(T:List (Eng.D×Eng.D))(x:eJ):dw (U dY []) [] 2 Tryz.f93 [0,3,181,183] (kE (dF (dr 11 gq))) (vR d T (eP x 2) false []) [([],
   [],
   .to .normal (jq d T (eP x 2) [(181,.bool true),(183,L x.id)]))]
 :=dj.of C C C
abbrev L7:Prop:=V.lA ([]++[V.agg (List.take 1 (List.drop 28 x.R))]++[])=[ox x.gd]
theorem aeM(d:Dc)(T:List (Eng.D×Eng.D))(x:eJ)(b:Bool):dw (U (fb 126 [ox x.gd] (.bool b) dY) []) [(205,.split)] 2 Tryz.f93 [0,3,224,226] (kE (dr 13 gq)) (jq d T (eP x 2) []) [([(b,true)],
   [L7 x],
   .to .normal (jq d T (eP x 2) [(224,.bool true),(226,L x.id)])),
  ([(b,false)],
   [L7 x],
   .to .normal (jq d T (eP x 2) [(224,.bool false),(226,L x.id)]))]
 :=dj.of C C C
theorem aeN(d:Dc)(T:List (Eng.D×Eng.D))(x:eJ):dw (U dY []) [] 2 Tryz.f93 [0,3,4,5] (dM 4 (dr 5 gq)) (jq d T (eP x 3) []) [([],
   [],
   .to .normal (mG d T (eP x 3) false (L5 (eP x 3)) []))]
 :=dj.of C C C
theorem aeO(d:Dc)(T:List (Eng.D×Eng.D))(x:eJ):dw (U dY []) [(111,.split),(117,.split),(128,.split),(137,.split),(144,.split),(151,.split),(160,.split)] 2 Tryz.f93 [0,3,4,5,161,163] (kE (dF (dr 9 gq))) (mG d T (eP x 3) false (L5 (eP x 3)) []) [([((x.pl.a==(0:Int)&&(x.pl.b==(0:Int)&&(x.pl.c==(0:Int)&&(x.pl.d==(0:Int)&&(x.pl.e==(0:Int)&&(x.pl.f==(0:Int)&&(x.pl.n==(0:Int)&&true))))))),true),((x.sp==(0:Int)),true),(((Int.ofNat x.gd.length)==(0:Int)),true),(((Int.ofNat x.kids.length)==(0:Int)),true),((x.of==(0:Int)),true),((x.fi.r==(0:Int)&&(x.fi.g==(0:Int)&&(x.fi.b==(0:Int)&&(x.fi.a==(0:Int)&&true)))),true),(((Int.ofNat x.gW.length)==(0:Int)),true)],
   [],
   .to .normal (mG d T (eP x 3) false (L5 (eP x 3)) [(161,.bool true),(163,L x.id)])),
  ([((x.pl.a==(0:Int)&&(x.pl.b==(0:Int)&&(x.pl.c==(0:Int)&&(x.pl.d==(0:Int)&&(x.pl.e==(0:Int)&&(x.pl.f==(0:Int)&&(x.pl.n==(0:Int)&&true))))))),true),((x.sp==(0:Int)),true),(((Int.ofNat x.gd.length)==(0:Int)),true),(((Int.ofNat x.kids.length)==(0:Int)),true),((x.of==(0:Int)),true),((x.fi.r==(0:Int)&&(x.fi.g==(0:Int)&&(x.fi.b==(0:Int)&&(x.fi.a==(0:Int)&&true)))),true),(((Int.ofNat x.gW.length)==(0:Int)),false)],
   [],
   .to .normal (mG d T (eP x 3) false (L5 (eP x 3)) [(161,.bool false),(163,L x.id)])),
  ([((x.pl.a==(0:Int)&&(x.pl.b==(0:Int)&&(x.pl.c==(0:Int)&&(x.pl.d==(0:Int)&&(x.pl.e==(0:Int)&&(x.pl.f==(0:Int)&&(x.pl.n==(0:Int)&&true))))))),true),((x.sp==(0:Int)),true),(((Int.ofNat x.gd.length)==(0:Int)),true),(((Int.ofNat x.kids.length)==(0:Int)),true),((x.of==(0:Int)),true),((x.fi.r==(0:Int)&&(x.fi.g==(0:Int)&&(x.fi.b==(0:Int)&&(x.fi.a==(0:Int)&&true)))),false)],
   [],
   .to .normal (mG d T (eP x 3) false (L5 (eP x 3)) [(161,.bool false),(163,L x.id)])),
  ([((x.pl.a==(0:Int)&&(x.pl.b==(0:Int)&&(x.pl.c==(0:Int)&&(x.pl.d==(0:Int)&&(x.pl.e==(0:Int)&&(x.pl.f==(0:Int)&&(x.pl.n==(0:Int)&&true))))))),true),((x.sp==(0:Int)),true),(((Int.ofNat x.gd.length)==(0:Int)),true),(((Int.ofNat x.kids.length)==(0:Int)),true),((x.of==(0:Int)),false)],
   [],
   .to .normal (mG d T (eP x 3) false (L5 (eP x 3)) [(161,.bool false),(163,L x.id)])),
  ([((x.pl.a==(0:Int)&&(x.pl.b==(0:Int)&&(x.pl.c==(0:Int)&&(x.pl.d==(0:Int)&&(x.pl.e==(0:Int)&&(x.pl.f==(0:Int)&&(x.pl.n==(0:Int)&&true))))))),true),((x.sp==(0:Int)),true),(((Int.ofNat x.gd.length)==(0:Int)),true),(((Int.ofNat x.kids.length)==(0:Int)),false)],
   [],
   .to .normal (mG d T (eP x 3) false (L5 (eP x 3)) [(161,.bool false),(163,L x.id)])),
  ([((x.pl.a==(0:Int)&&(x.pl.b==(0:Int)&&(x.pl.c==(0:Int)&&(x.pl.d==(0:Int)&&(x.pl.e==(0:Int)&&(x.pl.f==(0:Int)&&(x.pl.n==(0:Int)&&true))))))),true),((x.sp==(0:Int)),true),(((Int.ofNat x.gd.length)==(0:Int)),false)],
   [],
   .to .normal (mG d T (eP x 3) false (L5 (eP x 3)) [(161,.bool false),(163,L x.id)])),
  ([((x.pl.a==(0:Int)&&(x.pl.b==(0:Int)&&(x.pl.c==(0:Int)&&(x.pl.d==(0:Int)&&(x.pl.e==(0:Int)&&(x.pl.f==(0:Int)&&(x.pl.n==(0:Int)&&true))))))),true),((x.sp==(0:Int)),false)],
   [],
   .to .normal (mG d T (eP x 3) false (L5 (eP x 3)) [(161,.bool false),(163,L x.id)])),
  ([((x.pl.a==(0:Int)&&(x.pl.b==(0:Int)&&(x.pl.c==(0:Int)&&(x.pl.d==(0:Int)&&(x.pl.e==(0:Int)&&(x.pl.f==(0:Int)&&(x.pl.n==(0:Int)&&true))))))),false)],
   [],
   .to .normal (mG d T (eP x 3) false (L5 (eP x 3)) [(161,.bool false),(163,L x.id)]))]
 :=dj.of C C C
theorem aeP(d:Dc)(T:List (Eng.D×Eng.D))(x:eJ):dw (U Wfb []) [(171,.dz (.bool true))] 2 Tryz.f93 [0,3,5,171,173] (kE (dF (dr 10 gq))) (mG d T (eP x 3) false (L5 (eP x 3)) []) [([],
   [(dO x.f.eM=dO (ee (dO x.f.eM))),(x.f.eM.length=(ee (dO x.f.eM)).length),(x.f.eM.length<=1000000),(dO x.f.cu=dO (ee (dO x.f.cu))),(x.f.cu.length=(ee (dO x.f.cu)).length),(x.f.cu.length<=1000000),(dO x.f.eM=dO (ee (dO x.f.eM))),(x.f.eM.length=(ee (dO x.f.eM)).length),(x.f.eM.length<=1000000),(dO x.f.cu=dO (ee (dO x.f.cu))),(x.f.cu.length=(ee (dO x.f.cu)).length),(x.f.cu.length<=1000000),(V.bool (lO (fW { k:=x.f.k,r:=x.f.r,eM:=ee (dO x.f.eM),dv:=x.f.dv,vl:=x.f.vl,cu:=ee (dO x.f.cu) }) (fW { k:=x.f.k,r:=x.f.r,eM:=ee (dO x.f.eM),dv:=x.f.dv,vl:=x.f.vl,cu:=ee (dO x.f.cu) }))=V.bool true)],
   .to .normal (vR d T (eP x 3) false [(171,.bool true),(173,L x.id)]))]
 :=dj.of C C C
theorem aeQ(d:Dc)(T:List (Eng.D×Eng.D))(x:eJ):dw (U dY []) [] 2 Tryz.f93 [0,3,181,183] (kE (dF (dr 11 gq))) (vR d T (eP x 3) false []) [([],
   [],
   .to .normal (jq d T (eP x 3) [(181,.bool true),(183,L x.id)]))]
 :=dj.of C C C
abbrev BH:Prop:=V.lA ([]++[V.agg (List.take 1 (List.drop 28 x.R))]++[])=[ox x.gd]
abbrev L8:Prop:=V.lA ([]++[V.agg (List.take 6 (List.drop 17 x.R))]++[])=[x.f.v]
theorem aeR(d:Dc)(T:List (Eng.D×Eng.D))(x:eJ)(b c:Bool):dw (U (fb 128 [x.f.v] (.bool c) (fb 126 [ox x.gd] (.bool b) dY)) []) [(205,.split),(215,.split)] 2 Tryz.f93 [0,3,224,226] (kE (dr 13 gq)) (jq d T (eP x 3) []) [([(b,true),(c,true)],
   [BH x,L8 x],
   .to .normal (jq d T (eP x 3) [(224,.bool true),(226,L x.id)])),
  ([(b,true),(c,false)],
   [BH x,L8 x],
   .to .normal (jq d T (eP x 3) [(224,.bool false),(226,L x.id)])),
  ([(b,false),(false,true)],
   [BH x],
   .to .normal (jq d T (eP x 3) [(224,.bool true),(226,L x.id)])),
  ([(b,false),(false,false)],
   [BH x],
   .to .normal (jq d T (eP x 3) [(224,.bool false),(226,L x.id)]))]
 :=dj.of C C C
theorem aeS(d:Dc)(T:List (Eng.D×Eng.D))(x:eJ):dw (U dY []) [] 2 Tryz.f93 [0,3,4,5] (dM 4 (dr 5 gq)) (jq d T (eP x 4) []) [([],
   [],
   .to .normal (mG d T (eP x 4) true (N4 (eP x 4)) []))]
 :=dj.of C C C
abbrev vI:Prop:=V.bool (x.pl.a==x.pl.a&&(x.pl.b==x.pl.b&&(x.pl.c==x.pl.c&&(x.pl.d==x.pl.d&&(x.pl.e==x.pl.e&&(x.pl.f==x.pl.f&&(x.pl.n==x.pl.n&&true)))))))=V.bool true
theorem aeT(d:Dc)(T:List (Eng.D×Eng.D))(x:eJ):dw (U dY []) [(111,.dz (.bool true)),(117,.split),(128,.split),(137,.split),(144,.dz (.bool true)),(151,.split),(160,.split)] 2 Tryz.f93 [0,3,4,5,161,163] (kE (dF (dr 9 gq))) (mG d T (eP x 4) true (N4 (eP x 4)) []) [([((x.sp==(0:Int)),true),(((Int.ofNat x.gd.length)==(0:Int)),true),(((Int.ofNat x.kids.length)==(0:Int)),true),((x.fi.r==(0:Int)&&(x.fi.g==(0:Int)&&(x.fi.b==(0:Int)&&(x.fi.a==(0:Int)&&true)))),true),(((Int.ofNat x.gW.length)==(0:Int)),true)],
   [vI x,(V.bool (x.of==x.of)=V.bool true)],
   .to .normal (mG d T (eP x 4) true (N4 (eP x 4)) [(161,.bool true),(163,L x.id)])),
  ([((x.sp==(0:Int)),true),(((Int.ofNat x.gd.length)==(0:Int)),true),(((Int.ofNat x.kids.length)==(0:Int)),true),((x.fi.r==(0:Int)&&(x.fi.g==(0:Int)&&(x.fi.b==(0:Int)&&(x.fi.a==(0:Int)&&true)))),true),(((Int.ofNat x.gW.length)==(0:Int)),false)],
   [vI x,(V.bool (x.of==x.of)=V.bool true)],
   .to .normal (mG d T (eP x 4) true (N4 (eP x 4)) [(161,.bool false),(163,L x.id)])),
  ([((x.sp==(0:Int)),true),(((Int.ofNat x.gd.length)==(0:Int)),true),(((Int.ofNat x.kids.length)==(0:Int)),true),((x.fi.r==(0:Int)&&(x.fi.g==(0:Int)&&(x.fi.b==(0:Int)&&(x.fi.a==(0:Int)&&true)))),false)],
   [vI x,(V.bool (x.of==x.of)=V.bool true)],
   .to .normal (mG d T (eP x 4) true (N4 (eP x 4)) [(161,.bool false),(163,L x.id)])),
  ([((x.sp==(0:Int)),true),(((Int.ofNat x.gd.length)==(0:Int)),true),(((Int.ofNat x.kids.length)==(0:Int)),false)],
   [vI x],
   .to .normal (mG d T (eP x 4) true (N4 (eP x 4)) [(161,.bool false),(163,L x.id)])),
  ([((x.sp==(0:Int)),true),(((Int.ofNat x.gd.length)==(0:Int)),false)],
   [vI x],
   .to .normal (mG d T (eP x 4) true (N4 (eP x 4)) [(161,.bool false),(163,L x.id)])),
  ([((x.sp==(0:Int)),false)],
   [vI x],
   .to .normal (mG d T (eP x 4) true (N4 (eP x 4)) [(161,.bool false),(163,L x.id)]))]
 :=dj.of C C C
theorem aeU(d:Dc)(T:List (Eng.D×Eng.D))(x:eJ):dw (U Wfb []) [(171,.split)] 2 Tryz.f93 [0,3,5,171,173] (kE (dF (dr 10 gq))) (mG d T (eP x 4) true (N4 (eP x 4)) []) [([((lO (fW { k:=x.f.k,r:=x.f.r,eM:=ee (dO x.f.eM),dv:=x.f.dv,vl:=x.f.vl,cu:=ee (dO x.f.cu) }) (fW { k:=(0:Int),r:=(0:Int),eM:=ee [],dv:=(0:Int),vl:=(0:Int),cu:=ee [] })),true)],
   [(dO x.f.eM=dO (ee (dO x.f.eM))),(x.f.eM.length=(ee (dO x.f.eM)).length),(x.f.eM.length<=1000000),(dO x.f.cu=dO (ee (dO x.f.cu))),(x.f.cu.length=(ee (dO x.f.cu)).length),(x.f.cu.length<=1000000),([]=dO (ee [])),(0=0),(0<=1000000),([]=dO (ee [])),(0=0),(0<=1000000)],
   .to .normal (vR d T (eP x 4) true [(171,.bool true),(173,L x.id)])),
  ([((lO (fW { k:=x.f.k,r:=x.f.r,eM:=ee (dO x.f.eM),dv:=x.f.dv,vl:=x.f.vl,cu:=ee (dO x.f.cu) }) (fW { k:=(0:Int),r:=(0:Int),eM:=ee [],dv:=(0:Int),vl:=(0:Int),cu:=ee [] })),false)],
   [(dO x.f.eM=dO (ee (dO x.f.eM))),(x.f.eM.length=(ee (dO x.f.eM)).length),(x.f.eM.length<=1000000),(dO x.f.cu=dO (ee (dO x.f.cu))),(x.f.cu.length=(ee (dO x.f.cu)).length),(x.f.cu.length<=1000000),([]=dO (ee [])),(0=0),(0<=1000000),([]=dO (ee [])),(0=0),(0<=1000000)],
   .to .normal (vR d T (eP x 4) true [(171,.bool false),(173,L x.id)]))]
 :=dj.of C C C
theorem aeV(d:Dc)(T:List (Eng.D×Eng.D))(x:eJ)(b:Bool):dw (U (fb 127 [x.pl.v] (.bool b) dY) []) [] 2 Tryz.f93 [0,3,181,183] (kE (dF (dr 11 gq))) (vR d T (eP x 4) true []) [([],
   [(V.lA ([]++[V.agg (List.take 7 (List.drop 7 x.R))]++[])=[x.pl.v])],
   .to .normal (jq d T (eP x 4) [(181,.bool b),(183,L x.id)]))]
 :=dj.of C C C
abbrev L9:Prop:=V.lA ([]++[V.agg (List.take 1 (List.drop 28 x.R))]++[])=[ox x.gd]
theorem aeW(d:Dc)(T:List (Eng.D×Eng.D))(x:eJ)(b:Bool):dw (U (fb 126 [ox x.gd] (.bool b) dY) []) [(205,.split)] 2 Tryz.f93 [0,3,224,226] (kE (dr 13 gq)) (jq d T (eP x 4) []) [([(b,true)],
   [L9 x],
   .to .normal (jq d T (eP x 4) [(224,.bool true),(226,L x.id)])),
  ([(b,false)],
   [L9 x],
   .to .normal (jq d T (eP x 4) [(224,.bool false),(226,L x.id)]))]
 :=dj.of C C C
theorem aeX(d:Dc)(T:List (Eng.D×Eng.D))(x:eJ):dw (U dY []) [] 2 Tryz.f93 [0,3,4,5] (dM 4 (dr 5 gq)) (jq d T (eP x 5) []) [([],
   [],
   .to .normal (mG d T (eP x 5) false (N5 (eP x 5)) []))]
 :=dj.of C C C
theorem aeY(d:Dc)(T:List (Eng.D×Eng.D))(x:eJ):dw (U dY []) [(111,.split),(117,.split),(128,.split),(137,.split),(144,.split),(151,.dz (.bool true)),(160,.dz (.bool true))] 2 Tryz.f93 [0,3,4,5,161,163] (kE (dF (dr 9 gq))) (mG d T (eP x 5) false (N5 (eP x 5)) []) [([((x.pl.a==(0:Int)&&(x.pl.b==(0:Int)&&(x.pl.c==(0:Int)&&(x.pl.d==(0:Int)&&(x.pl.e==(0:Int)&&(x.pl.f==(0:Int)&&(x.pl.n==(0:Int)&&true))))))),true),((x.sp==(0:Int)),true),(((Int.ofNat x.gd.length)==(0:Int)),true),(((Int.ofNat x.kids.length)==(0:Int)),true),((x.of==(0:Int)),true)],
   [(V.bool (x.fi.r==x.fi.r&&(x.fi.g==x.fi.g&&(x.fi.b==x.fi.b&&(x.fi.a==x.fi.a&&true))))=V.bool true),(V.bool ((Int.ofNat x.gW.length)==(Int.ofNat x.gW.length))=V.bool true)],
   .to .normal (mG d T (eP x 5) false (N5 (eP x 5)) [(161,.bool true),(163,L x.id)])),
  ([((x.pl.a==(0:Int)&&(x.pl.b==(0:Int)&&(x.pl.c==(0:Int)&&(x.pl.d==(0:Int)&&(x.pl.e==(0:Int)&&(x.pl.f==(0:Int)&&(x.pl.n==(0:Int)&&true))))))),true),((x.sp==(0:Int)),true),(((Int.ofNat x.gd.length)==(0:Int)),true),(((Int.ofNat x.kids.length)==(0:Int)),true),((x.of==(0:Int)),false)],
   [],
   .to .normal (mG d T (eP x 5) false (N5 (eP x 5)) [(161,.bool false),(163,L x.id)])),
  ([((x.pl.a==(0:Int)&&(x.pl.b==(0:Int)&&(x.pl.c==(0:Int)&&(x.pl.d==(0:Int)&&(x.pl.e==(0:Int)&&(x.pl.f==(0:Int)&&(x.pl.n==(0:Int)&&true))))))),true),((x.sp==(0:Int)),true),(((Int.ofNat x.gd.length)==(0:Int)),true),(((Int.ofNat x.kids.length)==(0:Int)),false)],
   [],
   .to .normal (mG d T (eP x 5) false (N5 (eP x 5)) [(161,.bool false),(163,L x.id)])),
  ([((x.pl.a==(0:Int)&&(x.pl.b==(0:Int)&&(x.pl.c==(0:Int)&&(x.pl.d==(0:Int)&&(x.pl.e==(0:Int)&&(x.pl.f==(0:Int)&&(x.pl.n==(0:Int)&&true))))))),true),((x.sp==(0:Int)),true),(((Int.ofNat x.gd.length)==(0:Int)),false)],
   [],
   .to .normal (mG d T (eP x 5) false (N5 (eP x 5)) [(161,.bool false),(163,L x.id)])),
  ([((x.pl.a==(0:Int)&&(x.pl.b==(0:Int)&&(x.pl.c==(0:Int)&&(x.pl.d==(0:Int)&&(x.pl.e==(0:Int)&&(x.pl.f==(0:Int)&&(x.pl.n==(0:Int)&&true))))))),true),((x.sp==(0:Int)),false)],
   [],
   .to .normal (mG d T (eP x 5) false (N5 (eP x 5)) [(161,.bool false),(163,L x.id)])),
  ([((x.pl.a==(0:Int)&&(x.pl.b==(0:Int)&&(x.pl.c==(0:Int)&&(x.pl.d==(0:Int)&&(x.pl.e==(0:Int)&&(x.pl.f==(0:Int)&&(x.pl.n==(0:Int)&&true))))))),false)],
   [],
   .to .normal (mG d T (eP x 5) false (N5 (eP x 5)) [(161,.bool false),(163,L x.id)]))]
 :=dj.of C C C
theorem aeZ(d:Dc)(T:List (Eng.D×Eng.D))(x:eJ):dw (U Wfb []) [(171,.split)] 2 Tryz.f93 [0,3,5,171,173] (kE (dF (dr 10 gq))) (mG d T (eP x 5) false (N5 (eP x 5)) []) [([((lO (fW { k:=x.f.k,r:=x.f.r,eM:=ee (dO x.f.eM),dv:=x.f.dv,vl:=x.f.vl,cu:=ee (dO x.f.cu) }) (fW { k:=(0:Int),r:=(0:Int),eM:=ee [],dv:=(0:Int),vl:=(0:Int),cu:=ee [] })),true)],
   [(dO x.f.eM=dO (ee (dO x.f.eM))),(x.f.eM.length=(ee (dO x.f.eM)).length),(x.f.eM.length<=1000000),(dO x.f.cu=dO (ee (dO x.f.cu))),(x.f.cu.length=(ee (dO x.f.cu)).length),(x.f.cu.length<=1000000),([]=dO (ee [])),(0=0),(0<=1000000),([]=dO (ee [])),(0=0),(0<=1000000)],
   .to .normal (vR d T (eP x 5) false [(171,.bool true),(173,L x.id)])),
  ([((lO (fW { k:=x.f.k,r:=x.f.r,eM:=ee (dO x.f.eM),dv:=x.f.dv,vl:=x.f.vl,cu:=ee (dO x.f.cu) }) (fW { k:=(0:Int),r:=(0:Int),eM:=ee [],dv:=(0:Int),vl:=(0:Int),cu:=ee [] })),false)],
   [(dO x.f.eM=dO (ee (dO x.f.eM))),(x.f.eM.length=(ee (dO x.f.eM)).length),(x.f.eM.length<=1000000),(dO x.f.cu=dO (ee (dO x.f.cu))),(x.f.cu.length=(ee (dO x.f.cu)).length),(x.f.cu.length<=1000000),([]=dO (ee [])),(0=0),(0<=1000000),([]=dO (ee [])),(0=0),(0<=1000000)],
   .to .normal (vR d T (eP x 5) false [(171,.bool false),(173,L x.id)]))]
 :=dj.of C C C
theorem ae0(d:Dc)(T:List (Eng.D×Eng.D))(x:eJ):dw (U dY []) [] 2 Tryz.f93 [0,3,181,183] (kE (dF (dr 11 gq))) (vR d T (eP x 5) false []) [([],
   [],
   .to .normal (jq d T (eP x 5) [(181,.bool true),(183,L x.id)]))]
 :=dj.of C C C
abbrev Ma:Prop:=V.lA ([]++[V.agg (List.take 1 (List.drop 28 x.R))]++[])=[ox x.gd]
theorem ae1(d:Dc)(T:List (Eng.D×Eng.D))(x:eJ)(b c:Bool):dw (U (fb 129 [w8 x.gW] (.bool c) (fb 126 [ox x.gd] (.bool b) dY)) []) [(205,.split)] 2 Tryz.f93 [0,3,224,226] (kE (dr 13 gq)) (jq d T (eP x 5) []) [([(b,true)],
   [Ma x,(V.lA ([]++[w8 x.gW]++[])=[w8 x.gW])],
   .to .normal (jq d T (eP x 5) [(224,.bool c),(226,L x.id)])),
  ([(b,false)],
   [Ma x],
   .to .normal (jq d T (eP x 5) [(224,.bool false),(226,L x.id)]))]
 :=dj.of C C C
theorem aqf(d:Dc)(T:List (Eng.D×Eng.D))(x:eJ):dw (U dY []) [(187,.split),(197,.split)] 2 Tryz.f93 [0,3,198,200] (kE (dF (dr 12 gq))) (jq d T x []) [([((decide (x.sp>=(0:Int))),true),((decide (x.sp<=(Int.ofNat d.sp.length))),true)],
   [],
   .to .normal (jq d T x [(198,.bool true),(200,L x.id)])),
  ([((decide (x.sp>=(0:Int))),true),((decide (x.sp<=(Int.ofNat d.sp.length))),false)],
   [],
   .to .normal (jq d T x [(198,.bool false),(200,L x.id)])),
  ([((decide (x.sp>=(0:Int))),false)],
   [],
   .to .normal (jq d T x [(198,.bool false),(200,L x.id)]))]
 :=dj.of C C C
end
end Go.Proofs.YtmjggdmekboefaaGreat
