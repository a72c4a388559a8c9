/- The Doc laws: the program's demand, whatever it finds; statements that end with it. No conditions. -/
import Derived.Test.YtmjggdmekboefaaGreatJointW12
import Derived.Test.YtmjggdmekboefaaGreatJointW13
import Derived.Shelf.Strings.FuncGrows
import Derived.Shelf.Small.Strs
import Derived.Scope
set_option linter.unusedVariables false
set_option linter.unusedSimpArgs false
set_option linter.unusedSectionVars false
namespace Go.Proofs.YtmjggdmekboefaaGreat
open Go Go.Eng
set_option maxRecDepth 10000
def xx(p:Int×Int):V:=.iface 99 (.agg [F p.1,F p.2])
noncomputable def ae7(X:Nat)(fn:Func)(c:Code)(s:St):Option (V×qw×I es×Nat):=match gH ak (fun _ _ _ _=>none) 20 c s with
 |some (.panic v,R)=>match NT ak X fn R (.lU v false)with
  |some r=>some (v,r)
  |none=>none
 |_=>none
theorem UA{X hc:Nat}{fn:Func}{c:Code}{s:St}{v:V}{o:qw}{h:I es}{n:Nat}{s':qw->I es->Nat->Prop}(e:ae7 X fn c s=some (v,o,h,n))(hv:v.free=true)(hR:s' o h n)(N:eV hc c=true:=by kernel_rfl):TG ak X hc c s (G6 ak X fn s'):=by
 unfold ae7 at e;split at e
 case h_2=>cases e
 rename_i v' R he;split at e
 case h_2=>cases e
 rename_i r hr;simp only[aq,aB]at e;obtain⟨rfl,rfl⟩:=e;exact Rx (iX:=20) (fun _ _ _ _ _ _ _ e=>by cases e) mo N he hv fun ch hp=>.Du hp hr hR
theorem Md(a b:Int):Ry ak 89 [.bool false,F a,F b] (xx (a,b)):=
 Mc (o:=.lU (xx (a,b))) mo po Tryz.func89 (code:=dL Tryz.f89) dD dD dD rfl
  (UA (X:=0) (v:=xx (a,b)) (o:=.lU (xx (a,b))) (h:=.nil) (n:=0) dD rfl rfl)
noncomputable def I9(k:Nat)(c:Code)(s:St):Option s':=match lI k c with
 | [o]=>match o.guard with
   |none=>eA ak o s.T s.h s.n
   |some _=>none
 |_=>none
def RA(X k:Nat)(live:List Nat)(c:Code)(s:St):Option St:=match lI k c with
 | [o]=>match Go.Eng.jB s.T o.dst (.gV [])with
   |some T=>ld X live { s with T:=T }
   |none=>none
 |_=>none
section
variable{X hc:Nat}{c:Code}{s:St}{Q:Exit->St->Prop}{dP:gJ}{hh:List (Nat×List (Nat×mj))}{dz:List (Nat×mj)}{fn:Func}{live:List Nat}{dx:List (List (Bool×Bool)×ah×jU)}
theorem Ja{a:ag}{v:V}(h:dV ak 89 a v):kj ak 89 (fun args h n=>some ([V.jJ args=a],v,h,n)):=by
 refine⟨aE dD,fun args h' n fm v' C n2 e hA E w dQ ra g hd _=>?_⟩;simp only[aq,aB]at e;obtain⟨rfl,rfl,rfl,rfl⟩:=e;have e1:V.jJ args=a:=hA _ (by simp);exact h E _ _ w dQ (e1▸tD _ _ ra) g hd
section
variable(k:Nat)
theorem NU(n0:fe ak dP)(β:Bool)(dy:Bool->St)(e a:Int)(yH:List Nat)(S1:St)(hr:H (M dP hh) dz X fn live (Ec k c) s dx)(h:∀g∈dx,(∀b∈g.1,b.1=b.2)->(∀a∈g.2.1,a)/\g.2.2= .to .normal (dy β))
  (ho:∀b,I9 k c (dy b)=some (.call 89 [.bool b,F e,F a])) (hn:RA X k yH c (dy true)=some S1) (k1:β=true->∀R,lY X hc R S1->Q .normal R) (k2:β=false->∀ch,Bo (xx (e,a)) ch->Q (.panic ch) (dy false))
  (hs:(eV hc c&&(Ed k c&&(lI k c).all fun o=>match o.dst with|some d=>decide (d<hc)|none=>true))=true:=by kernel_rfl):TG ak X hc c s Q:=by
 simp only[ay]at hs;obtain⟨h1,C,h3⟩:=hs;obtain⟨iW,hr⟩:=hr;have hd:∀x∈lI k c,ng hc x.dst:=fun x J d hd=>by
  have:=br.1 h3 x J;rw[hd]at this;exact aX this
 refine BK k (XH n0 hh) mo h1 C hr fun g hg N=>?_;obtain⟨q1,q2⟩:=h g hg N;refine⟨q1,_,q2,?_⟩;have ho:=ho β;unfold I9 at ho;unfold RA at hn;generalize lI k c=l at *;split at ho
 case h_2=>cases ho
 rename_i o;split at ho
 case h_2=>cases ho
 rename_i SH;cases β with
 |true=>
  simp only at hn;split at hn
  case h_2=>cases hn
  rename_i T y9;exact Gx (hd o (aG.2 rfl)) SH ho (Ja (L9 e a)) rfl (eM rfl) y9 (k1 rfl _ (lY.norm hn))
 |false=>
  exact BJ hd SH ho (Gy dD (Md e a)) rfl (eM rfl) rfl fun ch hp=>k2 rfl ch hp
noncomputable def Ws(X:Nat)(fn:Func)(k:Nat)(c:Code)(s:St):Option (qw×I es×Nat):=match lI k c with
 | [o]=>match Go.Eng.jB s.T o.dst (.gV [])with
   |some T=>NT ak X fn { s with T:=T } .ret
   |none=>none
 |_=>none
theorem Jb(n0:fe ak dP)(β:Bool)(dy:Bool->St)(e a:Int){s':qw->I es->Nat->Prop}{o1:qw}{h1:I es}{n1:Nat}(hr:H (M dP hh) dz X fn live (Ec k c) s dx)(h:∀g∈dx,(∀b∈g.1,b.1=b.2)->(∀a∈g.2.1,a)/\g.2.2= .to .normal (dy β))
  (ho:∀b,I9 k c (dy b)=some (.call 89 [.bool b,F e,F a])) (hn:Ws X fn k c (dy true)=some (o1,h1,n1)) (k1:β=true->s' o1 h1 n1) (k2:β=false->∀ch,Bo (xx (e,a)) ch->G6 ak X fn s' (.panic ch) (dy false))
  (hs:(eV hc c&&(Ed k c&&(lI k c).all fun o=>match o.dst with|some d=>decide (d<hc)|none=>true))=true:=by kernel_rfl):TG ak X hc c s (G6 ak X fn s'):=by
 simp only[ay]at hs;obtain⟨h1,C,h3⟩:=hs;obtain⟨iW,hr⟩:=hr;have hd:∀x∈lI k c,ng hc x.dst:=fun x J d hd=>by
  have:=br.1 h3 x J;rw[hd]at this;exact aX this
 refine BK k (XH n0 hh) mo h1 C hr fun g hg N=>?_;obtain⟨q1,q2⟩:=h g hg N;refine⟨q1,_,q2,?_⟩;have ho:=ho β;unfold I9 at ho;unfold Ws at hn;generalize lI k c=l at *;split at ho
 case h_2=>cases ho
 rename_i o;split at ho
 case h_2=>cases ho
 rename_i SH;cases β with
 |true=>
  simp only at hn;split at hn
  case h_2=>cases hn
  rename_i T y9;exact Gx (hd o (aG.2 rfl)) SH ho (Ja (L9 e a)) rfl (eM rfl) y9 ⟨.ret,trivial,_,_,_,hn,k1 rfl⟩
 |false=>
  exact BJ hd SH ho (Gy dD (Md e a)) rfl (eM rfl) rfl fun ch hp=>k2 rfl ch hp
theorem kA(n0:fe ak dP)(β:Bool)(dy:Bool->St)(e a:Int)(yH:List Nat)(S1:St)(hr:H (M dP hh) dz X fn live (Ec k (dI c)) s dx)(h:∀g∈dx,(∀b∈g.1,b.1=b.2)->(∀a∈g.2.1,a)/\g.2.2= .to .normal (dy β))
  (ho:∀b,I9 k (dI c) (dy b)=some (.call 89 [.bool b,F e,F a])) (hn:RA X k yH (dI c) (dy true)=some S1) (k1:β=true->TG ak X hc (dY c) S1 Q) (k2:β=false->∀ch,Bo (xx (e,a)) ch->Q (.panic ch) (dy false))
  (hs:(qf c&&(eV hc (dI c)&&(Ed k (dI c)&&(lI k (dI c)).all fun o=>match o.dst with|some d=>decide (d<hc)|none=>true)))=true:=by kernel_rfl):TG ak X hc c s Q:=by
 rw[ay]at hs;exact dM hs.1 (NU k n0 β dy e a yH S1 hr h ho hn (fun q R dX=>dX.zS _ _ (k1 q)) (fun q ch hp=>k2 q ch hp) hs.2)
def Jc(c:Code):Code:=.region 0 (lI k c).toArray false
def ao6(c:Code):Bool:=(lI k c).all fun o=>o.guard.isNone
theorem ae8(ms lv:List Nat)(n0:fe ak dP){fm aj:ah}{s1 s2:St}(hr:H (M dP hh) dz X fn live (Ec k c) s [([],fm,.to .normal s1)])(hA:∀a∈fm,a)(hf:DJ X ms lv s1=some (aj,s2))(hB:∀b∈aj,b)
  {W2:gJ} {SA:List (Nat×List (Nat×mj))} {H2:List (Nat×mj)} {yH:List Nat} (X2:fe ak W2) (hr2:H (M W2 SA) H2 X fn yH (Jc k c) s2 dx) (h:∀g∈dx,(∀b∈g.1,b.1=b.2)->(∀a∈g.2.1,a)/\∃s3,g.2.2= .to .normal s3/\∀R,ew ak X hc R s3->Q .normal R)
  (hs:(eV hc c&&(Ed k c&&(ao6 k c&&eV hc (Jc k c))))=true:=by kernel_rfl):TG ak X hc c s Q:=by
 simp only[ay]at hs;obtain⟨h1,C,h3,h4⟩:=hs;obtain⟨iW,hr⟩:=hr;obtain⟨L2,hr2⟩:=hr2;refine BK k (XH n0 hh) mo h1 C hr (abV ?_);refine⟨hA,s1,rfl,Ma (lY.DJ ms lv hf hB) ?_⟩;obtain⟨g,hg,ho,s3,R,Qq,Oj,he2⟩:=BG (X':=XH X2 SA) hr2 fun g hg ho=>by
  obtain⟨h1,s3,C,_⟩:=h g hg ho;exact⟨h1,s3,C⟩
 obtain⟨_,s3',e3,hq⟩:=h g hg ho;rw[Qq]at e3;cases e3;simp only[Jc,gH]at he2;simp only[Jc,eV,ay]at h4;rw[xw (ops':=NS c)]at he2
 . exact Dt (XH X2 SA).ok (fun o ho d hod=>by have:=br.1 h4.1 o (by simpa using ho);rw[hod]at this;exact aX this) he2 rfl (hq R (ew.norm Oj))
 . intro o ho T;have:=br.1 h3 o ho;unfold gd;cases hg:o.guard with
   |none=>rfl
   |some q=>rw[hg]at this;cases this
def RQ(X hc:Nat)(Q:Exit->St->Prop)(y:Exit)(s:St):Prop:=∃dy,lY X hc s dy/\Q y dy
end
theorem ae9(h:TG ak X hc c s (RQ X hc Q)):TG ak X hc c s Q:=fun E a w hm r hn k=>h E a w hm r hn fun y R E' a' w' ⟨dy,hr,hq⟩ u od r'=>by
 obtain⟨qX,E2,r2,u2⟩:=hr E' a' w' r' od;exact k y dy E2 a' w' hq (u.trans u2) qX r2
theorem RQ.of{y:Exit}{s:St}(h:Q y s):RQ X hc Q y s:=⟨s,fun E a w r hn=>⟨hn,E,r,nk.refl r.good⟩,h⟩
theorem Ak(b n:Nat)(dy:Nat->St)(t:Nat->Bool)(h0:lY X hc s (dy 0))
  (Y:∀i,i<=n->(∀j,j<i->t j=false)->∀Q':Exit->St->Prop,(i<n->t i=false->∀R,lY X hc R (dy (i+1))->Q' .normal R)->(i=n->∀R,lY X hc R (dy i)->Q' (.exit b) R)->(∀ch R,Q (.panic ch) R->Q' (.panic ch) R)->TG ak X hc (dK (dK c)) (dy i) Q')
  (he:(∀j,j<n->t j=false)->∀R,lY X hc R (dy n)->Q .normal R) (hs:(nq c b&&oL (dK c))=true:=by kernel_rfl):TG ak X hc c s Q:=by
 rw[ay]at hs;refine fL (i:=b) hs.1 (jO (fun m s=>∃i,m=n-i/\i<=n/\(∀j,j<i->t j=false)/\lY X hc s (dy i)) hs.2 ?_ n ⟨0,S,aN _,fun _ h=>absurd h (bL _),h0⟩);rintro m s1 ⟨i,rfl,hi,hj,hg⟩;refine hg.zS _ _ (Y i hi hj _ (fun h1 C R dX=>?_) (fun h1 R dX=>?_) (fun ch R h=>?_))
 . simp only[andThen];refine⟨n-(i+1),S,i+1,rfl,h1,fun j hji=>?_,dX⟩;rcases bj j i with q|q
   . exact hj j q
   . obtain rfl:j=i:=by omega
     exact C
 . subst h1;simp only[andThen];rw[iS];exact he hj R dX
 . simp only[andThen,gZ];exact h
end
set_option maxRecDepth 10000
section
variable(k n x a b y:Int)
def ptB:Bool:=decide (n>=2)&&decide (n<=257)
def rF:Bool:=decide (x>=a)&&decide (x<=b)
def KY:ag->Option (ah×V)
 | [.int .i64 n]=>some ([],.bool (ptB n))
 |_=>none
def KZ:ag->Option (ah×V)
 | [.int .i64 x,.int .i64 a,.int .i64 b]=>some ([],.bool (rF x a b))
 |_=>none
noncomputable abbrev Wpt:gJ:=kp 147 (gQ KY) ek
noncomputable abbrev Wt:gJ:=kp 161 (gQ KZ) ek
theorem ao8:H (M Wpt []) [] 0 Tryz.f121 [] (dL Tryz.f121) (dB [fF []] .nil 0) [([],[],ja)]:=G.W
abbrev RD(l:List Int)(m:Nat):Prop:=V.int B (IntKind.i64.wrap ((Int.ofNat l.length)-(1:Int)))=L m
theorem ao9(l:List Int)(m:Nat)(x y:Int)(b:Bool):H (M (fa 148 [fF l] (.bool b) Wpt) []) [(8,.dG (.dS [.int .i64 x])),(16,.dG (L m)),(17,.dG (.dS [.int .i64 y])),(6,.split),(10,.split),(19,.split)] 0 Tryz.f121 [] (dL Tryz.f121) (dB [fF l] .nil 0) (Nr (ptB (Int.ofNat l.length)) (decide (x>=(0:Int))) (decide (y<=(65535:Int))) ([(0:Int)<=(0:Int)/\(0:Int)<(Int.ofNat l.length),jC l,V.dS (dO (eG l) 0 1)=V.dS [D.int B x],RD l m,fR m l.length,jC l,gG (eG l) m 1 [D.int B y],V.jJ ([]++[fF l]++[])=[fF l]],.ret (.bool b) (hL []) 0) ([(0:Int)<=(0:Int)/\(0:Int)<(Int.ofNat l.length),jC l,V.dS (dO (eG l) 0 1)=V.dS [D.int B x],RD l m,fR m l.length,jC l,gG (eG l) m 1 [D.int B y]],ja) ([(0:Int)<=(0:Int)/\(0:Int)<(Int.ofNat l.length),jC l,V.dS (dO (eG l) 0 1)=V.dS [D.int B x]],ja) ([],ja)):=G.W
noncomputable abbrev UB:Code:=dL Tryz.f158
noncomputable abbrev bAw:Code:=dK (dK (dY (dI (dA 1 UB))))
def ZN(l:List Int)(i:Nat):St:=fB [(0,F k),(7,fF l),(8,L l.length),(9,L i)] (hL []) 0
theorem apa(l:List Int):H (M ek []) [] 0 Tryz.f158 [0,1] (dU 1 UB) (dB [F k,fF l] .nil 0) [([],[],eu (dB [F k,fF l] .nil 0))]:=G.W
theorem apb(l:List Int):H (M ek []) [] 0 Tryz.f158 [0,7,8,9] (dI (dI (dA 1 UB))) (dB [F k,fF l] .nil 0) [([],[],eu (ZN k l 0))]:=G.W
theorem apc(l:List Int)(i:Nat)(x:Int):H (M ek []) [(10,.dG (.bool true)),(11,.dG (.dS [.int .i64 x])),(16,.split),(20,.split),(22,.dG (L (i+1)))] 0 Tryz.f158 [0,7,8,9] (bAw) (ZN k l i) (TI (decide (x<IntKind.i64.wrap ((0:Int)-k))) (decide (x>k)) ([kO (decide (Int.ofNat i<Int.ofNat l.length)),fR i l.length,jC l,gG (eG l) i 1 [D.int B x]],ja) ([kO (decide (Int.ofNat i<Int.ofNat l.length)),fR i l.length,jC l,gG (eG l) i 1 [D.int B x],oH i],eu (ZN k l (i+1)))):=G.W
theorem apd(l:List Int)(i:Nat):H (M ek []) [(10,.dG (.bool false))] 0 Tryz.f158 [0,7,8,9] (bAw) (ZN k l i) [([],[lu (decide (Int.ofNat i<Int.ofNat l.length))],.to (.exit 0) (ZN k l i))]:=G.W
theorem ape(l:List Int)(i:Nat):H (M ek []) [] 0 Tryz.f158 [] (dY (dA 1 UB)) (ZN k l i) [([],[],By)]:=G.W
theorem apf(p:P7):H (M ek []) [] 0 Tryz.f159 [] (dL Tryz.f159) (dB [.agg p.cs] .nil 0) [([],[],.ret (.int .i64 (IntKind.i64.wrap (IntKind.i64.wrap (p.a*p.e)-IntKind.i64.wrap (p.b*p.d)))) (hL []) 0)]:=G.W
theorem apg:H (M ek []) [(8,.split)] 0 Tryz.f163 [] (dL Tryz.f163) (dB [.agg [F x,F y]] .nil 0) (fP (decide ((if y<x then y else x)<(-65536:Int))) ([],By) ([],.ret (.bool (decide ((if y>x then y else x)>(65536:Int)))) (hL []) 0)):=G.W
theorem ZO:H (M ek []) [(9,.split)] 0 Tryz.f161 [] (dL Tryz.f161) (dB [F x,F a,F b] .nil 0) (fP (decide (x>=a)) ([],.ret (.bool (decide (x<=b))) (hL []) 0) ([],ja)):=G.W
theorem afa:H (M ek []) [(4,.split)] 0 Tryz.f147 [] (dL Tryz.f147) (dB [F n] .nil 0) (fP (decide (n>=(2:Int))) ([],.ret (.bool (decide (n<=(257:Int)))) (hL []) 0) ([],ja)):=G.W
theorem aph:H (M ek []) [(4,.split)] 0 Tryz.f150 [] (dL Tryz.f150) (dB [F x] .nil 0) (fP (decide (x<(-65536:Int))) ([],By) ([],.ret (.bool (decide (x>(65536:Int)))) (hL []) 0)):=G.W
theorem api:H (M Wt []) [] 0 Tryz.f160 [] (dL Tryz.f160) (dB [F x] .nil 0) [([],[],.ret (.bool (!rF x (-4096:Int) (4096:Int))) (hL []) 0)]:=G.W
abbrev mS(g:Nat):V:=.fn (.func g) [] []
def G7{α:Type}(p:α->Bool)(l:List α):Int:=match l.findIdx? p with
 |some i=>Int.ofNat i
 |none=> -1
noncomputable abbrev UC:Code:=dL Tryz.f171
noncomputable abbrev bia:Code:=dK (dK (dY (dI (dA 1 UC))))
end
def ZP(l:List Int)(i:Nat):St:=fB [(0,fF l),(1,mS 150),(7,L l.length),(8,L i)] (hL []) 0
theorem apj(l:List Int):H (M ek []) [] 0 Tryz.f171 [0,1] (dU 1 UC) (dB [fF l,mS 150] .nil 0) [([],[],eu (dB [fF l,mS 150] .nil 0))]:=G.W
theorem apk(l:List Int):H (M ek []) [] 0 Tryz.f171 [0,1,7,8] (dI (dI (dA 1 UC))) (dB [fF l,mS 150] .nil 0) [([],[],eu (ZP l 0))]:=G.W
theorem apl(l:List Int)(i:Nat)(x:Int)(b:Bool):H (M (fa 150 [F x] (.bool b) ek) []) [(9,.dG (.bool true)),(14,.dG (.dS [.int .i64 x])),(16,.split),(18,.dG (L (i+1)))] 0 Tryz.f171 [0,1,7,8] (bia) (ZP l i) (fP b ([kO (decide (Int.ofNat i<Int.ofNat l.length)),fR i l.length,jC l,gG (eG l) i 1 [D.int B x],fu [F x]],.ret (.int .i64 (Int.ofNat i)) (hL []) 0) ([kO (decide (Int.ofNat i<Int.ofNat l.length)),fR i l.length,jC l,gG (eG l) i 1 [D.int B x],fu [F x],oH i],eu (ZP l (i+1)))):=G.W
theorem apm(l:List Int)(i:Nat):H (M ek []) [(9,.dG (.bool false))] 0 Tryz.f171 [0,1,7,8] (bia) (ZP l i) [([],[lu (decide (Int.ofNat i<Int.ofNat l.length))],.to (.exit 0) (ZP l i))]:=G.W
theorem apn(l:List Int)(i:Nat):H (M ek []) [] 0 Tryz.f171 [] (dY (dA 1 UC)) (ZP l i) [([],[],.ret (.int .i64 (-1)) (hL []) 0)]:=G.W
noncomputable abbrev UD:Code:=dL Tryz.f171
noncomputable abbrev bib:Code:=dK (dK (dY (dI (dA 1 UD))))
def ZQ(l:List Int)(i:Nat):St:=fB [(0,fF l),(1,mS 160),(7,L l.length),(8,L i)] (hL []) 0
theorem apo(l:List Int):H (M ek []) [] 0 Tryz.f171 [0,1] (dU 1 UD) (dB [fF l,mS 160] .nil 0) [([],[],eu (dB [fF l,mS 160] .nil 0))]:=G.W
theorem apq(l:List Int):H (M ek []) [] 0 Tryz.f171 [0,1,7,8] (dI (dI (dA 1 UD))) (dB [fF l,mS 160] .nil 0) [([],[],eu (ZQ l 0))]:=G.W
theorem apr(l:List Int)(i:Nat)(x:Int)(b:Bool):H (M (fa 160 [F x] (.bool b) ek) []) [(9,.dG (.bool true)),(14,.dG (.dS [.int .i64 x])),(16,.split),(18,.dG (L (i+1)))] 0 Tryz.f171 [0,1,7,8] (bib) (ZQ l i) (fP b ([kO (decide (Int.ofNat i<Int.ofNat l.length)),fR i l.length,jC l,gG (eG l) i 1 [D.int B x],fu [F x]],.ret (.int .i64 (Int.ofNat i)) (hL []) 0) ([kO (decide (Int.ofNat i<Int.ofNat l.length)),fR i l.length,jC l,gG (eG l) i 1 [D.int B x],fu [F x],oH i],eu (ZQ l (i+1)))):=G.W
theorem aps(l:List Int)(i:Nat):H (M ek []) [(9,.dG (.bool false))] 0 Tryz.f171 [0,1,7,8] (bib) (ZQ l i) [([],[lu (decide (Int.ofNat i<Int.ofNat l.length))],.to (.exit 0) (ZQ l i))]:=G.W
theorem apt(l:List Int)(i:Nat):H (M ek []) [] 0 Tryz.f171 [] (dY (dA 1 UD)) (ZQ l i) [([],[],.ret (.int .i64 (-1)) (hL []) 0)]:=G.W
noncomputable abbrev UE:Code:=dL Tryz.f177
noncomputable abbrev bic:Code:=dK (dK (dY (dI (dA 1 UE))))
def ZR(l:List (Int×Int))(i:Nat):St:=fB [(0,vV l),(1,mS 163),(7,L l.length),(8,L i)] (hL []) 0
theorem apu(l:List (Int×Int)):H (M ek []) [] 0 Tryz.f177 [0,1] (dU 1 UE) (dB [vV l,mS 163] .nil 0) [([],[],eu (dB [vV l,mS 163] .nil 0))]:=G.W
theorem apv(l:List (Int×Int)):H (M ek []) [] 0 Tryz.f177 [0,1,7,8] (dI (dI (dA 1 UE))) (dB [vV l,mS 163] .nil 0) [([],[],eu (ZR l 0))]:=G.W
abbrev RE(l:List (Int×Int))(i:Nat)(x:(Int×Int)):Prop:=V.dS (dO (mQ l) (i*2) 2)=V.dS [D.int B x.1,D.int B x.2]
theorem apw(l:List (Int×Int))(i:Nat)(x:(Int×Int))(b:Bool):H (M (fa 163 [.agg [F x.1,F x.2]] (.bool b) ek) []) [(9,.dG (.bool true)),(14,.dG (.dS [.int .i64 x.1,.int .i64 x.2])),(16,.split),(18,.dG (L (i+1)))] 0 Tryz.f177 [0,1,7,8] (bic) (ZR l i) (fP b ([kO (decide (Int.ofNat i<Int.ofNat l.length)),fR i l.length,(mQ l).length=l.length*2,RE l i x,fu [.agg [F x.1,F x.2]]],.ret (.int .i64 (Int.ofNat i)) (hL []) 0) ([kO (decide (Int.ofNat i<Int.ofNat l.length)),fR i l.length,(mQ l).length=l.length*2,RE l i x,fu [.agg [F x.1,F x.2]],oH i],eu (ZR l (i+1)))):=G.W
theorem apx(l:List (Int×Int))(i:Nat):H (M ek []) [(9,.dG (.bool false))] 0 Tryz.f177 [0,1,7,8] (bic) (ZR l i) [([],[lu (decide (Int.ofNat i<Int.ofNat l.length))],.to (.exit 0) (ZR l i))]:=G.W
theorem apy(l:List (Int×Int))(i:Nat):H (M ek []) [] 0 Tryz.f177 [] (dY (dA 1 UE)) (ZR l i) [([],[],.ret (.int .i64 (-1)) (hL []) 0)]:=G.W
noncomputable abbrev UF:Code:=dL Tryz.f124
noncomputable abbrev bid:Code:=dK (dK (dY (dI (dA 1 UF))))
def ZS(l:List Sp)(i:Nat):St:=fB [(0,.eE false l.length (jy l)),(1,mS 90),(7,L l.length),(8,L i)] (hL []) 0
theorem apz(l:List Sp):H (M ek []) [] 0 Tryz.f124 [0,1] (dU 1 UF) (dB [.eE false l.length (jy l),mS 90] .nil 0) [([],[],eu (dB [.eE false l.length (jy l),mS 90] .nil 0))]:=G.W
theorem apA(l:List Sp):H (M ek []) [] 0 Tryz.f124 [0,1,7,8] (dI (dI (dA 1 UF))) (dB [.eE false l.length (jy l),mS 90] .nil 0) [([],[],eu (ZS l 0))]:=G.W
theorem apB(l:List Sp)(i:Nat)(x:Sp)(b:Bool):H (M (fa 90 [x.v] (.bool b) ek) []) [(9,.dG (.bool true)),(14,.dG (.dS x.ds)),(16,.split),(18,.dG (L (i+1)))] 0 Tryz.f124 [0,1,7,8] (bid) (ZS l i) (fP b ([kO (decide (Int.ofNat i<Int.ofNat l.length)),fR i l.length,(jy l).length=l.length*21,gG (jy l) i 21 x.ds,fu [x.v]],.ret (.int .i64 (Int.ofNat i)) (hL []) 0) ([kO (decide (Int.ofNat i<Int.ofNat l.length)),fR i l.length,(jy l).length=l.length*21,gG (jy l) i 21 x.ds,fu [x.v],oH i],eu (ZS l (i+1)))):=G.W
theorem apC(l:List Sp)(i:Nat):H (M ek []) [(9,.dG (.bool false))] 0 Tryz.f124 [0,1,7,8] (bid) (ZS l i) [([],[lu (decide (Int.ofNat i<Int.ofNat l.length))],.to (.exit 0) (ZS l i))]:=G.W
theorem apE(l:List Sp)(i:Nat):H (M ek []) [] 0 Tryz.f124 [] (dY (dA 1 UF)) (ZS l i) [([],[],.ret (.int .i64 (-1)) (hL []) 0)]:=G.W
theorem apF(l:List Int)(a:Int):H (M (fa 171 [fF l,mS 150] (F a) ek) []) [] 0 Tryz.f149 [] (dL Tryz.f149) (dB [fF l,mS 150] .nil 0) [([],[V.jJ ([]++[fF l,mS 150]++[])=[fF l,mS 150]],.ret (.bool (decide (a>=(0:Int)))) (hL []) 0)]:=G.W
theorem apG(l:List Int)(a:Int):H (M (fa 171 [fF l,mS 160] (F a) ek) []) [] 0 Tryz.f149 [] (dL Tryz.f149) (dB [fF l,mS 160] .nil 0) [([],[V.jJ ([]++[fF l,mS 160]++[])=[fF l,mS 160]],.ret (.bool (decide (a>=(0:Int)))) (hL []) 0)]:=G.W
theorem apH(l:List (Int×Int))(a:Int):H (M (fa 177 [vV l,mS 163] (F a) ek) []) [] 0 Tryz.f162 [] (dL Tryz.f162) (dB [vV l,mS 163] .nil 0) [([],[V.jJ ([]++[vV l,mS 163]++[])=[vV l,mS 163]],.ret (.bool (decide (a>=(0:Int)))) (hL []) 0)]:=G.W
theorem apJ(l:List Sp)(a:Int):H (M (fa 124 [.eE false l.length (jy l),mS 90] (F a) ek) []) [] 0 Tryz.f92 [] (dL Tryz.f92) (dB [.eE false l.length (jy l),mS 90] .nil 0) [([],[V.jJ ([]++[V.eE false l.length (jy l),mS 90]++[])=[V.eE false l.length (jy l),mS 90]],.ret (.bool (decide (a>=(0:Int)))) (hL []) 0)]:=G.W
set_option maxRecDepth 10000
theorem ZT:kj ak 147 (gQ KY):=by
 refine nt Tryz.func147 fun args fm v e=>?_;unfold KY at e;split at e
 case h_2=>cases e
 rename_i n;obtain⟨rfl,rfl⟩:=sm e;exact⟨rfl,rfl,rfl,fun _=>eR (be _) (afa n) (dJ (g1 fun h=>⟨all_nil,_,_,_,rfl,aI V.bool (by simp only[ptB,h,aP])⟩) (dF (g1 fun h=>⟨all_nil,_,_,_,rfl,aI V.bool (by simp only[ptB,h,aQ])⟩)))⟩
theorem ZU:kj ak 161 (gQ KZ):=by
 refine nt Tryz.func161 fun args fm v e=>?_;unfold KZ at e;split at e
 case h_2=>cases e
 rename_i x a b;obtain⟨rfl,rfl⟩:=sm e;exact⟨rfl,rfl,rfl,fun _=>eR (be _) (ZO x a b) (dJ (g1 fun h=>⟨all_nil,_,_,_,rfl,aI V.bool (by simp only[rF,h,aP])⟩) (dF (g1 fun h=>⟨all_nil,_,_,_,rfl,aI V.bool (by simp only[rF,h,aQ])⟩)))⟩
theorem RF:fe ak Wpt:=fN ZT (be _)
theorem xy:fe ak Wt:=fN ZU (be _)
def Me(l:List Int):Bool:=ptB (Int.ofNat l.length)&&(decide (l.getD 0 0>=0)&&(decide (l.getD (l.length-1) 0<=65535)&&AX l))
theorem cvD(l:List Int)(hl:l.length<=1000000000):dV ak 121 [fF l] (.bool (Me l)):=by
 refine fc Tryz.func121 ?_;by_cases h0:0<l.length
 case neg=>
  have h1:l.length=0:=by omega
  have hn:l=[]:=cF.2 h1;subst hn;exact eR RF ao8 (dF (g0 ⟨all_nil,_,_,_,rfl,rfl⟩))
 refine eR (fk (Ux l h0 hl) RF) (ao9 l (l.length-1) (l.getD 0 0) (l.getD (l.length-1) 0) (AX l)) ?_;have e1:(0:Int)<=(0:Int)/\(0:Int)<Int.ofNat l.length:=by simp only[gB];omega
 have e2:V.dS (dO (eG l) 0 1)=V.dS [.int .i64 (l.getD 0 0)]:=gi h0;have e3:V.int B (IntKind.i64.wrap (Int.ofNat l.length-(1:Int)))=L (l.length-1):=aI (V.int .i64) (by rw[show Int.ofNat l.length-1=Int.ofNat (l.length-1)by simp only[gB];omega];exact ij (by simp only[gB];omega) (by simp only[gB];omega));have e4:=iT (show l.length-1<l.length by omega);have e5:=gi (l:=l) (show l.length-1<l.length by omega)
 repeat' (first|exact gU|refine dJ ?_ ?_)
 all_goals
  intro N;simp only[az,aF,bh,aL,bg]at N;refine⟨?_,_,_,_,rfl,aI V.bool (by simp only[Me,N,aP,aQ])⟩
  repeat' (first|exact all_nil|refine A ?_ ?_)
  all_goals first
   |exact e1
   |exact eK l
   |exact e2
   |exact e3
   |exact e4
   |exact e5
   |exact rfl
def Jd(k:Int)(l:List Int):Bool:=!(l.any fun x=>decide (x<IntKind.i64.wrap (0-k))||decide (x>k))
theorem awD(k:Int)(l:List Int)(hl:l.length<=1000000):dV ak 158 [F k,fF l] (.bool (Jd k l)):=by
 refine fc Tryz.func158 (fH 1 (be _) (apa k l) all_nil ?_);refine dM dD (dM dD (gk (be _) eI (apb k l) (dF (g0 ⟨all_nil,fun R dX=>?_⟩))));simp only[andThen];refine iz 0 l.length (fun i=>ZN k l i) (fun i=>decide (l.getD i 0<IntKind.i64.wrap (0-k))||decide (l.getD i 0>k)) (ew.norm dX) (fun i hi hj Q' k1 k2 k3=>?_) (fun h1 R dX=>?_)
 . rcases bj i l.length with q|q
   . have b0:V.bool (decide (Int.ofNat i<Int.ofNat l.length))=V.bool true:=aI V.bool (aT (cB.2 q));have hF:(decide (l.getD i 0<IntKind.i64.wrap (0-k))||decide (l.getD i 0>k))=true->V.bool false=V.bool (Jd k l):=fun h=>by
      unfold Jd;rw[EV (d:=0) q h];rfl
     refine gk (be _) (fun u _ _=>u= .bool (Jd k l)) (apc k l i (l.getD i 0)) (dJ (g1 fun h=>⟨A b0 (A (iT q) (A (eK l) (eM (gi q)))),hF (by rw[h];rfl),k3⟩) (dJ (g2 fun h C=>⟨A b0 (A (iT q) (A (eK l) (eM (gi q)))),hF (by rw[h,C];rfl),k3⟩) (dF (g2 fun h C=>⟨A b0 (A (iT q) (A (eK l) (A (gi q) (eM (gK S))))),fun R dX=>k1 q (by rw[h,C];rfl) R (ew.norm dX)⟩))))
   . obtain rfl:i=l.length:=by omega
     exact gk (be _) eI (apd k l _) (dF (g0 ⟨eM (aI V.bool (aV (by simp only[gB];omega))),fun R dX=>k2 rfl R (ew.norm dX)⟩))
 simp only[andThen];refine dX _ _ (eR (be _) (ape k l _) (dF (g0 ⟨all_nil,_,_,_,rfl,aI V.bool (Eq.symm ?_)⟩)));unfold Jd;rw[IL (d:=0) h1];rfl
theorem adD(p:P7):dV ak 159 [p.v] (F (Nx p)):=fc Tryz.func159 (eR (be _) (apf p) (dF (g0 ⟨all_nil,_,_,_,rfl,rfl⟩)))
def Je(x:Int×Int):Bool:=decide ((if x.2<x.1 then x.2 else x.1)< -65536)||decide ((if x.2>x.1 then x.2 else x.1)>65536)
theorem apK(x:Int×Int):dV ak 163 [.agg [F x.1,F x.2]] (.bool (Je x)):=
 fc Tryz.func163 (eR (be _) (apg x.1 x.2) (dJ (g1 fun h=>⟨all_nil,_,_,_,rfl,aI V.bool (by simp only[Je,h,bU])⟩) (dF (g1 fun h=>⟨all_nil,_,_,_,rfl,aI V.bool (by simp only[Je,h,bR])⟩))))
section
variable(x:Int){α:Type}{p:α->Bool}
def ZV:Bool:=decide (x< -65536)||decide (x>65536)
theorem cwD:dV ak 150 [F x] (.bool (ZV x)):=
 fc Tryz.func150 (eR (be _) (aph x) (dJ (g1 fun h=>⟨all_nil,_,_,_,rfl,aI V.bool (by simp only[ZV,h,bU])⟩) (dF (g1 fun h=>⟨all_nil,_,_,_,rfl,aI V.bool (by simp only[ZV,h,bR])⟩))))
def Wu:Bool:=!rF x (-4096) 4096
theorem fcD:dV ak 160 [F x] (.bool (Wu x)):=
 fc Tryz.func160 (eR xy (api x) (dF (g0 ⟨all_nil,_,_,_,rfl,rfl⟩)))
theorem BL(p:α->Bool)(l:List α):decide (G7 p l>=0)=l.any p:=by
 unfold G7;cases h:l.findIdx? p with
 |some i=>
  have:l.any p=true:=by
   rw[bZ]at h;obtain⟨h1,C,_⟩:=h;exact List.any_eq_true.2 ⟨_,bJ h1,C⟩
  rw[this];exact aT (by show Int.ofNat i>=0;simp only[gB];omega)
 |none=>
  rw[cV]at h;have:l.any p=false:=dc.2 fun x J=>by rw[h x J];simp
  rw[this];rfl
theorem yK{l:List α}{d:α}{i:Nat}(hi:i<l.length)(h:p (l.getD i d)=true)(hj:∀j,j<i->p (l.getD j d)=false):G7 p l=Int.ofNat i:=by
 have:l.findIdx? p=some i:=by
  rw[bZ];refine⟨hi,?_,fun j q=>?_⟩
  . rw[ax,au hi]at h;exact h
  . have:=hj j q;rw[ax,au S]at this;simpa using this
 unfold G7;rw[this]
theorem yL{l:List α}{d:α}(hj:∀j,j<l.length->p (l.getD j d)=false):G7 p l= -1:=by
 have:l.findIdx? p=none:=by
  rw[cV];intro x J;obtain⟨j,Bh,rfl⟩:=ck J;have:=hj j Bh;rw[ax,au Bh]at this;exact this
 unfold G7;rw[this]
theorem yM{l:List α}{i:Nat}{d:α}(h:i<l.length):l.getD i d∈l:=by rw[ax,au h];exact bJ h
end
theorem iaD(l:List Int)(p:Int->Bool)(hp:∀x∈l,dV ak 150 [F x] (.bool (p x)))(hl:l.length<=1000000):dV ak 171 [fF l,mS 150] (F (G7 p l)):=by
 refine fc Tryz.func171 (fH 1 (be _) (apj l) all_nil ?_);refine dM dD (dM dD (gk (be _) eI (apk l) (dF (g0 ⟨all_nil,fun R dX=>?_⟩))));simp only[andThen];refine iz 0 l.length (fun i=>ZP l i) (fun i=>p (l.getD i 0)) (ew.norm dX) (fun i hi hj Q' k1 k2 k3=>?_) (fun h1 R dX=>?_)
 . rcases bj i l.length with q|q
   . have b0:V.bool (decide (Int.ofNat i<Int.ofNat l.length))=V.bool true:=aI V.bool (aT (cB.2 q));exact gk (fk (hp _ (yM q)) (be _)) (fun u _ _=>u=F (G7 p l)) (apl l i (l.getD i 0) (p (l.getD i 0))) (dJ (g1 fun h=>⟨A b0 (A (iT q) (A (eK l) (A (gi q) (eM rfl)))),by rw[yK q h hj],k3⟩) (dF (g1 fun h=>⟨A b0 (A (iT q) (A (eK l) (A (gi q) (A rfl (eM (gK S)))))),fun R dX=>k1 q h R (ew.norm dX)⟩)))
   . obtain rfl:i=l.length:=by omega
     exact gk (be _) eI (apm l _) (dF (g0 ⟨eM (aI V.bool (aV (by simp only[gB];omega))),fun R dX=>k2 rfl R (ew.norm dX)⟩))
 simp only[andThen];exact dX _ _ (eR (be _) (apn l _) (dF (g0 ⟨all_nil,_,_,_,rfl,by rw[yL h1]⟩)))
theorem ibD(l:List Int)(p:Int->Bool)(hp:∀x∈l,dV ak 160 [F x] (.bool (p x)))(hl:l.length<=1000000):dV ak 171 [fF l,mS 160] (F (G7 p l)):=by
 refine fc Tryz.func171 (fH 1 (be _) (apo l) all_nil ?_);refine dM dD (dM dD (gk (be _) eI (apq l) (dF (g0 ⟨all_nil,fun R dX=>?_⟩))));simp only[andThen];refine iz 0 l.length (fun i=>ZQ l i) (fun i=>p (l.getD i 0)) (ew.norm dX) (fun i hi hj Q' k1 k2 k3=>?_) (fun h1 R dX=>?_)
 . rcases bj i l.length with q|q
   . have b0:V.bool (decide (Int.ofNat i<Int.ofNat l.length))=V.bool true:=aI V.bool (aT (cB.2 q));exact gk (fk (hp _ (yM q)) (be _)) (fun u _ _=>u=F (G7 p l)) (apr l i (l.getD i 0) (p (l.getD i 0))) (dJ (g1 fun h=>⟨A b0 (A (iT q) (A (eK l) (A (gi q) (eM rfl)))),by rw[yK q h hj],k3⟩) (dF (g1 fun h=>⟨A b0 (A (iT q) (A (eK l) (A (gi q) (A rfl (eM (gK S)))))),fun R dX=>k1 q h R (ew.norm dX)⟩)))
   . obtain rfl:i=l.length:=by omega
     exact gk (be _) eI (aps l _) (dF (g0 ⟨eM (aI V.bool (aV (by simp only[gB];omega))),fun R dX=>k2 rfl R (ew.norm dX)⟩))
 simp only[andThen];exact dX _ _ (eR (be _) (apt l _) (dF (g0 ⟨all_nil,_,_,_,rfl,by rw[yL h1]⟩)))
theorem icD(l:List (Int×Int))(p:(Int×Int)->Bool)(hp:∀x∈l,dV ak 163 [.agg [F x.1,F x.2]] (.bool (p x)))(hl:l.length<=1000000):dV ak 177 [vV l,mS 163] (F (G7 p l)):=by
 refine fc Tryz.func177 (fH 1 (be _) (apu l) all_nil ?_);refine dM dD (dM dD (gk (be _) eI (apv l) (dF (g0 ⟨all_nil,fun R dX=>?_⟩))));simp only[andThen];refine iz 0 l.length (fun i=>ZR l i) (fun i=>p (l.getD i (0,0))) (ew.norm dX) (fun i hi hj Q' k1 k2 k3=>?_) (fun h1 R dX=>?_)
 . rcases bj i l.length with q|q
   . have b0:V.bool (decide (Int.ofNat i<Int.ofNat l.length))=V.bool true:=aI V.bool (aT (cB.2 q));exact gk (fk (hp _ (yM q)) (be _)) (fun u _ _=>u=F (G7 p l)) (apw l i (l.getD i (0,0)) (p (l.getD i (0,0)))) (dJ (g1 fun h=>⟨A b0 (A (iT q) (A (pn l) (A (Gd q) (eM rfl)))),by rw[yK q h hj],k3⟩) (dF (g1 fun h=>⟨A b0 (A (iT q) (A (pn l) (A (Gd q) (A rfl (eM (gK S)))))),fun R dX=>k1 q h R (ew.norm dX)⟩)))
   . obtain rfl:i=l.length:=by omega
     exact gk (be _) eI (apx l _) (dF (g0 ⟨eM (aI V.bool (aV (by simp only[gB];omega))),fun R dX=>k2 rfl R (ew.norm dX)⟩))
 simp only[andThen];exact dX _ _ (eR (be _) (apy l _) (dF (g0 ⟨all_nil,_,_,_,rfl,by rw[yL h1]⟩)))
theorem idD(l:List Sp)(p:Sp->Bool)(hp:∀x∈l,dV ak 90 [x.v] (.bool (p x)))(hl:l.length<=1000000):dV ak 124 [.eE false l.length (jy l),mS 90] (F (G7 p l)):=by
 refine fc Tryz.func124 (fH 1 (be _) (apz l) all_nil ?_);refine dM dD (dM dD (gk (be _) eI (apA l) (dF (g0 ⟨all_nil,fun R dX=>?_⟩))));simp only[andThen];refine iz 0 l.length (fun i=>ZS l i) (fun i=>p (l.getD i D8)) (ew.norm dX) (fun i hi hj Q' k1 k2 k3=>?_) (fun h1 R dX=>?_)
 . rcases bj i l.length with q|q
   . have b0:V.bool (decide (Int.ofNat i<Int.ofNat l.length))=V.bool true:=aI V.bool (aT (cB.2 q));exact gk (fk (hp _ (yM q)) (be _)) (fun u _ _=>u=F (G7 p l)) (apB l i (l.getD i D8) (p (l.getD i D8))) (dJ (g1 fun h=>⟨A b0 (A (iT q) (A (mw l) (A (BB q) (eM rfl)))),by rw[yK q h hj],k3⟩) (dF (g1 fun h=>⟨A b0 (A (iT q) (A (mw l) (A (BB q) (A rfl (eM (gK S)))))),fun R dX=>k1 q h R (ew.norm dX)⟩)))
   . obtain rfl:i=l.length:=by omega
     exact gk (be _) eI (apC l _) (dF (g0 ⟨eM (aI V.bool (aV (by simp only[gB];omega))),fun R dX=>k2 rfl R (ew.norm dX)⟩))
 simp only[andThen];exact dX _ _ (eR (be _) (apE l _) (dF (g0 ⟨all_nil,_,_,_,rfl,by rw[yL h1]⟩)))
theorem caD(l:List Int)(p:Int->Bool)(hp:∀x∈l,dV ak 150 [F x] (.bool (p x)))(hl:l.length<=1000000):dV ak 149 [fF l,mS 150] (.bool (l.any p)):=
 fc Tryz.func149 (eR (fk (iaD l p hp hl) (be _)) (apF l (G7 p l)) (dF (g0 ⟨eM rfl,_,_,_,rfl,aI V.bool (BL p l)⟩)))
theorem cbD(l:List Int)(p:Int->Bool)(hp:∀x∈l,dV ak 160 [F x] (.bool (p x)))(hl:l.length<=1000000):dV ak 149 [fF l,mS 160] (.bool (l.any p)):=
 fc Tryz.func149 (eR (fk (ibD l p hp hl) (be _)) (apG l (G7 p l)) (dF (g0 ⟨eM rfl,_,_,_,rfl,aI V.bool (BL p l)⟩)))
theorem ccD(l:List (Int×Int))(p:(Int×Int)->Bool)(hp:∀x∈l,dV ak 163 [.agg [F x.1,F x.2]] (.bool (p x)))(hl:l.length<=1000000):dV ak 162 [vV l,mS 163] (.bool (l.any p)):=
 fc Tryz.func162 (eR (fk (icD l p hp hl) (be _)) (apH l (G7 p l)) (dF (g0 ⟨eM rfl,_,_,_,rfl,aI V.bool (BL p l)⟩)))
theorem ceD(l:List Sp)(p:Sp->Bool)(hp:∀x∈l,dV ak 90 [x.v] (.bool (p x)))(hl:l.length<=1000000):dV ak 92 [.eE false l.length (jy l),mS 90] (.bool (l.any p)):=
 fc Tryz.func92 (eR (fk (idD l p hp hl) (be _)) (apJ l (G7 p l)) (dF (g0 ⟨eM rfl,_,_,_,rfl,aI V.bool (BL p l)⟩)))
set_option maxRecDepth 10000
section
variable(a m b:M9)(i:Nat)
def M9.l:List Int:=[m.a,m.b,m.c,m.d,m.e,m.f,m.g,m.h,m.i]
noncomputable abbrev UG:Code:=dL Tryz.f122
theorem apL:H (M ek []) [] 0 Tryz.f122 [1] (dU 1 UG) (dB [.agg (D.fU m.ds)] .nil 0) [([],[],eu (fB [(1,.ptr (some (0,0)))] (hL [(0,.cells [.int .i64 (m.a),.int .i64 (m.b),.int .i64 (m.c),.int .i64 (m.d),.int .i64 (m.e),.int .i64 (m.f),.int .i64 (m.g),.int .i64 (m.h),.int .i64 (m.i)])]) 1))]:=G.W
theorem apM:H (M ek []) [] 0 Tryz.f122 [3] (Ec 1 (dI (dA 1 UG))) (fB [(1,.ptr (some (0,0)))] (hL [(0,.cells (D.fU m.ds))]) 1) [([],[],eu (fB [(3,.eZ (some (0,0)) 9 9 1)] (hL [(0,.cells [.int .i64 (m.a),.int .i64 (m.b),.int .i64 (m.c),.int .i64 (m.d),.int .i64 (m.e),.int .i64 (m.f),.int .i64 (m.g),.int .i64 (m.h),.int .i64 (m.i)])]) 1))]:=G.W
theorem apN(b:Bool):H (M (fa 149 [fF m.l,mS 150] (.bool b) ek) []) [] 0 Tryz.f122 [2] (Jc 1 (dI (dA 1 UG))) (fB [(3,fF m.l)] (hL []) 0) [([],[V.jJ ([]++[fF m.l,V.fn (Fn.func 150) [] []]++[])=[fF m.l,mS 150]],eu (fB [(2,.bool (!b))] (hL []) 0))]:=G.W
theorem apO(b:Bool):H (M ek []) [] 0 Tryz.f122 [] (dY (dA 1 UG)) (fB [(2,.bool b)] (hL []) 0) [([],[],.ret (.bool b) (hL []) 0)]:=G.W
noncomputable abbrev UH:Code:=dL Tryz.f123
noncomputable abbrev bIv:Code:=dK (dK (dY (dI (dA 1 UH))))
def ZW:St:=fB [(2,.ptr (some (0,0))),(3,.ptr (some (1,0))),(9,L i)] (hL [(0,.cells (D.fU a.ds)),(1,.cells (D.fU b.ds))]) 2
theorem apP:H (M ek []) [] 0 Tryz.f123 [2,3] (dU 1 UH) (dB [.agg (D.fU a.ds),.agg (D.fU b.ds)] .nil 0) [([],[],eu (fB [(2,.ptr (some (0,0))),(3,.ptr (some (1,0)))] (hL [(0,.cells [.int .i64 (a.a),.int .i64 (a.b),.int .i64 (a.c),.int .i64 (a.d),.int .i64 (a.e),.int .i64 (a.f),.int .i64 (a.g),.int .i64 (a.h),.int .i64 (a.i)]),(1,.cells [.int .i64 (b.a),.int .i64 (b.b),.int .i64 (b.c),.int .i64 (b.d),.int .i64 (b.e),.int .i64 (b.f),.int .i64 (b.g),.int .i64 (b.h),.int .i64 (b.i)])]) 2))]:=G.W
theorem apQ:H (M ek []) [] 0 Tryz.f123 [2,3,9] (dI (dI (dA 1 UH))) (fB [(2,.ptr (some (0,0))),(3,.ptr (some (1,0)))] (hL [(0,.cells (D.fU a.ds)),(1,.cells (D.fU b.ds))]) 2) [([],[],eu (ZW a b 0))]:=G.W
def ivS(j:Nat):Int:=IntKind.i64.wrap (IntKind.i64.wrap (IntKind.i64.wrap (a.at (3*i)*b.at j)+IntKind.i64.wrap (a.at (3*i+1)*b.at (3+j)))+IntKind.i64.wrap (a.at (3*i+2)*b.at (6+j)))
def UI:Int:=bif Nat.beq (i/3) (i%3)then IntKind.i64.wrap (ivS a b (i/3) (i%3)-16777216)else ivS a b (i/3) (i%3)
def ivA:ah:=[(3:Int)≠(0:Int),n9 (3*(i/3)),n9 (i%3),n9 (3*(i/3)+1),n9 (3+i%3),n9 (3*(i/3)+2),n9 (6+i%3)]
theorem apR(a b:M9):∀i,i<9->H (M ek []) [(52,.split),(55,.split)] 0 Tryz.f123 [2,3,9] bIv (ZW a b i) [([(decide (UI a b i<(-32768:Int)),true)],ivA i,.ret (.bool false) (hL []) 0),([(decide (UI a b i<(-32768:Int)),false),(decide (UI a b i>(32768:Int)),true)],ivA i,.ret (.bool false) (hL []) 0),([(decide (UI a b i<(-32768:Int)),false),(decide (UI a b i>(32768:Int)),false)],ivA i,.to .normal (ZW a b (i+1)))]:=by
 intro i hi;obtain rfl|rfl|rfl|rfl|rfl|rfl|rfl|rfl|rfl:i=0\/i=1\/i=2\/i=3\/i=4\/i=5\/i=6\/i=7\/i=8:=by omega
 all_goals exact G.W
theorem apS:H (M ek []) [] 0 Tryz.f123 [2,3,9] (bIv) (ZW a b 9) [([],[],.to (.exit 0) (ZW a b 9))]:=G.W
theorem apT:H (M ek []) [] 0 Tryz.f123 [] (dY (dA 1 UH)) (ZW a b 9) [([],[],By)]:=G.W
noncomputable abbrev UJ:Code:=dL Tryz.f91
end
noncomputable abbrev bSv:Code:=dK (dK (dY (dI (dA 1 UJ))))
def ZX(s:Sp)(i:Nat):St:=fB [(1,.ptr (some (0,0))),(6,.agg [fF s.c0,fF s.c1,fF s.c2]),(7,L i)] (hL [(0,.cells (D.fU s.ds))]) 1
section
variable(f:FL)(s:Sp)(p:P7)(b:Bool)(u:ag)
theorem apU:H (M ek []) [] 0 Tryz.f91 [1] (dU 1 UJ) (dB [s.v] .nil 0) [([],[],eu (fB [(1,.ptr (some (0,0)))] (hL [(0,.cells [.eE false (s.c0.length) (eG s.c0),.eE false (s.c1.length) (eG s.c1),.eE false (s.c2.length) (eG s.c2),.int .i64 (s.to.a),.int .i64 (s.to.b),.int .i64 (s.to.c),.int .i64 (s.to.d),.int .i64 (s.to.e),.int .i64 (s.to.f),.int .i64 (s.to.g),.int .i64 (s.to.h),.int .i64 (s.to.i),.int .i64 (s.T.a),.int .i64 (s.T.b),.int .i64 (s.T.c),.int .i64 (s.T.d),.int .i64 (s.T.e),.int .i64 (s.T.f),.int .i64 (s.T.g),.int .i64 (s.T.h),.int .i64 (s.T.i)])]) 1))]:=G.W
theorem apV:H (M ek []) [] 0 Tryz.f91 [1,6,7] (dI (dI (dA 1 UJ))) (fB [(1,.ptr (some (0,0)))] (hL [(0,.cells (D.fU s.ds))]) 1) [([],[],eu (ZX s 0))]:=G.W
theorem apW:∀i,i<3->H (M (fa 121 [fF (s.cv i)] (.bool b) ek) []) [(12,.split)] 0 Tryz.f91 [1,6,7] bSv (ZX s i) [([(!b,true)],[fu [fF (s.cv i)]],.ret (.bool false) (hL []) 0),([(!b,false)],[fu [fF (s.cv i)]],.to .normal (ZX s (i+1)))]:=by
 intro i hi;obtain rfl|rfl|rfl:i=0\/i=1\/i=2:=by omega
 all_goals exact G.W
theorem apX:H (M ek []) [] 0 Tryz.f91 [1,6,7] (bSv) (ZX s 3) [([],[],.to (.exit 0) (ZX s 3))]:=G.W
def DK(l:List Int):Bool:=!(l.any ZV)
def K0:List Eng.D->Option (ah×V)
 | [.agg cs]=>some ([cs=eG (eH cs),(eH cs).length=9],.bool (DK (eH cs)))
 |_=>none
noncomputable abbrev Wwm:gJ:=kp 122 (Go.Eng.dW K0) ek
abbrev Gz:Prop:=(eH [D.int B s.to.a,D.int B s.to.b,D.int B s.to.c,D.int B s.to.d,D.int B s.to.e,D.int B s.to.f,D.int B s.to.g,D.int B s.to.h,D.int B s.to.i]).length=9
abbrev RG:Prop:=(eH [D.int B s.T.a,D.int B s.T.b,D.int B s.T.c,D.int B s.T.d,D.int B s.T.e,D.int B s.T.f,D.int B s.T.g,D.int B s.T.h,D.int B s.T.i]).length=9
abbrev RH:Prop:=V.jJ ([]++[V.agg (List.take 9 (List.drop 12 (D.fU s.ds))),V.agg (List.take 9 (List.drop 3 (D.fU s.ds)))]++[])=[V.agg (D.fU s.T.ds),V.agg (D.fU s.to.ds)]
theorem apY(c:Bool):H (M (fa 123 [.agg (D.fU s.T.ds),.agg (D.fU s.to.ds)] (.bool c) Wwm) []) [(17,.split),(22,.split)] 0 Tryz.f91 [] (dY (dA 1 UJ)) (ZX s 3) [([(DK (eH [D.int B s.to.a,D.int B s.to.b,D.int B s.to.c,D.int B s.to.d,D.int B s.to.e,D.int B s.to.f,D.int B s.to.g,D.int B s.to.h,D.int B s.to.i]),true),(DK (eH [D.int B s.T.a,D.int B s.T.b,D.int B s.T.c,D.int B s.T.d,D.int B s.T.e,D.int B s.T.f,D.int B s.T.g,D.int B s.T.h,D.int B s.T.i]),true)],[[D.int B s.to.a,D.int B s.to.b,D.int B s.to.c,D.int B s.to.d,D.int B s.to.e,D.int B s.to.f,D.int B s.to.g,D.int B s.to.h,D.int B s.to.i]=eG (eH [D.int B s.to.a,D.int B s.to.b,D.int B s.to.c,D.int B s.to.d,D.int B s.to.e,D.int B s.to.f,D.int B s.to.g,D.int B s.to.h,D.int B s.to.i]),Gz s,[D.int B s.T.a,D.int B s.T.b,D.int B s.T.c,D.int B s.T.d,D.int B s.T.e,D.int B s.T.f,D.int B s.T.g,D.int B s.T.h,D.int B s.T.i]=eG (eH [D.int B s.T.a,D.int B s.T.b,D.int B s.T.c,D.int B s.T.d,D.int B s.T.e,D.int B s.T.f,D.int B s.T.g,D.int B s.T.h,D.int B s.T.i]),RG s,RH s],.ret (.bool c) (hL []) 0),([(DK (eH [D.int B s.to.a,D.int B s.to.b,D.int B s.to.c,D.int B s.to.d,D.int B s.to.e,D.int B s.to.f,D.int B s.to.g,D.int B s.to.h,D.int B s.to.i]),true),(DK (eH [D.int B s.T.a,D.int B s.T.b,D.int B s.T.c,D.int B s.T.d,D.int B s.T.e,D.int B s.T.f,D.int B s.T.g,D.int B s.T.h,D.int B s.T.i]),false)],[[D.int B s.to.a,D.int B s.to.b,D.int B s.to.c,D.int B s.to.d,D.int B s.to.e,D.int B s.to.f,D.int B s.to.g,D.int B s.to.h,D.int B s.to.i]=eG (eH [D.int B s.to.a,D.int B s.to.b,D.int B s.to.c,D.int B s.to.d,D.int B s.to.e,D.int B s.to.f,D.int B s.to.g,D.int B s.to.h,D.int B s.to.i]),Gz s,[D.int B s.T.a,D.int B s.T.b,D.int B s.T.c,D.int B s.T.d,D.int B s.T.e,D.int B s.T.f,D.int B s.T.g,D.int B s.T.h,D.int B s.T.i]=eG (eH [D.int B s.T.a,D.int B s.T.b,D.int B s.T.c,D.int B s.T.d,D.int B s.T.e,D.int B s.T.f,D.int B s.T.g,D.int B s.T.h,D.int B s.T.i]),RG s],ja),([(DK (eH [D.int B s.to.a,D.int B s.to.b,D.int B s.to.c,D.int B s.to.d,D.int B s.to.e,D.int B s.to.f,D.int B s.to.g,D.int B s.to.h,D.int B s.to.i]),false),(false,true)],[[D.int B s.to.a,D.int B s.to.b,D.int B s.to.c,D.int B s.to.d,D.int B s.to.e,D.int B s.to.f,D.int B s.to.g,D.int B s.to.h,D.int B s.to.i]=eG (eH [D.int B s.to.a,D.int B s.to.b,D.int B s.to.c,D.int B s.to.d,D.int B s.to.e,D.int B s.to.f,D.int B s.to.g,D.int B s.to.h,D.int B s.to.i]),Gz s,RH s],.ret (.bool c) (hL []) 0),([(DK (eH [D.int B s.to.a,D.int B s.to.b,D.int B s.to.c,D.int B s.to.d,D.int B s.to.e,D.int B s.to.f,D.int B s.to.g,D.int B s.to.h,D.int B s.to.i]),false),(false,false)],[[D.int B s.to.a,D.int B s.to.b,D.int B s.to.c,D.int B s.to.d,D.int B s.to.e,D.int B s.to.f,D.int B s.to.g,D.int B s.to.h,D.int B s.to.i]=eG (eH [D.int B s.to.a,D.int B s.to.b,D.int B s.to.c,D.int B s.to.d,D.int B s.to.e,D.int B s.to.f,D.int B s.to.g,D.int B s.to.h,D.int B s.to.i]),Gz s],ja)]:=G.W
theorem apZ:H (M (fa 91 [s.v] (.bool b) ek) []) [] 0 Tryz.f90 [] (dL Tryz.f90) (dB [s.v] .nil 0) [([],[V.jJ ([]++[V.agg (List.take 21 (List.drop 0 s.v.cells))]++[])=[s.v]],.ret (.bool (!b)) (hL []) 0)]:=G.W
def K1:List Eng.D->Option (ah×V)
 | [.int .i64 k,.eE n cs]=>some ([cs=eG (eH cs),n=(eH cs).length,n<=1000000],.bool (Jd k (eH cs)))
 |_=>none
noncomputable abbrev Waw:gJ:=kp 158 (yz K1) ek
abbrev K2:Prop:=5=(eH [D.int B p.a,D.int B p.b,D.int B p.d,D.int B p.e,D.int B p.n]).length
theorem ap0:H (M (fa 159 [p.v] (F (Nx p)) Waw) []) [(5,.split),(18,.split),(26,.split)] 0 Tryz.f127 [] (dL Tryz.f127) (dB [p.v] .nil 0) (Nr (decide (p.n>=(1:Int))) (Jd (4096:Int) (eH [D.int B p.a,D.int B p.b,D.int B p.d,D.int B p.e,D.int B p.n])) (Jd (268435456:Int) (eH [D.int B p.c,D.int B p.f])) ([[D.int B p.a,D.int B p.b,D.int B p.d,D.int B p.e,D.int B p.n].length=5,[D.int B p.a,D.int B p.b,D.int B p.d,D.int B p.e,D.int B p.n]=eG (eH [D.int B p.a,D.int B p.b,D.int B p.d,D.int B p.e,D.int B p.n]),K2 p,5<=1000000,[D.int B p.c,D.int B p.f].length=2,[D.int B p.c,D.int B p.f]=eG (eH [D.int B p.c,D.int B p.f]),2=(eH [D.int B p.c,D.int B p.f]).length,2<=1000000,V.jJ ([]++[V.agg (List.take 7 (List.drop 0 p.v.cells))]++[])=[p.v]],.ret (.bool (Nx p !=(0:Int))) (hL []) 0) ([[D.int B p.a,D.int B p.b,D.int B p.d,D.int B p.e,D.int B p.n].length=5,[D.int B p.a,D.int B p.b,D.int B p.d,D.int B p.e,D.int B p.n]=eG (eH [D.int B p.a,D.int B p.b,D.int B p.d,D.int B p.e,D.int B p.n]),K2 p,5<=1000000,[D.int B p.c,D.int B p.f].length=2,[D.int B p.c,D.int B p.f]=eG (eH [D.int B p.c,D.int B p.f]),2=(eH [D.int B p.c,D.int B p.f]).length,2<=1000000],ja) ([[D.int B p.a,D.int B p.b,D.int B p.d,D.int B p.e,D.int B p.n].length=5,[D.int B p.a,D.int B p.b,D.int B p.d,D.int B p.e,D.int B p.n]=eG (eH [D.int B p.a,D.int B p.b,D.int B p.d,D.int B p.e,D.int B p.n]),K2 p,5<=1000000],ja) ([],ja)):=G.W
theorem afb(l:List (Int×Int))(b:Bool):H (M (fa 162 [vV l,mS 163] (.bool b) ek) []) [(5,.split),(9,.split)] 0 Tryz.f129 [] (dL Tryz.f129) (dB [vV l] .nil 0) (CW (decide ((Int.ofNat l.length)>=(3:Int))) (decide ((Int.ofNat l.length)<=(64:Int))) ([V.jJ ([]++[vV l,V.fn (Fn.func 163) [] []]++[])=[vV l,mS 163]],.ret (.bool (!b)) (hL []) 0) ([],ja)):=G.W
def BM(t:Bool):St:=fB [(1,.ptr (some (0,0))),(3,.bool t),(4,.ptr (some (1,0)))] (hL [(0,.cells f.cs),(1,.cells u)]) 2
def uF1:ag:=[F f.k,F f.r,fF f.eW,F f.dv,F 0,gh]
def uF2:ag:=[F f.k,F f.r,gh,F 0,F 0,gh]
def uF5:ag:=[F f.k,F 0,gh,F 0,F 0,fF f.cu]
def uF6:ag:=[F f.k,F 0,gh,F 0,F 0,gh]
def uF7:ag:=[F f.k,F 0,gh,F 0,F f.vl,gh]
def uF8:ag:=[F f.k,F f.r,gh,F 0,F f.vl,gh]
theorem ap4:H (M (fa 149 [fF f.eW,mS 160] (.bool b) ek) [(161,[(9,.split),(13,.split)])]) [(37,.split)] 0 Tryz.f128 [3,1,4] (dU 4 (dL Tryz.f128)) (dB [(lZ f 1).v] .nil 0) (TH (decide (f.r>=(0:Int))) (decide (f.r<=(3:Int))) ((Int.ofNat f.eW.length)==IntKind.i64.wrap (IntKind.i64.wrap (IntKind.i64.wrap ((2:Int)*f.r)+(1:Int))*IntKind.i64.wrap (IntKind.i64.wrap ((2:Int)*f.r)+(1:Int)))) (decide (f.dv>=(1:Int))) (decide (f.dv<=(1048576:Int))) ([V.jJ ([]++[fF f.eW,V.fn (Fn.func 160) [] []]++[])=[fF f.eW,mS 160]],eu (BM (lZ f 1) (uF1 (lZ f 1)) (!b))) ([],eu (BM (lZ f 1) (uF1 (lZ f 1)) false))):=G.W
theorem ap5:H (M Wt []) [] 0 Tryz.f128 [3,1,4] (dU 4 (dL Tryz.f128)) (dB [(lZ f 2).v] .nil 0) [([],[],eu (BM (lZ f 2) (uF2 (lZ f 2)) (rF f.r 0 3)))]:=G.W
theorem ap6:H (M Wt []) [] 0 Tryz.f128 [3,1,4] (dU 4 (dL Tryz.f128)) (dB [(lZ f 3).v] .nil 0) [([],[],eu (BM (lZ f 3) (uF2 (lZ f 3)) (rF f.r 0 3)))]:=G.W
theorem ap7:H (M Wt []) [] 0 Tryz.f128 [3,1,4] (dU 4 (dL Tryz.f128)) (dB [(lZ f 4).v] .nil 0) [([],[],eu (BM (lZ f 4) (uF2 (lZ f 4)) (rF f.r 0 3)))]:=G.W
theorem ap8:H (M (fa 121 [fF f.cu] (.bool b) Wt) []) [] 0 Tryz.f128 [3,1,4] (dU 4 (dL Tryz.f128)) (dB [(lZ f 5).v] .nil 0) [([],[V.jJ ([]++[fF f.cu]++[])=[fF f.cu]],eu (BM (lZ f 5) (uF5 (lZ f 5)) b))]:=G.W
theorem ap9:H (M Wt []) [] 0 Tryz.f128 [3,1,4] (dU 4 (dL Tryz.f128)) (dB [(lZ f 6).v] .nil 0) [([],[],eu (BM (lZ f 6) (uF6 (lZ f 6)) true))]:=G.W
theorem aqa:H (M Wt []) [] 0 Tryz.f128 [3,1,4] (dU 4 (dL Tryz.f128)) (dB [(lZ f 7).v] .nil 0) [([],[],eu (BM (lZ f 7) (uF7 (lZ f 7)) (rF f.vl 0 256)))]:=G.W
theorem aqb:H (M ek [(161,[(9,.split),(13,.split)])]) [] 0 Tryz.f128 [3,1,4] (dU 4 (dL Tryz.f128)) (dB [(lZ f 8).v] .nil 0) (D3 (decide (f.r>=(-3:Int))) (decide (f.r<=(3:Int))) (decide (f.vl>=(-3:Int))) (decide (f.vl<=(3:Int))) ([],eu (BM (lZ f 8) (uF8 (lZ f 8)) true)) ([],eu (BM (lZ f 8) (uF8 (lZ f 8)) false))):=G.W
theorem NV:H (M ek []) [] 0 Tryz.f128 [] (dA 4 (dL Tryz.f128)) (BM f u false) [([],[],ja)]:=G.W
theorem aqc:H (M ek []) [(101,.dG (.bool true)),(108,.dG (.bool true)),(115,.split),(124,.dG (.bool true))] 0 Tryz.f128 [] (dA 4 (dL Tryz.f128)) (BM f (uF1 f) true) (fP (f.vl==(0:Int)) ([kO (f.r==f.r),kO (f.dv==f.dv),kO ((Int.ofNat f.eW.length)==(Int.ofNat f.eW.length))],.ret (.bool ((Int.ofNat f.cu.length)==(0:Int))) (hL []) 0) ([kO (f.r==f.r),kO (f.dv==f.dv)],ja)):=G.W
theorem aqd:H (M ek []) [(101,.dG (.bool true)),(108,.split),(115,.split),(124,.split)] 0 Tryz.f128 [] (dA 4 (dL Tryz.f128)) (BM f (uF2 f) true) (P0 (f.dv==(0:Int)) (f.vl==(0:Int)) ((Int.ofNat f.eW.length)==(0:Int)) ([kO (f.r==f.r)],.ret (.bool ((Int.ofNat f.cu.length)==(0:Int))) (hL []) 0) ([kO (f.r==f.r)],ja)):=G.W
theorem aqe:H (M ek []) [(101,.split),(108,.split),(115,.split),(124,.split),(133,.dG (.bool true))] 0 Tryz.f128 [] (dA 4 (dL Tryz.f128)) (BM f (uF5 f) true) (D3 (f.r==(0:Int)) (f.dv==(0:Int)) (f.vl==(0:Int)) ((Int.ofNat f.eW.length)==(0:Int)) ([kO ((Int.ofNat f.cu.length)==(Int.ofNat f.cu.length))],By) ([],ja)):=G.W
theorem aqf:H (M ek []) [(101,.split),(108,.split),(115,.split),(124,.split)] 0 Tryz.f128 [] (dA 4 (dL Tryz.f128)) (BM f (uF6 f) true) (D3 (f.r==(0:Int)) (f.dv==(0:Int)) (f.vl==(0:Int)) ((Int.ofNat f.eW.length)==(0:Int)) ([],.ret (.bool ((Int.ofNat f.cu.length)==(0:Int))) (hL []) 0) ([],ja)):=G.W
theorem aqg:H (M ek []) [(101,.split),(108,.split),(115,.dG (.bool true)),(124,.split)] 0 Tryz.f128 [] (dA 4 (dL Tryz.f128)) (BM f (uF7 f) true) (Nr (f.r==(0:Int)) (f.dv==(0:Int)) ((Int.ofNat f.eW.length)==(0:Int)) ([kO (f.vl==f.vl)],.ret (.bool ((Int.ofNat f.cu.length)==(0:Int))) (hL []) 0) ([kO (f.vl==f.vl)],ja) ([],ja) ([],ja)):=G.W
theorem aqh:H (M ek []) [(101,.dG (.bool true)),(108,.split),(115,.dG (.bool true)),(124,.split)] 0 Tryz.f128 [] (dA 4 (dL Tryz.f128)) (BM f (uF8 f) true) (si (f.dv==(0:Int)) ((Int.ofNat f.eW.length)==(0:Int)) ([kO (f.r==f.r),kO (f.vl==f.vl)],.ret (.bool ((Int.ofNat f.cu.length)==(0:Int))) (hL []) 0) ([kO (f.r==f.r),kO (f.vl==f.vl)],ja) ([kO (f.r==f.r)],ja)):=G.W
theorem aqi:H (M ek []) [(13,.dG (.bool false)),(52,.dG (.bool false)),(53,.dG (.bool false)),(54,.dG (.bool false)),(62,.dG (.bool false)),(70,.dG (.bool false)),(72,.dG (.bool false)),(80,.dG (.bool false))] 0 Tryz.f128 [] (dU 4 (dL Tryz.f128)) (dB [f.v] .nil 0) [([],[lu (f.k==(1:Int)),lu (f.k==(2:Int)),lu (f.k==(3:Int)),lu (f.k==(4:Int)),lu (f.k==(5:Int)),lu (f.k==(6:Int)),lu (f.k==(7:Int)),lu (f.k==(8:Int))],ja)]:=G.W
end
set_option maxRecDepth 10000
theorem wmD(m:M9):dV ak 122 [.agg (D.fU m.ds)] (.bool (DK m.l)):=by
 refine fc Tryz.func122 (fH 1 (be _) (apL m) all_nil ?_);refine dM dD ?_;refine ae8 (fn:=Tryz.f122) 1 [0] [3] (be _) (apM m) all_nil (s2:=fB [(3,fF m.l)] (hL []) 0) (aj:=[m.ds.length=9*1]) dD (eM rfl) (fk (caD m.l ZV (fun x _=>cwD x) (show(9:Nat)<=1000000 by decide)) (be _)) (apN m (m.l.any ZV)) ?_;refine dF (g0 ⟨eM rfl,_,rfl,fun R dX=>?_⟩);simp only[andThen];exact dX _ _ (eR (be _) (apO _) (dF (g0 ⟨all_nil,_,_,_,rfl,rfl⟩)))
theorem K3{i:Nat}(h:i<9):∀a∈ivA i,a:=A eX (A (sB S) (A (sB S) (A (sB S) (A (sB S) (A (sB S) (eM (sB S)))))))
def K4(a b:M9)(i:Nat):Bool:=decide (UI a b i< -32768)||decide (UI a b i>32768)
theorem ivD(a b:M9):dV ak 123 [.agg (D.fU a.ds),.agg (D.fU b.ds)] (.bool (!((List.range 9).any (K4 a b)))):=by
 refine fc Tryz.func123 (fH 1 (be _) (apP a b) all_nil ?_);refine dM dD (dM dD (gk (be _) eI (apQ a b) (dF (g0 ⟨all_nil,fun R dX=>?_⟩))));simp only[andThen];refine iz 0 9 (fun i=>ZW a b i) (K4 a b) (ew.norm dX) (fun i hi hj Q' k1 k2 k3=>?_) (fun h1 R dX=>?_)
 . rcases bj i 9 with q|q
   . have hF:K4 a b i=true->V.bool false=V.bool (!((List.range 9).any (K4 a b))):=fun h=>by rw[qL (f:=K4 a b) q h];rfl
     exact gk (be _) (fun u _ _=>u= .bool (!((List.range 9).any (K4 a b)))) (apR a b i q) (dJ (g1 fun h=>⟨K3 q,hF (by unfold K4;rw[h];rfl),k3⟩) (dJ (g2 fun h C=>⟨K3 q,hF (by unfold K4;rw[h,C];rfl),k3⟩) (dF (g2 fun h C=>⟨K3 q,fun R dX=>k1 q (by unfold K4;rw[h,C];rfl) R (ew.norm dX)⟩))))
   . obtain rfl:i=9:=by omega
     exact gk (be _) eI (apS a b) (dF (g0 ⟨all_nil,fun R dX=>k2 rfl R (ew.norm dX)⟩))
 simp only[andThen];exact dX _ _ (eR (be _) (apT a b) (dF (g0 ⟨all_nil,_,_,_,rfl,by rw[qM (f:=K4 a b) h1];rfl⟩)))
section
variable(f:FL)(p:P7)(s:Sp)(t:Bool)
theorem ZY:kj ak 122 (Go.Eng.dW K0):=by
 refine PR (aE dD) fun ds fm v e hA=>?_;unfold K0 at e;split at e
 case h_2=>cases e
 rename_i cs;obtain⟨rfl,rfl⟩:=sm e;have e1:cs=eG (eH cs):=hA _ (by simp);have e2:(eH cs).length=9:=hA ((eH cs).length=9) (by simp);generalize eH cs=l at *;subst e1
 match l,e2 with
 | [a,b,c,d,e,f,g,h,i],_=>exact wmD ⟨a,b,c,d,e,f,g,h,i⟩
theorem ZZ:fe ak Wwm:=fN ZY (be _)
def UK:Bool:=!((List.range 3).any fun i=>!Me (s.cv i))&&(DK s.to.l&&(DK s.T.l&& !((List.range 9).any (K4 s.T s.to))))
theorem svD(h0:∀i,i<3->(s.cv i).length<=1000000000):dV ak 91 [s.v] (.bool (UK s)):=by
 refine fc Tryz.func91 (fH 1 (be _) (apU s) all_nil ?_);refine dM dD (dM dD (gk (be _) eI (apV s) (dF (g0 ⟨all_nil,fun R dX=>?_⟩))));simp only[andThen];refine iz 0 3 (fun i=>ZX s i) (fun i=>!Me (s.cv i)) (ew.norm dX) (fun i hi hj Q' k1 k2 k3=>?_) (fun h1 R dX=>?_)
 . rcases bj i 3 with q|q
   . have hF:(!Me (s.cv i))=true->V.bool false=V.bool (UK s):=fun h=>by unfold UK;rw[qL (f:=fun i=>!Me (s.cv i)) q h];rfl
     exact gk (fk (cvD (s.cv i) (h0 i q)) (be _)) (fun u _ _=>u= .bool (UK s)) (apW s (Me (s.cv i)) i q) (dJ (g1 fun h=>⟨eM rfl,hF h,k3⟩) (dF (g1 fun h=>⟨eM rfl,fun R dX=>k1 q h R (ew.norm dX)⟩)))
   . obtain rfl:i=3:=by omega
     exact gk (be _) eI (apX s) (dF (g0 ⟨all_nil,fun R dX=>k2 rfl R (ew.norm dX)⟩))
 simp only[andThen];have e:UK s=(DK s.to.l&&(DK s.T.l&& !((List.range 9).any (K4 s.T s.to)))):=by unfold UK;rw[qM (f:=fun i=>!Me (s.cv i)) h1];rfl
 rw[e];refine dX _ _ (eR (fk (ivD s.T s.to) ZZ) (apY s _) ?_)
 repeat' (first|exact gU|refine dJ ?_ ?_)
 all_goals
  intro N;simp only[az,aF,bh,aL,bg]at N;refine⟨?_,_,_,_,rfl,aI V.bool ?_⟩
  . repeat' (first|exact all_nil|refine A ?_ ?_)
    all_goals rfl
  . first
    |(have a1:DK s.to.l=true:=N.1
      have a2:DK s.T.l=true:=N.2;rw[a1,a2];rfl)
    |(have a1:DK s.to.l=true:=N.1
      have a2:DK s.T.l=false:=N.2;rw[a1,a2];rfl)
    |exact absurd N.2 Bool.false_ne_true
    |(have a1:DK s.to.l=false:=N.1
      rw[a1];rfl)
theorem czD(h0:∀i,i<3->(s.cv i).length<=1000000000):dV ak 90 [s.v] (.bool (!UK s)):=
 fc Tryz.func90 (eR (fk (svD s h0) (be _)) (apZ s _) (dF (g0 ⟨eM rfl,_,_,_,rfl,rfl⟩)))
theorem awT:∀ds fm v,K1 ds=some (fm,v)->(∀a∈fm,a)->dV ak 158 (ds.map D.kH) v:=fun ds fm v e hA=>by
 unfold K1 at e;split at e
 case h_2=>cases e
 rename_i k n cs;obtain⟨rfl,rfl⟩:=sm e;have e1:cs=eG (eH cs):=hA _ (by simp);have e2:n=(eH cs).length:=hA (n=(eH cs).length) (by simp);have e3:n<=1000000:=hA (n<=1000000) (by simp);generalize eH cs=l at *;subst e1 e2;exact awD k l e3
theorem Z0:fe ak Waw:=fN (yA dD awT) (be _)
def avP:Bool:=decide (p.n>=1)&&(Jd 4096 [p.a,p.b,p.d,p.e,p.n]&&(Jd 268435456 [p.c,p.f]&&(Nx p !=0)))
theorem avD:dV ak 127 [p.v] (.bool (avP p)):=by
 refine fc Tryz.func127 (eR (fk (adD p) Z0) (ap0 p) ?_)
 repeat' (first|exact gU|refine dJ ?_ ?_)
 all_goals
  intro N;simp only[az,aF,bh,aL,bg]at N;refine⟨?_,_,_,_,rfl,aI V.bool ?_⟩
  . repeat' (first|exact all_nil|refine A ?_ ?_)
    all_goals first|rfl|exact aX rfl
  . unfold avP
    first
    |(have a1:Jd 4096 [p.a,p.b,p.d,p.e,p.n]=true:=N.2.1
      have a2:Jd 268435456 [p.c,p.f]=true:=N.2.2;rw[N.1,a1,a2];rfl)
    |(have a1:Jd 4096 [p.a,p.b,p.d,p.e,p.n]=true:=N.2.1
      have a2:Jd 268435456 [p.c,p.f]=false:=N.2.2;rw[N.1,a1,a2];rfl)
    |(have a1:Jd 4096 [p.a,p.b,p.d,p.e,p.n]=false:=N.2
      rw[N.1,a1];rfl)
    |(rw[N];rfl)
theorem RI(k:Int)(h0:0<=k)(h1:k<=1000000000)(l:List Int):Jd k l=l.all fun x=>w9 x k:=by
 unfold Jd;rw[List.not_any_eq_all_not];congr 1;funext x;rw[ij S S];unfold w9;rw[Bool.not_or,<- decide_not,<- decide_not];congr 1<;>exact decide_eq_decide.2 S
theorem Z1:avP p=AR p:=by
 unfold avP AR SG Wh;rw[RI _ eX eX,RI _ eX eX];simp only[List.all_cons,List.all_nil,cz];by_cases h:p.n>=1
 . have e:w9 p.n 4096=decide (p.n<=4096):=by
    unfold w9;rw[show decide (-4096<=p.n)=true from aT S,aP]
   rw[e];generalize decide (p.n<=4096)=x;generalize w9 p.a 4096=a;generalize w9 p.b 4096=b;generalize w9 p.d 4096=c;generalize w9 p.e 4096=d;cases x<;>cases a<;>cases b<;>cases c<;>cases d<;>simp
 . rw[aV h];rfl
theorem afD:dV ak 127 [p.v] (.bool (AR p)):=Z1 p▸avD p
theorem RJ(x:Int×Int):Je x=KD x:=by
 have e1:decide ((if x.2<x.1 then x.2 else x.1)< -65536)=(decide (x.1< -65536)||decide (x.2< -65536)):=by
  rw[<- Bool.decide_or];refine decide_eq_decide.2 ?_;split<;>omega
 have e2:decide ((if x.2>x.1 then x.2 else x.1)>65536)=(decide (x.1>65536)||decide (x.2>65536)):=by
  rw[<- Bool.decide_or];refine decide_eq_decide.2 ?_;split<;>omega
 unfold Je KD;rw[e1,e2];generalize decide (x.1< -65536)=a;generalize decide (x.2< -65536)=b;generalize decide (x.1>65536)=c;generalize decide (x.2>65536)=d;cases a<;>cases b<;>cases c<;>cases d<;>rfl
theorem aqj(l:List (Int×Int))(hl:l.length<=1000000):dV ak 129 [vV l] (.bool (jP l)):=by
 have e:jP l=(decide (Int.ofNat l.length>=3)&&(decide (Int.ofNat l.length<=64)&& !(l.any Je))):=by
  unfold jP;rw[show Je=KD from funext RJ];generalize l.any KD=a;cases a<;>simp
 rw[e];refine fc Tryz.func129 (eR (fk (ccD l Je (fun x _=>apK x) hl) (be _)) (afb l _) ?_)
 repeat' (first|exact gU|refine dJ ?_ ?_)
 all_goals
  intro N;simp only[az,aF,bh,aL,bg]at N;exact⟨by first|exact all_nil|exact eM rfl,_,_,_,rfl,aI V.bool (by simp only[N,aP,aQ])⟩
theorem ty1:TG ak 0 Tryz.f128.ntmps (dA 4 (dL Tryz.f128)) (BM f (uF1 f) t) (fV ak 0 Tryz.f128 fun u _ _=>u= .bool (t&&((f.vl==(0:Int))&&nN f.cu.length))):=by
 cases t with
 |false=>exact eR (be _) (NV f _) (dF (g0 ⟨all_nil,_,_,_,rfl,rfl⟩))
 |true=>
  refine eR (be _) (aqc f) ?_
  repeat' (first|exact gU|refine dJ ?_ ?_)
  all_goals
   intro N;simp only[az,aF,bh,aL,bg]at N;refine⟨?_,_,_,_,rfl,aI V.bool (by simp only[N,aP,aQ])⟩
   repeat' (first|exact all_nil|refine A ?_ ?_)
   all_goals exact aI V.bool (beq_self_eq_true _)
theorem ty2:TG ak 0 Tryz.f128.ntmps (dA 4 (dL Tryz.f128)) (BM f (uF2 f) t) (fV ak 0 Tryz.f128 fun u _ _=>u= .bool (t&&((f.dv==(0:Int))&&((f.vl==(0:Int))&&(nN f.eW.length&&nN f.cu.length))))):=by
 cases t with
 |false=>exact eR (be _) (NV f _) (dF (g0 ⟨all_nil,_,_,_,rfl,rfl⟩))
 |true=>
  refine eR (be _) (aqd f) ?_
  repeat' (first|exact gU|refine dJ ?_ ?_)
  all_goals
   intro N;simp only[az,aF,bh,aL,bg]at N;refine⟨?_,_,_,_,rfl,aI V.bool (by simp only[N,aP,aQ])⟩
   repeat' (first|exact all_nil|refine A ?_ ?_)
   all_goals exact aI V.bool (beq_self_eq_true _)
theorem ty5:TG ak 0 Tryz.f128.ntmps (dA 4 (dL Tryz.f128)) (BM f (uF5 f) t) (fV ak 0 Tryz.f128 fun u _ _=>u= .bool (t&&((f.r==(0:Int))&&((f.dv==(0:Int))&&((f.vl==(0:Int))&&nN f.eW.length))))):=by
 cases t with
 |false=>exact eR (be _) (NV f _) (dF (g0 ⟨all_nil,_,_,_,rfl,rfl⟩))
 |true=>
  refine eR (be _) (aqe f) ?_
  repeat' (first|exact gU|refine dJ ?_ ?_)
  all_goals
   intro N;simp only[az,aF,bh,aL,bg]at N;refine⟨?_,_,_,_,rfl,aI V.bool (by simp only[N,aP,aQ])⟩
   repeat' (first|exact all_nil|refine A ?_ ?_)
   all_goals exact aI V.bool (beq_self_eq_true _)
theorem ty6:TG ak 0 Tryz.f128.ntmps (dA 4 (dL Tryz.f128)) (BM f (uF6 f) t) (fV ak 0 Tryz.f128 fun u _ _=>u= .bool (t&&((f.r==(0:Int))&&((f.dv==(0:Int))&&((f.vl==(0:Int))&&(nN f.eW.length&&nN f.cu.length)))))):=by
 cases t with
 |false=>exact eR (be _) (NV f _) (dF (g0 ⟨all_nil,_,_,_,rfl,rfl⟩))
 |true=>
  refine eR (be _) (aqf f) ?_
  repeat' (first|exact gU|refine dJ ?_ ?_)
  all_goals
   intro N;simp only[az,aF,bh,aL,bg]at N;refine⟨?_,_,_,_,rfl,aI V.bool (by simp only[N,aP,aQ])⟩
   repeat' (first|exact all_nil|refine A ?_ ?_)
   all_goals exact aI V.bool (beq_self_eq_true _)
theorem ty7:TG ak 0 Tryz.f128.ntmps (dA 4 (dL Tryz.f128)) (BM f (uF7 f) t) (fV ak 0 Tryz.f128 fun u _ _=>u= .bool (t&&((f.r==(0:Int))&&((f.dv==(0:Int))&&(nN f.eW.length&&nN f.cu.length))))):=by
 cases t with
 |false=>exact eR (be _) (NV f _) (dF (g0 ⟨all_nil,_,_,_,rfl,rfl⟩))
 |true=>
  refine eR (be _) (aqg f) ?_
  repeat' (first|exact gU|refine dJ ?_ ?_)
  all_goals
   intro N;simp only[az,aF,bh,aL,bg]at N;refine⟨?_,_,_,_,rfl,aI V.bool (by simp only[N,aP,aQ])⟩
   repeat' (first|exact all_nil|refine A ?_ ?_)
   all_goals exact aI V.bool (beq_self_eq_true _)
theorem ty8:TG ak 0 Tryz.f128.ntmps (dA 4 (dL Tryz.f128)) (BM f (uF8 f) t) (fV ak 0 Tryz.f128 fun u _ _=>u= .bool (t&&((f.dv==(0:Int))&&(nN f.eW.length&&nN f.cu.length)))):=by
 cases t with
 |false=>exact eR (be _) (NV f _) (dF (g0 ⟨all_nil,_,_,_,rfl,rfl⟩))
 |true=>
  refine eR (be _) (aqh f) ?_
  repeat' (first|exact gU|refine dJ ?_ ?_)
  all_goals
   intro N;simp only[az,aF,bh,aL,bg]at N;refine⟨?_,_,_,_,rfl,aI V.bool (by simp only[N,aP,aQ])⟩
   repeat' (first|exact all_nil|refine A ?_ ?_)
   all_goals exact aI V.bool (beq_self_eq_true _)
theorem UL(x:Int):Wu x=Dd x:=by
 unfold Wu rF Dd;rw[Bool.not_and];congr 1<;>rw[<- decide_not]<;>exact decide_eq_decide.2 S
theorem aql(U:f.eW.length<=1000000)(J0:f.cu.length<=1000000000)(OQ:Me f.cu=jV f.cu):dV ak 128 [f.v] (.bool (iM f)):=by
 have De:∀k,f.k=k->f=lZ f k:=fun k h=>by obtain⟨a,_,_,_,_,_⟩:=f;simp only at h;subst h;rfl
 refine fc Tryz.func128 ?_;by_cases h1:f.k=1
 . have e:iM f=Jv f:=by unfold iM;rw[aD h1]
   have ef:=De 1 h1;have hr:=ap4 f (f.eW.any Wu);rw[<- ef]at hr;have hT:=ty1 f;rw[e];have cv:∀t,t=(yB f&&(!((Int.ofNat f.eW.length) !=(2*f.r+1)*(2*f.r+1))&&(rF f.dv 1 1048576&& !f.eW.any Wu)))->Jv f=(t&&((f.vl==(0:Int))&&nN f.cu.length)):=fun t ht=>by
    rw[ht,show Wu=Dd from funext UL];unfold Jv pH rF;rw[show decide (f.dv>=1)=!decide (f.dv<1)by rw[<- decide_not];exact decide_eq_decide.2 S,show decide (f.dv<=1048576)=!decide (f.dv>1048576)by rw[<- decide_not];exact decide_eq_decide.2 S];simp only[bU,aP,bR,cz,Bool.and_assoc]
   have hw:yB f=true->IntKind.i64.wrap (IntKind.i64.wrap (IntKind.i64.wrap ((2:Int)*f.r)+(1:Int))*IntKind.i64.wrap (IntKind.i64.wrap ((2:Int)*f.r)+(1:Int)))=((2:Int)*f.r+(1:Int))*((2:Int)*f.r+(1:Int)):=fun JM=>by
    unfold yB at JM;rw[ay,aS,aS]at JM;obtain⟨k1,k2⟩:=JM;rcases(by omega:f.r=0\/f.r=1\/f.r=2\/f.r=3)with h|h|h|h<;>rw[h]<;>rfl
   have go:∀t,t=(yB f&&(!((Int.ofNat f.eW.length) !=(2*f.r+1)*(2*f.r+1))&&(rF f.dv 1 1048576&& !f.eW.any Wu)))->TG ak 0 Tryz.f128.ntmps (dA 4 (dL Tryz.f128)) (BM f (uF1 f) t) (fV ak 0 Tryz.f128 fun u _ _=>u= .bool (Jv f)):=fun t ht=>by
    rw[cv t ht];exact hT t
   refine uh 4 (fk (cbD f.eW Wu (fun x _=>fcD x) U) (be _)) hr ?_
   repeat' (first|exact gU|refine dJ ?_ ?_)
   all_goals
    intro N;simp only[az,aF,bh,aL,bg]at N;refine⟨by first|exact all_nil|exact eM rfl,_,rfl,go _ ?_⟩
   . have q1:yB f=true:=by unfold yB;rw[N.1,N.2.1];rfl
     rw[hw q1]at N;rw[q1,show rF f.dv 1 1048576=true by unfold rF;rw[N.2.2.2.1,N.2.2.2.2];rfl];rw[show((Int.ofNat f.eW.length) !=(2*f.r+1)*(2*f.r+1))=false by unfold bne;rw[N.2.2.1];rfl];rfl
   . have q1:yB f=true:=by unfold yB;rw[N.1,N.2.1];rfl
     rw[q1,show rF f.dv 1 1048576=false by unfold rF;rw[N.2.2.2.1,N.2.2.2.2];rfl];simp
   . have q1:yB f=true:=by unfold yB;rw[N.1,N.2.1];rfl
     rw[q1,show rF f.dv 1 1048576=false by unfold rF;rw[N.2.2.2];rfl];simp
   . have q1:yB f=true:=by unfold yB;rw[N.1,N.2.1];rfl
     rw[hw q1]at N;rw[q1,show((Int.ofNat f.eW.length) !=(2*f.r+1)*(2*f.r+1))=true by unfold bne;rw[N.2.2];rfl];rfl
   . have q1:yB f=false:=by unfold yB;rw[N.1,N.2];rfl
     rw[q1];rfl
   . have q1:yB f=false:=by unfold yB;rw[N];rfl
     rw[q1];rfl
 by_cases C:f.k=2\/f.k=3\/f.k=4
 . have e:iM f=(yB f&&((f.dv==(0:Int))&&((f.vl==(0:Int))&&(nN f.eW.length&&nN f.cu.length)))):=by
    unfold iM pH;rw[aA h1,aD C];generalize yB f=a;generalize nN f.eW.length=b;generalize (f.dv==(0:Int))=c;generalize (f.vl==(0:Int))=d;generalize nN f.cu.length=x;cases a<;>cases b<;>cases c<;>cases d<;>cases x<;>rfl
   rw[e];rcases C with h|h|h
   . have hr:=ap5 f;rw[<- De _ h]at hr;exact uh 4 xy hr (dF (g0 ⟨all_nil,_,rfl,ty2 f (rF f.r 0 3)⟩))
   . have hr:=ap6 f;rw[<- De _ h]at hr;exact uh 4 xy hr (dF (g0 ⟨all_nil,_,rfl,ty2 f (rF f.r 0 3)⟩))
   . have hr:=ap7 f;rw[<- De _ h]at hr;exact uh 4 xy hr (dF (g0 ⟨all_nil,_,rfl,ty2 f (rF f.r 0 3)⟩))
 by_cases h5:f.k=5
 . have e:iM f=(Me f.cu&&((f.r==(0:Int))&&((f.dv==(0:Int))&&((f.vl==(0:Int))&&nN f.eW.length)))):=by
    unfold iM pH;rw[aA h1,aA C,aD h5,OQ];generalize jV f.cu=a;generalize nN f.eW.length=b;generalize (f.dv==(0:Int))=c;generalize (f.vl==(0:Int))=d;generalize (f.r==(0:Int))=x;cases a<;>cases b<;>cases c<;>cases d<;>cases x<;>rfl
   rw[e];have hr:=ap8 f (Me f.cu);rw[<- De _ h5]at hr;exact uh 4 (fk (cvD f.cu J0) xy) hr (dF (g0 ⟨eM rfl,_,rfl,ty5 f _⟩))
 by_cases h6:f.k=6
 . have e:iM f=(true&&((f.r==(0:Int))&&((f.dv==(0:Int))&&((f.vl==(0:Int))&&(nN f.eW.length&&nN f.cu.length))))):=by
    unfold iM pH;rw[aA h1,aA C,aA h5,aD h6];generalize nN f.cu.length=a;generalize nN f.eW.length=b;generalize (f.dv==(0:Int))=c;generalize (f.vl==(0:Int))=d;generalize (f.r==(0:Int))=x;cases a<;>cases b<;>cases c<;>cases d<;>cases x<;>rfl
   rw[e];have hr:=ap9 f;rw[<- De _ h6]at hr;exact uh 4 xy hr (dF (g0 ⟨all_nil,_,rfl,ty6 f _⟩))
 by_cases h7:f.k=7
 . have e:iM f=(rF f.vl 0 256&&((f.r==(0:Int))&&((f.dv==(0:Int))&&(nN f.eW.length&&nN f.cu.length)))):=by
    unfold iM pH rF;rw[aA h1,aA C,aA h5,aA h6,aD h7];generalize (decide (f.vl>=0)&&decide (f.vl<=256))=d;generalize nN f.cu.length=a;generalize nN f.eW.length=b;generalize (f.dv==(0:Int))=c;generalize (f.r==(0:Int))=x;cases a<;>cases b<;>cases c<;>cases d<;>cases x<;>rfl
   rw[e];have hr:=aqa f;rw[<- De _ h7]at hr;exact uh 4 xy hr (dF (g0 ⟨all_nil,_,rfl,ty7 f _⟩))
 by_cases h8:f.k=8
 . have e:iM f=((rF f.r (-3) 3&&rF f.vl (-3) 3)&&((f.dv==(0:Int))&&(nN f.eW.length&&nN f.cu.length))):=by
    unfold iM pH rF;rw[aA h1,aA C,aA h5,aA h6,aA h7,aD h8];generalize decide (f.r>= -3)=d;generalize decide (f.r<=3)=d1;generalize decide (f.vl>= -3)=d2;generalize decide (f.vl<=3)=d3;generalize nN f.cu.length=a;generalize nN f.eW.length=b;generalize (f.dv==(0:Int))=c;cases a<;>cases b<;>cases c<;>cases d<;>cases d1<;>cases d2<;>cases d3<;>rfl
   rw[e];have hr:=aqb f;rw[<- De _ h8]at hr;refine uh 4 (be _) hr ?_
   repeat' (first|exact gU|refine dJ ?_ ?_)
   all_goals
    intro N;simp only[az,aF,bh,aL,bg]at N;refine⟨all_nil,_,rfl,?_⟩
   . rw[show(rF f.r (-3) 3&&rF f.vl (-3) 3)=true by unfold rF;rw[N.1,N.2.1,N.2.2.1,N.2.2.2];rfl];exact ty8 f true
   . rw[show(rF f.r (-3) 3&&rF f.vl (-3) 3)=false by unfold rF;rw[N.1,N.2.1,N.2.2.1,N.2.2.2];rfl];exact ty8 f false
   . rw[show(rF f.r (-3) 3&&rF f.vl (-3) 3)=false by unfold rF;rw[N.1,N.2.1,N.2.2];rfl];exact ty8 f false
   . rw[show(rF f.r (-3) 3&&rF f.vl (-3) 3)=false by unfold rF;rw[N.1,N.2];rfl];exact ty8 f false
   . rw[show(rF f.r (-3) 3&&rF f.vl (-3) 3)=false by unfold rF;rw[N];rfl];exact ty8 f false
 . have e:iM f=false:=by unfold iM;rw[aA h1,aA C,aA h5,aA h6,aA h7,aA h8]
   rw[e];have nb:∀k:Int,f.k≠k->V.bool (f.k==k)=V.bool false:=fun k h=>aI V.bool (cr.2 h);exact isH 4 (be _) (aqi f) (dF (g0 ⟨A (nb 1 h1) (A (nb 2 fun q=>C (.inl q)) (A (nb 3 fun q=>C (.inr (.inl q))) (A (nb 4 fun q=>C (.inr (.inr q))) (A (nb 5 h5) (A (nb 6 h6) (A (nb 7 h7) (eM (nb 8 h8)))))))),rfl⟩))
end
noncomputable abbrev aff:Code:=dL Tryz.f174
noncomputable abbrev afg:Code:=dL Tryz.f156
noncomputable abbrev Z2:Code:=dA 1 afg
noncomputable abbrev aqm:Code:=dL Tryz.f155
abbrev pq4(r g b a:Int):V:=.agg [.int .u8 r,.int .u8 g,.int .u8 b,.int .u8 a]
theorem afh(r g b a:Int):H (M ek []) [(5,.split)] 0 Tryz.f174 [] (aff) (dB [pq4 r g b a] .nil 0) (fP (a==(0:Int)) ([],.ret (.agg [.int .u8 0,.int .u8 0,.int .u8 0,.int .u8 0]) (hL []) 0) ([],.ret (.agg [.int .u8 r,.int .u8 g,.int .u8 b,.int .u8 a]) (hL []) 0)):=G.W
def K5:ag->Option (ah×V)
 | [.agg [.int .u8 r,.int .u8 g,.int .u8 b,.int .u8 a]]=>some ([],pq4 (cl a r) (cl a g) (cl a b) (cl a a))
 |_=>none
noncomputable abbrev Wpc:gJ:=kp 174 (gQ K5) ek
theorem Z3:kj ak 174 (gQ K5):=by
 refine nt Tryz.func174 fun args fm v e=>?_;unfold K5 at e;split at e
 case h_2=>cases e
 rename_i r g b a;obtain⟨rfl,rfl⟩:=sm e;refine⟨rfl,rfl,rfl,fun _=>eR (be _) (afh r g b a) (dJ (g1 fun h=>⟨all_nil,_,_,_,rfl,?_⟩) (dF (g1 fun h=>⟨all_nil,_,_,_,rfl,?_⟩)))⟩
 . have h:a=0:=by simpa using h
   simp only[pq4,cl,aD h]
 . have h:¬a=0:=by simpa using h
   simp only[pq4,cl,aA h]
theorem GA:fe ak Wpc:=fN Z3 (be _)
section
variable(p:Nat->Int)(ks:List Int)(q:Nat->Int)
def sTc(i:Nat):St:=fB [(1,.ptr (some (0,0))),(2,.ptr (some (1,0))),(5,jh p),(6,L i)] (hL [(0,.own .u8 ks),(1,.own .u8 (List.replicate 256 0))]) 2
theorem aqn:H (M Wpc []) [] 0 Tryz.f156 [1,2] (dU 1 afg) (dB [jh p] .nil 0) [([],[],eu (fB [(1,.ptr (some (0,0))),(2,.ptr (some (1,0)))] (hL [(0,.cells (D.fU (vI p))),(1,.cells (List.replicate 256 (.int .u8 0)))]) 2))]:=G.W
theorem aqo(ks:List Int):H (M Wpc []) [] 0 Tryz.f156 [1,2,5,6] (dI (dI Z2)) (fB [(1,.ptr (some (0,0))),(2,.ptr (some (1,0)))] (hL [(0,.cells (D.fU (vI p))),(1,.cells (List.replicate 256 (.int .u8 0)))]) 2) [([],[],eu (fB [(1,.ptr (some (0,0))),(2,.ptr (some (1,0))),(5,jh p),(6,F 0)] (hL [(0,.cells (D.fU (vI p))),(1,.cells (List.replicate 256 (.int .u8 0)))]) 2))]:=G.W
theorem aqp(i:Nat)(r g b a:Int):H (M Wpc []) [(7,.split),(9,.dG (pq4 r g b a)),(14,.dG (L (i+1)))] 0 Tryz.f156 [1,2,5,6] (dK (dK (dY (dI Z2)))) (sTc p ks i)
  (fP (decide (Int.ofNat i<64)) ([(0:Int)<=Int.ofNat i/\Int.ofNat i<64,i*4+4<=(D.fU (vI p)).length,V.agg (List.take 4 (List.drop (i*4) (D.fU (vI p))))=pq4 r g b a,(0:Int)<=Int.ofNat i/\Int.ofNat i<64,0+i*4+4<=ks.length,V.int .i64 (IntKind.i64.wrap (Int.ofNat i+1))=L (i+1)],eu (sTc p (A6 ks (0+i*4) [cl a r,cl a g,cl a b,cl a a]) (i+1))) ([],.to (.exit 0) (sTc p ks i))):=G.W
theorem aqq:H (M Wpc []) [] 0 Tryz.f156 [] (dY Z2) (sTc p ks 64) [([],[256<=ks.length,256<=256],.ret (mh .u8 ks 0 256) (hL []) 0)]:=G.W
def Jx:Bool:=(List.range 64).all fun i=>(p (i*4)==q (i*4))&&((p (i*4+1)==q (i*4+1))&&((p (i*4+2)==q (i*4+2))&&((p (i*4+3)==q (i*4+3))&&true)))
theorem aqr:H (M (fa 156 [jh p] (jh q) ek) []) [] 0 Tryz.f155 [] aqm (dB [jh p] .nil 0) [([],[fu [jh p]],.ret (.bool (Jx q fun _=>0)) (hL []) 0)]:=G.W
theorem RL:D.fU (vI p)=(List.range 256).map fun j=>V.int .u8 (p j):=by
 unfold vI;rw[D.gq,List.map_map];rfl
theorem Z4{i:Nat}(h:i<64):List.take 4 (List.drop (i*4) (D.fU (vI p)))=[.int .u8 (p (4*i)),.int .u8 (p (4*i+1)),.int .u8 (p (4*i+2)),.int .u8 (p (4*i+3))]:=by
 rw[RL];refine List.ext_getElem? fun j=>?_;rw[bW];by_cases c:j<4
 . rw[aD c,bX,bC,cZ S,Nat.mul_comm i 4];rcases(by omega:j=0\/j=1\/j=2\/j=3)with rfl|rfl|rfl|rfl<;>rfl
 . rw[aA c,ct (by simp only[aR,b9];omega)]
theorem UM:(D.fU (vI p)).length=256:=by rw[RL];simp
theorem tcD:dV ak 156 [jh p] (jh (iL p)):=by
 refine fc Tryz.func156 ?_;refine fH 1 GA (aqn p) all_nil ?_;refine nD GA 0 _ [1,2,5,6] (64-·) (. <=64) (fun i=>sTc p (tl fun j=>if j<4*i then iL p j else p j) i) 0 eX (aqo p []) all_nil (by
  rw[C5 (q:=p) fun j _=>aA S];exact .own [(0,.u8),(1,.u8)] dD) fun i hi=>?_
 refine⟨_,GA,[],_,_,aqp p _ i (p (4*i)) (p (4*i+1)) (p (4*i+2)) (p (4*i+3)),dJ (g1 fun h1=>?_) (dF (g1 fun h=>?_))⟩
 . have eY:=d64 h1;refine⟨A (b64 eY) (A (by rw[UM];omega) (A (aI V.agg (Z4 p eY)) (A (b64 eY) (A (by rw[oM];omega) (eM (gK S)))))),i+1,um eY,by show i+1<=64;omega,?_⟩;rw[Kq (k:=fun j=>if j<4*(i+1)then iL p j else p j) eY]
   . exact .refl
   all_goals first
    |(rw[aD S];unfold iL;congr 2;omega)
    |skip
   intro j _ hj;by_cases c:j<4*i
   . rw[aD c,aD S]
   . rw[aA c,aA S]
 . have:=n64 h;obtain rfl:i=64:=by omega
   refine⟨all_nil,rfl,eR GA (aqq p _) (dF (g0 ⟨A (by rw[oM];exact aK _) (eM (aK _)),_,_,_,rfl,?_⟩))⟩;rw[yw];exact zY fun j hj=>aD S
theorem tzD:dV ak 155 [jh p] (.bool (Jx (iL p) fun _=>0)):=by
 refine fc Tryz.func155 ?_;exact eR (fk (tcD p) (be _)) (aqr p (iL p)) (dF (g0 ⟨eM rfl,_,_,_,rfl,rfl⟩))
end
set_option maxRecDepth 100000
noncomputable abbrev afk:Code:=dL Tryz.f175
section
variable(a x b y:Int)
noncomputable abbrev aqs:Code:=dL Tryz.f157
noncomputable abbrev aqt:Code:=dL Tryz.f176
theorem aqu:H (M ek []) [(11,.dG (.bool false)),(13,.dG (.bool false)),(16,.split),(19,.split)] 0 Tryz.f176 [] aqt (dB [F x,F y] .nil 0)
  (TF (decide (x<y)) (decide (x>y)) ([lu (x !=x),lu (y !=y)],.ret (.int .i64 (-1)) (hL []) 0) ([lu (x !=x),lu (y !=y)],.ret (.int .i64 1) (hL []) 0) ([lu (x !=x),lu (y !=y)],.ret (.int .i64 0) (hL []) 0)):=G.W
def oP:Int:=if x<y then -1 else if y<x then 1 else 0
def K6:ag->Option (ah×V)
 | [.int .i64 x,.int .i64 y]=>some ([],.int .i64 (oP x y))
 |_=>none
theorem E6:V.bool (x !=x)=V.bool false:=aI V.bool (by simp)
theorem Z5:kj ak 176 (gQ K6):=by
 refine nt Tryz.func176 fun args fm v e=>?_;unfold K6 at e;split at e
 case h_2=>cases e
 rename_i x y;obtain⟨rfl,rfl⟩:=sm e;refine⟨rfl,rfl,rfl,fun _=>eR (be _) (aqu x y) (dJ (g1 fun h=>⟨A (E6 x) (eM (E6 y)),_,_,_,rfl,?_⟩) (dJ (g2 fun h C=>⟨A (E6 x) (eM (E6 y)),_,_,_,rfl,?_⟩) (dF (g2 fun h C=>⟨A (E6 x) (eM (E6 y)),_,_,_,rfl,?_⟩))))⟩
 . have h:=aX h;unfold oP;rw[aD h]
 . have h:=bq h;have C:=aX C;unfold oP;rw[aA h,aD C]
 . have h:=bq h;have C:=bq C;unfold oP;rw[aA h,aA C]
noncomputable abbrev RM:Code:=dA 2 afk
def sOr(i:Int):St:=fB [(3,F 0),(6,.eE false 2 [.int .i64 a,.int .i64 b]),(7,F 2),(8,F i)] .nil 0
theorem aqv:H (M ek []) [] 0 Tryz.f175 [0,3] (dU 2 afk) (dB [.eE false 2 [.int .i64 a,.int .i64 b]] .nil 0) [([],[],eu (fB [(0,.eE false 2 [.int .i64 a,.int .i64 b]),(3,.int .i64 0)] (hL []) 0))]:=G.W
theorem aqw:H (M ek []) [] 0 Tryz.f175 [3,6,7,8] (dI (dI RM)) (fB [(0,.eE false 2 [.int .i64 a,.int .i64 b]),(3,F 0)] .nil 0) [([],[],eu (fB [(3,.int .i64 0),(6,.eE false 2 [.int .i64 a,.int .i64 b]),(7,.int .i64 2),(8,.int .i64 0)] (hL []) 0))]:=G.W
theorem aqx:H (M ek []) [(14,.split)] 0 Tryz.f175 [3,6,7,8] (dK (dK (dY (dI RM)))) (sOr a b 0) (fP (a !=(0:Int)) ([(0:Int)<=(0:Int)/\(0:Int)<(2:Int),[D.int B a,D.int B b].length=2],.ret (.int .i64 a) (hL []) 0) ([(0:Int)<=(0:Int)/\(0:Int)<(2:Int),[D.int B a,D.int B b].length=2],eu (fB [(3,.int .i64 0),(6,.eE false 2 [.int .i64 a,.int .i64 b]),(7,.int .i64 2),(8,.int .i64 1)] (hL []) 0))):=G.W
theorem aqy:H (M ek []) [(14,.split)] 0 Tryz.f175 [3,6,7,8] (dK (dK (dY (dI RM)))) (sOr a b 1) (fP (b !=(0:Int)) ([(0:Int)<=(1:Int)/\(1:Int)<(2:Int),[D.int B a,D.int B b].length=2],.ret (.int .i64 b) (hL []) 0) ([(0:Int)<=(1:Int)/\(1:Int)<(2:Int),[D.int B a,D.int B b].length=2],eu (fB [(3,.int .i64 0),(6,.eE false 2 [.int .i64 a,.int .i64 b]),(7,.int .i64 2),(8,.int .i64 2)] (hL []) 0))):=G.W
theorem aqz:H (M ek []) [] 0 Tryz.f175 [3,6,7,8] (dK (dK (dY (dI RM)))) (sOr a b 2) [([],[],.to (.exit 0) (fB [(3,.int .i64 0),(6,.eE false 2 [.int .i64 a,.int .i64 b]),(7,.int .i64 2),(8,.int .i64 2)] (hL []) 0))]:=G.W
theorem aqA:H (M ek []) [] 0 Tryz.f175 [] (dY RM) (sOr a b 2) [([],[],.ret (.int .i64 0) (hL []) 0)]:=G.W
def G8:Int:=if a≠0 then a else b
theorem orD:dV ak 175 [.eE false 2 [.int .i64 a,.int .i64 b]] (F (G8 a b)):=by
 refine fc Tryz.func175 ?_;refine fH 2 (be _) (aqv a b) all_nil ?_;refine nD (be _) 0 _ [3,6,7,8] (2-·) (fun i:Nat=>i<=2/\(1<=i->a=0)/\(2<=i->b=0)) (fun i=>sOr a b (Int.ofNat i)) 0 ⟨aN _,fun h=>absurd h eX,fun h=>absurd h eX⟩ (aqw a b) all_nil .refl fun i ⟨hi,h1,C⟩=>?_;have A0:∀p∈[((0:Int)<=(0:Int)/\(0:Int)<(2:Int)),([D.int B a,D.int B b].length=2)],p:=A eX (eM rfl);have A1:∀p∈[((0:Int)<=(1:Int)/\(1:Int)<(2:Int)),([D.int B a,D.int B b].length=2)],p:=A eX (eM rfl);rcases(by omega:i=0\/i=1\/i=2)with rfl|rfl|rfl
 . refine⟨_,be _,_,_,_,aqx a b,dJ (g1 fun h=>⟨A0,?_⟩) (dF (g1 fun h=>⟨A0,1,eX,⟨eX,fun _=>?_,fun h=>absurd h eX⟩,.refl⟩))⟩
   . show F a=F (G8 a b);unfold G8;rw[aD (by simpa using h)]
   . simpa using h
 . refine⟨_,be _,_,_,_,aqy a b,dJ (g1 fun h=>⟨A1,?_⟩) (dF (g1 fun h=>⟨A1,2,eX,⟨eX,fun _=>h1 eX,fun _=>?_⟩,.refl⟩))⟩
   . show F b=F (G8 a b);unfold G8;rw[aA (by simpa using h1 eX)]
   . simpa using h
 . refine⟨_,be _,_,_,_,aqz a b,dF (g0 ⟨all_nil,rfl,eR (be _) (aqA a b) (dF (g0 ⟨all_nil,_,_,_,rfl,?_⟩))⟩)⟩;show F 0=F (G8 a b);unfold G8;rw[aA (by simpa using h1 eX),C eX]
def K7:ai->Option (ah×V)
 | [.eE 2 [.int .i64 a,.int .i64 b]]=>some ([],.int .i64 (G8 a b))
 |_=>none
theorem Z6:kj ak 175 (yz K7):=by
 refine yA dD fun ds fm v e hA=>?_;unfold K7 at e;split at e
 case h_2=>cases e
 obtain⟨rfl,rfl⟩:=sm e;exact orD _ _
noncomputable abbrev Wod:gJ:=kp 175 (yz K7) (kp 176 (gQ K6) ek)
theorem Z7:fe ak Wod:=fN Z6 (fN Z5 (be _))
theorem aqB(z w:Int):H (M Wod []) [] 0 Tryz.f157 [] (aqs) (dB [.agg [F x,F y],.agg [F z,F w]] .nil 0) [([],[[D.int B (oP y w),D.int B (oP x z)].length=2],.ret (.int .i64 (G8 (oP y w) (oP x z))) (hL []) 0)]:=G.W
end
set_option maxRecDepth 100000
noncomputable abbrev aqC:Code:=dL Tryz.f154
noncomputable abbrev Z8:Code:=dL Tryz.f126
noncomputable abbrev GB:Code:=dA 2 Z8
section
variable(n:Nat)
theorem aqD(x y:Int):H (M ek []) [(5,.split),(9,.split),(14,.split)] 0 Tryz.f154 [] (aqC) (dB [.agg [F x,F y]] .nil 0) (P0 (decide (x>=(-8192:Int))) (decide (x<=(8191:Int))) (decide (y>=(-8192:Int))) ([],.ret (.bool (decide (y<=(8191:Int)))) (hL []) 0) ([],ja)):=G.W
theorem Z9:kj ak 154 (gQ zX):=by
 refine nt Tryz.func154 fun args fm v e=>?_;unfold zX at e;split at e
 case h_2=>cases e
 rename_i x y;obtain⟨rfl,rfl⟩:=sm e;refine⟨rfl,rfl,rfl,fun _=>eR (be _) (aqD x y) (dJ (g3 fun h C h3=>⟨all_nil,_,_,_,rfl,?_⟩) (dJ (g3 fun h C h3=>⟨all_nil,_,_,_,rfl,?_⟩) (dJ (g2 fun h C=>⟨all_nil,_,_,_,rfl,?_⟩) (dF (g1 fun h=>⟨all_nil,_,_,_,rfl,?_⟩)))))⟩<;>simp only[Bz, *,aP,aQ]
theorem aqE(cs:ai):H (M ek []) [(8,.dG (.bool false))] 0 Tryz.f126 [1] (dU 2 Z8) (dB [.agg [.eE false n cs]] .nil 0) [([],[lu (decide ((Int.ofNat n)>(1024:Int)))],eu (fB [(1,.ptr (some (0,0)))] (hL [(0,.cells [.eE false n cs])]) 1))]:=G.W
theorem aqF(cs:ai):H (M ek []) [(8,.dG (.bool true))] 0 Tryz.f126 [] (Z8) (dB [.agg [.eE false n cs]] .nil 0) [([],[kO (decide ((Int.ofNat n)>(1024:Int)))],ja)]:=G.W
def K8:ag->Option (ah×V)
 | [.agg [.int .i64 x,.int .i64 y],.agg [.int .i64 z,.int .i64 w]]=>some ([],.int .i64 (G8 (oP y w) (oP x z)))
 |_=>none
theorem aaa:kj ak 157 (gQ K8):=by
 refine nt Tryz.func157 fun args fm v e=>?_;unfold K8 at e;split at e
 case h_2=>cases e
 rename_i x y z w;obtain⟨rfl,rfl⟩:=sm e;exact⟨rfl,rfl,rfl,fun _=>eR Z7 (aqB x y z w) (dF (g0 ⟨eM rfl,_,_,_,rfl,rfl⟩))⟩
noncomputable abbrev Wrv:gJ:=kp 157 (gQ K8) (kp 154 (gQ zX) ek)
theorem K9:fe ak Wrv:=fN aaa (fN Z9 (be _))
def Al(cs:ai)(i:Nat):St:=fB [(1,.ptr (some (0,0))),(10,.eE false n cs),(11,L n),(12,L i)] (hL [(0,.cells [.eE false n cs])]) 1
theorem aqG(cs:ai):H (M ek []) [] 0 Tryz.f126 [1,10,11,12] (dI (dI GB)) (fB [(1,.ptr (some (0,0)))] (hL [(0,.cells [.eE false n cs])]) 1) [([],[],eu (Al n cs 0))]:=G.W
theorem aqH(cs:ai)(i:Nat)(t:Tl):H (M Wrv []) [(13,.dG (.bool true)),(15,.dG (.dS t.d)),(21,.dG (.bool true))] 0 Tryz.f126 [1,10,11,12] (dK (dK (dY (dI GB)))) (Al n cs i) [([],[kO (decide (Int.ofNat i<Int.ofNat n)),fR i n,cs.length=n*258,gG cs i 258 t.d,kO (!Bz t.x t.y)],ja)]:=G.W
theorem aqI(cs:ai)(i:Nat)(t:Tl)(z:Bool):H (M (fa 155 [jh t.p] (.bool z) Wrv) []) [(13,.dG (.bool true)),(15,.dG (.dS t.d)),(21,.dG (.bool false)),(26,.dG (.bool true))] 0 Tryz.f126 [1,10,11,12] (dK (dK (dY (dI GB)))) (Al n cs i) [([],[kO (decide (Int.ofNat i<Int.ofNat n)),fR i n,cs.length=n*258,gG cs i 258 t.d,lu (!Bz t.x t.y),fu [jh t.p],kO (z)],ja)]:=G.W
theorem aqJ(cs:ai)(i:Nat)(t:Tl)(z:Bool)(q:Nat->Int):H (M (fa 155 [jh t.p] (.bool z) (fa 156 [jh t.p] (jh q) Wrv)) []) [(13,.dG (.bool true)),(15,.dG (.dS t.d)),(21,.dG (.bool false)),(26,.dG (.bool false)),(34,.dG (.bool true))] 0 Tryz.f126 [1,10,11,12] (dK (dK (dY (dI GB)))) (Al n cs i) [([],[kO (decide (Int.ofNat i<Int.ofNat n)),fR i n,cs.length=n*258,gG cs i 258 t.d,lu (!Bz t.x t.y),fu [jh t.p],lu (z),fu [jh t.p],kO (!Jx q t.p)],ja)]:=G.W
theorem aqK(cs:ai)(j:Nat)(t u:Tl)(z:Bool)(q:Nat->Int):H (M (fa 155 [jh t.p] (.bool z) (fa 156 [jh t.p] (jh q) Wrv)) []) [(13,.dG (.bool true)),(15,.dG (.dS t.d)),(21,.dG (.bool false)),(26,.dG (.bool false)),(34,.dG (.bool false)),(37,.dG (.bool true)),(41,.dG (L j)),(42,.dG (.dS u.d)),(50,.dG (.bool true))] 0 Tryz.f126 [1,10,11,12] (dK (dK (dY (dI GB)))) (Al n cs (j+1)) [([],[kO (decide (Int.ofNat (j+1)<Int.ofNat n)),fR (j+1) n,cs.length=n*258,gG cs (j+1) 258 t.d,lu (!Bz t.x t.y),fu [jh t.p],lu (z),fu [jh t.p],lu (!Jx q t.p),kO (decide (Int.ofNat (j+1)>(0:Int))),V.int .i64 (IntKind.i64.wrap (Int.ofNat (j+1)-(1:Int)))=L j,fR j n,cs.length=n*258,gG cs j 258 u.d,kO (decide (G8 (oP u.y t.y) (oP u.x t.x)>=(0:Int)))],ja)]:=G.W
theorem aqL(cs:ai)(j:Nat)(t u:Tl)(z:Bool)(q:Nat->Int):H (M (fa 155 [jh t.p] (.bool z) (fa 156 [jh t.p] (jh q) Wrv)) []) [(13,.dG (.bool true)),(15,.dG (.dS t.d)),(21,.dG (.bool false)),(26,.dG (.bool false)),(34,.dG (.bool false)),(37,.dG (.bool true)),(41,.dG (L j)),(42,.dG (.dS u.d)),(50,.dG (.bool false)),(51,.dG (L (j+2)))] 0 Tryz.f126 [1,10,11,12] (dK (dK (dY (dI GB)))) (Al n cs (j+1)) [([],[kO (decide (Int.ofNat (j+1)<Int.ofNat n)),fR (j+1) n,cs.length=n*258,gG cs (j+1) 258 t.d,lu (!Bz t.x t.y),fu [jh t.p],lu (z),fu [jh t.p],lu (!Jx q t.p),kO (decide (Int.ofNat (j+1)>(0:Int))),V.int .i64 (IntKind.i64.wrap (Int.ofNat (j+1)-(1:Int)))=L j,fR j n,cs.length=n*258,gG cs j 258 u.d,lu (decide (G8 (oP u.y t.y) (oP u.x t.x)>=(0:Int))),V.int .i64 (IntKind.i64.wrap (Int.ofNat (j+1)+(1:Int)))=L (j+2)],eu (Al n cs (j+2)))]:=G.W
theorem aqM(cs:ai)(i:Nat)(t:Tl)(z:Bool)(q:Nat->Int):H (M (fa 155 [jh t.p] (.bool z) (fa 156 [jh t.p] (jh q) Wrv)) []) [(13,.dG (.bool true)),(15,.dG (.dS t.d)),(21,.dG (.bool false)),(26,.dG (.bool false)),(34,.dG (.bool false)),(37,.dG (.bool false)),(51,.dG (L (i+1)))] 0 Tryz.f126 [1,10,11,12] (dK (dK (dY (dI GB)))) (Al n cs i) [([],[kO (decide (Int.ofNat i<Int.ofNat n)),fR i n,cs.length=n*258,gG cs i 258 t.d,lu (!Bz t.x t.y),fu [jh t.p],lu (z),fu [jh t.p],lu (!Jx q t.p),lu (decide (Int.ofNat i>(0:Int))),oH i],eu (Al n cs (i+1)))]:=G.W
theorem aqN(cs:ai)(i:Nat):H (M ek []) [(13,.dG (.bool false))] 0 Tryz.f126 [1,10,11,12] (dK (dK (dY (dI GB)))) (Al n cs i) [([],[lu (decide (Int.ofNat i<Int.ofNat n))],.to (.exit 0) (Al n cs i))]:=G.W
theorem aqO(cs:ai)(i:Nat):H (M ek []) [] 0 Tryz.f126 [] (dY GB) (Al n cs i) [([],[],By)]:=G.W
end
set_option maxRecDepth 100000
def kB(u:Option Tl)(t:Tl):Bool:=Bz t.x t.y&&(!(Jx (iL t.p) fun _=>0)&&(Jx (iL t.p) t.p&&(match u with|none=>true|some u=>decide (G8 (oP u.y t.y) (oP u.x t.x)<0))))
def kJ:Option Tl->List Tl->Bool
 |_,[]=>true
 |u,t::l=>kB u t&&kJ (some t) l
def rvF(l:List Tl):Bool:=decide (l.length<=1024)&&kJ none l
def pvT(l:List Tl):Nat->Option Tl
 |0=>none
 |i+1=>l[i]?
theorem bT{p:Prop}[Decidable p](h:p):V.bool (decide p)=V.bool true:=aI V.bool (aT h)
theorem bF{p:Prop}[Decidable p](h:¬p):V.bool (decide p)=V.bool false:=aI V.bool (aV h)
theorem rvD(l:List Tl)(hl:l.length<=1000000):dV ak 126 [kX l] (.bool (rvF l)):=by
 refine fc Tryz.func126 ?_;by_cases Y:l.length<=1024
 case neg=>
  have e:rvF l=false:=by unfold rvF;rw[aV Y];rfl
  rw[e];exact eR (be _) (aqF _ _) (dF (g0 ⟨eM (bT (by simp only[gB];omega)),_,_,_,rfl,rfl⟩))
 have e0:rvF l=kJ none l:=by unfold rvF;rw[aT Y,aP]
 rw[e0];refine fH 2 (be _) (aqE l.length (iH l)) (eM (bF (by simp only[gB];omega))) ?_;refine nD (be _) 0 _ [1,10,11,12] (l.length-·) (fun i=>i<=l.length/\kJ none l=kJ (pvT l i) (l.drop i)) (fun i=>Al l.length (iH l) i) 0 ⟨aN _,rfl⟩ (aqG _ _) all_nil .refl fun i ⟨hi,hv⟩=>?_;by_cases eY:i<l.length
 case neg=>
  obtain rfl:i=l.length:=by omega
  refine⟨_,be _,_,_,_,aqN _ _ _,dF (g0 ⟨eM (bF (by simp only[gB];omega)),rfl,eR (be _) (aqO _ _ _) (dF (g0 ⟨all_nil,_,_,_,rfl,?_⟩))⟩)⟩;rw[hv,List.drop_length];rfl
 have hd:l.drop i=l[i]::l.drop (i+1):=bz eY;have ny:=xh eY;have jl:=iK l;have hn:l[i]? =some l[i]:=au eY;generalize l[i]=t at hd ny hn;rw[hd]at hv;have hv:kJ none l=(kB (pvT l i) t&&kJ (some t) (l.drop (i+1))):=hv;have hT:V.bool (decide (Int.ofNat i<Int.ofNat l.length))=V.bool true:=bT (by simp only[gB];omega);have bad:kB (pvT l i) t=false->V.bool false=V.bool (kJ none l):=fun h=>by rw[hv,h];rfl
 cases h1:Bz t.x t.y with
 |false=>exact⟨_,K9,_,_,_,aqH _ _ i t,dF (g0 ⟨A hT (A (iT eY) (A jl (A ny (eM (by rw[h1];rfl))))),bad (by unfold kB;rw[h1];rfl)⟩)⟩
 |true=>
 cases C:Jx (iL t.p) (fun _=>0)with
 |true=>exact⟨_,fk (tzD t.p) K9,_,_,_,aqI _ _ i t _,dF (g0 ⟨A hT (A (iT eY) (A jl (A ny (A (by rw[h1];rfl) (A rfl (eM (aI V.bool C))))))),bad (by unfold kB;rw[h1,C];rfl)⟩)⟩
 |false=>
 have n0:=fk (tzD t.p) (fk (tcD t.p) K9);cases h3:Jx (iL t.p) t.p with
 |false=>exact⟨_,n0,_,_,_,aqJ _ _ i t _ _,dF (g0 ⟨A hT (A (iT eY) (A jl (A ny (A (by rw[h1];rfl) (A rfl (A (aI V.bool C) (A rfl (eM (by rw[h3];rfl))))))))),bad (by unfold kB;rw[h1,C,h3];rfl)⟩)⟩
 |true=>
 cases i with
 |zero=>
  refine⟨_,n0,_,_,_,aqM _ _ 0 t _ _,dF (g0 ⟨?_,1,um eY,⟨eY,?_⟩,.refl⟩)⟩
  . repeat' (first|exact all_nil|refine A ?_ ?_)
    all_goals first
     |exact hT
     |exact iT eY
     |exact jl
     |exact ny
     |rfl
     |exact aI V.bool C
     |(rw[h1];rfl)
     |(rw[h3];rfl)
     |exact bF eX
     |exact gK S
  rw[hv];have:kB (pvT l 0) t=true:=by unfold kB pvT;rw[h1,C,h3];rfl
  rw[this,aP];show _=kJ l[0]? _;rw[hn]
 |succ j=>
  have hj:j<l.length:=by omega
  have aae:=xh hj;have qX:l[j]? =some l[j]:=au hj;generalize l[j]=u at aae qX;have hpv:pvT l (j+1)=some u:=qX;rw[hpv]at hv bad;have fm:∀(o:Bool),V.bool (decide (G8 (oP u.y t.y) (oP u.x t.x)>=(0:Int)))=V.bool o->∀p∈[V.bool (decide (Int.ofNat (j+1)<Int.ofNat l.length))=V.bool true,(0:Int)<=Int.ofNat (j+1)/\Int.ofNat (j+1)<Int.ofNat l.length,(iH l).length=l.length*258,V.dS (dO (iH l) ((j+1)*258) 258)=V.dS t.d,V.bool (!Bz t.x t.y)=V.bool false,fu [jh t.p],V.bool (Jx (iL t.p) fun _=>0)=V.bool false,fu [jh t.p],V.bool (!Jx (iL t.p) t.p)=V.bool false,V.bool (decide (Int.ofNat (j+1)>(0:Int)))=V.bool true,V.int .i64 (IntKind.i64.wrap (Int.ofNat (j+1)-(1:Int)))=L j,(0:Int)<=Int.ofNat j/\Int.ofNat j<Int.ofNat l.length,(iH l).length=l.length*258,V.dS (dO (iH l) (j*258) 258)=V.dS u.d,V.bool (decide (G8 (oP u.y t.y) (oP u.x t.x)>=(0:Int)))=V.bool o],p:=fun o ho=>
   A hT (A (iT eY) (A jl (A ny (A (by rw[h1];rfl) (A rfl (A (aI V.bool C) (A rfl (A (by rw[h3];rfl) (A (bT (by simp only[gB];omega)) (A (xe (by simp only[gB];omega) S) (A (iT hj) (A jl (A aae (eM ho))))))))))))))
  by_cases ho:G8 (oP u.y t.y) (oP u.x t.x)>=0
  . exact⟨_,n0,_,_,_,aqK _ _ j t u _ _,dF (g0 ⟨fm true (bT ho),bad (by unfold kB;rw[h1,C,h3];simp only[aP,Bool.not_false];exact aV S)⟩)⟩
  . refine⟨_,n0,_,_,_,aqL _ _ j t u _ _,dF (g0 ⟨?_,j+2,by show l.length-(j+2)<l.length-(j+1);omega,⟨eY,?_⟩,.refl⟩)⟩
    . clear fm
      repeat' (first|exact all_nil|refine A ?_ ?_)
      all_goals first
       |exact hT
       |exact iT eY
       |exact jl
       |exact ny
       |rfl
       |exact aI V.bool C
       |(rw[h1];rfl)
       |(rw[h3];rfl)
       |exact bT (by simp only[gB];omega)
       |exact xe (by simp only[gB];omega) S
       |exact iT hj
       |exact aae
       |exact bF ho
       |exact gK S
    . rw[hv];have:kB (some u) t=true:=by unfold kB;rw[h1,C,h3];simp only[aP,Bool.not_false];exact aT S
      rw[this,aP];show _=kJ l[j+1]? _;rw[hn]
set_option maxRecDepth 10000
theorem RN{l:List Int}:AX l=true↔∀j,j+1<l.length->l.getD j 0<=l.getD (j+1) 0:=by
 unfold AX;rw[bV,dc];constructor
 . intro h j hj;have:=h j (bN.2 S);unfold Wr at this;rw[aS]at this;omega
 . intro h j hj;have:=h j (by have:=bN.1 hj;omega);unfold Wr;rw[aS];omega
theorem Jf{c:List Int}{i:Nat}:Ny c i=false↔(0<=c.getD i 0/\c.getD i 0<=65535)/\∀j,i=j+1->c.getD j 0<=c.getD (j+1) 0:=by
 unfold Ny;cases i with
 |zero=>
  simp only[cE,bt,and_true];exact⟨fun h=>⟨S,fun j e=>by omega⟩,fun h=>by omega⟩
 |succ j=>
  simp only[cE,bt];refine⟨fun h=>⟨S,fun k e=>?_⟩,fun h=>⟨S,?_⟩⟩
  . obtain rfl:k=j:=by omega
    omega
  . have:=h.2 j rfl;omega
theorem E7(l:List Int):Me l=jV l:=by
 rw[Bool.eq_iff_iff];unfold Me jV ptB;simp only[ay,bV,dc,aS,RN];constructor
 . rintro⟨⟨h1,C⟩,h3,h4,h5⟩;refine⟨⟨h1,C⟩,fun i hi=>?_⟩;have hi:=bN.1 hi;have up:∀k,∀i,i+k<l.length->l.getD i 0<=l.getD (i+k) 0:=fun k=>by
    induction k with
    |zero=>intro i _;exact Int.le_refl _
    |succ k ih=>intro i hi;exact Int.le_trans (ih i S) (h5 (i+k) S)
   have a1:=up i 0 S;have a2:=up (l.length-1-i) i S;rw[bB]at a1;rw[show i+(l.length-1-i)=l.length-1 by omega]at a2;rw[Bool.not_eq_true,Jf];exact⟨S,fun j e=>h5 j S⟩
 . rintro⟨⟨h1,C⟩,h3⟩;have Y:=fun i (hi:i<l.length)=>Jf.1 (by have:=h3 i (bN.2 hi);simpa using this);simp only[gB]at h1;refine⟨⟨h1,C⟩,(Y 0 S).1.1,(Y (l.length-1) S).1.2,fun j hj=>(Y (j+1) hj).2 j rfl⟩
theorem RO{α:Type}(p q:α->Bool):∀l:List α,(l.any fun x=>p x||q x)=(l.any p||l.any q)
 | []=>rfl
 |x::l=>by
  simp only[List.any_cons,RO p q l];generalize p x=a;generalize q x=b;generalize l.any p=c;generalize l.any q=d;cases a<;>cases b<;>cases c<;>cases d<;>rfl
theorem M9.aqP(m:M9):m.l=(List.range 9).map m.at:=rfl
section
variable(s:Sp)
theorem aaf:(DK s.to.l&&DK s.T.l)=!((List.range 9).any (Gi s)):=by
 have e:∀m:M9,m.l.any ZV=(List.range 9).any fun i=>x1 (m.at i)||x2 (m.at i):=fun m=>by
  rw[M9.aqP,List.any_map];rfl
 unfold DK;rw[e,e,<- Bool.not_or,<- RO];rfl
theorem UN(x:Int):IntKind.i64.wrap (0+IntKind.i64.wrap x)=IntKind.i64.wrap x:=by
 rw[Int.zero_add];unfold IntKind.wrap;have e1:(2^IntKind.i64.bits:Int)=18446744073709551616:=by decide
 have e2:(2^(IntKind.i64.bits-1):Int)=9223372036854775808:=by decide
 have e3:IntKind.i64.signed=true:=rfl;simp only[e1,e2,e3,aP,aS];split<;>split<;>omega
theorem tM(i j:Nat)(hi:i<3)(hj:j<3):K4 s.T s.to (3*i+j)=Ad s i j:=by
 have e:Y0 s i j 3=ivS s.T s.to i j:=by
  show prI s i j 2 (prI s i j 1 (prI s i j 0 0))=_;unfold prI ivS;rw[UN,Nat.mul_zero,bB,Nat.add_zero]
 have e2:UI s.T s.to (3*i+j)=fiI s i j:=by
  unfold UI fiI;rw[e,show(3*i+j)/3=i by omega,show(3*i+j)%3=j by omega];have h:Nat.beq i j=(Int.ofNat i==Int.ofNat j):=by
   rcases(by omega:i=0\/i=1\/i=2)with rfl|rfl|rfl<;>rcases(by omega:j=0\/j=1\/j=2)with rfl|rfl|rfl<;>rfl
  rw[h]
 unfold K4 Ad;rw[e2]
theorem aag:(List.range 9).any (K4 s.T s.to)=(List.range 3).any fun i=>(List.range 3).any (Ad s i):=by
 have e:List.range 9=[3*0+0,3*0+1,3*0+2,3*1+0,3*1+1,3*1+2,3*2+0,3*2+1,3*2+2]:=rfl;have e3:List.range 3=[0,1,2]:=rfl;rw[e,e3];simp only[List.any_cons,List.any_nil];rw[tM s 0 0,tM s 0 1,tM s 0 2,tM s 1 0,tM s 1 1,tM s 1 2,tM s 2 0,tM s 2 1,tM s 2 2]<;>try decide
 simp only[Bool.or_assoc,cC]
theorem aah:UK s=AT s:=by
 unfold UK AT;rw[aag,<- aaf,show(fun i=>!Me (s.cv i))=fun i=>!jV (s.cv i)from funext fun i=>by rw[E7]];generalize ((List.range 3).any fun i=>!jV (s.cv i))=a;generalize DK s.to.l=b;generalize DK s.T.l=c;cases a<;>cases b<;>cases c<;>rfl
theorem aqQ(h:NH s):dV ak 90 [s.v] (.bool (!AT s)):=aah s▸czD s fun i _=>h.cv i
end
theorem afm(f:FL)(U:f.eW.length<=1000000)(N:f.cu.length<=1000000000):dV ak 128 [f.v] (.bool (iM f)):=aql f U N (E7 _)
theorem UO(l:List Sp)(hs:∀s∈l,NH s)(hl:l.length<=1000000):dV ak 92 [.eE false l.length (jy l),mS 90] (.bool (l.any fun s=>!AT s)):=
 ceD l (fun s=>!AT s) (fun s h=>aqQ s (hs s h)) hl
set_option maxRecDepth 10000
theorem Mf{p q:Nat->Int}:Jx p q=true↔∀j,j<256->p j=q j:=by
 unfold Jx;rw[br];simp only[bN,ay,cm,and_true];constructor
 . intro h j hj;obtain⟨h0,h1,C,h3⟩:=h (j/4) S;rcases(by omega:j=j/4*4\/j=j/4*4+1\/j=j/4*4+2\/j=j/4*4+3)with e|e|e|e
   . rw[e];exact h0
   . rw[e];exact h1
   . rw[e];exact C
   . rw[e];exact h3
 . intro h i hi;exact⟨h _ S,h _ S,h _ S,h _ S⟩
theorem RP(p:Nat->Int):Jx (iL p) (fun _=>0)=nu p:=by
 unfold nu;rw[Bool.eq_iff_iff,Mf,F5];constructor
 . intro h i hi;have:=h (4*i+3) S;unfold iL cl at this;rw[show(4*i+3)/4=i by omega]at this;split at this
   . assumption
   . exact this
 . intro h j hj;unfold iL cl;rw[aD (h (j/4) S)]
theorem RR(p q:Nat->Int):Jx p q=u7 p q:=by
 unfold u7;rw[Bool.eq_iff_iff,Mf,F5]
theorem La(a b c d:Int):decide (G8 (oP b d) (oP a c)<0)=G3 a b c d:=by
 unfold G8 oP G3;by_cases h1:b<d
 . rw[aD h1];simp[h1]
 . by_cases C:d<b
   . rw[aA h1,aD C];have:¬b=d:=by omega
     simp[h1,this]
   . rw[aA h1,aA C];obtain rfl:b=d:=by omega
     by_cases h3:a<c
     . simp[h3]
     . by_cases h4:c<a
       . simp[h3,h4]
       . simp[h3,h4]
theorem RS(l:List Tl):∀(k:Nat) (m:List Tl) (u:Option Tl),m=l.drop k->u=pvT l k->k<=l.length->(kJ u m=true↔∀i,k<=i->i<l.length->V8 l i):=by
 intro k m
 induction m generalizing k with
 |nil=>
  intro u K hu U;have:l.length<=k:=by
   have:=aI List.length K;rw[List.length_drop,b9]at this;omega
  exact⟨fun _ i h1 C=>absurd C S,fun _=>rfl⟩
 |cons t m ih=>
  intro u K hu U;have eY:k<l.length:=by
   rcases bj k l.length with q|q
   . exact q
   . rw[List.drop_eq_nil_of_le q]at K;cases K
  have hd:l.drop k=l[k]::l.drop (k+1):=bz eY;rw[hd]at K;injection K with ht tP;have hg:l[k]? =some t:=by rw[au eY,ht]
  have ih:=ih (k+1) (some t) tP (by rw[<- hg];rfl) eY;have e:kJ u (t::m)=(kB u t&&kJ (some t) m):=rfl;rw[e,ay,ih];have mN:kB u t=true↔V8 l k:=by
   unfold kB V8 okT;rw[RP,RR];simp only[ay,bV];constructor
   . rintro⟨h1,C,h3,h4⟩ t' V9;rw[hg]at V9;cases V9;refine⟨⟨h1,C,h3⟩,fun h0 u' Bq=>?_⟩;obtain⟨j,rfl⟩:∃j,k=j+1:=⟨k-1,S⟩;have:u=some u':=hu.trans Bq;subst this;simp only at h4;rw[La]at h4;exact h4
   . intro h;obtain⟨⟨h1,C,h3⟩,h4⟩:=h t hg;refine⟨h1,C,h3,?_⟩;cases k with
     |zero=>
      have:u=none:=hu;rw[this]
     |succ j=>
      have hj:u=some (l[j]'(by omega)):=hu.trans (au S);rw[hj];simp only;rw[La];exact h4 S _ (au S)
  rw[mN];constructor
  . rintro⟨h1,C⟩ i hi hl;rcases Nat.eq_or_lt_of_le hi with rfl|q
    . exact h1
    . exact C i q hl
  . exact fun h=>⟨h k (aK _) eY,fun i hi hl=>h i S hl⟩
theorem NW(l:List Tl):rvF l=cD (fC l):=by
 unfold rvF fC;rw[Bool.eq_iff_iff,ay,aS,F5,RS l 0 l none rfl rfl (aN _)];exact⟨fun⟨h1,C⟩=>⟨h1,fun i hi=>C i (aN _) hi⟩,fun⟨h1,C⟩=>⟨h1,fun i _ hi=>C i hi⟩⟩
theorem vJ(l:List Tl)(hl:l.length<=1000000):dV ak 126 [kX l] (.bool (cD (fC l))):=NW l▸rvD l hl
open Go.Shelf Go.RowKit
set_option maxRecDepth 10000
def afn:Go.Shelf.Ren:=⟨fun|137=>179|217=>183|266=>184|n=>n,fun n=>n,fun n=>n⟩
theorem aai:Lays.n137 ak afn:={
 mixed:=mo
 f137:=Tryz.func179.trans (aI some dD)
 f217:=Tryz.func183.trans (aI some dD)
 f266:=Tryz.func184.trans (aI some dD)
 t3:=Tryz.underlying3
 a3:=Tryz.isAgg3
 z3:=Tryz.sizeOf3
 v3:=Tryz.zeroValue3
 t5:=Tryz.underlying5
 a5:=Tryz.isAgg5
 z5:=Tryz.sizeOf5
 v5:=Tryz.zeroValue5
 t9:=Tryz.underlying9
 a9:=Tryz.isAgg9
 z9:=Tryz.sizeOf9
 v9:=Tryz.zeroValue9
}
def afo:Go.Shelf.Ren:=⟨fun|315=>173|n=>n,fun|40=>211|n=>n,fun n=>n⟩
theorem aaj:Lays.n315 ak afo:={
 mixed:=mo
 f315:=Tryz.func173.trans (aI some dD)
 t0:=Tryz.underlying0
 a0:=Tryz.isAgg0
 z0:=Tryz.sizeOf0
 v0:=Tryz.zeroValue0
 t3:=Tryz.underlying3
 a3:=Tryz.isAgg3
 z3:=Tryz.sizeOf3
 v3:=Tryz.zeroValue3
 t4:=Tryz.underlying4
 a4:=Tryz.isAgg4
 z4:=Tryz.sizeOf4
 v4:=Tryz.zeroValue4
 t9:=Tryz.underlying9
 a9:=Tryz.isAgg9
 z9:=Tryz.sizeOf9
 v9:=Tryz.zeroValue9
 t21:=Tryz.underlying21
 a21:=Tryz.isAgg21
 z21:=Tryz.sizeOf21
 v21:=Tryz.zeroValue21
 t40:=Tryz.underlying211
 a40:=Tryz.isAgg211
 z40:=Tryz.sizeOf211
 v40:=Tryz.zeroValue211
}
section
variable(r:Int)(s:aa)(b a:Int)
def Lb:ag->Option (ah×V)
 | [.str s,.int .u8 c]=>some ([],F (Lib.indexByte s c.toNat.toUInt8))
 |_=>none
theorem aak:kj ak 179 (gQ Lb):=by
 refine⟨aE dD,fun args h n fm v h' n' e hA E w dQ ra g hd N=>?_⟩;unfold gQ Lb at e;split at e
 case h_2=>cases e
 rename_i A1 v1 e1;split at e1
 case h_2=>cases e1
 rename_i s c;simp only[aq,aB]at e e1;obtain⟨rfl,rfl⟩:=e1;obtain⟨rfl,rfl,rfl,rfl⟩:=e;obtain⟨y,ys,r0,rs,rfl⟩:=ra;obtain⟨z,zs,r1,rs2,rfl⟩:=rs;have rs2:zs=[]:=rs2;subst rs2;have r0:y= .string ⟨s.toArray⟩:=r0;have r1:z= .int .u8 c:=r1;subst r0;subst r1;refine(Any.strings_IndexByte aai ⟨s.toArray⟩ c w).mono fun en w' ⟨he,hw⟩=>?_;subst he;subst hw;exact uX g hd rfl ⟨E,rfl⟩ (Below.refl _ _)
noncomputable abbrev Wib:gJ:=kp 179 (gQ Lb) ek
theorem GC:fe ak Wib:=fN aak (be _)
def oB:aa:=[97,98,99,100,101,102,103,104,105,106,107,108,109,110,111,112,113,114,115,116,117,118,119,120,121,122,48,49,50,51,52,53,54,55,56,57,45,95]
abbrev iR:V:=.int .i32 r
noncomputable abbrev RT:Code:=dL Tryz.f172
noncomputable abbrev afr:Code:=dK (dA 1 RT)
noncomputable abbrev afs:Code:=oy (dY afr)
noncomputable abbrev aal:Code:=oy (dY afs)
noncomputable abbrev RU:Code:=oy (dY aal)
def Jg(q:List (Nat×V)):St:=fB ([(0,.str oB),(1,iR r)]++q) (hL []) 0
theorem aqR:H (M Wib []) [(162,.dG (.bool true)),(165,.dG (.bool true))] 0 Tryz.f172 [] (RT) (dB [.str oB,iR r] .nil 0) [([],[kO (decide ((0:Int)<=r)),kO (decide (r<(128:Int)))],.ret (.int .i64 (Lib.indexByte oB (IntKind.u8.wrap r).toNat.toUInt8)) (hL []) 0)]:=G.W
theorem aqS:H (M ek []) [] 0 Tryz.f172 [] (RT) (dB [.str oB,iR 65533] .nil 0) [([],[],.ret (.int .i64 (-1)) (hL []) 0)]:=G.W
theorem aqT:H (M ek [(180,[(5,.dG (.bool true)),(8,.dG (.bool false)),(12,.dG (.bool false))])]) [(162,.dG (.bool true)),(165,.dG (.bool false)),(173,.dG (.bool false))] 0 Tryz.f172 [] (RT) (dB [.str oB,iR r] .nil 0) [([],[kO (decide ((0:Int)<=r)),lu (decide (r<(128:Int))),lu (r==(65533:Int)),kO (decide ((0:Int)<=r)),lu (decide (r<(55296:Int))),lu (decide ((57343:Int)<r))],.ret (.int .i64 (-1)) (hL []) 0)]:=G.W
theorem aqU:H (M ek []) [] 0 Tryz.f172 [0,1] (dU 1 RT) (dB [.str oB,iR r] .nil 0) [([],[],eu (Jg r []))]:=G.W
theorem aqV:H (M ek []) [(162,.dG (.bool true)),(165,.dG (.bool false))] 0 Tryz.f172 [0,1,160] (dI afr) (Jg r []) [([],[kO (decide ((0:Int)<=r)),lu (decide (r<(128:Int)))],eu (Jg r [(160,.bool false)]))]:=G.W
theorem aqW:H (M ek []) [(173,.dG (.bool false))] 0 Tryz.f172 [0,1,171] (dI afs) (Jg r [(160,.bool false)]) [([],[lu (r==(65533:Int))],eu (Jg r [(171,.bool false)]))]:=G.W
theorem aqX:H (M ek [(180,[(5,.dG (.bool true)),(8,.split),(12,.dG (.bool true)),(15,.dG (.bool true))])]) [] 0 Tryz.f172 [0,1,183] (dI aal) (Jg r [(171,.bool false)]) (fP (decide (r<(55296:Int))) ([kO (decide ((0:Int)<=r))],eu (Jg r [(183,.bool false)])) ([kO (decide ((0:Int)<=r)),kO (decide ((57343:Int)<r)),kO (decide (r<=(1114111:Int)))],eu (Jg r [(183,.bool false)]))):=G.W
def xz:Code->Code
 | .scope c=>c
 |c=>c
noncomputable abbrev cS1:Code:=xz RU
noncomputable abbrev bS1:Code:=dK (dK (dI (dA 4 cS1)))
noncomputable abbrev cS2:Code:=xz (dK (dY bS1))
def Lc(k:Nat):St:=Jg r [(7,.str (iw r)),(8,L k),(9,L k),(10,L 0)]
theorem aft:H (M ek []) [(20,.dG (L 2))] 0 Tryz.f172 [0,1,7,8,9,10] (dU 4 cS1) (Jg r [(183,.bool false)]) [([],[V.int B (Int.ofNat (iw r).length)=L 2],eu (Lc r 1))]:=G.W
theorem afu:H (M ek []) [] 0 Tryz.f172 [0,1,7,8,9,10] (dI bS1) (Lc r 1) [([],[],eu (Lc r 1))]:=G.W
abbrev Mg:Prop:=V.int IntKind.u8 (Int.ofNat ((iw r).getD 1 (0:UInt8)).toNat)=V.int IntKind.u8 b
theorem afv:H (M Wib []) [(32,.dG (.int .u8 b)),(33,.dG (.bool true)),(40,.dG (.int .u8 b)),(43,.dG (.bool true))] 0 Tryz.f172 [0] (dI cS2) (Lc r 1) [([],[(0:Int)<=(1:Int)/\1<38,(0:Int)<=(1:Int)/\1<(iw r).length,Mg r b,kO ((98:Int) !=b),(0:Int)<=(2:Int)/\(2:Int)<=(38:Int),(0:Int)<=(1:Int)/\1<(iw r).length,Mg r b,kO (decide (Lib.indexByte (List.drop 2 (List.take 38 oB)) b.toNat.toUInt8<(0:Int)))],.ret (.int .i64 (-1)) (hL []) 0)]:=G.W
theorem afw:H (M ek []) [(20,.dG (L 3))] 0 Tryz.f172 [0,1,7,8,9,10] (dU 4 cS1) (Jg r [(183,.bool false)]) [([],[V.int B (Int.ofNat (iw r).length)=L 3],eu (Lc r 2))]:=G.W
theorem afx:H (M ek []) [] 0 Tryz.f172 [0,1,7,8,9,10] (dI bS1) (Lc r 2) [([],[],eu (Lc r 2))]:=G.W
abbrev Mh:Prop:=V.int IntKind.u8 (Int.ofNat ((iw r).getD 2 (0:UInt8)).toNat)=V.int IntKind.u8 b
theorem afy:H (M Wib []) [(32,.dG (.int .u8 b)),(33,.dG (.bool true)),(40,.dG (.int .u8 b)),(43,.dG (.bool true))] 0 Tryz.f172 [0] (dI cS2) (Lc r 2) [([],[(0:Int)<=(2:Int)/\2<38,(0:Int)<=(2:Int)/\2<(iw r).length,Mh r b,kO ((99:Int) !=b),(0:Int)<=(3:Int)/\(3:Int)<=(38:Int),(0:Int)<=(2:Int)/\2<(iw r).length,Mh r b,kO (decide (Lib.indexByte (List.drop 3 (List.take 38 oB)) b.toNat.toUInt8<(0:Int)))],.ret (.int .i64 (-1)) (hL []) 0)]:=G.W
theorem afz:H (M ek []) [(20,.dG (L 4))] 0 Tryz.f172 [0,1,7,8,9,10] (dU 4 cS1) (Jg r [(183,.bool false)]) [([],[V.int B (Int.ofNat (iw r).length)=L 4],eu (Lc r 3))]:=G.W
theorem afA:H (M ek []) [] 0 Tryz.f172 [0,1,7,8,9,10] (dI bS1) (Lc r 3) [([],[],eu (Lc r 3))]:=G.W
abbrev Mi:Prop:=V.int IntKind.u8 (Int.ofNat ((iw r).getD 3 (0:UInt8)).toNat)=V.int IntKind.u8 b
theorem afB:H (M Wib []) [(32,.dG (.int .u8 b)),(33,.dG (.bool true)),(40,.dG (.int .u8 b)),(43,.dG (.bool true))] 0 Tryz.f172 [0] (dI cS2) (Lc r 3) [([],[(0:Int)<=(3:Int)/\3<38,(0:Int)<=(3:Int)/\3<(iw r).length,Mi r b,kO ((100:Int) !=b),(0:Int)<=(4:Int)/\(4:Int)<=(38:Int),(0:Int)<=(3:Int)/\3<(iw r).length,Mi r b,kO (decide (Lib.indexByte (List.drop 4 (List.take 38 oB)) b.toNat.toUInt8<(0:Int)))],.ret (.int .i64 (-1)) (hL []) 0)]:=G.W
theorem aqZ:H (M (fa 172 [.str oB,iR r] (F a) ek) []) [] 0 Tryz.f152 [] (dL Tryz.f152) (dB [.str oB,iR r] .nil 0) [([],[fu [.str oB,iR r]],.ret (.bool (decide (a>=(0:Int)))) (hL []) 0)]:=G.W
theorem aq0(b:Bool):H (M (fa 152 [.str oB,iR r] (.bool b) ek) []) [] 0 Tryz.f151 [] (dL Tryz.f151) (dB [iR r] .nil 0) [([],[fu [.str oB,iR r]],.ret (.bool (!b)) (hL []) 0)]:=G.W
theorem aq1:H (M (fa 173 [.str s,mS 151,.bool true] (F a) ek) []) [] 0 Tryz.f153 [] (dL Tryz.f153) (dB [.str s,mS 151] .nil 0) [([],[V.jJ ([]++[V.str s,mS 151,V.bool true]++[])=[V.str s,mS 151,V.bool true]],.ret (.int .i64 a) (hL []) 0)]:=G.W
theorem aq2:H (M (fa 153 [.str s,mS 151] (F a) ek) []) [(6,.split)] 0 Tryz.f125 [] (dL Tryz.f125) (dB [.str s] .nil 0) (fP (decide ((Int.ofNat s.length)<=(12:Int))) ([V.jJ ([]++[V.str s,V.fn (Fn.func 151) [] []]++[])=[V.str s,mS 151]],.ret (.bool (decide (a<(0:Int)))) (hL []) 0) ([],ja)):=G.W
end
set_option maxRecDepth 10000
section
variable{X hc:Nat}{c:Code}{s:St}{Q:Exit->St->Prop}
def RV(Q:Exit->St->Prop):Exit->St->Prop
 | .goto _,_=>False
 |y,s=>Q y s
def Mj:Code->Bool
 | .scope _=>true
 |_=>false
theorem yN(h:TG ak X hc (xz c) s (RV Q))(N:Mj c=true:=by kernel_rfl):TG ak X hc c s Q:=by
 cases c<;>simp only[Mj,aM]at N;intro E a w hm r hn k;refine wp_scope_straight (h E a w _ r hn fun y R E' a' w' q u od r'=>?_);cases y<;>first|exact k _ R E' a' w' q u od r'|exact q.elim
end
theorem UP{r:Int}(h1:128<=r)(C:r<1114112)(hv:¬(55296<=r/\r<=57343)):∃k,(k=1\/k=2\/k=3)/\(iw r).length=k+1/\(iw r).getD k 0=UInt8.ofNat (128+r.toNat%64):=by
 have RW:Utf8.valid r=true:=by
  unfold Utf8.valid;simp only[cg,ay,aS];omega
 unfold iw Utf8.encode;simp only[RW,if_true];rw[aA (show ¬r.toNat<0x80 by omega)];by_cases c1:r.toNat<0x800
 . rw[aD c1];exact⟨1,.inl rfl,rfl,rfl⟩
 . rw[aA c1];by_cases c2:r.toNat<0x10000
   . rw[aD c2];exact⟨2,.inr (.inl rfl),rfl,rfl⟩
   . rw[aA c2];exact⟨3,.inr (.inr rfl),rfl,rfl⟩
section
variable(r:Int)(x:Nat)(s:aa)(b:UInt8)
def Wv:Int:=if r<128 then Lib.indexByte oB r.toNat.toUInt8 else -1
theorem UQ:oB.all (fun b=>decide (b.toNat<128))=true:=by decide
theorem vK{l:aa}{c:UInt8}(h:∀b∈l,b≠c):Lib.indexByte l c= -1:=by
 induction l with
 |nil=>rfl
 |cons b l ih=>
  unfold Lib.indexByte;rw[aA (by simpa using h b (bw ..)),ih fun b Y=>h b (aZ _ Y)];rfl
abbrev RGi:Exit->St->Prop:=fV ak 0 Tryz.f172 fun u _ _=>u=F (-1)
theorem aam(hl:(iw r).length=1+1)(hg:(iw r).getD 1 0=b)(Y:∀x∈oB,x≠b):TG ak 0 Tryz.f172.ntmps (xz RU) (Jg r [(183,.bool false)]) (RV (gZ 0 RGi)):=by
 have e1:V.int B (Int.ofNat (iw r).length)=L 2:=by rw[hl]
 have e2:V.int IntKind.u8 (Int.ofNat ((iw r).getD 1 (0:UInt8)).toNat)=V.int IntKind.u8 (Int.ofNat b.toNat):=by rw[hg]
 have e3:V.bool ((98:Int) !=Int.ofNat b.toNat)=V.bool true:=aI V.bool (by
  have:(98:UInt8)≠b:=Y _ eX;rw[bne_iff_ne];intro e;refine this (UInt8.toNat_inj.1 ?_);have e:((98:Nat):Int)=(b.toNat:Int):=e;exact Int.ofNat_inj.1 e)
 have e4:V.bool (decide (Lib.indexByte (List.drop 2 (List.take 38 oB)) (Int.ofNat b.toNat).toNat.toUInt8<(0:Int)))=V.bool true:=by
  have eb:(Int.ofNat b.toNat).toNat.toUInt8=b:=by
   show b.toNat.toUInt8=b;exact UInt8.ofNat_toNat
  rw[eb,vK fun x J=>Y x (cN (List.mem_of_mem_drop J))];rfl
 refine fH 4 (be _) (aft r) (eM e1) ?_;refine dM dD (fL (i:=1) dD (jO (fun _ s=>s=Lc r 1) dD ?_ 0 rfl));rintro m s rfl;refine dM dD (gk (be _) eI (afu r) (dF (g0 ⟨all_nil,fun R dX=>?_⟩)));simp only[andThen];refine fQ dX (fL (i:=2) dD (yN ?_));refine qv GC (fun u _ _=>u=F (-1)) (afv r (Int.ofNat b.toNat)) (dF (g0 ⟨?_,rfl,fun R h=>h⟩))
 repeat' (first|exact all_nil|refine A ?_ ?_)
 all_goals first
  |exact e2
  |exact e3
  |exact e4
  |decide
  |(rw[hl];decide)
theorem aan(hl:(iw r).length=2+1)(hg:(iw r).getD 2 0=b)(Y:∀x∈oB,x≠b):TG ak 0 Tryz.f172.ntmps (xz RU) (Jg r [(183,.bool false)]) (RV (gZ 0 RGi)):=by
 have e1:V.int B (Int.ofNat (iw r).length)=L 3:=by rw[hl]
 have e2:V.int IntKind.u8 (Int.ofNat ((iw r).getD 2 (0:UInt8)).toNat)=V.int IntKind.u8 (Int.ofNat b.toNat):=by rw[hg]
 have e3:V.bool ((99:Int) !=Int.ofNat b.toNat)=V.bool true:=aI V.bool (by
  have:(99:UInt8)≠b:=Y _ eX;rw[bne_iff_ne];intro e;refine this (UInt8.toNat_inj.1 ?_);have e:((99:Nat):Int)=(b.toNat:Int):=e;exact Int.ofNat_inj.1 e)
 have e4:V.bool (decide (Lib.indexByte (List.drop 3 (List.take 38 oB)) (Int.ofNat b.toNat).toNat.toUInt8<(0:Int)))=V.bool true:=by
  have eb:(Int.ofNat b.toNat).toNat.toUInt8=b:=by
   show b.toNat.toUInt8=b;exact UInt8.ofNat_toNat
  rw[eb,vK fun x J=>Y x (cN (List.mem_of_mem_drop J))];rfl
 refine fH 4 (be _) (afw r) (eM e1) ?_;refine dM dD (fL (i:=1) dD (jO (fun _ s=>s=Lc r 2) dD ?_ 0 rfl));rintro m s rfl;refine dM dD (gk (be _) eI (afx r) (dF (g0 ⟨all_nil,fun R dX=>?_⟩)));simp only[andThen];refine fQ dX (fL (i:=2) dD (yN ?_));refine qv GC (fun u _ _=>u=F (-1)) (afy r (Int.ofNat b.toNat)) (dF (g0 ⟨?_,rfl,fun R h=>h⟩))
 repeat' (first|exact all_nil|refine A ?_ ?_)
 all_goals first
  |exact e2
  |exact e3
  |exact e4
  |decide
  |(rw[hl];decide)
theorem aao(hl:(iw r).length=3+1)(hg:(iw r).getD 3 0=b)(Y:∀x∈oB,x≠b):TG ak 0 Tryz.f172.ntmps (xz RU) (Jg r [(183,.bool false)]) (RV (gZ 0 RGi)):=by
 have e1:V.int B (Int.ofNat (iw r).length)=L 4:=by rw[hl]
 have e2:V.int IntKind.u8 (Int.ofNat ((iw r).getD 3 (0:UInt8)).toNat)=V.int IntKind.u8 (Int.ofNat b.toNat):=by rw[hg]
 have e3:V.bool ((100:Int) !=Int.ofNat b.toNat)=V.bool true:=aI V.bool (by
  have:(100:UInt8)≠b:=Y _ eX;rw[bne_iff_ne];intro e;refine this (UInt8.toNat_inj.1 ?_);have e:((100:Nat):Int)=(b.toNat:Int):=e;exact Int.ofNat_inj.1 e)
 have e4:V.bool (decide (Lib.indexByte (List.drop 4 (List.take 38 oB)) (Int.ofNat b.toNat).toNat.toUInt8<(0:Int)))=V.bool true:=by
  have eb:(Int.ofNat b.toNat).toNat.toUInt8=b:=by
   show b.toNat.toUInt8=b;exact UInt8.ofNat_toNat
  rw[eb,vK fun x J=>Y x (cN (List.mem_of_mem_drop J))];rfl
 refine fH 4 (be _) (afz r) (eM e1) ?_;refine dM dD (fL (i:=1) dD (jO (fun _ s=>s=Lc r 3) dD ?_ 0 rfl));rintro m s rfl;refine dM dD (gk (be _) eI (afA r) (dF (g0 ⟨all_nil,fun R dX=>?_⟩)));simp only[andThen];refine fQ dX (fL (i:=2) dD (yN ?_));refine qv GC (fun u _ _=>u=F (-1)) (afB r (Int.ofNat b.toNat)) (dF (g0 ⟨?_,rfl,fun R h=>h⟩))
 repeat' (first|exact all_nil|refine A ?_ ?_)
 all_goals first
  |exact e2
  |exact e3
  |exact e4
  |decide
  |(rw[hl];decide)
theorem irD(h0:0<=r)(h1:r<=1114111):dV ak 172 [.str oB,iR r] (F (Wv r)):=by
 have b0:V.bool (decide ((0:Int)<=r))=V.bool true:=aI V.bool (aT h0);by_cases ha:r<128
 . refine fc Tryz.func172 (eR GC (aqR r) (dF (g0 ⟨A b0 (eM (aI V.bool (aT ha))),_,_,_,rfl,?_⟩)));unfold Wv;have e:IntKind.u8.wrap r=r:=by
    unfold IntKind.wrap;have e1:(2^IntKind.u8.bits:Int)=256:=by decide
    have e3:IntKind.u8.signed=false:=rfl;simp only[e1,e3,aQ,aM,cA];omega
   rw[aD ha,e]
 have eF:Wv r= -1:=aA ha;rw[eF];have b1:V.bool (decide (r<(128:Int)))=V.bool false:=aI V.bool (aV ha);by_cases Y:r=65533
 . subst Y;exact fc Tryz.func172 (eR (be _) aqS (dF (g0 ⟨all_nil,_,_,_,rfl,rfl⟩)))
 have b2:V.bool (r==(65533:Int))=V.bool false:=aI V.bool (cr.2 Y);by_cases N:55296<=r/\r<=57343
 . exact fc Tryz.func172 (eR (be _) (aqT r) (dF (g0 ⟨A b0 (A b1 (A b2 (A b0 (A (aI V.bool (aV S)) (eM (aI V.bool (aV S))))))),_,_,_,rfl,rfl⟩)))
 obtain⟨k,U,hl,hg⟩:=UP S S N;have hby:(UInt8.ofNat (128+r.toNat%64)).toNat=128+r.toNat%64:=by
  have:128+r.toNat%64<256:=by omega
  simp[UInt8.toNat_ofNat'];omega
 have hbn:∀b∈oB,b≠UInt8.ofNat (128+r.toNat%64):=fun b Y e=>by
  have h1:=br.1 UQ b Y;rw[aS]at h1;rw[e,hby]at h1;omega
 have go:TG ak 0 Tryz.f172.ntmps (xz RU) (Jg r [(183,.bool false)]) (RV (gZ 0 RGi)):=by
  rcases U with rfl|rfl|rfl
  . exact aam r _ hl hg hbn
  . exact aan r _ hl hg hbn
  . exact aao r _ hl hg hbn
 refine fc Tryz.func172 (fH 1 (be _) (aqU r) all_nil (fL (i:=0) dD ?_));refine qv (be _) eI (aqV r) (dF (g0 ⟨A b0 (eM b1),?_⟩));refine jZ (t:=false) dD dD (fun q=>by cases q) (fun _=>?_);refine qv (be _) eI (aqW r) (dF (g0 ⟨eM b2,?_⟩));refine jZ (t:=false) dD dD (fun q=>by cases q) (fun _=>?_);have pX:=jZ (P:=ak) (X:=0) (hc:=Tryz.f172.ntmps) (c:=dY aal) (s:=Jg r [(183,.bool false)]) (Q:=gZ 0 RGi) (t:=false) dD dD (fun q=>by cases q) (fun _=>yN go);refine qv (be _) eI (aqX r) (dJ (g1 fun _=>⟨eM b0,pX⟩) (dF (g1 fun h=>⟨A b0 (A (aI V.bool (aT (by have:=bq h;omega))) (eM (aI V.bool (aT h1)))),pX⟩)))
def nw:Bool:=!decide (Wv (x:Int)>=0)
theorem aq3(h:x<=1114111):dV ak 151 [iR x] (.bool (nw x)):=by
 have h1:=irD (x:Int) S S;have C:dV ak 152 [.str oB,iR x] (.bool (decide (Wv (x:Int)>=0))):=fc Tryz.func152 (eR (fk h1 (be _)) (aqZ x (Wv x)) (dF (g0 ⟨eM rfl,_,_,_,rfl,rfl⟩)));exact fc Tryz.func151 (eR (fk C (be _)) (aq0 x _) (dF (g0 ⟨eM rfl,_,_,_,rfl,rfl⟩)))
theorem aap:dV ak 173 [.str s,mS 151,.bool true] (F (Lib.idxFunc nw true ⟨s.toArray⟩)):=fun E h n w dQ ra g hd=>by
 obtain⟨y,ys,r0,rs,rfl⟩:=ra;obtain⟨z,zs,r1,rs2,rfl⟩:=rs;obtain⟨t,ts,r2,rs3,rfl⟩:=rs2;have rs3:ts=[]:=rs3;subst rs3;have r0:y= .string ⟨s.toArray⟩:=r0;have r2:t= .bool true:=r2;subst r0;subst r2;obtain⟨f',a',c',rf,qa,qc,rfl⟩:=r1;have rf:f'= .func 151:=rf;have qa:a'=[]:=qa;have qc:c'=[]:=qc;subst rf;subst qa;subst qc;refine(Any.strings_indexFunc_grows aaj 151 #[] (fun args w=>rfl) nw true ⟨s.toArray⟩ w fun dP x J Y=>?_).mono fun en w' ⟨he,hw⟩=>?_
 . have g0:Eng.Good (Bf fun _=>none) .nil dP:=wZ (fun p hp=>by cases hp) (fun b c q=>by cases q);refine(aq3 x J (Bf fun _=>none) .nil gN dP [.int .i32 x] ⟨_,[],rfl,rfl,rfl⟩ g0 (CD (aK _))).mono fun en w' c=>?_;obtain⟨⟨E2,ho⟩,b⟩:=qI xb c;cases en with
   |returned v=>have ho:v= .bool (nw x):=ho;exact⟨by rw[ho],b⟩
   |_=>exact ho.elim
 . subst he;exact uX g hd rfl ⟨E,rfl⟩ hw
theorem aq5:dV ak 153 [.str s,mS 151] (F (Lib.idxFunc nw true ⟨s.toArray⟩)):=
 fc Tryz.func153 (eR (fk (aap s) (be _)) (aq1 s _) (dF (g0 ⟨eM rfl,_,_,_,rfl,rfl⟩)))
end
set_option maxRecDepth 10000
theorem NX{l:aa}{c:UInt8}(h:c∈l):0<=Lib.indexByte l c:=by
 induction l with
 |nil=>cases h
 |cons b l ih=>
  unfold Lib.indexByte;by_cases e:b=c
  . rw[aD (by simpa using e)];exact Int.le_refl _
  . rw[aA (by simpa using e)];have:=ih ((az.1 h).resolve_left fun q=>e q.symm);rw[aA (by simp;omega)];omega
theorem Ld(l:aa)(c:UInt8):decide (Lib.indexByte l c>=0)=l.contains c:=by
 by_cases h:c∈l
 . rw[cR.2 h];exact aT (NX h)
 . rw[vK (l:=l) (c:=c) fun b Y e=>h (by rw[<- e];exact Y)];have:l.contains c=false:=by rw[<- Bool.not_eq_true,cR];exact h
   rw[this];rfl
theorem UR:((List.range 256).all fun n=>(oB.contains (UInt8.ofNat n))== !Da (n:Int))=true:=by decide
section
variable{x:Nat}(s:ByteArray)(i:Nat)
theorem Jh(h:x<128):nw x=Da (x:Int):=by
 unfold nw Wv;rw[aD S,Ld];have:=br.1 UR x (bN.2 S);rw[cm]at this;have e:((x:Int).toNat).toUInt8=UInt8.ofNat x:=rfl;rw[e,this,Bool.not_not]
theorem GD(h:128<=x):nw x=true:=by
 unfold nw Wv;rw[aA S];rfl
theorem US(h:(s.get! i).toNat<128):Utf8.decode s i=((s.get! i).toNat,1):=by
 unfold Utf8.decode;simp only[Nat.add_zero];rw[aD h]
theorem RY(h:128<=(s.get! i).toNat):128<=(Utf8.decode s i).1:=by
 unfold Utf8.decode;simp only[Nat.add_zero];rw[aA S];split
 . split
   . rename_i C;exact C
   . decide
 . split
   . split
     . rename_i C;simp only[ay,aS]at C;omega
     . decide
   . split
     . split
       . rename_i C;simp only[ay,aS]at C;omega
       . decide
     . decide
end
theorem UT(l:aa):∀(f pos:Nat),l.length<=pos+f->(Lib.idxFuncFrom nw true ⟨l.toArray⟩ f pos<0↔∀i,pos<=i->i<l.length->Da (Int.ofNat (l.getD i 0).toNat)=false):=by
 have mP:(⟨l.toArray⟩:ByteArray).size=l.length:=by show l.toArray.size=_;simp
 have pb:∀i,i<l.length->(⟨l.toArray⟩:ByteArray).get! i=l.getD i 0:=fun i hi=>by
  show l.toArray[i]! =_;rw[ax,au hi];simp[hi]
 intro f
 induction f with
 |zero=>
  intro pos h;unfold Lib.idxFuncFrom;exact⟨fun _ i h1 C=>absurd C S,fun _=>by decide⟩
 |succ f ih=>
  intro pos h;unfold Lib.idxFuncFrom;rw[mP];by_cases hp:pos<l.length
  . rw[aD hp];have hg:=pb pos hp;by_cases Y:(l.getD pos 0).toNat<128
    . rw[US _ _ (by rw[hg];exact Y),hg];simp only;rw[Jh Y];cases N:Da ((l.getD pos 0).toNat:Int)with
      |true=>
       rw[aD rfl];refine⟨fun q=>absurd q S,fun q=>?_⟩;have:=q pos (aK _) hp;rw[gB,N]at this;cases this
      |false=>
       rw[aA eX,ih (pos+1) S];constructor
       . intro q i h1 C;rcases Nat.eq_or_lt_of_le h1 with rfl|h3
         . exact N
         . exact q i h3 C
       . exact fun q i h1 C=>q i S C
    . have hd:=RY ⟨l.toArray⟩ pos (by rw[hg];omega);rw[GD hd,aD rfl];refine⟨fun q=>absurd q S,fun q=>?_⟩;have:=q pos (aK _) hp;unfold Da at this;simp only[gB,Bool.and_eq_false_iff,cE,bt,bne_eq_false_iff_eq]at this;omega
  . rw[aA hp];exact⟨fun _ i h1 C=>absurd C S,fun _=>by decide⟩
theorem UU(s:aa):dV ak 125 [.str s] (.bool (qK s)):=by
 have e:decide (Lib.idxFunc nw true ⟨s.toArray⟩<(0:Int))=!(s.any fun b=>Da (Int.ofNat b.toNat)):=by
  rw[Bool.eq_iff_iff,aS,bV,dc];have mP:(⟨s.toArray⟩:ByteArray).size=s.length:=by show s.toArray.size=_;simp
  unfold Lib.idxFunc;rw[mP,UT s s.length 0 S];constructor
  . intro h b Y;obtain⟨i,hi,rfl⟩:=ck Y;have:=h i (aN _) hi;rw[ax,au hi]at this;simpa using this
  . intro h i _ hi;have:=h _ (bJ hi);rw[ax,au hi];simpa using this
 refine fc Tryz.func125 (eR (fk (aq5 s) (be _)) (aq2 s _) (dJ (g1 fun h=>⟨eM rfl,_,_,_,rfl,aI V.bool ?_⟩) (dF (g1 fun h=>⟨all_nil,_,_,_,rfl,aI V.bool ?_⟩))))
 . rw[e];unfold qK;rw[h,cz]
 . unfold qK;rw[h,cI]
set_option maxRecDepth 10000
def rG:Code->Nat
 | .region _ ops _=>ops.size-1
 |_=>0
abbrev kG(c:Code):Code:=Ec (rG c) c
def Le:List Eng.D->Option (ah×V)
 | [.agg [.int .i64 k,.int .i64 r,.eE n eW,.int .i64 dv,.int .i64 vl,.eE m cu]]=>some ([eW=eG (eH eW),n=(eH eW).length,n<=1000000,cu=eG (eH cu),m=(eH cu).length,m<=1000000],.str (ic ⟨k,r,eH eW,dv,vl,eH cu⟩))
 |_=>none
noncomputable abbrev Wfb:gJ:=kp 63 (Go.Eng.dW Le) ek
noncomputable abbrev gz:Code:=dL Tryz.f93
def jL(d:Dc)(O:List (Eng.D×Eng.D))(x:eJ)(r:List (Nat×V)):St:=fB ([(0,pT),(3,.ptr (some (2,0)))]++r) (hL [(0,.cells (d.cs++[.map (some 1)])),(1,.gM (some .i64) O),(2,.cells x.cs)]) 3
theorem aq6(d:Dc)(O:List (Eng.D×Eng.D))(x:eJ):H (M ek []) [] 2 Tryz.f93 [0,3] (dU 1 gz) (dB [pT,x.v] (mR d O) 2) [([],[],eu (jL d O x []))]:=G.W
section
variable(x:eJ)
theorem aq7(d:Dc)(O:List (Eng.D×Eng.D))(x:eJ):H (M ek []) [(8,.split),(12,.split)] 2 Tryz.f93 [0,3,13,15] (kG (dI (dA 1 gz))) (jL d O x []) (CW (decide (x.kd>=(1:Int))) (decide (x.kd<=(5:Int))) ([],eu (jL d O x [(13,.bool true),(15,F x.id)])) ([],eu (jL d O x [(13,.bool false),(15,F x.id)]))):=G.W
theorem aq8(d:Dc)(O:List (Eng.D×Eng.D))(x:eJ)(b:Bool):H (M (fa 125 [.str x.nm] (.bool b) ek) []) [] 2 Tryz.f93 [0,3,19,21] (kG (dI (dA 2 gz))) (jL d O x []) [([],[V.jJ ([]++[V.str x.nm]++[])=[V.str x.nm]],eu (jL d O x [(19,.bool b),(21,F x.id)]))]:=G.W
theorem aq9(d:Dc)(O:List (Eng.D×Eng.D))(x:eJ):H (M ek []) [(25,.split),(29,.split),(34,.split),(39,.split)] 2 Tryz.f93 [0,3,40,42] (kG (dI (dA 3 gz))) (jL d O x []) (D3 (decide (x.op>=(0:Int))) (decide (x.op<=(255:Int))) (decide (x.md>=(0:Int))) (decide (x.md<=(15:Int))) ([],eu (jL d O x [(40,.bool true),(42,F x.id)])) ([],eu (jL d O x [(40,.bool false),(42,F x.id)]))):=G.W
abbrev GF:Prop:=V.jJ ([]++[V.agg (List.take 1 (List.drop 30 x.cs))]++[])=[kX x.gT]
theorem ara(d:Dc)(O:List (Eng.D×Eng.D))(x:eJ)(b:Bool):H (M (fa 126 [kX x.gT] (.bool b) ek) []) [(47,.split),(49,.split),(55,.split)] 2 Tryz.f93 [0,3,57,59] (kG (dI (dA 4 gz))) (jL d O x []) [([(b,true),(x.K,true)],[GF x],eu (jL d O x [(57,.bool true),(59,F x.id)])),([(b,true),(x.K,false),((Int.ofNat x.gT.length)==(0:Int),true)],[GF x],eu (jL d O x [(57,.bool true),(59,F x.id)])),([(b,true),(x.K,false),((Int.ofNat x.gT.length)==(0:Int),false)],[GF x],eu (jL d O x [(57,.bool false),(59,F x.id)])),([(b,false)],[GF x],eu (jL d O x [(57,.bool false),(59,F x.id)]))]:=G.W
abbrev zfC:ag:=[F 0,F 0,gh,F 0,F 0,gh]
def Ji(pl:P7)(sp:Int)(kids:V)(of:Int)(f:ag)(fi:C4)(gu gp:V):ag:=[F 0,F 0,.str [],.bool false,F 0,F 0,.bool false]++(pl.cs++([F sp,kids,F of]++(f++(fi.cs++[gu,gp,.bool false,gh]))))
def Ww:ag:=Ji x.pl x.sp gh 0 zfC z4 gh (rsV x.gp)
def NY:ag:=Ji z7 0 (fF x.kids) 0 zfC z4 gh gh
def Wx:ag:=Ji z7 0 gh 0 x.f.cs z4 gh gh
def Ox:ag:=Ji x.pl 0 gh x.of zfC z4 gh gh
def Wy:ag:=Ji z7 0 gh 0 zfC x.fi (vV x.gu) gh
def pz(d:Dc)(O:List (Eng.D×Eng.D))(x:eJ)(pl:Bool)(u:ag)(r:List (Nat×V)):St:=fB ([(0,pT),(3,.ptr (some (2,0))),(4,.ptr (some (3,0))),(5,.bool pl)]++r) (hL [(0,.cells (d.cs++[.map (some 1)])),(1,.gM (some .i64) O),(2,.cells x.cs),(3,.cells u)]) 4
def vY(d:Dc)(O:List (Eng.D×Eng.D))(x:eJ)(pl:Bool)(r:List (Nat×V)):St:=fB ([(0,pT),(3,.ptr (some (2,0))),(5,.bool pl)]++r) (hL [(0,.cells (d.cs++[.map (some 1)])),(1,.gM (some .i64) O),(2,.cells x.cs)]) 3
theorem afF(d:Dc)(O:List (Eng.D×Eng.D))(x:eJ):H (M ek []) [] 2 Tryz.f93 [0,3,4,5] (dU 4 (dA 5 gz)) (jL d O (fq x 1) []) [([],[],eu (pz d O (fq x 1) true (Ww (fq x 1)) []))]:=G.W
abbrev Mk:Prop:=V.bool (x.pl.a==x.pl.a&&(x.pl.b==x.pl.b&&(x.pl.c==x.pl.c&&(x.pl.d==x.pl.d&&(x.pl.e==x.pl.e&&(x.pl.f==x.pl.f&&(x.pl.n==x.pl.n&&true)))))))=V.bool true
abbrev Ml:Prop:=V.bool ((Int.ofNat x.gp.length)==(Int.ofNat x.gp.length))=V.bool true
theorem afG(d:Dc)(O:List (Eng.D×Eng.D))(x:eJ):H (M ek []) [(111,.dG (.bool true)),(117,.dG (.bool true)),(128,.dG (.bool true)),(137,.split),(144,.split),(151,.split),(160,.split)] 2 Tryz.f93 [0,3,4,5,161,163] (kG (dI (dA 9 gz))) (pz d O (fq x 1) true (Ww (fq x 1)) []) (D3 ((Int.ofNat x.kids.length)==(0:Int)) (x.of==(0:Int)) (x.fi.r==(0:Int)&&(x.fi.g==(0:Int)&&(x.fi.b==(0:Int)&&(x.fi.a==(0:Int)&&true)))) ((Int.ofNat x.gu.length)==(0:Int)) ([Mk x,kO (x.sp==x.sp),Ml x],eu (pz d O (fq x 1) true (Ww (fq x 1)) [(161,.bool true),(163,F x.id)])) ([Mk x,kO (x.sp==x.sp),Ml x],eu (pz d O (fq x 1) true (Ww (fq x 1)) [(161,.bool false),(163,F x.id)]))):=G.W
theorem afH(d:Dc)(O:List (Eng.D×Eng.D))(x:eJ):H (M Wfb []) [(171,.split)] 2 Tryz.f93 [0,3,5,171,173] (kG (dI (dA 10 gz))) (pz d O (fq x 1) true (Ww (fq x 1)) []) (fP (mM (ic { k:=x.f.k,r:=x.f.r,eW:=eH (eG x.f.eW),dv:=x.f.dv,vl:=x.f.vl,cu:=eH (eG x.f.cu) }) (ic { k:=(0:Int),r:=(0:Int),eW:=eH [],dv:=(0:Int),vl:=(0:Int),cu:=eH [] })) ([eG x.f.eW=eG (eH (eG x.f.eW)),x.f.eW.length=(eH (eG x.f.eW)).length,x.f.eW.length<=1000000,eG x.f.cu=eG (eH (eG x.f.cu)),x.f.cu.length=(eH (eG x.f.cu)).length,x.f.cu.length<=1000000,[]=eG (eH []),0=0,0<=1000000,[]=eG (eH []),0=0,0<=1000000],eu (vY d O (fq x 1) true [(171,.bool true),(173,F x.id)])) ([eG x.f.eW=eG (eH (eG x.f.eW)),x.f.eW.length=(eH (eG x.f.eW)).length,x.f.eW.length<=1000000,eG x.f.cu=eG (eH (eG x.f.cu)),x.f.cu.length=(eH (eG x.f.cu)).length,x.f.cu.length<=1000000,[]=eG (eH []),0=0,0<=1000000,[]=eG (eH []),0=0,0<=1000000],eu (vY d O (fq x 1) true [(171,.bool false),(173,F x.id)]))):=G.W
theorem afI(d:Dc)(O:List (Eng.D×Eng.D))(x:eJ)(b:Bool):H (M (fa 127 [x.pl.v] (.bool b) ek) []) [] 2 Tryz.f93 [0,3,181,183] (kG (dI (dA 11 gz))) (vY d O (fq x 1) true []) [([],[V.jJ ([]++[V.agg (List.take 7 (List.drop 7 x.cs))]++[])=[x.pl.v]],eu (jL d O (fq x 1) [(181,.bool b),(183,F x.id)]))]:=G.W
abbrev Mm:Prop:=V.jJ ([]++[V.agg (List.take 1 (List.drop 28 x.cs))]++[])=[kX x.gp]
theorem afJ(d:Dc)(O:List (Eng.D×Eng.D))(x:eJ)(b:Bool):H (M (fa 126 [kX x.gp] (.bool b) ek) []) [(205,.split)] 2 Tryz.f93 [0,3,224,226] (kG (dA 13 gz)) (jL d O (fq x 1) []) (fP b ([Mm x],eu (jL d O (fq x 1) [(224,.bool true),(226,F x.id)])) ([Mm x],eu (jL d O (fq x 1) [(224,.bool false),(226,F x.id)]))):=G.W
theorem afK(d:Dc)(O:List (Eng.D×Eng.D))(x:eJ):H (M ek []) [] 2 Tryz.f93 [0,3,4,5] (dU 4 (dA 5 gz)) (jL d O (fq x 2) []) [([],[],eu (pz d O (fq x 2) false (NY (fq x 2)) []))]:=G.W
abbrev BN:Prop:=V.bool ((Int.ofNat x.kids.length)==(Int.ofNat x.kids.length))=V.bool true
theorem afL(d:Dc)(O:List (Eng.D×Eng.D))(x:eJ):H (M ek []) [(111,.split),(117,.split),(128,.split),(137,.dG (.bool true)),(144,.split),(151,.split),(160,.split)] 2 Tryz.f93 [0,3,4,5,161,163] (kG (dI (dA 9 gz))) (pz d O (fq x 2) false (NY (fq x 2)) []) (XS (x.pl.a==(0:Int)&&(x.pl.b==(0:Int)&&(x.pl.c==(0:Int)&&(x.pl.d==(0:Int)&&(x.pl.e==(0:Int)&&(x.pl.f==(0:Int)&&(x.pl.n==(0:Int)&&true))))))) (x.sp==(0:Int)) ((Int.ofNat x.gp.length)==(0:Int)) (x.of==(0:Int)) (x.fi.r==(0:Int)&&(x.fi.g==(0:Int)&&(x.fi.b==(0:Int)&&(x.fi.a==(0:Int)&&true)))) ((Int.ofNat x.gu.length)==(0:Int)) ([BN x],eu (pz d O (fq x 2) false (NY (fq x 2)) [(161,.bool true),(163,F x.id)])) ([BN x],eu (pz d O (fq x 2) false (NY (fq x 2)) [(161,.bool false),(163,F x.id)])) ([BN x],eu (pz d O (fq x 2) false (NY (fq x 2)) [(161,.bool false),(163,F x.id)])) ([BN x],eu (pz d O (fq x 2) false (NY (fq x 2)) [(161,.bool false),(163,F x.id)])) ([],eu (pz d O (fq x 2) false (NY (fq x 2)) [(161,.bool false),(163,F x.id)])) ([],eu (pz d O (fq x 2) false (NY (fq x 2)) [(161,.bool false),(163,F x.id)])) ([],eu (pz d O (fq x 2) false (NY (fq x 2)) [(161,.bool false),(163,F x.id)]))):=G.W
theorem afM(d:Dc)(O:List (Eng.D×Eng.D))(x:eJ):H (M Wfb []) [(171,.split)] 2 Tryz.f93 [0,3,5,171,173] (kG (dI (dA 10 gz))) (pz d O (fq x 2) false (NY (fq x 2)) []) (fP (mM (ic { k:=x.f.k,r:=x.f.r,eW:=eH (eG x.f.eW),dv:=x.f.dv,vl:=x.f.vl,cu:=eH (eG x.f.cu) }) (ic { k:=(0:Int),r:=(0:Int),eW:=eH [],dv:=(0:Int),vl:=(0:Int),cu:=eH [] })) ([eG x.f.eW=eG (eH (eG x.f.eW)),x.f.eW.length=(eH (eG x.f.eW)).length,x.f.eW.length<=1000000,eG x.f.cu=eG (eH (eG x.f.cu)),x.f.cu.length=(eH (eG x.f.cu)).length,x.f.cu.length<=1000000,[]=eG (eH []),0=0,0<=1000000,[]=eG (eH []),0=0,0<=1000000],eu (vY d O (fq x 2) false [(171,.bool true),(173,F x.id)])) ([eG x.f.eW=eG (eH (eG x.f.eW)),x.f.eW.length=(eH (eG x.f.eW)).length,x.f.eW.length<=1000000,eG x.f.cu=eG (eH (eG x.f.cu)),x.f.cu.length=(eH (eG x.f.cu)).length,x.f.cu.length<=1000000,[]=eG (eH []),0=0,0<=1000000,[]=eG (eH []),0=0,0<=1000000],eu (vY d O (fq x 2) false [(171,.bool false),(173,F x.id)]))):=G.W
theorem afN(d:Dc)(O:List (Eng.D×Eng.D))(x:eJ):H (M ek []) [] 2 Tryz.f93 [0,3,181,183] (kG (dI (dA 11 gz))) (vY d O (fq x 2) false []) [([],[],eu (jL d O (fq x 2) [(181,.bool true),(183,F x.id)]))]:=G.W
abbrev Mn:Prop:=V.jJ ([]++[V.agg (List.take 1 (List.drop 28 x.cs))]++[])=[kX x.gp]
theorem afO(d:Dc)(O:List (Eng.D×Eng.D))(x:eJ)(b:Bool):H (M (fa 126 [kX x.gp] (.bool b) ek) []) [(205,.split)] 2 Tryz.f93 [0,3,224,226] (kG (dA 13 gz)) (jL d O (fq x 2) []) (fP b ([Mn x],eu (jL d O (fq x 2) [(224,.bool true),(226,F x.id)])) ([Mn x],eu (jL d O (fq x 2) [(224,.bool false),(226,F x.id)]))):=G.W
theorem afP(d:Dc)(O:List (Eng.D×Eng.D))(x:eJ):H (M ek []) [] 2 Tryz.f93 [0,3,4,5] (dU 4 (dA 5 gz)) (jL d O (fq x 3) []) [([],[],eu (pz d O (fq x 3) false (Wx (fq x 3)) []))]:=G.W
theorem afQ(d:Dc)(O:List (Eng.D×Eng.D))(x:eJ):H (M ek []) [(111,.split),(117,.split),(128,.split),(137,.split),(144,.split),(151,.split),(160,.split)] 2 Tryz.f93 [0,3,4,5,161,163] (kG (dI (dA 9 gz))) (pz d O (fq x 3) false (Wx (fq x 3)) []) (ac2 (x.pl.a==(0:Int)&&(x.pl.b==(0:Int)&&(x.pl.c==(0:Int)&&(x.pl.d==(0:Int)&&(x.pl.e==(0:Int)&&(x.pl.f==(0:Int)&&(x.pl.n==(0:Int)&&true))))))) (x.sp==(0:Int)) ((Int.ofNat x.gp.length)==(0:Int)) ((Int.ofNat x.kids.length)==(0:Int)) (x.of==(0:Int)) (x.fi.r==(0:Int)&&(x.fi.g==(0:Int)&&(x.fi.b==(0:Int)&&(x.fi.a==(0:Int)&&true)))) ((Int.ofNat x.gu.length)==(0:Int)) ([],eu (pz d O (fq x 3) false (Wx (fq x 3)) [(161,.bool true),(163,F x.id)])) ([],eu (pz d O (fq x 3) false (Wx (fq x 3)) [(161,.bool false),(163,F x.id)]))):=G.W
theorem afR(d:Dc)(O:List (Eng.D×Eng.D))(x:eJ):H (M Wfb []) [(171,.dG (.bool true))] 2 Tryz.f93 [0,3,5,171,173] (kG (dI (dA 10 gz))) (pz d O (fq x 3) false (Wx (fq x 3)) []) [([],[eG x.f.eW=eG (eH (eG x.f.eW)),x.f.eW.length=(eH (eG x.f.eW)).length,x.f.eW.length<=1000000,eG x.f.cu=eG (eH (eG x.f.cu)),x.f.cu.length=(eH (eG x.f.cu)).length,x.f.cu.length<=1000000,eG x.f.eW=eG (eH (eG x.f.eW)),x.f.eW.length=(eH (eG x.f.eW)).length,x.f.eW.length<=1000000,eG x.f.cu=eG (eH (eG x.f.cu)),x.f.cu.length=(eH (eG x.f.cu)).length,x.f.cu.length<=1000000,kO (mM (ic { k:=x.f.k,r:=x.f.r,eW:=eH (eG x.f.eW),dv:=x.f.dv,vl:=x.f.vl,cu:=eH (eG x.f.cu) }) (ic { k:=x.f.k,r:=x.f.r,eW:=eH (eG x.f.eW),dv:=x.f.dv,vl:=x.f.vl,cu:=eH (eG x.f.cu) }))],eu (vY d O (fq x 3) false [(171,.bool true),(173,F x.id)]))]:=G.W
theorem afS(d:Dc)(O:List (Eng.D×Eng.D))(x:eJ):H (M ek []) [] 2 Tryz.f93 [0,3,181,183] (kG (dI (dA 11 gz))) (vY d O (fq x 3) false []) [([],[],eu (jL d O (fq x 3) [(181,.bool true),(183,F x.id)]))]:=G.W
abbrev BO:Prop:=V.jJ ([]++[V.agg (List.take 1 (List.drop 28 x.cs))]++[])=[kX x.gp]
abbrev Mo:Prop:=V.jJ ([]++[V.agg (List.take 6 (List.drop 17 x.cs))]++[])=[x.f.v]
theorem afT(d:Dc)(O:List (Eng.D×Eng.D))(x:eJ)(b c:Bool):H (M (fa 128 [x.f.v] (.bool c) (fa 126 [kX x.gp] (.bool b) ek)) []) [(205,.split),(215,.split)] 2 Tryz.f93 [0,3,224,226] (kG (dA 13 gz)) (jL d O (fq x 3) []) [([(b,true),(c,true)],[BO x,Mo x],eu (jL d O (fq x 3) [(224,.bool true),(226,F x.id)])),([(b,true),(c,false)],[BO x,Mo x],eu (jL d O (fq x 3) [(224,.bool false),(226,F x.id)])),([(b,false),(false,true)],[BO x],eu (jL d O (fq x 3) [(224,.bool true),(226,F x.id)])),([(b,false),(false,false)],[BO x],eu (jL d O (fq x 3) [(224,.bool false),(226,F x.id)]))]:=G.W
theorem afU(d:Dc)(O:List (Eng.D×Eng.D))(x:eJ):H (M ek []) [] 2 Tryz.f93 [0,3,4,5] (dU 4 (dA 5 gz)) (jL d O (fq x 4) []) [([],[],eu (pz d O (fq x 4) true (Ox (fq x 4)) []))]:=G.W
abbrev vL:Prop:=V.bool (x.pl.a==x.pl.a&&(x.pl.b==x.pl.b&&(x.pl.c==x.pl.c&&(x.pl.d==x.pl.d&&(x.pl.e==x.pl.e&&(x.pl.f==x.pl.f&&(x.pl.n==x.pl.n&&true)))))))=V.bool true
theorem afV(d:Dc)(O:List (Eng.D×Eng.D))(x:eJ):H (M ek []) [(111,.dG (.bool true)),(117,.split),(128,.split),(137,.split),(144,.dG (.bool true)),(151,.split),(160,.split)] 2 Tryz.f93 [0,3,4,5,161,163] (kG (dI (dA 9 gz))) (pz d O (fq x 4) true (Ox (fq x 4)) []) (XR (x.sp==(0:Int)) ((Int.ofNat x.gp.length)==(0:Int)) ((Int.ofNat x.kids.length)==(0:Int)) (x.fi.r==(0:Int)&&(x.fi.g==(0:Int)&&(x.fi.b==(0:Int)&&(x.fi.a==(0:Int)&&true)))) ((Int.ofNat x.gu.length)==(0:Int)) ([vL x,kO (x.of==x.of)],eu (pz d O (fq x 4) true (Ox (fq x 4)) [(161,.bool true),(163,F x.id)])) ([vL x,kO (x.of==x.of)],eu (pz d O (fq x 4) true (Ox (fq x 4)) [(161,.bool false),(163,F x.id)])) ([vL x,kO (x.of==x.of)],eu (pz d O (fq x 4) true (Ox (fq x 4)) [(161,.bool false),(163,F x.id)])) ([vL x],eu (pz d O (fq x 4) true (Ox (fq x 4)) [(161,.bool false),(163,F x.id)])) ([vL x],eu (pz d O (fq x 4) true (Ox (fq x 4)) [(161,.bool false),(163,F x.id)])) ([vL x],eu (pz d O (fq x 4) true (Ox (fq x 4)) [(161,.bool false),(163,F x.id)]))):=G.W
theorem afW(d:Dc)(O:List (Eng.D×Eng.D))(x:eJ):H (M Wfb []) [(171,.split)] 2 Tryz.f93 [0,3,5,171,173] (kG (dI (dA 10 gz))) (pz d O (fq x 4) true (Ox (fq x 4)) []) (fP (mM (ic { k:=x.f.k,r:=x.f.r,eW:=eH (eG x.f.eW),dv:=x.f.dv,vl:=x.f.vl,cu:=eH (eG x.f.cu) }) (ic { k:=(0:Int),r:=(0:Int),eW:=eH [],dv:=(0:Int),vl:=(0:Int),cu:=eH [] })) ([eG x.f.eW=eG (eH (eG x.f.eW)),x.f.eW.length=(eH (eG x.f.eW)).length,x.f.eW.length<=1000000,eG x.f.cu=eG (eH (eG x.f.cu)),x.f.cu.length=(eH (eG x.f.cu)).length,x.f.cu.length<=1000000,[]=eG (eH []),0=0,0<=1000000,[]=eG (eH []),0=0,0<=1000000],eu (vY d O (fq x 4) true [(171,.bool true),(173,F x.id)])) ([eG x.f.eW=eG (eH (eG x.f.eW)),x.f.eW.length=(eH (eG x.f.eW)).length,x.f.eW.length<=1000000,eG x.f.cu=eG (eH (eG x.f.cu)),x.f.cu.length=(eH (eG x.f.cu)).length,x.f.cu.length<=1000000,[]=eG (eH []),0=0,0<=1000000,[]=eG (eH []),0=0,0<=1000000],eu (vY d O (fq x 4) true [(171,.bool false),(173,F x.id)]))):=G.W
theorem afX(d:Dc)(O:List (Eng.D×Eng.D))(x:eJ)(b:Bool):H (M (fa 127 [x.pl.v] (.bool b) ek) []) [] 2 Tryz.f93 [0,3,181,183] (kG (dI (dA 11 gz))) (vY d O (fq x 4) true []) [([],[V.jJ ([]++[V.agg (List.take 7 (List.drop 7 x.cs))]++[])=[x.pl.v]],eu (jL d O (fq x 4) [(181,.bool b),(183,F x.id)]))]:=G.W
abbrev Mp:Prop:=V.jJ ([]++[V.agg (List.take 1 (List.drop 28 x.cs))]++[])=[kX x.gp]
theorem afY(d:Dc)(O:List (Eng.D×Eng.D))(x:eJ)(b:Bool):H (M (fa 126 [kX x.gp] (.bool b) ek) []) [(205,.split)] 2 Tryz.f93 [0,3,224,226] (kG (dA 13 gz)) (jL d O (fq x 4) []) (fP b ([Mp x],eu (jL d O (fq x 4) [(224,.bool true),(226,F x.id)])) ([Mp x],eu (jL d O (fq x 4) [(224,.bool false),(226,F x.id)]))):=G.W
theorem afZ(d:Dc)(O:List (Eng.D×Eng.D))(x:eJ):H (M ek []) [] 2 Tryz.f93 [0,3,4,5] (dU 4 (dA 5 gz)) (jL d O (fq x 5) []) [([],[],eu (pz d O (fq x 5) false (Wy (fq x 5)) []))]:=G.W
theorem af0(d:Dc)(O:List (Eng.D×Eng.D))(x:eJ):H (M ek []) [(111,.split),(117,.split),(128,.split),(137,.split),(144,.split),(151,.dG (.bool true)),(160,.dG (.bool true))] 2 Tryz.f93 [0,3,4,5,161,163] (kG (dI (dA 9 gz))) (pz d O (fq x 5) false (Wy (fq x 5)) []) (TH (x.pl.a==(0:Int)&&(x.pl.b==(0:Int)&&(x.pl.c==(0:Int)&&(x.pl.d==(0:Int)&&(x.pl.e==(0:Int)&&(x.pl.f==(0:Int)&&(x.pl.n==(0:Int)&&true))))))) (x.sp==(0:Int)) ((Int.ofNat x.gp.length)==(0:Int)) ((Int.ofNat x.kids.length)==(0:Int)) (x.of==(0:Int)) ([kO (x.fi.r==x.fi.r&&(x.fi.g==x.fi.g&&(x.fi.b==x.fi.b&&(x.fi.a==x.fi.a&&true)))),kO ((Int.ofNat x.gu.length)==(Int.ofNat x.gu.length))],eu (pz d O (fq x 5) false (Wy (fq x 5)) [(161,.bool true),(163,F x.id)])) ([],eu (pz d O (fq x 5) false (Wy (fq x 5)) [(161,.bool false),(163,F x.id)]))):=G.W
theorem af1(d:Dc)(O:List (Eng.D×Eng.D))(x:eJ):H (M Wfb []) [(171,.split)] 2 Tryz.f93 [0,3,5,171,173] (kG (dI (dA 10 gz))) (pz d O (fq x 5) false (Wy (fq x 5)) []) (fP (mM (ic { k:=x.f.k,r:=x.f.r,eW:=eH (eG x.f.eW),dv:=x.f.dv,vl:=x.f.vl,cu:=eH (eG x.f.cu) }) (ic { k:=(0:Int),r:=(0:Int),eW:=eH [],dv:=(0:Int),vl:=(0:Int),cu:=eH [] })) ([eG x.f.eW=eG (eH (eG x.f.eW)),x.f.eW.length=(eH (eG x.f.eW)).length,x.f.eW.length<=1000000,eG x.f.cu=eG (eH (eG x.f.cu)),x.f.cu.length=(eH (eG x.f.cu)).length,x.f.cu.length<=1000000,[]=eG (eH []),0=0,0<=1000000,[]=eG (eH []),0=0,0<=1000000],eu (vY d O (fq x 5) false [(171,.bool true),(173,F x.id)])) ([eG x.f.eW=eG (eH (eG x.f.eW)),x.f.eW.length=(eH (eG x.f.eW)).length,x.f.eW.length<=1000000,eG x.f.cu=eG (eH (eG x.f.cu)),x.f.cu.length=(eH (eG x.f.cu)).length,x.f.cu.length<=1000000,[]=eG (eH []),0=0,0<=1000000,[]=eG (eH []),0=0,0<=1000000],eu (vY d O (fq x 5) false [(171,.bool false),(173,F x.id)]))):=G.W
theorem af2(d:Dc)(O:List (Eng.D×Eng.D))(x:eJ):H (M ek []) [] 2 Tryz.f93 [0,3,181,183] (kG (dI (dA 11 gz))) (vY d O (fq x 5) false []) [([],[],eu (jL d O (fq x 5) [(181,.bool true),(183,F x.id)]))]:=G.W
abbrev Mq:Prop:=V.jJ ([]++[V.agg (List.take 1 (List.drop 28 x.cs))]++[])=[kX x.gp]
theorem af3(d:Dc)(O:List (Eng.D×Eng.D))(x:eJ)(b c:Bool):H (M (fa 129 [vV x.gu] (.bool c) (fa 126 [kX x.gp] (.bool b) ek)) []) [(205,.split)] 2 Tryz.f93 [0,3,224,226] (kG (dA 13 gz)) (jL d O (fq x 5) []) (fP b ([Mq x,V.jJ ([]++[vV x.gu]++[])=[vV x.gu]],eu (jL d O (fq x 5) [(224,.bool c),(226,F x.id)])) ([Mq x],eu (jL d O (fq x 5) [(224,.bool false),(226,F x.id)]))):=G.W
theorem arb(d:Dc)(O:List (Eng.D×Eng.D))(x:eJ):H (M ek []) [(187,.split),(197,.split)] 2 Tryz.f93 [0,3,198,200] (kG (dI (dA 12 gz))) (jL d O x []) (CW (decide (x.sp>=(0:Int))) (decide (x.sp<=(Int.ofNat d.sp.length))) ([],eu (jL d O x [(198,.bool true),(200,F x.id)])) ([],eu (jL d O x [(198,.bool false),(200,F x.id)]))):=G.W
end
end Go.Proofs.YtmjggdmekboefaaGreat
