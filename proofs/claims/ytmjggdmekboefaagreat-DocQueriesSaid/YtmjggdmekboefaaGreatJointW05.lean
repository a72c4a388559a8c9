/- The Doc laws: the program is one that the engine runs. No conditions. -/
import Derived.Test.YtmjggdmekboefaaGreatProg
import Derived.Test.YtmjggdmekboefaaGreatJointW04
import Derived.Shelf.Strings.Builder1
set_option linter.unusedVariables false
set_option linter.unusedSimpArgs false
set_option linter.unusedSectionVars false
namespace Go.Proofs.YtmjggdmekboefaaGreat
open Go Go.Eng
noncomputable abbrev ak:=Tryz.prog
theorem po:kn ak=true:=by kernel_rfl
theorem mo:Tryz.prog.follows .mixedOrders=true:=by kernel_rfl
noncomputable def dQ(f:Func):Code:=match f.body with|some c=>c|none=>.skip
def Qx(l:List (Nat×List (Nat×mH)))(f:FuncId):List (Nat×mH):=match l with
 | []=>[]
 |x::r=>match Nat.beq x.1 f with
  |true=>x.2
  |false=>Qx r f
noncomputable abbrev M(ks:gG)(l:List (Nat×List (Nat×mH))):mw:=E7 ak ks (Qx l) 1000 40
noncomputable abbrev XH{ks:gG}(h:fo ak ks)(l:List (Nat×List (Nat×mH))):CX ak:=CX.of mo po h (Qx l) 1000 40
theorem gD:∀n:Nat,Int.ofNat n=(n:Int):=fun _=>rfl
abbrev J(n:Nat):V:=.int .i64 (Int.ofNat n)
abbrev R(n:Int):V:=.int .i64 n
section
variable{N n0:Nat}{c:Code}{s:St}{Q:Exit->St->Prop}{ks:gG}{hh:List (Nat×List (Nat×mH))}{dG:List (Nat×mH)}{fn:Func}{live:List Nat}{dD:List (List (Bool×Bool)×ah×ko)}
abbrev H(cs:mw)(dG:List (Nat×mH))(N:Nat)(fn:Func)(live:List Nat)(c:Code)(s:St)(dD:List (List (Bool×Bool)×ah×ko)):Prop:=∃hm,G ak cs dG 1000 N fn live c s hm dD
abbrev Ep:=ah×ko
abbrev Fh:=List (Bool×Bool)×Ep
abbrev eC(s:St):ko:=.to .normal s
abbrev ji:ko:=.ret (.bool false) (hL []) 0
abbrev B0:ko:=.ret (.bool true) (hL []) 0
abbrev fT(a b:Nat):Prop:=(0:Int)<=Int.ofNat a/\Int.ofNat a<Int.ofNat b
abbrev oq(i:Nat):Prop:=V.int B (IntKind.i64.wrap (Int.ofNat i+(1:Int)))=J (i+1)
abbrev gv(hm:ai)(i w:Nat)(c:ai):Prop:=V.eo (dU hm (i*w) w)=V.eo c
abbrev kP(b:Bool):Prop:=V.bool b=V.bool false
abbrev kr(b:Bool):Prop:=V.bool b=V.bool true
abbrev fV(a:Bool)(p q:Ep):List Fh:=[([(a,true)],p),([(a,false)],q)]
abbrev sI(a b:Bool)(p q r:Ep):List Fh:=[([(a,true),(b,true)],p),([(a,true),(b,false)],q),([(a,false)],r)]
abbrev N4(a b c:Bool)(p q r s:Ep):List Fh:=[([(a,true),(b,true),(c,true)],p),([(a,true),(b,true),(c,false)],q),([(a,true),(b,false)],r),([(a,false)],s)]
abbrev YB(a b c d:Bool)(p q r s t:Ep):List Fh:=[([(a,true),(b,true),(c,true),(d,true)],p),([(a,true),(b,true),(c,true),(d,false)],q),([(a,true),(b,true),(c,false)],r),([(a,true),(b,false)],s),([(a,false)],t)]
abbrev YC(a b c d e:Bool)(p q r s t u:Ep):List Fh:=[([(a,true),(b,true),(c,true),(d,true),(e,true)],p),([(a,true),(b,true),(c,true),(d,true),(e,false)],q),([(a,true),(b,true),(c,true),(d,false)],r),([(a,true),(b,true),(c,false)],s),([(a,true),(b,false)],t),([(a,false)],u)]
abbrev YD(a b c d e f:Bool)(p q r s t u v:Ep):List Fh:=[([(a,true),(b,true),(c,true),(d,true),(e,true),(f,true)],p),([(a,true),(b,true),(c,true),(d,true),(e,true),(f,false)],q),([(a,true),(b,true),(c,true),(d,true),(e,false)],r),([(a,true),(b,true),(c,true),(d,false)],s),([(a,true),(b,true),(c,false)],t),([(a,true),(b,false)],u),([(a,false)],v)]
abbrev aks(a b c d e f g:Bool)(p q r s t u v w:Ep):List Fh:=[([(a,true),(b,true),(c,true),(d,true),(e,true),(f,true),(g,true)],p),([(a,true),(b,true),(c,true),(d,true),(e,true),(f,true),(g,false)],q),([(a,true),(b,true),(c,true),(d,true),(e,true),(f,false)],r),([(a,true),(b,true),(c,true),(d,true),(e,false)],s),([(a,true),(b,true),(c,true),(d,false)],t),([(a,true),(b,true),(c,false)],u),([(a,true),(b,false)],v),([(a,false)],w)]
abbrev Ur(a b:Bool)(p q r:Ep):List Fh:=[([(a,true)],p),([(a,false),(b,true)],q),([(a,false),(b,false)],r)]
abbrev YE(a b c:Bool)(p q r s:Ep):List Fh:=[([(a,true)],p),([(a,false),(b,true)],q),([(a,false),(b,false),(c,true)],r),([(a,false),(b,false),(c,false)],s)]
abbrev akt(a b c d:Bool)(p q r s t:Ep):List Fh:=[([(a,true)],p),([(a,false),(b,true)],q),([(a,false),(b,false),(c,true)],r),([(a,false),(b,false),(c,false),(d,true)],s),([(a,false),(b,false),(c,false),(d,false)],t)]
abbrev aku(a b c d e f:Bool)(p q r s t u v:Ep):List Fh:=[([(a,true)],p),([(a,false),(b,true)],q),([(a,false),(b,false),(c,true)],r),([(a,false),(b,false),(c,false),(d,true)],s),([(a,false),(b,false),(c,false),(d,false),(e,true)],t),([(a,false),(b,false),(c,false),(d,false),(e,false),(f,true)],u),([(a,false),(b,false),(c,false),(d,false),(e,false),(f,false)],v)]
abbrev BJ(a b:Bool)(p q:Ep):List Fh:=sI a b p q q
abbrev Qy(a b c:Bool)(p q:Ep):List Fh:=N4 a b c p q q q
abbrev Er(a b c d:Bool)(p q:Ep):List Fh:=YB a b c d p q q q q
abbrev Us(a b c d e:Bool)(p q:Ep):List Fh:=YC a b c d e p q q q q q
abbrev adO(a b c d e f g:Bool)(p q:Ep):List Fh:=aks a b c d e f g p q q q q q q q
abbrev Ut(a b:Bool)(p q:Ep):List Fh:=Ur a b p p q
abbrev akv(a b c:Bool)(p q:Ep):List Fh:=YE a b c p p p q
abbrev adP(a b c d:Bool)(p q:Ep):List Fh:=akt a b c d p p p p q
abbrev akw(a b c d e f:Bool)(p q:Ep):List Fh:=aku a b c d e f p p p p p p q
theorem G.Y{P:Program}{cs:mw}{dG:List (Nat×mH)}{fr N:Nat}{fn:Func}{live:List Nat}{c:Code}{s:St}{dD:List (List (Bool×Bool)×ah×ko)}(h1:Bj P cs dG fr c s=true:=by kernel_rfl)(C:wq P cs dG fr c s=yI P cs dG fr c s:=by kernel_rfl)(h3:BI P cs dG fr N fn live c s=dD:=by kernel_rfl):∃hm,G P cs dG fr N fn live c s hm dD:=G.of h1 C h3
theorem gw(fm:fo ak ks)(iX:V->I es->Nat->Prop)(hr:H (M ks hh) dG N fn live c s dD)(h:∀g∈dD,(∀b∈g.1,b.1=b.2)->(∀a∈g.2.1,a)/\g.2.2.post ak N fn live iX Q)(A:fe n0 c=true:=by kernel_rfl):TG ak N n0 c s Q:=
 hr.elim fun _ hr=>WK (XH fm hh) mo iX A hr h
theorem fN(k:Nat)(fm:fo ak ks){hc:ah}{s1:St}(hr:H (M ks hh) dG N fn live (ek k c) s [([],hc,.to .normal s1)])(hA:∀a∈hc,a)(h:TG ak N n0 (dH k c) s1 Q)(A:fe n0 c=true:=by kernel_rfl):TG ak N n0 c s Q:=
 hr.elim fun _ hr=>Ud k (XH fm hh) mo A hr hA h
theorem uB(k:Nat)(fm:fo ak ks)(hr:H (M ks hh) dG N fn live (ek k c) s dD)(h:∀g∈dD,(∀b∈g.1,b.1=b.2)->(∀a∈g.2.1,a)/\∃s1,g.2.2= .to .normal s1/\TG ak N n0 (dH k c) s1 Q)(A:fe n0 c=true:=by kernel_rfl):TG ak N n0 c s Q:=
 hr.elim fun _ hr=>Qe k (XH fm hh) mo A hr h
def HdF(P:Program)(N n0:Nat)(fn:Func)(iX:V->I es->Nat->Prop)(rest:Code):ko->Prop
 | .to .normal s=>TG P N n0 rest s (gi P N fn iX)
 | .ret v h n=>iX v h n
 |_=>False
theorem Ao{P:Program}{cf:gu}{fr:Nat}:∀(k:Nat) (c:Code) (s:St) (x:fm) (s1:St),gY P cf fr (ek k c) s=some (x,s1)->x≠ .normal->gY P cf fr c s=some (x,s1):=by
 intro k;have skip:∀{s:St} {x:fm} {s1:St} {r:Prop},gY P cf fr .skip s=some (x,s1)->x≠ .normal->r:=by
  intro s x s1 r e K;simp only[gY,aq,aB]at e;exact absurd e.1.symm K
 induction k with
 |zero=>intro c s x s1 e K;cases c<;>exact skip e K
 |succ k ih=>
  intro c s x s1 e K;cases c<;>first|exact skip e K|skip
  rename_i a b;simp only[ek,gY]at e ⊢;cases h1:gY P cf fr a s with
  |none=>rw[h1]at e;cases e
  |some p=>
   rw[h1]at e;obtain⟨y,T⟩:=p;cases y with
   |normal=>exact ih b T x s1 e K
   |_=>exact e
theorem isH(k:Nat){iX:V->I es->Nat->Prop}(fm:fo ak ks)(hr:H (M ks hh) dG N fn live (ek k c) s dD)(h:∀g∈dD,(∀b∈g.1,b.1=b.2)->(∀a∈g.2.1,a)/\HdF ak N n0 fn iX (dH k c) g.2.2)(A:fe n0 c=true:=by kernel_rfl):TG ak N n0 c s (gi ak N fn iX):=by
 obtain⟨hm,hr⟩:=hr;obtain⟨e1,e2,e3⟩:=hr.parts;obtain⟨l,hl⟩:=bR.1 e1;unfold wq yI at e2;unfold BI at e3;rw[hl]at e2 e3;simp only[wO]at e2 e3;obtain⟨⟨p,hp,ho⟩,C⟩:=kI ak (XH fm hh).cs (XH fm hh).cf dG (XH fm hh).snd 1000 (ek k c) s l hl;obtain⟨hA,hT⟩:=h (p.1.conds,p.1.P2,qB ak N fn live p.2) (e3▸oo hp) ho;have gF:=C p hp ho ⟨tG l e2 p hp,hA⟩;obtain⟨pp,x,T⟩:=p;simp only[qB]at hT;cases x with
 |normal=>
  simp only at hT;split at hT
  . rename_i s2 rP;exact yJ (fr:=1000) (XH fm hh).ok mo k A gF (gj rP hT)
  . exact hT.elim
 |ret=>
  simp only at hT;split at hT
  . rename_i v h' n' Kg;exact qU (fr:=1000) (XH fm hh).ok mo A (Ao k c s _ T gF (by intro q;cases q)) rfl ⟨.inr rfl,v,h',n',Kg,hT⟩
  . exact hT.elim
 |exit i=>
  simp only at hT;split at hT<;>exact hT.elim
 |panic _=>exact hT.elim
theorem eR{iX:V->I es->Nat->Prop}(fm:fo ak ks)(hr:H (M ks hh) dG N fn live c s dD)(h:∀g∈dD,(∀b∈g.1,b.1=b.2)->(∀a∈g.2.1,a)/\∃v h n,g.2.2= .ret v h n/\iX v h n)(A:fe n0 c=true:=by kernel_rfl):TG ak N n0 c s (gi ak N fn iX):=
 hr.elim fun _ hr=>Yl (XH fm hh) mo iX A hr h
end
theorem all_nil:∀a∈([]:ah),a:=fun _ h=>absurd h aH
section
variable{i:Nat}{x:Int}{n:Nat}
theorem jc{Q:Exit->St->Prop}{s:St}:gT i Q (.exit i) s=Q .normal s:=by simp[gT]
theorem iz(h1:-9000000000000000000<=x)(C:x<=9000000000000000000):IntKind.i64.wrap x=x:=by
 unfold IntKind.wrap;have e1:(2^IntKind.i64.bits:Int)=18446744073709551616:=by decide
 have e2:(2^(IntKind.i64.bits-1):Int)=9223372036854775808:=by decide
 have e3:IntKind.i64.signed=true:=rfl;simp only[e1,e2,e3,aP,aU];split<;>omega
abbrev ieq(x:Int)(n:Nat):Prop:=V.int .i64 (IntKind.i64.wrap x)=V.int .i64 (Int.ofNat n)
theorem xD(h:x=(n:Int))(U:n<1000000000000):ieq x n:=by
 unfold ieq;rw[iz S S,h];rfl
theorem gV(h:i<100000000000):ieq (Int.ofNat i+1) (i+1):=xD rfl S
theorem kA(h:decide (Int.ofNat i<Int.ofNat n)=true):i<n:=cE.1 (aZ h)
theorem rG(h:decide (Int.ofNat i<Int.ofNat n)=false):n<=i:=by have:=bt h;simp only[gD]at this;omega
theorem iI(h:i<n):(0:Int)<=Int.ofNat i/\Int.ofNat i<Int.ofNat n:=⟨bJ _,cE.2 h⟩
end
abbrev fG(a:ag):Prop:=a=a
section
abbrev GP:=List (Bool×Bool)×ah×ko
variable{P:GP->Prop}{p:GP}{l:List GP}{q:Prop}{a b c d e f:Bool}
theorem ij:∀g∈([]:List GP),(∀b∈g.1,b.1=b.2)->P g:=fun _ h=>absurd h aH
theorem dN(h:(∀b∈p.1,b.1=b.2)->P p)(t:∀g∈l,(∀b∈g.1,b.1=b.2)->P g):∀g∈p::l,(∀b∈g.1,b.1=b.2)->P g:=List.forall_mem_cons.2 ⟨h,t⟩
theorem dK(h:(∀b∈p.1,b.1=b.2)->P p):∀g∈[p],(∀b∈g.1,b.1=b.2)->P g:=dN h ij
theorem g0(h:q):(∀b∈([]:List (Bool×Bool)),b.1=b.2)->q:=fun _=>h
theorem gc{l:List (Bool×Bool)}(h:a=b->(∀z∈l,z.1=z.2)->q):(∀z∈(a,b)::l,z.1=z.2)->q:=fun t=>h (t _ (bB ..)) fun z hz=>t z (bh _ hz)
theorem g1(h:a=b->q):(∀z∈[(a,b)],z.1=z.2)->q:=fun t=>h (t _ (aI.2 rfl))
theorem g2(h:a=b->c=d->q):(∀z∈[(a,b),(c,d)],z.1=z.2)->q:=fun t=>h (t _ (bB ..)) (t (c,d) (by simp))
theorem g3(h:a=b->c=d->e=f->q):(∀z∈[(a,b),(c,d),(e,f)],z.1=z.2)->q:=fun t=>h (t _ (bB ..)) (t (c,d) (by simp)) (t (e,f) (by simp))
end
section
variable{P:Program}{N n0:Nat}{c:Code}{s:St}{Q:Exit->St->Prop}{fn:Func}{α:Type}
def LpQ(P:Program)(N n0:Nat)(fn:Func)(live:List Nat)(iX:V->I es->Nat->Prop)(b:Nat)(Q:Exit->St->Prop)(μ:α->Nat)(Tr:α->Prop)(dF:α->St)(x:α):ko->Prop
 | .to .normal s=>∃x',μ x'<μ x/\Tr x'/\eJ P N n0 s (dF x')
 | .to (.exit j) s=>∀T,lB N live T=some s->gT b Q (.exit j) T
 | .to y s=>∀T,lB N live T=some s->Q y T
 | .ret v h n=>iX v h n/\∀T,gi P N fn iX .ret T->Q .ret T
 | .bad=>False
theorem Fi(b:Nat)(iX:V->I es->Nat->Prop)(live:List Nat)(μ:α->Nat)(Tr:α->Prop)(dF:α->St)(x0:α)(i0:Tr x0)(h0:eJ ak N n0 s (dF x0))
  (U:∀x,Tr x->∃(ks:gG) (_:fo ak ks) (hh:_) (dG:_) (dD:_),H (M ks hh) dG N fn live (dP (dP c)) (dF x) dD/\∀g∈dD,(∀b∈g.1,b.1=b.2)->(∀a∈g.2.1,a)/\LpQ ak N n0 fn live iX b Q μ Tr dF x g.2.2)
  (hs:(nC c b&&(o4 (dP c)&&fe n0 (dP (dP c))))=true:=by kernel_rfl):TG ak N n0 c s Q:=by
 simp only[ay]at hs;refine Fg b μ Tr dF hs.1 hs.2.1 x0 i0 h0 fun x K=>?_;obtain⟨ks,fm,hh,dG,dD,hr,hg⟩:=U x K;refine gw fm iX hr (fun g Uu hcd=>?_) hs.2.2;obtain⟨hA,hp⟩:=hg g Uu hcd;refine⟨hA,?_⟩;obtain⟨_,_,r⟩:=g;simp only at hp ⊢;cases r with
 |to y s1=>
  cases y with
  |normal=>
   obtain⟨x',h1,C,h3⟩:=hp;exact fun T eu=>⟨x',h1,C,(eJ.norm eu).trans h3⟩
  |exit j=>exact hp
  |_=>exact hp
 |ret v h n=>exact hp
 |bad=>exact hp.elim
def LpF(P:Program)(N n0:Nat)(fn:Func)(iX:V->I es->Nat->Prop)(b:Nat)(rest:Code)(μ:α->Nat)(Tr:α->Prop)(dF:α->St)(x:α):ko->Prop
 | .to .normal s=>∃x',μ x'<μ x/\Tr x'/\eJ P N n0 s (dF x')
 | .to (.exit j) s=>j=b/\TG P N n0 rest s (gi P N fn iX)
 | .ret v h n=>iX v h n
 |_=>False
theorem WQ(b:Nat)(iX:V->I es->Nat->Prop)(live:List Nat)(μ:α->Nat)(Tr:α->Prop)(dF:α->St)(x0:α)(i0:Tr x0)(h0:eJ ak N n0 s (dF x0))
  (U:∀x,Tr x->∃(ks:gG) (_:fo ak ks) (hh:_) (dG:_) (dD:_),H (M ks hh) dG N fn live (dP (dP (dO c))) (dF x) dD/\∀g∈dD,(∀b∈g.1,b.1=b.2)->(∀a∈g.2.1,a)/\LpF ak N n0 fn iX b (eB c) μ Tr dF x g.2.2)
  (hs:(sB c&&(nC (dO c) b&&(o4 (dP (dO c))&&fe n0 (dP (dP (dO c))))))=true:=by kernel_rfl):TG ak N n0 c s (gi ak N fn iX):=by
 simp only[ay]at hs;refine dY hs.1 (Fi (fn:=fn) b iX live μ Tr dF x0 i0 h0 (fun x K=>?_) (by simp only[ay];exact hs.2));obtain⟨ks,fm,hh,dG,dD,hr,hg⟩:=U x K;refine⟨ks,fm,hh,dG,dD,hr,fun g Uu hcd=>?_⟩;obtain⟨hA,hp⟩:=hg g Uu hcd;refine⟨hA,?_⟩;obtain⟨_,_,r⟩:=g;simp only at hp ⊢;cases r with
 |to y s1=>
  cases y with
  |normal=>exact hp
  |exit j=>
   obtain⟨rfl,h⟩:=hp;exact fun T eu=>by rw[jc];exact gj eu h
  |_=>exact hp.elim
 |ret v h n=>exact⟨hp,fun T h=>h⟩
 |bad=>exact hp.elim
theorem nO{ks:gG}(fm:fo ak ks)(b:Nat)(iX:V->I es->Nat->Prop)(live:List Nat)(μ:α->Nat)(Tr:α->Prop)(dF:α->St)(x0:α)(i0:Tr x0)
  {h0h:List (Nat×List (Nat×mH))} {H0:List (Nat×mH)} {hc:ah} {s0:St} (WR:H (M ks h0h) H0 N fn live (dO (dO c)) s [([],hc,.to .normal s0)]) (hA:∀a∈hc,a) (h0:eJ ak N n0 s0 (dF x0))
  (U:∀x,Tr x->∃(ks:gG) (_:fo ak ks) (hh:_) (dG:_) (dD:_),H (M ks hh) dG N fn live (dP (dP (eB (dO c)))) (dF x) dD/\∀g∈dD,(∀b∈g.1,b.1=b.2)->(∀a∈g.2.1,a)/\LpF ak N n0 fn iX b (eB c) μ Tr dF x g.2.2)
  (hs:((sB c&&sB (dO c))&&(fe n0 (dO (dO c))&&(nC (eB (dO c)) b&&(o4 (dP (eB (dO c)))&&fe n0 (dP (dP (eB (dO c))))))))=true:=by kernel_rfl):TG ak N n0 c s (gi ak N fn iX):=by
 simp only[ay]at hs;refine dY hs.1.1 (dY hs.1.2 (gw fm eP WR (dK (g0 ⟨hA,fun T eu=>?_⟩)) hs.2.1));simp only[andThen];refine Fi (fn:=fn) b iX live μ Tr dF x0 i0 ((eJ.norm eu).trans h0) (fun x K=>?_) (by simp only[ay];exact hs.2.2);obtain⟨ks,fm,hh,dG,dD,hr,hg⟩:=U x K;refine⟨ks,fm,hh,dG,dD,hr,fun g Uu hcd=>?_⟩;obtain⟨hA,hp⟩:=hg g Uu hcd;refine⟨hA,?_⟩;obtain⟨_,_,r⟩:=g;simp only at hp ⊢;cases r with
 |to y s1=>
  cases y with
  |normal=>exact hp
  |exit j=>
   obtain⟨rfl,h⟩:=hp;exact fun T eu=>by rw[jc];exact gj eu h
  |_=>exact hp.elim
 |ret v h n=>exact⟨hp,fun T h=>h⟩
 |bad=>exact hp.elim
end
noncomputable abbrev adT:Code:=dQ Tryz.f61
noncomputable abbrev YF:Code:=dQ Tryz.f59
section
variable(x u:Int)(W:List Int)
noncomputable abbrev Uv:Code:=dH 3 YF
def sV0:St:=fI [(3,.fk none 0 0 0),(4,.int .u64 u)] (hL []) 0
def sV1(u:Int):St:=fI [(3,.fk (some (0,0)) W.length W.length 1),(4,.int .u64 u)] (hL [(0,.own .u8 W)]) 1
theorem aky:H (M ew []) [] 0 Tryz.f61 [] (adT) (dI [.int .i64 x,.int .i64 1] .nil 0) [([],[(0:Int)<=(0:Int)/\(0:Int)<(8:Int),(0:Int)<=(1:Int)/\(1:Int)<(8:Int),(0:Int)<=(2:Int)/\(2:Int)<(8:Int),(0:Int)<=(3:Int)/\(3:Int)<(8:Int),(0:Int)<=(4:Int)/\(4:Int)<(8:Int),(0:Int)<=(5:Int)/\(5:Int)<(8:Int),(0:Int)<=(6:Int)/\(6:Int)<(8:Int),(0:Int)<=(7:Int)/\(7:Int)<(8:Int)],.ret (.str ([UInt8.ofNat (IntKind.u8.wrap ((IntKind.u64.wrap x).fdiv (1:Int))).toNat])) (hL []) 0)]:=G.Y
theorem akz:H (M ew []) [] 0 Tryz.f61 [] (adT) (dI [.int .i64 x,.int .i64 4] .nil 0) [([],[(0:Int)<=(0:Int)/\(0:Int)<(8:Int),(0:Int)<=(1:Int)/\(1:Int)<(8:Int),(0:Int)<=(2:Int)/\(2:Int)<(8:Int),(0:Int)<=(3:Int)/\(3:Int)<(8:Int),(0:Int)<=(4:Int)/\(4:Int)<(8:Int),(0:Int)<=(5:Int)/\(5:Int)<(8:Int),(0:Int)<=(6:Int)/\(6:Int)<(8:Int),(0:Int)<=(7:Int)/\(7:Int)<(8:Int)],.ret (.str ([UInt8.ofNat (IntKind.u8.wrap ((IntKind.u64.wrap x).fdiv (16777216:Int))).toNat,UInt8.ofNat (IntKind.u8.wrap ((IntKind.u64.wrap x).fdiv (65536:Int))).toNat,UInt8.ofNat (IntKind.u8.wrap ((IntKind.u64.wrap x).fdiv (256:Int))).toNat,UInt8.ofNat (IntKind.u8.wrap ((IntKind.u64.wrap x).fdiv (1:Int))).toNat])) (hL []) 0)]:=G.Y
theorem akA(n:Int):H (M ew []) [] 0 Tryz.f59 [3,4] (ek 3 YF) (dI [.int .i64 n] .nil 0) [([],[],eC (sV0 (IntKind.u64.wrap n)))]:=G.Y
theorem akB:H (M ew []) [(8,.split)] 0 Tryz.f59 [3,4] (dP (dP (dO Uv))) (sV0 u) (fV (decide (u>=(128:Int))) ([],eC (fI [(3,.fk (some (0,0)) 1 1 1),(4,.int .u64 (u.fdiv (128:Int)))] (hL [(0,.cells [.int .u8 (IntKind.u8.wrap (Int.ofNat (BitVec.ofInt 8 (IntKind.u8.wrap u)|||BitVec.ofInt 8 (128:Int)).toNat))])]) 1)) ([],.to (.exit 0) (fI [(3,.fk none 0 0 0),(4,.int .u64 u)] (hL []) 0))):=G.Y
theorem akC:H (M ew []) [(8,.split)] 0 Tryz.f59 [3,4] (dP (dP (dO Uv))) (sV1 W u) (fV (decide (u>=(128:Int))) ([0<W.length,0+W.length*1<=W.length,0<1,fM (W.length+1) 1 1=true],eC (fI [(3,.fk (some (0,0)) (W.length+1) (W.length+1) 1),(4,.int .u64 (u.fdiv (128:Int)))] (hL [(0,.own .u8 (List.take (W.length*1) (List.drop 0 W)++[IntKind.u8.wrap (Int.ofNat (BitVec.ofInt 8 (IntKind.u8.wrap u)|||BitVec.ofInt 8 (128:Int)).toNat)]))]) 1)) ([],.to (.exit 0) (fI [(3,.fk (some (0,0)) (W.length) (W.length) 1),(4,.int .u64 u)] (hL [(0,.own .u8 W)]) 1))):=G.Y
theorem akD:H (M ew []) [] 0 Tryz.f59 [] (eB Uv) (sV0 u) [([],[],.ret (.str ([UInt8.ofNat (IntKind.u8.wrap u).toNat])) (hL []) 0)]:=G.Y
theorem akE:H (M ew []) [] 0 Tryz.f59 [] (eB Uv) (sV1 W u) [([],[0<W.length,0+W.length*1<=W.length,0<1,fM (W.length+1) 1 1=true,0+(W.length+1)<=(List.take (W.length*1) (List.drop 0 W)++[IntKind.u8.wrap u]).length],.ret (.str (nQ (List.take (W.length+1) (List.drop 0 (List.take (W.length*1) (List.drop 0 W)++[IntKind.u8.wrap u]))))) (hL []) 0)]:=G.Y
end
section
variable(x u:Int)
def pB(d:Int):UInt8:=UInt8.ofNat (IntKind.u8.wrap ((IntKind.u64.wrap x).fdiv d)).toNat
def akF:aa:=[pB x 16777216,pB x 65536,pB x 256,pB x 1]
def Ap:aa:=[pB x 1]
def KO:ag->Option (ah×V)
 | [.int .i64 x,.int .i64 k]=>match k with
   | .ofNat 4=>some ([],.str (akF x))
   | .ofNat 1=>some ([],.str (Ap x))
   |_=>none
 |_=>none
theorem nD{f:FuncId}{fn:Func}{spec:ag->Option (ah×V)}(hf:Tryz.prog.funcs[f]? =some fn)
  (h:∀args hc v,spec args=some (hc,v)->V.uo args=true/\v.free=true/\(Nat.ble args.length fn.ntmps&&Nat.blt fn.ntmps gO)=true/\((∀a∈hc,a)->TG ak gN fn.ntmps (dQ fn) (dI args .nil gN) (gi ak gN fn fun u _ _=>u=v)))
  (U:fn.body=some (dQ fn):=by kernel_rfl) (fj:Nat.blt f Tryz.prog.funcs.size=true:=by kernel_rfl):jM ak f (ic spec):=
 I1 (aE fj) fun args hc v e=>by
  obtain⟨h1,C,h3,h4⟩:=h args hc v e;exact⟨h1,C,fun hA=>KJ mo po hf U h3 h1 (h4 hA)⟩
theorem sm{α β:Type}{a c:α}{b d:β}(h:some (a,b)=some (c,d)):a=c/\b=d:=Prod.mk.inj (dB h)
abbrev b8:ah:=[(0:Int)<=0/\(0:Int)<8,(0:Int)<=1/\(1:Int)<8,(0:Int)<=2/\(2:Int)<8,(0:Int)<=3/\(3:Int)<8,(0:Int)<=4/\(4:Int)<8,(0:Int)<=5/\(5:Int)<8,(0:Int)<=6/\(6:Int)<8,(0:Int)<=7/\(7:Int)<8]
theorem WS:∀p∈b8,p:=by
 intro p hp;simp only[aA,aH,bq]at hp;rcases hp with rfl|rfl|rfl|rfl|rfl|rfl|rfl|rfl<;>decide
theorem p128:(128:Int)^(9+1)=1180591620717411303424:=by rfl
theorem YG:jM ak 61 (ic KO):=by
 refine nD Tryz.func61 fun args hc v e=>?_;unfold KO at e;split at e
 case h_2=>cases e
 split at e
 case h_3=>cases e
 all_goals
  obtain⟨rfl,rfl⟩:=sm e;refine⟨rfl,rfl,rfl,fun _=>?_⟩
 . exact eR (be _) (akz _) (dK (g0 ⟨WS,_,_,_,rfl,rfl⟩))
 . exact eR (be _) (aky _) (dK (g0 ⟨WS,_,_,_,rfl,rfl⟩))
def Dp:Int:=IntKind.u8.wrap (Int.ofNat (BitVec.ofInt 8 (IntKind.u8.wrap u)|||BitVec.ofInt 8 (128:Int)).toNat)
def YH:Int:=IntKind.u8.wrap u
end
def uC:Nat->Int->List Int
 |0,u=>[YH u]
 |k+1,u=>if 128<=u then Dp u::uC k (u.fdiv 128)else[YH u]
def eU(n:Int):aa:=nQ (uC 9 (IntKind.u64.wrap n))
theorem Dq{k:Nat}{u:Int}(h:¬128<=u):uC k u=[YH u]:=by
 cases k with
 |zero=>rfl
 |succ k=>show(if 128<=u then _ else _)=_;rw[aD h]
theorem I7:∀(k:Nat) (u:Int),0<(uC k u).length/\(uC k u).length<=k+1
 |0,u=>by simp[uC]
 |k+1,u=>by
  have:=I7 k (u.fdiv 128);show 0<(if 128<=u then _ else _:List Int).length/\(if 128<=u then _ else _:List Int).length<=_;split
  . simp only[aN];omega
  . simp only[aN,cm];omega
theorem sJ(n:Int):0<(eU n).length/\(eU n).length<=10:=by
 have:=I7 9 (IntKind.u64.wrap n);unfold eU nQ;rw[bM];exact this
theorem Ds(n:Int):0<=IntKind.u64.wrap n/\IntKind.u64.wrap n<18446744073709551616:=by
 unfold IntKind.wrap;have e1:(2^IntKind.u64.bits:Int)=18446744073709551616:=by decide
 have e3:IntKind.u64.signed=false:=rfl;simp only[e1,e3,aT,aM,cI];omega
theorem yM{k:Nat}(h:k<=100000000000):fM k 1 1=true:=by
 unfold fM;exact aW ⟨S,S⟩
def SVa(x:Nat×List Int×Int):St:=match x.2.1 with
 | []=>sV0 x.2.2
 |k::r=>sV1 (k::r) x.2.2
theorem akG(n:Int):TG ak 0 Tryz.f59.ntmps YF (dI [.int .i64 n] .nil 0) (gi ak 0 Tryz.f59 fun u _ _=>u= .str (eU n)):=by
 have hu:=Ds n;refine fN 3 (be _) (akA n) all_nil ?_;refine WQ (α:=Nat×List Int×Int) 0 _ [3,4] (·.1) (fun x=>0<=x.2.2/\x.2.2<128^(x.1+1)/\x.2.1.length+x.1<=10/\x.2.1++uC x.1 x.2.2=uC 9 (IntKind.u64.wrap n)) SVa (9,[],IntKind.u64.wrap n) ⟨hu.1,by show IntKind.u64.wrap n<(128:Int)^(9+1);rw[p128];omega,show 0+9<=10 by decide,rfl⟩ .refl ?_;rintro⟨k,W,u⟩ ⟨h0,hk,hl,hv⟩;simp only at h0 hk hl hv;have Dt:128<=u->∃j,k=j+1/\0<=u.fdiv 128/\u.fdiv 128<128^(j+1)/\(W++[Dp u])++uC j (u.fdiv 128)=uC 9 (IntKind.u64.wrap n):=fun h=>by
  cases k with
  |zero=>simp at hk;omega
  |succ j=>
   have ed:u.fdiv 128=u/128:=Int.fdiv_eq_ediv_of_nonneg _ fg;refine⟨j,rfl,by rw[ed];omega,?_,?_⟩
   . rw[ed];have:(128:Int)^(j+1+1)=128^(j+1)*128:=Int.pow_succ ..;rw[this]at hk;exact Int.ediv_lt_of_lt_mul fg hk
   . rw[<- hv];show _=W++(if 128<=u then _ else _);rw[aF h];simp
 have xw:¬128<=u->W++[YH u]=uC 9 (IntKind.u64.wrap n):=fun h=>by rw[<- hv,Dq h]
 cases W with
 |nil=>
  refine⟨_,(be _),[],_,_,akB u,dN (g1 fun h=>⟨all_nil,?_⟩) (dK (g1 fun h=>⟨all_nil,rfl,?_⟩))⟩
  . obtain⟨j,rfl,a1,a2,a3⟩:=Dt (aZ h);exact⟨(j,[Dp u],u.fdiv 128),Nat.lt_succ_self j,⟨a1,a2,by simp at hl ⊢;omega,a3⟩,.own [(0,.u8)] dJ⟩
  . refine eR (be _) (akD u) (dK (g0 ⟨all_nil,_,_,_,rfl,?_⟩));unfold eU;rw[<- xw (bt h)];rfl
 |cons x r=>
  have uY:0<(x::r).length:=by simp
  have PS:(x::r).length<=10:=by omega
  have e0:List.take ((x::r).length*1) (List.drop 0 (x::r))=x::r:=by rw[bA,cR,br]
  have hc:=X uY (X (show 0+(x::r).length*1<=(x::r).length by omega) (X (show 0<1 by decide) (eO (yM (k:=(x::r).length+1) S))));have h3:=akC u (x::r);have h5:=akE u (x::r);rw[e0]at h3 h5;refine⟨_,(be _),[],_,_,h3,dN (g1 fun h=>⟨hc,?_⟩) (dK (g1 fun h=>⟨all_nil,rfl,?_⟩))⟩
  . obtain⟨j,rfl,a1,a2,a3⟩:=Dt (aZ h);refine⟨(j,(x::r)++[Dp u],u.fdiv 128),Nat.lt_succ_self j,⟨a1,a2,by rw[az];simp at hl ⊢;omega,a3⟩,?_⟩;have:SVa (j,(x::r)++[Dp u],u.fdiv 128)=fI [(3,.fk (some (0,0)) ((x::r).length+1) ((x::r).length+1) 1),(4,.int .u64 (u.fdiv (128:Int)))] (hL [(0,.own .u8 ((x::r)++[Dp u]))]) 1:=by
     show sV1 ((x::r)++[Dp u]) _=_;unfold sV1;rw[az];rfl
    rw[this];exact .refl
  . have he:=xw (bt h);have e1:(x::r++[IntKind.u8.wrap u]).length=(x::r).length+1:=by rw[az];rfl
    refine eR (be _) h5 (dK (g0 ⟨X uY (X (show 0+(x::r).length*1<=(x::r).length by omega) (X fg (X (yM S) (eO (by rw[e1];omega))))),_,_,_,rfl,?_⟩));unfold eU;rw[<- he,bA,<- e1,br];rfl
def Aq:ag->Option (ah×V)
 | [.int .i64 n]=>some ([],.str (eU n))
 |_=>none
theorem YI:jM ak 59 (ic Aq):=by
 refine nD Tryz.func59 fun args hc v e=>?_;unfold Aq at e;split at e
 case h_2=>cases e
 obtain⟨rfl,rfl⟩:=sm e;exact⟨rfl,rfl,rfl,fun _=>akG _⟩
noncomputable abbrev W1:gG:=jC 59 (ic Aq) (jC 61 (ic KO) ew)
theorem qX:fo ak W1:=fq YI (fq YG (be _))
section
variable(W:List Int)(p:Nat->Int)(x:Int)(js:List Int)(y:Int)(i:Nat)(r g a b r' g' b' a':Int)
def vZ:ai:=(List.range 256).map fun j=>.int .u8 (p j)
def tl:List Int:=(List.range 256).map p
def jv:V:=.agg (D.gk (vZ p))
noncomputable abbrev akH:Code:=dQ Tryz.f70
noncomputable abbrev adV:Code:=dQ Tryz.f138
noncomputable abbrev YJ:Code:=dH 1 adV
noncomputable abbrev N5:Code:=dQ Tryz.f139
noncomputable abbrev YK:Code:=dH 1 N5
noncomputable abbrev akI:Code:=dQ Tryz.f132
noncomputable abbrev akJ:Code:=dQ Tryz.f141
noncomputable abbrev akK:Code:=dQ Tryz.f142
def sZe:St:=fI [(1,.ptr (some (0,0))),(3,J i)] (hL [(0,.own .u8 W)]) 1
def Gu:St:=fI [(2,.ptr (some (0,0))),(3,.ptr (some (1,0))),(5,J i)] (hL [(0,.own .u8 W),(1,.own .u8 js)]) 2
theorem akL(a:Int):H (M W1 []) [(5,.split)] 0 Tryz.f70 [] (akH) (dI [.agg [.int .u8 r,.int .u8 g,.int .u8 b,.int .u8 a]] .nil 0) (fV (a==(0:Int)) ([],.ret (.agg [.int .u8 0,.int .u8 0,.int .u8 0,.int .u8 0]) (hL []) 0) ([],.ret (.agg [.int .u8 r,.int .u8 g,.int .u8 b,.int .u8 a]) (hL []) 0)):=G.Y
theorem akM:H (M W1 []) [] 0 Tryz.f138 [1] (ek 1 adV) (dI [jv p] .nil 0) [([],[],eC (fI [(1,.ptr (some (0,0)))] (hL [(0,.cells (D.gk (vZ p)))]) 1))]:=G.Y
theorem akN:H (M W1 []) [] 0 Tryz.f138 [1,3] (dO (dO YJ)) (fI [(1,.ptr (some (0,0)))] (hL [(0,.own .u8 W)]) 1) [([],[],eC (sZe W 0))]:=G.Y
abbrev Qz:Prop:=V.int IntKind.u8 (W.getD (0+i*4+3) (0:Int))=V.int IntKind.u8 a
theorem akO:H (M W1 []) [(5,.split),(11,.dL (.int .u8 a)),(12,.split),(7,.dL (J (i+1)))] 0 Tryz.f138 [1,3] (dP (dP (eB (dO YJ)))) (sZe W i) (sI (decide (Int.ofNat i<(64:Int))) (a !=(0:Int)) ([(0:Int)<=Int.ofNat i/\Int.ofNat i<(64:Int),0+i*4+3<W.length,Qz W i a],ji) ([(0:Int)<=Int.ofNat i/\Int.ofNat i<(64:Int),0+i*4+3<W.length,Qz W i a,oq i],eC (sZe W (i+1))) ([],.to (.exit 0) (sZe W i))):=G.Y
theorem akP:H (M W1 []) [] 0 Tryz.f138 [] (eB YJ) (sZe W 64) [([],[],B0)]:=G.Y
theorem YL(q:Nat->Int):H (M W1 []) [] 0 Tryz.f139 [2,3] (ek 1 N5) (dI [jv p,jv q] .nil 0) [([],[],eC (fI [(2,.ptr (some (0,0))),(3,.ptr (some (1,0)))] (hL [(0,.cells (D.gk (vZ p))),(1,.cells (D.gk (vZ q)))]) 2))]:=G.Y
theorem YM:H (M W1 []) [] 0 Tryz.f139 [2,3,5] (dO (dO YK)) (fI [(2,.ptr (some (0,0))),(3,.ptr (some (1,0)))] (hL [(0,.own .u8 W),(1,.own .u8 js)]) 2) [([],[],eC (Gu W js 0))]:=G.Y
abbrev QA:Prop:=mG IntKind.u8 js (0+i*4) 4=V.agg [V.int IntKind.u8 r',V.int IntKind.u8 g',V.int IntKind.u8 b',V.int IntKind.u8 a']
abbrev QB(a:Int):Prop:=mG IntKind.u8 W (0+i*4) 4=V.agg [V.int IntKind.u8 r,V.int IntKind.u8 g,V.int IntKind.u8 b,V.int IntKind.u8 a]
theorem YN(a r' g' b' a':Int):H (M W1 []) [(7,.split),(12,.dL (.agg [.int .u8 r,.int .u8 g,.int .u8 b,.int .u8 a])),(15,.dL (.agg [.int .u8 r',.int .u8 g',.int .u8 b',.int .u8 a'])),(16,.split),(9,.dL (J (i+1)))] 0 Tryz.f139 [2,3,5] (dP (dP (eB (dO YK)))) (Gu W js i) (sI (decide (Int.ofNat i<(64:Int))) (!(r==r'&&(g==g'&&(b==b'&&(a==a'&&true))))) ([(0:Int)<=Int.ofNat i/\Int.ofNat i<(64:Int),0+i*4+4<=W.length,QB W i r g b a,(0:Int)<=Int.ofNat i/\Int.ofNat i<(64:Int),0+i*4+4<=js.length,QA js i r' g' b' a'],ji) ([(0:Int)<=Int.ofNat i/\Int.ofNat i<(64:Int),0+i*4+4<=W.length,QB W i r g b a,(0:Int)<=Int.ofNat i/\Int.ofNat i<(64:Int),0+i*4+4<=js.length,QA js i r' g' b' a',oq i],eC (Gu W js (i+1))) ([],.to (.exit 0) (Gu W js i))):=G.Y
theorem YO:H (M W1 []) [] 0 Tryz.f139 [] (eB YK) (Gu W js 64) [([],[],B0)]:=G.Y
theorem akQ:H (M W1 [(164,[(14,.split),(17,.split)])]) [] 0 Tryz.f132 [] (akI) (dI [R x,R y] .nil 0) [([(x.tmod (8:Int) !=(0:Int),true),(decide (x<(0:Int)),true),(y.tmod (8:Int) !=(0:Int),true),(decide (y<(0:Int)),true)],[(8:Int)≠(0:Int),(8:Int)≠(0:Int),(8:Int)≠(0:Int),(8:Int)≠(0:Int)],.ret (.agg [.int .i64 (IntKind.i64.wrap (IntKind.i64.wrap (x.tdiv (8:Int))-(1:Int))),.int .i64 (IntKind.i64.wrap (IntKind.i64.wrap (y.tdiv (8:Int))-(1:Int)))]) (hL []) 0),([(x.tmod (8:Int) !=(0:Int),true),(decide (x<(0:Int)),true),(y.tmod (8:Int) !=(0:Int),true),(decide (y<(0:Int)),false)],[(8:Int)≠(0:Int),(8:Int)≠(0:Int),(8:Int)≠(0:Int),(8:Int)≠(0:Int)],.ret (.agg [.int .i64 (IntKind.i64.wrap (IntKind.i64.wrap (x.tdiv (8:Int))-(1:Int))),.int .i64 (IntKind.i64.wrap (y.tdiv (8:Int)))]) (hL []) 0),([(x.tmod (8:Int) !=(0:Int),true),(decide (x<(0:Int)),true),(y.tmod (8:Int) !=(0:Int),false)],[(8:Int)≠(0:Int),(8:Int)≠(0:Int),(8:Int)≠(0:Int),(8:Int)≠(0:Int)],.ret (.agg [.int .i64 (IntKind.i64.wrap (IntKind.i64.wrap (x.tdiv (8:Int))-(1:Int))),.int .i64 (IntKind.i64.wrap (y.tdiv (8:Int)))]) (hL []) 0),([(x.tmod (8:Int) !=(0:Int),true),(decide (x<(0:Int)),false),(y.tmod (8:Int) !=(0:Int),true),(decide (y<(0:Int)),true)],[(8:Int)≠(0:Int),(8:Int)≠(0:Int),(8:Int)≠(0:Int),(8:Int)≠(0:Int)],.ret (.agg [.int .i64 (IntKind.i64.wrap (x.tdiv (8:Int))),.int .i64 (IntKind.i64.wrap (IntKind.i64.wrap (y.tdiv (8:Int))-(1:Int)))]) (hL []) 0),([(x.tmod (8:Int) !=(0:Int),true),(decide (x<(0:Int)),false),(y.tmod (8:Int) !=(0:Int),true),(decide (y<(0:Int)),false)],[(8:Int)≠(0:Int),(8:Int)≠(0:Int),(8:Int)≠(0:Int),(8:Int)≠(0:Int)],.ret (.agg [.int .i64 (IntKind.i64.wrap (x.tdiv (8:Int))),.int .i64 (IntKind.i64.wrap (y.tdiv (8:Int)))]) (hL []) 0),([(x.tmod (8:Int) !=(0:Int),true),(decide (x<(0:Int)),false),(y.tmod (8:Int) !=(0:Int),false)],[(8:Int)≠(0:Int),(8:Int)≠(0:Int),(8:Int)≠(0:Int),(8:Int)≠(0:Int)],.ret (.agg [.int .i64 (IntKind.i64.wrap (x.tdiv (8:Int))),.int .i64 (IntKind.i64.wrap (y.tdiv (8:Int)))]) (hL []) 0),([(x.tmod (8:Int) !=(0:Int),false),(y.tmod (8:Int) !=(0:Int),true),(decide (y<(0:Int)),true)],[(8:Int)≠(0:Int),(8:Int)≠(0:Int),(8:Int)≠(0:Int),(8:Int)≠(0:Int)],.ret (.agg [.int .i64 (IntKind.i64.wrap (x.tdiv (8:Int))),.int .i64 (IntKind.i64.wrap (IntKind.i64.wrap (y.tdiv (8:Int))-(1:Int)))]) (hL []) 0),([(x.tmod (8:Int) !=(0:Int),false),(y.tmod (8:Int) !=(0:Int),true),(decide (y<(0:Int)),false)],[(8:Int)≠(0:Int),(8:Int)≠(0:Int),(8:Int)≠(0:Int),(8:Int)≠(0:Int)],.ret (.agg [.int .i64 (IntKind.i64.wrap (x.tdiv (8:Int))),.int .i64 (IntKind.i64.wrap (y.tdiv (8:Int)))]) (hL []) 0),([(x.tmod (8:Int) !=(0:Int),false),(y.tmod (8:Int) !=(0:Int),false)],[(8:Int)≠(0:Int),(8:Int)≠(0:Int),(8:Int)≠(0:Int),(8:Int)≠(0:Int)],.ret (.agg [.int .i64 (IntKind.i64.wrap (x.tdiv (8:Int))),.int .i64 (IntKind.i64.wrap (y.tdiv (8:Int)))]) (hL []) 0)]:=G.Y
theorem akR:H (M W1 []) [(5,.split),(9,.split),(14,.split)] 0 Tryz.f141 [] (akJ) (dI [.agg [R x,R y]] .nil 0) (Qy (decide (x>=(-8192:Int))) (decide (x<=(8191:Int))) (decide (y>=(-8192:Int))) ([],.ret (.bool (decide (y<=(8191:Int)))) (hL []) 0) ([],ji)):=G.Y
end
theorem akS(x y z w:Int):H (M W1 []) [(9,.split),(15,.split)] 0 Tryz.f142 [] (akK) (dI [.agg [R x,R y],.agg [R z,R w]] .nil 0) (Ur (decide (y<w)) (y==w) ([],B0) ([],.ret (.bool (decide (x<z))) (hL []) 0) ([],ji)):=G.Y
section
variable(p:Nat->Int){f:FuncId}{i:Nat}{fn:Func}{args:ag}
theorem fc{v:V}(hf:Tryz.prog.funcs[f]? =some fn)(hT:TG ak gN fn.ntmps (dQ fn) (dI args .nil gN) (gi ak gN fn fun u _ _=>u=v))
  (Uj:V.qC args=true:=by kernel_rfl) (hv:v.deep=true:=by kernel_rfl) (U:fn.body=some (dQ fn):=by kernel_rfl) (l:(Nat.ble args.length fn.ntmps&&Nat.blt fn.ntmps gO)=true:=by kernel_rfl):ee ak f args v:=
 KM mo po hf U l Uj hv (qT hT fun _ _ ⟨hy,u,h,n,e,q⟩=>⟨hy,u,h,n,e,q▸ .self⟩)
theorem mz{v:V}(hf:Tryz.prog.funcs[f]? =some fn)(hT:TG ak gN fn.ntmps (dQ fn) (dI args .nil gN) (gi ak gN fn (uI v)))
  (Uj:V.qC args=true:=by kernel_rfl) (U:fn.body=some (dQ fn):=by kernel_rfl) (l:(Nat.ble args.length fn.ntmps&&Nat.blt fn.ntmps gO)=true:=by kernel_rfl):ee ak f args v:=
 .akr mo po hf U l Uj hT
theorem ff{f0:FuncId}{my:ag}{v:V}{dF:gG}(A:ee ak f0 my v)(hS:fo ak dF)(fj:Nat.blt f0 Tryz.prog.funcs.size=true:=by kernel_rfl):fo ak (fa f0 my v dF):=Uo fj A hS
theorem o5:(tl p).length=256:=by simp[tl]
theorem xE{j:Nat}(h:j<256):(tl p).getD j 0=p j:=by
 simp[tl,ax,bD,di h]
theorem QC(h:i<64):mG .u8 (tl p) (0+i*4) 4= .agg [.int .u8 (p (4*i)),.int .u8 (p (4*i+1)),.int .u8 (p (4*i+2)),.int .u8 (p (4*i+3))]:=by
 show V.agg [.int .u8 ((tl p).getD (0+i*4+0) 0),.int .u8 ((tl p).getD (0+i*4+1) 0),.int .u8 ((tl p).getD (0+i*4+2) 0),.int .u8 ((tl p).getD (0+i*4+3) 0)]=_;rw[show 0+i*4+0=4*i by omega,show 0+i*4+1=4*i+1 by omega,show 0+i*4+2=4*i+2 by omega,show 0+i*4+3=4*i+3 by omega,xE p S,xE p S,xE p S,xE p S]
noncomputable def cD(p:Prop):Bool:=@decide p (Classical.propDecidable p)
theorem QD{p:Prop}(h:p):cD p=true:=@decide_eq_true p (Classical.propDecidable p) h
theorem Uw{p:Prop}(h:¬p):cD p=false:=@decide_eq_false p (Classical.propDecidable p) h
theorem vT{p:Prop}(h:p):V.bool true= .bool (cD p):=by rw[QD h]
theorem vF{p:Prop}(h:¬p):V.bool false= .bool (cD p):=by rw[Uw h]
noncomputable def nE(p:Nat->Int):Bool:=cD (∀i,i<64->p (4*i+3)=0)
noncomputable def vp(q:Nat->Int):Bool:=cD (∀j,j<256->p j=q j)
theorem d64(h:decide (Int.ofNat i<(64:Int))=true):i<64:=by have:=aZ h;simp only[gD]at this;omega
theorem n64(h:decide (Int.ofNat i<(64:Int))=false):64<=i:=by have:=bt h;simp only[gD]at this;omega
theorem b64(h:i<64):(0:Int)<=Int.ofNat i/\Int.ofNat i<(64:Int):=⟨bJ _,XG⟩
theorem uD{n i:Nat}(h:i<n):n-(i+1)<n-i:=by omega
theorem WT:ee ak 138 [jv p] (.bool (nE p)):=by
 refine fc Tryz.func138 ?_;refine fN 1 qX (akM p) all_nil (Af [(0,.u8)] (s2:=fI [(1,.ptr (some (0,0)))] (hL [(0,.own .u8 (tl p))]) 1) dJ ?_);refine nO qX 0 _ [1,3] (64-·) (fun i=>i<=64/\∀k,k<i->p (4*k+3)=0) (sZe (tl p)) 0 ⟨fg,fun _ h=>absurd h (bE _)⟩ (akN (tl p)) all_nil .refl fun i ⟨hi,hz⟩=>?_;refine⟨_,qX,[],_,_,akO (tl p) i (p (4*i+3)),dN (g2 fun h1 C=>?_) (dN (g2 fun h1 C=>?_) (dK (g1 fun h=>?_)))⟩
 . have fj:=d64 h1;refine⟨X (b64 fj) (X (by rw[o5];omega) (eO (aG _ (by rw[show 0+i*4+3=4*i+3 by omega];exact xE p S)))),?_⟩;exact vF fun h=>absurd (h i fj) (by simpa using C)
 . have fj:=d64 h1;exact⟨X (b64 fj) (X (by rw[o5];omega) (X (aG _ (by rw[show 0+i*4+3=4*i+3 by omega];exact xE p S)) (eO (gV S)))),i+1,uD fj,⟨S,fun k hk=>by
    rcases bx k i with q|q
    . exact hz k q
    . obtain rfl:k=i:=by omega
      simpa using C⟩,.refl⟩
 . have:=n64 h;obtain rfl:i=64:=by omega
   refine⟨all_nil,rfl,eR qX (akP _) (dK (g0 ⟨all_nil,_,_,_,rfl,vT hz⟩))⟩
end
theorem QE(p q:Nat->Int):ee ak 139 [jv p,jv q] (.bool (vp p q)):=by
 refine fc Tryz.func139 ?_;refine fN 1 qX (YL p q) all_nil (Af [(0,.u8),(1,.u8)] (s2:=fI [(2,.ptr (some (0,0))),(3,.ptr (some (1,0)))] (hL [(0,.own .u8 (tl p)),(1,.own .u8 (tl q))]) 2) dJ ?_);refine nO qX 0 _ [2,3,5] (64-·) (fun i=>i<=64/\∀k,k<4*i->p k=q k) (Gu (tl p) (tl q)) 0 ⟨fg,fun _ h=>absurd h (bE _)⟩ (YM (tl p) (tl q)) all_nil .refl fun i ⟨hi,hz⟩=>?_;have hc (fj:i<64):=fun {l} (t:∀a∈l,a)=>X (b64 fj) (X (show 0+i*4+4<=(tl p).length by rw[o5];omega) (X (QC p fj) (X (b64 fj) (X (show 0+i*4+4<=(tl q).length by rw[o5];omega) (X (QC q fj) t)))));refine⟨_,qX,[],_,_,YN (tl p) (tl q) i (p (4*i)) (p (4*i+1)) (p (4*i+2)) (p (4*i+3)) (q (4*i)) (q (4*i+1)) (q (4*i+2)) (q (4*i+3)),dN (g2 fun h1 C=>?_) (dN (g2 fun h1 C=>?_) (dK (g1 fun h=>?_)))⟩
 . have fj:=d64 h1;refine⟨hc fj all_nil,?_⟩;refine vF fun h=>?_;rw[h (4*i) S,h (4*i+1) S,h (4*i+2) S,h (4*i+3) S]at C;simp at C
 . have fj:=d64 h1;refine⟨hc fj (eO (gV S)),i+1,uD fj,⟨S,fun k hk=>?_⟩,.refl⟩;simp only[dx,ay,ct,and_true]at C;rcases bx k (4*i)with z|z
   . exact hz k z
   . rcases(by omega:k=4*i\/k=4*i+1\/k=4*i+2\/k=4*i+3)with rfl|rfl|rfl|rfl
     . exact C.1
     . exact C.2.1
     . exact C.2.2.1
     . exact C.2.2.2
 . have:=n64 h;obtain rfl:i=64:=by omega
   refine⟨all_nil,rfl,eR qX (YO _ _) (dK (g0 ⟨all_nil,_,_,_,rfl,vT hz⟩))⟩
def cl(a r:Int):Int:=if a=0 then 0 else r
def sX(x:Int):Int:=if x.tmod 8≠0/\x<0 then IntKind.i64.wrap (IntKind.i64.wrap (x.tdiv 8)-1)else IntKind.i64.wrap (x.tdiv 8)
def B3(x y:Int):Bool:=decide (x>=(-8192:Int))&&(decide (x<=(8191:Int))&&(decide (y>=(-8192:Int))&&decide (y<=(8191:Int))))
def HD(x y z w:Int):Bool:=decide (y<w)||((y==w)&&decide (x<z))
def KP:ag->Option (ah×V)
 | [.agg [.int .u8 r,.int .u8 g,.int .u8 b,.int .u8 a]]=>some ([],.agg [.int .u8 (cl a r),.int .u8 (cl a g),.int .u8 (cl a b),.int .u8 (cl a a)])
 |_=>none
def KQ:ag->Option (ah×V)
 | [.int .i64 x,.int .i64 y]=>some ([],.agg [R (sX x),R (sX y)])
 |_=>none
def Ar:ag->Option (ah×V)
 | [.agg [.int .i64 x,.int .i64 y]]=>some ([],.bool (B3 x y))
 |_=>none
def KR:ag->Option (ah×V)
 | [.agg [.int .i64 x,.int .i64 y],.agg [.int .i64 z,.int .i64 w]]=>some ([],.bool (HD x y z w))
 |_=>none
theorem YP:jM ak 70 (ic KP):=by
 refine nD Tryz.func70 fun args hc v e=>?_;unfold KP at e;split at e
 case h_2=>cases e
 rename_i r g b a;obtain⟨rfl,rfl⟩:=sm e;refine⟨rfl,rfl,rfl,fun _=>eR qX (akL r g b a) (dN (g1 fun h=>⟨all_nil,_,_,_,rfl,?_⟩) (dK (g1 fun h=>⟨all_nil,_,_,_,rfl,?_⟩)))⟩
 . have h:a=0:=by simpa using h
   simp only[cl,aF h]
 . have h:¬a=0:=by simpa using h
   simp only[cl,aD h]
theorem YQ:jM ak 132 (ic KQ):=by
 refine nD Tryz.func132 fun args hc v e=>?_;unfold KQ at e;split at e
 case h_2=>cases e
 rename_i x y;obtain⟨rfl,rfl⟩:=sm e;refine⟨rfl,rfl,rfl,fun _=>eR qX (akQ x y) fun g hg A=>?_⟩;simp only[aA,aH,bq]at hg;rcases hg with rfl|rfl|rfl|rfl|rfl|rfl|rfl|rfl|rfl
 all_goals
  simp only[aA,aH,bq,aL,bn,aU,bu,bne_iff_ne,ne_eq,Bool.not_eq_true,bne_eq_false_iff_eq]at A;refine⟨fun a ha=>by simp only[aA,aH,bq,or_self]at ha;subst ha;decide,_,_,_,rfl,?_⟩;simp[sX,A]
theorem YR:jM ak 141 (ic Ar):=by
 refine nD Tryz.func141 fun args hc v e=>?_;unfold Ar at e;split at e
 case h_2=>cases e
 rename_i x y;obtain⟨rfl,rfl⟩:=sm e;refine⟨rfl,rfl,rfl,fun _=>eR qX (akR x y) (dN (g3 fun h C h3=>⟨all_nil,_,_,_,rfl,?_⟩) (dN (g3 fun h C h3=>⟨all_nil,_,_,_,rfl,?_⟩) (dN (g2 fun h C=>⟨all_nil,_,_,_,rfl,?_⟩) (dK (g1 fun h=>⟨all_nil,_,_,_,rfl,?_⟩)))))⟩<;>simp only[B3, *,aP,aT]
section
variable(W:List Int)(p:Nat->Int)(x:Int)(i:Nat)(y r g b a:Int)
theorem YS:jM ak 142 (ic KR):=by
 refine nD Tryz.func142 fun args hc v e=>?_;unfold KR at e;split at e
 case h_2=>cases e
 rename_i x y z w;obtain⟨rfl,rfl⟩:=sm e;refine⟨rfl,rfl,rfl,fun _=>eR qX (akS x y z w) (dN (g1 fun h=>⟨all_nil,_,_,_,rfl,?_⟩) (dN (g2 fun h C=>⟨all_nil,_,_,_,rfl,?_⟩) (dK (g2 fun h C=>⟨all_nil,_,_,_,rfl,?_⟩))))⟩<;>simp only[HD, *,aP,aT,bY,bX]
noncomputable abbrev W2:gG:=jC 70 (ic KP) (jC 132 (ic KQ) (jC 141 (ic Ar) (jC 142 (ic KR) W1)))
theorem Fj:fo ak W2:=fq YP (fq YQ (fq YR (fq YS qX)))
def YT:Bool:=decide (x>=(0:Int))&&(decide (x<(8:Int))&&(decide (y>=(0:Int))&&decide (y<(8:Int))))
def KS:ag->Option (ah×V)
 | [.int .i64 x,.int .i64 y]=>some ([],.bool (YT x y))
 |_=>none
noncomputable abbrev akT:Code:=dQ Tryz.f167
theorem akU:H (M W1 []) [(6,.split),(9,.split),(13,.split)] 0 Tryz.f167 [] (akT) (dI [R x,R y] .nil 0) (Qy (decide (x>=(0:Int))) (decide (x<(8:Int))) (decide (y>=(0:Int))) ([],.ret (.bool (decide (y<(8:Int)))) (hL []) 0) ([],ji)):=G.Y
theorem YU:jM ak 167 (ic KS):=by
 refine nD Tryz.func167 fun args hc v e=>?_;unfold KS at e;split at e
 case h_2=>cases e
 rename_i x y;obtain⟨rfl,rfl⟩:=sm e;refine⟨rfl,rfl,rfl,fun _=>eR qX (akU x y) (dN (g3 fun h C h3=>⟨all_nil,_,_,_,rfl,?_⟩) (dN (g3 fun h C h3=>⟨all_nil,_,_,_,rfl,?_⟩) (dN (g2 fun h C=>⟨all_nil,_,_,_,rfl,?_⟩) (dK (g1 fun h=>⟨all_nil,_,_,_,rfl,?_⟩)))))⟩<;>simp only[YT, *,aP,aT]
noncomputable abbrev W3:gG:=jC 167 (ic KS) W2
theorem gh:fo ak W3:=fq YU Fj
noncomputable abbrev adW:Code:=dQ Tryz.f140
noncomputable abbrev YV:Code:=dH 1 adW
noncomputable abbrev Ux:Code:=dQ Tryz.f136
def sCl:St:=fI [(1,.ptr (some (0,0))),(2,.ptr (some (1,0))),(3,J i)] (hL [(0,.own .u8 W),(1,.own .u8 (List.replicate 256 0))]) 2
theorem akV:H (M W2 []) [] 0 Tryz.f140 [1,2] (ek 1 adW) (dI [jv p] .nil 0) [([],[],eC (fI [(1,.ptr (some (0,0))),(2,.ptr (some (1,0)))] (hL [(0,.cells (D.gk (vZ p))),(1,.cells (List.replicate 256 (.int .u8 0)))]) 2))]:=G.Y
theorem akW:H (M W2 []) [] 0 Tryz.f140 [1,2,3] (dO (dO YV)) (fI [(1,.ptr (some (0,0))),(2,.ptr (some (1,0)))] (hL [(0,.own .u8 W),(1,.own .u8 (List.replicate 256 0))]) 2) [([],[],eC (sCl W 0))]:=G.Y
theorem akX:H (M W2 []) [(5,.split),(11,.dL (.agg [.int .u8 r,.int .u8 g,.int .u8 b,.int .u8 a])),(7,.dL (J (i+1)))] 0 Tryz.f140 [1,2,3] (dP (dP (eB (dO YV)))) (sCl W i) (fV (decide (Int.ofNat i<(64:Int))) ([(0:Int)<=Int.ofNat i/\Int.ofNat i<(64:Int),0+i*4+4<=W.length,mG IntKind.u8 W (0+i*4) 4=V.agg [V.int IntKind.u8 r,V.int IntKind.u8 g,V.int IntKind.u8 b,V.int IntKind.u8 a],(0:Int)<=Int.ofNat i/\Int.ofNat i<(64:Int),0+i*4+4<=W.length,oq i],eC (sCl (By W (0+i*4) [cl a r,cl a g,cl a b,cl a a]) (i+1))) ([],.to (.exit 0) (sCl W i))):=G.Y
theorem akY:H (M W2 []) [] 0 Tryz.f140 [] (eB YV) (sCl W 64) [([],[256<=W.length,256<=256],.ret (mG .u8 W 0 256) (hL []) 0)]:=G.Y
theorem akZ:H (M W2 []) [] 0 Tryz.f136 [1,2,4,7,8] (ek 1 Ux) (dI [jv p,R x,R y,.agg [.int .u8 r,.int .u8 g,.int .u8 b,.int .u8 a]] .nil 0) [([],[],eC (fI [(1,R x),(2,R y),(4,.ptr (some (0,0))),(7,.ptr (some (1,0))),(8,.ptr (some (2,0)))] (hL [(0,.cells (D.gk (vZ p))),(1,.cells [.int .u8 r,.int .u8 g,.int .u8 b,.int .u8 a]),(2,.cells (List.replicate 256 (.int .u8 0)))]) 3))]:=G.Y
def sSt:St:=fI [(4,.ptr (some (0,0))),(8,.ptr (some (1,0)))] (hL [(0,.own .u8 W),(1,.own .u8 (List.replicate 256 0))]) 2
theorem adX(o:Nat):H (M W3 []) [(11,.split),(15,.dL (J o))] 0 Tryz.f136 [4,8] (ek 1 (dH 1 Ux)) (fI [(1,R x),(2,R y),(4,.ptr (some (0,0))),(7,.ptr (some (1,0))),(8,.ptr (some (2,0)))] (hL [(0,.own .u8 W),(1,.cells [.int .u8 r,.int .u8 g,.int .u8 b,.int .u8 a]),(2,.own .u8 (List.replicate 256 0))]) 3) (fV (YT x y) ([V.int B (IntKind.i64.wrap (IntKind.i64.wrap ((8:Int)*y)+x))=J o,(0:Int)<=Int.ofNat o/\Int.ofNat o<(64:Int),0+o*4+4<=W.length],eC (sSt (By W (0+o*4) [r,g,b,a]))) ([],eC (sSt W))):=G.Y
theorem ak0:H (M W3 []) [] 0 Tryz.f136 [] (dH 1 (dH 1 Ux)) (sSt W) [([],[256<=W.length,256<=256],.ret (mG .u8 W 0 256) (hL []) 0)]:=G.Y
end
def iU(p:Nat->Int)(j:Nat):Int:=cl (p (4*(j/4)+3)) (p j)
section
variable(p:Nat->Int)(x y r g b a:Int)
theorem yN:mG .u8 (tl p) 0 256=jv p:=by
 unfold mG jv vZ;rw[D.gy,List.map_map];refine aG V.agg (List.map_congr_left fun j hj=>?_);rw[bI,xE p (bQ.1 hj)];rfl
theorem Du{p q:Nat->Int}(h:∀j,j<256->p j=q j):tl p=tl q:=List.map_congr_left fun j hj=>h j (bQ.1 hj)
theorem As{p q:Nat->Int}(h:∀j,j<256->p j=q j):jv p=jv q:=by rw[<- yN,<- yN,Du h]
theorem QF(f:Nat->Int)(j:Nat):(tl f)[j]? =if j<256 then some (f j)else none:=by
 unfold tl;rw[bD];by_cases c:j<256
 . rw[aF c,di c];rfl
 . rw[aD c,cF (by rw[List.length_range];omega)];rfl
theorem KT{f k:Nat->Int}{i:Nat}(hi:i<64){r g b a:Int}(h0:k (4*i)=r)(h1:k (4*i+1)=g)(C:k (4*i+2)=b)(h3:k (4*i+3)=a)(hn:∀j,j<256->j/4≠i->k j=f j):By (tl f) (0+i*4) [r,g,b,a]=tl k:=by
 have e:0+i*4=4*i:=by omega
 rw[e];refine List.ext_getElem? fun j=>?_;unfold By;rw[List.getElem?_append,List.getElem?_append,bf,o5,Nat.min_eq_left (show 4*i<=256 by omega),QF];by_cases c1:j<4*i
 . rw[aF c1,cg,aF c1,QF,aF S,aF S,hn j S S]
 . rw[aD c1];by_cases c2:j<4*i+4
   . rw[aF (by simp only[aN,cm];omega),aF S];rcases(by omega:j=4*i\/j=4*i+1\/j=4*i+2\/j=4*i+3)with rfl|rfl|rfl|rfl
     . rw[h0,Nat.sub_self];rfl
     . rw[h1,Nat.add_sub_cancel_left];rfl
     . rw[C,Nat.add_sub_cancel_left];rfl
     . rw[h3,Nat.add_sub_cancel_left];rfl
   . rw[aD (by simp only[aN,cm];omega),cj,QF];simp only[aN,cm];rw[show 4*i+(0+1+1+1+1)+(j-4*i-(0+1+1+1+1))=j by omega];by_cases c3:j<256
     . rw[aF c3,aF c3,hn j c3 S]
     . rw[aD c3,aD c3]
theorem QG:ee ak 140 [jv p] (jv (iU p)):=by
 refine fc Tryz.func140 ?_;refine fN 1 Fj (akV p) all_nil (Af [(0,.u8),(1,.u8)] (s2:=fI [(1,.ptr (some (0,0))),(2,.ptr (some (1,0)))] (hL [(0,.own .u8 (tl p)),(1,.own .u8 (List.replicate 256 0))]) 2) dJ ?_);refine nO Fj 0 _ [1,2,3] (64-·) (. <=64) (fun i=>sCl (tl fun j=>if j<4*i then iU p j else p j) i) 0 fg (akW (tl p)) all_nil (by
  rw[Du (q:=p) fun j _=>aD S];exact .refl) fun i hi=>?_
 refine⟨_,Fj,[],_,_,akX _ i (p (4*i)) (p (4*i+1)) (p (4*i+2)) (p (4*i+3)),dN (g1 fun h1=>?_) (dK (g1 fun h=>?_))⟩
 . have fj:=d64 h1;refine⟨X (b64 fj) (X (by rw[o5];omega) (X ?_ (X (b64 fj) (X (by rw[o5];omega) (eO (gV S)))))),i+1,uD fj,by show i+1<=64;omega,?_⟩
   . rw[QC _ fj,aD S,aD S,aD S,aD S]
   . rw[KT (k:=fun j=>if j<4*(i+1)then iU p j else p j) fj]
     . exact .refl
     all_goals first
      |(rw[aF S];unfold iU;congr 2;omega)
      |skip
     intro j _ hj;by_cases c:j<4*i
     . rw[aF c,aF S]
     . rw[aD c,aD S]
 . have:=n64 h;obtain rfl:i=64:=by omega
   refine⟨all_nil,rfl,eR Fj (akY _) (dK (g0 ⟨X (by rw[o5];omega) (eO fg),_,_,_,rfl,?_⟩))⟩;rw[yN];exact As fun j hj=>aF S
def KU(j:Nat):Int:=if YT x y=true/\j/4=(8*y+x).toNat then(if j%4=0 then r else if j%4=1 then g else if j%4=2 then b else a)else p j
theorem ak1:ee ak 136 [jv p,R x,R y,.agg [.int .u8 r,.int .u8 g,.int .u8 b,.int .u8 a]] (jv (KU p x y r g b a)):=by
 refine fc Tryz.func136 ?_;refine fN 1 Fj (akZ p x y r g b a) all_nil (Af [(0,.u8),(2,.u8)] (s2:=fI [(1,R x),(2,R y),(4,.ptr (some (0,0))),(7,.ptr (some (1,0))),(8,.ptr (some (2,0)))] (hL [(0,.own .u8 (tl p)),(1,.cells [.int .u8 r,.int .u8 g,.int .u8 b,.int .u8 a]),(2,.own .u8 (List.replicate 256 0))]) 3) dJ ?_);have oc (q:Nat->Int) (hq:∀j,j<256->q j=KU p x y r g b a j):TG ak 0 Tryz.f136.ntmps (dH 1 (dH 1 Ux)) (sSt (tl q)) (gi ak 0 Tryz.f136 fun u _ _=>u=jv (KU p x y r g b a)):=
  eR gh (ak0 _) (dK (g0 ⟨X (by rw[o5];omega) (eO fg),_,_,_,rfl,by rw[yN];exact As hq⟩))
 by_cases h:YT x y=true
 . have U:0<=x/\x<8/\0<=y/\y<8:=by simpa[YT]using h
   have fj:(8*y+x).toNat<64:=by omega
   refine uB 1 gh (adX (tl p) x y r g b a (8*y+x).toNat) (dN (g1 fun _=>⟨X ?_ (X (b64 fj) (eO (by rw[o5];omega))),_,rfl,?_⟩) (dK (g1 fun C=>by rw[h]at C;cases C)))
   . rw[iz (x:=8*y) S S];exact xD S S
   . rw[KT (k:=KU p x y r g b a) fj]
     . exact oc _ fun _ _=>rfl
     all_goals first
      |(unfold KU;rw[aF ⟨h,S⟩];simp[Nat.mul_add_mod];done)
      |skip
     intro j _ hj;exact aD fun q=>hj q.2
 . have h:YT x y=false:=by simpa using h
   exact uB 1 gh (adX (tl p) x y r g b a 0) (dN (g1 fun C=>by rw[h]at C;cases C) (dK (g1 fun _=>⟨all_nil,_,rfl,oc _ fun j _=>(aD fun q=>by rw[h]at q;cases q.1).symm⟩)))
end
structure Tl where
 x:Int
 y:Int
 p:Nat->Int
def Tl.d(t:Tl):ai:=.int .i64 t.x:: .int .i64 t.y::vZ t.p
def iO(l:List Tl):ai:=(l.map Tl.d).flatten
def lu(l:List Tl):V:=.agg [.eM false l.length (iO l)]
def tz:Nat->Int:=fun _=>0
noncomputable abbrev adY:Code:=dQ Tryz.f133
noncomputable abbrev YW:Code:=dH 1 adY
noncomputable abbrev WU:Code:=dQ Tryz.f115
noncomputable abbrev QH:Code:=dH 2 WU
section
variable(n:Nat)(p:Nat->Int)(i:Nat)
def pxC:es:=.cells (D.gk (vZ p))
def sTi(cs:ai)(x y:Int)(i:Nat):St:=fI [(2,.ptr (some (0,0))),(3,.ptr (some (1,0))),(4,.ptr (some (2,0))),(5,J i)] (hL [(0,.cells [.eM false n cs]),(1,.cells [R x,R y]),(2,pxC tz)]) 3
theorem ak2(cs:ai)(x y:Int):H (M W3 []) [] 0 Tryz.f133 [2,3,4] (ek 1 adY) (dI [.agg [.eM false n cs],.agg [R x,R y]] .nil 0) [([],[],eC (fI [(2,.ptr (some (0,0))),(3,.ptr (some (1,0))),(4,.ptr (some (2,0)))] (hL [(0,.cells [.eM false n cs]),(1,.cells [R x,R y]),(2,pxC tz)]) 3))]:=G.Y
theorem ak3(cs:ai)(x y:Int):H (M W3 []) [] 0 Tryz.f133 [2,3,4,5] (dO (dO YW)) (fI [(2,.ptr (some (0,0))),(3,.ptr (some (1,0))),(4,.ptr (some (2,0)))] (hL [(0,.cells [.eM false n cs]),(1,.cells [R x,R y]),(2,pxC tz)]) 3) [([],[],eC (sTi n cs x y 0))]:=G.Y
theorem adZ(cs:ai)(x y:Int)(i:Nat)(t:Tl):H (M W3 []) [(10,.split),(16,.dL (.eo t.d)),(20,.split),(24,.dL (.eo t.d)),(12,.dL (J (i+1)))] 0 Tryz.f133 [2,3,4,5] (dP (dP (eB (dO YW)))) (sTi n cs x y i) (sI (decide (Int.ofNat i<(Int.ofNat n))) (t.x==x&&(t.y==y&&true)) ([fT i n,cs.length=n*258,gv cs i 258 t.d,fT i n,cs.length=n*258,gv cs i 258 t.d],.ret (jv t.p) (hL []) 0) ([fT i n,cs.length=n*258,gv cs i 258 t.d,oq i],eC (sTi n cs x y (i+1))) ([],.to (.exit 0) (sTi n cs x y i))):=G.Y
theorem ak4(cs:ai)(x y:Int)(i:Nat):H (M W3 []) [] 0 Tryz.f133 [] (eB YW) (sTi n cs x y i) [([],[],.ret (jv tz) (hL []) 0)]:=G.Y
def Uy(cs:ai)(i:Nat):St:=fI [(1,.ptr (some (0,0))),(3,J i)] (hL [(0,.cells [.eM false n cs])]) 1
theorem ak5(cs:ai):H (M W3 []) [(10,.split)] 0 Tryz.f115 [1] (ek 2 WU) (dI [.agg [.eM false n cs]] .nil 0) (fV (decide ((Int.ofNat n)>(1024:Int))) ([],ji) ([],eC (fI [(1,.ptr (some (0,0)))] (hL [(0,.cells [.eM false n cs])]) 1))):=G.Y
theorem ak6(cs:ai):H (M W3 []) [] 0 Tryz.f115 [1,3] (dO (dO QH)) (fI [(1,.ptr (some (0,0)))] (hL [(0,.cells [.eM false n cs])]) 1) [([],[],eC (Uy n cs 0))]:=G.Y
noncomputable abbrev WV8:gG:=fa 138 [jv p] (.bool (nE p)) (fa 140 [jv p] (jv (iU p)) (fa 139 [jv (iU p),jv p] (.bool (vp (iU p) p)) W3))
theorem QI:fo ak (WV8 p):=ff (WT p) (ff (QG p) (ff (QE (iU p) p) gh))
abbrev QJ:Prop:=V.int B (IntKind.i64.wrap (Int.ofNat i-(1:Int)))=J (i-1)
abbrev QK:Prop:=V.int B (IntKind.i64.wrap (Int.ofNat i+(1:Int)))=J (i+1)
theorem ad0(cs:ai)(i:Nat)(t u:Tl):H (M (WV8 t.p) []) [(15,.split),(21,.dL (.eo t.d)),(35,.split),(37,.split),(41,.split),(45,.split),(50,.dL (J (i-1))),(51,.dL (.eo u.d)),(57,.split),(17,.dL (J (i+1)))] 0 Tryz.f115 [1,3] (dP (dP (eB (dO QH)))) (Uy n cs i) [([(decide (Int.ofNat i<(Int.ofNat n)),true),(!B3 t.x t.y,true)],[fT i n,cs.length=n*258,gv cs i 258 t.d,fG [jv t.p],fG [jv t.p],fG [jv (iU t.p),jv t.p]],ji),([(decide (Int.ofNat i<(Int.ofNat n)),true),(!B3 t.x t.y,false),(nE t.p,true)],[fT i n,cs.length=n*258,gv cs i 258 t.d,fG [jv t.p],fG [jv t.p],fG [jv (iU t.p),jv t.p]],ji),([(decide (Int.ofNat i<(Int.ofNat n)),true),(!B3 t.x t.y,false),(nE t.p,false),(!vp (iU t.p) t.p,true)],[fT i n,cs.length=n*258,gv cs i 258 t.d,fG [jv t.p],fG [jv t.p],fG [jv (iU t.p),jv t.p]],ji),([(decide (Int.ofNat i<(Int.ofNat n)),true),(!B3 t.x t.y,false),(nE t.p,false),(!vp (iU t.p) t.p,false),(decide (Int.ofNat i>(0:Int)),true),(!HD u.x u.y t.x t.y,true)],[fT i n,cs.length=n*258,gv cs i 258 t.d,fG [jv t.p],fG [jv t.p],fG [jv (iU t.p),jv t.p],QJ i,fT (i-1) n,cs.length=n*258,gv cs (i-1) 258 u.d],ji),([(decide (Int.ofNat i<(Int.ofNat n)),true),(!B3 t.x t.y,false),(nE t.p,false),(!vp (iU t.p) t.p,false),(decide (Int.ofNat i>(0:Int)),true),(!HD u.x u.y t.x t.y,false)],[fT i n,cs.length=n*258,gv cs i 258 t.d,fG [jv t.p],fG [jv t.p],fG [jv (iU t.p),jv t.p],QJ i,fT (i-1) n,cs.length=n*258,gv cs (i-1) 258 u.d,QK i],eC (Uy n cs (i+1))),([(decide (Int.ofNat i<(Int.ofNat n)),true),(!B3 t.x t.y,false),(nE t.p,false),(!vp (iU t.p) t.p,false),(decide (Int.ofNat i>(0:Int)),false)],[fT i n,cs.length=n*258,gv cs i 258 t.d,fG [jv t.p],fG [jv t.p],fG [jv (iU t.p),jv t.p],QK i],eC (Uy n cs (i+1))),([(decide (Int.ofNat i<(Int.ofNat n)),false)],[],.to (.exit 0) (Uy n cs i))]:=G.Y
theorem ak7(cs:ai)(i:Nat):H (M W3 []) [] 0 Tryz.f115 [] (eB QH) (Uy n cs i) [([],[],B0)]:=G.Y
end
theorem sK{α β:Type}{f:α->List β}{w:Nat}(hf:∀x,(f x).length=w):∀l:List α,(l.map f).flatten.length=l.length*w
 | []=>by simp
 |x::l=>by
  rw[b9,de,az,hf,sK hf l,aN,dw];omega
theorem sL{α:Type}{f:α->ai}{w:Nat}(hf:∀x,(f x).length=w):∀(l:List α) (i:Nat) (h:i<l.length),dU ((l.map f).flatten) (i*w) w=f l[i]
 |x::l,0,_=>by
  unfold dU;rw[Nat.zero_mul,bA,b9,de,List.take_left' (hf x)];rfl
 |x::l,i+1,h=>by
  have ih:=sL hf l i (by simpa using h);unfold dU at ih ⊢;rw[b9,de,show(i+1)*w=w+i*w by rw[dw];omega,<- List.drop_drop,List.drop_left' (hf x),ih];rfl
theorem Tl.Fk(t:Tl):t.d.length=258:=by simp[Tl.d,vZ]
theorem iS(l:List Tl):(iO l).length=l.length*258:=sK Tl.Fk l
theorem xF{l:List Tl}{i:Nat}(h:i<l.length):V.eo (dU (iO l) (i*258) 258)= .eo l[i].d:=aG _ (sL Tl.Fk l i h)
def yO(x y:Int):List Tl->Nat->Int
 | []=>tz
 |t::l=>if t.x=x/\t.y=y then t.p else yO x y l
theorem KV{x y:Int}{l:List Tl}{i:Nat}(h:i<l.length):yO x y (l.drop i)=if l[i].x=x/\l[i].y=y then l[i].p else yO x y (l.drop (i+1)):=by
 rw[bC h];rfl
theorem ad1(l:List Tl)(x y:Int)(hl:l.length<=1000000):ee ak 133 [lu l,.agg [R x,R y]] (jv (yO x y l)):=by
 refine fc Tryz.func133 ?_;refine fN 1 gh (ak2 l.length (iO l) x y) all_nil ?_;refine nO gh 0 _ [2,3,4,5] (l.length-·) (fun i=>i<=l.length/\yO x y l=yO x y (l.drop i)) (sTi l.length (iO l) x y) 0 ⟨aR _,rfl⟩ (ak3 _ _ x y) all_nil .refl fun i ⟨hi,hz⟩=>?_;rcases bx i l.length with fj|PO
 . rw[KV fj]at hz;have nJ:=xF fj;generalize l[i]=t at hz nJ;refine⟨_,gh,[],_,_,adZ l.length (iO l) x y i t,dN (g2 fun h1 C=>⟨X (iI fj) (X (iS l) (X nJ (X (iI fj) (X (iS l) (eO nJ))))),?_⟩) (dN (g2 fun h1 C=>⟨X (iI fj) (X (iS l) (X nJ (eO (gV S)))),i+1,uD fj,⟨fj,?_⟩,.refl⟩) (dK (g1 fun h=>absurd (rG h) S)))⟩
   . rw[aF (by simpa using C)]at hz;rw[hz];rfl
   . rw[aD (by simpa using C)]at hz;exact hz
 . obtain rfl:i=l.length:=by omega
   rw[List.drop_length]at hz;refine⟨_,gh,[],_,_,adZ l.length (iO l) x y l.length ⟨0,0,tz⟩,dN (g2 fun h1 _=>absurd (kA h1) S) (dN (g2 fun h1 _=>absurd (kA h1) S) (dK (g1 fun h=>⟨all_nil,rfl,eR gh (ak4 _ _ x y _) (dK (g0 ⟨all_nil,_,_,_,rfl,by rw[hz];rfl⟩))⟩)))⟩
def okT(t:Tl):Prop:=B3 t.x t.y=true/\nE t.p=false/\vp (iU t.p) t.p=true
def WV(l:List Tl)(i:Nat):Prop:=∀t,l[i]? =some t->okT t/\(0<i->∀u,l[i-1]? =some u->HD u.x u.y t.x t.y=true)
def fK(l:List Tl):Prop:=l.length<=1024/\∀i,i<l.length->WV l i
theorem QL(l:List Tl)(hl:l.length<=1000000):ee ak 115 [lu l] (.bool (cD (fK l))):=by
 refine fc Tryz.func115 ?_;have bad (h:¬fK l):V.bool false= .bool (cD (fK l)):=vF h;refine isH 2 gh (ak5 l.length (iO l)) (dN (g1 fun h=>⟨all_nil,bad fun q=>?_⟩) (dK (g1 fun h0=>⟨all_nil,?_⟩)))
 . have:=aZ h;have:=q.1;simp only[gD]at *;omega
 have hn:l.length<=1024:=by have:=bt h0;simp only[gD]at this;omega
 refine nO gh 0 _ [1,3] (l.length-·) (fun i=>i<=l.length/\∀k,k<i->WV l k) (Uy l.length (iO l)) 0 ⟨aR _,fun _ h=>absurd h (bE _)⟩ (ak6 _ _) all_nil .refl fun i ⟨hi,hz⟩=>?_;rcases bx i l.length with fj|PO
 . have nJ:=xF fj;have hau:=xF (l:=l) (i:=i-1) S;have ht:l[i]? =some l[i]:=au fj;have hu:l[i-1]? =some (l[i-1]'(by omega)):=au S;generalize l[i]=t at ht nJ;generalize l[i-1]'(by omega)=u at hu hau;have hc {r:ah} (q:∀a∈r,a):=X (iI fj) (X (iS l) (X nJ (X (show fG [jv t.p]from rfl) (X (show fG [jv t.p]from rfl) (X (show fG [jv (iU t.p),jv t.p]from rfl) q)))));have aj {r:ah} (h0:0<i) (q:∀a∈r,a):=hc (X (xD (x:=Int.ofNat i-1) (n:=i-1) XG S) (X (iI (n:=l.length) (show i-1<l.length by omega)) (X (iS l) (X hau q))));have bad (h:¬WV l i):V.bool false= .bool (cD (fK l)):=bad fun q=>h (q.2 i fj);have go (h:WV l i):∃x',l.length-x'<l.length-i/\(x'<=l.length/\∀k,k<x'->WV l k)/\eJ ak 0 Tryz.f115.ntmps (Uy l.length (iO l) (i+1)) (Uy l.length (iO l) x'):=⟨i+1,uD fj,⟨fj,fun k hk=>by
    rcases bx k i with q|q
    . exact hz k q
    . obtain rfl:k=i:=by omega
      exact h⟩,.refl⟩
   refine⟨_,QI t.p,[],_,_,ad0 l.length (iO l) i t u,dN (g2 fun _ h=>⟨hc all_nil,bad fun q=>?_⟩) (dN (gc fun _=>gc fun _=>g1 fun h=>⟨hc all_nil,bad fun q=>?_⟩) (dN (gc fun _=>gc fun _=>gc fun _=>g1 fun h=>⟨hc all_nil,bad fun q=>?_⟩)
    (dN (gc fun _=>gc fun _=>gc fun _=>gc fun _=>gc fun h0=>g1 fun h=>⟨aj (by have:=aZ h0;simp only[gD]at this;omega) all_nil,bad fun q=>?_⟩) (dN (gc fun _=>gc fun h1=>gc fun C=>gc fun h3=>gc fun h0=>g1 fun h=>⟨aj (by have:=aZ h0;simp only[gD]at this;omega) (eO (gV S)),go fun t' WW=>?_⟩)
    (dN (gc fun _=>gc fun h1=>gc fun C=>gc fun h3=>g1 fun h0=>⟨hc (eO (gV S)),go fun t' WW=>?_⟩) (dK (g1 fun h=>absurd (rG h) S)))))))⟩
   . rw[(q t ht).1.1]at h;cases h
   . rw[(q t ht).1.2.1]at h;cases h
   . rw[(q t ht).1.2.2]at h;cases h
   . have h0:0<i:=by have:=aZ h0;simp only[gD]at this;omega
     rw[(q t ht).2 h0 u hu]at h;cases h
   . obtain rfl:t=t':=by rw[ht]at WW;exact dB WW
     refine⟨⟨by simpa using h1,C,by simpa using h3⟩,fun _ u' BS=>?_⟩;obtain rfl:u=u':=by rw[hu]at BS;exact dB BS
     simpa using h
   . obtain rfl:t=t':=by rw[ht]at WW;exact dB WW
     refine⟨⟨by simpa using h1,C,by simpa using h3⟩,fun h=>?_⟩;have:=bt h0;simp only[gD]at this;omega
 . obtain rfl:i=l.length:=by omega
   have no (h:decide (Int.ofNat l.length<Int.ofNat l.length)=true) {q:Prop}:q:=absurd (kA h) S;refine⟨_,QI tz,[],_,_,ad0 l.length (iO l) l.length ⟨0,0,tz⟩ ⟨0,0,tz⟩,dN (gc fun h _=>no h) (dN (gc fun h _=>no h) (dN (gc fun h _=>no h) (dN (gc fun h _=>no h) (dN (gc fun h _=>no h) (dN (gc fun h _=>no h) (dK (g1 fun h=>⟨all_nil,rfl,eR gh (ak7 _ _ _) (dK (g0 ⟨all_nil,_,_,_,rfl,vT ⟨hn,hz⟩⟩))⟩)))))))⟩
noncomputable abbrev ad2:Code:=dQ Tryz.f166
section
variable(n:Nat)(p:Nat->Int)(os:ai)(i:Nat)
noncomputable abbrev QM:Code:=dH 5 ad2
noncomputable abbrev WPt:gG:=fa 140 [jv p] (jv (iU p)) (fa 138 [jv (iU p)] (.bool (nE (iU p))) W3)
theorem YX:fo ak (WPt p):=ff (QG p) (ff (WT (iU p)) gh)
def fPt(d:Bool):List (Nat×V):=[(3,.ptr (some (0,0))),(4,.ptr (some (1,0))),(5,.ptr (some (2,0))),(6,.ptr (some (3,0))),(7,.ptr (some (4,0))),(9,.bool d)]
def hPt(cs:ai)(x y:Int)(q:Nat->Int)(o:V):af:=[(0,.cells [.eM false n cs]),(1,.cells [R x,R y]),(2,pxC q),(3,.cells [.fk none 0 0 0]),(4,.cells [o])]
def sP0(cs:ai)(x y:Int)(q:Nat->Int)(d:Bool):St:=fI (fPt d) (hL (hPt n cs x y q (.fk none 0 0 0))) 5
def YY(cs:ai)(x y:Int)(q:Nat->Int)(d:Bool)(i:Nat):St:=fI (fPt d++[(10,J i)]) (hL (hPt n cs x y q (.fk none 0 0 0))) 5
def Mp(cs:ai)(x y:Int)(q:Nat->Int)(d:Bool)(m:Nat)(os:ai)(i:Nat):St:=fI (fPt d++[(10,J i)]) (hL (hPt n cs x y q (.fk (some (5,0)) m m 258)++[(5,.deep os)])) 6
def sPX(cs:ai)(x y:Int)(q:Nat->Int)(d:Bool)(m:Nat)(os:ag)(i:Nat):St:=fI (fPt d++[(10,J i)]) (hL (hPt n cs x y q (.fk (some (5,0)) m m 258)++[(5,.cells os)])) 6
theorem ak8(cs:ai)(x y:Int)(p:Nat->Int):H (M (WPt p) []) [] 0 Tryz.f166 [3,4,5,6,7,9] (ek 5 ad2) (dI [.agg [.eM false n cs],.agg [R x,R y],jv p] .nil 0) [([],[fG [jv p],fG [jv (iU p)]],eC (sP0 n cs x y (iU p) (nE (iU p))))]:=G.Y
theorem ak9(cs:ai)(x y:Int)(q:Nat->Int)(d:Bool):H (M W3 []) [] 0 Tryz.f166 [3,4,5,6,7,9,10] (dO (dO QM)) (sP0 n cs x y q d) [([],[],eC (YY n cs x y q d 0))]:=G.Y
def To(m:Nat)(ts:ai):ai:=List.take (m*258) (List.drop 0 os)++ts
abbrev At:Prop:=V.int B (IntKind.i64.wrap (Int.ofNat i+(1:Int)))=J (i+1)
theorem ad3(cs:ai)(x y:Int)(q:Nat->Int)(d:Bool)(i:Nat)(t:Tl):H (M W3 []) [(21,.split),(26,.split),(31,.dL (.eo t.d)),(34,.split),(47,.dL (.eo t.d)),(51,.split),(57,.dL (.eo t.d)),(23,.dL (J (i+1)))] 0 Tryz.f166 [3,4,5,6,7,9,10] (dP (dP (eB (dO QM)))) (YY n cs x y q d i) [([(decide (Int.ofNat i<(Int.ofNat n)),true),(!d,true),(HD x y t.x t.y,true),(!(t.x==x&&(t.y==y&&true)),true)],[fT i n,cs.length=n*258,gv cs i 258 t.d,fT i n,cs.length=n*258,gv cs i 258 t.d,fT i n,cs.length=n*258,gv cs i 258 t.d,At i],eC (sPX n cs x y q true 2 (D.gk ((Tl.mk x y q).d++t.d)) (i+1))),([(decide (Int.ofNat i<(Int.ofNat n)),true),(!d,true),(HD x y t.x t.y,true),(!(t.x==x&&(t.y==y&&true)),false)],[fT i n,cs.length=n*258,gv cs i 258 t.d,fT i n,cs.length=n*258,gv cs i 258 t.d,At i],eC (sPX n cs x y q true 1 (D.gk (Tl.mk x y q).d) (i+1))),([(decide (Int.ofNat i<(Int.ofNat n)),true),(!d,true),(HD x y t.x t.y,false),(!(t.x==x&&(t.y==y&&true)),true)],[fT i n,cs.length=n*258,gv cs i 258 t.d,fT i n,cs.length=n*258,gv cs i 258 t.d,fT i n,cs.length=n*258,gv cs i 258 t.d,At i],eC (sPX n cs x y q d 1 (D.gk t.d) (i+1))),([(decide (Int.ofNat i<(Int.ofNat n)),true),(!d,true),(HD x y t.x t.y,false),(!(t.x==x&&(t.y==y&&true)),false)],[fT i n,cs.length=n*258,gv cs i 258 t.d,fT i n,cs.length=n*258,gv cs i 258 t.d,At i],eC (YY n cs x y q d (i+1))),([(decide (Int.ofNat i<(Int.ofNat n)),true),(!d,false),(!(t.x==x&&(t.y==y&&true)),true)],[fT i n,cs.length=n*258,gv cs i 258 t.d,fT i n,cs.length=n*258,gv cs i 258 t.d,At i],eC (sPX n cs x y q d 1 (D.gk t.d) (i+1))),([(decide (Int.ofNat i<(Int.ofNat n)),true),(!d,false),(!(t.x==x&&(t.y==y&&true)),false)],[fT i n,cs.length=n*258,gv cs i 258 t.d,At i],eC (YY n cs x y q d (i+1))),([(decide (Int.ofNat i<(Int.ofNat n)),false)],[],.to (.exit 0) (YY n cs x y q d i))]:=G.Y
abbrev Au:Prop:=V.int B (IntKind.i64.wrap (Int.ofNat i+(1:Int)))=J (i+1)
theorem ad4(cs:ai)(x y:Int)(q:Nat->Int)(d:Bool)(m:Nat)(os:ai)(i:Nat)(t:Tl):H (M W3 []) [(21,.split),(26,.split),(31,.dL (.eo t.d)),(34,.split),(47,.dL (.eo t.d)),(51,.split),(57,.dL (.eo t.d)),(23,.dL (J (i+1)))] 0 Tryz.f166 [3,4,5,6,7,9,10] (dP (dP (eB (dO QM)))) (Mp n cs x y q d m os i) [([(decide (Int.ofNat i<(Int.ofNat n)),true),(!d,true),(HD x y t.x t.y,true),(!(t.x==x&&(t.y==y&&true)),true)],[fT i n,cs.length=n*258,gv cs i 258 t.d,0+m*258<=os.length,0<1,fM (m+1) 258 272=true,fT i n,cs.length=n*258,gv cs i 258 t.d,fT i n,cs.length=n*258,gv cs i 258 t.d,0+(m+1)*258<=(List.take (m*258) (List.drop 0 os)++(Tl.mk x y q).d).length,0<1,fM (m+1+1) 258 272=true,Au i],eC (Mp n cs x y q true (m+1+1) (To (To os m (Tl.mk x y q).d) (m+1) t.d) (i+1))),([(decide (Int.ofNat i<(Int.ofNat n)),true),(!d,true),(HD x y t.x t.y,true),(!(t.x==x&&(t.y==y&&true)),false)],[fT i n,cs.length=n*258,gv cs i 258 t.d,0+m*258<=os.length,0<1,fM (m+1) 258 272=true,fT i n,cs.length=n*258,gv cs i 258 t.d,Au i],eC (Mp n cs x y q true (m+1) (To os m (Tl.mk x y q).d) (i+1))),([(decide (Int.ofNat i<(Int.ofNat n)),true),(!d,true),(HD x y t.x t.y,false),(!(t.x==x&&(t.y==y&&true)),true)],[fT i n,cs.length=n*258,gv cs i 258 t.d,fT i n,cs.length=n*258,gv cs i 258 t.d,fT i n,cs.length=n*258,gv cs i 258 t.d,0+m*258<=os.length,0<1,fM (m+1) 258 272=true,Au i],eC (Mp n cs x y q d (m+1) (To os m t.d) (i+1))),([(decide (Int.ofNat i<(Int.ofNat n)),true),(!d,true),(HD x y t.x t.y,false),(!(t.x==x&&(t.y==y&&true)),false)],[fT i n,cs.length=n*258,gv cs i 258 t.d,fT i n,cs.length=n*258,gv cs i 258 t.d,Au i],eC (Mp n cs x y q d m os (i+1))),([(decide (Int.ofNat i<(Int.ofNat n)),true),(!d,false),(!(t.x==x&&(t.y==y&&true)),true)],[fT i n,cs.length=n*258,gv cs i 258 t.d,fT i n,cs.length=n*258,gv cs i 258 t.d,0+m*258<=os.length,0<1,fM (m+1) 258 272=true,Au i],eC (Mp n cs x y q d (m+1) (To os m t.d) (i+1))),([(decide (Int.ofNat i<(Int.ofNat n)),true),(!d,false),(!(t.x==x&&(t.y==y&&true)),false)],[fT i n,cs.length=n*258,gv cs i 258 t.d,Au i],eC (Mp n cs x y q d m os (i+1))),([(decide (Int.ofNat i<(Int.ofNat n)),false)],[],.to (.exit 0) (Mp n cs x y q d m os i))]:=G.Y
theorem ala(cs:ai)(x y:Int)(q:Nat->Int)(d:Bool)(i:Nat):H (M W3 []) [(63,.split)] 0 Tryz.f166 [] (eB QM) (YY n cs x y q d i) (fV (!d) ([],.ret (.agg [.fk (some (0,0)) 1 1 258]) (hL [(0,.cells (D.gk (Tl.mk x y q).d))]) 1) ([],.ret (.agg [.fk none 0 0 0]) (hL []) 0)):=G.Y
theorem alb(cs:ai)(x y:Int)(q:Nat->Int)(d:Bool)(m:Nat)(os:ai)(i:Nat):H (M W3 []) [(63,.split)] 0 Tryz.f166 [] (eB QM) (Mp n cs x y q d m os i) (fV (!d) ([0+m*258<=os.length,0<1,fM (m+1) 258 272=true],.ret (.agg [.fk (some (0,0)) (m+1) (m+1) 258]) (hL [(0,.deep (To os m (Tl.mk x y q).d))]) 1) ([],.ret (.agg [.fk (some (0,0)) m m 258]) (hL [(0,.deep os)]) 1)):=G.Y
end
section
variable(x y:Int)(p q:Nat->Int)(s:List Tl×Bool)
def Es(t:Tl):List Tl×Bool:=
 (if t.x=x/\t.y=y then(if s.2=false/\HD x y t.x t.y=true then s.1++[⟨x,y,q⟩]else s.1)else(if s.2=false/\HD x y t.x t.y=true then s.1++[⟨x,y,q⟩]else s.1)++[t],if s.2=false/\HD x y t.x t.y=true then true else s.2)
noncomputable def Dv(l:List Tl):List Tl×Bool:=l.foldl (Es x y (iU p)) ([],nE (iU p))
noncomputable def Uz(l:List Tl):List Tl:=if(Dv x y p l).2=true then(Dv x y p l).1 else(Dv x y p l).1++[⟨x,y,iU p⟩]
theorem N6{x y:Int}{p:Nat->Int}{l:List Tl}{i:Nat}{t:Tl}(h:l[i]? =some t):Dv x y p (l.take (i+1))=Es x y (iU p) (Dv x y p (l.take i)) t:=by
 unfold Dv;rw[cz,h,List.foldl_append];rfl
theorem QN{x y:Int}{q:Nat->Int}{s:List Tl×Bool}{t:Tl}:(Es x y q s t).1.length<=s.1.length+2:=by
 unfold Es;simp only;split<;>split<;>(repeat rw[az])<;>(try simp only[aN,cm])<;>omega
theorem QO(l:List Tl):(Dv x y p l).1.length<=2*l.length:=by
 have key:∀(l:List Tl) (s:List Tl×Bool),(l.foldl (Es x y (iU p)) s).1.length<=s.1.length+2*l.length:=by
  intro l
  induction l with
  |nil=>intro s;simp
  |cons t l ih=>
   intro s;have:=ih (Es x y (iU p) s t);have:=QN (x:=x) (y:=y) (q:=iU p) (s:=s) (t:=t);simp only[List.foldl_cons,aN];omega
 have:=key l ([],nE (iU p));unfold Dv;simpa using this
theorem KW(l:List Tl)(t:Tl):To (iO l) l.length t.d=iO (l++[t]):=by
 unfold To;rw[bA,<- iS l,br];simp[iO]
def YZ(l:List Tl)(x y:Int)(q:Nat->Int)(s:List Tl×Bool)(i:Nat):St:=match s.1 with
 | []=>YY l.length (iO l) x y q s.2 i
 |o::r=>Mp l.length (iO l) x y q s.2 (o::r).length (iO (o::r)) i
end
theorem Y0{l:List Tl}{x y:Int}{q:Nat->Int}{s:List Tl×Bool}{i:Nat}(h:s.1≠[]):YZ l x y q s i=Mp l.length (iO l) x y q s.2 s.1.length (iO s.1) i:=by
 obtain⟨s1,s2⟩:=s;cases s1 with
 |nil=>exact absurd rfl h
 |cons o r=>rfl
theorem QS{k:Nat}(h:k<=100000):fM k 258 272=true:=aW ⟨S,S⟩
theorem jR(l:List Tl)(x y:Int)(p:Nat->Int)(hl:l.length<=1024):ee ak 166 [lu l,.agg [R x,R y],jv p] (lu (Uz x y p l)):=by
 refine mz Tryz.func166 ?_;refine fN 5 (YX p) (ak8 l.length (iO l) x y p) (X rfl (eO rfl)) ?_;generalize hq:iU p=q;have alc:∀k,Dv x y p k=k.foldl (Es x y q) ([],nE q):=fun k=>by rw[<- hq];rfl
 refine nO gh 0 _ [3,4,5,6,7,9,10] (l.length-·.1) (fun z:Nat×List Tl×Bool=>z.1<=l.length/\z.2=Dv x y p (l.take z.1)) (fun z=>YZ l x y q z.2 z.1) (0,[],nE q) ⟨aR _,by rw[alc];rfl⟩ (ak9 _ _ x y q (nE q)) all_nil .refl ?_;rintro⟨i,s⟩ ⟨hi,hs⟩;simp only at hi hs;have jJ:=QO x y p (l.take i);rw[<- hs,bf]at jJ;have ald:i=l.length->Uz x y p l=if s.2=true then s.1 else s.1++[⟨x,y,q⟩]:=fun h=>by unfold Uz;rw[hs,h,br,hq]
 have uq:∀t,l[i]? =some t->∀T,T=Es x y q s t->∀dF,(i<l.length->eJ ak 0 Tryz.f166.ntmps dF (YZ l x y q T (i+1)))->i<l.length->∃z':Nat×List Tl×Bool,l.length-z'.1<l.length-i/\(z'.1<=l.length/\z'.2=Dv x y p (l.take z'.1))/\eJ ak 0 Tryz.f166.ntmps dF (YZ l x y q z'.2 z'.1):=fun t ht T eu dF hS fj=>
  ⟨(i+1,T),uD fj,⟨fj,by rw[N6 ht,<- hs,hq];exact eu⟩,hS fj⟩
 obtain⟨s,d⟩:=s;rcases bx i l.length with fj|PO
 . have nJ:=xF fj;have ht:l[i]? =some l[i]:=au fj;generalize l[i]=t at ht nJ;cases s with
   |nil=>
    refine⟨_,gh,[],_,_,ad3 l.length (iO l) x y q d i t,dN (gc fun _=>gc fun h1=>gc fun C=>g1 fun h3=>⟨?_,uq t ht _ (show(([⟨x,y,q⟩,t],true):List Tl×Bool)=_ from ?_) _ (fun _=>.deep [5] dJ) fj⟩)
     (dN (gc fun _=>gc fun h1=>gc fun C=>g1 fun h3=>⟨?_,uq t ht _ (show(([⟨x,y,q⟩],true):List Tl×Bool)=_ from ?_) _ (fun _=>.deep [5] dJ) fj⟩)
     (dN (gc fun _=>gc fun h1=>gc fun C=>g1 fun h3=>⟨?_,uq t ht _ (show(([t],d):List Tl×Bool)=_ from ?_) _ (fun _=>.deep [5] dJ) fj⟩)
     (dN (gc fun _=>gc fun h1=>gc fun C=>g1 fun h3=>⟨?_,uq t ht _ (show(([],d):List Tl×Bool)=_ from ?_) _ (fun _=>.refl) fj⟩)
     (dN (gc fun _=>gc fun h1=>g1 fun h3=>⟨?_,uq t ht _ (show(([t],d):List Tl×Bool)=_ from ?_) _ (fun _=>.deep [5] dJ) fj⟩)
     (dN (gc fun _=>gc fun h1=>g1 fun h3=>⟨?_,uq t ht _ (show(([],d):List Tl×Bool)=_ from ?_) _ (fun _=>.refl) fj⟩)
     (dK (g1 fun h=>absurd (rG h) S)))))))⟩
    all_goals first
     |(repeat' (first|exact all_nil|refine X ?_ ?_)
       all_goals first|exact iI fj|exact iS l|exact nJ|exact gV S)
     |(simp only[Bool.not_eq_eq_eq_not,Bool.not_true,Bool.not_false,cG,Bool.and_eq_false_imp,ay,ct,cB]at h1 h3
       unfold Es;simp_all)
   |cons o r=>
    have jD:((o::r,d):List Tl×Bool).1≠[]:=by simp
    rw[show YZ l x y q (i,o::r,d).2 (i,o::r,d).1=Mp l.length (iO l) x y q d (o::r).length (iO (o::r)) i from rfl];generalize o::r=os at *;simp only at *;have U:os.length<=4096:=by omega
    have e1:∀t',To (iO os) os.length t'.d=iO (os++[t']):=KW os;have e2:To (iO (os++[⟨x,y,q⟩])) (os.length+1) t.d=iO (os++[⟨x,y,q⟩]++[t]):=by
     have:=KW (os++[⟨x,y,q⟩]) t;rw[az]at this;exact this
    have hr:=ad4 l.length (iO l) x y q d os.length (iO os) i t;have Ye:∀(w:List Tl) (d':Bool) (m:Nat) (k:ai),w≠[]->m=w.length->k=iO w->eJ ak 0 Tryz.f166.ntmps (Mp l.length (iO l) x y q d' m k (i+1)) (YZ l x y q (w,d') (i+1)):=fun w d' m k hw L hk=>by
     rw[Y0 hw,L,hk];exact .refl
    refine⟨_,gh,[],_,_,hr,dN (gc fun _=>gc fun h1=>gc fun C=>g1 fun h3=>⟨?_,uq t ht _ (show((os++[⟨x,y,q⟩]++[t],true):List Tl×Bool)=_ from ?_) _ (fun _=>Ye _ _ _ _ (by simp) (by simp) (by rw[e1,e2])) fj⟩)
     (dN (gc fun _=>gc fun h1=>gc fun C=>g1 fun h3=>⟨?_,uq t ht _ (show((os++[⟨x,y,q⟩],true):List Tl×Bool)=_ from ?_) _ (fun _=>Ye _ _ _ _ (by simp) (by simp) (by rw[e1])) fj⟩)
     (dN (gc fun _=>gc fun h1=>gc fun C=>g1 fun h3=>⟨?_,uq t ht _ (show((os++[t],d):List Tl×Bool)=_ from ?_) _ (fun _=>Ye _ _ _ _ (by simp) (by simp) (by rw[e1])) fj⟩)
     (dN (gc fun _=>gc fun h1=>gc fun C=>g1 fun h3=>⟨?_,uq t ht _ (show((os,d):List Tl×Bool)=_ from ?_) _ (fun _=>Ye _ _ _ _ jD rfl rfl) fj⟩)
     (dN (gc fun _=>gc fun h1=>g1 fun h3=>⟨?_,uq t ht _ (show((os++[t],d):List Tl×Bool)=_ from ?_) _ (fun _=>Ye _ _ _ _ (by simp) (by simp) (by rw[e1])) fj⟩)
     (dN (gc fun _=>gc fun h1=>g1 fun h3=>⟨?_,uq t ht _ (show((os,d):List Tl×Bool)=_ from ?_) _ (fun _=>Ye _ _ _ _ jD rfl rfl) fj⟩)
     (dK (g1 fun h=>absurd (rG h) S)))))))⟩
    all_goals first
     |(repeat' (first|exact all_nil|refine X ?_ ?_)
       all_goals first|exact iI fj|exact iS l|exact nJ|exact gV S|exact Nat.zero_lt_one|exact QS S|(rw[iS];omega)|(rw[bA,az,bf,iS,Tl.Fk];omega))
     |(simp only[Bool.not_eq_eq_eq_not,Bool.not_true,Bool.not_false,cG,Bool.and_eq_false_imp,ay,ct,cB]at h1 h3
       unfold Es;simp_all)
 . obtain rfl:i=l.length:=by omega
   have hf:=ald rfl;have no (h:decide (Int.ofNat l.length<Int.ofNat l.length)=true) {q:Prop}:q:=absurd (kA h) S;cases s with
   |nil=>
    refine⟨_,gh,[],_,_,ad3 l.length (iO l) x y q d l.length ⟨0,0,tz⟩,dN (gc fun h _=>no h) (dN (gc fun h _=>no h) (dN (gc fun h _=>no h) (dN (gc fun h _=>no h) (dN (gc fun h _=>no h) (dN (gc fun h _=>no h) (dK (g1 fun _=>⟨all_nil,rfl,eR gh (ala _ _ x y q d _) (dN (g1 fun h=>⟨all_nil,_,_,_,rfl,?_⟩) (dK (g1 fun h=>⟨all_nil,_,_,_,rfl,?_⟩)))⟩)))))))⟩
    . have hd:d=false:=by simpa using h
      rw[hf,hd,aD (by simp)];exact .Am (v0:=.agg [.eM false 1 (Tl.mk x y q).d]) [0] (hc:=[258=1*258]) dJ (eO rfl) dJ dJ
    . have hd:d=true:=by simpa using h
      rw[hf,hd,aF rfl];exact .self rfl rfl
   |cons o r=>
    rw[show YZ l x y q (l.length,o::r,d).2 (l.length,o::r,d).1=Mp l.length (iO l) x y q d (o::r).length (iO (o::r)) l.length from rfl];generalize o::r=os at *;simp only at *;have U:os.length<=4096:=by omega
    have fz (w:List Tl) (m:Nat) (k:ai) (L:m=w.length) (hk:k=iO w):uI (lu w) (.agg [.fk (some (0,0)) m m 258]) (hL [(0,.deep k)]) 1:=by
     subst L hk;exact .Am (v0:=lu w) [0] (hc:=[(iO w).length=w.length*258]) dJ (eO (iS w)) dJ dJ
    refine⟨_,gh,[],_,_,ad4 l.length (iO l) x y q d os.length (iO os) l.length ⟨0,0,tz⟩,dN (gc fun h _=>no h) (dN (gc fun h _=>no h) (dN (gc fun h _=>no h) (dN (gc fun h _=>no h) (dN (gc fun h _=>no h) (dN (gc fun h _=>no h) (dK (g1 fun _=>⟨all_nil,rfl,eR gh (alb _ _ x y q d _ _ _) (dN (g1 fun h=>⟨X (by rw[iS];omega) (X fg (eO (QS S))),_,_,_,rfl,?_⟩) (dK (g1 fun h=>⟨all_nil,_,_,_,rfl,?_⟩)))⟩)))))))⟩
    . have hd:d=false:=by simpa using h
      rw[hf,hd,aD (by simp)];exact fz _ _ _ (by simp) (KW os ⟨x,y,q⟩)
    . have hd:d=true:=by simpa using h
      rw[hf,hd,aF rfl];exact fz _ _ _ rfl rfl
abbrev ra(n:Nat)(cs:ai):V:=.agg [.eM false n cs]
noncomputable abbrev ale:Code:=dQ Tryz.f134
noncomputable abbrev alf:Code:=dQ Tryz.f108
noncomputable abbrev ad5:Code:=dQ Tryz.f67
section
variable(n c k:Nat)
noncomputable abbrev Y1:Code:=dH 2 ad5
theorem alg(cs:ai)(b:Bool):H (M (fa 115 [ra n cs] (.bool b) W3) []) [(7,.split)] 0 Tryz.f134 [] (ale) (dI [ra n cs] .nil 0) (fV (!b) ([fG [ra n cs]],.ret (.agg [.fk none 0 0 0]) (hL []) 0) ([fG [ra n cs]],.ret (.agg [.eM false n cs]) (hL []) 0)):=G.Y
abbrev UA(r g b a:Int):V:=.agg [.int .u8 r,.int .u8 g,.int .u8 b,.int .u8 a]
abbrev Mq(x:Int):Int:=IntKind.i64.wrap (x-IntKind.i64.wrap (8*sX x))
noncomputable abbrev WS8(cs:ai)(m:Nat)(os:ai)(x y r g b a:Int)(p q:Nat->Int)(k:Nat)(us:ai):gG:=fa 134 [ra n cs] (ra m os) (fa 133 [ra m os,.agg [R (sX x),R (sX y)]] (jv p) (fa 136 [jv p,R (Mq x),R (Mq y),UA r g b a] (jv q) (fa 166 [ra m os,.agg [R (sX x),R (sX y)],jv q] (ra k us) W3)))
theorem alh(cs:ai)(m:Nat)(os:ai)(x y r g b a:Int)(p q:Nat->Int)(k:Nat)(us:ai):H (M (WS8 n cs m os x y r g b a p q k us) [(135,[(9,.split)]),(165,[(6,.split)])]) [] 0 Tryz.f108 [] (alf) (dI [ra n cs,R x,R y,UA r g b a] .nil 0) (Ur (!B3 (sX x) (sX y)) (decide ((Int.ofNat k)>(1024:Int))) ([fG [ra n cs],fG [ra m os,.agg [R (sX x),R (sX y)]],fG [jv p,R (Mq x),R (Mq y),UA r g b a]],.ret (.agg [.fk none 0 0 0,.int .i64 1]) (hL []) 0) ([fG [ra n cs],fG [ra m os,.agg [R (sX x),R (sX y)]],fG [jv p,R (Mq x),R (Mq y),UA r g b a],fG [ra n cs],fG [ra m os,.agg [R (sX x),R (sX y)],jv q]],.ret (.agg [.fk none 0 0 0,.int .i64 2]) (hL []) 0) ([fG [ra n cs],fG [ra m os,.agg [R (sX x),R (sX y)]],fG [jv p,R (Mq x),R (Mq y),UA r g b a],fG [ra n cs],fG [ra m os,.agg [R (sX x),R (sX y)],jv q]],.ret (.agg [.eM false k us,.int .i64 0]) (hL []) 0)):=G.Y
def WX(cs:ai)(m:Nat)(os:ai)(i:Nat):St:=fI [(0,.eM false n cs),(2,.ptr (some (0,0))),(3,.ptr (some (1,0))),(4,J i)] (hL [(0,.cells [.eM false 0 []]),(1,.cells [.eM false m os])]) 2
def WY(cs:ai)(m:Nat)(os:ai)(i:Nat)(r g b a:Int)(k:Nat):St:=fI [(0,.eM false n cs),(2,.ptr (some (0,0))),(3,.ptr (some (1,0))),(4,J i),(5,.ptr (some (2,0))),(6,J k)] (hL [(0,.cells [.eM false 0 []]),(1,.cells [.eM false m os]),(2,.cells [.int .u8 r,.int .u8 g,.int .u8 b,.int .u8 a])]) 3
noncomputable abbrev Y2:Code:=dP (dP (eB (dO Y1)))
noncomputable abbrev ad6:Code:=dP (dO (eB Y2))
noncomputable abbrev ali:Code:=dP (dP (dH 2 ad6))
theorem alj(cs:ai):H (M W3 []) [] 0 Tryz.f67 [0,2,3] (ek 2 ad5) (dI [.eM false n cs] .nil 0) [([],[],eC (fI [(0,.eM false n cs),(2,.ptr (some (0,0))),(3,.ptr (some (1,0)))] (hL [(0,.cells [.fk none 0 0 0]),(1,.cells [.fk none 0 0 0])]) 2))]:=G.Y
theorem alk(cs:ai):H (M W3 []) [] 0 Tryz.f67 [0,2,3,4] (dO (dO Y1)) (fI [(0,.eM false n cs),(2,.ptr (some (0,0))),(3,.ptr (some (1,0)))] (hL [(0,.cells [.eM false 0 []]),(1,.cells [.eM false 0 []])]) 2) [([],[],eC (WX n cs 0 [] 0))]:=G.Y
theorem alm(cs:ai)(m:Nat)(os:ai)(i:Nat):H (M W3 []) [(12,.split)] 0 Tryz.f67 [0,2,3,4] (dO Y2) (WX n cs m os i) (fV (decide (Int.ofNat i<(Int.ofNat n))) ([],eC (WX n cs m os i)) ([],.to (.exit 0) (WX n cs m os i))):=G.Y
theorem aln(cs:ai)(m:Nat)(os:ai)(i:Nat)(v:Int):H (M W3 []) [(17,.dL (.eo [.int .i64 v])),(22,.dL (.eo [.int .i64 v])),(28,.dL (.eo [.int .i64 v])),(34,.dL (.eo [.int .i64 v]))] 0 Tryz.f67 [0,2,3,4,5,6] (ek 2 ad6) (WX n cs m os i) [([],[fT i n,cs.length=n*1,gv cs i 1 [D.int B v],fT i n,cs.length=n*1,gv cs i 1 [D.int B v],fT i n,cs.length=n*1,gv cs i 1 [D.int B v],fT i n,cs.length=n*1,gv cs i 1 [D.int B v]],eC (fI [(0,.eM false n cs),(2,.ptr (some (0,0))),(3,.ptr (some (1,0))),(4,.int .i64 (Int.ofNat i)),(5,.ptr (some (2,0))),(6,.int .i64 0)] (hL [(0,.cells [.eM false 0 []]),(1,.cells [.eM false m os]),(2,.cells [.int .u8 (IntKind.u8.wrap v),.int .u8 (IntKind.u8.wrap (v.fdiv (32:Int))),.int .u8 (IntKind.u8.wrap (v.fdiv (512:Int))),.int .u8 (IntKind.u8.wrap (Int.ofNat (BitVec.ofInt 8 (IntKind.u8.wrap (v.fdiv (8:Int)))|||BitVec.ofInt 8 (15:Int)).toNat))])]) 3))]:=G.Y
abbrev QT(v dV:Int):Prop:=V.int B (IntKind.i64.wrap (IntKind.i64.wrap (IntKind.i64.wrap (Int.ofNat (BitVec.ofInt 64 (v.fdiv (256:Int))&&&BitVec.ofInt 64 (15:Int)).toNat)-(4:Int))+IntKind.i64.wrap (Int.ofNat k*IntKind.i64.wrap (Int.ofNat (BitVec.ofInt 64 v&&&BitVec.ofInt 64 (1:Int)).toNat))))=R dV
abbrev QU(v fm:Int):Prop:=V.int B (IntKind.i64.wrap (IntKind.i64.wrap (IntKind.i64.wrap (Int.ofNat (BitVec.ofInt 64 (v.fdiv (16:Int))&&&BitVec.ofInt 64 (15:Int)).toNat)-(4:Int))+Int.ofNat k))=R fm
abbrev KX(v:Int):Prop:=V.int B (IntKind.i64.wrap ((1:Int)+IntKind.i64.wrap (Int.ofNat (BitVec.ofInt 64 v&&&BitVec.ofInt 64 (7:Int)).toNat)))=J c
abbrev QV:Prop:=V.int B (IntKind.i64.wrap (Int.ofNat k+(1:Int)))=J (k+1)
theorem alo(cs:ai)(m:Nat)(os:ai)(i:Nat)(r g b a:Int)(k c:Nat)(v fm dV:Int)(k2:Nat)(us:ai)(e:Int):H (M (fa 108 [ra m os,R fm,R dV,UA r g b a] (.agg [.eM false k2 us,R e]) W3) []) [(43,.dL (.eo [.int .i64 v])),(46,.dL (J c)),(47,.split),(53,.dL (.eo [.int .i64 v])),(62,.dL (.eo [.int .i64 v])),(70,.dL (.eo [.int .i64 v])),(59,.dL (R fm)),(74,.dL (R dV)),(79,.split),(49,.dL (J (k+1)))] 0 Tryz.f67 [0,2,3,4,5,6] (ali) (WY n cs m os i r g b a k) (sI (decide (Int.ofNat k<Int.ofNat c)) (e==(0:Int)) ([fT i n,cs.length=n*1,gv cs i 1 [D.int B v],KX c v,fT i n,cs.length=n*1,gv cs i 1 [D.int B v],QU k v fm,fT i n,cs.length=n*1,gv cs i 1 [D.int B v],fT i n,cs.length=n*1,gv cs i 1 [D.int B v],QT k v dV,fG [ra m os,R fm,R dV,UA r g b a],QV k],eC (WY n cs k2 us i r g b a (k+1))) ([fT i n,cs.length=n*1,gv cs i 1 [D.int B v],KX c v,fT i n,cs.length=n*1,gv cs i 1 [D.int B v],QU k v fm,fT i n,cs.length=n*1,gv cs i 1 [D.int B v],fT i n,cs.length=n*1,gv cs i 1 [D.int B v],QT k v dV,fG [ra m os,R fm,R dV,UA r g b a],QV k],eC (WY n cs m os i r g b a (k+1))) ([fT i n,cs.length=n*1,gv cs i 1 [D.int B v],KX c v],.to (.exit 2) (WY n cs m os i r g b a k))):=G.Y
theorem alp(cs:ai)(m:Nat)(os:ai)(i:Nat)(r g b a:Int)(k:Nat):H (M W3 []) [(14,.dL (J (i+1)))] 0 Tryz.f67 [0,2,3,4] (eB (eB Y2)) (WY n cs m os i r g b a k) [([],[oq i],eC (WX n cs m os (i+1)))]:=G.Y
theorem alq(cs:ai)(m:Nat)(os:ai)(i:Nat):H (M W3 []) [] 0 Tryz.f67 [] (eB Y1) (WX n cs m os i) [([],[],.ret (.agg [.eM false m os]) (hL []) 0)]:=G.Y
end
noncomputable def QW(l:List Tl):List Tl:=if cD (fK l)=true then l else[]
theorem Gv{p:Prop}:cD p=true↔p:=by
 constructor
 . intro h;by_cases q:p
   . exact q
   . rw[Uw q]at h;cases h
 . exact QD
theorem UB(l:List Tl):(QW l).length<=1024:=by
 unfold QW;split
 . rename_i h;exact(Gv.1 h).1
 . simp
theorem ofD(l:List Tl)(hl:l.length<=1000000):ee ak 134 [lu l] (lu (QW l)):=by
 refine mz Tryz.func134 ?_;refine eR (ff (QL l hl) gh) (alg l.length (iO l) (cD (fK l))) (dN (g1 fun h=>⟨eO rfl,_,_,_,rfl,?_⟩) (dK (g1 fun h=>⟨eO rfl,_,_,_,rfl,?_⟩)))
 . have h:cD (fK l)=false:=by simpa using h
   rw[show QW l=[]from aD (by rw[h];simp)];exact .self rfl rfl
 . have h:cD (fK l)=true:=by simpa using h
   rw[show QW l=l from aF h];exact .self rfl rfl
def alr(s:List Tl×Int):V:=.agg [.eM false s.1.length (iO s.1),R s.2]
noncomputable def I8(l:List Tl)(x y r g b a:Int):List Tl:=Uz (sX x) (sX y) (KU (yO (sX x) (sX y) (QW l)) (Mq x) (Mq y) r g b a) (QW l)
noncomputable def wQ(l:List Tl)(x y r g b a:Int):List Tl×Int:=if B3 (sX x) (sX y)=true then(if 1024<(I8 l x y r g b a).length then([],2)else(I8 l x y r g b a,0))else([],1)
theorem N7(l:List Tl)(x y r g b a:Int):(wQ l x y r g b a).1.length<=1024:=by
 unfold wQ;split
 . split
   . simp
   . simp only;omega
 . simp
theorem ad7(l:List Tl)(x y r g b a:Int)(hl:l.length<=1000000):ee ak 108 [lu l,R x,R y,UA r g b a] (alr (wQ l x y r g b a)):=by
 refine mz Tryz.func108 ?_;have ho:=UB l;have es:fG [ra l.length (iO l)]:=rfl;have k:=ff (ofD l hl) (ff (ad1 (QW l) (sX x) (sX y) S) (ff (ak1 (yO (sX x) (sX y) (QW l)) (Mq x) (Mq y) r g b a) (ff (jR (QW l) (sX x) (sX y) (KU (yO (sX x) (sX y) (QW l)) (Mq x) (Mq y) r g b a) ho) gh)));refine eR k (alh l.length (iO l) _ _ x y r g b a _ _ _ _) (dN (g1 fun h=>⟨X rfl (X rfl (eO rfl)),_,_,_,rfl,?_⟩) (dN (g2 fun h C=>⟨X rfl (X rfl (X rfl (X rfl (eO rfl)))),_,_,_,rfl,?_⟩) (dK (g2 fun h C=>⟨X rfl (X rfl (X rfl (X rfl (eO rfl)))),_,_,_,rfl,?_⟩))))
 . have h:B3 (sX x) (sX y)=false:=by simpa using h
   rw[show wQ l x y r g b a=([],1)from aD (by rw[h];simp)];exact .self rfl rfl
 . have h:B3 (sX x) (sX y)=true:=by simpa using h
   have C:=aZ C;rw[show wQ l x y r g b a=([],2)from(aF h).trans (aF (by simp only[gD]at C;unfold I8;omega))];exact .self rfl rfl
 . have h:B3 (sX x) (sX y)=true:=by simpa using h
   have C:=bt C;rw[show wQ l x y r g b a=(I8 l x y r g b a,0)from(aF h).trans (aD (by simp only[gD]at C;unfold I8;omega))];exact .self rfl rfl
def eL(l:List Int):ai:=l.map (.int .i64)
abbrev jo(l:List Int):Prop:=(eL l).length=l.length*1
abbrev fD(l:List Int):V:=.eM false l.length (eL l)
theorem eI(l:List Int):(eL l).length=l.length*1:=by simp[eL]
theorem rH{l:List Int}{i:Nat}{v:Int}(h:l[i]? =some v):V.eo (dU (eL l) (i*1) 1)= .eo [.int .i64 v]:=by
 unfold dU eL;have fj:i<l.length:=(aS.1 h).1;have hv:l[i]=v:=(aS.1 h).2;rw[cR,<- List.map_drop,<- dh,bC fj,hv];rfl
def UC(v:Int):Int:=IntKind.u8.wrap v
def UD(v:Int):Int:=IntKind.u8.wrap (v.fdiv 32)
def UE(v:Int):Int:=IntKind.u8.wrap (v.fdiv 512)
def UF(v:Int):Int:=IntKind.u8.wrap (Int.ofNat (BitVec.ofInt 8 (IntKind.u8.wrap (v.fdiv (8:Int)))|||BitVec.ofInt 8 (15:Int)).toNat)
def D4(v:Int):Nat:=1+(BitVec.ofInt 64 v&&&BitVec.ofInt 64 (7:Int)).toNat
def sx(v:Int)(k:Nat):Int:=IntKind.i64.wrap (IntKind.i64.wrap (IntKind.i64.wrap (Int.ofNat (BitVec.ofInt 64 (v.fdiv (16:Int))&&&BitVec.ofInt 64 (15:Int)).toNat)-(4:Int))+Int.ofNat k)
def sy(v:Int)(k:Nat):Int:=IntKind.i64.wrap (IntKind.i64.wrap (IntKind.i64.wrap (Int.ofNat (BitVec.ofInt 64 (v.fdiv (256:Int))&&&BitVec.ofInt 64 (15:Int)).toNat)-(4:Int))+IntKind.i64.wrap (Int.ofNat k*IntKind.i64.wrap (Int.ofNat (BitVec.ofInt 64 v&&&BitVec.ofInt 64 (1:Int)).toNat)))
theorem QX(v:Int):D4 v<=8:=by
 unfold D4;have:(BitVec.ofInt 64 v&&&BitVec.ofInt 64 (7:Int)).toNat<=7:=by
  rw[BitVec.toNat_and];exact Nat.and_le_right
 omega
theorem QY(v:Int):V.int B (IntKind.i64.wrap ((1:Int)+IntKind.i64.wrap (Int.ofNat (BitVec.ofInt 64 v&&&BitVec.ofInt 64 (7:Int)).toNat)))=J (D4 v):=by
 have h:=QX v;unfold D4 at h ⊢;generalize (BitVec.ofInt 64 v&&&BitVec.ofInt 64 (7:Int)).toNat=m at h;rw[iz (x:=Int.ofNat m) (by simp only[gD];omega) (by simp only[gD];omega)];exact xD (by simp only[gD];omega) S
noncomputable def N8(v:Int)(l:List Tl)(k:Nat):List Tl:=if(wQ l (sx v k) (sy v k) (UC v) (UD v) (UE v) (UF v)).2=0 then(wQ l (sx v k) (sy v k) (UC v) (UD v) (UE v) (UF v)).1 else l
noncomputable def uE(v:Int)(l:List Tl)(k:Nat):List Tl:=(List.range k).foldl (N8 v) l
noncomputable def ot(vs:List Int):List Tl:=vs.foldl (fun l v=>uE v l (D4 v)) []
theorem Av(v:Int)(l:List Tl)(k:Nat):uE v l (k+1)=N8 v (uE v l k) k:=by
 unfold uE;rw[List.range_succ,List.foldl_append];rfl
theorem I9{vs:List Int}{i:Nat}{v:Int}(h:vs[i]? =some v):ot (vs.take (i+1))=uE v (ot (vs.take i)) (D4 v):=by
 unfold ot;rw[cz,h,List.foldl_append];rfl
theorem QZ{v:Int}{l:List Tl}{k:Nat}(h:l.length<=1024):(N8 v l k).length<=1024:=by
 unfold N8;split
 . exact N7 ..
 . exact h
theorem Dw{v:Int}{l:List Tl}(h:l.length<=1024):∀k,(uE v l k).length<=1024
 |0=>h
 |k+1=>by rw[Av];exact QZ (Dw h k)
theorem xG(vs:List Int):(ot vs).length<=1024:=by
 have:∀(vs:List Int) (l:List Tl),l.length<=1024->(vs.foldl (fun l v=>uE v l (D4 v)) l).length<=1024:=by
  intro vs
  induction vs with
  |nil=>exact fun l h=>h
  |cons v vs ih=>exact fun l h=>ih _ (Dw h _)
 exact this vs [] (by simp)
theorem Q0(vs:List Int)(hv:vs.length<=1000000):ee ak 67 [fD vs] (lu (ot vs)):=by
 refine fc Tryz.func67 ?_;refine fN 2 gh (alj vs.length (eL vs)) all_nil ?_;refine(eJ.nl (dF:=fI [(0,.eM false vs.length (eL vs)),(2,.ptr (some (0,0))),(3,.ptr (some (1,0)))] (hL [(0,.cells [.eM false 0 []]),(1,.cells [.eM false 0 []])]) 2) dJ) _ _ ?_;refine dY dJ (dY dJ (gw gh eP (alk _ _) (dK (g0 ⟨all_nil,fun T eu=>?_⟩))));simp only[andThen];refine Fg (α:=Nat) 0 (vs.length-·) (. <=vs.length) (fun i=>WX vs.length (eL vs) (ot (vs.take i)).length (iO (ot (vs.take i))) i) dJ dJ 0 (aR _) (.norm eu) fun i hi=>?_;have jJ:=xG (vs.take i);refine dY dJ (gw gh eP (alm _ _ _ _ i) (dN (g1 fun h=>⟨all_nil,fun T eu=>?_⟩) (dK (g1 fun h=>⟨all_nil,fun T eu=>?_⟩))))
 . have fj:=kA h;obtain⟨v,hv⟩:∃v,vs[i]? =some v:=⟨_,au fj⟩;have nJ:=rH hv;simp only[andThen];refine gj eu (dY dJ (fJ (i:=1) dJ ?_));have A3 {r:ah} (q:∀a∈r,a):=X (iI fj) (X (eI vs) (X nJ q));refine fN 2 gh (aln _ _ _ _ i v) (A3 (A3 (A3 (A3 all_nil)))) ?_;generalize hL:ot (vs.take i)=l at *;refine Fi (α:=Nat) (fn:=Tryz.f67) 2 eP [0,2,3,4,5,6] (D4 v-·) (. <=D4 v) (fun k=>WY vs.length (eL vs) (uE v l k).length (iO (uE v l k)) i (UC v) (UD v) (UE v) (UF v) k) 0 (aR _) .refl fun k hk=>?_;have hl:=Dw (v:=v) jJ k;have kc:=QX v;refine⟨_,ff (ad7 (uE v l k) (sx v k) (sy v k) (UC v) (UD v) (UE v) (UF v) S) gh,[],_,_,alo _ _ _ _ i (UC v) (UD v) (UE v) (UF v) k (D4 v) v (sx v k) (sy v k) _ _ _,
    dN (g2 fun h1 C=>⟨?_,k+1,uD (kA h1),kA h1,?_⟩) (dN (g2 fun h1 C=>⟨?_,k+1,uD (kA h1),kA h1,?_⟩) (dK (g1 fun h1=>⟨A3 (eO (QY v)),fun s2 rP=>?_⟩)))⟩
   . have hk1:=kA h1
     repeat' (first|exact all_nil|refine X ?_ ?_)
     all_goals first|exact iI fj|exact eI vs|exact nJ|exact QY v|exact gV S|rfl
   rotate_left
   . have hk1:=kA h1
     repeat' (first|exact all_nil|refine X ?_ ?_)
     all_goals first|exact iI fj|exact eI vs|exact nJ|exact QY v|exact gV S|rfl
   rotate_right
   . have C:(wQ (uE v l k) (sx v k) (sy v k) (UC v) (UD v) (UE v) (UF v)).2=0:=by simpa using C
     show eJ ak 0 Tryz.f67.ntmps _ (WY vs.length (eL vs) (uE v l (k+1)).length (iO (uE v l (k+1))) i (UC v) (UD v) (UE v) (UF v) (k+1));rw[Av,show N8 v (uE v l k) k=_ from aF C];exact .refl
   . have C:¬(wQ (uE v l k) (sx v k) (sy v k) (UC v) (UD v) (UE v) (UF v)).2=0:=by simpa using C
     show eJ ak 0 Tryz.f67.ntmps _ (WY vs.length (eL vs) (uE v l (k+1)).length (iO (uE v l (k+1))) i (UC v) (UD v) (UE v) (UF v) (k+1));rw[Av,show N8 v (uE v l k) k=_ from aD C];exact .refl
   . have hkc:k=D4 v:=by have:=rG h1;omega
     subst hkc;rw[jc];simp only[andThen,gT,cI,reduceCtorEq];refine gj rP (gw gh eP (alp _ _ _ _ i _ _ _ _ _) (dK (g0 ⟨eO (gV S),fun s3 N9=>⟨i+1,uD fj,fj,?_⟩⟩)));rw[I9 hv,hL];exact .norm N9
 . have PO:=rG h;obtain rfl:i=vs.length:=by omega
   simp only[andThen,jc];refine gj eu (eR gh (alq _ _ _ _ _) (dK (g0 ⟨all_nil,_,_,_,rfl,?_⟩)));rw[br];rfl
noncomputable abbrev ad8:Code:=dQ Tryz.f109
noncomputable abbrev Y3:Code:=dH 3 ad8
noncomputable abbrev ad9:Code:=dH 1 Y3
noncomputable abbrev Q4:Code:=dH 3 ad9
section
variable(n:Nat)(W:List Int)(m:Nat)
def a16(v:Int):Int:=IntKind.i64.wrap (Int.ofNat (BitVec.ofInt 64 v&&&BitVec.ofInt 64 (65535:Int)).toNat)
def apI(x:Int):List Int:=List.take (m*1) (List.drop 0 W)++[x]
def crv(s' lw c:Int):Int:=IntKind.i64.wrap (lw+IntKind.i64.wrap ((IntKind.i64.wrap (c*IntKind.i64.wrap ((65535:Int)-lw))).tdiv s'))
def Y4(cs:ai)(W:List Int)(m:Nat)(s':Int)(i:Nat):St:=fI [(0,.eM false n cs),(3,.fk (some (0,0)) m m 1),(4,R s'),(5,J i)] (hL [(0,.own .i64 W)]) 1
def Y5(s' lw:Int)(i:Nat):St:=fI [(3,.fk (some (0,0)) m m 1),(4,R s'),(6,R lw),(7,J i)] (hL [(0,.own .i64 W)]) 1
theorem alv(cs:ai):H (M W3 []) [] 0 Tryz.f109 [0,3,4] (ek 3 ad8) (dI [.eM false n cs] .nil 0) [([],[],eC (fI [(0,.eM false n cs),(3,.fk (some (0,0)) 1 1 1),(4,.int .i64 0)] (hL [(0,.cells [.int .i64 0])]) 1))]:=G.Y
theorem alw(cs:ai):H (M W3 []) [] 0 Tryz.f109 [0,3,4,5] (dO (dO Y3)) (fI [(0,.eM false n cs),(3,.fk (some (0,0)) 1 1 1),(4,R 0)] (hL [(0,.own .i64 [0])]) 1) [([],[],eC (Y4 n cs [0] 1 0 0))]:=G.Y
theorem alx(cs:ai)(W:List Int)(m:Nat)(s':Int)(i:Nat)(v:Int):H (M W3 []) [(13,.split),(15,.dL (.bool true)),(22,.dL (.eo [.int .i64 v])),(18,.dL (J (i+1)))] 0 Tryz.f109 [0,3,4,5] (dP (dP (eB (dO Y3)))) (Y4 n cs W m s' i) (fV (decide (Int.ofNat i<(Int.ofNat n))) ([kr (decide (Int.ofNat i<(256:Int))),fT i n,cs.length=n*1,gv cs i 1 [D.int B v],0<m,0+m*1<=W.length,0<1,fM (m+1) 1 8=true,oq i],eC (Y4 n cs (apI W m (IntKind.i64.wrap (s'+a16 v))) (m+1) (IntKind.i64.wrap (s'+a16 v)) (i+1))) ([],.to (.exit 0) (Y4 n cs W m s' i))):=G.Y
theorem aly(cs:ai)(W:List Int)(m:Nat)(s':Int)(i:Nat)(v w:Int):H (M W3 []) [(32,.dL (.bool false)),(39,.dL (.bool true)),(41,.dL (.eo [.int .i64 v])),(44,.split),(47,.dL (.eo [.int .i64 w]))] 0 Tryz.f109 [3,4,6] (ek 3 ad9) (Y4 n cs W m s' i) (fV (IntKind.i64.wrap (Int.ofNat (BitVec.ofInt 64 v&&&BitVec.ofInt 64 (7:Int)).toNat)==(3:Int)) ([kP (decide ((Int.ofNat m)<(2:Int))),kr (decide ((Int.ofNat n)>(2:Int))),(0:Int)<=(0:Int)/\(0:Int)<(Int.ofNat n),cs.length=n*1,V.eo (dU cs 0 1)=V.eo [D.int B v],(0:Int)<=(1:Int)/\(1:Int)<(Int.ofNat n),cs.length=n*1,V.eo (dU cs 1 1)=V.eo [D.int B w]],eC (fI [(3,.fk (some (0,0)) m m 1),(4,R s'),(6,R (IntKind.i64.wrap (Int.ofNat (BitVec.ofInt 64 w&&&BitVec.ofInt 64 (4095:Int)).toNat)))] (hL [(0,.own .i64 W)]) 1)) ([kP (decide ((Int.ofNat m)<(2:Int))),kr (decide ((Int.ofNat n)>(2:Int))),(0:Int)<=(0:Int)/\(0:Int)<(Int.ofNat n),cs.length=n*1,V.eo (dU cs 0 1)=V.eo [D.int B v]],eC (fI [(3,.fk (some (0,0)) m m 1),(4,R s'),(6,R 0)] (hL [(0,.own .i64 W)]) 1))):=G.Y
theorem alz(s' lw:Int):H (M W3 []) [] 0 Tryz.f109 [3,4,6,7] (dO (dO Q4)) (fI [(3,.fk (some (0,0)) m m 1),(4,R s'),(6,R lw)] (hL [(0,.own .i64 W)]) 1) [([],[],eC (Y5 W m s' lw 0))]:=G.Y
theorem alA(s' lw:Int)(i:Nat)(c:Int):H (M W3 []) [(54,.split),(56,.split),(66,.dL (R c)),(59,.dL (J (i+1)))] 0 Tryz.f109 [3,4,6,7] (dP (dP (eB (dO Q4)))) (Y5 W m s' lw i) (BJ (decide (Int.ofNat i<(Int.ofNat m))) (decide (s'>(0:Int))) ([fT i m,0+i*1<W.length,V.int B (W.getD (0+i*1) (0:Int))=R c,s'≠(0:Int),fT i m,0+i*1+1<=W.length,oq i],eC (Y5 (By W (0+i*1) [crv s' lw c]) m s' lw (i+1))) ([],.to (.exit 2) (Y5 W m s' lw i))):=G.Y
theorem alB(s' lw:Int)(i:Nat):H (M W3 []) [] 0 Tryz.f109 [] (eB Q4) (Y5 W m s' lw i) [([],[],.ret (.fk (some (0,0)) m m 1) (hL [(0,.own .i64 W)]) 1)]:=G.Y
end
section
variable(s:List Int)(f:Int->Int)(W:List Int)(i:Nat)
def rI:List Int×Int:=s.foldl (fun x v=>(x.1++[IntKind.i64.wrap (x.2+a16 v)],IntKind.i64.wrap (x.2+a16 v))) ([0],0)
theorem Q5{s:List Int}{i:Nat}{v:Int}(h:s[i]? =some v):rI (s.take (i+1))=((rI (s.take i)).1++[IntKind.i64.wrap ((rI (s.take i)).2+a16 v)],IntKind.i64.wrap ((rI (s.take i)).2+a16 v)):=by
 unfold rI;rw[cz,h,List.foldl_append];rfl
theorem Mr:(rI s).1.length=s.length+1:=by
 have:∀(s:List Int) (x:List Int×Int),(s.foldl (fun x v=>(x.1++[IntKind.i64.wrap (x.2+a16 v)],IntKind.i64.wrap (x.2+a16 v))) x).1.length=x.1.length+s.length:=by
  intro s
  induction s with
  |nil=>intro x;rfl
  |cons v s ih=>intro x;rw[List.foldl_cons,ih,az];simp;omega
 unfold rI;rw[this];simp;omega
theorem Y6(x:Int):apI W W.length x=W++[x]:=by
 unfold apI;rw[bA,cR,br]
def mx:List Int:=(W.take i).map f++W.drop i
theorem Gw:(mx f W i).length=W.length:=by
 unfold mx;rw[az,bM,bf,dA];omega
end
section
variable(s:List Int){f:Int->Int}{W:List Int}{i:Nat}{c:Int}
theorem Y7(h:W[i]? =some c):(mx f W i).getD (0+i*1) 0=c:=by
 have fj:i<W.length:=(aS.1 h).1;unfold mx;rw[ax,bI,cR,dc (by rw[bM,bf];omega),bM,bf,cj,show i+(i-min i W.length)=i by omega,h];rfl
theorem Y8(h:W[i]? =some c):By (mx f W i) (0+i*1) [f c]=mx f W (i+1):=by
 have fj:i<W.length:=(aS.1 h).1;have hv:W[i]=c:=(aS.1 h).2;have hl:((W.take i).map f).length=i:=by rw[bM,bf];omega
 unfold By mx;rw[bI,cR,List.take_left' hl,bS,<- List.drop_drop,List.drop_left' hl,List.drop_drop,cz,h,bL];simp
def Y9:Int:=match s with
 |v::w::_=>if IntKind.i64.wrap (Int.ofNat (BitVec.ofInt 64 v&&&BitVec.ofInt 64 (7:Int)).toNat)=3 then IntKind.i64.wrap (Int.ofNat (BitVec.ofInt 64 w&&&BitVec.ofInt 64 (4095:Int)).toNat)else 0
 |_=>0
def Q6:List Int:=if 0<(rI s).2 then(rI s).1.map (crv (rI s).2 (Y9 s))else(rI s).1
theorem Za{k:Nat}(h:k<=100000):fM k 1 8=true:=aW ⟨S,S⟩
theorem aea(C:2<s.length)(h3:s.length<=200):ee ak 109 [fD s] (fD (Q6 s)):=by
 refine mz Tryz.func109 ?_;refine fN 3 gh (alv s.length (eL s)) all_nil (Af [(0,.i64)] (s2:=fI [(0,.eM false s.length (eL s)),(3,.fk (some (0,0)) 1 1 1),(4,R 0)] (hL [(0,.own .i64 [0])]) 1) dJ ?_);refine nO gh 0 _ [0,3,4,5] (s.length-·) (. <=s.length) (fun i=>Y4 s.length (eL s) (rI (s.take i)).1 (rI (s.take i)).1.length (rI (s.take i)).2 i) 0 (aR _) (alw _ _) all_nil .refl fun i hi=>?_;have hl:=Mr (s.take i);rw[bf,Nat.min_eq_left hi]at hl;refine⟨_,gh,[],_,_,alx _ _ _ _ _ i (s.getD i 0),dN (g1 fun h=>?_) (dK (g1 fun h=>⟨all_nil,rfl,?_⟩))⟩
 . have fj:=kA h;obtain⟨v,hv⟩:∃v,s[i]? =some v:=⟨_,au fj⟩;have ev:s.getD i 0=v:=by rw[ax,hv];rfl
   rw[ev];refine⟨X (aG V.bool (aW (by simp only[gD];omega))) (X (iI fj) (X (eI s) (X (rH hv) (X S (X S (X Nat.zero_lt_one (X (Za S) (eO (gV S))))))))),i+1,uD fj,fj,?_⟩;show eJ _ _ _ _ (Y4 s.length (eL s) (rI (s.take (i+1))).1 (rI (s.take (i+1))).1.length (rI (s.take (i+1))).2 (i+1));rw[Q5 hv,Y6];simp only[az,bS];exact .refl
 obtain rfl:i=s.length:=by have:=rG h;omega
 clear h;rw[br]at hl ⊢;obtain⟨v,w,r,rfl⟩:∃v w r,s=v::w::r:=by
  match s,C with
  |v::w::r,_=>exact⟨v,w,r,rfl⟩
 generalize hs:v::w::r=s at *;have hvw:s[0]? =some v/\s[1]? =some w:=by subst hs;exact⟨rfl,rfl⟩
 have gd:Y9 s=if IntKind.i64.wrap (Int.ofNat (BitVec.ofInt 64 v&&&BitVec.ofInt 64 (7:Int)).toNat)=3 then IntKind.i64.wrap (Int.ofNat (BitVec.ofInt 64 w&&&BitVec.ofInt 64 (4095:Int)).toNat)else 0:=by subst hs;rfl
 have oc:∀lw,lw=Y9 s->TG ak 0 Tryz.f109.ntmps Q4 (fI [(3,.fk (some (0,0)) (rI s).1.length (rI s).1.length 1),(4,R (rI s).2),(6,R lw)] (hL [(0,.own .i64 (rI s).1)]) 1) (gi ak 0 Tryz.f109 (uI (fD (Q6 s)))):=by
  intro lw hw;refine nO gh 2 _ [3,4,6,7] ((rI s).1.length-·) (fun i=>i<=(rI s).1.length/\(0<i->0<(rI s).2)) (fun i=>Y5 (mx (crv (rI s).2 lw) (rI s).1 i) (rI s).1.length (rI s).2 lw i) 0 ⟨aR _,fun h=>absurd h (dy _)⟩ (alz _ _ _ _) all_nil .refl fun i ⟨hi,hT⟩=>?_;have ret:∀W,W=Q6 s->W.length=(rI s).1.length->∀i,TG ak 0 Tryz.f109.ntmps (eB Q4) (Y5 W (rI s).1.length (rI s).2 lw i) (gi ak 0 Tryz.f109 (uI (fD (Q6 s)))):=by
   intro W hk hkl i;rw[<- hkl,<- hk];exact eR gh (alB W W.length (rI s).2 lw i) (dK (g0 ⟨all_nil,_,_,_,rfl,.Am (v0:=fD W) [0] (hc:=[(eL W).length=W.length*1]) dJ (eO (eI W)) dJ dJ⟩))
  refine⟨_,gh,[],_,_,alA _ _ _ _ i ((rI s).1.getD i 0),dN (g2 fun h h0=>?_) (dN (g2 fun h h0=>⟨all_nil,rfl,?_⟩) (dK (g1 fun h=>⟨all_nil,rfl,?_⟩)))⟩
  . have fj:=kA h;have h0:0<(rI s).2:=aZ h0;obtain⟨c,A⟩:∃c,(rI s).1[i]? =some c:=⟨_,au fj⟩;have ev:(rI s).1.getD i 0=c:=by rw[ax,A];rfl
    rw[ev,Y8 A];exact⟨X (iI fj) (X (by rw[Gw];omega) (X (by rw[Y7 A]) (X S (X (iI fj) (X (by rw[Gw];omega) (eO (gV S))))))),i+1,uD fj,⟨fj,fun _=>h0⟩,.refl⟩
  . have h0:¬0<(rI s).2:=bt h0;obtain rfl:i=0:=by
     rcases cW i with q|q
     . exact q
     . exact absurd (hT q) h0
    refine ret _ ?_ (Gw ..) _;rw[show Q6 s=(rI s).1 from aD h0];rfl
  . obtain rfl:i=(rI s).1.length:=by have:=rG h;omega
    refine ret _ ?_ (Gw ..) _;rw[show Q6 s=_ from aF (hT S),<- hw];unfold mx;rw[br,List.drop_length,c5]
 have L:V.bool (decide ((Int.ofNat (rI s).1.length)<(2:Int)))=V.bool false:=aG V.bool (aX (by simp only[gD];omega));have hn:V.bool (decide ((Int.ofNat s.length)>(2:Int)))=V.bool true:=aG V.bool (aW (by simp only[gD];omega));have b0:(0:Int)<=(0:Int)/\(0:Int)<(Int.ofNat s.length):=⟨Int.le_refl _,by simp only[gD];omega⟩;have b1:(0:Int)<=(1:Int)/\(1:Int)<(Int.ofNat s.length):=⟨fg,by simp only[gD];omega⟩;refine uB 3 gh (aly s.length (eL s) (rI s).1 (rI s).1.length (rI s).2 s.length v w) (dN (g1 fun h=>⟨X L (X hn (X b0 (X (eI s) (X (rH hvw.1) (X b1 (X (eI s) (eO (rH hvw.2)))))))),_,rfl,oc _ ?_⟩) (dK (g1 fun h=>⟨X L (X hn (X b0 (X (eI s) (eO (rH hvw.1))))),_,rfl,oc _ ?_⟩)))
 . rw[gd,aF (by simpa using h)]
 . rw[gd,aD (by simpa using h)]
end
section
variable(n:Nat)(f:Nat->Int)
noncomputable abbrev aeb:Code:=dQ Tryz.f69
noncomputable abbrev Et:Code:=dH 3 aeb
def alD:ag:=(List.range 60).map fun j=>R (f j)
def f12(s:List Int)(j:Nat):Int:=match s[j]? with
 |some v=>a16 v
 |none=>0
def Aw(n:Nat):List Int:=(List.range n).map fun i=>IntKind.i64.wrap ((f (3+i)).tmod 9-2)
def Q7(cs:ai)(f:Nat->Int):St:=fI [(0,.eM false n cs),(2,.ptr (some (0,0))),(3,.ptr (some (1,0)))] (hL [(0,.cells [R 0,R 0,.fk none 0 0 0,R 0,R 0,.fk none 0 0 0]),(1,.cells (alD f))]) 2
abbrev v12(a b c d e g h i j k l m:Int):V:=.eM false 12 [.int .i64 a,.int .i64 b,.int .i64 c,.int .i64 d,.int .i64 e,.int .i64 g,.int .i64 h,.int .i64 i,.int .i64 j,.int .i64 k,.int .i64 l,.int .i64 m]
theorem alE(a b c d e g h i j k l m:Int):H (M W3 []) [] 0 Tryz.f69 [0,2,3] (ek 3 aeb) (dI [v12 a b c d e g h i j k l m] .nil 0) [([],[(0:Int)<=(0:Int)/\(0:Int)<(12:Int),[D.int B a,D.int B b,D.int B c,D.int B d,D.int B e,D.int B g,D.int B h,D.int B i,D.int B j,D.int B k,D.int B l,D.int B m].length=12,(0:Int)<=(0:Int)/\(0:Int)<(60:Int),(0:Int)<=(1:Int)/\(1:Int)<(12:Int),[D.int B a,D.int B b,D.int B c,D.int B d,D.int B e,D.int B g,D.int B h,D.int B i,D.int B j,D.int B k,D.int B l,D.int B m].length=12,(0:Int)<=(1:Int)/\(1:Int)<(60:Int),(0:Int)<=(2:Int)/\(2:Int)<(12:Int),[D.int B a,D.int B b,D.int B c,D.int B d,D.int B e,D.int B g,D.int B h,D.int B i,D.int B j,D.int B k,D.int B l,D.int B m].length=12,(0:Int)<=(2:Int)/\(2:Int)<(60:Int),(0:Int)<=(3:Int)/\(3:Int)<(12:Int),[D.int B a,D.int B b,D.int B c,D.int B d,D.int B e,D.int B g,D.int B h,D.int B i,D.int B j,D.int B k,D.int B l,D.int B m].length=12,(0:Int)<=(3:Int)/\(3:Int)<(60:Int),(0:Int)<=(4:Int)/\(4:Int)<(12:Int),[D.int B a,D.int B b,D.int B c,D.int B d,D.int B e,D.int B g,D.int B h,D.int B i,D.int B j,D.int B k,D.int B l,D.int B m].length=12,(0:Int)<=(4:Int)/\(4:Int)<(60:Int),(0:Int)<=(5:Int)/\(5:Int)<(12:Int),[D.int B a,D.int B b,D.int B c,D.int B d,D.int B e,D.int B g,D.int B h,D.int B i,D.int B j,D.int B k,D.int B l,D.int B m].length=12,(0:Int)<=(5:Int)/\(5:Int)<(60:Int),(0:Int)<=(6:Int)/\(6:Int)<(12:Int),[D.int B a,D.int B b,D.int B c,D.int B d,D.int B e,D.int B g,D.int B h,D.int B i,D.int B j,D.int B k,D.int B l,D.int B m].length=12,(0:Int)<=(6:Int)/\(6:Int)<(60:Int),(0:Int)<=(7:Int)/\(7:Int)<(12:Int),[D.int B a,D.int B b,D.int B c,D.int B d,D.int B e,D.int B g,D.int B h,D.int B i,D.int B j,D.int B k,D.int B l,D.int B m].length=12,(0:Int)<=(7:Int)/\(7:Int)<(60:Int),(0:Int)<=(8:Int)/\(8:Int)<(12:Int),[D.int B a,D.int B b,D.int B c,D.int B d,D.int B e,D.int B g,D.int B h,D.int B i,D.int B j,D.int B k,D.int B l,D.int B m].length=12,(0:Int)<=(8:Int)/\(8:Int)<(60:Int),(0:Int)<=(9:Int)/\(9:Int)<(12:Int),[D.int B a,D.int B b,D.int B c,D.int B d,D.int B e,D.int B g,D.int B h,D.int B i,D.int B j,D.int B k,D.int B l,D.int B m].length=12,(0:Int)<=(9:Int)/\(9:Int)<(60:Int),(0:Int)<=(10:Int)/\(10:Int)<(12:Int),[D.int B a,D.int B b,D.int B c,D.int B d,D.int B e,D.int B g,D.int B h,D.int B i,D.int B j,D.int B k,D.int B l,D.int B m].length=12,(0:Int)<=(10:Int)/\(10:Int)<(60:Int),(0:Int)<=(11:Int)/\(11:Int)<(12:Int),[D.int B a,D.int B b,D.int B c,D.int B d,D.int B e,D.int B g,D.int B h,D.int B i,D.int B j,D.int B k,D.int B l,D.int B m].length=12,(0:Int)<=(11:Int)/\(11:Int)<(60:Int)],eC (Q7 12 [.int .i64 a,.int .i64 b,.int .i64 c,.int .i64 d,.int .i64 e,.int .i64 g,.int .i64 h,.int .i64 i,.int .i64 j,.int .i64 k,.int .i64 l,.int .i64 m] (f12 [a,b,c,d,e,g,h,i,j,k,l,m])))]:=G.Y
theorem aec(cs:ai)(f:Nat->Int):H (M W3 []) [(31,.dL (R 1)),(36,.dL (R 0))] 0 Tryz.f69 [] (Et) (Q7 n cs f) [([],[V.int B (IntKind.i64.wrap ((1:Int)+(f (0)).tmod (8:Int)))=R (1:Int),V.int B ((f (1)).tmod (3:Int))=R (0:Int),(0:Int)<=(3:Int)/\(3:Int)<(60:Int)],.ret (.agg [R (IntKind.i64.wrap (1+(f 0).tmod 8)),R 0,.fk (some (0,0)) 1 1 1,R (IntKind.i64.wrap (1+(f 2).tmod 20)),R 0,.fk none 0 0 0]) (hL [(0,.cells ((Aw f 1).map R))]) 1)]:=G.Y
theorem aed(cs:ai)(f:Nat->Int):H (M W3 []) [(31,.dL (R 1)),(36,.dL (R 1))] 0 Tryz.f69 [] (Et) (Q7 n cs f) [([],[V.int B (IntKind.i64.wrap ((1:Int)+(f (0)).tmod (8:Int)))=R (1:Int),V.int B ((f (1)).tmod (3:Int))=R (1:Int),(0:Int)<=(3:Int)/\(3:Int)<(60:Int),(0:Int)<=(4:Int)/\(4:Int)<(60:Int),(0:Int)<=(5:Int)/\(5:Int)<(60:Int),(0:Int)<=(6:Int)/\(6:Int)<(60:Int),(0:Int)<=(7:Int)/\(7:Int)<(60:Int),(0:Int)<=(8:Int)/\(8:Int)<(60:Int),(0:Int)<=(9:Int)/\(9:Int)<(60:Int),(0:Int)<=(10:Int)/\(10:Int)<(60:Int),(0:Int)<=(11:Int)/\(11:Int)<(60:Int)],.ret (.agg [R (IntKind.i64.wrap (1+(f 0).tmod 8)),R 1,.fk (some (0,0)) 9 9 1,R (IntKind.i64.wrap (1+(f 2).tmod 20)),R 0,.fk none 0 0 0]) (hL [(0,.cells ((Aw f 9).map R))]) 1)]:=G.Y
theorem aee(cs:ai)(f:Nat->Int):H (M W3 []) [(31,.dL (R 1)),(36,.dL (R 2))] 0 Tryz.f69 [] (Et) (Q7 n cs f) [([],[V.int B (IntKind.i64.wrap ((1:Int)+(f (0)).tmod (8:Int)))=R (1:Int),V.int B ((f (1)).tmod (3:Int))=R (2:Int),(0:Int)<=(3:Int)/\(3:Int)<(60:Int),(0:Int)<=(4:Int)/\(4:Int)<(60:Int),(0:Int)<=(5:Int)/\(5:Int)<(60:Int),(0:Int)<=(6:Int)/\(6:Int)<(60:Int),(0:Int)<=(7:Int)/\(7:Int)<(60:Int),(0:Int)<=(8:Int)/\(8:Int)<(60:Int),(0:Int)<=(9:Int)/\(9:Int)<(60:Int),(0:Int)<=(10:Int)/\(10:Int)<(60:Int),(0:Int)<=(11:Int)/\(11:Int)<(60:Int),(0:Int)<=(12:Int)/\(12:Int)<(60:Int),(0:Int)<=(13:Int)/\(13:Int)<(60:Int),(0:Int)<=(14:Int)/\(14:Int)<(60:Int),(0:Int)<=(15:Int)/\(15:Int)<(60:Int),(0:Int)<=(16:Int)/\(16:Int)<(60:Int),(0:Int)<=(17:Int)/\(17:Int)<(60:Int),(0:Int)<=(18:Int)/\(18:Int)<(60:Int),(0:Int)<=(19:Int)/\(19:Int)<(60:Int),(0:Int)<=(20:Int)/\(20:Int)<(60:Int),(0:Int)<=(21:Int)/\(21:Int)<(60:Int),(0:Int)<=(22:Int)/\(22:Int)<(60:Int),(0:Int)<=(23:Int)/\(23:Int)<(60:Int),(0:Int)<=(24:Int)/\(24:Int)<(60:Int),(0:Int)<=(25:Int)/\(25:Int)<(60:Int),(0:Int)<=(26:Int)/\(26:Int)<(60:Int),(0:Int)<=(27:Int)/\(27:Int)<(60:Int)],.ret (.agg [R (IntKind.i64.wrap (1+(f 0).tmod 8)),R 2,.fk (some (0,0)) 25 25 1,R (IntKind.i64.wrap (1+(f 2).tmod 20)),R 0,.fk none 0 0 0]) (hL [(0,.cells ((Aw f 25).map R))]) 1)]:=G.Y
theorem alF(cs:ai)(f:Nat->Int):H (M W3 []) [(31,.dL (R 2))] 0 Tryz.f69 [] (Et) (Q7 n cs f) [([],[V.int B (IntKind.i64.wrap ((1:Int)+(f (0)).tmod (8:Int)))=R (2:Int)],.ret (.agg [.int .i64 (IntKind.i64.wrap ((1:Int)+(f (0)).tmod (8:Int))),.int .i64 ((f (1)).tmod (4:Int)),.fk none 0 0 0,.int .i64 0,.int .i64 0,.fk none 0 0 0]) (hL []) 0)]:=G.Y
theorem alG(cs:ai)(f:Nat->Int):H (M W3 []) [(31,.dL (R 3))] 0 Tryz.f69 [] (Et) (Q7 n cs f) [([],[V.int B (IntKind.i64.wrap ((1:Int)+(f (0)).tmod (8:Int)))=R (3:Int)],.ret (.agg [.int .i64 (IntKind.i64.wrap ((1:Int)+(f (0)).tmod (8:Int))),.int .i64 ((f (1)).tmod (4:Int)),.fk none 0 0 0,.int .i64 0,.int .i64 0,.fk none 0 0 0]) (hL []) 0)]:=G.Y
theorem alH(cs:ai)(f:Nat->Int):H (M W3 []) [(31,.dL (R 4))] 0 Tryz.f69 [] (Et) (Q7 n cs f) [([],[V.int B (IntKind.i64.wrap ((1:Int)+(f (0)).tmod (8:Int)))=R (4:Int)],.ret (.agg [.int .i64 (IntKind.i64.wrap ((1:Int)+(f (0)).tmod (8:Int))),.int .i64 ((f (1)).tmod (4:Int)),.fk none 0 0 0,.int .i64 0,.int .i64 0,.fk none 0 0 0]) (hL []) 0)]:=G.Y
theorem alI(cs:ai)(f:Nat->Int):H (M W3 []) [(31,.dL (R 6))] 0 Tryz.f69 [] (Et) (Q7 n cs f) [([],[V.int B (IntKind.i64.wrap ((1:Int)+(f (0)).tmod (8:Int)))=R (6:Int)],.ret (.agg [.int .i64 (IntKind.i64.wrap ((1:Int)+(f (0)).tmod (8:Int))),.int .i64 0,.fk none 0 0 0,.int .i64 0,.int .i64 0,.fk none 0 0 0]) (hL []) 0)]:=G.Y
theorem alJ(cs:ai)(f:Nat->Int):H (M W3 []) [(31,.dL (R 7))] 0 Tryz.f69 [] (Et) (Q7 n cs f) [([],[V.int B (IntKind.i64.wrap ((1:Int)+(f (0)).tmod (8:Int)))=R (7:Int)],.ret (.agg [.int .i64 (IntKind.i64.wrap ((1:Int)+(f (0)).tmod (8:Int))),.int .i64 0,.fk none 0 0 0,.int .i64 0,.int .i64 ((f (1)).tmod (257:Int)),.fk none 0 0 0]) (hL []) 0)]:=G.Y
theorem alK(cs:ai)(f:Nat->Int):H (M W3 []) [(31,.dL (R 8))] 0 Tryz.f69 [] (Et) (Q7 n cs f) [([],[V.int B (IntKind.i64.wrap ((1:Int)+(f (0)).tmod (8:Int)))=R (8:Int)],.ret (.agg [.int .i64 (IntKind.i64.wrap ((1:Int)+(f (0)).tmod (8:Int))),.int .i64 (IntKind.i64.wrap ((f (1)).tmod (7:Int)-(3:Int))),.fk none 0 0 0,.int .i64 0,.int .i64 (IntKind.i64.wrap ((f (2)).tmod (7:Int)-(3:Int))),.fk none 0 0 0]) (hL []) 0)]:=G.Y
theorem alL(a b c d e g h i j k l m:Int)(n:Nat)(cs:ai):H (M (fa 109 [fD [b,c,d,e,g,h,i,j,k,l,m]] (.eM false n cs) W3) []) [(31,.dL (R 5))] 0 Tryz.f69 [] (Et) (Q7 12 [.int .i64 a,.int .i64 b,.int .i64 c,.int .i64 d,.int .i64 e,.int .i64 g,.int .i64 h,.int .i64 i,.int .i64 j,.int .i64 k,.int .i64 l,.int .i64 m] f) [([],[V.int B (IntKind.i64.wrap ((1:Int)+(f (0)).tmod (8:Int)))=R (5:Int),[D.int B a,D.int B b,D.int B c,D.int B d,D.int B e,D.int B g,D.int B h,D.int B i,D.int B j,D.int B k,D.int B l,D.int B m].length=12,(0:Int)<=(1:Int)/\(1:Int)<=(12:Int),fG [fD [b,c,d,e,g,h,i,j,k,l,m]]],.ret (.agg [.int .i64 (IntKind.i64.wrap ((1:Int)+(f (0)).tmod (8:Int))),.int .i64 0,.fk none 0 0 0,.int .i64 0,.int .i64 0,.eM false n cs]) (hL []) 0)]:=G.Y
end
structure FL where
 k:Int
 r:Int
 fh:List Int
 dv:Int
 vl:Int
 cu:List Int
def FL.cs(f:FL):ag:=[R f.k,R f.r,fD f.fh,R f.dv,R f.vl,fD f.cu]
def FL.v(f:FL):V:=.agg f.cs
theorem Zb(v:Int):0<=a16 v/\a16 v<=65535:=by
 unfold a16;have h:(BitVec.ofInt 64 v&&&BitVec.ofInt 64 (65535:Int)).toNat<=65535:=by
  rw[BitVec.toNat_and];exact Nat.and_le_right
 rw[iz (by simp only[gD];omega) (by simp only[gD];omega)];simp only[gD];omega
section
variable(s:List Int)(f:Nat->Int)
theorem Q8(j:Nat):0<=f12 s j/\f12 s j<=65535:=by
 unfold f12;split
 . exact Zb _
 . decide
theorem wR{x d:Int}(h:0<=x)(hd:0<d):0<=x.tmod d/\x.tmod d<d:=by
 rw[Int.tmod_eq_emod_of_nonneg h];exact⟨Int.emod_nonneg _ S,Int.emod_lt_of_pos _ hd⟩
def l7:Int:=IntKind.i64.wrap (1+(f 0).tmod 8)
def wz:FL:=
 if l7 (f12 s)=1 then⟨l7 (f12 s),(f12 s 1).tmod 3,Aw (f12 s) ((2*((f12 s 1).tmod 3).toNat+1)*(2*((f12 s 1).tmod 3).toNat+1)),IntKind.i64.wrap (1+(f12 s 2).tmod 20),0,[]⟩
 else if l7 (f12 s)=2\/l7 (f12 s)=3\/l7 (f12 s)=4 then⟨l7 (f12 s),(f12 s 1).tmod 4,[],0,0,[]⟩
 else if l7 (f12 s)=5 then⟨l7 (f12 s),0,[],0,0,Q6 (s.drop 1)⟩
 else if l7 (f12 s)=7 then⟨l7 (f12 s),0,[],0,(f12 s 1).tmod 257,[]⟩
 else if l7 (f12 s)=8 then⟨l7 (f12 s),IntKind.i64.wrap ((f12 s 1).tmod 7-3),[],0,IntKind.i64.wrap ((f12 s 2).tmod 7-3),[]⟩
 else⟨l7 (f12 s),0,[],0,0,[]⟩
theorem Q9(n:Nat):(Aw f n).length=n:=by simp[Aw]
end
theorem aef(a b c d e' g h i j k l m:Int):ee ak 69 [v12 a b c d e' g h i j k l m] (wz [a,b,c,d,e',g,h,i,j,k,l,m]).v:=by
 refine mz Tryz.func69 ?_;refine fN 3 gh (alE a b c d e' g h i j k l m) ?_ ?_
 . repeat' (first|exact all_nil|refine X ?_ ?_)
   all_goals first|decide|rfl
 generalize hs:[a,b,c,d,e',g,h,i,j,k,l,m]=s;have Gg:=Q8 s;have h0:=wR (Gg 0).1 (d:=8) fg;have h1:=wR (Gg 1).1 (d:=3) fg;have hk:l7 (f12 s)=1+(f12 s 0).tmod 8:=iz S S;have rB:∀q:Int,l7 (f12 s)=q->V.int B (IntKind.i64.wrap ((1:Int)+(f12 s 0).tmod (8:Int)))=R q:=fun q e=>aG _ e;have hc {r:ah} (hr:∀x∈r,x):∀x∈r,x:=hr;rcases(by omega:l7 (f12 s)=1\/l7 (f12 s)=2\/l7 (f12 s)=3\/l7 (f12 s)=4\/l7 (f12 s)=5\/l7 (f12 s)=6\/l7 (f12 s)=7\/l7 (f12 s)=8)with e|e|e|e|e|e|e|e
 . have ev:wz s=⟨l7 (f12 s),(f12 s 1).tmod 3,Aw (f12 s) ((2*((f12 s 1).tmod 3).toNat+1)*(2*((f12 s 1).tmod 3).toNat+1)),IntKind.i64.wrap (1+(f12 s 2).tmod 20),0,[]⟩:=aF e;rw[ev];rcases(by omega:(f12 s 1).tmod 3=0\/(f12 s 1).tmod 3=1\/(f12 s 1).tmod 3=2)with q|q|q
   . refine eR gh (aec 12 _ (f12 s)) (dK (g0 ⟨?_,_,_,_,rfl,?_⟩))
     . refine X (rB 1 e) (X (aG _ q) ?_)
       repeat' (first|exact all_nil|refine X ?_ ?_)
       all_goals decide
     . rw[q];exact .Am (v0:=.agg [R (l7 (f12 s)),R 0,.eM false 1 (eL (Aw (f12 s) 1)),R (IntKind.i64.wrap (1+(f12 s 2).tmod 20)),R 0,.fk none 0 0 0]) [0] (hc:=[(eL (Aw (f12 s) 1)).length=1*1]) dJ (eO rfl) dJ dJ
   . refine eR gh (aed 12 _ (f12 s)) (dK (g0 ⟨?_,_,_,_,rfl,?_⟩))
     . refine X (rB 1 e) (X (aG _ q) ?_)
       repeat' (first|exact all_nil|refine X ?_ ?_)
       all_goals decide
     . rw[q];exact .Am (v0:=.agg [R (l7 (f12 s)),R 1,.eM false 9 (eL (Aw (f12 s) 9)),R (IntKind.i64.wrap (1+(f12 s 2).tmod 20)),R 0,.fk none 0 0 0]) [0] (hc:=[(eL (Aw (f12 s) 9)).length=9*1]) dJ (eO rfl) dJ dJ
   . refine eR gh (aee 12 _ (f12 s)) (dK (g0 ⟨?_,_,_,_,rfl,?_⟩))
     . refine X (rB 1 e) (X (aG _ q) ?_)
       repeat' (first|exact all_nil|refine X ?_ ?_)
       all_goals decide
     . rw[q];exact .Am (v0:=.agg [R (l7 (f12 s)),R 2,.eM false 25 (eL (Aw (f12 s) 25)),R (IntKind.i64.wrap (1+(f12 s 2).tmod 20)),R 0,.fk none 0 0 0]) [0] (hc:=[(eL (Aw (f12 s) 25)).length=25*1]) dJ (eO rfl) dJ dJ
 . rw[show wz s=⟨l7 (f12 s),(f12 s 1).tmod 4,[],0,0,[]⟩from(aD S).trans (aF S)];exact eR gh (alF 12 _ (f12 s)) (dK (g0 ⟨eO (rB 2 e),_,_,_,rfl,.self rfl rfl⟩))
 . rw[show wz s=⟨l7 (f12 s),(f12 s 1).tmod 4,[],0,0,[]⟩from(aD S).trans (aF S)];exact eR gh (alG 12 _ (f12 s)) (dK (g0 ⟨eO (rB 3 e),_,_,_,rfl,.self rfl rfl⟩))
 . rw[show wz s=⟨l7 (f12 s),(f12 s 1).tmod 4,[],0,0,[]⟩from(aD S).trans (aF S)];exact eR gh (alH 12 _ (f12 s)) (dK (g0 ⟨eO (rB 4 e),_,_,_,rfl,.self rfl rfl⟩))
 . rw[show wz s=⟨l7 (f12 s),0,[],0,0,Q6 (s.drop 1)⟩from(aD S).trans ((aD S).trans (aF e))];have hd:s.drop 1=[b,c,d,e',g,h,i,j,k,l,m]:=by subst hs;rfl
   rw[hd];refine eR (ff (aea [b,c,d,e',g,h,i,j,k,l,m] (show 2<11 by decide) (show 11<=200 by decide)) gh) (alL (f12 s) a b c d e' g h i j k l m _ _) (dK (g0 ⟨X (rB 5 e) ?_,_,_,_,rfl,.self rfl rfl⟩))
   repeat' (first|exact all_nil|refine X ?_ ?_)
   all_goals first|decide|rfl
 . rw[show wz s=⟨l7 (f12 s),0,[],0,0,[]⟩from(aD S).trans ((aD S).trans ((aD S).trans ((aD S).trans (aD S))))];exact eR gh (alI 12 _ (f12 s)) (dK (g0 ⟨eO (rB 6 e),_,_,_,rfl,.self rfl rfl⟩))
 . rw[show wz s=⟨l7 (f12 s),0,[],0,(f12 s 1).tmod 257,[]⟩from(aD S).trans ((aD S).trans ((aD S).trans (aF e)))];exact eR gh (alJ 12 _ (f12 s)) (dK (g0 ⟨eO (rB 7 e),_,_,_,rfl,.self rfl rfl⟩))
 . rw[show wz s=⟨l7 (f12 s),IntKind.i64.wrap ((f12 s 1).tmod 7-3),[],0,IntKind.i64.wrap ((f12 s 2).tmod 7-3),[]⟩from(aD S).trans ((aD S).trans ((aD S).trans ((aD S).trans (aF e))))];exact eR gh (alK 12 _ (f12 s)) (dK (g0 ⟨eO (rB 8 e),_,_,_,rfl,.self rfl rfl⟩))
noncomputable abbrev xH:Code:=dQ Tryz.f30
noncomputable abbrev alM:Code:=dQ Tryz.f68
noncomputable abbrev alN:Code:=dQ Tryz.f71
abbrev gH:V:=.fk none 0 0 0
structure P7 where
 a:Int
 b:Int
 c:Int
 d:Int
 e:Int
 f:Int
 n:Int
def P7.cs(p:P7):ag:=[R p.a,R p.b,R p.c,R p.d,R p.e,R p.f,R p.n]
def P7.v(p:P7):V:=.agg p.cs
structure S8 where
 s0:Int
 s1:Int
 s2:Int
 s3:Int
 s4:Int
 s5:Int
 s6:Int
 s7:Int
def S8.cs(s:S8):ag:=[R s.s0,R s.s1,R s.s2,R s.s3,R s.s4,R s.s5,R s.s6,R s.s7]
structure C4 where
 r:Int
 g:Int
 b:Int
 a:Int
section
variable(s:S8)(x n kd:Int)(nm:aa)(hid:Bool)(op md:Int)(clip:Bool)(pl:P7)(f:FL)(fi:C4)(gx:List Tl)(L:Bool)(mk:List Tl)
def C4.cs(p:C4):ag:=[.int .u8 p.r,.int .u8 p.g,.int .u8 p.b,.int .u8 p.a]
abbrev rsV(l:List Tl):V:=.eM false l.length (iO l)
def ur(pv:V)(gx:List Tl)(L:Bool)(mk:List Tl):ag:=
 [R 0,R kd,.str nm,.bool hid,R op,R md,.bool clip]++(pl.cs++([R 0,fD [],R 0]++(f.cs++(fi.cs++[pv,rsV gx,.bool L,rsV mk]))))
def z4:C4:=⟨0,0,0,0⟩
def z7:P7:=⟨0,0,0,0,0,0,0⟩
def i7:P7:=⟨1,0,0,0,1,0,1⟩
def uv:FL:=⟨0,0,[],0,0,[]⟩
def OW(k:Int):ag:=
 [R 0,R kd,.str [],.bool false,R op,R 0,.bool false]++(pl.cs++([R 0,gH,R 0]++([R k,R 0,gH,R 0,R 0,gH]++(z4.cs++[gH,gH,.bool false,gH]))))
def lyZ:ag:=OW 0 0 z7 0
def wS(l:ag):St:=fI [(1,.ptr (some (0,0))),(2,.ptr (some (1,0))),(3,.ptr (some (2,0)))] (hL [(0,.cells s.cs),(1,.cells lyZ),(2,.cells l)]) 3
theorem alO:H (M W3 []) [(16,.split),(20,.split),(23,.split)] 0 Tryz.f68 [] (alM) (dI [R n] .nil 0) (YE (IntKind.i64.wrap (Int.ofNat (BitVec.ofInt 64 n&&&BitVec.ofInt 64 (7:Int)).toNat)==(1:Int)) (IntKind.i64.wrap (Int.ofNat (BitVec.ofInt 64 n&&&BitVec.ofInt 64 (7:Int)).toNat)==(2:Int)) (IntKind.i64.wrap (Int.ofNat (BitVec.ofInt 64 n&&&BitVec.ofInt 64 (7:Int)).toNat)==(3:Int)) ([],.ret (.agg [.int .i64 2,.int .i64 0,.int .i64 (IntKind.i64.wrap (IntKind.i64.wrap (Int.ofNat (BitVec.ofInt 64 (n.fdiv (4:Int))&&&BitVec.ofInt 64 (7:Int)).toNat)-(3:Int))),.int .i64 0,.int .i64 2,.int .i64 (IntKind.i64.wrap (IntKind.i64.wrap (Int.ofNat (BitVec.ofInt 64 (n.fdiv (32:Int))&&&BitVec.ofInt 64 (7:Int)).toNat)-(3:Int))),.int .i64 1]) (hL []) 0) ([],.ret (.agg [.int .i64 1,.int .i64 0,.int .i64 (IntKind.i64.wrap (IntKind.i64.wrap (Int.ofNat (BitVec.ofInt 64 (n.fdiv (4:Int))&&&BitVec.ofInt 64 (7:Int)).toNat)-(3:Int))),.int .i64 0,.int .i64 1,.int .i64 (IntKind.i64.wrap (IntKind.i64.wrap (Int.ofNat (BitVec.ofInt 64 (n.fdiv (32:Int))&&&BitVec.ofInt 64 (7:Int)).toNat)-(3:Int))),.int .i64 2]) (hL []) 0) ([],.ret (.agg [.int .i64 0,.int .i64 (-1),.int .i64 (IntKind.i64.wrap (IntKind.i64.wrap (Int.ofNat (BitVec.ofInt 64 (n.fdiv (4:Int))&&&BitVec.ofInt 64 (7:Int)).toNat)-(3:Int))),.int .i64 1,.int .i64 0,.int .i64 (IntKind.i64.wrap (IntKind.i64.wrap (Int.ofNat (BitVec.ofInt 64 (n.fdiv (32:Int))&&&BitVec.ofInt 64 (7:Int)).toNat)-(3:Int))),.int .i64 1]) (hL []) 0) ([],.ret (.agg [.int .i64 1,.int .i64 0,.int .i64 (IntKind.i64.wrap (IntKind.i64.wrap (Int.ofNat (BitVec.ofInt 64 (n.fdiv (4:Int))&&&BitVec.ofInt 64 (7:Int)).toNat)-(3:Int))),.int .i64 0,.int .i64 1,.int .i64 (IntKind.i64.wrap (IntKind.i64.wrap (Int.ofNat (BitVec.ofInt 64 (n.fdiv (32:Int))&&&BitVec.ofInt 64 (7:Int)).toNat)-(3:Int))),.int .i64 1]) (hL []) 0)):=G.Y
theorem alP:H (M W3 []) [(21,.split),(25,.split)] 0 Tryz.f71 [] (alN) (dI [R n] .nil 0) [([((IntKind.u32.wrap n).tmod (5:Int)==(1:Int),true),((IntKind.u32.wrap n).tmod (5:Int)==(3:Int),true)],[(256:Int)≠(0:Int),(65536:Int)≠(0:Int),(16777216:Int)≠(0:Int)],.ret (.agg [.int .u8 (IntKind.u8.wrap (IntKind.u32.wrap n)),.int .u8 (IntKind.u8.wrap (IntKind.u32.wrap ((IntKind.u32.wrap n).tdiv (256:Int)))),.int .u8 (IntKind.u8.wrap (IntKind.u32.wrap ((IntKind.u32.wrap n).tdiv (65536:Int)))),.int .u8 0]) (hL []) 0),([((IntKind.u32.wrap n).tmod (5:Int)==(1:Int),true),((IntKind.u32.wrap n).tmod (5:Int)==(3:Int),false)],[(256:Int)≠(0:Int),(65536:Int)≠(0:Int),(16777216:Int)≠(0:Int)],.ret (.agg [.int .u8 (IntKind.u8.wrap (IntKind.u32.wrap n)),.int .u8 (IntKind.u8.wrap (IntKind.u32.wrap ((IntKind.u32.wrap n).tdiv (256:Int)))),.int .u8 (IntKind.u8.wrap (IntKind.u32.wrap ((IntKind.u32.wrap n).tdiv (65536:Int)))),.int .u8 255]) (hL []) 0),([((IntKind.u32.wrap n).tmod (5:Int)==(1:Int),false),((IntKind.u32.wrap n).tmod (5:Int)==(3:Int),true)],[(256:Int)≠(0:Int),(65536:Int)≠(0:Int),(16777216:Int)≠(0:Int)],.ret (.agg [.int .u8 (IntKind.u8.wrap (IntKind.u32.wrap n)),.int .u8 (IntKind.u8.wrap (IntKind.u32.wrap ((IntKind.u32.wrap n).tdiv (256:Int)))),.int .u8 (IntKind.u8.wrap (IntKind.u32.wrap ((IntKind.u32.wrap n).tdiv (65536:Int)))),.int .u8 0]) (hL []) 0),([((IntKind.u32.wrap n).tmod (5:Int)==(1:Int),false),((IntKind.u32.wrap n).tmod (5:Int)==(3:Int),false)],[(256:Int)≠(0:Int),(65536:Int)≠(0:Int),(16777216:Int)≠(0:Int)],.ret (.agg [.int .u8 (IntKind.u8.wrap (IntKind.u32.wrap n)),.int .u8 (IntKind.u8.wrap (IntKind.u32.wrap ((IntKind.u32.wrap n).tdiv (256:Int)))),.int .u8 (IntKind.u8.wrap (IntKind.u32.wrap ((IntKind.u32.wrap n).tdiv (65536:Int)))),.int .u8 (IntKind.u8.wrap (IntKind.u32.wrap ((IntKind.u32.wrap n).tdiv (16777216:Int))))]) (hL []) 0)]:=G.Y
theorem aeg:H (M W3 []) [(9,.dL (R 1))] 0 Tryz.f30 [1,2,3] (ek 2 xH) (dI [.agg s.cs] .nil 0) [([],[V.int B (IntKind.i64.wrap ((1:Int)+(IntKind.i64.wrap (Int.ofNat (BitVec.ofInt 64 s.s0&&&BitVec.ofInt 64 (65535:Int)).toNat)).tmod (5:Int)))=R (1:Int)],eC (wS s (OW 1 255 i7 0)))]:=G.Y
theorem aeh:H (M W3 []) [(9,.dL (R 2))] 0 Tryz.f30 [1,2,3] (ek 2 xH) (dI [.agg s.cs] .nil 0) [([],[V.int B (IntKind.i64.wrap ((1:Int)+(IntKind.i64.wrap (Int.ofNat (BitVec.ofInt 64 s.s0&&&BitVec.ofInt 64 (65535:Int)).toNat)).tmod (5:Int)))=R (2:Int)],eC (wS s (OW 2 255 z7 0)))]:=G.Y
theorem aei:H (M W3 []) [(9,.dL (R 3))] 0 Tryz.f30 [1,2,3] (ek 2 xH) (dI [.agg s.cs] .nil 0) [([],[V.int B (IntKind.i64.wrap ((1:Int)+(IntKind.i64.wrap (Int.ofNat (BitVec.ofInt 64 s.s0&&&BitVec.ofInt 64 (65535:Int)).toNat)).tmod (5:Int)))=R (3:Int)],eC (wS s (OW 3 255 z7 6)))]:=G.Y
theorem aej:H (M W3 []) [(9,.dL (R 4))] 0 Tryz.f30 [1,2,3] (ek 2 xH) (dI [.agg s.cs] .nil 0) [([],[V.int B (IntKind.i64.wrap ((1:Int)+(IntKind.i64.wrap (Int.ofNat (BitVec.ofInt 64 s.s0&&&BitVec.ofInt 64 (65535:Int)).toNat)).tmod (5:Int)))=R (4:Int)],eC (wS s (OW 4 255 i7 0)))]:=G.Y
theorem aek:H (M W3 []) [(9,.dL (R 5))] 0 Tryz.f30 [1,2,3] (ek 2 xH) (dI [.agg s.cs] .nil 0) [([],[V.int B (IntKind.i64.wrap ((1:Int)+(IntKind.i64.wrap (Int.ofNat (BitVec.ofInt 64 s.s0&&&BitVec.ofInt 64 (65535:Int)).toNat)).tmod (5:Int)))=R (5:Int)],eC (wS s (OW 5 255 z7 0)))]:=G.Y
def an(m:Int):Int:=IntKind.i64.wrap (Int.ofNat (BitVec.ofInt 64 x&&&BitVec.ofInt 64 m).toNat)
def OX:aa:=(([97,98,99,100,101,102,103,104]:aa).take (IntKind.i64.wrap (an x 7+1)).toNat).drop (an x 7).toNat
def Tp:Bool:=an x 127==8
def Tq:Bool:=an x 96==96
def opF:Int:=an (x.fdiv 2) 255
def mdO:Int:=an (x.fdiv 4) 15
theorem alQ:H (M W3 []) [] 0 Tryz.f30 [1,2,3] (ek 4 (dH 2 xH)) (wS s (ur kd nm hid op md clip pl f fi gH gx L mk)) [([],[(0:Int)<=IntKind.i64.wrap (IntKind.i64.wrap (Int.ofNat (BitVec.ofInt 64 s.s1&&&BitVec.ofInt 64 (7:Int)).toNat)+(1:Int))/\IntKind.i64.wrap (IntKind.i64.wrap (Int.ofNat (BitVec.ofInt 64 s.s1&&&BitVec.ofInt 64 (7:Int)).toNat)+(1:Int))<=(8:Int),(0:Int)<=IntKind.i64.wrap (Int.ofNat (BitVec.ofInt 64 s.s1&&&BitVec.ofInt 64 (7:Int)).toNat)/\IntKind.i64.wrap (Int.ofNat (BitVec.ofInt 64 s.s1&&&BitVec.ofInt 64 (7:Int)).toNat)<=(Int.ofNat (IntKind.i64.wrap (IntKind.i64.wrap (Int.ofNat (BitVec.ofInt 64 s.s1&&&BitVec.ofInt 64 (7:Int)).toNat)+(1:Int))).toNat)],eC (wS s (ur kd (OX s.s1) (Tp s.s1) 255 md (Tq s.s1) pl f fi gH gx L mk)))]:=G.Y
theorem alR:H (M W3 []) [(34,.split)] 0 Tryz.f30 [1,2,3] (ek 1 (dH 6 xH)) (wS s (ur kd nm hid op md clip pl f fi gH gx L mk)) (fV (IntKind.i64.wrap (Int.ofNat (BitVec.ofInt 64 s.s2&&&BitVec.ofInt 64 (1:Int)).toNat)==(1:Int)) ([],eC (wS s (ur kd nm hid (opF s.s2) md clip pl f fi gH gx L mk))) ([],eC (wS s (ur kd nm hid op md clip pl f fi gH gx L mk)))):=G.Y
theorem alS:H (M W3 []) [(43,.split)] 0 Tryz.f30 [1,2,3] (ek 1 (dH 7 xH)) (wS s (ur kd nm hid op md clip pl f fi gH gx L mk)) (fV (IntKind.i64.wrap (Int.ofNat (BitVec.ofInt 64 s.s3&&&BitVec.ofInt 64 (3:Int)).toNat)==(1:Int)) ([],eC (wS s (ur kd nm hid op (mdO s.s3) clip pl f fi gH gx L mk))) ([],eC (wS s (ur kd nm hid op md clip pl f fi gH gx L mk)))):=G.Y
theorem alT(l:List Tl):H (M (Qw 67 [fD [s.s3,s.s4,s.s5]] (lu l) W3) []) [(52,.split)] 0 Tryz.f30 [1,2,3] (ek 1 (dH 8 xH)) (wS s (ur kd nm hid op md clip pl f fi gH gx L mk)) (fV (IntKind.i64.wrap (Int.ofNat (BitVec.ofInt 64 s.s3&&&BitVec.ofInt 64 (192:Int)).toNat)==(64:Int)) ([[D.int B s.s3,D.int B s.s4,D.int B s.s5].length=3,V.jj [V.eM false 3 [D.int B s.s3,D.int B s.s4,D.int B s.s5]]=[fD [s.s3,s.s4,s.s5]]],eC (wS s (ur kd nm hid op md clip pl f fi gH gx true l))) ([],eC (wS s (ur kd nm hid op md clip pl f fi gH gx L mk)))):=G.Y
end
def WZ(n d:Int):Int:=IntKind.i64.wrap (an (n.fdiv d) 7-3)
def W5(n:Int):P7:=if an n 7=1 then⟨2,0,WZ n 4,0,2,WZ n 32,1⟩else if an n 7=2 then⟨1,0,WZ n 4,0,1,WZ n 32,2⟩else if an n 7=3 then⟨0,-1,WZ n 4,1,0,WZ n 32,1⟩else⟨1,0,WZ n 4,0,1,WZ n 32,1⟩
def mpA(u:Int):Int:=if u.tmod 5=3 then 0 else if u.tmod 5=1 then 255 else IntKind.u8.wrap (IntKind.u32.wrap (u.tdiv 16777216))
def Ra(n:Int):C4:=⟨IntKind.u8.wrap (IntKind.u32.wrap n),IntKind.u8.wrap (IntKind.u32.wrap ((IntKind.u32.wrap n).tdiv 256)),IntKind.u8.wrap (IntKind.u32.wrap ((IntKind.u32.wrap n).tdiv 65536)),mpA (IntKind.u32.wrap n)⟩
def KY:ag->Option (ah×V)
 | [.int .i64 n]=>some ([],(W5 n).v)
 |_=>none
def KZ:ag->Option (ah×V)
 | [.int .i64 n]=>some ([],.agg (Ra n).cs)
 |_=>none
theorem Zc:jM ak 68 (ic KY):=by
 refine nD Tryz.func68 fun args hc v e=>?_;unfold KY at e;split at e
 case h_2=>cases e
 rename_i n;obtain⟨rfl,rfl⟩:=sm e;refine⟨rfl,rfl,rfl,fun _=>eR gh (alO n) (dN (g1 fun h=>⟨all_nil,_,_,_,rfl,?_⟩) (dN (g2 fun h C=>⟨all_nil,_,_,_,rfl,?_⟩) (dN (g3 fun h C h3=>⟨all_nil,_,_,_,rfl,?_⟩) (dK (g3 fun h C h3=>⟨all_nil,_,_,_,rfl,?_⟩)))))⟩
 all_goals
  have h:(an n 7==1)=_:=h
  try have C:(an n 7==2)=_:=C
  try have h3:(an n 7==3)=_:=h3
  simp only[ct,cB,ne_eq]at *
 . rw[show W5 n=_ from aF h];rfl
 . rw[show W5 n=_ from(aD h).trans (aF C)];rfl
 . rw[show W5 n=_ from(aD h).trans ((aD C).trans (aF h3))];rfl
 . rw[show W5 n=_ from(aD h).trans ((aD C).trans (aD h3))];rfl
theorem Zd:jM ak 71 (ic KZ):=by
 refine nD Tryz.func71 fun args hc v e=>?_;unfold KZ at e;split at e
 case h_2=>cases e
 rename_i n;obtain⟨rfl,rfl⟩:=sm e;have hc:∀a∈[((256:Int)≠(0:Int)),((65536:Int)≠(0:Int)),((16777216:Int)≠(0:Int))],a:=X fg (X fg (eO fg));refine⟨rfl,rfl,rfl,fun _=>eR gh (alP n) (dN (g2 fun h C=>⟨hc,_,_,_,rfl,?_⟩) (dN (g2 fun h C=>⟨hc,_,_,_,rfl,?_⟩) (dN (g2 fun h C=>⟨hc,_,_,_,rfl,?_⟩) (dK (g2 fun h C=>⟨hc,_,_,_,rfl,?_⟩)))))⟩
 all_goals
  simp only[ct,cB,ne_eq]at h C;unfold Ra mpA
  first|rw[aF C]|rw[aD C,aF h]|rw[aD C,aD h]
  rfl
noncomputable abbrev W4:gG:=jC 68 (ic KY) (jC 71 (ic KZ) W3)
theorem sM:fo ak W4:=fq Zc (fq Zd gh)
def nf(l:List (Int×Int)):ai:=(l.map fun p=>[D.int .i64 p.1,D.int .i64 p.2]).flatten
abbrev wA(l:List (Int×Int)):V:=.eM false l.length (nf l)
structure eV where
 id:Int
 kd:Int
 nm:aa
 hid:Bool
 op:Int
 md:Int
 clip:Bool
 pl:P7
 sp:Int
 kids:List Int
 of:Int
 f:FL
 fi:C4
 gA:List (Int×Int)
 gx:List Tl
 L:Bool
 ig:List Tl
def eV.cs(l:eV):ag:=[R l.id,R l.kd,.str l.nm,.bool l.hid,R l.op,R l.md,.bool l.clip]++(l.pl.cs++([R l.sp,fD l.kids,R l.of]++(l.f.cs++(l.fi.cs++[wA l.gA,rsV l.gx,.bool l.L,rsV l.ig]))))
def eV.v(l:eV):V:=.agg l.cs
def UG(p:C4):C4:=⟨cl p.a p.r,cl p.a p.g,cl p.a p.b,cl p.a p.a⟩
def px4(x:Int)(i:Nat):Int:=IntKind.i64.wrap (an (x.fdiv (16^i)) 15-4)
def Ja(x y:Int)(c:Nat):List (Int×Int):=(List.range c).map fun i=>(px4 x i,px4 y i)
def l12(s:S8):List Int:=[s.s4,s.s5,s.s6,s.s7,s.s2,s.s3,s.s1,IntKind.i64.wrap (s.s5.tdiv 7),IntKind.i64.wrap (s.s6.tdiv 5),IntKind.i64.wrap (s.s7.tdiv 3),IntKind.i64.wrap (s.s4.tdiv 9),IntKind.i64.wrap (s.s2.tdiv 11)]
noncomputable abbrev Gx:Code:=dH 9 xH
section
variable(s:S8)(nm:aa)(hid:Bool)(op md:Int)(clip:Bool)(pl:P7)(f:FL)(fi:C4)(gx:List Tl)(L:Bool)(mk:List Tl)
theorem ael(l:List Tl):H (M (Qw 67 [fD [s.s4,s.s5,s.s6,s.s7,s.s2]] (lu l) W4) []) [] 0 Tryz.f30 [] (Gx) (wS s (ur 1 nm hid op md clip pl f fi gH gx L mk)) [([],[[D.int B s.s4,D.int B s.s5,D.int B s.s6,D.int B s.s7,D.int B s.s2].length=5,V.jj [V.eM false 5 [D.int B s.s4,D.int B s.s5,D.int B s.s6,D.int B s.s7,D.int B s.s2]]=[fD [s.s4,s.s5,s.s6,s.s7,s.s2]]],.ret (.agg (ur 1 nm hid op md clip (W5 s.s6) f fi gH l L mk)) (hL []) 0)]:=G.Y
theorem aem:H (M W4 []) [] 0 Tryz.f30 [] (Gx) (wS s (ur 2 nm hid op md clip pl f fi gH gx L mk)) [([],[],.ret (.agg (ur 2 nm hid op md clip pl f fi gH gx L mk)) (hL []) 0)]:=G.Y
theorem aen(g:FL):H (M (Qw 69 [fD (l12 s)] g.v W4) []) [] 0 Tryz.f30 [] (Gx) (wS s (ur 3 nm hid op md clip pl f fi gH gx L mk)) [([],[(7:Int)≠(0:Int),(5:Int)≠(0:Int),(3:Int)≠(0:Int),(9:Int)≠(0:Int),(11:Int)≠(0:Int),[D.int B s.s4,D.int B s.s5,D.int B s.s6,D.int B s.s7,D.int B s.s2,D.int B s.s3,D.int B s.s1,D.int B (IntKind.i64.wrap (s.s5.tdiv (7:Int))),D.int B (IntKind.i64.wrap (s.s6.tdiv (5:Int))),D.int B (IntKind.i64.wrap (s.s7.tdiv (3:Int))),D.int B (IntKind.i64.wrap (s.s4.tdiv (9:Int))),D.int B (IntKind.i64.wrap (s.s2.tdiv (11:Int)))].length=12,V.jj [V.eM false 12 [D.int B s.s4,D.int B s.s5,D.int B s.s6,D.int B s.s7,D.int B s.s2,D.int B s.s3,D.int B s.s1,D.int B (IntKind.i64.wrap (s.s5.tdiv (7:Int))),D.int B (IntKind.i64.wrap (s.s6.tdiv (5:Int))),D.int B (IntKind.i64.wrap (s.s7.tdiv (3:Int))),D.int B (IntKind.i64.wrap (s.s4.tdiv (9:Int))),D.int B (IntKind.i64.wrap (s.s2.tdiv (11:Int)))]]=[fD (l12 s)]],.ret (.agg (ur 3 nm hid op md clip pl g fi gH gx L mk)) (hL []) 0)]:=G.Y
theorem aeo:H (M W4 []) [] 0 Tryz.f30 [] (Gx) (wS s (ur 4 nm hid op md clip pl f fi gH gx L mk)) [([],[],.ret (.agg (ur 4 nm hid op md clip (W5 s.s6) f fi gH gx L mk)) (hL []) 0)]:=G.Y
abbrev yP:Prop:=V.int B (IntKind.i64.wrap ((3:Int)+IntKind.i64.wrap (Int.ofNat (BitVec.ofInt 64 s.s5&&&BitVec.ofInt 64 (3:Int)).toNat)))=R (3:Int)
theorem Ze:H (M W4 []) [(135,.dL (R 3))] 0 Tryz.f30 [] (Gx) (wS s (ur 5 nm hid op md clip pl f fi gH gx L mk)) [([],[yP s,yP s,yP s,yP s],.ret (.agg (ur 5 nm hid op md clip pl f (UG (Ra s.s4)) (.fk (some (0,0)) 3 3 2) gx L mk)) (hL [(0,.cells (D.gk (nf (Ja s.s6 s.s7 3))))]) 1)]:=G.Y
abbrev vr:Prop:=V.int B (IntKind.i64.wrap ((3:Int)+IntKind.i64.wrap (Int.ofNat (BitVec.ofInt 64 s.s5&&&BitVec.ofInt 64 (3:Int)).toNat)))=R (4:Int)
theorem Zf:H (M W4 []) [(135,.dL (R 4))] 0 Tryz.f30 [] (Gx) (wS s (ur 5 nm hid op md clip pl f fi gH gx L mk)) [([],[vr s,vr s,vr s,vr s,vr s],.ret (.agg (ur 5 nm hid op md clip pl f (UG (Ra s.s4)) (.fk (some (0,0)) 4 4 2) gx L mk)) (hL [(0,.cells (D.gk (nf (Ja s.s6 s.s7 4))))]) 1)]:=G.Y
abbrev sN:Prop:=V.int B (IntKind.i64.wrap ((3:Int)+IntKind.i64.wrap (Int.ofNat (BitVec.ofInt 64 s.s5&&&BitVec.ofInt 64 (3:Int)).toNat)))=R (5:Int)
theorem Zg:H (M W4 []) [(135,.dL (R 5))] 0 Tryz.f30 [] (Gx) (wS s (ur 5 nm hid op md clip pl f fi gH gx L mk)) [([],[sN s,sN s,sN s,sN s,sN s,sN s],.ret (.agg (ur 5 nm hid op md clip pl f (UG (Ra s.s4)) (.fk (some (0,0)) 5 5 2) gx L mk)) (hL [(0,.cells (D.gk (nf (Ja s.s6 s.s7 5))))]) 1)]:=G.Y
abbrev qE:Prop:=V.int B (IntKind.i64.wrap ((3:Int)+IntKind.i64.wrap (Int.ofNat (BitVec.ofInt 64 s.s5&&&BitVec.ofInt 64 (3:Int)).toNat)))=R (6:Int)
theorem Zh:H (M W4 []) [(135,.dL (R 6))] 0 Tryz.f30 [] (Gx) (wS s (ur 5 nm hid op md clip pl f fi gH gx L mk)) [([],[qE s,qE s,qE s,qE s,qE s,qE s,qE s],.ret (.agg (ur 5 nm hid op md clip pl f (UG (Ra s.s4)) (.fk (some (0,0)) 6 6 2) gx L mk)) (hL [(0,.cells (D.gk (nf (Ja s.s6 s.s7 6))))]) 1)]:=G.Y
end
theorem lg:∀(b a:Nat) (c:Code),dH a (dH b c)=dH (b+a) c
 |0,a,c=>by rw[bI];cases c<;>rfl
 |b+1,a,c=>by
  cases c with
  |seq x y=>rw[show dH (b+1) (.seq x y)=dH b y from rfl,lg b a y,show b+1+a=(b+a)+1 by omega];rfl
  |_=>rw[show b+1+a=(b+a)+1 by omega];cases a<;>rfl
section
variable(s:S8)
def HE:Int:=IntKind.i64.wrap (1+(an s.s0 65535).tmod 5)
def Rb:Nat:=3+(BitVec.ofInt 64 s.s5&&&BitVec.ofInt 64 (3:Int)).toNat
noncomputable def mA:eV where
 id:=0
 kd:=HE s
 nm:=OX s.s1
 hid:=Tp s.s1
 op:=if an s.s2 1=1 then opF s.s2 else 255
 md:=if an s.s3 3=1 then mdO s.s3 else 0
 clip:=Tq s.s1
 pl:=if HE s=1\/HE s=4 then W5 s.s6 else z7
 sp:=0
 kids:=[]
 of:=0
 f:=if HE s=3 then wz (l12 s)else uv
 fi:=if HE s=5 then UG (Ra s.s4)else z4
 gA:=if HE s=5 then Ja s.s6 s.s7 (Rb s)else[]
 gx:=if HE s=1 then ot [s.s4,s.s5,s.s6,s.s7,s.s2]else[]
 L:=an s.s3 192==64
 ig:=if an s.s3 192=64 then ot [s.s3,s.s4,s.s5]else[]
theorem Bl(x:Int)(m:Nat)(h:m<=65535):0<=an x m/\an x m<=m:=by
 unfold an;have h1:(BitVec.ofInt 64 x&&&BitVec.ofInt 64 (m:Int)).toNat<=m:=by
  rw[BitVec.toNat_and];refine bN Nat.and_le_right ?_;rw[BitVec.toNat_ofInt];have:((m:Int)%((2^64:Nat):Int)).toNat=m:=by
   rw[Int.emod_eq_of_lt S S];omega
  rw[this];exact aK _
 rw[iz (by simp only[gD];omega) (by simp only[gD];omega)];simp only[gD];omega
theorem Jb(kd:Int)(pl:P7)(f:FL){iX:V->I es->Nat->Prop}(oc:TG ak 0 Tryz.f30.ntmps Gx (wS s (ur kd (OX s.s1) (Tp s.s1) (if an s.s2 1=1 then opF s.s2 else 255) (if an s.s3 3=1 then mdO s.s3 else 0) (Tq s.s1) pl f z4 gH [] (an s.s3 192==64) (if an s.s3 192=64 then ot [s.s3,s.s4,s.s5]else[]))) (gi ak 0 Tryz.f30 iX)):
  TG ak 0 Tryz.f30.ntmps (dH 2 xH) (wS s (ur kd [] false 255 0 false pl f z4 gH [] false [])) (gi ak 0 Tryz.f30 iX):=by
 have h7:0<=an s.s1 7/\an s.s1 7<=7:=Bl s.s1 7 fg;refine fN 4 gh (alQ s kd [] false 255 0 false pl f z4 [] false []) ?_ ?_
 . refine X ?_ (eO ?_)
   . show(0:Int)<=IntKind.i64.wrap (an s.s1 7+1)/\IntKind.i64.wrap (an s.s1 7+1)<=8;rw[iz S S];omega
   . show(0:Int)<=an s.s1 7/\an s.s1 7<=Int.ofNat (IntKind.i64.wrap (an s.s1 7+1)).toNat;rw[iz S S];simp only[gD];omega
 rw[lg];have e3:TG ak 0 Tryz.f30.ntmps (dH 7 xH) (wS s (ur kd (OX s.s1) (Tp s.s1) (if an s.s2 1=1 then opF s.s2 else 255) 0 (Tq s.s1) pl f z4 gH [] false [])) (gi ak 0 Tryz.f30 iX)->TG ak 0 Tryz.f30.ntmps (dH 6 xH) (wS s (ur kd (OX s.s1) (Tp s.s1) 255 0 (Tq s.s1) pl f z4 gH [] false [])) (gi ak 0 Tryz.f30 iX):=fun h=>by
  refine uB 1 gh (alR s kd (OX s.s1) (Tp s.s1) 255 0 (Tq s.s1) pl f z4 [] false []) (dN (g1 fun h3=>⟨all_nil,_,rfl,?_⟩) (dK (g1 fun h3=>⟨all_nil,_,rfl,?_⟩)))
  all_goals
   have h3:(an s.s2 1==1)=_:=h3;simp only[ct,cB,ne_eq]at h3;rw[lg]
  . rw[aF h3]at h;exact h
  . rw[aD h3]at h;exact h
 have e4:TG ak 0 Tryz.f30.ntmps (dH 8 xH) (wS s (ur kd (OX s.s1) (Tp s.s1) (if an s.s2 1=1 then opF s.s2 else 255) (if an s.s3 3=1 then mdO s.s3 else 0) (Tq s.s1) pl f z4 gH [] false [])) (gi ak 0 Tryz.f30 iX)->TG ak 0 Tryz.f30.ntmps (dH 7 xH) (wS s (ur kd (OX s.s1) (Tp s.s1) (if an s.s2 1=1 then opF s.s2 else 255) 0 (Tq s.s1) pl f z4 gH [] false [])) (gi ak 0 Tryz.f30 iX):=fun h=>by
  refine uB 1 gh (alS s kd (OX s.s1) (Tp s.s1) _ 0 (Tq s.s1) pl f z4 [] false []) (dN (g1 fun h3=>⟨all_nil,_,rfl,?_⟩) (dK (g1 fun h3=>⟨all_nil,_,rfl,?_⟩)))
  all_goals
   have h3:(an s.s3 3==1)=_:=h3;simp only[ct,cB,ne_eq]at h3;rw[lg]
  . rw[aF h3]at h;exact h
  . rw[aD h3]at h;exact h
 refine e3 (e4 (uB 1 (Gt dJ (Q0 [s.s3,s.s4,s.s5] (show 3<=1000000 by decide)) gh) (alT s kd (OX s.s1) (Tp s.s1) _ _ (Tq s.s1) pl f z4 [] false [] _) (dN (g1 fun h3=>⟨X rfl (eO rfl),_,rfl,?_⟩) (dK (g1 fun h3=>⟨all_nil,_,rfl,?_⟩)))))
 all_goals
  have h3:(an s.s3 192==64)=_:=h3;rw[h3]at oc;simp only[ct,cB,ne_eq]at h3;rw[lg]
 . rw[aF h3]at oc;exact oc
 . rw[aD h3]at oc;exact oc
theorem alU:ee ak 30 [.agg s.cs] (mA s).v:=by
 refine mz Tryz.func30 ?_;have h5:0<=an s.s0 65535/\an s.s0 65535<=65535:=Bl s.s0 65535 fg;have L:=wR h5.1 (d:=5) fg;have hk:HE s=1+(an s.s0 65535).tmod 5:=iz S S;have rB:∀q:Int,HE s=q->V.int B (IntKind.i64.wrap ((1:Int)+(IntKind.i64.wrap (Int.ofNat (BitVec.ofInt 64 s.s0&&&BitVec.ofInt 64 (65535:Int)).toNat)).tmod (5:Int)))=R q:=fun q e=>aG _ e;have nlA (kd op:Int) (pl:P7) (k:Int):eJ ak 0 Tryz.f30.ntmps (wS s (OW kd op pl k)) (wS s (ur kd [] false op 0 false pl ⟨k,0,[],0,0,[]⟩ z4 gH [] false [])):=.step (.Uq 2 [15,19,22,28,30] dJ);rcases(by omega:HE s=1\/HE s=2\/HE s=3\/HE s=4\/HE s=5)with e|e|e|e|e
 . refine fN 2 gh (aeg s) (eO (rB 1 e)) (nlA _ _ _ _ _ _ (Jb s 1 i7 uv ?_));refine eR (Gt dJ (Q0 [s.s4,s.s5,s.s6,s.s7,s.s2] (show 5<=1000000 by decide)) sM) (ael s _ _ _ _ _ _ _ _ _ _ _ _) (dK (g0 ⟨X rfl (eO rfl),_,_,_,rfl,.self rfl ?_⟩));simp only[eV.v,mA,e];rfl
 . refine fN 2 gh (aeh s) (eO (rB 2 e)) (nlA _ _ _ _ _ _ (Jb s 2 z7 uv ?_));refine eR sM (aem s _ _ _ _ _ _ _ _ _ _ _) (dK (g0 ⟨all_nil,_,_,_,rfl,.self rfl ?_⟩));simp only[eV.v,mA,e];rfl
 . refine fN 2 gh (aei s) (eO (rB 3 e)) (nlA _ _ _ _ _ _ (Jb s 3 z7 ⟨6,0,[],0,0,[]⟩ ?_));refine eR (Gt dJ (aef _ _ _ _ _ _ _ _ _ _ _ _) sM) (aen s _ _ _ _ _ _ _ _ _ _ _ (wz (l12 s))) (dK (g0 ⟨?_,_,_,_,rfl,.self rfl ?_⟩))
   . repeat' (first|exact all_nil|refine X ?_ ?_)
     all_goals first|decide|rfl
   simp only[eV.v,mA,e];rfl
 . refine fN 2 gh (aej s) (eO (rB 4 e)) (nlA _ _ _ _ _ _ (Jb s 4 i7 uv ?_));refine eR sM (aeo s _ _ _ _ _ _ _ _ _ _ _) (dK (g0 ⟨all_nil,_,_,_,rfl,.self rfl ?_⟩));simp only[eV.v,mA,e];rfl
 . refine fN 2 gh (aek s) (eO (rB 5 e)) (nlA _ _ _ _ _ _ (Jb s 5 z7 uv ?_));have A:Rb s=3\/Rb s=4\/Rb s=5\/Rb s=6:=by
    unfold Rb;have:(BitVec.ofInt 64 s.s5&&&BitVec.ofInt 64 (3:Int)).toNat<=3:=by
     rw[BitVec.toNat_and];exact Nat.and_le_right
    omega
   have Po:∀q:Nat,Rb s=q->V.int B (IntKind.i64.wrap ((3:Int)+IntKind.i64.wrap (Int.ofNat (BitVec.ofInt 64 s.s5&&&BitVec.ofInt 64 (3:Int)).toNat)))=R (Int.ofNat q):=fun q hq=>by
    unfold Rb at hq A;generalize (BitVec.ofInt 64 s.s5&&&BitVec.ofInt 64 (3:Int)).toNat=m at hq A;rw[iz (x:=Int.ofNat m) (by simp only[gD];omega) (by simp only[gD];omega),iz (by simp only[gD];omega) (by simp only[gD];omega),<- hq];simp only[gD];congr 1
   have oc:∀(c:Nat) (nm:aa) (hid:Bool) (op md:Int) (clip:Bool) (L:Bool) (mk:List Tl),(nf (Ja s.s6 s.s7 c)).length=c*2->Yz [0] (.agg (ur 5 nm hid op md clip z7 uv (UG (Ra s.s4)) (.fk (some (0,0)) c c 2) [] L mk)) (hL [(0,.cells (D.gk (nf (Ja s.s6 s.s7 c))))]) 1=some ([(nf (Ja s.s6 s.s7 c)).length=c*2],.agg (ur 5 nm hid op md clip z7 uv (UG (Ra s.s4)) (.eM false c (nf (Ja s.s6 s.s7 c))) [] L mk))->nm=(mA s).nm->hid=(mA s).hid->op=(mA s).op->md=(mA s).md->clip=(mA s).clip->L=(mA s).L->mk=(mA s).ig->Rb s=c->
     uI (mA s).v (.agg (ur 5 nm hid op md clip z7 uv (UG (Ra s.s4)) (.fk (some (0,0)) c c 2) [] L mk)) (hL [(0,.cells (D.gk (nf (Ja s.s6 s.s7 c))))]) 1:=by
    intro c nm hid op md clip L mk hl hf e1 e2 e3 e4 e5 e6 e7 A;refine .Am [0] hf (eO hl) rfl ?_;subst e1 e2 e3 e4 e5 e6 e7;have e8:(mA s).gA=Ja s.s6 s.s7 c:=by simp only[mA,e,if_true,A]
    have e9:(mA s).v= .agg (ur 5 (mA s).nm (mA s).hid (mA s).op (mA s).md (mA s).clip z7 uv (UG (Ra s.s4)) (wA (mA s).gA) [] (mA s).L (mA s).ig):=by
     simp only[eV.v,mA,e];rfl
    rw[e9,e8];have:(Ja s.s6 s.s7 c).length=c:=by simp[Ja]
    rw[show wA (Ja s.s6 s.s7 c)= .eM false c (nf (Ja s.s6 s.s7 c))by unfold wA;rw[this]];rfl
   rcases A with q|q|q|q
   . refine eR sM (Ze s _ _ _ _ _ _ _ _ _ _ _) (dK (g0 ⟨?_,_,_,_,rfl,oc 3 _ _ _ _ _ _ _ rfl dJ rfl rfl rfl rfl rfl rfl rfl q⟩))
     repeat' (first|exact all_nil|exact Po 3 q|refine X ?_ ?_)
   . refine eR sM (Zf s _ _ _ _ _ _ _ _ _ _ _) (dK (g0 ⟨?_,_,_,_,rfl,oc 4 _ _ _ _ _ _ _ rfl dJ rfl rfl rfl rfl rfl rfl rfl q⟩))
     repeat' (first|exact all_nil|exact Po 4 q|refine X ?_ ?_)
   . refine eR sM (Zg s _ _ _ _ _ _ _ _ _ _ _) (dK (g0 ⟨?_,_,_,_,rfl,oc 5 _ _ _ _ _ _ _ rfl dJ rfl rfl rfl rfl rfl rfl rfl q⟩))
     repeat' (first|exact all_nil|exact Po 5 q|refine X ?_ ?_)
   . refine eR sM (Zh s _ _ _ _ _ _ _ _ _ _ _) (dK (g0 ⟨?_,_,_,_,rfl,oc 6 _ _ _ _ _ _ _ rfl dJ rfl rfl rfl rfl rfl rfl rfl q⟩))
     repeat' (first|exact all_nil|exact Po 6 q|refine X ?_ ?_)
end
open Go.Shelf Go.RowKit
end Go.Proofs.YtmjggdmekboefaaGreat
