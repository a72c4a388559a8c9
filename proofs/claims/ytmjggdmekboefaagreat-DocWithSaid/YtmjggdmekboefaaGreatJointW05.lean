/- The Doc laws: the program is one that the engine runs. No conditions. -/
import Derived.Test.YtmjggdmekboefaaGreatProg
import Derived.Test.YtmjggdmekboefaaGreatJointW04
import Derived.Shelf.Strings.Builder1
set_option linter.unusedVariables false
set_option linter.unusedSimpArgs false
set_option linter.unusedSectionVars false
namespace Go.Proofs.YtmjggdmekboefaaGreat
open Go Go.Eng
noncomputable abbrev ak:=Tryz.prog
theorem po:jT ak=true:=by kernel_rfl
theorem mo:Tryz.prog.follows .mixedOrders=true:=by kernel_rfl
noncomputable def dL(f:Func):Code:=match f.body with|some c=>c|none=>.skip
def PZ(l:List (Nat×List (Nat×mj)))(f:FuncId):List (Nat×mj):=match l with
 | []=>[]
 |x::r=>match Nat.beq x.1 f with
  |true=>x.2
  |false=>PZ r f
noncomputable abbrev M(dP:gJ)(l:List (Nat×List (Nat×mj))):lS:=EH ak dP (PZ l) 1000 40
noncomputable abbrev XH{dP:gJ}(h:fe ak dP)(l:List (Nat×List (Nat×mj))):CX ak:=CX.of mo po h (PZ l) 1000 40
theorem gB:∀n:Nat,Int.ofNat n=(n:Int):=fun _=>rfl
abbrev L(n:Nat):V:=.int .i64 (Int.ofNat n)
abbrev F(n:Int):V:=.int .i64 n
section
variable{X hc:Nat}{c:Code}{s:St}{Q:Exit->St->Prop}{dP:gJ}{hh:List (Nat×List (Nat×mj))}{dz:List (Nat×mj)}{fn:Func}{live:List Nat}{dx:List (List (Bool×Bool)×ah×jU)}
abbrev H(cs:lS)(dz:List (Nat×mj))(X:Nat)(fn:Func)(live:List Nat)(c:Code)(s:St)(dx:List (List (Bool×Bool)×ah×jU)):Prop:=∃iW,G ak cs dz 1000 X fn live c s iW dx
abbrev D2:=ah×jU
abbrev ER:=List (Bool×Bool)×D2
abbrev eu(s:St):jU:=.to .normal s
abbrev ja:jU:=.ret (.bool false) (hL []) 0
abbrev By:jU:=.ret (.bool true) (hL []) 0
abbrev fR(a b:Nat):Prop:=(0:Int)<=Int.ofNat a/\Int.ofNat a<Int.ofNat b
abbrev oH(i:Nat):Prop:=V.int B (IntKind.i64.wrap (Int.ofNat i+(1:Int)))=L (i+1)
abbrev gG(iW:ai)(i w:Nat)(c:ai):Prop:=V.dS (dO iW (i*w) w)=V.dS c
abbrev lu(b:Bool):Prop:=V.bool b=V.bool false
abbrev kO(b:Bool):Prop:=V.bool b=V.bool true
abbrev fP(a:Bool)(p q:D2):List ER:=[([(a,true)],p),([(a,false)],q)]
abbrev si(a b:Bool)(p q r:D2):List ER:=[([(a,true),(b,true)],p),([(a,true),(b,false)],q),([(a,false)],r)]
abbrev Nr(a b c:Bool)(p q r s:D2):List ER:=[([(a,true),(b,true),(c,true)],p),([(a,true),(b,true),(c,false)],q),([(a,true),(b,false)],r),([(a,false)],s)]
abbrev XQ(a b c d:Bool)(p q r s t:D2):List ER:=[([(a,true),(b,true),(c,true),(d,true)],p),([(a,true),(b,true),(c,true),(d,false)],q),([(a,true),(b,true),(c,false)],r),([(a,true),(b,false)],s),([(a,false)],t)]
abbrev XR(a b c d e:Bool)(p q r s t u:D2):List ER:=[([(a,true),(b,true),(c,true),(d,true),(e,true)],p),([(a,true),(b,true),(c,true),(d,true),(e,false)],q),([(a,true),(b,true),(c,true),(d,false)],r),([(a,true),(b,true),(c,false)],s),([(a,true),(b,false)],t),([(a,false)],u)]
abbrev XS(a b c d e f:Bool)(p q r s t u v:D2):List ER:=[([(a,true),(b,true),(c,true),(d,true),(e,true),(f,true)],p),([(a,true),(b,true),(c,true),(d,true),(e,true),(f,false)],q),([(a,true),(b,true),(c,true),(d,true),(e,false)],r),([(a,true),(b,true),(c,true),(d,false)],s),([(a,true),(b,true),(c,false)],t),([(a,true),(b,false)],u),([(a,false)],v)]
abbrev ajF(a b c d e f g:Bool)(p q r s t u v w:D2):List ER:=[([(a,true),(b,true),(c,true),(d,true),(e,true),(f,true),(g,true)],p),([(a,true),(b,true),(c,true),(d,true),(e,true),(f,true),(g,false)],q),([(a,true),(b,true),(c,true),(d,true),(e,true),(f,false)],r),([(a,true),(b,true),(c,true),(d,true),(e,false)],s),([(a,true),(b,true),(c,true),(d,false)],t),([(a,true),(b,true),(c,false)],u),([(a,true),(b,false)],v),([(a,false)],w)]
abbrev TF(a b:Bool)(p q r:D2):List ER:=[([(a,true)],p),([(a,false),(b,true)],q),([(a,false),(b,false)],r)]
abbrev XT(a b c:Bool)(p q r s:D2):List ER:=[([(a,true)],p),([(a,false),(b,true)],q),([(a,false),(b,false),(c,true)],r),([(a,false),(b,false),(c,false)],s)]
abbrev ajG(a b c d:Bool)(p q r s t:D2):List ER:=[([(a,true)],p),([(a,false),(b,true)],q),([(a,false),(b,false),(c,true)],r),([(a,false),(b,false),(c,false),(d,true)],s),([(a,false),(b,false),(c,false),(d,false)],t)]
abbrev ajH(a b c d e f:Bool)(p q r s t u v:D2):List ER:=[([(a,true)],p),([(a,false),(b,true)],q),([(a,false),(b,false),(c,true)],r),([(a,false),(b,false),(c,false),(d,true)],s),([(a,false),(b,false),(c,false),(d,false),(e,true)],t),([(a,false),(b,false),(c,false),(d,false),(e,false),(f,true)],u),([(a,false),(b,false),(c,false),(d,false),(e,false),(f,false)],v)]
abbrev CW(a b:Bool)(p q:D2):List ER:=si a b p q q
abbrev P0(a b c:Bool)(p q:D2):List ER:=Nr a b c p q q q
abbrev D3(a b c d:Bool)(p q:D2):List ER:=XQ a b c d p q q q q
abbrev TH(a b c d e:Bool)(p q:D2):List ER:=XR a b c d e p q q q q q
abbrev ac2(a b c d e f g:Bool)(p q:D2):List ER:=ajF a b c d e f g p q q q q q q q
abbrev TI(a b:Bool)(p q:D2):List ER:=TF a b p p q
abbrev ajI(a b c:Bool)(p q:D2):List ER:=XT a b c p p p q
abbrev ac3(a b c d:Bool)(p q:D2):List ER:=ajG a b c d p p p p q
abbrev ajJ(a b c d e f:Bool)(p q:D2):List ER:=ajH a b c d e f p p p p p p q
theorem G.W{P:Program}{cs:lS}{dz:List (Nat×mj)}{iX X:Nat}{fn:Func}{live:List Nat}{c:Code}{s:St}{dx:List (List (Bool×Bool)×ah×jU)}(h1:AN P cs dz iX c s=true:=by kernel_rfl)(C:vP P cs dz iX c s=yn P cs dz iX c s:=by kernel_rfl)(h3:Bg P cs dz iX X fn live c s=dx:=by kernel_rfl):∃iW,G P cs dz iX X fn live c s iW dx:=G.of h1 C h3
theorem gk(n0:fe ak dP)(s':V->I es->Nat->Prop)(hr:H (M dP hh) dz X fn live c s dx)(h:∀g∈dx,(∀b∈g.1,b.1=b.2)->(∀a∈g.2.1,a)/\g.2.2.post ak X fn live s' Q)(N:eV hc c=true:=by kernel_rfl):TG ak X hc c s Q:=
 hr.elim fun _ hr=>VY (XH n0 hh) mo s' N hr h
theorem fH(k:Nat)(n0:fe ak dP){fm:ah}{s1:St}(hr:H (M dP hh) dz X fn live (dU k c) s [([],fm,.to .normal s1)])(hA:∀a∈fm,a)(h:TG ak X hc (dA k c) s1 Q)(N:eV hc c=true:=by kernel_rfl):TG ak X hc c s Q:=
 hr.elim fun _ hr=>Tq k (XH n0 hh) mo N hr hA h
theorem uh(k:Nat)(n0:fe ak dP)(hr:H (M dP hh) dz X fn live (dU k c) s dx)(h:∀g∈dx,(∀b∈g.1,b.1=b.2)->(∀a∈g.2.1,a)/\∃s1,g.2.2= .to .normal s1/\TG ak X hc (dA k c) s1 Q)(N:eV hc c=true:=by kernel_rfl):TG ak X hc c s Q:=
 hr.elim fun _ hr=>PD k (XH n0 hh) mo N hr h
def HdF(P:Program)(X hc:Nat)(fn:Func)(s':V->I es->Nat->Prop)(rest:Code):jU->Prop
 | .to .normal s=>TG P X hc rest s (fV P X fn s')
 | .ret v h n=>s' v h n
 |_=>False
theorem zU{P:Program}{cf:gm}{iX:Nat}:∀(k:Nat) (c:Code) (s:St) (x:n0) (s1:St),gH P cf iX (dU k c) s=some (x,s1)->x≠ .normal->gH P cf iX c s=some (x,s1):=by
 intro k;have skip:∀{s:St} {x:n0} {s1:St} {r:Prop},gH P cf iX .skip s=some (x,s1)->x≠ .normal->r:=by
  intro s x s1 r e J;simp only[gH,aq,aB]at e;exact absurd e.1.symm J
 induction k with
 |zero=>intro c s x s1 e J;cases c<;>exact skip e J
 |succ k ih=>
  intro c s x s1 e J;cases c<;>first|exact skip e J|skip
  rename_i a b;simp only[dU,gH]at e ⊢;cases h1:gH P cf iX a s with
  |none=>rw[h1]at e;cases e
  |some p=>
   rw[h1]at e;obtain⟨y,R⟩:=p;cases y with
   |normal=>exact ih b R x s1 e J
   |_=>exact e
theorem isH(k:Nat){s':V->I es->Nat->Prop}(n0:fe ak dP)(hr:H (M dP hh) dz X fn live (dU k c) s dx)(h:∀g∈dx,(∀b∈g.1,b.1=b.2)->(∀a∈g.2.1,a)/\HdF ak X hc fn s' (dA k c) g.2.2)(N:eV hc c=true:=by kernel_rfl):TG ak X hc c s (fV ak X fn s'):=by
 obtain⟨iW,hr⟩:=hr;obtain⟨e1,e2,e3⟩:=hr.parts;obtain⟨l,hl⟩:=bI.1 e1;unfold vP yn at e2;unfold Bg at e3;rw[hl]at e2 e3;simp only[wu]at e2 e3;obtain⟨⟨p,hp,ho⟩,C⟩:=jN ak (XH n0 hh).cs (XH n0 hh).cf dz (XH n0 hh).snd 1000 (dU k c) s l hl;obtain⟨hA,hT⟩:=h (p.1.conds,p.1.Om,qm ak X fn live p.2) (e3▸n5 hp) ho;have gx:=C p hp ho ⟨tu l e2 p hp,hA⟩;obtain⟨pp,x,R⟩:=p;simp only[qm]at hT;cases x with
 |normal=>
  simp only at hT;split at hT
  . rename_i s2 vQ;exact yo (iX:=1000) (XH n0 hh).ok mo k N gx (fQ vQ hT)
  . exact hT.elim
 |ret=>
  simp only at hT;split at hT
  . rename_i v h' n' JM;exact qG (iX:=1000) (XH n0 hh).ok mo N (zU k c s _ R gx (by intro q;cases q)) rfl ⟨.inr rfl,v,h',n',JM,hT⟩
  . exact hT.elim
 |exit i=>
  simp only at hT;split at hT<;>exact hT.elim
 |panic _=>exact hT.elim
theorem eR{s':V->I es->Nat->Prop}(n0:fe ak dP)(hr:H (M dP hh) dz X fn live c s dx)(h:∀g∈dx,(∀b∈g.1,b.1=b.2)->(∀a∈g.2.1,a)/\∃v h n,g.2.2= .ret v h n/\s' v h n)(N:eV hc c=true:=by kernel_rfl):TG ak X hc c s (fV ak X fn s'):=
 hr.elim fun _ hr=>Xz (XH n0 hh) mo s' N hr h
end
theorem all_nil:∀a∈([]:ah),a:=fun _ h=>absurd h aF
section
variable{i:Nat}{x:Int}{n:Nat}
theorem iS{Q:Exit->St->Prop}{s:St}:gZ i Q (.exit i) s=Q .normal s:=by simp[gZ]
theorem ij(h1:-9000000000000000000<=x)(C:x<=9000000000000000000):IntKind.i64.wrap x=x:=by
 unfold IntKind.wrap;have e1:(2^IntKind.i64.bits:Int)=18446744073709551616:=by decide
 have e2:(2^(IntKind.i64.bits-1):Int)=9223372036854775808:=by decide
 have e3:IntKind.i64.signed=true:=rfl;simp only[e1,e2,e3,aP,aS];split<;>omega
abbrev ieq(x:Int)(n:Nat):Prop:=V.int .i64 (IntKind.i64.wrap x)=V.int .i64 (Int.ofNat n)
theorem xe(h:x=(n:Int))(Y:n<1000000000000):ieq x n:=by
 unfold ieq;rw[ij S S,h];rfl
theorem gK(h:i<100000000000):ieq (Int.ofNat i+1) (i+1):=xe rfl S
theorem j9(h:decide (Int.ofNat i<Int.ofNat n)=true):i<n:=cB.1 (aX h)
theorem qZ(h:decide (Int.ofNat i<Int.ofNat n)=false):n<=i:=by have:=bq h;simp only[gB]at this;omega
theorem iT(h:i<n):(0:Int)<=Int.ofNat i/\Int.ofNat i<Int.ofNat n:=⟨bO _,cB.2 h⟩
end
abbrev fu(a:ag):Prop:=a=a
section
abbrev GP:=List (Bool×Bool)×ah×jU
variable{P:GP->Prop}{p:GP}{l:List GP}{q:Prop}{a b c d e f:Bool}
theorem gU:∀g∈([]:List GP),(∀b∈g.1,b.1=b.2)->P g:=fun _ h=>absurd h aF
theorem dJ(h:(∀b∈p.1,b.1=b.2)->P p)(t:∀g∈l,(∀b∈g.1,b.1=b.2)->P g):∀g∈p::l,(∀b∈g.1,b.1=b.2)->P g:=List.forall_mem_cons.2 ⟨h,t⟩
theorem dF(h:(∀b∈p.1,b.1=b.2)->P p):∀g∈[p],(∀b∈g.1,b.1=b.2)->P g:=dJ h gU
theorem g0(h:q):(∀b∈([]:List (Bool×Bool)),b.1=b.2)->q:=fun _=>h
theorem gc{l:List (Bool×Bool)}(h:a=b->(∀z∈l,z.1=z.2)->q):(∀z∈(a,b)::l,z.1=z.2)->q:=fun t=>h (t _ (bw ..)) fun z hz=>t z (aZ _ hz)
theorem g1(h:a=b->q):(∀z∈[(a,b)],z.1=z.2)->q:=fun t=>h (t _ (aG.2 rfl))
theorem g2(h:a=b->c=d->q):(∀z∈[(a,b),(c,d)],z.1=z.2)->q:=fun t=>h (t _ (bw ..)) (t (c,d) (by simp))
theorem g3(h:a=b->c=d->e=f->q):(∀z∈[(a,b),(c,d),(e,f)],z.1=z.2)->q:=fun t=>h (t _ (bw ..)) (t (c,d) (by simp)) (t (e,f) (by simp))
end
section
variable{P:Program}{X hc:Nat}{c:Code}{s:St}{Q:Exit->St->Prop}{fn:Func}{α:Type}
def LpQ(P:Program)(X hc:Nat)(fn:Func)(live:List Nat)(s':V->I es->Nat->Prop)(b:Nat)(Q:Exit->St->Prop)(μ:α->Nat)(Tr:α->Prop)(dy:α->St)(x:α):jU->Prop
 | .to .normal s=>∃x',μ x'<μ x/\Tr x'/\ew P X hc s (dy x')
 | .to (.exit j) s=>∀R,ld X live R=some s->gZ b Q (.exit j) R
 | .to y s=>∀R,ld X live R=some s->Q y R
 | .ret v h n=>s' v h n/\∀R,fV P X fn s' .ret R->Q .ret R
 | .bad=>False
theorem ES(b:Nat)(s':V->I es->Nat->Prop)(live:List Nat)(μ:α->Nat)(Tr:α->Prop)(dy:α->St)(x0:α)(i0:Tr x0)(h0:ew ak X hc s (dy x0))
  (Y:∀x,Tr x->∃(dP:gJ) (_:fe ak dP) (hh:_) (dz:_) (dx:_),H (M dP hh) dz X fn live (dK (dK c)) (dy x) dx/\∀g∈dx,(∀b∈g.1,b.1=b.2)->(∀a∈g.2.1,a)/\LpQ ak X hc fn live s' b Q μ Tr dy x g.2.2)
  (hs:(nq c b&&(oL (dK c)&&eV hc (dK (dK c))))=true:=by kernel_rfl):TG ak X hc c s Q:=by
 simp only[ay]at hs;refine EP b μ Tr dy hs.1 hs.2.1 x0 i0 h0 fun x J=>?_;obtain⟨dP,n0,hh,dz,dx,hr,hg⟩:=Y x J;refine gk n0 s' hr (fun g TJ hcd=>?_) hs.2.2;obtain⟨hA,hp⟩:=hg g TJ hcd;refine⟨hA,?_⟩;obtain⟨_,_,r⟩:=g;simp only at hp ⊢;cases r with
 |to y s1=>
  cases y with
  |normal=>
   obtain⟨x',h1,C,h3⟩:=hp;exact fun R dX=>⟨x',h1,C,(ew.norm dX).trans h3⟩
  |exit j=>exact hp
  |_=>exact hp
 |ret v h n=>exact hp
 |bad=>exact hp.elim
def LpF(P:Program)(X hc:Nat)(fn:Func)(s':V->I es->Nat->Prop)(b:Nat)(rest:Code)(μ:α->Nat)(Tr:α->Prop)(dy:α->St)(x:α):jU->Prop
 | .to .normal s=>∃x',μ x'<μ x/\Tr x'/\ew P X hc s (dy x')
 | .to (.exit j) s=>j=b/\TG P X hc rest s (fV P X fn s')
 | .ret v h n=>s' v h n
 |_=>False
theorem V3(b:Nat)(s':V->I es->Nat->Prop)(live:List Nat)(μ:α->Nat)(Tr:α->Prop)(dy:α->St)(x0:α)(i0:Tr x0)(h0:ew ak X hc s (dy x0))
  (Y:∀x,Tr x->∃(dP:gJ) (_:fe ak dP) (hh:_) (dz:_) (dx:_),H (M dP hh) dz X fn live (dK (dK (dI c))) (dy x) dx/\∀g∈dx,(∀b∈g.1,b.1=b.2)->(∀a∈g.2.1,a)/\LpF ak X hc fn s' b (dY c) μ Tr dy x g.2.2)
  (hs:(qf c&&(nq (dI c) b&&(oL (dK (dI c))&&eV hc (dK (dK (dI c))))))=true:=by kernel_rfl):TG ak X hc c s (fV ak X fn s'):=by
 simp only[ay]at hs;refine dM hs.1 (ES (fn:=fn) b s' live μ Tr dy x0 i0 h0 (fun x J=>?_) (by simp only[ay];exact hs.2));obtain⟨dP,n0,hh,dz,dx,hr,hg⟩:=Y x J;refine⟨dP,n0,hh,dz,dx,hr,fun g TJ hcd=>?_⟩;obtain⟨hA,hp⟩:=hg g TJ hcd;refine⟨hA,?_⟩;obtain⟨_,_,r⟩:=g;simp only at hp ⊢;cases r with
 |to y s1=>
  cases y with
  |normal=>exact hp
  |exit j=>
   obtain⟨rfl,h⟩:=hp;exact fun R dX=>by rw[iS];exact fQ dX h
  |_=>exact hp.elim
 |ret v h n=>exact⟨hp,fun R h=>h⟩
 |bad=>exact hp.elim
theorem nD{dP:gJ}(n0:fe ak dP)(b:Nat)(s':V->I es->Nat->Prop)(live:List Nat)(μ:α->Nat)(Tr:α->Prop)(dy:α->St)(x0:α)(i0:Tr x0)
  {h0h:List (Nat×List (Nat×mj))} {H0:List (Nat×mj)} {fm:ah} {s0:St} (V4:H (M dP h0h) H0 X fn live (dI (dI c)) s [([],fm,.to .normal s0)]) (hA:∀a∈fm,a) (h0:ew ak X hc s0 (dy x0))
  (Y:∀x,Tr x->∃(dP:gJ) (_:fe ak dP) (hh:_) (dz:_) (dx:_),H (M dP hh) dz X fn live (dK (dK (dY (dI c)))) (dy x) dx/\∀g∈dx,(∀b∈g.1,b.1=b.2)->(∀a∈g.2.1,a)/\LpF ak X hc fn s' b (dY c) μ Tr dy x g.2.2)
  (hs:((qf c&&qf (dI c))&&(eV hc (dI (dI c))&&(nq (dY (dI c)) b&&(oL (dK (dY (dI c)))&&eV hc (dK (dK (dY (dI c))))))))=true:=by kernel_rfl):TG ak X hc c s (fV ak X fn s'):=by
 simp only[ay]at hs;refine dM hs.1.1 (dM hs.1.2 (gk n0 eI V4 (dF (g0 ⟨hA,fun R dX=>?_⟩)) hs.2.1));simp only[andThen];refine ES (fn:=fn) b s' live μ Tr dy x0 i0 ((ew.norm dX).trans h0) (fun x J=>?_) (by simp only[ay];exact hs.2.2);obtain⟨dP,n0,hh,dz,dx,hr,hg⟩:=Y x J;refine⟨dP,n0,hh,dz,dx,hr,fun g TJ hcd=>?_⟩;obtain⟨hA,hp⟩:=hg g TJ hcd;refine⟨hA,?_⟩;obtain⟨_,_,r⟩:=g;simp only at hp ⊢;cases r with
 |to y s1=>
  cases y with
  |normal=>exact hp
  |exit j=>
   obtain⟨rfl,h⟩:=hp;exact fun R dX=>by rw[iS];exact fQ dX h
  |_=>exact hp.elim
 |ret v h n=>exact⟨hp,fun R h=>h⟩
 |bad=>exact hp.elim
end
noncomputable abbrev ac7:Code:=dL Tryz.f61
noncomputable abbrev XU:Code:=dL Tryz.f59
section
variable(x u:Int)(ks:List Int)
noncomputable abbrev TK:Code:=dA 3 XU
def sV0:St:=fB [(3,.eZ none 0 0 0),(4,.int .u64 u)] (hL []) 0
def sV1(u:Int):St:=fB [(3,.eZ (some (0,0)) ks.length ks.length 1),(4,.int .u64 u)] (hL [(0,.own .u8 ks)]) 1
theorem ajL:H (M ek []) [] 0 Tryz.f61 [] (ac7) (dB [.int .i64 x,.int .i64 1] .nil 0) [([],[(0:Int)<=(0:Int)/\(0:Int)<(8:Int),(0:Int)<=(1:Int)/\(1:Int)<(8:Int),(0:Int)<=(2:Int)/\(2:Int)<(8:Int),(0:Int)<=(3:Int)/\(3:Int)<(8:Int),(0:Int)<=(4:Int)/\(4:Int)<(8:Int),(0:Int)<=(5:Int)/\(5:Int)<(8:Int),(0:Int)<=(6:Int)/\(6:Int)<(8:Int),(0:Int)<=(7:Int)/\(7:Int)<(8:Int)],.ret (.str ([UInt8.ofNat (IntKind.u8.wrap ((IntKind.u64.wrap x).fdiv (1:Int))).toNat])) (hL []) 0)]:=G.W
theorem ajM:H (M ek []) [] 0 Tryz.f61 [] (ac7) (dB [.int .i64 x,.int .i64 4] .nil 0) [([],[(0:Int)<=(0:Int)/\(0:Int)<(8:Int),(0:Int)<=(1:Int)/\(1:Int)<(8:Int),(0:Int)<=(2:Int)/\(2:Int)<(8:Int),(0:Int)<=(3:Int)/\(3:Int)<(8:Int),(0:Int)<=(4:Int)/\(4:Int)<(8:Int),(0:Int)<=(5:Int)/\(5:Int)<(8:Int),(0:Int)<=(6:Int)/\(6:Int)<(8:Int),(0:Int)<=(7:Int)/\(7:Int)<(8:Int)],.ret (.str ([UInt8.ofNat (IntKind.u8.wrap ((IntKind.u64.wrap x).fdiv (16777216:Int))).toNat,UInt8.ofNat (IntKind.u8.wrap ((IntKind.u64.wrap x).fdiv (65536:Int))).toNat,UInt8.ofNat (IntKind.u8.wrap ((IntKind.u64.wrap x).fdiv (256:Int))).toNat,UInt8.ofNat (IntKind.u8.wrap ((IntKind.u64.wrap x).fdiv (1:Int))).toNat])) (hL []) 0)]:=G.W
theorem ajN(n:Int):H (M ek []) [] 0 Tryz.f59 [3,4] (dU 3 XU) (dB [.int .i64 n] .nil 0) [([],[],eu (sV0 (IntKind.u64.wrap n)))]:=G.W
theorem ajO:H (M ek []) [(8,.split)] 0 Tryz.f59 [3,4] (dK (dK (dI TK))) (sV0 u) (fP (decide (u>=(128:Int))) ([],eu (fB [(3,.eZ (some (0,0)) 1 1 1),(4,.int .u64 (u.fdiv (128:Int)))] (hL [(0,.cells [.int .u8 (IntKind.u8.wrap (Int.ofNat (BitVec.ofInt 8 (IntKind.u8.wrap u)|||BitVec.ofInt 8 (128:Int)).toNat))])]) 1)) ([],.to (.exit 0) (fB [(3,.eZ none 0 0 0),(4,.int .u64 u)] (hL []) 0))):=G.W
theorem ajP:H (M ek []) [(8,.split)] 0 Tryz.f59 [3,4] (dK (dK (dI TK))) (sV1 ks u) (fP (decide (u>=(128:Int))) ([0<ks.length,0+ks.length*1<=ks.length,0<1,fJ (ks.length+1) 1 1=true],eu (fB [(3,.eZ (some (0,0)) (ks.length+1) (ks.length+1) 1),(4,.int .u64 (u.fdiv (128:Int)))] (hL [(0,.own .u8 (List.take (ks.length*1) (List.drop 0 ks)++[IntKind.u8.wrap (Int.ofNat (BitVec.ofInt 8 (IntKind.u8.wrap u)|||BitVec.ofInt 8 (128:Int)).toNat)]))]) 1)) ([],.to (.exit 0) (fB [(3,.eZ (some (0,0)) (ks.length) (ks.length) 1),(4,.int .u64 u)] (hL [(0,.own .u8 ks)]) 1))):=G.W
theorem ajQ:H (M ek []) [] 0 Tryz.f59 [] (dY TK) (sV0 u) [([],[],.ret (.str ([UInt8.ofNat (IntKind.u8.wrap u).toNat])) (hL []) 0)]:=G.W
theorem ajR:H (M ek []) [] 0 Tryz.f59 [] (dY TK) (sV1 ks u) [([],[0<ks.length,0+ks.length*1<=ks.length,0<1,fJ (ks.length+1) 1 1=true,0+(ks.length+1)<=(List.take (ks.length*1) (List.drop 0 ks)++[IntKind.u8.wrap u]).length],.ret (.str (nG (List.take (ks.length+1) (List.drop 0 (List.take (ks.length*1) (List.drop 0 ks)++[IntKind.u8.wrap u]))))) (hL []) 0)]:=G.W
end
section
variable(x u:Int)
def pB(d:Int):UInt8:=UInt8.ofNat (IntKind.u8.wrap ((IntKind.u64.wrap x).fdiv d)).toNat
def ajS:aa:=[pB x 16777216,pB x 65536,pB x 256,pB x 1]
def zV:aa:=[pB x 1]
def Kl:ag->Option (ah×V)
 | [.int .i64 x,.int .i64 k]=>match k with
   | .ofNat 4=>some ([],.str (ajS x))
   | .ofNat 1=>some ([],.str (zV x))
   |_=>none
 |_=>none
theorem nt{f:FuncId}{fn:Func}{spec:ag->Option (ah×V)}(hf:Tryz.prog.funcs[f]? =some fn)
  (h:∀args fm v,spec args=some (fm,v)->V.tW args=true/\v.free=true/\(Nat.ble args.length fn.ntmps&&Nat.blt fn.ntmps gy)=true/\((∀a∈fm,a)->TG ak gN fn.ntmps (dL fn) (dB args .nil gN) (fV ak gN fn fun u _ _=>u=v)))
  (Y:fn.body=some (dL fn):=by kernel_rfl) (eY:Nat.blt f Tryz.prog.funcs.size=true:=by kernel_rfl):kj ak f (gQ spec):=
 Iy (aE eY) fun args fm v e=>by
  obtain⟨h1,C,h3,h4⟩:=h args fm v e;exact⟨h1,C,fun hA=>Kg mo po hf Y h3 h1 (h4 hA)⟩
theorem sm{α β:Type}{a c:α}{b d:β}(h:some (a,b)=some (c,d)):a=c/\b=d:=Prod.mk.inj (dn h)
abbrev b8:ah:=[(0:Int)<=0/\(0:Int)<8,(0:Int)<=1/\(1:Int)<8,(0:Int)<=2/\(2:Int)<8,(0:Int)<=3/\(3:Int)<8,(0:Int)<=4/\(4:Int)<8,(0:Int)<=5/\(5:Int)<8,(0:Int)<=6/\(6:Int)<8,(0:Int)<=7/\(7:Int)<8]
theorem V5:∀p∈b8,p:=by
 intro p hp;simp only[az,aF,bh]at hp;rcases hp with rfl|rfl|rfl|rfl|rfl|rfl|rfl|rfl<;>decide
theorem p128:(128:Int)^(9+1)=1180591620717411303424:=by rfl
theorem XV:kj ak 61 (gQ Kl):=by
 refine nt Tryz.func61 fun args fm v e=>?_;unfold Kl at e;split at e
 case h_2=>cases e
 split at e
 case h_3=>cases e
 all_goals
  obtain⟨rfl,rfl⟩:=sm e;refine⟨rfl,rfl,rfl,fun _=>?_⟩
 . exact eR (be _) (ajM _) (dF (g0 ⟨V5,_,_,_,rfl,rfl⟩))
 . exact eR (be _) (ajL _) (dF (g0 ⟨V5,_,_,_,rfl,rfl⟩))
def CY:Int:=IntKind.u8.wrap (Int.ofNat (BitVec.ofInt 8 (IntKind.u8.wrap u)|||BitVec.ofInt 8 (128:Int)).toNat)
def XW:Int:=IntKind.u8.wrap u
end
def uj:Nat->Int->List Int
 |0,u=>[XW u]
 |k+1,u=>if 128<=u then CY u::uj k (u.fdiv 128)else[XW u]
def eO(n:Int):aa:=nG (uj 9 (IntKind.u64.wrap n))
theorem CZ{k:Nat}{u:Int}(h:¬128<=u):uj k u=[XW u]:=by
 cases k with
 |zero=>rfl
 |succ k=>show(if 128<=u then _ else _)=_;rw[aA h]
theorem IE:∀(k:Nat) (u:Int),0<(uj k u).length/\(uj k u).length<=k+1
 |0,u=>by simp[uj]
 |k+1,u=>by
  have:=IE k (u.fdiv 128);show 0<(if 128<=u then _ else _:List Int).length/\(if 128<=u then _ else _:List Int).length<=_;split
  . simp only[aR];omega
  . simp only[aR,b9];omega
theorem sj(n:Int):0<(eO n).length/\(eO n).length<=10:=by
 have:=IE 9 (IntKind.u64.wrap n);unfold eO nG;rw[bG];exact this
theorem C0(n:Int):0<=IntKind.u64.wrap n/\IntKind.u64.wrap n<18446744073709551616:=by
 unfold IntKind.wrap;have e1:(2^IntKind.u64.bits:Int)=18446744073709551616:=by decide
 have e3:IntKind.u64.signed=false:=rfl;simp only[e1,e3,aQ,aM,cA];omega
theorem yu{k:Nat}(h:k<=100000000000):fJ k 1 1=true:=by
 unfold fJ;exact aT ⟨S,S⟩
def SVa(x:Nat×List Int×Int):St:=match x.2.1 with
 | []=>sV0 x.2.2
 |k::r=>sV1 (k::r) x.2.2
theorem ajT(n:Int):TG ak 0 Tryz.f59.ntmps XU (dB [.int .i64 n] .nil 0) (fV ak 0 Tryz.f59 fun u _ _=>u= .str (eO n)):=by
 have hu:=C0 n;refine fH 3 (be _) (ajN n) all_nil ?_;refine V3 (α:=Nat×List Int×Int) 0 _ [3,4] (·.1) (fun x=>0<=x.2.2/\x.2.2<128^(x.1+1)/\x.2.1.length+x.1<=10/\x.2.1++uj x.1 x.2.2=uj 9 (IntKind.u64.wrap n)) SVa (9,[],IntKind.u64.wrap n) ⟨hu.1,by show IntKind.u64.wrap n<(128:Int)^(9+1);rw[p128];omega,show 0+9<=10 by decide,rfl⟩ .refl ?_;rintro⟨k,ks,u⟩ ⟨h0,U,hl,hv⟩;simp only at h0 U hl hv;have C3:128<=u->∃j,k=j+1/\0<=u.fdiv 128/\u.fdiv 128<128^(j+1)/\(ks++[CY u])++uj j (u.fdiv 128)=uj 9 (IntKind.u64.wrap n):=fun h=>by
  cases k with
  |zero=>simp at U;omega
  |succ j=>
   have ed:u.fdiv 128=u/128:=Int.fdiv_eq_ediv_of_nonneg _ eX;refine⟨j,rfl,by rw[ed];omega,?_,?_⟩
   . rw[ed];have:(128:Int)^(j+1+1)=128^(j+1)*128:=Int.pow_succ ..;rw[this]at U;exact Int.ediv_lt_of_lt_mul eX U
   . rw[<- hv];show _=ks++(if 128<=u then _ else _);rw[aD h];simp
 have wY:¬128<=u->ks++[XW u]=uj 9 (IntKind.u64.wrap n):=fun h=>by rw[<- hv,CZ h]
 cases ks with
 |nil=>
  refine⟨_,(be _),[],_,_,ajO u,dJ (g1 fun h=>⟨all_nil,?_⟩) (dF (g1 fun h=>⟨all_nil,rfl,?_⟩))⟩
  . obtain⟨j,rfl,a1,a2,a3⟩:=C3 (aX h);exact⟨(j,[CY u],u.fdiv 128),Nat.lt_succ_self j,⟨a1,a2,by simp at hl ⊢;omega,a3⟩,.own [(0,.u8)] dD⟩
  . refine eR (be _) (ajQ u) (dF (g0 ⟨all_nil,_,_,_,rfl,?_⟩));unfold eO;rw[<- wY (bq h)];rfl
 |cons x r=>
  have uL:0<(x::r).length:=by simp
  have Ph:(x::r).length<=10:=by omega
  have e0:List.take ((x::r).length*1) (List.drop 0 (x::r))=x::r:=by rw[bx,cP,bn]
  have fm:=A uL (A (show 0+(x::r).length*1<=(x::r).length by omega) (A (show 0<1 by decide) (eM (yu (k:=(x::r).length+1) S))));have h3:=ajP u (x::r);have h5:=ajR u (x::r);rw[e0]at h3 h5;refine⟨_,(be _),[],_,_,h3,dJ (g1 fun h=>⟨fm,?_⟩) (dF (g1 fun h=>⟨all_nil,rfl,?_⟩))⟩
  . obtain⟨j,rfl,a1,a2,a3⟩:=C3 (aX h);refine⟨(j,(x::r)++[CY u],u.fdiv 128),Nat.lt_succ_self j,⟨a1,a2,by rw[aH];simp at hl ⊢;omega,a3⟩,?_⟩;have:SVa (j,(x::r)++[CY u],u.fdiv 128)=fB [(3,.eZ (some (0,0)) ((x::r).length+1) ((x::r).length+1) 1),(4,.int .u64 (u.fdiv (128:Int)))] (hL [(0,.own .u8 ((x::r)++[CY u]))]) 1:=by
     show sV1 ((x::r)++[CY u]) _=_;unfold sV1;rw[aH];rfl
    rw[this];exact .refl
  . have he:=wY (bq h);have e1:(x::r++[IntKind.u8.wrap u]).length=(x::r).length+1:=by rw[aH];rfl
    refine eR (be _) h5 (dF (g0 ⟨A uL (A (show 0+(x::r).length*1<=(x::r).length by omega) (A eX (A (yu S) (eM (by rw[e1];omega))))),_,_,_,rfl,?_⟩));unfold eO;rw[<- he,bx,<- e1,bn];rfl
def zW:ag->Option (ah×V)
 | [.int .i64 n]=>some ([],.str (eO n))
 |_=>none
theorem XX:kj ak 59 (gQ zW):=by
 refine nt Tryz.func59 fun args fm v e=>?_;unfold zW at e;split at e
 case h_2=>cases e
 obtain⟨rfl,rfl⟩:=sm e;exact⟨rfl,rfl,rfl,fun _=>ajT _⟩
noncomputable abbrev W1:gJ:=kp 59 (gQ zW) (kp 61 (gQ Kl) ek)
theorem qJ:fe ak W1:=fN XX (fN XV (be _))
section
variable(ks:List Int)(p:Nat->Int)(x:Int)(js:List Int)(y:Int)(i:Nat)(r g a b r' g' b' a':Int)
def vI:ai:=(List.range 256).map fun j=>.int .u8 (p j)
def tl:List Int:=(List.range 256).map p
def jh:V:=.agg (D.fU (vI p))
noncomputable abbrev ajU:Code:=dL Tryz.f70
noncomputable abbrev ac9:Code:=dL Tryz.f138
noncomputable abbrev XY:Code:=dA 1 ac9
noncomputable abbrev ada:Code:=dL Tryz.f139
noncomputable abbrev XZ:Code:=dA 1 ada
noncomputable abbrev ajV:Code:=dL Tryz.f132
noncomputable abbrev ajW:Code:=dL Tryz.f141
noncomputable abbrev ajX:Code:=dL Tryz.f142
def sZe:St:=fB [(1,.ptr (some (0,0))),(3,L i)] (hL [(0,.own .u8 ks)]) 1
def sSm:St:=fB [(2,.ptr (some (0,0))),(3,.ptr (some (1,0))),(5,L i)] (hL [(0,.own .u8 ks),(1,.own .u8 js)]) 2
theorem ajY(a:Int):H (M W1 []) [(5,.split)] 0 Tryz.f70 [] (ajU) (dB [.agg [.int .u8 r,.int .u8 g,.int .u8 b,.int .u8 a]] .nil 0) (fP (a==(0:Int)) ([],.ret (.agg [.int .u8 0,.int .u8 0,.int .u8 0,.int .u8 0]) (hL []) 0) ([],.ret (.agg [.int .u8 r,.int .u8 g,.int .u8 b,.int .u8 a]) (hL []) 0)):=G.W
theorem ajZ:H (M W1 []) [] 0 Tryz.f138 [1] (dU 1 ac9) (dB [jh p] .nil 0) [([],[],eu (fB [(1,.ptr (some (0,0)))] (hL [(0,.cells (D.fU (vI p)))]) 1))]:=G.W
theorem aj0:H (M W1 []) [] 0 Tryz.f138 [1,3] (dI (dI XY)) (fB [(1,.ptr (some (0,0)))] (hL [(0,.own .u8 ks)]) 1) [([],[],eu (sZe ks 0))]:=G.W
abbrev P1:Prop:=V.int IntKind.u8 (ks.getD (0+i*4+3) (0:Int))=V.int IntKind.u8 a
theorem aj1:H (M W1 []) [(5,.split),(11,.dG (.int .u8 a)),(12,.split),(7,.dG (L (i+1)))] 0 Tryz.f138 [1,3] (dK (dK (dY (dI XY)))) (sZe ks i) (si (decide (Int.ofNat i<(64:Int))) (a !=(0:Int)) ([(0:Int)<=Int.ofNat i/\Int.ofNat i<(64:Int),0+i*4+3<ks.length,P1 ks i a],ja) ([(0:Int)<=Int.ofNat i/\Int.ofNat i<(64:Int),0+i*4+3<ks.length,P1 ks i a,oH i],eu (sZe ks (i+1))) ([],.to (.exit 0) (sZe ks i))):=G.W
theorem aj2:H (M W1 []) [] 0 Tryz.f138 [] (dY XY) (sZe ks 64) [([],[],By)]:=G.W
theorem aj3(q:Nat->Int):H (M W1 []) [] 0 Tryz.f139 [2,3] (dU 1 ada) (dB [jh p,jh q] .nil 0) [([],[],eu (fB [(2,.ptr (some (0,0))),(3,.ptr (some (1,0)))] (hL [(0,.cells (D.fU (vI p))),(1,.cells (D.fU (vI q)))]) 2))]:=G.W
theorem aj4:H (M W1 []) [] 0 Tryz.f139 [2,3,5] (dI (dI XZ)) (fB [(2,.ptr (some (0,0))),(3,.ptr (some (1,0)))] (hL [(0,.own .u8 ks),(1,.own .u8 js)]) 2) [([],[],eu (sSm ks js 0))]:=G.W
abbrev P2:Prop:=mh IntKind.u8 js (0+i*4) 4=V.agg [V.int IntKind.u8 r',V.int IntKind.u8 g',V.int IntKind.u8 b',V.int IntKind.u8 a']
abbrev P3(a:Int):Prop:=mh IntKind.u8 ks (0+i*4) 4=V.agg [V.int IntKind.u8 r,V.int IntKind.u8 g,V.int IntKind.u8 b,V.int IntKind.u8 a]
theorem aj5(a r' g' b' a':Int):H (M W1 []) [(7,.split),(12,.dG (.agg [.int .u8 r,.int .u8 g,.int .u8 b,.int .u8 a])),(15,.dG (.agg [.int .u8 r',.int .u8 g',.int .u8 b',.int .u8 a'])),(16,.split),(9,.dG (L (i+1)))] 0 Tryz.f139 [2,3,5] (dK (dK (dY (dI XZ)))) (sSm ks js i) (si (decide (Int.ofNat i<(64:Int))) (!(r==r'&&(g==g'&&(b==b'&&(a==a'&&true))))) ([(0:Int)<=Int.ofNat i/\Int.ofNat i<(64:Int),0+i*4+4<=ks.length,P3 ks i r g b a,(0:Int)<=Int.ofNat i/\Int.ofNat i<(64:Int),0+i*4+4<=js.length,P2 js i r' g' b' a'],ja) ([(0:Int)<=Int.ofNat i/\Int.ofNat i<(64:Int),0+i*4+4<=ks.length,P3 ks i r g b a,(0:Int)<=Int.ofNat i/\Int.ofNat i<(64:Int),0+i*4+4<=js.length,P2 js i r' g' b' a',oH i],eu (sSm ks js (i+1))) ([],.to (.exit 0) (sSm ks js i))):=G.W
theorem aj6:H (M W1 []) [] 0 Tryz.f139 [] (dY XZ) (sSm ks js 64) [([],[],By)]:=G.W
theorem aj7:H (M W1 [(164,[(14,.split),(17,.split)])]) [] 0 Tryz.f132 [] (ajV) (dB [F x,F y] .nil 0) [([(x.tmod (8:Int) !=(0:Int),true),(decide (x<(0:Int)),true),(y.tmod (8:Int) !=(0:Int),true),(decide (y<(0:Int)),true)],[(8:Int)≠(0:Int),(8:Int)≠(0:Int),(8:Int)≠(0:Int),(8:Int)≠(0:Int)],.ret (.agg [.int .i64 (IntKind.i64.wrap (IntKind.i64.wrap (x.tdiv (8:Int))-(1:Int))),.int .i64 (IntKind.i64.wrap (IntKind.i64.wrap (y.tdiv (8:Int))-(1:Int)))]) (hL []) 0),([(x.tmod (8:Int) !=(0:Int),true),(decide (x<(0:Int)),true),(y.tmod (8:Int) !=(0:Int),true),(decide (y<(0:Int)),false)],[(8:Int)≠(0:Int),(8:Int)≠(0:Int),(8:Int)≠(0:Int),(8:Int)≠(0:Int)],.ret (.agg [.int .i64 (IntKind.i64.wrap (IntKind.i64.wrap (x.tdiv (8:Int))-(1:Int))),.int .i64 (IntKind.i64.wrap (y.tdiv (8:Int)))]) (hL []) 0),([(x.tmod (8:Int) !=(0:Int),true),(decide (x<(0:Int)),true),(y.tmod (8:Int) !=(0:Int),false)],[(8:Int)≠(0:Int),(8:Int)≠(0:Int),(8:Int)≠(0:Int),(8:Int)≠(0:Int)],.ret (.agg [.int .i64 (IntKind.i64.wrap (IntKind.i64.wrap (x.tdiv (8:Int))-(1:Int))),.int .i64 (IntKind.i64.wrap (y.tdiv (8:Int)))]) (hL []) 0),([(x.tmod (8:Int) !=(0:Int),true),(decide (x<(0:Int)),false),(y.tmod (8:Int) !=(0:Int),true),(decide (y<(0:Int)),true)],[(8:Int)≠(0:Int),(8:Int)≠(0:Int),(8:Int)≠(0:Int),(8:Int)≠(0:Int)],.ret (.agg [.int .i64 (IntKind.i64.wrap (x.tdiv (8:Int))),.int .i64 (IntKind.i64.wrap (IntKind.i64.wrap (y.tdiv (8:Int))-(1:Int)))]) (hL []) 0),([(x.tmod (8:Int) !=(0:Int),true),(decide (x<(0:Int)),false),(y.tmod (8:Int) !=(0:Int),true),(decide (y<(0:Int)),false)],[(8:Int)≠(0:Int),(8:Int)≠(0:Int),(8:Int)≠(0:Int),(8:Int)≠(0:Int)],.ret (.agg [.int .i64 (IntKind.i64.wrap (x.tdiv (8:Int))),.int .i64 (IntKind.i64.wrap (y.tdiv (8:Int)))]) (hL []) 0),([(x.tmod (8:Int) !=(0:Int),true),(decide (x<(0:Int)),false),(y.tmod (8:Int) !=(0:Int),false)],[(8:Int)≠(0:Int),(8:Int)≠(0:Int),(8:Int)≠(0:Int),(8:Int)≠(0:Int)],.ret (.agg [.int .i64 (IntKind.i64.wrap (x.tdiv (8:Int))),.int .i64 (IntKind.i64.wrap (y.tdiv (8:Int)))]) (hL []) 0),([(x.tmod (8:Int) !=(0:Int),false),(y.tmod (8:Int) !=(0:Int),true),(decide (y<(0:Int)),true)],[(8:Int)≠(0:Int),(8:Int)≠(0:Int),(8:Int)≠(0:Int),(8:Int)≠(0:Int)],.ret (.agg [.int .i64 (IntKind.i64.wrap (x.tdiv (8:Int))),.int .i64 (IntKind.i64.wrap (IntKind.i64.wrap (y.tdiv (8:Int))-(1:Int)))]) (hL []) 0),([(x.tmod (8:Int) !=(0:Int),false),(y.tmod (8:Int) !=(0:Int),true),(decide (y<(0:Int)),false)],[(8:Int)≠(0:Int),(8:Int)≠(0:Int),(8:Int)≠(0:Int),(8:Int)≠(0:Int)],.ret (.agg [.int .i64 (IntKind.i64.wrap (x.tdiv (8:Int))),.int .i64 (IntKind.i64.wrap (y.tdiv (8:Int)))]) (hL []) 0),([(x.tmod (8:Int) !=(0:Int),false),(y.tmod (8:Int) !=(0:Int),false)],[(8:Int)≠(0:Int),(8:Int)≠(0:Int),(8:Int)≠(0:Int),(8:Int)≠(0:Int)],.ret (.agg [.int .i64 (IntKind.i64.wrap (x.tdiv (8:Int))),.int .i64 (IntKind.i64.wrap (y.tdiv (8:Int)))]) (hL []) 0)]:=G.W
theorem aj8:H (M W1 []) [(5,.split),(9,.split),(14,.split)] 0 Tryz.f141 [] (ajW) (dB [.agg [F x,F y]] .nil 0) (P0 (decide (x>=(-8192:Int))) (decide (x<=(8191:Int))) (decide (y>=(-8192:Int))) ([],.ret (.bool (decide (y<=(8191:Int)))) (hL []) 0) ([],ja)):=G.W
end
theorem aj9(x y z w:Int):H (M W1 []) [(9,.split),(15,.split)] 0 Tryz.f142 [] (ajX) (dB [.agg [F x,F y],.agg [F z,F w]] .nil 0) (TF (decide (y<w)) (y==w) ([],By) ([],.ret (.bool (decide (x<z))) (hL []) 0) ([],ja)):=G.W
section
variable(p:Nat->Int){f:FuncId}{i:Nat}{fn:Func}{args:ag}
theorem fc{v:V}(hf:Tryz.prog.funcs[f]? =some fn)(hT:TG ak gN fn.ntmps (dL fn) (dB args .nil gN) (fV ak gN fn fun u _ _=>u=v))
  (Tw:V.qn args=true:=by kernel_rfl) (hv:v.deep=true:=by kernel_rfl) (Y:fn.body=some (dL fn):=by kernel_rfl) (l:(Nat.ble args.length fn.ntmps&&Nat.blt fn.ntmps gy)=true:=by kernel_rfl):dV ak f args v:=
 Kj mo po hf Y l Tw hv (qF hT fun _ _ ⟨hy,u,h,n,e,q⟩=>⟨hy,u,h,n,e,q▸ .self⟩)
theorem mJ{v:V}(hf:Tryz.prog.funcs[f]? =some fn)(hT:TG ak gN fn.ntmps (dL fn) (dB args .nil gN) (fV ak gN fn (rE v)))
  (Tw:V.qn args=true:=by kernel_rfl) (Y:fn.body=some (dL fn):=by kernel_rfl) (l:(Nat.ble args.length fn.ntmps&&Nat.blt fn.ntmps gy)=true:=by kernel_rfl):dV ak f args v:=
 .ajE mo po hf Y l Tw hT
theorem fk{f0:FuncId}{nr:ag}{v:V}{dy:gJ}(N:dV ak f0 nr v)(hS:fe ak dy)(eY:Nat.blt f0 Tryz.prog.funcs.size=true:=by kernel_rfl):fe ak (fa f0 nr v dy):=TC eY N hS
theorem oM:(tl p).length=256:=by simp[tl]
theorem xg{j:Nat}(h:j<256):(tl p).getD j 0=p j:=by
 simp[tl,ax,bC,cZ h]
theorem P4(h:i<64):mh .u8 (tl p) (0+i*4) 4= .agg [.int .u8 (p (4*i)),.int .u8 (p (4*i+1)),.int .u8 (p (4*i+2)),.int .u8 (p (4*i+3))]:=by
 show V.agg [.int .u8 ((tl p).getD (0+i*4+0) 0),.int .u8 ((tl p).getD (0+i*4+1) 0),.int .u8 ((tl p).getD (0+i*4+2) 0),.int .u8 ((tl p).getD (0+i*4+3) 0)]=_;rw[show 0+i*4+0=4*i by omega,show 0+i*4+1=4*i+1 by omega,show 0+i*4+2=4*i+2 by omega,show 0+i*4+3=4*i+3 by omega,xg p S,xg p S,xg p S,xg p S]
noncomputable def cD(p:Prop):Bool:=@decide p (Classical.propDecidable p)
theorem P5{p:Prop}(h:p):cD p=true:=@decide_eq_true p (Classical.propDecidable p) h
theorem TL{p:Prop}(h:¬p):cD p=false:=@decide_eq_false p (Classical.propDecidable p) h
theorem vT{p:Prop}(h:p):V.bool true= .bool (cD p):=by rw[P5 h]
theorem vF{p:Prop}(h:¬p):V.bool false= .bool (cD p):=by rw[TL h]
noncomputable def nu(p:Nat->Int):Bool:=cD (∀i,i<64->p (4*i+3)=0)
noncomputable def u7(q:Nat->Int):Bool:=cD (∀j,j<256->p j=q j)
theorem d64(h:decide (Int.ofNat i<(64:Int))=true):i<64:=by have:=aX h;simp only[gB]at this;omega
theorem n64(h:decide (Int.ofNat i<(64:Int))=false):64<=i:=by have:=bq h;simp only[gB]at this;omega
theorem b64(h:i<64):(0:Int)<=Int.ofNat i/\Int.ofNat i<(64:Int):=⟨bO _,WT⟩
theorem um{n i:Nat}(h:i<n):n-(i+1)<n-i:=by omega
theorem V6:dV ak 138 [jh p] (.bool (nu p)):=by
 refine fc Tryz.func138 ?_;refine fH 1 qJ (ajZ p) all_nil (zL [(0,.u8)] (s2:=fB [(1,.ptr (some (0,0)))] (hL [(0,.own .u8 (tl p))]) 1) dD ?_);refine nD qJ 0 _ [1,3] (64-·) (fun i=>i<=64/\∀k,k<i->p (4*k+3)=0) (sZe (tl p)) 0 ⟨eX,fun _ h=>absurd h (bL _)⟩ (aj0 (tl p)) all_nil .refl fun i ⟨hi,hz⟩=>?_;refine⟨_,qJ,[],_,_,aj1 (tl p) i (p (4*i+3)),dJ (g2 fun h1 C=>?_) (dJ (g2 fun h1 C=>?_) (dF (g1 fun h=>?_)))⟩
 . have eY:=d64 h1;refine⟨A (b64 eY) (A (by rw[oM];omega) (eM (aI _ (by rw[show 0+i*4+3=4*i+3 by omega];exact xg p S)))),?_⟩;exact vF fun h=>absurd (h i eY) (by simpa using C)
 . have eY:=d64 h1;exact⟨A (b64 eY) (A (by rw[oM];omega) (A (aI _ (by rw[show 0+i*4+3=4*i+3 by omega];exact xg p S)) (eM (gK S)))),i+1,um eY,⟨S,fun k U=>by
    rcases bj k i with q|q
    . exact hz k q
    . obtain rfl:k=i:=by omega
      simpa using C⟩,.refl⟩
 . have:=n64 h;obtain rfl:i=64:=by omega
   refine⟨all_nil,rfl,eR qJ (aj2 _) (dF (g0 ⟨all_nil,_,_,_,rfl,vT hz⟩))⟩
end
theorem adb(p q:Nat->Int):dV ak 139 [jh p,jh q] (.bool (u7 p q)):=by
 refine fc Tryz.func139 ?_;refine fH 1 qJ (aj3 p q) all_nil (zL [(0,.u8),(1,.u8)] (s2:=fB [(2,.ptr (some (0,0))),(3,.ptr (some (1,0)))] (hL [(0,.own .u8 (tl p)),(1,.own .u8 (tl q))]) 2) dD ?_);refine nD qJ 0 _ [2,3,5] (64-·) (fun i=>i<=64/\∀k,k<4*i->p k=q k) (sSm (tl p) (tl q)) 0 ⟨eX,fun _ h=>absurd h (bL _)⟩ (aj4 (tl p) (tl q)) all_nil .refl fun i ⟨hi,hz⟩=>?_;have fm (eY:i<64):=fun {l} (t:∀a∈l,a)=>A (b64 eY) (A (show 0+i*4+4<=(tl p).length by rw[oM];omega) (A (P4 p eY) (A (b64 eY) (A (show 0+i*4+4<=(tl q).length by rw[oM];omega) (A (P4 q eY) t)))));refine⟨_,qJ,[],_,_,aj5 (tl p) (tl q) i (p (4*i)) (p (4*i+1)) (p (4*i+2)) (p (4*i+3)) (q (4*i)) (q (4*i+1)) (q (4*i+2)) (q (4*i+3)),dJ (g2 fun h1 C=>?_) (dJ (g2 fun h1 C=>?_) (dF (g1 fun h=>?_)))⟩
 . have eY:=d64 h1;refine⟨fm eY all_nil,?_⟩;refine vF fun h=>?_;rw[h (4*i) S,h (4*i+1) S,h (4*i+2) S,h (4*i+3) S]at C;simp at C
 . have eY:=d64 h1;refine⟨fm eY (eM (gK S)),i+1,um eY,⟨S,fun k U=>?_⟩,.refl⟩;simp only[di,ay,cm,and_true]at C;rcases bj k (4*i)with z|z
   . exact hz k z
   . rcases(by omega:k=4*i\/k=4*i+1\/k=4*i+2\/k=4*i+3)with rfl|rfl|rfl|rfl
     . exact C.1
     . exact C.2.1
     . exact C.2.2.1
     . exact C.2.2.2
 . have:=n64 h;obtain rfl:i=64:=by omega
   refine⟨all_nil,rfl,eR qJ (aj6 _ _) (dF (g0 ⟨all_nil,_,_,_,rfl,vT hz⟩))⟩
def cl(a r:Int):Int:=if a=0 then 0 else r
def sL(x:Int):Int:=if x.tmod 8≠0/\x<0 then IntKind.i64.wrap (IntKind.i64.wrap (x.tdiv 8)-1)else IntKind.i64.wrap (x.tdiv 8)
def Bz(x y:Int):Bool:=decide (x>=(-8192:Int))&&(decide (x<=(8191:Int))&&(decide (y>=(-8192:Int))&&decide (y<=(8191:Int))))
def G3(x y z w:Int):Bool:=decide (y<w)||((y==w)&&decide (x<z))
def Km:ag->Option (ah×V)
 | [.agg [.int .u8 r,.int .u8 g,.int .u8 b,.int .u8 a]]=>some ([],.agg [.int .u8 (cl a r),.int .u8 (cl a g),.int .u8 (cl a b),.int .u8 (cl a a)])
 |_=>none
def Kn:ag->Option (ah×V)
 | [.int .i64 x,.int .i64 y]=>some ([],.agg [F (sL x),F (sL y)])
 |_=>none
def zX:ag->Option (ah×V)
 | [.agg [.int .i64 x,.int .i64 y]]=>some ([],.bool (Bz x y))
 |_=>none
def Ko:ag->Option (ah×V)
 | [.agg [.int .i64 x,.int .i64 y],.agg [.int .i64 z,.int .i64 w]]=>some ([],.bool (G3 x y z w))
 |_=>none
theorem X3:kj ak 70 (gQ Km):=by
 refine nt Tryz.func70 fun args fm v e=>?_;unfold Km at e;split at e
 case h_2=>cases e
 rename_i r g b a;obtain⟨rfl,rfl⟩:=sm e;refine⟨rfl,rfl,rfl,fun _=>eR qJ (ajY r g b a) (dJ (g1 fun h=>⟨all_nil,_,_,_,rfl,?_⟩) (dF (g1 fun h=>⟨all_nil,_,_,_,rfl,?_⟩)))⟩
 . have h:a=0:=by simpa using h
   simp only[cl,aD h]
 . have h:¬a=0:=by simpa using h
   simp only[cl,aA h]
theorem X4:kj ak 132 (gQ Kn):=by
 refine nt Tryz.func132 fun args fm v e=>?_;unfold Kn at e;split at e
 case h_2=>cases e
 rename_i x y;obtain⟨rfl,rfl⟩:=sm e;refine⟨rfl,rfl,rfl,fun _=>eR qJ (aj7 x y) fun g hg N=>?_⟩;simp only[az,aF,bh]at hg;rcases hg with rfl|rfl|rfl|rfl|rfl|rfl|rfl|rfl|rfl
 all_goals
  simp only[az,aF,bh,aL,bg,aS,bt,bne_iff_ne,ne_eq,Bool.not_eq_true,bne_eq_false_iff_eq]at N;refine⟨fun a ha=>by simp only[az,aF,bh,or_self]at ha;subst ha;decide,_,_,_,rfl,?_⟩;simp[sL,N]
theorem X5:kj ak 141 (gQ zX):=by
 refine nt Tryz.func141 fun args fm v e=>?_;unfold zX at e;split at e
 case h_2=>cases e
 rename_i x y;obtain⟨rfl,rfl⟩:=sm e;refine⟨rfl,rfl,rfl,fun _=>eR qJ (aj8 x y) (dJ (g3 fun h C h3=>⟨all_nil,_,_,_,rfl,?_⟩) (dJ (g3 fun h C h3=>⟨all_nil,_,_,_,rfl,?_⟩) (dJ (g2 fun h C=>⟨all_nil,_,_,_,rfl,?_⟩) (dF (g1 fun h=>⟨all_nil,_,_,_,rfl,?_⟩)))))⟩<;>simp only[Bz, *,aP,aQ]
section
variable(ks:List Int)(p:Nat->Int)(x:Int)(i:Nat)(y r g b a:Int)
theorem X6:kj ak 142 (gQ Ko):=by
 refine nt Tryz.func142 fun args fm v e=>?_;unfold Ko at e;split at e
 case h_2=>cases e
 rename_i x y z w;obtain⟨rfl,rfl⟩:=sm e;refine⟨rfl,rfl,rfl,fun _=>eR qJ (aj9 x y z w) (dJ (g1 fun h=>⟨all_nil,_,_,_,rfl,?_⟩) (dJ (g2 fun h C=>⟨all_nil,_,_,_,rfl,?_⟩) (dF (g2 fun h C=>⟨all_nil,_,_,_,rfl,?_⟩))))⟩<;>simp only[G3, *,aP,aQ,bU,bR]
noncomputable abbrev W2:gJ:=kp 70 (gQ Km) (kp 132 (gQ Kn) (kp 141 (gQ zX) (kp 142 (gQ Ko) W1)))
theorem ET:fe ak W2:=fN X3 (fN X4 (fN X5 (fN X6 qJ)))
def X7:Bool:=decide (x>=(0:Int))&&(decide (x<(8:Int))&&(decide (y>=(0:Int))&&decide (y<(8:Int))))
def Kp:ag->Option (ah×V)
 | [.int .i64 x,.int .i64 y]=>some ([],.bool (X7 x y))
 |_=>none
noncomputable abbrev aka:Code:=dL Tryz.f167
theorem akb:H (M W1 []) [(6,.split),(9,.split),(13,.split)] 0 Tryz.f167 [] (aka) (dB [F x,F y] .nil 0) (P0 (decide (x>=(0:Int))) (decide (x<(8:Int))) (decide (y>=(0:Int))) ([],.ret (.bool (decide (y<(8:Int)))) (hL []) 0) ([],ja)):=G.W
theorem X8:kj ak 167 (gQ Kp):=by
 refine nt Tryz.func167 fun args fm v e=>?_;unfold Kp at e;split at e
 case h_2=>cases e
 rename_i x y;obtain⟨rfl,rfl⟩:=sm e;refine⟨rfl,rfl,rfl,fun _=>eR qJ (akb x y) (dJ (g3 fun h C h3=>⟨all_nil,_,_,_,rfl,?_⟩) (dJ (g3 fun h C h3=>⟨all_nil,_,_,_,rfl,?_⟩) (dJ (g2 fun h C=>⟨all_nil,_,_,_,rfl,?_⟩) (dF (g1 fun h=>⟨all_nil,_,_,_,rfl,?_⟩)))))⟩<;>simp only[X7, *,aP,aQ]
noncomputable abbrev W3:gJ:=kp 167 (gQ Kp) W2
theorem fW:fe ak W3:=fN X8 ET
noncomputable abbrev ade:Code:=dL Tryz.f140
noncomputable abbrev X9:Code:=dA 1 ade
noncomputable abbrev TM:Code:=dL Tryz.f136
def sCl:St:=fB [(1,.ptr (some (0,0))),(2,.ptr (some (1,0))),(3,L i)] (hL [(0,.own .u8 ks),(1,.own .u8 (List.replicate 256 0))]) 2
theorem akc:H (M W2 []) [] 0 Tryz.f140 [1,2] (dU 1 ade) (dB [jh p] .nil 0) [([],[],eu (fB [(1,.ptr (some (0,0))),(2,.ptr (some (1,0)))] (hL [(0,.cells (D.fU (vI p))),(1,.cells (List.replicate 256 (.int .u8 0)))]) 2))]:=G.W
theorem akd:H (M W2 []) [] 0 Tryz.f140 [1,2,3] (dI (dI X9)) (fB [(1,.ptr (some (0,0))),(2,.ptr (some (1,0)))] (hL [(0,.own .u8 ks),(1,.own .u8 (List.replicate 256 0))]) 2) [([],[],eu (sCl ks 0))]:=G.W
theorem ake:H (M W2 []) [(5,.split),(11,.dG (.agg [.int .u8 r,.int .u8 g,.int .u8 b,.int .u8 a])),(7,.dG (L (i+1)))] 0 Tryz.f140 [1,2,3] (dK (dK (dY (dI X9)))) (sCl ks i) (fP (decide (Int.ofNat i<(64:Int))) ([(0:Int)<=Int.ofNat i/\Int.ofNat i<(64:Int),0+i*4+4<=ks.length,mh IntKind.u8 ks (0+i*4) 4=V.agg [V.int IntKind.u8 r,V.int IntKind.u8 g,V.int IntKind.u8 b,V.int IntKind.u8 a],(0:Int)<=Int.ofNat i/\Int.ofNat i<(64:Int),0+i*4+4<=ks.length,oH i],eu (sCl (A6 ks (0+i*4) [cl a r,cl a g,cl a b,cl a a]) (i+1))) ([],.to (.exit 0) (sCl ks i))):=G.W
theorem akf:H (M W2 []) [] 0 Tryz.f140 [] (dY X9) (sCl ks 64) [([],[256<=ks.length,256<=256],.ret (mh .u8 ks 0 256) (hL []) 0)]:=G.W
theorem akg:H (M W2 []) [] 0 Tryz.f136 [1,2,4,7,8] (dU 1 TM) (dB [jh p,F x,F y,.agg [.int .u8 r,.int .u8 g,.int .u8 b,.int .u8 a]] .nil 0) [([],[],eu (fB [(1,F x),(2,F y),(4,.ptr (some (0,0))),(7,.ptr (some (1,0))),(8,.ptr (some (2,0)))] (hL [(0,.cells (D.fU (vI p))),(1,.cells [.int .u8 r,.int .u8 g,.int .u8 b,.int .u8 a]),(2,.cells (List.replicate 256 (.int .u8 0)))]) 3))]:=G.W
def sSt:St:=fB [(4,.ptr (some (0,0))),(8,.ptr (some (1,0)))] (hL [(0,.own .u8 ks),(1,.own .u8 (List.replicate 256 0))]) 2
theorem adf(o:Nat):H (M W3 []) [(11,.split),(15,.dG (L o))] 0 Tryz.f136 [4,8] (dU 1 (dA 1 TM)) (fB [(1,F x),(2,F y),(4,.ptr (some (0,0))),(7,.ptr (some (1,0))),(8,.ptr (some (2,0)))] (hL [(0,.own .u8 ks),(1,.cells [.int .u8 r,.int .u8 g,.int .u8 b,.int .u8 a]),(2,.own .u8 (List.replicate 256 0))]) 3) (fP (X7 x y) ([V.int B (IntKind.i64.wrap (IntKind.i64.wrap ((8:Int)*y)+x))=L o,(0:Int)<=Int.ofNat o/\Int.ofNat o<(64:Int),0+o*4+4<=ks.length],eu (sSt (A6 ks (0+o*4) [r,g,b,a]))) ([],eu (sSt ks))):=G.W
theorem akh:H (M W3 []) [] 0 Tryz.f136 [] (dA 1 (dA 1 TM)) (sSt ks) [([],[256<=ks.length,256<=256],.ret (mh .u8 ks 0 256) (hL []) 0)]:=G.W
end
def iL(p:Nat->Int)(j:Nat):Int:=cl (p (4*(j/4)+3)) (p j)
section
variable(p:Nat->Int)(x y r g b a:Int)
theorem yw:mh .u8 (tl p) 0 256=jh p:=by
 unfold mh jh vI;rw[D.gq,List.map_map];refine aI V.agg (List.map_congr_left fun j hj=>?_);rw[bB,xg p (bN.1 hj)];rfl
theorem C5{p q:Nat->Int}(h:∀j,j<256->p j=q j):tl p=tl q:=List.map_congr_left fun j hj=>h j (bN.1 hj)
theorem zY{p q:Nat->Int}(h:∀j,j<256->p j=q j):jh p=jh q:=by rw[<- yw,<- yw,C5 h]
theorem P6(f:Nat->Int)(j:Nat):(tl f)[j]? =if j<256 then some (f j)else none:=by
 unfold tl;rw[bC];by_cases c:j<256
 . rw[aD c,cZ c];rfl
 . rw[aA c,ct (by rw[List.length_range];omega)];rfl
theorem Kq{f k:Nat->Int}{i:Nat}(hi:i<64){r g b a:Int}(h0:k (4*i)=r)(h1:k (4*i+1)=g)(C:k (4*i+2)=b)(h3:k (4*i+3)=a)(hn:∀j,j<256->j/4≠i->k j=f j):A6 (tl f) (0+i*4) [r,g,b,a]=tl k:=by
 have e:0+i*4=4*i:=by omega
 rw[e];refine List.ext_getElem? fun j=>?_;unfold A6;rw[List.getElem?_append,List.getElem?_append,aW,oM,Nat.min_eq_left (show 4*i<=256 by omega),P6];by_cases c1:j<4*i
 . rw[aD c1,bW,aD c1,P6,aD S,aD S,hn j S S]
 . rw[aA c1];by_cases c2:j<4*i+4
   . rw[aD (by simp only[aR,b9];omega),aD S];rcases(by omega:j=4*i\/j=4*i+1\/j=4*i+2\/j=4*i+3)with rfl|rfl|rfl|rfl
     . rw[h0,Nat.sub_self];rfl
     . rw[h1,Nat.add_sub_cancel_left];rfl
     . rw[C,Nat.add_sub_cancel_left];rfl
     . rw[h3,Nat.add_sub_cancel_left];rfl
   . rw[aA (by simp only[aR,b9];omega),bX,P6];simp only[aR,b9];rw[show 4*i+(0+1+1+1+1)+(j-4*i-(0+1+1+1+1))=j by omega];by_cases c3:j<256
     . rw[aD c3,aD c3,hn j c3 S]
     . rw[aA c3,aA c3]
theorem P8:dV ak 140 [jh p] (jh (iL p)):=by
 refine fc Tryz.func140 ?_;refine fH 1 ET (akc p) all_nil (zL [(0,.u8),(1,.u8)] (s2:=fB [(1,.ptr (some (0,0))),(2,.ptr (some (1,0)))] (hL [(0,.own .u8 (tl p)),(1,.own .u8 (List.replicate 256 0))]) 2) dD ?_);refine nD ET 0 _ [1,2,3] (64-·) (. <=64) (fun i=>sCl (tl fun j=>if j<4*i then iL p j else p j) i) 0 eX (akd (tl p)) all_nil (by
  rw[C5 (q:=p) fun j _=>aA S];exact .refl) fun i hi=>?_
 refine⟨_,ET,[],_,_,ake _ i (p (4*i)) (p (4*i+1)) (p (4*i+2)) (p (4*i+3)),dJ (g1 fun h1=>?_) (dF (g1 fun h=>?_))⟩
 . have eY:=d64 h1;refine⟨A (b64 eY) (A (by rw[oM];omega) (A ?_ (A (b64 eY) (A (by rw[oM];omega) (eM (gK S)))))),i+1,um eY,by show i+1<=64;omega,?_⟩
   . rw[P4 _ eY,aA S,aA S,aA S,aA S]
   . rw[Kq (k:=fun j=>if j<4*(i+1)then iL p j else p j) eY]
     . exact .refl
     all_goals first
      |(rw[aD S];unfold iL;congr 2;omega)
      |skip
     intro j _ hj;by_cases c:j<4*i
     . rw[aD c,aD S]
     . rw[aA c,aA S]
 . have:=n64 h;obtain rfl:i=64:=by omega
   refine⟨all_nil,rfl,eR ET (akf _) (dF (g0 ⟨A (by rw[oM];omega) (eM eX),_,_,_,rfl,?_⟩))⟩;rw[yw];exact zY fun j hj=>aD S
def Kr(j:Nat):Int:=if X7 x y=true/\j/4=(8*y+x).toNat then(if j%4=0 then r else if j%4=1 then g else if j%4=2 then b else a)else p j
theorem aki:dV ak 136 [jh p,F x,F y,.agg [.int .u8 r,.int .u8 g,.int .u8 b,.int .u8 a]] (jh (Kr p x y r g b a)):=by
 refine fc Tryz.func136 ?_;refine fH 1 ET (akg p x y r g b a) all_nil (zL [(0,.u8),(2,.u8)] (s2:=fB [(1,F x),(2,F y),(4,.ptr (some (0,0))),(7,.ptr (some (1,0))),(8,.ptr (some (2,0)))] (hL [(0,.own .u8 (tl p)),(1,.cells [.int .u8 r,.int .u8 g,.int .u8 b,.int .u8 a]),(2,.own .u8 (List.replicate 256 0))]) 3) dD ?_);have pX (q:Nat->Int) (hq:∀j,j<256->q j=Kr p x y r g b a j):TG ak 0 Tryz.f136.ntmps (dA 1 (dA 1 TM)) (sSt (tl q)) (fV ak 0 Tryz.f136 fun u _ _=>u=jh (Kr p x y r g b a)):=
  eR fW (akh _) (dF (g0 ⟨A (by rw[oM];omega) (eM eX),_,_,_,rfl,by rw[yw];exact zY hq⟩))
 by_cases h:X7 x y=true
 . have Y:0<=x/\x<8/\0<=y/\y<8:=by simpa[X7]using h
   have eY:(8*y+x).toNat<64:=by omega
   refine uh 1 fW (adf (tl p) x y r g b a (8*y+x).toNat) (dJ (g1 fun _=>⟨A ?_ (A (b64 eY) (eM (by rw[oM];omega))),_,rfl,?_⟩) (dF (g1 fun C=>by rw[h]at C;cases C)))
   . rw[ij (x:=8*y) S S];exact xe S S
   . rw[Kq (k:=Kr p x y r g b a) eY]
     . exact pX _ fun _ _=>rfl
     all_goals first
      |(unfold Kr;rw[aD ⟨h,S⟩];simp[Nat.mul_add_mod];done)
      |skip
     intro j _ hj;exact aA fun q=>hj q.2
 . have h:X7 x y=false:=by simpa using h
   exact uh 1 fW (adf (tl p) x y r g b a 0) (dJ (g1 fun C=>by rw[h]at C;cases C) (dF (g1 fun _=>⟨all_nil,_,rfl,pX _ fun j _=>(aA fun q=>by rw[h]at q;cases q.1).symm⟩)))
end
structure Tl where
 x:Int
 y:Int
 p:Nat->Int
def Tl.d(t:Tl):ai:=.int .i64 t.x:: .int .i64 t.y::vI t.p
def iH(l:List Tl):ai:=(l.map Tl.d).flatten
def kX(l:List Tl):V:=.agg [.eE false l.length (iH l)]
def tz:Nat->Int:=fun _=>0
noncomputable abbrev adg:Code:=dL Tryz.f133
noncomputable abbrev Ya:Code:=dA 1 adg
noncomputable abbrev V7:Code:=dL Tryz.f115
noncomputable abbrev P9:Code:=dA 2 V7
section
variable(n:Nat)(p:Nat->Int)(i:Nat)
def pxC:es:=.cells (D.fU (vI p))
def sTi(cs:ai)(x y:Int)(i:Nat):St:=fB [(2,.ptr (some (0,0))),(3,.ptr (some (1,0))),(4,.ptr (some (2,0))),(5,L i)] (hL [(0,.cells [.eE false n cs]),(1,.cells [F x,F y]),(2,pxC tz)]) 3
theorem akj(cs:ai)(x y:Int):H (M W3 []) [] 0 Tryz.f133 [2,3,4] (dU 1 adg) (dB [.agg [.eE false n cs],.agg [F x,F y]] .nil 0) [([],[],eu (fB [(2,.ptr (some (0,0))),(3,.ptr (some (1,0))),(4,.ptr (some (2,0)))] (hL [(0,.cells [.eE false n cs]),(1,.cells [F x,F y]),(2,pxC tz)]) 3))]:=G.W
theorem akk(cs:ai)(x y:Int):H (M W3 []) [] 0 Tryz.f133 [2,3,4,5] (dI (dI Ya)) (fB [(2,.ptr (some (0,0))),(3,.ptr (some (1,0))),(4,.ptr (some (2,0)))] (hL [(0,.cells [.eE false n cs]),(1,.cells [F x,F y]),(2,pxC tz)]) 3) [([],[],eu (sTi n cs x y 0))]:=G.W
theorem adh(cs:ai)(x y:Int)(i:Nat)(t:Tl):H (M W3 []) [(10,.split),(16,.dG (.dS t.d)),(20,.split),(24,.dG (.dS t.d)),(12,.dG (L (i+1)))] 0 Tryz.f133 [2,3,4,5] (dK (dK (dY (dI Ya)))) (sTi n cs x y i) (si (decide (Int.ofNat i<(Int.ofNat n))) (t.x==x&&(t.y==y&&true)) ([fR i n,cs.length=n*258,gG cs i 258 t.d,fR i n,cs.length=n*258,gG cs i 258 t.d],.ret (jh t.p) (hL []) 0) ([fR i n,cs.length=n*258,gG cs i 258 t.d,oH i],eu (sTi n cs x y (i+1))) ([],.to (.exit 0) (sTi n cs x y i))):=G.W
theorem akl(cs:ai)(x y:Int)(i:Nat):H (M W3 []) [] 0 Tryz.f133 [] (dY Ya) (sTi n cs x y i) [([],[],.ret (jh tz) (hL []) 0)]:=G.W
def TN(cs:ai)(i:Nat):St:=fB [(1,.ptr (some (0,0))),(3,L i)] (hL [(0,.cells [.eE false n cs])]) 1
theorem akm(cs:ai):H (M W3 []) [(10,.split)] 0 Tryz.f115 [1] (dU 2 V7) (dB [.agg [.eE false n cs]] .nil 0) (fP (decide ((Int.ofNat n)>(1024:Int))) ([],ja) ([],eu (fB [(1,.ptr (some (0,0)))] (hL [(0,.cells [.eE false n cs])]) 1))):=G.W
theorem akn(cs:ai):H (M W3 []) [] 0 Tryz.f115 [1,3] (dI (dI P9)) (fB [(1,.ptr (some (0,0)))] (hL [(0,.cells [.eE false n cs])]) 1) [([],[],eu (TN n cs 0))]:=G.W
noncomputable abbrev WV8:gJ:=fa 138 [jh p] (.bool (nu p)) (fa 140 [jh p] (jh (iL p)) (fa 139 [jh (iL p),jh p] (.bool (u7 (iL p) p)) W3))
theorem Qa:fe ak (WV8 p):=fk (V6 p) (fk (P8 p) (fk (adb (iL p) p) fW))
abbrev Qb:Prop:=V.int B (IntKind.i64.wrap (Int.ofNat i-(1:Int)))=L (i-1)
abbrev Qc:Prop:=V.int B (IntKind.i64.wrap (Int.ofNat i+(1:Int)))=L (i+1)
theorem adi(cs:ai)(i:Nat)(t u:Tl):H (M (WV8 t.p) []) [(15,.split),(21,.dG (.dS t.d)),(35,.split),(37,.split),(41,.split),(45,.split),(50,.dG (L (i-1))),(51,.dG (.dS u.d)),(57,.split),(17,.dG (L (i+1)))] 0 Tryz.f115 [1,3] (dK (dK (dY (dI P9)))) (TN n cs i) [([(decide (Int.ofNat i<(Int.ofNat n)),true),(!Bz t.x t.y,true)],[fR i n,cs.length=n*258,gG cs i 258 t.d,fu [jh t.p],fu [jh t.p],fu [jh (iL t.p),jh t.p]],ja),([(decide (Int.ofNat i<(Int.ofNat n)),true),(!Bz t.x t.y,false),(nu t.p,true)],[fR i n,cs.length=n*258,gG cs i 258 t.d,fu [jh t.p],fu [jh t.p],fu [jh (iL t.p),jh t.p]],ja),([(decide (Int.ofNat i<(Int.ofNat n)),true),(!Bz t.x t.y,false),(nu t.p,false),(!u7 (iL t.p) t.p,true)],[fR i n,cs.length=n*258,gG cs i 258 t.d,fu [jh t.p],fu [jh t.p],fu [jh (iL t.p),jh t.p]],ja),([(decide (Int.ofNat i<(Int.ofNat n)),true),(!Bz t.x t.y,false),(nu t.p,false),(!u7 (iL t.p) t.p,false),(decide (Int.ofNat i>(0:Int)),true),(!G3 u.x u.y t.x t.y,true)],[fR i n,cs.length=n*258,gG cs i 258 t.d,fu [jh t.p],fu [jh t.p],fu [jh (iL t.p),jh t.p],Qb i,fR (i-1) n,cs.length=n*258,gG cs (i-1) 258 u.d],ja),([(decide (Int.ofNat i<(Int.ofNat n)),true),(!Bz t.x t.y,false),(nu t.p,false),(!u7 (iL t.p) t.p,false),(decide (Int.ofNat i>(0:Int)),true),(!G3 u.x u.y t.x t.y,false)],[fR i n,cs.length=n*258,gG cs i 258 t.d,fu [jh t.p],fu [jh t.p],fu [jh (iL t.p),jh t.p],Qb i,fR (i-1) n,cs.length=n*258,gG cs (i-1) 258 u.d,Qc i],eu (TN n cs (i+1))),([(decide (Int.ofNat i<(Int.ofNat n)),true),(!Bz t.x t.y,false),(nu t.p,false),(!u7 (iL t.p) t.p,false),(decide (Int.ofNat i>(0:Int)),false)],[fR i n,cs.length=n*258,gG cs i 258 t.d,fu [jh t.p],fu [jh t.p],fu [jh (iL t.p),jh t.p],Qc i],eu (TN n cs (i+1))),([(decide (Int.ofNat i<(Int.ofNat n)),false)],[],.to (.exit 0) (TN n cs i))]:=G.W
theorem ako(cs:ai)(i:Nat):H (M W3 []) [] 0 Tryz.f115 [] (dY P9) (TN n cs i) [([],[],By)]:=G.W
end
theorem sk{α β:Type}{f:α->List β}{w:Nat}(hf:∀x,(f x).length=w):∀l:List α,(l.map f).flatten.length=l.length*w
 | []=>by simp
 |x::l=>by
  rw[bQ,cU,aH,hf,sk hf l,aR,dh];omega
theorem su{α:Type}{f:α->ai}{w:Nat}(hf:∀x,(f x).length=w):∀(l:List α) (i:Nat) (h:i<l.length),dO ((l.map f).flatten) (i*w) w=f l[i]
 |x::l,0,_=>by
  unfold dO;rw[Nat.zero_mul,bx,bQ,cU,List.take_left' (hf x)];rfl
 |x::l,i+1,h=>by
  have ih:=su hf l i (by simpa using h);unfold dO at ih ⊢;rw[bQ,cU,show(i+1)*w=w+i*w by rw[dh];omega,<- List.drop_drop,List.drop_left' (hf x),ih];rfl
theorem Tl.EU(t:Tl):t.d.length=258:=by simp[Tl.d,vI]
theorem iK(l:List Tl):(iH l).length=l.length*258:=sk Tl.EU l
theorem xh{l:List Tl}{i:Nat}(h:i<l.length):V.dS (dO (iH l) (i*258) 258)= .dS l[i].d:=aI _ (su Tl.EU l i h)
def yx(x y:Int):List Tl->Nat->Int
 | []=>tz
 |t::l=>if t.x=x/\t.y=y then t.p else yx x y l
theorem Ks{x y:Int}{l:List Tl}{i:Nat}(h:i<l.length):yx x y (l.drop i)=if l[i].x=x/\l[i].y=y then l[i].p else yx x y (l.drop (i+1)):=by
 rw[bz h];rfl
theorem adk(l:List Tl)(x y:Int)(hl:l.length<=1000000):dV ak 133 [kX l,.agg [F x,F y]] (jh (yx x y l)):=by
 refine fc Tryz.func133 ?_;refine fH 1 fW (akj l.length (iH l) x y) all_nil ?_;refine nD fW 0 _ [2,3,4,5] (l.length-·) (fun i=>i<=l.length/\yx x y l=yx x y (l.drop i)) (sTi l.length (iH l) x y) 0 ⟨aN _,rfl⟩ (akk _ _ x y) all_nil .refl fun i ⟨hi,hz⟩=>?_;rcases bj i l.length with eY|Pf
 . rw[Ks eY]at hz;have ny:=xh eY;generalize l[i]=t at hz ny;refine⟨_,fW,[],_,_,adh l.length (iH l) x y i t,dJ (g2 fun h1 C=>⟨A (iT eY) (A (iK l) (A ny (A (iT eY) (A (iK l) (eM ny))))),?_⟩) (dJ (g2 fun h1 C=>⟨A (iT eY) (A (iK l) (A ny (eM (gK S)))),i+1,um eY,⟨eY,?_⟩,.refl⟩) (dF (g1 fun h=>absurd (qZ h) S)))⟩
   . rw[aD (by simpa using C)]at hz;rw[hz];rfl
   . rw[aA (by simpa using C)]at hz;exact hz
 . obtain rfl:i=l.length:=by omega
   rw[List.drop_length]at hz;refine⟨_,fW,[],_,_,adh l.length (iH l) x y l.length ⟨0,0,tz⟩,dJ (g2 fun h1 _=>absurd (j9 h1) S) (dJ (g2 fun h1 _=>absurd (j9 h1) S) (dF (g1 fun h=>⟨all_nil,rfl,eR fW (akl _ _ x y _) (dF (g0 ⟨all_nil,_,_,_,rfl,by rw[hz];rfl⟩))⟩)))⟩
def okT(t:Tl):Prop:=Bz t.x t.y=true/\nu t.p=false/\u7 (iL t.p) t.p=true
def V8(l:List Tl)(i:Nat):Prop:=∀t,l[i]? =some t->okT t/\(0<i->∀u,l[i-1]? =some u->G3 u.x u.y t.x t.y=true)
def fC(l:List Tl):Prop:=l.length<=1024/\∀i,i<l.length->V8 l i
theorem Qd(l:List Tl)(hl:l.length<=1000000):dV ak 115 [kX l] (.bool (cD (fC l))):=by
 refine fc Tryz.func115 ?_;have bad (h:¬fC l):V.bool false= .bool (cD (fC l)):=vF h;refine isH 2 fW (akm l.length (iH l)) (dJ (g1 fun h=>⟨all_nil,bad fun q=>?_⟩) (dF (g1 fun h0=>⟨all_nil,?_⟩)))
 . have:=aX h;have:=q.1;simp only[gB]at *;omega
 have hn:l.length<=1024:=by have:=bq h0;simp only[gB]at this;omega
 refine nD fW 0 _ [1,3] (l.length-·) (fun i=>i<=l.length/\∀k,k<i->V8 l k) (TN l.length (iH l)) 0 ⟨aN _,fun _ h=>absurd h (bL _)⟩ (akn _ _) all_nil .refl fun i ⟨hi,hz⟩=>?_;rcases bj i l.length with eY|Pf
 . have ny:=xh eY;have hau:=xh (l:=l) (i:=i-1) S;have ht:l[i]? =some l[i]:=au eY;have hu:l[i-1]? =some (l[i-1]'(by omega)):=au S;generalize l[i]=t at ht ny;generalize l[i-1]'(by omega)=u at hu hau;have fm {r:ah} (q:∀a∈r,a):=A (iT eY) (A (iK l) (A ny (A (show fu [jh t.p]from rfl) (A (show fu [jh t.p]from rfl) (A (show fu [jh (iL t.p),jh t.p]from rfl) q)))));have aj {r:ah} (h0:0<i) (q:∀a∈r,a):=fm (A (xe (x:=Int.ofNat i-1) (n:=i-1) WT S) (A (iT (n:=l.length) (show i-1<l.length by omega)) (A (iK l) (A hau q))));have bad (h:¬V8 l i):V.bool false= .bool (cD (fC l)):=bad fun q=>h (q.2 i eY);have go (h:V8 l i):∃x',l.length-x'<l.length-i/\(x'<=l.length/\∀k,k<x'->V8 l k)/\ew ak 0 Tryz.f115.ntmps (TN l.length (iH l) (i+1)) (TN l.length (iH l) x'):=⟨i+1,um eY,⟨eY,fun k U=>by
    rcases bj k i with q|q
    . exact hz k q
    . obtain rfl:k=i:=by omega
      exact h⟩,.refl⟩
   refine⟨_,Qa t.p,[],_,_,adi l.length (iH l) i t u,dJ (g2 fun _ h=>⟨fm all_nil,bad fun q=>?_⟩) (dJ (gc fun _=>gc fun _=>g1 fun h=>⟨fm all_nil,bad fun q=>?_⟩) (dJ (gc fun _=>gc fun _=>gc fun _=>g1 fun h=>⟨fm all_nil,bad fun q=>?_⟩)
    (dJ (gc fun _=>gc fun _=>gc fun _=>gc fun _=>gc fun h0=>g1 fun h=>⟨aj (by have:=aX h0;simp only[gB]at this;omega) all_nil,bad fun q=>?_⟩) (dJ (gc fun _=>gc fun h1=>gc fun C=>gc fun h3=>gc fun h0=>g1 fun h=>⟨aj (by have:=aX h0;simp only[gB]at this;omega) (eM (gK S)),go fun t' V9=>?_⟩)
    (dJ (gc fun _=>gc fun h1=>gc fun C=>gc fun h3=>g1 fun h0=>⟨fm (eM (gK S)),go fun t' V9=>?_⟩) (dF (g1 fun h=>absurd (qZ h) S)))))))⟩
   . rw[(q t ht).1.1]at h;cases h
   . rw[(q t ht).1.2.1]at h;cases h
   . rw[(q t ht).1.2.2]at h;cases h
   . have h0:0<i:=by have:=aX h0;simp only[gB]at this;omega
     rw[(q t ht).2 h0 u hu]at h;cases h
   . obtain rfl:t=t':=by rw[ht]at V9;exact dn V9
     refine⟨⟨by simpa using h1,C,by simpa using h3⟩,fun _ u' Bq=>?_⟩;obtain rfl:u=u':=by rw[hu]at Bq;exact dn Bq
     simpa using h
   . obtain rfl:t=t':=by rw[ht]at V9;exact dn V9
     refine⟨⟨by simpa using h1,C,by simpa using h3⟩,fun h=>?_⟩;have:=bq h0;simp only[gB]at this;omega
 . obtain rfl:i=l.length:=by omega
   have no (h:decide (Int.ofNat l.length<Int.ofNat l.length)=true) {q:Prop}:q:=absurd (j9 h) S;refine⟨_,Qa tz,[],_,_,adi l.length (iH l) l.length ⟨0,0,tz⟩ ⟨0,0,tz⟩,dJ (gc fun h _=>no h) (dJ (gc fun h _=>no h) (dJ (gc fun h _=>no h) (dJ (gc fun h _=>no h) (dJ (gc fun h _=>no h) (dJ (gc fun h _=>no h) (dF (g1 fun h=>⟨all_nil,rfl,eR fW (ako _ _ _) (dF (g0 ⟨all_nil,_,_,_,rfl,vT ⟨hn,hz⟩⟩))⟩)))))))⟩
noncomputable abbrev adl:Code:=dL Tryz.f166
section
variable(n:Nat)(p:Nat->Int)(os:ai)(i:Nat)
noncomputable abbrev Qe:Code:=dA 5 adl
noncomputable abbrev WPt:gJ:=fa 140 [jh p] (jh (iL p)) (fa 138 [jh (iL p)] (.bool (nu (iL p))) W3)
theorem Yb:fe ak (WPt p):=fk (P8 p) (fk (V6 (iL p)) fW)
def fPt(d:Bool):List (Nat×V):=[(3,.ptr (some (0,0))),(4,.ptr (some (1,0))),(5,.ptr (some (2,0))),(6,.ptr (some (3,0))),(7,.ptr (some (4,0))),(9,.bool d)]
def hPt(cs:ai)(x y:Int)(q:Nat->Int)(o:V):af:=[(0,.cells [.eE false n cs]),(1,.cells [F x,F y]),(2,pxC q),(3,.cells [.eZ none 0 0 0]),(4,.cells [o])]
def sP0(cs:ai)(x y:Int)(q:Nat->Int)(d:Bool):St:=fB (fPt d) (hL (hPt n cs x y q (.eZ none 0 0 0))) 5
def Yc(cs:ai)(x y:Int)(q:Nat->Int)(d:Bool)(i:Nat):St:=fB (fPt d++[(10,L i)]) (hL (hPt n cs x y q (.eZ none 0 0 0))) 5
def LQ(cs:ai)(x y:Int)(q:Nat->Int)(d:Bool)(m:Nat)(os:ai)(i:Nat):St:=fB (fPt d++[(10,L i)]) (hL (hPt n cs x y q (.eZ (some (5,0)) m m 258)++[(5,.deep os)])) 6
def sPX(cs:ai)(x y:Int)(q:Nat->Int)(d:Bool)(m:Nat)(os:ag)(i:Nat):St:=fB (fPt d++[(10,L i)]) (hL (hPt n cs x y q (.eZ (some (5,0)) m m 258)++[(5,.cells os)])) 6
theorem akp(cs:ai)(x y:Int)(p:Nat->Int):H (M (WPt p) []) [] 0 Tryz.f166 [3,4,5,6,7,9] (dU 5 adl) (dB [.agg [.eE false n cs],.agg [F x,F y],jh p] .nil 0) [([],[fu [jh p],fu [jh (iL p)]],eu (sP0 n cs x y (iL p) (nu (iL p))))]:=G.W
theorem akq(cs:ai)(x y:Int)(q:Nat->Int)(d:Bool):H (M W3 []) [] 0 Tryz.f166 [3,4,5,6,7,9,10] (dI (dI Qe)) (sP0 n cs x y q d) [([],[],eu (Yc n cs x y q d 0))]:=G.W
def SD(m:Nat)(ts:ai):ai:=List.take (m*258) (List.drop 0 os)++ts
abbrev zZ:Prop:=V.int B (IntKind.i64.wrap (Int.ofNat i+(1:Int)))=L (i+1)
theorem adm(cs:ai)(x y:Int)(q:Nat->Int)(d:Bool)(i:Nat)(t:Tl):H (M W3 []) [(21,.split),(26,.split),(31,.dG (.dS t.d)),(34,.split),(47,.dG (.dS t.d)),(51,.split),(57,.dG (.dS t.d)),(23,.dG (L (i+1)))] 0 Tryz.f166 [3,4,5,6,7,9,10] (dK (dK (dY (dI Qe)))) (Yc n cs x y q d i) [([(decide (Int.ofNat i<(Int.ofNat n)),true),(!d,true),(G3 x y t.x t.y,true),(!(t.x==x&&(t.y==y&&true)),true)],[fR i n,cs.length=n*258,gG cs i 258 t.d,fR i n,cs.length=n*258,gG cs i 258 t.d,fR i n,cs.length=n*258,gG cs i 258 t.d,zZ i],eu (sPX n cs x y q true 2 (D.fU ((Tl.mk x y q).d++t.d)) (i+1))),([(decide (Int.ofNat i<(Int.ofNat n)),true),(!d,true),(G3 x y t.x t.y,true),(!(t.x==x&&(t.y==y&&true)),false)],[fR i n,cs.length=n*258,gG cs i 258 t.d,fR i n,cs.length=n*258,gG cs i 258 t.d,zZ i],eu (sPX n cs x y q true 1 (D.fU (Tl.mk x y q).d) (i+1))),([(decide (Int.ofNat i<(Int.ofNat n)),true),(!d,true),(G3 x y t.x t.y,false),(!(t.x==x&&(t.y==y&&true)),true)],[fR i n,cs.length=n*258,gG cs i 258 t.d,fR i n,cs.length=n*258,gG cs i 258 t.d,fR i n,cs.length=n*258,gG cs i 258 t.d,zZ i],eu (sPX n cs x y q d 1 (D.fU t.d) (i+1))),([(decide (Int.ofNat i<(Int.ofNat n)),true),(!d,true),(G3 x y t.x t.y,false),(!(t.x==x&&(t.y==y&&true)),false)],[fR i n,cs.length=n*258,gG cs i 258 t.d,fR i n,cs.length=n*258,gG cs i 258 t.d,zZ i],eu (Yc n cs x y q d (i+1))),([(decide (Int.ofNat i<(Int.ofNat n)),true),(!d,false),(!(t.x==x&&(t.y==y&&true)),true)],[fR i n,cs.length=n*258,gG cs i 258 t.d,fR i n,cs.length=n*258,gG cs i 258 t.d,zZ i],eu (sPX n cs x y q d 1 (D.fU t.d) (i+1))),([(decide (Int.ofNat i<(Int.ofNat n)),true),(!d,false),(!(t.x==x&&(t.y==y&&true)),false)],[fR i n,cs.length=n*258,gG cs i 258 t.d,zZ i],eu (Yc n cs x y q d (i+1))),([(decide (Int.ofNat i<(Int.ofNat n)),false)],[],.to (.exit 0) (Yc n cs x y q d i))]:=G.W
abbrev z6:Prop:=V.int B (IntKind.i64.wrap (Int.ofNat i+(1:Int)))=L (i+1)
theorem adn(cs:ai)(x y:Int)(q:Nat->Int)(d:Bool)(m:Nat)(os:ai)(i:Nat)(t:Tl):H (M W3 []) [(21,.split),(26,.split),(31,.dG (.dS t.d)),(34,.split),(47,.dG (.dS t.d)),(51,.split),(57,.dG (.dS t.d)),(23,.dG (L (i+1)))] 0 Tryz.f166 [3,4,5,6,7,9,10] (dK (dK (dY (dI Qe)))) (LQ n cs x y q d m os i) [([(decide (Int.ofNat i<(Int.ofNat n)),true),(!d,true),(G3 x y t.x t.y,true),(!(t.x==x&&(t.y==y&&true)),true)],[fR i n,cs.length=n*258,gG cs i 258 t.d,0+m*258<=os.length,0<1,fJ (m+1) 258 272=true,fR i n,cs.length=n*258,gG cs i 258 t.d,fR i n,cs.length=n*258,gG cs i 258 t.d,0+(m+1)*258<=(List.take (m*258) (List.drop 0 os)++(Tl.mk x y q).d).length,0<1,fJ (m+1+1) 258 272=true,z6 i],eu (LQ n cs x y q true (m+1+1) (SD (SD os m (Tl.mk x y q).d) (m+1) t.d) (i+1))),([(decide (Int.ofNat i<(Int.ofNat n)),true),(!d,true),(G3 x y t.x t.y,true),(!(t.x==x&&(t.y==y&&true)),false)],[fR i n,cs.length=n*258,gG cs i 258 t.d,0+m*258<=os.length,0<1,fJ (m+1) 258 272=true,fR i n,cs.length=n*258,gG cs i 258 t.d,z6 i],eu (LQ n cs x y q true (m+1) (SD os m (Tl.mk x y q).d) (i+1))),([(decide (Int.ofNat i<(Int.ofNat n)),true),(!d,true),(G3 x y t.x t.y,false),(!(t.x==x&&(t.y==y&&true)),true)],[fR i n,cs.length=n*258,gG cs i 258 t.d,fR i n,cs.length=n*258,gG cs i 258 t.d,fR i n,cs.length=n*258,gG cs i 258 t.d,0+m*258<=os.length,0<1,fJ (m+1) 258 272=true,z6 i],eu (LQ n cs x y q d (m+1) (SD os m t.d) (i+1))),([(decide (Int.ofNat i<(Int.ofNat n)),true),(!d,true),(G3 x y t.x t.y,false),(!(t.x==x&&(t.y==y&&true)),false)],[fR i n,cs.length=n*258,gG cs i 258 t.d,fR i n,cs.length=n*258,gG cs i 258 t.d,z6 i],eu (LQ n cs x y q d m os (i+1))),([(decide (Int.ofNat i<(Int.ofNat n)),true),(!d,false),(!(t.x==x&&(t.y==y&&true)),true)],[fR i n,cs.length=n*258,gG cs i 258 t.d,fR i n,cs.length=n*258,gG cs i 258 t.d,0+m*258<=os.length,0<1,fJ (m+1) 258 272=true,z6 i],eu (LQ n cs x y q d (m+1) (SD os m t.d) (i+1))),([(decide (Int.ofNat i<(Int.ofNat n)),true),(!d,false),(!(t.x==x&&(t.y==y&&true)),false)],[fR i n,cs.length=n*258,gG cs i 258 t.d,z6 i],eu (LQ n cs x y q d m os (i+1))),([(decide (Int.ofNat i<(Int.ofNat n)),false)],[],.to (.exit 0) (LQ n cs x y q d m os i))]:=G.W
theorem akr(cs:ai)(x y:Int)(q:Nat->Int)(d:Bool)(i:Nat):H (M W3 []) [(63,.split)] 0 Tryz.f166 [] (dY Qe) (Yc n cs x y q d i) (fP (!d) ([],.ret (.agg [.eZ (some (0,0)) 1 1 258]) (hL [(0,.cells (D.fU (Tl.mk x y q).d))]) 1) ([],.ret (.agg [.eZ none 0 0 0]) (hL []) 0)):=G.W
theorem aks(cs:ai)(x y:Int)(q:Nat->Int)(d:Bool)(m:Nat)(os:ai)(i:Nat):H (M W3 []) [(63,.split)] 0 Tryz.f166 [] (dY Qe) (LQ n cs x y q d m os i) (fP (!d) ([0+m*258<=os.length,0<1,fJ (m+1) 258 272=true],.ret (.agg [.eZ (some (0,0)) (m+1) (m+1) 258]) (hL [(0,.deep (SD os m (Tl.mk x y q).d))]) 1) ([],.ret (.agg [.eZ (some (0,0)) m m 258]) (hL [(0,.deep os)]) 1)):=G.W
end
section
variable(x y:Int)(p q:Nat->Int)(s:List Tl×Bool)
def D4(t:Tl):List Tl×Bool:=
 (if t.x=x/\t.y=y then(if s.2=false/\G3 x y t.x t.y=true then s.1++[⟨x,y,q⟩]else s.1)else(if s.2=false/\G3 x y t.x t.y=true then s.1++[⟨x,y,q⟩]else s.1)++[t],if s.2=false/\G3 x y t.x t.y=true then true else s.2)
noncomputable def C6(l:List Tl):List Tl×Bool:=l.foldl (D4 x y (iL p)) ([],nu (iL p))
noncomputable def TO(l:List Tl):List Tl:=if(C6 x y p l).2=true then(C6 x y p l).1 else(C6 x y p l).1++[⟨x,y,iL p⟩]
theorem Ns{x y:Int}{p:Nat->Int}{l:List Tl}{i:Nat}{t:Tl}(h:l[i]? =some t):C6 x y p (l.take (i+1))=D4 x y (iL p) (C6 x y p (l.take i)) t:=by
 unfold C6;rw[bY,h,List.foldl_append];rfl
theorem Qf{x y:Int}{q:Nat->Int}{s:List Tl×Bool}{t:Tl}:(D4 x y q s t).1.length<=s.1.length+2:=by
 unfold D4;simp only;split<;>split<;>(repeat rw[aH])<;>(try simp only[aR,b9])<;>omega
theorem Qg(l:List Tl):(C6 x y p l).1.length<=2*l.length:=by
 have key:∀(l:List Tl) (s:List Tl×Bool),(l.foldl (D4 x y (iL p)) s).1.length<=s.1.length+2*l.length:=by
  intro l
  induction l with
  |nil=>intro s;simp
  |cons t l ih=>
   intro s;have:=ih (D4 x y (iL p) s t);have:=Qf (x:=x) (y:=y) (q:=iL p) (s:=s) (t:=t);simp only[List.foldl_cons,aR];omega
 have:=key l ([],nu (iL p));unfold C6;simpa using this
theorem Kt(l:List Tl)(t:Tl):SD (iH l) l.length t.d=iH (l++[t]):=by
 unfold SD;rw[bx,<- iK l,bn];simp[iH]
def Yd(l:List Tl)(x y:Int)(q:Nat->Int)(s:List Tl×Bool)(i:Nat):St:=match s.1 with
 | []=>Yc l.length (iH l) x y q s.2 i
 |o::r=>LQ l.length (iH l) x y q s.2 (o::r).length (iH (o::r)) i
end
theorem Ye{l:List Tl}{x y:Int}{q:Nat->Int}{s:List Tl×Bool}{i:Nat}(h:s.1≠[]):Yd l x y q s i=LQ l.length (iH l) x y q s.2 s.1.length (iH s.1) i:=by
 obtain⟨s1,s2⟩:=s;cases s1 with
 |nil=>exact absurd rfl h
 |cons o r=>rfl
theorem Qh{k:Nat}(h:k<=100000):fJ k 258 272=true:=aT ⟨S,S⟩
theorem jB(l:List Tl)(x y:Int)(p:Nat->Int)(hl:l.length<=1024):dV ak 166 [kX l,.agg [F x,F y],jh p] (kX (TO x y p l)):=by
 refine mJ Tryz.func166 ?_;refine fH 5 (Yb p) (akp l.length (iH l) x y p) (A rfl (eM rfl)) ?_;generalize hq:iL p=q;have akt:∀k,C6 x y p k=k.foldl (D4 x y q) ([],nu q):=fun k=>by rw[<- hq];rfl
 refine nD fW 0 _ [3,4,5,6,7,9,10] (l.length-·.1) (fun z:Nat×List Tl×Bool=>z.1<=l.length/\z.2=C6 x y p (l.take z.1)) (fun z=>Yd l x y q z.2 z.1) (0,[],nu q) ⟨aN _,by rw[akt];rfl⟩ (akq _ _ x y q (nu q)) all_nil .refl ?_;rintro⟨i,s⟩ ⟨hi,hs⟩;simp only at hi hs;have jl:=Qg x y p (l.take i);rw[<- hs,aW]at jl;have aku:i=l.length->TO x y p l=if s.2=true then s.1 else s.1++[⟨x,y,q⟩]:=fun h=>by unfold TO;rw[hs,h,bn,hq]
 have tX:∀t,l[i]? =some t->∀R,R=D4 x y q s t->∀dy,(i<l.length->ew ak 0 Tryz.f166.ntmps dy (Yd l x y q R (i+1)))->i<l.length->∃z':Nat×List Tl×Bool,l.length-z'.1<l.length-i/\(z'.1<=l.length/\z'.2=C6 x y p (l.take z'.1))/\ew ak 0 Tryz.f166.ntmps dy (Yd l x y q z'.2 z'.1):=fun t ht R dX dy hS eY=>
  ⟨(i+1,R),um eY,⟨eY,by rw[Ns ht,<- hs,hq];exact dX⟩,hS eY⟩
 obtain⟨s,d⟩:=s;rcases bj i l.length with eY|Pf
 . have ny:=xh eY;have ht:l[i]? =some l[i]:=au eY;generalize l[i]=t at ht ny;cases s with
   |nil=>
    refine⟨_,fW,[],_,_,adm l.length (iH l) x y q d i t,dJ (gc fun _=>gc fun h1=>gc fun C=>g1 fun h3=>⟨?_,tX t ht _ (show(([⟨x,y,q⟩,t],true):List Tl×Bool)=_ from ?_) _ (fun _=>.deep [5] dD) eY⟩)
     (dJ (gc fun _=>gc fun h1=>gc fun C=>g1 fun h3=>⟨?_,tX t ht _ (show(([⟨x,y,q⟩],true):List Tl×Bool)=_ from ?_) _ (fun _=>.deep [5] dD) eY⟩)
     (dJ (gc fun _=>gc fun h1=>gc fun C=>g1 fun h3=>⟨?_,tX t ht _ (show(([t],d):List Tl×Bool)=_ from ?_) _ (fun _=>.deep [5] dD) eY⟩)
     (dJ (gc fun _=>gc fun h1=>gc fun C=>g1 fun h3=>⟨?_,tX t ht _ (show(([],d):List Tl×Bool)=_ from ?_) _ (fun _=>.refl) eY⟩)
     (dJ (gc fun _=>gc fun h1=>g1 fun h3=>⟨?_,tX t ht _ (show(([t],d):List Tl×Bool)=_ from ?_) _ (fun _=>.deep [5] dD) eY⟩)
     (dJ (gc fun _=>gc fun h1=>g1 fun h3=>⟨?_,tX t ht _ (show(([],d):List Tl×Bool)=_ from ?_) _ (fun _=>.refl) eY⟩)
     (dF (g1 fun h=>absurd (qZ h) S)))))))⟩
    all_goals first
     |(repeat' (first|exact all_nil|refine A ?_ ?_)
       all_goals first|exact iT eY|exact iK l|exact ny|exact gK S)
     |(simp only[Bool.not_eq_eq_eq_not,Bool.not_true,Bool.not_false,cz,Bool.and_eq_false_imp,ay,cm,cr]at h1 h3
       unfold D4;simp_all)
   |cons o r=>
    have jw:((o::r,d):List Tl×Bool).1≠[]:=by simp
    rw[show Yd l x y q (i,o::r,d).2 (i,o::r,d).1=LQ l.length (iH l) x y q d (o::r).length (iH (o::r)) i from rfl];generalize o::r=os at *;simp only at *;have Y:os.length<=4096:=by omega
    have e1:∀t',SD (iH os) os.length t'.d=iH (os++[t']):=Kt os;have e2:SD (iH (os++[⟨x,y,q⟩])) (os.length+1) t.d=iH (os++[⟨x,y,q⟩]++[t]):=by
     have:=Kt (os++[⟨x,y,q⟩]) t;rw[aH]at this;exact this
    have hr:=adn l.length (iH l) x y q d os.length (iH os) i t;have Xt:∀(w:List Tl) (d':Bool) (m:Nat) (k:ai),w≠[]->m=w.length->k=iH w->ew ak 0 Tryz.f166.ntmps (LQ l.length (iH l) x y q d' m k (i+1)) (Yd l x y q (w,d') (i+1)):=fun w d' m k hw K U=>by
     rw[Ye hw,K,U];exact .refl
    refine⟨_,fW,[],_,_,hr,dJ (gc fun _=>gc fun h1=>gc fun C=>g1 fun h3=>⟨?_,tX t ht _ (show((os++[⟨x,y,q⟩]++[t],true):List Tl×Bool)=_ from ?_) _ (fun _=>Xt _ _ _ _ (by simp) (by simp) (by rw[e1,e2])) eY⟩)
     (dJ (gc fun _=>gc fun h1=>gc fun C=>g1 fun h3=>⟨?_,tX t ht _ (show((os++[⟨x,y,q⟩],true):List Tl×Bool)=_ from ?_) _ (fun _=>Xt _ _ _ _ (by simp) (by simp) (by rw[e1])) eY⟩)
     (dJ (gc fun _=>gc fun h1=>gc fun C=>g1 fun h3=>⟨?_,tX t ht _ (show((os++[t],d):List Tl×Bool)=_ from ?_) _ (fun _=>Xt _ _ _ _ (by simp) (by simp) (by rw[e1])) eY⟩)
     (dJ (gc fun _=>gc fun h1=>gc fun C=>g1 fun h3=>⟨?_,tX t ht _ (show((os,d):List Tl×Bool)=_ from ?_) _ (fun _=>Xt _ _ _ _ jw rfl rfl) eY⟩)
     (dJ (gc fun _=>gc fun h1=>g1 fun h3=>⟨?_,tX t ht _ (show((os++[t],d):List Tl×Bool)=_ from ?_) _ (fun _=>Xt _ _ _ _ (by simp) (by simp) (by rw[e1])) eY⟩)
     (dJ (gc fun _=>gc fun h1=>g1 fun h3=>⟨?_,tX t ht _ (show((os,d):List Tl×Bool)=_ from ?_) _ (fun _=>Xt _ _ _ _ jw rfl rfl) eY⟩)
     (dF (g1 fun h=>absurd (qZ h) S)))))))⟩
    all_goals first
     |(repeat' (first|exact all_nil|refine A ?_ ?_)
       all_goals first|exact iT eY|exact iK l|exact ny|exact gK S|exact Nat.zero_lt_one|exact Qh S|(rw[iK];omega)|(rw[bx,aH,aW,iK,Tl.EU];omega))
     |(simp only[Bool.not_eq_eq_eq_not,Bool.not_true,Bool.not_false,cz,Bool.and_eq_false_imp,ay,cm,cr]at h1 h3
       unfold D4;simp_all)
 . obtain rfl:i=l.length:=by omega
   have hf:=aku rfl;have no (h:decide (Int.ofNat l.length<Int.ofNat l.length)=true) {q:Prop}:q:=absurd (j9 h) S;cases s with
   |nil=>
    refine⟨_,fW,[],_,_,adm l.length (iH l) x y q d l.length ⟨0,0,tz⟩,dJ (gc fun h _=>no h) (dJ (gc fun h _=>no h) (dJ (gc fun h _=>no h) (dJ (gc fun h _=>no h) (dJ (gc fun h _=>no h) (dJ (gc fun h _=>no h) (dF (g1 fun _=>⟨all_nil,rfl,eR fW (akr _ _ x y q d _) (dJ (g1 fun h=>⟨all_nil,_,_,_,rfl,?_⟩) (dF (g1 fun h=>⟨all_nil,_,_,_,rfl,?_⟩)))⟩)))))))⟩
    . have hd:d=false:=by simpa using h
      rw[hf,hd,aA (by simp)];exact .Bi (v0:=.agg [.eE false 1 (Tl.mk x y q).d]) [0] (fm:=[258=1*258]) dD (eM rfl) dD dD
    . have hd:d=true:=by simpa using h
      rw[hf,hd,aD rfl];exact .self rfl rfl
   |cons o r=>
    rw[show Yd l x y q (l.length,o::r,d).2 (l.length,o::r,d).1=LQ l.length (iH l) x y q d (o::r).length (iH (o::r)) l.length from rfl];generalize o::r=os at *;simp only at *;have Y:os.length<=4096:=by omega
    have fz (w:List Tl) (m:Nat) (k:ai) (K:m=w.length) (U:k=iH w):rE (kX w) (.agg [.eZ (some (0,0)) m m 258]) (hL [(0,.deep k)]) 1:=by
     subst K U;exact .Bi (v0:=kX w) [0] (fm:=[(iH w).length=w.length*258]) dD (eM (iK w)) dD dD
    refine⟨_,fW,[],_,_,adn l.length (iH l) x y q d os.length (iH os) l.length ⟨0,0,tz⟩,dJ (gc fun h _=>no h) (dJ (gc fun h _=>no h) (dJ (gc fun h _=>no h) (dJ (gc fun h _=>no h) (dJ (gc fun h _=>no h) (dJ (gc fun h _=>no h) (dF (g1 fun _=>⟨all_nil,rfl,eR fW (aks _ _ x y q d _ _ _) (dJ (g1 fun h=>⟨A (by rw[iK];omega) (A eX (eM (Qh S))),_,_,_,rfl,?_⟩) (dF (g1 fun h=>⟨all_nil,_,_,_,rfl,?_⟩)))⟩)))))))⟩
    . have hd:d=false:=by simpa using h
      rw[hf,hd,aA (by simp)];exact fz _ _ _ (by simp) (Kt os ⟨x,y,q⟩)
    . have hd:d=true:=by simpa using h
      rw[hf,hd,aD rfl];exact fz _ _ _ rfl rfl
abbrev ra(n:Nat)(cs:ai):V:=.agg [.eE false n cs]
noncomputable abbrev akv:Code:=dL Tryz.f134
noncomputable abbrev akw:Code:=dL Tryz.f108
noncomputable abbrev ado:Code:=dL Tryz.f67
section
variable(n c k:Nat)
noncomputable abbrev Yf:Code:=dA 2 ado
theorem akx(cs:ai)(b:Bool):H (M (fa 115 [ra n cs] (.bool b) W3) []) [(7,.split)] 0 Tryz.f134 [] (akv) (dB [ra n cs] .nil 0) (fP (!b) ([fu [ra n cs]],.ret (.agg [.eZ none 0 0 0]) (hL []) 0) ([fu [ra n cs]],.ret (.agg [.eE false n cs]) (hL []) 0)):=G.W
abbrev TP(r g b a:Int):V:=.agg [.int .u8 r,.int .u8 g,.int .u8 b,.int .u8 a]
abbrev LR(x:Int):Int:=IntKind.i64.wrap (x-IntKind.i64.wrap (8*sL x))
noncomputable abbrev WS8(cs:ai)(m:Nat)(os:ai)(x y r g b a:Int)(p q:Nat->Int)(k:Nat)(us:ai):gJ:=fa 134 [ra n cs] (ra m os) (fa 133 [ra m os,.agg [F (sL x),F (sL y)]] (jh p) (fa 136 [jh p,F (LR x),F (LR y),TP r g b a] (jh q) (fa 166 [ra m os,.agg [F (sL x),F (sL y)],jh q] (ra k us) W3)))
theorem aky(cs:ai)(m:Nat)(os:ai)(x y r g b a:Int)(p q:Nat->Int)(k:Nat)(us:ai):H (M (WS8 n cs m os x y r g b a p q k us) [(135,[(9,.split)]),(165,[(6,.split)])]) [] 0 Tryz.f108 [] (akw) (dB [ra n cs,F x,F y,TP r g b a] .nil 0) (TF (!Bz (sL x) (sL y)) (decide ((Int.ofNat k)>(1024:Int))) ([fu [ra n cs],fu [ra m os,.agg [F (sL x),F (sL y)]],fu [jh p,F (LR x),F (LR y),TP r g b a]],.ret (.agg [.eZ none 0 0 0,.int .i64 1]) (hL []) 0) ([fu [ra n cs],fu [ra m os,.agg [F (sL x),F (sL y)]],fu [jh p,F (LR x),F (LR y),TP r g b a],fu [ra n cs],fu [ra m os,.agg [F (sL x),F (sL y)],jh q]],.ret (.agg [.eZ none 0 0 0,.int .i64 2]) (hL []) 0) ([fu [ra n cs],fu [ra m os,.agg [F (sL x),F (sL y)]],fu [jh p,F (LR x),F (LR y),TP r g b a],fu [ra n cs],fu [ra m os,.agg [F (sL x),F (sL y)],jh q]],.ret (.agg [.eE false k us,.int .i64 0]) (hL []) 0)):=G.W
def Wa(cs:ai)(m:Nat)(os:ai)(i:Nat):St:=fB [(0,.eE false n cs),(2,.ptr (some (0,0))),(3,.ptr (some (1,0))),(4,L i)] (hL [(0,.cells [.eE false 0 []]),(1,.cells [.eE false m os])]) 2
def Wb(cs:ai)(m:Nat)(os:ai)(i:Nat)(r g b a:Int)(k:Nat):St:=fB [(0,.eE false n cs),(2,.ptr (some (0,0))),(3,.ptr (some (1,0))),(4,L i),(5,.ptr (some (2,0))),(6,L k)] (hL [(0,.cells [.eE false 0 []]),(1,.cells [.eE false m os]),(2,.cells [.int .u8 r,.int .u8 g,.int .u8 b,.int .u8 a])]) 3
noncomputable abbrev Yg:Code:=dK (dK (dY (dI Yf)))
noncomputable abbrev adp:Code:=dK (dI (dY Yg))
noncomputable abbrev akz:Code:=dK (dK (dA 2 adp))
theorem akA(cs:ai):H (M W3 []) [] 0 Tryz.f67 [0,2,3] (dU 2 ado) (dB [.eE false n cs] .nil 0) [([],[],eu (fB [(0,.eE false n cs),(2,.ptr (some (0,0))),(3,.ptr (some (1,0)))] (hL [(0,.cells [.eZ none 0 0 0]),(1,.cells [.eZ none 0 0 0])]) 2))]:=G.W
theorem akB(cs:ai):H (M W3 []) [] 0 Tryz.f67 [0,2,3,4] (dI (dI Yf)) (fB [(0,.eE false n cs),(2,.ptr (some (0,0))),(3,.ptr (some (1,0)))] (hL [(0,.cells [.eE false 0 []]),(1,.cells [.eE false 0 []])]) 2) [([],[],eu (Wa n cs 0 [] 0))]:=G.W
theorem akC(cs:ai)(m:Nat)(os:ai)(i:Nat):H (M W3 []) [(12,.split)] 0 Tryz.f67 [0,2,3,4] (dI Yg) (Wa n cs m os i) (fP (decide (Int.ofNat i<(Int.ofNat n))) ([],eu (Wa n cs m os i)) ([],.to (.exit 0) (Wa n cs m os i))):=G.W
theorem akD(cs:ai)(m:Nat)(os:ai)(i:Nat)(v:Int):H (M W3 []) [(17,.dG (.dS [.int .i64 v])),(22,.dG (.dS [.int .i64 v])),(28,.dG (.dS [.int .i64 v])),(34,.dG (.dS [.int .i64 v]))] 0 Tryz.f67 [0,2,3,4,5,6] (dU 2 adp) (Wa n cs m os i) [([],[fR i n,cs.length=n*1,gG cs i 1 [D.int B v],fR i n,cs.length=n*1,gG cs i 1 [D.int B v],fR i n,cs.length=n*1,gG cs i 1 [D.int B v],fR i n,cs.length=n*1,gG cs i 1 [D.int B v]],eu (fB [(0,.eE false n cs),(2,.ptr (some (0,0))),(3,.ptr (some (1,0))),(4,.int .i64 (Int.ofNat i)),(5,.ptr (some (2,0))),(6,.int .i64 0)] (hL [(0,.cells [.eE false 0 []]),(1,.cells [.eE false m os]),(2,.cells [.int .u8 (IntKind.u8.wrap v),.int .u8 (IntKind.u8.wrap (v.fdiv (32:Int))),.int .u8 (IntKind.u8.wrap (v.fdiv (512:Int))),.int .u8 (IntKind.u8.wrap (Int.ofNat (BitVec.ofInt 8 (IntKind.u8.wrap (v.fdiv (8:Int)))|||BitVec.ofInt 8 (15:Int)).toNat))])]) 3))]:=G.W
abbrev Qi(v hb:Int):Prop:=V.int B (IntKind.i64.wrap (IntKind.i64.wrap (IntKind.i64.wrap (Int.ofNat (BitVec.ofInt 64 (v.fdiv (256:Int))&&&BitVec.ofInt 64 (15:Int)).toNat)-(4:Int))+IntKind.i64.wrap (Int.ofNat k*IntKind.i64.wrap (Int.ofNat (BitVec.ofInt 64 v&&&BitVec.ofInt 64 (1:Int)).toNat))))=F hb
abbrev Qj(v n0:Int):Prop:=V.int B (IntKind.i64.wrap (IntKind.i64.wrap (IntKind.i64.wrap (Int.ofNat (BitVec.ofInt 64 (v.fdiv (16:Int))&&&BitVec.ofInt 64 (15:Int)).toNat)-(4:Int))+Int.ofNat k))=F n0
abbrev Ku(v:Int):Prop:=V.int B (IntKind.i64.wrap ((1:Int)+IntKind.i64.wrap (Int.ofNat (BitVec.ofInt 64 v&&&BitVec.ofInt 64 (7:Int)).toNat)))=L c
abbrev Qk:Prop:=V.int B (IntKind.i64.wrap (Int.ofNat k+(1:Int)))=L (k+1)
theorem akE(cs:ai)(m:Nat)(os:ai)(i:Nat)(r g b a:Int)(k c:Nat)(v n0 hb:Int)(k2:Nat)(us:ai)(e:Int):H (M (fa 108 [ra m os,F n0,F hb,TP r g b a] (.agg [.eE false k2 us,F e]) W3) []) [(43,.dG (.dS [.int .i64 v])),(46,.dG (L c)),(47,.split),(53,.dG (.dS [.int .i64 v])),(62,.dG (.dS [.int .i64 v])),(70,.dG (.dS [.int .i64 v])),(59,.dG (F n0)),(74,.dG (F hb)),(79,.split),(49,.dG (L (k+1)))] 0 Tryz.f67 [0,2,3,4,5,6] (akz) (Wb n cs m os i r g b a k) (si (decide (Int.ofNat k<Int.ofNat c)) (e==(0:Int)) ([fR i n,cs.length=n*1,gG cs i 1 [D.int B v],Ku c v,fR i n,cs.length=n*1,gG cs i 1 [D.int B v],Qj k v n0,fR i n,cs.length=n*1,gG cs i 1 [D.int B v],fR i n,cs.length=n*1,gG cs i 1 [D.int B v],Qi k v hb,fu [ra m os,F n0,F hb,TP r g b a],Qk k],eu (Wb n cs k2 us i r g b a (k+1))) ([fR i n,cs.length=n*1,gG cs i 1 [D.int B v],Ku c v,fR i n,cs.length=n*1,gG cs i 1 [D.int B v],Qj k v n0,fR i n,cs.length=n*1,gG cs i 1 [D.int B v],fR i n,cs.length=n*1,gG cs i 1 [D.int B v],Qi k v hb,fu [ra m os,F n0,F hb,TP r g b a],Qk k],eu (Wb n cs m os i r g b a (k+1))) ([fR i n,cs.length=n*1,gG cs i 1 [D.int B v],Ku c v],.to (.exit 2) (Wb n cs m os i r g b a k))):=G.W
theorem akF(cs:ai)(m:Nat)(os:ai)(i:Nat)(r g b a:Int)(k:Nat):H (M W3 []) [(14,.dG (L (i+1)))] 0 Tryz.f67 [0,2,3,4] (dY (dY Yg)) (Wb n cs m os i r g b a k) [([],[oH i],eu (Wa n cs m os (i+1)))]:=G.W
theorem akG(cs:ai)(m:Nat)(os:ai)(i:Nat):H (M W3 []) [] 0 Tryz.f67 [] (dY Yf) (Wa n cs m os i) [([],[],.ret (.agg [.eE false m os]) (hL []) 0)]:=G.W
end
noncomputable def Ql(l:List Tl):List Tl:=if cD (fC l)=true then l else[]
theorem F5{p:Prop}:cD p=true↔p:=by
 constructor
 . intro h;by_cases q:p
   . exact q
   . rw[TL q]at h;cases h
 . exact P5
theorem TQ(l:List Tl):(Ql l).length<=1024:=by
 unfold Ql;split
 . rename_i h;exact(F5.1 h).1
 . simp
theorem ofD(l:List Tl)(hl:l.length<=1000000):dV ak 134 [kX l] (kX (Ql l)):=by
 refine mJ Tryz.func134 ?_;refine eR (fk (Qd l hl) fW) (akx l.length (iH l) (cD (fC l))) (dJ (g1 fun h=>⟨eM rfl,_,_,_,rfl,?_⟩) (dF (g1 fun h=>⟨eM rfl,_,_,_,rfl,?_⟩)))
 . have h:cD (fC l)=false:=by simpa using h
   rw[show Ql l=[]from aA (by rw[h];simp)];exact .self rfl rfl
 . have h:cD (fC l)=true:=by simpa using h
   rw[show Ql l=l from aD h];exact .self rfl rfl
def akH(s:List Tl×Int):V:=.agg [.eE false s.1.length (iH s.1),F s.2]
noncomputable def IF(l:List Tl)(x y r g b a:Int):List Tl:=TO (sL x) (sL y) (Kr (yx (sL x) (sL y) (Ql l)) (LR x) (LR y) r g b a) (Ql l)
noncomputable def wz(l:List Tl)(x y r g b a:Int):List Tl×Int:=if Bz (sL x) (sL y)=true then(if 1024<(IF l x y r g b a).length then([],2)else(IF l x y r g b a,0))else([],1)
theorem Nt(l:List Tl)(x y r g b a:Int):(wz l x y r g b a).1.length<=1024:=by
 unfold wz;split
 . split
   . simp
   . simp only;omega
 . simp
theorem adq(l:List Tl)(x y r g b a:Int)(hl:l.length<=1000000):dV ak 108 [kX l,F x,F y,TP r g b a] (akH (wz l x y r g b a)):=by
 refine mJ Tryz.func108 ?_;have ho:=TQ l;have es:fu [ra l.length (iH l)]:=rfl;have k:=fk (ofD l hl) (fk (adk (Ql l) (sL x) (sL y) S) (fk (aki (yx (sL x) (sL y) (Ql l)) (LR x) (LR y) r g b a) (fk (jB (Ql l) (sL x) (sL y) (Kr (yx (sL x) (sL y) (Ql l)) (LR x) (LR y) r g b a) ho) fW)));refine eR k (aky l.length (iH l) _ _ x y r g b a _ _ _ _) (dJ (g1 fun h=>⟨A rfl (A rfl (eM rfl)),_,_,_,rfl,?_⟩) (dJ (g2 fun h C=>⟨A rfl (A rfl (A rfl (A rfl (eM rfl)))),_,_,_,rfl,?_⟩) (dF (g2 fun h C=>⟨A rfl (A rfl (A rfl (A rfl (eM rfl)))),_,_,_,rfl,?_⟩))))
 . have h:Bz (sL x) (sL y)=false:=by simpa using h
   rw[show wz l x y r g b a=([],1)from aA (by rw[h];simp)];exact .self rfl rfl
 . have h:Bz (sL x) (sL y)=true:=by simpa using h
   have C:=aX C;rw[show wz l x y r g b a=([],2)from(aD h).trans (aD (by simp only[gB]at C;unfold IF;omega))];exact .self rfl rfl
 . have h:Bz (sL x) (sL y)=true:=by simpa using h
   have C:=bq C;rw[show wz l x y r g b a=(IF l x y r g b a,0)from(aD h).trans (aA (by simp only[gB]at C;unfold IF;omega))];exact .self rfl rfl
def eG(l:List Int):ai:=l.map (.int .i64)
abbrev jC(l:List Int):Prop:=(eG l).length=l.length*1
abbrev fF(l:List Int):V:=.eE false l.length (eG l)
theorem eK(l:List Int):(eG l).length=l.length*1:=by simp[eG]
theorem q8{l:List Int}{i:Nat}{v:Int}(h:l[i]? =some v):V.dS (dO (eG l) (i*1) 1)= .dS [.int .i64 v]:=by
 unfold dO eG;have eY:i<l.length:=(aO.1 h).1;have hv:l[i]=v:=(aO.1 h).2;rw[cP,<- List.map_drop,<- dm,bz eY,hv];rfl
def TS(v:Int):Int:=IntKind.u8.wrap v
def TT(v:Int):Int:=IntKind.u8.wrap (v.fdiv 32)
def TU(v:Int):Int:=IntKind.u8.wrap (v.fdiv 512)
def TV(v:Int):Int:=IntKind.u8.wrap (Int.ofNat (BitVec.ofInt 8 (IntKind.u8.wrap (v.fdiv (8:Int)))|||BitVec.ofInt 8 (15:Int)).toNat)
def DI(v:Int):Nat:=1+(BitVec.ofInt 64 v&&&BitVec.ofInt 64 (7:Int)).toNat
def sx(v:Int)(k:Nat):Int:=IntKind.i64.wrap (IntKind.i64.wrap (IntKind.i64.wrap (Int.ofNat (BitVec.ofInt 64 (v.fdiv (16:Int))&&&BitVec.ofInt 64 (15:Int)).toNat)-(4:Int))+Int.ofNat k)
def sy(v:Int)(k:Nat):Int:=IntKind.i64.wrap (IntKind.i64.wrap (IntKind.i64.wrap (Int.ofNat (BitVec.ofInt 64 (v.fdiv (256:Int))&&&BitVec.ofInt 64 (15:Int)).toNat)-(4:Int))+IntKind.i64.wrap (Int.ofNat k*IntKind.i64.wrap (Int.ofNat (BitVec.ofInt 64 v&&&BitVec.ofInt 64 (1:Int)).toNat)))
theorem Qm(v:Int):DI v<=8:=by
 unfold DI;have:(BitVec.ofInt 64 v&&&BitVec.ofInt 64 (7:Int)).toNat<=7:=by
  rw[BitVec.toNat_and];exact Nat.and_le_right
 omega
theorem Qn(v:Int):V.int B (IntKind.i64.wrap ((1:Int)+IntKind.i64.wrap (Int.ofNat (BitVec.ofInt 64 v&&&BitVec.ofInt 64 (7:Int)).toNat)))=L (DI v):=by
 have h:=Qm v;unfold DI at h ⊢;generalize (BitVec.ofInt 64 v&&&BitVec.ofInt 64 (7:Int)).toNat=m at h;rw[ij (x:=Int.ofNat m) (by simp only[gB];omega) (by simp only[gB];omega)];exact xe (by simp only[gB];omega) S
noncomputable def Nu(v:Int)(l:List Tl)(k:Nat):List Tl:=if(wz l (sx v k) (sy v k) (TS v) (TT v) (TU v) (TV v)).2=0 then(wz l (sx v k) (sy v k) (TS v) (TT v) (TU v) (TV v)).1 else l
noncomputable def uo(v:Int)(l:List Tl)(k:Nat):List Tl:=(List.range k).foldl (Nu v) l
noncomputable def n7(vs:List Int):List Tl:=vs.foldl (fun l v=>uo v l (DI v)) []
theorem z8(v:Int)(l:List Tl)(k:Nat):uo v l (k+1)=Nu v (uo v l k) k:=by
 unfold uo;rw[List.range_succ,List.foldl_append];rfl
theorem IG{vs:List Int}{i:Nat}{v:Int}(h:vs[i]? =some v):n7 (vs.take (i+1))=uo v (n7 (vs.take i)) (DI v):=by
 unfold n7;rw[bY,h,List.foldl_append];rfl
theorem Qo{v:Int}{l:List Tl}{k:Nat}(h:l.length<=1024):(Nu v l k).length<=1024:=by
 unfold Nu;split
 . exact Nt ..
 . exact h
theorem C7{v:Int}{l:List Tl}(h:l.length<=1024):∀k,(uo v l k).length<=1024
 |0=>h
 |k+1=>by rw[z8];exact Qo (C7 h k)
theorem xj(vs:List Int):(n7 vs).length<=1024:=by
 have:∀(vs:List Int) (l:List Tl),l.length<=1024->(vs.foldl (fun l v=>uo v l (DI v)) l).length<=1024:=by
  intro vs
  induction vs with
  |nil=>exact fun l h=>h
  |cons v vs ih=>exact fun l h=>ih _ (C7 h _)
 exact this vs [] (by simp)
theorem Qp(vs:List Int)(hv:vs.length<=1000000):dV ak 67 [fF vs] (kX (n7 vs)):=by
 refine fc Tryz.func67 ?_;refine fH 2 fW (akA vs.length (eG vs)) all_nil ?_;refine(ew.nl (dy:=fB [(0,.eE false vs.length (eG vs)),(2,.ptr (some (0,0))),(3,.ptr (some (1,0)))] (hL [(0,.cells [.eE false 0 []]),(1,.cells [.eE false 0 []])]) 2) dD) _ _ ?_;refine dM dD (dM dD (gk fW eI (akB _ _) (dF (g0 ⟨all_nil,fun R dX=>?_⟩))));simp only[andThen];refine EP (α:=Nat) 0 (vs.length-·) (. <=vs.length) (fun i=>Wa vs.length (eG vs) (n7 (vs.take i)).length (iH (n7 (vs.take i))) i) dD dD 0 (aN _) (.norm dX) fun i hi=>?_;have jl:=xj (vs.take i);refine dM dD (gk fW eI (akC _ _ _ _ i) (dJ (g1 fun h=>⟨all_nil,fun R dX=>?_⟩) (dF (g1 fun h=>⟨all_nil,fun R dX=>?_⟩))))
 . have eY:=j9 h;obtain⟨v,hv⟩:∃v,vs[i]? =some v:=⟨_,au eY⟩;have ny:=q8 hv;simp only[andThen];refine fQ dX (dM dD (fL (i:=1) dD ?_));have A3 {r:ah} (q:∀a∈r,a):=A (iT eY) (A (eK vs) (A ny q));refine fH 2 fW (akD _ _ _ _ i v) (A3 (A3 (A3 (A3 all_nil)))) ?_;generalize hL:n7 (vs.take i)=l at *;refine ES (α:=Nat) (fn:=Tryz.f67) 2 eI [0,2,3,4,5,6] (DI v-·) (. <=DI v) (fun k=>Wb vs.length (eG vs) (uo v l k).length (iH (uo v l k)) i (TS v) (TT v) (TU v) (TV v) k) 0 (aN _) .refl fun k U=>?_;have hl:=C7 (v:=v) jl k;have kc:=Qm v;refine⟨_,fk (adq (uo v l k) (sx v k) (sy v k) (TS v) (TT v) (TU v) (TV v) S) fW,[],_,_,akE _ _ _ _ i (TS v) (TT v) (TU v) (TV v) k (DI v) v (sx v k) (sy v k) _ _ _,
    dJ (g2 fun h1 C=>⟨?_,k+1,um (j9 h1),j9 h1,?_⟩) (dJ (g2 fun h1 C=>⟨?_,k+1,um (j9 h1),j9 h1,?_⟩) (dF (g1 fun h1=>⟨A3 (eM (Qn v)),fun s2 vQ=>?_⟩)))⟩
   . have hk1:=j9 h1
     repeat' (first|exact all_nil|refine A ?_ ?_)
     all_goals first|exact iT eY|exact eK vs|exact ny|exact Qn v|exact gK S|rfl
   rotate_left
   . have hk1:=j9 h1
     repeat' (first|exact all_nil|refine A ?_ ?_)
     all_goals first|exact iT eY|exact eK vs|exact ny|exact Qn v|exact gK S|rfl
   rotate_right
   . have C:(wz (uo v l k) (sx v k) (sy v k) (TS v) (TT v) (TU v) (TV v)).2=0:=by simpa using C
     show ew ak 0 Tryz.f67.ntmps _ (Wb vs.length (eG vs) (uo v l (k+1)).length (iH (uo v l (k+1))) i (TS v) (TT v) (TU v) (TV v) (k+1));rw[z8,show Nu v (uo v l k) k=_ from aD C];exact .refl
   . have C:¬(wz (uo v l k) (sx v k) (sy v k) (TS v) (TT v) (TU v) (TV v)).2=0:=by simpa using C
     show ew ak 0 Tryz.f67.ntmps _ (Wb vs.length (eG vs) (uo v l (k+1)).length (iH (uo v l (k+1))) i (TS v) (TT v) (TU v) (TV v) (k+1));rw[z8,show Nu v (uo v l k) k=_ from aA C];exact .refl
   . have hkc:k=DI v:=by have:=qZ h1;omega
     subst hkc;rw[iS];simp only[andThen,gZ,cA,reduceCtorEq];refine fQ vQ (gk fW eI (akF _ _ _ _ i _ _ _ _ _) (dF (g0 ⟨eM (gK S),fun s3 Qq=>⟨i+1,um eY,eY,?_⟩⟩)));rw[IG hv,hL];exact .norm Qq
 . have Pf:=qZ h;obtain rfl:i=vs.length:=by omega
   simp only[andThen,iS];refine fQ dX (eR fW (akG _ _ _ _ _) (dF (g0 ⟨all_nil,_,_,_,rfl,?_⟩)));rw[bn];rfl
noncomputable abbrev adr:Code:=dL Tryz.f109
noncomputable abbrev Yh:Code:=dA 3 adr
noncomputable abbrev ads:Code:=dA 1 Yh
noncomputable abbrev Qr:Code:=dA 3 ads
section
variable(n:Nat)(ks:List Int)(m:Nat)
def a16(v:Int):Int:=IntKind.i64.wrap (Int.ofNat (BitVec.ofInt 64 v&&&BitVec.ofInt 64 (65535:Int)).toNat)
def apI(x:Int):List Int:=List.take (m*1) (List.drop 0 ks)++[x]
def crv(fr lw c:Int):Int:=IntKind.i64.wrap (lw+IntKind.i64.wrap ((IntKind.i64.wrap (c*IntKind.i64.wrap ((65535:Int)-lw))).tdiv fr))
def Yi(cs:ai)(ks:List Int)(m:Nat)(fr:Int)(i:Nat):St:=fB [(0,.eE false n cs),(3,.eZ (some (0,0)) m m 1),(4,F fr),(5,L i)] (hL [(0,.own .i64 ks)]) 1
def Yj(fr lw:Int)(i:Nat):St:=fB [(3,.eZ (some (0,0)) m m 1),(4,F fr),(6,F lw),(7,L i)] (hL [(0,.own .i64 ks)]) 1
theorem akK(cs:ai):H (M W3 []) [] 0 Tryz.f109 [0,3,4] (dU 3 adr) (dB [.eE false n cs] .nil 0) [([],[],eu (fB [(0,.eE false n cs),(3,.eZ (some (0,0)) 1 1 1),(4,.int .i64 0)] (hL [(0,.cells [.int .i64 0])]) 1))]:=G.W
theorem akL(cs:ai):H (M W3 []) [] 0 Tryz.f109 [0,3,4,5] (dI (dI Yh)) (fB [(0,.eE false n cs),(3,.eZ (some (0,0)) 1 1 1),(4,F 0)] (hL [(0,.own .i64 [0])]) 1) [([],[],eu (Yi n cs [0] 1 0 0))]:=G.W
theorem akM(cs:ai)(ks:List Int)(m:Nat)(fr:Int)(i:Nat)(v:Int):H (M W3 []) [(13,.split),(15,.dG (.bool true)),(22,.dG (.dS [.int .i64 v])),(18,.dG (L (i+1)))] 0 Tryz.f109 [0,3,4,5] (dK (dK (dY (dI Yh)))) (Yi n cs ks m fr i) (fP (decide (Int.ofNat i<(Int.ofNat n))) ([kO (decide (Int.ofNat i<(256:Int))),fR i n,cs.length=n*1,gG cs i 1 [D.int B v],0<m,0+m*1<=ks.length,0<1,fJ (m+1) 1 8=true,oH i],eu (Yi n cs (apI ks m (IntKind.i64.wrap (fr+a16 v))) (m+1) (IntKind.i64.wrap (fr+a16 v)) (i+1))) ([],.to (.exit 0) (Yi n cs ks m fr i))):=G.W
theorem akN(cs:ai)(ks:List Int)(m:Nat)(fr:Int)(i:Nat)(v w:Int):H (M W3 []) [(32,.dG (.bool false)),(39,.dG (.bool true)),(41,.dG (.dS [.int .i64 v])),(44,.split),(47,.dG (.dS [.int .i64 w]))] 0 Tryz.f109 [3,4,6] (dU 3 ads) (Yi n cs ks m fr i) (fP (IntKind.i64.wrap (Int.ofNat (BitVec.ofInt 64 v&&&BitVec.ofInt 64 (7:Int)).toNat)==(3:Int)) ([lu (decide ((Int.ofNat m)<(2:Int))),kO (decide ((Int.ofNat n)>(2:Int))),(0:Int)<=(0:Int)/\(0:Int)<(Int.ofNat n),cs.length=n*1,V.dS (dO cs 0 1)=V.dS [D.int B v],(0:Int)<=(1:Int)/\(1:Int)<(Int.ofNat n),cs.length=n*1,V.dS (dO cs 1 1)=V.dS [D.int B w]],eu (fB [(3,.eZ (some (0,0)) m m 1),(4,F fr),(6,F (IntKind.i64.wrap (Int.ofNat (BitVec.ofInt 64 w&&&BitVec.ofInt 64 (4095:Int)).toNat)))] (hL [(0,.own .i64 ks)]) 1)) ([lu (decide ((Int.ofNat m)<(2:Int))),kO (decide ((Int.ofNat n)>(2:Int))),(0:Int)<=(0:Int)/\(0:Int)<(Int.ofNat n),cs.length=n*1,V.dS (dO cs 0 1)=V.dS [D.int B v]],eu (fB [(3,.eZ (some (0,0)) m m 1),(4,F fr),(6,F 0)] (hL [(0,.own .i64 ks)]) 1))):=G.W
theorem akO(fr lw:Int):H (M W3 []) [] 0 Tryz.f109 [3,4,6,7] (dI (dI Qr)) (fB [(3,.eZ (some (0,0)) m m 1),(4,F fr),(6,F lw)] (hL [(0,.own .i64 ks)]) 1) [([],[],eu (Yj ks m fr lw 0))]:=G.W
theorem akP(fr lw:Int)(i:Nat)(c:Int):H (M W3 []) [(54,.split),(56,.split),(66,.dG (F c)),(59,.dG (L (i+1)))] 0 Tryz.f109 [3,4,6,7] (dK (dK (dY (dI Qr)))) (Yj ks m fr lw i) (CW (decide (Int.ofNat i<(Int.ofNat m))) (decide (fr>(0:Int))) ([fR i m,0+i*1<ks.length,V.int B (ks.getD (0+i*1) (0:Int))=F c,fr≠(0:Int),fR i m,0+i*1+1<=ks.length,oH i],eu (Yj (A6 ks (0+i*1) [crv fr lw c]) m fr lw (i+1))) ([],.to (.exit 2) (Yj ks m fr lw i))):=G.W
theorem akQ(fr lw:Int)(i:Nat):H (M W3 []) [] 0 Tryz.f109 [] (dY Qr) (Yj ks m fr lw i) [([],[],.ret (.eZ (some (0,0)) m m 1) (hL [(0,.own .i64 ks)]) 1)]:=G.W
end
section
variable(s:List Int)(f:Int->Int)(ks:List Int)(i:Nat)
def rj:List Int×Int:=s.foldl (fun x v=>(x.1++[IntKind.i64.wrap (x.2+a16 v)],IntKind.i64.wrap (x.2+a16 v))) ([0],0)
theorem Qs{s:List Int}{i:Nat}{v:Int}(h:s[i]? =some v):rj (s.take (i+1))=((rj (s.take i)).1++[IntKind.i64.wrap ((rj (s.take i)).2+a16 v)],IntKind.i64.wrap ((rj (s.take i)).2+a16 v)):=by
 unfold rj;rw[bY,h,List.foldl_append];rfl
theorem LU:(rj s).1.length=s.length+1:=by
 have:∀(s:List Int) (x:List Int×Int),(s.foldl (fun x v=>(x.1++[IntKind.i64.wrap (x.2+a16 v)],IntKind.i64.wrap (x.2+a16 v))) x).1.length=x.1.length+s.length:=by
  intro s
  induction s with
  |nil=>intro x;rfl
  |cons v s ih=>intro x;rw[List.foldl_cons,ih,aH];simp;omega
 unfold rj;rw[this];simp;omega
theorem Yk(x:Int):apI ks ks.length x=ks++[x]:=by
 unfold apI;rw[bx,cP,bn]
def mx:List Int:=(ks.take i).map f++ks.drop i
theorem F6:(mx f ks i).length=ks.length:=by
 unfold mx;rw[aH,bG,aW,List.length_drop];omega
end
section
variable(s:List Int){f:Int->Int}{ks:List Int}{i:Nat}{c:Int}
theorem Yl(h:ks[i]? =some c):(mx f ks i).getD (0+i*1) 0=c:=by
 have eY:i<ks.length:=(aO.1 h).1;unfold mx;rw[ax,bB,cP,cT (by rw[bG,aW];omega),bG,aW,bX,show i+(i-min i ks.length)=i by omega,h];rfl
theorem Ym(h:ks[i]? =some c):A6 (mx f ks i) (0+i*1) [f c]=mx f ks (i+1):=by
 have eY:i<ks.length:=(aO.1 h).1;have hv:ks[i]=c:=(aO.1 h).2;have hl:((ks.take i).map f).length=i:=by rw[bG,aW];omega
 unfold A6 mx;rw[bB,cP,List.take_left' hl,cQ,<- List.drop_drop,List.drop_left' hl,List.drop_drop,bY,h,bM];simp
def Yn:Int:=match s with
 |v::w::_=>if IntKind.i64.wrap (Int.ofNat (BitVec.ofInt 64 v&&&BitVec.ofInt 64 (7:Int)).toNat)=3 then IntKind.i64.wrap (Int.ofNat (BitVec.ofInt 64 w&&&BitVec.ofInt 64 (4095:Int)).toNat)else 0
 |_=>0
def Qt:List Int:=if 0<(rj s).2 then(rj s).1.map (crv (rj s).2 (Yn s))else(rj s).1
theorem Yo{k:Nat}(h:k<=100000):fJ k 1 8=true:=aT ⟨S,S⟩
theorem adt(C:2<s.length)(h3:s.length<=200):dV ak 109 [fF s] (fF (Qt s)):=by
 refine mJ Tryz.func109 ?_;refine fH 3 fW (akK s.length (eG s)) all_nil (zL [(0,.i64)] (s2:=fB [(0,.eE false s.length (eG s)),(3,.eZ (some (0,0)) 1 1 1),(4,F 0)] (hL [(0,.own .i64 [0])]) 1) dD ?_);refine nD fW 0 _ [0,3,4,5] (s.length-·) (. <=s.length) (fun i=>Yi s.length (eG s) (rj (s.take i)).1 (rj (s.take i)).1.length (rj (s.take i)).2 i) 0 (aN _) (akL _ _) all_nil .refl fun i hi=>?_;have hl:=LU (s.take i);rw[aW,Nat.min_eq_left hi]at hl;refine⟨_,fW,[],_,_,akM _ _ _ _ _ i (s.getD i 0),dJ (g1 fun h=>?_) (dF (g1 fun h=>⟨all_nil,rfl,?_⟩))⟩
 . have eY:=j9 h;obtain⟨v,hv⟩:∃v,s[i]? =some v:=⟨_,au eY⟩;have ev:s.getD i 0=v:=by rw[ax,hv];rfl
   rw[ev];refine⟨A (aI V.bool (aT (by simp only[gB];omega))) (A (iT eY) (A (eK s) (A (q8 hv) (A S (A S (A Nat.zero_lt_one (A (Yo S) (eM (gK S))))))))),i+1,um eY,eY,?_⟩;show ew _ _ _ _ (Yi s.length (eG s) (rj (s.take (i+1))).1 (rj (s.take (i+1))).1.length (rj (s.take (i+1))).2 (i+1));rw[Qs hv,Yk];simp only[aH,cQ];exact .refl
 obtain rfl:i=s.length:=by have:=qZ h;omega
 clear h;rw[bn]at hl ⊢;obtain⟨v,w,r,rfl⟩:∃v w r,s=v::w::r:=by
  match s,C with
  |v::w::r,_=>exact⟨v,w,r,rfl⟩
 generalize hs:v::w::r=s at *;have hvw:s[0]? =some v/\s[1]? =some w:=by subst hs;exact⟨rfl,rfl⟩
 have fT:Yn s=if IntKind.i64.wrap (Int.ofNat (BitVec.ofInt 64 v&&&BitVec.ofInt 64 (7:Int)).toNat)=3 then IntKind.i64.wrap (Int.ofNat (BitVec.ofInt 64 w&&&BitVec.ofInt 64 (4095:Int)).toNat)else 0:=by subst hs;rfl
 have pX:∀lw,lw=Yn s->TG ak 0 Tryz.f109.ntmps Qr (fB [(3,.eZ (some (0,0)) (rj s).1.length (rj s).1.length 1),(4,F (rj s).2),(6,F lw)] (hL [(0,.own .i64 (rj s).1)]) 1) (fV ak 0 Tryz.f109 (rE (fF (Qt s)))):=by
  intro lw hw;refine nD fW 2 _ [3,4,6,7] ((rj s).1.length-·) (fun i=>i<=(rj s).1.length/\(0<i->0<(rj s).2)) (fun i=>Yj (mx (crv (rj s).2 lw) (rj s).1 i) (rj s).1.length (rj s).2 lw i) 0 ⟨aN _,fun h=>absurd h (dj _)⟩ (akO _ _ _ _) all_nil .refl fun i ⟨hi,hT⟩=>?_;have ret:∀ks,ks=Qt s->ks.length=(rj s).1.length->∀i,TG ak 0 Tryz.f109.ntmps (dY Qr) (Yj ks (rj s).1.length (rj s).2 lw i) (fV ak 0 Tryz.f109 (rE (fF (Qt s)))):=by
   intro ks U hkl i;rw[<- hkl,<- U];exact eR fW (akQ ks ks.length (rj s).2 lw i) (dF (g0 ⟨all_nil,_,_,_,rfl,.Bi (v0:=fF ks) [0] (fm:=[(eG ks).length=ks.length*1]) dD (eM (eK ks)) dD dD⟩))
  refine⟨_,fW,[],_,_,akP _ _ _ _ i ((rj s).1.getD i 0),dJ (g2 fun h h0=>?_) (dJ (g2 fun h h0=>⟨all_nil,rfl,?_⟩) (dF (g1 fun h=>⟨all_nil,rfl,?_⟩)))⟩
  . have eY:=j9 h;have h0:0<(rj s).2:=aX h0;obtain⟨c,N⟩:∃c,(rj s).1[i]? =some c:=⟨_,au eY⟩;have ev:(rj s).1.getD i 0=c:=by rw[ax,N];rfl
    rw[ev,Ym N];exact⟨A (iT eY) (A (by rw[F6];omega) (A (by rw[Yl N]) (A S (A (iT eY) (A (by rw[F6];omega) (eM (gK S))))))),i+1,um eY,⟨eY,fun _=>h0⟩,.refl⟩
  . have h0:¬0<(rj s).2:=bq h0;obtain rfl:i=0:=by
     rcases cH i with q|q
     . exact q
     . exact absurd (hT q) h0
    refine ret _ ?_ (F6 ..) _;rw[show Qt s=(rj s).1 from aA h0];rfl
  . obtain rfl:i=(rj s).1.length:=by have:=qZ h;omega
    refine ret _ ?_ (F6 ..) _;rw[show Qt s=_ from aD (hT S),<- hw];unfold mx;rw[bn,List.drop_length,dw]
 have K:V.bool (decide ((Int.ofNat (rj s).1.length)<(2:Int)))=V.bool false:=aI V.bool (aV (by simp only[gB];omega));have hn:V.bool (decide ((Int.ofNat s.length)>(2:Int)))=V.bool true:=aI V.bool (aT (by simp only[gB];omega));have b0:(0:Int)<=(0:Int)/\(0:Int)<(Int.ofNat s.length):=⟨Int.le_refl _,by simp only[gB];omega⟩;have b1:(0:Int)<=(1:Int)/\(1:Int)<(Int.ofNat s.length):=⟨eX,by simp only[gB];omega⟩;refine uh 3 fW (akN s.length (eG s) (rj s).1 (rj s).1.length (rj s).2 s.length v w) (dJ (g1 fun h=>⟨A K (A hn (A b0 (A (eK s) (A (q8 hvw.1) (A b1 (A (eK s) (eM (q8 hvw.2)))))))),_,rfl,pX _ ?_⟩) (dF (g1 fun h=>⟨A K (A hn (A b0 (A (eK s) (eM (q8 hvw.1))))),_,rfl,pX _ ?_⟩)))
 . rw[fT,aD (by simpa using h)]
 . rw[fT,aA (by simpa using h)]
end
section
variable(n:Nat)(f:Nat->Int)
noncomputable abbrev adu:Code:=dL Tryz.f69
noncomputable abbrev D5:Code:=dA 3 adu
def akS:ag:=(List.range 60).map fun j=>F (f j)
def f12(s:List Int)(j:Nat):Int:=match s[j]? with
 |some v=>a16 v
 |none=>0
def Aa(n:Nat):List Int:=(List.range n).map fun i=>IntKind.i64.wrap ((f (3+i)).tmod 9-2)
def Qu(cs:ai)(f:Nat->Int):St:=fB [(0,.eE false n cs),(2,.ptr (some (0,0))),(3,.ptr (some (1,0)))] (hL [(0,.cells [F 0,F 0,.eZ none 0 0 0,F 0,F 0,.eZ none 0 0 0]),(1,.cells (akS f))]) 2
abbrev v12(a b c d e g h i j k l m:Int):V:=.eE false 12 [.int .i64 a,.int .i64 b,.int .i64 c,.int .i64 d,.int .i64 e,.int .i64 g,.int .i64 h,.int .i64 i,.int .i64 j,.int .i64 k,.int .i64 l,.int .i64 m]
theorem akT(a b c d e g h i j k l m:Int):H (M W3 []) [] 0 Tryz.f69 [0,2,3] (dU 3 adu) (dB [v12 a b c d e g h i j k l m] .nil 0) [([],[(0:Int)<=(0:Int)/\(0:Int)<(12:Int),[D.int B a,D.int B b,D.int B c,D.int B d,D.int B e,D.int B g,D.int B h,D.int B i,D.int B j,D.int B k,D.int B l,D.int B m].length=12,(0:Int)<=(0:Int)/\(0:Int)<(60:Int),(0:Int)<=(1:Int)/\(1:Int)<(12:Int),[D.int B a,D.int B b,D.int B c,D.int B d,D.int B e,D.int B g,D.int B h,D.int B i,D.int B j,D.int B k,D.int B l,D.int B m].length=12,(0:Int)<=(1:Int)/\(1:Int)<(60:Int),(0:Int)<=(2:Int)/\(2:Int)<(12:Int),[D.int B a,D.int B b,D.int B c,D.int B d,D.int B e,D.int B g,D.int B h,D.int B i,D.int B j,D.int B k,D.int B l,D.int B m].length=12,(0:Int)<=(2:Int)/\(2:Int)<(60:Int),(0:Int)<=(3:Int)/\(3:Int)<(12:Int),[D.int B a,D.int B b,D.int B c,D.int B d,D.int B e,D.int B g,D.int B h,D.int B i,D.int B j,D.int B k,D.int B l,D.int B m].length=12,(0:Int)<=(3:Int)/\(3:Int)<(60:Int),(0:Int)<=(4:Int)/\(4:Int)<(12:Int),[D.int B a,D.int B b,D.int B c,D.int B d,D.int B e,D.int B g,D.int B h,D.int B i,D.int B j,D.int B k,D.int B l,D.int B m].length=12,(0:Int)<=(4:Int)/\(4:Int)<(60:Int),(0:Int)<=(5:Int)/\(5:Int)<(12:Int),[D.int B a,D.int B b,D.int B c,D.int B d,D.int B e,D.int B g,D.int B h,D.int B i,D.int B j,D.int B k,D.int B l,D.int B m].length=12,(0:Int)<=(5:Int)/\(5:Int)<(60:Int),(0:Int)<=(6:Int)/\(6:Int)<(12:Int),[D.int B a,D.int B b,D.int B c,D.int B d,D.int B e,D.int B g,D.int B h,D.int B i,D.int B j,D.int B k,D.int B l,D.int B m].length=12,(0:Int)<=(6:Int)/\(6:Int)<(60:Int),(0:Int)<=(7:Int)/\(7:Int)<(12:Int),[D.int B a,D.int B b,D.int B c,D.int B d,D.int B e,D.int B g,D.int B h,D.int B i,D.int B j,D.int B k,D.int B l,D.int B m].length=12,(0:Int)<=(7:Int)/\(7:Int)<(60:Int),(0:Int)<=(8:Int)/\(8:Int)<(12:Int),[D.int B a,D.int B b,D.int B c,D.int B d,D.int B e,D.int B g,D.int B h,D.int B i,D.int B j,D.int B k,D.int B l,D.int B m].length=12,(0:Int)<=(8:Int)/\(8:Int)<(60:Int),(0:Int)<=(9:Int)/\(9:Int)<(12:Int),[D.int B a,D.int B b,D.int B c,D.int B d,D.int B e,D.int B g,D.int B h,D.int B i,D.int B j,D.int B k,D.int B l,D.int B m].length=12,(0:Int)<=(9:Int)/\(9:Int)<(60:Int),(0:Int)<=(10:Int)/\(10:Int)<(12:Int),[D.int B a,D.int B b,D.int B c,D.int B d,D.int B e,D.int B g,D.int B h,D.int B i,D.int B j,D.int B k,D.int B l,D.int B m].length=12,(0:Int)<=(10:Int)/\(10:Int)<(60:Int),(0:Int)<=(11:Int)/\(11:Int)<(12:Int),[D.int B a,D.int B b,D.int B c,D.int B d,D.int B e,D.int B g,D.int B h,D.int B i,D.int B j,D.int B k,D.int B l,D.int B m].length=12,(0:Int)<=(11:Int)/\(11:Int)<(60:Int)],eu (Qu 12 [.int .i64 a,.int .i64 b,.int .i64 c,.int .i64 d,.int .i64 e,.int .i64 g,.int .i64 h,.int .i64 i,.int .i64 j,.int .i64 k,.int .i64 l,.int .i64 m] (f12 [a,b,c,d,e,g,h,i,j,k,l,m])))]:=G.W
theorem adv(cs:ai)(f:Nat->Int):H (M W3 []) [(31,.dG (F 1)),(36,.dG (F 0))] 0 Tryz.f69 [] (D5) (Qu n cs f) [([],[V.int B (IntKind.i64.wrap ((1:Int)+(f (0)).tmod (8:Int)))=F (1:Int),V.int B ((f (1)).tmod (3:Int))=F (0:Int),(0:Int)<=(3:Int)/\(3:Int)<(60:Int)],.ret (.agg [F (IntKind.i64.wrap (1+(f 0).tmod 8)),F 0,.eZ (some (0,0)) 1 1 1,F (IntKind.i64.wrap (1+(f 2).tmod 20)),F 0,.eZ none 0 0 0]) (hL [(0,.cells ((Aa f 1).map F))]) 1)]:=G.W
theorem adw(cs:ai)(f:Nat->Int):H (M W3 []) [(31,.dG (F 1)),(36,.dG (F 1))] 0 Tryz.f69 [] (D5) (Qu n cs f) [([],[V.int B (IntKind.i64.wrap ((1:Int)+(f (0)).tmod (8:Int)))=F (1:Int),V.int B ((f (1)).tmod (3:Int))=F (1:Int),(0:Int)<=(3:Int)/\(3:Int)<(60:Int),(0:Int)<=(4:Int)/\(4:Int)<(60:Int),(0:Int)<=(5:Int)/\(5:Int)<(60:Int),(0:Int)<=(6:Int)/\(6:Int)<(60:Int),(0:Int)<=(7:Int)/\(7:Int)<(60:Int),(0:Int)<=(8:Int)/\(8:Int)<(60:Int),(0:Int)<=(9:Int)/\(9:Int)<(60:Int),(0:Int)<=(10:Int)/\(10:Int)<(60:Int),(0:Int)<=(11:Int)/\(11:Int)<(60:Int)],.ret (.agg [F (IntKind.i64.wrap (1+(f 0).tmod 8)),F 1,.eZ (some (0,0)) 9 9 1,F (IntKind.i64.wrap (1+(f 2).tmod 20)),F 0,.eZ none 0 0 0]) (hL [(0,.cells ((Aa f 9).map F))]) 1)]:=G.W
theorem adx(cs:ai)(f:Nat->Int):H (M W3 []) [(31,.dG (F 1)),(36,.dG (F 2))] 0 Tryz.f69 [] (D5) (Qu n cs f) [([],[V.int B (IntKind.i64.wrap ((1:Int)+(f (0)).tmod (8:Int)))=F (1:Int),V.int B ((f (1)).tmod (3:Int))=F (2:Int),(0:Int)<=(3:Int)/\(3:Int)<(60:Int),(0:Int)<=(4:Int)/\(4:Int)<(60:Int),(0:Int)<=(5:Int)/\(5:Int)<(60:Int),(0:Int)<=(6:Int)/\(6:Int)<(60:Int),(0:Int)<=(7:Int)/\(7:Int)<(60:Int),(0:Int)<=(8:Int)/\(8:Int)<(60:Int),(0:Int)<=(9:Int)/\(9:Int)<(60:Int),(0:Int)<=(10:Int)/\(10:Int)<(60:Int),(0:Int)<=(11:Int)/\(11:Int)<(60:Int),(0:Int)<=(12:Int)/\(12:Int)<(60:Int),(0:Int)<=(13:Int)/\(13:Int)<(60:Int),(0:Int)<=(14:Int)/\(14:Int)<(60:Int),(0:Int)<=(15:Int)/\(15:Int)<(60:Int),(0:Int)<=(16:Int)/\(16:Int)<(60:Int),(0:Int)<=(17:Int)/\(17:Int)<(60:Int),(0:Int)<=(18:Int)/\(18:Int)<(60:Int),(0:Int)<=(19:Int)/\(19:Int)<(60:Int),(0:Int)<=(20:Int)/\(20:Int)<(60:Int),(0:Int)<=(21:Int)/\(21:Int)<(60:Int),(0:Int)<=(22:Int)/\(22:Int)<(60:Int),(0:Int)<=(23:Int)/\(23:Int)<(60:Int),(0:Int)<=(24:Int)/\(24:Int)<(60:Int),(0:Int)<=(25:Int)/\(25:Int)<(60:Int),(0:Int)<=(26:Int)/\(26:Int)<(60:Int),(0:Int)<=(27:Int)/\(27:Int)<(60:Int)],.ret (.agg [F (IntKind.i64.wrap (1+(f 0).tmod 8)),F 2,.eZ (some (0,0)) 25 25 1,F (IntKind.i64.wrap (1+(f 2).tmod 20)),F 0,.eZ none 0 0 0]) (hL [(0,.cells ((Aa f 25).map F))]) 1)]:=G.W
theorem akU(cs:ai)(f:Nat->Int):H (M W3 []) [(31,.dG (F 2))] 0 Tryz.f69 [] (D5) (Qu n cs f) [([],[V.int B (IntKind.i64.wrap ((1:Int)+(f (0)).tmod (8:Int)))=F (2:Int)],.ret (.agg [.int .i64 (IntKind.i64.wrap ((1:Int)+(f (0)).tmod (8:Int))),.int .i64 ((f (1)).tmod (4:Int)),.eZ none 0 0 0,.int .i64 0,.int .i64 0,.eZ none 0 0 0]) (hL []) 0)]:=G.W
theorem akV(cs:ai)(f:Nat->Int):H (M W3 []) [(31,.dG (F 3))] 0 Tryz.f69 [] (D5) (Qu n cs f) [([],[V.int B (IntKind.i64.wrap ((1:Int)+(f (0)).tmod (8:Int)))=F (3:Int)],.ret (.agg [.int .i64 (IntKind.i64.wrap ((1:Int)+(f (0)).tmod (8:Int))),.int .i64 ((f (1)).tmod (4:Int)),.eZ none 0 0 0,.int .i64 0,.int .i64 0,.eZ none 0 0 0]) (hL []) 0)]:=G.W
theorem akW(cs:ai)(f:Nat->Int):H (M W3 []) [(31,.dG (F 4))] 0 Tryz.f69 [] (D5) (Qu n cs f) [([],[V.int B (IntKind.i64.wrap ((1:Int)+(f (0)).tmod (8:Int)))=F (4:Int)],.ret (.agg [.int .i64 (IntKind.i64.wrap ((1:Int)+(f (0)).tmod (8:Int))),.int .i64 ((f (1)).tmod (4:Int)),.eZ none 0 0 0,.int .i64 0,.int .i64 0,.eZ none 0 0 0]) (hL []) 0)]:=G.W
theorem akX(cs:ai)(f:Nat->Int):H (M W3 []) [(31,.dG (F 6))] 0 Tryz.f69 [] (D5) (Qu n cs f) [([],[V.int B (IntKind.i64.wrap ((1:Int)+(f (0)).tmod (8:Int)))=F (6:Int)],.ret (.agg [.int .i64 (IntKind.i64.wrap ((1:Int)+(f (0)).tmod (8:Int))),.int .i64 0,.eZ none 0 0 0,.int .i64 0,.int .i64 0,.eZ none 0 0 0]) (hL []) 0)]:=G.W
theorem akY(cs:ai)(f:Nat->Int):H (M W3 []) [(31,.dG (F 7))] 0 Tryz.f69 [] (D5) (Qu n cs f) [([],[V.int B (IntKind.i64.wrap ((1:Int)+(f (0)).tmod (8:Int)))=F (7:Int)],.ret (.agg [.int .i64 (IntKind.i64.wrap ((1:Int)+(f (0)).tmod (8:Int))),.int .i64 0,.eZ none 0 0 0,.int .i64 0,.int .i64 ((f (1)).tmod (257:Int)),.eZ none 0 0 0]) (hL []) 0)]:=G.W
theorem akZ(cs:ai)(f:Nat->Int):H (M W3 []) [(31,.dG (F 8))] 0 Tryz.f69 [] (D5) (Qu n cs f) [([],[V.int B (IntKind.i64.wrap ((1:Int)+(f (0)).tmod (8:Int)))=F (8:Int)],.ret (.agg [.int .i64 (IntKind.i64.wrap ((1:Int)+(f (0)).tmod (8:Int))),.int .i64 (IntKind.i64.wrap ((f (1)).tmod (7:Int)-(3:Int))),.eZ none 0 0 0,.int .i64 0,.int .i64 (IntKind.i64.wrap ((f (2)).tmod (7:Int)-(3:Int))),.eZ none 0 0 0]) (hL []) 0)]:=G.W
theorem ak0(a b c d e g h i j k l m:Int)(n:Nat)(cs:ai):H (M (fa 109 [fF [b,c,d,e,g,h,i,j,k,l,m]] (.eE false n cs) W3) []) [(31,.dG (F 5))] 0 Tryz.f69 [] (D5) (Qu 12 [.int .i64 a,.int .i64 b,.int .i64 c,.int .i64 d,.int .i64 e,.int .i64 g,.int .i64 h,.int .i64 i,.int .i64 j,.int .i64 k,.int .i64 l,.int .i64 m] f) [([],[V.int B (IntKind.i64.wrap ((1:Int)+(f (0)).tmod (8:Int)))=F (5:Int),[D.int B a,D.int B b,D.int B c,D.int B d,D.int B e,D.int B g,D.int B h,D.int B i,D.int B j,D.int B k,D.int B l,D.int B m].length=12,(0:Int)<=(1:Int)/\(1:Int)<=(12:Int),fu [fF [b,c,d,e,g,h,i,j,k,l,m]]],.ret (.agg [.int .i64 (IntKind.i64.wrap ((1:Int)+(f (0)).tmod (8:Int))),.int .i64 0,.eZ none 0 0 0,.int .i64 0,.int .i64 0,.eE false n cs]) (hL []) 0)]:=G.W
end
structure FL where
 k:Int
 r:Int
 eW:List Int
 dv:Int
 vl:Int
 cu:List Int
def FL.cs(f:FL):ag:=[F f.k,F f.r,fF f.eW,F f.dv,F f.vl,fF f.cu]
def FL.v(f:FL):V:=.agg f.cs
theorem Yp(v:Int):0<=a16 v/\a16 v<=65535:=by
 unfold a16;have h:(BitVec.ofInt 64 v&&&BitVec.ofInt 64 (65535:Int)).toNat<=65535:=by
  rw[BitVec.toNat_and];exact Nat.and_le_right
 rw[ij (by simp only[gB];omega) (by simp only[gB];omega)];simp only[gB];omega
section
variable(s:List Int)(f:Nat->Int)
theorem Qv(j:Nat):0<=f12 s j/\f12 s j<=65535:=by
 unfold f12;split
 . exact Yp _
 . decide
theorem wA{x d:Int}(h:0<=x)(hd:0<d):0<=x.tmod d/\x.tmod d<d:=by
 rw[Int.tmod_eq_emod_of_nonneg h];exact⟨Int.emod_nonneg _ S,Int.emod_lt_of_pos _ hd⟩
def lO:Int:=IntKind.i64.wrap (1+(f 0).tmod 8)
def vU:FL:=
 if lO (f12 s)=1 then⟨lO (f12 s),(f12 s 1).tmod 3,Aa (f12 s) ((2*((f12 s 1).tmod 3).toNat+1)*(2*((f12 s 1).tmod 3).toNat+1)),IntKind.i64.wrap (1+(f12 s 2).tmod 20),0,[]⟩
 else if lO (f12 s)=2\/lO (f12 s)=3\/lO (f12 s)=4 then⟨lO (f12 s),(f12 s 1).tmod 4,[],0,0,[]⟩
 else if lO (f12 s)=5 then⟨lO (f12 s),0,[],0,0,Qt (s.drop 1)⟩
 else if lO (f12 s)=7 then⟨lO (f12 s),0,[],0,(f12 s 1).tmod 257,[]⟩
 else if lO (f12 s)=8 then⟨lO (f12 s),IntKind.i64.wrap ((f12 s 1).tmod 7-3),[],0,IntKind.i64.wrap ((f12 s 2).tmod 7-3),[]⟩
 else⟨lO (f12 s),0,[],0,0,[]⟩
theorem Qw(n:Nat):(Aa f n).length=n:=by simp[Aa]
end
theorem ady(a b c d e' g h i j k l m:Int):dV ak 69 [v12 a b c d e' g h i j k l m] (vU [a,b,c,d,e',g,h,i,j,k,l,m]).v:=by
 refine mJ Tryz.func69 ?_;refine fH 3 fW (akT a b c d e' g h i j k l m) ?_ ?_
 . repeat' (first|exact all_nil|refine A ?_ ?_)
   all_goals first|decide|rfl
 generalize hs:[a,b,c,d,e',g,h,i,j,k,l,m]=s;have FR:=Qv s;have h0:=wA (FR 0).1 (d:=8) eX;have h1:=wA (FR 1).1 (d:=3) eX;have U:lO (f12 s)=1+(f12 s 0).tmod 8:=ij S S;have qU:∀q:Int,lO (f12 s)=q->V.int B (IntKind.i64.wrap ((1:Int)+(f12 s 0).tmod (8:Int)))=F q:=fun q e=>aI _ e;have fm {r:ah} (hr:∀x∈r,x):∀x∈r,x:=hr;rcases(by omega:lO (f12 s)=1\/lO (f12 s)=2\/lO (f12 s)=3\/lO (f12 s)=4\/lO (f12 s)=5\/lO (f12 s)=6\/lO (f12 s)=7\/lO (f12 s)=8)with e|e|e|e|e|e|e|e
 . have ev:vU s=⟨lO (f12 s),(f12 s 1).tmod 3,Aa (f12 s) ((2*((f12 s 1).tmod 3).toNat+1)*(2*((f12 s 1).tmod 3).toNat+1)),IntKind.i64.wrap (1+(f12 s 2).tmod 20),0,[]⟩:=aD e;rw[ev];rcases(by omega:(f12 s 1).tmod 3=0\/(f12 s 1).tmod 3=1\/(f12 s 1).tmod 3=2)with q|q|q
   . refine eR fW (adv 12 _ (f12 s)) (dF (g0 ⟨?_,_,_,_,rfl,?_⟩))
     . refine A (qU 1 e) (A (aI _ q) ?_)
       repeat' (first|exact all_nil|refine A ?_ ?_)
       all_goals decide
     . rw[q];exact .Bi (v0:=.agg [F (lO (f12 s)),F 0,.eE false 1 (eG (Aa (f12 s) 1)),F (IntKind.i64.wrap (1+(f12 s 2).tmod 20)),F 0,.eZ none 0 0 0]) [0] (fm:=[(eG (Aa (f12 s) 1)).length=1*1]) dD (eM rfl) dD dD
   . refine eR fW (adw 12 _ (f12 s)) (dF (g0 ⟨?_,_,_,_,rfl,?_⟩))
     . refine A (qU 1 e) (A (aI _ q) ?_)
       repeat' (first|exact all_nil|refine A ?_ ?_)
       all_goals decide
     . rw[q];exact .Bi (v0:=.agg [F (lO (f12 s)),F 1,.eE false 9 (eG (Aa (f12 s) 9)),F (IntKind.i64.wrap (1+(f12 s 2).tmod 20)),F 0,.eZ none 0 0 0]) [0] (fm:=[(eG (Aa (f12 s) 9)).length=9*1]) dD (eM rfl) dD dD
   . refine eR fW (adx 12 _ (f12 s)) (dF (g0 ⟨?_,_,_,_,rfl,?_⟩))
     . refine A (qU 1 e) (A (aI _ q) ?_)
       repeat' (first|exact all_nil|refine A ?_ ?_)
       all_goals decide
     . rw[q];exact .Bi (v0:=.agg [F (lO (f12 s)),F 2,.eE false 25 (eG (Aa (f12 s) 25)),F (IntKind.i64.wrap (1+(f12 s 2).tmod 20)),F 0,.eZ none 0 0 0]) [0] (fm:=[(eG (Aa (f12 s) 25)).length=25*1]) dD (eM rfl) dD dD
 . rw[show vU s=⟨lO (f12 s),(f12 s 1).tmod 4,[],0,0,[]⟩from(aA S).trans (aD S)];exact eR fW (akU 12 _ (f12 s)) (dF (g0 ⟨eM (qU 2 e),_,_,_,rfl,.self rfl rfl⟩))
 . rw[show vU s=⟨lO (f12 s),(f12 s 1).tmod 4,[],0,0,[]⟩from(aA S).trans (aD S)];exact eR fW (akV 12 _ (f12 s)) (dF (g0 ⟨eM (qU 3 e),_,_,_,rfl,.self rfl rfl⟩))
 . rw[show vU s=⟨lO (f12 s),(f12 s 1).tmod 4,[],0,0,[]⟩from(aA S).trans (aD S)];exact eR fW (akW 12 _ (f12 s)) (dF (g0 ⟨eM (qU 4 e),_,_,_,rfl,.self rfl rfl⟩))
 . rw[show vU s=⟨lO (f12 s),0,[],0,0,Qt (s.drop 1)⟩from(aA S).trans ((aA S).trans (aD e))];have hd:s.drop 1=[b,c,d,e',g,h,i,j,k,l,m]:=by subst hs;rfl
   rw[hd];refine eR (fk (adt [b,c,d,e',g,h,i,j,k,l,m] (show 2<11 by decide) (show 11<=200 by decide)) fW) (ak0 (f12 s) a b c d e' g h i j k l m _ _) (dF (g0 ⟨A (qU 5 e) ?_,_,_,_,rfl,.self rfl rfl⟩))
   repeat' (first|exact all_nil|refine A ?_ ?_)
   all_goals first|decide|rfl
 . rw[show vU s=⟨lO (f12 s),0,[],0,0,[]⟩from(aA S).trans ((aA S).trans ((aA S).trans ((aA S).trans (aA S))))];exact eR fW (akX 12 _ (f12 s)) (dF (g0 ⟨eM (qU 6 e),_,_,_,rfl,.self rfl rfl⟩))
 . rw[show vU s=⟨lO (f12 s),0,[],0,(f12 s 1).tmod 257,[]⟩from(aA S).trans ((aA S).trans ((aA S).trans (aD e)))];exact eR fW (akY 12 _ (f12 s)) (dF (g0 ⟨eM (qU 7 e),_,_,_,rfl,.self rfl rfl⟩))
 . rw[show vU s=⟨lO (f12 s),IntKind.i64.wrap ((f12 s 1).tmod 7-3),[],0,IntKind.i64.wrap ((f12 s 2).tmod 7-3),[]⟩from(aA S).trans ((aA S).trans ((aA S).trans ((aA S).trans (aD e))))];exact eR fW (akZ 12 _ (f12 s)) (dF (g0 ⟨eM (qU 8 e),_,_,_,rfl,.self rfl rfl⟩))
noncomputable abbrev xk:Code:=dL Tryz.f30
noncomputable abbrev ak1:Code:=dL Tryz.f68
noncomputable abbrev ak2:Code:=dL Tryz.f71
abbrev gh:V:=.eZ none 0 0 0
structure P7 where
 a:Int
 b:Int
 c:Int
 d:Int
 e:Int
 f:Int
 n:Int
def P7.cs(p:P7):ag:=[F p.a,F p.b,F p.c,F p.d,F p.e,F p.f,F p.n]
def P7.v(p:P7):V:=.agg p.cs
structure S8 where
 s0:Int
 s1:Int
 s2:Int
 s3:Int
 s4:Int
 s5:Int
 s6:Int
 s7:Int
def S8.cs(s:S8):ag:=[F s.s0,F s.s1,F s.s2,F s.s3,F s.s4,F s.s5,F s.s6,F s.s7]
structure C4 where
 r:Int
 g:Int
 b:Int
 a:Int
section
variable(s:S8)(x n kd:Int)(nm:aa)(hid:Bool)(op md:Int)(clip:Bool)(pl:P7)(f:FL)(fi:C4)(gp:List Tl)(K:Bool)(mk:List Tl)
def C4.cs(p:C4):ag:=[.int .u8 p.r,.int .u8 p.g,.int .u8 p.b,.int .u8 p.a]
abbrev rsV(l:List Tl):V:=.eE false l.length (iH l)
def tY(pv:V)(gp:List Tl)(K:Bool)(mk:List Tl):ag:=
 [F 0,F kd,.str nm,.bool hid,F op,F md,.bool clip]++(pl.cs++([F 0,fF [],F 0]++(f.cs++(fi.cs++[pv,rsV gp,.bool K,rsV mk]))))
def z4:C4:=⟨0,0,0,0⟩
def z7:P7:=⟨0,0,0,0,0,0,0⟩
def i7:P7:=⟨1,0,0,0,1,0,1⟩
def tZ:FL:=⟨0,0,[],0,0,[]⟩
def On(k:Int):ag:=
 [F 0,F kd,.str [],.bool false,F op,F 0,.bool false]++(pl.cs++([F 0,gh,F 0]++([F k,F 0,gh,F 0,F 0,gh]++(z4.cs++[gh,gh,.bool false,gh]))))
def lyZ:ag:=On 0 0 z7 0
def wB(l:ag):St:=fB [(1,.ptr (some (0,0))),(2,.ptr (some (1,0))),(3,.ptr (some (2,0)))] (hL [(0,.cells s.cs),(1,.cells lyZ),(2,.cells l)]) 3
theorem ak3:H (M W3 []) [(16,.split),(20,.split),(23,.split)] 0 Tryz.f68 [] (ak1) (dB [F n] .nil 0) (XT (IntKind.i64.wrap (Int.ofNat (BitVec.ofInt 64 n&&&BitVec.ofInt 64 (7:Int)).toNat)==(1:Int)) (IntKind.i64.wrap (Int.ofNat (BitVec.ofInt 64 n&&&BitVec.ofInt 64 (7:Int)).toNat)==(2:Int)) (IntKind.i64.wrap (Int.ofNat (BitVec.ofInt 64 n&&&BitVec.ofInt 64 (7:Int)).toNat)==(3:Int)) ([],.ret (.agg [.int .i64 2,.int .i64 0,.int .i64 (IntKind.i64.wrap (IntKind.i64.wrap (Int.ofNat (BitVec.ofInt 64 (n.fdiv (4:Int))&&&BitVec.ofInt 64 (7:Int)).toNat)-(3:Int))),.int .i64 0,.int .i64 2,.int .i64 (IntKind.i64.wrap (IntKind.i64.wrap (Int.ofNat (BitVec.ofInt 64 (n.fdiv (32:Int))&&&BitVec.ofInt 64 (7:Int)).toNat)-(3:Int))),.int .i64 1]) (hL []) 0) ([],.ret (.agg [.int .i64 1,.int .i64 0,.int .i64 (IntKind.i64.wrap (IntKind.i64.wrap (Int.ofNat (BitVec.ofInt 64 (n.fdiv (4:Int))&&&BitVec.ofInt 64 (7:Int)).toNat)-(3:Int))),.int .i64 0,.int .i64 1,.int .i64 (IntKind.i64.wrap (IntKind.i64.wrap (Int.ofNat (BitVec.ofInt 64 (n.fdiv (32:Int))&&&BitVec.ofInt 64 (7:Int)).toNat)-(3:Int))),.int .i64 2]) (hL []) 0) ([],.ret (.agg [.int .i64 0,.int .i64 (-1),.int .i64 (IntKind.i64.wrap (IntKind.i64.wrap (Int.ofNat (BitVec.ofInt 64 (n.fdiv (4:Int))&&&BitVec.ofInt 64 (7:Int)).toNat)-(3:Int))),.int .i64 1,.int .i64 0,.int .i64 (IntKind.i64.wrap (IntKind.i64.wrap (Int.ofNat (BitVec.ofInt 64 (n.fdiv (32:Int))&&&BitVec.ofInt 64 (7:Int)).toNat)-(3:Int))),.int .i64 1]) (hL []) 0) ([],.ret (.agg [.int .i64 1,.int .i64 0,.int .i64 (IntKind.i64.wrap (IntKind.i64.wrap (Int.ofNat (BitVec.ofInt 64 (n.fdiv (4:Int))&&&BitVec.ofInt 64 (7:Int)).toNat)-(3:Int))),.int .i64 0,.int .i64 1,.int .i64 (IntKind.i64.wrap (IntKind.i64.wrap (Int.ofNat (BitVec.ofInt 64 (n.fdiv (32:Int))&&&BitVec.ofInt 64 (7:Int)).toNat)-(3:Int))),.int .i64 1]) (hL []) 0)):=G.W
theorem ak4:H (M W3 []) [(21,.split),(25,.split)] 0 Tryz.f71 [] (ak2) (dB [F n] .nil 0) [([((IntKind.u32.wrap n).tmod (5:Int)==(1:Int),true),((IntKind.u32.wrap n).tmod (5:Int)==(3:Int),true)],[(256:Int)≠(0:Int),(65536:Int)≠(0:Int),(16777216:Int)≠(0:Int)],.ret (.agg [.int .u8 (IntKind.u8.wrap (IntKind.u32.wrap n)),.int .u8 (IntKind.u8.wrap (IntKind.u32.wrap ((IntKind.u32.wrap n).tdiv (256:Int)))),.int .u8 (IntKind.u8.wrap (IntKind.u32.wrap ((IntKind.u32.wrap n).tdiv (65536:Int)))),.int .u8 0]) (hL []) 0),([((IntKind.u32.wrap n).tmod (5:Int)==(1:Int),true),((IntKind.u32.wrap n).tmod (5:Int)==(3:Int),false)],[(256:Int)≠(0:Int),(65536:Int)≠(0:Int),(16777216:Int)≠(0:Int)],.ret (.agg [.int .u8 (IntKind.u8.wrap (IntKind.u32.wrap n)),.int .u8 (IntKind.u8.wrap (IntKind.u32.wrap ((IntKind.u32.wrap n).tdiv (256:Int)))),.int .u8 (IntKind.u8.wrap (IntKind.u32.wrap ((IntKind.u32.wrap n).tdiv (65536:Int)))),.int .u8 255]) (hL []) 0),([((IntKind.u32.wrap n).tmod (5:Int)==(1:Int),false),((IntKind.u32.wrap n).tmod (5:Int)==(3:Int),true)],[(256:Int)≠(0:Int),(65536:Int)≠(0:Int),(16777216:Int)≠(0:Int)],.ret (.agg [.int .u8 (IntKind.u8.wrap (IntKind.u32.wrap n)),.int .u8 (IntKind.u8.wrap (IntKind.u32.wrap ((IntKind.u32.wrap n).tdiv (256:Int)))),.int .u8 (IntKind.u8.wrap (IntKind.u32.wrap ((IntKind.u32.wrap n).tdiv (65536:Int)))),.int .u8 0]) (hL []) 0),([((IntKind.u32.wrap n).tmod (5:Int)==(1:Int),false),((IntKind.u32.wrap n).tmod (5:Int)==(3:Int),false)],[(256:Int)≠(0:Int),(65536:Int)≠(0:Int),(16777216:Int)≠(0:Int)],.ret (.agg [.int .u8 (IntKind.u8.wrap (IntKind.u32.wrap n)),.int .u8 (IntKind.u8.wrap (IntKind.u32.wrap ((IntKind.u32.wrap n).tdiv (256:Int)))),.int .u8 (IntKind.u8.wrap (IntKind.u32.wrap ((IntKind.u32.wrap n).tdiv (65536:Int)))),.int .u8 (IntKind.u8.wrap (IntKind.u32.wrap ((IntKind.u32.wrap n).tdiv (16777216:Int))))]) (hL []) 0)]:=G.W
theorem adz:H (M W3 []) [(9,.dG (F 1))] 0 Tryz.f30 [1,2,3] (dU 2 xk) (dB [.agg s.cs] .nil 0) [([],[V.int B (IntKind.i64.wrap ((1:Int)+(IntKind.i64.wrap (Int.ofNat (BitVec.ofInt 64 s.s0&&&BitVec.ofInt 64 (65535:Int)).toNat)).tmod (5:Int)))=F (1:Int)],eu (wB s (On 1 255 i7 0)))]:=G.W
theorem adA:H (M W3 []) [(9,.dG (F 2))] 0 Tryz.f30 [1,2,3] (dU 2 xk) (dB [.agg s.cs] .nil 0) [([],[V.int B (IntKind.i64.wrap ((1:Int)+(IntKind.i64.wrap (Int.ofNat (BitVec.ofInt 64 s.s0&&&BitVec.ofInt 64 (65535:Int)).toNat)).tmod (5:Int)))=F (2:Int)],eu (wB s (On 2 255 z7 0)))]:=G.W
theorem adB:H (M W3 []) [(9,.dG (F 3))] 0 Tryz.f30 [1,2,3] (dU 2 xk) (dB [.agg s.cs] .nil 0) [([],[V.int B (IntKind.i64.wrap ((1:Int)+(IntKind.i64.wrap (Int.ofNat (BitVec.ofInt 64 s.s0&&&BitVec.ofInt 64 (65535:Int)).toNat)).tmod (5:Int)))=F (3:Int)],eu (wB s (On 3 255 z7 6)))]:=G.W
theorem adC:H (M W3 []) [(9,.dG (F 4))] 0 Tryz.f30 [1,2,3] (dU 2 xk) (dB [.agg s.cs] .nil 0) [([],[V.int B (IntKind.i64.wrap ((1:Int)+(IntKind.i64.wrap (Int.ofNat (BitVec.ofInt 64 s.s0&&&BitVec.ofInt 64 (65535:Int)).toNat)).tmod (5:Int)))=F (4:Int)],eu (wB s (On 4 255 i7 0)))]:=G.W
theorem adE:H (M W3 []) [(9,.dG (F 5))] 0 Tryz.f30 [1,2,3] (dU 2 xk) (dB [.agg s.cs] .nil 0) [([],[V.int B (IntKind.i64.wrap ((1:Int)+(IntKind.i64.wrap (Int.ofNat (BitVec.ofInt 64 s.s0&&&BitVec.ofInt 64 (65535:Int)).toNat)).tmod (5:Int)))=F (5:Int)],eu (wB s (On 5 255 z7 0)))]:=G.W
def an(m:Int):Int:=IntKind.i64.wrap (Int.ofNat (BitVec.ofInt 64 x&&&BitVec.ofInt 64 m).toNat)
def Oo:aa:=(([97,98,99,100,101,102,103,104]:aa).take (IntKind.i64.wrap (an x 7+1)).toNat).drop (an x 7).toNat
def SE:Bool:=an x 127==8
def SF:Bool:=an x 96==96
def opF:Int:=an (x.fdiv 2) 255
def mdO:Int:=an (x.fdiv 4) 15
theorem ak5:H (M W3 []) [] 0 Tryz.f30 [1,2,3] (dU 4 (dA 2 xk)) (wB s (tY kd nm hid op md clip pl f fi gh gp K mk)) [([],[(0:Int)<=IntKind.i64.wrap (IntKind.i64.wrap (Int.ofNat (BitVec.ofInt 64 s.s1&&&BitVec.ofInt 64 (7:Int)).toNat)+(1:Int))/\IntKind.i64.wrap (IntKind.i64.wrap (Int.ofNat (BitVec.ofInt 64 s.s1&&&BitVec.ofInt 64 (7:Int)).toNat)+(1:Int))<=(8:Int),(0:Int)<=IntKind.i64.wrap (Int.ofNat (BitVec.ofInt 64 s.s1&&&BitVec.ofInt 64 (7:Int)).toNat)/\IntKind.i64.wrap (Int.ofNat (BitVec.ofInt 64 s.s1&&&BitVec.ofInt 64 (7:Int)).toNat)<=(Int.ofNat (IntKind.i64.wrap (IntKind.i64.wrap (Int.ofNat (BitVec.ofInt 64 s.s1&&&BitVec.ofInt 64 (7:Int)).toNat)+(1:Int))).toNat)],eu (wB s (tY kd (Oo s.s1) (SE s.s1) 255 md (SF s.s1) pl f fi gh gp K mk)))]:=G.W
theorem ak6:H (M W3 []) [(34,.split)] 0 Tryz.f30 [1,2,3] (dU 1 (dA 6 xk)) (wB s (tY kd nm hid op md clip pl f fi gh gp K mk)) (fP (IntKind.i64.wrap (Int.ofNat (BitVec.ofInt 64 s.s2&&&BitVec.ofInt 64 (1:Int)).toNat)==(1:Int)) ([],eu (wB s (tY kd nm hid (opF s.s2) md clip pl f fi gh gp K mk))) ([],eu (wB s (tY kd nm hid op md clip pl f fi gh gp K mk)))):=G.W
theorem ak7:H (M W3 []) [(43,.split)] 0 Tryz.f30 [1,2,3] (dU 1 (dA 7 xk)) (wB s (tY kd nm hid op md clip pl f fi gh gp K mk)) (fP (IntKind.i64.wrap (Int.ofNat (BitVec.ofInt 64 s.s3&&&BitVec.ofInt 64 (3:Int)).toNat)==(1:Int)) ([],eu (wB s (tY kd nm hid op (mdO s.s3) clip pl f fi gh gp K mk))) ([],eu (wB s (tY kd nm hid op md clip pl f fi gh gp K mk)))):=G.W
theorem ak8(l:List Tl):H (M (PY 67 [fF [s.s3,s.s4,s.s5]] (kX l) W3) []) [(52,.split)] 0 Tryz.f30 [1,2,3] (dU 1 (dA 8 xk)) (wB s (tY kd nm hid op md clip pl f fi gh gp K mk)) (fP (IntKind.i64.wrap (Int.ofNat (BitVec.ofInt 64 s.s3&&&BitVec.ofInt 64 (192:Int)).toNat)==(64:Int)) ([[D.int B s.s3,D.int B s.s4,D.int B s.s5].length=3,V.jJ [V.eE false 3 [D.int B s.s3,D.int B s.s4,D.int B s.s5]]=[fF [s.s3,s.s4,s.s5]]],eu (wB s (tY kd nm hid op md clip pl f fi gh gp true l))) ([],eu (wB s (tY kd nm hid op md clip pl f fi gh gp K mk)))):=G.W
end
def Wc(n d:Int):Int:=IntKind.i64.wrap (an (n.fdiv d) 7-3)
def Wd(n:Int):P7:=if an n 7=1 then⟨2,0,Wc n 4,0,2,Wc n 32,1⟩else if an n 7=2 then⟨1,0,Wc n 4,0,1,Wc n 32,2⟩else if an n 7=3 then⟨0,-1,Wc n 4,1,0,Wc n 32,1⟩else⟨1,0,Wc n 4,0,1,Wc n 32,1⟩
def mpA(u:Int):Int:=if u.tmod 5=3 then 0 else if u.tmod 5=1 then 255 else IntKind.u8.wrap (IntKind.u32.wrap (u.tdiv 16777216))
def Qx(n:Int):C4:=⟨IntKind.u8.wrap (IntKind.u32.wrap n),IntKind.u8.wrap (IntKind.u32.wrap ((IntKind.u32.wrap n).tdiv 256)),IntKind.u8.wrap (IntKind.u32.wrap ((IntKind.u32.wrap n).tdiv 65536)),mpA (IntKind.u32.wrap n)⟩
def Kv:ag->Option (ah×V)
 | [.int .i64 n]=>some ([],(Wd n).v)
 |_=>none
def Kw:ag->Option (ah×V)
 | [.int .i64 n]=>some ([],.agg (Qx n).cs)
 |_=>none
theorem Yq:kj ak 68 (gQ Kv):=by
 refine nt Tryz.func68 fun args fm v e=>?_;unfold Kv at e;split at e
 case h_2=>cases e
 rename_i n;obtain⟨rfl,rfl⟩:=sm e;refine⟨rfl,rfl,rfl,fun _=>eR fW (ak3 n) (dJ (g1 fun h=>⟨all_nil,_,_,_,rfl,?_⟩) (dJ (g2 fun h C=>⟨all_nil,_,_,_,rfl,?_⟩) (dJ (g3 fun h C h3=>⟨all_nil,_,_,_,rfl,?_⟩) (dF (g3 fun h C h3=>⟨all_nil,_,_,_,rfl,?_⟩)))))⟩
 all_goals
  have h:(an n 7==1)=_:=h
  try have C:(an n 7==2)=_:=C
  try have h3:(an n 7==3)=_:=h3
  simp only[cm,cr,ne_eq]at *
 . rw[show Wd n=_ from aD h];rfl
 . rw[show Wd n=_ from(aA h).trans (aD C)];rfl
 . rw[show Wd n=_ from(aA h).trans ((aA C).trans (aD h3))];rfl
 . rw[show Wd n=_ from(aA h).trans ((aA C).trans (aA h3))];rfl
theorem Yr:kj ak 71 (gQ Kw):=by
 refine nt Tryz.func71 fun args fm v e=>?_;unfold Kw at e;split at e
 case h_2=>cases e
 rename_i n;obtain⟨rfl,rfl⟩:=sm e;have fm:∀a∈[((256:Int)≠(0:Int)),((65536:Int)≠(0:Int)),((16777216:Int)≠(0:Int))],a:=A eX (A eX (eM eX));refine⟨rfl,rfl,rfl,fun _=>eR fW (ak4 n) (dJ (g2 fun h C=>⟨fm,_,_,_,rfl,?_⟩) (dJ (g2 fun h C=>⟨fm,_,_,_,rfl,?_⟩) (dJ (g2 fun h C=>⟨fm,_,_,_,rfl,?_⟩) (dF (g2 fun h C=>⟨fm,_,_,_,rfl,?_⟩)))))⟩
 all_goals
  simp only[cm,cr,ne_eq]at h C;unfold Qx mpA
  first|rw[aD C]|rw[aA C,aD h]|rw[aA C,aA h]
  rfl
noncomputable abbrev W4:gJ:=kp 68 (gQ Kv) (kp 71 (gQ Kw) W3)
theorem sw:fe ak W4:=fN Yq (fN Yr fW)
def mQ(l:List (Int×Int)):ai:=(l.map fun p=>[D.int .i64 p.1,D.int .i64 p.2]).flatten
abbrev vV(l:List (Int×Int)):V:=.eE false l.length (mQ l)
structure eJ where
 id:Int
 kd:Int
 nm:aa
 hid:Bool
 op:Int
 md:Int
 clip:Bool
 pl:P7
 sp:Int
 kids:List Int
 of:Int
 f:FL
 fi:C4
 gu:List (Int×Int)
 gp:List Tl
 K:Bool
 gT:List Tl
def eJ.cs(l:eJ):ag:=[F l.id,F l.kd,.str l.nm,.bool l.hid,F l.op,F l.md,.bool l.clip]++(l.pl.cs++([F l.sp,fF l.kids,F l.of]++(l.f.cs++(l.fi.cs++[vV l.gu,rsV l.gp,.bool l.K,rsV l.gT]))))
def eJ.v(l:eJ):V:=.agg l.cs
def TW(p:C4):C4:=⟨cl p.a p.r,cl p.a p.g,cl p.a p.b,cl p.a p.a⟩
def px4(x:Int)(i:Nat):Int:=IntKind.i64.wrap (an (x.fdiv (16^i)) 15-4)
def II(x y:Int)(c:Nat):List (Int×Int):=(List.range c).map fun i=>(px4 x i,px4 y i)
def l12(s:S8):List Int:=[s.s4,s.s5,s.s6,s.s7,s.s2,s.s3,s.s1,IntKind.i64.wrap (s.s5.tdiv 7),IntKind.i64.wrap (s.s6.tdiv 5),IntKind.i64.wrap (s.s7.tdiv 3),IntKind.i64.wrap (s.s4.tdiv 9),IntKind.i64.wrap (s.s2.tdiv 11)]
noncomputable abbrev F7:Code:=dA 9 xk
section
variable(s:S8)(nm:aa)(hid:Bool)(op md:Int)(clip:Bool)(pl:P7)(f:FL)(fi:C4)(gp:List Tl)(K:Bool)(mk:List Tl)
theorem adF(l:List Tl):H (M (PY 67 [fF [s.s4,s.s5,s.s6,s.s7,s.s2]] (kX l) W4) []) [] 0 Tryz.f30 [] (F7) (wB s (tY 1 nm hid op md clip pl f fi gh gp K mk)) [([],[[D.int B s.s4,D.int B s.s5,D.int B s.s6,D.int B s.s7,D.int B s.s2].length=5,V.jJ [V.eE false 5 [D.int B s.s4,D.int B s.s5,D.int B s.s6,D.int B s.s7,D.int B s.s2]]=[fF [s.s4,s.s5,s.s6,s.s7,s.s2]]],.ret (.agg (tY 1 nm hid op md clip (Wd s.s6) f fi gh l K mk)) (hL []) 0)]:=G.W
theorem adG:H (M W4 []) [] 0 Tryz.f30 [] (F7) (wB s (tY 2 nm hid op md clip pl f fi gh gp K mk)) [([],[],.ret (.agg (tY 2 nm hid op md clip pl f fi gh gp K mk)) (hL []) 0)]:=G.W
theorem adH(g:FL):H (M (PY 69 [fF (l12 s)] g.v W4) []) [] 0 Tryz.f30 [] (F7) (wB s (tY 3 nm hid op md clip pl f fi gh gp K mk)) [([],[(7:Int)≠(0:Int),(5:Int)≠(0:Int),(3:Int)≠(0:Int),(9:Int)≠(0:Int),(11:Int)≠(0:Int),[D.int B s.s4,D.int B s.s5,D.int B s.s6,D.int B s.s7,D.int B s.s2,D.int B s.s3,D.int B s.s1,D.int B (IntKind.i64.wrap (s.s5.tdiv (7:Int))),D.int B (IntKind.i64.wrap (s.s6.tdiv (5:Int))),D.int B (IntKind.i64.wrap (s.s7.tdiv (3:Int))),D.int B (IntKind.i64.wrap (s.s4.tdiv (9:Int))),D.int B (IntKind.i64.wrap (s.s2.tdiv (11:Int)))].length=12,V.jJ [V.eE false 12 [D.int B s.s4,D.int B s.s5,D.int B s.s6,D.int B s.s7,D.int B s.s2,D.int B s.s3,D.int B s.s1,D.int B (IntKind.i64.wrap (s.s5.tdiv (7:Int))),D.int B (IntKind.i64.wrap (s.s6.tdiv (5:Int))),D.int B (IntKind.i64.wrap (s.s7.tdiv (3:Int))),D.int B (IntKind.i64.wrap (s.s4.tdiv (9:Int))),D.int B (IntKind.i64.wrap (s.s2.tdiv (11:Int)))]]=[fF (l12 s)]],.ret (.agg (tY 3 nm hid op md clip pl g fi gh gp K mk)) (hL []) 0)]:=G.W
theorem adI:H (M W4 []) [] 0 Tryz.f30 [] (F7) (wB s (tY 4 nm hid op md clip pl f fi gh gp K mk)) [([],[],.ret (.agg (tY 4 nm hid op md clip (Wd s.s6) f fi gh gp K mk)) (hL []) 0)]:=G.W
abbrev yy:Prop:=V.int B (IntKind.i64.wrap ((3:Int)+IntKind.i64.wrap (Int.ofNat (BitVec.ofInt 64 s.s5&&&BitVec.ofInt 64 (3:Int)).toNat)))=F (3:Int)
theorem Ys:H (M W4 []) [(135,.dG (F 3))] 0 Tryz.f30 [] (F7) (wB s (tY 5 nm hid op md clip pl f fi gh gp K mk)) [([],[yy s,yy s,yy s,yy s],.ret (.agg (tY 5 nm hid op md clip pl f (TW (Qx s.s4)) (.eZ (some (0,0)) 3 3 2) gp K mk)) (hL [(0,.cells (D.fU (mQ (II s.s6 s.s7 3))))]) 1)]:=G.W
abbrev u9:Prop:=V.int B (IntKind.i64.wrap ((3:Int)+IntKind.i64.wrap (Int.ofNat (BitVec.ofInt 64 s.s5&&&BitVec.ofInt 64 (3:Int)).toNat)))=F (4:Int)
theorem Yt:H (M W4 []) [(135,.dG (F 4))] 0 Tryz.f30 [] (F7) (wB s (tY 5 nm hid op md clip pl f fi gh gp K mk)) [([],[u9 s,u9 s,u9 s,u9 s,u9 s],.ret (.agg (tY 5 nm hid op md clip pl f (TW (Qx s.s4)) (.eZ (some (0,0)) 4 4 2) gp K mk)) (hL [(0,.cells (D.fU (mQ (II s.s6 s.s7 4))))]) 1)]:=G.W
abbrev sA:Prop:=V.int B (IntKind.i64.wrap ((3:Int)+IntKind.i64.wrap (Int.ofNat (BitVec.ofInt 64 s.s5&&&BitVec.ofInt 64 (3:Int)).toNat)))=F (5:Int)
theorem Yu:H (M W4 []) [(135,.dG (F 5))] 0 Tryz.f30 [] (F7) (wB s (tY 5 nm hid op md clip pl f fi gh gp K mk)) [([],[sA s,sA s,sA s,sA s,sA s,sA s],.ret (.agg (tY 5 nm hid op md clip pl f (TW (Qx s.s4)) (.eZ (some (0,0)) 5 5 2) gp K mk)) (hL [(0,.cells (D.fU (mQ (II s.s6 s.s7 5))))]) 1)]:=G.W
abbrev qp:Prop:=V.int B (IntKind.i64.wrap ((3:Int)+IntKind.i64.wrap (Int.ofNat (BitVec.ofInt 64 s.s5&&&BitVec.ofInt 64 (3:Int)).toNat)))=F (6:Int)
theorem Yv:H (M W4 []) [(135,.dG (F 6))] 0 Tryz.f30 [] (F7) (wB s (tY 5 nm hid op md clip pl f fi gh gp K mk)) [([],[qp s,qp s,qp s,qp s,qp s,qp s,qp s],.ret (.agg (tY 5 nm hid op md clip pl f (TW (Qx s.s4)) (.eZ (some (0,0)) 6 6 2) gp K mk)) (hL [(0,.cells (D.fU (mQ (II s.s6 s.s7 6))))]) 1)]:=G.W
end
theorem kU:∀(b a:Nat) (c:Code),dA a (dA b c)=dA (b+a) c
 |0,a,c=>by rw[bB];cases c<;>rfl
 |b+1,a,c=>by
  cases c with
  |seq x y=>rw[show dA (b+1) (.seq x y)=dA b y from rfl,kU b a y,show b+1+a=(b+a)+1 by omega];rfl
  |_=>rw[show b+1+a=(b+a)+1 by omega];cases a<;>rfl
section
variable(s:S8)
def G4:Int:=IntKind.i64.wrap (1+(an s.s0 65535).tmod 5)
def Qy:Nat:=3+(BitVec.ofInt 64 s.s5&&&BitVec.ofInt 64 (3:Int)).toNat
noncomputable def mb:eJ where
 id:=0
 kd:=G4 s
 nm:=Oo s.s1
 hid:=SE s.s1
 op:=if an s.s2 1=1 then opF s.s2 else 255
 md:=if an s.s3 3=1 then mdO s.s3 else 0
 clip:=SF s.s1
 pl:=if G4 s=1\/G4 s=4 then Wd s.s6 else z7
 sp:=0
 kids:=[]
 of:=0
 f:=if G4 s=3 then vU (l12 s)else tZ
 fi:=if G4 s=5 then TW (Qx s.s4)else z4
 gu:=if G4 s=5 then II s.s6 s.s7 (Qy s)else[]
 gp:=if G4 s=1 then n7 [s.s4,s.s5,s.s6,s.s7,s.s2]else[]
 K:=an s.s3 192==64
 gT:=if an s.s3 192=64 then n7 [s.s3,s.s4,s.s5]else[]
theorem AP(x:Int)(m:Nat)(h:m<=65535):0<=an x m/\an x m<=m:=by
 unfold an;have h1:(BitVec.ofInt 64 x&&&BitVec.ofInt 64 (m:Int)).toNat<=m:=by
  rw[BitVec.toNat_and];refine bH Nat.and_le_right ?_;rw[BitVec.toNat_ofInt];have:((m:Int)%((2^64:Nat):Int)).toNat=m:=by
   rw[Int.emod_eq_of_lt S S];omega
  rw[this];exact aK _
 rw[ij (by simp only[gB];omega) (by simp only[gB];omega)];simp only[gB];omega
theorem IJ(kd:Int)(pl:P7)(f:FL){s':V->I es->Nat->Prop}(pX:TG ak 0 Tryz.f30.ntmps F7 (wB s (tY kd (Oo s.s1) (SE s.s1) (if an s.s2 1=1 then opF s.s2 else 255) (if an s.s3 3=1 then mdO s.s3 else 0) (SF s.s1) pl f z4 gh [] (an s.s3 192==64) (if an s.s3 192=64 then n7 [s.s3,s.s4,s.s5]else[]))) (fV ak 0 Tryz.f30 s')):
  TG ak 0 Tryz.f30.ntmps (dA 2 xk) (wB s (tY kd [] false 255 0 false pl f z4 gh [] false [])) (fV ak 0 Tryz.f30 s'):=by
 have h7:0<=an s.s1 7/\an s.s1 7<=7:=AP s.s1 7 eX;refine fH 4 fW (ak5 s kd [] false 255 0 false pl f z4 [] false []) ?_ ?_
 . refine A ?_ (eM ?_)
   . show(0:Int)<=IntKind.i64.wrap (an s.s1 7+1)/\IntKind.i64.wrap (an s.s1 7+1)<=8;rw[ij S S];omega
   . show(0:Int)<=an s.s1 7/\an s.s1 7<=Int.ofNat (IntKind.i64.wrap (an s.s1 7+1)).toNat;rw[ij S S];simp only[gB];omega
 rw[kU];have e3:TG ak 0 Tryz.f30.ntmps (dA 7 xk) (wB s (tY kd (Oo s.s1) (SE s.s1) (if an s.s2 1=1 then opF s.s2 else 255) 0 (SF s.s1) pl f z4 gh [] false [])) (fV ak 0 Tryz.f30 s')->TG ak 0 Tryz.f30.ntmps (dA 6 xk) (wB s (tY kd (Oo s.s1) (SE s.s1) 255 0 (SF s.s1) pl f z4 gh [] false [])) (fV ak 0 Tryz.f30 s'):=fun h=>by
  refine uh 1 fW (ak6 s kd (Oo s.s1) (SE s.s1) 255 0 (SF s.s1) pl f z4 [] false []) (dJ (g1 fun h3=>⟨all_nil,_,rfl,?_⟩) (dF (g1 fun h3=>⟨all_nil,_,rfl,?_⟩)))
  all_goals
   have h3:(an s.s2 1==1)=_:=h3;simp only[cm,cr,ne_eq]at h3;rw[kU]
  . rw[aD h3]at h;exact h
  . rw[aA h3]at h;exact h
 have e4:TG ak 0 Tryz.f30.ntmps (dA 8 xk) (wB s (tY kd (Oo s.s1) (SE s.s1) (if an s.s2 1=1 then opF s.s2 else 255) (if an s.s3 3=1 then mdO s.s3 else 0) (SF s.s1) pl f z4 gh [] false [])) (fV ak 0 Tryz.f30 s')->TG ak 0 Tryz.f30.ntmps (dA 7 xk) (wB s (tY kd (Oo s.s1) (SE s.s1) (if an s.s2 1=1 then opF s.s2 else 255) 0 (SF s.s1) pl f z4 gh [] false [])) (fV ak 0 Tryz.f30 s'):=fun h=>by
  refine uh 1 fW (ak7 s kd (Oo s.s1) (SE s.s1) _ 0 (SF s.s1) pl f z4 [] false []) (dJ (g1 fun h3=>⟨all_nil,_,rfl,?_⟩) (dF (g1 fun h3=>⟨all_nil,_,rfl,?_⟩)))
  all_goals
   have h3:(an s.s3 3==1)=_:=h3;simp only[cm,cr,ne_eq]at h3;rw[kU]
  . rw[aD h3]at h;exact h
  . rw[aA h3]at h;exact h
 refine e3 (e4 (uh 1 (F4 dD (Qp [s.s3,s.s4,s.s5] (show 3<=1000000 by decide)) fW) (ak8 s kd (Oo s.s1) (SE s.s1) _ _ (SF s.s1) pl f z4 [] false [] _) (dJ (g1 fun h3=>⟨A rfl (eM rfl),_,rfl,?_⟩) (dF (g1 fun h3=>⟨all_nil,_,rfl,?_⟩)))))
 all_goals
  have h3:(an s.s3 192==64)=_:=h3;rw[h3]at pX;simp only[cm,cr,ne_eq]at h3;rw[kU]
 . rw[aD h3]at pX;exact pX
 . rw[aA h3]at pX;exact pX
theorem ak9:dV ak 30 [.agg s.cs] (mb s).v:=by
 refine mJ Tryz.func30 ?_;have h5:0<=an s.s0 65535/\an s.s0 65535<=65535:=AP s.s0 65535 eX;have K:=wA h5.1 (d:=5) eX;have U:G4 s=1+(an s.s0 65535).tmod 5:=ij S S;have qU:∀q:Int,G4 s=q->V.int B (IntKind.i64.wrap ((1:Int)+(IntKind.i64.wrap (Int.ofNat (BitVec.ofInt 64 s.s0&&&BitVec.ofInt 64 (65535:Int)).toNat)).tmod (5:Int)))=F q:=fun q e=>aI _ e;have nlA (kd op:Int) (pl:P7) (k:Int):ew ak 0 Tryz.f30.ntmps (wB s (On kd op pl k)) (wB s (tY kd [] false op 0 false pl ⟨k,0,[],0,0,[]⟩ z4 gh [] false [])):=.step (.TE 2 [15,19,22,28,30] dD);rcases(by omega:G4 s=1\/G4 s=2\/G4 s=3\/G4 s=4\/G4 s=5)with e|e|e|e|e
 . refine fH 2 fW (adz s) (eM (qU 1 e)) (nlA _ _ _ _ _ _ (IJ s 1 i7 tZ ?_));refine eR (F4 dD (Qp [s.s4,s.s5,s.s6,s.s7,s.s2] (show 5<=1000000 by decide)) sw) (adF s _ _ _ _ _ _ _ _ _ _ _ _) (dF (g0 ⟨A rfl (eM rfl),_,_,_,rfl,.self rfl ?_⟩));simp only[eJ.v,mb,e];rfl
 . refine fH 2 fW (adA s) (eM (qU 2 e)) (nlA _ _ _ _ _ _ (IJ s 2 z7 tZ ?_));refine eR sw (adG s _ _ _ _ _ _ _ _ _ _ _) (dF (g0 ⟨all_nil,_,_,_,rfl,.self rfl ?_⟩));simp only[eJ.v,mb,e];rfl
 . refine fH 2 fW (adB s) (eM (qU 3 e)) (nlA _ _ _ _ _ _ (IJ s 3 z7 ⟨6,0,[],0,0,[]⟩ ?_));refine eR (F4 dD (ady _ _ _ _ _ _ _ _ _ _ _ _) sw) (adH s _ _ _ _ _ _ _ _ _ _ _ (vU (l12 s))) (dF (g0 ⟨?_,_,_,_,rfl,.self rfl ?_⟩))
   . repeat' (first|exact all_nil|refine A ?_ ?_)
     all_goals first|decide|rfl
   simp only[eJ.v,mb,e];rfl
 . refine fH 2 fW (adC s) (eM (qU 4 e)) (nlA _ _ _ _ _ _ (IJ s 4 i7 tZ ?_));refine eR sw (adI s _ _ _ _ _ _ _ _ _ _ _) (dF (g0 ⟨all_nil,_,_,_,rfl,.self rfl ?_⟩));simp only[eJ.v,mb,e];rfl
 . refine fH 2 fW (adE s) (eM (qU 5 e)) (nlA _ _ _ _ _ _ (IJ s 5 z7 tZ ?_));have N:Qy s=3\/Qy s=4\/Qy s=5\/Qy s=6:=by
    unfold Qy;have:(BitVec.ofInt 64 s.s5&&&BitVec.ofInt 64 (3:Int)).toNat<=3:=by
     rw[BitVec.toNat_and];exact Nat.and_le_right
    omega
   have OQ:∀q:Nat,Qy s=q->V.int B (IntKind.i64.wrap ((3:Int)+IntKind.i64.wrap (Int.ofNat (BitVec.ofInt 64 s.s5&&&BitVec.ofInt 64 (3:Int)).toNat)))=F (Int.ofNat q):=fun q hq=>by
    unfold Qy at hq N;generalize (BitVec.ofInt 64 s.s5&&&BitVec.ofInt 64 (3:Int)).toNat=m at hq N;rw[ij (x:=Int.ofNat m) (by simp only[gB];omega) (by simp only[gB];omega),ij (by simp only[gB];omega) (by simp only[gB];omega),<- hq];simp only[gB];congr 1
   have pX:∀(c:Nat) (nm:aa) (hid:Bool) (op md:Int) (clip:Bool) (K:Bool) (mk:List Tl),(mQ (II s.s6 s.s7 c)).length=c*2->XO [0] (.agg (tY 5 nm hid op md clip z7 tZ (TW (Qx s.s4)) (.eZ (some (0,0)) c c 2) [] K mk)) (hL [(0,.cells (D.fU (mQ (II s.s6 s.s7 c))))]) 1=some ([(mQ (II s.s6 s.s7 c)).length=c*2],.agg (tY 5 nm hid op md clip z7 tZ (TW (Qx s.s4)) (.eE false c (mQ (II s.s6 s.s7 c))) [] K mk))->nm=(mb s).nm->hid=(mb s).hid->op=(mb s).op->md=(mb s).md->clip=(mb s).clip->K=(mb s).K->mk=(mb s).gT->Qy s=c->
     rE (mb s).v (.agg (tY 5 nm hid op md clip z7 tZ (TW (Qx s.s4)) (.eZ (some (0,0)) c c 2) [] K mk)) (hL [(0,.cells (D.fU (mQ (II s.s6 s.s7 c))))]) 1:=by
    intro c nm hid op md clip K mk hl hf e1 e2 e3 e4 e5 e6 e7 N;refine .Bi [0] hf (eM hl) rfl ?_;subst e1 e2 e3 e4 e5 e6 e7;have e8:(mb s).gu=II s.s6 s.s7 c:=by simp only[mb,e,if_true,N]
    have e9:(mb s).v= .agg (tY 5 (mb s).nm (mb s).hid (mb s).op (mb s).md (mb s).clip z7 tZ (TW (Qx s.s4)) (vV (mb s).gu) [] (mb s).K (mb s).gT):=by
     simp only[eJ.v,mb,e];rfl
    rw[e9,e8];have:(II s.s6 s.s7 c).length=c:=by simp[II]
    rw[show vV (II s.s6 s.s7 c)= .eE false c (mQ (II s.s6 s.s7 c))by unfold vV;rw[this]];rfl
   rcases N with q|q|q|q
   . refine eR sw (Ys s _ _ _ _ _ _ _ _ _ _ _) (dF (g0 ⟨?_,_,_,_,rfl,pX 3 _ _ _ _ _ _ _ rfl dD rfl rfl rfl rfl rfl rfl rfl q⟩))
     repeat' (first|exact all_nil|exact OQ 3 q|refine A ?_ ?_)
   . refine eR sw (Yt s _ _ _ _ _ _ _ _ _ _ _) (dF (g0 ⟨?_,_,_,_,rfl,pX 4 _ _ _ _ _ _ _ rfl dD rfl rfl rfl rfl rfl rfl rfl q⟩))
     repeat' (first|exact all_nil|exact OQ 4 q|refine A ?_ ?_)
   . refine eR sw (Yu s _ _ _ _ _ _ _ _ _ _ _) (dF (g0 ⟨?_,_,_,_,rfl,pX 5 _ _ _ _ _ _ _ rfl dD rfl rfl rfl rfl rfl rfl rfl q⟩))
     repeat' (first|exact all_nil|exact OQ 5 q|refine A ?_ ?_)
   . refine eR sw (Yv s _ _ _ _ _ _ _ _ _ _ _) (dF (g0 ⟨?_,_,_,_,rfl,pX 6 _ _ _ _ _ _ _ rfl dD rfl rfl rfl rfl rfl rfl rfl q⟩))
     repeat' (first|exact all_nil|exact OQ 6 q|refine A ?_ ?_)
end
open Go.Shelf Go.RowKit
end Go.Proofs.YtmjggdmekboefaaGreat
