/- The Doc laws: the program is one that the engine runs. No conditions. -/
import Derived.Test.YtmjggdmekboefaaGreatProg
import Derived.Test.YtmjggdmekboefaaGreatJointW04
import Derived.Shelf.Strings.Builder1
set_option linter.unusedVariables false
set_option linter.unusedSimpArgs false
set_option linter.unusedSectionVars false
namespace Go.Proofs.YtmjggdmekboefaaGreat
open Go Go.Eng
noncomputable abbrev ak:=Tryz.prog
theorem po:jC ak=true:=by kernel_rfl
theorem mo:Tryz.prog.follows .mixedOrders=true:=by kernel_rfl
noncomputable def dG(f:Func):Code:=match f.body with|some c=>c|none=>.skip
def OM(l:List (Nat×List (Nat×lI)))(f:FuncId):List (Nat×lI):=match l with
 | []=>[]
 |x::r=>match Nat.beq x.1 f with
  |true=>x.2
  |false=>OM r f
abbrev H0:FuncId->List (Nat×lI):=fun _=>[]
noncomputable abbrev U(hL:gy)(l:List (Nat×List (Nat×lI))):jY:=D3 ak hL (OM l) 1000 40
noncomputable abbrev XH{hL:gy}(h:eR ak hL)(l:List (Nat×List (Nat×lI))):CX ak:=CX.of mo po h (OM l) 1000 40
theorem gT:∀n:Nat,Int.ofNat n=(n:Int):=fun _=>rfl
abbrev M(n:Nat):V:=.int .i64 (Int.ofNat n)
abbrev L(n:Int):V:=.int .i64 n
section
variable{N n0:Nat}{c:Code}{s:St}{h1:Exit->St->Prop}{hL:gy}{hh:List (Nat×List (Nat×lI))}{hx:List (Nat×lI)}{fn:Func}{live:List Nat}{di:List (List (Bool×Bool)×ah×jD)}
abbrev dn(T:jY)(hx:List (Nat×lI))(N:Nat)(fn:Func)(live:List Nat)(c:Code)(s:St)(di:List (List (Bool×Bool)×ah×jD)):Prop:=∃iX,dh ak T hx 1000 N fn live c s iX di
theorem gz(es:eR ak hL)(h2:V->I O->Nat->Prop)(hr:dn (U hL hh) hx N fn live c s di)(h:∀g∈di,(∀b∈g.1,b.1=b.2)->(∀a∈g.2.1,a)/\g.2.2.post ak N fn live h2 h1)(K:eJ n0 c=true:=by kernel_rfl):TG ak N n0 c s h1:=
 hr.elim fun _ hr=>Uv (XH es hh) mo h2 K hr h
theorem fu(k:Nat)(es:eR ak hL){s':ah}{s1:St}(hr:dn (U hL hh) hx N fn live (dN k c) s [([],s',.to .normal s1)])(hA:∀a∈s',a)(h:TG ak N n0 (dm k c) s1 h1)(K:eJ n0 c=true:=by kernel_rfl):TG ak N n0 c s h1:=
 hr.elim fun _ hr=>R7 k (XH es hh) mo K hr hA h
theorem tO(k:Nat)(es:eR ak hL)(hr:dn (U hL hh) hx N fn live (dN k c) s di)(h:∀g∈di,(∀b∈g.1,b.1=b.2)->(∀a∈g.2.1,a)/\∃s1,g.2.2= .to .normal s1/\TG ak N n0 (dm k c) s1 h1)(K:eJ n0 c=true:=by kernel_rfl):TG ak N n0 c s h1:=
 hr.elim fun _ hr=>Om k (XH es hh) mo K hr h
def HdF(P:Program)(N n0:Nat)(fn:Func)(h2:V->I O->Nat->Prop)(rest:Code):jD->Prop
 | .to .normal s=>TG P N n0 rest s (fD P N fn h2)
 | .ret v h n=>h2 v h n
 |_=>False
theorem zn{P:Program}{cf:fL}{fr:Nat}:∀(k:Nat) (c:Code) (s:St) (x:es) (s1:St),gv P cf fr (dN k c) s=some (x,s1)->x≠ .normal->gv P cf fr c s=some (x,s1):=by
 intro k;have skip:∀{s:St} {x:es} {s1:St} {r:Prop},gv P cf fr .skip s=some (x,s1)->x≠ .normal->r:=by
  intro s x s1 r e H;simp only[gv,aq,aF]at e;exact absurd e.1.symm H
 induction k with
 |zero=>intro c s x s1 e H;cases c<;>exact skip e H
 |succ k ih=>
  intro c s x s1 e H;cases c<;>first|exact skip e H|skip
  rename_i a b;simp only[dN,gv]at e ⊢;cases Q:gv P cf fr a s with
  |none=>rw[Q]at e;cases e
  |some p=>
   rw[Q]at e;obtain⟨y,A⟩:=p;cases y with
   |normal=>exact ih b A x s1 e H
   |_=>exact e
theorem isH(k:Nat){h2:V->I O->Nat->Prop}(es:eR ak hL)(hr:dn (U hL hh) hx N fn live (dN k c) s di)(h:∀g∈di,(∀b∈g.1,b.1=b.2)->(∀a∈g.2.1,a)/\HdF ak N n0 fn h2 (dm k c) g.2.2)(K:eJ n0 c=true:=by kernel_rfl):TG ak N n0 c s (fD ak N fn h2):=by
 obtain⟨iX,hr⟩:=hr;obtain⟨e1,e2,e3⟩:=hr.parts;obtain⟨l,hl⟩:=bA.1 e1;unfold uG wF at e2;unfold Ci at e3;rw[hl]at e2 e3;simp only[tE]at e2 e3;obtain⟨⟨p,hp,ho⟩,R⟩:=jZ ak (XH es hh).T (XH es hh).cf hx (XH es hh).snd 1000 (dN k c) s l hl;obtain⟨hA,hT⟩:=h (p.1.conds,p.1.M4,nr ak N fn live p.2) (e3▸my hp) ho;have gi:=R p hp ho ⟨qt l e2 p hp,hA⟩;obtain⟨pp,x,A⟩:=p;simp only[nr]at hT;cases x with
 |normal=>
  simp only at hT;split at hT
  . rename_i s2 qV;exact xW (fr:=1000) (XH es hh).ok mo k K gi (fU qV hT)
  . exact hT.elim
 |ret=>
  simp only at hT;split at hT
  . rename_i v h' n' IN;exact qv (fr:=1000) (XH es hh).ok mo K (zn k c s _ A gi (by intro q;cases q)) rfl ⟨.inr rfl,v,h',n',IN,hT⟩
  . exact hT.elim
 |exit i=>
  simp only at hT;split at hT<;>exact hT.elim
 |panic _=>exact hT.elim
theorem eI{h2:V->I O->Nat->Prop}(es:eR ak hL)(hr:dn (U hL hh) hx N fn live c s di)(h:∀g∈di,(∀b∈g.1,b.1=b.2)->(∀a∈g.2.1,a)/\∃v h n,g.2.2= .ret v h n/\h2 v h n)(K:eJ n0 c=true:=by kernel_rfl):TG ak N n0 c s (fD ak N fn h2):=
 hr.elim fun _ hr=>VO (XH es hh) mo h2 K hr h
end
theorem all_nil:∀a∈([]:ah),a:=fun _ h=>absurd h aI
section
variable{i:Nat}{x:Int}{n:Nat}
theorem gW{h1:Exit->St->Prop}{s:St}:gw i h1 (.exit i) s=h1 .normal s:=by simp[gw]
theorem ik(Q:-9000000000000000000<=x)(R:x<=9000000000000000000):IntKind.i64.wrap x=x:=by
 unfold IntKind.wrap;have e1:(2^IntKind.i64.bits:Int)=18446744073709551616:=by decide
 have e2:(2^(IntKind.i64.bits-1):Int)=9223372036854775808:=by decide
 have e3:IntKind.i64.signed=true:=rfl;simp only[e1,e2,e3,aN,aX];split<;>omega
abbrev ieq(x:Int)(n:Nat):Prop:=V.int .i64 (IntKind.i64.wrap x)=V.int .i64 (Int.ofNat n)
theorem wH(h:x=(n:Int))(hb:n<1000000000000):ieq x n:=by
 unfold ieq;rw[ik G G,h];rfl
theorem gJ(h:i<100000000000):ieq (Int.ofNat i+1) (i+1):=wH rfl G
theorem ko(h:decide (Int.ofNat i<Int.ofNat n)=true):i<n:=cg.1 (aW h)
theorem tF(h:decide (Int.ofNat i<Int.ofNat n)=false):n<=i:=by have:=bx h;simp only[gT]at this;omega
theorem iM(h:i<n):(0:Int)<=Int.ofNat i/\Int.ofNat i<Int.ofNat n:=⟨bS _,cg.2 h⟩
end
abbrev eY(a:ag):Prop:=a=a
section
abbrev GP:=List (Bool×Bool)×ah×jD
variable{P:GP->Prop}{p:GP}{l:List GP}{q:Prop}{a b c d e f:Bool}
theorem gB:∀g∈([]:List GP),(∀b∈g.1,b.1=b.2)->P g:=fun _ h=>absurd h aI
theorem dz(h:(∀b∈p.1,b.1=b.2)->P p)(t:∀g∈l,(∀b∈g.1,b.1=b.2)->P g):∀g∈p::l,(∀b∈g.1,b.1=b.2)->P g:=List.forall_mem_cons.2 ⟨h,t⟩
theorem dA(h:(∀b∈p.1,b.1=b.2)->P p):∀g∈[p],(∀b∈g.1,b.1=b.2)->P g:=dz h gB
theorem g0(h:q):(∀b∈([]:List (Bool×Bool)),b.1=b.2)->q:=fun _=>h
theorem gc{l:List (Bool×Bool)}(h:a=b->(∀z∈l,z.1=z.2)->q):(∀z∈(a,b)::l,z.1=z.2)->q:=fun t=>h (t _ (bz ..)) fun z hz=>t z (bj _ hz)
theorem g1(h:a=b->q):(∀z∈[(a,b)],z.1=z.2)->q:=fun t=>h (t _ (aG.2 rfl))
theorem g2(h:a=b->c=d->q):(∀z∈[(a,b),(c,d)],z.1=z.2)->q:=fun t=>h (t _ (bz ..)) (t (c,d) (by simp))
theorem g3(h:a=b->c=d->e=f->q):(∀z∈[(a,b),(c,d),(e,f)],z.1=z.2)->q:=fun t=>h (t _ (bz ..)) (t (c,d) (by simp)) (t (e,f) (by simp))
end
section
variable{P:Program}{N n0:Nat}{c:Code}{s:St}{h1:Exit->St->Prop}{fn:Func}{α:Type}
def LpQ(P:Program)(N n0:Nat)(fn:Func)(live:List Nat)(h2:V->I O->Nat->Prop)(b:Nat)(h1:Exit->St->Prop)(μ:α->Nat)(Tr:α->Prop)(hm:α->St)(x:α):jD->Prop
 | .to .normal s=>∃x',μ x'<μ x/\Tr x'/\dZ P N n0 s (hm x')
 | .to (.exit j) s=>∀A,kW N live A=some s->gw b h1 (.exit j) A
 | .to y s=>∀A,kW N live A=some s->h1 y A
 | .ret v h n=>h2 v h n/\∀A,fD P N fn h2 .ret A->h1 .ret A
 | .bad=>False
theorem Eb(b:Nat)(h2:V->I O->Nat->Prop)(live:List Nat)(μ:α->Nat)(Tr:α->Prop)(hm:α->St)(x0:α)(i0:Tr x0)(h0:dZ ak N n0 s (hm x0))
  (hb:∀x,Tr x->∃(hL:gy) (_:eR ak hL) (hh:_) (hx:_) (di:_),dn (U hL hh) hx N fn live (dD (dD c)) (hm x) di/\∀g∈di,(∀b∈g.1,b.1=b.2)->(∀a∈g.2.1,a)/\LpQ ak N n0 fn live h2 b h1 μ Tr hm x g.2.2)
  (hs:(mY c b&&(oz (dD c)&&eJ n0 (dD (dD c))))=true:=by kernel_rfl):TG ak N n0 c s h1:=by
 simp only[ay]at hs;refine zl b μ Tr hm hs.1 hs.2.1 x0 i0 h0 fun x H=>?_;obtain⟨hL,es,hh,hx,di,hr,hg⟩:=hb x H;refine gz es h2 hr (fun g Sl hcd=>?_) hs.2.2;obtain⟨hA,hp⟩:=hg g Sl hcd;refine⟨hA,?_⟩;obtain⟨_,_,r⟩:=g;simp only at hp ⊢;cases r with
 |to y s1=>
  cases y with
  |normal=>
   obtain⟨x',Q,R,h3⟩:=hp;exact fun A dU=>⟨x',Q,R,(dZ.norm dU).trans h3⟩
  |exit j=>exact hp
  |_=>exact hp
 |ret v h n=>exact hp
 |bad=>exact hp.elim
def LpF(P:Program)(N n0:Nat)(fn:Func)(h2:V->I O->Nat->Prop)(b:Nat)(rest:Code)(μ:α->Nat)(Tr:α->Prop)(hm:α->St)(x:α):jD->Prop
 | .to .normal s=>∃x',μ x'<μ x/\Tr x'/\dZ P N n0 s (hm x')
 | .to (.exit j) s=>j=b/\TG P N n0 rest s (fD P N fn h2)
 | .ret v h n=>h2 v h n
 |_=>False
theorem aaT(b:Nat)(h2:V->I O->Nat->Prop)(live:List Nat)(μ:α->Nat)(Tr:α->Prop)(hm:α->St)(x0:α)(i0:Tr x0)(h0:dZ ak N n0 s (hm x0))
  (hb:∀x,Tr x->∃(hL:gy) (_:eR ak hL) (hh:_) (hx:_) (di:_),dn (U hL hh) hx N fn live (dD (dD (dB c))) (hm x) di/\∀g∈di,(∀b∈g.1,b.1=b.2)->(∀a∈g.2.1,a)/\LpF ak N n0 fn h2 b (dP c) μ Tr hm x g.2.2)
  (hs:(rK c&&(mY (dB c) b&&(oz (dD (dB c))&&eJ n0 (dD (dD (dB c))))))=true:=by kernel_rfl):TG ak N n0 c s (fD ak N fn h2):=by
 simp only[ay]at hs;refine dI hs.1 (Eb (fn:=fn) b h2 live μ Tr hm x0 i0 h0 (fun x H=>?_) (by simp only[ay];exact hs.2));obtain⟨hL,es,hh,hx,di,hr,hg⟩:=hb x H;refine⟨hL,es,hh,hx,di,hr,fun g Sl hcd=>?_⟩;obtain⟨hA,hp⟩:=hg g Sl hcd;refine⟨hA,?_⟩;obtain⟨_,_,r⟩:=g;simp only at hp ⊢;cases r with
 |to y s1=>
  cases y with
  |normal=>exact hp
  |exit j=>
   obtain⟨rfl,h⟩:=hp;exact fun A dU=>by rw[gW];exact fU dU h
  |_=>exact hp.elim
 |ret v h n=>exact⟨hp,fun A h=>h⟩
 |bad=>exact hp.elim
theorem pZ{hL:gy}(es:eR ak hL)(b:Nat)(h2:V->I O->Nat->Prop)(live:List Nat)(μ:α->Nat)(Tr:α->Prop)(hm:α->St)(x0:α)(i0:Tr x0)
  {h0h:List (Nat×List (Nat×lI))} {H0:List (Nat×lI)} {s':ah} {s0:St} (UA:dn (U hL h0h) H0 N fn live (dB (dB c)) s [([],s',.to .normal s0)]) (hA:∀a∈s',a) (h0:dZ ak N n0 s0 (hm x0))
  (hb:∀x,Tr x->∃(hL:gy) (_:eR ak hL) (hh:_) (hx:_) (di:_),dn (U hL hh) hx N fn live (dD (dD (dP (dB c)))) (hm x) di/\∀g∈di,(∀b∈g.1,b.1=b.2)->(∀a∈g.2.1,a)/\LpF ak N n0 fn h2 b (dP c) μ Tr hm x g.2.2)
  (hs:((rK c&&rK (dB c))&&(eJ n0 (dB (dB c))&&(mY (dP (dB c)) b&&(oz (dD (dP (dB c)))&&eJ n0 (dD (dD (dP (dB c))))))))=true:=by kernel_rfl):TG ak N n0 c s (fD ak N fn h2):=by
 simp only[ay]at hs;refine dI hs.1.1 (dI hs.1.2 (gz es eH UA (dA (g0 ⟨hA,fun A dU=>?_⟩)) hs.2.1));simp only[andThen];refine Eb (fn:=fn) b h2 live μ Tr hm x0 i0 ((dZ.norm dU).trans h0) (fun x H=>?_) (by simp only[ay];exact hs.2.2);obtain⟨hL,es,hh,hx,di,hr,hg⟩:=hb x H;refine⟨hL,es,hh,hx,di,hr,fun g Sl hcd=>?_⟩;obtain⟨hA,hp⟩:=hg g Sl hcd;refine⟨hA,?_⟩;obtain⟨_,_,r⟩:=g;simp only at hp ⊢;cases r with
 |to y s1=>
  cases y with
  |normal=>exact hp
  |exit j=>
   obtain⟨rfl,h⟩:=hp;exact fun A dU=>by rw[gW];exact fU dU h
  |_=>exact hp.elim
 |ret v h n=>exact⟨hp,fun A h=>h⟩
 |bad=>exact hp.elim
end
noncomputable abbrev aaV:Code:=dG Tryz.f61
noncomputable abbrev V7:Code:=dG Tryz.f59
section
variable(x u:Int)(ks:List Int)
noncomputable abbrev Sm:Code:=dm 3 V7
def sV0:St:=ff [(3,.eS none 0 0 0),(4,.int .u64 u)] (W []) 0
def sV1(u:Int):St:=ff [(3,.eS (some (0,0)) ks.length ks.length 1),(4,.int .u64 u)] (W [(0,.own .u8 ks)]) 1
theorem agP:dn (U dY []) [] 0 Tryz.f61 [] (aaV) (dw [.int .i64 x,.int .i64 1] .nil 0) [([],
   [((0:Int)<=(0:Int)/\(0:Int)<(8:Int)),((0:Int)<=(1:Int)/\(1:Int)<(8:Int)),((0:Int)<=(2:Int)/\(2:Int)<(8:Int)),((0:Int)<=(3:Int)/\(3:Int)<(8:Int)),((0:Int)<=(4:Int)/\(4:Int)<(8:Int)),((0:Int)<=(5:Int)/\(5:Int)<(8:Int)),((0:Int)<=(6:Int)/\(6:Int)<(8:Int)),((0:Int)<=(7:Int)/\(7:Int)<(8:Int))],
   .ret (.str ([UInt8.ofNat (IntKind.u8.wrap ((IntKind.u64.wrap x).fdiv (1:Int))).toNat])) (W []) 0)]
 :=dh.of C C C
theorem agQ:dn (U dY []) [] 0 Tryz.f61 [] (aaV) (dw [.int .i64 x,.int .i64 4] .nil 0) [([],
   [((0:Int)<=(0:Int)/\(0:Int)<(8:Int)),((0:Int)<=(1:Int)/\(1:Int)<(8:Int)),((0:Int)<=(2:Int)/\(2:Int)<(8:Int)),((0:Int)<=(3:Int)/\(3:Int)<(8:Int)),((0:Int)<=(4:Int)/\(4:Int)<(8:Int)),((0:Int)<=(5:Int)/\(5:Int)<(8:Int)),((0:Int)<=(6:Int)/\(6:Int)<(8:Int)),((0:Int)<=(7:Int)/\(7:Int)<(8:Int))],
   .ret (.str ([UInt8.ofNat (IntKind.u8.wrap ((IntKind.u64.wrap x).fdiv (16777216:Int))).toNat,UInt8.ofNat (IntKind.u8.wrap ((IntKind.u64.wrap x).fdiv (65536:Int))).toNat,UInt8.ofNat (IntKind.u8.wrap ((IntKind.u64.wrap x).fdiv (256:Int))).toNat,UInt8.ofNat (IntKind.u8.wrap ((IntKind.u64.wrap x).fdiv (1:Int))).toNat])) (W []) 0)]
 :=dh.of C C C
theorem agR(n:Int):dn (U dY []) [] 0 Tryz.f59 [3,4] (dN 3 V7) (dw [.int .i64 n] .nil 0) [([],
   [],
   .to .normal (sV0 (IntKind.u64.wrap n)))]
 :=dh.of C C C
theorem agS:dn (U dY []) [(8,.split)] 0 Tryz.f59 [3,4] (dD (dD (dB Sm))) (sV0 u) [([((decide (u>=(128:Int))),true)],
   [],
   .to .normal (ff [(3,.eS (some (0,0)) 1 1 1),(4,.int .u64 (u.fdiv (128:Int)))] (W [(0,.cells [.int .u8 (IntKind.u8.wrap (Int.ofNat (BitVec.ofInt 8 (IntKind.u8.wrap u)|||BitVec.ofInt 8 (128:Int)).toNat))])]) 1)),
  ([((decide (u>=(128:Int))),false)],
   [],
   .to (.exit 0) (ff [(3,.eS none 0 0 0),(4,.int .u64 u)] (W []) 0))]
 :=dh.of C C C
theorem agT:dn (U dY []) [(8,.split)] 0 Tryz.f59 [3,4] (dD (dD (dB Sm))) (sV1 ks u) [([((decide (u>=(128:Int))),true)],
   [(0<ks.length),(0+ks.length*1<=ks.length),(0<1),(fo (ks.length+1) 1 1=true)],
   .to .normal (ff [(3,.eS (some (0,0)) (ks.length+1) (ks.length+1) 1),(4,.int .u64 (u.fdiv (128:Int)))] (W [(0,.own .u8 (List.take (ks.length*1) (List.drop 0 ks)++[IntKind.u8.wrap (Int.ofNat (BitVec.ofInt 8 (IntKind.u8.wrap u)|||BitVec.ofInt 8 (128:Int)).toNat)]))]) 1)),
  ([((decide (u>=(128:Int))),false)],
   [],
   .to (.exit 0) (ff [(3,.eS (some (0,0)) (ks.length) (ks.length) 1),(4,.int .u64 u)] (W [(0,.own .u8 ks)]) 1))]
 :=dh.of C C C
theorem agU:dn (U dY []) [] 0 Tryz.f59 [] (dP Sm) (sV0 u) [([],
   [],
   .ret (.str ([UInt8.ofNat (IntKind.u8.wrap u).toNat])) (W []) 0)]
 :=dh.of C C C
theorem agV:dn (U dY []) [] 0 Tryz.f59 [] (dP Sm) (sV1 ks u) [([],
   [(0<ks.length),(0+ks.length*1<=ks.length),(0<1),(fo (ks.length+1) 1 1=true),(0+(ks.length+1)<=(List.take (ks.length*1) (List.drop 0 ks)++[IntKind.u8.wrap u]).length)],
   .ret (.str (ir (List.take (ks.length+1) (List.drop 0 (List.take (ks.length*1) (List.drop 0 ks)++[IntKind.u8.wrap u]))))) (W []) 0)]
 :=dh.of C C C
end
section
variable(x u:Int)
def pB(d:Int):UInt8:=UInt8.ofNat (IntKind.u8.wrap ((IntKind.u64.wrap x).fdiv d)).toNat
def agW:aa:=[pB x 16777216,pB x 65536,pB x 256,pB x 1]
def Ct:aa:=[pB x 1]
def Jp:ag->Option (ah×V)
 | [.int .i64 x,.int .i64 k]=>match k with
   | .ofNat 4=>some ([],.str (agW x))
   | .ofNat 1=>some ([],.str (Ct x))
   |_=>none
 |_=>none
theorem og{f:FuncId}{fn:Func}{spec:ag->Option (ah×V)}(hf:Tryz.prog.funcs[f]? =some fn)
  (h:∀args s' v,spec args=some (s',v)->V.tD args=true/\v.free=true/\(Nat.ble args.length fn.ntmps&&Nat.blt fn.ntmps fV)=true/\((∀a∈s',a)->TG ak gN fn.ntmps (dG fn) (dw args .nil gN) (fD ak gN fn fun u _ _=>u=v)))
  (hb:fn.body=some (dG fn):=by kernel_rfl) (eM:Nat.blt f Tryz.prog.funcs.size=true:=by kernel_rfl):kE ak f (gS spec):=
 On (az eM) fun args s' v e=>by
  obtain⟨Q,R,h3,h4⟩:=h args s' v e;exact⟨Q,R,fun hA=>Jl mo po hf hb h3 Q (h4 hA)⟩
theorem sm{α β:Type}{a c:α}{b d:β}(h:some (a,b)=some (c,d)):a=c/\b=d:=Prod.mk.inj (de h)
abbrev b8:ah:=[(0:Int)<=0/\(0:Int)<8,(0:Int)<=1/\(1:Int)<8,(0:Int)<=2/\(2:Int)<8,(0:Int)<=3/\(3:Int)<8,(0:Int)<=4/\(4:Int)<8,(0:Int)<=5/\(5:Int)<8,(0:Int)<=6/\(6:Int)<8,(0:Int)<=7/\(7:Int)<8]
theorem UB:∀p∈b8,p:=by
 intro p hp;simp only[aD,aI,bh]at hp;rcases hp with rfl|rfl|rfl|rfl|rfl|rfl|rfl|rfl<;>decide
theorem p128:(128:Int)^(9+1)=1180591620717411303424:=by rfl
theorem V8:kE ak 61 (gS Jp):=by
 refine og Tryz.func61 fun args s' v e=>?_;unfold Jp at e;split at e
 case h_2=>cases e
 split at e
 case h_3=>cases e
 all_goals
  obtain⟨rfl,rfl⟩:=sm e;refine⟨rfl,rfl,rfl,fun _=>?_⟩
 . exact eI (dg _) (agQ _) (dA (g0 ⟨UB,_,_,_,rfl,rfl⟩))
 . exact eI (dg _) (agP _) (dA (g0 ⟨UB,_,_,_,rfl,rfl⟩))
def M6:Int:=IntKind.u8.wrap (Int.ofNat (BitVec.ofInt 8 (IntKind.u8.wrap u)|||BitVec.ofInt 8 (128:Int)).toNat)
def Zn:Int:=IntKind.u8.wrap u
end
def zo:Nat->Int->List Int
 |0,u=>[Zn u]
 |k+1,u=>if 128<=u then M6 u::zo k (u.fdiv 128)else[Zn u]
def dK(n:Int):aa:=ir (zo 9 (IntKind.u64.wrap n))
theorem Hw{k:Nat}{u:Int}(h:¬128<=u):zo k u=[Zn u]:=by
 cases k with
 |zero=>rfl
 |succ k=>show(if 128<=u then _ else _)=_;rw[aB h]
theorem Hx:∀(k:Nat) (u:Int),0<(zo k u).length/\(zo k u).length<=k+1
 |0,u=>by simp[zo]
 |k+1,u=>by
  have:=Hx k (u.fdiv 128);show 0<(if 128<=u then _ else _:List Int).length/\(if 128<=u then _ else _:List Int).length<=_;split
  . simp only[aR];omega
  . simp only[aR,bU];omega
theorem gj(n:Int):0<(dK n).length/\(dK n).length<=10:=by
 have:=Hx 9 (IntKind.u64.wrap n);unfold dK ir;rw[bI];exact this
theorem ON(n:Int):0<=IntKind.u64.wrap n/\IntKind.u64.wrap n<18446744073709551616:=by
 unfold IntKind.wrap;have e1:(2^IntKind.u64.bits:Int)=18446744073709551616:=by decide
 have e3:IntKind.u64.signed=false:=rfl;simp only[e1,e3,aP,aM,cr];omega
theorem kZ{k:Nat}(h:k<=100000000000):fo k 1 1=true:=by
 unfold fo;exact aY ⟨G,G⟩
def SVa(x:Nat×List Int×Int):St:=match x.2.1 with
 | []=>sV0 x.2.2
 |k::r=>sV1 (k::r) x.2.2
theorem agX(n:Int):TG ak 0 Tryz.f59.ntmps V7 (dw [.int .i64 n] .nil 0) (fD ak 0 Tryz.f59 fun u _ _=>u= .str (dK n)):=by
 have hu:=ON n;refine fu 3 (dg _) (agR n) all_nil ?_;refine aaT (α:=Nat×List Int×Int) 0 _ [3,4] (·.1) (fun x=>0<=x.2.2/\x.2.2<128^(x.1+1)/\x.2.1.length+x.1<=10/\x.2.1++zo x.1 x.2.2=zo 9 (IntKind.u64.wrap n)) SVa (9,[],IntKind.u64.wrap n) ⟨hu.1,by show IntKind.u64.wrap n<(128:Int)^(9+1);rw[p128];omega,show 0+9<=10 by decide,rfl⟩ .refl ?_;rintro⟨k,ks,u⟩ ⟨h0,Y,hl,hv⟩;simp only at h0 Y hl hv;have KV:128<=u->∃j,k=j+1/\0<=u.fdiv 128/\u.fdiv 128<128^(j+1)/\(ks++[M6 u])++zo j (u.fdiv 128)=zo 9 (IntKind.u64.wrap n):=fun h=>by
  cases k with
  |zero=>simp at Y;omega
  |succ j=>
   have ed:u.fdiv 128=u/128:=Int.fdiv_eq_ediv_of_nonneg _ fa;refine⟨j,rfl,by rw[ed];omega,?_,?_⟩
   . rw[ed];have:(128:Int)^(j+1+1)=128^(j+1)*128:=Int.pow_succ ..;rw[this]at Y;exact Int.ediv_lt_of_lt_mul fa Y
   . rw[<- hv];show _=ks++(if 128<=u then _ else _);rw[aE h];simp
 have AJ:¬128<=u->ks++[Zn u]=zo 9 (IntKind.u64.wrap n):=fun h=>by rw[<- hv,Hw h]
 cases ks with
 |nil=>
  refine⟨_,(dg _),[],_,_,agS u,dz (g1 fun h=>⟨all_nil,?_⟩) (dA (g1 fun h=>⟨all_nil,rfl,?_⟩))⟩
  . obtain⟨j,rfl,a1,a2,a3⟩:=KV (aW h);exact⟨(j,[M6 u],u.fdiv 128),Nat.lt_succ_self j,⟨a1,a2,by simp at hl ⊢;omega,a3⟩,.own [(0,.u8)] C⟩
  . refine eI (dg _) (agU u) (dA (g0 ⟨all_nil,_,_,_,rfl,?_⟩));unfold dK;rw[<- AJ (bx h)];rfl
 |cons x r=>
  have xA:0<(x::r).length:=by simp
  have Rf:(x::r).length<=10:=by omega
  have e0:List.take ((x::r).length*1) (List.drop 0 (x::r))=x::r:=by rw[ct,cS,bD]
  have s':=J xA (J (show 0+(x::r).length*1<=(x::r).length by omega) (J (show 0<1 by decide) (eC (kZ (k:=(x::r).length+1) G))));have h3:=agT u (x::r);have h5:=agV u (x::r);rw[e0]at h3 h5;refine⟨_,(dg _),[],_,_,h3,dz (g1 fun h=>⟨s',?_⟩) (dA (g1 fun h=>⟨all_nil,rfl,?_⟩))⟩
  . obtain⟨j,rfl,a1,a2,a3⟩:=KV (aW h);refine⟨(j,(x::r)++[M6 u],u.fdiv 128),Nat.lt_succ_self j,⟨a1,a2,by rw[aJ];simp at hl ⊢;omega,a3⟩,?_⟩;have:SVa (j,(x::r)++[M6 u],u.fdiv 128)=ff [(3,.eS (some (0,0)) ((x::r).length+1) ((x::r).length+1) 1),(4,.int .u64 (u.fdiv (128:Int)))] (W [(0,.own .u8 ((x::r)++[M6 u]))]) 1:=by
     show sV1 ((x::r)++[M6 u]) _=_;unfold sV1;rw[aJ];rfl
    rw[this];exact .refl
  . have he:=AJ (bx h);have e1:(x::r++[IntKind.u8.wrap u]).length=(x::r).length+1:=by rw[aJ];rfl
    refine eI (dg _) h5 (dA (g0 ⟨J xA (J (show 0+(x::r).length*1<=(x::r).length by omega) (J fa (J (kZ G) (eC (by rw[e1];omega))))),_,_,_,rfl,?_⟩));unfold dK;rw[<- he,ct,<- e1,bD];rfl
def Jq:ag->Option (ah×V)
 | [.int .i64 n]=>some ([],.str (dK n))
 |_=>none
theorem V9:kE ak 59 (gS Jq):=by
 refine og Tryz.func59 fun args s' v e=>?_;unfold Jq at e;split at e
 case h_2=>cases e
 obtain⟨rfl,rfl⟩:=sm e;exact⟨rfl,rfl,rfl,fun _=>agX _⟩
noncomputable abbrev W1:gy:=lC 59 (gS Jq) (lC 61 (gS Jp) dY)
theorem qy:eR ak W1:=fQ V9 (fQ V8 (dg _))
section
variable(ks:List Int)(p:Nat->Int)(x:Int)(js:List Int)(y:Int)(i:Nat)(r g a b r' g' b' a':Int)
def CW:ai:=(List.range 256).map fun j=>.int .u8 (p j)
def tl:List Int:=(List.range 256).map p
def iU:V:=.agg (D.fN (CW p))
noncomputable abbrev agY:Code:=dG Tryz.f70
noncomputable abbrev aaX:Code:=dG Tryz.f138
noncomputable abbrev Wa:Code:=dm 1 aaX
noncomputable abbrev aaY:Code:=dG Tryz.f139
noncomputable abbrev Wb:Code:=dm 1 aaY
noncomputable abbrev agZ:Code:=dG Tryz.f132
noncomputable abbrev ag0:Code:=dG Tryz.f141
noncomputable abbrev ag1:Code:=dG Tryz.f142
def Zo:St:=ff [(1,.ptr (some (0,0))),(3,M i)] (W [(0,.own .u8 ks)]) 1
def Zp:St:=ff [(2,.ptr (some (0,0))),(3,.ptr (some (1,0))),(5,M i)] (W [(0,.own .u8 ks),(1,.own .u8 js)]) 2
theorem ag2(a:Int):dn (U W1 []) [(5,.split)] 0 Tryz.f70 [] (agY) (dw [.agg [.int .u8 r,.int .u8 g,.int .u8 b,.int .u8 a]] .nil 0) [([((a==(0:Int)),true)],
   [],
   .ret (.agg [.int .u8 0,.int .u8 0,.int .u8 0,.int .u8 0]) (W []) 0),
  ([((a==(0:Int)),false)],
   [],
   .ret (.agg [.int .u8 r,.int .u8 g,.int .u8 b,.int .u8 a]) (W []) 0)]
 :=dh.of C C C
theorem ag3:dn (U W1 []) [] 0 Tryz.f138 [1] (dN 1 aaX) (dw [iU p] .nil 0) [([],
   [],
   .to .normal (ff [(1,.ptr (some (0,0)))] (W [(0,.cells (D.fN (CW p)))]) 1))]
 :=dh.of C C C
theorem ag4:dn (U W1 []) [] 0 Tryz.f138 [1,3] (dB (dB Wa)) (ff [(1,.ptr (some (0,0)))] (W [(0,.own .u8 ks)]) 1) [([],
   [],
   .to .normal (Zo ks 0))]
 :=dh.of C C C
abbrev OO:Prop:=V.int IntKind.u8 (ks.getD (0+i*4+3) (0:Int))=V.int IntKind.u8 a
theorem ag5:dn (U W1 []) [(5,.split),(11,.dy (.int .u8 a)),(12,.split),(7,.dy (M (i+1)))] 0 Tryz.f138 [1,3] (dD (dD (dP (dB Wa)))) (Zo ks i) [([((decide (Int.ofNat i<(64:Int))),true),((a !=(0:Int)),true)],
   [((0:Int)<=Int.ofNat i/\Int.ofNat i<(64:Int)),(0+i*4+3<ks.length),OO ks i a],
   .ret (.bool false) (W []) 0),
  ([((decide (Int.ofNat i<(64:Int))),true),((a !=(0:Int)),false)],
   [((0:Int)<=Int.ofNat i/\Int.ofNat i<(64:Int)),(0+i*4+3<ks.length),OO ks i a,(V.int B (IntKind.i64.wrap (Int.ofNat i+(1:Int)))=M (i+1))],
   .to .normal (Zo ks (i+1))),
  ([((decide (Int.ofNat i<(64:Int))),false)],
   [],
   .to (.exit 0) (Zo ks i))]
 :=dh.of C C C
theorem ag6:dn (U W1 []) [] 0 Tryz.f138 [] (dP Wa) (Zo ks 64) [([],
   [],
   .ret (.bool true) (W []) 0)]
 :=dh.of C C C
theorem ag7(q:Nat->Int):dn (U W1 []) [] 0 Tryz.f139 [2,3] (dN 1 aaY) (dw [iU p,iU q] .nil 0) [([],
   [],
   .to .normal (ff [(2,.ptr (some (0,0))),(3,.ptr (some (1,0)))] (W [(0,.cells (D.fN (CW p))),(1,.cells (D.fN (CW q)))]) 2))]
 :=dh.of C C C
theorem ag8:dn (U W1 []) [] 0 Tryz.f139 [2,3,5] (dB (dB Wb)) (ff [(2,.ptr (some (0,0))),(3,.ptr (some (1,0)))] (W [(0,.own .u8 ks),(1,.own .u8 js)]) 2) [([],
   [],
   .to .normal (Zp ks js 0))]
 :=dh.of C C C
abbrev OP:Prop:=lW IntKind.u8 js (0+i*4) 4=V.agg [V.int IntKind.u8 r',V.int IntKind.u8 g',V.int IntKind.u8 b',V.int IntKind.u8 a']
abbrev OQ(a:Int):Prop:=lW IntKind.u8 ks (0+i*4) 4=V.agg [V.int IntKind.u8 r,V.int IntKind.u8 g,V.int IntKind.u8 b,V.int IntKind.u8 a]
theorem ag9(a r' g' b' a':Int):dn (U W1 []) [(7,.split),(12,.dy (.agg [.int .u8 r,.int .u8 g,.int .u8 b,.int .u8 a])),(15,.dy (.agg [.int .u8 r',.int .u8 g',.int .u8 b',.int .u8 a'])),(16,.split),(9,.dy (M (i+1)))] 0 Tryz.f139 [2,3,5] (dD (dD (dP (dB Wb)))) (Zp ks js i) [([((decide (Int.ofNat i<(64:Int))),true),((!(r==r'&&(g==g'&&(b==b'&&(a==a'&&true))))),true)],
   [((0:Int)<=Int.ofNat i/\Int.ofNat i<(64:Int)),(0+i*4+4<=ks.length),OQ ks i r g b a,((0:Int)<=Int.ofNat i/\Int.ofNat i<(64:Int)),(0+i*4+4<=js.length),OP js i r' g' b' a'],
   .ret (.bool false) (W []) 0),
  ([((decide (Int.ofNat i<(64:Int))),true),((!(r==r'&&(g==g'&&(b==b'&&(a==a'&&true))))),false)],
   [((0:Int)<=Int.ofNat i/\Int.ofNat i<(64:Int)),(0+i*4+4<=ks.length),OQ ks i r g b a,((0:Int)<=Int.ofNat i/\Int.ofNat i<(64:Int)),(0+i*4+4<=js.length),OP js i r' g' b' a',(V.int B (IntKind.i64.wrap (Int.ofNat i+(1:Int)))=M (i+1))],
   .to .normal (Zp ks js (i+1))),
  ([((decide (Int.ofNat i<(64:Int))),false)],
   [],
   .to (.exit 0) (Zp ks js i))]
 :=dh.of C C C
theorem aha:dn (U W1 []) [] 0 Tryz.f139 [] (dP Wb) (Zp ks js 64) [([],
   [],
   .ret (.bool true) (W []) 0)]
 :=dh.of C C C
theorem ahb:dn (U W1 [(164,[(14,.split),(17,.split)])]) [] 0 Tryz.f132 [] (agZ) (dw [L x,L y] .nil 0) [([((x.tmod (8:Int) !=(0:Int)),true),((decide (x<(0:Int))),true),((y.tmod (8:Int) !=(0:Int)),true),((decide (y<(0:Int))),true)],
   [((8:Int)≠(0:Int)),((8:Int)≠(0:Int)),((8:Int)≠(0:Int)),((8:Int)≠(0:Int))],
   .ret (.agg [.int .i64 (IntKind.i64.wrap (IntKind.i64.wrap (x.tdiv (8:Int))-(1:Int))),.int .i64 (IntKind.i64.wrap (IntKind.i64.wrap (y.tdiv (8:Int))-(1:Int)))]) (W []) 0),
  ([((x.tmod (8:Int) !=(0:Int)),true),((decide (x<(0:Int))),true),((y.tmod (8:Int) !=(0:Int)),true),((decide (y<(0:Int))),false)],
   [((8:Int)≠(0:Int)),((8:Int)≠(0:Int)),((8:Int)≠(0:Int)),((8:Int)≠(0:Int))],
   .ret (.agg [.int .i64 (IntKind.i64.wrap (IntKind.i64.wrap (x.tdiv (8:Int))-(1:Int))),.int .i64 (IntKind.i64.wrap (y.tdiv (8:Int)))]) (W []) 0),
  ([((x.tmod (8:Int) !=(0:Int)),true),((decide (x<(0:Int))),true),((y.tmod (8:Int) !=(0:Int)),false)],
   [((8:Int)≠(0:Int)),((8:Int)≠(0:Int)),((8:Int)≠(0:Int)),((8:Int)≠(0:Int))],
   .ret (.agg [.int .i64 (IntKind.i64.wrap (IntKind.i64.wrap (x.tdiv (8:Int))-(1:Int))),.int .i64 (IntKind.i64.wrap (y.tdiv (8:Int)))]) (W []) 0),
  ([((x.tmod (8:Int) !=(0:Int)),true),((decide (x<(0:Int))),false),((y.tmod (8:Int) !=(0:Int)),true),((decide (y<(0:Int))),true)],
   [((8:Int)≠(0:Int)),((8:Int)≠(0:Int)),((8:Int)≠(0:Int)),((8:Int)≠(0:Int))],
   .ret (.agg [.int .i64 (IntKind.i64.wrap (x.tdiv (8:Int))),.int .i64 (IntKind.i64.wrap (IntKind.i64.wrap (y.tdiv (8:Int))-(1:Int)))]) (W []) 0),
  ([((x.tmod (8:Int) !=(0:Int)),true),((decide (x<(0:Int))),false),((y.tmod (8:Int) !=(0:Int)),true),((decide (y<(0:Int))),false)],
   [((8:Int)≠(0:Int)),((8:Int)≠(0:Int)),((8:Int)≠(0:Int)),((8:Int)≠(0:Int))],
   .ret (.agg [.int .i64 (IntKind.i64.wrap (x.tdiv (8:Int))),.int .i64 (IntKind.i64.wrap (y.tdiv (8:Int)))]) (W []) 0),
  ([((x.tmod (8:Int) !=(0:Int)),true),((decide (x<(0:Int))),false),((y.tmod (8:Int) !=(0:Int)),false)],
   [((8:Int)≠(0:Int)),((8:Int)≠(0:Int)),((8:Int)≠(0:Int)),((8:Int)≠(0:Int))],
   .ret (.agg [.int .i64 (IntKind.i64.wrap (x.tdiv (8:Int))),.int .i64 (IntKind.i64.wrap (y.tdiv (8:Int)))]) (W []) 0),
  ([((x.tmod (8:Int) !=(0:Int)),false),((y.tmod (8:Int) !=(0:Int)),true),((decide (y<(0:Int))),true)],
   [((8:Int)≠(0:Int)),((8:Int)≠(0:Int)),((8:Int)≠(0:Int)),((8:Int)≠(0:Int))],
   .ret (.agg [.int .i64 (IntKind.i64.wrap (x.tdiv (8:Int))),.int .i64 (IntKind.i64.wrap (IntKind.i64.wrap (y.tdiv (8:Int))-(1:Int)))]) (W []) 0),
  ([((x.tmod (8:Int) !=(0:Int)),false),((y.tmod (8:Int) !=(0:Int)),true),((decide (y<(0:Int))),false)],
   [((8:Int)≠(0:Int)),((8:Int)≠(0:Int)),((8:Int)≠(0:Int)),((8:Int)≠(0:Int))],
   .ret (.agg [.int .i64 (IntKind.i64.wrap (x.tdiv (8:Int))),.int .i64 (IntKind.i64.wrap (y.tdiv (8:Int)))]) (W []) 0),
  ([((x.tmod (8:Int) !=(0:Int)),false),((y.tmod (8:Int) !=(0:Int)),false)],
   [((8:Int)≠(0:Int)),((8:Int)≠(0:Int)),((8:Int)≠(0:Int)),((8:Int)≠(0:Int))],
   .ret (.agg [.int .i64 (IntKind.i64.wrap (x.tdiv (8:Int))),.int .i64 (IntKind.i64.wrap (y.tdiv (8:Int)))]) (W []) 0)]
 :=dh.of C C C
theorem ahc:dn (U W1 []) [(5,.split),(9,.split),(14,.split)] 0 Tryz.f141 [] (ag0) (dw [.agg [L x,L y]] .nil 0) [([((decide (x>=(-8192:Int))),true),((decide (x<=(8191:Int))),true),((decide (y>=(-8192:Int))),true)],
   [],
   .ret (.bool (decide (y<=(8191:Int)))) (W []) 0),
  ([((decide (x>=(-8192:Int))),true),((decide (x<=(8191:Int))),true),((decide (y>=(-8192:Int))),false)],
   [],
   .ret (.bool false) (W []) 0),
  ([((decide (x>=(-8192:Int))),true),((decide (x<=(8191:Int))),false)],
   [],
   .ret (.bool false) (W []) 0),
  ([((decide (x>=(-8192:Int))),false)],
   [],
   .ret (.bool false) (W []) 0)]
 :=dh.of C C C
end
theorem ahd(x y z w:Int):dn (U W1 []) [(9,.split),(15,.split)] 0 Tryz.f142 [] (ag1) (dw [.agg [L x,L y],.agg [L z,L w]] .nil 0) [([((decide (y<w)),true)],
   [],
   .ret (.bool true) (W []) 0),
  ([((decide (y<w)),false),((y==w),true)],
   [],
   .ret (.bool (decide (x<z))) (W []) 0),
  ([((decide (y<w)),false),((y==w),false)],
   [],
   .ret (.bool false) (W []) 0)]
 :=dh.of C C C
section
variable(p:Nat->Int){f:FuncId}{i:Nat}{fn:Func}{args:ag}
theorem eV{v:V}(hf:Tryz.prog.funcs[f]? =some fn)(hT:TG ak gN fn.ntmps (dG fn) (dw args .nil gN) (fD ak gN fn fun u _ _=>u=v))
  (Sc:V.pX args=true:=by kernel_rfl) (hv:v.deep=true:=by kernel_rfl) (hb:fn.body=some (dG fn):=by kernel_rfl) (l:(Nat.ble args.length fn.ntmps&&Nat.blt fn.ntmps fV)=true:=by kernel_rfl):dS ak f args v:=
 Jn mo po hf hb l Sc hv (qu hT fun _ _ ⟨hy,u,h,n,e,q⟩=>⟨hy,u,h,n,e,q▸ .self⟩)
theorem rQ{v:V}(hf:Tryz.prog.funcs[f]? =some fn)(hT:TG ak gN fn.ntmps (dG fn) (dw args .nil gN) (fD ak gN fn (vh v)))
  (Sc:V.pX args=true:=by kernel_rfl) (hb:fn.body=some (dG fn):=by kernel_rfl) (l:(Nat.ble args.length fn.ntmps&&Nat.blt fn.ntmps fV)=true:=by kernel_rfl):dS ak f args v:=
 .agN mo po hf hb l Sc hT
theorem fj{f0:FuncId}{kM:ag}{v:V}{hm:gy}(K:dS ak f0 kM v)(hS:eR ak hm)(eM:Nat.blt f0 Tryz.prog.funcs.size=true:=by kernel_rfl):eR ak (eZ f0 kM v hm):=Si eM K hS
theorem oA:(tl p).length=256:=by simp[tl]
theorem wI{j:Nat}(h:j<256):(tl p).getD j 0=p j:=by
 simp[tl,ax,bE,cV h]
theorem OR(h:i<64):lW .u8 (tl p) (0+i*4) 4= .agg [.int .u8 (p (4*i)),.int .u8 (p (4*i+1)),.int .u8 (p (4*i+2)),.int .u8 (p (4*i+3))]:=by
 show V.agg [.int .u8 ((tl p).getD (0+i*4+0) 0),.int .u8 ((tl p).getD (0+i*4+1) 0),.int .u8 ((tl p).getD (0+i*4+2) 0),.int .u8 ((tl p).getD (0+i*4+3) 0)]=_;rw[show 0+i*4+0=4*i by omega,show 0+i*4+1=4*i+1 by omega,show 0+i*4+2=4*i+2 by omega,show 0+i*4+3=4*i+3 by omega,wI p G,wI p G,wI p G,wI p G]
noncomputable def cD(p:Prop):Bool:=@decide p (Classical.propDecidable p)
theorem OS{p:Prop}(h:p):cD p=true:=@decide_eq_true p (Classical.propDecidable p) h
theorem Sq{p:Prop}(h:¬p):cD p=false:=@decide_eq_false p (Classical.propDecidable p) h
theorem vT{p:Prop}(h:p):V.bool true= .bool (cD p):=by rw[OS h]
theorem vF{p:Prop}(h:¬p):V.bool false= .bool (cD p):=by rw[Sq h]
noncomputable def nc(p:Nat->Int):Bool:=cD (∀i,i<64->p (4*i+3)=0)
noncomputable def uI(q:Nat->Int):Bool:=cD (∀j,j<256->p j=q j)
theorem d64(h:decide (Int.ofNat i<(64:Int))=true):i<64:=by have:=aW h;simp only[gT]at this;omega
theorem n64(h:decide (Int.ofNat i<(64:Int))=false):64<=i:=by have:=bx h;simp only[gT]at this;omega
theorem b64(h:i<64):(0:Int)<=Int.ofNat i/\Int.ofNat i<(64:Int):=⟨bS _,Vd⟩
theorem wJ{n i:Nat}(h:i<n):n-(i+1)<n-i:=by omega
theorem UC:dS ak 138 [iU p] (.bool (nc p)):=by
 refine eV Tryz.func138 ?_;refine fu 1 qy (ag3 p) all_nil (ze [(0,.u8)] (s2:=ff [(1,.ptr (some (0,0)))] (W [(0,.own .u8 (tl p))]) 1) C ?_);refine pZ qy 0 _ [1,3] (64-·) (fun i=>i<=64/\∀k,k<i->p (4*k+3)=0) (Zo (tl p)) 0 ⟨fa,fun _ h=>absurd h (bX _)⟩ (ag4 (tl p)) all_nil .refl fun i ⟨hi,hz⟩=>?_;refine⟨_,qy,[],_,_,ag5 (tl p) i (p (4*i+3)),dz (g2 fun Q R=>?_) (dz (g2 fun Q R=>?_) (dA (g1 fun h=>?_)))⟩
 . have eM:=d64 Q;refine⟨J (b64 eM) (J (by rw[oA];omega) (eC (aH _ (by rw[show 0+i*4+3=4*i+3 by omega];exact wI p G)))),?_⟩;exact vF fun h=>absurd (h i eM) (by simpa using R)
 . have eM:=d64 Q;exact⟨J (b64 eM) (J (by rw[oA];omega) (J (aH _ (by rw[show 0+i*4+3=4*i+3 by omega];exact wI p G)) (eC (gJ G)))),i+1,wJ eM,⟨G,fun k Y=>by
    rcases br k i with q|q
    . exact hz k q
    . obtain rfl:k=i:=by omega
      simpa using R⟩,.refl⟩
 . have:=n64 h;obtain rfl:i=64:=by omega
   refine⟨all_nil,rfl,eI qy (ag6 _) (dA (g0 ⟨all_nil,_,_,_,rfl,vT hz⟩))⟩
end
theorem aaZ(p q:Nat->Int):dS ak 139 [iU p,iU q] (.bool (uI p q)):=by
 refine eV Tryz.func139 ?_;refine fu 1 qy (ag7 p q) all_nil (ze [(0,.u8),(1,.u8)] (s2:=ff [(2,.ptr (some (0,0))),(3,.ptr (some (1,0)))] (W [(0,.own .u8 (tl p)),(1,.own .u8 (tl q))]) 2) C ?_);refine pZ qy 0 _ [2,3,5] (64-·) (fun i=>i<=64/\∀k,k<4*i->p k=q k) (Zp (tl p) (tl q)) 0 ⟨fa,fun _ h=>absurd h (bX _)⟩ (ag8 (tl p) (tl q)) all_nil .refl fun i ⟨hi,hz⟩=>?_;have s' (eM:i<64):=fun {l} (t:∀a∈l,a)=>J (b64 eM) (J (show 0+i*4+4<=(tl p).length by rw[oA];omega) (J (OR p eM) (J (b64 eM) (J (show 0+i*4+4<=(tl q).length by rw[oA];omega) (J (OR q eM) t)))));refine⟨_,qy,[],_,_,ag9 (tl p) (tl q) i (p (4*i)) (p (4*i+1)) (p (4*i+2)) (p (4*i+3)) (q (4*i)) (q (4*i+1)) (q (4*i+2)) (q (4*i+3)),dz (g2 fun Q R=>?_) (dz (g2 fun Q R=>?_) (dA (g1 fun h=>?_)))⟩
 . have eM:=d64 Q;refine⟨s' eM all_nil,?_⟩;refine vF fun h=>?_;rw[h (4*i) G,h (4*i+1) G,h (4*i+2) G,h (4*i+3) G]at R;simp at R
 . have eM:=d64 Q;refine⟨s' eM (eC (gJ G)),i+1,wJ eM,⟨G,fun k Y=>?_⟩,.refl⟩;simp only[Bool.not_eq_false',ay,cJ,and_true]at R;rcases br k (4*i)with z|z
   . exact hz k z
   . rcases(by omega:k=4*i\/k=4*i+1\/k=4*i+2\/k=4*i+3)with rfl|rfl|rfl|rfl
     . exact R.1
     . exact R.2.1
     . exact R.2.2.1
     . exact R.2.2.2
 . have:=n64 h;obtain rfl:i=64:=by omega
   refine⟨all_nil,rfl,eI qy (aha _ _) (dA (g0 ⟨all_nil,_,_,_,rfl,vT hz⟩))⟩
def cl(a r:Int):Int:=if a=0 then 0 else r
def qz(x:Int):Int:=if x.tmod 8≠0/\x<0 then IntKind.i64.wrap (IntKind.i64.wrap (x.tdiv 8)-1)else IntKind.i64.wrap (x.tdiv 8)
def Ao(x y:Int):Bool:=decide (x>=(-8192:Int))&&(decide (x<=(8191:Int))&&(decide (y>=(-8192:Int))&&decide (y<=(8191:Int))))
def F9(x y z w:Int):Bool:=decide (y<w)||((y==w)&&decide (x<z))
def Jr:ag->Option (ah×V)
 | [.agg [.int .u8 r,.int .u8 g,.int .u8 b,.int .u8 a]]=>some ([],.agg [.int .u8 (cl a r),.int .u8 (cl a g),.int .u8 (cl a b),.int .u8 (cl a a)])
 |_=>none
def Js:ag->Option (ah×V)
 | [.int .i64 x,.int .i64 y]=>some ([],.agg [L (qz x),L (qz y)])
 |_=>none
def zq:ag->Option (ah×V)
 | [.agg [.int .i64 x,.int .i64 y]]=>some ([],.bool (Ao x y))
 |_=>none
def Jt:ag->Option (ah×V)
 | [.agg [.int .i64 x,.int .i64 y],.agg [.int .i64 z,.int .i64 w]]=>some ([],.bool (F9 x y z w))
 |_=>none
theorem Wc:kE ak 70 (gS Jr):=by
 refine og Tryz.func70 fun args s' v e=>?_;unfold Jr at e;split at e
 case h_2=>cases e
 rename_i r g b a;obtain⟨rfl,rfl⟩:=sm e;refine⟨rfl,rfl,rfl,fun _=>eI qy (ag2 r g b a) (dz (g1 fun h=>⟨all_nil,_,_,_,rfl,?_⟩) (dA (g1 fun h=>⟨all_nil,_,_,_,rfl,?_⟩)))⟩
 . have h:a=0:=by simpa using h
   simp only[cl,aE h]
 . have h:¬a=0:=by simpa using h
   simp only[cl,aB h]
theorem Wd:kE ak 132 (gS Js):=by
 refine og Tryz.func132 fun args s' v e=>?_;unfold Js at e;split at e
 case h_2=>cases e
 rename_i x y;obtain⟨rfl,rfl⟩:=sm e;refine⟨rfl,rfl,rfl,fun _=>eI qy (ahb x y) fun g hg K=>?_⟩;simp only[aD,aI,bh]at hg;rcases hg with rfl|rfl|rfl|rfl|rfl|rfl|rfl|rfl|rfl
 all_goals
  simp only[aD,aI,bh,aL,bg,aX,bt,bne_iff_ne,ne_eq,Bool.not_eq_true,bne_eq_false_iff_eq]at K;refine⟨fun a ha=>by simp only[aD,aI,bh,or_self]at ha;subst ha;decide,_,_,_,rfl,?_⟩;simp[qz,K]
theorem We:kE ak 141 (gS zq):=by
 refine og Tryz.func141 fun args s' v e=>?_;unfold zq at e;split at e
 case h_2=>cases e
 rename_i x y;obtain⟨rfl,rfl⟩:=sm e;refine⟨rfl,rfl,rfl,fun _=>eI qy (ahc x y) (dz (g3 fun h R h3=>⟨all_nil,_,_,_,rfl,?_⟩) (dz (g3 fun h R h3=>⟨all_nil,_,_,_,rfl,?_⟩) (dz (g2 fun h R=>⟨all_nil,_,_,_,rfl,?_⟩) (dA (g1 fun h=>⟨all_nil,_,_,_,rfl,?_⟩)))))⟩<;>simp only[Ao, *,aN,aP]
section
variable(ks:List Int)(p:Nat->Int)(x:Int)(i:Nat)(y r g b a:Int)
theorem Wf:kE ak 142 (gS Jt):=by
 refine og Tryz.func142 fun args s' v e=>?_;unfold Jt at e;split at e
 case h_2=>cases e
 rename_i x y z w;obtain⟨rfl,rfl⟩:=sm e;refine⟨rfl,rfl,rfl,fun _=>eI qy (ahd x y z w) (dz (g1 fun h=>⟨all_nil,_,_,_,rfl,?_⟩) (dz (g2 fun h R=>⟨all_nil,_,_,_,rfl,?_⟩) (dA (g2 fun h R=>⟨all_nil,_,_,_,rfl,?_⟩))))⟩<;>simp only[F9, *,aN,aP,cj,cm]
noncomputable abbrev W2:gy:=lC 70 (gS Jr) (lC 132 (gS Js) (lC 141 (gS zq) (lC 142 (gS Jt) W1)))
theorem Ec:eR ak W2:=fQ Wc (fQ Wd (fQ We (fQ Wf qy)))
def UD:Bool:=decide (x>=(0:Int))&&(decide (x<(8:Int))&&(decide (y>=(0:Int))&&decide (y<(8:Int))))
def Ju:ag->Option (ah×V)
 | [.int .i64 x,.int .i64 y]=>some ([],.bool (UD x y))
 |_=>none
noncomputable abbrev ahe:Code:=dG Tryz.f167
theorem ahf:dn (U W1 []) [(6,.split),(9,.split),(13,.split)] 0 Tryz.f167 [] (ahe) (dw [L x,L y] .nil 0) [([((decide (x>=(0:Int))),true),((decide (x<(8:Int))),true),((decide (y>=(0:Int))),true)],
   [],
   .ret (.bool (decide (y<(8:Int)))) (W []) 0),
  ([((decide (x>=(0:Int))),true),((decide (x<(8:Int))),true),((decide (y>=(0:Int))),false)],
   [],
   .ret (.bool false) (W []) 0),
  ([((decide (x>=(0:Int))),true),((decide (x<(8:Int))),false)],
   [],
   .ret (.bool false) (W []) 0),
  ([((decide (x>=(0:Int))),false)],
   [],
   .ret (.bool false) (W []) 0)]
 :=dh.of C C C
theorem Wg:kE ak 167 (gS Ju):=by
 refine og Tryz.func167 fun args s' v e=>?_;unfold Ju at e;split at e
 case h_2=>cases e
 rename_i x y;obtain⟨rfl,rfl⟩:=sm e;refine⟨rfl,rfl,rfl,fun _=>eI qy (ahf x y) (dz (g3 fun h R h3=>⟨all_nil,_,_,_,rfl,?_⟩) (dz (g3 fun h R h3=>⟨all_nil,_,_,_,rfl,?_⟩) (dz (g2 fun h R=>⟨all_nil,_,_,_,rfl,?_⟩) (dA (g1 fun h=>⟨all_nil,_,_,_,rfl,?_⟩)))))⟩<;>simp only[UD, *,aN,aP]
noncomputable abbrev W3:gy:=lC 167 (gS Ju) W2
theorem fI:eR ak W3:=fQ Wg Ec
noncomputable abbrev aa0:Code:=dG Tryz.f140
noncomputable abbrev Wh:Code:=dm 1 aa0
noncomputable abbrev Sr:Code:=dG Tryz.f136
def Zq:St:=ff [(1,.ptr (some (0,0))),(2,.ptr (some (1,0))),(3,M i)] (W [(0,.own .u8 ks),(1,.own .u8 (List.replicate 256 0))]) 2
theorem ahg:dn (U W2 []) [] 0 Tryz.f140 [1,2] (dN 1 aa0) (dw [iU p] .nil 0) [([],
   [],
   .to .normal (ff [(1,.ptr (some (0,0))),(2,.ptr (some (1,0)))] (W [(0,.cells (D.fN (CW p))),(1,.cells (List.replicate 256 (.int .u8 0)))]) 2))]
 :=dh.of C C C
theorem ahh:dn (U W2 []) [] 0 Tryz.f140 [1,2,3] (dB (dB Wh)) (ff [(1,.ptr (some (0,0))),(2,.ptr (some (1,0)))] (W [(0,.own .u8 ks),(1,.own .u8 (List.replicate 256 0))]) 2) [([],
   [],
   .to .normal (Zq ks 0))]
 :=dh.of C C C
theorem ahi:dn (U W2 []) [(5,.split),(11,.dy (.agg [.int .u8 r,.int .u8 g,.int .u8 b,.int .u8 a])),(7,.dy (M (i+1)))] 0 Tryz.f140 [1,2,3] (dD (dD (dP (dB Wh)))) (Zq ks i) [([((decide (Int.ofNat i<(64:Int))),true)],
   [((0:Int)<=Int.ofNat i/\Int.ofNat i<(64:Int)),(0+i*4+4<=ks.length),(lW IntKind.u8 ks (0+i*4) 4=V.agg [V.int IntKind.u8 r,V.int IntKind.u8 g,V.int IntKind.u8 b,V.int IntKind.u8 a]),((0:Int)<=Int.ofNat i/\Int.ofNat i<(64:Int)),(0+i*4+4<=ks.length),(V.int B (IntKind.i64.wrap (Int.ofNat i+(1:Int)))=M (i+1))],
   .to .normal (Zq (AA ks (0+i*4) [cl a r,cl a g,cl a b,cl a a]) (i+1))),
  ([((decide (Int.ofNat i<(64:Int))),false)],
   [],
   .to (.exit 0) (Zq ks i))]
 :=dh.of C C C
theorem ahj:dn (U W2 []) [] 0 Tryz.f140 [] (dP Wh) (Zq ks 64) [([],[256<=ks.length,256<=256],.ret (lW .u8 ks 0 256) (W []) 0)]:=dh.of C C C
theorem ahk:dn (U W2 []) [] 0 Tryz.f136 [1,2,4,7,8] (dN 1 Sr) (dw [iU p,L x,L y,.agg [.int .u8 r,.int .u8 g,.int .u8 b,.int .u8 a]] .nil 0) [([],
   [],
   .to .normal (ff [(1,L x),(2,L y),(4,.ptr (some (0,0))),(7,.ptr (some (1,0))),(8,.ptr (some (2,0)))] (W [(0,.cells (D.fN (CW p))),(1,.cells [.int .u8 r,.int .u8 g,.int .u8 b,.int .u8 a]),(2,.cells (List.replicate 256 (.int .u8 0)))]) 3))]
 :=dh.of C C C
def sSt:St:=ff [(4,.ptr (some (0,0))),(8,.ptr (some (1,0)))] (W [(0,.own .u8 ks),(1,.own .u8 (List.replicate 256 0))]) 2
theorem aa1(o:Nat):dn (U W3 []) [(11,.split),(15,.dy (M o))] 0 Tryz.f136 [4,8] (dN 1 (dm 1 Sr)) (ff [(1,L x),(2,L y),(4,.ptr (some (0,0))),(7,.ptr (some (1,0))),(8,.ptr (some (2,0)))] (W [(0,.own .u8 ks),(1,.cells [.int .u8 r,.int .u8 g,.int .u8 b,.int .u8 a]),(2,.own .u8 (List.replicate 256 0))]) 3) [([((UD x y),true)],
   [(V.int B (IntKind.i64.wrap (IntKind.i64.wrap ((8:Int)*y)+x))=M o),((0:Int)<=Int.ofNat o/\Int.ofNat o<(64:Int)),(0+o*4+4<=ks.length)],
   .to .normal (sSt (AA ks (0+o*4) [r,g,b,a]))),
  ([((UD x y),false)],
   [],
   .to .normal (sSt ks))]
 :=dh.of C C C
theorem ahl:dn (U W3 []) [] 0 Tryz.f136 [] (dm 1 (dm 1 Sr)) (sSt ks) [([],[256<=ks.length,256<=256],.ret (lW .u8 ks 0 256) (W []) 0)]:=dh.of C C C
end
def iw(p:Nat->Int)(j:Nat):Int:=cl (p (4*(j/4)+3)) (p j)
section
variable(p:Nat->Int)(x y r g b a:Int)
theorem x4:lW .u8 (tl p) 0 256=iU p:=by
 unfold lW iU CW;rw[D.ga,List.map_map];refine aH V.agg (List.map_congr_left fun j hj=>?_);rw[b5,wI p (bH.1 hj)];rfl
theorem Cu{p q:Nat->Int}(h:∀j,j<256->p j=q j):tl p=tl q:=List.map_congr_left fun j hj=>h j (bH.1 hj)
theorem zu{p q:Nat->Int}(h:∀j,j<256->p j=q j):iU p=iU q:=by rw[<- x4,<- x4,Cu h]
theorem OT(f:Nat->Int)(j:Nat):(tl f)[j]? =if j<256 then some (f j)else none:=by
 unfold tl;rw[bE];by_cases c:j<256
 . rw[aE c,cV c];rfl
 . rw[aB c,cK (by rw[List.length_range];omega)];rfl
theorem Jv{f k:Nat->Int}{i:Nat}(hi:i<64){r g b a:Int}(h0:k (4*i)=r)(Q:k (4*i+1)=g)(R:k (4*i+2)=b)(h3:k (4*i+3)=a)(hn:∀j,j<256->j/4≠i->k j=f j):AA (tl f) (0+i*4) [r,g,b,a]=tl k:=by
 have e:0+i*4=4*i:=by omega
 rw[e];refine List.ext_getElem? fun j=>?_;unfold AA;rw[List.getElem?_append,List.getElem?_append,bn,oA,Nat.min_eq_left (show 4*i<=256 by omega),OT];by_cases c1:j<4*i
 . rw[aE c1,bN,aE c1,OT,aE G,aE G,hn j G G]
 . rw[aB c1];by_cases c2:j<4*i+4
   . rw[aE (by simp only[aR,bU];omega),aE G];rcases(by omega:j=4*i\/j=4*i+1\/j=4*i+2\/j=4*i+3)with rfl|rfl|rfl|rfl
     . rw[h0,Nat.sub_self];rfl
     . rw[Q,Nat.add_sub_cancel_left];rfl
     . rw[R,Nat.add_sub_cancel_left];rfl
     . rw[h3,Nat.add_sub_cancel_left];rfl
   . rw[aB (by simp only[aR,bU];omega),bO,OT];simp only[aR,bU];rw[show 4*i+(0+1+1+1+1)+(j-4*i-(0+1+1+1+1))=j by omega];by_cases c3:j<256
     . rw[aE c3,aE c3,hn j c3 G]
     . rw[aB c3,aB c3]
theorem OU:dS ak 140 [iU p] (iU (iw p)):=by
 refine eV Tryz.func140 ?_;refine fu 1 Ec (ahg p) all_nil (ze [(0,.u8),(1,.u8)] (s2:=ff [(1,.ptr (some (0,0))),(2,.ptr (some (1,0)))] (W [(0,.own .u8 (tl p)),(1,.own .u8 (List.replicate 256 0))]) 2) C ?_);refine pZ Ec 0 _ [1,2,3] (64-·) (. <=64) (fun i=>Zq (tl fun j=>if j<4*i then iw p j else p j) i) 0 fa (ahh (tl p)) all_nil (by
  rw[Cu (q:=p) fun j _=>aB G];exact .refl) fun i hi=>?_
 refine⟨_,Ec,[],_,_,ahi _ i (p (4*i)) (p (4*i+1)) (p (4*i+2)) (p (4*i+3)),dz (g1 fun Q=>?_) (dA (g1 fun h=>?_))⟩
 . have eM:=d64 Q;refine⟨J (b64 eM) (J (by rw[oA];omega) (J ?_ (J (b64 eM) (J (by rw[oA];omega) (eC (gJ G)))))),i+1,wJ eM,by show i+1<=64;omega,?_⟩
   . rw[OR _ eM,aB G,aB G,aB G,aB G]
   . rw[Jv (k:=fun j=>if j<4*(i+1)then iw p j else p j) eM]
     . exact .refl
     all_goals first
      |(rw[aE G];unfold iw;congr 2;omega)
      |skip
     intro j _ hj;by_cases c:j<4*i
     . rw[aE c,aE G]
     . rw[aB c,aB G]
 . have:=n64 h;obtain rfl:i=64:=by omega
   refine⟨all_nil,rfl,eI Ec (ahj _) (dA (g0 ⟨J (by rw[oA];omega) (eC fa),_,_,_,rfl,?_⟩))⟩;rw[x4];exact zu fun j hj=>aE G
def Jw(j:Nat):Int:=if UD x y=true/\j/4=(8*y+x).toNat then(if j%4=0 then r else if j%4=1 then g else if j%4=2 then b else a)else p j
theorem ahm:dS ak 136 [iU p,L x,L y,.agg [.int .u8 r,.int .u8 g,.int .u8 b,.int .u8 a]] (iU (Jw p x y r g b a)):=by
 refine eV Tryz.func136 ?_;refine fu 1 Ec (ahk p x y r g b a) all_nil (ze [(0,.u8),(2,.u8)] (s2:=ff [(1,L x),(2,L y),(4,.ptr (some (0,0))),(7,.ptr (some (1,0))),(8,.ptr (some (2,0)))] (W [(0,.own .u8 (tl p)),(1,.cells [.int .u8 r,.int .u8 g,.int .u8 b,.int .u8 a]),(2,.own .u8 (List.replicate 256 0))]) 3) C ?_);have pJ (q:Nat->Int) (hq:∀j,j<256->q j=Jw p x y r g b a j):TG ak 0 Tryz.f136.ntmps (dm 1 (dm 1 Sr)) (sSt (tl q)) (fD ak 0 Tryz.f136 fun u _ _=>u=iU (Jw p x y r g b a)):=
  eI fI (ahl _) (dA (g0 ⟨J (by rw[oA];omega) (eC fa),_,_,_,rfl,by rw[x4];exact zu hq⟩))
 by_cases h:UD x y=true
 . have hb:0<=x/\x<8/\0<=y/\y<8:=by simpa[UD]using h
   have eM:(8*y+x).toNat<64:=by omega
   refine tO 1 fI (aa1 (tl p) x y r g b a (8*y+x).toNat) (dz (g1 fun _=>⟨J ?_ (J (b64 eM) (eC (by rw[oA];omega))),_,rfl,?_⟩) (dA (g1 fun R=>by rw[h]at R;cases R)))
   . rw[ik (x:=8*y) G G];exact wH G G
   . rw[Jv (k:=Jw p x y r g b a) eM]
     . exact pJ _ fun _ _=>rfl
     all_goals first
      |(unfold Jw;rw[aE ⟨h,G⟩];simp[Nat.mul_add_mod];done)
      |skip
     intro j _ hj;exact aB fun q=>hj q.2
 . have h:UD x y=false:=by simpa using h
   exact tO 1 fI (aa1 (tl p) x y r g b a 0) (dz (g1 fun R=>by rw[h]at R;cases R) (dA (g1 fun _=>⟨all_nil,_,rfl,pJ _ fun j _=>(aB fun q=>by rw[h]at q;cases q.1).symm⟩)))
end
structure Tl where
 x:Int
 y:Int
 p:Nat->Int
def Tl.d(t:Tl):ai:=.int .i64 t.x:: .int .i64 t.y::CW t.p
def jv(l:List Tl):ai:=(l.map Tl.d).flatten
def oh(l:List Tl):V:=.agg [.eo false l.length (jv l)]
def tz:Nat->Int:=fun _=>0
noncomputable abbrev aa2:Code:=dG Tryz.f133
noncomputable abbrev Wi:Code:=dm 1 aa2
noncomputable abbrev UE:Code:=dG Tryz.f115
noncomputable abbrev OV:Code:=dm 2 UE
section
variable(n:Nat)(p:Nat->Int)(i:Nat)
def pxC:O:=.cells (D.fN (CW p))
def Zr(T:ai)(x y:Int)(i:Nat):St:=ff [(2,.ptr (some (0,0))),(3,.ptr (some (1,0))),(4,.ptr (some (2,0))),(5,M i)] (W [(0,.cells [.eo false n T]),(1,.cells [L x,L y]),(2,pxC tz)]) 3
theorem ahn(T:ai)(x y:Int):dn (U W3 []) [] 0 Tryz.f133 [2,3,4] (dN 1 aa2) (dw [.agg [.eo false n T],.agg [L x,L y]] .nil 0) [([],
   [],
   .to .normal (ff [(2,.ptr (some (0,0))),(3,.ptr (some (1,0))),(4,.ptr (some (2,0)))] (W [(0,.cells [.eo false n T]),(1,.cells [L x,L y]),(2,pxC tz)]) 3))]
 :=dh.of C C C
theorem aho(T:ai)(x y:Int):dn (U W3 []) [] 0 Tryz.f133 [2,3,4,5] (dB (dB Wi)) (ff [(2,.ptr (some (0,0))),(3,.ptr (some (1,0))),(4,.ptr (some (2,0)))] (W [(0,.cells [.eo false n T]),(1,.cells [L x,L y]),(2,pxC tz)]) 3) [([],
   [],
   .to .normal (Zr n T x y 0))]
 :=dh.of C C C
theorem aa3(T:ai)(x y:Int)(i:Nat)(t:Tl):dn (U W3 []) [(10,.split),(16,.dy (.dr t.d)),(20,.split),(24,.dy (.dr t.d)),(12,.dy (M (i+1)))] 0 Tryz.f133 [2,3,4,5] (dD (dD (dP (dB Wi)))) (Zr n T x y i) [([((decide (Int.ofNat i<(Int.ofNat n))),true),((t.x==x&&(t.y==y&&true)),true)],
   [((0:Int)<=Int.ofNat i/\Int.ofNat i<(Int.ofNat n)),(T.length=n*258),(V.dr (dj T (i*258) 258)=V.dr t.d),((0:Int)<=Int.ofNat i/\Int.ofNat i<(Int.ofNat n)),(T.length=n*258),(V.dr (dj T (i*258) 258)=V.dr t.d)],
   .ret (iU t.p) (W []) 0),
  ([((decide (Int.ofNat i<(Int.ofNat n))),true),((t.x==x&&(t.y==y&&true)),false)],
   [((0:Int)<=Int.ofNat i/\Int.ofNat i<(Int.ofNat n)),(T.length=n*258),(V.dr (dj T (i*258) 258)=V.dr t.d),(V.int B (IntKind.i64.wrap (Int.ofNat i+(1:Int)))=M (i+1))],
   .to .normal (Zr n T x y (i+1))),
  ([((decide (Int.ofNat i<(Int.ofNat n))),false)],
   [],
   .to (.exit 0) (Zr n T x y i))]
 :=dh.of C C C
theorem ahp(T:ai)(x y:Int)(i:Nat):dn (U W3 []) [] 0 Tryz.f133 [] (dP Wi) (Zr n T x y i) [([],
   [],
   .ret (iU tz) (W []) 0)]
 :=dh.of C C C
def Ss(T:ai)(i:Nat):St:=ff [(1,.ptr (some (0,0))),(3,M i)] (W [(0,.cells [.eo false n T])]) 1
theorem ahq(T:ai):dn (U W3 []) [(10,.split)] 0 Tryz.f115 [1] (dN 2 UE) (dw [.agg [.eo false n T]] .nil 0) [([((decide ((Int.ofNat n)>(1024:Int))),true)],
   [],
   .ret (.bool false) (W []) 0),
  ([((decide ((Int.ofNat n)>(1024:Int))),false)],
   [],
   .to .normal (ff [(1,.ptr (some (0,0)))] (W [(0,.cells [.eo false n T])]) 1))]
 :=dh.of C C C
theorem ahr(T:ai):dn (U W3 []) [] 0 Tryz.f115 [1,3] (dB (dB OV)) (ff [(1,.ptr (some (0,0)))] (W [(0,.cells [.eo false n T])]) 1) [([],
   [],
   .to .normal (Ss n T 0))]
 :=dh.of C C C
noncomputable abbrev WV8:gy:=eZ 138 [iU p] (.bool (nc p)) (eZ 140 [iU p] (iU (iw p)) (eZ 139 [iU (iw p),iU p] (.bool (uI (iw p) p)) W3))
theorem OW:eR ak (WV8 p):=fj (UC p) (fj (OU p) (fj (aaZ (iw p) p) fI))
abbrev OX:Prop:=V.int B (IntKind.i64.wrap (Int.ofNat i-(1:Int)))=M (i-1)
abbrev OY:Prop:=V.int B (IntKind.i64.wrap (Int.ofNat i+(1:Int)))=M (i+1)
theorem aa4(T:ai)(i:Nat)(t u:Tl):dn (U (WV8 t.p) []) [(15,.split),(21,.dy (.dr t.d)),(35,.split),(37,.split),(41,.split),(45,.split),(50,.dy (M (i-1))),(51,.dy (.dr u.d)),(57,.split),(17,.dy (M (i+1)))] 0 Tryz.f115 [1,3] (dD (dD (dP (dB OV)))) (Ss n T i) [([((decide (Int.ofNat i<(Int.ofNat n))),true),((!Ao t.x t.y),true)],
   [((0:Int)<=Int.ofNat i/\Int.ofNat i<(Int.ofNat n)),(T.length=n*258),(V.dr (dj T (i*258) 258)=V.dr t.d),(eY [iU t.p]),(eY [iU t.p]),(eY [iU (iw t.p),iU t.p])],
   .ret (.bool false) (W []) 0),
  ([((decide (Int.ofNat i<(Int.ofNat n))),true),((!Ao t.x t.y),false),((nc t.p),true)],
   [((0:Int)<=Int.ofNat i/\Int.ofNat i<(Int.ofNat n)),(T.length=n*258),(V.dr (dj T (i*258) 258)=V.dr t.d),(eY [iU t.p]),(eY [iU t.p]),(eY [iU (iw t.p),iU t.p])],
   .ret (.bool false) (W []) 0),
  ([((decide (Int.ofNat i<(Int.ofNat n))),true),((!Ao t.x t.y),false),((nc t.p),false),((!uI (iw t.p) t.p),true)],
   [((0:Int)<=Int.ofNat i/\Int.ofNat i<(Int.ofNat n)),(T.length=n*258),(V.dr (dj T (i*258) 258)=V.dr t.d),(eY [iU t.p]),(eY [iU t.p]),(eY [iU (iw t.p),iU t.p])],
   .ret (.bool false) (W []) 0),
  ([((decide (Int.ofNat i<(Int.ofNat n))),true),((!Ao t.x t.y),false),((nc t.p),false),((!uI (iw t.p) t.p),false),((decide (Int.ofNat i>(0:Int))),true),((!F9 u.x u.y t.x t.y),true)],
   [((0:Int)<=Int.ofNat i/\Int.ofNat i<(Int.ofNat n)),(T.length=n*258),(V.dr (dj T (i*258) 258)=V.dr t.d),(eY [iU t.p]),(eY [iU t.p]),(eY [iU (iw t.p),iU t.p]),OX i,((0:Int)<=Int.ofNat (i-1)/\Int.ofNat (i-1)<(Int.ofNat n)),(T.length=n*258),(V.dr (dj T ((i-1)*258) 258)=V.dr u.d)],
   .ret (.bool false) (W []) 0),
  ([((decide (Int.ofNat i<(Int.ofNat n))),true),((!Ao t.x t.y),false),((nc t.p),false),((!uI (iw t.p) t.p),false),((decide (Int.ofNat i>(0:Int))),true),((!F9 u.x u.y t.x t.y),false)],
   [((0:Int)<=Int.ofNat i/\Int.ofNat i<(Int.ofNat n)),(T.length=n*258),(V.dr (dj T (i*258) 258)=V.dr t.d),(eY [iU t.p]),(eY [iU t.p]),(eY [iU (iw t.p),iU t.p]),OX i,((0:Int)<=Int.ofNat (i-1)/\Int.ofNat (i-1)<(Int.ofNat n)),(T.length=n*258),(V.dr (dj T ((i-1)*258) 258)=V.dr u.d),OY i],
   .to .normal (Ss n T (i+1))),
  ([((decide (Int.ofNat i<(Int.ofNat n))),true),((!Ao t.x t.y),false),((nc t.p),false),((!uI (iw t.p) t.p),false),((decide (Int.ofNat i>(0:Int))),false)],
   [((0:Int)<=Int.ofNat i/\Int.ofNat i<(Int.ofNat n)),(T.length=n*258),(V.dr (dj T (i*258) 258)=V.dr t.d),(eY [iU t.p]),(eY [iU t.p]),(eY [iU (iw t.p),iU t.p]),OY i],
   .to .normal (Ss n T (i+1))),
  ([((decide (Int.ofNat i<(Int.ofNat n))),false)],
   [],
   .to (.exit 0) (Ss n T i))]
 :=dh.of C C C
theorem ahs(T:ai)(i:Nat):dn (U W3 []) [] 0 Tryz.f115 [] (dP OV) (Ss n T i) [([],
   [],
   .ret (.bool true) (W []) 0)]
 :=dh.of C C C
end
theorem rR{α β:Type}{f:α->List β}{w:Nat}(hf:∀x,(f x).length=w):∀l:List α,(l.map f).flatten.length=l.length*w
 | []=>by simp
 |x::l=>by
  rw[cC,List.flatten_cons,aJ,hf,rR hf l,aR,cW];omega
theorem rS{α:Type}{f:α->ai}{w:Nat}(hf:∀x,(f x).length=w):∀(l:List α) (i:Nat) (h:i<l.length),dj ((l.map f).flatten) (i*w) w=f l[i]
 |x::l,0,_=>by
  unfold dj;rw[Nat.zero_mul,ct,cC,List.flatten_cons,List.take_left' (hf x)];rfl
 |x::l,i+1,h=>by
  have ih:=rS hf l i (by simpa using h);unfold dj at ih ⊢;rw[cC,List.flatten_cons,show(i+1)*w=w+i*w by rw[cW];omega,<- List.drop_drop,List.drop_left' (hf x),ih];rfl
theorem Tl.Hy(t:Tl):t.d.length=258:=by simp[Tl.d,CW]
theorem kp(l:List Tl):(jv l).length=l.length*258:=rR Tl.Hy l
theorem zv{l:List Tl}{i:Nat}(h:i<l.length):V.dr (dj (jv l) (i*258) 258)= .dr l[i].d:=aH _ (rS Tl.Hy l i h)
def x5(x y:Int):List Tl->Nat->Int
 | []=>tz
 |t::l=>if t.x=x/\t.y=y then t.p else x5 x y l
theorem Jx{x y:Int}{l:List Tl}{i:Nat}(h:i<l.length):x5 x y (l.drop i)=if l[i].x=x/\l[i].y=y then l[i].p else x5 x y (l.drop (i+1)):=by
 rw[bY h];rfl
theorem aa5(l:List Tl)(x y:Int)(hl:l.length<=1000000):dS ak 133 [oh l,.agg [L x,L y]] (iU (x5 x y l)):=by
 refine eV Tryz.func133 ?_;refine fu 1 fI (ahn l.length (jv l) x y) all_nil ?_;refine pZ fI 0 _ [2,3,4,5] (l.length-·) (fun i=>i<=l.length/\x5 x y l=x5 x y (l.drop i)) (Zr l.length (jv l) x y) 0 ⟨aS _,rfl⟩ (aho _ _ x y) all_nil .refl fun i ⟨hi,hz⟩=>?_;rcases br i l.length with eM|N3
 . rw[Jx eM]at hz;have mR:=zv eM;generalize l[i]=t at hz mR;refine⟨_,fI,[],_,_,aa3 l.length (jv l) x y i t,dz (g2 fun Q R=>⟨J (iM eM) (J (kp l) (J mR (J (iM eM) (J (kp l) (eC mR))))),?_⟩) (dz (g2 fun Q R=>⟨J (iM eM) (J (kp l) (J mR (eC (gJ G)))),i+1,wJ eM,⟨eM,?_⟩,.refl⟩) (dA (g1 fun h=>absurd (tF h) G)))⟩
   . rw[aE (by simpa using R)]at hz;rw[hz];rfl
   . rw[aB (by simpa using R)]at hz;exact hz
 . obtain rfl:i=l.length:=by omega
   rw[List.drop_length]at hz;refine⟨_,fI,[],_,_,aa3 l.length (jv l) x y l.length ⟨0,0,tz⟩,dz (g2 fun Q _=>absurd (ko Q) G) (dz (g2 fun Q _=>absurd (ko Q) G) (dA (g1 fun h=>⟨all_nil,rfl,eI fI (ahp _ _ x y _) (dA (g0 ⟨all_nil,_,_,_,rfl,by rw[hz];rfl⟩))⟩)))⟩
def okT(t:Tl):Prop:=Ao t.x t.y=true/\nc t.p=false/\uI (iw t.p) t.p=true
def UF(l:List Tl)(i:Nat):Prop:=∀t,l[i]? =some t->okT t/\(0<i->∀u,l[i-1]? =some u->F9 u.x u.y t.x t.y=true)
def fc(l:List Tl):Prop:=l.length<=1024/\∀i,i<l.length->UF l i
theorem OZ(l:List Tl)(hl:l.length<=1000000):dS ak 115 [oh l] (.bool (cD (fc l))):=by
 refine eV Tryz.func115 ?_;have bad (h:¬fc l):V.bool false= .bool (cD (fc l)):=vF h;refine isH 2 fI (ahq l.length (jv l)) (dz (g1 fun h=>⟨all_nil,bad fun q=>?_⟩) (dA (g1 fun h0=>⟨all_nil,?_⟩)))
 . have:=aW h;have:=q.1;simp only[gT]at *;omega
 have hn:l.length<=1024:=by have:=bx h0;simp only[gT]at this;omega
 refine pZ fI 0 _ [1,3] (l.length-·) (fun i=>i<=l.length/\∀k,k<i->UF l k) (Ss l.length (jv l)) 0 ⟨aS _,fun _ h=>absurd h (bX _)⟩ (ahr _ _) all_nil .refl fun i ⟨hi,hz⟩=>?_;rcases br i l.length with eM|N3
 . have mR:=zv eM;have hau:=zv (l:=l) (i:=i-1) G;have ht:l[i]? =some l[i]:=au eM;have hu:l[i-1]? =some (l[i-1]'(by omega)):=au G;generalize l[i]=t at ht mR;generalize l[i-1]'(by omega)=u at hu hau;have s' {r:ah} (q:∀a∈r,a):=J (iM eM) (J (kp l) (J mR (J (show eY [iU t.p]from rfl) (J (show eY [iU t.p]from rfl) (J (show eY [iU (iw t.p),iU t.p]from rfl) q)))));have aj {r:ah} (h0:0<i) (q:∀a∈r,a):=s' (J (wH (x:=Int.ofNat i-1) (n:=i-1) Vd G) (J (iM (n:=l.length) (show i-1<l.length by omega)) (J (kp l) (J hau q))));have bad (h:¬UF l i):V.bool false= .bool (cD (fc l)):=bad fun q=>h (q.2 i eM);have go (h:UF l i):∃x',l.length-x'<l.length-i/\(x'<=l.length/\∀k,k<x'->UF l k)/\dZ ak 0 Tryz.f115.ntmps (Ss l.length (jv l) (i+1)) (Ss l.length (jv l) x'):=⟨i+1,wJ eM,⟨eM,fun k Y=>by
    rcases br k i with q|q
    . exact hz k q
    . obtain rfl:k=i:=by omega
      exact h⟩,.refl⟩
   refine⟨_,OW t.p,[],_,_,aa4 l.length (jv l) i t u,dz (g2 fun _ h=>⟨s' all_nil,bad fun q=>?_⟩) (dz (gc fun _=>gc fun _=>g1 fun h=>⟨s' all_nil,bad fun q=>?_⟩) (dz (gc fun _=>gc fun _=>gc fun _=>g1 fun h=>⟨s' all_nil,bad fun q=>?_⟩)
    (dz (gc fun _=>gc fun _=>gc fun _=>gc fun _=>gc fun h0=>g1 fun h=>⟨aj (by have:=aW h0;simp only[gT]at this;omega) all_nil,bad fun q=>?_⟩) (dz (gc fun _=>gc fun Q=>gc fun R=>gc fun h3=>gc fun h0=>g1 fun h=>⟨aj (by have:=aW h0;simp only[gT]at this;omega) (eC (gJ G)),go fun t' UG=>?_⟩)
    (dz (gc fun _=>gc fun Q=>gc fun R=>gc fun h3=>g1 fun h0=>⟨s' (eC (gJ G)),go fun t' UG=>?_⟩) (dA (g1 fun h=>absurd (tF h) G)))))))⟩
   . rw[(q t ht).1.1]at h;cases h
   . rw[(q t ht).1.2.1]at h;cases h
   . rw[(q t ht).1.2.2]at h;cases h
   . have h0:0<i:=by have:=aW h0;simp only[gT]at this;omega
     rw[(q t ht).2 h0 u hu]at h;cases h
   . obtain rfl:t=t':=by rw[ht]at UG;exact de UG
     refine⟨⟨by simpa using Q,R,by simpa using h3⟩,fun _ u' AR=>?_⟩;obtain rfl:u=u':=by rw[hu]at AR;exact de AR
     simpa using h
   . obtain rfl:t=t':=by rw[ht]at UG;exact de UG
     refine⟨⟨by simpa using Q,R,by simpa using h3⟩,fun h=>?_⟩;have:=bx h0;simp only[gT]at this;omega
 . obtain rfl:i=l.length:=by omega
   have no (h:decide (Int.ofNat l.length<Int.ofNat l.length)=true) {q:Prop}:q:=absurd (ko h) G;refine⟨_,OW tz,[],_,_,aa4 l.length (jv l) l.length ⟨0,0,tz⟩ ⟨0,0,tz⟩,dz (gc fun h _=>no h) (dz (gc fun h _=>no h) (dz (gc fun h _=>no h) (dz (gc fun h _=>no h) (dz (gc fun h _=>no h) (dz (gc fun h _=>no h) (dA (g1 fun h=>⟨all_nil,rfl,eI fI (ahs _ _ _) (dA (g0 ⟨all_nil,_,_,_,rfl,vT ⟨hn,hz⟩⟩))⟩)))))))⟩
noncomputable abbrev aa6:Code:=dG Tryz.f166
section
variable(n:Nat)(p:Nat->Int)(os:ai)(i:Nat)
noncomputable abbrev O0:Code:=dm 5 aa6
noncomputable abbrev WPt:gy:=eZ 140 [iU p] (iU (iw p)) (eZ 138 [iU (iw p)] (.bool (nc (iw p))) W3)
theorem Wj:eR ak (WPt p):=fj (OU p) (fj (UC (iw p)) fI)
def fPt(d:Bool):List (Nat×V):=[(3,.ptr (some (0,0))),(4,.ptr (some (1,0))),(5,.ptr (some (2,0))),(6,.ptr (some (3,0))),(7,.ptr (some (4,0))),(9,.bool d)]
def hPt(T:ai)(x y:Int)(q:Nat->Int)(o:V):af:=[(0,.cells [.eo false n T]),(1,.cells [L x,L y]),(2,pxC q),(3,.cells [.eS none 0 0 0]),(4,.cells [o])]
def sP0(T:ai)(x y:Int)(q:Nat->Int)(d:Bool):St:=ff (fPt d) (W (hPt n T x y q (.eS none 0 0 0))) 5
def Wk(T:ai)(x y:Int)(q:Nat->Int)(d:Bool)(i:Nat):St:=ff (fPt d++[(10,M i)]) (W (hPt n T x y q (.eS none 0 0 0))) 5
def KW(T:ai)(x y:Int)(q:Nat->Int)(d:Bool)(m:Nat)(os:ai)(i:Nat):St:=ff (fPt d++[(10,M i)]) (W (hPt n T x y q (.eS (some (5,0)) m m 258)++[(5,.deep os)])) 6
def sPX(T:ai)(x y:Int)(q:Nat->Int)(d:Bool)(m:Nat)(os:ag)(i:Nat):St:=ff (fPt d++[(10,M i)]) (W (hPt n T x y q (.eS (some (5,0)) m m 258)++[(5,.cells os)])) 6
theorem aht(T:ai)(x y:Int)(p:Nat->Int):dn (U (WPt p) []) [] 0 Tryz.f166 [3,4,5,6,7,9] (dN 5 aa6) (dw [.agg [.eo false n T],.agg [L x,L y],iU p] .nil 0) [([],
   [(eY [iU p]),(eY [iU (iw p)])],
   .to .normal (sP0 n T x y (iw p) (nc (iw p))))]
 :=dh.of C C C
theorem ahu(T:ai)(x y:Int)(q:Nat->Int)(d:Bool):dn (U W3 []) [] 0 Tryz.f166 [3,4,5,6,7,9,10] (dB (dB O0)) (sP0 n T x y q d) [([],
   [],
   .to .normal (Wk n T x y q d 0))]
 :=dh.of C C C
def Rh(m:Nat)(ts:ai):ai:=List.take (m*258) (List.drop 0 os)++ts
abbrev zw:Prop:=V.int B (IntKind.i64.wrap (Int.ofNat i+(1:Int)))=M (i+1)
theorem aa7(T:ai)(x y:Int)(q:Nat->Int)(d:Bool)(i:Nat)(t:Tl):dn (U W3 []) [(21,.split),(26,.split),(31,.dy (.dr t.d)),(34,.split),(47,.dy (.dr t.d)),(51,.split),(57,.dy (.dr t.d)),(23,.dy (M (i+1)))] 0 Tryz.f166 [3,4,5,6,7,9,10] (dD (dD (dP (dB O0)))) (Wk n T x y q d i) [([((decide (Int.ofNat i<(Int.ofNat n))),true),((!d),true),((F9 x y t.x t.y),true),((!(t.x==x&&(t.y==y&&true))),true)],
   [((0:Int)<=Int.ofNat i/\Int.ofNat i<(Int.ofNat n)),(T.length=n*258),(V.dr (dj T (i*258) 258)=V.dr t.d),((0:Int)<=Int.ofNat i/\Int.ofNat i<(Int.ofNat n)),(T.length=n*258),(V.dr (dj T (i*258) 258)=V.dr t.d),((0:Int)<=Int.ofNat i/\Int.ofNat i<(Int.ofNat n)),(T.length=n*258),(V.dr (dj T (i*258) 258)=V.dr t.d),zw i],
   .to .normal (sPX n T x y q true 2 (D.fN ((Tl.mk x y q).d++t.d)) (i+1))),
  ([((decide (Int.ofNat i<(Int.ofNat n))),true),((!d),true),((F9 x y t.x t.y),true),((!(t.x==x&&(t.y==y&&true))),false)],
   [((0:Int)<=Int.ofNat i/\Int.ofNat i<(Int.ofNat n)),(T.length=n*258),(V.dr (dj T (i*258) 258)=V.dr t.d),((0:Int)<=Int.ofNat i/\Int.ofNat i<(Int.ofNat n)),(T.length=n*258),(V.dr (dj T (i*258) 258)=V.dr t.d),zw i],
   .to .normal (sPX n T x y q true 1 (D.fN (Tl.mk x y q).d) (i+1))),
  ([((decide (Int.ofNat i<(Int.ofNat n))),true),((!d),true),((F9 x y t.x t.y),false),((!(t.x==x&&(t.y==y&&true))),true)],
   [((0:Int)<=Int.ofNat i/\Int.ofNat i<(Int.ofNat n)),(T.length=n*258),(V.dr (dj T (i*258) 258)=V.dr t.d),((0:Int)<=Int.ofNat i/\Int.ofNat i<(Int.ofNat n)),(T.length=n*258),(V.dr (dj T (i*258) 258)=V.dr t.d),((0:Int)<=Int.ofNat i/\Int.ofNat i<(Int.ofNat n)),(T.length=n*258),(V.dr (dj T (i*258) 258)=V.dr t.d),zw i],
   .to .normal (sPX n T x y q d 1 (D.fN t.d) (i+1))),
  ([((decide (Int.ofNat i<(Int.ofNat n))),true),((!d),true),((F9 x y t.x t.y),false),((!(t.x==x&&(t.y==y&&true))),false)],
   [((0:Int)<=Int.ofNat i/\Int.ofNat i<(Int.ofNat n)),(T.length=n*258),(V.dr (dj T (i*258) 258)=V.dr t.d),((0:Int)<=Int.ofNat i/\Int.ofNat i<(Int.ofNat n)),(T.length=n*258),(V.dr (dj T (i*258) 258)=V.dr t.d),zw i],
   .to .normal (Wk n T x y q d (i+1))),
  ([((decide (Int.ofNat i<(Int.ofNat n))),true),((!d),false),((!(t.x==x&&(t.y==y&&true))),true)],
   [((0:Int)<=Int.ofNat i/\Int.ofNat i<(Int.ofNat n)),(T.length=n*258),(V.dr (dj T (i*258) 258)=V.dr t.d),((0:Int)<=Int.ofNat i/\Int.ofNat i<(Int.ofNat n)),(T.length=n*258),(V.dr (dj T (i*258) 258)=V.dr t.d),zw i],
   .to .normal (sPX n T x y q d 1 (D.fN t.d) (i+1))),
  ([((decide (Int.ofNat i<(Int.ofNat n))),true),((!d),false),((!(t.x==x&&(t.y==y&&true))),false)],
   [((0:Int)<=Int.ofNat i/\Int.ofNat i<(Int.ofNat n)),(T.length=n*258),(V.dr (dj T (i*258) 258)=V.dr t.d),zw i],
   .to .normal (Wk n T x y q d (i+1))),
  ([((decide (Int.ofNat i<(Int.ofNat n))),false)],
   [],
   .to (.exit 0) (Wk n T x y q d i))]
 :=dh.of C C C
abbrev zx:Prop:=V.int B (IntKind.i64.wrap (Int.ofNat i+(1:Int)))=M (i+1)
theorem aa8(T:ai)(x y:Int)(q:Nat->Int)(d:Bool)(m:Nat)(os:ai)(i:Nat)(t:Tl):dn (U W3 []) [(21,.split),(26,.split),(31,.dy (.dr t.d)),(34,.split),(47,.dy (.dr t.d)),(51,.split),(57,.dy (.dr t.d)),(23,.dy (M (i+1)))] 0 Tryz.f166 [3,4,5,6,7,9,10] (dD (dD (dP (dB O0)))) (KW n T x y q d m os i) [([((decide (Int.ofNat i<(Int.ofNat n))),true),((!d),true),((F9 x y t.x t.y),true),((!(t.x==x&&(t.y==y&&true))),true)],
   [((0:Int)<=Int.ofNat i/\Int.ofNat i<(Int.ofNat n)),(T.length=n*258),(V.dr (dj T (i*258) 258)=V.dr t.d),(0+m*258<=os.length),(0<1),(fo (m+1) 258 272=true),((0:Int)<=Int.ofNat i/\Int.ofNat i<(Int.ofNat n)),(T.length=n*258),(V.dr (dj T (i*258) 258)=V.dr t.d),((0:Int)<=Int.ofNat i/\Int.ofNat i<(Int.ofNat n)),(T.length=n*258),(V.dr (dj T (i*258) 258)=V.dr t.d),(0+(m+1)*258<=(List.take (m*258) (List.drop 0 os)++(Tl.mk x y q).d).length),(0<1),(fo (m+1+1) 258 272=true),zx i],
   .to .normal (KW n T x y q true (m+1+1) (Rh (Rh os m (Tl.mk x y q).d) (m+1) t.d) (i+1))),
  ([((decide (Int.ofNat i<(Int.ofNat n))),true),((!d),true),((F9 x y t.x t.y),true),((!(t.x==x&&(t.y==y&&true))),false)],
   [((0:Int)<=Int.ofNat i/\Int.ofNat i<(Int.ofNat n)),(T.length=n*258),(V.dr (dj T (i*258) 258)=V.dr t.d),(0+m*258<=os.length),(0<1),(fo (m+1) 258 272=true),((0:Int)<=Int.ofNat i/\Int.ofNat i<(Int.ofNat n)),(T.length=n*258),(V.dr (dj T (i*258) 258)=V.dr t.d),zx i],
   .to .normal (KW n T x y q true (m+1) (Rh os m (Tl.mk x y q).d) (i+1))),
  ([((decide (Int.ofNat i<(Int.ofNat n))),true),((!d),true),((F9 x y t.x t.y),false),((!(t.x==x&&(t.y==y&&true))),true)],
   [((0:Int)<=Int.ofNat i/\Int.ofNat i<(Int.ofNat n)),(T.length=n*258),(V.dr (dj T (i*258) 258)=V.dr t.d),((0:Int)<=Int.ofNat i/\Int.ofNat i<(Int.ofNat n)),(T.length=n*258),(V.dr (dj T (i*258) 258)=V.dr t.d),((0:Int)<=Int.ofNat i/\Int.ofNat i<(Int.ofNat n)),(T.length=n*258),(V.dr (dj T (i*258) 258)=V.dr t.d),(0+m*258<=os.length),(0<1),(fo (m+1) 258 272=true),zx i],
   .to .normal (KW n T x y q d (m+1) (Rh os m t.d) (i+1))),
  ([((decide (Int.ofNat i<(Int.ofNat n))),true),((!d),true),((F9 x y t.x t.y),false),((!(t.x==x&&(t.y==y&&true))),false)],
   [((0:Int)<=Int.ofNat i/\Int.ofNat i<(Int.ofNat n)),(T.length=n*258),(V.dr (dj T (i*258) 258)=V.dr t.d),((0:Int)<=Int.ofNat i/\Int.ofNat i<(Int.ofNat n)),(T.length=n*258),(V.dr (dj T (i*258) 258)=V.dr t.d),zx i],
   .to .normal (KW n T x y q d m os (i+1))),
  ([((decide (Int.ofNat i<(Int.ofNat n))),true),((!d),false),((!(t.x==x&&(t.y==y&&true))),true)],
   [((0:Int)<=Int.ofNat i/\Int.ofNat i<(Int.ofNat n)),(T.length=n*258),(V.dr (dj T (i*258) 258)=V.dr t.d),((0:Int)<=Int.ofNat i/\Int.ofNat i<(Int.ofNat n)),(T.length=n*258),(V.dr (dj T (i*258) 258)=V.dr t.d),(0+m*258<=os.length),(0<1),(fo (m+1) 258 272=true),zx i],
   .to .normal (KW n T x y q d (m+1) (Rh os m t.d) (i+1))),
  ([((decide (Int.ofNat i<(Int.ofNat n))),true),((!d),false),((!(t.x==x&&(t.y==y&&true))),false)],
   [((0:Int)<=Int.ofNat i/\Int.ofNat i<(Int.ofNat n)),(T.length=n*258),(V.dr (dj T (i*258) 258)=V.dr t.d),zx i],
   .to .normal (KW n T x y q d m os (i+1))),
  ([((decide (Int.ofNat i<(Int.ofNat n))),false)],
   [],
   .to (.exit 0) (KW n T x y q d m os i))]
 :=dh.of C C C
theorem ahv(T:ai)(x y:Int)(q:Nat->Int)(d:Bool)(i:Nat):dn (U W3 []) [(63,.split)] 0 Tryz.f166 [] (dP O0) (Wk n T x y q d i) [([((!d),true)],
   [],
   .ret (.agg [.eS (some (0,0)) 1 1 258]) (W [(0,.cells (D.fN (Tl.mk x y q).d))]) 1),
  ([((!d),false)],
   [],
   .ret (.agg [.eS none 0 0 0]) (W []) 0)]
 :=dh.of C C C
theorem ahw(T:ai)(x y:Int)(q:Nat->Int)(d:Bool)(m:Nat)(os:ai)(i:Nat):dn (U W3 []) [(63,.split)] 0 Tryz.f166 [] (dP O0) (KW n T x y q d m os i) [([((!d),true)],
   [(0+m*258<=os.length),(0<1),(fo (m+1) 258 272=true)],
   .ret (.agg [.eS (some (0,0)) (m+1) (m+1) 258]) (W [(0,.deep (Rh os m (Tl.mk x y q).d))]) 1),
  ([((!d),false)],
   [],
   .ret (.agg [.eS (some (0,0)) m m 258]) (W [(0,.deep os)]) 1)]
 :=dh.of C C C
end
section
variable(x y:Int)(p q:Nat->Int)(s:List Tl×Bool)
def Dq(t:Tl):List Tl×Bool:=
 (if t.x=x/\t.y=y then(if s.2=false/\F9 x y t.x t.y=true then s.1++[⟨x,y,q⟩]else s.1)else(if s.2=false/\F9 x y t.x t.y=true then s.1++[⟨x,y,q⟩]else s.1)++[t],if s.2=false/\F9 x y t.x t.y=true then true else s.2)
noncomputable def Cv(l:List Tl):List Tl×Bool:=l.foldl (Dq x y (iw p)) ([],nc (iw p))
noncomputable def Su(l:List Tl):List Tl:=if(Cv x y p l).2=true then(Cv x y p l).1 else(Cv x y p l).1++[⟨x,y,iw p⟩]
theorem Mq{x y:Int}{p:Nat->Int}{l:List Tl}{i:Nat}{t:Tl}(h:l[i]? =some t):Cv x y p (l.take (i+1))=Dq x y (iw p) (Cv x y p (l.take i)) t:=by
 unfold Cv;rw[b9,h,List.foldl_append];rfl
theorem O1{x y:Int}{q:Nat->Int}{s:List Tl×Bool}{t:Tl}:(Dq x y q s t).1.length<=s.1.length+2:=by
 unfold Dq;simp only;split<;>split<;>(repeat rw[aJ])<;>(try simp only[aR,bU])<;>omega
theorem O2(l:List Tl):(Cv x y p l).1.length<=2*l.length:=by
 have key:∀(l:List Tl) (s:List Tl×Bool),(l.foldl (Dq x y (iw p)) s).1.length<=s.1.length+2*l.length:=by
  intro l
  induction l with
  |nil=>intro s;simp
  |cons t l ih=>
   intro s;have:=ih (Dq x y (iw p) s t);have:=O1 (x:=x) (y:=y) (q:=iw p) (s:=s) (t:=t);simp only[List.foldl_cons,aR];omega
 have:=key l ([],nc (iw p));unfold Cv;simpa using this
theorem Jy(l:List Tl)(t:Tl):Rh (jv l) l.length t.d=jv (l++[t]):=by
 unfold Rh;rw[ct,<- kp l,bD];simp[jv]
def Wl(l:List Tl)(x y:Int)(q:Nat->Int)(s:List Tl×Bool)(i:Nat):St:=match s.1 with
 | []=>Wk l.length (jv l) x y q s.2 i
 |o::r=>KW l.length (jv l) x y q s.2 (o::r).length (jv (o::r)) i
end
theorem Wm{l:List Tl}{x y:Int}{q:Nat->Int}{s:List Tl×Bool}{i:Nat}(h:s.1≠[]):Wl l x y q s i=KW l.length (jv l) x y q s.2 s.1.length (jv s.1) i:=by
 obtain⟨s1,s2⟩:=s;cases s1 with
 |nil=>exact absurd rfl h
 |cons o r=>rfl
theorem O3{k:Nat}(h:k<=100000):fo k 258 272=true:=aY ⟨G,G⟩
theorem jn(l:List Tl)(x y:Int)(p:Nat->Int)(hl:l.length<=1024):dS ak 166 [oh l,.agg [L x,L y],iU p] (oh (Su x y p l)):=by
 refine rQ Tryz.func166 ?_;refine fu 5 (Wj p) (aht l.length (jv l) x y p) (J rfl (eC rfl)) ?_;generalize hq:iw p=q;have ahx:∀k,Cv x y p k=k.foldl (Dq x y q) ([],nc q):=fun k=>by rw[<- hq];rfl
 refine pZ fI 0 _ [3,4,5,6,7,9,10] (l.length-·.1) (fun z:Nat×List Tl×Bool=>z.1<=l.length/\z.2=Cv x y p (l.take z.1)) (fun z=>Wl l x y q z.2 z.1) (0,[],nc q) ⟨aS _,by rw[ahx];rfl⟩ (ahu _ _ x y q (nc q)) all_nil .refl ?_;rintro⟨i,s⟩ ⟨hi,hs⟩;simp only at hi hs;have jO:=O2 x y p (l.take i);rw[<- hs,bn]at jO;have Mr:i=l.length->Su x y p l=if s.2=true then s.1 else s.1++[⟨x,y,q⟩]:=fun h=>by unfold Su;rw[hs,h,bD,hq]
 have tG:∀t,l[i]? =some t->∀A,A=Dq x y q s t->∀hm,(i<l.length->dZ ak 0 Tryz.f166.ntmps hm (Wl l x y q A (i+1)))->i<l.length->∃z':Nat×List Tl×Bool,l.length-z'.1<l.length-i/\(z'.1<=l.length/\z'.2=Cv x y p (l.take z'.1))/\dZ ak 0 Tryz.f166.ntmps hm (Wl l x y q z'.2 z'.1):=fun t ht A dU hm hS eM=>
  ⟨(i+1,A),wJ eM,⟨eM,by rw[Mq ht,<- hs,hq];exact dU⟩,hS eM⟩
 obtain⟨s,d⟩:=s;rcases br i l.length with eM|N3
 . have mR:=zv eM;have ht:l[i]? =some l[i]:=au eM;generalize l[i]=t at ht mR;cases s with
   |nil=>
    refine⟨_,fI,[],_,_,aa7 l.length (jv l) x y q d i t,dz (gc fun _=>gc fun Q=>gc fun R=>g1 fun h3=>⟨?_,tG t ht _ (show(([⟨x,y,q⟩,t],true):List Tl×Bool)=_ from ?_) _ (fun _=>.deep [5] C) eM⟩)
     (dz (gc fun _=>gc fun Q=>gc fun R=>g1 fun h3=>⟨?_,tG t ht _ (show(([⟨x,y,q⟩],true):List Tl×Bool)=_ from ?_) _ (fun _=>.deep [5] C) eM⟩)
     (dz (gc fun _=>gc fun Q=>gc fun R=>g1 fun h3=>⟨?_,tG t ht _ (show(([t],d):List Tl×Bool)=_ from ?_) _ (fun _=>.deep [5] C) eM⟩)
     (dz (gc fun _=>gc fun Q=>gc fun R=>g1 fun h3=>⟨?_,tG t ht _ (show(([],d):List Tl×Bool)=_ from ?_) _ (fun _=>.refl) eM⟩)
     (dz (gc fun _=>gc fun Q=>g1 fun h3=>⟨?_,tG t ht _ (show(([t],d):List Tl×Bool)=_ from ?_) _ (fun _=>.deep [5] C) eM⟩)
     (dz (gc fun _=>gc fun Q=>g1 fun h3=>⟨?_,tG t ht _ (show(([],d):List Tl×Bool)=_ from ?_) _ (fun _=>.refl) eM⟩)
     (dA (g1 fun h=>absurd (tF h) G)))))))⟩
    all_goals first
     |(repeat' (first|exact all_nil|refine J ?_ ?_)
       all_goals first|exact iM eM|exact kp l|exact mR|exact gJ G)
     |(simp only[Bool.not_eq_eq_eq_not,Bool.not_true,Bool.not_false,cq,Bool.and_eq_false_imp,ay,cJ,bZ]at Q h3
       unfold Dq;simp_all)
   |cons o r=>
    have ja:((o::r,d):List Tl×Bool).1≠[]:=by simp
    rw[show Wl l x y q (i,o::r,d).2 (i,o::r,d).1=KW l.length (jv l) x y q d (o::r).length (jv (o::r)) i from rfl];generalize o::r=os at *;simp only at *;have hb:os.length<=4096:=by omega
    have e1:∀t',Rh (jv os) os.length t'.d=jv (os++[t']):=Jy os;have e2:Rh (jv (os++[⟨x,y,q⟩])) (os.length+1) t.d=jv (os++[⟨x,y,q⟩]++[t]):=by
     have:=Jy (os++[⟨x,y,q⟩]) t;rw[aJ]at this;exact this
    have hr:=aa8 l.length (jv l) x y q d os.length (jv os) i t;have VH:∀(w:List Tl) (d':Bool) (m:Nat) (k:ai),w≠[]->m=w.length->k=jv w->dZ ak 0 Tryz.f166.ntmps (KW l.length (jv l) x y q d' m k (i+1)) (Wl l x y q (w,d') (i+1)):=fun w d' m k hw S Y=>by
     rw[Wm hw,S,Y];exact .refl
    refine⟨_,fI,[],_,_,hr,dz (gc fun _=>gc fun Q=>gc fun R=>g1 fun h3=>⟨?_,tG t ht _ (show((os++[⟨x,y,q⟩]++[t],true):List Tl×Bool)=_ from ?_) _ (fun _=>VH _ _ _ _ (by simp) (by simp) (by rw[e1,e2])) eM⟩)
     (dz (gc fun _=>gc fun Q=>gc fun R=>g1 fun h3=>⟨?_,tG t ht _ (show((os++[⟨x,y,q⟩],true):List Tl×Bool)=_ from ?_) _ (fun _=>VH _ _ _ _ (by simp) (by simp) (by rw[e1])) eM⟩)
     (dz (gc fun _=>gc fun Q=>gc fun R=>g1 fun h3=>⟨?_,tG t ht _ (show((os++[t],d):List Tl×Bool)=_ from ?_) _ (fun _=>VH _ _ _ _ (by simp) (by simp) (by rw[e1])) eM⟩)
     (dz (gc fun _=>gc fun Q=>gc fun R=>g1 fun h3=>⟨?_,tG t ht _ (show((os,d):List Tl×Bool)=_ from ?_) _ (fun _=>VH _ _ _ _ ja rfl rfl) eM⟩)
     (dz (gc fun _=>gc fun Q=>g1 fun h3=>⟨?_,tG t ht _ (show((os++[t],d):List Tl×Bool)=_ from ?_) _ (fun _=>VH _ _ _ _ (by simp) (by simp) (by rw[e1])) eM⟩)
     (dz (gc fun _=>gc fun Q=>g1 fun h3=>⟨?_,tG t ht _ (show((os,d):List Tl×Bool)=_ from ?_) _ (fun _=>VH _ _ _ _ ja rfl rfl) eM⟩)
     (dA (g1 fun h=>absurd (tF h) G)))))))⟩
    all_goals first
     |(repeat' (first|exact all_nil|refine J ?_ ?_)
       all_goals first|exact iM eM|exact kp l|exact mR|exact gJ G|exact Nat.zero_lt_one|exact O3 G|(rw[kp];omega)|(rw[ct,aJ,bn,kp,Tl.Hy];omega))
     |(simp only[Bool.not_eq_eq_eq_not,Bool.not_true,Bool.not_false,cq,Bool.and_eq_false_imp,ay,cJ,bZ]at Q h3
       unfold Dq;simp_all)
 . obtain rfl:i=l.length:=by omega
   have hf:=Mr rfl;have no (h:decide (Int.ofNat l.length<Int.ofNat l.length)=true) {q:Prop}:q:=absurd (ko h) G;cases s with
   |nil=>
    refine⟨_,fI,[],_,_,aa7 l.length (jv l) x y q d l.length ⟨0,0,tz⟩,dz (gc fun h _=>no h) (dz (gc fun h _=>no h) (dz (gc fun h _=>no h) (dz (gc fun h _=>no h) (dz (gc fun h _=>no h) (dz (gc fun h _=>no h) (dA (g1 fun _=>⟨all_nil,rfl,eI fI (ahv _ _ x y q d _) (dz (g1 fun h=>⟨all_nil,_,_,_,rfl,?_⟩) (dA (g1 fun h=>⟨all_nil,_,_,_,rfl,?_⟩)))⟩)))))))⟩
    . have hd:d=false:=by simpa using h
      rw[hf,hd,aB (by simp)];exact .Cs (v0:=.agg [.eo false 1 (Tl.mk x y q).d]) [0] (s':=[258=1*258]) C (eC rfl) C C
    . have hd:d=true:=by simpa using h
      rw[hf,hd,aE rfl];exact .self rfl rfl
   |cons o r=>
    rw[show Wl l x y q (l.length,o::r,d).2 (l.length,o::r,d).1=KW l.length (jv l) x y q d (o::r).length (jv (o::r)) l.length from rfl];generalize o::r=os at *;simp only at *;have hb:os.length<=4096:=by omega
    have fz (w:List Tl) (m:Nat) (k:ai) (S:m=w.length) (Y:k=jv w):vh (oh w) (.agg [.eS (some (0,0)) m m 258]) (W [(0,.deep k)]) 1:=by
     subst S Y;exact .Cs (v0:=oh w) [0] (s':=[(jv w).length=w.length*258]) C (eC (kp w)) C C
    refine⟨_,fI,[],_,_,aa8 l.length (jv l) x y q d os.length (jv os) l.length ⟨0,0,tz⟩,dz (gc fun h _=>no h) (dz (gc fun h _=>no h) (dz (gc fun h _=>no h) (dz (gc fun h _=>no h) (dz (gc fun h _=>no h) (dz (gc fun h _=>no h) (dA (g1 fun _=>⟨all_nil,rfl,eI fI (ahw _ _ x y q d _ _ _) (dz (g1 fun h=>⟨J (by rw[kp];omega) (J fa (eC (O3 G))),_,_,_,rfl,?_⟩) (dA (g1 fun h=>⟨all_nil,_,_,_,rfl,?_⟩)))⟩)))))))⟩
    . have hd:d=false:=by simpa using h
      rw[hf,hd,aB (by simp)];exact fz _ _ _ (by simp) (Jy os ⟨x,y,q⟩)
    . have hd:d=true:=by simpa using h
      rw[hf,hd,aE rfl];exact fz _ _ _ rfl rfl
abbrev ra(n:Nat)(T:ai):V:=.agg [.eo false n T]
noncomputable abbrev ahy:Code:=dG Tryz.f134
noncomputable abbrev ahz:Code:=dG Tryz.f108
noncomputable abbrev aa9:Code:=dG Tryz.f67
section
variable(n c k:Nat)
noncomputable abbrev Wn:Code:=dm 2 aa9
theorem ahA(T:ai)(b:Bool):dn (U (eZ 115 [ra n T] (.bool b) W3) []) [(7,.split)] 0 Tryz.f134 [] (ahy) (dw [ra n T] .nil 0) [([((!b),true)],
   [(eY [ra n T])],
   .ret (.agg [.eS none 0 0 0]) (W []) 0),
  ([((!b),false)],
   [(eY [ra n T])],
   .ret (.agg [.eo false n T]) (W []) 0)]
 :=dh.of C C C
abbrev Sv(r g b a:Int):V:=.agg [.int .u8 r,.int .u8 g,.int .u8 b,.int .u8 a]
abbrev KX(x:Int):Int:=IntKind.i64.wrap (x-IntKind.i64.wrap (8*qz x))
noncomputable abbrev WS8(T:ai)(m:Nat)(os:ai)(x y r g b a:Int)(p q:Nat->Int)(k:Nat)(us:ai):gy:=eZ 134 [ra n T] (ra m os) (eZ 133 [ra m os,.agg [L (qz x),L (qz y)]] (iU p) (eZ 136 [iU p,L (KX x),L (KX y),Sv r g b a] (iU q) (eZ 166 [ra m os,.agg [L (qz x),L (qz y)],iU q] (ra k us) W3)))
theorem ahB(T:ai)(m:Nat)(os:ai)(x y r g b a:Int)(p q:Nat->Int)(k:Nat)(us:ai):dn (U (WS8 n T m os x y r g b a p q k us) [(135,[(9,.split)]),(165,[(6,.split)])]) [] 0 Tryz.f108 [] (ahz) (dw [ra n T,L x,L y,Sv r g b a] .nil 0) [([((!Ao (qz x) (qz y)),true)],
   [(eY [ra n T]),(eY [ra m os,.agg [L (qz x),L (qz y)]]),(eY [iU p,L (KX x),L (KX y),Sv r g b a])],
   .ret (.agg [.eS none 0 0 0,.int .i64 1]) (W []) 0),
  ([((!Ao (qz x) (qz y)),false),((decide ((Int.ofNat k)>(1024:Int))),true)],
   [(eY [ra n T]),(eY [ra m os,.agg [L (qz x),L (qz y)]]),(eY [iU p,L (KX x),L (KX y),Sv r g b a]),(eY [ra n T]),(eY [ra m os,.agg [L (qz x),L (qz y)],iU q])],
   .ret (.agg [.eS none 0 0 0,.int .i64 2]) (W []) 0),
  ([((!Ao (qz x) (qz y)),false),((decide ((Int.ofNat k)>(1024:Int))),false)],
   [(eY [ra n T]),(eY [ra m os,.agg [L (qz x),L (qz y)]]),(eY [iU p,L (KX x),L (KX y),Sv r g b a]),(eY [ra n T]),(eY [ra m os,.agg [L (qz x),L (qz y)],iU q])],
   .ret (.agg [.eo false k us,.int .i64 0]) (W []) 0)]
 :=dh.of C C C
def UH(T:ai)(m:Nat)(os:ai)(i:Nat):St:=ff [(0,.eo false n T),(2,.ptr (some (0,0))),(3,.ptr (some (1,0))),(4,M i)] (W [(0,.cells [.eo false 0 []]),(1,.cells [.eo false m os])]) 2
def UI(T:ai)(m:Nat)(os:ai)(i:Nat)(r g b a:Int)(k:Nat):St:=ff [(0,.eo false n T),(2,.ptr (some (0,0))),(3,.ptr (some (1,0))),(4,M i),(5,.ptr (some (2,0))),(6,M k)] (W [(0,.cells [.eo false 0 []]),(1,.cells [.eo false m os]),(2,.cells [.int .u8 r,.int .u8 g,.int .u8 b,.int .u8 a])]) 3
noncomputable abbrev Wo:Code:=dD (dD (dP (dB Wn)))
noncomputable abbrev aba:Code:=dD (dB (dP Wo))
noncomputable abbrev ahC:Code:=dD (dD (dm 2 aba))
theorem ahD(T:ai):dn (U W3 []) [] 0 Tryz.f67 [0,2,3] (dN 2 aa9) (dw [.eo false n T] .nil 0) [([],
   [],
   .to .normal (ff [(0,.eo false n T),(2,.ptr (some (0,0))),(3,.ptr (some (1,0)))] (W [(0,.cells [.eS none 0 0 0]),(1,.cells [.eS none 0 0 0])]) 2))]
 :=dh.of C C C
theorem ahE(T:ai):dn (U W3 []) [] 0 Tryz.f67 [0,2,3,4] (dB (dB Wn)) (ff [(0,.eo false n T),(2,.ptr (some (0,0))),(3,.ptr (some (1,0)))] (W [(0,.cells [.eo false 0 []]),(1,.cells [.eo false 0 []])]) 2) [([],
   [],
   .to .normal (UH n T 0 [] 0))]
 :=dh.of C C C
theorem ahF(T:ai)(m:Nat)(os:ai)(i:Nat):dn (U W3 []) [(12,.split)] 0 Tryz.f67 [0,2,3,4] (dB Wo) (UH n T m os i) [([((decide (Int.ofNat i<(Int.ofNat n))),true)],
   [],
   .to .normal (UH n T m os i)),
  ([((decide (Int.ofNat i<(Int.ofNat n))),false)],
   [],
   .to (.exit 0) (UH n T m os i))]
 :=dh.of C C C
theorem ahG(T:ai)(m:Nat)(os:ai)(i:Nat)(v:Int):dn (U W3 []) [(17,.dy (.dr [.int .i64 v])),(22,.dy (.dr [.int .i64 v])),(28,.dy (.dr [.int .i64 v])),(34,.dy (.dr [.int .i64 v]))] 0 Tryz.f67 [0,2,3,4,5,6] (dN 2 aba) (UH n T m os i) [([],
   [((0:Int)<=Int.ofNat i/\Int.ofNat i<(Int.ofNat n)),(T.length=n*1),(V.dr (dj T (i*1) 1)=V.dr [D.int B v]),((0:Int)<=Int.ofNat i/\Int.ofNat i<(Int.ofNat n)),(T.length=n*1),(V.dr (dj T (i*1) 1)=V.dr [D.int B v]),((0:Int)<=Int.ofNat i/\Int.ofNat i<(Int.ofNat n)),(T.length=n*1),(V.dr (dj T (i*1) 1)=V.dr [D.int B v]),((0:Int)<=Int.ofNat i/\Int.ofNat i<(Int.ofNat n)),(T.length=n*1),(V.dr (dj T (i*1) 1)=V.dr [D.int B v])],
   .to .normal (ff [(0,.eo false n T),(2,.ptr (some (0,0))),(3,.ptr (some (1,0))),(4,.int .i64 (Int.ofNat i)),(5,.ptr (some (2,0))),(6,.int .i64 0)] (W [(0,.cells [.eo false 0 []]),(1,.cells [.eo false m os]),(2,.cells [.int .u8 (IntKind.u8.wrap v),.int .u8 (IntKind.u8.wrap (v.fdiv (32:Int))),.int .u8 (IntKind.u8.wrap (v.fdiv (512:Int))),.int .u8 (IntKind.u8.wrap (Int.ofNat (BitVec.ofInt 8 (IntKind.u8.wrap (v.fdiv (8:Int)))|||BitVec.ofInt 8 (15:Int)).toNat))])]) 3))]
 :=dh.of C C C
abbrev O4(v hk:Int):Prop:=V.int B (IntKind.i64.wrap (IntKind.i64.wrap (IntKind.i64.wrap (Int.ofNat (BitVec.ofInt 64 (v.fdiv (256:Int))&&&BitVec.ofInt 64 (15:Int)).toNat)-(4:Int))+IntKind.i64.wrap (Int.ofNat k*IntKind.i64.wrap (Int.ofNat (BitVec.ofInt 64 v&&&BitVec.ofInt 64 (1:Int)).toNat))))=L hk
abbrev O5(v es:Int):Prop:=V.int B (IntKind.i64.wrap (IntKind.i64.wrap (IntKind.i64.wrap (Int.ofNat (BitVec.ofInt 64 (v.fdiv (16:Int))&&&BitVec.ofInt 64 (15:Int)).toNat)-(4:Int))+Int.ofNat k))=L es
abbrev Jz(v:Int):Prop:=V.int B (IntKind.i64.wrap ((1:Int)+IntKind.i64.wrap (Int.ofNat (BitVec.ofInt 64 v&&&BitVec.ofInt 64 (7:Int)).toNat)))=M c
abbrev O6:Prop:=V.int B (IntKind.i64.wrap (Int.ofNat k+(1:Int)))=M (k+1)
theorem ahH(T:ai)(m:Nat)(os:ai)(i:Nat)(r g b a:Int)(k c:Nat)(v es hk:Int)(k2:Nat)(us:ai)(e:Int):dn (U (eZ 108 [ra m os,L es,L hk,Sv r g b a] (.agg [.eo false k2 us,L e]) W3) []) [(43,.dy (.dr [.int .i64 v])),(46,.dy (M c)),(47,.split),(53,.dy (.dr [.int .i64 v])),(62,.dy (.dr [.int .i64 v])),(70,.dy (.dr [.int .i64 v])),(59,.dy (L es)),(74,.dy (L hk)),(79,.split),(49,.dy (M (k+1)))] 0 Tryz.f67 [0,2,3,4,5,6] (ahC) (UI n T m os i r g b a k) [([((decide (Int.ofNat k<Int.ofNat c)),true),((e==(0:Int)),true)],
   [((0:Int)<=Int.ofNat i/\Int.ofNat i<(Int.ofNat n)),(T.length=n*1),(V.dr (dj T (i*1) 1)=V.dr [D.int B v]),Jz c v,((0:Int)<=Int.ofNat i/\Int.ofNat i<(Int.ofNat n)),(T.length=n*1),(V.dr (dj T (i*1) 1)=V.dr [D.int B v]),O5 k v es,((0:Int)<=Int.ofNat i/\Int.ofNat i<(Int.ofNat n)),(T.length=n*1),(V.dr (dj T (i*1) 1)=V.dr [D.int B v]),((0:Int)<=Int.ofNat i/\Int.ofNat i<(Int.ofNat n)),(T.length=n*1),(V.dr (dj T (i*1) 1)=V.dr [D.int B v]),O4 k v hk,(eY [ra m os,L es,L hk,Sv r g b a]),O6 k],
   .to .normal (UI n T k2 us i r g b a (k+1))),
  ([((decide (Int.ofNat k<Int.ofNat c)),true),((e==(0:Int)),false)],
   [((0:Int)<=Int.ofNat i/\Int.ofNat i<(Int.ofNat n)),(T.length=n*1),(V.dr (dj T (i*1) 1)=V.dr [D.int B v]),Jz c v,((0:Int)<=Int.ofNat i/\Int.ofNat i<(Int.ofNat n)),(T.length=n*1),(V.dr (dj T (i*1) 1)=V.dr [D.int B v]),O5 k v es,((0:Int)<=Int.ofNat i/\Int.ofNat i<(Int.ofNat n)),(T.length=n*1),(V.dr (dj T (i*1) 1)=V.dr [D.int B v]),((0:Int)<=Int.ofNat i/\Int.ofNat i<(Int.ofNat n)),(T.length=n*1),(V.dr (dj T (i*1) 1)=V.dr [D.int B v]),O4 k v hk,(eY [ra m os,L es,L hk,Sv r g b a]),O6 k],
   .to .normal (UI n T m os i r g b a (k+1))),
  ([((decide (Int.ofNat k<Int.ofNat c)),false)],
   [((0:Int)<=Int.ofNat i/\Int.ofNat i<(Int.ofNat n)),(T.length=n*1),(V.dr (dj T (i*1) 1)=V.dr [D.int B v]),Jz c v],
   .to (.exit 2) (UI n T m os i r g b a k))]
 :=dh.of C C C
theorem ahI(T:ai)(m:Nat)(os:ai)(i:Nat)(r g b a:Int)(k:Nat):dn (U W3 []) [(14,.dy (M (i+1)))] 0 Tryz.f67 [0,2,3,4] (dP (dP Wo)) (UI n T m os i r g b a k) [([],
   [(V.int B (IntKind.i64.wrap (Int.ofNat i+(1:Int)))=M (i+1))],
   .to .normal (UH n T m os (i+1)))]
 :=dh.of C C C
theorem ahJ(T:ai)(m:Nat)(os:ai)(i:Nat):dn (U W3 []) [] 0 Tryz.f67 [] (dP Wn) (UH n T m os i) [([],
   [],
   .ret (.agg [.eo false m os]) (W []) 0)]
 :=dh.of C C C
end
noncomputable def O7(l:List Tl):List Tl:=if cD (fc l)=true then l else[]
theorem Fl{p:Prop}:cD p=true↔p:=by
 constructor
 . intro h;by_cases q:p
   . exact q
   . rw[Sq q]at h;cases h
 . exact OS
theorem Sw(l:List Tl):(O7 l).length<=1024:=by
 unfold O7;split
 . rename_i h;exact(Fl.1 h).1
 . simp
theorem ofD(l:List Tl)(hl:l.length<=1000000):dS ak 134 [oh l] (oh (O7 l)):=by
 refine rQ Tryz.func134 ?_;refine eI (fj (OZ l hl) fI) (ahA l.length (jv l) (cD (fc l))) (dz (g1 fun h=>⟨eC rfl,_,_,_,rfl,?_⟩) (dA (g1 fun h=>⟨eC rfl,_,_,_,rfl,?_⟩)))
 . have h:cD (fc l)=false:=by simpa using h
   rw[show O7 l=[]from aB (by rw[h];simp)];exact .self rfl rfl
 . have h:cD (fc l)=true:=by simpa using h
   rw[show O7 l=l from aE h];exact .self rfl rfl
def ahK(s:List Tl×Int):V:=.agg [.eo false s.1.length (jv s.1),L s.2]
noncomputable def Hz(l:List Tl)(x y r g b a:Int):List Tl:=Su (qz x) (qz y) (Jw (x5 (qz x) (qz y) (O7 l)) (KX x) (KX y) r g b a) (O7 l)
noncomputable def vN(l:List Tl)(x y r g b a:Int):List Tl×Int:=if Ao (qz x) (qz y)=true then(if 1024<(Hz l x y r g b a).length then([],2)else(Hz l x y r g b a,0))else([],1)
theorem Ms(l:List Tl)(x y r g b a:Int):(vN l x y r g b a).1.length<=1024:=by
 unfold vN;split
 . split
   . simp
   . simp only;omega
 . simp
theorem abb(l:List Tl)(x y r g b a:Int)(hl:l.length<=1000000):dS ak 108 [oh l,L x,L y,Sv r g b a] (ahK (vN l x y r g b a)):=by
 refine rQ Tryz.func108 ?_;have ho:=Sw l;have O:eY [ra l.length (jv l)]:=rfl;have k:=fj (ofD l hl) (fj (aa5 (O7 l) (qz x) (qz y) G) (fj (ahm (x5 (qz x) (qz y) (O7 l)) (KX x) (KX y) r g b a) (fj (jn (O7 l) (qz x) (qz y) (Jw (x5 (qz x) (qz y) (O7 l)) (KX x) (KX y) r g b a) ho) fI)));refine eI k (ahB l.length (jv l) _ _ x y r g b a _ _ _ _) (dz (g1 fun h=>⟨J rfl (J rfl (eC rfl)),_,_,_,rfl,?_⟩) (dz (g2 fun h R=>⟨J rfl (J rfl (J rfl (J rfl (eC rfl)))),_,_,_,rfl,?_⟩) (dA (g2 fun h R=>⟨J rfl (J rfl (J rfl (J rfl (eC rfl)))),_,_,_,rfl,?_⟩))))
 . have h:Ao (qz x) (qz y)=false:=by simpa using h
   rw[show vN l x y r g b a=([],1)from aB (by rw[h];simp)];exact .self rfl rfl
 . have h:Ao (qz x) (qz y)=true:=by simpa using h
   have R:=aW R;rw[show vN l x y r g b a=([],2)from(aE h).trans (aE (by simp only[gT]at R;unfold Hz;omega))];exact .self rfl rfl
 . have h:Ao (qz x) (qz y)=true:=by simpa using h
   have R:=bx R;rw[show vN l x y r g b a=(Hz l x y r g b a,0)from(aE h).trans (aB (by simp only[gT]at R;unfold Hz;omega))];exact .self rfl rfl
def dM(l:List Int):ai:=l.map (.int .i64)
abbrev fg(l:List Int):V:=.eo false l.length (dM l)
theorem ew(l:List Int):(dM l).length=l.length*1:=by simp[dM]
theorem tc{l:List Int}{i:Nat}{v:Int}(h:l[i]? =some v):V.dr (dj (dM l) (i*1) 1)= .dr [.int .i64 v]:=by
 unfold dj dM;have eM:i<l.length:=(aO.1 h).1;have hv:l[i]=v:=(aO.1 h).2;rw[cS,<- List.map_drop,<- dc,bY eM,hv];rfl
def Sx(v:Int):Int:=IntKind.u8.wrap v
def Sy(v:Int):Int:=IntKind.u8.wrap (v.fdiv 32)
def Sz(v:Int):Int:=IntKind.u8.wrap (v.fdiv 512)
def SA(v:Int):Int:=IntKind.u8.wrap (Int.ofNat (BitVec.ofInt 8 (IntKind.u8.wrap (v.fdiv (8:Int)))|||BitVec.ofInt 8 (15:Int)).toNat)
def CV(v:Int):Nat:=1+(BitVec.ofInt 64 v&&&BitVec.ofInt 64 (7:Int)).toNat
def sx(v:Int)(k:Nat):Int:=IntKind.i64.wrap (IntKind.i64.wrap (IntKind.i64.wrap (Int.ofNat (BitVec.ofInt 64 (v.fdiv (16:Int))&&&BitVec.ofInt 64 (15:Int)).toNat)-(4:Int))+Int.ofNat k)
def sy(v:Int)(k:Nat):Int:=IntKind.i64.wrap (IntKind.i64.wrap (IntKind.i64.wrap (Int.ofNat (BitVec.ofInt 64 (v.fdiv (256:Int))&&&BitVec.ofInt 64 (15:Int)).toNat)-(4:Int))+IntKind.i64.wrap (Int.ofNat k*IntKind.i64.wrap (Int.ofNat (BitVec.ofInt 64 v&&&BitVec.ofInt 64 (1:Int)).toNat)))
theorem O8(v:Int):CV v<=8:=by
 unfold CV;have:(BitVec.ofInt 64 v&&&BitVec.ofInt 64 (7:Int)).toNat<=7:=by
  rw[BitVec.toNat_and];exact Nat.and_le_right
 omega
theorem O9(v:Int):V.int B (IntKind.i64.wrap ((1:Int)+IntKind.i64.wrap (Int.ofNat (BitVec.ofInt 64 v&&&BitVec.ofInt 64 (7:Int)).toNat)))=M (CV v):=by
 have h:=O8 v;unfold CV at h ⊢;generalize (BitVec.ofInt 64 v&&&BitVec.ofInt 64 (7:Int)).toNat=m at h;rw[ik (x:=Int.ofNat m) (by simp only[gT];omega) (by simp only[gT];omega)];exact wH (by simp only[gT];omega) G
noncomputable def Mt(v:Int)(l:List Tl)(k:Nat):List Tl:=if(vN l (sx v k) (sy v k) (Sx v) (Sy v) (Sz v) (SA v)).2=0 then(vN l (sx v k) (sy v k) (Sx v) (Sy v) (Sz v) (SA v)).1 else l
noncomputable def tP(v:Int)(l:List Tl)(k:Nat):List Tl:=(List.range k).foldl (Mt v) l
noncomputable def nR(vs:List Int):List Tl:=vs.foldl (fun l v=>tP v l (CV v)) []
theorem zy(v:Int)(l:List Tl)(k:Nat):tP v l (k+1)=Mt v (tP v l k) k:=by
 unfold tP;rw[List.range_succ,List.foldl_append];rfl
theorem HA{vs:List Int}{i:Nat}{v:Int}(h:vs[i]? =some v):nR (vs.take (i+1))=tP v (nR (vs.take i)) (CV v):=by
 unfold nR;rw[b9,h,List.foldl_append];rfl
theorem Pa{v:Int}{l:List Tl}{k:Nat}(h:l.length<=1024):(Mt v l k).length<=1024:=by
 unfold Mt;split
 . exact Ms ..
 . exact h
theorem Cw{v:Int}{l:List Tl}(h:l.length<=1024):∀k,(tP v l k).length<=1024
 |0=>h
 |k+1=>by rw[zy];exact Pa (Cw h k)
theorem wK(vs:List Int):(nR vs).length<=1024:=by
 have:∀(vs:List Int) (l:List Tl),l.length<=1024->(vs.foldl (fun l v=>tP v l (CV v)) l).length<=1024:=by
  intro vs
  induction vs with
  |nil=>exact fun l h=>h
  |cons v vs ih=>exact fun l h=>ih _ (Cw h _)
 exact this vs [] (by simp)
theorem Pb(vs:List Int)(hv:vs.length<=1000000):dS ak 67 [fg vs] (oh (nR vs)):=by
 refine eV Tryz.func67 ?_;refine fu 2 fI (ahD vs.length (dM vs)) all_nil ?_;refine(dZ.nl (hm:=ff [(0,.eo false vs.length (dM vs)),(2,.ptr (some (0,0))),(3,.ptr (some (1,0)))] (W [(0,.cells [.eo false 0 []]),(1,.cells [.eo false 0 []])]) 2) C) _ _ ?_;refine dI C (dI C (gz fI eH (ahE _ _) (dA (g0 ⟨all_nil,fun A dU=>?_⟩))));simp only[andThen];refine zl (α:=Nat) 0 (vs.length-·) (. <=vs.length) (fun i=>UH vs.length (dM vs) (nR (vs.take i)).length (jv (nR (vs.take i))) i) C C 0 (aS _) (.norm dU) fun i hi=>?_;have jO:=wK (vs.take i);refine dI C (gz fI eH (ahF _ _ _ _ i) (dz (g1 fun h=>⟨all_nil,fun A dU=>?_⟩) (dA (g1 fun h=>⟨all_nil,fun A dU=>?_⟩))))
 . have eM:=ko h;obtain⟨v,hv⟩:∃v,vs[i]? =some v:=⟨_,au eM⟩;have mR:=tc hv;simp only[andThen];refine fU dU (dI C (fB (i:=1) C ?_));have A3 {r:ah} (q:∀a∈r,a):=J (iM eM) (J (ew vs) (J mR q));refine fu 2 fI (ahG _ _ _ _ i v) (A3 (A3 (A3 (A3 all_nil)))) ?_;generalize W:nR (vs.take i)=l at *;refine Eb (α:=Nat) (fn:=Tryz.f67) 2 eH [0,2,3,4,5,6] (CV v-·) (. <=CV v) (fun k=>UI vs.length (dM vs) (tP v l k).length (jv (tP v l k)) i (Sx v) (Sy v) (Sz v) (SA v) k) 0 (aS _) .refl fun k Y=>?_;have hl:=Cw (v:=v) jO k;have kc:=O8 v;refine⟨_,fj (abb (tP v l k) (sx v k) (sy v k) (Sx v) (Sy v) (Sz v) (SA v) G) fI,[],_,_,ahH _ _ _ _ i (Sx v) (Sy v) (Sz v) (SA v) k (CV v) v (sx v k) (sy v k) _ _ _,
    dz (g2 fun Q R=>⟨?_,k+1,wJ (ko Q),ko Q,?_⟩) (dz (g2 fun Q R=>⟨?_,k+1,wJ (ko Q),ko Q,?_⟩) (dA (g1 fun Q=>⟨A3 (eC (O9 v)),fun s2 qV=>?_⟩)))⟩
   . have hk1:=ko Q
     repeat' (first|exact all_nil|refine J ?_ ?_)
     all_goals first|exact iM eM|exact ew vs|exact mR|exact O9 v|exact gJ G|rfl
   rotate_left
   . have hk1:=ko Q
     repeat' (first|exact all_nil|refine J ?_ ?_)
     all_goals first|exact iM eM|exact ew vs|exact mR|exact O9 v|exact gJ G|rfl
   rotate_right
   . have R:(vN (tP v l k) (sx v k) (sy v k) (Sx v) (Sy v) (Sz v) (SA v)).2=0:=by simpa using R
     show dZ ak 0 Tryz.f67.ntmps _ (UI vs.length (dM vs) (tP v l (k+1)).length (jv (tP v l (k+1))) i (Sx v) (Sy v) (Sz v) (SA v) (k+1));rw[zy,show Mt v (tP v l k) k=_ from aE R];exact .refl
   . have R:¬(vN (tP v l k) (sx v k) (sy v k) (Sx v) (Sy v) (Sz v) (SA v)).2=0:=by simpa using R
     show dZ ak 0 Tryz.f67.ntmps _ (UI vs.length (dM vs) (tP v l (k+1)).length (jv (tP v l (k+1))) i (Sx v) (Sy v) (Sz v) (SA v) (k+1));rw[zy,show Mt v (tP v l k) k=_ from aB R];exact .refl
   . have hkc:k=CV v:=by have:=tF Q;omega
     subst hkc;rw[gW];simp only[andThen,gw,cr,reduceCtorEq];refine fU qV (gz fI eH (ahI _ _ _ _ i _ _ _ _ _) (dA (g0 ⟨eC (gJ G),fun s3 KY=>⟨i+1,wJ eM,eM,?_⟩⟩)));rw[HA hv,W];exact .norm KY
 . have N3:=tF h;obtain rfl:i=vs.length:=by omega
   simp only[andThen,gW];refine fU dU (eI fI (ahJ _ _ _ _ _) (dA (g0 ⟨all_nil,_,_,_,rfl,?_⟩)));rw[bD];rfl
noncomputable abbrev abc:Code:=dG Tryz.f109
noncomputable abbrev Wp:Code:=dm 3 abc
noncomputable abbrev abd:Code:=dm 1 Wp
noncomputable abbrev Pc:Code:=dm 3 abd
section
variable(n:Nat)(ks:List Int)(m:Nat)
def a16(v:Int):Int:=IntKind.i64.wrap (Int.ofNat (BitVec.ofInt 64 v&&&BitVec.ofInt 64 (65535:Int)).toNat)
def apI(x:Int):List Int:=List.take (m*1) (List.drop 0 ks)++[x]
def crv(cs lw c:Int):Int:=IntKind.i64.wrap (lw+IntKind.i64.wrap ((IntKind.i64.wrap (c*IntKind.i64.wrap ((65535:Int)-lw))).tdiv cs))
def Wq(T:ai)(ks:List Int)(m:Nat)(cs:Int)(i:Nat):St:=ff [(0,.eo false n T),(3,.eS (some (0,0)) m m 1),(4,L cs),(5,M i)] (W [(0,.own .i64 ks)]) 1
def UJ(cs lw:Int)(i:Nat):St:=ff [(3,.eS (some (0,0)) m m 1),(4,L cs),(6,L lw),(7,M i)] (W [(0,.own .i64 ks)]) 1
theorem ahN(T:ai):dn (U W3 []) [] 0 Tryz.f109 [0,3,4] (dN 3 abc) (dw [.eo false n T] .nil 0) [([],
   [],
   .to .normal (ff [(0,.eo false n T),(3,.eS (some (0,0)) 1 1 1),(4,.int .i64 0)] (W [(0,.cells [.int .i64 0])]) 1))]
 :=dh.of C C C
theorem ahO(T:ai):dn (U W3 []) [] 0 Tryz.f109 [0,3,4,5] (dB (dB Wp)) (ff [(0,.eo false n T),(3,.eS (some (0,0)) 1 1 1),(4,L 0)] (W [(0,.own .i64 [0])]) 1) [([],
   [],
   .to .normal (Wq n T [0] 1 0 0))]
 :=dh.of C C C
theorem ahP(T:ai)(ks:List Int)(m:Nat)(cs:Int)(i:Nat)(v:Int):dn (U W3 []) [(13,.split),(15,.dy (.bool true)),(22,.dy (.dr [.int .i64 v])),(18,.dy (M (i+1)))] 0 Tryz.f109 [0,3,4,5] (dD (dD (dP (dB Wp)))) (Wq n T ks m cs i) [([((decide (Int.ofNat i<(Int.ofNat n))),true)],
   [(V.bool (decide (Int.ofNat i<(256:Int)))=V.bool true),((0:Int)<=Int.ofNat i/\Int.ofNat i<(Int.ofNat n)),(T.length=n*1),(V.dr (dj T (i*1) 1)=V.dr [D.int B v]),(0<m),(0+m*1<=ks.length),(0<1),(fo (m+1) 1 8=true),(V.int B (IntKind.i64.wrap (Int.ofNat i+(1:Int)))=M (i+1))],
   .to .normal (Wq n T (apI ks m (IntKind.i64.wrap (cs+a16 v))) (m+1) (IntKind.i64.wrap (cs+a16 v)) (i+1))),
  ([((decide (Int.ofNat i<(Int.ofNat n))),false)],
   [],
   .to (.exit 0) (Wq n T ks m cs i))]
 :=dh.of C C C
theorem ahQ(T:ai)(ks:List Int)(m:Nat)(cs:Int)(i:Nat)(v w:Int):dn (U W3 []) [(32,.dy (.bool false)),(39,.dy (.bool true)),(41,.dy (.dr [.int .i64 v])),(44,.split),(47,.dy (.dr [.int .i64 w]))] 0 Tryz.f109 [3,4,6] (dN 3 abd) (Wq n T ks m cs i) [([((IntKind.i64.wrap (Int.ofNat (BitVec.ofInt 64 v&&&BitVec.ofInt 64 (7:Int)).toNat)==(3:Int)),true)],
   [(V.bool (decide ((Int.ofNat m)<(2:Int)))=V.bool false),(V.bool (decide ((Int.ofNat n)>(2:Int)))=V.bool true),((0:Int)<=(0:Int)/\(0:Int)<(Int.ofNat n)),(T.length=n*1),(V.dr (dj T 0 1)=V.dr [D.int B v]),((0:Int)<=(1:Int)/\(1:Int)<(Int.ofNat n)),(T.length=n*1),(V.dr (dj T 1 1)=V.dr [D.int B w])],
   .to .normal (ff [(3,.eS (some (0,0)) m m 1),(4,L cs),(6,L (IntKind.i64.wrap (Int.ofNat (BitVec.ofInt 64 w&&&BitVec.ofInt 64 (4095:Int)).toNat)))] (W [(0,.own .i64 ks)]) 1)),
  ([((IntKind.i64.wrap (Int.ofNat (BitVec.ofInt 64 v&&&BitVec.ofInt 64 (7:Int)).toNat)==(3:Int)),false)],
   [(V.bool (decide ((Int.ofNat m)<(2:Int)))=V.bool false),(V.bool (decide ((Int.ofNat n)>(2:Int)))=V.bool true),((0:Int)<=(0:Int)/\(0:Int)<(Int.ofNat n)),(T.length=n*1),(V.dr (dj T 0 1)=V.dr [D.int B v])],
   .to .normal (ff [(3,.eS (some (0,0)) m m 1),(4,L cs),(6,L 0)] (W [(0,.own .i64 ks)]) 1))]
 :=dh.of C C C
theorem ahR(cs lw:Int):dn (U W3 []) [] 0 Tryz.f109 [3,4,6,7] (dB (dB Pc)) (ff [(3,.eS (some (0,0)) m m 1),(4,L cs),(6,L lw)] (W [(0,.own .i64 ks)]) 1) [([],
   [],
   .to .normal (UJ ks m cs lw 0))]
 :=dh.of C C C
theorem ahS(cs lw:Int)(i:Nat)(c:Int):dn (U W3 []) [(54,.split),(56,.split),(66,.dy (L c)),(59,.dy (M (i+1)))] 0 Tryz.f109 [3,4,6,7] (dD (dD (dP (dB Pc)))) (UJ ks m cs lw i) [([((decide (Int.ofNat i<(Int.ofNat m))),true),((decide (cs>(0:Int))),true)],
   [((0:Int)<=Int.ofNat i/\Int.ofNat i<(Int.ofNat m)),(0+i*1<ks.length),(V.int B (ks.getD (0+i*1) (0:Int))=L c),(cs≠(0:Int)),((0:Int)<=Int.ofNat i/\Int.ofNat i<(Int.ofNat m)),(0+i*1+1<=ks.length),(V.int B (IntKind.i64.wrap (Int.ofNat i+(1:Int)))=M (i+1))],
   .to .normal (UJ (AA ks (0+i*1) [crv cs lw c]) m cs lw (i+1))),
  ([((decide (Int.ofNat i<(Int.ofNat m))),true),((decide (cs>(0:Int))),false)],
   [],
   .to (.exit 2) (UJ ks m cs lw i)),
  ([((decide (Int.ofNat i<(Int.ofNat m))),false)],
   [],
   .to (.exit 2) (UJ ks m cs lw i))]
 :=dh.of C C C
theorem ahT(cs lw:Int)(i:Nat):dn (U W3 []) [] 0 Tryz.f109 [] (dP Pc) (UJ ks m cs lw i) [([],
   [],
   .ret (.eS (some (0,0)) m m 1) (W [(0,.own .i64 ks)]) 1)]
 :=dh.of C C C
end
section
variable(s:List Int)(f:Int->Int)(ks:List Int)(i:Nat)
def qN:List Int×Int:=s.foldl (fun x v=>(x.1++[IntKind.i64.wrap (x.2+a16 v)],IntKind.i64.wrap (x.2+a16 v))) ([0],0)
theorem Pd{s:List Int}{i:Nat}{v:Int}(h:s[i]? =some v):qN (s.take (i+1))=((qN (s.take i)).1++[IntKind.i64.wrap ((qN (s.take i)).2+a16 v)],IntKind.i64.wrap ((qN (s.take i)).2+a16 v)):=by
 unfold qN;rw[b9,h,List.foldl_append];rfl
theorem KZ:(qN s).1.length=s.length+1:=by
 have:∀(s:List Int) (x:List Int×Int),(s.foldl (fun x v=>(x.1++[IntKind.i64.wrap (x.2+a16 v)],IntKind.i64.wrap (x.2+a16 v))) x).1.length=x.1.length+s.length:=by
  intro s
  induction s with
  |nil=>intro x;rfl
  |cons v s ih=>intro x;rw[List.foldl_cons,ih,aJ];simp;omega
 unfold qN;rw[this];simp;omega
theorem Wr(x:Int):apI ks ks.length x=ks++[x]:=by
 unfold apI;rw[ct,cS,bD]
def mx:List Int:=(ks.take i).map f++ks.drop i
theorem Fm:(mx f ks i).length=ks.length:=by
 unfold mx;rw[aJ,bI,bn,List.length_drop];omega
end
section
variable(s:List Int){f:Int->Int}{ks:List Int}{i:Nat}{c:Int}
theorem Ws(h:ks[i]? =some c):(mx f ks i).getD (0+i*1) 0=c:=by
 have eM:i<ks.length:=(aO.1 h).1;unfold mx;rw[ax,b5,cS,cM (by rw[bI,bn];omega),bI,bn,bO,show i+(i-min i ks.length)=i by omega,h];rfl
theorem Wt(h:ks[i]? =some c):AA (mx f ks i) (0+i*1) [f c]=mx f ks (i+1):=by
 have eM:i<ks.length:=(aO.1 h).1;have hv:ks[i]=c:=(aO.1 h).2;have hl:((ks.take i).map f).length=i:=by rw[bI,bn];omega
 unfold AA mx;rw[b5,cS,List.take_left' hl,List.length_singleton,<- List.drop_drop,List.drop_left' hl,List.drop_drop,b9,h,bR];simp
def Wu:Int:=match s with
 |v::w::_=>if IntKind.i64.wrap (Int.ofNat (BitVec.ofInt 64 v&&&BitVec.ofInt 64 (7:Int)).toNat)=3 then IntKind.i64.wrap (Int.ofNat (BitVec.ofInt 64 w&&&BitVec.ofInt 64 (4095:Int)).toNat)else 0
 |_=>0
def Pe:List Int:=if 0<(qN s).2 then(qN s).1.map (crv (qN s).2 (Wu s))else(qN s).1
theorem Wv{k:Nat}(h:k<=100000):fo k 1 8=true:=aY ⟨G,G⟩
theorem abe(R:2<s.length)(h3:s.length<=200):dS ak 109 [fg s] (fg (Pe s)):=by
 refine rQ Tryz.func109 ?_;refine fu 3 fI (ahN s.length (dM s)) all_nil (ze [(0,.i64)] (s2:=ff [(0,.eo false s.length (dM s)),(3,.eS (some (0,0)) 1 1 1),(4,L 0)] (W [(0,.own .i64 [0])]) 1) C ?_);refine pZ fI 0 _ [0,3,4,5] (s.length-·) (. <=s.length) (fun i=>Wq s.length (dM s) (qN (s.take i)).1 (qN (s.take i)).1.length (qN (s.take i)).2 i) 0 (aS _) (ahO _ _) all_nil .refl fun i hi=>?_;have hl:=KZ (s.take i);rw[bn,Nat.min_eq_left hi]at hl;refine⟨_,fI,[],_,_,ahP _ _ _ _ _ i (s.getD i 0),dz (g1 fun h=>?_) (dA (g1 fun h=>⟨all_nil,rfl,?_⟩))⟩
 . have eM:=ko h;obtain⟨v,hv⟩:∃v,s[i]? =some v:=⟨_,au eM⟩;have ev:s.getD i 0=v:=by rw[ax,hv];rfl
   rw[ev];refine⟨J (aH V.bool (aY (by simp only[gT];omega))) (J (iM eM) (J (ew s) (J (tc hv) (J G (J G (J Nat.zero_lt_one (J (Wv G) (eC (gJ G))))))))),i+1,wJ eM,eM,?_⟩;show dZ _ _ _ _ (Wq s.length (dM s) (qN (s.take (i+1))).1 (qN (s.take (i+1))).1.length (qN (s.take (i+1))).2 (i+1));rw[Pd hv,Wr];simp only[aJ,List.length_singleton];exact .refl
 obtain rfl:i=s.length:=by have:=tF h;omega
 clear h;rw[bD]at hl ⊢;obtain⟨v,w,r,rfl⟩:∃v w r,s=v::w::r:=by
  match s,R with
  |v::w::r,_=>exact⟨v,w,r,rfl⟩
 generalize hs:v::w::r=s at *;have hvw:s[0]? =some v/\s[1]? =some w:=by subst hs;exact⟨rfl,rfl⟩
 have fq:Wu s=if IntKind.i64.wrap (Int.ofNat (BitVec.ofInt 64 v&&&BitVec.ofInt 64 (7:Int)).toNat)=3 then IntKind.i64.wrap (Int.ofNat (BitVec.ofInt 64 w&&&BitVec.ofInt 64 (4095:Int)).toNat)else 0:=by subst hs;rfl
 have pJ:∀lw,lw=Wu s->TG ak 0 Tryz.f109.ntmps Pc (ff [(3,.eS (some (0,0)) (qN s).1.length (qN s).1.length 1),(4,L (qN s).2),(6,L lw)] (W [(0,.own .i64 (qN s).1)]) 1) (fD ak 0 Tryz.f109 (vh (fg (Pe s)))):=by
  intro lw hw;refine pZ fI 2 _ [3,4,6,7] ((qN s).1.length-·) (fun i=>i<=(qN s).1.length/\(0<i->0<(qN s).2)) (fun i=>UJ (mx (crv (qN s).2 lw) (qN s).1 i) (qN s).1.length (qN s).2 lw i) 0 ⟨aS _,fun h=>absurd h (cZ _)⟩ (ahR _ _ _ _) all_nil .refl fun i ⟨hi,hT⟩=>?_;have ret:∀ks,ks=Pe s->ks.length=(qN s).1.length->∀i,TG ak 0 Tryz.f109.ntmps (dP Pc) (UJ ks (qN s).1.length (qN s).2 lw i) (fD ak 0 Tryz.f109 (vh (fg (Pe s)))):=by
   intro ks Y UK i;rw[<- UK,<- Y];exact eI fI (ahT ks ks.length (qN s).2 lw i) (dA (g0 ⟨all_nil,_,_,_,rfl,.Cs (v0:=fg ks) [0] (s':=[(dM ks).length=ks.length*1]) C (eC (ew ks)) C C⟩))
  refine⟨_,fI,[],_,_,ahS _ _ _ _ i ((qN s).1.getD i 0),dz (g2 fun h h0=>?_) (dz (g2 fun h h0=>⟨all_nil,rfl,?_⟩) (dA (g1 fun h=>⟨all_nil,rfl,?_⟩)))⟩
  . have eM:=ko h;have h0:0<(qN s).2:=aW h0;obtain⟨c,K⟩:∃c,(qN s).1[i]? =some c:=⟨_,au eM⟩;have ev:(qN s).1.getD i 0=c:=by rw[ax,K];rfl
    rw[ev,Wt K];exact⟨J (iM eM) (J (by rw[Fm];omega) (J (by rw[Ws K]) (J G (J (iM eM) (J (by rw[Fm];omega) (eC (gJ G))))))),i+1,wJ eM,⟨eM,fun _=>h0⟩,.refl⟩
  . have h0:¬0<(qN s).2:=bx h0;obtain rfl:i=0:=by
     rcases Nat.eq_zero_or_pos i with q|q
     . exact q
     . exact absurd (hT q) h0
    refine ret _ ?_ (Fm ..) _;rw[show Pe s=(qN s).1 from aB h0];rfl
  . obtain rfl:i=(qN s).1.length:=by have:=tF h;omega
    refine ret _ ?_ (Fm ..) _;rw[show Pe s=_ from aE (hT G),<- hw];unfold mx;rw[bD,List.drop_length,List.append_nil]
 have S:V.bool (decide ((Int.ofNat (qN s).1.length)<(2:Int)))=V.bool false:=aH V.bool (aU (by simp only[gT];omega));have hn:V.bool (decide ((Int.ofNat s.length)>(2:Int)))=V.bool true:=aH V.bool (aY (by simp only[gT];omega));have b0:(0:Int)<=(0:Int)/\(0:Int)<(Int.ofNat s.length):=⟨Int.le_refl _,by simp only[gT];omega⟩;have b1:(0:Int)<=(1:Int)/\(1:Int)<(Int.ofNat s.length):=⟨fa,by simp only[gT];omega⟩;refine tO 3 fI (ahQ s.length (dM s) (qN s).1 (qN s).1.length (qN s).2 s.length v w) (dz (g1 fun h=>⟨J S (J hn (J b0 (J (ew s) (J (tc hvw.1) (J b1 (J (ew s) (eC (tc hvw.2)))))))),_,rfl,pJ _ ?_⟩) (dA (g1 fun h=>⟨J S (J hn (J b0 (J (ew s) (eC (tc hvw.1))))),_,rfl,pJ _ ?_⟩)))
 . rw[fq,aE (by simpa using h)]
 . rw[fq,aB (by simpa using h)]
end
section
variable(n:Nat)(f:Nat->Int)
noncomputable abbrev abf:Code:=dG Tryz.f69
noncomputable abbrev Ds:Code:=dm 3 abf
def ahV:ag:=(List.range 60).map fun j=>L (f j)
def f12(s:List Int)(j:Nat):Int:=match s[j]? with
 |some v=>a16 v
 |none=>0
def zz(n:Nat):List Int:=(List.range n).map fun i=>IntKind.i64.wrap ((f (3+i)).tmod 9-2)
def Pf(T:ai)(f:Nat->Int):St:=ff [(0,.eo false n T),(2,.ptr (some (0,0))),(3,.ptr (some (1,0)))] (W [(0,.cells [L 0,L 0,.eS none 0 0 0,L 0,L 0,.eS none 0 0 0]),(1,.cells (ahV f))]) 2
abbrev v12(a b c d e g h i j k l m:Int):V:=.eo false 12 [.int .i64 a,.int .i64 b,.int .i64 c,.int .i64 d,.int .i64 e,.int .i64 g,.int .i64 h,.int .i64 i,.int .i64 j,.int .i64 k,.int .i64 l,.int .i64 m]
theorem ahW(a b c d e g h i j k l m:Int):dn (U W3 []) [] 0 Tryz.f69 [0,2,3] (dN 3 abf) (dw [v12 a b c d e g h i j k l m] .nil 0) [([],
   [((0:Int)<=(0:Int)/\(0:Int)<(12:Int)),([D.int B a,D.int B b,D.int B c,D.int B d,D.int B e,D.int B g,D.int B h,D.int B i,D.int B j,D.int B k,D.int B l,D.int B m].length=12),((0:Int)<=(0:Int)/\(0:Int)<(60:Int)),((0:Int)<=(1:Int)/\(1:Int)<(12:Int)),([D.int B a,D.int B b,D.int B c,D.int B d,D.int B e,D.int B g,D.int B h,D.int B i,D.int B j,D.int B k,D.int B l,D.int B m].length=12),((0:Int)<=(1:Int)/\(1:Int)<(60:Int)),((0:Int)<=(2:Int)/\(2:Int)<(12:Int)),([D.int B a,D.int B b,D.int B c,D.int B d,D.int B e,D.int B g,D.int B h,D.int B i,D.int B j,D.int B k,D.int B l,D.int B m].length=12),((0:Int)<=(2:Int)/\(2:Int)<(60:Int)),((0:Int)<=(3:Int)/\(3:Int)<(12:Int)),([D.int B a,D.int B b,D.int B c,D.int B d,D.int B e,D.int B g,D.int B h,D.int B i,D.int B j,D.int B k,D.int B l,D.int B m].length=12),((0:Int)<=(3:Int)/\(3:Int)<(60:Int)),((0:Int)<=(4:Int)/\(4:Int)<(12:Int)),([D.int B a,D.int B b,D.int B c,D.int B d,D.int B e,D.int B g,D.int B h,D.int B i,D.int B j,D.int B k,D.int B l,D.int B m].length=12),((0:Int)<=(4:Int)/\(4:Int)<(60:Int)),((0:Int)<=(5:Int)/\(5:Int)<(12:Int)),([D.int B a,D.int B b,D.int B c,D.int B d,D.int B e,D.int B g,D.int B h,D.int B i,D.int B j,D.int B k,D.int B l,D.int B m].length=12),((0:Int)<=(5:Int)/\(5:Int)<(60:Int)),((0:Int)<=(6:Int)/\(6:Int)<(12:Int)),([D.int B a,D.int B b,D.int B c,D.int B d,D.int B e,D.int B g,D.int B h,D.int B i,D.int B j,D.int B k,D.int B l,D.int B m].length=12),((0:Int)<=(6:Int)/\(6:Int)<(60:Int)),((0:Int)<=(7:Int)/\(7:Int)<(12:Int)),([D.int B a,D.int B b,D.int B c,D.int B d,D.int B e,D.int B g,D.int B h,D.int B i,D.int B j,D.int B k,D.int B l,D.int B m].length=12),((0:Int)<=(7:Int)/\(7:Int)<(60:Int)),((0:Int)<=(8:Int)/\(8:Int)<(12:Int)),([D.int B a,D.int B b,D.int B c,D.int B d,D.int B e,D.int B g,D.int B h,D.int B i,D.int B j,D.int B k,D.int B l,D.int B m].length=12),((0:Int)<=(8:Int)/\(8:Int)<(60:Int)),((0:Int)<=(9:Int)/\(9:Int)<(12:Int)),([D.int B a,D.int B b,D.int B c,D.int B d,D.int B e,D.int B g,D.int B h,D.int B i,D.int B j,D.int B k,D.int B l,D.int B m].length=12),((0:Int)<=(9:Int)/\(9:Int)<(60:Int)),((0:Int)<=(10:Int)/\(10:Int)<(12:Int)),([D.int B a,D.int B b,D.int B c,D.int B d,D.int B e,D.int B g,D.int B h,D.int B i,D.int B j,D.int B k,D.int B l,D.int B m].length=12),((0:Int)<=(10:Int)/\(10:Int)<(60:Int)),((0:Int)<=(11:Int)/\(11:Int)<(12:Int)),([D.int B a,D.int B b,D.int B c,D.int B d,D.int B e,D.int B g,D.int B h,D.int B i,D.int B j,D.int B k,D.int B l,D.int B m].length=12),((0:Int)<=(11:Int)/\(11:Int)<(60:Int))],
   .to .normal (Pf 12 [.int .i64 a,.int .i64 b,.int .i64 c,.int .i64 d,.int .i64 e,.int .i64 g,.int .i64 h,.int .i64 i,.int .i64 j,.int .i64 k,.int .i64 l,.int .i64 m] (f12 [a,b,c,d,e,g,h,i,j,k,l,m])))]
 :=dh.of C C C
theorem abg(T:ai)(f:Nat->Int):dn (U W3 []) [(31,.dy (L 1)),(36,.dy (L 0))] 0 Tryz.f69 [] (Ds) (Pf n T f) [([],
   [(V.int B (IntKind.i64.wrap ((1:Int)+(f (0)).tmod (8:Int)))=L (1:Int)),(V.int B ((f (1)).tmod (3:Int))=L (0:Int)),((0:Int)<=(3:Int)/\(3:Int)<(60:Int))],
   .ret (.agg [L (IntKind.i64.wrap (1+(f 0).tmod 8)),L 0,.eS (some (0,0)) 1 1 1,L (IntKind.i64.wrap (1+(f 2).tmod 20)),L 0,.eS none 0 0 0]) (W [(0,.cells ((zz f 1).map L))]) 1)]
 :=dh.of C C C
theorem abh(T:ai)(f:Nat->Int):dn (U W3 []) [(31,.dy (L 1)),(36,.dy (L 1))] 0 Tryz.f69 [] (Ds) (Pf n T f) [([],
   [(V.int B (IntKind.i64.wrap ((1:Int)+(f (0)).tmod (8:Int)))=L (1:Int)),(V.int B ((f (1)).tmod (3:Int))=L (1:Int)),((0:Int)<=(3:Int)/\(3:Int)<(60:Int)),((0:Int)<=(4:Int)/\(4:Int)<(60:Int)),((0:Int)<=(5:Int)/\(5:Int)<(60:Int)),((0:Int)<=(6:Int)/\(6:Int)<(60:Int)),((0:Int)<=(7:Int)/\(7:Int)<(60:Int)),((0:Int)<=(8:Int)/\(8:Int)<(60:Int)),((0:Int)<=(9:Int)/\(9:Int)<(60:Int)),((0:Int)<=(10:Int)/\(10:Int)<(60:Int)),((0:Int)<=(11:Int)/\(11:Int)<(60:Int))],
   .ret (.agg [L (IntKind.i64.wrap (1+(f 0).tmod 8)),L 1,.eS (some (0,0)) 9 9 1,L (IntKind.i64.wrap (1+(f 2).tmod 20)),L 0,.eS none 0 0 0]) (W [(0,.cells ((zz f 9).map L))]) 1)]
 :=dh.of C C C
theorem abi(T:ai)(f:Nat->Int):dn (U W3 []) [(31,.dy (L 1)),(36,.dy (L 2))] 0 Tryz.f69 [] (Ds) (Pf n T f) [([],
   [(V.int B (IntKind.i64.wrap ((1:Int)+(f (0)).tmod (8:Int)))=L (1:Int)),(V.int B ((f (1)).tmod (3:Int))=L (2:Int)),((0:Int)<=(3:Int)/\(3:Int)<(60:Int)),((0:Int)<=(4:Int)/\(4:Int)<(60:Int)),((0:Int)<=(5:Int)/\(5:Int)<(60:Int)),((0:Int)<=(6:Int)/\(6:Int)<(60:Int)),((0:Int)<=(7:Int)/\(7:Int)<(60:Int)),((0:Int)<=(8:Int)/\(8:Int)<(60:Int)),((0:Int)<=(9:Int)/\(9:Int)<(60:Int)),((0:Int)<=(10:Int)/\(10:Int)<(60:Int)),((0:Int)<=(11:Int)/\(11:Int)<(60:Int)),((0:Int)<=(12:Int)/\(12:Int)<(60:Int)),((0:Int)<=(13:Int)/\(13:Int)<(60:Int)),((0:Int)<=(14:Int)/\(14:Int)<(60:Int)),((0:Int)<=(15:Int)/\(15:Int)<(60:Int)),((0:Int)<=(16:Int)/\(16:Int)<(60:Int)),((0:Int)<=(17:Int)/\(17:Int)<(60:Int)),((0:Int)<=(18:Int)/\(18:Int)<(60:Int)),((0:Int)<=(19:Int)/\(19:Int)<(60:Int)),((0:Int)<=(20:Int)/\(20:Int)<(60:Int)),((0:Int)<=(21:Int)/\(21:Int)<(60:Int)),((0:Int)<=(22:Int)/\(22:Int)<(60:Int)),((0:Int)<=(23:Int)/\(23:Int)<(60:Int)),((0:Int)<=(24:Int)/\(24:Int)<(60:Int)),((0:Int)<=(25:Int)/\(25:Int)<(60:Int)),((0:Int)<=(26:Int)/\(26:Int)<(60:Int)),((0:Int)<=(27:Int)/\(27:Int)<(60:Int))],
   .ret (.agg [L (IntKind.i64.wrap (1+(f 0).tmod 8)),L 2,.eS (some (0,0)) 25 25 1,L (IntKind.i64.wrap (1+(f 2).tmod 20)),L 0,.eS none 0 0 0]) (W [(0,.cells ((zz f 25).map L))]) 1)]
 :=dh.of C C C
theorem ahX(T:ai)(f:Nat->Int):dn (U W3 []) [(31,.dy (L 2))] 0 Tryz.f69 [] (Ds) (Pf n T f) [([],
   [(V.int B (IntKind.i64.wrap ((1:Int)+(f (0)).tmod (8:Int)))=L (2:Int))],
   .ret (.agg [.int .i64 (IntKind.i64.wrap ((1:Int)+(f (0)).tmod (8:Int))),.int .i64 ((f (1)).tmod (4:Int)),.eS none 0 0 0,.int .i64 0,.int .i64 0,.eS none 0 0 0]) (W []) 0)]
 :=dh.of C C C
theorem ahY(T:ai)(f:Nat->Int):dn (U W3 []) [(31,.dy (L 3))] 0 Tryz.f69 [] (Ds) (Pf n T f) [([],
   [(V.int B (IntKind.i64.wrap ((1:Int)+(f (0)).tmod (8:Int)))=L (3:Int))],
   .ret (.agg [.int .i64 (IntKind.i64.wrap ((1:Int)+(f (0)).tmod (8:Int))),.int .i64 ((f (1)).tmod (4:Int)),.eS none 0 0 0,.int .i64 0,.int .i64 0,.eS none 0 0 0]) (W []) 0)]
 :=dh.of C C C
theorem ahZ(T:ai)(f:Nat->Int):dn (U W3 []) [(31,.dy (L 4))] 0 Tryz.f69 [] (Ds) (Pf n T f) [([],
   [(V.int B (IntKind.i64.wrap ((1:Int)+(f (0)).tmod (8:Int)))=L (4:Int))],
   .ret (.agg [.int .i64 (IntKind.i64.wrap ((1:Int)+(f (0)).tmod (8:Int))),.int .i64 ((f (1)).tmod (4:Int)),.eS none 0 0 0,.int .i64 0,.int .i64 0,.eS none 0 0 0]) (W []) 0)]
 :=dh.of C C C
theorem ah0(T:ai)(f:Nat->Int):dn (U W3 []) [(31,.dy (L 6))] 0 Tryz.f69 [] (Ds) (Pf n T f) [([],
   [(V.int B (IntKind.i64.wrap ((1:Int)+(f (0)).tmod (8:Int)))=L (6:Int))],
   .ret (.agg [.int .i64 (IntKind.i64.wrap ((1:Int)+(f (0)).tmod (8:Int))),.int .i64 0,.eS none 0 0 0,.int .i64 0,.int .i64 0,.eS none 0 0 0]) (W []) 0)]
 :=dh.of C C C
theorem ah1(T:ai)(f:Nat->Int):dn (U W3 []) [(31,.dy (L 7))] 0 Tryz.f69 [] (Ds) (Pf n T f) [([],
   [(V.int B (IntKind.i64.wrap ((1:Int)+(f (0)).tmod (8:Int)))=L (7:Int))],
   .ret (.agg [.int .i64 (IntKind.i64.wrap ((1:Int)+(f (0)).tmod (8:Int))),.int .i64 0,.eS none 0 0 0,.int .i64 0,.int .i64 ((f (1)).tmod (257:Int)),.eS none 0 0 0]) (W []) 0)]
 :=dh.of C C C
theorem ah2(T:ai)(f:Nat->Int):dn (U W3 []) [(31,.dy (L 8))] 0 Tryz.f69 [] (Ds) (Pf n T f) [([],
   [(V.int B (IntKind.i64.wrap ((1:Int)+(f (0)).tmod (8:Int)))=L (8:Int))],
   .ret (.agg [.int .i64 (IntKind.i64.wrap ((1:Int)+(f (0)).tmod (8:Int))),.int .i64 (IntKind.i64.wrap ((f (1)).tmod (7:Int)-(3:Int))),.eS none 0 0 0,.int .i64 0,.int .i64 (IntKind.i64.wrap ((f (2)).tmod (7:Int)-(3:Int))),.eS none 0 0 0]) (W []) 0)]
 :=dh.of C C C
theorem ah3(a b c d e g h i j k l m:Int)(n:Nat)(T:ai):dn (U (eZ 109 [fg [b,c,d,e,g,h,i,j,k,l,m]] (.eo false n T) W3) []) [(31,.dy (L 5))] 0 Tryz.f69 [] (Ds) (Pf 12 [.int .i64 a,.int .i64 b,.int .i64 c,.int .i64 d,.int .i64 e,.int .i64 g,.int .i64 h,.int .i64 i,.int .i64 j,.int .i64 k,.int .i64 l,.int .i64 m] f) [([],
   [(V.int B (IntKind.i64.wrap ((1:Int)+(f (0)).tmod (8:Int)))=L (5:Int)),([D.int B a,D.int B b,D.int B c,D.int B d,D.int B e,D.int B g,D.int B h,D.int B i,D.int B j,D.int B k,D.int B l,D.int B m].length=12),((0:Int)<=(1:Int)/\(1:Int)<=(12:Int)),(eY [fg [b,c,d,e,g,h,i,j,k,l,m]])],
   .ret (.agg [.int .i64 (IntKind.i64.wrap ((1:Int)+(f (0)).tmod (8:Int))),.int .i64 0,.eS none 0 0 0,.int .i64 0,.int .i64 0,.eo false n T]) (W []) 0)]
 :=dh.of C C C
end
structure FL where
 k:Int
 r:Int
 eK:List Int
 dv:Int
 vl:Int
 cu:List Int
def FL.T(f:FL):ag:=[L f.k,L f.r,fg f.eK,L f.dv,L f.vl,fg f.cu]
def FL.v(f:FL):V:=.agg f.T
theorem Ww(v:Int):0<=a16 v/\a16 v<=65535:=by
 unfold a16;have h:(BitVec.ofInt 64 v&&&BitVec.ofInt 64 (65535:Int)).toNat<=65535:=by
  rw[BitVec.toNat_and];exact Nat.and_le_right
 rw[ik (by simp only[gT];omega) (by simp only[gT];omega)];simp only[gT];omega
section
variable(s:List Int)(f:Nat->Int)
theorem Pg(j:Nat):0<=f12 s j/\f12 s j<=65535:=by
 unfold f12;split
 . exact Ww _
 . decide
theorem x6{x d:Int}(h:0<=x)(hd:0<d):0<=x.tmod d/\x.tmod d<d:=by
 rw[Int.tmod_eq_emod_of_nonneg h];exact⟨Int.emod_nonneg _ G,Int.emod_lt_of_pos _ hd⟩
def lF:Int:=IntKind.i64.wrap (1+(f 0).tmod 8)
def vx:FL:=
 if lF (f12 s)=1 then⟨lF (f12 s),(f12 s 1).tmod 3,zz (f12 s) ((2*((f12 s 1).tmod 3).toNat+1)*(2*((f12 s 1).tmod 3).toNat+1)),IntKind.i64.wrap (1+(f12 s 2).tmod 20),0,[]⟩
 else if lF (f12 s)=2\/lF (f12 s)=3\/lF (f12 s)=4 then⟨lF (f12 s),(f12 s 1).tmod 4,[],0,0,[]⟩
 else if lF (f12 s)=5 then⟨lF (f12 s),0,[],0,0,Pe (s.drop 1)⟩
 else if lF (f12 s)=7 then⟨lF (f12 s),0,[],0,(f12 s 1).tmod 257,[]⟩
 else if lF (f12 s)=8 then⟨lF (f12 s),IntKind.i64.wrap ((f12 s 1).tmod 7-3),[],0,IntKind.i64.wrap ((f12 s 2).tmod 7-3),[]⟩
 else⟨lF (f12 s),0,[],0,0,[]⟩
theorem Ph(n:Nat):(zz f n).length=n:=by simp[zz]
end
theorem abj(a b c d e' g h i j k l m:Int):dS ak 69 [v12 a b c d e' g h i j k l m] (vx [a,b,c,d,e',g,h,i,j,k,l,m]).v:=by
 refine rQ Tryz.func69 ?_;refine fu 3 fI (ahW a b c d e' g h i j k l m) ?_ ?_
 . repeat' (first|exact all_nil|refine J ?_ ?_)
   all_goals first|decide|rfl
 generalize hs:[a,b,c,d,e',g,h,i,j,k,l,m]=s;have D2:=Pg s;have h0:=x6 (D2 0).1 (d:=8) fa;have Q:=x6 (D2 1).1 (d:=3) fa;have Y:lF (f12 s)=1+(f12 s 0).tmod 8:=ik G G;have oG:∀q:Int,lF (f12 s)=q->V.int B (IntKind.i64.wrap ((1:Int)+(f12 s 0).tmod (8:Int)))=L q:=fun q e=>aH _ e;have s' {r:ah} (hr:∀x∈r,x):∀x∈r,x:=hr;rcases(by omega:lF (f12 s)=1\/lF (f12 s)=2\/lF (f12 s)=3\/lF (f12 s)=4\/lF (f12 s)=5\/lF (f12 s)=6\/lF (f12 s)=7\/lF (f12 s)=8)with e|e|e|e|e|e|e|e
 . have ev:vx s=⟨lF (f12 s),(f12 s 1).tmod 3,zz (f12 s) ((2*((f12 s 1).tmod 3).toNat+1)*(2*((f12 s 1).tmod 3).toNat+1)),IntKind.i64.wrap (1+(f12 s 2).tmod 20),0,[]⟩:=aE e;rw[ev];rcases(by omega:(f12 s 1).tmod 3=0\/(f12 s 1).tmod 3=1\/(f12 s 1).tmod 3=2)with q|q|q
   . refine eI fI (abg 12 _ (f12 s)) (dA (g0 ⟨?_,_,_,_,rfl,?_⟩))
     . refine J (oG 1 e) (J (aH _ q) ?_)
       repeat' (first|exact all_nil|refine J ?_ ?_)
       all_goals decide
     . rw[q];exact .Cs (v0:=.agg [L (lF (f12 s)),L 0,.eo false 1 (dM (zz (f12 s) 1)),L (IntKind.i64.wrap (1+(f12 s 2).tmod 20)),L 0,.eS none 0 0 0]) [0] (s':=[(dM (zz (f12 s) 1)).length=1*1]) C (eC rfl) C C
   . refine eI fI (abh 12 _ (f12 s)) (dA (g0 ⟨?_,_,_,_,rfl,?_⟩))
     . refine J (oG 1 e) (J (aH _ q) ?_)
       repeat' (first|exact all_nil|refine J ?_ ?_)
       all_goals decide
     . rw[q];exact .Cs (v0:=.agg [L (lF (f12 s)),L 1,.eo false 9 (dM (zz (f12 s) 9)),L (IntKind.i64.wrap (1+(f12 s 2).tmod 20)),L 0,.eS none 0 0 0]) [0] (s':=[(dM (zz (f12 s) 9)).length=9*1]) C (eC rfl) C C
   . refine eI fI (abi 12 _ (f12 s)) (dA (g0 ⟨?_,_,_,_,rfl,?_⟩))
     . refine J (oG 1 e) (J (aH _ q) ?_)
       repeat' (first|exact all_nil|refine J ?_ ?_)
       all_goals decide
     . rw[q];exact .Cs (v0:=.agg [L (lF (f12 s)),L 2,.eo false 25 (dM (zz (f12 s) 25)),L (IntKind.i64.wrap (1+(f12 s 2).tmod 20)),L 0,.eS none 0 0 0]) [0] (s':=[(dM (zz (f12 s) 25)).length=25*1]) C (eC rfl) C C
 . rw[show vx s=⟨lF (f12 s),(f12 s 1).tmod 4,[],0,0,[]⟩from(aB G).trans (aE G)];exact eI fI (ahX 12 _ (f12 s)) (dA (g0 ⟨eC (oG 2 e),_,_,_,rfl,.self rfl rfl⟩))
 . rw[show vx s=⟨lF (f12 s),(f12 s 1).tmod 4,[],0,0,[]⟩from(aB G).trans (aE G)];exact eI fI (ahY 12 _ (f12 s)) (dA (g0 ⟨eC (oG 3 e),_,_,_,rfl,.self rfl rfl⟩))
 . rw[show vx s=⟨lF (f12 s),(f12 s 1).tmod 4,[],0,0,[]⟩from(aB G).trans (aE G)];exact eI fI (ahZ 12 _ (f12 s)) (dA (g0 ⟨eC (oG 4 e),_,_,_,rfl,.self rfl rfl⟩))
 . rw[show vx s=⟨lF (f12 s),0,[],0,0,Pe (s.drop 1)⟩from(aB G).trans ((aB G).trans (aE e))];have hd:s.drop 1=[b,c,d,e',g,h,i,j,k,l,m]:=by subst hs;rfl
   rw[hd];refine eI (fj (abe [b,c,d,e',g,h,i,j,k,l,m] (show 2<11 by decide) (show 11<=200 by decide)) fI) (ah3 (f12 s) a b c d e' g h i j k l m _ _) (dA (g0 ⟨J (oG 5 e) ?_,_,_,_,rfl,.self rfl rfl⟩))
   repeat' (first|exact all_nil|refine J ?_ ?_)
   all_goals first|decide|rfl
 . rw[show vx s=⟨lF (f12 s),0,[],0,0,[]⟩from(aB G).trans ((aB G).trans ((aB G).trans ((aB G).trans (aB G))))];exact eI fI (ah0 12 _ (f12 s)) (dA (g0 ⟨eC (oG 6 e),_,_,_,rfl,.self rfl rfl⟩))
 . rw[show vx s=⟨lF (f12 s),0,[],0,(f12 s 1).tmod 257,[]⟩from(aB G).trans ((aB G).trans ((aB G).trans (aE e)))];exact eI fI (ah1 12 _ (f12 s)) (dA (g0 ⟨eC (oG 7 e),_,_,_,rfl,.self rfl rfl⟩))
 . rw[show vx s=⟨lF (f12 s),IntKind.i64.wrap ((f12 s 1).tmod 7-3),[],0,IntKind.i64.wrap ((f12 s 2).tmod 7-3),[]⟩from(aB G).trans ((aB G).trans ((aB G).trans ((aB G).trans (aE e))))];exact eI fI (ah2 12 _ (f12 s)) (dA (g0 ⟨eC (oG 8 e),_,_,_,rfl,.self rfl rfl⟩))
noncomputable abbrev wL:Code:=dG Tryz.f30
noncomputable abbrev ah4:Code:=dG Tryz.f68
noncomputable abbrev ah5:Code:=dG Tryz.f71
abbrev gA:V:=.eS none 0 0 0
structure P7 where
 a:Int
 b:Int
 c:Int
 d:Int
 e:Int
 f:Int
 n:Int
def P7.T(p:P7):ag:=[L p.a,L p.b,L p.c,L p.d,L p.e,L p.f,L p.n]
def P7.v(p:P7):V:=.agg p.T
structure S8 where
 s0:Int
 s1:Int
 s2:Int
 s3:Int
 s4:Int
 s5:Int
 s6:Int
 s7:Int
def S8.T(s:S8):ag:=[L s.s0,L s.s1,L s.s2,L s.s3,L s.s4,L s.s5,L s.s6,L s.s7]
structure C4 where
 r:Int
 g:Int
 b:Int
 a:Int
section
variable(s:S8)(x n kd:Int)(nm:aa)(hid:Bool)(op md:Int)(clip:Bool)(pl:P7)(f:FL)(fi:C4)(fZ:List Tl)(S:Bool)(mk:List Tl)
def C4.T(p:C4):ag:=[.int .u8 p.r,.int .u8 p.g,.int .u8 p.b,.int .u8 p.a]
abbrev rsV(l:List Tl):V:=.eo false l.length (jv l)
def tH(pv:V)(fZ:List Tl)(S:Bool)(mk:List Tl):ag:=
 [L 0,L kd,.str nm,.bool hid,L op,L md,.bool clip]++(pl.T++([L 0,fg [],L 0]++(f.T++(fi.T++[pv,rsV fZ,.bool S,rsV mk]))))
def z4:C4:=⟨0,0,0,0⟩
def z7:P7:=⟨0,0,0,0,0,0,0⟩
def i7:P7:=⟨1,0,0,0,1,0,1⟩
def tJ:FL:=⟨0,0,[],0,0,[]⟩
def M7(k:Int):ag:=
 [L 0,L kd,.str [],.bool false,L op,L 0,.bool false]++(pl.T++([L 0,gA,L 0]++([L k,L 0,gA,L 0,L 0,gA]++(z4.T++[gA,gA,.bool false,gA]))))
def lyZ:ag:=M7 0 0 z7 0
def vO(l:ag):St:=ff [(1,.ptr (some (0,0))),(2,.ptr (some (1,0))),(3,.ptr (some (2,0)))] (W [(0,.cells s.T),(1,.cells lyZ),(2,.cells l)]) 3
theorem ah6:dn (U W3 []) [(16,.split),(20,.split),(23,.split)] 0 Tryz.f68 [] (ah4) (dw [L n] .nil 0) [([((IntKind.i64.wrap (Int.ofNat (BitVec.ofInt 64 n&&&BitVec.ofInt 64 (7:Int)).toNat)==(1:Int)),true)],
   [],
   .ret (.agg [.int .i64 2,.int .i64 0,.int .i64 (IntKind.i64.wrap (IntKind.i64.wrap (Int.ofNat (BitVec.ofInt 64 (n.fdiv (4:Int))&&&BitVec.ofInt 64 (7:Int)).toNat)-(3:Int))),.int .i64 0,.int .i64 2,.int .i64 (IntKind.i64.wrap (IntKind.i64.wrap (Int.ofNat (BitVec.ofInt 64 (n.fdiv (32:Int))&&&BitVec.ofInt 64 (7:Int)).toNat)-(3:Int))),.int .i64 1]) (W []) 0),
  ([((IntKind.i64.wrap (Int.ofNat (BitVec.ofInt 64 n&&&BitVec.ofInt 64 (7:Int)).toNat)==(1:Int)),false),((IntKind.i64.wrap (Int.ofNat (BitVec.ofInt 64 n&&&BitVec.ofInt 64 (7:Int)).toNat)==(2:Int)),true)],
   [],
   .ret (.agg [.int .i64 1,.int .i64 0,.int .i64 (IntKind.i64.wrap (IntKind.i64.wrap (Int.ofNat (BitVec.ofInt 64 (n.fdiv (4:Int))&&&BitVec.ofInt 64 (7:Int)).toNat)-(3:Int))),.int .i64 0,.int .i64 1,.int .i64 (IntKind.i64.wrap (IntKind.i64.wrap (Int.ofNat (BitVec.ofInt 64 (n.fdiv (32:Int))&&&BitVec.ofInt 64 (7:Int)).toNat)-(3:Int))),.int .i64 2]) (W []) 0),
  ([((IntKind.i64.wrap (Int.ofNat (BitVec.ofInt 64 n&&&BitVec.ofInt 64 (7:Int)).toNat)==(1:Int)),false),((IntKind.i64.wrap (Int.ofNat (BitVec.ofInt 64 n&&&BitVec.ofInt 64 (7:Int)).toNat)==(2:Int)),false),((IntKind.i64.wrap (Int.ofNat (BitVec.ofInt 64 n&&&BitVec.ofInt 64 (7:Int)).toNat)==(3:Int)),true)],
   [],
   .ret (.agg [.int .i64 0,.int .i64 (-1),.int .i64 (IntKind.i64.wrap (IntKind.i64.wrap (Int.ofNat (BitVec.ofInt 64 (n.fdiv (4:Int))&&&BitVec.ofInt 64 (7:Int)).toNat)-(3:Int))),.int .i64 1,.int .i64 0,.int .i64 (IntKind.i64.wrap (IntKind.i64.wrap (Int.ofNat (BitVec.ofInt 64 (n.fdiv (32:Int))&&&BitVec.ofInt 64 (7:Int)).toNat)-(3:Int))),.int .i64 1]) (W []) 0),
  ([((IntKind.i64.wrap (Int.ofNat (BitVec.ofInt 64 n&&&BitVec.ofInt 64 (7:Int)).toNat)==(1:Int)),false),((IntKind.i64.wrap (Int.ofNat (BitVec.ofInt 64 n&&&BitVec.ofInt 64 (7:Int)).toNat)==(2:Int)),false),((IntKind.i64.wrap (Int.ofNat (BitVec.ofInt 64 n&&&BitVec.ofInt 64 (7:Int)).toNat)==(3:Int)),false)],
   [],
   .ret (.agg [.int .i64 1,.int .i64 0,.int .i64 (IntKind.i64.wrap (IntKind.i64.wrap (Int.ofNat (BitVec.ofInt 64 (n.fdiv (4:Int))&&&BitVec.ofInt 64 (7:Int)).toNat)-(3:Int))),.int .i64 0,.int .i64 1,.int .i64 (IntKind.i64.wrap (IntKind.i64.wrap (Int.ofNat (BitVec.ofInt 64 (n.fdiv (32:Int))&&&BitVec.ofInt 64 (7:Int)).toNat)-(3:Int))),.int .i64 1]) (W []) 0)]
 :=dh.of C C C
theorem ah7:dn (U W3 []) [(21,.split),(25,.split)] 0 Tryz.f71 [] (ah5) (dw [L n] .nil 0) [([(((IntKind.u32.wrap n).tmod (5:Int)==(1:Int)),true),(((IntKind.u32.wrap n).tmod (5:Int)==(3:Int)),true)],
   [((256:Int)≠(0:Int)),((65536:Int)≠(0:Int)),((16777216:Int)≠(0:Int))],
   .ret (.agg [.int .u8 (IntKind.u8.wrap (IntKind.u32.wrap n)),.int .u8 (IntKind.u8.wrap (IntKind.u32.wrap ((IntKind.u32.wrap n).tdiv (256:Int)))),.int .u8 (IntKind.u8.wrap (IntKind.u32.wrap ((IntKind.u32.wrap n).tdiv (65536:Int)))),.int .u8 0]) (W []) 0),
  ([(((IntKind.u32.wrap n).tmod (5:Int)==(1:Int)),true),(((IntKind.u32.wrap n).tmod (5:Int)==(3:Int)),false)],
   [((256:Int)≠(0:Int)),((65536:Int)≠(0:Int)),((16777216:Int)≠(0:Int))],
   .ret (.agg [.int .u8 (IntKind.u8.wrap (IntKind.u32.wrap n)),.int .u8 (IntKind.u8.wrap (IntKind.u32.wrap ((IntKind.u32.wrap n).tdiv (256:Int)))),.int .u8 (IntKind.u8.wrap (IntKind.u32.wrap ((IntKind.u32.wrap n).tdiv (65536:Int)))),.int .u8 255]) (W []) 0),
  ([(((IntKind.u32.wrap n).tmod (5:Int)==(1:Int)),false),(((IntKind.u32.wrap n).tmod (5:Int)==(3:Int)),true)],
   [((256:Int)≠(0:Int)),((65536:Int)≠(0:Int)),((16777216:Int)≠(0:Int))],
   .ret (.agg [.int .u8 (IntKind.u8.wrap (IntKind.u32.wrap n)),.int .u8 (IntKind.u8.wrap (IntKind.u32.wrap ((IntKind.u32.wrap n).tdiv (256:Int)))),.int .u8 (IntKind.u8.wrap (IntKind.u32.wrap ((IntKind.u32.wrap n).tdiv (65536:Int)))),.int .u8 0]) (W []) 0),
  ([(((IntKind.u32.wrap n).tmod (5:Int)==(1:Int)),false),(((IntKind.u32.wrap n).tmod (5:Int)==(3:Int)),false)],
   [((256:Int)≠(0:Int)),((65536:Int)≠(0:Int)),((16777216:Int)≠(0:Int))],
   .ret (.agg [.int .u8 (IntKind.u8.wrap (IntKind.u32.wrap n)),.int .u8 (IntKind.u8.wrap (IntKind.u32.wrap ((IntKind.u32.wrap n).tdiv (256:Int)))),.int .u8 (IntKind.u8.wrap (IntKind.u32.wrap ((IntKind.u32.wrap n).tdiv (65536:Int)))),.int .u8 (IntKind.u8.wrap (IntKind.u32.wrap ((IntKind.u32.wrap n).tdiv (16777216:Int))))]) (W []) 0)]
 :=dh.of C C C
theorem abl:dn (U W3 []) [(9,.dy (L 1))] 0 Tryz.f30 [1,2,3] (dN 2 wL) (dw [.agg s.T] .nil 0) [([],
   [(V.int B (IntKind.i64.wrap ((1:Int)+(IntKind.i64.wrap (Int.ofNat (BitVec.ofInt 64 s.s0&&&BitVec.ofInt 64 (65535:Int)).toNat)).tmod (5:Int)))=L (1:Int))],
   .to .normal (vO s (M7 1 255 i7 0)))]
 :=dh.of C C C
theorem abm:dn (U W3 []) [(9,.dy (L 2))] 0 Tryz.f30 [1,2,3] (dN 2 wL) (dw [.agg s.T] .nil 0) [([],
   [(V.int B (IntKind.i64.wrap ((1:Int)+(IntKind.i64.wrap (Int.ofNat (BitVec.ofInt 64 s.s0&&&BitVec.ofInt 64 (65535:Int)).toNat)).tmod (5:Int)))=L (2:Int))],
   .to .normal (vO s (M7 2 255 z7 0)))]
 :=dh.of C C C
theorem abn:dn (U W3 []) [(9,.dy (L 3))] 0 Tryz.f30 [1,2,3] (dN 2 wL) (dw [.agg s.T] .nil 0) [([],
   [(V.int B (IntKind.i64.wrap ((1:Int)+(IntKind.i64.wrap (Int.ofNat (BitVec.ofInt 64 s.s0&&&BitVec.ofInt 64 (65535:Int)).toNat)).tmod (5:Int)))=L (3:Int))],
   .to .normal (vO s (M7 3 255 z7 6)))]
 :=dh.of C C C
theorem abo:dn (U W3 []) [(9,.dy (L 4))] 0 Tryz.f30 [1,2,3] (dN 2 wL) (dw [.agg s.T] .nil 0) [([],
   [(V.int B (IntKind.i64.wrap ((1:Int)+(IntKind.i64.wrap (Int.ofNat (BitVec.ofInt 64 s.s0&&&BitVec.ofInt 64 (65535:Int)).toNat)).tmod (5:Int)))=L (4:Int))],
   .to .normal (vO s (M7 4 255 i7 0)))]
 :=dh.of C C C
theorem abp:dn (U W3 []) [(9,.dy (L 5))] 0 Tryz.f30 [1,2,3] (dN 2 wL) (dw [.agg s.T] .nil 0) [([],
   [(V.int B (IntKind.i64.wrap ((1:Int)+(IntKind.i64.wrap (Int.ofNat (BitVec.ofInt 64 s.s0&&&BitVec.ofInt 64 (65535:Int)).toNat)).tmod (5:Int)))=L (5:Int))],
   .to .normal (vO s (M7 5 255 z7 0)))]
 :=dh.of C C C
def an(m:Int):Int:=IntKind.i64.wrap (Int.ofNat (BitVec.ofInt 64 x&&&BitVec.ofInt 64 m).toNat)
def M8:aa:=(([97,98,99,100,101,102,103,104]:aa).take (IntKind.i64.wrap (an x 7+1)).toNat).drop (an x 7).toNat
def Ri:Bool:=an x 127==8
def Rj:Bool:=an x 96==96
def Zs:Int:=an (x.fdiv 2) 255
def mdO:Int:=an (x.fdiv 4) 15
theorem ah8:dn (U W3 []) [] 0 Tryz.f30 [1,2,3] (dN 4 (dm 2 wL)) (vO s (tH kd nm hid op md clip pl f fi gA fZ S mk)) [([],
   [((0:Int)<=IntKind.i64.wrap (IntKind.i64.wrap (Int.ofNat (BitVec.ofInt 64 s.s1&&&BitVec.ofInt 64 (7:Int)).toNat)+(1:Int))/\IntKind.i64.wrap (IntKind.i64.wrap (Int.ofNat (BitVec.ofInt 64 s.s1&&&BitVec.ofInt 64 (7:Int)).toNat)+(1:Int))<=(8:Int)),((0:Int)<=IntKind.i64.wrap (Int.ofNat (BitVec.ofInt 64 s.s1&&&BitVec.ofInt 64 (7:Int)).toNat)/\IntKind.i64.wrap (Int.ofNat (BitVec.ofInt 64 s.s1&&&BitVec.ofInt 64 (7:Int)).toNat)<=(Int.ofNat (IntKind.i64.wrap (IntKind.i64.wrap (Int.ofNat (BitVec.ofInt 64 s.s1&&&BitVec.ofInt 64 (7:Int)).toNat)+(1:Int))).toNat))],
   .to .normal (vO s (tH kd (M8 s.s1) (Ri s.s1) 255 md (Rj s.s1) pl f fi gA fZ S mk)))]
 :=dh.of C C C
theorem ah9:dn (U W3 []) [(34,.split)] 0 Tryz.f30 [1,2,3] (dN 1 (dm 6 wL)) (vO s (tH kd nm hid op md clip pl f fi gA fZ S mk)) [([((IntKind.i64.wrap (Int.ofNat (BitVec.ofInt 64 s.s2&&&BitVec.ofInt 64 (1:Int)).toNat)==(1:Int)),true)],
   [],
   .to .normal (vO s (tH kd nm hid (Zs s.s2) md clip pl f fi gA fZ S mk))),
  ([((IntKind.i64.wrap (Int.ofNat (BitVec.ofInt 64 s.s2&&&BitVec.ofInt 64 (1:Int)).toNat)==(1:Int)),false)],
   [],
   .to .normal (vO s (tH kd nm hid op md clip pl f fi gA fZ S mk)))]
 :=dh.of C C C
theorem aia:dn (U W3 []) [(43,.split)] 0 Tryz.f30 [1,2,3] (dN 1 (dm 7 wL)) (vO s (tH kd nm hid op md clip pl f fi gA fZ S mk)) [([((IntKind.i64.wrap (Int.ofNat (BitVec.ofInt 64 s.s3&&&BitVec.ofInt 64 (3:Int)).toNat)==(1:Int)),true)],
   [],
   .to .normal (vO s (tH kd nm hid op (mdO s.s3) clip pl f fi gA fZ S mk))),
  ([((IntKind.i64.wrap (Int.ofNat (BitVec.ofInt 64 s.s3&&&BitVec.ofInt 64 (3:Int)).toNat)==(1:Int)),false)],
   [],
   .to .normal (vO s (tH kd nm hid op md clip pl f fi gA fZ S mk)))]
 :=dh.of C C C
theorem aib(l:List Tl):dn (U (OL 67 [fg [s.s3,s.s4,s.s5]] (oh l) W3) []) [(52,.split)] 0 Tryz.f30 [1,2,3] (dN 1 (dm 8 wL)) (vO s (tH kd nm hid op md clip pl f fi gA fZ S mk)) [([((IntKind.i64.wrap (Int.ofNat (BitVec.ofInt 64 s.s3&&&BitVec.ofInt 64 (192:Int)).toNat)==(64:Int)),true)],
   [([D.int B s.s3,D.int B s.s4,D.int B s.s5].length=3),(V.lE [V.eo false 3 [D.int B s.s3,D.int B s.s4,D.int B s.s5]]=[fg [s.s3,s.s4,s.s5]])],
   .to .normal (vO s (tH kd nm hid op md clip pl f fi gA fZ true l))),
  ([((IntKind.i64.wrap (Int.ofNat (BitVec.ofInt 64 s.s3&&&BitVec.ofInt 64 (192:Int)).toNat)==(64:Int)),false)],
   [],
   .to .normal (vO s (tH kd nm hid op md clip pl f fi gA fZ S mk)))]
 :=dh.of C C C
end
def UL(n d:Int):Int:=IntKind.i64.wrap (an (n.fdiv d) 7-3)
def UM(n:Int):P7:=if an n 7=1 then⟨2,0,UL n 4,0,2,UL n 32,1⟩else if an n 7=2 then⟨1,0,UL n 4,0,1,UL n 32,2⟩else if an n 7=3 then⟨0,-1,UL n 4,1,0,UL n 32,1⟩else⟨1,0,UL n 4,0,1,UL n 32,1⟩
def mpA(u:Int):Int:=if u.tmod 5=3 then 0 else if u.tmod 5=1 then 255 else IntKind.u8.wrap (IntKind.u32.wrap (u.tdiv 16777216))
def Pj(n:Int):C4:=⟨IntKind.u8.wrap (IntKind.u32.wrap n),IntKind.u8.wrap (IntKind.u32.wrap ((IntKind.u32.wrap n).tdiv 256)),IntKind.u8.wrap (IntKind.u32.wrap ((IntKind.u32.wrap n).tdiv 65536)),mpA (IntKind.u32.wrap n)⟩
def JA:ag->Option (ah×V)
 | [.int .i64 n]=>some ([],(UM n).v)
 |_=>none
def JB:ag->Option (ah×V)
 | [.int .i64 n]=>some ([],.agg (Pj n).T)
 |_=>none
theorem Wx:kE ak 68 (gS JA):=by
 refine og Tryz.func68 fun args s' v e=>?_;unfold JA at e;split at e
 case h_2=>cases e
 rename_i n;obtain⟨rfl,rfl⟩:=sm e;refine⟨rfl,rfl,rfl,fun _=>eI fI (ah6 n) (dz (g1 fun h=>⟨all_nil,_,_,_,rfl,?_⟩) (dz (g2 fun h R=>⟨all_nil,_,_,_,rfl,?_⟩) (dz (g3 fun h R h3=>⟨all_nil,_,_,_,rfl,?_⟩) (dA (g3 fun h R h3=>⟨all_nil,_,_,_,rfl,?_⟩)))))⟩
 all_goals
  have h:(an n 7==1)=_:=h
  try have R:(an n 7==2)=_:=R
  try have h3:(an n 7==3)=_:=h3
  simp only[cJ,bZ,ne_eq]at *
 . rw[show UM n=_ from aE h];rfl
 . rw[show UM n=_ from(aB h).trans (aE R)];rfl
 . rw[show UM n=_ from(aB h).trans ((aB R).trans (aE h3))];rfl
 . rw[show UM n=_ from(aB h).trans ((aB R).trans (aB h3))];rfl
theorem Wy:kE ak 71 (gS JB):=by
 refine og Tryz.func71 fun args s' v e=>?_;unfold JB at e;split at e
 case h_2=>cases e
 rename_i n;obtain⟨rfl,rfl⟩:=sm e;have s':∀a∈[((256:Int)≠(0:Int)),((65536:Int)≠(0:Int)),((16777216:Int)≠(0:Int))],a:=J fa (J fa (eC fa));refine⟨rfl,rfl,rfl,fun _=>eI fI (ah7 n) (dz (g2 fun h R=>⟨s',_,_,_,rfl,?_⟩) (dz (g2 fun h R=>⟨s',_,_,_,rfl,?_⟩) (dz (g2 fun h R=>⟨s',_,_,_,rfl,?_⟩) (dA (g2 fun h R=>⟨s',_,_,_,rfl,?_⟩)))))⟩
 all_goals
  simp only[cJ,bZ,ne_eq]at h R;unfold Pj mpA
  first|rw[aE R]|rw[aB R,aE h]|rw[aB R,aB h]
  rfl
noncomputable abbrev W4:gy:=lC 68 (gS JA) (lC 71 (gS JB) W3)
theorem qA:eR ak W4:=fQ Wx (fQ Wy fI)
def qO(l:List (Int×Int)):ai:=(l.map fun p=>[D.int .i64 p.1,D.int .i64 p.2]).flatten
abbrev wM(l:List (Int×Int)):V:=.eo false l.length (qO l)
structure eG where
 id:Int
 kd:Int
 nm:aa
 hid:Bool
 op:Int
 md:Int
 clip:Bool
 pl:P7
 sp:Int
 kids:List Int
 of:Int
 f:FL
 fi:C4
 gU:List (Int×Int)
 fZ:List Tl
 S:Bool
 iD:List Tl
def eG.T(l:eG):ag:=[L l.id,L l.kd,.str l.nm,.bool l.hid,L l.op,L l.md,.bool l.clip]++(l.pl.T++([L l.sp,fg l.kids,L l.of]++(l.f.T++(l.fi.T++[wM l.gU,rsV l.fZ,.bool l.S,rsV l.iD]))))
def eG.v(l:eG):V:=.agg l.T
def SB(p:C4):C4:=⟨cl p.a p.r,cl p.a p.g,cl p.a p.b,cl p.a p.a⟩
def px4(x:Int)(i:Nat):Int:=IntKind.i64.wrap (an (x.fdiv (16^i)) 15-4)
def HB(x y:Int)(c:Nat):List (Int×Int):=(List.range c).map fun i=>(px4 x i,px4 y i)
def l12(s:S8):List Int:=[s.s4,s.s5,s.s6,s.s7,s.s2,s.s3,s.s1,IntKind.i64.wrap (s.s5.tdiv 7),IntKind.i64.wrap (s.s6.tdiv 5),IntKind.i64.wrap (s.s7.tdiv 3),IntKind.i64.wrap (s.s4.tdiv 9),IntKind.i64.wrap (s.s2.tdiv 11)]
noncomputable abbrev Fo:Code:=dm 9 wL
section
variable(s:S8)(nm:aa)(hid:Bool)(op md:Int)(clip:Bool)(pl:P7)(f:FL)(fi:C4)(fZ:List Tl)(S:Bool)(mk:List Tl)
theorem abq(l:List Tl):dn (U (OL 67 [fg [s.s4,s.s5,s.s6,s.s7,s.s2]] (oh l) W4) []) [] 0 Tryz.f30 [] (Fo) (vO s (tH 1 nm hid op md clip pl f fi gA fZ S mk)) [([],
   [([D.int B s.s4,D.int B s.s5,D.int B s.s6,D.int B s.s7,D.int B s.s2].length=5),(V.lE [V.eo false 5 [D.int B s.s4,D.int B s.s5,D.int B s.s6,D.int B s.s7,D.int B s.s2]]=[fg [s.s4,s.s5,s.s6,s.s7,s.s2]])],
   .ret (.agg (tH 1 nm hid op md clip (UM s.s6) f fi gA l S mk)) (W []) 0)]
 :=dh.of C C C
theorem abr:dn (U W4 []) [] 0 Tryz.f30 [] (Fo) (vO s (tH 2 nm hid op md clip pl f fi gA fZ S mk)) [([],
   [],
   .ret (.agg (tH 2 nm hid op md clip pl f fi gA fZ S mk)) (W []) 0)]
 :=dh.of C C C
theorem abt(g:FL):dn (U (OL 69 [fg (l12 s)] g.v W4) []) [] 0 Tryz.f30 [] (Fo) (vO s (tH 3 nm hid op md clip pl f fi gA fZ S mk)) [([],
   [((7:Int)≠(0:Int)),((5:Int)≠(0:Int)),((3:Int)≠(0:Int)),((9:Int)≠(0:Int)),((11:Int)≠(0:Int)),([D.int B s.s4,D.int B s.s5,D.int B s.s6,D.int B s.s7,D.int B s.s2,D.int B s.s3,D.int B s.s1,D.int B (IntKind.i64.wrap (s.s5.tdiv (7:Int))),D.int B (IntKind.i64.wrap (s.s6.tdiv (5:Int))),D.int B (IntKind.i64.wrap (s.s7.tdiv (3:Int))),D.int B (IntKind.i64.wrap (s.s4.tdiv (9:Int))),D.int B (IntKind.i64.wrap (s.s2.tdiv (11:Int)))].length=12),(V.lE [V.eo false 12 [D.int B s.s4,D.int B s.s5,D.int B s.s6,D.int B s.s7,D.int B s.s2,D.int B s.s3,D.int B s.s1,D.int B (IntKind.i64.wrap (s.s5.tdiv (7:Int))),D.int B (IntKind.i64.wrap (s.s6.tdiv (5:Int))),D.int B (IntKind.i64.wrap (s.s7.tdiv (3:Int))),D.int B (IntKind.i64.wrap (s.s4.tdiv (9:Int))),D.int B (IntKind.i64.wrap (s.s2.tdiv (11:Int)))]]=[fg (l12 s)])],
   .ret (.agg (tH 3 nm hid op md clip pl g fi gA fZ S mk)) (W []) 0)]
 :=dh.of C C C
theorem abu:dn (U W4 []) [] 0 Tryz.f30 [] (Fo) (vO s (tH 4 nm hid op md clip pl f fi gA fZ S mk)) [([],
   [],
   .ret (.agg (tH 4 nm hid op md clip (UM s.s6) f fi gA fZ S mk)) (W []) 0)]
 :=dh.of C C C
abbrev x7:Prop:=V.int B (IntKind.i64.wrap ((3:Int)+IntKind.i64.wrap (Int.ofNat (BitVec.ofInt 64 s.s5&&&BitVec.ofInt 64 (3:Int)).toNat)))=L (3:Int)
theorem Wz:dn (U W4 []) [(135,.dy (L 3))] 0 Tryz.f30 [] (Fo) (vO s (tH 5 nm hid op md clip pl f fi gA fZ S mk)) [([],
   [x7 s,x7 s,x7 s,x7 s],
   .ret (.agg (tH 5 nm hid op md clip pl f (SB (Pj s.s4)) (.eS (some (0,0)) 3 3 2) fZ S mk)) (W [(0,.cells (D.fN (qO (HB s.s6 s.s7 3))))]) 1)]
 :=dh.of C C C
abbrev uJ:Prop:=V.int B (IntKind.i64.wrap ((3:Int)+IntKind.i64.wrap (Int.ofNat (BitVec.ofInt 64 s.s5&&&BitVec.ofInt 64 (3:Int)).toNat)))=L (4:Int)
theorem WA:dn (U W4 []) [(135,.dy (L 4))] 0 Tryz.f30 [] (Fo) (vO s (tH 5 nm hid op md clip pl f fi gA fZ S mk)) [([],
   [uJ s,uJ s,uJ s,uJ s,uJ s],
   .ret (.agg (tH 5 nm hid op md clip pl f (SB (Pj s.s4)) (.eS (some (0,0)) 4 4 2) fZ S mk)) (W [(0,.cells (D.fN (qO (HB s.s6 s.s7 4))))]) 1)]
 :=dh.of C C C
abbrev rT:Prop:=V.int B (IntKind.i64.wrap ((3:Int)+IntKind.i64.wrap (Int.ofNat (BitVec.ofInt 64 s.s5&&&BitVec.ofInt 64 (3:Int)).toNat)))=L (5:Int)
theorem WB:dn (U W4 []) [(135,.dy (L 5))] 0 Tryz.f30 [] (Fo) (vO s (tH 5 nm hid op md clip pl f fi gA fZ S mk)) [([],
   [rT s,rT s,rT s,rT s,rT s,rT s],
   .ret (.agg (tH 5 nm hid op md clip pl f (SB (Pj s.s4)) (.eS (some (0,0)) 5 5 2) fZ S mk)) (W [(0,.cells (D.fN (qO (HB s.s6 s.s7 5))))]) 1)]
 :=dh.of C C C
abbrev p6:Prop:=V.int B (IntKind.i64.wrap ((3:Int)+IntKind.i64.wrap (Int.ofNat (BitVec.ofInt 64 s.s5&&&BitVec.ofInt 64 (3:Int)).toNat)))=L (6:Int)
theorem WC:dn (U W4 []) [(135,.dy (L 6))] 0 Tryz.f30 [] (Fo) (vO s (tH 5 nm hid op md clip pl f fi gA fZ S mk)) [([],
   [p6 s,p6 s,p6 s,p6 s,p6 s,p6 s,p6 s],
   .ret (.agg (tH 5 nm hid op md clip pl f (SB (Pj s.s4)) (.eS (some (0,0)) 6 6 2) fZ S mk)) (W [(0,.cells (D.fN (qO (HB s.s6 s.s7 6))))]) 1)]
 :=dh.of C C C
end
theorem gO:∀(b a:Nat) (c:Code),dm a (dm b c)=dm (b+a) c
 |0,a,c=>by rw[b5];cases c<;>rfl
 |b+1,a,c=>by
  cases c with
  |seq x y=>rw[show dm (b+1) (.seq x y)=dm b y from rfl,gO b a y,show b+1+a=(b+a)+1 by omega];rfl
  |_=>rw[show b+1+a=(b+a)+1 by omega];cases a<;>rfl
section
variable(s:S8)
def Ga:Int:=IntKind.i64.wrap (1+(an s.s0 65535).tmod 5)
def Pk:Nat:=3+(BitVec.ofInt 64 s.s5&&&BitVec.ofInt 64 (3:Int)).toNat
noncomputable def lS:eG where
 id:=0
 kd:=Ga s
 nm:=M8 s.s1
 hid:=Ri s.s1
 op:=if an s.s2 1=1 then Zs s.s2 else 255
 md:=if an s.s3 3=1 then mdO s.s3 else 0
 clip:=Rj s.s1
 pl:=if Ga s=1\/Ga s=4 then UM s.s6 else z7
 sp:=0
 kids:=[]
 of:=0
 f:=if Ga s=3 then vx (l12 s)else tJ
 fi:=if Ga s=5 then SB (Pj s.s4)else z4
 gU:=if Ga s=5 then HB s.s6 s.s7 (Pk s)else[]
 fZ:=if Ga s=1 then nR [s.s4,s.s5,s.s6,s.s7,s.s2]else[]
 S:=an s.s3 192==64
 iD:=if an s.s3 192=64 then nR [s.s3,s.s4,s.s5]else[]
theorem Ed(x:Int)(m:Nat)(h:m<=65535):0<=an x m/\an x m<=m:=by
 unfold an;have Q:(BitVec.ofInt 64 x&&&BitVec.ofInt 64 (m:Int)).toNat<=m:=by
  rw[BitVec.toNat_and];refine bC Nat.and_le_right ?_;rw[BitVec.toNat_ofInt];have:((m:Int)%((2^64:Nat):Int)).toNat=m:=by
   rw[Int.emod_eq_of_lt G G];omega
  rw[this];exact aK _
 rw[ik (by simp only[gT];omega) (by simp only[gT];omega)];simp only[gT];omega
theorem HC(kd:Int)(pl:P7)(f:FL){h2:V->I O->Nat->Prop}(pJ:TG ak 0 Tryz.f30.ntmps Fo (vO s (tH kd (M8 s.s1) (Ri s.s1) (if an s.s2 1=1 then Zs s.s2 else 255) (if an s.s3 3=1 then mdO s.s3 else 0) (Rj s.s1) pl f z4 gA [] (an s.s3 192==64) (if an s.s3 192=64 then nR [s.s3,s.s4,s.s5]else[]))) (fD ak 0 Tryz.f30 h2)):
  TG ak 0 Tryz.f30.ntmps (dm 2 wL) (vO s (tH kd [] false 255 0 false pl f z4 gA [] false [])) (fD ak 0 Tryz.f30 h2):=by
 have h7:0<=an s.s1 7/\an s.s1 7<=7:=Ed s.s1 7 fa;refine fu 4 fI (ah8 s kd [] false 255 0 false pl f z4 [] false []) ?_ ?_
 . refine J ?_ (eC ?_)
   . show(0:Int)<=IntKind.i64.wrap (an s.s1 7+1)/\IntKind.i64.wrap (an s.s1 7+1)<=8;rw[ik G G];omega
   . show(0:Int)<=an s.s1 7/\an s.s1 7<=Int.ofNat (IntKind.i64.wrap (an s.s1 7+1)).toNat;rw[ik G G];simp only[gT];omega
 rw[gO];have e3:TG ak 0 Tryz.f30.ntmps (dm 7 wL) (vO s (tH kd (M8 s.s1) (Ri s.s1) (if an s.s2 1=1 then Zs s.s2 else 255) 0 (Rj s.s1) pl f z4 gA [] false [])) (fD ak 0 Tryz.f30 h2)->TG ak 0 Tryz.f30.ntmps (dm 6 wL) (vO s (tH kd (M8 s.s1) (Ri s.s1) 255 0 (Rj s.s1) pl f z4 gA [] false [])) (fD ak 0 Tryz.f30 h2):=fun h=>by
  refine tO 1 fI (ah9 s kd (M8 s.s1) (Ri s.s1) 255 0 (Rj s.s1) pl f z4 [] false []) (dz (g1 fun h3=>⟨all_nil,_,rfl,?_⟩) (dA (g1 fun h3=>⟨all_nil,_,rfl,?_⟩)))
  all_goals
   have h3:(an s.s2 1==1)=_:=h3;simp only[cJ,bZ,ne_eq]at h3;rw[gO]
  . rw[aE h3]at h;exact h
  . rw[aB h3]at h;exact h
 have e4:TG ak 0 Tryz.f30.ntmps (dm 8 wL) (vO s (tH kd (M8 s.s1) (Ri s.s1) (if an s.s2 1=1 then Zs s.s2 else 255) (if an s.s3 3=1 then mdO s.s3 else 0) (Rj s.s1) pl f z4 gA [] false [])) (fD ak 0 Tryz.f30 h2)->TG ak 0 Tryz.f30.ntmps (dm 7 wL) (vO s (tH kd (M8 s.s1) (Ri s.s1) (if an s.s2 1=1 then Zs s.s2 else 255) 0 (Rj s.s1) pl f z4 gA [] false [])) (fD ak 0 Tryz.f30 h2):=fun h=>by
  refine tO 1 fI (aia s kd (M8 s.s1) (Ri s.s1) _ 0 (Rj s.s1) pl f z4 [] false []) (dz (g1 fun h3=>⟨all_nil,_,rfl,?_⟩) (dA (g1 fun h3=>⟨all_nil,_,rfl,?_⟩)))
  all_goals
   have h3:(an s.s3 3==1)=_:=h3;simp only[cJ,bZ,ne_eq]at h3;rw[gO]
  . rw[aE h3]at h;exact h
  . rw[aB h3]at h;exact h
 refine e3 (e4 (tO 1 (Fk C (Pb [s.s3,s.s4,s.s5] (show 3<=1000000 by decide)) fI) (aib s kd (M8 s.s1) (Ri s.s1) _ _ (Rj s.s1) pl f z4 [] false [] _) (dz (g1 fun h3=>⟨J rfl (eC rfl),_,rfl,?_⟩) (dA (g1 fun h3=>⟨all_nil,_,rfl,?_⟩)))))
 all_goals
  have h3:(an s.s3 192==64)=_:=h3;rw[h3]at pJ;simp only[cJ,bZ,ne_eq]at h3;rw[gO]
 . rw[aE h3]at pJ;exact pJ
 . rw[aB h3]at pJ;exact pJ
theorem aic:dS ak 30 [.agg s.T] (lS s).v:=by
 refine rQ Tryz.func30 ?_;have h5:0<=an s.s0 65535/\an s.s0 65535<=65535:=Ed s.s0 65535 fa;have S:=x6 h5.1 (d:=5) fa;have Y:Ga s=1+(an s.s0 65535).tmod 5:=ik G G;have oG:∀q:Int,Ga s=q->V.int B (IntKind.i64.wrap ((1:Int)+(IntKind.i64.wrap (Int.ofNat (BitVec.ofInt 64 s.s0&&&BitVec.ofInt 64 (65535:Int)).toNat)).tmod (5:Int)))=L q:=fun q e=>aH _ e;have nlA (kd op:Int) (pl:P7) (k:Int):dZ ak 0 Tryz.f30.ntmps (vO s (M7 kd op pl k)) (vO s (tH kd [] false op 0 false pl ⟨k,0,[],0,0,[]⟩ z4 gA [] false [])):=.step (.Sk 2 [15,19,22,28,30] C);rcases(by omega:Ga s=1\/Ga s=2\/Ga s=3\/Ga s=4\/Ga s=5)with e|e|e|e|e
 . refine fu 2 fI (abl s) (eC (oG 1 e)) (nlA _ _ _ _ _ _ (HC s 1 i7 tJ ?_));refine eI (Fk C (Pb [s.s4,s.s5,s.s6,s.s7,s.s2] (show 5<=1000000 by decide)) qA) (abq s _ _ _ _ _ _ _ _ _ _ _ _) (dA (g0 ⟨J rfl (eC rfl),_,_,_,rfl,.self rfl ?_⟩));simp only[eG.v,lS,e];rfl
 . refine fu 2 fI (abm s) (eC (oG 2 e)) (nlA _ _ _ _ _ _ (HC s 2 z7 tJ ?_));refine eI qA (abr s _ _ _ _ _ _ _ _ _ _ _) (dA (g0 ⟨all_nil,_,_,_,rfl,.self rfl ?_⟩));simp only[eG.v,lS,e];rfl
 . refine fu 2 fI (abn s) (eC (oG 3 e)) (nlA _ _ _ _ _ _ (HC s 3 z7 ⟨6,0,[],0,0,[]⟩ ?_));refine eI (Fk C (abj _ _ _ _ _ _ _ _ _ _ _ _) qA) (abt s _ _ _ _ _ _ _ _ _ _ _ (vx (l12 s))) (dA (g0 ⟨?_,_,_,_,rfl,.self rfl ?_⟩))
   . repeat' (first|exact all_nil|refine J ?_ ?_)
     all_goals first|decide|rfl
   simp only[eG.v,lS,e];rfl
 . refine fu 2 fI (abo s) (eC (oG 4 e)) (nlA _ _ _ _ _ _ (HC s 4 i7 tJ ?_));refine eI qA (abu s _ _ _ _ _ _ _ _ _ _ _) (dA (g0 ⟨all_nil,_,_,_,rfl,.self rfl ?_⟩));simp only[eG.v,lS,e];rfl
 . refine fu 2 fI (abp s) (eC (oG 5 e)) (nlA _ _ _ _ _ _ (HC s 5 z7 tJ ?_));have K:Pk s=3\/Pk s=4\/Pk s=5\/Pk s=6:=by
    unfold Pk;have:(BitVec.ofInt 64 s.s5&&&BitVec.ofInt 64 (3:Int)).toNat<=3:=by
     rw[BitVec.toNat_and];exact Nat.and_le_right
    omega
   have ND:∀q:Nat,Pk s=q->V.int B (IntKind.i64.wrap ((3:Int)+IntKind.i64.wrap (Int.ofNat (BitVec.ofInt 64 s.s5&&&BitVec.ofInt 64 (3:Int)).toNat)))=L (Int.ofNat q):=fun q hq=>by
    unfold Pk at hq K;generalize (BitVec.ofInt 64 s.s5&&&BitVec.ofInt 64 (3:Int)).toNat=m at hq K;rw[ik (x:=Int.ofNat m) (by simp only[gT];omega) (by simp only[gT];omega),ik (by simp only[gT];omega) (by simp only[gT];omega),<- hq];simp only[gT];congr 1
   have pJ:∀(c:Nat) (nm:aa) (hid:Bool) (op md:Int) (clip:Bool) (S:Bool) (mk:List Tl),(qO (HB s.s6 s.s7 c)).length=c*2->V5 [0] (.agg (tH 5 nm hid op md clip z7 tJ (SB (Pj s.s4)) (.eS (some (0,0)) c c 2) [] S mk)) (W [(0,.cells (D.fN (qO (HB s.s6 s.s7 c))))]) 1=some ([(qO (HB s.s6 s.s7 c)).length=c*2],.agg (tH 5 nm hid op md clip z7 tJ (SB (Pj s.s4)) (.eo false c (qO (HB s.s6 s.s7 c))) [] S mk))->nm=(lS s).nm->hid=(lS s).hid->op=(lS s).op->md=(lS s).md->clip=(lS s).clip->S=(lS s).S->mk=(lS s).iD->Pk s=c->
     vh (lS s).v (.agg (tH 5 nm hid op md clip z7 tJ (SB (Pj s.s4)) (.eS (some (0,0)) c c 2) [] S mk)) (W [(0,.cells (D.fN (qO (HB s.s6 s.s7 c))))]) 1:=by
    intro c nm hid op md clip S mk hl hf e1 e2 e3 e4 e5 e6 e7 K;refine .Cs [0] hf (eC hl) rfl ?_;subst e1 e2 e3 e4 e5 e6 e7;have e8:(lS s).gU=HB s.s6 s.s7 c:=by simp only[lS,e,if_true,K]
    have e9:(lS s).v= .agg (tH 5 (lS s).nm (lS s).hid (lS s).op (lS s).md (lS s).clip z7 tJ (SB (Pj s.s4)) (wM (lS s).gU) [] (lS s).S (lS s).iD):=by
     simp only[eG.v,lS,e];rfl
    rw[e9,e8];have:(HB s.s6 s.s7 c).length=c:=by simp[HB]
    rw[show wM (HB s.s6 s.s7 c)= .eo false c (qO (HB s.s6 s.s7 c))by unfold wM;rw[this]];rfl
   rcases K with q|q|q|q
   . refine eI qA (Wz s _ _ _ _ _ _ _ _ _ _ _) (dA (g0 ⟨?_,_,_,_,rfl,pJ 3 _ _ _ _ _ _ _ rfl C rfl rfl rfl rfl rfl rfl rfl q⟩))
     repeat' (first|exact all_nil|exact ND 3 q|refine J ?_ ?_)
   . refine eI qA (WA s _ _ _ _ _ _ _ _ _ _ _) (dA (g0 ⟨?_,_,_,_,rfl,pJ 4 _ _ _ _ _ _ _ rfl C rfl rfl rfl rfl rfl rfl rfl q⟩))
     repeat' (first|exact all_nil|exact ND 4 q|refine J ?_ ?_)
   . refine eI qA (WB s _ _ _ _ _ _ _ _ _ _ _) (dA (g0 ⟨?_,_,_,_,rfl,pJ 5 _ _ _ _ _ _ _ rfl C rfl rfl rfl rfl rfl rfl rfl q⟩))
     repeat' (first|exact all_nil|exact ND 5 q|refine J ?_ ?_)
   . refine eI qA (WC s _ _ _ _ _ _ _ _ _ _ _) (dA (g0 ⟨?_,_,_,_,rfl,pJ 6 _ _ _ _ _ _ _ rfl C rfl rfl rfl rfl rfl rfl rfl q⟩))
     repeat' (first|exact all_nil|exact ND 6 q|refine J ?_ ?_)
end
open Go.Shelf Go.RowKit
def UN:Go.Shelf.Ren:=⟨fun|240=>104|276=>131|n=>n,fun|70=>114|72=>116|164=>193|37=>76|n=>n,fun n=>n⟩
theorem Pm:Lays.n240 ak UN:={
 mixed:=mo
 f240:=Tryz.func104.trans (aH some C)
 f276:=Tryz.func131.trans (aH some C)
 t0:=Tryz.underlying0
 a0:=Tryz.isAgg0
 z0:=Tryz.sizeOf0
 v0:=Tryz.zeroValue0
 t4:=Tryz.underlying4
 a4:=Tryz.isAgg4
 z4:=Tryz.sizeOf4
 v4:=Tryz.zeroValue4
 t9:=Tryz.underlying9
 a9:=Tryz.isAgg9
 z9:=Tryz.sizeOf9
 v9:=Tryz.zeroValue9
 t20:=Tryz.underlying20
 a20:=Tryz.isAgg20
 z20:=Tryz.sizeOf20
 v20:=Tryz.zeroValue20
 t70:=Tryz.underlying114
 a70:=Tryz.isAgg114
 z70:=Tryz.sizeOf114
 v70:=Tryz.zeroValue114
 t72:=Tryz.underlying116
 a72:=Tryz.isAgg116
 z72:=Tryz.sizeOf116
 v72:=Tryz.zeroValue116
 t164:=Tryz.underlying193
 a164:=Tryz.isAgg193
 z164:=Tryz.sizeOf193
 v164:=Tryz.zeroValue193
}
theorem Pn:Builder.X72 ak UN where
 sizeBuilder:=by kernel_rfl
 liesBuilder:=by kernel_rfl
def JC:ag->I O->Nat->Option (ah×V×I O×Nat)
 | [.ptr (some (m,0))],h,n=>match h.get m with
   |some (.Az t _ x)=>match Nat.beq t 116&&Nat.blt m fV with
    |true=>some ([],.gC [],h.set m (some (.Az t true x)),n)
    |false=>none
   |_=>none
 |_,_,_=>none
theorem WD:kE ak 104 JC:=by
 refine⟨az C,fun args h n s' v h' n' e hA E w dF ra g hd K=>?_⟩;unfold JC at e;split at e
 case h_2=>cases e
 rename_i m;split at e
 case h_2=>cases e
 rename_i t self x S;split at e
 case h_2=>cases e
 rename_i hq;simp only[ay]at hq;obtain⟨ht,Ma⟩:=hq;have ht:=aA ht;subst ht;have Ma:m<fV:=az Ma;simp only[aq,aF]at e;obtain⟨rfl,rfl,rfl,rfl⟩:=e;obtain⟨y,ys,r0,rs,rfl⟩:=ra;have rs:ys=[]:=rs;subst rs;obtain⟨b,s,e1,rfl⟩:=r0;obtain⟨b',A,e2,hs,x',fz,k1,k2,k3,k4⟩:=g.rel m _ S;rw[e1]at e2;simp only[aq,aF]at e2;obtain⟨rfl,rfl⟩:=e2;subst hs;have hbb:b<w.heap.size:=g.oy m b 0 e1;have iP:eL h m:=⟨_,S,rfl⟩;have mh:∀{self:Bool},w.heap[b]? =some (.cells #[.pointer (if self then some ⟨b,0,none⟩else none),x'] 116 fz)->w.cell? ⟨b,0,none⟩=some (.pointer (if self then some ⟨b,0,none⟩else none)):=by
  intro self k1;unfold World.cell?;rw[k1];rfl
 have Po:∀w',w'.heap.size=w.heap.size->w'.tape=w.tape->w'.os=w.os->w'.output=w.output->(∀j,j≠b->w'.heap[j]? =w.heap[j]?)->w'.heap[b]? =some (.cells #[.pointer (some ⟨b,0,none⟩),x'] 116 fz)->
   iC E h n w (.ret (.gC [])) (h.set m (some (.Az 116 true x))) n (.returned (.tuple #[])) w':=by
  intro w' Q R h3 h4 h5 h6;refine⟨E,iL.write g Ma iP e1 Q R h3 h4 h5 ⟨rfl,x',fz,h6,k2,k3,k4⟩,fun _ _=>rfl,hd,aK _,⟨[],rfl,rfl⟩⟩
 cases self with
 |true=>
  have h:=Any.Builder_copyCheck_used Pm Pn b w (mh k1);refine h.mono fun en w' ⟨he,hw⟩=>?_;subst he;subst hw;exact Po w' rfl rfl rfl rfl (fun _ _=>rfl) k1
 |false=>
  have h:=Any.Builder_copyCheck_fresh Pm Pn b w (mh k1) (by unfold World.shape?;rw[k1];rfl) (by
   unfold World.frozen?;simp only[k1];have:=k3 0 G;obtain⟨lo,hi⟩:=fz;simp only at this ⊢;cases hq:(decide (lo<=0)&&decide (0<hi))with
   |false=>rfl
   |true=>simp only[ay,aX]at hq;exact absurd hq this)
  refine h.mono fun en w' ⟨he,hw⟩=>?_;subst he;subst hw;refine Po _ (by simp[World.setCell]) rfl rfl rfl (fun j hj=>by simp[World.setCell,cP,Ne.symm hj]) ?_;simp[World.setCell,cP,k1]
end Go.Proofs.YtmjggdmekboefaaGreat
