/- The Doc laws: the program is one that the engine runs. No conditions. -/
import Derived.Test.YtmjggdmekboefaaGreatProg
import Derived.Test.YtmjggdmekboefaaGreatJointW04
import Derived.Shelf.Strings.Builder1
set_option linter.unusedVariables false
set_option linter.unusedSimpArgs false
set_option linter.unusedSectionVars false
namespace Go.Proofs.YtmjggdmekboefaaGreat
open Go Go.Eng
noncomputable abbrev ak:=Tryz.prog
theorem po:jJ ak=true:=by kernel_rfl
theorem mo:Tryz.prog.follows .mixedOrders=true:=by kernel_rfl
noncomputable def dI(f:Func):Code:=match f.body with|some c=>c|none=>.skip
def Pu(l:List (Nat×List (Nat×lM)))(f:FuncId):List (Nat×lM):=match l with
 | []=>[]
 |x::r=>match Nat.beq x.1 f with
  |true=>x.2
  |false=>Pu r f
abbrev H0:FuncId->List (Nat×lM):=fun _=>[]
noncomputable abbrev U(hk:gF)(l:List (Nat×List (Nat×lM))):kn:=Ez ak hk (Pu l) 1000 40
noncomputable abbrev XH{hk:gF}(h:eU ak hk)(l:List (Nat×List (Nat×lM))):CX ak:=CX.of mo po h (Pu l) 1000 40
theorem gQ:∀n:Nat,Int.ofNat n=(n:Int):=fun _=>rfl
abbrev M(n:Nat):V:=.int .i64 (Int.ofNat n)
abbrev L(n:Int):V:=.int .i64 n
section
variable{F fr:Nat}{c:Code}{s:St}{h1:Exit->St->Prop}{hk:gF}{hh:List (Nat×List (Nat×lM))}{dm:List (Nat×lM)}{fn:Func}{live:List Nat}{hL:List (List (Bool×Bool)×ah×jL)}
abbrev dw(R:kn)(dm:List (Nat×lM))(F:Nat)(fn:Func)(live:List Nat)(c:Code)(s:St)(hL:List (List (Bool×Bool)×ah×jL)):Prop:=∃iX,dj ak R dm 1000 F fn live c s iX hL
theorem gv(s':eU ak hk)(cs:V->J h2->Nat->Prop)(hr:dw (U hk hh) dm F fn live c s hL)(h:∀g∈hL,(∀b∈g.1,b.1=b.2)->(∀a∈g.2.1,a)/\g.2.2.post ak F fn live cs h1)(B:eL fr c=true:=by kernel_rfl):TG ak F fr c s h1:=
 hr.elim fun _ hr=>Vn (XH s' hh) mo cs B hr h
theorem fF(k:Nat)(s':eU ak hk){aj:ah}{s1:St}(hr:dw (U hk hh) dm F fn live (dM k c) s [([],aj,.to .normal s1)])(hA:∀a∈aj,a)(h:TG ak F fr (dr k c) s1 h1)(B:eL fr c=true:=by kernel_rfl):TG ak F fr c s h1:=
 hr.elim fun _ hr=>S2 k (XH s' hh) mo B hr hA h
theorem ud(k:Nat)(s':eU ak hk)(hr:dw (U hk hh) dm F fn live (dM k c) s hL)(h:∀g∈hL,(∀b∈g.1,b.1=b.2)->(∀a∈g.2.1,a)/\∃s1,g.2.2= .to .normal s1/\TG ak F fr (dr k c) s1 h1)(B:eL fr c=true:=by kernel_rfl):TG ak F fr c s h1:=
 hr.elim fun _ hr=>O5 k (XH s' hh) mo B hr h
def HdF(P:Program)(F fr:Nat)(fn:Func)(cs:V->J h2->Nat->Prop)(rest:Code):jL->Prop
 | .to .normal s=>TG P F fr rest s (fH P F fn cs)
 | .ret v h n=>cs v h n
 |_=>False
theorem zG{P:Program}{cf:fO}{n0:Nat}:∀(k:Nat) (c:Code) (s:St) (x:s') (s1:St),gD P cf n0 (dM k c) s=some (x,s1)->x≠ .normal->gD P cf n0 c s=some (x,s1):=by
 intro k;have skip:∀{s:St} {x:s'} {s1:St} {r:Prop},gD P cf n0 .skip s=some (x,s1)->x≠ .normal->r:=by
  intro s x s1 r e I;simp only[gD,aq,aF]at e;exact absurd e.1.symm I
 induction k with
 |zero=>intro c s x s1 e I;cases c<;>exact skip e I
 |succ k ih=>
  intro c s x s1 e I;cases c<;>first|exact skip e I|skip
  rename_i a b;simp only[dM,gD]at e ⊢;cases Q:gD P cf n0 a s with
  |none=>rw[Q]at e;cases e
  |some p=>
   rw[Q]at e;obtain⟨y,X⟩:=p;cases y with
   |normal=>exact ih b X x s1 e I
   |_=>exact e
theorem isH(k:Nat){cs:V->J h2->Nat->Prop}(s':eU ak hk)(hr:dw (U hk hh) dm F fn live (dM k c) s hL)(h:∀g∈hL,(∀b∈g.1,b.1=b.2)->(∀a∈g.2.1,a)/\HdF ak F fr fn cs (dr k c) g.2.2)(B:eL fr c=true:=by kernel_rfl):TG ak F fr c s (fH ak F fn cs):=by
 obtain⟨iX,hr⟩:=hr;obtain⟨e1,e2,e3⟩:=hr.parts;obtain⟨l,hl⟩:=bH.1 e1;unfold uU wW at e2;unfold CI at e3;rw[hl]at e2 e3;simp only[tS]at e2 e3;obtain⟨⟨p,hp,ho⟩,O⟩:=ko ak (XH s' hh).R (XH s' hh).cf dm (XH s' hh).snd 1000 (dM k c) s l hl;obtain⟨hA,hT⟩:=h (p.1.conds,p.1.NU,nw ak F fn live p.2) (e3▸mD hp) ho;have gm:=O p hp ho ⟨qF l e2 p hp,hA⟩;obtain⟨pp,x,X⟩:=p;simp only[nw]at hT;cases x with
 |normal=>
  simp only at hT;split at hT
  . rename_i s2 pH;exact yf (n0:=1000) (XH s' hh).ok mo k B gm (fU pH hT)
  . exact hT.elim
 |ret=>
  simp only at hT;split at hT
  . rename_i v h' n' Js;exact qH (n0:=1000) (XH s' hh).ok mo B (zG k c s _ X gm (by intro q;cases q)) rfl ⟨.inr rfl,v,h',n',Js,hT⟩
  . exact hT.elim
 |exit i=>
  simp only at hT;split at hT<;>exact hT.elim
 |panic _=>exact hT.elim
theorem eK{cs:V->J h2->Nat->Prop}(s':eU ak hk)(hr:dw (U hk hh) dm F fn live c s hL)(h:∀g∈hL,(∀b∈g.1,b.1=b.2)->(∀a∈g.2.1,a)/\∃v h n,g.2.2= .ret v h n/\cs v h n)(B:eL fr c=true:=by kernel_rfl):TG ak F fr c s (fH ak F fn cs):=
 hr.elim fun _ hr=>WE (XH s' hh) mo cs B hr h
end
theorem all_nil:∀a∈([]:ah),a:=fun _ h=>absurd h aJ
section
variable{i:Nat}{x:Int}{n:Nat}
theorem gY{h1:Exit->St->Prop}{s:St}:gk i h1 (.exit i) s=h1 .normal s:=by simp[gk]
theorem gZ(Q:-9000000000000000000<=x)(O:x<=9000000000000000000):IntKind.i64.wrap x=x:=by
 unfold IntKind.wrap;have e1:(2^IntKind.i64.bits:Int)=18446744073709551616:=by decide
 have e2:(2^(IntKind.i64.bits-1):Int)=9223372036854775808:=by decide
 have e3:IntKind.i64.signed=true:=rfl;simp only[e1,e2,e3,aN,aY];split<;>omega
abbrev ieq(x:Int)(n:Nat):Prop:=V.int .i64 (IntKind.i64.wrap x)=V.int .i64 (Int.ofNat n)
theorem wY(h:x=(n:Int))(hb:n<1000000000000):ieq x n:=by
 unfold ieq;rw[gZ H H,h];rfl
theorem gJ(h:i<100000000000):ieq (Int.ofNat i+1) (i+1):=wY rfl H
theorem jW(h:decide (Int.ofNat i<Int.ofNat n)=true):i<n:=cm.1 (aX h)
theorem r9(h:decide (Int.ofNat i<Int.ofNat n)=false):n<=i:=by have:=bB h;simp only[gQ]at this;omega
theorem iI(h:i<n):(0:Int)<=Int.ofNat i/\Int.ofNat i<Int.ofNat n:=⟨bZ _,cm.2 h⟩
end
abbrev fa(a:ag):Prop:=a=a
section
abbrev GP:=List (Bool×Bool)×ah×jL
variable{P:GP->Prop}{p:GP}{l:List GP}{q:Prop}{a b c d e f:Bool}
theorem gH:∀g∈([]:List GP),(∀b∈g.1,b.1=b.2)->P g:=fun _ h=>absurd h aJ
theorem dD(h:(∀b∈p.1,b.1=b.2)->P p)(t:∀g∈l,(∀b∈g.1,b.1=b.2)->P g):∀g∈p::l,(∀b∈g.1,b.1=b.2)->P g:=List.forall_mem_cons.2 ⟨h,t⟩
theorem dB(h:(∀b∈p.1,b.1=b.2)->P p):∀g∈[p],(∀b∈g.1,b.1=b.2)->P g:=dD h gH
theorem g0(h:q):(∀b∈([]:List (Bool×Bool)),b.1=b.2)->q:=fun _=>h
theorem gc{l:List (Bool×Bool)}(h:a=b->(∀z∈l,z.1=z.2)->q):(∀z∈(a,b)::l,z.1=z.2)->q:=fun t=>h (t _ (bx ..)) fun z hz=>t z (bj _ hz)
theorem g1(h:a=b->q):(∀z∈[(a,b)],z.1=z.2)->q:=fun t=>h (t _ (aH.2 rfl))
theorem g2(h:a=b->c=d->q):(∀z∈[(a,b),(c,d)],z.1=z.2)->q:=fun t=>h (t _ (bx ..)) (t (c,d) (by simp))
theorem g3(h:a=b->c=d->e=f->q):(∀z∈[(a,b),(c,d),(e,f)],z.1=z.2)->q:=fun t=>h (t _ (bx ..)) (t (c,d) (by simp)) (t (e,f) (by simp))
end
section
variable{P:Program}{F fr:Nat}{c:Code}{s:St}{h1:Exit->St->Prop}{fn:Func}{α:Type}
def LpQ(P:Program)(F fr:Nat)(fn:Func)(live:List Nat)(cs:V->J h2->Nat->Prop)(b:Nat)(h1:Exit->St->Prop)(μ:α->Nat)(hx:α->Prop)(fm:α->St)(x:α):jL->Prop
 | .to .normal s=>∃x',μ x'<μ x/\hx x'/\ek P F fr s (fm x')
 | .to (.exit j) s=>∀X,ld F live X=some s->gk b h1 (.exit j) X
 | .to y s=>∀X,ld F live X=some s->h1 y X
 | .ret v h n=>cs v h n/\∀X,fH P F fn cs .ret X->h1 .ret X
 | .bad=>False
theorem EH(b:Nat)(cs:V->J h2->Nat->Prop)(live:List Nat)(μ:α->Nat)(hx:α->Prop)(fm:α->St)(x0:α)(i0:hx x0)(h0:ek ak F fr s (fm x0))
  (hb:∀x,hx x->∃(hk:gF) (_:eU ak hk) (hh:_) (dm:_) (hL:_),dw (U hk hh) dm F fn live (dG (dG c)) (fm x) hL/\∀g∈hL,(∀b∈g.1,b.1=b.2)->(∀a∈g.2.1,a)/\LpQ ak F fr fn live cs b h1 μ hx fm x g.2.2)
  (hs:(nf c b&&(oM (dG c)&&eL fr (dG (dG c))))=true:=by kernel_rfl):TG ak F fr c s h1:=by
 simp only[ay]at hs;refine zE b μ hx fm hs.1 hs.2.1 x0 i0 h0 fun x I=>?_;obtain⟨hk,s',hh,dm,hL,hr,hg⟩:=hb x I;refine gv s' cs hr (fun g Tf hcd=>?_) hs.2.2;obtain⟨hA,hp⟩:=hg g Tf hcd;refine⟨hA,?_⟩;obtain⟨_,_,r⟩:=g;simp only at hp ⊢;cases r with
 |to y s1=>
  cases y with
  |normal=>
   obtain⟨x',Q,O,h3⟩:=hp;exact fun X dQ=>⟨x',Q,O,(ek.norm dQ).trans h3⟩
  |exit j=>exact hp
  |_=>exact hp
 |ret v h n=>exact hp
 |bad=>exact hp.elim
def LpF(P:Program)(F fr:Nat)(fn:Func)(cs:V->J h2->Nat->Prop)(b:Nat)(rest:Code)(μ:α->Nat)(hx:α->Prop)(fm:α->St)(x:α):jL->Prop
 | .to .normal s=>∃x',μ x'<μ x/\hx x'/\ek P F fr s (fm x')
 | .to (.exit j) s=>j=b/\TG P F fr rest s (fH P F fn cs)
 | .ret v h n=>cs v h n
 |_=>False
theorem abR(b:Nat)(cs:V->J h2->Nat->Prop)(live:List Nat)(μ:α->Nat)(hx:α->Prop)(fm:α->St)(x0:α)(i0:hx x0)(h0:ek ak F fr s (fm x0))
  (hb:∀x,hx x->∃(hk:gF) (_:eU ak hk) (hh:_) (dm:_) (hL:_),dw (U hk hh) dm F fn live (dG (dG (dF c))) (fm x) hL/\∀g∈hL,(∀b∈g.1,b.1=b.2)->(∀a∈g.2.1,a)/\LpF ak F fr fn cs b (dX c) μ hx fm x g.2.2)
  (hs:(rT c&&(nf (dF c) b&&(oM (dG (dF c))&&eL fr (dG (dG (dF c))))))=true:=by kernel_rfl):TG ak F fr c s (fH ak F fn cs):=by
 simp only[ay]at hs;refine dK hs.1 (EH (fn:=fn) b cs live μ hx fm x0 i0 h0 (fun x I=>?_) (by simp only[ay];exact hs.2));obtain⟨hk,s',hh,dm,hL,hr,hg⟩:=hb x I;refine⟨hk,s',hh,dm,hL,hr,fun g Tf hcd=>?_⟩;obtain⟨hA,hp⟩:=hg g Tf hcd;refine⟨hA,?_⟩;obtain⟨_,_,r⟩:=g;simp only at hp ⊢;cases r with
 |to y s1=>
  cases y with
  |normal=>exact hp
  |exit j=>
   obtain⟨rfl,h⟩:=hp;exact fun X dQ=>by rw[gY];exact fU dQ h
  |_=>exact hp.elim
 |ret v h n=>exact⟨hp,fun X h=>h⟩
 |bad=>exact hp.elim
theorem qm{hk:gF}(s':eU ak hk)(b:Nat)(cs:V->J h2->Nat->Prop)(live:List Nat)(μ:α->Nat)(hx:α->Prop)(fm:α->St)(x0:α)(i0:hx x0)
  {h0h:List (Nat×List (Nat×lM))} {H0:List (Nat×lM)} {aj:ah} {s0:St} (Vs:dw (U hk h0h) H0 F fn live (dF (dF c)) s [([],aj,.to .normal s0)]) (hA:∀a∈aj,a) (h0:ek ak F fr s0 (fm x0))
  (hb:∀x,hx x->∃(hk:gF) (_:eU ak hk) (hh:_) (dm:_) (hL:_),dw (U hk hh) dm F fn live (dG (dG (dX (dF c)))) (fm x) hL/\∀g∈hL,(∀b∈g.1,b.1=b.2)->(∀a∈g.2.1,a)/\LpF ak F fr fn cs b (dX c) μ hx fm x g.2.2)
  (hs:((rT c&&rT (dF c))&&(eL fr (dF (dF c))&&(nf (dX (dF c)) b&&(oM (dG (dX (dF c)))&&eL fr (dG (dG (dX (dF c))))))))=true:=by kernel_rfl):TG ak F fr c s (fH ak F fn cs):=by
 simp only[ay]at hs;refine dK hs.1.1 (dK hs.1.2 (gv s' eE Vs (dB (g0 ⟨hA,fun X dQ=>?_⟩)) hs.2.1));simp only[andThen];refine EH (fn:=fn) b cs live μ hx fm x0 i0 ((ek.norm dQ).trans h0) (fun x I=>?_) (by simp only[ay];exact hs.2.2);obtain⟨hk,s',hh,dm,hL,hr,hg⟩:=hb x I;refine⟨hk,s',hh,dm,hL,hr,fun g Tf hcd=>?_⟩;obtain⟨hA,hp⟩:=hg g Tf hcd;refine⟨hA,?_⟩;obtain⟨_,_,r⟩:=g;simp only at hp ⊢;cases r with
 |to y s1=>
  cases y with
  |normal=>exact hp
  |exit j=>
   obtain⟨rfl,h⟩:=hp;exact fun X dQ=>by rw[gY];exact fU dQ h
  |_=>exact hp.elim
 |ret v h n=>exact⟨hp,fun X h=>h⟩
 |bad=>exact hp.elim
end
noncomputable abbrev abT:Code:=dI Tryz.f61
noncomputable abbrev W5:Code:=dI Tryz.f59
section
variable(x u:Int)(Y:List Int)
noncomputable abbrev Tg:Code:=dr 3 W5
def sV0:St:=fq [(3,.eR none 0 0 0),(4,.int .u64 u)] (G []) 0
def sV1(u:Int):St:=fq [(3,.eR (some (0,0)) Y.length Y.length 1),(4,.int .u64 u)] (G [(0,.own .u8 Y)]) 1
theorem ah5:dw (U dY []) [] 0 Tryz.f61 [] (abT) (dy [.int .i64 x,.int .i64 1] .nil 0) [([],
   [((0:Int)<=(0:Int)/\(0:Int)<(8:Int)),((0:Int)<=(1:Int)/\(1:Int)<(8:Int)),((0:Int)<=(2:Int)/\(2:Int)<(8:Int)),((0:Int)<=(3:Int)/\(3:Int)<(8:Int)),((0:Int)<=(4:Int)/\(4:Int)<(8:Int)),((0:Int)<=(5:Int)/\(5:Int)<(8:Int)),((0:Int)<=(6:Int)/\(6:Int)<(8:Int)),((0:Int)<=(7:Int)/\(7:Int)<(8:Int))],
   .ret (.str ([UInt8.ofNat (IntKind.u8.wrap ((IntKind.u64.wrap x).fdiv (1:Int))).toNat])) (G []) 0)]
 :=dj.of C C C
theorem ah6:dw (U dY []) [] 0 Tryz.f61 [] (abT) (dy [.int .i64 x,.int .i64 4] .nil 0) [([],
   [((0:Int)<=(0:Int)/\(0:Int)<(8:Int)),((0:Int)<=(1:Int)/\(1:Int)<(8:Int)),((0:Int)<=(2:Int)/\(2:Int)<(8:Int)),((0:Int)<=(3:Int)/\(3:Int)<(8:Int)),((0:Int)<=(4:Int)/\(4:Int)<(8:Int)),((0:Int)<=(5:Int)/\(5:Int)<(8:Int)),((0:Int)<=(6:Int)/\(6:Int)<(8:Int)),((0:Int)<=(7:Int)/\(7:Int)<(8:Int))],
   .ret (.str ([UInt8.ofNat (IntKind.u8.wrap ((IntKind.u64.wrap x).fdiv (16777216:Int))).toNat,UInt8.ofNat (IntKind.u8.wrap ((IntKind.u64.wrap x).fdiv (65536:Int))).toNat,UInt8.ofNat (IntKind.u8.wrap ((IntKind.u64.wrap x).fdiv (256:Int))).toNat,UInt8.ofNat (IntKind.u8.wrap ((IntKind.u64.wrap x).fdiv (1:Int))).toNat])) (G []) 0)]
 :=dj.of C C C
theorem ah7(n:Int):dw (U dY []) [] 0 Tryz.f59 [3,4] (dM 3 W5) (dy [.int .i64 n] .nil 0) [([],
   [],
   .to .normal (sV0 (IntKind.u64.wrap n)))]
 :=dj.of C C C
theorem ah8:dw (U dY []) [(8,.split)] 0 Tryz.f59 [3,4] (dG (dG (dF Tg))) (sV0 u) [([((decide (u>=(128:Int))),true)],
   [],
   .to .normal (fq [(3,.eR (some (0,0)) 1 1 1),(4,.int .u64 (u.fdiv (128:Int)))] (G [(0,.cells [.int .u8 (IntKind.u8.wrap (Int.ofNat (BitVec.ofInt 8 (IntKind.u8.wrap u)|||BitVec.ofInt 8 (128:Int)).toNat))])]) 1)),
  ([((decide (u>=(128:Int))),false)],
   [],
   .to (.exit 0) (fq [(3,.eR none 0 0 0),(4,.int .u64 u)] (G []) 0))]
 :=dj.of C C C
theorem ah9:dw (U dY []) [(8,.split)] 0 Tryz.f59 [3,4] (dG (dG (dF Tg))) (sV1 Y u) [([((decide (u>=(128:Int))),true)],
   [(0<Y.length),(0+Y.length*1<=Y.length),(0<1),(fo (Y.length+1) 1 1=true)],
   .to .normal (fq [(3,.eR (some (0,0)) (Y.length+1) (Y.length+1) 1),(4,.int .u64 (u.fdiv (128:Int)))] (G [(0,.own .u8 (List.take (Y.length*1) (List.drop 0 Y)++[IntKind.u8.wrap (Int.ofNat (BitVec.ofInt 8 (IntKind.u8.wrap u)|||BitVec.ofInt 8 (128:Int)).toNat)]))]) 1)),
  ([((decide (u>=(128:Int))),false)],
   [],
   .to (.exit 0) (fq [(3,.eR (some (0,0)) (Y.length) (Y.length) 1),(4,.int .u64 u)] (G [(0,.own .u8 Y)]) 1))]
 :=dj.of C C C
theorem aia:dw (U dY []) [] 0 Tryz.f59 [] (dX Tg) (sV0 u) [([],
   [],
   .ret (.str ([UInt8.ofNat (IntKind.u8.wrap u).toNat])) (G []) 0)]
 :=dj.of C C C
theorem aib:dw (U dY []) [] 0 Tryz.f59 [] (dX Tg) (sV1 Y u) [([],
   [(0<Y.length),(0+Y.length*1<=Y.length),(0<1),(fo (Y.length+1) 1 1=true),(0+(Y.length+1)<=(List.take (Y.length*1) (List.drop 0 Y)++[IntKind.u8.wrap u]).length)],
   .ret (.str (iy (List.take (Y.length+1) (List.drop 0 (List.take (Y.length*1) (List.drop 0 Y)++[IntKind.u8.wrap u]))))) (G []) 0)]
 :=dj.of C C C
end
section
variable(x u:Int)
def pB(d:Int):UInt8:=UInt8.ofNat (IntKind.u8.wrap ((IntKind.u64.wrap x).fdiv d)).toNat
def aic:aa:=[pB x 16777216,pB x 65536,pB x 256,pB x 1]
def CS:aa:=[pB x 1]
def J3:ag->Option (ah×V)
 | [.int .i64 x,.int .i64 k]=>match k with
   | .ofNat 4=>some ([],.str (aic x))
   | .ofNat 1=>some ([],.str (CS x))
   |_=>none
 |_=>none
theorem ow{f:FuncId}{fn:Func}{spec:ag->Option (ah×V)}(hf:Tryz.prog.funcs[f]? =some fn)
  (h:∀args aj v,spec args=some (aj,v)->V.tR args=true/\v.free=true/\(Nat.ble args.length fn.ntmps&&Nat.blt fn.ntmps fZ)=true/\((∀a∈aj,a)->TG ak gN fn.ntmps (dI fn) (dy args .nil gN) (fH ak gN fn fun u _ _=>u=v)))
  (hb:fn.body=some (dI fn):=by kernel_rfl) (eO:Nat.blt f Tryz.prog.funcs.size=true:=by kernel_rfl):jK ak f (gV spec):=
 O6 (az eO) fun args aj v e=>by
  obtain⟨Q,O,h3,h4⟩:=h args aj v e;exact⟨Q,O,fun hA=>JY mo po hf hb h3 Q (h4 hA)⟩
theorem sm{α β:Type}{a c:α}{b d:β}(h:some (a,b)=some (c,d)):a=c/\b=d:=Prod.mk.inj (dg h)
abbrev b8:ah:=[(0:Int)<=0/\(0:Int)<8,(0:Int)<=1/\(1:Int)<8,(0:Int)<=2/\(2:Int)<8,(0:Int)<=3/\(3:Int)<8,(0:Int)<=4/\(4:Int)<8,(0:Int)<=5/\(5:Int)<8,(0:Int)<=6/\(6:Int)<8,(0:Int)<=7/\(7:Int)<8]
theorem Vt:∀p∈b8,p:=by
 intro p hp;simp only[aD,aJ,bn]at hp;rcases hp with rfl|rfl|rfl|rfl|rfl|rfl|rfl|rfl<;>decide
theorem p128:(128:Int)^(9+1)=1180591620717411303424:=by rfl
theorem W7:jK ak 61 (gV J3):=by
 refine ow Tryz.func61 fun args aj v e=>?_;unfold J3 at e;split at e
 case h_2=>cases e
 split at e
 case h_3=>cases e
 all_goals
  obtain⟨rfl,rfl⟩:=sm e;refine⟨rfl,rfl,rfl,fun _=>?_⟩
 . exact eK (di _) (ah6 _) (dB (g0 ⟨Vt,_,_,_,rfl,rfl⟩))
 . exact eK (di _) (ah5 _) (dB (g0 ⟨Vt,_,_,_,rfl,rfl⟩))
def NW:Int:=IntKind.u8.wrap (Int.ofNat (BitVec.ofInt 8 (IntKind.u8.wrap u)|||BitVec.ofInt 8 (128:Int)).toNat)
def loB:Int:=IntKind.u8.wrap u
end
def zH:Nat->Int->List Int
 |0,u=>[loB u]
 |k+1,u=>if 128<=u then NW u::zH k (u.fdiv 128)else[loB u]
def dN(n:Int):aa:=iy (zH 9 (IntKind.u64.wrap n))
theorem If{k:Nat}{u:Int}(h:¬128<=u):zH k u=[loB u]:=by
 cases k with
 |zero=>rfl
 |succ k=>show(if 128<=u then _ else _)=_;rw[aB h]
theorem Ig:∀(k:Nat) (u:Int),0<(zH k u).length/\(zH k u).length<=k+1
 |0,u=>by simp[zH]
 |k+1,u=>by
  have:=Ig k (u.fdiv 128);show 0<(if 128<=u then _ else _:List Int).length/\(if 128<=u then _ else _:List Int).length<=_;split
  . simp only[aP];omega
  . simp only[aP,bW];omega
theorem gp(n:Int):0<(dN n).length/\(dN n).length<=10:=by
 have:=Ig 9 (IntKind.u64.wrap n);unfold dN iy;rw[bG];exact this
theorem Pv(n:Int):0<=IntKind.u64.wrap n/\IntKind.u64.wrap n<18446744073709551616:=by
 unfold IntKind.wrap;have e1:(2^IntKind.u64.bits:Int)=18446744073709551616:=by decide
 have e3:IntKind.u64.signed=false:=rfl;simp only[e1,e3,aS,aM,cz];omega
theorem lq{k:Nat}(h:k<=100000000000):fo k 1 1=true:=by
 unfold fo;exact aZ ⟨H,H⟩
def SVa(x:Nat×List Int×Int):St:=match x.2.1 with
 | []=>sV0 x.2.2
 |k::r=>sV1 (k::r) x.2.2
theorem aid(n:Int):TG ak 0 Tryz.f59.ntmps W5 (dy [.int .i64 n] .nil 0) (fH ak 0 Tryz.f59 fun u _ _=>u= .str (dN n)):=by
 have hu:=Pv n;refine fF 3 (di _) (ah7 n) all_nil ?_;refine abR (α:=Nat×List Int×Int) 0 _ [3,4] (·.1) (fun x=>0<=x.2.2/\x.2.2<128^(x.1+1)/\x.2.1.length+x.1<=10/\x.2.1++zH x.1 x.2.2=zH 9 (IntKind.u64.wrap n)) SVa (9,[],IntKind.u64.wrap n) ⟨hu.1,by show IntKind.u64.wrap n<(128:Int)^(9+1);rw[p128];omega,show 0+9<=10 by decide,rfl⟩ .refl ?_;rintro⟨k,Y,u⟩ ⟨h0,W,hl,hv⟩;simp only at h0 W hl hv;have Lw:128<=u->∃j,k=j+1/\0<=u.fdiv 128/\u.fdiv 128<128^(j+1)/\(Y++[NW u])++zH j (u.fdiv 128)=zH 9 (IntKind.u64.wrap n):=fun h=>by
  cases k with
  |zero=>simp at W;omega
  |succ j=>
   have ed:u.fdiv 128=u/128:=Int.fdiv_eq_ediv_of_nonneg _ eY;refine⟨j,rfl,by rw[ed];omega,?_,?_⟩
   . rw[ed];have:(128:Int)^(j+1+1)=128^(j+1)*128:=Int.pow_succ ..;rw[this]at W;exact Int.ediv_lt_of_lt_mul eY W
   . rw[<- hv];show _=Y++(if 128<=u then _ else _);rw[aG h];simp
 have A8:¬128<=u->Y++[loB u]=zH 9 (IntKind.u64.wrap n):=fun h=>by rw[<- hv,If h]
 cases Y with
 |nil=>
  refine⟨_,(di _),[],_,_,ah8 u,dD (g1 fun h=>⟨all_nil,?_⟩) (dB (g1 fun h=>⟨all_nil,rfl,?_⟩))⟩
  . obtain⟨j,rfl,a1,a2,a3⟩:=Lw (aX h);exact⟨(j,[NW u],u.fdiv 128),Nat.lt_succ_self j,⟨a1,a2,by simp at hl ⊢;omega,a3⟩,.own [(0,.u8)] C⟩
  . refine eK (di _) (aia u) (dB (g0 ⟨all_nil,_,_,_,rfl,?_⟩));unfold dN;rw[<- A8 (bB h)];rfl
 |cons x r=>
  have xS:0<(x::r).length:=by simp
  have R9:(x::r).length<=10:=by omega
  have e0:List.take ((x::r).length*1) (List.drop 0 (x::r))=x::r:=by rw[cA,cU,bz]
  have aj:=S xS (S (show 0+(x::r).length*1<=(x::r).length by omega) (S (show 0<1 by decide) (eG (lq (k:=(x::r).length+1) H))));have h3:=ah9 u (x::r);have h5:=aib u (x::r);rw[e0]at h3 h5;refine⟨_,(di _),[],_,_,h3,dD (g1 fun h=>⟨aj,?_⟩) (dB (g1 fun h=>⟨all_nil,rfl,?_⟩))⟩
  . obtain⟨j,rfl,a1,a2,a3⟩:=Lw (aX h);refine⟨(j,(x::r)++[NW u],u.fdiv 128),Nat.lt_succ_self j,⟨a1,a2,by rw[aE];simp at hl ⊢;omega,a3⟩,?_⟩;have:SVa (j,(x::r)++[NW u],u.fdiv 128)=fq [(3,.eR (some (0,0)) ((x::r).length+1) ((x::r).length+1) 1),(4,.int .u64 (u.fdiv (128:Int)))] (G [(0,.own .u8 ((x::r)++[NW u]))]) 1:=by
     show sV1 ((x::r)++[NW u]) _=_;unfold sV1;rw[aE];rfl
    rw[this];exact .refl
  . have he:=A8 (bB h);have e1:(x::r++[IntKind.u8.wrap u]).length=(x::r).length+1:=by rw[aE];rfl
    refine eK (di _) h5 (dB (g0 ⟨S xS (S (show 0+(x::r).length*1<=(x::r).length by omega) (S eY (S (lq H) (eG (by rw[e1];omega))))),_,_,_,rfl,?_⟩));unfold dN;rw[<- he,cA,<- e1,bz];rfl
def J4:ag->Option (ah×V)
 | [.int .i64 n]=>some ([],.str (dN n))
 |_=>none
theorem W8:jK ak 59 (gV J4):=by
 refine ow Tryz.func59 fun args aj v e=>?_;unfold J4 at e;split at e
 case h_2=>cases e
 obtain⟨rfl,rfl⟩:=sm e;exact⟨rfl,rfl,rfl,fun _=>aid _⟩
noncomputable abbrev W1:gF:=jZ 59 (gV J4) (jZ 61 (gV J3) dY)
theorem qK:eU ak W1:=fC W8 (fC W7 (di _))
section
variable(Y:List Int)(p:Nat->Int)(x:Int)(js:List Int)(y:Int)(i:Nat)(r g a b r' g' b' a':Int)
def DB:ai:=(List.range 256).map fun j=>.int .u8 (p j)
def tl:List Int:=(List.range 256).map p
def ja:V:=.agg (D.fQ (DB p))
noncomputable abbrev aie:Code:=dI Tryz.f70
noncomputable abbrev abV:Code:=dI Tryz.f138
noncomputable abbrev W9:Code:=dr 1 abV
noncomputable abbrev abW:Code:=dI Tryz.f139
noncomputable abbrev Xa:Code:=dr 1 abW
noncomputable abbrev aif:Code:=dI Tryz.f132
noncomputable abbrev aih:Code:=dI Tryz.f141
noncomputable abbrev aii:Code:=dI Tryz.f142
def sZe:St:=fq [(1,.ptr (some (0,0))),(3,M i)] (G [(0,.own .u8 Y)]) 1
def sSm:St:=fq [(2,.ptr (some (0,0))),(3,.ptr (some (1,0))),(5,M i)] (G [(0,.own .u8 Y),(1,.own .u8 js)]) 2
theorem aij(a:Int):dw (U W1 []) [(5,.split)] 0 Tryz.f70 [] (aie) (dy [.agg [.int .u8 r,.int .u8 g,.int .u8 b,.int .u8 a]] .nil 0) [([((a==(0:Int)),true)],
   [],
   .ret (.agg [.int .u8 0,.int .u8 0,.int .u8 0,.int .u8 0]) (G []) 0),
  ([((a==(0:Int)),false)],
   [],
   .ret (.agg [.int .u8 r,.int .u8 g,.int .u8 b,.int .u8 a]) (G []) 0)]
 :=dj.of C C C
theorem aik:dw (U W1 []) [] 0 Tryz.f138 [1] (dM 1 abV) (dy [ja p] .nil 0) [([],
   [],
   .to .normal (fq [(1,.ptr (some (0,0)))] (G [(0,.cells (D.fQ (DB p)))]) 1))]
 :=dj.of C C C
theorem ail:dw (U W1 []) [] 0 Tryz.f138 [1,3] (dF (dF W9)) (fq [(1,.ptr (some (0,0)))] (G [(0,.own .u8 Y)]) 1) [([],
   [],
   .to .normal (sZe Y 0))]
 :=dj.of C C C
abbrev Pw:Prop:=V.int IntKind.u8 (Y.getD (0+i*4+3) (0:Int))=V.int IntKind.u8 a
theorem aim:dw (U W1 []) [(5,.split),(11,.dz (.int .u8 a)),(12,.split),(7,.dz (M (i+1)))] 0 Tryz.f138 [1,3] (dG (dG (dX (dF W9)))) (sZe Y i) [([((decide (Int.ofNat i<(64:Int))),true),((a !=(0:Int)),true)],
   [((0:Int)<=Int.ofNat i/\Int.ofNat i<(64:Int)),(0+i*4+3<Y.length),Pw Y i a],
   .ret (.bool false) (G []) 0),
  ([((decide (Int.ofNat i<(64:Int))),true),((a !=(0:Int)),false)],
   [((0:Int)<=Int.ofNat i/\Int.ofNat i<(64:Int)),(0+i*4+3<Y.length),Pw Y i a,(V.int A (IntKind.i64.wrap (Int.ofNat i+(1:Int)))=M (i+1))],
   .to .normal (sZe Y (i+1))),
  ([((decide (Int.ofNat i<(64:Int))),false)],
   [],
   .to (.exit 0) (sZe Y i))]
 :=dj.of C C C
theorem ain:dw (U W1 []) [] 0 Tryz.f138 [] (dX W9) (sZe Y 64) [([],
   [],
   .ret (.bool true) (G []) 0)]
 :=dj.of C C C
theorem aio(q:Nat->Int):dw (U W1 []) [] 0 Tryz.f139 [2,3] (dM 1 abW) (dy [ja p,ja q] .nil 0) [([],
   [],
   .to .normal (fq [(2,.ptr (some (0,0))),(3,.ptr (some (1,0)))] (G [(0,.cells (D.fQ (DB p))),(1,.cells (D.fQ (DB q)))]) 2))]
 :=dj.of C C C
theorem aip:dw (U W1 []) [] 0 Tryz.f139 [2,3,5] (dF (dF Xa)) (fq [(2,.ptr (some (0,0))),(3,.ptr (some (1,0)))] (G [(0,.own .u8 Y),(1,.own .u8 js)]) 2) [([],
   [],
   .to .normal (sSm Y js 0))]
 :=dj.of C C C
abbrev Px:Prop:=lY IntKind.u8 js (0+i*4) 4=V.agg [V.int IntKind.u8 r',V.int IntKind.u8 g',V.int IntKind.u8 b',V.int IntKind.u8 a']
abbrev Py(a:Int):Prop:=lY IntKind.u8 Y (0+i*4) 4=V.agg [V.int IntKind.u8 r,V.int IntKind.u8 g,V.int IntKind.u8 b,V.int IntKind.u8 a]
theorem aiq(a r' g' b' a':Int):dw (U W1 []) [(7,.split),(12,.dz (.agg [.int .u8 r,.int .u8 g,.int .u8 b,.int .u8 a])),(15,.dz (.agg [.int .u8 r',.int .u8 g',.int .u8 b',.int .u8 a'])),(16,.split),(9,.dz (M (i+1)))] 0 Tryz.f139 [2,3,5] (dG (dG (dX (dF Xa)))) (sSm Y js i) [([((decide (Int.ofNat i<(64:Int))),true),((!(r==r'&&(g==g'&&(b==b'&&(a==a'&&true))))),true)],
   [((0:Int)<=Int.ofNat i/\Int.ofNat i<(64:Int)),(0+i*4+4<=Y.length),Py Y i r g b a,((0:Int)<=Int.ofNat i/\Int.ofNat i<(64:Int)),(0+i*4+4<=js.length),Px js i r' g' b' a'],
   .ret (.bool false) (G []) 0),
  ([((decide (Int.ofNat i<(64:Int))),true),((!(r==r'&&(g==g'&&(b==b'&&(a==a'&&true))))),false)],
   [((0:Int)<=Int.ofNat i/\Int.ofNat i<(64:Int)),(0+i*4+4<=Y.length),Py Y i r g b a,((0:Int)<=Int.ofNat i/\Int.ofNat i<(64:Int)),(0+i*4+4<=js.length),Px js i r' g' b' a',(V.int A (IntKind.i64.wrap (Int.ofNat i+(1:Int)))=M (i+1))],
   .to .normal (sSm Y js (i+1))),
  ([((decide (Int.ofNat i<(64:Int))),false)],
   [],
   .to (.exit 0) (sSm Y js i))]
 :=dj.of C C C
theorem air:dw (U W1 []) [] 0 Tryz.f139 [] (dX Xa) (sSm Y js 64) [([],
   [],
   .ret (.bool true) (G []) 0)]
 :=dj.of C C C
theorem ais:dw (U W1 [(164,[(14,.split),(17,.split)])]) [] 0 Tryz.f132 [] (aif) (dy [L x,L y] .nil 0) [([((x.tmod (8:Int) !=(0:Int)),true),((decide (x<(0:Int))),true),((y.tmod (8:Int) !=(0:Int)),true),((decide (y<(0:Int))),true)],
   [((8:Int)≠(0:Int)),((8:Int)≠(0:Int)),((8:Int)≠(0:Int)),((8:Int)≠(0:Int))],
   .ret (.agg [.int .i64 (IntKind.i64.wrap (IntKind.i64.wrap (x.tdiv (8:Int))-(1:Int))),.int .i64 (IntKind.i64.wrap (IntKind.i64.wrap (y.tdiv (8:Int))-(1:Int)))]) (G []) 0),
  ([((x.tmod (8:Int) !=(0:Int)),true),((decide (x<(0:Int))),true),((y.tmod (8:Int) !=(0:Int)),true),((decide (y<(0:Int))),false)],
   [((8:Int)≠(0:Int)),((8:Int)≠(0:Int)),((8:Int)≠(0:Int)),((8:Int)≠(0:Int))],
   .ret (.agg [.int .i64 (IntKind.i64.wrap (IntKind.i64.wrap (x.tdiv (8:Int))-(1:Int))),.int .i64 (IntKind.i64.wrap (y.tdiv (8:Int)))]) (G []) 0),
  ([((x.tmod (8:Int) !=(0:Int)),true),((decide (x<(0:Int))),true),((y.tmod (8:Int) !=(0:Int)),false)],
   [((8:Int)≠(0:Int)),((8:Int)≠(0:Int)),((8:Int)≠(0:Int)),((8:Int)≠(0:Int))],
   .ret (.agg [.int .i64 (IntKind.i64.wrap (IntKind.i64.wrap (x.tdiv (8:Int))-(1:Int))),.int .i64 (IntKind.i64.wrap (y.tdiv (8:Int)))]) (G []) 0),
  ([((x.tmod (8:Int) !=(0:Int)),true),((decide (x<(0:Int))),false),((y.tmod (8:Int) !=(0:Int)),true),((decide (y<(0:Int))),true)],
   [((8:Int)≠(0:Int)),((8:Int)≠(0:Int)),((8:Int)≠(0:Int)),((8:Int)≠(0:Int))],
   .ret (.agg [.int .i64 (IntKind.i64.wrap (x.tdiv (8:Int))),.int .i64 (IntKind.i64.wrap (IntKind.i64.wrap (y.tdiv (8:Int))-(1:Int)))]) (G []) 0),
  ([((x.tmod (8:Int) !=(0:Int)),true),((decide (x<(0:Int))),false),((y.tmod (8:Int) !=(0:Int)),true),((decide (y<(0:Int))),false)],
   [((8:Int)≠(0:Int)),((8:Int)≠(0:Int)),((8:Int)≠(0:Int)),((8:Int)≠(0:Int))],
   .ret (.agg [.int .i64 (IntKind.i64.wrap (x.tdiv (8:Int))),.int .i64 (IntKind.i64.wrap (y.tdiv (8:Int)))]) (G []) 0),
  ([((x.tmod (8:Int) !=(0:Int)),true),((decide (x<(0:Int))),false),((y.tmod (8:Int) !=(0:Int)),false)],
   [((8:Int)≠(0:Int)),((8:Int)≠(0:Int)),((8:Int)≠(0:Int)),((8:Int)≠(0:Int))],
   .ret (.agg [.int .i64 (IntKind.i64.wrap (x.tdiv (8:Int))),.int .i64 (IntKind.i64.wrap (y.tdiv (8:Int)))]) (G []) 0),
  ([((x.tmod (8:Int) !=(0:Int)),false),((y.tmod (8:Int) !=(0:Int)),true),((decide (y<(0:Int))),true)],
   [((8:Int)≠(0:Int)),((8:Int)≠(0:Int)),((8:Int)≠(0:Int)),((8:Int)≠(0:Int))],
   .ret (.agg [.int .i64 (IntKind.i64.wrap (x.tdiv (8:Int))),.int .i64 (IntKind.i64.wrap (IntKind.i64.wrap (y.tdiv (8:Int))-(1:Int)))]) (G []) 0),
  ([((x.tmod (8:Int) !=(0:Int)),false),((y.tmod (8:Int) !=(0:Int)),true),((decide (y<(0:Int))),false)],
   [((8:Int)≠(0:Int)),((8:Int)≠(0:Int)),((8:Int)≠(0:Int)),((8:Int)≠(0:Int))],
   .ret (.agg [.int .i64 (IntKind.i64.wrap (x.tdiv (8:Int))),.int .i64 (IntKind.i64.wrap (y.tdiv (8:Int)))]) (G []) 0),
  ([((x.tmod (8:Int) !=(0:Int)),false),((y.tmod (8:Int) !=(0:Int)),false)],
   [((8:Int)≠(0:Int)),((8:Int)≠(0:Int)),((8:Int)≠(0:Int)),((8:Int)≠(0:Int))],
   .ret (.agg [.int .i64 (IntKind.i64.wrap (x.tdiv (8:Int))),.int .i64 (IntKind.i64.wrap (y.tdiv (8:Int)))]) (G []) 0)]
 :=dj.of C C C
theorem ait:dw (U W1 []) [(5,.split),(9,.split),(14,.split)] 0 Tryz.f141 [] (aih) (dy [.agg [L x,L y]] .nil 0) [([((decide (x>=(-8192:Int))),true),((decide (x<=(8191:Int))),true),((decide (y>=(-8192:Int))),true)],
   [],
   .ret (.bool (decide (y<=(8191:Int)))) (G []) 0),
  ([((decide (x>=(-8192:Int))),true),((decide (x<=(8191:Int))),true),((decide (y>=(-8192:Int))),false)],
   [],
   .ret (.bool false) (G []) 0),
  ([((decide (x>=(-8192:Int))),true),((decide (x<=(8191:Int))),false)],
   [],
   .ret (.bool false) (G []) 0),
  ([((decide (x>=(-8192:Int))),false)],
   [],
   .ret (.bool false) (G []) 0)]
 :=dj.of C C C
end
theorem aiu(x y z w:Int):dw (U W1 []) [(9,.split),(15,.split)] 0 Tryz.f142 [] (aii) (dy [.agg [L x,L y],.agg [L z,L w]] .nil 0) [([((decide (y<w)),true)],
   [],
   .ret (.bool true) (G []) 0),
  ([((decide (y<w)),false),((y==w),true)],
   [],
   .ret (.bool (decide (x<z))) (G []) 0),
  ([((decide (y<w)),false),((y==w),false)],
   [],
   .ret (.bool false) (G []) 0)]
 :=dj.of C C C
section
variable(p:Nat->Int){f:FuncId}{i:Nat}{fn:Func}{args:ag}
theorem eX{v:V}(hf:Tryz.prog.funcs[f]? =some fn)(hT:TG ak gN fn.ntmps (dI fn) (dy args .nil gN) (fH ak gN fn fun u _ _=>u=v))
  (J1:V.qi args=true:=by kernel_rfl) (hv:v.deep=true:=by kernel_rfl) (hb:fn.body=some (dI fn):=by kernel_rfl) (l:(Nat.ble args.length fn.ntmps&&Nat.blt fn.ntmps fZ)=true:=by kernel_rfl):dU ak f args v:=
 J0 mo po hf hb l J1 hv (qG hT fun _ _ ⟨hy,u,h,n,e,q⟩=>⟨hy,u,h,n,e,q▸ .self⟩)
theorem qL{v:V}(hf:Tryz.prog.funcs[f]? =some fn)(hT:TG ak gN fn.ntmps (dI fn) (dy args .nil gN) (fH ak gN fn (vD v)))
  (J1:V.qi args=true:=by kernel_rfl) (hb:fn.body=some (dI fn):=by kernel_rfl) (l:(Nat.ble args.length fn.ntmps&&Nat.blt fn.ntmps fZ)=true:=by kernel_rfl):dU ak f args v:=
 .ah3 mo po hf hb l J1 hT
theorem fu{f0:FuncId}{kp:ag}{v:V}{fm:gF}(B:dU ak f0 kp v)(hS:eU ak fm)(eO:Nat.blt f0 Tryz.prog.funcs.size=true:=by kernel_rfl):eU ak (fb f0 kp v fm):=Tc eO B hS
theorem oO:(tl p).length=256:=by simp[tl]
theorem wZ{j:Nat}(h:j<256):(tl p).getD j 0=p j:=by
 simp[tl,ax,bI,cZ h]
theorem Pz(h:i<64):lY .u8 (tl p) (0+i*4) 4= .agg [.int .u8 (p (4*i)),.int .u8 (p (4*i+1)),.int .u8 (p (4*i+2)),.int .u8 (p (4*i+3))]:=by
 show V.agg [.int .u8 ((tl p).getD (0+i*4+0) 0),.int .u8 ((tl p).getD (0+i*4+1) 0),.int .u8 ((tl p).getD (0+i*4+2) 0),.int .u8 ((tl p).getD (0+i*4+3) 0)]=_;rw[show 0+i*4+0=4*i by omega,show 0+i*4+1=4*i+1 by omega,show 0+i*4+2=4*i+2 by omega,show 0+i*4+3=4*i+3 by omega,wZ p H,wZ p H,wZ p H,wZ p H]
noncomputable def cD(p:Prop):Bool:=@decide p (Classical.propDecidable p)
theorem PA{p:Prop}(h:p):cD p=true:=@decide_eq_true p (Classical.propDecidable p) h
theorem Th{p:Prop}(h:¬p):cD p=false:=@decide_eq_false p (Classical.propDecidable p) h
theorem vT{p:Prop}(h:p):V.bool true= .bool (cD p):=by rw[PA h]
theorem vF{p:Prop}(h:¬p):V.bool false= .bool (cD p):=by rw[Th h]
noncomputable def nh(p:Nat->Int):Bool:=cD (∀i,i<64->p (4*i+3)=0)
noncomputable def uW(q:Nat->Int):Bool:=cD (∀j,j<256->p j=q j)
theorem d64(h:decide (Int.ofNat i<(64:Int))=true):i<64:=by have:=aX h;simp only[gQ]at this;omega
theorem n64(h:decide (Int.ofNat i<(64:Int))=false):64<=i:=by have:=bB h;simp only[gQ]at this;omega
theorem b64(h:i<64):(0:Int)<=Int.ofNat i/\Int.ofNat i<(64:Int):=⟨bZ _,V3⟩
theorem w5{n i:Nat}(h:i<n):n-(i+1)<n-i:=by omega
theorem Vu:dU ak 138 [ja p] (.bool (nh p)):=by
 refine eX Tryz.func138 ?_;refine fF 1 qK (aik p) all_nil (zx [(0,.u8)] (s2:=fq [(1,.ptr (some (0,0)))] (G [(0,.own .u8 (tl p))]) 1) C ?_);refine qm qK 0 _ [1,3] (64-·) (fun i=>i<=64/\∀k,k<i->p (4*k+3)=0) (sZe (tl p)) 0 ⟨eY,fun _ h=>absurd h (bC _)⟩ (ail (tl p)) all_nil .refl fun i ⟨hi,hz⟩=>?_;refine⟨_,qK,[],_,_,aim (tl p) i (p (4*i+3)),dD (g2 fun Q O=>?_) (dD (g2 fun Q O=>?_) (dB (g1 fun h=>?_)))⟩
 . have eO:=d64 Q;refine⟨S (b64 eO) (S (by rw[oO];omega) (eG (aI _ (by rw[show 0+i*4+3=4*i+3 by omega];exact wZ p H)))),?_⟩;exact vF fun h=>absurd (h i eO) (by simpa using O)
 . have eO:=d64 Q;exact⟨S (b64 eO) (S (by rw[oO];omega) (S (aI _ (by rw[show 0+i*4+3=4*i+3 by omega];exact wZ p H)) (eG (gJ H)))),i+1,w5 eO,⟨H,fun k W=>by
    rcases bt k i with q|q
    . exact hz k q
    . obtain rfl:k=i:=by omega
      simpa using O⟩,.refl⟩
 . have:=n64 h;obtain rfl:i=64:=by omega
   refine⟨all_nil,rfl,eK qK (ain _) (dB (g0 ⟨all_nil,_,_,_,rfl,vT hz⟩))⟩
end
theorem abX(p q:Nat->Int):dU ak 139 [ja p,ja q] (.bool (uW p q)):=by
 refine eX Tryz.func139 ?_;refine fF 1 qK (aio p q) all_nil (zx [(0,.u8),(1,.u8)] (s2:=fq [(2,.ptr (some (0,0))),(3,.ptr (some (1,0)))] (G [(0,.own .u8 (tl p)),(1,.own .u8 (tl q))]) 2) C ?_);refine qm qK 0 _ [2,3,5] (64-·) (fun i=>i<=64/\∀k,k<4*i->p k=q k) (sSm (tl p) (tl q)) 0 ⟨eY,fun _ h=>absurd h (bC _)⟩ (aip (tl p) (tl q)) all_nil .refl fun i ⟨hi,hz⟩=>?_;have aj (eO:i<64):=fun {l} (t:∀a∈l,a)=>S (b64 eO) (S (show 0+i*4+4<=(tl p).length by rw[oO];omega) (S (Pz p eO) (S (b64 eO) (S (show 0+i*4+4<=(tl q).length by rw[oO];omega) (S (Pz q eO) t)))));refine⟨_,qK,[],_,_,aiq (tl p) (tl q) i (p (4*i)) (p (4*i+1)) (p (4*i+2)) (p (4*i+3)) (q (4*i)) (q (4*i+1)) (q (4*i+2)) (q (4*i+3)),dD (g2 fun Q O=>?_) (dD (g2 fun Q O=>?_) (dB (g1 fun h=>?_)))⟩
 . have eO:=d64 Q;refine⟨aj eO all_nil,?_⟩;refine vF fun h=>?_;rw[h (4*i) H,h (4*i+1) H,h (4*i+2) H,h (4*i+3) H]at O;simp at O
 . have eO:=d64 Q;refine⟨aj eO (eG (gJ H)),i+1,w5 eO,⟨H,fun k W=>?_⟩,.refl⟩;simp only[Bool.not_eq_false',ay,cG,and_true]at O;rcases bt k (4*i)with z|z
   . exact hz k z
   . rcases(by omega:k=4*i\/k=4*i+1\/k=4*i+2\/k=4*i+3)with rfl|rfl|rfl|rfl
     . exact O.1
     . exact O.2.1
     . exact O.2.2.1
     . exact O.2.2.2
 . have:=n64 h;obtain rfl:i=64:=by omega
   refine⟨all_nil,rfl,eK qK (air _ _) (dB (g0 ⟨all_nil,_,_,_,rfl,vT hz⟩))⟩
def cl(a r:Int):Int:=if a=0 then 0 else r
def qM(x:Int):Int:=if x.tmod 8≠0/\x<0 then IntKind.i64.wrap (IntKind.i64.wrap (x.tdiv 8)-1)else IntKind.i64.wrap (x.tdiv 8)
def AG(x y:Int):Bool:=decide (x>=(-8192:Int))&&(decide (x<=(8191:Int))&&(decide (y>=(-8192:Int))&&decide (y<=(8191:Int))))
def GM(x y z w:Int):Bool:=decide (y<w)||((y==w)&&decide (x<z))
def J5:ag->Option (ah×V)
 | [.agg [.int .u8 r,.int .u8 g,.int .u8 b,.int .u8 a]]=>some ([],.agg [.int .u8 (cl a r),.int .u8 (cl a g),.int .u8 (cl a b),.int .u8 (cl a a)])
 |_=>none
def J6:ag->Option (ah×V)
 | [.int .i64 x,.int .i64 y]=>some ([],.agg [L (qM x),L (qM y)])
 |_=>none
def zI:ag->Option (ah×V)
 | [.agg [.int .i64 x,.int .i64 y]]=>some ([],.bool (AG x y))
 |_=>none
def J7:ag->Option (ah×V)
 | [.agg [.int .i64 x,.int .i64 y],.agg [.int .i64 z,.int .i64 w]]=>some ([],.bool (GM x y z w))
 |_=>none
theorem Xb:jK ak 70 (gV J5):=by
 refine ow Tryz.func70 fun args aj v e=>?_;unfold J5 at e;split at e
 case h_2=>cases e
 rename_i r g b a;obtain⟨rfl,rfl⟩:=sm e;refine⟨rfl,rfl,rfl,fun _=>eK qK (aij r g b a) (dD (g1 fun h=>⟨all_nil,_,_,_,rfl,?_⟩) (dB (g1 fun h=>⟨all_nil,_,_,_,rfl,?_⟩)))⟩
 . have h:a=0:=by simpa using h
   simp only[cl,aG h]
 . have h:¬a=0:=by simpa using h
   simp only[cl,aB h]
theorem Xc:jK ak 132 (gV J6):=by
 refine ow Tryz.func132 fun args aj v e=>?_;unfold J6 at e;split at e
 case h_2=>cases e
 rename_i x y;obtain⟨rfl,rfl⟩:=sm e;refine⟨rfl,rfl,rfl,fun _=>eK qK (ais x y) fun g hg B=>?_⟩;simp only[aD,aJ,bn]at hg;rcases hg with rfl|rfl|rfl|rfl|rfl|rfl|rfl|rfl|rfl
 all_goals
  simp only[aD,aJ,bn,aL,bh,aY,bu,bne_iff_ne,ne_eq,Bool.not_eq_true,bne_eq_false_iff_eq]at B;refine⟨fun a ha=>by simp only[aD,aJ,bn,or_self]at ha;subst ha;decide,_,_,_,rfl,?_⟩;simp[qM,B]
theorem Xd:jK ak 141 (gV zI):=by
 refine ow Tryz.func141 fun args aj v e=>?_;unfold zI at e;split at e
 case h_2=>cases e
 rename_i x y;obtain⟨rfl,rfl⟩:=sm e;refine⟨rfl,rfl,rfl,fun _=>eK qK (ait x y) (dD (g3 fun h O h3=>⟨all_nil,_,_,_,rfl,?_⟩) (dD (g3 fun h O h3=>⟨all_nil,_,_,_,rfl,?_⟩) (dD (g2 fun h O=>⟨all_nil,_,_,_,rfl,?_⟩) (dB (g1 fun h=>⟨all_nil,_,_,_,rfl,?_⟩)))))⟩<;>simp only[AG, *,aN,aS]
section
variable(Y:List Int)(p:Nat->Int)(x:Int)(i:Nat)(y r g b a:Int)
theorem Xe:jK ak 142 (gV J7):=by
 refine ow Tryz.func142 fun args aj v e=>?_;unfold J7 at e;split at e
 case h_2=>cases e
 rename_i x y z w;obtain⟨rfl,rfl⟩:=sm e;refine⟨rfl,rfl,rfl,fun _=>eK qK (aiu x y z w) (dD (g1 fun h=>⟨all_nil,_,_,_,rfl,?_⟩) (dD (g2 fun h O=>⟨all_nil,_,_,_,rfl,?_⟩) (dB (g2 fun h O=>⟨all_nil,_,_,_,rfl,?_⟩))))⟩<;>simp only[GM, *,aN,aS,cq,cr]
noncomputable abbrev W2:gF:=jZ 70 (gV J5) (jZ 132 (gV J6) (jZ 141 (gV zI) (jZ 142 (gV J7) W1)))
theorem EI:eU ak W2:=fC Xb (fC Xc (fC Xd (fC Xe qK)))
def Vv:Bool:=decide (x>=(0:Int))&&(decide (x<(8:Int))&&(decide (y>=(0:Int))&&decide (y<(8:Int))))
def J8:ag->Option (ah×V)
 | [.int .i64 x,.int .i64 y]=>some ([],.bool (Vv x y))
 |_=>none
noncomputable abbrev aiv:Code:=dI Tryz.f167
theorem aiw:dw (U W1 []) [(6,.split),(9,.split),(13,.split)] 0 Tryz.f167 [] (aiv) (dy [L x,L y] .nil 0) [([((decide (x>=(0:Int))),true),((decide (x<(8:Int))),true),((decide (y>=(0:Int))),true)],
   [],
   .ret (.bool (decide (y<(8:Int)))) (G []) 0),
  ([((decide (x>=(0:Int))),true),((decide (x<(8:Int))),true),((decide (y>=(0:Int))),false)],
   [],
   .ret (.bool false) (G []) 0),
  ([((decide (x>=(0:Int))),true),((decide (x<(8:Int))),false)],
   [],
   .ret (.bool false) (G []) 0),
  ([((decide (x>=(0:Int))),false)],
   [],
   .ret (.bool false) (G []) 0)]
 :=dj.of C C C
theorem Xf:jK ak 167 (gV J8):=by
 refine ow Tryz.func167 fun args aj v e=>?_;unfold J8 at e;split at e
 case h_2=>cases e
 rename_i x y;obtain⟨rfl,rfl⟩:=sm e;refine⟨rfl,rfl,rfl,fun _=>eK qK (aiw x y) (dD (g3 fun h O h3=>⟨all_nil,_,_,_,rfl,?_⟩) (dD (g3 fun h O h3=>⟨all_nil,_,_,_,rfl,?_⟩) (dD (g2 fun h O=>⟨all_nil,_,_,_,rfl,?_⟩) (dB (g1 fun h=>⟨all_nil,_,_,_,rfl,?_⟩)))))⟩<;>simp only[Vv, *,aN,aS]
noncomputable abbrev W3:gF:=jZ 167 (gV J8) W2
theorem fL:eU ak W3:=fC Xf EI
noncomputable abbrev abY:Code:=dI Tryz.f140
noncomputable abbrev Xg:Code:=dr 1 abY
noncomputable abbrev Ti:Code:=dI Tryz.f136
def sCl:St:=fq [(1,.ptr (some (0,0))),(2,.ptr (some (1,0))),(3,M i)] (G [(0,.own .u8 Y),(1,.own .u8 (List.replicate 256 0))]) 2
theorem aix:dw (U W2 []) [] 0 Tryz.f140 [1,2] (dM 1 abY) (dy [ja p] .nil 0) [([],
   [],
   .to .normal (fq [(1,.ptr (some (0,0))),(2,.ptr (some (1,0)))] (G [(0,.cells (D.fQ (DB p))),(1,.cells (List.replicate 256 (.int .u8 0)))]) 2))]
 :=dj.of C C C
theorem aiy:dw (U W2 []) [] 0 Tryz.f140 [1,2,3] (dF (dF Xg)) (fq [(1,.ptr (some (0,0))),(2,.ptr (some (1,0)))] (G [(0,.own .u8 Y),(1,.own .u8 (List.replicate 256 0))]) 2) [([],
   [],
   .to .normal (sCl Y 0))]
 :=dj.of C C C
theorem aiz:dw (U W2 []) [(5,.split),(11,.dz (.agg [.int .u8 r,.int .u8 g,.int .u8 b,.int .u8 a])),(7,.dz (M (i+1)))] 0 Tryz.f140 [1,2,3] (dG (dG (dX (dF Xg)))) (sCl Y i) [([((decide (Int.ofNat i<(64:Int))),true)],
   [((0:Int)<=Int.ofNat i/\Int.ofNat i<(64:Int)),(0+i*4+4<=Y.length),(lY IntKind.u8 Y (0+i*4) 4=V.agg [V.int IntKind.u8 r,V.int IntKind.u8 g,V.int IntKind.u8 b,V.int IntKind.u8 a]),((0:Int)<=Int.ofNat i/\Int.ofNat i<(64:Int)),(0+i*4+4<=Y.length),(V.int A (IntKind.i64.wrap (Int.ofNat i+(1:Int)))=M (i+1))],
   .to .normal (sCl (AT Y (0+i*4) [cl a r,cl a g,cl a b,cl a a]) (i+1))),
  ([((decide (Int.ofNat i<(64:Int))),false)],
   [],
   .to (.exit 0) (sCl Y i))]
 :=dj.of C C C
theorem aiA:dw (U W2 []) [] 0 Tryz.f140 [] (dX Xg) (sCl Y 64) [([],[256<=Y.length,256<=256],.ret (lY .u8 Y 0 256) (G []) 0)]:=dj.of C C C
theorem aiB:dw (U W2 []) [] 0 Tryz.f136 [1,2,4,7,8] (dM 1 Ti) (dy [ja p,L x,L y,.agg [.int .u8 r,.int .u8 g,.int .u8 b,.int .u8 a]] .nil 0) [([],
   [],
   .to .normal (fq [(1,L x),(2,L y),(4,.ptr (some (0,0))),(7,.ptr (some (1,0))),(8,.ptr (some (2,0)))] (G [(0,.cells (D.fQ (DB p))),(1,.cells [.int .u8 r,.int .u8 g,.int .u8 b,.int .u8 a]),(2,.cells (List.replicate 256 (.int .u8 0)))]) 3))]
 :=dj.of C C C
def sSt:St:=fq [(4,.ptr (some (0,0))),(8,.ptr (some (1,0)))] (G [(0,.own .u8 Y),(1,.own .u8 (List.replicate 256 0))]) 2
theorem abZ(o:Nat):dw (U W3 []) [(11,.split),(15,.dz (M o))] 0 Tryz.f136 [4,8] (dM 1 (dr 1 Ti)) (fq [(1,L x),(2,L y),(4,.ptr (some (0,0))),(7,.ptr (some (1,0))),(8,.ptr (some (2,0)))] (G [(0,.own .u8 Y),(1,.cells [.int .u8 r,.int .u8 g,.int .u8 b,.int .u8 a]),(2,.own .u8 (List.replicate 256 0))]) 3) [([((Vv x y),true)],
   [(V.int A (IntKind.i64.wrap (IntKind.i64.wrap ((8:Int)*y)+x))=M o),((0:Int)<=Int.ofNat o/\Int.ofNat o<(64:Int)),(0+o*4+4<=Y.length)],
   .to .normal (sSt (AT Y (0+o*4) [r,g,b,a]))),
  ([((Vv x y),false)],
   [],
   .to .normal (sSt Y))]
 :=dj.of C C C
theorem aiC:dw (U W3 []) [] 0 Tryz.f136 [] (dr 1 (dr 1 Ti)) (sSt Y) [([],[256<=Y.length,256<=256],.ret (lY .u8 Y 0 256) (G []) 0)]:=dj.of C C C
end
def iA(p:Nat->Int)(j:Nat):Int:=cl (p (4*(j/4)+3)) (p j)
section
variable(p:Nat->Int)(x y r g b a:Int)
theorem yl:lY .u8 (tl p) 0 256=ja p:=by
 unfold lY ja DB;rw[D.gh,List.map_map];refine aI V.agg (List.map_congr_left fun j hj=>?_);rw[b7,wZ p (bL.1 hj)];rfl
theorem CT{p q:Nat->Int}(h:∀j,j<256->p j=q j):tl p=tl q:=List.map_congr_left fun j hj=>h j (bL.1 hj)
theorem zJ{p q:Nat->Int}(h:∀j,j<256->p j=q j):ja p=ja q:=by rw[<- yl,<- yl,CT h]
theorem PB(f:Nat->Int)(j:Nat):(tl f)[j]? =if j<256 then some (f j)else none:=by
 unfold tl;rw[bI];by_cases c:j<256
 . rw[aG c,cZ c];rfl
 . rw[aB c,cL (by rw[List.length_range];omega)];rfl
theorem J9{f k:Nat->Int}{i:Nat}(hi:i<64){r g b a:Int}(h0:k (4*i)=r)(Q:k (4*i+1)=g)(O:k (4*i+2)=b)(h3:k (4*i+3)=a)(hn:∀j,j<256->j/4≠i->k j=f j):AT (tl f) (0+i*4) [r,g,b,a]=tl k:=by
 have e:0+i*4=4*i:=by omega
 rw[e];refine List.ext_getElem? fun j=>?_;unfold AT;rw[List.getElem?_append,List.getElem?_append,bq,oO,Nat.min_eq_left (show 4*i<=256 by omega),PB];by_cases c1:j<4*i
 . rw[aG c1,bS,aG c1,PB,aG H,aG H,hn j H H]
 . rw[aB c1];by_cases c2:j<4*i+4
   . rw[aG (by simp only[aP,bW];omega),aG H];rcases(by omega:j=4*i\/j=4*i+1\/j=4*i+2\/j=4*i+3)with rfl|rfl|rfl|rfl
     . rw[h0,Nat.sub_self];rfl
     . rw[Q,Nat.add_sub_cancel_left];rfl
     . rw[O,Nat.add_sub_cancel_left];rfl
     . rw[h3,Nat.add_sub_cancel_left];rfl
   . rw[aB (by simp only[aP,bW];omega),bU,PB];simp only[aP,bW];rw[show 4*i+(0+1+1+1+1)+(j-4*i-(0+1+1+1+1))=j by omega];by_cases c3:j<256
     . rw[aG c3,aG c3,hn j c3 H]
     . rw[aB c3,aB c3]
theorem PC:dU ak 140 [ja p] (ja (iA p)):=by
 refine eX Tryz.func140 ?_;refine fF 1 EI (aix p) all_nil (zx [(0,.u8),(1,.u8)] (s2:=fq [(1,.ptr (some (0,0))),(2,.ptr (some (1,0)))] (G [(0,.own .u8 (tl p)),(1,.own .u8 (List.replicate 256 0))]) 2) C ?_);refine qm EI 0 _ [1,2,3] (64-·) (. <=64) (fun i=>sCl (tl fun j=>if j<4*i then iA p j else p j) i) 0 eY (aiy (tl p)) all_nil (by
  rw[CT (q:=p) fun j _=>aB H];exact .refl) fun i hi=>?_
 refine⟨_,EI,[],_,_,aiz _ i (p (4*i)) (p (4*i+1)) (p (4*i+2)) (p (4*i+3)),dD (g1 fun Q=>?_) (dB (g1 fun h=>?_))⟩
 . have eO:=d64 Q;refine⟨S (b64 eO) (S (by rw[oO];omega) (S ?_ (S (b64 eO) (S (by rw[oO];omega) (eG (gJ H)))))),i+1,w5 eO,by show i+1<=64;omega,?_⟩
   . rw[Pz _ eO,aB H,aB H,aB H,aB H]
   . rw[J9 (k:=fun j=>if j<4*(i+1)then iA p j else p j) eO]
     . exact .refl
     all_goals first
      |(rw[aG H];unfold iA;congr 2;omega)
      |skip
     intro j _ hj;by_cases c:j<4*i
     . rw[aG c,aG H]
     . rw[aB c,aB H]
 . have:=n64 h;obtain rfl:i=64:=by omega
   refine⟨all_nil,rfl,eK EI (aiA _) (dB (g0 ⟨S (by rw[oO];omega) (eG eY),_,_,_,rfl,?_⟩))⟩;rw[yl];exact zJ fun j hj=>aG H
def Ka(j:Nat):Int:=if Vv x y=true/\j/4=(8*y+x).toNat then(if j%4=0 then r else if j%4=1 then g else if j%4=2 then b else a)else p j
theorem aiD:dU ak 136 [ja p,L x,L y,.agg [.int .u8 r,.int .u8 g,.int .u8 b,.int .u8 a]] (ja (Ka p x y r g b a)):=by
 refine eX Tryz.func136 ?_;refine fF 1 EI (aiB p x y r g b a) all_nil (zx [(0,.u8),(2,.u8)] (s2:=fq [(1,L x),(2,L y),(4,.ptr (some (0,0))),(7,.ptr (some (1,0))),(8,.ptr (some (2,0)))] (G [(0,.own .u8 (tl p)),(1,.cells [.int .u8 r,.int .u8 g,.int .u8 b,.int .u8 a]),(2,.own .u8 (List.replicate 256 0))]) 3) C ?_);have oI (q:Nat->Int) (hq:∀j,j<256->q j=Ka p x y r g b a j):TG ak 0 Tryz.f136.ntmps (dr 1 (dr 1 Ti)) (sSt (tl q)) (fH ak 0 Tryz.f136 fun u _ _=>u=ja (Ka p x y r g b a)):=
  eK fL (aiC _) (dB (g0 ⟨S (by rw[oO];omega) (eG eY),_,_,_,rfl,by rw[yl];exact zJ hq⟩))
 by_cases h:Vv x y=true
 . have hb:0<=x/\x<8/\0<=y/\y<8:=by simpa[Vv]using h
   have eO:(8*y+x).toNat<64:=by omega
   refine ud 1 fL (abZ (tl p) x y r g b a (8*y+x).toNat) (dD (g1 fun _=>⟨S ?_ (S (b64 eO) (eG (by rw[oO];omega))),_,rfl,?_⟩) (dB (g1 fun O=>by rw[h]at O;cases O)))
   . rw[gZ (x:=8*y) H H];exact wY H H
   . rw[J9 (k:=Ka p x y r g b a) eO]
     . exact oI _ fun _ _=>rfl
     all_goals first
      |(unfold Ka;rw[aG ⟨h,H⟩];simp[Nat.mul_add_mod];done)
      |skip
     intro j _ hj;exact aB fun q=>hj q.2
 . have h:Vv x y=false:=by simpa using h
   exact ud 1 fL (abZ (tl p) x y r g b a 0) (dD (g1 fun O=>by rw[h]at O;cases O) (dB (g1 fun _=>⟨all_nil,_,rfl,oI _ fun j _=>(aB fun q=>by rw[h]at q;cases q.1).symm⟩)))
end
structure Tl where
 x:Int
 y:Int
 p:Nat->Int
def Tl.d(t:Tl):ai:=.int .i64 t.x:: .int .i64 t.y::DB t.p
def jE(l:List Tl):ai:=(l.map Tl.d).flatten
def ox(l:List Tl):V:=.agg [.eB false l.length (jE l)]
def tz:Nat->Int:=fun _=>0
noncomputable abbrev ab0:Code:=dI Tryz.f133
noncomputable abbrev Xh:Code:=dr 1 ab0
noncomputable abbrev Vw:Code:=dI Tryz.f115
noncomputable abbrev PD:Code:=dr 2 Vw
section
variable(n:Nat)(p:Nat->Int)(i:Nat)
def pxC:h2:=.cells (D.fQ (DB p))
def sTi(R:ai)(x y:Int)(i:Nat):St:=fq [(2,.ptr (some (0,0))),(3,.ptr (some (1,0))),(4,.ptr (some (2,0))),(5,M i)] (G [(0,.cells [.eB false n R]),(1,.cells [L x,L y]),(2,pxC tz)]) 3
theorem aiE(R:ai)(x y:Int):dw (U W3 []) [] 0 Tryz.f133 [2,3,4] (dM 1 ab0) (dy [.agg [.eB false n R],.agg [L x,L y]] .nil 0) [([],
   [],
   .to .normal (fq [(2,.ptr (some (0,0))),(3,.ptr (some (1,0))),(4,.ptr (some (2,0)))] (G [(0,.cells [.eB false n R]),(1,.cells [L x,L y]),(2,pxC tz)]) 3))]
 :=dj.of C C C
theorem aiF(R:ai)(x y:Int):dw (U W3 []) [] 0 Tryz.f133 [2,3,4,5] (dF (dF Xh)) (fq [(2,.ptr (some (0,0))),(3,.ptr (some (1,0))),(4,.ptr (some (2,0)))] (G [(0,.cells [.eB false n R]),(1,.cells [L x,L y]),(2,pxC tz)]) 3) [([],
   [],
   .to .normal (sTi n R x y 0))]
 :=dj.of C C C
theorem ab1(R:ai)(x y:Int)(i:Nat)(t:Tl):dw (U W3 []) [(10,.split),(16,.dz (.dx t.d)),(20,.split),(24,.dz (.dx t.d)),(12,.dz (M (i+1)))] 0 Tryz.f133 [2,3,4,5] (dG (dG (dX (dF Xh)))) (sTi n R x y i) [([((decide (Int.ofNat i<(Int.ofNat n))),true),((t.x==x&&(t.y==y&&true)),true)],
   [((0:Int)<=Int.ofNat i/\Int.ofNat i<(Int.ofNat n)),(R.length=n*258),(V.dx (dn R (i*258) 258)=V.dx t.d),((0:Int)<=Int.ofNat i/\Int.ofNat i<(Int.ofNat n)),(R.length=n*258),(V.dx (dn R (i*258) 258)=V.dx t.d)],
   .ret (ja t.p) (G []) 0),
  ([((decide (Int.ofNat i<(Int.ofNat n))),true),((t.x==x&&(t.y==y&&true)),false)],
   [((0:Int)<=Int.ofNat i/\Int.ofNat i<(Int.ofNat n)),(R.length=n*258),(V.dx (dn R (i*258) 258)=V.dx t.d),(V.int A (IntKind.i64.wrap (Int.ofNat i+(1:Int)))=M (i+1))],
   .to .normal (sTi n R x y (i+1))),
  ([((decide (Int.ofNat i<(Int.ofNat n))),false)],
   [],
   .to (.exit 0) (sTi n R x y i))]
 :=dj.of C C C
theorem aiG(R:ai)(x y:Int)(i:Nat):dw (U W3 []) [] 0 Tryz.f133 [] (dX Xh) (sTi n R x y i) [([],
   [],
   .ret (ja tz) (G []) 0)]
 :=dj.of C C C
def Tj(R:ai)(i:Nat):St:=fq [(1,.ptr (some (0,0))),(3,M i)] (G [(0,.cells [.eB false n R])]) 1
theorem aiH(R:ai):dw (U W3 []) [(10,.split)] 0 Tryz.f115 [1] (dM 2 Vw) (dy [.agg [.eB false n R]] .nil 0) [([((decide ((Int.ofNat n)>(1024:Int))),true)],
   [],
   .ret (.bool false) (G []) 0),
  ([((decide ((Int.ofNat n)>(1024:Int))),false)],
   [],
   .to .normal (fq [(1,.ptr (some (0,0)))] (G [(0,.cells [.eB false n R])]) 1))]
 :=dj.of C C C
theorem aiI(R:ai):dw (U W3 []) [] 0 Tryz.f115 [1,3] (dF (dF PD)) (fq [(1,.ptr (some (0,0)))] (G [(0,.cells [.eB false n R])]) 1) [([],
   [],
   .to .normal (Tj n R 0))]
 :=dj.of C C C
noncomputable abbrev WV8:gF:=fb 138 [ja p] (.bool (nh p)) (fb 140 [ja p] (ja (iA p)) (fb 139 [ja (iA p),ja p] (.bool (uW (iA p) p)) W3))
theorem PE:eU ak (WV8 p):=fu (Vu p) (fu (PC p) (fu (abX (iA p) p) fL))
abbrev PF:Prop:=V.int A (IntKind.i64.wrap (Int.ofNat i-(1:Int)))=M (i-1)
abbrev PG:Prop:=V.int A (IntKind.i64.wrap (Int.ofNat i+(1:Int)))=M (i+1)
theorem ab2(R:ai)(i:Nat)(t u:Tl):dw (U (WV8 t.p) []) [(15,.split),(21,.dz (.dx t.d)),(35,.split),(37,.split),(41,.split),(45,.split),(50,.dz (M (i-1))),(51,.dz (.dx u.d)),(57,.split),(17,.dz (M (i+1)))] 0 Tryz.f115 [1,3] (dG (dG (dX (dF PD)))) (Tj n R i) [([((decide (Int.ofNat i<(Int.ofNat n))),true),((!AG t.x t.y),true)],
   [((0:Int)<=Int.ofNat i/\Int.ofNat i<(Int.ofNat n)),(R.length=n*258),(V.dx (dn R (i*258) 258)=V.dx t.d),(fa [ja t.p]),(fa [ja t.p]),(fa [ja (iA t.p),ja t.p])],
   .ret (.bool false) (G []) 0),
  ([((decide (Int.ofNat i<(Int.ofNat n))),true),((!AG t.x t.y),false),((nh t.p),true)],
   [((0:Int)<=Int.ofNat i/\Int.ofNat i<(Int.ofNat n)),(R.length=n*258),(V.dx (dn R (i*258) 258)=V.dx t.d),(fa [ja t.p]),(fa [ja t.p]),(fa [ja (iA t.p),ja t.p])],
   .ret (.bool false) (G []) 0),
  ([((decide (Int.ofNat i<(Int.ofNat n))),true),((!AG t.x t.y),false),((nh t.p),false),((!uW (iA t.p) t.p),true)],
   [((0:Int)<=Int.ofNat i/\Int.ofNat i<(Int.ofNat n)),(R.length=n*258),(V.dx (dn R (i*258) 258)=V.dx t.d),(fa [ja t.p]),(fa [ja t.p]),(fa [ja (iA t.p),ja t.p])],
   .ret (.bool false) (G []) 0),
  ([((decide (Int.ofNat i<(Int.ofNat n))),true),((!AG t.x t.y),false),((nh t.p),false),((!uW (iA t.p) t.p),false),((decide (Int.ofNat i>(0:Int))),true),((!GM u.x u.y t.x t.y),true)],
   [((0:Int)<=Int.ofNat i/\Int.ofNat i<(Int.ofNat n)),(R.length=n*258),(V.dx (dn R (i*258) 258)=V.dx t.d),(fa [ja t.p]),(fa [ja t.p]),(fa [ja (iA t.p),ja t.p]),PF i,((0:Int)<=Int.ofNat (i-1)/\Int.ofNat (i-1)<(Int.ofNat n)),(R.length=n*258),(V.dx (dn R ((i-1)*258) 258)=V.dx u.d)],
   .ret (.bool false) (G []) 0),
  ([((decide (Int.ofNat i<(Int.ofNat n))),true),((!AG t.x t.y),false),((nh t.p),false),((!uW (iA t.p) t.p),false),((decide (Int.ofNat i>(0:Int))),true),((!GM u.x u.y t.x t.y),false)],
   [((0:Int)<=Int.ofNat i/\Int.ofNat i<(Int.ofNat n)),(R.length=n*258),(V.dx (dn R (i*258) 258)=V.dx t.d),(fa [ja t.p]),(fa [ja t.p]),(fa [ja (iA t.p),ja t.p]),PF i,((0:Int)<=Int.ofNat (i-1)/\Int.ofNat (i-1)<(Int.ofNat n)),(R.length=n*258),(V.dx (dn R ((i-1)*258) 258)=V.dx u.d),PG i],
   .to .normal (Tj n R (i+1))),
  ([((decide (Int.ofNat i<(Int.ofNat n))),true),((!AG t.x t.y),false),((nh t.p),false),((!uW (iA t.p) t.p),false),((decide (Int.ofNat i>(0:Int))),false)],
   [((0:Int)<=Int.ofNat i/\Int.ofNat i<(Int.ofNat n)),(R.length=n*258),(V.dx (dn R (i*258) 258)=V.dx t.d),(fa [ja t.p]),(fa [ja t.p]),(fa [ja (iA t.p),ja t.p]),PG i],
   .to .normal (Tj n R (i+1))),
  ([((decide (Int.ofNat i<(Int.ofNat n))),false)],
   [],
   .to (.exit 0) (Tj n R i))]
 :=dj.of C C C
theorem aiJ(R:ai)(i:Nat):dw (U W3 []) [] 0 Tryz.f115 [] (dX PD) (Tj n R i) [([],
   [],
   .ret (.bool true) (G []) 0)]
 :=dj.of C C C
end
theorem sg{α β:Type}{f:α->List β}{w:Nat}(hf:∀x,(f x).length=w):∀l:List α,(l.map f).flatten.length=l.length*w
 | []=>by simp
 |x::l=>by
  rw[bP,List.flatten_cons,aE,hf,sg hf l,aP,dc];omega
theorem si{α:Type}{f:α->ai}{w:Nat}(hf:∀x,(f x).length=w):∀(l:List α) (i:Nat) (h:i<l.length),dn ((l.map f).flatten) (i*w) w=f l[i]
 |x::l,0,_=>by
  unfold dn;rw[Nat.zero_mul,cA,bP,List.flatten_cons,List.take_left' (hf x)];rfl
 |x::l,i+1,h=>by
  have ih:=si hf l i (by simpa using h);unfold dn at ih ⊢;rw[bP,List.flatten_cons,show(i+1)*w=w+i*w by rw[dc];omega,<- List.drop_drop,List.drop_left' (hf x),ih];rfl
theorem Tl.Ih(t:Tl):t.d.length=258:=by simp[Tl.d,DB]
theorem kD(l:List Tl):(jE l).length=l.length*258:=sg Tl.Ih l
theorem zK{l:List Tl}{i:Nat}(h:i<l.length):V.dx (dn (jE l) (i*258) 258)= .dx l[i].d:=aI _ (si Tl.Ih l i h)
def yn(x y:Int):List Tl->Nat->Int
 | []=>tz
 |t::l=>if t.x=x/\t.y=y then t.p else yn x y l
theorem Kb{x y:Int}{l:List Tl}{i:Nat}(h:i<l.length):yn x y (l.drop i)=if l[i].x=x/\l[i].y=y then l[i].p else yn x y (l.drop (i+1)):=by
 rw[b9 h];rfl
theorem ab3(l:List Tl)(x y:Int)(hl:l.length<=1000000):dU ak 133 [ox l,.agg [L x,L y]] (ja (yn x y l)):=by
 refine eX Tryz.func133 ?_;refine fF 1 fL (aiE l.length (jE l) x y) all_nil ?_;refine qm fL 0 _ [2,3,4,5] (l.length-·) (fun i=>i<=l.length/\yn x y l=yn x y (l.drop i)) (sTi l.length (jE l) x y) 0 ⟨aU _,rfl⟩ (aiF _ _ x y) all_nil .refl fun i ⟨hi,hz⟩=>?_;rcases bt i l.length with eO|ON
 . rw[Kb eO]at hz;have mV:=zK eO;generalize l[i]=t at hz mV;refine⟨_,fL,[],_,_,ab1 l.length (jE l) x y i t,dD (g2 fun Q O=>⟨S (iI eO) (S (kD l) (S mV (S (iI eO) (S (kD l) (eG mV))))),?_⟩) (dD (g2 fun Q O=>⟨S (iI eO) (S (kD l) (S mV (eG (gJ H)))),i+1,w5 eO,⟨eO,?_⟩,.refl⟩) (dB (g1 fun h=>absurd (r9 h) H)))⟩
   . rw[aG (by simpa using O)]at hz;rw[hz];rfl
   . rw[aB (by simpa using O)]at hz;exact hz
 . obtain rfl:i=l.length:=by omega
   rw[List.drop_length]at hz;refine⟨_,fL,[],_,_,ab1 l.length (jE l) x y l.length ⟨0,0,tz⟩,dD (g2 fun Q _=>absurd (jW Q) H) (dD (g2 fun Q _=>absurd (jW Q) H) (dB (g1 fun h=>⟨all_nil,rfl,eK fL (aiG _ _ x y _) (dB (g0 ⟨all_nil,_,_,_,rfl,by rw[hz];rfl⟩))⟩)))⟩
def okT(t:Tl):Prop:=AG t.x t.y=true/\nh t.p=false/\uW (iA t.p) t.p=true
def Vx(l:List Tl)(i:Nat):Prop:=∀t,l[i]? =some t->okT t/\(0<i->∀u,l[i-1]? =some u->GM u.x u.y t.x t.y=true)
def fg(l:List Tl):Prop:=l.length<=1024/\∀i,i<l.length->Vx l i
theorem PI(l:List Tl)(hl:l.length<=1000000):dU ak 115 [ox l] (.bool (cD (fg l))):=by
 refine eX Tryz.func115 ?_;have bad (h:¬fg l):V.bool false= .bool (cD (fg l)):=vF h;refine isH 2 fL (aiH l.length (jE l)) (dD (g1 fun h=>⟨all_nil,bad fun q=>?_⟩) (dB (g1 fun h0=>⟨all_nil,?_⟩)))
 . have:=aX h;have:=q.1;simp only[gQ]at *;omega
 have hn:l.length<=1024:=by have:=bB h0;simp only[gQ]at this;omega
 refine qm fL 0 _ [1,3] (l.length-·) (fun i=>i<=l.length/\∀k,k<i->Vx l k) (Tj l.length (jE l)) 0 ⟨aU _,fun _ h=>absurd h (bC _)⟩ (aiI _ _) all_nil .refl fun i ⟨hi,hz⟩=>?_;rcases bt i l.length with eO|ON
 . have mV:=zK eO;have hau:=zK (l:=l) (i:=i-1) H;have ht:l[i]? =some l[i]:=au eO;have hu:l[i-1]? =some (l[i-1]'(by omega)):=au H;generalize l[i]=t at ht mV;generalize l[i-1]'(by omega)=u at hu hau;have aj {r:ah} (q:∀a∈r,a):=S (iI eO) (S (kD l) (S mV (S (show fa [ja t.p]from rfl) (S (show fa [ja t.p]from rfl) (S (show fa [ja (iA t.p),ja t.p]from rfl) q)))));have hc {r:ah} (h0:0<i) (q:∀a∈r,a):=aj (S (wY (x:=Int.ofNat i-1) (n:=i-1) V3 H) (S (iI (n:=l.length) (show i-1<l.length by omega)) (S (kD l) (S hau q))));have bad (h:¬Vx l i):V.bool false= .bool (cD (fg l)):=bad fun q=>h (q.2 i eO);have go (h:Vx l i):∃x',l.length-x'<l.length-i/\(x'<=l.length/\∀k,k<x'->Vx l k)/\ek ak 0 Tryz.f115.ntmps (Tj l.length (jE l) (i+1)) (Tj l.length (jE l) x'):=⟨i+1,w5 eO,⟨eO,fun k W=>by
    rcases bt k i with q|q
    . exact hz k q
    . obtain rfl:k=i:=by omega
      exact h⟩,.refl⟩
   refine⟨_,PE t.p,[],_,_,ab2 l.length (jE l) i t u,dD (g2 fun _ h=>⟨aj all_nil,bad fun q=>?_⟩) (dD (gc fun _=>gc fun _=>g1 fun h=>⟨aj all_nil,bad fun q=>?_⟩) (dD (gc fun _=>gc fun _=>gc fun _=>g1 fun h=>⟨aj all_nil,bad fun q=>?_⟩)
    (dD (gc fun _=>gc fun _=>gc fun _=>gc fun _=>gc fun h0=>g1 fun h=>⟨hc (by have:=aX h0;simp only[gQ]at this;omega) all_nil,bad fun q=>?_⟩) (dD (gc fun _=>gc fun Q=>gc fun O=>gc fun h3=>gc fun h0=>g1 fun h=>⟨hc (by have:=aX h0;simp only[gQ]at this;omega) (eG (gJ H)),go fun t' Vy=>?_⟩)
    (dD (gc fun _=>gc fun Q=>gc fun O=>gc fun h3=>g1 fun h0=>⟨aj (eG (gJ H)),go fun t' Vy=>?_⟩) (dB (g1 fun h=>absurd (r9 h) H)))))))⟩
   . rw[(q t ht).1.1]at h;cases h
   . rw[(q t ht).1.2.1]at h;cases h
   . rw[(q t ht).1.2.2]at h;cases h
   . have h0:0<i:=by have:=aX h0;simp only[gQ]at this;omega
     rw[(q t ht).2 h0 u hu]at h;cases h
   . obtain rfl:t=t':=by rw[ht]at Vy;exact dg Vy
     refine⟨⟨by simpa using Q,O,by simpa using h3⟩,fun _ u' Bj=>?_⟩;obtain rfl:u=u':=by rw[hu]at Bj;exact dg Bj
     simpa using h
   . obtain rfl:t=t':=by rw[ht]at Vy;exact dg Vy
     refine⟨⟨by simpa using Q,O,by simpa using h3⟩,fun h=>?_⟩;have:=bB h0;simp only[gQ]at this;omega
 . obtain rfl:i=l.length:=by omega
   have no (h:decide (Int.ofNat l.length<Int.ofNat l.length)=true) {q:Prop}:q:=absurd (jW h) H;refine⟨_,PE tz,[],_,_,ab2 l.length (jE l) l.length ⟨0,0,tz⟩ ⟨0,0,tz⟩,dD (gc fun h _=>no h) (dD (gc fun h _=>no h) (dD (gc fun h _=>no h) (dD (gc fun h _=>no h) (dD (gc fun h _=>no h) (dD (gc fun h _=>no h) (dB (g1 fun h=>⟨all_nil,rfl,eK fL (aiJ _ _ _) (dB (g0 ⟨all_nil,_,_,_,rfl,vT ⟨hn,hz⟩⟩))⟩)))))))⟩
noncomputable abbrev ab4:Code:=dI Tryz.f166
section
variable(n:Nat)(p:Nat->Int)(os:ai)(i:Nat)
noncomputable abbrev PJ:Code:=dr 5 ab4
noncomputable abbrev WPt:gF:=fb 140 [ja p] (ja (iA p)) (fb 138 [ja (iA p)] (.bool (nh (iA p))) W3)
theorem Xi:eU ak (WPt p):=fu (PC p) (fu (Vu (iA p)) fL)
def fPt(d:Bool):List (Nat×V):=[(3,.ptr (some (0,0))),(4,.ptr (some (1,0))),(5,.ptr (some (2,0))),(6,.ptr (some (3,0))),(7,.ptr (some (4,0))),(9,.bool d)]
def hPt(R:ai)(x y:Int)(q:Nat->Int)(o:V):af:=[(0,.cells [.eB false n R]),(1,.cells [L x,L y]),(2,pxC q),(3,.cells [.eR none 0 0 0]),(4,.cells [o])]
def sP0(R:ai)(x y:Int)(q:Nat->Int)(d:Bool):St:=fq (fPt d) (G (hPt n R x y q (.eR none 0 0 0))) 5
def Xj(R:ai)(x y:Int)(q:Nat->Int)(d:Bool)(i:Nat):St:=fq (fPt d++[(10,M i)]) (G (hPt n R x y q (.eR none 0 0 0))) 5
def Lx(R:ai)(x y:Int)(q:Nat->Int)(d:Bool)(m:Nat)(os:ai)(i:Nat):St:=fq (fPt d++[(10,M i)]) (G (hPt n R x y q (.eR (some (5,0)) m m 258)++[(5,.deep os)])) 6
def sPX(R:ai)(x y:Int)(q:Nat->Int)(d:Bool)(m:Nat)(os:ag)(i:Nat):St:=fq (fPt d++[(10,M i)]) (G (hPt n R x y q (.eR (some (5,0)) m m 258)++[(5,.cells os)])) 6
theorem aiK(R:ai)(x y:Int)(p:Nat->Int):dw (U (WPt p) []) [] 0 Tryz.f166 [3,4,5,6,7,9] (dM 5 ab4) (dy [.agg [.eB false n R],.agg [L x,L y],ja p] .nil 0) [([],
   [(fa [ja p]),(fa [ja (iA p)])],
   .to .normal (sP0 n R x y (iA p) (nh (iA p))))]
 :=dj.of C C C
theorem aiL(R:ai)(x y:Int)(q:Nat->Int)(d:Bool):dw (U W3 []) [] 0 Tryz.f166 [3,4,5,6,7,9,10] (dF (dF PJ)) (sP0 n R x y q d) [([],
   [],
   .to .normal (Xj n R x y q d 0))]
 :=dj.of C C C
def Sb(m:Nat)(ts:ai):ai:=List.take (m*258) (List.drop 0 os)++ts
abbrev zL:Prop:=V.int A (IntKind.i64.wrap (Int.ofNat i+(1:Int)))=M (i+1)
theorem ab5(R:ai)(x y:Int)(q:Nat->Int)(d:Bool)(i:Nat)(t:Tl):dw (U W3 []) [(21,.split),(26,.split),(31,.dz (.dx t.d)),(34,.split),(47,.dz (.dx t.d)),(51,.split),(57,.dz (.dx t.d)),(23,.dz (M (i+1)))] 0 Tryz.f166 [3,4,5,6,7,9,10] (dG (dG (dX (dF PJ)))) (Xj n R x y q d i) [([((decide (Int.ofNat i<(Int.ofNat n))),true),((!d),true),((GM x y t.x t.y),true),((!(t.x==x&&(t.y==y&&true))),true)],
   [((0:Int)<=Int.ofNat i/\Int.ofNat i<(Int.ofNat n)),(R.length=n*258),(V.dx (dn R (i*258) 258)=V.dx t.d),((0:Int)<=Int.ofNat i/\Int.ofNat i<(Int.ofNat n)),(R.length=n*258),(V.dx (dn R (i*258) 258)=V.dx t.d),((0:Int)<=Int.ofNat i/\Int.ofNat i<(Int.ofNat n)),(R.length=n*258),(V.dx (dn R (i*258) 258)=V.dx t.d),zL i],
   .to .normal (sPX n R x y q true 2 (D.fQ ((Tl.mk x y q).d++t.d)) (i+1))),
  ([((decide (Int.ofNat i<(Int.ofNat n))),true),((!d),true),((GM x y t.x t.y),true),((!(t.x==x&&(t.y==y&&true))),false)],
   [((0:Int)<=Int.ofNat i/\Int.ofNat i<(Int.ofNat n)),(R.length=n*258),(V.dx (dn R (i*258) 258)=V.dx t.d),((0:Int)<=Int.ofNat i/\Int.ofNat i<(Int.ofNat n)),(R.length=n*258),(V.dx (dn R (i*258) 258)=V.dx t.d),zL i],
   .to .normal (sPX n R x y q true 1 (D.fQ (Tl.mk x y q).d) (i+1))),
  ([((decide (Int.ofNat i<(Int.ofNat n))),true),((!d),true),((GM x y t.x t.y),false),((!(t.x==x&&(t.y==y&&true))),true)],
   [((0:Int)<=Int.ofNat i/\Int.ofNat i<(Int.ofNat n)),(R.length=n*258),(V.dx (dn R (i*258) 258)=V.dx t.d),((0:Int)<=Int.ofNat i/\Int.ofNat i<(Int.ofNat n)),(R.length=n*258),(V.dx (dn R (i*258) 258)=V.dx t.d),((0:Int)<=Int.ofNat i/\Int.ofNat i<(Int.ofNat n)),(R.length=n*258),(V.dx (dn R (i*258) 258)=V.dx t.d),zL i],
   .to .normal (sPX n R x y q d 1 (D.fQ t.d) (i+1))),
  ([((decide (Int.ofNat i<(Int.ofNat n))),true),((!d),true),((GM x y t.x t.y),false),((!(t.x==x&&(t.y==y&&true))),false)],
   [((0:Int)<=Int.ofNat i/\Int.ofNat i<(Int.ofNat n)),(R.length=n*258),(V.dx (dn R (i*258) 258)=V.dx t.d),((0:Int)<=Int.ofNat i/\Int.ofNat i<(Int.ofNat n)),(R.length=n*258),(V.dx (dn R (i*258) 258)=V.dx t.d),zL i],
   .to .normal (Xj n R x y q d (i+1))),
  ([((decide (Int.ofNat i<(Int.ofNat n))),true),((!d),false),((!(t.x==x&&(t.y==y&&true))),true)],
   [((0:Int)<=Int.ofNat i/\Int.ofNat i<(Int.ofNat n)),(R.length=n*258),(V.dx (dn R (i*258) 258)=V.dx t.d),((0:Int)<=Int.ofNat i/\Int.ofNat i<(Int.ofNat n)),(R.length=n*258),(V.dx (dn R (i*258) 258)=V.dx t.d),zL i],
   .to .normal (sPX n R x y q d 1 (D.fQ t.d) (i+1))),
  ([((decide (Int.ofNat i<(Int.ofNat n))),true),((!d),false),((!(t.x==x&&(t.y==y&&true))),false)],
   [((0:Int)<=Int.ofNat i/\Int.ofNat i<(Int.ofNat n)),(R.length=n*258),(V.dx (dn R (i*258) 258)=V.dx t.d),zL i],
   .to .normal (Xj n R x y q d (i+1))),
  ([((decide (Int.ofNat i<(Int.ofNat n))),false)],
   [],
   .to (.exit 0) (Xj n R x y q d i))]
 :=dj.of C C C
abbrev zM:Prop:=V.int A (IntKind.i64.wrap (Int.ofNat i+(1:Int)))=M (i+1)
theorem ab6(R:ai)(x y:Int)(q:Nat->Int)(d:Bool)(m:Nat)(os:ai)(i:Nat)(t:Tl):dw (U W3 []) [(21,.split),(26,.split),(31,.dz (.dx t.d)),(34,.split),(47,.dz (.dx t.d)),(51,.split),(57,.dz (.dx t.d)),(23,.dz (M (i+1)))] 0 Tryz.f166 [3,4,5,6,7,9,10] (dG (dG (dX (dF PJ)))) (Lx n R x y q d m os i) [([((decide (Int.ofNat i<(Int.ofNat n))),true),((!d),true),((GM x y t.x t.y),true),((!(t.x==x&&(t.y==y&&true))),true)],
   [((0:Int)<=Int.ofNat i/\Int.ofNat i<(Int.ofNat n)),(R.length=n*258),(V.dx (dn R (i*258) 258)=V.dx t.d),(0+m*258<=os.length),(0<1),(fo (m+1) 258 272=true),((0:Int)<=Int.ofNat i/\Int.ofNat i<(Int.ofNat n)),(R.length=n*258),(V.dx (dn R (i*258) 258)=V.dx t.d),((0:Int)<=Int.ofNat i/\Int.ofNat i<(Int.ofNat n)),(R.length=n*258),(V.dx (dn R (i*258) 258)=V.dx t.d),(0+(m+1)*258<=(List.take (m*258) (List.drop 0 os)++(Tl.mk x y q).d).length),(0<1),(fo (m+1+1) 258 272=true),zM i],
   .to .normal (Lx n R x y q true (m+1+1) (Sb (Sb os m (Tl.mk x y q).d) (m+1) t.d) (i+1))),
  ([((decide (Int.ofNat i<(Int.ofNat n))),true),((!d),true),((GM x y t.x t.y),true),((!(t.x==x&&(t.y==y&&true))),false)],
   [((0:Int)<=Int.ofNat i/\Int.ofNat i<(Int.ofNat n)),(R.length=n*258),(V.dx (dn R (i*258) 258)=V.dx t.d),(0+m*258<=os.length),(0<1),(fo (m+1) 258 272=true),((0:Int)<=Int.ofNat i/\Int.ofNat i<(Int.ofNat n)),(R.length=n*258),(V.dx (dn R (i*258) 258)=V.dx t.d),zM i],
   .to .normal (Lx n R x y q true (m+1) (Sb os m (Tl.mk x y q).d) (i+1))),
  ([((decide (Int.ofNat i<(Int.ofNat n))),true),((!d),true),((GM x y t.x t.y),false),((!(t.x==x&&(t.y==y&&true))),true)],
   [((0:Int)<=Int.ofNat i/\Int.ofNat i<(Int.ofNat n)),(R.length=n*258),(V.dx (dn R (i*258) 258)=V.dx t.d),((0:Int)<=Int.ofNat i/\Int.ofNat i<(Int.ofNat n)),(R.length=n*258),(V.dx (dn R (i*258) 258)=V.dx t.d),((0:Int)<=Int.ofNat i/\Int.ofNat i<(Int.ofNat n)),(R.length=n*258),(V.dx (dn R (i*258) 258)=V.dx t.d),(0+m*258<=os.length),(0<1),(fo (m+1) 258 272=true),zM i],
   .to .normal (Lx n R x y q d (m+1) (Sb os m t.d) (i+1))),
  ([((decide (Int.ofNat i<(Int.ofNat n))),true),((!d),true),((GM x y t.x t.y),false),((!(t.x==x&&(t.y==y&&true))),false)],
   [((0:Int)<=Int.ofNat i/\Int.ofNat i<(Int.ofNat n)),(R.length=n*258),(V.dx (dn R (i*258) 258)=V.dx t.d),((0:Int)<=Int.ofNat i/\Int.ofNat i<(Int.ofNat n)),(R.length=n*258),(V.dx (dn R (i*258) 258)=V.dx t.d),zM i],
   .to .normal (Lx n R x y q d m os (i+1))),
  ([((decide (Int.ofNat i<(Int.ofNat n))),true),((!d),false),((!(t.x==x&&(t.y==y&&true))),true)],
   [((0:Int)<=Int.ofNat i/\Int.ofNat i<(Int.ofNat n)),(R.length=n*258),(V.dx (dn R (i*258) 258)=V.dx t.d),((0:Int)<=Int.ofNat i/\Int.ofNat i<(Int.ofNat n)),(R.length=n*258),(V.dx (dn R (i*258) 258)=V.dx t.d),(0+m*258<=os.length),(0<1),(fo (m+1) 258 272=true),zM i],
   .to .normal (Lx n R x y q d (m+1) (Sb os m t.d) (i+1))),
  ([((decide (Int.ofNat i<(Int.ofNat n))),true),((!d),false),((!(t.x==x&&(t.y==y&&true))),false)],
   [((0:Int)<=Int.ofNat i/\Int.ofNat i<(Int.ofNat n)),(R.length=n*258),(V.dx (dn R (i*258) 258)=V.dx t.d),zM i],
   .to .normal (Lx n R x y q d m os (i+1))),
  ([((decide (Int.ofNat i<(Int.ofNat n))),false)],
   [],
   .to (.exit 0) (Lx n R x y q d m os i))]
 :=dj.of C C C
theorem aiM(R:ai)(x y:Int)(q:Nat->Int)(d:Bool)(i:Nat):dw (U W3 []) [(63,.split)] 0 Tryz.f166 [] (dX PJ) (Xj n R x y q d i) [([((!d),true)],
   [],
   .ret (.agg [.eR (some (0,0)) 1 1 258]) (G [(0,.cells (D.fQ (Tl.mk x y q).d))]) 1),
  ([((!d),false)],
   [],
   .ret (.agg [.eR none 0 0 0]) (G []) 0)]
 :=dj.of C C C
theorem aiN(R:ai)(x y:Int)(q:Nat->Int)(d:Bool)(m:Nat)(os:ai)(i:Nat):dw (U W3 []) [(63,.split)] 0 Tryz.f166 [] (dX PJ) (Lx n R x y q d m os i) [([((!d),true)],
   [(0+m*258<=os.length),(0<1),(fo (m+1) 258 272=true)],
   .ret (.agg [.eR (some (0,0)) (m+1) (m+1) 258]) (G [(0,.deep (Sb os m (Tl.mk x y q).d))]) 1),
  ([((!d),false)],
   [],
   .ret (.agg [.eR (some (0,0)) m m 258]) (G [(0,.deep os)]) 1)]
 :=dj.of C C C
end
section
variable(x y:Int)(p q:Nat->Int)(s:List Tl×Bool)
def DY(t:Tl):List Tl×Bool:=
 (if t.x=x/\t.y=y then(if s.2=false/\GM x y t.x t.y=true then s.1++[⟨x,y,q⟩]else s.1)else(if s.2=false/\GM x y t.x t.y=true then s.1++[⟨x,y,q⟩]else s.1)++[t],if s.2=false/\GM x y t.x t.y=true then true else s.2)
noncomputable def CU(l:List Tl):List Tl×Bool:=l.foldl (DY x y (iA p)) ([],nh (iA p))
noncomputable def Tk(l:List Tl):List Tl:=if(CU x y p l).2=true then(CU x y p l).1 else(CU x y p l).1++[⟨x,y,iA p⟩]
theorem M5{x y:Int}{p:Nat->Int}{l:List Tl}{i:Nat}{t:Tl}(h:l[i]? =some t):CU x y p (l.take (i+1))=DY x y (iA p) (CU x y p (l.take i)) t:=by
 unfold CU;rw[bY,h,List.foldl_append];rfl
theorem PK{x y:Int}{q:Nat->Int}{s:List Tl×Bool}{t:Tl}:(DY x y q s t).1.length<=s.1.length+2:=by
 unfold DY;simp only;split<;>split<;>(repeat rw[aE])<;>(try simp only[aP,bW])<;>omega
theorem PL(l:List Tl):(CU x y p l).1.length<=2*l.length:=by
 have key:∀(l:List Tl) (s:List Tl×Bool),(l.foldl (DY x y (iA p)) s).1.length<=s.1.length+2*l.length:=by
  intro l
  induction l with
  |nil=>intro s;simp
  |cons t l ih=>
   intro s;have:=ih (DY x y (iA p) s t);have:=PK (x:=x) (y:=y) (q:=iA p) (s:=s) (t:=t);simp only[dh,aP];omega
 have:=key l ([],nh (iA p));unfold CU;simpa using this
theorem Kc(l:List Tl)(t:Tl):Sb (jE l) l.length t.d=jE (l++[t]):=by
 unfold Sb;rw[cA,<- kD l,bz];simp[jE]
def Xk(l:List Tl)(x y:Int)(q:Nat->Int)(s:List Tl×Bool)(i:Nat):St:=match s.1 with
 | []=>Xj l.length (jE l) x y q s.2 i
 |o::r=>Lx l.length (jE l) x y q s.2 (o::r).length (jE (o::r)) i
end
theorem Xl{l:List Tl}{x y:Int}{q:Nat->Int}{s:List Tl×Bool}{i:Nat}(h:s.1≠[]):Xk l x y q s i=Lx l.length (jE l) x y q s.2 s.1.length (jE s.1) i:=by
 obtain⟨s1,s2⟩:=s;cases s1 with
 |nil=>exact absurd rfl h
 |cons o r=>rfl
theorem PM{k:Nat}(h:k<=100000):fo k 258 272=true:=aZ ⟨H,H⟩
theorem jw(l:List Tl)(x y:Int)(p:Nat->Int)(hl:l.length<=1024):dU ak 166 [ox l,.agg [L x,L y],ja p] (ox (Tk x y p l)):=by
 refine qL Tryz.func166 ?_;refine fF 5 (Xi p) (aiK l.length (jE l) x y p) (S rfl (eG rfl)) ?_;generalize hq:iA p=q;have aiO:∀k,CU x y p k=k.foldl (DY x y q) ([],nh q):=fun k=>by rw[<- hq];rfl
 refine qm fL 0 _ [3,4,5,6,7,9,10] (l.length-·.1) (fun z:Nat×List Tl×Bool=>z.1<=l.length/\z.2=CU x y p (l.take z.1)) (fun z=>Xk l x y q z.2 z.1) (0,[],nh q) ⟨aU _,by rw[aiO];rfl⟩ (aiL _ _ x y q (nh q)) all_nil .refl ?_;rintro⟨i,s⟩ ⟨hi,hs⟩;simp only at hi hs;have jx:=PL x y p (l.take i);rw[<- hs,bq]at jx;have M6:i=l.length->Tk x y p l=if s.2=true then s.1 else s.1++[⟨x,y,q⟩]:=fun h=>by unfold Tk;rw[hs,h,bz,hq]
 have tU:∀t,l[i]? =some t->∀X,X=DY x y q s t->∀fm,(i<l.length->ek ak 0 Tryz.f166.ntmps fm (Xk l x y q X (i+1)))->i<l.length->∃z':Nat×List Tl×Bool,l.length-z'.1<l.length-i/\(z'.1<=l.length/\z'.2=CU x y p (l.take z'.1))/\ek ak 0 Tryz.f166.ntmps fm (Xk l x y q z'.2 z'.1):=fun t ht X dQ fm hS eO=>
  ⟨(i+1,X),w5 eO,⟨eO,by rw[M5 ht,<- hs,hq];exact dQ⟩,hS eO⟩
 obtain⟨s,d⟩:=s;rcases bt i l.length with eO|ON
 . have mV:=zK eO;have ht:l[i]? =some l[i]:=au eO;generalize l[i]=t at ht mV;cases s with
   |nil=>
    refine⟨_,fL,[],_,_,ab5 l.length (jE l) x y q d i t,dD (gc fun _=>gc fun Q=>gc fun O=>g1 fun h3=>⟨?_,tU t ht _ (show(([⟨x,y,q⟩,t],true):List Tl×Bool)=_ from ?_) _ (fun _=>.deep [5] C) eO⟩)
     (dD (gc fun _=>gc fun Q=>gc fun O=>g1 fun h3=>⟨?_,tU t ht _ (show(([⟨x,y,q⟩],true):List Tl×Bool)=_ from ?_) _ (fun _=>.deep [5] C) eO⟩)
     (dD (gc fun _=>gc fun Q=>gc fun O=>g1 fun h3=>⟨?_,tU t ht _ (show(([t],d):List Tl×Bool)=_ from ?_) _ (fun _=>.deep [5] C) eO⟩)
     (dD (gc fun _=>gc fun Q=>gc fun O=>g1 fun h3=>⟨?_,tU t ht _ (show(([],d):List Tl×Bool)=_ from ?_) _ (fun _=>.refl) eO⟩)
     (dD (gc fun _=>gc fun Q=>g1 fun h3=>⟨?_,tU t ht _ (show(([t],d):List Tl×Bool)=_ from ?_) _ (fun _=>.deep [5] C) eO⟩)
     (dD (gc fun _=>gc fun Q=>g1 fun h3=>⟨?_,tU t ht _ (show(([],d):List Tl×Bool)=_ from ?_) _ (fun _=>.refl) eO⟩)
     (dB (g1 fun h=>absurd (r9 h) H)))))))⟩
    all_goals first
     |(repeat' (first|exact all_nil|refine S ?_ ?_)
       all_goals first|exact iI eO|exact kD l|exact mV|exact gJ H)
     |(simp only[Bool.not_eq_eq_eq_not,Bool.not_true,Bool.not_false,ct,Bool.and_eq_false_imp,ay,cG,b5]at Q h3
       unfold DY;simp_all)
   |cons o r=>
    have iV:((o::r,d):List Tl×Bool).1≠[]:=by simp
    rw[show Xk l x y q (i,o::r,d).2 (i,o::r,d).1=Lx l.length (jE l) x y q d (o::r).length (jE (o::r)) i from rfl];generalize o::r=os at *;simp only at *;have hb:os.length<=4096:=by omega
    have e1:∀t',Sb (jE os) os.length t'.d=jE (os++[t']):=Kc os;have e2:Sb (jE (os++[⟨x,y,q⟩])) (os.length+1) t.d=jE (os++[⟨x,y,q⟩]++[t]):=by
     have:=Kc (os++[⟨x,y,q⟩]) t;rw[aE]at this;exact this
    have hr:=ab6 l.length (jE l) x y q d os.length (jE os) i t;have Wx:∀(w:List Tl) (d':Bool) (m:Nat) (k:ai),w≠[]->m=w.length->k=jE w->ek ak 0 Tryz.f166.ntmps (Lx l.length (jE l) x y q d' m k (i+1)) (Xk l x y q (w,d') (i+1)):=fun w d' m k hw K W=>by
     rw[Xl hw,K,W];exact .refl
    refine⟨_,fL,[],_,_,hr,dD (gc fun _=>gc fun Q=>gc fun O=>g1 fun h3=>⟨?_,tU t ht _ (show((os++[⟨x,y,q⟩]++[t],true):List Tl×Bool)=_ from ?_) _ (fun _=>Wx _ _ _ _ (by simp) (by simp) (by rw[e1,e2])) eO⟩)
     (dD (gc fun _=>gc fun Q=>gc fun O=>g1 fun h3=>⟨?_,tU t ht _ (show((os++[⟨x,y,q⟩],true):List Tl×Bool)=_ from ?_) _ (fun _=>Wx _ _ _ _ (by simp) (by simp) (by rw[e1])) eO⟩)
     (dD (gc fun _=>gc fun Q=>gc fun O=>g1 fun h3=>⟨?_,tU t ht _ (show((os++[t],d):List Tl×Bool)=_ from ?_) _ (fun _=>Wx _ _ _ _ (by simp) (by simp) (by rw[e1])) eO⟩)
     (dD (gc fun _=>gc fun Q=>gc fun O=>g1 fun h3=>⟨?_,tU t ht _ (show((os,d):List Tl×Bool)=_ from ?_) _ (fun _=>Wx _ _ _ _ iV rfl rfl) eO⟩)
     (dD (gc fun _=>gc fun Q=>g1 fun h3=>⟨?_,tU t ht _ (show((os++[t],d):List Tl×Bool)=_ from ?_) _ (fun _=>Wx _ _ _ _ (by simp) (by simp) (by rw[e1])) eO⟩)
     (dD (gc fun _=>gc fun Q=>g1 fun h3=>⟨?_,tU t ht _ (show((os,d):List Tl×Bool)=_ from ?_) _ (fun _=>Wx _ _ _ _ iV rfl rfl) eO⟩)
     (dB (g1 fun h=>absurd (r9 h) H)))))))⟩
    all_goals first
     |(repeat' (first|exact all_nil|refine S ?_ ?_)
       all_goals first|exact iI eO|exact kD l|exact mV|exact gJ H|exact Nat.zero_lt_one|exact PM H|(rw[kD];omega)|(rw[cA,aE,bq,kD,Tl.Ih];omega))
     |(simp only[Bool.not_eq_eq_eq_not,Bool.not_true,Bool.not_false,ct,Bool.and_eq_false_imp,ay,cG,b5]at Q h3
       unfold DY;simp_all)
 . obtain rfl:i=l.length:=by omega
   have hf:=M6 rfl;have no (h:decide (Int.ofNat l.length<Int.ofNat l.length)=true) {q:Prop}:q:=absurd (jW h) H;cases s with
   |nil=>
    refine⟨_,fL,[],_,_,ab5 l.length (jE l) x y q d l.length ⟨0,0,tz⟩,dD (gc fun h _=>no h) (dD (gc fun h _=>no h) (dD (gc fun h _=>no h) (dD (gc fun h _=>no h) (dD (gc fun h _=>no h) (dD (gc fun h _=>no h) (dB (g1 fun _=>⟨all_nil,rfl,eK fL (aiM _ _ x y q d _) (dD (g1 fun h=>⟨all_nil,_,_,_,rfl,?_⟩) (dB (g1 fun h=>⟨all_nil,_,_,_,rfl,?_⟩)))⟩)))))))⟩
    . have hd:d=false:=by simpa using h
      rw[hf,hd,aB (by simp)];exact .Bu (v0:=.agg [.eB false 1 (Tl.mk x y q).d]) [0] (aj:=[258=1*258]) C (eG rfl) C C
    . have hd:d=true:=by simpa using h
      rw[hf,hd,aG rfl];exact .self rfl rfl
   |cons o r=>
    rw[show Xk l x y q (l.length,o::r,d).2 (l.length,o::r,d).1=Lx l.length (jE l) x y q d (o::r).length (jE (o::r)) l.length from rfl];generalize o::r=os at *;simp only at *;have hb:os.length<=4096:=by omega
    have fz (w:List Tl) (m:Nat) (k:ai) (K:m=w.length) (W:k=jE w):vD (ox w) (.agg [.eR (some (0,0)) m m 258]) (G [(0,.deep k)]) 1:=by
     subst K W;exact .Bu (v0:=ox w) [0] (aj:=[(jE w).length=w.length*258]) C (eG (kD w)) C C
    refine⟨_,fL,[],_,_,ab6 l.length (jE l) x y q d os.length (jE os) l.length ⟨0,0,tz⟩,dD (gc fun h _=>no h) (dD (gc fun h _=>no h) (dD (gc fun h _=>no h) (dD (gc fun h _=>no h) (dD (gc fun h _=>no h) (dD (gc fun h _=>no h) (dB (g1 fun _=>⟨all_nil,rfl,eK fL (aiN _ _ x y q d _ _ _) (dD (g1 fun h=>⟨S (by rw[kD];omega) (S eY (eG (PM H))),_,_,_,rfl,?_⟩) (dB (g1 fun h=>⟨all_nil,_,_,_,rfl,?_⟩)))⟩)))))))⟩
    . have hd:d=false:=by simpa using h
      rw[hf,hd,aB (by simp)];exact fz _ _ _ (by simp) (Kc os ⟨x,y,q⟩)
    . have hd:d=true:=by simpa using h
      rw[hf,hd,aG rfl];exact fz _ _ _ rfl rfl
abbrev ra(n:Nat)(R:ai):V:=.agg [.eB false n R]
noncomputable abbrev aiP:Code:=dI Tryz.f134
noncomputable abbrev aiQ:Code:=dI Tryz.f108
noncomputable abbrev ab7:Code:=dI Tryz.f67
section
variable(n c k:Nat)
noncomputable abbrev Xm:Code:=dr 2 ab7
theorem aiR(R:ai)(b:Bool):dw (U (fb 115 [ra n R] (.bool b) W3) []) [(7,.split)] 0 Tryz.f134 [] (aiP) (dy [ra n R] .nil 0) [([((!b),true)],
   [(fa [ra n R])],
   .ret (.agg [.eR none 0 0 0]) (G []) 0),
  ([((!b),false)],
   [(fa [ra n R])],
   .ret (.agg [.eB false n R]) (G []) 0)]
 :=dj.of C C C
abbrev Tm(r g b a:Int):V:=.agg [.int .u8 r,.int .u8 g,.int .u8 b,.int .u8 a]
abbrev Ly(x:Int):Int:=IntKind.i64.wrap (x-IntKind.i64.wrap (8*qM x))
noncomputable abbrev WS8(R:ai)(m:Nat)(os:ai)(x y r g b a:Int)(p q:Nat->Int)(k:Nat)(us:ai):gF:=fb 134 [ra n R] (ra m os) (fb 133 [ra m os,.agg [L (qM x),L (qM y)]] (ja p) (fb 136 [ja p,L (Ly x),L (Ly y),Tm r g b a] (ja q) (fb 166 [ra m os,.agg [L (qM x),L (qM y)],ja q] (ra k us) W3)))
theorem aiS(R:ai)(m:Nat)(os:ai)(x y r g b a:Int)(p q:Nat->Int)(k:Nat)(us:ai):dw (U (WS8 n R m os x y r g b a p q k us) [(135,[(9,.split)]),(165,[(6,.split)])]) [] 0 Tryz.f108 [] (aiQ) (dy [ra n R,L x,L y,Tm r g b a] .nil 0) [([((!AG (qM x) (qM y)),true)],
   [(fa [ra n R]),(fa [ra m os,.agg [L (qM x),L (qM y)]]),(fa [ja p,L (Ly x),L (Ly y),Tm r g b a])],
   .ret (.agg [.eR none 0 0 0,.int .i64 1]) (G []) 0),
  ([((!AG (qM x) (qM y)),false),((decide ((Int.ofNat k)>(1024:Int))),true)],
   [(fa [ra n R]),(fa [ra m os,.agg [L (qM x),L (qM y)]]),(fa [ja p,L (Ly x),L (Ly y),Tm r g b a]),(fa [ra n R]),(fa [ra m os,.agg [L (qM x),L (qM y)],ja q])],
   .ret (.agg [.eR none 0 0 0,.int .i64 2]) (G []) 0),
  ([((!AG (qM x) (qM y)),false),((decide ((Int.ofNat k)>(1024:Int))),false)],
   [(fa [ra n R]),(fa [ra m os,.agg [L (qM x),L (qM y)]]),(fa [ja p,L (Ly x),L (Ly y),Tm r g b a]),(fa [ra n R]),(fa [ra m os,.agg [L (qM x),L (qM y)],ja q])],
   .ret (.agg [.eB false k us,.int .i64 0]) (G []) 0)]
 :=dj.of C C C
def Vz(R:ai)(m:Nat)(os:ai)(i:Nat):St:=fq [(0,.eB false n R),(2,.ptr (some (0,0))),(3,.ptr (some (1,0))),(4,M i)] (G [(0,.cells [.eB false 0 []]),(1,.cells [.eB false m os])]) 2
def VA(R:ai)(m:Nat)(os:ai)(i:Nat)(r g b a:Int)(k:Nat):St:=fq [(0,.eB false n R),(2,.ptr (some (0,0))),(3,.ptr (some (1,0))),(4,M i),(5,.ptr (some (2,0))),(6,M k)] (G [(0,.cells [.eB false 0 []]),(1,.cells [.eB false m os]),(2,.cells [.int .u8 r,.int .u8 g,.int .u8 b,.int .u8 a])]) 3
noncomputable abbrev Xn:Code:=dG (dG (dX (dF Xm)))
noncomputable abbrev ab8:Code:=dG (dF (dX Xn))
noncomputable abbrev aiT:Code:=dG (dG (dr 2 ab8))
theorem aiU(R:ai):dw (U W3 []) [] 0 Tryz.f67 [0,2,3] (dM 2 ab7) (dy [.eB false n R] .nil 0) [([],
   [],
   .to .normal (fq [(0,.eB false n R),(2,.ptr (some (0,0))),(3,.ptr (some (1,0)))] (G [(0,.cells [.eR none 0 0 0]),(1,.cells [.eR none 0 0 0])]) 2))]
 :=dj.of C C C
theorem aiV(R:ai):dw (U W3 []) [] 0 Tryz.f67 [0,2,3,4] (dF (dF Xm)) (fq [(0,.eB false n R),(2,.ptr (some (0,0))),(3,.ptr (some (1,0)))] (G [(0,.cells [.eB false 0 []]),(1,.cells [.eB false 0 []])]) 2) [([],
   [],
   .to .normal (Vz n R 0 [] 0))]
 :=dj.of C C C
theorem aiW(R:ai)(m:Nat)(os:ai)(i:Nat):dw (U W3 []) [(12,.split)] 0 Tryz.f67 [0,2,3,4] (dF Xn) (Vz n R m os i) [([((decide (Int.ofNat i<(Int.ofNat n))),true)],
   [],
   .to .normal (Vz n R m os i)),
  ([((decide (Int.ofNat i<(Int.ofNat n))),false)],
   [],
   .to (.exit 0) (Vz n R m os i))]
 :=dj.of C C C
theorem aiX(R:ai)(m:Nat)(os:ai)(i:Nat)(v:Int):dw (U W3 []) [(17,.dz (.dx [.int .i64 v])),(22,.dz (.dx [.int .i64 v])),(28,.dz (.dx [.int .i64 v])),(34,.dz (.dx [.int .i64 v]))] 0 Tryz.f67 [0,2,3,4,5,6] (dM 2 ab8) (Vz n R m os i) [([],
   [((0:Int)<=Int.ofNat i/\Int.ofNat i<(Int.ofNat n)),(R.length=n*1),(V.dx (dn R (i*1) 1)=V.dx [D.int A v]),((0:Int)<=Int.ofNat i/\Int.ofNat i<(Int.ofNat n)),(R.length=n*1),(V.dx (dn R (i*1) 1)=V.dx [D.int A v]),((0:Int)<=Int.ofNat i/\Int.ofNat i<(Int.ofNat n)),(R.length=n*1),(V.dx (dn R (i*1) 1)=V.dx [D.int A v]),((0:Int)<=Int.ofNat i/\Int.ofNat i<(Int.ofNat n)),(R.length=n*1),(V.dx (dn R (i*1) 1)=V.dx [D.int A v])],
   .to .normal (fq [(0,.eB false n R),(2,.ptr (some (0,0))),(3,.ptr (some (1,0))),(4,.int .i64 (Int.ofNat i)),(5,.ptr (some (2,0))),(6,.int .i64 0)] (G [(0,.cells [.eB false 0 []]),(1,.cells [.eB false m os]),(2,.cells [.int .u8 (IntKind.u8.wrap v),.int .u8 (IntKind.u8.wrap (v.fdiv (32:Int))),.int .u8 (IntKind.u8.wrap (v.fdiv (512:Int))),.int .u8 (IntKind.u8.wrap (Int.ofNat (BitVec.ofInt 8 (IntKind.u8.wrap (v.fdiv (8:Int)))|||BitVec.ofInt 8 (15:Int)).toNat))])]) 3))]
 :=dj.of C C C
abbrev PN(v ks:Int):Prop:=V.int A (IntKind.i64.wrap (IntKind.i64.wrap (IntKind.i64.wrap (Int.ofNat (BitVec.ofInt 64 (v.fdiv (256:Int))&&&BitVec.ofInt 64 (15:Int)).toNat)-(4:Int))+IntKind.i64.wrap (Int.ofNat k*IntKind.i64.wrap (Int.ofNat (BitVec.ofInt 64 v&&&BitVec.ofInt 64 (1:Int)).toNat))))=L ks
abbrev PO(v s':Int):Prop:=V.int A (IntKind.i64.wrap (IntKind.i64.wrap (IntKind.i64.wrap (Int.ofNat (BitVec.ofInt 64 (v.fdiv (16:Int))&&&BitVec.ofInt 64 (15:Int)).toNat)-(4:Int))+Int.ofNat k))=L s'
abbrev Ke(v:Int):Prop:=V.int A (IntKind.i64.wrap ((1:Int)+IntKind.i64.wrap (Int.ofNat (BitVec.ofInt 64 v&&&BitVec.ofInt 64 (7:Int)).toNat)))=M c
abbrev PR:Prop:=V.int A (IntKind.i64.wrap (Int.ofNat k+(1:Int)))=M (k+1)
theorem aiY(R:ai)(m:Nat)(os:ai)(i:Nat)(r g b a:Int)(k c:Nat)(v s' ks:Int)(k2:Nat)(us:ai)(e:Int):dw (U (fb 108 [ra m os,L s',L ks,Tm r g b a] (.agg [.eB false k2 us,L e]) W3) []) [(43,.dz (.dx [.int .i64 v])),(46,.dz (M c)),(47,.split),(53,.dz (.dx [.int .i64 v])),(62,.dz (.dx [.int .i64 v])),(70,.dz (.dx [.int .i64 v])),(59,.dz (L s')),(74,.dz (L ks)),(79,.split),(49,.dz (M (k+1)))] 0 Tryz.f67 [0,2,3,4,5,6] (aiT) (VA n R m os i r g b a k) [([((decide (Int.ofNat k<Int.ofNat c)),true),((e==(0:Int)),true)],
   [((0:Int)<=Int.ofNat i/\Int.ofNat i<(Int.ofNat n)),(R.length=n*1),(V.dx (dn R (i*1) 1)=V.dx [D.int A v]),Ke c v,((0:Int)<=Int.ofNat i/\Int.ofNat i<(Int.ofNat n)),(R.length=n*1),(V.dx (dn R (i*1) 1)=V.dx [D.int A v]),PO k v s',((0:Int)<=Int.ofNat i/\Int.ofNat i<(Int.ofNat n)),(R.length=n*1),(V.dx (dn R (i*1) 1)=V.dx [D.int A v]),((0:Int)<=Int.ofNat i/\Int.ofNat i<(Int.ofNat n)),(R.length=n*1),(V.dx (dn R (i*1) 1)=V.dx [D.int A v]),PN k v ks,(fa [ra m os,L s',L ks,Tm r g b a]),PR k],
   .to .normal (VA n R k2 us i r g b a (k+1))),
  ([((decide (Int.ofNat k<Int.ofNat c)),true),((e==(0:Int)),false)],
   [((0:Int)<=Int.ofNat i/\Int.ofNat i<(Int.ofNat n)),(R.length=n*1),(V.dx (dn R (i*1) 1)=V.dx [D.int A v]),Ke c v,((0:Int)<=Int.ofNat i/\Int.ofNat i<(Int.ofNat n)),(R.length=n*1),(V.dx (dn R (i*1) 1)=V.dx [D.int A v]),PO k v s',((0:Int)<=Int.ofNat i/\Int.ofNat i<(Int.ofNat n)),(R.length=n*1),(V.dx (dn R (i*1) 1)=V.dx [D.int A v]),((0:Int)<=Int.ofNat i/\Int.ofNat i<(Int.ofNat n)),(R.length=n*1),(V.dx (dn R (i*1) 1)=V.dx [D.int A v]),PN k v ks,(fa [ra m os,L s',L ks,Tm r g b a]),PR k],
   .to .normal (VA n R m os i r g b a (k+1))),
  ([((decide (Int.ofNat k<Int.ofNat c)),false)],
   [((0:Int)<=Int.ofNat i/\Int.ofNat i<(Int.ofNat n)),(R.length=n*1),(V.dx (dn R (i*1) 1)=V.dx [D.int A v]),Ke c v],
   .to (.exit 2) (VA n R m os i r g b a k))]
 :=dj.of C C C
theorem aiZ(R:ai)(m:Nat)(os:ai)(i:Nat)(r g b a:Int)(k:Nat):dw (U W3 []) [(14,.dz (M (i+1)))] 0 Tryz.f67 [0,2,3,4] (dX (dX Xn)) (VA n R m os i r g b a k) [([],
   [(V.int A (IntKind.i64.wrap (Int.ofNat i+(1:Int)))=M (i+1))],
   .to .normal (Vz n R m os (i+1)))]
 :=dj.of C C C
theorem ai0(R:ai)(m:Nat)(os:ai)(i:Nat):dw (U W3 []) [] 0 Tryz.f67 [] (dX Xm) (Vz n R m os i) [([],
   [],
   .ret (.agg [.eB false m os]) (G []) 0)]
 :=dj.of C C C
end
noncomputable def PS(l:List Tl):List Tl:=if cD (fg l)=true then l else[]
theorem FW{p:Prop}:cD p=true↔p:=by
 constructor
 . intro h;by_cases q:p
   . exact q
   . rw[Th q]at h;cases h
 . exact PA
theorem Tn(l:List Tl):(PS l).length<=1024:=by
 unfold PS;split
 . rename_i h;exact(FW.1 h).1
 . simp
theorem ofD(l:List Tl)(hl:l.length<=1000000):dU ak 134 [ox l] (ox (PS l)):=by
 refine qL Tryz.func134 ?_;refine eK (fu (PI l hl) fL) (aiR l.length (jE l) (cD (fg l))) (dD (g1 fun h=>⟨eG rfl,_,_,_,rfl,?_⟩) (dB (g1 fun h=>⟨eG rfl,_,_,_,rfl,?_⟩)))
 . have h:cD (fg l)=false:=by simpa using h
   rw[show PS l=[]from aB (by rw[h];simp)];exact .self rfl rfl
 . have h:cD (fg l)=true:=by simpa using h
   rw[show PS l=l from aG h];exact .self rfl rfl
def ai1(s:List Tl×Int):V:=.agg [.eB false s.1.length (jE s.1),L s.2]
noncomputable def Ii(l:List Tl)(x y r g b a:Int):List Tl:=Tk (qM x) (qM y) (Ka (yn (qM x) (qM y) (PS l)) (Ly x) (Ly y) r g b a) (PS l)
noncomputable def wj(l:List Tl)(x y r g b a:Int):List Tl×Int:=if AG (qM x) (qM y)=true then(if 1024<(Ii l x y r g b a).length then([],2)else(Ii l x y r g b a,0))else([],1)
theorem M7(l:List Tl)(x y r g b a:Int):(wj l x y r g b a).1.length<=1024:=by
 unfold wj;split
 . split
   . simp
   . simp only;omega
 . simp
theorem ab9(l:List Tl)(x y r g b a:Int)(hl:l.length<=1000000):dU ak 108 [ox l,L x,L y,Tm r g b a] (ai1 (wj l x y r g b a)):=by
 refine qL Tryz.func108 ?_;have ho:=Tn l;have h2:fa [ra l.length (jE l)]:=rfl;have k:=fu (ofD l hl) (fu (ab3 (PS l) (qM x) (qM y) H) (fu (aiD (yn (qM x) (qM y) (PS l)) (Ly x) (Ly y) r g b a) (fu (jw (PS l) (qM x) (qM y) (Ka (yn (qM x) (qM y) (PS l)) (Ly x) (Ly y) r g b a) ho) fL)));refine eK k (aiS l.length (jE l) _ _ x y r g b a _ _ _ _) (dD (g1 fun h=>⟨S rfl (S rfl (eG rfl)),_,_,_,rfl,?_⟩) (dD (g2 fun h O=>⟨S rfl (S rfl (S rfl (S rfl (eG rfl)))),_,_,_,rfl,?_⟩) (dB (g2 fun h O=>⟨S rfl (S rfl (S rfl (S rfl (eG rfl)))),_,_,_,rfl,?_⟩))))
 . have h:AG (qM x) (qM y)=false:=by simpa using h
   rw[show wj l x y r g b a=([],1)from aB (by rw[h];simp)];exact .self rfl rfl
 . have h:AG (qM x) (qM y)=true:=by simpa using h
   have O:=aX O;rw[show wj l x y r g b a=([],2)from(aG h).trans (aG (by simp only[gQ]at O;unfold Ii;omega))];exact .self rfl rfl
 . have h:AG (qM x) (qM y)=true:=by simpa using h
   have O:=bB O;rw[show wj l x y r g b a=(Ii l x y r g b a,0)from(aG h).trans (aB (by simp only[gQ]at O;unfold Ii;omega))];exact .self rfl rfl
def dO(l:List Int):ai:=l.map (.int .i64)
abbrev fj(l:List Int):V:=.eB false l.length (dO l)
theorem eo(l:List Int):(dO l).length=l.length*1:=by simp[dO]
theorem tA{l:List Int}{i:Nat}{v:Int}(h:l[i]? =some v):V.dx (dn (dO l) (i*1) 1)= .dx [.int .i64 v]:=by
 unfold dn dO;have eO:i<l.length:=(aR.1 h).1;have hv:l[i]=v:=(aR.1 h).2;rw[cU,<- List.map_drop,<- List.map_take,b9 eO,hv];rfl
def To(v:Int):Int:=IntKind.u8.wrap v
def Tp(v:Int):Int:=IntKind.u8.wrap (v.fdiv 32)
def Tq(v:Int):Int:=IntKind.u8.wrap (v.fdiv 512)
def Ts(v:Int):Int:=IntKind.u8.wrap (Int.ofNat (BitVec.ofInt 8 (IntKind.u8.wrap (v.fdiv (8:Int)))|||BitVec.ofInt 8 (15:Int)).toNat)
def Cq(v:Int):Nat:=1+(BitVec.ofInt 64 v&&&BitVec.ofInt 64 (7:Int)).toNat
def sx(v:Int)(k:Nat):Int:=IntKind.i64.wrap (IntKind.i64.wrap (IntKind.i64.wrap (Int.ofNat (BitVec.ofInt 64 (v.fdiv (16:Int))&&&BitVec.ofInt 64 (15:Int)).toNat)-(4:Int))+Int.ofNat k)
def sy(v:Int)(k:Nat):Int:=IntKind.i64.wrap (IntKind.i64.wrap (IntKind.i64.wrap (Int.ofNat (BitVec.ofInt 64 (v.fdiv (256:Int))&&&BitVec.ofInt 64 (15:Int)).toNat)-(4:Int))+IntKind.i64.wrap (Int.ofNat k*IntKind.i64.wrap (Int.ofNat (BitVec.ofInt 64 v&&&BitVec.ofInt 64 (1:Int)).toNat)))
theorem PT(v:Int):Cq v<=8:=by
 unfold Cq;have:(BitVec.ofInt 64 v&&&BitVec.ofInt 64 (7:Int)).toNat<=7:=by
  rw[BitVec.toNat_and];exact Nat.and_le_right
 omega
theorem PU(v:Int):V.int A (IntKind.i64.wrap ((1:Int)+IntKind.i64.wrap (Int.ofNat (BitVec.ofInt 64 v&&&BitVec.ofInt 64 (7:Int)).toNat)))=M (Cq v):=by
 have h:=PT v;unfold Cq at h ⊢;generalize (BitVec.ofInt 64 v&&&BitVec.ofInt 64 (7:Int)).toNat=m at h;rw[gZ (x:=Int.ofNat m) (by simp only[gQ];omega) (by simp only[gQ];omega)];exact wY (by simp only[gQ];omega) H
noncomputable def M8(v:Int)(l:List Tl)(k:Nat):List Tl:=if(wj l (sx v k) (sy v k) (To v) (Tp v) (Tq v) (Ts v)).2=0 then(wj l (sx v k) (sy v k) (To v) (Tp v) (Tq v) (Ts v)).1 else l
noncomputable def ue(v:Int)(l:List Tl)(k:Nat):List Tl:=(List.range k).foldl (M8 v) l
noncomputable def nV(vs:List Int):List Tl:=vs.foldl (fun l v=>ue v l (Cq v)) []
theorem zN(v:Int)(l:List Tl)(k:Nat):ue v l (k+1)=M8 v (ue v l k) k:=by
 unfold ue;rw[List.range_succ,List.foldl_append];rfl
theorem Ij{vs:List Int}{i:Nat}{v:Int}(h:vs[i]? =some v):nV (vs.take (i+1))=ue v (nV (vs.take i)) (Cq v):=by
 unfold nV;rw[bY,h,List.foldl_append];rfl
theorem PV{v:Int}{l:List Tl}{k:Nat}(h:l.length<=1024):(M8 v l k).length<=1024:=by
 unfold M8;split
 . exact M7 ..
 . exact h
theorem CV{v:Int}{l:List Tl}(h:l.length<=1024):∀k,(ue v l k).length<=1024
 |0=>h
 |k+1=>by rw[zN];exact PV (CV h k)
theorem w6(vs:List Int):(nV vs).length<=1024:=by
 have:∀(vs:List Int) (l:List Tl),l.length<=1024->(vs.foldl (fun l v=>ue v l (Cq v)) l).length<=1024:=by
  intro vs
  induction vs with
  |nil=>exact fun l h=>h
  |cons v vs ih=>exact fun l h=>ih _ (CV h _)
 exact this vs [] (by simp)
theorem PW(vs:List Int)(hv:vs.length<=1000000):dU ak 67 [fj vs] (ox (nV vs)):=by
 refine eX Tryz.func67 ?_;refine fF 2 fL (aiU vs.length (dO vs)) all_nil ?_;refine(ek.nl (fm:=fq [(0,.eB false vs.length (dO vs)),(2,.ptr (some (0,0))),(3,.ptr (some (1,0)))] (G [(0,.cells [.eB false 0 []]),(1,.cells [.eB false 0 []])]) 2) C) _ _ ?_;refine dK C (dK C (gv fL eE (aiV _ _) (dB (g0 ⟨all_nil,fun X dQ=>?_⟩))));simp only[andThen];refine zE (α:=Nat) 0 (vs.length-·) (. <=vs.length) (fun i=>Vz vs.length (dO vs) (nV (vs.take i)).length (jE (nV (vs.take i))) i) C C 0 (aU _) (.norm dQ) fun i hi=>?_;have jx:=w6 (vs.take i);refine dK C (gv fL eE (aiW _ _ _ _ i) (dD (g1 fun h=>⟨all_nil,fun X dQ=>?_⟩) (dB (g1 fun h=>⟨all_nil,fun X dQ=>?_⟩))))
 . have eO:=jW h;obtain⟨v,hv⟩:∃v,vs[i]? =some v:=⟨_,au eO⟩;have mV:=tA hv;simp only[andThen];refine fU dQ (dK C (fh (i:=1) C ?_));have A3 {r:ah} (q:∀a∈r,a):=S (iI eO) (S (eo vs) (S mV q));refine fF 2 fL (aiX _ _ _ _ i v) (A3 (A3 (A3 (A3 all_nil)))) ?_;generalize G:nV (vs.take i)=l at *;refine EH (α:=Nat) (fn:=Tryz.f67) 2 eE [0,2,3,4,5,6] (Cq v-·) (. <=Cq v) (fun k=>VA vs.length (dO vs) (ue v l k).length (jE (ue v l k)) i (To v) (Tp v) (Tq v) (Ts v) k) 0 (aU _) .refl fun k W=>?_;have hl:=CV (v:=v) jx k;have kc:=PT v;refine⟨_,fu (ab9 (ue v l k) (sx v k) (sy v k) (To v) (Tp v) (Tq v) (Ts v) H) fL,[],_,_,aiY _ _ _ _ i (To v) (Tp v) (Tq v) (Ts v) k (Cq v) v (sx v k) (sy v k) _ _ _,
    dD (g2 fun Q O=>⟨?_,k+1,w5 (jW Q),jW Q,?_⟩) (dD (g2 fun Q O=>⟨?_,k+1,w5 (jW Q),jW Q,?_⟩) (dB (g1 fun Q=>⟨A3 (eG (PU v)),fun s2 pH=>?_⟩)))⟩
   . have hk1:=jW Q
     repeat' (first|exact all_nil|refine S ?_ ?_)
     all_goals first|exact iI eO|exact eo vs|exact mV|exact PU v|exact gJ H|rfl
   rotate_left
   . have hk1:=jW Q
     repeat' (first|exact all_nil|refine S ?_ ?_)
     all_goals first|exact iI eO|exact eo vs|exact mV|exact PU v|exact gJ H|rfl
   rotate_right
   . have O:(wj (ue v l k) (sx v k) (sy v k) (To v) (Tp v) (Tq v) (Ts v)).2=0:=by simpa using O
     show ek ak 0 Tryz.f67.ntmps _ (VA vs.length (dO vs) (ue v l (k+1)).length (jE (ue v l (k+1))) i (To v) (Tp v) (Tq v) (Ts v) (k+1));rw[zN,show M8 v (ue v l k) k=_ from aG O];exact .refl
   . have O:¬(wj (ue v l k) (sx v k) (sy v k) (To v) (Tp v) (Tq v) (Ts v)).2=0:=by simpa using O
     show ek ak 0 Tryz.f67.ntmps _ (VA vs.length (dO vs) (ue v l (k+1)).length (jE (ue v l (k+1))) i (To v) (Tp v) (Tq v) (Ts v) (k+1));rw[zN,show M8 v (ue v l k) k=_ from aB O];exact .refl
   . have hkc:k=Cq v:=by have:=r9 Q;omega
     subst hkc;rw[gY];simp only[andThen,gk,cz,reduceCtorEq];refine fU pH (gv fL eE (aiZ _ _ _ _ i _ _ _ _ _) (dB (g0 ⟨eG (gJ H),fun s3 Lz=>⟨i+1,w5 eO,eO,?_⟩⟩)));rw[Ij hv,G];exact .norm Lz
 . have ON:=r9 h;obtain rfl:i=vs.length:=by omega
   simp only[andThen,gY];refine fU dQ (eK fL (ai0 _ _ _ _ _) (dB (g0 ⟨all_nil,_,_,_,rfl,?_⟩)));rw[bz];rfl
noncomputable abbrev acd:Code:=dI Tryz.f109
noncomputable abbrev Xo:Code:=dr 3 acd
noncomputable abbrev ace:Code:=dr 1 Xo
noncomputable abbrev PX:Code:=dr 3 ace
section
variable(n:Nat)(Y:List Int)(m:Nat)
def a16(v:Int):Int:=IntKind.i64.wrap (Int.ofNat (BitVec.ofInt 64 v&&&BitVec.ofInt 64 (65535:Int)).toNat)
def apI(x:Int):List Int:=List.take (m*1) (List.drop 0 Y)++[x]
def crv(es lw c:Int):Int:=IntKind.i64.wrap (lw+IntKind.i64.wrap ((IntKind.i64.wrap (c*IntKind.i64.wrap ((65535:Int)-lw))).tdiv es))
def Xp(R:ai)(Y:List Int)(m:Nat)(es:Int)(i:Nat):St:=fq [(0,.eB false n R),(3,.eR (some (0,0)) m m 1),(4,L es),(5,M i)] (G [(0,.own .i64 Y)]) 1
def VB(es lw:Int)(i:Nat):St:=fq [(3,.eR (some (0,0)) m m 1),(4,L es),(6,L lw),(7,M i)] (G [(0,.own .i64 Y)]) 1
theorem ai4(R:ai):dw (U W3 []) [] 0 Tryz.f109 [0,3,4] (dM 3 acd) (dy [.eB false n R] .nil 0) [([],
   [],
   .to .normal (fq [(0,.eB false n R),(3,.eR (some (0,0)) 1 1 1),(4,.int .i64 0)] (G [(0,.cells [.int .i64 0])]) 1))]
 :=dj.of C C C
theorem ai5(R:ai):dw (U W3 []) [] 0 Tryz.f109 [0,3,4,5] (dF (dF Xo)) (fq [(0,.eB false n R),(3,.eR (some (0,0)) 1 1 1),(4,L 0)] (G [(0,.own .i64 [0])]) 1) [([],
   [],
   .to .normal (Xp n R [0] 1 0 0))]
 :=dj.of C C C
theorem ai6(R:ai)(Y:List Int)(m:Nat)(es:Int)(i:Nat)(v:Int):dw (U W3 []) [(13,.split),(15,.dz (.bool true)),(22,.dz (.dx [.int .i64 v])),(18,.dz (M (i+1)))] 0 Tryz.f109 [0,3,4,5] (dG (dG (dX (dF Xo)))) (Xp n R Y m es i) [([((decide (Int.ofNat i<(Int.ofNat n))),true)],
   [(V.bool (decide (Int.ofNat i<(256:Int)))=V.bool true),((0:Int)<=Int.ofNat i/\Int.ofNat i<(Int.ofNat n)),(R.length=n*1),(V.dx (dn R (i*1) 1)=V.dx [D.int A v]),(0<m),(0+m*1<=Y.length),(0<1),(fo (m+1) 1 8=true),(V.int A (IntKind.i64.wrap (Int.ofNat i+(1:Int)))=M (i+1))],
   .to .normal (Xp n R (apI Y m (IntKind.i64.wrap (es+a16 v))) (m+1) (IntKind.i64.wrap (es+a16 v)) (i+1))),
  ([((decide (Int.ofNat i<(Int.ofNat n))),false)],
   [],
   .to (.exit 0) (Xp n R Y m es i))]
 :=dj.of C C C
theorem ai7(R:ai)(Y:List Int)(m:Nat)(es:Int)(i:Nat)(v w:Int):dw (U W3 []) [(32,.dz (.bool false)),(39,.dz (.bool true)),(41,.dz (.dx [.int .i64 v])),(44,.split),(47,.dz (.dx [.int .i64 w]))] 0 Tryz.f109 [3,4,6] (dM 3 ace) (Xp n R Y m es i) [([((IntKind.i64.wrap (Int.ofNat (BitVec.ofInt 64 v&&&BitVec.ofInt 64 (7:Int)).toNat)==(3:Int)),true)],
   [(V.bool (decide ((Int.ofNat m)<(2:Int)))=V.bool false),(V.bool (decide ((Int.ofNat n)>(2:Int)))=V.bool true),((0:Int)<=(0:Int)/\(0:Int)<(Int.ofNat n)),(R.length=n*1),(V.dx (dn R 0 1)=V.dx [D.int A v]),((0:Int)<=(1:Int)/\(1:Int)<(Int.ofNat n)),(R.length=n*1),(V.dx (dn R 1 1)=V.dx [D.int A w])],
   .to .normal (fq [(3,.eR (some (0,0)) m m 1),(4,L es),(6,L (IntKind.i64.wrap (Int.ofNat (BitVec.ofInt 64 w&&&BitVec.ofInt 64 (4095:Int)).toNat)))] (G [(0,.own .i64 Y)]) 1)),
  ([((IntKind.i64.wrap (Int.ofNat (BitVec.ofInt 64 v&&&BitVec.ofInt 64 (7:Int)).toNat)==(3:Int)),false)],
   [(V.bool (decide ((Int.ofNat m)<(2:Int)))=V.bool false),(V.bool (decide ((Int.ofNat n)>(2:Int)))=V.bool true),((0:Int)<=(0:Int)/\(0:Int)<(Int.ofNat n)),(R.length=n*1),(V.dx (dn R 0 1)=V.dx [D.int A v])],
   .to .normal (fq [(3,.eR (some (0,0)) m m 1),(4,L es),(6,L 0)] (G [(0,.own .i64 Y)]) 1))]
 :=dj.of C C C
theorem ai8(es lw:Int):dw (U W3 []) [] 0 Tryz.f109 [3,4,6,7] (dF (dF PX)) (fq [(3,.eR (some (0,0)) m m 1),(4,L es),(6,L lw)] (G [(0,.own .i64 Y)]) 1) [([],
   [],
   .to .normal (VB Y m es lw 0))]
 :=dj.of C C C
theorem ai9(es lw:Int)(i:Nat)(c:Int):dw (U W3 []) [(54,.split),(56,.split),(66,.dz (L c)),(59,.dz (M (i+1)))] 0 Tryz.f109 [3,4,6,7] (dG (dG (dX (dF PX)))) (VB Y m es lw i) [([((decide (Int.ofNat i<(Int.ofNat m))),true),((decide (es>(0:Int))),true)],
   [((0:Int)<=Int.ofNat i/\Int.ofNat i<(Int.ofNat m)),(0+i*1<Y.length),(V.int A (Y.getD (0+i*1) (0:Int))=L c),(es≠(0:Int)),((0:Int)<=Int.ofNat i/\Int.ofNat i<(Int.ofNat m)),(0+i*1+1<=Y.length),(V.int A (IntKind.i64.wrap (Int.ofNat i+(1:Int)))=M (i+1))],
   .to .normal (VB (AT Y (0+i*1) [crv es lw c]) m es lw (i+1))),
  ([((decide (Int.ofNat i<(Int.ofNat m))),true),((decide (es>(0:Int))),false)],
   [],
   .to (.exit 2) (VB Y m es lw i)),
  ([((decide (Int.ofNat i<(Int.ofNat m))),false)],
   [],
   .to (.exit 2) (VB Y m es lw i))]
 :=dj.of C C C
theorem aja(es lw:Int)(i:Nat):dw (U W3 []) [] 0 Tryz.f109 [] (dX PX) (VB Y m es lw i) [([],
   [],
   .ret (.eR (some (0,0)) m m 1) (G [(0,.own .i64 Y)]) 1)]
 :=dj.of C C C
end
section
variable(s:List Int)(f:Int->Int)(Y:List Int)(i:Nat)
def qY:List Int×Int:=s.foldl (fun x v=>(x.1++[IntKind.i64.wrap (x.2+a16 v)],IntKind.i64.wrap (x.2+a16 v))) ([0],0)
theorem PY{s:List Int}{i:Nat}{v:Int}(h:s[i]? =some v):qY (s.take (i+1))=((qY (s.take i)).1++[IntKind.i64.wrap ((qY (s.take i)).2+a16 v)],IntKind.i64.wrap ((qY (s.take i)).2+a16 v)):=by
 unfold qY;rw[bY,h,List.foldl_append];rfl
theorem LA:(qY s).1.length=s.length+1:=by
 have:∀(s:List Int) (x:List Int×Int),(s.foldl (fun x v=>(x.1++[IntKind.i64.wrap (x.2+a16 v)],IntKind.i64.wrap (x.2+a16 v))) x).1.length=x.1.length+s.length:=by
  intro s
  induction s with
  |nil=>intro x;rfl
  |cons v s ih=>intro x;rw[dh,ih,aE];simp;omega
 unfold qY;rw[this];simp;omega
theorem Xq(x:Int):apI Y Y.length x=Y++[x]:=by
 unfold apI;rw[cA,cU,bz]
def mx:List Int:=(Y.take i).map f++Y.drop i
theorem FX:(mx f Y i).length=Y.length:=by
 unfold mx;rw[aE,bG,bq,List.length_drop];omega
end
section
variable(s:List Int){f:Int->Int}{Y:List Int}{i:Nat}{c:Int}
theorem Xr(h:Y[i]? =some c):(mx f Y i).getD (0+i*1) 0=c:=by
 have eO:i<Y.length:=(aR.1 h).1;unfold mx;rw[ax,b7,cU,cN (by rw[bG,bq];omega),bG,bq,bU,show i+(i-min i Y.length)=i by omega,h];rfl
theorem Xs(h:Y[i]? =some c):AT (mx f Y i) (0+i*1) [f c]=mx f Y (i+1):=by
 have eO:i<Y.length:=(aR.1 h).1;have hv:Y[i]=c:=(aR.1 h).2;have hl:((Y.take i).map f).length=i:=by rw[bG,bq];omega
 unfold AT mx;rw[b7,cU,List.take_left' hl,cg,<- List.drop_drop,List.drop_left' hl,List.drop_drop,bY,h,bQ];simp
def Xt:Int:=match s with
 |v::w::_=>if IntKind.i64.wrap (Int.ofNat (BitVec.ofInt 64 v&&&BitVec.ofInt 64 (7:Int)).toNat)=3 then IntKind.i64.wrap (Int.ofNat (BitVec.ofInt 64 w&&&BitVec.ofInt 64 (4095:Int)).toNat)else 0
 |_=>0
def PZ:List Int:=if 0<(qY s).2 then(qY s).1.map (crv (qY s).2 (Xt s))else(qY s).1
theorem Xu{k:Nat}(h:k<=100000):fo k 1 8=true:=aZ ⟨H,H⟩
theorem acf(O:2<s.length)(h3:s.length<=200):dU ak 109 [fj s] (fj (PZ s)):=by
 refine qL Tryz.func109 ?_;refine fF 3 fL (ai4 s.length (dO s)) all_nil (zx [(0,.i64)] (s2:=fq [(0,.eB false s.length (dO s)),(3,.eR (some (0,0)) 1 1 1),(4,L 0)] (G [(0,.own .i64 [0])]) 1) C ?_);refine qm fL 0 _ [0,3,4,5] (s.length-·) (. <=s.length) (fun i=>Xp s.length (dO s) (qY (s.take i)).1 (qY (s.take i)).1.length (qY (s.take i)).2 i) 0 (aU _) (ai5 _ _) all_nil .refl fun i hi=>?_;have hl:=LA (s.take i);rw[bq,Nat.min_eq_left hi]at hl;refine⟨_,fL,[],_,_,ai6 _ _ _ _ _ i (s.getD i 0),dD (g1 fun h=>?_) (dB (g1 fun h=>⟨all_nil,rfl,?_⟩))⟩
 . have eO:=jW h;obtain⟨v,hv⟩:∃v,s[i]? =some v:=⟨_,au eO⟩;have ev:s.getD i 0=v:=by rw[ax,hv];rfl
   rw[ev];refine⟨S (aI V.bool (aZ (by simp only[gQ];omega))) (S (iI eO) (S (eo s) (S (tA hv) (S H (S H (S Nat.zero_lt_one (S (Xu H) (eG (gJ H))))))))),i+1,w5 eO,eO,?_⟩;show ek _ _ _ _ (Xp s.length (dO s) (qY (s.take (i+1))).1 (qY (s.take (i+1))).1.length (qY (s.take (i+1))).2 (i+1));rw[PY hv,Xq];simp only[aE,cg];exact .refl
 obtain rfl:i=s.length:=by have:=r9 h;omega
 clear h;rw[bz]at hl ⊢;obtain⟨v,w,r,rfl⟩:∃v w r,s=v::w::r:=by
  match s,O with
  |v::w::r,_=>exact⟨v,w,r,rfl⟩
 generalize hs:v::w::r=s at *;have hvw:s[0]? =some v/\s[1]? =some w:=by subst hs;exact⟨rfl,rfl⟩
 have fE:Xt s=if IntKind.i64.wrap (Int.ofNat (BitVec.ofInt 64 v&&&BitVec.ofInt 64 (7:Int)).toNat)=3 then IntKind.i64.wrap (Int.ofNat (BitVec.ofInt 64 w&&&BitVec.ofInt 64 (4095:Int)).toNat)else 0:=by subst hs;rfl
 have oI:∀lw,lw=Xt s->TG ak 0 Tryz.f109.ntmps PX (fq [(3,.eR (some (0,0)) (qY s).1.length (qY s).1.length 1),(4,L (qY s).2),(6,L lw)] (G [(0,.own .i64 (qY s).1)]) 1) (fH ak 0 Tryz.f109 (vD (fj (PZ s)))):=by
  intro lw hw;refine qm fL 2 _ [3,4,6,7] ((qY s).1.length-·) (fun i=>i<=(qY s).1.length/\(0<i->0<(qY s).2)) (fun i=>VB (mx (crv (qY s).2 lw) (qY s).1 i) (qY s).1.length (qY s).2 lw i) 0 ⟨aU _,fun h=>absurd h (Nat.lt_irrefl _)⟩ (ai8 _ _ _ _) all_nil .refl fun i ⟨hi,hT⟩=>?_;have ret:∀Y,Y=PZ s->Y.length=(qY s).1.length->∀i,TG ak 0 Tryz.f109.ntmps (dX PX) (VB Y (qY s).1.length (qY s).2 lw i) (fH ak 0 Tryz.f109 (vD (fj (PZ s)))):=by
   intro Y W hkl i;rw[<- hkl,<- W];exact eK fL (aja Y Y.length (qY s).2 lw i) (dB (g0 ⟨all_nil,_,_,_,rfl,.Bu (v0:=fj Y) [0] (aj:=[(dO Y).length=Y.length*1]) C (eG (eo Y)) C C⟩))
  refine⟨_,fL,[],_,_,ai9 _ _ _ _ i ((qY s).1.getD i 0),dD (g2 fun h h0=>?_) (dD (g2 fun h h0=>⟨all_nil,rfl,?_⟩) (dB (g1 fun h=>⟨all_nil,rfl,?_⟩)))⟩
  . have eO:=jW h;have h0:0<(qY s).2:=aX h0;obtain⟨c,B⟩:∃c,(qY s).1[i]? =some c:=⟨_,au eO⟩;have ev:(qY s).1.getD i 0=c:=by rw[ax,B];rfl
    rw[ev,Xs B];exact⟨S (iI eO) (S (by rw[FX];omega) (S (by rw[Xr B]) (S H (S (iI eO) (S (by rw[FX];omega) (eG (gJ H))))))),i+1,w5 eO,⟨eO,fun _=>h0⟩,.refl⟩
  . have h0:¬0<(qY s).2:=bB h0;obtain rfl:i=0:=by
     rcases Nat.eq_zero_or_pos i with q|q
     . exact q
     . exact absurd (hT q) h0
    refine ret _ ?_ (FX ..) _;rw[show PZ s=(qY s).1 from aB h0];rfl
  . obtain rfl:i=(qY s).1.length:=by have:=r9 h;omega
    refine ret _ ?_ (FX ..) _;rw[show PZ s=_ from aG (hT H),<- hw];unfold mx;rw[bz,List.drop_length,List.append_nil]
 have K:V.bool (decide ((Int.ofNat (qY s).1.length)<(2:Int)))=V.bool false:=aI V.bool (aT (by simp only[gQ];omega));have hn:V.bool (decide ((Int.ofNat s.length)>(2:Int)))=V.bool true:=aI V.bool (aZ (by simp only[gQ];omega));have b0:(0:Int)<=(0:Int)/\(0:Int)<(Int.ofNat s.length):=⟨Int.le_refl _,by simp only[gQ];omega⟩;have b1:(0:Int)<=(1:Int)/\(1:Int)<(Int.ofNat s.length):=⟨eY,by simp only[gQ];omega⟩;refine ud 3 fL (ai7 s.length (dO s) (qY s).1 (qY s).1.length (qY s).2 s.length v w) (dD (g1 fun h=>⟨S K (S hn (S b0 (S (eo s) (S (tA hvw.1) (S b1 (S (eo s) (eG (tA hvw.2)))))))),_,rfl,oI _ ?_⟩) (dB (g1 fun h=>⟨S K (S hn (S b0 (S (eo s) (eG (tA hvw.1))))),_,rfl,oI _ ?_⟩)))
 . rw[fE,aG (by simpa using h)]
 . rw[fE,aB (by simpa using h)]
end
section
variable(n:Nat)(f:Nat->Int)
noncomputable abbrev ach:Code:=dI Tryz.f69
noncomputable abbrev DZ:Code:=dr 3 ach
def ajc:ag:=(List.range 60).map fun j=>L (f j)
def f12(s:List Int)(j:Nat):Int:=match s[j]? with
 |some v=>a16 v
 |none=>0
def zO(n:Nat):List Int:=(List.range n).map fun i=>IntKind.i64.wrap ((f (3+i)).tmod 9-2)
def P0(R:ai)(f:Nat->Int):St:=fq [(0,.eB false n R),(2,.ptr (some (0,0))),(3,.ptr (some (1,0)))] (G [(0,.cells [L 0,L 0,.eR none 0 0 0,L 0,L 0,.eR none 0 0 0]),(1,.cells (ajc f))]) 2
abbrev v12(a b c d e g h i j k l m:Int):V:=.eB false 12 [.int .i64 a,.int .i64 b,.int .i64 c,.int .i64 d,.int .i64 e,.int .i64 g,.int .i64 h,.int .i64 i,.int .i64 j,.int .i64 k,.int .i64 l,.int .i64 m]
theorem ajd(a b c d e g h i j k l m:Int):dw (U W3 []) [] 0 Tryz.f69 [0,2,3] (dM 3 ach) (dy [v12 a b c d e g h i j k l m] .nil 0) [([],
   [((0:Int)<=(0:Int)/\(0:Int)<(12:Int)),([D.int A a,D.int A b,D.int A c,D.int A d,D.int A e,D.int A g,D.int A h,D.int A i,D.int A j,D.int A k,D.int A l,D.int A m].length=12),((0:Int)<=(0:Int)/\(0:Int)<(60:Int)),((0:Int)<=(1:Int)/\(1:Int)<(12:Int)),([D.int A a,D.int A b,D.int A c,D.int A d,D.int A e,D.int A g,D.int A h,D.int A i,D.int A j,D.int A k,D.int A l,D.int A m].length=12),((0:Int)<=(1:Int)/\(1:Int)<(60:Int)),((0:Int)<=(2:Int)/\(2:Int)<(12:Int)),([D.int A a,D.int A b,D.int A c,D.int A d,D.int A e,D.int A g,D.int A h,D.int A i,D.int A j,D.int A k,D.int A l,D.int A m].length=12),((0:Int)<=(2:Int)/\(2:Int)<(60:Int)),((0:Int)<=(3:Int)/\(3:Int)<(12:Int)),([D.int A a,D.int A b,D.int A c,D.int A d,D.int A e,D.int A g,D.int A h,D.int A i,D.int A j,D.int A k,D.int A l,D.int A m].length=12),((0:Int)<=(3:Int)/\(3:Int)<(60:Int)),((0:Int)<=(4:Int)/\(4:Int)<(12:Int)),([D.int A a,D.int A b,D.int A c,D.int A d,D.int A e,D.int A g,D.int A h,D.int A i,D.int A j,D.int A k,D.int A l,D.int A m].length=12),((0:Int)<=(4:Int)/\(4:Int)<(60:Int)),((0:Int)<=(5:Int)/\(5:Int)<(12:Int)),([D.int A a,D.int A b,D.int A c,D.int A d,D.int A e,D.int A g,D.int A h,D.int A i,D.int A j,D.int A k,D.int A l,D.int A m].length=12),((0:Int)<=(5:Int)/\(5:Int)<(60:Int)),((0:Int)<=(6:Int)/\(6:Int)<(12:Int)),([D.int A a,D.int A b,D.int A c,D.int A d,D.int A e,D.int A g,D.int A h,D.int A i,D.int A j,D.int A k,D.int A l,D.int A m].length=12),((0:Int)<=(6:Int)/\(6:Int)<(60:Int)),((0:Int)<=(7:Int)/\(7:Int)<(12:Int)),([D.int A a,D.int A b,D.int A c,D.int A d,D.int A e,D.int A g,D.int A h,D.int A i,D.int A j,D.int A k,D.int A l,D.int A m].length=12),((0:Int)<=(7:Int)/\(7:Int)<(60:Int)),((0:Int)<=(8:Int)/\(8:Int)<(12:Int)),([D.int A a,D.int A b,D.int A c,D.int A d,D.int A e,D.int A g,D.int A h,D.int A i,D.int A j,D.int A k,D.int A l,D.int A m].length=12),((0:Int)<=(8:Int)/\(8:Int)<(60:Int)),((0:Int)<=(9:Int)/\(9:Int)<(12:Int)),([D.int A a,D.int A b,D.int A c,D.int A d,D.int A e,D.int A g,D.int A h,D.int A i,D.int A j,D.int A k,D.int A l,D.int A m].length=12),((0:Int)<=(9:Int)/\(9:Int)<(60:Int)),((0:Int)<=(10:Int)/\(10:Int)<(12:Int)),([D.int A a,D.int A b,D.int A c,D.int A d,D.int A e,D.int A g,D.int A h,D.int A i,D.int A j,D.int A k,D.int A l,D.int A m].length=12),((0:Int)<=(10:Int)/\(10:Int)<(60:Int)),((0:Int)<=(11:Int)/\(11:Int)<(12:Int)),([D.int A a,D.int A b,D.int A c,D.int A d,D.int A e,D.int A g,D.int A h,D.int A i,D.int A j,D.int A k,D.int A l,D.int A m].length=12),((0:Int)<=(11:Int)/\(11:Int)<(60:Int))],
   .to .normal (P0 12 [.int .i64 a,.int .i64 b,.int .i64 c,.int .i64 d,.int .i64 e,.int .i64 g,.int .i64 h,.int .i64 i,.int .i64 j,.int .i64 k,.int .i64 l,.int .i64 m] (f12 [a,b,c,d,e,g,h,i,j,k,l,m])))]
 :=dj.of C C C
theorem aci(R:ai)(f:Nat->Int):dw (U W3 []) [(31,.dz (L 1)),(36,.dz (L 0))] 0 Tryz.f69 [] (DZ) (P0 n R f) [([],
   [(V.int A (IntKind.i64.wrap ((1:Int)+(f (0)).tmod (8:Int)))=L (1:Int)),(V.int A ((f (1)).tmod (3:Int))=L (0:Int)),((0:Int)<=(3:Int)/\(3:Int)<(60:Int))],
   .ret (.agg [L (IntKind.i64.wrap (1+(f 0).tmod 8)),L 0,.eR (some (0,0)) 1 1 1,L (IntKind.i64.wrap (1+(f 2).tmod 20)),L 0,.eR none 0 0 0]) (G [(0,.cells ((zO f 1).map L))]) 1)]
 :=dj.of C C C
theorem acj(R:ai)(f:Nat->Int):dw (U W3 []) [(31,.dz (L 1)),(36,.dz (L 1))] 0 Tryz.f69 [] (DZ) (P0 n R f) [([],
   [(V.int A (IntKind.i64.wrap ((1:Int)+(f (0)).tmod (8:Int)))=L (1:Int)),(V.int A ((f (1)).tmod (3:Int))=L (1:Int)),((0:Int)<=(3:Int)/\(3:Int)<(60:Int)),((0:Int)<=(4:Int)/\(4:Int)<(60:Int)),((0:Int)<=(5:Int)/\(5:Int)<(60:Int)),((0:Int)<=(6:Int)/\(6:Int)<(60:Int)),((0:Int)<=(7:Int)/\(7:Int)<(60:Int)),((0:Int)<=(8:Int)/\(8:Int)<(60:Int)),((0:Int)<=(9:Int)/\(9:Int)<(60:Int)),((0:Int)<=(10:Int)/\(10:Int)<(60:Int)),((0:Int)<=(11:Int)/\(11:Int)<(60:Int))],
   .ret (.agg [L (IntKind.i64.wrap (1+(f 0).tmod 8)),L 1,.eR (some (0,0)) 9 9 1,L (IntKind.i64.wrap (1+(f 2).tmod 20)),L 0,.eR none 0 0 0]) (G [(0,.cells ((zO f 9).map L))]) 1)]
 :=dj.of C C C
theorem ack(R:ai)(f:Nat->Int):dw (U W3 []) [(31,.dz (L 1)),(36,.dz (L 2))] 0 Tryz.f69 [] (DZ) (P0 n R f) [([],
   [(V.int A (IntKind.i64.wrap ((1:Int)+(f (0)).tmod (8:Int)))=L (1:Int)),(V.int A ((f (1)).tmod (3:Int))=L (2:Int)),((0:Int)<=(3:Int)/\(3:Int)<(60:Int)),((0:Int)<=(4:Int)/\(4:Int)<(60:Int)),((0:Int)<=(5:Int)/\(5:Int)<(60:Int)),((0:Int)<=(6:Int)/\(6:Int)<(60:Int)),((0:Int)<=(7:Int)/\(7:Int)<(60:Int)),((0:Int)<=(8:Int)/\(8:Int)<(60:Int)),((0:Int)<=(9:Int)/\(9:Int)<(60:Int)),((0:Int)<=(10:Int)/\(10:Int)<(60:Int)),((0:Int)<=(11:Int)/\(11:Int)<(60:Int)),((0:Int)<=(12:Int)/\(12:Int)<(60:Int)),((0:Int)<=(13:Int)/\(13:Int)<(60:Int)),((0:Int)<=(14:Int)/\(14:Int)<(60:Int)),((0:Int)<=(15:Int)/\(15:Int)<(60:Int)),((0:Int)<=(16:Int)/\(16:Int)<(60:Int)),((0:Int)<=(17:Int)/\(17:Int)<(60:Int)),((0:Int)<=(18:Int)/\(18:Int)<(60:Int)),((0:Int)<=(19:Int)/\(19:Int)<(60:Int)),((0:Int)<=(20:Int)/\(20:Int)<(60:Int)),((0:Int)<=(21:Int)/\(21:Int)<(60:Int)),((0:Int)<=(22:Int)/\(22:Int)<(60:Int)),((0:Int)<=(23:Int)/\(23:Int)<(60:Int)),((0:Int)<=(24:Int)/\(24:Int)<(60:Int)),((0:Int)<=(25:Int)/\(25:Int)<(60:Int)),((0:Int)<=(26:Int)/\(26:Int)<(60:Int)),((0:Int)<=(27:Int)/\(27:Int)<(60:Int))],
   .ret (.agg [L (IntKind.i64.wrap (1+(f 0).tmod 8)),L 2,.eR (some (0,0)) 25 25 1,L (IntKind.i64.wrap (1+(f 2).tmod 20)),L 0,.eR none 0 0 0]) (G [(0,.cells ((zO f 25).map L))]) 1)]
 :=dj.of C C C
theorem aje(R:ai)(f:Nat->Int):dw (U W3 []) [(31,.dz (L 2))] 0 Tryz.f69 [] (DZ) (P0 n R f) [([],
   [(V.int A (IntKind.i64.wrap ((1:Int)+(f (0)).tmod (8:Int)))=L (2:Int))],
   .ret (.agg [.int .i64 (IntKind.i64.wrap ((1:Int)+(f (0)).tmod (8:Int))),.int .i64 ((f (1)).tmod (4:Int)),.eR none 0 0 0,.int .i64 0,.int .i64 0,.eR none 0 0 0]) (G []) 0)]
 :=dj.of C C C
theorem ajf(R:ai)(f:Nat->Int):dw (U W3 []) [(31,.dz (L 3))] 0 Tryz.f69 [] (DZ) (P0 n R f) [([],
   [(V.int A (IntKind.i64.wrap ((1:Int)+(f (0)).tmod (8:Int)))=L (3:Int))],
   .ret (.agg [.int .i64 (IntKind.i64.wrap ((1:Int)+(f (0)).tmod (8:Int))),.int .i64 ((f (1)).tmod (4:Int)),.eR none 0 0 0,.int .i64 0,.int .i64 0,.eR none 0 0 0]) (G []) 0)]
 :=dj.of C C C
theorem ajg(R:ai)(f:Nat->Int):dw (U W3 []) [(31,.dz (L 4))] 0 Tryz.f69 [] (DZ) (P0 n R f) [([],
   [(V.int A (IntKind.i64.wrap ((1:Int)+(f (0)).tmod (8:Int)))=L (4:Int))],
   .ret (.agg [.int .i64 (IntKind.i64.wrap ((1:Int)+(f (0)).tmod (8:Int))),.int .i64 ((f (1)).tmod (4:Int)),.eR none 0 0 0,.int .i64 0,.int .i64 0,.eR none 0 0 0]) (G []) 0)]
 :=dj.of C C C
theorem ajh(R:ai)(f:Nat->Int):dw (U W3 []) [(31,.dz (L 6))] 0 Tryz.f69 [] (DZ) (P0 n R f) [([],
   [(V.int A (IntKind.i64.wrap ((1:Int)+(f (0)).tmod (8:Int)))=L (6:Int))],
   .ret (.agg [.int .i64 (IntKind.i64.wrap ((1:Int)+(f (0)).tmod (8:Int))),.int .i64 0,.eR none 0 0 0,.int .i64 0,.int .i64 0,.eR none 0 0 0]) (G []) 0)]
 :=dj.of C C C
theorem aji(R:ai)(f:Nat->Int):dw (U W3 []) [(31,.dz (L 7))] 0 Tryz.f69 [] (DZ) (P0 n R f) [([],
   [(V.int A (IntKind.i64.wrap ((1:Int)+(f (0)).tmod (8:Int)))=L (7:Int))],
   .ret (.agg [.int .i64 (IntKind.i64.wrap ((1:Int)+(f (0)).tmod (8:Int))),.int .i64 0,.eR none 0 0 0,.int .i64 0,.int .i64 ((f (1)).tmod (257:Int)),.eR none 0 0 0]) (G []) 0)]
 :=dj.of C C C
theorem ajj(R:ai)(f:Nat->Int):dw (U W3 []) [(31,.dz (L 8))] 0 Tryz.f69 [] (DZ) (P0 n R f) [([],
   [(V.int A (IntKind.i64.wrap ((1:Int)+(f (0)).tmod (8:Int)))=L (8:Int))],
   .ret (.agg [.int .i64 (IntKind.i64.wrap ((1:Int)+(f (0)).tmod (8:Int))),.int .i64 (IntKind.i64.wrap ((f (1)).tmod (7:Int)-(3:Int))),.eR none 0 0 0,.int .i64 0,.int .i64 (IntKind.i64.wrap ((f (2)).tmod (7:Int)-(3:Int))),.eR none 0 0 0]) (G []) 0)]
 :=dj.of C C C
theorem ajk(a b c d e g h i j k l m:Int)(n:Nat)(R:ai):dw (U (fb 109 [fj [b,c,d,e,g,h,i,j,k,l,m]] (.eB false n R) W3) []) [(31,.dz (L 5))] 0 Tryz.f69 [] (DZ) (P0 12 [.int .i64 a,.int .i64 b,.int .i64 c,.int .i64 d,.int .i64 e,.int .i64 g,.int .i64 h,.int .i64 i,.int .i64 j,.int .i64 k,.int .i64 l,.int .i64 m] f) [([],
   [(V.int A (IntKind.i64.wrap ((1:Int)+(f (0)).tmod (8:Int)))=L (5:Int)),([D.int A a,D.int A b,D.int A c,D.int A d,D.int A e,D.int A g,D.int A h,D.int A i,D.int A j,D.int A k,D.int A l,D.int A m].length=12),((0:Int)<=(1:Int)/\(1:Int)<=(12:Int)),(fa [fj [b,c,d,e,g,h,i,j,k,l,m]])],
   .ret (.agg [.int .i64 (IntKind.i64.wrap ((1:Int)+(f (0)).tmod (8:Int))),.int .i64 0,.eR none 0 0 0,.int .i64 0,.int .i64 0,.eB false n R]) (G []) 0)]
 :=dj.of C C C
end
structure FL where
 k:Int
 r:Int
 eM:List Int
 dv:Int
 vl:Int
 cu:List Int
def FL.R(f:FL):ag:=[L f.k,L f.r,fj f.eM,L f.dv,L f.vl,fj f.cu]
def FL.v(f:FL):V:=.agg f.R
theorem Xv(v:Int):0<=a16 v/\a16 v<=65535:=by
 unfold a16;have h:(BitVec.ofInt 64 v&&&BitVec.ofInt 64 (65535:Int)).toNat<=65535:=by
  rw[BitVec.toNat_and];exact Nat.and_le_right
 rw[gZ (by simp only[gQ];omega) (by simp only[gQ];omega)];simp only[gQ];omega
section
variable(s:List Int)(f:Nat->Int)
theorem P1(j:Nat):0<=f12 s j/\f12 s j<=65535:=by
 unfold f12;split
 . exact Xv _
 . decide
theorem yo{x d:Int}(h:0<=x)(hd:0<d):0<=x.tmod d/\x.tmod d<d:=by
 rw[Int.tmod_eq_emod_of_nonneg h];exact⟨Int.emod_nonneg _ H,Int.emod_lt_of_pos _ hd⟩
def lH:Int:=IntKind.i64.wrap (1+(f 0).tmod 8)
def vP:FL:=
 if lH (f12 s)=1 then⟨lH (f12 s),(f12 s 1).tmod 3,zO (f12 s) ((2*((f12 s 1).tmod 3).toNat+1)*(2*((f12 s 1).tmod 3).toNat+1)),IntKind.i64.wrap (1+(f12 s 2).tmod 20),0,[]⟩
 else if lH (f12 s)=2\/lH (f12 s)=3\/lH (f12 s)=4 then⟨lH (f12 s),(f12 s 1).tmod 4,[],0,0,[]⟩
 else if lH (f12 s)=5 then⟨lH (f12 s),0,[],0,0,PZ (s.drop 1)⟩
 else if lH (f12 s)=7 then⟨lH (f12 s),0,[],0,(f12 s 1).tmod 257,[]⟩
 else if lH (f12 s)=8 then⟨lH (f12 s),IntKind.i64.wrap ((f12 s 1).tmod 7-3),[],0,IntKind.i64.wrap ((f12 s 2).tmod 7-3),[]⟩
 else⟨lH (f12 s),0,[],0,0,[]⟩
theorem P2(n:Nat):(zO f n).length=n:=by simp[zO]
end
theorem acm(a b c d e' g h i j k l m:Int):dU ak 69 [v12 a b c d e' g h i j k l m] (vP [a,b,c,d,e',g,h,i,j,k,l,m]).v:=by
 refine qL Tryz.func69 ?_;refine fF 3 fL (ajd a b c d e' g h i j k l m) ?_ ?_
 . repeat' (first|exact all_nil|refine S ?_ ?_)
   all_goals first|decide|rfl
 generalize hs:[a,b,c,d,e',g,h,i,j,k,l,m]=s;have DA:=P1 s;have h0:=yo (DA 0).1 (d:=8) eY;have Q:=yo (DA 1).1 (d:=3) eY;have W:lH (f12 s)=1+(f12 s 0).tmod 8:=gZ H H;have oV:∀q:Int,lH (f12 s)=q->V.int A (IntKind.i64.wrap ((1:Int)+(f12 s 0).tmod (8:Int)))=L q:=fun q e=>aI _ e;have aj {r:ah} (hr:∀x∈r,x):∀x∈r,x:=hr;rcases(by omega:lH (f12 s)=1\/lH (f12 s)=2\/lH (f12 s)=3\/lH (f12 s)=4\/lH (f12 s)=5\/lH (f12 s)=6\/lH (f12 s)=7\/lH (f12 s)=8)with e|e|e|e|e|e|e|e
 . have ev:vP s=⟨lH (f12 s),(f12 s 1).tmod 3,zO (f12 s) ((2*((f12 s 1).tmod 3).toNat+1)*(2*((f12 s 1).tmod 3).toNat+1)),IntKind.i64.wrap (1+(f12 s 2).tmod 20),0,[]⟩:=aG e;rw[ev];rcases(by omega:(f12 s 1).tmod 3=0\/(f12 s 1).tmod 3=1\/(f12 s 1).tmod 3=2)with q|q|q
   . refine eK fL (aci 12 _ (f12 s)) (dB (g0 ⟨?_,_,_,_,rfl,?_⟩))
     . refine S (oV 1 e) (S (aI _ q) ?_)
       repeat' (first|exact all_nil|refine S ?_ ?_)
       all_goals decide
     . rw[q];exact .Bu (v0:=.agg [L (lH (f12 s)),L 0,.eB false 1 (dO (zO (f12 s) 1)),L (IntKind.i64.wrap (1+(f12 s 2).tmod 20)),L 0,.eR none 0 0 0]) [0] (aj:=[(dO (zO (f12 s) 1)).length=1*1]) C (eG rfl) C C
   . refine eK fL (acj 12 _ (f12 s)) (dB (g0 ⟨?_,_,_,_,rfl,?_⟩))
     . refine S (oV 1 e) (S (aI _ q) ?_)
       repeat' (first|exact all_nil|refine S ?_ ?_)
       all_goals decide
     . rw[q];exact .Bu (v0:=.agg [L (lH (f12 s)),L 1,.eB false 9 (dO (zO (f12 s) 9)),L (IntKind.i64.wrap (1+(f12 s 2).tmod 20)),L 0,.eR none 0 0 0]) [0] (aj:=[(dO (zO (f12 s) 9)).length=9*1]) C (eG rfl) C C
   . refine eK fL (ack 12 _ (f12 s)) (dB (g0 ⟨?_,_,_,_,rfl,?_⟩))
     . refine S (oV 1 e) (S (aI _ q) ?_)
       repeat' (first|exact all_nil|refine S ?_ ?_)
       all_goals decide
     . rw[q];exact .Bu (v0:=.agg [L (lH (f12 s)),L 2,.eB false 25 (dO (zO (f12 s) 25)),L (IntKind.i64.wrap (1+(f12 s 2).tmod 20)),L 0,.eR none 0 0 0]) [0] (aj:=[(dO (zO (f12 s) 25)).length=25*1]) C (eG rfl) C C
 . rw[show vP s=⟨lH (f12 s),(f12 s 1).tmod 4,[],0,0,[]⟩from(aB H).trans (aG H)];exact eK fL (aje 12 _ (f12 s)) (dB (g0 ⟨eG (oV 2 e),_,_,_,rfl,.self rfl rfl⟩))
 . rw[show vP s=⟨lH (f12 s),(f12 s 1).tmod 4,[],0,0,[]⟩from(aB H).trans (aG H)];exact eK fL (ajf 12 _ (f12 s)) (dB (g0 ⟨eG (oV 3 e),_,_,_,rfl,.self rfl rfl⟩))
 . rw[show vP s=⟨lH (f12 s),(f12 s 1).tmod 4,[],0,0,[]⟩from(aB H).trans (aG H)];exact eK fL (ajg 12 _ (f12 s)) (dB (g0 ⟨eG (oV 4 e),_,_,_,rfl,.self rfl rfl⟩))
 . rw[show vP s=⟨lH (f12 s),0,[],0,0,PZ (s.drop 1)⟩from(aB H).trans ((aB H).trans (aG e))];have hd:s.drop 1=[b,c,d,e',g,h,i,j,k,l,m]:=by subst hs;rfl
   rw[hd];refine eK (fu (acf [b,c,d,e',g,h,i,j,k,l,m] (show 2<11 by decide) (show 11<=200 by decide)) fL) (ajk (f12 s) a b c d e' g h i j k l m _ _) (dB (g0 ⟨S (oV 5 e) ?_,_,_,_,rfl,.self rfl rfl⟩))
   repeat' (first|exact all_nil|refine S ?_ ?_)
   all_goals first|decide|rfl
 . rw[show vP s=⟨lH (f12 s),0,[],0,0,[]⟩from(aB H).trans ((aB H).trans ((aB H).trans ((aB H).trans (aB H))))];exact eK fL (ajh 12 _ (f12 s)) (dB (g0 ⟨eG (oV 6 e),_,_,_,rfl,.self rfl rfl⟩))
 . rw[show vP s=⟨lH (f12 s),0,[],0,(f12 s 1).tmod 257,[]⟩from(aB H).trans ((aB H).trans ((aB H).trans (aG e)))];exact eK fL (aji 12 _ (f12 s)) (dB (g0 ⟨eG (oV 7 e),_,_,_,rfl,.self rfl rfl⟩))
 . rw[show vP s=⟨lH (f12 s),IntKind.i64.wrap ((f12 s 1).tmod 7-3),[],0,IntKind.i64.wrap ((f12 s 2).tmod 7-3),[]⟩from(aB H).trans ((aB H).trans ((aB H).trans ((aB H).trans (aG e))))];exact eK fL (ajj 12 _ (f12 s)) (dB (g0 ⟨eG (oV 8 e),_,_,_,rfl,.self rfl rfl⟩))
noncomputable abbrev w7:Code:=dI Tryz.f30
noncomputable abbrev ajl:Code:=dI Tryz.f68
noncomputable abbrev ajm:Code:=dI Tryz.f71
abbrev gG:V:=.eR none 0 0 0
structure P7 where
 a:Int
 b:Int
 c:Int
 d:Int
 e:Int
 f:Int
 n:Int
def P7.R(p:P7):ag:=[L p.a,L p.b,L p.c,L p.d,L p.e,L p.f,L p.n]
def P7.v(p:P7):V:=.agg p.R
structure S8 where
 s0:Int
 s1:Int
 s2:Int
 s3:Int
 s4:Int
 s5:Int
 s6:Int
 s7:Int
def S8.R(s:S8):ag:=[L s.s0,L s.s1,L s.s2,L s.s3,L s.s4,L s.s5,L s.s6,L s.s7]
structure C4 where
 r:Int
 g:Int
 b:Int
 a:Int
section
variable(s:S8)(x n kd:Int)(nm:aa)(hid:Bool)(op md:Int)(clip:Bool)(pl:P7)(f:FL)(fi:C4)(gd:List Tl)(K:Bool)(mk:List Tl)
def C4.R(p:C4):ag:=[.int .u8 p.r,.int .u8 p.g,.int .u8 p.b,.int .u8 p.a]
abbrev rsV(l:List Tl):V:=.eB false l.length (jE l)
def tV(pv:V)(gd:List Tl)(K:Bool)(mk:List Tl):ag:=
 [L 0,L kd,.str nm,.bool hid,L op,L md,.bool clip]++(pl.R++([L 0,fj [],L 0]++(f.R++(fi.R++[pv,rsV gd,.bool K,rsV mk]))))
def z4:C4:=⟨0,0,0,0⟩
def z7:P7:=⟨0,0,0,0,0,0,0⟩
def i7:P7:=⟨1,0,0,0,1,0,1⟩
def tW:FL:=⟨0,0,[],0,0,[]⟩
def NX(k:Int):ag:=
 [L 0,L kd,.str [],.bool false,L op,L 0,.bool false]++(pl.R++([L 0,gG,L 0]++([L k,L 0,gG,L 0,L 0,gG]++(z4.R++[gG,gG,.bool false,gG]))))
def lyZ:ag:=NX 0 0 z7 0
def wm(l:ag):St:=fq [(1,.ptr (some (0,0))),(2,.ptr (some (1,0))),(3,.ptr (some (2,0)))] (G [(0,.cells s.R),(1,.cells lyZ),(2,.cells l)]) 3
theorem ajn:dw (U W3 []) [(16,.split),(20,.split),(23,.split)] 0 Tryz.f68 [] (ajl) (dy [L n] .nil 0) [([((IntKind.i64.wrap (Int.ofNat (BitVec.ofInt 64 n&&&BitVec.ofInt 64 (7:Int)).toNat)==(1:Int)),true)],
   [],
   .ret (.agg [.int .i64 2,.int .i64 0,.int .i64 (IntKind.i64.wrap (IntKind.i64.wrap (Int.ofNat (BitVec.ofInt 64 (n.fdiv (4:Int))&&&BitVec.ofInt 64 (7:Int)).toNat)-(3:Int))),.int .i64 0,.int .i64 2,.int .i64 (IntKind.i64.wrap (IntKind.i64.wrap (Int.ofNat (BitVec.ofInt 64 (n.fdiv (32:Int))&&&BitVec.ofInt 64 (7:Int)).toNat)-(3:Int))),.int .i64 1]) (G []) 0),
  ([((IntKind.i64.wrap (Int.ofNat (BitVec.ofInt 64 n&&&BitVec.ofInt 64 (7:Int)).toNat)==(1:Int)),false),((IntKind.i64.wrap (Int.ofNat (BitVec.ofInt 64 n&&&BitVec.ofInt 64 (7:Int)).toNat)==(2:Int)),true)],
   [],
   .ret (.agg [.int .i64 1,.int .i64 0,.int .i64 (IntKind.i64.wrap (IntKind.i64.wrap (Int.ofNat (BitVec.ofInt 64 (n.fdiv (4:Int))&&&BitVec.ofInt 64 (7:Int)).toNat)-(3:Int))),.int .i64 0,.int .i64 1,.int .i64 (IntKind.i64.wrap (IntKind.i64.wrap (Int.ofNat (BitVec.ofInt 64 (n.fdiv (32:Int))&&&BitVec.ofInt 64 (7:Int)).toNat)-(3:Int))),.int .i64 2]) (G []) 0),
  ([((IntKind.i64.wrap (Int.ofNat (BitVec.ofInt 64 n&&&BitVec.ofInt 64 (7:Int)).toNat)==(1:Int)),false),((IntKind.i64.wrap (Int.ofNat (BitVec.ofInt 64 n&&&BitVec.ofInt 64 (7:Int)).toNat)==(2:Int)),false),((IntKind.i64.wrap (Int.ofNat (BitVec.ofInt 64 n&&&BitVec.ofInt 64 (7:Int)).toNat)==(3:Int)),true)],
   [],
   .ret (.agg [.int .i64 0,.int .i64 (-1),.int .i64 (IntKind.i64.wrap (IntKind.i64.wrap (Int.ofNat (BitVec.ofInt 64 (n.fdiv (4:Int))&&&BitVec.ofInt 64 (7:Int)).toNat)-(3:Int))),.int .i64 1,.int .i64 0,.int .i64 (IntKind.i64.wrap (IntKind.i64.wrap (Int.ofNat (BitVec.ofInt 64 (n.fdiv (32:Int))&&&BitVec.ofInt 64 (7:Int)).toNat)-(3:Int))),.int .i64 1]) (G []) 0),
  ([((IntKind.i64.wrap (Int.ofNat (BitVec.ofInt 64 n&&&BitVec.ofInt 64 (7:Int)).toNat)==(1:Int)),false),((IntKind.i64.wrap (Int.ofNat (BitVec.ofInt 64 n&&&BitVec.ofInt 64 (7:Int)).toNat)==(2:Int)),false),((IntKind.i64.wrap (Int.ofNat (BitVec.ofInt 64 n&&&BitVec.ofInt 64 (7:Int)).toNat)==(3:Int)),false)],
   [],
   .ret (.agg [.int .i64 1,.int .i64 0,.int .i64 (IntKind.i64.wrap (IntKind.i64.wrap (Int.ofNat (BitVec.ofInt 64 (n.fdiv (4:Int))&&&BitVec.ofInt 64 (7:Int)).toNat)-(3:Int))),.int .i64 0,.int .i64 1,.int .i64 (IntKind.i64.wrap (IntKind.i64.wrap (Int.ofNat (BitVec.ofInt 64 (n.fdiv (32:Int))&&&BitVec.ofInt 64 (7:Int)).toNat)-(3:Int))),.int .i64 1]) (G []) 0)]
 :=dj.of C C C
theorem ajo:dw (U W3 []) [(21,.split),(25,.split)] 0 Tryz.f71 [] (ajm) (dy [L n] .nil 0) [([(((IntKind.u32.wrap n).tmod (5:Int)==(1:Int)),true),(((IntKind.u32.wrap n).tmod (5:Int)==(3:Int)),true)],
   [((256:Int)≠(0:Int)),((65536:Int)≠(0:Int)),((16777216:Int)≠(0:Int))],
   .ret (.agg [.int .u8 (IntKind.u8.wrap (IntKind.u32.wrap n)),.int .u8 (IntKind.u8.wrap (IntKind.u32.wrap ((IntKind.u32.wrap n).tdiv (256:Int)))),.int .u8 (IntKind.u8.wrap (IntKind.u32.wrap ((IntKind.u32.wrap n).tdiv (65536:Int)))),.int .u8 0]) (G []) 0),
  ([(((IntKind.u32.wrap n).tmod (5:Int)==(1:Int)),true),(((IntKind.u32.wrap n).tmod (5:Int)==(3:Int)),false)],
   [((256:Int)≠(0:Int)),((65536:Int)≠(0:Int)),((16777216:Int)≠(0:Int))],
   .ret (.agg [.int .u8 (IntKind.u8.wrap (IntKind.u32.wrap n)),.int .u8 (IntKind.u8.wrap (IntKind.u32.wrap ((IntKind.u32.wrap n).tdiv (256:Int)))),.int .u8 (IntKind.u8.wrap (IntKind.u32.wrap ((IntKind.u32.wrap n).tdiv (65536:Int)))),.int .u8 255]) (G []) 0),
  ([(((IntKind.u32.wrap n).tmod (5:Int)==(1:Int)),false),(((IntKind.u32.wrap n).tmod (5:Int)==(3:Int)),true)],
   [((256:Int)≠(0:Int)),((65536:Int)≠(0:Int)),((16777216:Int)≠(0:Int))],
   .ret (.agg [.int .u8 (IntKind.u8.wrap (IntKind.u32.wrap n)),.int .u8 (IntKind.u8.wrap (IntKind.u32.wrap ((IntKind.u32.wrap n).tdiv (256:Int)))),.int .u8 (IntKind.u8.wrap (IntKind.u32.wrap ((IntKind.u32.wrap n).tdiv (65536:Int)))),.int .u8 0]) (G []) 0),
  ([(((IntKind.u32.wrap n).tmod (5:Int)==(1:Int)),false),(((IntKind.u32.wrap n).tmod (5:Int)==(3:Int)),false)],
   [((256:Int)≠(0:Int)),((65536:Int)≠(0:Int)),((16777216:Int)≠(0:Int))],
   .ret (.agg [.int .u8 (IntKind.u8.wrap (IntKind.u32.wrap n)),.int .u8 (IntKind.u8.wrap (IntKind.u32.wrap ((IntKind.u32.wrap n).tdiv (256:Int)))),.int .u8 (IntKind.u8.wrap (IntKind.u32.wrap ((IntKind.u32.wrap n).tdiv (65536:Int)))),.int .u8 (IntKind.u8.wrap (IntKind.u32.wrap ((IntKind.u32.wrap n).tdiv (16777216:Int))))]) (G []) 0)]
 :=dj.of C C C
theorem aco:dw (U W3 []) [(9,.dz (L 1))] 0 Tryz.f30 [1,2,3] (dM 2 w7) (dy [.agg s.R] .nil 0) [([],
   [(V.int A (IntKind.i64.wrap ((1:Int)+(IntKind.i64.wrap (Int.ofNat (BitVec.ofInt 64 s.s0&&&BitVec.ofInt 64 (65535:Int)).toNat)).tmod (5:Int)))=L (1:Int))],
   .to .normal (wm s (NX 1 255 i7 0)))]
 :=dj.of C C C
theorem acp:dw (U W3 []) [(9,.dz (L 2))] 0 Tryz.f30 [1,2,3] (dM 2 w7) (dy [.agg s.R] .nil 0) [([],
   [(V.int A (IntKind.i64.wrap ((1:Int)+(IntKind.i64.wrap (Int.ofNat (BitVec.ofInt 64 s.s0&&&BitVec.ofInt 64 (65535:Int)).toNat)).tmod (5:Int)))=L (2:Int))],
   .to .normal (wm s (NX 2 255 z7 0)))]
 :=dj.of C C C
theorem acq:dw (U W3 []) [(9,.dz (L 3))] 0 Tryz.f30 [1,2,3] (dM 2 w7) (dy [.agg s.R] .nil 0) [([],
   [(V.int A (IntKind.i64.wrap ((1:Int)+(IntKind.i64.wrap (Int.ofNat (BitVec.ofInt 64 s.s0&&&BitVec.ofInt 64 (65535:Int)).toNat)).tmod (5:Int)))=L (3:Int))],
   .to .normal (wm s (NX 3 255 z7 6)))]
 :=dj.of C C C
theorem acr:dw (U W3 []) [(9,.dz (L 4))] 0 Tryz.f30 [1,2,3] (dM 2 w7) (dy [.agg s.R] .nil 0) [([],
   [(V.int A (IntKind.i64.wrap ((1:Int)+(IntKind.i64.wrap (Int.ofNat (BitVec.ofInt 64 s.s0&&&BitVec.ofInt 64 (65535:Int)).toNat)).tmod (5:Int)))=L (4:Int))],
   .to .normal (wm s (NX 4 255 i7 0)))]
 :=dj.of C C C
theorem acs:dw (U W3 []) [(9,.dz (L 5))] 0 Tryz.f30 [1,2,3] (dM 2 w7) (dy [.agg s.R] .nil 0) [([],
   [(V.int A (IntKind.i64.wrap ((1:Int)+(IntKind.i64.wrap (Int.ofNat (BitVec.ofInt 64 s.s0&&&BitVec.ofInt 64 (65535:Int)).toNat)).tmod (5:Int)))=L (5:Int))],
   .to .normal (wm s (NX 5 255 z7 0)))]
 :=dj.of C C C
def an(m:Int):Int:=IntKind.i64.wrap (Int.ofNat (BitVec.ofInt 64 x&&&BitVec.ofInt 64 m).toNat)
def NY:aa:=(([97,98,99,100,101,102,103,104]:aa).take (IntKind.i64.wrap (an x 7+1)).toNat).drop (an x 7).toNat
def Sc:Bool:=an x 127==8
def Sd:Bool:=an x 96==96
def opF:Int:=an (x.fdiv 2) 255
def mdO:Int:=an (x.fdiv 4) 15
theorem ajp:dw (U W3 []) [] 0 Tryz.f30 [1,2,3] (dM 4 (dr 2 w7)) (wm s (tV kd nm hid op md clip pl f fi gG gd K mk)) [([],
   [((0:Int)<=IntKind.i64.wrap (IntKind.i64.wrap (Int.ofNat (BitVec.ofInt 64 s.s1&&&BitVec.ofInt 64 (7:Int)).toNat)+(1:Int))/\IntKind.i64.wrap (IntKind.i64.wrap (Int.ofNat (BitVec.ofInt 64 s.s1&&&BitVec.ofInt 64 (7:Int)).toNat)+(1:Int))<=(8:Int)),((0:Int)<=IntKind.i64.wrap (Int.ofNat (BitVec.ofInt 64 s.s1&&&BitVec.ofInt 64 (7:Int)).toNat)/\IntKind.i64.wrap (Int.ofNat (BitVec.ofInt 64 s.s1&&&BitVec.ofInt 64 (7:Int)).toNat)<=(Int.ofNat (IntKind.i64.wrap (IntKind.i64.wrap (Int.ofNat (BitVec.ofInt 64 s.s1&&&BitVec.ofInt 64 (7:Int)).toNat)+(1:Int))).toNat))],
   .to .normal (wm s (tV kd (NY s.s1) (Sc s.s1) 255 md (Sd s.s1) pl f fi gG gd K mk)))]
 :=dj.of C C C
theorem ajq:dw (U W3 []) [(34,.split)] 0 Tryz.f30 [1,2,3] (dM 1 (dr 6 w7)) (wm s (tV kd nm hid op md clip pl f fi gG gd K mk)) [([((IntKind.i64.wrap (Int.ofNat (BitVec.ofInt 64 s.s2&&&BitVec.ofInt 64 (1:Int)).toNat)==(1:Int)),true)],
   [],
   .to .normal (wm s (tV kd nm hid (opF s.s2) md clip pl f fi gG gd K mk))),
  ([((IntKind.i64.wrap (Int.ofNat (BitVec.ofInt 64 s.s2&&&BitVec.ofInt 64 (1:Int)).toNat)==(1:Int)),false)],
   [],
   .to .normal (wm s (tV kd nm hid op md clip pl f fi gG gd K mk)))]
 :=dj.of C C C
theorem ajr:dw (U W3 []) [(43,.split)] 0 Tryz.f30 [1,2,3] (dM 1 (dr 7 w7)) (wm s (tV kd nm hid op md clip pl f fi gG gd K mk)) [([((IntKind.i64.wrap (Int.ofNat (BitVec.ofInt 64 s.s3&&&BitVec.ofInt 64 (3:Int)).toNat)==(1:Int)),true)],
   [],
   .to .normal (wm s (tV kd nm hid op (mdO s.s3) clip pl f fi gG gd K mk))),
  ([((IntKind.i64.wrap (Int.ofNat (BitVec.ofInt 64 s.s3&&&BitVec.ofInt 64 (3:Int)).toNat)==(1:Int)),false)],
   [],
   .to .normal (wm s (tV kd nm hid op md clip pl f fi gG gd K mk)))]
 :=dj.of C C C
theorem ajs(l:List Tl):dw (U (Pt 67 [fj [s.s3,s.s4,s.s5]] (ox l) W3) []) [(52,.split)] 0 Tryz.f30 [1,2,3] (dM 1 (dr 8 w7)) (wm s (tV kd nm hid op md clip pl f fi gG gd K mk)) [([((IntKind.i64.wrap (Int.ofNat (BitVec.ofInt 64 s.s3&&&BitVec.ofInt 64 (192:Int)).toNat)==(64:Int)),true)],
   [([D.int A s.s3,D.int A s.s4,D.int A s.s5].length=3),(V.lA [V.eB false 3 [D.int A s.s3,D.int A s.s4,D.int A s.s5]]=[fj [s.s3,s.s4,s.s5]])],
   .to .normal (wm s (tV kd nm hid op md clip pl f fi gG gd true l))),
  ([((IntKind.i64.wrap (Int.ofNat (BitVec.ofInt 64 s.s3&&&BitVec.ofInt 64 (192:Int)).toNat)==(64:Int)),false)],
   [],
   .to .normal (wm s (tV kd nm hid op md clip pl f fi gG gd K mk)))]
 :=dj.of C C C
end
def VC(n d:Int):Int:=IntKind.i64.wrap (an (n.fdiv d) 7-3)
def VD(n:Int):P7:=if an n 7=1 then⟨2,0,VC n 4,0,2,VC n 32,1⟩else if an n 7=2 then⟨1,0,VC n 4,0,1,VC n 32,2⟩else if an n 7=3 then⟨0,-1,VC n 4,1,0,VC n 32,1⟩else⟨1,0,VC n 4,0,1,VC n 32,1⟩
def mpA(u:Int):Int:=if u.tmod 5=3 then 0 else if u.tmod 5=1 then 255 else IntKind.u8.wrap (IntKind.u32.wrap (u.tdiv 16777216))
def P3(n:Int):C4:=⟨IntKind.u8.wrap (IntKind.u32.wrap n),IntKind.u8.wrap (IntKind.u32.wrap ((IntKind.u32.wrap n).tdiv 256)),IntKind.u8.wrap (IntKind.u32.wrap ((IntKind.u32.wrap n).tdiv 65536)),mpA (IntKind.u32.wrap n)⟩
def Kf:ag->Option (ah×V)
 | [.int .i64 n]=>some ([],(VD n).v)
 |_=>none
def Kg:ag->Option (ah×V)
 | [.int .i64 n]=>some ([],.agg (P3 n).R)
 |_=>none
theorem Xw:jK ak 68 (gV Kf):=by
 refine ow Tryz.func68 fun args aj v e=>?_;unfold Kf at e;split at e
 case h_2=>cases e
 rename_i n;obtain⟨rfl,rfl⟩:=sm e;refine⟨rfl,rfl,rfl,fun _=>eK fL (ajn n) (dD (g1 fun h=>⟨all_nil,_,_,_,rfl,?_⟩) (dD (g2 fun h O=>⟨all_nil,_,_,_,rfl,?_⟩) (dD (g3 fun h O h3=>⟨all_nil,_,_,_,rfl,?_⟩) (dB (g3 fun h O h3=>⟨all_nil,_,_,_,rfl,?_⟩)))))⟩
 all_goals
  have h:(an n 7==1)=_:=h
  try have O:(an n 7==2)=_:=O
  try have h3:(an n 7==3)=_:=h3
  simp only[cG,b5,ne_eq]at *
 . rw[show VD n=_ from aG h];rfl
 . rw[show VD n=_ from(aB h).trans (aG O)];rfl
 . rw[show VD n=_ from(aB h).trans ((aB O).trans (aG h3))];rfl
 . rw[show VD n=_ from(aB h).trans ((aB O).trans (aB h3))];rfl
theorem Xx:jK ak 71 (gV Kg):=by
 refine ow Tryz.func71 fun args aj v e=>?_;unfold Kg at e;split at e
 case h_2=>cases e
 rename_i n;obtain⟨rfl,rfl⟩:=sm e;have aj:∀a∈[((256:Int)≠(0:Int)),((65536:Int)≠(0:Int)),((16777216:Int)≠(0:Int))],a:=S eY (S eY (eG eY));refine⟨rfl,rfl,rfl,fun _=>eK fL (ajo n) (dD (g2 fun h O=>⟨aj,_,_,_,rfl,?_⟩) (dD (g2 fun h O=>⟨aj,_,_,_,rfl,?_⟩) (dD (g2 fun h O=>⟨aj,_,_,_,rfl,?_⟩) (dB (g2 fun h O=>⟨aj,_,_,_,rfl,?_⟩)))))⟩
 all_goals
  simp only[cG,b5,ne_eq]at h O;unfold P3 mpA
  first|rw[aG O]|rw[aB O,aG h]|rw[aB O,aB h]
  rfl
noncomputable abbrev W4:gF:=jZ 68 (gV Kf) (jZ 71 (gV Kg) W3)
theorem qN:eU ak W4:=fC Xw (fC Xx fL)
def qZ(l:List (Int×Int)):ai:=(l.map fun p=>[D.int .i64 p.1,D.int .i64 p.2]).flatten
abbrev w8(l:List (Int×Int)):V:=.eB false l.length (qZ l)
structure eJ where
 id:Int
 kd:Int
 nm:aa
 hid:Bool
 op:Int
 md:Int
 clip:Bool
 pl:P7
 sp:Int
 kids:List Int
 of:Int
 f:FL
 fi:C4
 gW:List (Int×Int)
 gd:List Tl
 K:Bool
 iH:List Tl
def eJ.R(l:eJ):ag:=[L l.id,L l.kd,.str l.nm,.bool l.hid,L l.op,L l.md,.bool l.clip]++(l.pl.R++([L l.sp,fj l.kids,L l.of]++(l.f.R++(l.fi.R++[w8 l.gW,rsV l.gd,.bool l.K,rsV l.iH]))))
def eJ.v(l:eJ):V:=.agg l.R
def Tt(p:C4):C4:=⟨cl p.a p.r,cl p.a p.g,cl p.a p.b,cl p.a p.a⟩
def px4(x:Int)(i:Nat):Int:=IntKind.i64.wrap (an (x.fdiv (16^i)) 15-4)
def Ik(x y:Int)(c:Nat):List (Int×Int):=(List.range c).map fun i=>(px4 x i,px4 y i)
def l12(s:S8):List Int:=[s.s4,s.s5,s.s6,s.s7,s.s2,s.s3,s.s1,IntKind.i64.wrap (s.s5.tdiv 7),IntKind.i64.wrap (s.s6.tdiv 5),IntKind.i64.wrap (s.s7.tdiv 3),IntKind.i64.wrap (s.s4.tdiv 9),IntKind.i64.wrap (s.s2.tdiv 11)]
noncomputable abbrev FY:Code:=dr 9 w7
section
variable(s:S8)(nm:aa)(hid:Bool)(op md:Int)(clip:Bool)(pl:P7)(f:FL)(fi:C4)(gd:List Tl)(K:Bool)(mk:List Tl)
theorem acu(l:List Tl):dw (U (Pt 67 [fj [s.s4,s.s5,s.s6,s.s7,s.s2]] (ox l) W4) []) [] 0 Tryz.f30 [] (FY) (wm s (tV 1 nm hid op md clip pl f fi gG gd K mk)) [([],
   [([D.int A s.s4,D.int A s.s5,D.int A s.s6,D.int A s.s7,D.int A s.s2].length=5),(V.lA [V.eB false 5 [D.int A s.s4,D.int A s.s5,D.int A s.s6,D.int A s.s7,D.int A s.s2]]=[fj [s.s4,s.s5,s.s6,s.s7,s.s2]])],
   .ret (.agg (tV 1 nm hid op md clip (VD s.s6) f fi gG l K mk)) (G []) 0)]
 :=dj.of C C C
theorem acv:dw (U W4 []) [] 0 Tryz.f30 [] (FY) (wm s (tV 2 nm hid op md clip pl f fi gG gd K mk)) [([],
   [],
   .ret (.agg (tV 2 nm hid op md clip pl f fi gG gd K mk)) (G []) 0)]
 :=dj.of C C C
theorem acw(g:FL):dw (U (Pt 69 [fj (l12 s)] g.v W4) []) [] 0 Tryz.f30 [] (FY) (wm s (tV 3 nm hid op md clip pl f fi gG gd K mk)) [([],
   [((7:Int)≠(0:Int)),((5:Int)≠(0:Int)),((3:Int)≠(0:Int)),((9:Int)≠(0:Int)),((11:Int)≠(0:Int)),([D.int A s.s4,D.int A s.s5,D.int A s.s6,D.int A s.s7,D.int A s.s2,D.int A s.s3,D.int A s.s1,D.int A (IntKind.i64.wrap (s.s5.tdiv (7:Int))),D.int A (IntKind.i64.wrap (s.s6.tdiv (5:Int))),D.int A (IntKind.i64.wrap (s.s7.tdiv (3:Int))),D.int A (IntKind.i64.wrap (s.s4.tdiv (9:Int))),D.int A (IntKind.i64.wrap (s.s2.tdiv (11:Int)))].length=12),(V.lA [V.eB false 12 [D.int A s.s4,D.int A s.s5,D.int A s.s6,D.int A s.s7,D.int A s.s2,D.int A s.s3,D.int A s.s1,D.int A (IntKind.i64.wrap (s.s5.tdiv (7:Int))),D.int A (IntKind.i64.wrap (s.s6.tdiv (5:Int))),D.int A (IntKind.i64.wrap (s.s7.tdiv (3:Int))),D.int A (IntKind.i64.wrap (s.s4.tdiv (9:Int))),D.int A (IntKind.i64.wrap (s.s2.tdiv (11:Int)))]]=[fj (l12 s)])],
   .ret (.agg (tV 3 nm hid op md clip pl g fi gG gd K mk)) (G []) 0)]
 :=dj.of C C C
theorem acy:dw (U W4 []) [] 0 Tryz.f30 [] (FY) (wm s (tV 4 nm hid op md clip pl f fi gG gd K mk)) [([],
   [],
   .ret (.agg (tV 4 nm hid op md clip (VD s.s6) f fi gG gd K mk)) (G []) 0)]
 :=dj.of C C C
abbrev yp:Prop:=V.int A (IntKind.i64.wrap ((3:Int)+IntKind.i64.wrap (Int.ofNat (BitVec.ofInt 64 s.s5&&&BitVec.ofInt 64 (3:Int)).toNat)))=L (3:Int)
theorem Xy:dw (U W4 []) [(135,.dz (L 3))] 0 Tryz.f30 [] (FY) (wm s (tV 5 nm hid op md clip pl f fi gG gd K mk)) [([],
   [yp s,yp s,yp s,yp s],
   .ret (.agg (tV 5 nm hid op md clip pl f (Tt (P3 s.s4)) (.eR (some (0,0)) 3 3 2) gd K mk)) (G [(0,.cells (D.fQ (qZ (Ik s.s6 s.s7 3))))]) 1)]
 :=dj.of C C C
abbrev uX:Prop:=V.int A (IntKind.i64.wrap ((3:Int)+IntKind.i64.wrap (Int.ofNat (BitVec.ofInt 64 s.s5&&&BitVec.ofInt 64 (3:Int)).toNat)))=L (4:Int)
theorem Xz:dw (U W4 []) [(135,.dz (L 4))] 0 Tryz.f30 [] (FY) (wm s (tV 5 nm hid op md clip pl f fi gG gd K mk)) [([],
   [uX s,uX s,uX s,uX s,uX s],
   .ret (.agg (tV 5 nm hid op md clip pl f (Tt (P3 s.s4)) (.eR (some (0,0)) 4 4 2) gd K mk)) (G [(0,.cells (D.fQ (qZ (Ik s.s6 s.s7 4))))]) 1)]
 :=dj.of C C C
abbrev sj:Prop:=V.int A (IntKind.i64.wrap ((3:Int)+IntKind.i64.wrap (Int.ofNat (BitVec.ofInt 64 s.s5&&&BitVec.ofInt 64 (3:Int)).toNat)))=L (5:Int)
theorem XA:dw (U W4 []) [(135,.dz (L 5))] 0 Tryz.f30 [] (FY) (wm s (tV 5 nm hid op md clip pl f fi gG gd K mk)) [([],
   [sj s,sj s,sj s,sj s,sj s,sj s],
   .ret (.agg (tV 5 nm hid op md clip pl f (Tt (P3 s.s4)) (.eR (some (0,0)) 5 5 2) gd K mk)) (G [(0,.cells (D.fQ (qZ (Ik s.s6 s.s7 5))))]) 1)]
 :=dj.of C C C
abbrev qn:Prop:=V.int A (IntKind.i64.wrap ((3:Int)+IntKind.i64.wrap (Int.ofNat (BitVec.ofInt 64 s.s5&&&BitVec.ofInt 64 (3:Int)).toNat)))=L (6:Int)
theorem XB:dw (U W4 []) [(135,.dz (L 6))] 0 Tryz.f30 [] (FY) (wm s (tV 5 nm hid op md clip pl f fi gG gd K mk)) [([],
   [qn s,qn s,qn s,qn s,qn s,qn s,qn s],
   .ret (.agg (tV 5 nm hid op md clip pl f (Tt (P3 s.s4)) (.eR (some (0,0)) 6 6 2) gd K mk)) (G [(0,.cells (D.fQ (qZ (Ik s.s6 s.s7 6))))]) 1)]
 :=dj.of C C C
end
theorem gS:∀(b a:Nat) (c:Code),dr a (dr b c)=dr (b+a) c
 |0,a,c=>by rw[b7];cases c<;>rfl
 |b+1,a,c=>by
  cases c with
  |seq x y=>rw[show dr (b+1) (.seq x y)=dr b y from rfl,gS b a y,show b+1+a=(b+a)+1 by omega];rfl
  |_=>rw[show b+1+a=(b+a)+1 by omega];cases a<;>rfl
section
variable(s:S8)
def GN:Int:=IntKind.i64.wrap (1+(an s.s0 65535).tmod 5)
def P4:Nat:=3+(BitVec.ofInt 64 s.s5&&&BitVec.ofInt 64 (3:Int)).toNat
noncomputable def lV:eJ where
 id:=0
 kd:=GN s
 nm:=NY s.s1
 hid:=Sc s.s1
 op:=if an s.s2 1=1 then opF s.s2 else 255
 md:=if an s.s3 3=1 then mdO s.s3 else 0
 clip:=Sd s.s1
 pl:=if GN s=1\/GN s=4 then VD s.s6 else z7
 sp:=0
 kids:=[]
 of:=0
 f:=if GN s=3 then vP (l12 s)else tW
 fi:=if GN s=5 then Tt (P3 s.s4)else z4
 gW:=if GN s=5 then Ik s.s6 s.s7 (P4 s)else[]
 gd:=if GN s=1 then nV [s.s4,s.s5,s.s6,s.s7,s.s2]else[]
 K:=an s.s3 192==64
 iH:=if an s.s3 192=64 then nV [s.s3,s.s4,s.s5]else[]
theorem EJ(x:Int)(m:Nat)(h:m<=65535):0<=an x m/\an x m<=m:=by
 unfold an;have Q:(BitVec.ofInt 64 x&&&BitVec.ofInt 64 (m:Int)).toNat<=m:=by
  rw[BitVec.toNat_and];refine bE Nat.and_le_right ?_;rw[BitVec.toNat_ofInt];have:((m:Int)%((2^64:Nat):Int)).toNat=m:=by
   rw[Int.emod_eq_of_lt H H];omega
  rw[this];exact aK _
 rw[gZ (by simp only[gQ];omega) (by simp only[gQ];omega)];simp only[gQ];omega
theorem Il(kd:Int)(pl:P7)(f:FL){cs:V->J h2->Nat->Prop}(oI:TG ak 0 Tryz.f30.ntmps FY (wm s (tV kd (NY s.s1) (Sc s.s1) (if an s.s2 1=1 then opF s.s2 else 255) (if an s.s3 3=1 then mdO s.s3 else 0) (Sd s.s1) pl f z4 gG [] (an s.s3 192==64) (if an s.s3 192=64 then nV [s.s3,s.s4,s.s5]else[]))) (fH ak 0 Tryz.f30 cs)):
  TG ak 0 Tryz.f30.ntmps (dr 2 w7) (wm s (tV kd [] false 255 0 false pl f z4 gG [] false [])) (fH ak 0 Tryz.f30 cs):=by
 have h7:0<=an s.s1 7/\an s.s1 7<=7:=EJ s.s1 7 eY;refine fF 4 fL (ajp s kd [] false 255 0 false pl f z4 [] false []) ?_ ?_
 . refine S ?_ (eG ?_)
   . show(0:Int)<=IntKind.i64.wrap (an s.s1 7+1)/\IntKind.i64.wrap (an s.s1 7+1)<=8;rw[gZ H H];omega
   . show(0:Int)<=an s.s1 7/\an s.s1 7<=Int.ofNat (IntKind.i64.wrap (an s.s1 7+1)).toNat;rw[gZ H H];simp only[gQ];omega
 rw[gS];have e3:TG ak 0 Tryz.f30.ntmps (dr 7 w7) (wm s (tV kd (NY s.s1) (Sc s.s1) (if an s.s2 1=1 then opF s.s2 else 255) 0 (Sd s.s1) pl f z4 gG [] false [])) (fH ak 0 Tryz.f30 cs)->TG ak 0 Tryz.f30.ntmps (dr 6 w7) (wm s (tV kd (NY s.s1) (Sc s.s1) 255 0 (Sd s.s1) pl f z4 gG [] false [])) (fH ak 0 Tryz.f30 cs):=fun h=>by
  refine ud 1 fL (ajq s kd (NY s.s1) (Sc s.s1) 255 0 (Sd s.s1) pl f z4 [] false []) (dD (g1 fun h3=>⟨all_nil,_,rfl,?_⟩) (dB (g1 fun h3=>⟨all_nil,_,rfl,?_⟩)))
  all_goals
   have h3:(an s.s2 1==1)=_:=h3;simp only[cG,b5,ne_eq]at h3;rw[gS]
  . rw[aG h3]at h;exact h
  . rw[aB h3]at h;exact h
 have e4:TG ak 0 Tryz.f30.ntmps (dr 8 w7) (wm s (tV kd (NY s.s1) (Sc s.s1) (if an s.s2 1=1 then opF s.s2 else 255) (if an s.s3 3=1 then mdO s.s3 else 0) (Sd s.s1) pl f z4 gG [] false [])) (fH ak 0 Tryz.f30 cs)->TG ak 0 Tryz.f30.ntmps (dr 7 w7) (wm s (tV kd (NY s.s1) (Sc s.s1) (if an s.s2 1=1 then opF s.s2 else 255) 0 (Sd s.s1) pl f z4 gG [] false [])) (fH ak 0 Tryz.f30 cs):=fun h=>by
  refine ud 1 fL (ajr s kd (NY s.s1) (Sc s.s1) _ 0 (Sd s.s1) pl f z4 [] false []) (dD (g1 fun h3=>⟨all_nil,_,rfl,?_⟩) (dB (g1 fun h3=>⟨all_nil,_,rfl,?_⟩)))
  all_goals
   have h3:(an s.s3 3==1)=_:=h3;simp only[cG,b5,ne_eq]at h3;rw[gS]
  . rw[aG h3]at h;exact h
  . rw[aB h3]at h;exact h
 refine e3 (e4 (ud 1 (FV C (PW [s.s3,s.s4,s.s5] (show 3<=1000000 by decide)) fL) (ajs s kd (NY s.s1) (Sc s.s1) _ _ (Sd s.s1) pl f z4 [] false [] _) (dD (g1 fun h3=>⟨S rfl (eG rfl),_,rfl,?_⟩) (dB (g1 fun h3=>⟨all_nil,_,rfl,?_⟩)))))
 all_goals
  have h3:(an s.s3 192==64)=_:=h3;rw[h3]at oI;simp only[cG,b5,ne_eq]at h3;rw[gS]
 . rw[aG h3]at oI;exact oI
 . rw[aB h3]at oI;exact oI
theorem ajt:dU ak 30 [.agg s.R] (lV s).v:=by
 refine qL Tryz.func30 ?_;have h5:0<=an s.s0 65535/\an s.s0 65535<=65535:=EJ s.s0 65535 eY;have K:=yo h5.1 (d:=5) eY;have W:GN s=1+(an s.s0 65535).tmod 5:=gZ H H;have oV:∀q:Int,GN s=q->V.int A (IntKind.i64.wrap ((1:Int)+(IntKind.i64.wrap (Int.ofNat (BitVec.ofInt 64 s.s0&&&BitVec.ofInt 64 (65535:Int)).toNat)).tmod (5:Int)))=L q:=fun q e=>aI _ e;have nlA (kd op:Int) (pl:P7) (k:Int):ek ak 0 Tryz.f30.ntmps (wm s (NX kd op pl k)) (wm s (tV kd [] false op 0 false pl ⟨k,0,[],0,0,[]⟩ z4 gG [] false [])):=.step (.Te 2 [15,19,22,28,30] C);rcases(by omega:GN s=1\/GN s=2\/GN s=3\/GN s=4\/GN s=5)with e|e|e|e|e
 . refine fF 2 fL (aco s) (eG (oV 1 e)) (nlA _ _ _ _ _ _ (Il s 1 i7 tW ?_));refine eK (FV C (PW [s.s4,s.s5,s.s6,s.s7,s.s2] (show 5<=1000000 by decide)) qN) (acu s _ _ _ _ _ _ _ _ _ _ _ _) (dB (g0 ⟨S rfl (eG rfl),_,_,_,rfl,.self rfl ?_⟩));simp only[eJ.v,lV,e];rfl
 . refine fF 2 fL (acp s) (eG (oV 2 e)) (nlA _ _ _ _ _ _ (Il s 2 z7 tW ?_));refine eK qN (acv s _ _ _ _ _ _ _ _ _ _ _) (dB (g0 ⟨all_nil,_,_,_,rfl,.self rfl ?_⟩));simp only[eJ.v,lV,e];rfl
 . refine fF 2 fL (acq s) (eG (oV 3 e)) (nlA _ _ _ _ _ _ (Il s 3 z7 ⟨6,0,[],0,0,[]⟩ ?_));refine eK (FV C (acm _ _ _ _ _ _ _ _ _ _ _ _) qN) (acw s _ _ _ _ _ _ _ _ _ _ _ (vP (l12 s))) (dB (g0 ⟨?_,_,_,_,rfl,.self rfl ?_⟩))
   . repeat' (first|exact all_nil|refine S ?_ ?_)
     all_goals first|decide|rfl
   simp only[eJ.v,lV,e];rfl
 . refine fF 2 fL (acr s) (eG (oV 4 e)) (nlA _ _ _ _ _ _ (Il s 4 i7 tW ?_));refine eK qN (acy s _ _ _ _ _ _ _ _ _ _ _) (dB (g0 ⟨all_nil,_,_,_,rfl,.self rfl ?_⟩));simp only[eJ.v,lV,e];rfl
 . refine fF 2 fL (acs s) (eG (oV 5 e)) (nlA _ _ _ _ _ _ (Il s 5 z7 tW ?_));have B:P4 s=3\/P4 s=4\/P4 s=5\/P4 s=6:=by
    unfold P4;have:(BitVec.ofInt 64 s.s5&&&BitVec.ofInt 64 (3:Int)).toNat<=3:=by
     rw[BitVec.toNat_and];exact Nat.and_le_right
    omega
   have On:∀q:Nat,P4 s=q->V.int A (IntKind.i64.wrap ((3:Int)+IntKind.i64.wrap (Int.ofNat (BitVec.ofInt 64 s.s5&&&BitVec.ofInt 64 (3:Int)).toNat)))=L (Int.ofNat q):=fun q hq=>by
    unfold P4 at hq B;generalize (BitVec.ofInt 64 s.s5&&&BitVec.ofInt 64 (3:Int)).toNat=m at hq B;rw[gZ (x:=Int.ofNat m) (by simp only[gQ];omega) (by simp only[gQ];omega),gZ (by simp only[gQ];omega) (by simp only[gQ];omega),<- hq];simp only[gQ];congr 1
   have oI:∀(c:Nat) (nm:aa) (hid:Bool) (op md:Int) (clip:Bool) (K:Bool) (mk:List Tl),(qZ (Ik s.s6 s.s7 c)).length=c*2->WY [0] (.agg (tV 5 nm hid op md clip z7 tW (Tt (P3 s.s4)) (.eR (some (0,0)) c c 2) [] K mk)) (G [(0,.cells (D.fQ (qZ (Ik s.s6 s.s7 c))))]) 1=some ([(qZ (Ik s.s6 s.s7 c)).length=c*2],.agg (tV 5 nm hid op md clip z7 tW (Tt (P3 s.s4)) (.eB false c (qZ (Ik s.s6 s.s7 c))) [] K mk))->nm=(lV s).nm->hid=(lV s).hid->op=(lV s).op->md=(lV s).md->clip=(lV s).clip->K=(lV s).K->mk=(lV s).iH->P4 s=c->
     vD (lV s).v (.agg (tV 5 nm hid op md clip z7 tW (Tt (P3 s.s4)) (.eR (some (0,0)) c c 2) [] K mk)) (G [(0,.cells (D.fQ (qZ (Ik s.s6 s.s7 c))))]) 1:=by
    intro c nm hid op md clip K mk hl hf e1 e2 e3 e4 e5 e6 e7 B;refine .Bu [0] hf (eG hl) rfl ?_;subst e1 e2 e3 e4 e5 e6 e7;have e8:(lV s).gW=Ik s.s6 s.s7 c:=by simp only[lV,e,if_true,B]
    have e9:(lV s).v= .agg (tV 5 (lV s).nm (lV s).hid (lV s).op (lV s).md (lV s).clip z7 tW (Tt (P3 s.s4)) (w8 (lV s).gW) [] (lV s).K (lV s).iH):=by
     simp only[eJ.v,lV,e];rfl
    rw[e9,e8];have:(Ik s.s6 s.s7 c).length=c:=by simp[Ik]
    rw[show w8 (Ik s.s6 s.s7 c)= .eB false c (qZ (Ik s.s6 s.s7 c))by unfold w8;rw[this]];rfl
   rcases B with q|q|q|q
   . refine eK qN (Xy s _ _ _ _ _ _ _ _ _ _ _) (dB (g0 ⟨?_,_,_,_,rfl,oI 3 _ _ _ _ _ _ _ rfl C rfl rfl rfl rfl rfl rfl rfl q⟩))
     repeat' (first|exact all_nil|exact On 3 q|refine S ?_ ?_)
   . refine eK qN (Xz s _ _ _ _ _ _ _ _ _ _ _) (dB (g0 ⟨?_,_,_,_,rfl,oI 4 _ _ _ _ _ _ _ rfl C rfl rfl rfl rfl rfl rfl rfl q⟩))
     repeat' (first|exact all_nil|exact On 4 q|refine S ?_ ?_)
   . refine eK qN (XA s _ _ _ _ _ _ _ _ _ _ _) (dB (g0 ⟨?_,_,_,_,rfl,oI 5 _ _ _ _ _ _ _ rfl C rfl rfl rfl rfl rfl rfl rfl q⟩))
     repeat' (first|exact all_nil|exact On 5 q|refine S ?_ ?_)
   . refine eK qN (XB s _ _ _ _ _ _ _ _ _ _ _) (dB (g0 ⟨?_,_,_,_,rfl,oI 6 _ _ _ _ _ _ _ rfl C rfl rfl rfl rfl rfl rfl rfl q⟩))
     repeat' (first|exact all_nil|exact On 6 q|refine S ?_ ?_)
end
open Go.Shelf Go.RowKit
def VE:Go.Shelf.Ren:=⟨fun|240=>104|276=>131|n=>n,fun|70=>114|72=>116|164=>193|37=>76|n=>n,fun n=>n⟩
theorem P5:Lays.n240 ak VE:={
 mixed:=mo
 f240:=Tryz.func104.trans (aI some C)
 f276:=Tryz.func131.trans (aI some C)
 t0:=Tryz.underlying0
 a0:=Tryz.isAgg0
 z0:=Tryz.sizeOf0
 v0:=Tryz.zeroValue0
 t4:=Tryz.underlying4
 a4:=Tryz.isAgg4
 z4:=Tryz.sizeOf4
 v4:=Tryz.zeroValue4
 t9:=Tryz.underlying9
 a9:=Tryz.isAgg9
 z9:=Tryz.sizeOf9
 v9:=Tryz.zeroValue9
 t20:=Tryz.underlying20
 a20:=Tryz.isAgg20
 z20:=Tryz.sizeOf20
 v20:=Tryz.zeroValue20
 t70:=Tryz.underlying114
 a70:=Tryz.isAgg114
 z70:=Tryz.sizeOf114
 v70:=Tryz.zeroValue114
 t72:=Tryz.underlying116
 a72:=Tryz.isAgg116
 z72:=Tryz.sizeOf116
 v72:=Tryz.zeroValue116
 t164:=Tryz.underlying193
 a164:=Tryz.isAgg193
 z164:=Tryz.sizeOf193
 v164:=Tryz.zeroValue193
}
theorem P6:Builder.X72 ak VE where
 sizeBuilder:=by kernel_rfl
 liesBuilder:=by kernel_rfl
def Kh:ag->J h2->Nat->Option (ah×V×J h2×Nat)
 | [.ptr (some (m,0))],h,n=>match h.get m with
   |some (.AS t _ x)=>match Nat.beq t 116&&Nat.blt m fZ with
    |true=>some ([],.gw [],h.set m (some (.AS t true x)),n)
    |false=>none
   |_=>none
 |_,_,_=>none
theorem XC:jK ak 104 Kh:=by
 refine⟨az C,fun args h n aj v h' n' e hA E w dH ra g hd B=>?_⟩;unfold Kh at e;split at e
 case h_2=>cases e
 rename_i m;split at e
 case h_2=>cases e
 rename_i t self x K;split at e
 case h_2=>cases e
 rename_i hq;simp only[ay]at hq;obtain⟨ht,MP⟩:=hq;have ht:=aA ht;subst ht;have MP:m<fZ:=az MP;simp only[aq,aF]at e;obtain⟨rfl,rfl,rfl,rfl⟩:=e;obtain⟨y,ys,r0,rs,rfl⟩:=ra;have rs:ys=[]:=rs;subst rs;obtain⟨b,s,e1,rfl⟩:=r0;obtain⟨b',X,e2,hs,x',fz,k1,k2,k3,k4⟩:=g.rel m _ K;rw[e1]at e2;simp only[aq,aF]at e2;obtain⟨rfl,rfl⟩:=e2;subst hs;have hbb:b<w.heap.size:=g.oL m b 0 e1;have iU:eN h m:=⟨_,K,rfl⟩;have mz:∀{self:Bool},w.heap[b]? =some (.cells #[.pointer (if self then some ⟨b,0,none⟩else none),x'] 116 fz)->w.cell? ⟨b,0,none⟩=some (.pointer (if self then some ⟨b,0,none⟩else none)):=by
  intro self k1;unfold World.cell?;rw[k1];rfl
 have P8:∀w',w'.heap.size=w.heap.size->w'.tape=w.tape->w'.os=w.os->w'.output=w.output->(∀j,j≠b->w'.heap[j]? =w.heap[j]?)->w'.heap[b]? =some (.cells #[.pointer (some ⟨b,0,none⟩),x'] 116 fz)->
   iG E h n w (.ret (.gw [])) (h.set m (some (.AS 116 true x))) n (.returned (.tuple #[])) w':=by
  intro w' Q O h3 h4 h5 h6;refine⟨E,iQ.write g MP iU e1 Q O h3 h4 h5 ⟨rfl,x',fz,h6,k2,k3,k4⟩,fun _ _=>rfl,hd,aK _,⟨[],rfl,rfl⟩⟩
 cases self with
 |true=>
  have h:=Any.Builder_copyCheck_used P5 P6 b w (mz k1);refine h.mono fun en w' ⟨he,hw⟩=>?_;subst he;subst hw;exact P8 w' rfl rfl rfl rfl (fun _ _=>rfl) k1
 |false=>
  have h:=Any.Builder_copyCheck_fresh P5 P6 b w (mz k1) (by unfold World.shape?;rw[k1];rfl) (by
   unfold World.frozen?;simp only[k1];have:=k3 0 H;obtain⟨lo,hi⟩:=fz;simp only at this ⊢;cases hq:(decide (lo<=0)&&decide (0<hi))with
   |false=>rfl
   |true=>simp only[ay,aY]at hq;exact absurd hq this)
  refine h.mono fun en w' ⟨he,hw⟩=>?_;subst he;subst hw;refine P8 _ (by simp[World.setCell]) rfl rfl rfl (fun j hj=>by simp[World.setCell,cR,Ne.symm hj]) ?_;simp[World.setCell,cR,k1]
end Go.Proofs.YtmjggdmekboefaaGreat
