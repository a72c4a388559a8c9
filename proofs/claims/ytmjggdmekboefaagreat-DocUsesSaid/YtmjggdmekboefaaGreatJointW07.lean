/- The Doc laws: filter.Bytes: pieces. No conditions. -/
import Derived.Test.YtmjggdmekboefaaGreatJointW05
import Derived.Test.YtmjggdmekboefaaGreatJointW06
set_option linter.unusedVariables false
set_option linter.unusedSimpArgs false
set_option linter.unusedSectionVars false
namespace Go.Proofs.YtmjggdmekboefaaGreat
open Go Go.Eng
noncomputable abbrev abw:Code:=dG Tryz.f106
noncomputable abbrev WE:Code:=dm 2 abw
noncomputable abbrev aid:Code:=dG Tryz.f63
def Zt(n:Nat)(T:ai)(s:aa)(i:Nat):St:=ff [(3,.str s),(6,.eo false n T),(7,M n),(8,M i)] .nil 0
def dX:ai->List Int
 | .int .i64 x::r=>x::dX r
 |_=>[]
theorem fh:∀l:List Int,dX (dM l)=l
 | []=>rfl
 |x::l=>by
  show x::dX (dM l)=_;rw[fh l]
def fO(l:List Int):aa:=(l.map dK).flatten
def Cx(s:aa):aa:=dK (Int.ofNat s.length)++s
def Fq:ai->Option (ah×V)
 | [.eo n T]=>some ([T=dM (dX T),n=(dX T).length,n<=4000000],.str (fO (dX T)))
 |_=>none
section
variable(n:Nat)
theorem aie(T:ai):dn (U W4 []) [] 0 Tryz.f106 [0,3] (dN 2 abw) (dw [.eo false n T] .nil 0) [([],
   [],
   .to .normal (ff [(0,.eo false n T),(3,.str [])] (W []) 0))]
 :=dh.of C C C
theorem aif(T:ai):dn (U W4 []) [] 0 Tryz.f106 [3,6,7,8] (dB (dB WE)) (ff [(0,.eo false n T),(3,.str [])] .nil 0) [([],
   [],
   .to .normal (Zt n T [] 0))]
 :=dh.of C C C
theorem aih(T:ai)(s:aa)(i:Nat)(v:Int):dn (U W4 []) [(9,.split),(10,.dy (.dr [.int .i64 v])),(16,.dy (M (i+1)))] 0 Tryz.f106 [3,6,7,8] (dD (dD (dP (dB WE)))) (Zt n T s i) [([((decide (Int.ofNat i<Int.ofNat n)),true)],
   [((0:Int)<=Int.ofNat i/\Int.ofNat i<(Int.ofNat n)),(T.length=n*1),(V.dr (dj T (i*1) 1)=V.dr [D.int B v]),(s.length+(dK v).length<=9223372036854775807),(V.int B (IntKind.i64.wrap (Int.ofNat i+(1:Int)))=M (i+1))],
   .to .normal (Zt n T (s++dK v) (i+1))),
  ([((decide (Int.ofNat i<Int.ofNat n)),false)],
   [],
   .to (.exit 0) (Zt n T s i))]
 :=dh.of C C C
theorem aii(T:ai)(s:aa)(i:Nat):dn (U W4 []) [] 0 Tryz.f106 [] (dP WE) (Zt n T s i) [([],
   [],
   .ret (.str s) (W []) 0)]
 :=dh.of C C C
end
theorem aij(f:FL):dn (U (lC 106 (vP Fq) W4) []) [] 0 Tryz.f63 [] (aid) (dw [f.v] .nil 0) [([],
   [([D.int B f.k,D.int B f.r,D.int B (Int.ofNat f.eK.length)].length=3),([D.int B f.k,D.int B f.r,D.int B (Int.ofNat f.eK.length)]=dM (dX [D.int B f.k,D.int B f.r,D.int B (Int.ofNat f.eK.length)])),(3=(dX [D.int B f.k,D.int B f.r,D.int B (Int.ofNat f.eK.length)]).length),(3<=4000000),(dM f.eK=dM (dX (dM f.eK))),(f.eK.length=(dX (dM f.eK)).length),(f.eK.length<=4000000),((fO (dX [D.int B f.k,D.int B f.r,D.int B (Int.ofNat f.eK.length)])).length+(fO (dX (dM f.eK))).length<=9223372036854775807),([D.int B f.dv,D.int B f.vl,D.int B (Int.ofNat f.cu.length)].length=3),([D.int B f.dv,D.int B f.vl,D.int B (Int.ofNat f.cu.length)]=dM (dX [D.int B f.dv,D.int B f.vl,D.int B (Int.ofNat f.cu.length)])),(3=(dX [D.int B f.dv,D.int B f.vl,D.int B (Int.ofNat f.cu.length)]).length),(3<=4000000),((fO (dX [D.int B f.k,D.int B f.r,D.int B (Int.ofNat f.eK.length)])++fO (dX (dM f.eK))).length+(fO (dX [D.int B f.dv,D.int B f.vl,D.int B (Int.ofNat f.cu.length)])).length<=9223372036854775807),(dM f.cu=dM (dX (dM f.cu))),(f.cu.length=(dX (dM f.cu)).length),(f.cu.length<=4000000),((fO (dX [D.int B f.k,D.int B f.r,D.int B (Int.ofNat f.eK.length)])++fO (dX (dM f.eK))++fO (dX [D.int B f.dv,D.int B f.vl,D.int B (Int.ofNat f.cu.length)])).length+(fO (dX (dM f.cu))).length<=9223372036854775807)],
   .ret (.str (fO [f.k,f.r,Int.ofNat f.eK.length]++fO (dX (dM f.eK))++fO [f.dv,f.vl,Int.ofNat f.cu.length]++fO (dX (dM f.cu)))) (W []) 0)]
 :=dh.of C C C
theorem wN{l:List Int}{i:Nat}{v:Int}(h:l[i]? =some v):fO (l.take (i+1))=fO (l.take i)++dK v:=by
 unfold fO;rw[b9,h];simp
theorem jt:∀l:List Int,(fO l).length<=10*l.length
 | []=>by simp[fO]
 |x::l=>by
  have:=jt l;have h:=(gj x).2;unfold fO at this ⊢;simp only[cC,List.flatten_cons,aJ,aR];omega
theorem abx(l:List Int)(hl:l.length<=4000000):dS ak 106 [fg l] (.str (fO l)):=by
 refine eV Tryz.func106 ?_;refine fu 2 qA (aie l.length (dM l)) all_nil ?_;refine pZ qA 0 _ [3,6,7,8] (l.length-·) (. <=l.length) (fun i=>Zt l.length (dM l) (fO (l.take i)) i) 0 (aS _) (aif _ _) all_nil .refl fun i hi=>?_;refine⟨_,qA,[],_,_,aih _ _ _ i (l.getD i 0),dz (g1 fun h=>?_) (dA (g1 fun h=>⟨all_nil,rfl,?_⟩))⟩
 . have eM:=ko h;obtain⟨v,hv⟩:∃v,l[i]? =some v:=⟨_,au eM⟩;have ev:l.getD i 0=v:=by rw[ax,hv];rfl
   rw[ev];have Q:=jt (l.take i);have R:=(gj v).2;rw[bn]at Q;refine⟨J (iM eM) (J (ew l) (J (tc hv) (J G (eC (gJ G))))),i+1,wJ eM,eM,?_⟩;rw[<- wN hv];exact .refl
 . obtain rfl:i=l.length:=by have:=tF h;omega
   rw[bD];exact eI qA (aii _ _ _ _) (dA (g0 ⟨all_nil,_,_,_,rfl,rfl⟩))
theorem Pq:kE ak 106 (vP Fq):=by
 refine x8 C fun ds s' v e hA=>?_;unfold Fq at e;split at e
 case h_2=>cases e
 rename_i n T;obtain⟨rfl,rfl⟩:=sm e;have Q:T=dM (dX T):=hA _ (by simp);have R:n=(dX T).length:=hA (n=(dX T).length) (by simp);have h3:n<=4000000:=hA (n<=4000000) (by simp);generalize dX T=l at *;subst Q R;exact abx l h3
def fT(f:FL):aa:=fO [f.k,f.r,Int.ofNat f.eK.length]++fO f.eK++fO [f.dv,f.vl,Int.ofNat f.cu.length]++fO f.cu
theorem JD(f:FL):(fT f).length<=60+10*f.eK.length+10*f.cu.length:=by
 have Q:=jt [f.k,f.r,Int.ofNat f.eK.length];have R:=jt f.eK;have h3:=jt [f.dv,f.vl,Int.ofNat f.cu.length];have h4:=jt f.cu;simp only[aR,bU]at Q h3;unfold fT;simp only[aJ];omega
theorem Pr(f:FL)(Q:f.eK.length<=2000000)(R:f.cu.length<=2000000):dS ak 63 [f.v] (.str (fT f)):=by
 refine eV Tryz.func63 ?_;have hr:=aij f;have e1:=jt [f.k,f.r,Int.ofNat f.eK.length];have e2:=jt f.eK;have e3:=jt [f.dv,f.vl,Int.ofNat f.cu.length];have e4:=jt f.cu;simp only[aR,bU]at e1 e3;have i3:∀a b c:Int,dX [D.int B a,D.int B b,D.int B c]=[a,b,c]:=fun _ _ _=>rfl;simp only[fh,i3]at hr;refine eI (fQ Pq qA) hr (dA (g0 ⟨?_,_,_,_,rfl,rfl⟩))
 repeat' (first|exact all_nil|refine J ?_ ?_)
 all_goals first|rfl|omega|(simp only[aJ]<;>omega)
noncomputable abbrev Dt:Code:=dG Tryz.f29
noncomputable abbrev Ps:Code:=dG Tryz.f57
noncomputable abbrev W6:gy:=lC 104 JC (lC 106 (vP Fq) W4)
theorem p7:eR ak W6:=fQ WD (fQ Pq qA)
def WH(l:eG)(fl:Int)(n:Nat)(s:aa):St:=ff [(1,.ptr (some (0,0))),(3,L fl),(6,.ptr (some (1,0))),(7,.fn (.func 57) [] [.ptr (some (1,0))])] (W [(0,.cells l.T),(1,.Az 116 true (.eS (some (2,0)) n n 1)),(2,.tr 5 false s)]) 3
abbrev UO(l:eG)(fl:Int)(s:aa):St:=WH l fl s.length s
def ap(s t:aa):aa:=s++ir (fS t)
theorem x9(s t:aa):ap s t=s++t:=by unfold ap;rw[jW]
def flg(a b c:Bool):Int:=(if a then 1 else 0)+((if b then 2 else 0)+(if c then 4 else 0))
theorem ail(l:eG):dn (U W6 []) [] 0 Tryz.f29 [1,3] (dN 2 Dt) (dw [l.v] .nil 0) [([],
   [],
   .to .normal (ff [(1,.ptr (some (0,0))),(3,L 0)] (W [(0,.cells l.T)]) 1))]
 :=dh.of C C C
theorem aim(l:eG):dn (U W6 []) [] 0 Tryz.f29 [1,3] (dN 1 (dm 2 Dt)) (ff [(1,.ptr (some (0,0))),(3,L 0)] (W [(0,.cells l.T)]) 1) [([],[],.to .normal (ff [(1,.ptr (some (0,0))),(3,L (flg l.hid l.clip l.S))] (W [(0,.cells l.T)]) 1))]:=by
 obtain⟨_,_,_,a,_,_,b,_,_,_,_,_,_,_,_,c,_⟩:=l;cases a<;>cases b<;>cases c<;>exact dh.of C C C
theorem ain(l:eG)(fl:Int):dn (U W6 []) [] 0 Tryz.f29 [1,3,6,7] (dN 3 (dm 3 Dt)) (ff [(1,.ptr (some (0,0))),(3,L fl)] (W [(0,.cells l.T)]) 1) [([],
   [((0:Int)<=(0:Int)/\(0:Int)<(2:Int)),(0<(dK l.id).length),(fo (dK l.id).length 1 1=true),((0:Int)<=(1:Int)/\(1:Int)<(2:Int)),(0<(dK l.id).length),((dK l.id).length=(dK l.id).length),(fo ((dK l.id).length+(dK l.kd).length) 1 1=true)],
   .to .normal (WH l fl ((dK l.id).length+(dK l.kd).length) (ap (dK l.id) (dK l.kd))))]
 :=dh.of C C C
theorem aio(l:eG)(fl:Int)(s:aa):dn (U W6 []) [] 0 Tryz.f29 [1,3,6,7] (dN 1 (dm 6 Dt)) (UO l fl s) [([],
   [((dK (Int.ofNat l.nm.length)).length+l.nm.length<=9223372036854775807),((dK (Int.ofNat l.nm.length)++l.nm).length+(Ct fl).length<=9223372036854775807),(0<s.length),(s.length=s.length),(fo (s.length+(dK (Int.ofNat l.nm.length)++l.nm++Ct fl).length) 1 1=true)],
   .to .normal (WH l fl (s.length+(Cx l.nm++Ct fl).length) (ap s (Cx l.nm++Ct fl))))]
 :=dh.of C C C
theorem aip(l:eG)(fl:Int)(s:aa):dn (U W6 []) [] 0 Tryz.f29 [1,3,6,7] (dN 1 (dm 7 Dt)) (UO l fl s) [([],
   [((0:Int)<=(0:Int)/\(0:Int)<(2:Int)),(0<s.length),(s.length=s.length),(fo (s.length+(dK l.op).length) 1 1=true),((0:Int)<=(1:Int)/\(1:Int)<(2:Int)),(0<s.length+(dK l.op).length),(s.length+(dK l.op).length=(s++ir (fS (dK l.op))).length),(fo (s.length+(dK l.op).length+(dK l.md).length) 1 1=true)],
   .to .normal (WH l fl (s.length+(dK l.op).length+(dK l.md).length) (ap (ap s (dK l.op)) (dK l.md))))]
 :=dh.of C C C
theorem aiq(l:eG)(fl:Int)(s:aa):dn (U W6 []) [] 0 Tryz.f29 [1,3,6,7] (dN 1 (dm 8 Dt)) (UO l fl s) [([],
   [((0:Int)<=(0:Int)/\(0:Int)<(1:Int)),(0<s.length),(s.length=s.length),(fo (s.length+(dK l.pl.a).length) 1 1=true),((0:Int)<=(0:Int)/\(0:Int)<(1:Int)),(0<s.length+(dK l.pl.a).length),(s.length+(dK l.pl.a).length=(s++ir (fS (dK l.pl.a))).length),(fo (s.length+(dK l.pl.a).length+(dK l.pl.b).length) 1 1=true),((0:Int)<=(0:Int)/\(0:Int)<(1:Int)),(0<s.length+(dK l.pl.a).length+(dK l.pl.b).length),(s.length+(dK l.pl.a).length+(dK l.pl.b).length=(s++ir (fS (dK l.pl.a))++ir (fS (dK l.pl.b))).length),(fo (s.length+(dK l.pl.a).length+(dK l.pl.b).length+(dK l.pl.c).length) 1 1=true),((0:Int)<=(0:Int)/\(0:Int)<(1:Int)),(0<s.length+(dK l.pl.a).length+(dK l.pl.b).length+(dK l.pl.c).length),(s.length+(dK l.pl.a).length+(dK l.pl.b).length+(dK l.pl.c).length=(s++ir (fS (dK l.pl.a))++ir (fS (dK l.pl.b))++ir (fS (dK l.pl.c))).length),(fo (s.length+(dK l.pl.a).length+(dK l.pl.b).length+(dK l.pl.c).length+(dK l.pl.d).length) 1 1=true),((0:Int)<=(0:Int)/\(0:Int)<(1:Int)),(0<s.length+(dK l.pl.a).length+(dK l.pl.b).length+(dK l.pl.c).length+(dK l.pl.d).length),(s.length+(dK l.pl.a).length+(dK l.pl.b).length+(dK l.pl.c).length+(dK l.pl.d).length=(s++ir (fS (dK l.pl.a))++ir (fS (dK l.pl.b))++ir (fS (dK l.pl.c))++ir (fS (dK l.pl.d))).length),(fo (s.length+(dK l.pl.a).length+(dK l.pl.b).length+(dK l.pl.c).length+(dK l.pl.d).length+(dK l.pl.e).length) 1 1=true),((0:Int)<=(0:Int)/\(0:Int)<(1:Int)),(0<s.length+(dK l.pl.a).length+(dK l.pl.b).length+(dK l.pl.c).length+(dK l.pl.d).length+(dK l.pl.e).length),(s.length+(dK l.pl.a).length+(dK l.pl.b).length+(dK l.pl.c).length+(dK l.pl.d).length+(dK l.pl.e).length=(s++ir (fS (dK l.pl.a))++ir (fS (dK l.pl.b))++ir (fS (dK l.pl.c))++ir (fS (dK l.pl.d))++ir (fS (dK l.pl.e))).length),(fo (s.length+(dK l.pl.a).length+(dK l.pl.b).length+(dK l.pl.c).length+(dK l.pl.d).length+(dK l.pl.e).length+(dK l.pl.f).length) 1 1=true),((0:Int)<=(0:Int)/\(0:Int)<(1:Int)),(0<s.length+(dK l.pl.a).length+(dK l.pl.b).length+(dK l.pl.c).length+(dK l.pl.d).length+(dK l.pl.e).length+(dK l.pl.f).length),(s.length+(dK l.pl.a).length+(dK l.pl.b).length+(dK l.pl.c).length+(dK l.pl.d).length+(dK l.pl.e).length+(dK l.pl.f).length=(s++ir (fS (dK l.pl.a))++ir (fS (dK l.pl.b))++ir (fS (dK l.pl.c))++ir (fS (dK l.pl.d))++ir (fS (dK l.pl.e))++ir (fS (dK l.pl.f))).length),(fo (s.length+(dK l.pl.a).length+(dK l.pl.b).length+(dK l.pl.c).length+(dK l.pl.d).length+(dK l.pl.e).length+(dK l.pl.f).length+(dK l.pl.n).length) 1 1=true)],
   .to .normal (WH l fl (s.length+(dK l.pl.a).length+(dK l.pl.b).length+(dK l.pl.c).length+(dK l.pl.d).length+(dK l.pl.e).length+(dK l.pl.f).length+(dK l.pl.n).length) (ap (ap (ap (ap (ap (ap (ap s (dK l.pl.a)) (dK l.pl.b)) (dK l.pl.c)) (dK l.pl.d)) (dK l.pl.e)) (dK l.pl.f)) (dK l.pl.n))))]
 :=dh.of C C C
theorem air(l:eG)(fl:Int)(s:aa):dn (U W6 []) [] 0 Tryz.f29 [1,3,6,7] (dN 1 (dm 9 Dt)) (UO l fl s) [([],
   [((0:Int)<=(0:Int)/\(0:Int)<(2:Int)),(0<s.length),(s.length=s.length),(fo (s.length+(dK l.sp).length) 1 1=true),((0:Int)<=(1:Int)/\(1:Int)<(2:Int)),(0<s.length+(dK l.sp).length),(s.length+(dK l.sp).length=(s++ir (fS (dK l.sp))).length),(fo (s.length+(dK l.sp).length+(dK (Int.ofNat l.kids.length)).length) 1 1=true)],
   .to .normal (WH l fl (s.length+(dK l.sp).length+(dK (Int.ofNat l.kids.length)).length) (ap (ap s (dK l.sp)) (dK (Int.ofNat l.kids.length)))))]
 :=dh.of C C C
section
variable(n:Nat)
def sHr(l:eG)(n:Nat)(s:aa):St:=ff [(1,.ptr (some (0,0))),(6,.ptr (some (1,0))),(7,.fn (.func 57) [] [.ptr (some (1,0))])] (W [(0,.cells l.T),(1,.Az 116 true (.eS (some (2,0)) n n 1)),(2,.tr 5 false s)]) 3
def Zu(c:C4):aa:=[UInt8.ofNat c.r.toNat,UInt8.ofNat c.g.toNat,UInt8.ofNat c.b.toNat,UInt8.ofNat c.a.toNat]
def WI(T:ai)(i m:Nat)(s:aa):St:=ff [(6,.ptr (some (0,0))),(7,.fn (.func 57) [] [.ptr (some (0,0))]),(105,.eo false n T),(106,M n),(107,M i)] (W [(0,.Az 116 true (.eS (some (1,0)) m m 1)),(1,.tr 5 false s)]) 2
noncomputable abbrev WJ:Code:=dm 15 Dt
def Rk(l:eG)(s:aa):I O:=W [(0,.cells l.T),(1,.Az 116 true (.eS (some (2,0)) s.length s.length 1)),(2,.tr 5 false s)]
def hHe(l:eG)(n:Nat)(s:aa):I O:=W [(0,.cells l.T),(1,.Az 116 true (.eS (some (3,0)) n n 1)),(3,.tr 5 false s)]
def fPc(T:ai)(i:Nat):List (Nat×V):=[(1,.ptr (some (1,0))),(5,.eo false n T),(6,M n),(7,M i)]
def sP2(l:eG)(n:Nat)(T:ai)(i:Nat)(s:aa):St:=ff (fPc n T i) (Rk l s) 3
def WK(l:eG)(n:Nat)(T:ai)(i m:Nat)(s:aa):St:=ff (fPc n T i) (hHe l m s) 4
noncomputable abbrev abz:Code:=dP Ps
theorem ait(l:eG)(n:Nat)(T:ai)(s:aa):dn (U W6 []) [] 3 Tryz.f57 [1,5,6,7] (dB Ps) (dw [.eo false n T,.ptr (some (1,0))] (Rk l s) 3) [([],
   [],
   .to .normal (sP2 l n T 0 s))]
 :=dh.of C C C
theorem aiu(l:eG)(n:Nat)(T:ai)(i:Nat)(s:aa)(v:Int):∃iX,xZ ak (U W6 []) [(8,.split),(9,.dy (.dr [.int .i64 v])),(14,.dy (M (i+1)))] 1000 3 Tryz.f57 [1,5,6,7] 0 (dD (dD abz)) (sP2 l n T i s) iX
  [([((decide (Int.ofNat i<Int.ofNat n)),true)],
   [((0:Int)<=Int.ofNat i/\Int.ofNat i<(Int.ofNat n)),(T.length=n*1),(V.dr (dj T (i*1) 1)=V.dr [D.int B v]),(0<s.length),(s.length=s.length),(fo (s.length+(dK v).length) 1 1=true),(V.int B (IntKind.i64.wrap (Int.ofNat i+(1:Int)))=M (i+1))],
   .to .normal (WK l n T (i+1) (s.length+(dK v).length) (ap s (dK v)))),
  ([((decide (Int.ofNat i<Int.ofNat n)),false)],
   [],
   .ret (.gC []) (Rk l s) 3)]
 :=xZ.of C C C
theorem aiv(l:eG)(n:Nat)(T:ai)(i:Nat)(s:aa)(v:Int):∃iX,xZ ak (U W6 []) [(8,.split),(9,.dy (.dr [.int .i64 v])),(14,.dy (M (i+1)))] 1000 3 Tryz.f57 [1,5,6,7] 0 (dD (dD abz)) (WK l n T i s.length s) iX
  [([((decide (Int.ofNat i<Int.ofNat n)),true)],
   [((0:Int)<=Int.ofNat i/\Int.ofNat i<(Int.ofNat n)),(T.length=n*1),(V.dr (dj T (i*1) 1)=V.dr [D.int B v]),(0<s.length),(s.length=s.length),(fo (s.length+(dK v).length) 1 1=true),(V.int B (IntKind.i64.wrap (Int.ofNat i+(1:Int)))=M (i+1))],
   .to .normal (WK l n T (i+1) (s.length+(dK v).length) (ap s (dK v)))),
  ([((decide (Int.ofNat i<Int.ofNat n)),false)],
   [],
   .ret (.gC []) (hHe l s.length s) 4)]
 :=xZ.of C C C
theorem aiw(l:eG)(fl:Int)(s t:aa):dn (U (V3 57 [fg l.kids,.ptr (some (1,0))] (Rk l s) 3 (.gC []) (hHe l t.length t) 4 W6) []) [] 0 Tryz.f29 [1,3,6,7] (dN 1 (dm 10 Dt)) (UO l fl s) [([],
   [(agH [fg l.kids,.ptr (some (1,0))] (Rk l s) 3)],
   .to .normal (UO l fl t))]
 :=dh.of C C C
theorem aix(l:eG)(fl:Int)(s b:aa):dn (U (eZ 63 [l.f.v] (.str b) W6) []) [] 0 Tryz.f29 [1,6,7] (dN 4 (dm 11 Dt)) (UO l fl s) [([],
   [((0:Int)<=(0:Int)/\(0:Int)<(1:Int)),(0<s.length),(s.length=s.length),(fo (s.length+(dK l.of).length) 1 1=true),(eY [l.f.v]),(0<s.length+(dK l.of).length),(s.length+(dK l.of).length=(s++ir (fS (dK l.of))).length),(fo (s.length+(dK l.of).length+b.length) 1 1=true),(0<s.length+(dK l.of).length+b.length),(s.length+(dK l.of).length+b.length=(s++ir (fS (dK l.of))++ir (fS b)).length),(fo (s.length+(dK l.of).length+b.length+4) 1 1=true),((0:Int)<=(0:Int)/\(0:Int)<(1:Int)),(0<s.length+(dK l.of).length+b.length+4),(s.length+(dK l.of).length+b.length+4=(s++ir (fS (dK l.of))++ir (fS b)++[UInt8.ofNat l.fi.r.toNat,UInt8.ofNat l.fi.g.toNat,UInt8.ofNat l.fi.b.toNat,UInt8.ofNat l.fi.a.toNat]).length),(fo (s.length+(dK l.of).length+b.length+4+(dK (Int.ofNat l.gU.length)).length) 1 1=true)],
   .to .normal (sHr l (s.length+(dK l.of).length+b.length+4+(dK (Int.ofNat l.gU.length)).length) (ap (ap (ap s (dK l.of)) b++Zu l.fi) (dK (Int.ofNat l.gU.length)))))]
 :=dh.of C C C
theorem aiy(l:eG)(s:aa):dn (U W6 []) [] 0 Tryz.f29 [6,7,105,106,107] (dB (dB WJ)) (sHr l s.length s) [([],
   [],
   .to .normal (WI l.gU.length (qO l.gU) 0 s.length s))]
 :=dh.of C C C
theorem aiz(T:ai)(i:Nat)(s:aa)(x y:Int):dn (U W6 []) [(108,.split),(109,.dy (.dr [.int .i64 x,.int .i64 y])),(118,.dy (M (i+1)))] 0 Tryz.f29 [6,7,105,106,107] (dD (dD (dP (dB WJ)))) (WI n T i s.length s) [([((decide (Int.ofNat i<Int.ofNat n)),true)],
   [((0:Int)<=Int.ofNat i/\Int.ofNat i<(Int.ofNat n)),(T.length=n*2),(V.dr (dj T (i*2) 2)=V.dr [D.int B x,D.int B y]),((0:Int)<=(0:Int)/\(0:Int)<(2:Int)),(0<s.length),(s.length=s.length),(fo (s.length+(dK x).length) 1 1=true),((0:Int)<=(1:Int)/\(1:Int)<(2:Int)),(0<s.length+(dK x).length),(s.length+(dK x).length=(s++ir (fS (dK x))).length),(fo (s.length+(dK x).length+(dK y).length) 1 1=true),(V.int B (IntKind.i64.wrap (Int.ofNat i+(1:Int)))=M (i+1))],
   .to .normal (WI n T (i+1) (s.length+(dK x).length+(dK y).length) (ap (ap s (dK x)) (dK y)))),
  ([((decide (Int.ofNat i<Int.ofNat n)),false)],
   [],
   .to (.exit 4) (WI n T i s.length s))]
 :=dh.of C C C
theorem aiA(T:ai)(i:Nat)(s:aa):dn (U W6 []) [] 0 Tryz.f29 [] (dP WJ) (WI n T i s.length s) [([],
   [(0<s.length),((Int.ofNat s.length)=(Int.ofNat s.length)/\0<s.length),(s.length<=9223372036854775807)],
   .ret (.str s) (W []) 0)]
 :=dh.of C C C
end
def wO(l:List (Int×Int)):aa:=(l.map fun p=>dK p.1++dK p.2).flatten
def HD(p:P7):aa:=dK p.a++dK p.b++dK p.c++dK p.d++dK p.e++dK p.f++dK p.n
def K0(l:eG):aa:=dK l.id++dK l.kd++(Cx l.nm++Ct (flg l.hid l.clip l.S))++dK l.op++dK l.md++HD l.pl++dK l.sp++dK (Int.ofNat l.kids.length)++fO l.kids++dK l.of++fT l.f++Zu l.fi++dK (Int.ofNat l.gU.length)++wO l.gU
structure okL(l:eG):Prop where
 nm:l.nm.length<=2000000
 kids:l.kids.length<=2000000
 eK:l.f.eK.length<=2000000
 cu:l.f.cu.length<=2000000
 gU:l.gU.length<=2000000
theorem A9(l:List (Int×Int)):(qO l).length=l.length*2:=rR (f:=fun p:Int×Int=>[D.int .i64 p.1,D.int .i64 p.2]) (fun _=>rfl) l
theorem Pt{l:List (Int×Int)}{i:Nat}{p:Int×Int}(h:l[i]? =some p):V.dr (dj (qO l) (i*2) 2)= .dr [.int .i64 p.1,.int .i64 p.2]:=by
 have eM:i<l.length:=(aO.1 h).1;have hv:l[i]=p:=(aO.1 h).2;rw[<- hv];exact aH _ (rS (f:=fun p:Int×Int=>[D.int .i64 p.1,D.int .i64 p.2]) (fun _=>rfl) l i eM)
theorem Mu{l:List (Int×Int)}{i:Nat}{p:Int×Int}(h:l[i]? =some p):wO (l.take (i+1))=wO (l.take i)++(dK p.1++dK p.2):=by
 unfold wO;rw[b9,h];simp
theorem HE:∀l:List (Int×Int),(wO l).length<=20*l.length
 | []=>by simp[wO]
 |p::l=>by
  have:=HE l;have h:=(gj p.1).2;have h':=(gj p.2).2;unfold wO at this ⊢;simp only[cC,List.flatten_cons,aJ,aR];omega
theorem aiC(l:eG)(s:aa)(h0:0<s.length)(Q:s.length<=100000000)(R:l.kids.length<=2000000):jE ak 57 [fg l.kids,.ptr (some (1,0))] (Rk l s) 3 (.gC []) (hHe l (s++fO l.kids).length (s++fO l.kids)) 4:=by
 have key:∀(h2:V->I O->Nat->Prop),(l.kids=[]->h2 (.gC []) (Rk l s) 3)->(l.kids≠[]->h2 (.gC []) (hHe l (s++fO l.kids).length (s++fO l.kids)) 4)->TG ak 3 Tryz.f57.ntmps Ps (dw [fg l.kids,.ptr (some (1,0))] (Rk l s) 3) (fD ak 3 Tryz.f57 h2):=by
  intro h2 r0 r1;refine dI C (gz p7 eH (ait l l.kids.length (dM l.kids) s) (dA (g0 ⟨all_nil,fun A dU=>?_⟩)));simp only[andThen];refine zl (α:=Nat) 0 (l.kids.length-·) (. <=l.kids.length) (fun i=>match i with
   |0=>sP2 l l.kids.length (dM l.kids) 0 s
   |j+1=>WK l l.kids.length (dM l.kids) (j+1) (s++fO (l.kids.take (j+1))).length (s++fO (l.kids.take (j+1)))) C C 0 (aS _) (.norm dU) fun i hi=>?_
  have Mr:∀A,fD ak 3 Tryz.f57 h2 .normal A->gw 0 (fD ak 3 Tryz.f57 h2) (.exit 0) A:=fun A h=>by rw[gW];exact h
  have SC:∀A,fD ak 3 Tryz.f57 h2 .ret A->gw 0 (fD ak 3 Tryz.f57 h2) .ret A:=fun A h=>by simpa[gw]using h
  have Ra:=jt (l.kids.take i);rw[bn]at Ra;cases i with
  |zero=>
   obtain⟨iX,hr⟩:=aiu l l.kids.length (dM l.kids) 0 s (l.kids.getD 0 0);refine OI 0 (XH p7 []) mo h2 C hr Mr (dz (g1 fun h=>?_) (dA (g1 fun h=>⟨all_nil,r0 ?_,SC⟩)))
   . have eM:=ko h;obtain⟨v,hv⟩:∃v,l.kids[0]? =some v:=⟨_,au eM⟩;have ev:l.kids.getD 0 0=v:=by rw[ax,hv];rfl
     rw[ev];have hb:=(gj v).2;refine⟨J (iM eM) (J (ew _) (J (tc hv) (J h0 (J rfl (J (kZ G) (eC (gJ G))))))),fun s2 qV=>⟨1,by show l.kids.length-1<l.kids.length-0;omega,eM,?_⟩⟩;have e:fO (l.kids.take 1)=dK v:=by rw[wN hv];rfl
     show dZ _ _ _ _ (WK l l.kids.length (dM l.kids) (0+1) (s++fO (l.kids.take 1)).length (s++fO (l.kids.take 1)));rw[e,aJ,<- x9];exact .norm qV
   . have:=tF h;exact List.length_eq_zero_iff.1 G
  |succ j=>
   generalize hu:s++fO (l.kids.take (j+1))=u;have hul:u.length=s.length+(fO (l.kids.take (j+1))).length:=by rw[<- hu,aJ]
   obtain⟨iX,hr⟩:=aiv l l.kids.length (dM l.kids) (j+1) u (l.kids.getD (j+1) 0);show TG _ _ _ _ (WK l l.kids.length (dM l.kids) (j+1) (s++fO (l.kids.take (j+1))).length (s++fO (l.kids.take (j+1)))) _;rw[hu];refine OI 0 (XH p7 []) mo h2 C hr Mr (dz (g1 fun h=>?_) (dA (g1 fun h=>⟨all_nil,?_,SC⟩)))
   . have eM:=ko h;obtain⟨v,hv⟩:∃v,l.kids[j+1]? =some v:=⟨_,au eM⟩;have ev:l.kids.getD (j+1) 0=v:=by rw[ax,hv];rfl
     rw[ev];have hb:=(gj v).2;refine⟨J (iM eM) (J (ew _) (J (tc hv) (J G (J rfl (J (kZ G) (eC (gJ G))))))),fun s2 qV=>⟨j+1+1,by show l.kids.length-(j+1+1)<l.kids.length-(j+1);omega,eM,?_⟩⟩;show dZ _ _ _ _ (WK l l.kids.length (dM l.kids) (j+1+1) (s++fO (l.kids.take (j+1+1))).length (s++fO (l.kids.take (j+1+1))));rw[wN hv,<- List.append_assoc,hu,aJ,<- x9];exact .norm qV
   . have:=tF h;have e:j+1=l.kids.length:=by omega
     rw[e,bD]at hu;rw[<- hu];exact r1 fun q=>by rw[q]at e;cases e
 by_cases Y:l.kids=[]
 . have c:jE ak 57 [fg l.kids,.ptr (some (1,0))] (Rk l s) 3 (.gC []) (Rk l s) 3:=fun E w dF ra g hd=>
    sY mo po Tryz.func57 (code:=Ps) C C _ _ _ (key _ (fun _=>⟨rfl,rfl,rfl⟩) (fun h=>absurd Y h)) ra g hd
   have e:s++fO l.kids=s:=by rw[Y];simp[fO]
   rw[e];exact c.mov 2 C
 . exact fun E w dF ra g hd=>sY mo po Tryz.func57 (code:=Ps) C C _ _ _ (key _ (fun h=>absurd h Y) (fun _=>⟨rfl,rfl,rfl⟩)) ra g hd
theorem Cy{l:eG}{fl:Int}{n:Nat}{s t:aa}(e:s=t)(h:n=t.length):WH l fl n s=UO l fl t:=by rw[e,h]
theorem headD(l:eG)(h:okL l):dS ak 29 [l.v] (.str (K0 l)):=by
 refine eV Tryz.func29 ?_;have a1:=gj l.id;have a2:=jt l.kids;have a3:=JD l.f;have a5:=gj l.kd;have a6:=gj (Int.ofNat l.nm.length);have a7:=gj l.op;have a8:=gj l.md;have a9:=gj l.sp;have b1:=gj (Int.ofNat l.kids.length);have b2:=gj l.of;have b3:=gj (Int.ofNat l.gU.length);have c1:=gj l.pl.a;have c2:=gj l.pl.b;have c3:=gj l.pl.c;have c4:=gj l.pl.d;have c5:=gj l.pl.e;have c6:=gj l.pl.f;have c7:=gj l.pl.n;obtain⟨d1,d2,d3,d4,d5⟩:=h;generalize VK:flg l.hid l.clip l.S=fl;have p1:(Ct fl).length=1:=rfl;have p2:(Zu l.fi).length=4:=rfl;have hT:(Cx l.nm++Ct fl).length=(dK (Int.ofNat l.nm.length)).length+l.nm.length+1:=by unfold Cx;rw[aJ,aJ,p1]
 have hT':(dK (Int.ofNat l.nm.length)++l.nm++Ct fl).length=(dK (Int.ofNat l.nm.length)).length+l.nm.length+1:=hT;have hT2:(dK (Int.ofNat l.nm.length)++l.nm).length=(dK (Int.ofNat l.nm.length)).length+l.nm.length:=aJ ..;refine fu 2 p7 (ail l) all_nil (fu 1 p7 (aim l) all_nil ?_);rw[VK,gO];refine fu 3 p7 (ain l fl) ?_ ?_
 . repeat' (first|exact all_nil|refine J ?_ ?_)
   all_goals first|decide|exact kZ G|omega
 rw[gO,Cy (t:=dK l.id++dK l.kd) (x9 _ _) (by rw[aJ])];generalize pG:dK l.id++dK l.kd=s1;have l1:s1.length=(dK l.id).length+(dK l.kd).length:=by rw[<- pG,aJ]
 refine fu 1 p7 (aio l fl s1) ?_ ?_
 . repeat' (first|exact all_nil|refine J ?_ ?_)
   all_goals first|exact kZ G|omega
 rw[gO,Cy (t:=s1++(Cx l.nm++Ct fl)) (x9 _ _) (by simp only[aJ])];generalize qV:s1++(Cx l.nm++Ct fl)=s2;have l2:s2.length=s1.length+((dK (Int.ofNat l.nm.length)).length+l.nm.length+1):=by rw[<- qV,aJ,hT]
 refine fu 1 p7 (aip l fl s2) ?_ ?_
 . repeat' (first|exact all_nil|refine J ?_ ?_)
   all_goals first|decide|exact kZ G|omega|(simp only[jW,aJ]<;>omega)
 rw[gO,Cy (t:=s2++dK l.op++dK l.md) (by simp only[x9]) (by simp only[aJ])];generalize KY:s2++dK l.op++dK l.md=s3;have l3:s3.length=s2.length+(dK l.op).length+(dK l.md).length:=by rw[<- KY];simp only[aJ]
 refine fu 1 p7 (aiq l fl s3) ?_ ?_
 . repeat' (first|exact all_nil|refine J ?_ ?_)
   all_goals first|decide|exact kZ G|omega|(simp only[jW,aJ]<;>omega)
 rw[gO,Cy (t:=s3++HD l.pl) (by unfold HD;simp only[x9,List.append_assoc]) (by unfold HD;simp only[aJ];omega)];have lp:(HD l.pl).length=(dK l.pl.a).length+(dK l.pl.b).length+(dK l.pl.c).length+(dK l.pl.d).length+(dK l.pl.e).length+(dK l.pl.f).length+(dK l.pl.n).length:=by unfold HD;simp only[aJ]
 generalize hs4:s3++HD l.pl=s4;have l4:s4.length=s3.length+(HD l.pl).length:=by rw[<- hs4,aJ]
 refine fu 1 p7 (air l fl s4) ?_ ?_
 . repeat' (first|exact all_nil|refine J ?_ ?_)
   all_goals first|decide|exact kZ G|omega|(simp only[jW,aJ]<;>omega)
 rw[gO,Cy (t:=s4++dK l.sp++dK (Int.ofNat l.kids.length)) (by simp only[x9]) (by simp only[aJ])];generalize hs5:s4++dK l.sp++dK (Int.ofNat l.kids.length)=s5;have l5:s5.length=s4.length+(dK l.sp).length+(dK (Int.ofNat l.kids.length)).length:=by rw[<- hs5];simp only[aJ]
 refine fu 1 (Sg (az C) (aiC l s5 G G d2) p7) (aiw l fl s5 (s5++fO l.kids)) (eC ⟨rfl,rfl,rfl⟩) ?_;rw[gO];generalize hs6:s5++fO l.kids=s6;have l6:s6.length=s5.length+(fO l.kids).length:=by rw[<- hs6,aJ]
 refine fu 4 (fj (Pr l.f d3 d4) p7) (aix l fl s6 (fT l.f)) ?_ ?_
 . repeat' (first|exact all_nil|refine J ?_ ?_)
   all_goals first|decide|rfl|exact kZ G|omega|(simp only[jW,aJ,aR,bU]<;>omega)
 rw[gO];have e7:ap (ap (ap s6 (dK l.of)) (fT l.f)++Zu l.fi) (dK (Int.ofNat l.gU.length))=s6++dK l.of++fT l.f++Zu l.fi++dK (Int.ofNat l.gU.length):=by simp only[x9]
 rw[e7];generalize hs7:s6++dK l.of++fT l.f++Zu l.fi++dK (Int.ofNat l.gU.length)=s7;have l7:s7.length=s6.length+(dK l.of).length+(fT l.f).length+4+(dK (Int.ofNat l.gU.length)).length:=by rw[<- hs7];simp only[aJ,p2]
 rw[<- l7];have Mr:K0 l=s7++wO l.gU:=by
  unfold K0;rw[VK,pG,qV,KY,hs4,hs5,hs6,hs7]
 refine pZ p7 4 _ [6,7,105,106,107] (l.gU.length-·) (. <=l.gU.length) (fun i=>WI l.gU.length (qO l.gU) i (s7++wO (l.gU.take i)).length (s7++wO (l.gU.take i))) 0 (aS _) (aiy l s7) all_nil (by simp only[List.take_zero,wO,List.map_nil,List.flatten_nil,List.append_nil];exact .refl) fun i hi=>?_;have vp:=HE (l.gU.take i);rw[bn]at vp;generalize hu:s7++wO (l.gU.take i)=u;have lu:u.length=s7.length+(wO (l.gU.take i)).length:=by rw[<- hu,aJ]
 refine⟨_,p7,[],_,_,aiz l.gU.length (qO l.gU) i u (l.gU.getD i (0,0)).1 (l.gU.getD i (0,0)).2,dz (g1 fun h=>?_) (dA (g1 fun h=>⟨all_nil,rfl,?_⟩))⟩
 . have eM:=ko h;obtain⟨p,hp⟩:∃p,l.gU[i]? =some p:=⟨_,au eM⟩;have ev:l.gU.getD i (0,0)=p:=by rw[ax,hp];rfl
   rw[ev];have q1:=gj p.1;have q2:=gj p.2;have mR:=Pt hp;refine⟨?_,i+1,wJ eM,eM,?_⟩
   . repeat' (first|exact all_nil|refine J ?_ ?_)
     all_goals first|decide|exact iM eM|exact A9 _|exact mR|exact kZ G|exact gJ G|omega|(simp only[jW,aJ]<;>omega)
   . show dZ _ _ _ _ (WI l.gU.length (qO l.gU) (i+1) (s7++wO (l.gU.take (i+1))).length (s7++wO (l.gU.take (i+1))));rw[Mu hp,<- List.append_assoc,hu];have e:ap (ap u (dK p.1)) (dK p.2)=u++(dK p.1++dK p.2):=by simp only[x9,List.append_assoc]
     have e2:u.length+(dK p.1).length+(dK p.2).length=(u++(dK p.1++dK p.2)).length:=by simp only[aJ];omega
     rw[e,e2];exact .refl
 . obtain rfl:i=l.gU.length:=by have:=tF h;omega
   rw[bD]at hu;rw[Mr,hu];exact eI p7 (aiA _ _ _ u) (dA (g0 ⟨J G (J ⟨rfl,G⟩ (eC G)),_,_,_,rfl,rfl⟩))
structure M9 where
 a:Int
 b:Int
 c:Int
 d:Int
 e:Int
 f:Int
 g:Int
 h:Int
 i:Int
def M9.ds(m:M9):ai:=[.int .i64 m.a,.int .i64 m.b,.int .i64 m.c,.int .i64 m.d,.int .i64 m.e,.int .i64 m.f,.int .i64 m.g,.int .i64 m.h,.int .i64 m.i]
structure Sp where
 c0:List Int
 c1:List Int
 c2:List Int
 to:M9
 F:M9
def Sp.ds(s:Sp):ai:=[.eo s.c0.length (dM s.c0),.eo s.c1.length (dM s.c1),.eo s.c2.length (dM s.c2)]++(s.to.ds++s.F.ds)
def Sp.v(s:Sp):V:=.agg (D.fN s.ds)
def lT(l:List Sp):ai:=(l.map Sp.ds).flatten
def eG.ds(l:eG):ai:=[.int .i64 l.id,.int .i64 l.kd,.str l.nm,.bool l.hid,.int .i64 l.op,.int .i64 l.md,.bool l.clip,.int .i64 l.pl.a,.int .i64 l.pl.b,.int .i64 l.pl.c,.int .i64 l.pl.d,.int .i64 l.pl.e,.int .i64 l.pl.f,.int .i64 l.pl.n,.int .i64 l.sp,.eo l.kids.length (dM l.kids),.int .i64 l.of,.int .i64 l.f.k,.int .i64 l.f.r,.eo l.f.eK.length (dM l.f.eK),.int .i64 l.f.dv,.int .i64 l.f.vl,.eo l.f.cu.length (dM l.f.cu),.int .u8 l.fi.r,.int .u8 l.fi.g,.int .u8 l.fi.b,.int .u8 l.fi.a,.eo l.gU.length (qO l.gU),.eo l.fZ.length (jv l.fZ),.bool l.S,.eo l.iD.length (jv l.iD)]
def gG:eG:=⟨0,0,[],false,0,0,false,z7,0,[],0,tJ,z4,[],[],false,[]⟩
def eX(l:List eG):ai:=(l.map eG.ds).flatten
structure Dc where
 sp:List Sp
 root:Int
 nx:Int
 ly:List eG
def Dc.T(d:Dc):ag:=[.eo false d.sp.length (lT d.sp),L d.root,L d.nx,.eo false d.ly.length (eX d.ly)]
def Dc.v(d:Dc):V:=.agg d.T
noncomputable abbrev abA:Code:=dG Tryz.f24
noncomputable abbrev WL:Code:=dm 1 abA
def Zv(d:Dc)(k:Int)(i:Nat):St:=ff [(1,L k),(2,.ptr (some (0,0))),(5,M i)] (W [(0,.cells d.T)]) 1
theorem aiD(d:Dc)(k:Int):dn (U dY []) [] 0 Tryz.f24 [1,2] (dN 1 abA) (dw [d.v,L k] .nil 0) [([],
   [],
   .to .normal (ff [(1,.int .i64 k),(2,.ptr (some (0,0)))] (W [(0,.cells [.eo false (d.sp.length) (lT d.sp),.int .i64 (d.root),.int .i64 (d.nx),.eo false (d.ly.length) (eX d.ly)])]) 1))]
 :=dh.of C C C
theorem aiE(d:Dc)(k:Int):dn (U dY []) [] 0 Tryz.f24 [1,2,5] (dB (dB WL)) (ff [(1,L k),(2,.ptr (some (0,0)))] (W [(0,.cells d.T)]) 1) [([],
   [],
   .to .normal (Zv d k 0))]
 :=dh.of C C C
theorem aiF(d:Dc)(k:Int)(i:Nat)(l:eG):dn (U dY []) [(10,.split),(16,.dy (.dr l.ds)),(20,.split),(12,.dy (M (i+1)))] 0 Tryz.f24 [1,2,5] (dD (dD (dP (dB WL)))) (Zv d k i) [([((decide (Int.ofNat i<(Int.ofNat d.ly.length))),true),((l.id==k),true)],
   [((0:Int)<=Int.ofNat i/\Int.ofNat i<(Int.ofNat d.ly.length)),((eX d.ly).length=d.ly.length*31),(V.dr (dj (eX d.ly) (i*31) 31)=V.dr l.ds)],
   .ret (.int .i64 (Int.ofNat i)) (W []) 0),
  ([((decide (Int.ofNat i<(Int.ofNat d.ly.length))),true),((l.id==k),false)],
   [((0:Int)<=Int.ofNat i/\Int.ofNat i<(Int.ofNat d.ly.length)),((eX d.ly).length=d.ly.length*31),(V.dr (dj (eX d.ly) (i*31) 31)=V.dr l.ds),(V.int B (IntKind.i64.wrap (Int.ofNat i+(1:Int)))=M (i+1))],
   .to .normal (Zv d k (i+1))),
  ([((decide (Int.ofNat i<(Int.ofNat d.ly.length))),false)],
   [],
   .to (.exit 0) (Zv d k i))]
 :=dh.of C C C
theorem aiG(d:Dc)(k:Int)(i:Nat):dn (U dY []) [] 0 Tryz.f24 [] (dP WL) (Zv d k i) [([],
   [],
   .ret (.int .i64 (-1)) (W []) 0)]
 :=dh.of C C C
noncomputable abbrev abB:Code:=dG Tryz.f55
noncomputable abbrev WM:Code:=dm 1 abB
def Zw(l:List Int)(k:Int)(i:Nat):St:=ff [(0,fg l),(1,L k),(5,M i)] (W []) 0
theorem aiH(l:List Int)(k:Int):dn (U dY []) [] 0 Tryz.f55 [0,1] (dN 1 abB) (dw [fg l,L k] .nil 0) [([],
   [],
   .to .normal (ff [(0,.eo false (l.length) (dM l)),(1,.int .i64 k)] (W []) 0))]
 :=dh.of C C C
theorem aiI(l:List Int)(k:Int):dn (U dY []) [] 0 Tryz.f55 [0,1,5] (dB (dB WM)) (ff [(0,fg l),(1,L k)] (W []) 0) [([],
   [],
   .to .normal (Zw l k 0))]
 :=dh.of C C C
theorem aiJ(l:List Int)(k:Int)(i:Nat)(x:Int):dn (U dY []) [(9,.split),(14,.dy (.dr [.int .i64 x])),(17,.split),(11,.dy (M (i+1)))] 0 Tryz.f55 [0,1,5] (dD (dD (dP (dB WM)))) (Zw l k i) [([((decide (Int.ofNat i<(Int.ofNat l.length))),true),((x==k),true)],
   [((0:Int)<=Int.ofNat i/\Int.ofNat i<(Int.ofNat l.length)),((dM l).length=l.length*1),(V.dr (dj (dM l) (i*1) 1)=V.dr [D.int B x])],
   .ret (.bool true) (W []) 0),
  ([((decide (Int.ofNat i<(Int.ofNat l.length))),true),((x==k),false)],
   [((0:Int)<=Int.ofNat i/\Int.ofNat i<(Int.ofNat l.length)),((dM l).length=l.length*1),(V.dr (dj (dM l) (i*1) 1)=V.dr [D.int B x]),(V.int B (IntKind.i64.wrap (Int.ofNat i+(1:Int)))=M (i+1))],
   .to .normal (Zw l k (i+1))),
  ([((decide (Int.ofNat i<(Int.ofNat l.length))),false)],
   [],
   .to (.exit 0) (Zw l k i))]
 :=dh.of C C C
theorem aiK(l:List Int)(k:Int)(i:Nat):dn (U dY []) [] 0 Tryz.f55 [] (dP WM) (Zw l k i) [([],
   [],
   .ret (.bool false) (W []) 0)]
 :=dh.of C C C
theorem aiL(l:eG):dn (U dY []) [(5,.split)] 0 Tryz.f98 [] (dG Tryz.f98) (dw [l.v] .nil 0) [([((l.kd==(4:Int)),true)],
   [],
   .ret (.eS (some (0,0)) 1 1 1) (W [(0,.cells [.int .i64 (l.of)])]) 1),
  ([((l.kd==(4:Int)),false)],
   [],
   .ret (.eo false (l.kids.length) (dM l.kids)) (W []) 0)]
 :=dh.of C C C
theorem aiM(x k:Int):dn (U dY []) [(8,.split)] 0 Tryz.f143 [] (dG Tryz.f143) (dw [L x,L k] .nil 0) [([((decide (x>=IntKind.i64.wrap ((0:Int)-k))),true)],
   [],
   .ret (.bool (decide (x<=k))) (W []) 0),
  ([((decide (x>=IntKind.i64.wrap ((0:Int)-k))),false)],
   [],
   .ret (.bool false) (W []) 0)]
 :=dh.of C C C
section
variable{N n0:Nat}{c:Code}{s:St}{hL:gy}{fn:Func}
abbrev lt?(i n:Nat):Bool:=decide (Int.ofNat i<Int.ofNat n)
theorem UP(b:Nat)(n:Nat){h2:V->I O->Nat->Prop}(live:List Nat)(hm:Nat->St)(t:Nat->Bool)(v:Nat->V×I O×Nat)(A1 A2:Nat->ah){W0:gy}(X0:eR ak W0)
  {h0h:List (Nat×List (Nat×lI))} {H0:List (Nat×lI)} {s':ah} {s0:St} (UA:dn (U W0 h0h) H0 N fn live (dB (dB c)) s [([],s',.to .normal s0)]) (UQ:∀a∈s',a) (h0:dZ ak N n0 s0 (hm 0))
  (hb:∀i,i<=n->∃(hL:gy) (_:eR ak hL) (hh:_) (hx:_),dn (U hL hh) hx N fn live (dD (dD (dP (dB c)))) (hm i) [([(lt? i n,true),(t i,true)],A1 i,.ret (v i).1 (v i).2.1 (v i).2.2),([(lt? i n,true),(t i,false)],A2 i,.to .normal (hm (i+1))),([(lt? i n,false)],[],.to (.exit b) (hm i))])
  (hA:∀i,i<n->(∀a∈A1 i,a)/\∀a∈A2 i,a)
  (hr:∀i,i<n->(∀j,j<i->t j=false)->t i=true->h2 (v i).1 (v i).2.1 (v i).2.2) (he:(∀j,j<n->t j=false)->TG ak N n0 (dP c) (hm n) (fD ak N fn h2))
  (hs:((rK c&&rK (dB c))&&(eJ n0 (dB (dB c))&&(mY (dP (dB c)) b&&(oz (dD (dP (dB c)))&&eJ n0 (dD (dD (dP (dB c))))))))=true:=by kernel_rfl):TG ak N n0 c s (fD ak N fn h2):=by
 refine pZ X0 b h2 live (n-·) (fun i=>i<=n/\∀j,j<i->t j=false) hm 0 ⟨aS _,fun _ h=>absurd h (bX _)⟩ UA UQ h0 (fun i ⟨hi,hj⟩=>?_) hs;obtain⟨hL,es,hh,hx,gi⟩:=hb i hi;refine⟨hL,es,hh,hx,_,gi,dz (g2 fun Q R=>?_) (dz (g2 fun Q R=>?_) (dA (g1 fun h=>⟨all_nil,rfl,?_⟩)))⟩
 . exact⟨(hA i (ko Q)).1,hr i (ko Q) hj R⟩
 . refine⟨(hA i (ko Q)).2,i+1,by have:=ko Q;show n-(i+1)<n-i;omega,⟨ko Q,fun j UR=>?_⟩,.refl⟩;rcases br j i with q|q
   . exact hj j q
   . obtain rfl:j=i:=by omega
     exact R
 . obtain rfl:i=n:=by have:=tF h;omega
   exact he hj
end
def HF(N:Nat)(ms live:List Nat)(s:St):Option (ah×St):=match M5 ms s with
 |some (s',s1)=>match kW N live s1 with
  |some hm=>some (s',hm)
  |none=>none
 |none=>none
theorem dZ.HF{P:Program}{N n0:Nat}{s hm:St}(ms live:List Nat){s':ah}(e:HF N ms live s=some (s',hm))(hA:∀x∈s',x):dZ P N n0 s hm:=by
 unfold YtmjggdmekboefaaGreat.HF at e;split at e
 case h_2=>cases e
 rename_i A1 s1 Q;split at e
 case h_2=>cases e
 rename_i S1 R;simp only[aq,aF]at e;obtain⟨rfl,rfl⟩:=e;exact(dZ.Cs ms Q hA).trans (.norm R)
theorem Fs(l:eG):l.ds.length=31:=rfl
theorem fR(l:List eG):(eX l).length=l.length*31:=rR (f:=eG.ds) Fs l
theorem WN{l:List eG}{i:Nat}{x:eG}(h:l[i]? =some x):V.dr (dj (eX l) (i*31) 31)= .dr x.ds:=by
 obtain⟨eM,rfl⟩:=aO.1 h;exact aH V.dr (rS (f:=eG.ds) Fs l i eM)
theorem iq{l:List eG}{i:Nat}(h:i<l.length):V.dr (dj (eX l) (i*31) 31)= .dr (l.getD i gG).ds:=WN (by rw[ax,au h];rfl)
theorem fJ{l:List Int}{i:Nat}(h:i<l.length):V.dr (dj (dM l) (i*1) 1)= .dr [.int .i64 (l.getD i 0)]:=tc (by rw[ax,au h];rfl)
theorem wP{x k:Int}:(x==k)=true↔x=k:=cJ
section
variable(ls:List eG)(k:Int)
def kr:Option Nat:=ls.findIdx? fun l=>l.id==k
def AL:Int:=match kr ls k with
 |some i=>Int.ofNat i
 |none=> -1
end
section
variable{ls:List eG}{k:Int}
theorem HG{i:Nat}(h:i<ls.length)(Q:(ls.getD i gG).id==k)(R:∀j,j<i->((ls.getD j gG).id==k)=false):kr ls k=some i:=by
 unfold kr;rw[bL];refine⟨h,?_,fun j hj=>?_⟩
 . rw[ax,au h]at Q;exact Q
 . have:=R j hj;rw[ax,au G]at this;simpa using this
theorem Pu(R:∀j,j<ls.length->((ls.getD j gG).id==k)=false):kr ls k=none:=by
 unfold kr;rw[cH];intro x H;obtain⟨j,hj,rfl⟩:=bW H;have:=R j hj;rw[ax,au hj]at this;exact this
end
theorem Zx(d:Dc)(k:Int)(hl:d.ly.length<=1000000):dS ak 24 [d.v,L k] (L (AL d.ly k)):=by
 refine eV Tryz.func24 (fu 1 (dg _) (aiD d k) all_nil ?_);refine UP 0 d.ly.length [1,2,5] (Zv d k) (fun i=>(d.ly.getD i gG).id==k) (fun i=>(M i,W [],0)) _ _ (dg _) (aiE d k) all_nil .refl (fun i _=>⟨_,dg _,_,_,aiF d k i (d.ly.getD i gG)⟩) (fun i hi=>?_) (fun i hi hj ht=>?_) (fun hj=>?_)
 . exact⟨J (iM hi) (J (fR _) (eC (iq hi))),J (iM hi) (J (fR _) (J (iq hi) (eC (gJ G))))⟩
 . unfold AL;rw[HG hi ht hj]
 . refine eI (dg _) (aiG d k _) (dA (g0 ⟨all_nil,_,_,_,rfl,?_⟩));unfold AL;rw[Pu hj]
theorem abC(l:List Int)(k:Int)(hl:l.length<=1000000):dS ak 55 [fg l,L k] (.bool (l.contains k)):=by
 refine eV Tryz.func55 (fu 1 (dg _) (aiH l k) all_nil ?_);refine UP 0 l.length [0,1,5] (Zw l k) (fun i=>l.getD i 0==k) (fun i=>(.bool true,W [],0)) _ _ (dg _) (aiI l k) all_nil .refl (fun i _=>⟨_,dg _,_,_,aiJ l k i (l.getD i 0)⟩) (fun i hi=>?_) (fun i hi hj ht=>?_) (fun hj=>?_)
 . exact⟨J (iM hi) (J (ew _) (eC (fJ hi))),J (iM hi) (J (ew _) (J (fJ hi) (eC (gJ G))))⟩
 . refine aH V.bool (Eq.symm ?_);rw[ck];have:l.getD i 0=k:=wP.1 ht;rw[<- this,ax,au hi];exact bK hi
 . refine eI (dg _) (aiK l k _) (dA (g0 ⟨all_nil,_,_,_,rfl,aH V.bool (Eq.symm ?_)⟩));rw[<- Bool.not_eq_true,ck];intro S;obtain⟨j,w7,rfl⟩:=bW S;have:=hj j w7;rw[ax,au w7]at this;simp at this
def fH(l:eG):List Int:=if l.kd=4 then[l.of]else l.kids
theorem Pv(l:eG):dS ak 98 [l.v] (fg (fH l)):=by
 refine rQ Tryz.func98 (eI (dg _) (aiL l) (dz (g1 fun h=>⟨all_nil,_,_,_,rfl,?_⟩) (dA (g1 fun h=>⟨all_nil,_,_,_,rfl,?_⟩))))
 . unfold fH;rw[aE (wP.1 h)];exact .Cs (v0:=fg [l.of]) [0] (s':=[[D.int .i64 l.of].length=1*1]) C (eC rfl) C C
 . unfold fH;rw[aB (by simpa using h)];exact vh.self C C
noncomputable abbrev abD:Code:=dG Tryz.f118
noncomputable abbrev WO:Code:=dm 1 abD
section
variable(s:aa)(p:P7)(i:Nat)(a:Bool)(x c:Int)
def sNa:St:=ff [(0,.str s),(3,M i)] (W []) 0
theorem aiO:dn (U dY []) [] 0 Tryz.f118 [0] (dN 1 abD) (dw [.str s] .nil 0) [([],
   [],
   .to .normal (ff [(0,.str s)] (W []) 0))]
 :=dh.of C C C
theorem aiP:dn (U dY []) [] 0 Tryz.f118 [0,3] (dB (dB WO)) (ff [(0,.str s)] (W []) 0) [([],
   [],
   .to .normal (sNa s 0))]
 :=dh.of C C C
abbrev l9:Prop:=V.int IntKind.u8 (Int.ofNat (s.getD i (0:UInt8)).toNat)=V.int IntKind.u8 c
abbrev p8:Prop:=V.int B (IntKind.i64.wrap (Int.ofNat i+(1:Int)))=M (i+1)
theorem aiQ:dn (U dY []) [(8,.split),(13,.dy (.int .u8 c)),(15,.split),(18,.split),(22,.split),(25,.split),(30,.split),(34,.split),(10,.dy (M (i+1)))] 0 Tryz.f118 [0,3] (dD (dD (dP (dB WO)))) (sNa s i) [([((decide (Int.ofNat i<(Int.ofNat s.length))),true),((decide (c<(97:Int))),true),((decide (c<(48:Int))),true),((c !=(45:Int)),true),((c !=(95:Int)),true)],
   [((0:Int)<=Int.ofNat i/\i<s.length),l9 s i c],
   .ret (.bool false) (W []) 0),
  ([((decide (Int.ofNat i<(Int.ofNat s.length))),true),((decide (c<(97:Int))),true),((decide (c<(48:Int))),true),((c !=(45:Int)),true),((c !=(95:Int)),false)],
   [((0:Int)<=Int.ofNat i/\i<s.length),l9 s i c,p8 i],
   .to .normal (ff [(0,.str s),(3,.int .i64 (Int.ofNat (i+1)))] (W []) 0)),
  ([((decide (Int.ofNat i<(Int.ofNat s.length))),true),((decide (c<(97:Int))),true),((decide (c<(48:Int))),true),((c !=(45:Int)),false)],
   [((0:Int)<=Int.ofNat i/\i<s.length),l9 s i c,p8 i],
   .to .normal (ff [(0,.str s),(3,.int .i64 (Int.ofNat (i+1)))] (W []) 0)),
  ([((decide (Int.ofNat i<(Int.ofNat s.length))),true),((decide (c<(97:Int))),true),((decide (c<(48:Int))),false),((decide (c>(57:Int))),true),((c !=(45:Int)),true),((c !=(95:Int)),true)],
   [((0:Int)<=Int.ofNat i/\i<s.length),l9 s i c],
   .ret (.bool false) (W []) 0),
  ([((decide (Int.ofNat i<(Int.ofNat s.length))),true),((decide (c<(97:Int))),true),((decide (c<(48:Int))),false),((decide (c>(57:Int))),true),((c !=(45:Int)),true),((c !=(95:Int)),false)],
   [((0:Int)<=Int.ofNat i/\i<s.length),l9 s i c,p8 i],
   .to .normal (ff [(0,.str s),(3,.int .i64 (Int.ofNat (i+1)))] (W []) 0)),
  ([((decide (Int.ofNat i<(Int.ofNat s.length))),true),((decide (c<(97:Int))),true),((decide (c<(48:Int))),false),((decide (c>(57:Int))),true),((c !=(45:Int)),false)],
   [((0:Int)<=Int.ofNat i/\i<s.length),l9 s i c,p8 i],
   .to .normal (ff [(0,.str s),(3,.int .i64 (Int.ofNat (i+1)))] (W []) 0)),
  ([((decide (Int.ofNat i<(Int.ofNat s.length))),true),((decide (c<(97:Int))),true),((decide (c<(48:Int))),false),((decide (c>(57:Int))),false)],
   [((0:Int)<=Int.ofNat i/\i<s.length),l9 s i c,p8 i],
   .to .normal (ff [(0,.str s),(3,.int .i64 (Int.ofNat (i+1)))] (W []) 0)),
  ([((decide (Int.ofNat i<(Int.ofNat s.length))),true),((decide (c<(97:Int))),false),((decide (c>(122:Int))),true),((decide (c<(48:Int))),true),((c !=(45:Int)),true),((c !=(95:Int)),true)],
   [((0:Int)<=Int.ofNat i/\i<s.length),l9 s i c],
   .ret (.bool false) (W []) 0),
  ([((decide (Int.ofNat i<(Int.ofNat s.length))),true),((decide (c<(97:Int))),false),((decide (c>(122:Int))),true),((decide (c<(48:Int))),true),((c !=(45:Int)),true),((c !=(95:Int)),false)],
   [((0:Int)<=Int.ofNat i/\i<s.length),l9 s i c,p8 i],
   .to .normal (ff [(0,.str s),(3,.int .i64 (Int.ofNat (i+1)))] (W []) 0)),
  ([((decide (Int.ofNat i<(Int.ofNat s.length))),true),((decide (c<(97:Int))),false),((decide (c>(122:Int))),true),((decide (c<(48:Int))),true),((c !=(45:Int)),false)],
   [((0:Int)<=Int.ofNat i/\i<s.length),l9 s i c,p8 i],
   .to .normal (ff [(0,.str s),(3,.int .i64 (Int.ofNat (i+1)))] (W []) 0)),
  ([((decide (Int.ofNat i<(Int.ofNat s.length))),true),((decide (c<(97:Int))),false),((decide (c>(122:Int))),true),((decide (c<(48:Int))),false),((decide (c>(57:Int))),true),((c !=(45:Int)),true),((c !=(95:Int)),true)],
   [((0:Int)<=Int.ofNat i/\i<s.length),l9 s i c],
   .ret (.bool false) (W []) 0),
  ([((decide (Int.ofNat i<(Int.ofNat s.length))),true),((decide (c<(97:Int))),false),((decide (c>(122:Int))),true),((decide (c<(48:Int))),false),((decide (c>(57:Int))),true),((c !=(45:Int)),true),((c !=(95:Int)),false)],
   [((0:Int)<=Int.ofNat i/\i<s.length),l9 s i c,p8 i],
   .to .normal (ff [(0,.str s),(3,.int .i64 (Int.ofNat (i+1)))] (W []) 0)),
  ([((decide (Int.ofNat i<(Int.ofNat s.length))),true),((decide (c<(97:Int))),false),((decide (c>(122:Int))),true),((decide (c<(48:Int))),false),((decide (c>(57:Int))),true),((c !=(45:Int)),false)],
   [((0:Int)<=Int.ofNat i/\i<s.length),l9 s i c,p8 i],
   .to .normal (ff [(0,.str s),(3,.int .i64 (Int.ofNat (i+1)))] (W []) 0)),
  ([((decide (Int.ofNat i<(Int.ofNat s.length))),true),((decide (c<(97:Int))),false),((decide (c>(122:Int))),true),((decide (c<(48:Int))),false),((decide (c>(57:Int))),false)],
   [((0:Int)<=Int.ofNat i/\i<s.length),l9 s i c,p8 i],
   .to .normal (ff [(0,.str s),(3,.int .i64 (Int.ofNat (i+1)))] (W []) 0)),
  ([((decide (Int.ofNat i<(Int.ofNat s.length))),true),((decide (c<(97:Int))),false),((decide (c>(122:Int))),false)],
   [((0:Int)<=Int.ofNat i/\i<s.length),l9 s i c,p8 i],
   .to .normal (ff [(0,.str s),(3,.int .i64 (Int.ofNat (i+1)))] (W []) 0)),
  ([((decide (Int.ofNat i<(Int.ofNat s.length))),false)],
   [],
   .to (.exit 0) (ff [(0,.str s),(3,.int .i64 (Int.ofNat i))] (W []) 0))]
 :=dh.of C C C
theorem aiR:dn (U dY []) [] 0 Tryz.f118 [] (dP WO) (sNa s i) [([],
   [],
   .ret (.bool (decide ((Int.ofNat s.length)<=(12:Int)))) (W []) 0)]
 :=dh.of C C C
noncomputable abbrev abE:Code:=dG Tryz.f120
noncomputable abbrev WQ:Code:=dm 1 abE
def sPh(l:List (Int×Int))(i:Nat):St:=ff [(0,wM l),(3,M i)] (W []) 0
theorem aiS(l:List (Int×Int)):dn (U dY []) [] 0 Tryz.f120 [0] (dN 1 abE) (dw [wM l] .nil 0) [([],
   [],
   .to .normal (ff [(0,.eo false (l.length) (qO l))] (W []) 0))]
 :=dh.of C C C
theorem aiT(l:List (Int×Int)):dn (U dY []) [] 0 Tryz.f120 [0,3] (dB (dB WQ)) (ff [(0,wM l)] (W []) 0) [([],
   [],
   .to .normal (sPh l 0))]
 :=dh.of C C C
abbrev nf(l:List (Int×Int))(i:Nat)(x y:Int):Prop:=V.dr (dj (qO l) (i*2) 2)=V.dr [D.int B x,D.int B y]
theorem aiU(l:List (Int×Int))(i:Nat)(x y:Int):dn (U dY []) [(7,.split),(12,.dy (.dr [.int .i64 x,.int .i64 y])),(19,.dy (.dr [.int .i64 x,.int .i64 y])),(27,.dy (.dr [.int .i64 x,.int .i64 y])),(35,.dy (.dr [.int .i64 x,.int .i64 y])),(15,.split),(22,.split),(30,.split),(38,.split),(9,.dy (M (i+1)))] 0 Tryz.f120 [0,3] (dD (dD (dP (dB WQ)))) (sPh l i) [([((decide (Int.ofNat i<(Int.ofNat l.length))),true),((decide (x<(-65536:Int))),true)],
   [((0:Int)<=Int.ofNat i/\Int.ofNat i<(Int.ofNat l.length)),((qO l).length=l.length*2),nf l i x y],
   .ret (.bool false) (W []) 0),
  ([((decide (Int.ofNat i<(Int.ofNat l.length))),true),((decide (x<(-65536:Int))),false),((decide (x>(65536:Int))),true)],
   [((0:Int)<=Int.ofNat i/\Int.ofNat i<(Int.ofNat l.length)),((qO l).length=l.length*2),nf l i x y,((0:Int)<=Int.ofNat i/\Int.ofNat i<(Int.ofNat l.length)),((qO l).length=l.length*2),nf l i x y],
   .ret (.bool false) (W []) 0),
  ([((decide (Int.ofNat i<(Int.ofNat l.length))),true),((decide (x<(-65536:Int))),false),((decide (x>(65536:Int))),false),((decide (y<(-65536:Int))),true)],
   [((0:Int)<=Int.ofNat i/\Int.ofNat i<(Int.ofNat l.length)),((qO l).length=l.length*2),nf l i x y,((0:Int)<=Int.ofNat i/\Int.ofNat i<(Int.ofNat l.length)),((qO l).length=l.length*2),nf l i x y,((0:Int)<=Int.ofNat i/\Int.ofNat i<(Int.ofNat l.length)),((qO l).length=l.length*2),nf l i x y],
   .ret (.bool false) (W []) 0),
  ([((decide (Int.ofNat i<(Int.ofNat l.length))),true),((decide (x<(-65536:Int))),false),((decide (x>(65536:Int))),false),((decide (y<(-65536:Int))),false),((decide (y>(65536:Int))),true)],
   [((0:Int)<=Int.ofNat i/\Int.ofNat i<(Int.ofNat l.length)),((qO l).length=l.length*2),nf l i x y,((0:Int)<=Int.ofNat i/\Int.ofNat i<(Int.ofNat l.length)),((qO l).length=l.length*2),nf l i x y,((0:Int)<=Int.ofNat i/\Int.ofNat i<(Int.ofNat l.length)),((qO l).length=l.length*2),nf l i x y,((0:Int)<=Int.ofNat i/\Int.ofNat i<(Int.ofNat l.length)),((qO l).length=l.length*2),nf l i x y],
   .ret (.bool false) (W []) 0),
  ([((decide (Int.ofNat i<(Int.ofNat l.length))),true),((decide (x<(-65536:Int))),false),((decide (x>(65536:Int))),false),((decide (y<(-65536:Int))),false),((decide (y>(65536:Int))),false)],
   [((0:Int)<=Int.ofNat i/\Int.ofNat i<(Int.ofNat l.length)),((qO l).length=l.length*2),nf l i x y,((0:Int)<=Int.ofNat i/\Int.ofNat i<(Int.ofNat l.length)),((qO l).length=l.length*2),nf l i x y,((0:Int)<=Int.ofNat i/\Int.ofNat i<(Int.ofNat l.length)),((qO l).length=l.length*2),nf l i x y,((0:Int)<=Int.ofNat i/\Int.ofNat i<(Int.ofNat l.length)),((qO l).length=l.length*2),nf l i x y,(V.int B (IntKind.i64.wrap (Int.ofNat i+(1:Int)))=M (i+1))],
   .to .normal (ff [(0,.eo false (l.length) (qO l)),(3,.int .i64 (Int.ofNat (i+1)))] (W []) 0)),
  ([((decide (Int.ofNat i<(Int.ofNat l.length))),false)],
   [],
   .to (.exit 0) (ff [(0,.eo false (l.length) (qO l)),(3,.int .i64 (Int.ofNat i))] (W []) 0))]
 :=dh.of C C C
theorem aiV(l:List (Int×Int))(i:Nat):dn (U dY []) [(42,.split)] 0 Tryz.f120 [] (dP WQ) (sPh l i) [([((decide ((Int.ofNat l.length)>=(3:Int))),true)],
   [],
   .ret (.bool (decide ((Int.ofNat l.length)<=(64:Int)))) (W []) 0),
  ([((decide ((Int.ofNat l.length)>=(3:Int))),false)],
   [],
   .ret (.bool false) (W []) 0)]
 :=dh.of C C C
def w9(k:Int):Bool:=decide (-k<=x)&&decide (x<=k)
def JE:ag->Option (ah×V)
 | [.int .i64 x,.int .i64 k]=>some ([0<=k/\k<=1000000000],.bool (w9 x k))
 |_=>none
noncomputable abbrev Wv9:gy:=lC 143 (gS JE) dY
noncomputable abbrev Pw:Code:=dG Tryz.f116
def Na(r:List (Nat×V)):St:=ff ([(1,.ptr (some (0,0)))]++r) (W [(0,.cells p.T)]) 1
theorem aiX:dn (U Wv9 []) [(7,.split),(11,.split),(16,.split),(21,.split)] 0 Tryz.f116 [1,3] (dN 2 Pw) (dw [.agg p.T] .nil 0) [([((w9 p.a (4096:Int)),true),((w9 p.b (4096:Int)),true),((w9 p.d (4096:Int)),true),((w9 p.e (4096:Int)),true)],
   [((0:Int)<=(4096:Int)/\(4096:Int)<=(1000000000:Int)),((0:Int)<=(4096:Int)/\(4096:Int)<=(1000000000:Int)),((0:Int)<=(4096:Int)/\(4096:Int)<=(1000000000:Int)),((0:Int)<=(4096:Int)/\(4096:Int)<=(1000000000:Int))],
   .to .normal (Na p [(3,.bool true)])),
  ([((w9 p.a (4096:Int)),true),((w9 p.b (4096:Int)),true),((w9 p.d (4096:Int)),true),((w9 p.e (4096:Int)),false)],
   [((0:Int)<=(4096:Int)/\(4096:Int)<=(1000000000:Int)),((0:Int)<=(4096:Int)/\(4096:Int)<=(1000000000:Int)),((0:Int)<=(4096:Int)/\(4096:Int)<=(1000000000:Int)),((0:Int)<=(4096:Int)/\(4096:Int)<=(1000000000:Int))],
   .to .normal (Na p [(3,.bool false)])),
  ([((w9 p.a (4096:Int)),true),((w9 p.b (4096:Int)),true),((w9 p.d (4096:Int)),false)],
   [((0:Int)<=(4096:Int)/\(4096:Int)<=(1000000000:Int)),((0:Int)<=(4096:Int)/\(4096:Int)<=(1000000000:Int)),((0:Int)<=(4096:Int)/\(4096:Int)<=(1000000000:Int))],
   .to .normal (Na p [(3,.bool false)])),
  ([((w9 p.a (4096:Int)),true),((w9 p.b (4096:Int)),false)],
   [((0:Int)<=(4096:Int)/\(4096:Int)<=(1000000000:Int)),((0:Int)<=(4096:Int)/\(4096:Int)<=(1000000000:Int))],
   .to .normal (Na p [(3,.bool false)])),
  ([((w9 p.a (4096:Int)),false)],
   [((0:Int)<=(4096:Int)/\(4096:Int)<=(1000000000:Int))],
   .to .normal (Na p [(3,.bool false)]))]
 :=dh.of C C C
abbrev Cz:Prop:=(0:Int)<=(268435456:Int)/\(268435456:Int)<=(1000000000:Int)
theorem aiY:dn (U Wv9 []) [(25,.split),(29,.split)] 0 Tryz.f116 [1,3,4] (dN 1 (dm 2 Pw)) (Na p [(3,.bool a)]) [([((w9 p.c (268435456:Int)),true),((w9 p.f (268435456:Int)),true)],
   [Cz,Cz],
   .to .normal (Na p [(3,.bool a),(4,.bool true)])),
  ([((w9 p.c (268435456:Int)),true),((w9 p.f (268435456:Int)),false)],
   [Cz,Cz],
   .to .normal (Na p [(3,.bool a),(4,.bool false)])),
  ([((w9 p.c (268435456:Int)),false)],
   [Cz],
   .to .normal (Na p [(3,.bool a),(4,.bool false)]))]
 :=dh.of C C C
theorem aiZ(b:Bool):dn (U dY []) [(33,.split),(37,.split),(40,.split),(43,.split),(48,.split)] 0 Tryz.f116 [] (dm 3 Pw) (Na p [(3,.bool a),(4,.bool b)]) [([((decide (p.n>=(1:Int))),true),((decide (p.n<=(4096:Int))),true),(a,true),(b,true),((IntKind.i64.wrap (IntKind.i64.wrap (p.a*p.e)-IntKind.i64.wrap (p.b*p.d)) !=(0:Int)),true)],
   [],
   .ret (.bool true) (W []) 0),
  ([((decide (p.n>=(1:Int))),true),((decide (p.n<=(4096:Int))),true),(a,true),(b,true),((IntKind.i64.wrap (IntKind.i64.wrap (p.a*p.e)-IntKind.i64.wrap (p.b*p.d)) !=(0:Int)),false)],
   [],
   .ret (.bool false) (W []) 0),
  ([((decide (p.n>=(1:Int))),true),((decide (p.n<=(4096:Int))),true),(a,true),(b,false)],
   [],
   .ret (.bool false) (W []) 0),
  ([((decide (p.n>=(1:Int))),true),((decide (p.n<=(4096:Int))),true),(a,false)],
   [],
   .ret (.bool false) (W []) 0),
  ([((decide (p.n>=(1:Int))),true),((decide (p.n<=(4096:Int))),false)],
   [],
   .ret (.bool false) (W []) 0),
  ([((decide (p.n>=(1:Int))),false)],
   [],
   .ret (.bool false) (W []) 0)]
 :=dh.of C C C
noncomputable abbrev abF:Code:=dG Tryz.f137
noncomputable abbrev Px:Code:=dm 3 abF
def sC5(l:List Int)(i:Nat):St:=ff [(0,fg l),(4,M i)] (W []) 0
theorem ai0(l:List Int):dn (U dY [(168,[(4,.split)])]) [(9,.split)] 0 Tryz.f137 [0] (dN 3 abF) (dw [fg l] .nil 0) [([((decide ((Int.ofNat l.length)>=(2:Int))),true),((!decide ((Int.ofNat l.length)<=(257:Int))),true)],
   [],
   .ret (.bool false) (W []) 0),
  ([((decide ((Int.ofNat l.length)>=(2:Int))),true),((!decide ((Int.ofNat l.length)<=(257:Int))),false)],
   [],
   .to .normal (ff [(0,.eo false (l.length) (dM l))] (W []) 0)),
  ([((decide ((Int.ofNat l.length)>=(2:Int))),false),((!false),true)],
   [],
   .ret (.bool false) (W []) 0),
  ([((decide ((Int.ofNat l.length)>=(2:Int))),false),((!false),false)],
   [],
   .to .normal (ff [(0,.eo false (l.length) (dM l))] (W []) 0))]
 :=dh.of C C C
theorem ai1(l:List Int):dn (U dY []) [] 0 Tryz.f137 [0,4] (dB (dB Px)) (ff [(0,fg l)] (W []) 0) [([],
   [],
   .to .normal (sC5 l 0))]
 :=dh.of C C C
theorem ai2(l:List Int)(x:Int):dn (U dY []) [(13,.split),(18,.dy (.dr [.int .i64 x])),(24,.dy (.dr [.int .i64 x])),(20,.split),(26,.split),(15,.dy (M 1))] 0 Tryz.f137 [0,4] (dD (dD (dP (dB Px)))) (sC5 l 0) [([((decide ((0:Int)<(Int.ofNat l.length))),true),((decide (x<(0:Int))),true)],
   [((0:Int)<=(0:Int)/\(0:Int)<(Int.ofNat l.length)),((dM l).length=l.length*1),(V.dr (dj (dM l) 0 1)=V.dr [D.int B x])],
   .ret (.bool false) (W []) 0),
  ([((decide ((0:Int)<(Int.ofNat l.length))),true),((decide (x<(0:Int))),false),((decide (x>(65535:Int))),true)],
   [((0:Int)<=(0:Int)/\(0:Int)<(Int.ofNat l.length)),((dM l).length=l.length*1),(V.dr (dj (dM l) 0 1)=V.dr [D.int B x]),((0:Int)<=(0:Int)/\(0:Int)<(Int.ofNat l.length)),((dM l).length=l.length*1),(V.dr (dj (dM l) 0 1)=V.dr [D.int B x])],
   .ret (.bool false) (W []) 0),
  ([((decide ((0:Int)<(Int.ofNat l.length))),true),((decide (x<(0:Int))),false),((decide (x>(65535:Int))),false)],
   [((0:Int)<=(0:Int)/\(0:Int)<(Int.ofNat l.length)),((dM l).length=l.length*1),(V.dr (dj (dM l) 0 1)=V.dr [D.int B x]),((0:Int)<=(0:Int)/\(0:Int)<(Int.ofNat l.length)),((dM l).length=l.length*1),(V.dr (dj (dM l) 0 1)=V.dr [D.int B x]),(V.int B (1:Int)=M 1)],
   .to .normal (ff [(0,.eo false (l.length) (dM l)),(4,.int .i64 1)] (W []) 0)),
  ([((decide ((0:Int)<(Int.ofNat l.length))),false)],
   [],
   .to (.exit 0) (ff [(0,.eo false (l.length) (dM l)),(4,.int .i64 0)] (W []) 0))]
 :=dh.of C C C
abbrev Py:Prop:=V.int B (IntKind.i64.wrap (Int.ofNat (i+1)-(1:Int)))=M i
abbrev tf(l:List Int)(i:Nat):Prop:=(0:Int)<=Int.ofNat (i+1)/\Int.ofNat (i+1)<(Int.ofNat l.length)
abbrev tg(l:List Int)(i:Nat)(x:Int):Prop:=V.dr (dj (dM l) ((i+1)*1) 1)=V.dr [D.int B x]
end
theorem ai3(l:List Int)(i:Nat)(x y:Int):dn (U dY []) [(13,.split),(18,.dy (.dr [.int .i64 x])),(24,.dy (.dr [.int .i64 x])),(34,.dy (.dr [.int .i64 x])),(38,.dy (M i)),(39,.dy (.dr [.int .i64 y])),(20,.split),(26,.split),(30,.dy (.bool true)),(41,.split),(15,.dy (M (i+2)))] 0 Tryz.f137 [0,4] (dD (dD (dP (dB Px)))) (sC5 l (i+1)) [([((decide (Int.ofNat (i+1)<(Int.ofNat l.length))),true),((decide (x<(0:Int))),true)],
   [tf l i,((dM l).length=l.length*1),tg l i x],
   .ret (.bool false) (W []) 0),
  ([((decide (Int.ofNat (i+1)<(Int.ofNat l.length))),true),((decide (x<(0:Int))),false),((decide (x>(65535:Int))),true)],
   [tf l i,((dM l).length=l.length*1),tg l i x,tf l i,((dM l).length=l.length*1),tg l i x],
   .ret (.bool false) (W []) 0),
  ([((decide (Int.ofNat (i+1)<(Int.ofNat l.length))),true),((decide (x<(0:Int))),false),((decide (x>(65535:Int))),false),((decide (x<y)),true)],
   [tf l i,((dM l).length=l.length*1),tg l i x,tf l i,((dM l).length=l.length*1),tg l i x,(V.bool (decide (Int.ofNat (i+1)>(0:Int)))=V.bool true),tf l i,((dM l).length=l.length*1),tg l i x,Py i,((0:Int)<=Int.ofNat i/\Int.ofNat i<(Int.ofNat l.length)),((dM l).length=l.length*1),(V.dr (dj (dM l) (i*1) 1)=V.dr [D.int B y])],
   .ret (.bool false) (W []) 0),
  ([((decide (Int.ofNat (i+1)<(Int.ofNat l.length))),true),((decide (x<(0:Int))),false),((decide (x>(65535:Int))),false),((decide (x<y)),false)],
   [tf l i,((dM l).length=l.length*1),tg l i x,tf l i,((dM l).length=l.length*1),tg l i x,(V.bool (decide (Int.ofNat (i+1)>(0:Int)))=V.bool true),tf l i,((dM l).length=l.length*1),tg l i x,Py i,((0:Int)<=Int.ofNat i/\Int.ofNat i<(Int.ofNat l.length)),((dM l).length=l.length*1),(V.dr (dj (dM l) (i*1) 1)=V.dr [D.int B y]),(V.int B (IntKind.i64.wrap (Int.ofNat (i+1)+(1:Int)))=M (i+2))],
   .to .normal (ff [(0,.eo false (l.length) (dM l)),(4,.int .i64 (Int.ofNat (i+2)))] (W []) 0)),
  ([((decide (Int.ofNat (i+1)<(Int.ofNat l.length))),false)],
   [],
   .to (.exit 0) (ff [(0,.eo false (l.length) (dM l)),(4,.int .i64 (Int.ofNat (i+1)))] (W []) 0))]
 :=dh.of C C C
theorem ai4(l:List Int)(i:Nat):dn (U dY []) [] 0 Tryz.f137 [] (dP Px) (sC5 l i) [([],
   [],
   .ret (.bool true) (W []) 0)]
 :=dh.of C C C
section
variable{N n0:Nat}{c:Code}{s:St}{fn:Func}
def LpS(b n:Nat)(hm:Nat->St)(t:Nat->Bool)(v:V×I O×Nat)(i:Nat):jD->Prop
 | .to .normal s=>i<n/\t i=false/\s=hm (i+1)
 | .to (.exit j) s=>j=b/\n<=i/\s=hm i
 | .ret u h m=>i<n/\t i=true/\(u,h,m)=v
 |_=>False
theorem K1(b:Nat)(n:Nat){h2:V->I O->Nat->Prop}(live:List Nat)(hm:Nat->St)(t:Nat->Bool)(v:V×I O×Nat){W0:gy}(X0:eR ak W0)
  {h0h:List (Nat×List (Nat×lI))} {H0:List (Nat×lI)} {s':ah} {s0:St} (UA:dn (U W0 h0h) H0 N fn live (dB (dB c)) s [([],s',.to .normal s0)]) (UQ:∀a∈s',a) (h0:dZ ak N n0 s0 (hm 0))
  (hb:∀i,i<=n->∃(hL:gy) (_:eR ak hL) (hh:_) (hx:_) (di:_),dn (U hL hh) hx N fn live (dD (dD (dP (dB c)))) (hm i) di/\∀g∈di,(∀b∈g.1,b.1=b.2)->(∀a∈g.2.1,a)/\LpS b n hm t v i g.2.2)
  (hr:∀i,i<n->(∀j,j<i->t j=false)->t i=true->h2 v.1 v.2.1 v.2.2) (he:(∀j,j<n->t j=false)->TG ak N n0 (dP c) (hm n) (fD ak N fn h2))
  (hs:((rK c&&rK (dB c))&&(eJ n0 (dB (dB c))&&(mY (dP (dB c)) b&&(oz (dD (dP (dB c)))&&eJ n0 (dD (dD (dP (dB c))))))))=true:=by kernel_rfl):TG ak N n0 c s (fD ak N fn h2):=by
 refine pZ X0 b h2 live (n-·) (fun i=>i<=n/\∀j,j<i->t j=false) hm 0 ⟨aS _,fun _ h=>absurd h (bX _)⟩ UA UQ h0 (fun i ⟨hi,hj⟩=>?_) hs;obtain⟨hL,es,hh,hx,di,gi,hG⟩:=hb i hi;refine⟨hL,es,hh,hx,di,gi,fun g hg K=>?_⟩;obtain⟨Q,R⟩:=hG g hg K;refine⟨Q,?_⟩;obtain⟨_,_,r⟩:=g;simp only at R ⊢;cases r with
 |to y s1=>
  cases y with
  |normal=>
   obtain⟨k1,k2,rfl⟩:=R;refine⟨i+1,by show n-(i+1)<n-i;omega,⟨k1,fun j UR=>?_⟩,.refl⟩;rcases br j i with q|q
   . exact hj j q
   . obtain rfl:j=i:=by omega
     exact k2
  |exit j=>
   obtain⟨rfl,k2,rfl⟩:=R;obtain rfl:i=n:=by omega
   exact⟨rfl,he hj⟩
  |_=>exact R.elim
 |ret u h m=>
  obtain⟨k1,k2,k3⟩:=R;have:=hr i k1 hj k2;rw[<- k3]at this;exact this
 |bad=>exact R.elim
end
theorem JF{i n:Nat}:decide (Int.ofNat i<Int.ofNat n)=true↔i<n:=⟨ko,fun h=>aY (cg.2 h)⟩
theorem JG{i n:Nat}:decide (Int.ofNat i<Int.ofNat n)=false↔n<=i:=⟨tF,fun h=>aU (by simp only[gT];omega)⟩
def CA(c:Int):Bool:=(((decide (c<97)||decide (c>122))&&(decide (c<48)||decide (c>57)))&&(c !=45))&&(c !=95)
def rU(s:aa):Bool:=!(s.any fun b=>CA (Int.ofNat b.toNat))&&decide (Int.ofNat s.length<=12)
theorem abH(s:aa)(hl:s.length<=1000000000):dS ak 118 [.str s] (.bool (rU s)):=by
 refine eV Tryz.func118 (fu 1 (dg _) (aiO s) all_nil ?_);refine K1 0 s.length [0,3] (sNa s) (fun i=>CA (Int.ofNat (s.getD i 0).toNat)) (.bool false,W [],0) (dg _) (aiP s) all_nil .refl (fun i _=>⟨_,dg _,_,_,_,aiQ s i (Int.ofNat (s.getD i 0).toNat),fun g hg K=>?_⟩) (fun i hi _ ht=>?_) (fun hj=>?_)
 . simp only[aD,aI,bh]at hg;rcases hg with rfl|rfl|rfl|rfl|rfl|rfl|rfl|rfl|rfl|rfl|rfl|rfl|rfl|rfl|rfl|rfl
   all_goals
    simp only[aD,aI,bh,aL,bg,JF,JG]at K;refine⟨?_,?_⟩
    . repeat' (first|exact all_nil|refine J ?_ ?_)
      all_goals first
       |trivial
       |exact⟨bS _,K.1⟩
       |exact gJ G
    . first
      |exact⟨K.1,by simp only[CA,K,aN,cE,cm,cj,cO,cq,cz,aP],rfl⟩
      |exact⟨rfl,K,rfl⟩
 . refine aH V.bool (Eq.symm ?_);unfold rU;have:(s.any fun b=>CA (Int.ofNat b.toNat))=true:=List.any_eq_true.2 ⟨s.getD i 0,by rw[ax,au hi];exact bK hi,ht⟩;rw[this];rfl
 . refine eI (dg _) (aiR s _) (dA (g0 ⟨all_nil,_,_,_,rfl,aH V.bool (Eq.symm ?_)⟩));unfold rU;have:(s.any fun b=>CA (Int.ofNat b.toNat))=false:=by
    rw[cR];intro x H;obtain⟨j,w7,rfl⟩:=bW H;have:=hj j w7;rw[ax,au w7]at this;simpa using this
   rw[this];rfl
theorem ai5(f:FL):dn (U dY []) [(11,.split),(17,.split),(24,.split),(31,.split),(40,.split),(49,.split)] 0 Tryz.f169 [2,3] (dN 2 (dG Tryz.f169)) (dw [f.v,tJ.v] .nil 0) [([((f.k !=(0:Int)),true)],
   [],
   .ret (.bool false) (W []) 0),
  ([((f.k !=(0:Int)),false),((f.r !=(0:Int)),true)],
   [],
   .ret (.bool false) (W []) 0),
  ([((f.k !=(0:Int)),false),((f.r !=(0:Int)),false),((f.dv !=(0:Int)),true)],
   [],
   .ret (.bool false) (W []) 0),
  ([((f.k !=(0:Int)),false),((f.r !=(0:Int)),false),((f.dv !=(0:Int)),false),((f.vl !=(0:Int)),true)],
   [],
   .ret (.bool false) (W []) 0),
  ([((f.k !=(0:Int)),false),((f.r !=(0:Int)),false),((f.dv !=(0:Int)),false),((f.vl !=(0:Int)),false),(((Int.ofNat f.eK.length) !=(0:Int)),true)],
   [],
   .ret (.bool false) (W []) 0),
  ([((f.k !=(0:Int)),false),((f.r !=(0:Int)),false),((f.dv !=(0:Int)),false),((f.vl !=(0:Int)),false),(((Int.ofNat f.eK.length) !=(0:Int)),false),(((Int.ofNat f.cu.length) !=(0:Int)),true)],
   [],
   .ret (.bool false) (W []) 0),
  ([((f.k !=(0:Int)),false),((f.r !=(0:Int)),false),((f.dv !=(0:Int)),false),((f.vl !=(0:Int)),false),(((Int.ofNat f.eK.length) !=(0:Int)),false),(((Int.ofNat f.cu.length) !=(0:Int)),false)],
   [],
   .to .normal (ff [(2,.ptr (some (0,0))),(3,.ptr (some (1,0)))] (W [(0,.cells [.int .i64 (f.k),.int .i64 (f.r),.eo false (f.eK.length) (dM f.eK),.int .i64 (f.dv),.int .i64 (f.vl),.eo false (f.cu.length) (dM f.cu)]),(1,.cells [.int .i64 0,.int .i64 0,.eo false 0 [],.int .i64 0,.int .i64 0,.eo false 0 []])]) 2))]
 :=dh.of C C C
theorem ai6(f:FL):dn (U dY []) [(11,.split),(17,.split),(24,.split),(31,.split)] 0 Tryz.f169 [] (dG Tryz.f169) (dw [{ f with eK:=[],cu:=[] }.v,tJ.v] .nil 0) [([((f.k !=(0:Int)),true)],
   [],
   .ret (.bool false) (W []) 0),
  ([((f.k !=(0:Int)),false),((f.r !=(0:Int)),true)],
   [],
   .ret (.bool false) (W []) 0),
  ([((f.k !=(0:Int)),false),((f.r !=(0:Int)),false),((f.dv !=(0:Int)),true)],
   [],
   .ret (.bool false) (W []) 0),
  ([((f.k !=(0:Int)),false),((f.r !=(0:Int)),false),((f.dv !=(0:Int)),false),((f.vl !=(0:Int)),true)],
   [],
   .ret (.bool false) (W []) 0),
  ([((f.k !=(0:Int)),false),((f.r !=(0:Int)),false),((f.dv !=(0:Int)),false),((f.vl !=(0:Int)),false)],
   [],
   .ret (.bool true) (W []) 0)]
 :=dh.of C C C
theorem ai7(f:FL)(b:Bool):dn (U (eZ 169 [f.v,tJ.v] (.bool b) dY) []) [] 0 Tryz.f146 [] (dG Tryz.f146) (dw [f.v,tJ.v] .nil 0) [([],
   [(eY [f.v,tJ.v])],
   .ret (.bool b) (W []) 0)]
 :=dh.of C C C
def eN(l:eG)(k:Int):eG:={ l with kd:=k }
def uK(p:P7):Bool:=p.a==(0:Int)&&(p.b==(0:Int)&&(p.c==(0:Int)&&(p.d==(0:Int)&&(p.e==(0:Int)&&(p.f==(0:Int)&&(p.n==(0:Int)&&true))))))
def Ft(p:C4):Bool:=p.r==(0:Int)&&(p.g==(0:Int)&&(p.b==(0:Int)&&(p.a==(0:Int)&&true)))
abbrev nN(n:Nat):Bool:=(Int.ofNat n)==(0:Int)
abbrev Hun:List (Nat×lI):=[(17,.split),(26,.split),(32,.split),(44,.split),(54,.split),(66,.split),(76,.split)]
theorem ai8(l:eG)(b:Bool):dn (U (eZ 146 [l.f.v,tJ.v] (.bool b) dY) []) Hun 0 Tryz.f119 [] (dG Tryz.f119) (dw [(eN l 1).v] .nil 0) [([((nN l.kids.length),true),((l.of==(0:Int)),true),(b,true),((nN l.gU.length),true)],
   [(eY [l.f.v,tJ.v])],
   .ret (.bool (Ft l.fi)) (W []) 0),
  ([((nN l.kids.length),true),((l.of==(0:Int)),true),(b,true),((nN l.gU.length),false)],
   [(eY [l.f.v,tJ.v])],
   .ret (.bool false) (W []) 0),
  ([((nN l.kids.length),true),((l.of==(0:Int)),true),(b,false)],
   [(eY [l.f.v,tJ.v])],
   .ret (.bool false) (W []) 0),
  ([((nN l.kids.length),true),((l.of==(0:Int)),false)],
   [],
   .ret (.bool false) (W []) 0),
  ([((nN l.kids.length),false)],
   [],
   .ret (.bool false) (W []) 0)]
 :=dh.of C C C
theorem ai9(l:eG)(b:Bool):dn (U (eZ 146 [l.f.v,tJ.v] (.bool b) dY) []) Hun 0 Tryz.f119 [] (dG Tryz.f119) (dw [(eN l 2).v] .nil 0) [([((uK l.pl),true),((l.sp==(0:Int)),true),((nN l.fZ.length),true),((l.of==(0:Int)),true),(b,true),((nN l.gU.length),true)],
   [(eY [l.f.v,tJ.v])],
   .ret (.bool (Ft l.fi)) (W []) 0),
  ([((uK l.pl),true),((l.sp==(0:Int)),true),((nN l.fZ.length),true),((l.of==(0:Int)),true),(b,true),((nN l.gU.length),false)],
   [(eY [l.f.v,tJ.v])],
   .ret (.bool false) (W []) 0),
  ([((uK l.pl),true),((l.sp==(0:Int)),true),((nN l.fZ.length),true),((l.of==(0:Int)),true),(b,false)],
   [(eY [l.f.v,tJ.v])],
   .ret (.bool false) (W []) 0),
  ([((uK l.pl),true),((l.sp==(0:Int)),true),((nN l.fZ.length),true),((l.of==(0:Int)),false)],
   [],
   .ret (.bool false) (W []) 0),
  ([((uK l.pl),true),((l.sp==(0:Int)),true),((nN l.fZ.length),false)],
   [],
   .ret (.bool false) (W []) 0),
  ([((uK l.pl),true),((l.sp==(0:Int)),false)],
   [],
   .ret (.bool false) (W []) 0),
  ([((uK l.pl),false)],
   [],
   .ret (.bool false) (W []) 0)]
 :=dh.of C C C
theorem aja(l:eG)(b:Bool):dn (U (eZ 146 [l.f.v,tJ.v] (.bool b) dY) []) Hun 0 Tryz.f119 [] (dG Tryz.f119) (dw [(eN l 3).v] .nil 0) [([((uK l.pl),true),((l.sp==(0:Int)),true),((nN l.fZ.length),true),((nN l.kids.length),true),((l.of==(0:Int)),true),(true,true),((nN l.gU.length),true)],
   [],
   .ret (.bool (Ft l.fi)) (W []) 0),
  ([((uK l.pl),true),((l.sp==(0:Int)),true),((nN l.fZ.length),true),((nN l.kids.length),true),((l.of==(0:Int)),true),(true,true),((nN l.gU.length),false)],
   [],
   .ret (.bool false) (W []) 0),
  ([((uK l.pl),true),((l.sp==(0:Int)),true),((nN l.fZ.length),true),((nN l.kids.length),true),((l.of==(0:Int)),true),(true,false)],
   [],
   .ret (.bool false) (W []) 0),
  ([((uK l.pl),true),((l.sp==(0:Int)),true),((nN l.fZ.length),true),((nN l.kids.length),true),((l.of==(0:Int)),false)],
   [],
   .ret (.bool false) (W []) 0),
  ([((uK l.pl),true),((l.sp==(0:Int)),true),((nN l.fZ.length),true),((nN l.kids.length),false)],
   [],
   .ret (.bool false) (W []) 0),
  ([((uK l.pl),true),((l.sp==(0:Int)),true),((nN l.fZ.length),false)],
   [],
   .ret (.bool false) (W []) 0),
  ([((uK l.pl),true),((l.sp==(0:Int)),false)],
   [],
   .ret (.bool false) (W []) 0),
  ([((uK l.pl),false)],
   [],
   .ret (.bool false) (W []) 0)]
 :=dh.of C C C
theorem ajb(l:eG)(b:Bool):dn (U (eZ 146 [l.f.v,tJ.v] (.bool b) dY) []) Hun 0 Tryz.f119 [] (dG Tryz.f119) (dw [(eN l 4).v] .nil 0) [([((l.sp==(0:Int)),true),((nN l.fZ.length),true),((nN l.kids.length),true),(b,true),((nN l.gU.length),true)],
   [(eY [l.f.v,tJ.v])],
   .ret (.bool (Ft l.fi)) (W []) 0),
  ([((l.sp==(0:Int)),true),((nN l.fZ.length),true),((nN l.kids.length),true),(b,true),((nN l.gU.length),false)],
   [(eY [l.f.v,tJ.v])],
   .ret (.bool false) (W []) 0),
  ([((l.sp==(0:Int)),true),((nN l.fZ.length),true),((nN l.kids.length),true),(b,false)],
   [(eY [l.f.v,tJ.v])],
   .ret (.bool false) (W []) 0),
  ([((l.sp==(0:Int)),true),((nN l.fZ.length),true),((nN l.kids.length),false)],
   [],
   .ret (.bool false) (W []) 0),
  ([((l.sp==(0:Int)),true),((nN l.fZ.length),false)],
   [],
   .ret (.bool false) (W []) 0),
  ([((l.sp==(0:Int)),false)],
   [],
   .ret (.bool false) (W []) 0)]
 :=dh.of C C C
theorem ajc(l:eG)(b:Bool):dn (U (eZ 146 [l.f.v,tJ.v] (.bool b) dY) []) Hun 0 Tryz.f119 [] (dG Tryz.f119) (dw [(eN l 5).v] .nil 0) [([((uK l.pl),true),((l.sp==(0:Int)),true),((nN l.fZ.length),true),((nN l.kids.length),true),((l.of==(0:Int)),true),(b,true)],
   [(eY [l.f.v,tJ.v])],
   .ret (.bool true) (W []) 0),
  ([((uK l.pl),true),((l.sp==(0:Int)),true),((nN l.fZ.length),true),((nN l.kids.length),true),((l.of==(0:Int)),true),(b,false)],
   [(eY [l.f.v,tJ.v])],
   .ret (.bool false) (W []) 0),
  ([((uK l.pl),true),((l.sp==(0:Int)),true),((nN l.fZ.length),true),((nN l.kids.length),true),((l.of==(0:Int)),false)],
   [],
   .ret (.bool false) (W []) 0),
  ([((uK l.pl),true),((l.sp==(0:Int)),true),((nN l.fZ.length),true),((nN l.kids.length),false)],
   [],
   .ret (.bool false) (W []) 0),
  ([((uK l.pl),true),((l.sp==(0:Int)),true),((nN l.fZ.length),false)],
   [],
   .ret (.bool false) (W []) 0),
  ([((uK l.pl),true),((l.sp==(0:Int)),false)],
   [],
   .ret (.bool false) (W []) 0),
  ([((uK l.pl),false)],
   [],
   .ret (.bool false) (W []) 0)]
 :=dh.of C C C
theorem qb{l:List (Bool×Bool)}{q:Prop}(h:(∀b∈l,b.1=b.2)->q):(∀b∈l,b.1=b.2)->q:=h
theorem abJ{x:Int}:(x !=0)=!(x==0):=rfl
section
variable(f:FL){n:Nat}
def th:Bool:=(f.k==(0:Int))&&((f.r==(0:Int))&&((f.dv==(0:Int))&&((f.vl==(0:Int))&&(nN f.eK.length&&nN f.cu.length))))
theorem Fu:nN n=true↔n=0:=by
 unfold nN;rw[wP,gT];omega
theorem ajd:((Int.ofNat n) !=(0:Int))=!nN n:=rfl
theorem eqD:dS ak 169 [f.v,tJ.v] (.bool (th f)):=by
 refine eV Tryz.func169 ?_;by_cases h:f.eK=[]/\f.cu=[]
 . have hr:=ai6 f;have e:({ f with eK:=[],cu:=[] }:FL)=f:=by
    obtain⟨a,b,c,d,e,g⟩:=f;obtain⟨Q,R⟩:=h;simp only at Q R;subst Q R;rfl
   rw[e]at hr;have Q:nN f.eK.length=true:=Fu.2 (by rw[h.1];rfl);have R:nN f.cu.length=true:=Fu.2 (by rw[h.2];rfl);refine eI (dg _) hr fun g hg K=>?_;simp only[aD,aI,bh]at hg;rcases hg with rfl|rfl|rfl|rfl|rfl
   all_goals
    simp only[aD,aI,bh,aL,bg,abJ,bP,Bool.not_eq_false']at K;exact⟨all_nil,_,_,_,rfl,aH V.bool (by simp only[th,K,Q,R,aN,aP,cq])⟩
 . have hn:¬(nN f.eK.length=true/\nN f.cu.length=true):=fun q=>h ⟨List.length_eq_zero_iff.1 (Fu.1 q.1),List.length_eq_zero_iff.1 (Fu.1 q.2)⟩;refine isH 2 (dg _) (ai5 f) fun g hg K=>?_;simp only[aD,aI,bh]at hg;rcases hg with rfl|rfl|rfl|rfl|rfl|rfl|rfl
   all_goals
    simp only[aD,aI,bh,aL,bg,abJ,ajd,bP,Bool.not_eq_false']at K
   all_goals first
    |(refine absurd ?_ hn;simp only[nN,K,and_self];done)
    |exact⟨all_nil,aH V.bool (by simp only[th,nN,K,aN,aP,cz])⟩
theorem aje:dS ak 146 [f.v,tJ.v] (.bool (th f)):=
 eV Tryz.func146 (eI (fj (eqD f) (dg _)) (ai7 f (th f)) (dA (g0 ⟨eC rfl,_,_,_,rfl,rfl⟩)))
end
def Fv(k:Int)(l:eG):Bool:=((k==1||k==4)||uK l.pl)&&((k==1||((l.sp==(0:Int))&&nN l.fZ.length))&&((k==2||nN l.kids.length)&&((k==4||(l.of==(0:Int)))&&((k==3||th l.f)&&(k==5||(nN l.gU.length&&Ft l.fi))))))
def Gb(l:eG):Bool:=Fv l.kd l
theorem unD(l:eG)(Q:1<=l.kd)(h5:l.kd<=5):dS ak 119 [l.v] (.bool (Gb l)):=by
 have el:l=eN l l.kd:=rfl;have es:=fj (aje l.f) (dg _);have key:∀k,1<=k->k<=5->dS ak 119 [(eN l k).v] (.bool (Fv k l)):=by
  intro k k1 k5;rcases(by omega:k=1\/k=2\/k=3\/k=4\/k=5)with rfl|rfl|rfl|rfl|rfl
  . have e:Fv 1 l=(nN l.kids.length&&((l.of==(0:Int))&&(th l.f&&(nN l.gU.length&&Ft l.fi)))):=rfl;rw[e];refine eV Tryz.func119 (eI es (ai8 l (th l.f)) ?_)
    repeat' (first|exact gB|refine dz ?_ ?_)
    all_goals
     intro K;simp only[aD,aI,bh,aL,bg]at K;exact⟨by first|exact all_nil|exact eC rfl,_,_,_,rfl,aH V.bool (by simp only[K,aN,aP,cz])⟩
  . have e:Fv 2 l=(uK l.pl&&(((l.sp==(0:Int))&&nN l.fZ.length)&&((l.of==(0:Int))&&(th l.f&&(nN l.gU.length&&Ft l.fi))))):=rfl;rw[e];refine eV Tryz.func119 (eI es (ai9 l (th l.f)) ?_)
    repeat' (first|exact gB|refine dz ?_ ?_)
    all_goals
     intro K;simp only[aD,aI,bh,aL,bg]at K;exact⟨by first|exact all_nil|exact eC rfl,_,_,_,rfl,aH V.bool (by simp only[K,aN,aP,cz])⟩
  . have e:Fv 3 l=(uK l.pl&&(((l.sp==(0:Int))&&nN l.fZ.length)&&(nN l.kids.length&&((l.of==(0:Int))&&(nN l.gU.length&&Ft l.fi))))):=rfl;rw[e];refine eV Tryz.func119 (eI es (aja l (th l.f)) ?_)
    repeat' (first|exact gB|refine dz ?_ ?_)
    all_goals
     intro K;simp only[aD,aI,bh,aL,bg]at K;exact⟨by first|exact all_nil|exact eC rfl,_,_,_,rfl,aH V.bool (by simp only[K,aN,aP,cz])⟩
  . have e:Fv 4 l=(((l.sp==(0:Int))&&nN l.fZ.length)&&(nN l.kids.length&&(th l.f&&(nN l.gU.length&&Ft l.fi)))):=rfl;rw[e];refine eV Tryz.func119 (eI es (ajb l (th l.f)) ?_)
    repeat' (first|exact gB|refine dz ?_ ?_)
    all_goals
     intro K;simp only[aD,aI,bh,aL,bg]at K;exact⟨by first|exact all_nil|exact eC rfl,_,_,_,rfl,aH V.bool (by simp only[K,aN,aP,cz])⟩
  . have e:Fv 5 l=(uK l.pl&&(((l.sp==(0:Int))&&nN l.fZ.length)&&(nN l.kids.length&&((l.of==(0:Int))&&(th l.f&&true))))):=rfl;rw[e];refine eV Tryz.func119 (eI es (ajc l (th l.f)) ?_)
    repeat' (first|exact gB|refine dz ?_ ?_)
    all_goals
     intro K;simp only[aD,aI,bh,aL,bg]at K;exact⟨by first|exact all_nil|exact eC rfl,_,_,_,rfl,aH V.bool (by simp only[K,aN,aP,cz])⟩
 exact key l.kd Q h5
theorem SD(f:FL):dn (U dY []) [(16,.split),(20,.split),(28,.split),(37,.split),(45,.split)] 0 Tryz.f145 [] (dG Tryz.f145) (dw [f.v,.bool true,.bool false,.bool false,.bool true] .nil 0) [([((f.vl==(0:Int)),true),((nN f.cu.length),true)],
   [],
   .ret (.bool true) (W []) 0),
  ([((f.vl==(0:Int)),true),((nN f.cu.length),false)],
   [],
   .ret (.bool false) (W []) 0),
  ([((f.vl==(0:Int)),false)],
   [],
   .ret (.bool false) (W []) 0)]
 :=dh.of C C C
theorem SE(f:FL):dn (U dY []) [(16,.split),(20,.split),(28,.split),(37,.split),(45,.split)] 0 Tryz.f145 [] (dG Tryz.f145) (dw [f.v,.bool false,.bool false,.bool false,.bool true] .nil 0) [([((nN f.eK.length),true),((f.dv==(0:Int)),true),((f.vl==(0:Int)),true),((nN f.cu.length),true)],
   [],
   .ret (.bool true) (W []) 0),
  ([((nN f.eK.length),true),((f.dv==(0:Int)),true),((f.vl==(0:Int)),true),((nN f.cu.length),false)],
   [],
   .ret (.bool false) (W []) 0),
  ([((nN f.eK.length),true),((f.dv==(0:Int)),true),((f.vl==(0:Int)),false)],
   [],
   .ret (.bool false) (W []) 0),
  ([((nN f.eK.length),true),((f.dv==(0:Int)),false)],
   [],
   .ret (.bool false) (W []) 0),
  ([((nN f.eK.length),false)],
   [],
   .ret (.bool false) (W []) 0)]
 :=dh.of C C C
theorem SF(f:FL):dn (U dY []) [(16,.split),(20,.split),(28,.split),(37,.split),(45,.split)] 0 Tryz.f145 [] (dG Tryz.f145) (dw [f.v,.bool false,.bool false,.bool true,.bool false] .nil 0) [([((nN f.eK.length),true),((f.dv==(0:Int)),true),((f.vl==(0:Int)),true),((f.r==(0:Int)),true)],
   [],
   .ret (.bool true) (W []) 0),
  ([((nN f.eK.length),true),((f.dv==(0:Int)),true),((f.vl==(0:Int)),true),((f.r==(0:Int)),false)],
   [],
   .ret (.bool false) (W []) 0),
  ([((nN f.eK.length),true),((f.dv==(0:Int)),true),((f.vl==(0:Int)),false)],
   [],
   .ret (.bool false) (W []) 0),
  ([((nN f.eK.length),true),((f.dv==(0:Int)),false)],
   [],
   .ret (.bool false) (W []) 0),
  ([((nN f.eK.length),false)],
   [],
   .ret (.bool false) (W []) 0)]
 :=dh.of C C C
section
variable(f:FL)(b:Bool)(i:Nat)(x:Int)(p:Bool)
theorem SG:dn (U dY []) [(16,.split),(20,.split),(28,.split),(37,.split),(45,.split)] 0 Tryz.f145 [] (dG Tryz.f145) (dw [f.v,.bool false,.bool false,.bool false,.bool false] .nil 0) [([((nN f.eK.length),true),((f.dv==(0:Int)),true),((f.vl==(0:Int)),true),((nN f.cu.length),true),((f.r==(0:Int)),true)],
   [],
   .ret (.bool true) (W []) 0),
  ([((nN f.eK.length),true),((f.dv==(0:Int)),true),((f.vl==(0:Int)),true),((nN f.cu.length),true),((f.r==(0:Int)),false)],
   [],
   .ret (.bool false) (W []) 0),
  ([((nN f.eK.length),true),((f.dv==(0:Int)),true),((f.vl==(0:Int)),true),((nN f.cu.length),false)],
   [],
   .ret (.bool false) (W []) 0),
  ([((nN f.eK.length),true),((f.dv==(0:Int)),true),((f.vl==(0:Int)),false)],
   [],
   .ret (.bool false) (W []) 0),
  ([((nN f.eK.length),true),((f.dv==(0:Int)),false)],
   [],
   .ret (.bool false) (W []) 0),
  ([((nN f.eK.length),false)],
   [],
   .ret (.bool false) (W []) 0)]
 :=dh.of C C C
theorem SH:dn (U dY []) [(16,.split),(20,.split),(28,.split),(37,.split),(45,.split)] 0 Tryz.f145 [] (dG Tryz.f145) (dw [f.v,.bool false,.bool true,.bool false,.bool false] .nil 0) [([((nN f.eK.length),true),((f.dv==(0:Int)),true),((nN f.cu.length),true),((f.r==(0:Int)),true)],
   [],
   .ret (.bool true) (W []) 0),
  ([((nN f.eK.length),true),((f.dv==(0:Int)),true),((nN f.cu.length),true),((f.r==(0:Int)),false)],
   [],
   .ret (.bool false) (W []) 0),
  ([((nN f.eK.length),true),((f.dv==(0:Int)),true),((nN f.cu.length),false)],
   [],
   .ret (.bool false) (W []) 0),
  ([((nN f.eK.length),true),((f.dv==(0:Int)),false)],
   [],
   .ret (.bool false) (W []) 0),
  ([((nN f.eK.length),false)],
   [],
   .ret (.bool false) (W []) 0)]
 :=dh.of C C C
theorem SI:dn (U dY []) [(16,.split),(20,.split),(28,.split),(37,.split),(45,.split)] 0 Tryz.f145 [] (dG Tryz.f145) (dw [f.v,.bool false,.bool true,.bool false,.bool true] .nil 0) [([((nN f.eK.length),true),((f.dv==(0:Int)),true),((nN f.cu.length),true)],
   [],
   .ret (.bool true) (W []) 0),
  ([((nN f.eK.length),true),((f.dv==(0:Int)),true),((nN f.cu.length),false)],
   [],
   .ret (.bool false) (W []) 0),
  ([((nN f.eK.length),true),((f.dv==(0:Int)),false)],
   [],
   .ret (.bool false) (W []) 0),
  ([((nN f.eK.length),false)],
   [],
   .ret (.bool false) (W []) 0)]
 :=dh.of C C C
noncomputable abbrev AM:Code:=dG Tryz.f117
noncomputable abbrev WR:Code:=dP (dB (dm 2 AM))
noncomputable abbrev WS:Code:=lH (dP (dD WR))
noncomputable abbrev WT:Code:=dP WS
def jU(k:Int):FL:={ f with k:=k }
def Ap(r:List (Nat×V)):St:=ff ([(1,.ptr (some (0,0)))]++r) (W [(0,.cells f.T)]) 1
theorem ajf:dn (U dY []) [(7,.split)] 0 Tryz.f117 [1,3] (dN 2 AM) (dw [f.v] .nil 0) [([((decide (f.r>=(0:Int))),true)],
   [],
   .to .normal (Ap f [(3,.bool (decide (f.r<=(3:Int))))])),
  ([((decide (f.r>=(0:Int))),false)],
   [],
   .to .normal (Ap f [(3,.bool false)]))]
 :=dh.of C C C
theorem ajg:dn (U dY []) [] 0 Tryz.f117 [1,3,14] (dB (dB (dm 2 AM))) (Ap (jU f 1) [(3,.bool b)]) [([],
   [],
   .to .normal (Ap (jU f 1) [(3,.bool b),(14,L 1)]))]
 :=dh.of C C C
theorem ajh:dn (U dY []) [] 0 Tryz.f117 [1,3,15] (dB (dD WR)) (Ap (jU f 1) [(3,.bool b),(14,L 1)]) [([],
   [],
   .to .normal (Ap (jU f 1) [(3,.bool b),(15,.bool true)]))]
 :=dh.of C C C
abbrev Fw:Prop:=V.int B (IntKind.i64.wrap (IntKind.i64.wrap (IntKind.i64.wrap ((2:Int)*f.r)+(1:Int))*IntKind.i64.wrap (IntKind.i64.wrap ((2:Int)*f.r)+(1:Int))))=L (((2:Int)*f.r+(1:Int))*((2:Int)*f.r+(1:Int)))
theorem aji:dn (U dY []) [(31,.dy (L ((2*f.r+1)*(2*f.r+1)))),(32,.split),(37,.split),(42,.split)] 0 Tryz.f117 [1] (dB WS) (Ap (jU f 1) [(3,.bool true),(15,.bool true)]) [([(((Int.ofNat f.eK.length) !=((2:Int)*f.r+(1:Int))*((2:Int)*f.r+(1:Int))),true)],
   [Fw f],
   .ret (.bool false) (W []) 0),
  ([(((Int.ofNat f.eK.length) !=((2:Int)*f.r+(1:Int))*((2:Int)*f.r+(1:Int))),false),((decide (f.dv<(1:Int))),true)],
   [Fw f],
   .ret (.bool false) (W []) 0),
  ([(((Int.ofNat f.eK.length) !=((2:Int)*f.r+(1:Int))*((2:Int)*f.r+(1:Int))),false),((decide (f.dv<(1:Int))),false),((decide (f.dv>(1048576:Int))),true)],
   [Fw f],
   .ret (.bool false) (W []) 0),
  ([(((Int.ofNat f.eK.length) !=((2:Int)*f.r+(1:Int))*((2:Int)*f.r+(1:Int))),false),((decide (f.dv<(1:Int))),false),((decide (f.dv>(1048576:Int))),false)],
   [Fw f],
   .to .normal (Ap (jU f 1) []))]
 :=dh.of C C C
theorem ajj:dn (U dY []) [] 0 Tryz.f117 [] (dB WS) (Ap (jU f 1) [(3,.bool false),(15,.bool true)]) [([],
   [],
   .ret (.bool false) (W []) 0)]
 :=dh.of C C C
theorem ajk:dn (U dY []) [] 0 Tryz.f117 [1,4] (dB (dB WT)) (Ap (jU f 1) []) [([],
   [],
   .to .normal (Ap (jU f 1) [(4,M 0)]))]
 :=dh.of C C C
abbrev CB:Prop:=V.dr (dj (dM f.eK) (i*1) 1)=V.dr [D.int B x]
theorem ajl:dn (U dY []) [(48,.split),(54,.dy (.dr [.int .i64 x])),(61,.dy (.dr [.int .i64 x])),(56,.split),(63,.split),(50,.dy (M (i+1)))] 0 Tryz.f117 [1,4] (dD (dD (dP (dB WT)))) (Ap (jU f 1) [(4,M i)]) [([((decide (Int.ofNat i<(Int.ofNat f.eK.length))),true),((decide (x<(-4096:Int))),true)],
   [((0:Int)<=Int.ofNat i/\Int.ofNat i<(Int.ofNat f.eK.length)),((dM f.eK).length=f.eK.length*1),CB f i x],
   .ret (.bool false) (W []) 0),
  ([((decide (Int.ofNat i<(Int.ofNat f.eK.length))),true),((decide (x<(-4096:Int))),false),((decide (x>(4096:Int))),true)],
   [((0:Int)<=Int.ofNat i/\Int.ofNat i<(Int.ofNat f.eK.length)),((dM f.eK).length=f.eK.length*1),CB f i x,((0:Int)<=Int.ofNat i/\Int.ofNat i<(Int.ofNat f.eK.length)),((dM f.eK).length=f.eK.length*1),CB f i x],
   .ret (.bool false) (W []) 0),
  ([((decide (Int.ofNat i<(Int.ofNat f.eK.length))),true),((decide (x<(-4096:Int))),false),((decide (x>(4096:Int))),false)],
   [((0:Int)<=Int.ofNat i/\Int.ofNat i<(Int.ofNat f.eK.length)),((dM f.eK).length=f.eK.length*1),CB f i x,((0:Int)<=Int.ofNat i/\Int.ofNat i<(Int.ofNat f.eK.length)),((dM f.eK).length=f.eK.length*1),CB f i x,(V.int B (IntKind.i64.wrap (Int.ofNat i+(1:Int)))=M (i+1))],
   .to .normal (Ap (jU f 1) [(4,M (i+1))])),
  ([((decide (Int.ofNat i<(Int.ofNat f.eK.length))),false)],
   [],
   .to (.exit 1) (Ap (jU f 1) [(4,M i)]))]
 :=dh.of C C C
theorem ajm:dn (U (eZ 145 [(jU f 1).v,.bool true,.bool false,.bool false,.bool true] (.bool p) dY) []) [] 0 Tryz.f117 [] (dP WT) (Ap (jU f 1) [(4,M i)]) [([],
   [(eY [(jU f 1).v,.bool true,.bool false,.bool false,.bool true])],
   .ret (.bool p) (W []) 0)]
 :=dh.of C C C
theorem abK:dn (U (eZ 145 [(jU f 2).v,.bool false,.bool false,.bool false,.bool true] (.bool p) dY) []) [(72,.split)] 0 Tryz.f117 [] (dm 2 AM) (Ap (jU f 2) [(3,.bool b)]) [([(b,true)],
   [(eY [(jU f 2).v,.bool false,.bool false,.bool false,.bool true])],
   .ret (.bool p) (W []) 0),
  ([(b,false)],
   [],
   .ret (.bool false) (W []) 0)]
 :=dh.of C C C
theorem abL:dn (U (eZ 145 [(jU f 3).v,.bool false,.bool false,.bool false,.bool true] (.bool p) dY) []) [(72,.split)] 0 Tryz.f117 [] (dm 2 AM) (Ap (jU f 3) [(3,.bool b)]) [([(b,true)],
   [(eY [(jU f 3).v,.bool false,.bool false,.bool false,.bool true])],
   .ret (.bool p) (W []) 0),
  ([(b,false)],
   [],
   .ret (.bool false) (W []) 0)]
 :=dh.of C C C
theorem abM:dn (U (eZ 145 [(jU f 4).v,.bool false,.bool false,.bool false,.bool true] (.bool p) dY) []) [(72,.split)] 0 Tryz.f117 [] (dm 2 AM) (Ap (jU f 4) [(3,.bool b)]) [([(b,true)],
   [(eY [(jU f 4).v,.bool false,.bool false,.bool false,.bool true])],
   .ret (.bool p) (W []) 0),
  ([(b,false)],
   [],
   .ret (.bool false) (W []) 0)]
 :=dh.of C C C
theorem abN(c p:Bool):dn (U (eZ 145 [(jU f 5).v,.bool false,.bool false,.bool true,.bool false] (.bool p) (eZ 137 [fg f.cu] (.bool c) dY)) []) [(81,.split)] 0 Tryz.f117 [] (dm 2 AM) (Ap (jU f 5) [(3,.bool b)]) [([(c,true)],
   [(eY [fg f.cu]),(eY [(jU f 5).v,.bool false,.bool false,.bool true,.bool false])],
   .ret (.bool p) (W []) 0),
  ([(c,false)],
   [(eY [fg f.cu])],
   .ret (.bool false) (W []) 0)]
 :=dh.of C C C
theorem abO:dn (U (eZ 145 [(jU f 6).v,.bool false,.bool false,.bool false,.bool false] (.bool p) dY) []) [] 0 Tryz.f117 [] (dm 2 AM) (Ap (jU f 6) [(3,.bool b)]) [([],
   [(eY [(jU f 6).v,.bool false,.bool false,.bool false,.bool false])],
   .ret (.bool p) (W []) 0)]
 :=dh.of C C C
theorem abP:dn (U (eZ 145 [(jU f 7).v,.bool false,.bool true,.bool false,.bool false] (.bool p) dY) []) [(93,.split),(97,.split)] 0 Tryz.f117 [] (dm 2 AM) (Ap (jU f 7) [(3,.bool b)]) [([((decide (f.vl>=(0:Int))),true),((decide (f.vl<=(256:Int))),true)],
   [(eY [(jU f 7).v,.bool false,.bool true,.bool false,.bool false])],
   .ret (.bool p) (W []) 0),
  ([((decide (f.vl>=(0:Int))),true),((decide (f.vl<=(256:Int))),false)],
   [],
   .ret (.bool false) (W []) 0),
  ([((decide (f.vl>=(0:Int))),false)],
   [],
   .ret (.bool false) (W []) 0)]
 :=dh.of C C C
theorem abQ:dn (U (eZ 145 [(jU f 8).v,.bool false,.bool true,.bool false,.bool true] (.bool p) dY) []) [(107,.split),(111,.split),(116,.split),(121,.split)] 0 Tryz.f117 [] (dm 2 AM) (Ap (jU f 8) [(3,.bool b)]) [([((decide (f.r>=(-3:Int))),true),((decide (f.r<=(3:Int))),true),((decide (f.vl>=(-3:Int))),true),((decide (f.vl<=(3:Int))),true)],
   [(eY [(jU f 8).v,.bool false,.bool true,.bool false,.bool true])],
   .ret (.bool p) (W []) 0),
  ([((decide (f.r>=(-3:Int))),true),((decide (f.r<=(3:Int))),true),((decide (f.vl>=(-3:Int))),true),((decide (f.vl<=(3:Int))),false)],
   [],
   .ret (.bool false) (W []) 0),
  ([((decide (f.r>=(-3:Int))),true),((decide (f.r<=(3:Int))),true),((decide (f.vl>=(-3:Int))),false)],
   [],
   .ret (.bool false) (W []) 0),
  ([((decide (f.r>=(-3:Int))),true),((decide (f.r<=(3:Int))),false)],
   [],
   .ret (.bool false) (W []) 0),
  ([((decide (f.r>=(-3:Int))),false)],
   [],
   .ret (.bool false) (W []) 0)]
 :=dh.of C C C
theorem abR:dn (U dY []) [(16,.dy (.bool false)),(68,.dy (.bool false)),(69,.dy (.bool false)),(70,.dy (.bool false)),(77,.dy (.bool false)),(86,.dy (.bool false)),(90,.dy (.bool false)),(104,.dy (.bool false))] 0 Tryz.f117 [] (dm 2 AM) (Ap f [(3,.bool b)]) [([],
   [(V.bool (f.k==(1:Int))=V.bool false),(V.bool (f.k==(2:Int))=V.bool false),(V.bool (f.k==(3:Int))=V.bool false),(V.bool (f.k==(4:Int))=V.bool false),(V.bool (f.k==(5:Int))=V.bool false),(V.bool (f.k==(6:Int))=V.bool false),(V.bool (f.k==(7:Int))=V.bool false),(V.bool (f.k==(8:Int))=V.bool false)],
   .ret (.bool false) (W []) 0)]
 :=dh.of C C C
end
set_option maxRecDepth 10000
section
variable(p:P7)(c:List Int){α:Type}{n i:Nat}
theorem Ee{l:List α}{d:α}{f:α->Bool}{i:Nat}(hi:i<l.length)(h:f (l.getD i d)=true):l.any f=true:=
 List.any_eq_true.2 ⟨l.getD i d,by rw[ax,au hi];exact bK hi,h⟩
theorem HI{l:List α}{d:α}{f:α->Bool}(h:∀j,j<l.length->f (l.getD j d)=false):l.any f=false:=by
 rw[cR];intro x H;obtain⟨j,w7,rfl⟩:=bW H;have:=h j w7;rw[ax,au w7]at this;simpa using this
theorem Fx{l:List (Int×Int)}{i:Nat}(h:i<l.length):V.dr (dj (qO l) (i*2) 2)= .dr [.int .i64 (l.getD i (0,0)).1,.int .i64 (l.getD i (0,0)).2]:=Pt (by rw[ax,au h];rfl)
def JH(p:Int×Int):Bool:=((decide (p.1< -65536)||decide (p.1>65536))||decide (p.2< -65536))||decide (p.2>65536)
def jw(l:List (Int×Int)):Bool:=!(l.any JH)&&(decide (Int.ofNat l.length>=3)&&decide (Int.ofNat l.length<=64))
theorem abS(l:List (Int×Int))(hl:l.length<=1000000000):dS ak 120 [wM l] (.bool (jw l)):=by
 refine eV Tryz.func120 (fu 1 (dg _) (aiS l) all_nil ?_);refine K1 0 l.length [0,3] (sPh l) (fun i=>JH (l.getD i (0,0))) (.bool false,W [],0) (dg _) (aiT l) all_nil .refl (fun i _=>⟨_,dg _,_,_,_,aiU l i (l.getD i (0,0)).1 (l.getD i (0,0)).2,?_⟩) (fun i hi _ ht=>?_) (fun hj=>?_)
 . have hp:=A9 l;have hg:=fun h=>Fx (l:=l) (i:=i) h
   repeat' (first|exact gB|refine dz ?_ ?_)
   all_goals
    intro K;simp only[aD,aI,bh,aL,bg,JF,JG]at K;refine⟨?_,?_⟩
    . repeat' (first|exact all_nil|refine J ?_ ?_)
      all_goals first
       |exact iM K.1
       |exact hp
       |exact hg K.1
       |exact gJ G
    . first
      |exact⟨K.1,by simp only[JH,K,cE,cm,cj,cO],rfl⟩
      |exact⟨rfl,K,rfl⟩
 . refine aH V.bool (Eq.symm ?_);unfold jw;rw[Ee hi ht];rfl
 . have e:jw l=(decide (Int.ofNat l.length>=3)&&decide (Int.ofNat l.length<=64)):=by unfold jw;rw[HI hj];rfl
   rw[e];exact eI (dg _) (aiV l _) (dz (g1 fun h=>⟨all_nil,_,_,_,rfl,by rw[h];rfl⟩) (dA (g1 fun h=>⟨all_nil,_,_,_,rfl,by rw[h];rfl⟩)))
theorem WU:kE ak 143 (gS JE):=by
 refine og Tryz.func143 fun args s' v e=>?_;unfold JE at e;split at e
 case h_2=>cases e
 rename_i x k;obtain⟨rfl,rfl⟩:=sm e;refine⟨rfl,rfl,rfl,fun hA=>?_⟩;have Y:0<=k/\k<=1000000000:=hA _ (by simp);have e1:IntKind.i64.wrap ((0:Int)-k)= -k:=by rw[ik G G];omega
 refine eI (dg _) (aiM x k) (dz (g1 fun h=>⟨all_nil,_,_,_,rfl,?_⟩) (dA (g1 fun h=>⟨all_nil,_,_,_,rfl,?_⟩)))
 . rw[e1]at h;unfold w9;rw[show decide (-k<=x)=true from h];rfl
 . rw[e1]at h;unfold w9;rw[show decide (-k<=x)=false from h];rfl
theorem Pz:eR ak Wv9:=fQ WU (dg _)
def Mv:Int:=IntKind.i64.wrap (IntKind.i64.wrap (p.a*p.e)-IntKind.i64.wrap (p.b*p.d))
def Rl:Bool:=w9 p.a 4096&&(w9 p.b 4096&&(w9 p.d 4096&&w9 p.e 4096))
def US:Bool:=w9 p.c 268435456&&w9 p.f 268435456
def Aq:Bool:=decide (p.n>=1)&&(decide (p.n<=4096)&&(Rl p&&(US p&&(Mv p !=0))))
theorem v9D:dS ak 116 [.agg p.T] (.bool (Aq p)):=by
 have A1:∀{l:ah},(∀a∈l,a)->∀a∈((0:Int)<=(4096:Int)/\(4096:Int)<=(1000000000:Int))::l,a:=fun h=>J fa h;have A2:∀{l:ah},(∀a∈l,a)->∀a∈((0:Int)<=(268435456:Int)/\(268435456:Int)<=(1000000000:Int))::l,a:=fun h=>J fa h;have k3:TG ak 0 Tryz.f116.ntmps (dm 3 Pw) (Na p [(3,.bool (Rl p)),(4,.bool (US p))]) (fD ak 0 Tryz.f116 fun u _ _=>u= .bool (Aq p)):=by
  refine eI (dg _) (aiZ p (Rl p) (US p)) ?_
  repeat' (first|exact gB|refine dz ?_ ?_)
  all_goals
   intro K;simp only[aD,aI,bh,aL,bg]at K;exact⟨all_nil,_,_,_,rfl,aH V.bool (by simp only[Aq,Mv,K,aN,aP])⟩
 have k2:TG ak 0 Tryz.f116.ntmps (dm 2 Pw) (Na p [(3,.bool (Rl p))]) (fD ak 0 Tryz.f116 fun u _ _=>u= .bool (Aq p)):=by
  refine tO 1 Pz (aiY p (Rl p)) ?_
  repeat' (first|exact gB|refine dz ?_ ?_)
  all_goals
   intro K;simp only[aD,aI,bh,aL,bg]at K;refine⟨by repeat' (first|exact all_nil|refine A2 ?_),_,rfl,?_⟩
   first
   |(rw[show US p=true by simp only[US,K,aN]]at k3;exact k3)
   |(rw[show US p=false by simp only[US,K,aN,aP]]at k3;exact k3)
 refine eV Tryz.func116 (tO 2 Pz (aiX p) ?_)
 repeat' (first|exact gB|refine dz ?_ ?_)
 all_goals
  intro K;simp only[aD,aI,bh,aL,bg]at K;refine⟨by repeat' (first|exact all_nil|refine A1 ?_),_,rfl,?_⟩
  first
  |(rw[show Rl p=true by simp only[Rl,K,aN]]at k2;exact k2)
  |(rw[show Rl p=false by simp only[Rl,K,aN,aP]]at k2;exact k2)
def Mw(i:Nat):Bool:=(decide (c.getD i 0<0)||decide (c.getD i 0>65535))||(match i with|0=>false|j+1=>decide (c.getD (j+1) 0<c.getD j 0))
def jF:Bool:=(decide (Int.ofNat c.length>=2)&&decide (Int.ofNat c.length<=257))&& !((List.range c.length).any (Mw c))
theorem qB{f:Nat->Bool}(hi:i<n)(h:f i=true):(List.range n).any f=true:=List.any_eq_true.2 ⟨i,bH.2 hi,h⟩
theorem qC{f:Nat->Bool}(h:∀j,j<n->f j=false):(List.range n).any f=false:=by
 rw[cR];intro x H;rw[h x (bH.1 H)];simp
theorem c5D(hl:c.length<=1000000000):dS ak 137 [fg c] (.bool (jF c)):=by
 refine eV Tryz.func137 ?_;have hp:=ew c;have vt:(decide (Int.ofNat c.length>=2)&&decide (Int.ofNat c.length<=257))=true->TG ak 0 Tryz.f137.ntmps Px (ff [(0,fg c)] (W []) 0) (fD ak 0 Tryz.f137 fun u _ _=>u= .bool (jF c)):=fun hn=>by
  refine K1 0 c.length [0,4] (sC5 c) (Mw c) (.bool false,W [],0) (dg _) (ai1 c) all_nil .refl (fun i hi=>?_) (fun i hi _ ht=>?_) (fun hj=>?_)
  . cases i with
    |zero=>
     refine⟨_,dg _,_,_,_,ai2 c (c.getD 0 0),?_⟩;have hg:=fun h=>fJ (l:=c) (i:=0) h
     repeat' (first|exact gB|refine dz ?_ ?_)
     all_goals
      intro K;simp only[aD,aI,bh,aL,bg]at K;refine⟨?_,?_⟩
      . repeat' (first|exact all_nil|refine J ?_ ?_)
        all_goals first
         |exact⟨Int.le_refl _,aW K.1⟩
         |exact hp
         |exact hg (cg.1 (aW K.1))
         |rfl
      . first
        |exact⟨cg.1 (aW K.1),by simp only[Mw,K,cE,cm,cj,cO],rfl⟩
        |exact⟨rfl,by have:=bx K;simp only[gT]at this;omega,rfl⟩
    |succ j=>
     refine⟨_,dg _,_,_,_,ai3 c j (c.getD (j+1) 0) (c.getD j 0),?_⟩;have hg:=fun h=>fJ (l:=c) (i:=j+1) h;have hg2:=fun h=>fJ (l:=c) (i:=j) h
     repeat' (first|exact gB|refine dz ?_ ?_)
     all_goals
      intro K;simp only[aD,aI,bh,aL,bg,JF,JG]at K;refine⟨?_,?_⟩
      . repeat' (first|exact all_nil|refine J ?_ ?_)
        all_goals first
         |exact iM K.1
         |exact hp
         |exact hg K.1
         |exact hg2 G
         |exact iM (i:=j) G
         |exact aH V.bool (aY (by simp only[gT];omega))
         |exact wH (by simp only[gT];omega) G
      . first
        |exact⟨K.1,by simp only[Mw,K,cE,cm,cj,cO],rfl⟩
        |exact⟨rfl,K,rfl⟩
  . refine aH V.bool (Eq.symm ?_);unfold jF;rw[qB hi ht];simp
  . refine eI (dg _) (ai4 c _) (dA (g0 ⟨all_nil,_,_,_,rfl,aH V.bool (Eq.symm ?_)⟩));unfold jF;rw[qC hj,hn];rfl
 refine isH 3 (dg _) (ai0 c) ?_
 repeat' (first|exact gB|refine dz ?_ ?_)
 all_goals
  intro K;simp only[aD,aI,bh,aL,bg]at K;refine⟨all_nil,?_⟩
  first
  |exact absurd K.2 fa
  |exact vt (by simp only[Bool.not_eq_false']at K;rw[K.1,K.2];rfl)
  |exact aH V.bool (Eq.symm (by simp only[bP]at K;simp only[jF,K,aP,cz]))
end
set_option maxRecDepth 10000
section
variable{N n0:Nat}{c:Code}{s:St}{h1:Exit->St->Prop}{hL:gy}{hh:List (Nat×List (Nat×lI))}{hx:List (Nat×lI)}{fn:Func}{live:List Nat}{di:List (List (Bool×Bool)×ah×jD)}
def SqQ(P:Program)(N n0:Nat)(fn:Func)(live:List Nat)(h2:V->I O->Nat->Prop)(b:Code)(h1:Exit->St->Prop):jD->Prop
 | .to .normal s1=>TG P N n0 b s1 h1
 | .to y s1=>∀A,kW N live A=some s1->h1 y A
 | .ret v h n=>h2 v h n/\∀A,fD P N fn h2 .ret A->h1 .ret A
 | .bad=>False
theorem pF(es:eR ak hL)(h2:V->I O->Nat->Prop)(hr:dn (U hL hh) hx N fn live (dB c) s di)(h:∀g∈di,(∀b∈g.1,b.1=b.2)->(∀a∈g.2.1,a)/\SqQ ak N n0 fn live h2 (dP c) h1 g.2.2)(hs:(rK c&&eJ n0 (dB c))=true:=by kernel_rfl):TG ak N n0 c s h1:=by
 rw[ay]at hs;refine dI hs.1 (gz es h2 hr (fun g hg K=>?_) hs.2);obtain⟨Q,R⟩:=h g hg K;refine⟨Q,?_⟩;obtain⟨_,_,r⟩:=g;cases r with
 |to y s1=>
  cases y with
  |normal=>exact fun A dU=>fU dU R
  |_=>exact R
 |ret v h n=>exact R
 |bad=>exact R.elim
end
section
variable(f:FL)(b:Bool)
def qW(a b c d:Bool):Bool:=(a||(nN f.eK.length&&(f.dv==(0:Int))))&&((b||(f.vl==(0:Int)))&&((c||nN f.cu.length)&&(d||(f.r==(0:Int)))))
theorem pn1:dS ak 145 [f.v,.bool true,.bool false,.bool false,.bool true] (.bool (qW f true false false true)):=by
 have e:qW f true false false true=((f.vl==(0:Int))&&(nN f.cu.length&&true)):=rfl;rw[e];refine eV Tryz.func145 (eI (dg _) (SD f) ?_)
 repeat' (first|exact gB|refine dz ?_ ?_)
 all_goals
  intro K;simp only[aD,aI,bh,aL,bg]at K;exact⟨all_nil,_,_,_,rfl,aH V.bool (by simp only[K,aN,aP,cq])⟩
theorem pn2:dS ak 145 [f.v,.bool false,.bool false,.bool false,.bool true] (.bool (qW f false false false true)):=by
 have e:qW f false false false true=((nN f.eK.length&&(f.dv==(0:Int)))&&((f.vl==(0:Int))&&(nN f.cu.length&&true))):=rfl;rw[e];refine eV Tryz.func145 (eI (dg _) (SE f) ?_)
 repeat' (first|exact gB|refine dz ?_ ?_)
 all_goals
  intro K;simp only[aD,aI,bh,aL,bg]at K;exact⟨all_nil,_,_,_,rfl,aH V.bool (by simp only[K,aN,aP,cq])⟩
theorem pn3:dS ak 145 [f.v,.bool false,.bool false,.bool true,.bool false] (.bool (qW f false false true false)):=by
 have e:qW f false false true false=((nN f.eK.length&&(f.dv==(0:Int)))&&((f.vl==(0:Int))&&(f.r==(0:Int)))):=rfl;rw[e];refine eV Tryz.func145 (eI (dg _) (SF f) ?_)
 repeat' (first|exact gB|refine dz ?_ ?_)
 all_goals
  intro K;simp only[aD,aI,bh,aL,bg]at K;exact⟨all_nil,_,_,_,rfl,aH V.bool (by simp only[K,aN,aP,cq])⟩
theorem pn4:dS ak 145 [f.v,.bool false,.bool false,.bool false,.bool false] (.bool (qW f false false false false)):=by
 have e:qW f false false false false=((nN f.eK.length&&(f.dv==(0:Int)))&&((f.vl==(0:Int))&&(nN f.cu.length&&(f.r==(0:Int))))):=rfl;rw[e];refine eV Tryz.func145 (eI (dg _) (SG f) ?_)
 repeat' (first|exact gB|refine dz ?_ ?_)
 all_goals
  intro K;simp only[aD,aI,bh,aL,bg]at K;exact⟨all_nil,_,_,_,rfl,aH V.bool (by simp only[K,aN,aP,cq])⟩
theorem pn5:dS ak 145 [f.v,.bool false,.bool true,.bool false,.bool false] (.bool (qW f false true false false)):=by
 have e:qW f false true false false=((nN f.eK.length&&(f.dv==(0:Int)))&&(nN f.cu.length&&(f.r==(0:Int)))):=rfl;rw[e];refine eV Tryz.func145 (eI (dg _) (SH f) ?_)
 repeat' (first|exact gB|refine dz ?_ ?_)
 all_goals
  intro K;simp only[aD,aI,bh,aL,bg]at K;exact⟨all_nil,_,_,_,rfl,aH V.bool (by simp only[K,aN,aP,cq])⟩
theorem pn6:dS ak 145 [f.v,.bool false,.bool true,.bool false,.bool true] (.bool (qW f false true false true)):=by
 have e:qW f false true false true=((nN f.eK.length&&(f.dv==(0:Int)))&&(nN f.cu.length&&true)):=rfl;rw[e];refine eV Tryz.func145 (eI (dg _) (SI f) ?_)
 repeat' (first|exact gB|refine dz ?_ ?_)
 all_goals
  intro K;simp only[aD,aI,bh,aL,bg]at K;exact⟨all_nil,_,_,_,rfl,aH V.bool (by simp only[K,aN,aP,cq])⟩
def zA:Bool:=decide (f.r>=0)&&decide (f.r<=3)
def CC(x:Int):Bool:=decide (x< -4096)||decide (x>4096)
def JI:Bool:=zA f&&(!((Int.ofNat f.eK.length) !=(2*f.r+1)*(2*f.r+1))&&(!decide (f.dv<1)&&(!decide (f.dv>1048576)&&(!f.eK.any CC&&qW f true false false true))))
def iH:Bool:=if f.k=1 then JI f else if f.k=2\/f.k=3\/f.k=4 then zA f&&qW f false false false true else if f.k=5 then jF f.cu&&qW f false false true false
 else if f.k=6 then qW f false false false false else if f.k=7 then(decide (f.vl>=0)&&decide (f.vl<=256))&&qW f false true false false
 else if f.k=8 then(decide (f.r>= -3)&&(decide (f.r<=3)&&(decide (f.vl>= -3)&&decide (f.vl<=3))))&&qW f false true false true else false
theorem abT(Y:f.eK.length<=1000000000)(Q:f=jU f 1)(b:Bool)(hb:b=zA f){h1:Exit->St->Prop}(hQ:∀A,fD ak 0 Tryz.f117 (fun u _ _=>u= .bool (JI f)) .ret A->h1 .ret A):TG ak 0 Tryz.f117.ntmps (dD WR) (Ap f [(3,.bool b),(14,L 1)]) h1:=by
 have r3:=ajh f b;have r4:=aji f;have r5:=ajj f;have r6:=ajk f;have r7:=fun i=>ajl f i (f.eK.getD i 0);have r8:=fun i=>ajm f i (qW f true false false true);rw[<- Q]at r3 r4 r5 r6 r7 r8;refine pF (dg _) eH r3 (dA (g0 ⟨all_nil,?_⟩));refine jK (t:=true) C C (fun _=>?_) (fun h=>by cases h);cases b with
 |false=>
  have e2:JI f=false:=by unfold JI;rw[<- hb];rfl
  exact pF (dg _) _ r5 (dA (g0 ⟨all_nil,aH V.bool e2.symm,hQ⟩))
 |true=>
  have hr:zA f=true:=hb.symm;have IN:=hr;unfold zA at IN;rw[ay,aX,aX]at IN;have hw:V.int B (IntKind.i64.wrap (IntKind.i64.wrap (IntKind.i64.wrap ((2:Int)*f.r)+(1:Int))*IntKind.i64.wrap (IntKind.i64.wrap ((2:Int)*f.r)+(1:Int))))=L (((2:Int)*f.r+(1:Int))*((2:Int)*f.r+(1:Int))):=by
   obtain⟨k1,k2⟩:=IN;rcases(by omega:f.r=0\/f.r=1\/f.r=2\/f.r=3)with h|h|h|h<;>rw[h]<;>rfl
  refine pF (dg _) (fun u _ _=>u= .bool (JI f)) r4 ?_
  repeat' (first|exact gB|refine dz ?_ ?_)
  all_goals
   intro K;simp only[aD,aI,bh,aL,bg]at K;refine⟨eC hw,?_⟩
  . exact⟨aH V.bool (by simp only[JI,hr,K,aN,Bool.not_true,aP]),hQ⟩
  . exact⟨aH V.bool (by simp only[JI,hr,K,aN,Bool.not_true,Bool.not_false,aP]),hQ⟩
  . exact⟨aH V.bool (by simp only[JI,hr,K,aN,Bool.not_true,Bool.not_false,aP]),hQ⟩
  have e3:JI f=(!f.eK.any CC&&qW f true false false true):=by simp only[JI,hr,K,aN,Bool.not_false]
  rw[e3]at hQ;have hp:=ew f.eK;have hP:=pn1 f;refine dI C (pF (dg _) eH r6 (dA (g0 ⟨all_nil,?_⟩)));refine Eb (fn:=Tryz.f117) 1 (fun u _ _=>u= .bool (!f.eK.any CC&&qW f true false false true)) [1,4] (f.eK.length-·) (fun i=>i<=f.eK.length/\∀j,j<i->CC (f.eK.getD j 0)=false) (fun i=>Ap f [(4,M i)]) 0 ⟨aS _,fun _ h=>absurd h (bX _)⟩ .refl (fun i ⟨hi,hj⟩=>?_);refine⟨_,dg _,_,_,_,r7 i,?_⟩;have hg:=fun h=>fJ (l:=f.eK) (i:=i) h
  repeat' (first|exact gB|refine dz ?_ ?_)
  all_goals
   intro K;simp only[aD,aI,bh,aL,bg,JF,JG]at K
  . refine⟨J (iM K.1) (J hp (eC (hg K.1))),aH V.bool (Eq.symm ?_),hQ⟩;rw[Ee (d:=0) K.1 (by simp only[CC,K,cj])];rfl
  . refine⟨J (iM K.1) (J hp (J (hg K.1) (J (iM K.1) (J hp (eC (hg K.1)))))),aH V.bool (Eq.symm ?_),hQ⟩;rw[Ee (d:=0) K.1 (by simp only[CC,K,cO])];rfl
  . refine⟨J (iM K.1) (J hp (J (hg K.1) (J (iM K.1) (J hp (J (hg K.1) (eC (gJ G))))))),i+1,by show f.eK.length-(i+1)<f.eK.length-i;omega,⟨K.1,fun j UR=>?_⟩,.refl⟩;rcases br j i with q|q
    . exact hj j q
    . obtain rfl:j=i:=by omega
      simp only[CC,K,cE]
  . refine⟨all_nil,fun s3 KY=>?_⟩;rw[gW];refine fU KY ?_;have he:(!f.eK.any CC&&qW f true false false true)=qW f true false false true:=by rw[HI (d:=0) (fun j UR=>hj j G)];rfl
    rw[he]at hQ;exact gz (fj hP (dg _)) (fun u _ _=>u= .bool (qW f true false false true)) (r8 i) (dA (g0 ⟨eC rfl,rfl,hQ⟩))
abbrev RB:Exit->St->Prop:=fD ak 0 Tryz.f117 fun u _ _=>u= .bool b
theorem v3T(Y:f.eK.length<=1000000000)(I3:f.cu.length<=1000000000)(b:Bool)(hb:b=zA f):TG ak 0 Tryz.f117.ntmps (dm 2 AM) (Ap f [(3,.bool b)]) (RB (iH f)):=by
 have CD:∀k,f.k=k->f=jU f k:=fun k h=>by obtain⟨a,_,_,_,_,_⟩:=f;simp only at h;subst h;rfl
 by_cases Q:f.k=1
 . have e:iH f=JI f:=by unfold iH;rw[aE Q]
   have ef:=CD 1 Q;rw[e];have r2:=ajg f b;rw[<- ef]at r2;refine dI C (pF (dg _) eH r2 (dA (g0 ⟨all_nil,?_⟩)));exact fB (i:=0) C (abT f Y ef b hb fun A h=>h)
 by_cases R:f.k=2\/f.k=3\/f.k=4
 . have e:iH f=(zA f&&qW f false false false true):=by unfold iH;rw[aB Q,aE R]
   rw[e,<- hb];rcases R with h|h|h
   . have hP:=pn2 f;have hr:=abK f b (qW f false false false true);rw[<- CD _ h]at hr;exact eI (fj hP (dg _)) hr (dz (g1 fun q=>⟨eC rfl,_,_,_,rfl,by rw[q];rfl⟩) (dA (g1 fun q=>⟨all_nil,_,_,_,rfl,by rw[q];rfl⟩)))
   . have hP:=pn2 f;have hr:=abL f b (qW f false false false true);rw[<- CD _ h]at hr;exact eI (fj hP (dg _)) hr (dz (g1 fun q=>⟨eC rfl,_,_,_,rfl,by rw[q];rfl⟩) (dA (g1 fun q=>⟨all_nil,_,_,_,rfl,by rw[q];rfl⟩)))
   . have hP:=pn2 f;have hr:=abM f b (qW f false false false true);rw[<- CD _ h]at hr;exact eI (fj hP (dg _)) hr (dz (g1 fun q=>⟨eC rfl,_,_,_,rfl,by rw[q];rfl⟩) (dA (g1 fun q=>⟨all_nil,_,_,_,rfl,by rw[q];rfl⟩)))
 by_cases h5:f.k=5
 . have e:iH f=(jF f.cu&&qW f false false true false):=by unfold iH;rw[aB Q,aB R,aE h5]
   rw[e];have hr:=abN f b (jF f.cu) (qW f false false true false);rw[<- CD _ h5]at hr;exact eI (fj (pn3 f) (fj (c5D f.cu I3) (dg _))) hr (dz (g1 fun q=>⟨J rfl (eC rfl),_,_,_,rfl,by rw[q];rfl⟩) (dA (g1 fun q=>⟨eC rfl,_,_,_,rfl,by rw[q];rfl⟩)))
 by_cases h6:f.k=6
 . have e:iH f=qW f false false false false:=by unfold iH;rw[aB Q,aB R,aB h5,aE h6]
   rw[e];have hr:=abO f b (qW f false false false false);rw[<- CD _ h6]at hr;exact eI (fj (pn4 f) (dg _)) hr (dA (g0 ⟨eC rfl,_,_,_,rfl,rfl⟩))
 by_cases h7:f.k=7
 . have e:iH f=((decide (f.vl>=0)&&decide (f.vl<=256))&&qW f false true false false):=by unfold iH;rw[aB Q,aB R,aB h5,aB h6,aE h7]
   rw[e];have hr:=abP f b (qW f false true false false);rw[<- CD _ h7]at hr;refine eI (fj (pn5 f) (dg _)) hr ?_
   repeat' (first|exact gB|refine dz ?_ ?_)
   all_goals
    intro K;simp only[aD,aI,bh,aL,bg]at K;exact⟨by first|exact all_nil|exact eC rfl,_,_,_,rfl,aH V.bool (by simp only[K,aN,aP])⟩
 by_cases h8:f.k=8
 . have e:iH f=((decide (f.r>= -3)&&(decide (f.r<=3)&&(decide (f.vl>= -3)&&decide (f.vl<=3))))&&qW f false true false true):=by unfold iH;rw[aB Q,aB R,aB h5,aB h6,aB h7,aE h8]
   rw[e];have hr:=abQ f b (qW f false true false true);rw[<- CD _ h8]at hr;refine eI (fj (pn6 f) (dg _)) hr ?_
   repeat' (first|exact gB|refine dz ?_ ?_)
   all_goals
    intro K;simp only[aD,aI,bh,aL,bg]at K;exact⟨by first|exact all_nil|exact eC rfl,_,_,_,rfl,aH V.bool (by simp only[K,aN,aP])⟩
 . have e:iH f=false:=by unfold iH;rw[aB Q,aB R,aB h5,aB h6,aB h7,aB h8]
   rw[e];have nb:∀k:Int,f.k≠k->V.bool (f.k==k)=V.bool false:=fun k h=>aH V.bool (bZ.2 h);refine eI (dg _) (abR f b) (dA (g0 ⟨?_,_,_,_,rfl,rfl⟩));exact J (nb 1 Q) (J (nb 2 fun q=>R (.inl q)) (J (nb 3 fun q=>R (.inr (.inl q))) (J (nb 4 fun q=>R (.inr (.inr q))) (J (nb 5 h5) (J (nb 6 h6) (J (nb 7 h7) (eC (nb 8 h8))))))))
theorem ajo(Y:f.eK.length<=1000000000)(K:f.cu.length<=1000000000):dS ak 117 [f.v] (.bool (iH f)):=by
 refine eV Tryz.func117 (tO 2 (dg _) (ajf f) (dz (g1 fun h=>⟨all_nil,_,rfl,?_⟩) (dA (g1 fun h=>⟨all_nil,_,rfl,?_⟩))))
 . exact v3T f Y K _ (by unfold zA;rw[h];rfl)
 . exact v3T f Y K _ (by unfold zA;rw[h];rfl)
end
set_option maxRecDepth 10000
noncomputable def HJ(T:ai):List Tl:=@dite _ (∃l,T=jv l) (Classical.propDecidable _) (fun h=>Classical.choose h) (fun _=>[])
noncomputable def JJ:ai->Option (ah×V)
 | [.agg [.eo n T]]=>some ([T=jv (HJ T),n=(HJ T).length,n<=1000000],.bool (cD (fc (HJ T))))
 |_=>none
noncomputable abbrev HK:Code:=dG Tryz.f86
noncomputable abbrev ajp:Code:=dB (dm 5 HK)
noncomputable abbrev SJ:Code:=dD ajp
noncomputable abbrev WV:Code:=oH (dP SJ)
noncomputable abbrev WW:Code:=oH (dP WV)
noncomputable abbrev WX:Code:=oH (dP WW)
noncomputable abbrev WY:Code:=oH (dP WX)
noncomputable abbrev WZ:Code:=oH (dP WY)
noncomputable abbrev abU:Code:=oH (dP WZ)
def nj(d:Dc)(l:eG)(m c p f:Bool)(r:List (Nat×V)):St:=ff ([(2,.ptr (some (0,0))),(3,.ptr (some (1,0))),(5,.bool m),(6,.bool c),(7,.bool p),(8,.bool f)]++r) (W [(0,.cells d.T),(1,.cells l.T)]) 2
noncomputable abbrev Wfd(l:eG)(p f:Bool):gy:=eZ 116 [.agg l.pl.T] (.bool p) (eZ 117 [l.f.v] (.bool f) (lC 115 (Go.Eng.dW JJ) dY))
theorem ajq(d:Dc)(l:eG)(p f:Bool):dn (U (Wfd l p f) []) [] 0 Tryz.f86 [2,3,5,6,7,8] (dN 5 HK) (dw [d.v,l.v] .nil 0) [([],
   [(jv l.iD=jv (HJ (jv l.iD))),(l.iD.length=(HJ (jv l.iD)).length),(l.iD.length<=1000000),(jv l.fZ=jv (HJ (jv l.fZ))),(l.fZ.length=(HJ (jv l.fZ)).length),(l.fZ.length<=1000000),(eY [.agg l.pl.T]),(eY [l.f.v])],
   .to .normal (nj d l (cD (fc (HJ (jv l.iD)))) (cD (fc (HJ (jv l.fZ)))) p f []))]
 :=dh.of C C C
theorem ajr(d:Dc)(l:eG)(m c p f:Bool):dn (U dY []) [(24,.split),(28,.split)] 0 Tryz.f86 [2,3,5,6,7,8,21] (dB SJ) (nj d l m c p f []) [([((decide (l.kd<(1:Int))),true)],
   [],
   .to .normal (nj d l m c p f [(21,.bool true)])),
  ([((decide (l.kd<(1:Int))),false),((decide (l.kd>(5:Int))),true)],
   [],
   .to .normal (nj d l m c p f [(21,.bool true)])),
  ([((decide (l.kd<(1:Int))),false),((decide (l.kd>(5:Int))),false)],
   [],
   .to .normal (nj d l m c p f [(21,.bool false)]))]
 :=dh.of C C C
theorem abV(d:Dc)(l:eG)(m c p f:Bool):dn (U dY []) [] 0 Tryz.f86 [] (lH (dP SJ)) (nj d l m c p f [(21,.bool true)]) [([],
   [],
   .ret (.int .i64 41) (W []) 0)]
 :=dh.of C C C
theorem ajs(d:Dc)(l:eG)(m c p f:Bool)(nm:Bool):dn (U (eZ 118 [.str l.nm] (.bool nm) dY) []) [] 0 Tryz.f86 [2,3,5,6,7,8,30] (dB WV) (nj d l m c p f []) [([],
   [(eY [.str l.nm])],
   .to .normal (nj d l m c p f [(30,.bool (!nm))]))]
 :=dh.of C C C
theorem abW(d:Dc)(l:eG)(m c p f:Bool):dn (U dY []) [] 0 Tryz.f86 [] (lH (dP WV)) (nj d l m c p f [(30,.bool true)]) [([],
   [],
   .ret (.int .i64 72) (W []) 0)]
 :=dh.of C C C
theorem ajt(d:Dc)(l:eG)(m c p f:Bool):dn (U dY []) [(38,.split),(42,.split),(47,.split),(52,.split),(56,.split),(61,.split),(67,.split)] 0 Tryz.f86 [2,3,5,6,7,8,35] (dB WW) (nj d l m c p f []) [([((decide (l.op<(0:Int))),true)],
   [],
   .to .normal (nj d l m c p f [(35,.bool true)])),
  ([((decide (l.op<(0:Int))),false),((decide (l.op>(255:Int))),true)],
   [],
   .to .normal (nj d l m c p f [(35,.bool true)])),
  ([((decide (l.op<(0:Int))),false),((decide (l.op>(255:Int))),false),((decide (l.md<(0:Int))),true)],
   [],
   .to .normal (nj d l m c p f [(35,.bool true)])),
  ([((decide (l.op<(0:Int))),false),((decide (l.op>(255:Int))),false),((decide (l.md<(0:Int))),false),((decide (l.md>(15:Int))),true)],
   [],
   .to .normal (nj d l m c p f [(35,.bool true)])),
  ([((decide (l.op<(0:Int))),false),((decide (l.op>(255:Int))),false),((decide (l.md<(0:Int))),false),((decide (l.md>(15:Int))),false),((!m),true)],
   [],
   .to .normal (nj d l m c p f [(35,.bool true)])),
  ([((decide (l.op<(0:Int))),false),((decide (l.op>(255:Int))),false),((decide (l.md<(0:Int))),false),((decide (l.md>(15:Int))),false),((!m),false),((!l.S),true),((decide ((Int.ofNat l.iD.length)>(0:Int))),true)],
   [],
   .to .normal (nj d l m c p f [(35,.bool true)])),
  ([((decide (l.op<(0:Int))),false),((decide (l.op>(255:Int))),false),((decide (l.md<(0:Int))),false),((decide (l.md>(15:Int))),false),((!m),false),((!l.S),true),((decide ((Int.ofNat l.iD.length)>(0:Int))),false)],
   [],
   .to .normal (nj d l m c p f [(35,.bool false)])),
  ([((decide (l.op<(0:Int))),false),((decide (l.op>(255:Int))),false),((decide (l.md<(0:Int))),false),((decide (l.md>(15:Int))),false),((!m),false),((!l.S),false)],
   [],
   .to .normal (nj d l m c p f [(35,.bool false)]))]
 :=dh.of C C C
theorem abX(d:Dc)(l:eG)(m c p f:Bool):dn (U dY []) [] 0 Tryz.f86 [] (lH (dP WW)) (nj d l m c p f [(35,.bool true)]) [([],
   [],
   .ret (.int .i64 1) (W []) 0)]
 :=dh.of C C C
theorem aju(d:Dc)(l:eG)(m c p f:Bool)(un:Bool):dn (U (eZ 119 [l.v] (.bool un) dY) []) [] 0 Tryz.f86 [2,3,5,6,7,8,70] (dB WX) (nj d l m c p f []) [([],
   [(eY [l.v])],
   .to .normal (nj d l m c p f [(70,.bool (!un))]))]
 :=dh.of C C C
theorem abY(d:Dc)(l:eG)(m c p f:Bool):dn (U dY []) [] 0 Tryz.f86 [] (lH (dP WX)) (nj d l m c p f [(70,.bool true)]) [([],
   [],
   .ret (.int .i64 41) (W []) 0)]
 :=dh.of C C C
theorem ajv(d:Dc)(l:eG)(m c p f:Bool):dn (U dY []) [(77,.split),(81,.split)] 0 Tryz.f86 [2,3,5,6,7,8,74] (dB WY) (nj d l m c p f []) [([((l.kd==(1:Int)),true)],
   [],
   .to .normal (nj d l m c p f [(74,.bool (!p))])),
  ([((l.kd==(1:Int)),false),((l.kd==(4:Int)),true)],
   [],
   .to .normal (nj d l m c p f [(74,.bool (!p))])),
  ([((l.kd==(1:Int)),false),((l.kd==(4:Int)),false)],
   [],
   .to .normal (nj d l m c p f [(74,.bool false)]))]
 :=dh.of C C C
theorem abZ(d:Dc)(l:eG)(m c p f:Bool):dn (U dY []) [] 0 Tryz.f86 [] (lH (dP WY)) (nj d l m c p f [(74,.bool true)]) [([],
   [],
   .ret (.int .i64 44) (W []) 0)]
 :=dh.of C C C
theorem ajw(d:Dc)(l:eG)(m c p f:Bool):dn (U dY []) [(90,.split),(97,.split)] 0 Tryz.f86 [2,3,5,6,7,8,87] (dB WZ) (nj d l m c p f []) [([((decide (l.sp<(0:Int))),true)],
   [],
   .to .normal (nj d l m c p f [(87,.bool true)])),
  ([((decide (l.sp<(0:Int))),false),((decide (l.sp>(Int.ofNat d.sp.length))),true)],
   [],
   .to .normal (nj d l m c p f [(87,.bool true)])),
  ([((decide (l.sp<(0:Int))),false),((decide (l.sp>(Int.ofNat d.sp.length))),false)],
   [],
   .to .normal (nj d l m c p f [(87,.bool false)]))]
 :=dh.of C C C
theorem ab0(d:Dc)(l:eG)(m c p f:Bool):dn (U dY []) [] 0 Tryz.f86 [] (lH (dP WZ)) (nj d l m c p f [(87,.bool true)]) [([],
   [],
   .ret (.int .i64 23) (W []) 0)]
 :=dh.of C C C
theorem ajx(d:Dc)(l:eG)(m c p f:Bool)(ph:Bool):dn (U (eZ 120 [wM l.gU] (.bool ph) dY) []) [(101,.split),(105,.split),(108,.split),(114,.split)] 0 Tryz.f86 [2,3,5,6,7,8,99] (dB abU) (nj d l m c p f []) [([((!c),true)],
   [],
   .to .normal (nj d l m c p f [(99,.bool true)])),
  ([((!c),false),((l.kd==(3:Int)),true),((!f),true)],
   [],
   .to .normal (nj d l m c p f [(99,.bool true)])),
  ([((!c),false),((l.kd==(3:Int)),true),((!f),false),((l.kd==(5:Int)),true)],
   [(eY [wM l.gU])],
   .to .normal (nj d l m c p f [(99,.bool (!ph))])),
  ([((!c),false),((l.kd==(3:Int)),true),((!f),false),((l.kd==(5:Int)),false)],
   [],
   .to .normal (nj d l m c p f [(99,.bool false)])),
  ([((!c),false),((l.kd==(3:Int)),false),((l.kd==(5:Int)),true)],
   [(eY [wM l.gU])],
   .to .normal (nj d l m c p f [(99,.bool (!ph))])),
  ([((!c),false),((l.kd==(3:Int)),false),((l.kd==(5:Int)),false)],
   [],
   .to .normal (nj d l m c p f [(99,.bool false)]))]
 :=dh.of C C C
theorem ab1(d:Dc)(l:eG)(m c p f:Bool):dn (U dY []) [] 0 Tryz.f86 [] (lH (dP abU)) (nj d l m c p f [(99,.bool true)]) [([],
   [],
   .ret (.int .i64 1) (W []) 0)]
 :=dh.of C C C
theorem ajy(d:Dc)(l:eG)(m c p f:Bool):dn (U dY []) [] 0 Tryz.f86 [] (dP (dm 5 HK)) (nj d l m c p f []) [([],
   [],
   .ret (.int .i64 0) (W []) 0)]
 :=dh.of C C C
set_option maxRecDepth 10000
theorem Ba(l:List Tl):jv (HJ (jv l))=jv l:=by
 have h:∃k,jv l=jv k:=⟨l,rfl⟩;unfold HJ;rw[dif_pos h];exact(Classical.choose_spec h).symm
theorem SK(l:List Tl):(HJ (jv l)).length=l.length:=by
 have h:=aH List.length (Ba l);rw[kp,kp]at h;omega
theorem W5:kE ak 115 (Go.Eng.dW JJ):=by
 refine OB (az C) fun ds s' v e hA=>?_;unfold JJ at e;split at e
 case h_2=>cases e
 rename_i n T;obtain⟨rfl,rfl⟩:=sm e;have e1:T=jv (HJ T):=hA _ (by simp);have e2:n=(HJ T).length:=hA (n=(HJ T).length) (by simp);have e3:n<=1000000:=hA (n<=1000000) (by simp);generalize HJ T=l at *;subst e1 e2;exact OZ l e3
section
variable{N n0:Nat}{c:Code}{s:St}{h1:Exit->St->Prop}{hL:gy}{hh:List (Nat×List (Nat×lI))}{hx:List (Nat×lI)}{fn:Func}{live:List Nat}{di:List (List (Bool×Bool)×ah×jD)}
theorem JK(es:eR ak hL)(β:Bool)(hm:Bool->St)(hr:dn (U hL hh) hx N fn live (dB c) s di)(h:∀g∈di,(∀b∈g.1,b.1=b.2)->(∀a∈g.2.1,a)/\g.2.2= .to .normal (hm β))
  (ho:iK (hm β).F (Uq (dP c))=some (.bool β)) (k1:β=true->TG ak N n0 (lH (dP c)) (hm true) h1) (ab2:List Nat) (S0:St) (hn:kW N ab2 (hm false)=some S0) (k2:β=false->TG ak N n0 (oH (dP c)) S0 h1)
  (hs:((rK c&&eJ n0 (dB c))&&Jc (dP c) (fun _=>true))=true:=by kernel_rfl):TG ak N n0 c s h1:=by
 rw[ay]at hs;refine pF es eH hr (fun g hg K=>?_) hs.1;obtain⟨Q,R⟩:=h g hg K;refine⟨Q,?_⟩;obtain⟨_,_,r⟩:=g;simp only at R;subst R;exact jK (t:=β) hs.2 ho (fun q=>by subst q;exact k1 rfl) (fun q=>by subst q;exact fU hn (k2 rfl))
end
def bk(l:eG):Bool:=decide (l.kd<1)||decide (l.kd>5)
def ba(l:eG)(m:Bool):Bool:=decide (l.op<0)||(decide (l.op>255)||(decide (l.md<0)||(decide (l.md>15)||(!m||(!l.S&&decide (Int.ofNat l.iD.length>0))))))
def bp(l:eG)(p:Bool):Bool:=((l.kd==1)||(l.kd==4))&& !p
def bs(n:Nat)(l:eG):Bool:=decide (l.sp<0)||decide (l.sp>Int.ofNat n)
def bc(l:eG)(c f p:Bool):Bool:=!c||(((l.kd==3)&& !f)||((l.kd==5)&& !p))
def JL(n:Nat)(l:eG)(m c p f nm un ph:Bool):Int:=if bk l=true then 41 else if nm=false then 72 else if ba l m=true then 1 else if un=false then 41 else if bp l p=true then 44 else if bs n l=true then 23 else if bc l c f ph=true then 1 else 0
noncomputable def vy(n:Nat)(l:eG):Int:=JL n l (cD (fc l.iD)) (cD (fc l.fZ)) (Aq l.pl) (iH l.f) (rU l.nm) (Gb l) (jw l.gU)
structure CY(l:eG):Prop where
 nm:l.nm.length<=1000000
 kids:l.kids.length<=1000000
 eK:l.f.eK.length<=1000000
 cu:l.f.cu.length<=1000000
 gU:l.gU.length<=1000000
 fZ:l.fZ.length<=1000000
 iD:l.iD.length<=1000000
theorem CE{p q:Prop}(h:p↔q):cD p=cD q:=by
 by_cases hp:p
 . rw[OS hp,OS (h.1 hp)]
 . rw[Sq hp,Sq (fun x=>hp (h.2 x))]
theorem SL{p q:Nat->Int}(h:CW p=CW q){j:Nat}(hj:j<256):p j=q j:=by
 have:=aH (fun l=>l[j]?) h;simp only[CW,bE,cV hj,bu,aq,D.int.injEq,true_and]at this;exact this
theorem K2:∀{a b:List Tl},jv a=jv b->a.length=b.length/\∀i (h:i<a.length) (h':i<b.length),a[i].x=b[i].x/\a[i].y=b[i].y/\∀j,j<256->a[i].p j=b[i].p j
 | [],[],_=>⟨rfl,fun _ h=>absurd h (bX _)⟩
 | [],t::b,h=>by cases h
 |t::a,[],h=>by cases h
 |t::a,u::b,h=>by
  have h:t.d++jv a=u.d++jv b:=h;obtain⟨Q,R⟩:=List.append_inj h (by rw[Tl.Hy,Tl.Hy]);obtain⟨i1,i2⟩:=K2 R;refine⟨by simp[i1],fun i h h'=>?_⟩;cases i with
  |zero=>
   simp only[Tl.d,List.cons.injEq,D.int.injEq,true_and]at Q;exact⟨Q.1,Q.2.1,fun j hj=>SL Q.2.2 hj⟩
  |succ i=>exact i2 i (by simpa using h) (by simpa using h')
theorem Mx{t u:Tl}(H:t.x=u.x)(hy:t.y=u.y)(hp:∀j,j<256->t.p j=u.p j):okT t->okT u:=by
 rintro⟨Q,R,h3⟩;have ez:nc t.p=nc u.p:=CE ⟨fun h i hi=>by rw[<- hp _ G];exact h i hi,fun h i hi=>by rw[hp _ G];exact h i hi⟩;have ec:∀j,j<256->iw t.p j=iw u.p j:=fun j hj=>by unfold iw;rw[hp _ G,hp _ hj]
 have X:uI (iw t.p) t.p=uI (iw u.p) u.p:=CE ⟨fun h j hj=>by rw[<- ec j hj,<- hp j hj];exact h j hj,fun h j hj=>by rw[ec j hj,hp j hj];exact h j hj⟩;exact⟨by rw[<- H,<- hy];exact Q,by rw[<- ez];exact R,by rw[<- X];exact h3⟩
theorem ya{a b:List Tl}(h:jv a=jv b):fc a->fc b:=by
 obtain⟨hl,hi⟩:=K2 h;rintro⟨Q,R⟩;refine⟨hl▸Q,fun i hb t ht=>?_⟩;have ha:i<a.length:=by omega
 obtain⟨AV,rfl⟩:=aO.1 ht;obtain⟨k1,k2⟩:=R i ha a[i] (au ha);obtain⟨e1,e2,e3⟩:=hi i ha AV;refine⟨Mx e1 e2 e3 k1,fun h0 u hu=>?_⟩;obtain⟨MZ,rfl⟩:=aO.1 hu;obtain⟨q1,q2,_⟩:=hi (i-1) G MZ;have:=k2 h0 a[i-1] (au G);rw[<- e1,<- e2,<- q1,<- q2];exact this
theorem HL(l:List Tl):cD (fc (HJ (jv l)))=cD (fc l):=CE ⟨ya (Ba l),ya (Ba l).symm⟩
theorem ajz(d:Dc)(l:eG)(h:CY l)(m c p f nm un ph:Bool)(hnm:nm=rU l.nm)(hun:un=Gb l)(hph:ph=jw l.gU):TG ak 0 Tryz.f86.ntmps (dm 5 HK) (nj d l m c p f []) (fD ak 0 Tryz.f86 fun u _ _=>u=L (JL d.sp.length l m c p f nm un ph)):=by
 have hN:dS ak 118 [.str l.nm] (.bool nm):=hnm▸abH l.nm (by have:=h.nm;omega);have hP:dS ak 120 [wM l.gU] (.bool ph):=hph▸abS l.gU (by have:=h.gU;omega);refine dI C (fB (i:=0) C ?_);show TG _ _ _ SJ _ _;generalize hv:L (JL d.sp.length l m c p f nm un ph)=v;have hQ:∀A,fD ak 0 Tryz.f86 (fun u _ _=>u=v) .ret A->gw 0 (andThen (fun A=>TG ak 0 Tryz.f86.ntmps (dP (dm 5 HK)) A (fD ak 0 Tryz.f86 fun u _ _=>u=v)) (fD ak 0 Tryz.f86 fun u _ _=>u=v)) .ret A:=fun A h=>h;have hN':∀A,TG ak 0 Tryz.f86.ntmps (dP (dm 5 HK)) A (fD ak 0 Tryz.f86 fun u _ _=>u=v)->gw 0 (andThen (fun A=>TG ak 0 Tryz.f86.ntmps (dP (dm 5 HK)) A (fD ak 0 Tryz.f86 fun u _ _=>u=v)) (fD ak 0 Tryz.f86 fun u _ _=>u=v)) .normal A:=fun A h=>h;generalize gw 0 (andThen (fun A=>TG ak 0 Tryz.f86.ntmps (dP (dm 5 HK)) A (fD ak 0 Tryz.f86 fun u _ _=>u=v)) (fD ak 0 Tryz.f86 fun u _ _=>u=v))=h1 at hQ hN' ⊢;unfold JL at hv;refine JK (dg _) (bk l) (fun b=>nj d l m c p f [(21,.bool b)]) (ajr d l m c p f) ?_ C (fun q=>gz (dg _) (fun u _ _=>u=v) (abV d l m c p f) (dA (g0 ⟨all_nil,by rw[<- hv,aE q],hQ⟩))) [2,3,5,6,7,8] (nj d l m c p f []) C (fun q=>?_)
 . repeat' (first|exact gB|refine dz ?_ ?_)
   all_goals
    intro K;simp only[aD,aI,bh,aL,bg]at K;exact⟨all_nil,by simp only[bk,K,cO,cj,cE]⟩
 have hU:dS ak 119 [l.v] (.bool un):=by
  unfold bk at q;rw[cI,bt,bt]at q;exact hun▸unD l G G
 rw[aB (by rw[q];decide)]at hv;refine JK (fj hN (dg _)) (!nm) (fun b=>nj d l m c p f [(30,.bool b)]) (ajs d l m c p f nm) (by exact dA (g0 ⟨eC rfl,rfl⟩)) C (fun q=>gz (dg _) (fun u _ _=>u=v) (abW d l m c p f) (dA (g0 ⟨all_nil,by rw[<- hv,aE (by simpa using q)],hQ⟩))) [2,3,5,6,7,8] (nj d l m c p f []) C (fun q=>?_);rw[aB (by simpa using q)]at hv;refine JK (dg _) (ba l m) (fun b=>nj d l m c p f [(35,.bool b)]) (ajt d l m c p f) ?_ C (fun q=>gz (dg _) (fun u _ _=>u=v) (abX d l m c p f) (dA (g0 ⟨all_nil,by rw[<- hv,aE q],hQ⟩))) [2,3,5,6,7,8] (nj d l m c p f []) C (fun q=>?_)
 . repeat' (first|exact gB|refine dz ?_ ?_)
   all_goals
    intro K;simp only[aD,aI,bh,aL,bg]at K;exact⟨all_nil,by simp only[ba,K,cO,cj,cE,cm,cq,cz,aP]⟩
 rw[aB (by rw[q];decide)]at hv;refine JK (fj hU (dg _)) (!un) (fun b=>nj d l m c p f [(70,.bool b)]) (aju d l m c p f un) (by exact dA (g0 ⟨eC rfl,rfl⟩)) C (fun q=>gz (dg _) (fun u _ _=>u=v) (abY d l m c p f) (dA (g0 ⟨all_nil,by rw[<- hv,aE (by simpa using q)],hQ⟩))) [2,3,5,6,7,8] (nj d l m c p f []) C (fun q=>?_);rw[aB (by simpa using q)]at hv;refine JK (dg _) (bp l p) (fun b=>nj d l m c p f [(74,.bool b)]) (ajv d l m c p f) ?_ C (fun q=>gz (dg _) (fun u _ _=>u=v) (abZ d l m c p f) (dA (g0 ⟨all_nil,by rw[<- hv,aE q],hQ⟩))) [2,3,5,6,7,8] (nj d l m c p f []) C (fun q=>?_)
 . repeat' (first|exact gB|refine dz ?_ ?_)
   all_goals
    intro K;simp only[aD,aI,bh,aL,bg]at K;exact⟨all_nil,by simp only[bp,K,cO,cj,cE,aN,aP]⟩
 rw[aB (by rw[q];decide)]at hv;refine JK (dg _) (bs d.sp.length l) (fun b=>nj d l m c p f [(87,.bool b)]) (ajw d l m c p f) ?_ C (fun q=>gz (dg _) (fun u _ _=>u=v) (ab0 d l m c p f) (dA (g0 ⟨all_nil,by rw[<- hv,aE q],hQ⟩))) [2,3,5,6,7,8] (nj d l m c p f []) C (fun q=>?_)
 . repeat' (first|exact gB|refine dz ?_ ?_)
   all_goals
    intro K;simp only[aD,aI,bh,aL,bg]at K;exact⟨all_nil,by simp only[bs,K,cO,cj,cE]⟩
 rw[aB (by rw[q];decide)]at hv;refine JK (fj hP (dg _)) (bc l c f ph) (fun b=>nj d l m c p f [(99,.bool b)]) (ajx d l m c p f ph) ?_ C (fun q=>gz (dg _) (fun u _ _=>u=v) (ab1 d l m c p f) (dA (g0 ⟨all_nil,by rw[<- hv,aE q],hQ⟩))) [2,3,5,6,7,8] (nj d l m c p f []) C (fun q=>?_)
 . have k35:(l.kd==3)=true->(l.kd==5)=false:=fun h=>by rw[cJ]at h;rw[h];rfl
   repeat' (first|exact gB|refine dz ?_ ?_)
   all_goals
    intro K;simp only[aD,aI,bh,aL,bg]at K;refine⟨by first|exact all_nil|exact eC rfl,?_⟩;simp only[bc,K,cO,cj,cE,cm,aN,aP,Bool.not_true,Bool.not_false]
 rw[aB (by rw[q];decide)]at hv;refine qv (cf:=fun _ _ _ _=>none) (fr:=10) (fun _ _ _ _ _ _ _ e=>by cases e) mo C (x:=.normal) (y:=.normal) (A:=nj d l m c p f []) C rfl (hN' _ ?_);exact eI (dg _) (ajy d l m c p f) (dA (g0 ⟨all_nil,_,_,_,rfl,hv⟩))
theorem SM(d:Dc)(l:eG)(h:CY l):dS ak 86 [d.v,l.v] (L (vy d.sp.length l)):=by
 refine eV Tryz.func86 ?_;have es:eR ak (Wfd l (Aq l.pl) (iH l.f)):=fj (v9D l.pl) (fj (ajo l.f (by have:=h.eK;omega) (by have:=h.cu;omega)) (fQ W5 (dg _)));refine fu 5 es (ajq d l _ _) ?_ ?_
 . repeat' (first|exact all_nil|refine J ?_ ?_)
   all_goals first
    |rfl
    |exact(Ba _).symm
    |exact(SK _).symm
    |exact h.fZ
    |exact h.iD
 rw[HL,HL];exact ajz d l h _ _ _ _ _ _ _ rfl rfl rfl
set_option maxRecDepth 10000
noncomputable abbrev Du:Code:=dG Tryz.f87
noncomputable abbrev bKi:Code:=dD (dD (dP (dB (dm 3 Du))))
noncomputable abbrev ab3:Code:=dD (dB (dP bKi))
noncomputable abbrev ajA:Code:=dD (dD (dP ab3))
def yE(d:Dc)(l:eG)(r:List (Nat×V)):St:=ff ([(2,.ptr (some (0,0))),(3,.ptr (some (1,0)))]++r) (W [(0,.cells d.T),(1,.cells l.T)]) 2
theorem ajB(d:Dc)(l:eG):dn (U dY []) [] 0 Tryz.f87 [2,3] (dN 1 Du) (dw [d.v,l.v] .nil 0) [([],
   [],
   .to .normal (yE d l []))]
 :=dh.of C C C
theorem ajC(d:Dc)(l:eG):dn (U dY []) [] 0 Tryz.f87 [2,3,5] (dB (dB (dm 1 Du))) (yE d l []) [([],
   [],
   .to .normal (yE d l [(5,M 0)]))]
 :=dh.of C C C
abbrev PA(l:eG)(i:Nat)(k:Int):Prop:=V.dr (dj (dM l.kids) (i*1) 1)=V.dr [D.int B k]
theorem ajD(d:Dc)(l:eG)(i:Nat)(k a:Int):dn (U (eZ 24 [d.v,L k] (L a) dY) []) [(13,.split),(20,.dy (.dr [.int .i64 k])),(23,.split),(15,.dy (M (i+1)))] 0 Tryz.f87 [2,3,5] (dD (dD (dP (dB (dm 1 Du))))) (yE d l [(5,M i)]) [([((decide (Int.ofNat i<(Int.ofNat l.kids.length))),true),((decide (a<(0:Int))),true)],
   [((0:Int)<=Int.ofNat i/\Int.ofNat i<(Int.ofNat l.kids.length)),((dM l.kids).length=l.kids.length*1),PA l i k,(eY [d.v,L k])],
   .ret (.bool false) (W []) 0),
  ([((decide (Int.ofNat i<(Int.ofNat l.kids.length))),true),((decide (a<(0:Int))),false)],
   [((0:Int)<=Int.ofNat i/\Int.ofNat i<(Int.ofNat l.kids.length)),((dM l.kids).length=l.kids.length*1),PA l i k,(eY [d.v,L k]),(V.int B (IntKind.i64.wrap (Int.ofNat i+(1:Int)))=M (i+1))],
   .to .normal (yE d l [(5,M (i+1))])),
  ([((decide (Int.ofNat i<(Int.ofNat l.kids.length))),false)],
   [],
   .to (.exit 0) (yE d l [(5,M i)]))]
 :=dh.of C C C
theorem ajE(d:Dc)(l:eG)(i:Nat):dn (U dY []) [] 0 Tryz.f87 [2,3,6] (dN 1 (dm 2 Du)) (yE d l [(5,M i)]) [([],
   [],
   .to .normal (yE d l [(6,M 0)]))]
 :=dh.of C C C
theorem ajF(d:Dc)(l:eG):dn (U dY []) [] 0 Tryz.f87 [2,3,6,7] (dB (dB (dm 3 Du))) (yE d l [(6,M 0)]) [([],
   [],
   .to .normal (yE d l [(6,M 0),(7,M 0)]))]
 :=dh.of C C C
theorem ab4(d:Dc)(l:eG)(n i:Nat):dn (U dY []) [(28,.split)] 0 Tryz.f87 [2,3,6,7] (dB bKi) (yE d l [(6,M n),(7,M i)]) [([((decide (Int.ofNat i<(Int.ofNat d.ly.length))),true)],
   [],
   .to .normal (yE d l [(6,M n),(7,M i)])),
  ([((decide (Int.ofNat i<(Int.ofNat d.ly.length))),false)],
   [],
   .to (.exit 2) (yE d l [(6,M n),(7,M i)]))]
 :=dh.of C C C
theorem ajG(d:Dc)(l:eG)(n i:Nat):dn (U dY []) [] 0 Tryz.f87 [2,3,6,7,8] (dB ab3) (yE d l [(6,M n),(7,M i)]) [([],
   [],
   .to .normal (yE d l [(6,M n),(7,M i),(8,M 0)]))]
 :=dh.of C C C
section
variable(x:eG)(e:Int)(j:Nat)
abbrev PB:Prop:=V.int B (IntKind.i64.wrap (Int.ofNat j+(1:Int)))=M (j+1)
abbrev PC(k:Int):Prop:=V.dr (dj (dM x.kids) (j*1) 1)=V.dr [D.int B k]
theorem ajH(d:Dc)(l x:eG)(n i j:Nat)(k:Int):dn (U dY []) [(35,.dy (.dr x.ds)),(39,.split),(45,.dy (.dr x.ds)),(49,.dy (.dr [.int .i64 k])),(53,.split),(55,.dy (M (n+1))),(41,.dy (M (j+1)))] 0 Tryz.f87 [2,3,6,7,8] (ajA) (yE d l [(6,M n),(7,M i),(8,M j)]) [([((decide (Int.ofNat j<(Int.ofNat x.kids.length))),true),((k==l.id),true)],
   [((0:Int)<=Int.ofNat i/\Int.ofNat i<(Int.ofNat d.ly.length)),((eX d.ly).length=d.ly.length*31),(V.dr (dj (eX d.ly) (i*31) 31)=V.dr x.ds),((0:Int)<=Int.ofNat i/\Int.ofNat i<(Int.ofNat d.ly.length)),((eX d.ly).length=d.ly.length*31),(V.dr (dj (eX d.ly) (i*31) 31)=V.dr x.ds),((0:Int)<=Int.ofNat j/\Int.ofNat j<(Int.ofNat x.kids.length)),((dM x.kids).length=x.kids.length*1),PC x j k,(V.int B (IntKind.i64.wrap (Int.ofNat n+(1:Int)))=M (n+1)),PB j],
   .to .normal (yE d l [(6,M (n+1)),(7,M i),(8,M (j+1))])),
  ([((decide (Int.ofNat j<(Int.ofNat x.kids.length))),true),((k==l.id),false)],
   [((0:Int)<=Int.ofNat i/\Int.ofNat i<(Int.ofNat d.ly.length)),((eX d.ly).length=d.ly.length*31),(V.dr (dj (eX d.ly) (i*31) 31)=V.dr x.ds),((0:Int)<=Int.ofNat i/\Int.ofNat i<(Int.ofNat d.ly.length)),((eX d.ly).length=d.ly.length*31),(V.dr (dj (eX d.ly) (i*31) 31)=V.dr x.ds),((0:Int)<=Int.ofNat j/\Int.ofNat j<(Int.ofNat x.kids.length)),((dM x.kids).length=x.kids.length*1),PC x j k,PB j],
   .to .normal (yE d l [(6,M n),(7,M i),(8,M (j+1))])),
  ([((decide (Int.ofNat j<(Int.ofNat x.kids.length))),false)],
   [((0:Int)<=Int.ofNat i/\Int.ofNat i<(Int.ofNat d.ly.length)),((eX d.ly).length=d.ly.length*31),(V.dr (dj (eX d.ly) (i*31) 31)=V.dr x.ds)],
   .to (.exit 4) (yE d l [(6,M n),(7,M i),(8,M j)]))]
 :=dh.of C C C
theorem ajI(d:Dc)(l:eG)(n i j:Nat):dn (U dY []) [(30,.dy (M (i+1)))] 0 Tryz.f87 [2,3,6,7] (dP (dP bKi)) (yE d l [(6,M n),(7,M i),(8,M j)]) [([],
   [(V.int B (IntKind.i64.wrap (Int.ofNat i+(1:Int)))=M (i+1))],
   .to .normal (yE d l [(6,M n),(7,M (i+1))]))]
 :=dh.of C C C
theorem ajJ(d:Dc)(l:eG)(n i:Nat):dn (U dY []) [(60,.split),(63,.split),(70,.split)] 0 Tryz.f87 [] (dP (dm 3 Du)) (yE d l [(6,M n),(7,M i)]) [([((l.id==d.root),true),((Int.ofNat n==(0:Int)),true)],
   [],
   .ret (.bool true) (W []) 0),
  ([((l.id==d.root),true),((Int.ofNat n==(0:Int)),false),((l.id !=d.root),true)],
   [],
   .ret (.bool (Int.ofNat n==(1:Int))) (W []) 0),
  ([((l.id==d.root),true),((Int.ofNat n==(0:Int)),false),((l.id !=d.root),false)],
   [],
   .ret (.bool false) (W []) 0),
  ([((l.id==d.root),false),((l.id !=d.root),true)],
   [],
   .ret (.bool (Int.ofNat n==(1:Int))) (W []) 0),
  ([((l.id==d.root),false),((l.id !=d.root),false)],
   [],
   .ret (.bool false) (W []) 0)]
 :=dh.of C C C
noncomputable abbrev PD:Code:=dG Tryz.f25
noncomputable abbrev bPg:Code:=dD (dD (dP (dB (dm 1 PD))))
noncomputable abbrev ab5:Code:=dD (dB (dP bPg))
noncomputable abbrev ajK:Code:=dD (dD (dP (dP ab5)))
def PE(d:Dc)(k:Int)(r:List (Nat×V)):St:=ff ([(1,L k),(2,.ptr (some (0,0))),(4,.ptr (some (1,0)))]++r) (W [(0,.cells d.T),(1,.cells [L 0,L 0,.bool false])]) 2
def UT(d:Dc)(x:eG)(k:Int)(r:List (Nat×V)):St:=ff ([(1,L k),(2,.ptr (some (0,0))),(4,.ptr (some (1,0))),(6,.ptr (some (2,0)))]++r) (W [(0,.cells d.T),(1,.cells [L 0,L 0,.bool false]),(2,.cells x.T)]) 3
theorem ajL(d:Dc)(k:Int):dn (U dY []) [] 0 Tryz.f25 [1,2,4] (dN 1 PD) (dw [d.v,L k] .nil 0) [([],
   [],
   .to .normal (PE d k []))]
 :=dh.of C C C
theorem ajM(d:Dc)(k:Int):dn (U dY []) [] 0 Tryz.f25 [1,2,4,5] (dB (dB (dm 1 PD))) (PE d k []) [([],
   [],
   .to .normal (PE d k [(5,M 0)]))]
 :=dh.of C C C
theorem ajN(d:Dc)(k:Int)(i:Nat):dn (U dY []) [(12,.split)] 0 Tryz.f25 [1,2,4,5] (dB bPg) (PE d k [(5,M i)]) [([((decide (Int.ofNat i<(Int.ofNat d.ly.length))),true)],
   [],
   .to .normal (PE d k [(5,M i)])),
  ([((decide (Int.ofNat i<(Int.ofNat d.ly.length))),false)],
   [],
   .to (.exit 0) (PE d k [(5,M i)]))]
 :=dh.of C C C
theorem ajO(d:Dc)(x:eG)(k:Int)(i:Nat):dn (U dY []) [(18,.dy (.dr x.ds))] 0 Tryz.f25 [1,2,4,5,6,7] (dN 2 ab5) (PE d k [(5,M i)]) [([],
   [((0:Int)<=Int.ofNat i/\Int.ofNat i<(Int.ofNat d.ly.length)),((eX d.ly).length=d.ly.length*31),(V.dr (dj (eX d.ly) (i*31) 31)=V.dr x.ds)],
   .to .normal (UT d x k [(5,M i),(7,M 0)]))]
 :=dh.of C C C
abbrev PF:Prop:=V.dr (dj (dM x.kids) (j*1) 1)=V.dr [D.int B e]
theorem ajP(d:Dc)(x:eG)(k e:Int)(i j:Nat):dn (U dY []) [(24,.split),(28,.split),(35,.dy (.dr [.int .i64 e])),(38,.split),(31,.dy (M (j+1)))] 0 Tryz.f25 [1,2,4,5,6,7] (ajK) (UT d x k [(5,M i),(7,M j)]) [([((decide (Int.ofNat j<(Int.ofNat x.kids.length))),true),((x.kd==(2:Int)),true),((e==k),true)],
   [((0:Int)<=Int.ofNat j/\Int.ofNat j<(Int.ofNat x.kids.length)),((dM x.kids).length=x.kids.length*1),PF x e j],
   .ret (.agg [.int .i64 (x.id),.int .i64 (Int.ofNat j),.bool true]) (W []) 0),
  ([((decide (Int.ofNat j<(Int.ofNat x.kids.length))),true),((x.kd==(2:Int)),true),((e==k),false)],
   [((0:Int)<=Int.ofNat j/\Int.ofNat j<(Int.ofNat x.kids.length)),((dM x.kids).length=x.kids.length*1),PF x e j,(V.int B (IntKind.i64.wrap (Int.ofNat j+(1:Int)))=M (j+1))],
   .to .normal (UT d x k [(5,M i),(7,M (j+1))])),
  ([((decide (Int.ofNat j<(Int.ofNat x.kids.length))),true),((x.kd==(2:Int)),false)],
   [],
   .to (.exit 2) (UT d x k [(5,M i),(7,M j)])),
  ([((decide (Int.ofNat j<(Int.ofNat x.kids.length))),false)],
   [],
   .to (.exit 2) (UT d x k [(5,M i),(7,M j)]))]
 :=dh.of C C C
theorem ajQ(d:Dc)(x:eG)(k:Int)(i j:Nat):dn (U dY []) [(14,.dy (M (i+1)))] 0 Tryz.f25 [1,2,4,5] (dP (dP bPg)) (UT d x k [(5,M i),(7,M j)]) [([],
   [(V.int B (IntKind.i64.wrap (Int.ofNat i+(1:Int)))=M (i+1))],
   .to .normal (PE d k [(5,M (i+1))]))]
 :=dh.of C C C
end
theorem ajR(d:Dc)(k:Int)(i:Nat):dn (U dY []) [] 0 Tryz.f25 [] (dP (dm 1 PD)) (PE d k [(5,M i)]) [([],
   [],
   .ret (.agg [.int .i64 0,.int .i64 0,.bool false]) (W []) 0)]
 :=dh.of C C C
set_option maxRecDepth 10000
theorem getD_some{α:Type}{l:List α}{i:Nat}(d:α)(h:i<l.length):l[i]? =some (l.getD i d):=by
 rw[ax,au h];rfl
theorem SN{ls:List eG}{k:Int}:decide (AL ls k<0)=(kr ls k).isNone:=by
 unfold AL;cases kr ls k with
 |none=>rfl
 |some i=>exact aU (by show ¬(Int.ofNat i<0);rw[gT];omega)
def lU(ls:List eG)(id:Int):Nat:=(ls.map fun l=>l.kids.count id).sum
theorem My{ls:List eG}{i:Nat}(h:i<ls.length)(id:Int):lU (ls.take (i+1)) id=lU (ls.take i) id+(ls.getD i gG).kids.count id:=by
 unfold lU;rw[b9,getD_some gG h];simp
def qP(d:Dc)(l:eG):Bool:=!(l.kids.any fun k=>(kr d.ly k).isNone)&&(((l.id==d.root)&&(Int.ofNat (lU d.ly l.id)==(0:Int)))||((l.id !=d.root)&&(Int.ofNat (lU d.ly l.id)==(1:Int))))
structure Fy(d:Dc):Prop where
 ly:d.ly.length<=1000000
 kids:∀l∈d.ly,l.kids.length<=1000000
theorem Fy.at{d:Dc}(h:Fy d){i:Nat}(hi:i<d.ly.length):(d.ly.getD i gG).kids.length<=1000000:=h.kids _ (by rw[ax,au hi];exact bK hi)
theorem CF{l:List Int}{j:Nat}(h:j<l.length)(id:Int):(l.take (j+1)).count id=(l.take j).count id+(if l.getD j 0==id then 1 else 0):=by
 rw[b9,getD_some 0 h,List.count_append,Option.toList_some];congr 1;rw[List.count_cons,List.count_nil,b5]
theorem Fz(ls:List eG)(id:Int)(h:∀l∈ls,l.kids.length<=1000000):lU ls id<=ls.length*1000000:=by
 induction ls with
 |nil=>exact aK _
 |cons x ls ih=>
  have Q:=ih fun l hl=>h l (bj _ hl);have R:=h x (bz ..);have h3:x.kids.count id<=x.kids.length:=List.count_le_length;have e:lU (x::ls) id=x.kids.count id+lU ls id:=by unfold lU;rw[cC,List.sum_cons]
  rw[e,aR];omega
theorem ab6(d:Dc)(l:eG)(hd:Fy d)(hl:l.kids.length<=1000000)(h40:d.ly.length<=1000):dS ak 87 [d.v,l.v] (.bool (qP d l)):=by
 refine eV Tryz.func87 (fu 1 (dg _) (ajB d l) all_nil ?_);have jO:=ew l.kids;refine K1 0 l.kids.length [2,3,5] (fun i=>yE d l [(5,M i)]) (fun i=>(kr d.ly (l.kids.getD i 0)).isNone) (.bool false,W [],0) (dg _) (ajC d l) all_nil .refl (fun i _=>⟨_,fj (Zx d (l.kids.getD i 0) hd.ly) (dg _),_,_,_,ajD d l i (l.kids.getD i 0) _,?_⟩) (fun i hi _ ht=>?_) (fun hj=>?_)
 . have hg:=fun h=>fJ (l:=l.kids) (i:=i) h
   repeat' (first|exact gB|refine dz ?_ ?_)
   all_goals
    intro K;simp only[aD,aI,bh,aL,bg,JF,JG,SN]at K
   . exact⟨J (iM K.1) (J jO (J (hg K.1) (eC rfl))),K.1,K.2,rfl⟩
   . exact⟨J (iM K.1) (J jO (J (hg K.1) (J rfl (eC (gJ G))))),K.1,K.2,rfl⟩
   . exact⟨all_nil,rfl,K,rfl⟩
 . refine aH V.bool (Eq.symm ?_);unfold qP;rw[Ee (d:=0) hi ht];rfl
 have e0:qP d l=(((l.id==d.root)&&(Int.ofNat (lU d.ly l.id)==(0:Int)))||((l.id !=d.root)&&(Int.ofNat (lU d.ly l.id)==(1:Int)))):=by unfold qP;rw[HI (d:=0) hj];rfl
 rw[e0];refine fu 1 (dg _) (ajE d l _) all_nil ?_;rw[show dm 1 (dP (dm 1 Du))=dm 3 Du by kernel_rfl];have AJ:TG ak 0 Tryz.f87.ntmps (dP (dm 3 Du)) (yE d l [(6,M (lU d.ly l.id)),(7,M d.ly.length)]) (fD ak 0 Tryz.f87 fun u _ _=>u= .bool (((l.id==d.root)&&(Int.ofNat (lU d.ly l.id)==(0:Int)))||((l.id !=d.root)&&(Int.ofNat (lU d.ly l.id)==(1:Int))))):=by
  refine eI (dg _) (ajJ d l _ _) ?_
  repeat' (first|exact gB|refine dz ?_ ?_)
  all_goals
   intro K;simp only[aD,aI,bh,aL,bg]at K;exact⟨all_nil,_,_,_,rfl,aH V.bool (by simp only[K,aN,aP,cE,cm,cj])⟩
 have zB:=fR d.ly;have hcn:=Fz d.ly l.id hd.kids;have hcm:∀i,lU (d.ly.take i) l.id<=d.ly.length*1000000:=fun i=>bC (Fz _ l.id fun x H=>hd.kids x (cB H)) (cA _ (by rw[bn];omega));refine dI C (dI C (gz (dg _) eH (ajF d l) (dA (g0 ⟨all_nil,fun A dU=>?_⟩))));refine Sf 2 d.ly.length (fun i=>yE d l [(6,M (lU (d.ly.take i) l.id)),(7,M i)]) C C (.norm dU) (fun i hi=>?_) ?_
 . refine pF (dg _) eH (ab4 d l _ i) (dz (g1 fun _=>⟨all_nil,?_⟩) (dA (g1 fun h=>absurd (tF h) G)));refine dI C (fB (i:=3) C (pF (dg _) eH (ajG d l _ i) (dA (g0 ⟨all_nil,?_⟩))));have H:=iq (l:=d.ly) hi;have Y:=hd.at hi;have vr:=My hi l.id;have h0:=hcm i;have Q:=hcm (i+1);generalize d.ly.getD i gG=x at H Y vr;have IV:=ew x.kids;refine Eb (fn:=Tryz.f87) 4 eH [2,3,6,7,8] (x.kids.length-·) (. <=x.kids.length) (fun j=>yE d l [(6,M (lU (d.ly.take i) l.id+(x.kids.take j).count l.id)),(7,M i),(8,M j)]) 0 (aS _) .refl (fun j hj=>?_);refine⟨_,dg _,_,_,_,ajH d l x _ i j (x.kids.getD j 0),?_⟩;have hg:=fun h=>fJ (l:=x.kids) (i:=j) h;have hcj:(x.kids.take j).count l.id<=x.kids.length:=bC List.count_le_length (by rw[bn];omega)
   repeat' (first|exact gB|refine dz ?_ ?_)
   all_goals
    intro K;simp only[aD,aI,bh,aL,bg,JF,JG]at K
   . have NW:=CF K.1 l.id;rw[K.2,aE rfl]at NW;refine⟨?_,j+1,by show x.kids.length-(j+1)<x.kids.length-j;omega,K.1,?_⟩
     . repeat' (first|exact all_nil|refine J ?_ ?_)
       all_goals first
        |exact iM hi
        |exact zB
        |exact H
        |exact iM K.1
        |exact IV
        |exact hg K.1
        |exact gJ G
     . show dZ _ _ _ _ (yE d l [(6,M (lU (d.ly.take i) l.id+(x.kids.take (j+1)).count l.id)),(7,M i),(8,M (j+1))]);rw[NW];exact .refl
   . have NW:=CF K.1 l.id;rw[K.2,aB fa,Nat.add_zero]at NW;refine⟨?_,j+1,by show x.kids.length-(j+1)<x.kids.length-j;omega,K.1,?_⟩
     . repeat' (first|exact all_nil|refine J ?_ ?_)
       all_goals first
        |exact iM hi
        |exact zB
        |exact H
        |exact iM K.1
        |exact IV
        |exact hg K.1
        |exact gJ G
     . show dZ _ _ _ _ (yE d l [(6,M (lU (d.ly.take i) l.id+(x.kids.take (j+1)).count l.id)),(7,M i),(8,M (j+1))]);rw[NW];exact .refl
   . refine⟨J (iM hi) (J zB (eC H)),fun s2 qV=>?_⟩;rw[gW];obtain rfl:j=x.kids.length:=by omega
     rw[bD,<- vr]at qV;show TG _ _ _ (dP (dP bKi)) s2 _;refine fU qV (gz (dg _) eH (ajI d l _ i _) (dA (g0 ⟨eC (gJ G),fun s3 KY=>?_⟩)));exact .norm KY
 . refine pF (dg _) eH (ab4 d l _ _) (dz (g1 fun h=>absurd (ko h) G) (dA (g1 fun _=>⟨all_nil,fun s2 qV=>⟨by simp,?_⟩⟩)));rw[gW];rw[bD]at qV;exact fU qV AJ
def jj:List eG->Int->Option (Int×Nat)
 | [],_=>none
 |x::ls,k=>match(if x.kd=2 then x.kids.findIdx? (. ==k)else none)with
  |some j=>some (x.id,j)
  |none=>jj ls k
def wQ:Option (Int×Nat)->V
 |some (i,j)=>.agg [L i,M j,.bool true]
 |none=>.agg [L 0,L 0,.bool false]
theorem zC{ls:List eG}{i:Nat}(h:i<ls.length)(k:Int):jj (ls.drop i) k=match(if(ls.getD i gG).kd=2 then(ls.getD i gG).kids.findIdx? (. ==k)else none)with
  |some j=>some ((ls.getD i gG).id,j)
  |none=>jj (ls.drop (i+1)) k:=by
 rw[bY h];have e:ls.getD i gG=ls[i]:=by rw[ax,au h];rfl
 rw[e];rfl
theorem Mz{l:List Int}{j:Nat}{k:Int}(h:j<l.length)(Q:(l.getD j 0==k)=true)(R:∀i,i<j->(l.getD i 0==k)=false):l.findIdx? (. ==k)=some j:=by
 rw[bL];refine⟨h,?_,fun i hi=>?_⟩
 . rw[ax,au h]at Q;exact Q
 . have:=R i hi;rw[ax,au G]at this;simpa using this
theorem MA{l:List Int}{k:Int}(R:∀i,i<l.length->(l.getD i 0==k)=false):l.findIdx? (. ==k)=none:=by
 rw[cH];intro x H;obtain⟨j,hj,rfl⟩:=bW H;have:=R j hj;rw[ax,au hj]at this;exact this
theorem ajS(d:Dc)(k:Int)(hd:Fy d):dS ak 25 [d.v,L k] (wQ (jj d.ly k)):=by
 refine rQ Tryz.func25 (fu 1 (dg _) (ajL d k) all_nil ?_);have zB:=fR d.ly;have hw:(wQ (jj d.ly k)).deep=true/\(wQ (jj d.ly k)).nl=wQ (jj d.ly k):=by
  cases jj d.ly k with
  |none=>exact⟨rfl,rfl⟩
  |some p=>exact⟨rfl,rfl⟩
 have hQ:∀(v:V) (h:I O) (n:Nat),v=wQ (jj d.ly k)->vh (wQ (jj d.ly k)) v h n:=fun v h n e=>by subst e;exact vh.self hw.1 hw.2
 have AJ:=fun(e:jj d.ly k=none)=>eI (h2:=vh (wQ (jj d.ly k))) (dg _) (ajR d k d.ly.length) (dA (g0 ⟨all_nil,_,_,_,rfl,hQ _ _ _ (by rw[e];rfl)⟩)) (n0:=Tryz.f25.ntmps);have SC:∀(v:V) (h:I O) (n:Nat),v=wQ (jj d.ly k)->vh (wQ (jj d.ly k)) v h n/\∀A,fD ak 0 Tryz.f25 (vh (wQ (jj d.ly k))) .ret A->fD ak 0 Tryz.f25 (vh (wQ (jj d.ly k))) .ret A:=fun v h n e=>⟨hQ v h n e,fun _ h=>h⟩;refine dI C (dI C (gz (dg _) eH (ajM d k) (dA (g0 ⟨all_nil,fun A dU=>?_⟩))));refine fB (i:=0) C (ju (fun m s=>∃i,m=d.ly.length-i/\i<=d.ly.length/\jj d.ly k=jj (d.ly.drop i) k/\dZ ak 0 Tryz.f25.ntmps s (PE d k [(5,M i)])) C ?_ d.ly.length ⟨0,rfl,aS _,rfl,.norm dU⟩);rintro m s1 ⟨i,rfl,hi,hp,pG⟩;refine pG _ _ ?_;refine pF (dg _) eH (ajN d k i) (dz (g1 fun h=>⟨all_nil,?_⟩) (dA (g1 fun h=>⟨all_nil,fun s2 qV=>?_⟩)))
 . have eM:=ko h;have H:=iq (l:=d.ly) eM;have Y:=hd.at eM;have vr:=zC eM k;generalize d.ly.getD i gG=x at H Y vr;have IV:=ew x.kids;refine dI C (fB (i:=1) C (fu 2 (dg _) (ajO d x k i) (J (iM eM) (J zB (eC H))) ?_));have pJ:∀j s2,kW 0 [1,2,4,5,6,7] s2=some (UT d x k [(5,M i),(7,M j)])->jj (d.ly.drop i) k=jj (d.ly.drop (i+1)) k->TG ak 0 Tryz.f25.ntmps (dP (dP bPg)) s2 (andThen (fun s=>∃m',m'<d.ly.length-i/\∃i,m'=d.ly.length-i/\i<=d.ly.length/\jj d.ly k=jj (d.ly.drop i) k/\dZ ak 0 Tryz.f25.ntmps s (PE d k [(5,M i)])) (gw 0 (andThen (fun A=>TG ak 0 Tryz.f25.ntmps (dP (dm 1 PD)) A (fD ak 0 Tryz.f25 (vh (wQ (jj d.ly k))))) (fD ak 0 Tryz.f25 (vh (wQ (jj d.ly k))))))):=fun j s2 qV he=>
    fU qV (gz (dg _) eH (ajQ d x k i j) (dA (g0 ⟨eC (gJ (by have:=hd.ly;omega)),fun s3 KY=>⟨d.ly.length-(i+1),G,i+1,rfl,eM,by rw[hp,he],.norm KY⟩⟩)))
   refine Eb (fn:=Tryz.f25) 2 (vh (wQ (jj d.ly k))) [1,2,4,5,6,7] (x.kids.length-·) (fun j=>j<=x.kids.length/\∀q,q<j->(x.kids.getD q 0==k)=false) (fun j=>UT d x k [(5,M i),(7,M j)]) 0 ⟨aS _,fun _ h=>absurd h (bX _)⟩ .refl (fun j ⟨hj,hq⟩=>?_);refine⟨_,dg _,_,_,_,ajP d x k (x.kids.getD j 0) i j,?_⟩;have hg:=fun h=>fJ (l:=x.kids) (i:=j) h
   repeat' (first|exact gB|refine dz ?_ ?_)
   all_goals
    intro K;simp only[aD,aI,bh,aL,bg,JF,JG]at K
   . refine⟨J (iM K.1) (J IV (eC (hg K.1))),SC _ _ _ ?_⟩;rw[hp,vr,aE (wP.1 K.2.1),Mz K.1 K.2.2 hq];rfl
   . refine⟨J (iM K.1) (J IV (J (hg K.1) (eC (gJ G)))),j+1,by show x.kids.length-(j+1)<x.kids.length-j;omega,⟨K.1,fun q hqj=>?_⟩,.refl⟩;rcases br q j with z|z
     . exact hq q z
     . obtain rfl:q=j:=by omega
       exact K.2.2
   . refine⟨all_nil,fun s2 qV=>?_⟩;rw[gW];exact pJ j s2 qV (by rw[vr,aB (by have:=K.2;simpa using this)])
   . refine⟨all_nil,fun s2 qV=>?_⟩;rw[gW];refine pJ j s2 qV ?_;rw[vr];split
     . rename_i q Y9;split at Y9
       . rw[MA (fun q hqj=>hq q G)]at Y9;cases Y9
       . cases Y9
     . rfl
 . simp only[andThen];rw[gW];obtain rfl:i=d.ly.length:=by have:=tF h;omega
   exact fU qV (AJ (by rw[hp,List.drop_length];rfl))
set_option maxRecDepth 10000
noncomputable abbrev AN:Code:=dG Tryz.f103
def sSx(d:Dc)(id:Int)(fK:Bool)(r:List (Nat×V)):St:=ff ([(1,L id),(2,.bool fK),(3,.ptr (some (0,0)))]++r) (W [(0,.cells d.T)]) 1
theorem ajT(d:Dc)(id a:Int)(fK:Bool):dn (U (eZ 24 [d.v,L id] (L a) dY) []) [] 0 Tryz.f103 [1,2,3,7] (dN 2 AN) (dw [d.v,L id,.bool fK] .nil 0) [([],
   [(eY [d.v,L id])],
   .to .normal (sSx d id fK [(7,L a)]))]
 :=dh.of C C C
theorem ajU(d:Dc)(id:Int)(fK:Bool):dn (U dY []) [] 0 Tryz.f103 [] (dN 1 (dm 2 AN)) (sSx d id fK [(7,L (-1))]) [([],
   [],
   .ret (.eS none 0 0 0) (W []) 0)]
 :=dh.of C C C
theorem ajV(d:Dc)(id:Int)(fK:Bool)(n:Nat):dn (U dY []) [(15,.dy (.bool false))] 0 Tryz.f103 [1,2,3,7] (dN 1 (dm 2 AN)) (sSx d id fK [(7,M n)]) [([],
   [(V.bool (decide (Int.ofNat n<(0:Int)))=V.bool false)],
   .to .normal (sSx d id fK [(7,M n)]))]
 :=dh.of C C C
def sSy(d:Dc)(id:Int)(fK:Bool)(n:Nat)(ps:List Int):St:=ff [(1,L id),(2,.bool fK),(3,.ptr (some (0,0))),(7,M n),(8,.eS (some (1,0)) ps.length ps.length 1)] (W [(0,.cells d.T),(1,.deep (dM ps))]) 2
def sSz(d:Dc)(id:Int)(fK:Bool)(n:Nat)(ps:List Int)(a b:Int)(o:Bool):St:=ff [(1,L id),(2,.bool fK),(3,.ptr (some (0,0))),(7,M n),(8,.eS (some (1,0)) ps.length ps.length 1),(9,.ptr (some (2,0)))] (W [(0,.cells d.T),(1,.deep (dM ps)),(2,.cells [L a,L b,.bool o])]) 3
theorem ajX(d:Dc)(id:Int)(fK:Bool)(n:Nat)(x:eG)(ps:List Int):dn (U (eZ 98 [x.v] (fg ps) dY) []) [(20,.dy (.dr x.ds))] 0 Tryz.f103 [1,2,3,7,8] (dN 1 (dm 3 AN)) (sSx d id fK [(7,M n)]) [([],
   [((0:Int)<=Int.ofNat n/\Int.ofNat n<(Int.ofNat d.ly.length)),((eX d.ly).length=d.ly.length*31),(V.dr (dj (eX d.ly) (n*31) 31)=V.dr x.ds),(eY [x.v]),((dM ps).length=ps.length*1),(fo (0+ps.length) 1 8=true)],
   .to .normal (ff [(1,.int .i64 id),(2,.bool fK),(3,.ptr (some (0,0))),(7,.int .i64 (Int.ofNat n)),(8,.eS (some (1,0)) (0+ps.length) (0+ps.length) 1)] (W [(0,.cells [.eo false (d.sp.length) (lT d.sp),.int .i64 (d.root),.int .i64 (d.nx),.eo false (d.ly.length) (eX d.ly)]),(1,.deep ([]++dM ps))]) 2))]
 :=dh.of C C C
theorem ab8(d:Dc)(id:Int)(fK:Bool)(n:Nat)(ps:List Int)(a b:Int)(o:Bool):dn (U (eZ 25 [d.v,L id] (.agg [L a,L b,.bool o]) dY) []) [] 0 Tryz.f103 [1,2,3,7,8,9] (dN 1 (dm 4 AN)) (sSy d id fK n ps) [([],
   [(eY [d.v,L id])],
   .to .normal (sSz d id fK n ps a b o))]
 :=dh.of C C C
noncomputable abbrev SO:Code:=dB (dm 5 AN)
def SP(d:Dc)(id:Int)(fK:Bool)(n:Nat)(ps:List Int)(a b:Int)(o q:Bool):St:=ff [(1,L id),(2,.bool fK),(3,.ptr (some (0,0))),(7,M n),(8,.eS (some (1,0)) ps.length ps.length 1),(9,.ptr (some (2,0))),(40,.bool q)] (W [(0,.cells d.T),(1,.deep (dM ps)),(2,.cells [L a,L b,.bool o])]) 3
theorem ab9(d:Dc)(id:Int)(n:Nat)(x:eG)(ps:List Int)(a b:Int)(o:Bool):dn (U dY []) [(32,.dy (.dr x.ds)),(35,.split),(39,.split)] 0 Tryz.f103 [1,2,3,7,8,9,40] (dB SO) (sSz d id true n ps a b o) [([((x.kd==(3:Int)),true),(o,true)],
   [((0:Int)<=Int.ofNat n/\Int.ofNat n<(Int.ofNat d.ly.length)),((eX d.ly).length=d.ly.length*31),(V.dr (dj (eX d.ly) (n*31) 31)=V.dr x.ds)],
   .to .normal (SP d id true n ps a b o true)),
  ([((x.kd==(3:Int)),true),(o,false)],
   [((0:Int)<=Int.ofNat n/\Int.ofNat n<(Int.ofNat d.ly.length)),((eX d.ly).length=d.ly.length*31),(V.dr (dj (eX d.ly) (n*31) 31)=V.dr x.ds)],
   .to .normal (SP d id true n ps a b o false)),
  ([((x.kd==(3:Int)),false)],
   [((0:Int)<=Int.ofNat n/\Int.ofNat n<(Int.ofNat d.ly.length)),((eX d.ly).length=d.ly.length*31),(V.dr (dj (eX d.ly) (n*31) 31)=V.dr x.ds)],
   .to .normal (SP d id true n ps a b o false))]
 :=dh.of C C C
theorem ajY(d:Dc)(id:Int)(n:Nat)(ps:List Int)(a b:Int)(o:Bool):dn (U dY []) [] 0 Tryz.f103 [1,2,3,7,8,9,40] (dB SO) (sSz d id false n ps a b o) [([],
   [],
   .to .normal (SP d id false n ps a b o false))]
 :=dh.of C C C
theorem ajZ(d:Dc)(id:Int)(fK:Bool)(n m j:Nat)(g:eG)(ps:List Int)(a:Int)(o:Bool):dn (U (eZ 24 [d.v,L a] (M m) dY) []) [(47,.dy (.dr g.ds))] 0 Tryz.f103 [8] (lH (dP SO)) (SP d id fK n ps a (Int.ofNat j) o true) [([],
   [(eY [d.v,L a]),((0:Int)<=Int.ofNat m/\Int.ofNat m<(Int.ofNat d.ly.length)),((eX d.ly).length=d.ly.length*31),(V.dr (dj (eX d.ly) (m*31) 31)=V.dr g.ds),((dM g.kids).length=g.kids.length*1),((0:Int)<=Int.ofNat j/\Int.ofNat j<=(Int.ofNat g.kids.length)),((dj (dM g.kids) 0 ((j-0)*1)).length=(j-0)*1),(0+ps.length*1<=(dM ps).length),(fo (ps.length+(j-0)) 1 8=true)],
   .to .normal (ff [(8,.eS (some (0,0)) (ps.length+(j-0)) (ps.length+(j-0)) 1)] (W [(0,.deep (List.take (ps.length*1) (List.drop 0 (dM ps))++dj (dM g.kids) 0 ((j-0)*1)))]) 1))]
 :=dh.of C C C
theorem aj0(d:Dc)(id:Int)(fK:Bool)(n:Nat)(ps:List Int)(a b:Int)(o:Bool):dn (U dY []) [] 0 Tryz.f103 [] (dP (dm 5 AN)) (SP d id fK n ps a b o false) [([],
   [],
   .ret (.eS (some (0,0)) (ps.length) (ps.length) 1) (W [(0,.deep (dM ps))]) 1)]
 :=dh.of C C C
theorem aj1(qs:List Int):dn (U dY []) [] 0 Tryz.f103 [] (dP (dm 5 AN)) (ff [(8,fg qs)] (W []) 0) [([],
   [],
   .ret (.eo false (qs.length) (dM qs)) (W []) 0)]
 :=dh.of C C C
noncomputable abbrev yb:Code:=dG Tryz.f56
noncomputable abbrev bRe:Code:=dD (dD (dB (dm 3 yb)))
noncomputable abbrev W7:Code:=dD (dP bRe)
def mRe(d:Dc)(r:af):I O:=W ((0,.cells d.T)::r)
def JM:ai->Option (ah×V)
 | [.eo n T,.int .i64 k]=>some ([T=dM (dX T),n=(dX T).length,n<=1000000],.bool ((dX T).contains k))
 |_=>none
noncomputable abbrev Whs:gy:=lC 55 (vP JM) dY
def HM(d:Dc)(fK:Bool)(td:List Int)(r:List (Nat×V)):St:=ff ([(2,.bool fK),(3,.ptr (some (0,0))),(7,.eS (some (1,0)) 0 0 1),(8,fg td)]++r) (mRe d [(1,.cells [])]) 2
def FA(d:Dc)(fK:Bool)(l td:List Int)(r:List (Nat×V)):St:=ff ([(2,.bool fK),(3,.ptr (some (0,0))),(7,.eS (some (1,0)) l.length l.length 1),(8,fg td)]++r) (mRe d [(1,.own .i64 l)]) 2
theorem aj4(d:Dc)(id:Int)(fK:Bool)(ts:List Int):dn (U (eZ 103 [d.v,L id,.bool fK] (fg ts) dY) []) [] 0 Tryz.f56 [2,3,7,8] (dN 3 yb) (dw [d.v,L id,.bool fK] .nil 0) [([],
   [(eY [d.v,L id,.bool fK])],
   .to .normal (HM d fK ts []))]
 :=dh.of C C C
theorem acd(d:Dc)(fK:Bool)(td:List Int):dn (U dY []) [(17,.split)] 0 Tryz.f56 [2,3,7,8] (dB bRe) (HM d fK td []) [([((decide ((Int.ofNat td.length)>(0:Int))),true)],
   [],
   .to .normal (HM d fK td [])),
  ([((decide ((Int.ofNat td.length)>(0:Int))),false)],
   [],
   .to (.exit 0) (HM d fK td []))]
 :=dh.of C C C
theorem UU(d:Dc)(fK:Bool)(l td:List Int):dn (U dY []) [(17,.split)] 0 Tryz.f56 [2,3,7,8] (dB bRe) (FA d fK l td []) [([((decide ((Int.ofNat td.length)>(0:Int))),true)],
   [],
   .to .normal (FA d fK l td [])),
  ([((decide ((Int.ofNat td.length)>(0:Int))),false)],
   [],
   .to (.exit 0) (FA d fK l td []))]
 :=dh.of C C C
theorem aj5(d:Dc)(fK:Bool)(td:List Int)(x:Int):dn (U Whs []) [(19,.dy (.dr [.int .i64 x])),(22,.dy (fg td))] 0 Tryz.f56 [2,3,7,8,9,26] (dN 3 W7) (HM d fK (x::td) []) [([],
   [((0:Int)<=(0:Int)/\(0:Int)<(Int.ofNat (x::td).length)),((dM (x::td)).length=(x::td).length*1),(V.dr (dj (dM (x::td)) 0 1)=V.dr [D.int B x]),((dM (x::td)).length=(x::td).length*1),((0:Int)<=(1:Int)/\(1:Int)<=(Int.ofNat (x::td).length)),(V.eo false ((x::td).length-1) (dj (dM (x::td)) 1 (((x::td).length-1)*1))=fg td),(0=0),([]=dM (dX [])),(0=0),(0<=1000000)],
   .to .normal (ff [(2,.bool fK),(3,.ptr (some (0,0))),(7,.eS (some (1,0)) 0 0 1),(8,.eo false (td.length) (dM td)),(9,.int .i64 x),(26,.bool true)] (W [(0,.cells [.eo false (d.sp.length) (lT d.sp),.int .i64 (d.root),.int .i64 (d.nx),.eo false (d.ly.length) (eX d.ly)]),(1,.cells [])]) 2))]
 :=dh.of C C C
abbrev K3(td:List Int)(x:Int):Prop:=V.eo false ((x::td).length-1) (dj (dM (x::td)) 1 (((x::td).length-1)*1))=fg td
theorem ace(d:Dc)(fK:Bool)(l td:List Int)(x:Int):dn (U Whs []) [(19,.dy (.dr [.int .i64 x])),(22,.dy (fg td)),(26,.split)] 0 Tryz.f56 [2,3,7,8,9,26] (dN 3 W7) (FA d fK l (x::td) []) [([((!(dX (dM l)).contains x),true)],
   [((0:Int)<=(0:Int)/\(0:Int)<(Int.ofNat (x::td).length)),((dM (x::td)).length=(x::td).length*1),(V.dr (dj (dM (x::td)) 0 1)=V.dr [D.int B x]),((dM (x::td)).length=(x::td).length*1),((0:Int)<=(1:Int)/\(1:Int)<=(Int.ofNat (x::td).length)),K3 td x,((dM l).length=l.length*1),(dM l=dM (dX (dM l))),(l.length=(dX (dM l)).length),(l.length<=1000000)],
   .to .normal (ff [(2,.bool fK),(3,.ptr (some (0,0))),(7,.eS (some (1,0)) (l.length) (l.length) 1),(8,.eo false (td.length) (dM td)),(9,.int .i64 x),(26,.bool true)] (W [(0,.cells [.eo false (d.sp.length) (lT d.sp),.int .i64 (d.root),.int .i64 (d.nx),.eo false (d.ly.length) (eX d.ly)]),(1,.own .i64 l)]) 2)),
  ([((!(dX (dM l)).contains x),false)],
   [((0:Int)<=(0:Int)/\(0:Int)<(Int.ofNat (x::td).length)),((dM (x::td)).length=(x::td).length*1),(V.dr (dj (dM (x::td)) 0 1)=V.dr [D.int B x]),((dM (x::td)).length=(x::td).length*1),((0:Int)<=(1:Int)/\(1:Int)<=(Int.ofNat (x::td).length)),K3 td x,((dM l).length=l.length*1),(dM l=dM (dX (dM l))),(l.length=(dX (dM l)).length),(l.length<=1000000)],
   .to .normal (ff [(2,.bool fK),(3,.ptr (some (0,0))),(7,.eS (some (1,0)) (l.length) (l.length) 1),(8,.eo false (td.length) (dM td)),(9,.int .i64 x),(26,.bool false)] (W [(0,.cells [.eo false (d.sp.length) (lT d.sp),.int .i64 (d.root),.int .i64 (d.nx),.eo false (d.ly.length) (eX d.ly)]),(1,.own .i64 l)]) 2))]
 :=dh.of C C C
noncomputable abbrev W8:Code:=dm 3 W7
theorem aj6(d:Dc)(fK:Bool)(td ts:List Int)(x:Int):dn (U (eZ 103 [d.v,L x,.bool fK] (fg ts) dY) []) [] 0 Tryz.f56 [2,3,7,8] (lH W8) (HM d fK td [(9,L x),(26,.bool true)]) [([],
   [((dM td).length=td.length*1),(fo (0+td.length) 1 8=true),(eY [d.v,L x,.bool fK]),((dM ts).length=ts.length*1),(0+(0+td.length)*1<=([]++dM td).length),(fo (0+td.length+ts.length) 1 8=true)],
   .to .normal (ff [(2,.bool fK),(3,.ptr (some (0,0))),(7,.eS (some (1,0)) 1 1 1),(8,.eS (some (2,0)) (0+td.length+ts.length) (0+td.length+ts.length) 1)] (W [(0,.cells [.eo false (d.sp.length) (lT d.sp),.int .i64 (d.root),.int .i64 (d.nx),.eo false (d.ly.length) (eX d.ly)]),(1,.cells [.int .i64 x]),(2,.deep (List.take ((0+td.length)*1) (List.drop 0 ([]++dM td))++dM ts))]) 3))]
 :=dh.of C C C
theorem acf(d:Dc)(fK:Bool)(l td ts:List Int)(x:Int):dn (U (eZ 103 [d.v,L x,.bool fK] (fg ts) dY) []) [] 0 Tryz.f56 [2,3,7,8] (lH W8) (FA d fK l td [(9,L x),(26,.bool true)]) [([],
   [(0<l.length),(0+l.length*1<=l.length),(0<1),(fo (l.length+1) 1 8=true),((dM td).length=td.length*1),(fo (0+td.length) 1 8=true),(eY [d.v,L x,.bool fK]),((dM ts).length=ts.length*1),(0+(0+td.length)*1<=([]++dM td).length),(fo (0+td.length+ts.length) 1 8=true)],
   .to .normal (ff [(2,.bool fK),(3,.ptr (some (0,0))),(7,.eS (some (1,0)) (l.length+1) (l.length+1) 1),(8,.eS (some (2,0)) (0+td.length+ts.length) (0+td.length+ts.length) 1)] (W [(0,.cells [.eo false (d.sp.length) (lT d.sp),.int .i64 (d.root),.int .i64 (d.nx),.eo false (d.ly.length) (eX d.ly)]),(1,.own .i64 (List.take (l.length*1) (List.drop 0 l)++[x])),(2,.deep (List.take ((0+td.length)*1) (List.drop 0 ([]++dM td))++dM ts))]) 3))]
 :=dh.of C C C
theorem aj7(d:Dc)(fK:Bool)(l td:List Int)(x:Int):dn (U dY []) [] 0 Tryz.f56 [2,3,7,8] (oH W8) (FA d fK l td [(9,L x),(26,.bool false)]) [([],
   [],
   .to .normal (FA d fK l td []))]
 :=dh.of C C C
theorem aj8(d:Dc)(fK:Bool)(td:List Int):dn (U dY []) [] 0 Tryz.f56 [] (dP (dm 3 yb)) (HM d fK td []) [([],
   [],
   .ret (.eS (some (0,0)) 0 0 1) (W [(0,.cells [])]) 1)]
 :=dh.of C C C
theorem acg(d:Dc)(fK:Bool)(l td:List Int):dn (U dY []) [] 0 Tryz.f56 [] (dP (dm 3 yb)) (FA d fK l td []) [([],
   [],
   .ret (.eS (some (0,0)) (l.length) (l.length) 1) (W [(0,.own .i64 l)]) 1)]
 :=dh.of C C C
set_option maxRecDepth 10000
theorem Nb{k:Nat}(h:k<=1000000000):fo k 1 8=true:=by
 unfold fo;exact aY ⟨G,G⟩
section
variable(ls:List eG)(id:Int)
def HN:Prop:=(ls.map (·.id)).Nodup
def gX:List Int:=match jj ls id with
 |some (g,j)=>match kr ls g with
  |some m=>(ls.getD m gG).kids.take j
  |none=>[]
 |none=>[]
def fC(fK:Bool)(id:Int):List Int:=match kr ls id with
 |some n=>fH (ls.getD n gG)++(if fK=true/\(ls.getD n gG).kd=3 then gX ls id else[])
 |none=>[]
end
theorem yc:∀{ls:List eG} {k g:Int} {j:Nat},jj ls k=some (g,j)->∃x∈ls,x.id=g/\x.kd=2/\j<x.kids.length/\x.kids.getD j 0=k
 | [],_,_,_,h=>by cases h
 |x::ls,k,g,j,h=>by
  unfold jj at h;split at h
  . rename_i q hq;split at hq
    . rename_i Y;simp only[aq,aF]at h;obtain⟨rfl,rfl⟩:=h;rw[bL]at hq;obtain⟨Q,R,_⟩:=hq;exact⟨x,bz ..,rfl,Y,Q,by rw[ax,au Q];simpa using R⟩
    . cases hq
  . obtain⟨y,Q,R⟩:=yc h;exact⟨y,bj _ Q,R⟩
theorem yd{ls:List eG}(hu:HN ls){x:eG}(H:x∈ls):∃m,kr ls x.id=some m/\m<ls.length/\ls.getD m gG=x:=by
 obtain⟨m,S,rfl⟩:=bW H;have e:ls.getD m gG=ls[m]:=by rw[ax,au S];rfl
 refine⟨m,HG S (by rw[e];simp) (fun j hj=>?_),S,e⟩;have w7:j<ls.length:=by omega
 rw[ax,au w7];simp only[b7,bZ,ne_eq];intro h;have:=(List.getElem_inj (h₀:=by simpa using w7) (h₁:=by simpa using S) hu).1 (by simpa using h);omega
theorem jG{ls:List eG}{k:Int}{n:Nat}(h:kr ls k=some n):n<ls.length/\(ls.getD n gG).id=k/\ls.getD n gG∈ls:=by
 unfold kr at h;rw[bL]at h;obtain⟨Q,R,_⟩:=h;have e:ls.getD n gG=ls[n]:=by rw[ax,au Q];rfl
 rw[e];exact⟨Q,by simpa using R,bK Q⟩
theorem PG{d:Dc}(hd:Fy d){x:eG}(H:x∈d.ly):(fH x).length<=1000000:=by
 unfold fH;split
 . simp
 . exact hd.kids x H
theorem W9(d:Dc)(id:Int)(fK:Bool)(hd:Fy d)(hu:fK=true->HN d.ly):dS ak 103 [d.v,L id,.bool fK] (fg (fC d.ly fK id)):=by
 have hA:=Zx d id hd.ly;have zB:=fR d.ly;refine rQ Tryz.func103 (fu 2 (fj hA (dg _)) (ajT d id _ fK) (eC rfl) ?_);cases mR:kr d.ly id with
 |none=>
  have e1:AL d.ly id= -1:=by unfold AL;rw[mR]
  have e2:fC d.ly fK id=[]:=by unfold fC;rw[mR]
  rw[e1,e2];exact isH 1 (dg _) (ajU d id fK) (dA (g0 ⟨all_nil,vh.self C C⟩))
 |some n=>
  have e1:AL d.ly id=Int.ofNat n:=by unfold AL;rw[mR]
  obtain⟨hn,hid,I5⟩:=jG mR;have H:=iq (l:=d.ly) hn;have EN:=PG hd I5;have e2:fC d.ly fK id=fH (d.ly.getD n gG)++(if fK=true/\(d.ly.getD n gG).kd=3 then gX d.ly id else[]):=by unfold fC;rw[mR]
  rw[e1,e2];have hP:=Pv (d.ly.getD n gG);generalize d.ly.getD n gG=x at *;refine fu 1 (dg _) (ajV d id fK n) (eC (aH V.bool (aU Vd))) ?_;rw[gO];have h4:=ajX d id fK n x (fH x);rw[b5,cL]at h4;refine fu 1 (fj hP (dg _)) h4 (J (iM hn) (J zB (J H (J rfl (J (ew _) (eC (Nb G))))))) ?_;rw[gO];generalize fH x=ps at *;have hR:=ajS d id hd;have pJ:∀(a b:Int) (o:Bool),(if fK=true/\x.kd=3 then gX d.ly id else[])=[]->TG ak 0 Tryz.f103.ntmps (dP (dm 5 AN)) (SP d id fK n ps a b o false) (fD ak 0 Tryz.f103 (vh (fg (ps++(if fK=true/\x.kd=3 then gX d.ly id else[]))))):=fun a b o e=>by
   rw[e,List.append_nil];exact eI (dg _) (aj0 d id fK n ps a b o) (dA (g0 ⟨all_nil,_,_,_,rfl,.Cs (v0:=fg ps) [0] (s':=[(dM ps).length=ps.length*1]) C (eC (ew _)) C C⟩))
  have skip:∀(a b:Int) (o:Bool),(if fK=true/\x.kd=3 then gX d.ly id else[])=[]->TG ak 0 Tryz.f103.ntmps (dP SO) (SP d id fK n ps a b o false) (andThen (fun A=>TG ak 0 Tryz.f103.ntmps (dP (dm 5 AN)) A (fD ak 0 Tryz.f103 (vh (fg (ps++(if fK=true/\x.kd=3 then gX d.ly id else[])))))) (fD ak 0 Tryz.f103 (vh (fg (ps++(if fK=true/\x.kd=3 then gX d.ly id else[])))))):=fun a b o e=>
   jK (t:=false) C C (fun h=>by cases h) (fun _=>qv (cf:=fun _ _ _ _=>none) (fr:=10) (fun _ _ _ _ _ _ _ e=>by cases e) mo C (x:=.normal) (y:=.normal) (A:=SP d id fK n ps a b o false) C rfl (pJ a b o e))
  have no1:∀(a b:Int) (o:Bool),(if fK=true/\x.kd=3 then gX d.ly id else[])=[]->wQ (jj d.ly id)= .agg [L a,L b,.bool o]->(fK=true->x.kd=3->o=false)->TG ak 0 Tryz.f103.ntmps (dm 4 AN) (sSy d id fK n ps) (fD ak 0 Tryz.f103 (vh (fg (ps++(if fK=true/\x.kd=3 then gX d.ly id else[]))))):=fun a b o e ep ho=>by
   rw[ep]at hR;refine fu 1 (fj hR (dg _)) (ab8 d id fK n ps a b o) (eC rfl) ?_;rw[gO];refine dI C ?_;cases fK with
   |false=>exact pF (dg _) eH (ajY d id n ps a b o) (dA (g0 ⟨all_nil,skip a b o e⟩))
   |true=>
    have s':=J (iM hn) (J zB (eC H));refine pF (dg _) eH (ab9 d id n x ps a b o) (dz (g2 fun Q R=>?_) (dz (g2 fun Q R=>⟨s',skip a b o e⟩) (dA (g1 fun Q=>⟨s',skip a b o e⟩))));rw[ho rfl (wP.1 Q)]at R;cases R
  by_cases K:fK=true/\x.kd=3
  . have hb:(if fK=true/\x.kd=3 then gX d.ly id else[])=gX d.ly id:=aE K;cases hp:jj d.ly id with
    |none=>exact no1 0 0 false (by rw[hb];unfold gX;rw[hp]) (by rw[hp];rfl) (fun _ _=>rfl)
    |some q=>
     obtain⟨g,j⟩:=q;obtain⟨ha,h3⟩:=K;subst ha;obtain⟨y,hy,hyg,_,hj,_⟩:=yc hp;obtain⟨m,Dv,EI,hm3⟩:=yd (hu rfl) hy;rw[hyg]at Dv;have hbe:gX d.ly id=y.kids.take j:=by unfold gX;rw[hp];simp only;rw[Dv];simp only;rw[hm3]
     have hyx:=iq (l:=d.ly) EI;rw[hm3]at hyx;have hAg:=Zx d g hd.ly;have Sl:AL d.ly g=Int.ofNat m:=by unfold AL;rw[Dv]
     rw[Sl]at hAg;have hyk:=hd.kids y hy;rw[hp]at hR;refine fu 1 (fj hR (dg _)) (ab8 d id true n ps g (Int.ofNat j) true) (eC rfl) ?_;rw[gO];refine dI C ?_;have s':=J (iM hn) (J zB (eC H));refine pF (dg _) eH (ab9 d id n x ps g (Int.ofNat j) true) (dz (g2 fun Q R=>⟨s',?_⟩) (dz (g2 fun Q R=>by cases R) (dA (g1 fun Q=>by rw[h3]at Q;cases Q))));refine jK (t:=true) C C (fun _=>?_) (fun h=>by cases h);have vG:dj (dM y.kids) 0 ((j-0)*1)=dM (y.kids.take j):=by
      unfold dj dM;rw[Nat.sub_zero,cS,ct,dc]
     have h8:=ajZ d id true n m j y ps g true;rw[vG,ct,cU ((Nat.le_of_eq (ew ps)))]at h8;refine gz (fj hAg (dg _)) eH h8 (dA (g0 ⟨?_,fun A dU=>?_⟩))
     . refine J rfl (J (iM EI) (J zB (J hyx (J (ew _) (J ⟨bS _,by simp only[gT];omega⟩ (J ?_ (J (by rw[ew];omega) (eC (Nb G)))))))));rw[ew,bn];omega
     . show TG _ _ _ (dP (dm 5 AN)) A _;rw[hb,hbe];have hl:(ps++y.kids.take j).length=ps.length+(j-0):=by rw[aJ,bn];omega
       have SQ:dM ps++dM (y.kids.take j)=dM (ps++y.kids.take j):=(bR ..).symm;rw[SQ,<- hl]at dU;generalize ps++y.kids.take j=qs at dU hl;refine fU dU (dZ.HF [0] [8] (hm:=ff [(8,fg qs)] (W []) 0) (s':=[(dM qs).length=qs.length*1]) C (eC (ew _)) _ _ ?_);exact eI (dg _) (aj1 qs) (dA (g0 ⟨all_nil,_,_,_,rfl,vh.self C C⟩))
  . have hb:(if fK=true/\x.kd=3 then gX d.ly id else[])=[]:=aB K;cases hp:jj d.ly id with
    |none=>exact no1 0 0 false hb (by rw[hp];rfl) (fun _ _=>rfl)
    |some q=>exact no1 q.1 (Int.ofNat q.2) true hb (by rw[hp];rfl) (fun Q R=>absurd ⟨Q,R⟩ K)
end Go.Proofs.YtmjggdmekboefaaGreat
