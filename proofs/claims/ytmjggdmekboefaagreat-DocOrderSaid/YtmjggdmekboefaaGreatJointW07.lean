/- The Doc laws: filter.Bytes: pieces. No conditions. -/
import Derived.Test.YtmjggdmekboefaaGreatJointW05
import Derived.Test.YtmjggdmekboefaaGreatJointW06
set_option linter.unusedVariables false
set_option linter.unusedSimpArgs false
set_option linter.unusedSectionVars false
namespace Go.Proofs.YtmjggdmekboefaaGreat
open Go Go.Eng
noncomputable abbrev acA:Code:=dI Tryz.f106
noncomputable abbrev XD:Code:=dr 2 acA
noncomputable abbrev aju:Code:=dI Tryz.f63
def sNu(n:Nat)(R:ai)(s:aa)(i:Nat):St:=fq [(3,.str s),(6,.eB false n R),(7,M n),(8,M i)] .nil 0
def ee:ai->List Int
 | .int .i64 x::r=>x::ee r
 |_=>[]
theorem fA:∀l:List Int,ee (dO l)=l
 | []=>rfl
 |x::l=>by
  show x::ee (dO l)=_;rw[fA l]
def fS(l:List Int):aa:=(l.map dN).flatten
def CW(s:aa):aa:=dN (Int.ofNat s.length)++s
def F0:ai->Option (ah×V)
 | [.eB n R]=>some ([R=dO (ee R),n=(ee R).length,n<=4000000],.str (fS (ee R)))
 |_=>none
section
variable(n:Nat)
theorem ajv(R:ai):dw (U W4 []) [] 0 Tryz.f106 [0,3] (dM 2 acA) (dy [.eB false n R] .nil 0) [([],
   [],
   .to .normal (fq [(0,.eB false n R),(3,.str [])] (G []) 0))]
 :=dj.of C C C
theorem ajw(R:ai):dw (U W4 []) [] 0 Tryz.f106 [3,6,7,8] (dF (dF XD)) (fq [(0,.eB false n R),(3,.str [])] .nil 0) [([],
   [],
   .to .normal (sNu n R [] 0))]
 :=dj.of C C C
theorem ajx(R:ai)(s:aa)(i:Nat)(v:Int):dw (U W4 []) [(9,.split),(10,.dz (.dx [.int .i64 v])),(16,.dz (M (i+1)))] 0 Tryz.f106 [3,6,7,8] (dG (dG (dX (dF XD)))) (sNu n R s i) [([((decide (Int.ofNat i<Int.ofNat n)),true)],
   [((0:Int)<=Int.ofNat i/\Int.ofNat i<(Int.ofNat n)),(R.length=n*1),(V.dx (dn R (i*1) 1)=V.dx [D.int A v]),(s.length+(dN v).length<=9223372036854775807),(V.int A (IntKind.i64.wrap (Int.ofNat i+(1:Int)))=M (i+1))],
   .to .normal (sNu n R (s++dN v) (i+1))),
  ([((decide (Int.ofNat i<Int.ofNat n)),false)],
   [],
   .to (.exit 0) (sNu n R s i))]
 :=dj.of C C C
theorem ajy(R:ai)(s:aa)(i:Nat):dw (U W4 []) [] 0 Tryz.f106 [] (dX XD) (sNu n R s i) [([],
   [],
   .ret (.str s) (G []) 0)]
 :=dj.of C C C
end
theorem ajz(f:FL):dw (U (jZ 106 (wo F0) W4) []) [] 0 Tryz.f63 [] (aju) (dy [f.v] .nil 0) [([],
   [([D.int A f.k,D.int A f.r,D.int A (Int.ofNat f.eM.length)].length=3),([D.int A f.k,D.int A f.r,D.int A (Int.ofNat f.eM.length)]=dO (ee [D.int A f.k,D.int A f.r,D.int A (Int.ofNat f.eM.length)])),(3=(ee [D.int A f.k,D.int A f.r,D.int A (Int.ofNat f.eM.length)]).length),(3<=4000000),(dO f.eM=dO (ee (dO f.eM))),(f.eM.length=(ee (dO f.eM)).length),(f.eM.length<=4000000),((fS (ee [D.int A f.k,D.int A f.r,D.int A (Int.ofNat f.eM.length)])).length+(fS (ee (dO f.eM))).length<=9223372036854775807),([D.int A f.dv,D.int A f.vl,D.int A (Int.ofNat f.cu.length)].length=3),([D.int A f.dv,D.int A f.vl,D.int A (Int.ofNat f.cu.length)]=dO (ee [D.int A f.dv,D.int A f.vl,D.int A (Int.ofNat f.cu.length)])),(3=(ee [D.int A f.dv,D.int A f.vl,D.int A (Int.ofNat f.cu.length)]).length),(3<=4000000),((fS (ee [D.int A f.k,D.int A f.r,D.int A (Int.ofNat f.eM.length)])++fS (ee (dO f.eM))).length+(fS (ee [D.int A f.dv,D.int A f.vl,D.int A (Int.ofNat f.cu.length)])).length<=9223372036854775807),(dO f.cu=dO (ee (dO f.cu))),(f.cu.length=(ee (dO f.cu)).length),(f.cu.length<=4000000),((fS (ee [D.int A f.k,D.int A f.r,D.int A (Int.ofNat f.eM.length)])++fS (ee (dO f.eM))++fS (ee [D.int A f.dv,D.int A f.vl,D.int A (Int.ofNat f.cu.length)])).length+(fS (ee (dO f.cu))).length<=9223372036854775807)],
   .ret (.str (fS [f.k,f.r,Int.ofNat f.eM.length]++fS (ee (dO f.eM))++fS [f.dv,f.vl,Int.ofNat f.cu.length]++fS (ee (dO f.cu)))) (G []) 0)]
 :=dj.of C C C
theorem xb{l:List Int}{i:Nat}{v:Int}(h:l[i]? =some v):fS (l.take (i+1))=fS (l.take i)++dN v:=by
 unfold fS;rw[bY,h];simp
theorem jC:∀l:List Int,(fS l).length<=10*l.length
 | []=>by simp[fS]
 |x::l=>by
  have:=jC l;have h:=(gp x).2;unfold fS at this ⊢;simp only[bP,List.flatten_cons,aE,aP];omega
theorem acB(l:List Int)(hl:l.length<=4000000):dU ak 106 [fj l] (.str (fS l)):=by
 refine eX Tryz.func106 ?_;refine fF 2 qN (ajv l.length (dO l)) all_nil ?_;refine qm qN 0 _ [3,6,7,8] (l.length-·) (. <=l.length) (fun i=>sNu l.length (dO l) (fS (l.take i)) i) 0 (aU _) (ajw _ _) all_nil .refl fun i hi=>?_;refine⟨_,qN,[],_,_,ajx _ _ _ i (l.getD i 0),dD (g1 fun h=>?_) (dB (g1 fun h=>⟨all_nil,rfl,?_⟩))⟩
 . have eO:=jW h;obtain⟨v,hv⟩:∃v,l[i]? =some v:=⟨_,au eO⟩;have ev:l.getD i 0=v:=by rw[ax,hv];rfl
   rw[ev];have Q:=jC (l.take i);have O:=(gp v).2;rw[bq]at Q;refine⟨S (iI eO) (S (eo l) (S (tA hv) (S H (eG (gJ H))))),i+1,w5 eO,eO,?_⟩;rw[<- xb hv];exact .refl
 . obtain rfl:i=l.length:=by have:=r9 h;omega
   rw[bz];exact eK qN (ajy _ _ _ _) (dB (g0 ⟨all_nil,_,_,_,rfl,rfl⟩))
theorem Qa:jK ak 106 (wo F0):=by
 refine yq C fun ds aj v e hA=>?_;unfold F0 at e;split at e
 case h_2=>cases e
 rename_i n R;obtain⟨rfl,rfl⟩:=sm e;have Q:R=dO (ee R):=hA _ (by simp);have O:n=(ee R).length:=hA (n=(ee R).length) (by simp);have h3:n<=4000000:=hA (n<=4000000) (by simp);generalize ee R=l at *;subst Q O;exact acB l h3
def fW(f:FL):aa:=fS [f.k,f.r,Int.ofNat f.eM.length]++fS f.eM++fS [f.dv,f.vl,Int.ofNat f.cu.length]++fS f.cu
theorem Ki(f:FL):(fW f).length<=60+10*f.eM.length+10*f.cu.length:=by
 have Q:=jC [f.k,f.r,Int.ofNat f.eM.length];have O:=jC f.eM;have h3:=jC [f.dv,f.vl,Int.ofNat f.cu.length];have h4:=jC f.cu;simp only[aP,bW]at Q h3;unfold fW;simp only[aE];omega
theorem Qb(f:FL)(Q:f.eM.length<=2000000)(O:f.cu.length<=2000000):dU ak 63 [f.v] (.str (fW f)):=by
 refine eX Tryz.func63 ?_;have hr:=ajz f;have e1:=jC [f.k,f.r,Int.ofNat f.eM.length];have e2:=jC f.eM;have e3:=jC [f.dv,f.vl,Int.ofNat f.cu.length];have e4:=jC f.cu;simp only[aP,bW]at e1 e3;have i3:∀a b c:Int,ee [D.int A a,D.int A b,D.int A c]=[a,b,c]:=fun _ _ _=>rfl;simp only[fA,i3]at hr;refine eK (fC Qa qN) hr (dB (g0 ⟨?_,_,_,_,rfl,rfl⟩))
 repeat' (first|exact all_nil|refine S ?_ ?_)
 all_goals first|rfl|omega|(simp only[aE]<;>omega)
noncomputable abbrev D0:Code:=dI Tryz.f29
noncomputable abbrev Qc:Code:=dI Tryz.f57
noncomputable abbrev W6:gF:=jZ 104 Kh (jZ 106 (wo F0) W4)
theorem qo:eU ak W6:=fC XC (fC Qa qN)
def XE(l:eJ)(fl:Int)(n:Nat)(s:aa):St:=fq [(1,.ptr (some (0,0))),(3,L fl),(6,.ptr (some (1,0))),(7,.fn (.func 57) [] [.ptr (some (1,0))])] (G [(0,.cells l.R),(1,.AS 116 true (.eR (some (2,0)) n n 1)),(2,.tJ 5 false s)]) 3
abbrev VF(l:eJ)(fl:Int)(s:aa):St:=XE l fl s.length s
def ap(s t:aa):aa:=s++iy (fV t)
theorem yu(s t:aa):ap s t=s++t:=by unfold ap;rw[ki]
def flg(a b c:Bool):Int:=(if a then 1 else 0)+((if b then 2 else 0)+(if c then 4 else 0))
theorem ajB(l:eJ):dw (U W6 []) [] 0 Tryz.f29 [1,3] (dM 2 D0) (dy [l.v] .nil 0) [([],
   [],
   .to .normal (fq [(1,.ptr (some (0,0))),(3,L 0)] (G [(0,.cells l.R)]) 1))]
 :=dj.of C C C
theorem ajC(l:eJ):dw (U W6 []) [] 0 Tryz.f29 [1,3] (dM 1 (dr 2 D0)) (fq [(1,.ptr (some (0,0))),(3,L 0)] (G [(0,.cells l.R)]) 1) [([],[],.to .normal (fq [(1,.ptr (some (0,0))),(3,L (flg l.hid l.clip l.K))] (G [(0,.cells l.R)]) 1))]:=by
 obtain⟨_,_,_,a,_,_,b,_,_,_,_,_,_,_,_,c,_⟩:=l;cases a<;>cases b<;>cases c<;>exact dj.of C C C
theorem ajD(l:eJ)(fl:Int):dw (U W6 []) [] 0 Tryz.f29 [1,3,6,7] (dM 3 (dr 3 D0)) (fq [(1,.ptr (some (0,0))),(3,L fl)] (G [(0,.cells l.R)]) 1) [([],
   [((0:Int)<=(0:Int)/\(0:Int)<(2:Int)),(0<(dN l.id).length),(fo (dN l.id).length 1 1=true),((0:Int)<=(1:Int)/\(1:Int)<(2:Int)),(0<(dN l.id).length),((dN l.id).length=(dN l.id).length),(fo ((dN l.id).length+(dN l.kd).length) 1 1=true)],
   .to .normal (XE l fl ((dN l.id).length+(dN l.kd).length) (ap (dN l.id) (dN l.kd))))]
 :=dj.of C C C
theorem ajE(l:eJ)(fl:Int)(s:aa):dw (U W6 []) [] 0 Tryz.f29 [1,3,6,7] (dM 1 (dr 6 D0)) (VF l fl s) [([],
   [((dN (Int.ofNat l.nm.length)).length+l.nm.length<=9223372036854775807),((dN (Int.ofNat l.nm.length)++l.nm).length+(CS fl).length<=9223372036854775807),(0<s.length),(s.length=s.length),(fo (s.length+(dN (Int.ofNat l.nm.length)++l.nm++CS fl).length) 1 1=true)],
   .to .normal (XE l fl (s.length+(CW l.nm++CS fl).length) (ap s (CW l.nm++CS fl))))]
 :=dj.of C C C
theorem ajF(l:eJ)(fl:Int)(s:aa):dw (U W6 []) [] 0 Tryz.f29 [1,3,6,7] (dM 1 (dr 7 D0)) (VF l fl s) [([],
   [((0:Int)<=(0:Int)/\(0:Int)<(2:Int)),(0<s.length),(s.length=s.length),(fo (s.length+(dN l.op).length) 1 1=true),((0:Int)<=(1:Int)/\(1:Int)<(2:Int)),(0<s.length+(dN l.op).length),(s.length+(dN l.op).length=(s++iy (fV (dN l.op))).length),(fo (s.length+(dN l.op).length+(dN l.md).length) 1 1=true)],
   .to .normal (XE l fl (s.length+(dN l.op).length+(dN l.md).length) (ap (ap s (dN l.op)) (dN l.md))))]
 :=dj.of C C C
theorem ajG(l:eJ)(fl:Int)(s:aa):dw (U W6 []) [] 0 Tryz.f29 [1,3,6,7] (dM 1 (dr 8 D0)) (VF l fl s) [([],
   [((0:Int)<=(0:Int)/\(0:Int)<(1:Int)),(0<s.length),(s.length=s.length),(fo (s.length+(dN l.pl.a).length) 1 1=true),((0:Int)<=(0:Int)/\(0:Int)<(1:Int)),(0<s.length+(dN l.pl.a).length),(s.length+(dN l.pl.a).length=(s++iy (fV (dN l.pl.a))).length),(fo (s.length+(dN l.pl.a).length+(dN l.pl.b).length) 1 1=true),((0:Int)<=(0:Int)/\(0:Int)<(1:Int)),(0<s.length+(dN l.pl.a).length+(dN l.pl.b).length),(s.length+(dN l.pl.a).length+(dN l.pl.b).length=(s++iy (fV (dN l.pl.a))++iy (fV (dN l.pl.b))).length),(fo (s.length+(dN l.pl.a).length+(dN l.pl.b).length+(dN l.pl.c).length) 1 1=true),((0:Int)<=(0:Int)/\(0:Int)<(1:Int)),(0<s.length+(dN l.pl.a).length+(dN l.pl.b).length+(dN l.pl.c).length),(s.length+(dN l.pl.a).length+(dN l.pl.b).length+(dN l.pl.c).length=(s++iy (fV (dN l.pl.a))++iy (fV (dN l.pl.b))++iy (fV (dN l.pl.c))).length),(fo (s.length+(dN l.pl.a).length+(dN l.pl.b).length+(dN l.pl.c).length+(dN l.pl.d).length) 1 1=true),((0:Int)<=(0:Int)/\(0:Int)<(1:Int)),(0<s.length+(dN l.pl.a).length+(dN l.pl.b).length+(dN l.pl.c).length+(dN l.pl.d).length),(s.length+(dN l.pl.a).length+(dN l.pl.b).length+(dN l.pl.c).length+(dN l.pl.d).length=(s++iy (fV (dN l.pl.a))++iy (fV (dN l.pl.b))++iy (fV (dN l.pl.c))++iy (fV (dN l.pl.d))).length),(fo (s.length+(dN l.pl.a).length+(dN l.pl.b).length+(dN l.pl.c).length+(dN l.pl.d).length+(dN l.pl.e).length) 1 1=true),((0:Int)<=(0:Int)/\(0:Int)<(1:Int)),(0<s.length+(dN l.pl.a).length+(dN l.pl.b).length+(dN l.pl.c).length+(dN l.pl.d).length+(dN l.pl.e).length),(s.length+(dN l.pl.a).length+(dN l.pl.b).length+(dN l.pl.c).length+(dN l.pl.d).length+(dN l.pl.e).length=(s++iy (fV (dN l.pl.a))++iy (fV (dN l.pl.b))++iy (fV (dN l.pl.c))++iy (fV (dN l.pl.d))++iy (fV (dN l.pl.e))).length),(fo (s.length+(dN l.pl.a).length+(dN l.pl.b).length+(dN l.pl.c).length+(dN l.pl.d).length+(dN l.pl.e).length+(dN l.pl.f).length) 1 1=true),((0:Int)<=(0:Int)/\(0:Int)<(1:Int)),(0<s.length+(dN l.pl.a).length+(dN l.pl.b).length+(dN l.pl.c).length+(dN l.pl.d).length+(dN l.pl.e).length+(dN l.pl.f).length),(s.length+(dN l.pl.a).length+(dN l.pl.b).length+(dN l.pl.c).length+(dN l.pl.d).length+(dN l.pl.e).length+(dN l.pl.f).length=(s++iy (fV (dN l.pl.a))++iy (fV (dN l.pl.b))++iy (fV (dN l.pl.c))++iy (fV (dN l.pl.d))++iy (fV (dN l.pl.e))++iy (fV (dN l.pl.f))).length),(fo (s.length+(dN l.pl.a).length+(dN l.pl.b).length+(dN l.pl.c).length+(dN l.pl.d).length+(dN l.pl.e).length+(dN l.pl.f).length+(dN l.pl.n).length) 1 1=true)],
   .to .normal (XE l fl (s.length+(dN l.pl.a).length+(dN l.pl.b).length+(dN l.pl.c).length+(dN l.pl.d).length+(dN l.pl.e).length+(dN l.pl.f).length+(dN l.pl.n).length) (ap (ap (ap (ap (ap (ap (ap s (dN l.pl.a)) (dN l.pl.b)) (dN l.pl.c)) (dN l.pl.d)) (dN l.pl.e)) (dN l.pl.f)) (dN l.pl.n))))]
 :=dj.of C C C
theorem ajH(l:eJ)(fl:Int)(s:aa):dw (U W6 []) [] 0 Tryz.f29 [1,3,6,7] (dM 1 (dr 9 D0)) (VF l fl s) [([],
   [((0:Int)<=(0:Int)/\(0:Int)<(2:Int)),(0<s.length),(s.length=s.length),(fo (s.length+(dN l.sp).length) 1 1=true),((0:Int)<=(1:Int)/\(1:Int)<(2:Int)),(0<s.length+(dN l.sp).length),(s.length+(dN l.sp).length=(s++iy (fV (dN l.sp))).length),(fo (s.length+(dN l.sp).length+(dN (Int.ofNat l.kids.length)).length) 1 1=true)],
   .to .normal (XE l fl (s.length+(dN l.sp).length+(dN (Int.ofNat l.kids.length)).length) (ap (ap s (dN l.sp)) (dN (Int.ofNat l.kids.length)))))]
 :=dj.of C C C
section
variable(n:Nat)
def sHr(l:eJ)(n:Nat)(s:aa):St:=fq [(1,.ptr (some (0,0))),(6,.ptr (some (1,0))),(7,.fn (.func 57) [] [.ptr (some (1,0))])] (G [(0,.cells l.R),(1,.AS 116 true (.eR (some (2,0)) n n 1)),(2,.tJ 5 false s)]) 3
def fiB(c:C4):aa:=[UInt8.ofNat c.r.toNat,UInt8.ofNat c.g.toNat,UInt8.ofNat c.b.toNat,UInt8.ofNat c.a.toNat]
def XF(R:ai)(i m:Nat)(s:aa):St:=fq [(6,.ptr (some (0,0))),(7,.fn (.func 57) [] [.ptr (some (0,0))]),(105,.eB false n R),(106,M n),(107,M i)] (G [(0,.AS 116 true (.eR (some (1,0)) m m 1)),(1,.tJ 5 false s)]) 2
noncomputable abbrev XG:Code:=dr 15 D0
def Se(l:eJ)(s:aa):J h2:=G [(0,.cells l.R),(1,.AS 116 true (.eR (some (2,0)) s.length s.length 1)),(2,.tJ 5 false s)]
def hHe(l:eJ)(n:Nat)(s:aa):J h2:=G [(0,.cells l.R),(1,.AS 116 true (.eR (some (3,0)) n n 1)),(3,.tJ 5 false s)]
def fPc(R:ai)(i:Nat):List (Nat×V):=[(1,.ptr (some (1,0))),(5,.eB false n R),(6,M n),(7,M i)]
def sP2(l:eJ)(n:Nat)(R:ai)(i:Nat)(s:aa):St:=fq (fPc n R i) (Se l s) 3
def XI(l:eJ)(n:Nat)(R:ai)(i m:Nat)(s:aa):St:=fq (fPc n R i) (hHe l m s) 4
noncomputable abbrev acD:Code:=dX Qc
theorem ajJ(l:eJ)(n:Nat)(R:ai)(s:aa):dw (U W6 []) [] 3 Tryz.f57 [1,5,6,7] (dF Qc) (dy [.eB false n R,.ptr (some (1,0))] (Se l s) 3) [([],
   [],
   .to .normal (sP2 l n R 0 s))]
 :=dj.of C C C
theorem ajK(l:eJ)(n:Nat)(R:ai)(i:Nat)(s:aa)(v:Int):∃iX,yh ak (U W6 []) [(8,.split),(9,.dz (.dx [.int .i64 v])),(14,.dz (M (i+1)))] 1000 3 Tryz.f57 [1,5,6,7] 0 (dG (dG acD)) (sP2 l n R i s) iX
  [([((decide (Int.ofNat i<Int.ofNat n)),true)],
   [((0:Int)<=Int.ofNat i/\Int.ofNat i<(Int.ofNat n)),(R.length=n*1),(V.dx (dn R (i*1) 1)=V.dx [D.int A v]),(0<s.length),(s.length=s.length),(fo (s.length+(dN v).length) 1 1=true),(V.int A (IntKind.i64.wrap (Int.ofNat i+(1:Int)))=M (i+1))],
   .to .normal (XI l n R (i+1) (s.length+(dN v).length) (ap s (dN v)))),
  ([((decide (Int.ofNat i<Int.ofNat n)),false)],
   [],
   .ret (.gw []) (Se l s) 3)]
 :=yh.of C C C
theorem ajL(l:eJ)(n:Nat)(R:ai)(i:Nat)(s:aa)(v:Int):∃iX,yh ak (U W6 []) [(8,.split),(9,.dz (.dx [.int .i64 v])),(14,.dz (M (i+1)))] 1000 3 Tryz.f57 [1,5,6,7] 0 (dG (dG acD)) (XI l n R i s.length s) iX
  [([((decide (Int.ofNat i<Int.ofNat n)),true)],
   [((0:Int)<=Int.ofNat i/\Int.ofNat i<(Int.ofNat n)),(R.length=n*1),(V.dx (dn R (i*1) 1)=V.dx [D.int A v]),(0<s.length),(s.length=s.length),(fo (s.length+(dN v).length) 1 1=true),(V.int A (IntKind.i64.wrap (Int.ofNat i+(1:Int)))=M (i+1))],
   .to .normal (XI l n R (i+1) (s.length+(dN v).length) (ap s (dN v)))),
  ([((decide (Int.ofNat i<Int.ofNat n)),false)],
   [],
   .ret (.gw []) (hHe l s.length s) 4)]
 :=yh.of C C C
theorem ajM(l:eJ)(fl:Int)(s t:aa):dw (U (WW 57 [fj l.kids,.ptr (some (1,0))] (Se l s) 3 (.gw []) (hHe l t.length t) 4 W6) []) [] 0 Tryz.f29 [1,3,6,7] (dM 1 (dr 10 D0)) (VF l fl s) [([],
   [(ahY [fj l.kids,.ptr (some (1,0))] (Se l s) 3)],
   .to .normal (VF l fl t))]
 :=dj.of C C C
theorem ajN(l:eJ)(fl:Int)(s b:aa):dw (U (fb 63 [l.f.v] (.str b) W6) []) [] 0 Tryz.f29 [1,6,7] (dM 4 (dr 11 D0)) (VF l fl s) [([],
   [((0:Int)<=(0:Int)/\(0:Int)<(1:Int)),(0<s.length),(s.length=s.length),(fo (s.length+(dN l.of).length) 1 1=true),(fa [l.f.v]),(0<s.length+(dN l.of).length),(s.length+(dN l.of).length=(s++iy (fV (dN l.of))).length),(fo (s.length+(dN l.of).length+b.length) 1 1=true),(0<s.length+(dN l.of).length+b.length),(s.length+(dN l.of).length+b.length=(s++iy (fV (dN l.of))++iy (fV b)).length),(fo (s.length+(dN l.of).length+b.length+4) 1 1=true),((0:Int)<=(0:Int)/\(0:Int)<(1:Int)),(0<s.length+(dN l.of).length+b.length+4),(s.length+(dN l.of).length+b.length+4=(s++iy (fV (dN l.of))++iy (fV b)++[UInt8.ofNat l.fi.r.toNat,UInt8.ofNat l.fi.g.toNat,UInt8.ofNat l.fi.b.toNat,UInt8.ofNat l.fi.a.toNat]).length),(fo (s.length+(dN l.of).length+b.length+4+(dN (Int.ofNat l.gW.length)).length) 1 1=true)],
   .to .normal (sHr l (s.length+(dN l.of).length+b.length+4+(dN (Int.ofNat l.gW.length)).length) (ap (ap (ap s (dN l.of)) b++fiB l.fi) (dN (Int.ofNat l.gW.length)))))]
 :=dj.of C C C
theorem ajO(l:eJ)(s:aa):dw (U W6 []) [] 0 Tryz.f29 [6,7,105,106,107] (dF (dF XG)) (sHr l s.length s) [([],
   [],
   .to .normal (XF l.gW.length (qZ l.gW) 0 s.length s))]
 :=dj.of C C C
theorem ajP(R:ai)(i:Nat)(s:aa)(x y:Int):dw (U W6 []) [(108,.split),(109,.dz (.dx [.int .i64 x,.int .i64 y])),(118,.dz (M (i+1)))] 0 Tryz.f29 [6,7,105,106,107] (dG (dG (dX (dF XG)))) (XF n R i s.length s) [([((decide (Int.ofNat i<Int.ofNat n)),true)],
   [((0:Int)<=Int.ofNat i/\Int.ofNat i<(Int.ofNat n)),(R.length=n*2),(V.dx (dn R (i*2) 2)=V.dx [D.int A x,D.int A y]),((0:Int)<=(0:Int)/\(0:Int)<(2:Int)),(0<s.length),(s.length=s.length),(fo (s.length+(dN x).length) 1 1=true),((0:Int)<=(1:Int)/\(1:Int)<(2:Int)),(0<s.length+(dN x).length),(s.length+(dN x).length=(s++iy (fV (dN x))).length),(fo (s.length+(dN x).length+(dN y).length) 1 1=true),(V.int A (IntKind.i64.wrap (Int.ofNat i+(1:Int)))=M (i+1))],
   .to .normal (XF n R (i+1) (s.length+(dN x).length+(dN y).length) (ap (ap s (dN x)) (dN y)))),
  ([((decide (Int.ofNat i<Int.ofNat n)),false)],
   [],
   .to (.exit 4) (XF n R i s.length s))]
 :=dj.of C C C
theorem ajQ(R:ai)(i:Nat)(s:aa):dw (U W6 []) [] 0 Tryz.f29 [] (dX XG) (XF n R i s.length s) [([],
   [(0<s.length),((Int.ofNat s.length)=(Int.ofNat s.length)/\0<s.length),(s.length<=9223372036854775807)],
   .ret (.str s) (G []) 0)]
 :=dj.of C C C
end
def xe(l:List (Int×Int)):aa:=(l.map fun p=>dN p.1++dN p.2).flatten
def Im(p:P7):aa:=dN p.a++dN p.b++dN p.c++dN p.d++dN p.e++dN p.f++dN p.n
def LB(l:eJ):aa:=dN l.id++dN l.kd++(CW l.nm++CS (flg l.hid l.clip l.K))++dN l.op++dN l.md++Im l.pl++dN l.sp++dN (Int.ofNat l.kids.length)++fS l.kids++dN l.of++fW l.f++fiB l.fi++dN (Int.ofNat l.gW.length)++xe l.gW
structure okL(l:eJ):Prop where
 nm:l.nm.length<=2000000
 kids:l.kids.length<=2000000
 eM:l.f.eM.length<=2000000
 cu:l.f.cu.length<=2000000
 gW:l.gW.length<=2000000
theorem Bv(l:List (Int×Int)):(qZ l).length=l.length*2:=sg (f:=fun p:Int×Int=>[D.int .i64 p.1,D.int .i64 p.2]) (fun _=>rfl) l
theorem Qd{l:List (Int×Int)}{i:Nat}{p:Int×Int}(h:l[i]? =some p):V.dx (dn (qZ l) (i*2) 2)= .dx [.int .i64 p.1,.int .i64 p.2]:=by
 have eO:i<l.length:=(aR.1 h).1;have hv:l[i]=p:=(aR.1 h).2;rw[<- hv];exact aI _ (si (f:=fun p:Int×Int=>[D.int .i64 p.1,D.int .i64 p.2]) (fun _=>rfl) l i eO)
theorem Na{l:List (Int×Int)}{i:Nat}{p:Int×Int}(h:l[i]? =some p):xe (l.take (i+1))=xe (l.take i)++(dN p.1++dN p.2):=by
 unfold xe;rw[bY,h];simp
theorem Io:∀l:List (Int×Int),(xe l).length<=20*l.length
 | []=>by simp[xe]
 |p::l=>by
  have:=Io l;have h:=(gp p.1).2;have h':=(gp p.2).2;unfold xe at this ⊢;simp only[bP,List.flatten_cons,aE,aP];omega
theorem ajS(l:eJ)(s:aa)(h0:0<s.length)(Q:s.length<=100000000)(O:l.kids.length<=2000000):jM ak 57 [fj l.kids,.ptr (some (1,0))] (Se l s) 3 (.gw []) (hHe l (s++fS l.kids).length (s++fS l.kids)) 4:=by
 have key:∀(cs:V->J h2->Nat->Prop),(l.kids=[]->cs (.gw []) (Se l s) 3)->(l.kids≠[]->cs (.gw []) (hHe l (s++fS l.kids).length (s++fS l.kids)) 4)->TG ak 3 Tryz.f57.ntmps Qc (dy [fj l.kids,.ptr (some (1,0))] (Se l s) 3) (fH ak 3 Tryz.f57 cs):=by
  intro cs r0 r1;refine dK C (gv qo eE (ajJ l l.kids.length (dO l.kids) s) (dB (g0 ⟨all_nil,fun X dQ=>?_⟩)));simp only[andThen];refine zE (α:=Nat) 0 (l.kids.length-·) (. <=l.kids.length) (fun i=>match i with
   |0=>sP2 l l.kids.length (dO l.kids) 0 s
   |j+1=>XI l l.kids.length (dO l.kids) (j+1) (s++fS (l.kids.take (j+1))).length (s++fS (l.kids.take (j+1)))) C C 0 (aU _) (.norm dQ) fun i hi=>?_
  have M6:∀X,fH ak 3 Tryz.f57 cs .normal X->gk 0 (fH ak 3 Tryz.f57 cs) (.exit 0) X:=fun X h=>by rw[gY];exact h
  have Tu:∀X,fH ak 3 Tryz.f57 cs .ret X->gk 0 (fH ak 3 Tryz.f57 cs) .ret X:=fun X h=>by simpa[gk]using h
  have R4:=jC (l.kids.take i);rw[bq]at R4;cases i with
  |zero=>
   obtain⟨iX,hr⟩:=ajK l l.kids.length (dO l.kids) 0 s (l.kids.getD 0 0);refine Pq 0 (XH qo []) mo cs C hr M6 (dD (g1 fun h=>?_) (dB (g1 fun h=>⟨all_nil,r0 ?_,Tu⟩)))
   . have eO:=jW h;obtain⟨v,hv⟩:∃v,l.kids[0]? =some v:=⟨_,au eO⟩;have ev:l.kids.getD 0 0=v:=by rw[ax,hv];rfl
     rw[ev];have hb:=(gp v).2;refine⟨S (iI eO) (S (eo _) (S (tA hv) (S h0 (S rfl (S (lq H) (eG (gJ H))))))),fun s2 pH=>⟨1,by show l.kids.length-1<l.kids.length-0;omega,eO,?_⟩⟩;have e:fS (l.kids.take 1)=dN v:=by rw[xb hv];rfl
     show ek _ _ _ _ (XI l l.kids.length (dO l.kids) (0+1) (s++fS (l.kids.take 1)).length (s++fS (l.kids.take 1)));rw[e,aE,<- yu];exact .norm pH
   . have:=r9 h;exact List.length_eq_zero_iff.1 H
  |succ j=>
   generalize hu:s++fS (l.kids.take (j+1))=u;have hul:u.length=s.length+(fS (l.kids.take (j+1))).length:=by rw[<- hu,aE]
   obtain⟨iX,hr⟩:=ajL l l.kids.length (dO l.kids) (j+1) u (l.kids.getD (j+1) 0);show TG _ _ _ _ (XI l l.kids.length (dO l.kids) (j+1) (s++fS (l.kids.take (j+1))).length (s++fS (l.kids.take (j+1)))) _;rw[hu];refine Pq 0 (XH qo []) mo cs C hr M6 (dD (g1 fun h=>?_) (dB (g1 fun h=>⟨all_nil,?_,Tu⟩)))
   . have eO:=jW h;obtain⟨v,hv⟩:∃v,l.kids[j+1]? =some v:=⟨_,au eO⟩;have ev:l.kids.getD (j+1) 0=v:=by rw[ax,hv];rfl
     rw[ev];have hb:=(gp v).2;refine⟨S (iI eO) (S (eo _) (S (tA hv) (S H (S rfl (S (lq H) (eG (gJ H))))))),fun s2 pH=>⟨j+1+1,by show l.kids.length-(j+1+1)<l.kids.length-(j+1);omega,eO,?_⟩⟩;show ek _ _ _ _ (XI l l.kids.length (dO l.kids) (j+1+1) (s++fS (l.kids.take (j+1+1))).length (s++fS (l.kids.take (j+1+1))));rw[xb hv,<- de,hu,aE,<- yu];exact .norm pH
   . have:=r9 h;have e:j+1=l.kids.length:=by omega
     rw[e,bz]at hu;rw[<- hu];exact r1 fun q=>by rw[q]at e;cases e
 by_cases W:l.kids=[]
 . have c:jM ak 57 [fj l.kids,.ptr (some (1,0))] (Se l s) 3 (.gw []) (Se l s) 3:=fun E w dH ra g hd=>
    tu mo po Tryz.func57 (code:=Qc) C C _ _ _ (key _ (fun _=>⟨rfl,rfl,rfl⟩) (fun h=>absurd W h)) ra g hd
   have e:s++fS l.kids=s:=by rw[W];simp[fS]
   rw[e];exact c.mov 2 C
 . exact fun E w dH ra g hd=>tu mo po Tryz.func57 (code:=Qc) C C _ _ _ (key _ (fun h=>absurd h W) (fun _=>⟨rfl,rfl,rfl⟩)) ra g hd
theorem CY{l:eJ}{fl:Int}{n:Nat}{s t:aa}(e:s=t)(h:n=t.length):XE l fl n s=VF l fl t:=by rw[e,h]
theorem headD(l:eJ)(h:okL l):dU ak 29 [l.v] (.str (LB l)):=by
 refine eX Tryz.func29 ?_;have a1:=gp l.id;have a2:=jC l.kids;have a3:=Ki l.f;have a5:=gp l.kd;have a6:=gp (Int.ofNat l.nm.length);have a7:=gp l.op;have a8:=gp l.md;have a9:=gp l.sp;have b1:=gp (Int.ofNat l.kids.length);have b2:=gp l.of;have b3:=gp (Int.ofNat l.gW.length);have c1:=gp l.pl.a;have c2:=gp l.pl.b;have c3:=gp l.pl.c;have c4:=gp l.pl.d;have c5:=gp l.pl.e;have c6:=gp l.pl.f;have c7:=gp l.pl.n;obtain⟨d1,d2,d3,d4,d5⟩:=h;generalize WA:flg l.hid l.clip l.K=fl;have p1:(CS fl).length=1:=rfl;have p2:(fiB l.fi).length=4:=rfl;have hT:(CW l.nm++CS fl).length=(dN (Int.ofNat l.nm.length)).length+l.nm.length+1:=by unfold CW;rw[aE,aE,p1]
 have hT':(dN (Int.ofNat l.nm.length)++l.nm++CS fl).length=(dN (Int.ofNat l.nm.length)).length+l.nm.length+1:=hT;have hT2:(dN (Int.ofNat l.nm.length)++l.nm).length=(dN (Int.ofNat l.nm.length)).length+l.nm.length:=aE ..;refine fF 2 qo (ajB l) all_nil (fF 1 qo (ajC l) all_nil ?_);rw[WA,gS];refine fF 3 qo (ajD l fl) ?_ ?_
 . repeat' (first|exact all_nil|refine S ?_ ?_)
   all_goals first|decide|exact lq H|omega
 rw[gS,CY (t:=dN l.id++dN l.kd) (yu _ _) (by rw[aE])];generalize pW:dN l.id++dN l.kd=s1;have l1:s1.length=(dN l.id).length+(dN l.kd).length:=by rw[<- pW,aE]
 refine fF 1 qo (ajE l fl s1) ?_ ?_
 . repeat' (first|exact all_nil|refine S ?_ ?_)
   all_goals first|exact lq H|omega
 rw[gS,CY (t:=s1++(CW l.nm++CS fl)) (yu _ _) (by simp only[aE])];generalize pH:s1++(CW l.nm++CS fl)=s2;have l2:s2.length=s1.length+((dN (Int.ofNat l.nm.length)).length+l.nm.length+1):=by rw[<- pH,aE,hT]
 refine fF 1 qo (ajF l fl s2) ?_ ?_
 . repeat' (first|exact all_nil|refine S ?_ ?_)
   all_goals first|decide|exact lq H|omega|(simp only[ki,aE]<;>omega)
 rw[gS,CY (t:=s2++dN l.op++dN l.md) (by simp only[yu]) (by simp only[aE])];generalize Lz:s2++dN l.op++dN l.md=s3;have l3:s3.length=s2.length+(dN l.op).length+(dN l.md).length:=by rw[<- Lz];simp only[aE]
 refine fF 1 qo (ajG l fl s3) ?_ ?_
 . repeat' (first|exact all_nil|refine S ?_ ?_)
   all_goals first|decide|exact lq H|omega|(simp only[ki,aE]<;>omega)
 rw[gS,CY (t:=s3++Im l.pl) (by unfold Im;simp only[yu,de]) (by unfold Im;simp only[aE];omega)];have lp:(Im l.pl).length=(dN l.pl.a).length+(dN l.pl.b).length+(dN l.pl.c).length+(dN l.pl.d).length+(dN l.pl.e).length+(dN l.pl.f).length+(dN l.pl.n).length:=by unfold Im;simp only[aE]
 generalize hs4:s3++Im l.pl=s4;have l4:s4.length=s3.length+(Im l.pl).length:=by rw[<- hs4,aE]
 refine fF 1 qo (ajH l fl s4) ?_ ?_
 . repeat' (first|exact all_nil|refine S ?_ ?_)
   all_goals first|decide|exact lq H|omega|(simp only[ki,aE]<;>omega)
 rw[gS,CY (t:=s4++dN l.sp++dN (Int.ofNat l.kids.length)) (by simp only[yu]) (by simp only[aE])];generalize hs5:s4++dN l.sp++dN (Int.ofNat l.kids.length)=s5;have l5:s5.length=s4.length+(dN l.sp).length+(dN (Int.ofNat l.kids.length)).length:=by rw[<- hs5];simp only[aE]
 refine fF 1 (Ta (az C) (ajS l s5 H H d2) qo) (ajM l fl s5 (s5++fS l.kids)) (eG ⟨rfl,rfl,rfl⟩) ?_;rw[gS];generalize hs6:s5++fS l.kids=s6;have l6:s6.length=s5.length+(fS l.kids).length:=by rw[<- hs6,aE]
 refine fF 4 (fu (Qb l.f d3 d4) qo) (ajN l fl s6 (fW l.f)) ?_ ?_
 . repeat' (first|exact all_nil|refine S ?_ ?_)
   all_goals first|decide|rfl|exact lq H|omega|(simp only[ki,aE,aP,bW]<;>omega)
 rw[gS];have e7:ap (ap (ap s6 (dN l.of)) (fW l.f)++fiB l.fi) (dN (Int.ofNat l.gW.length))=s6++dN l.of++fW l.f++fiB l.fi++dN (Int.ofNat l.gW.length):=by simp only[yu]
 rw[e7];generalize hs7:s6++dN l.of++fW l.f++fiB l.fi++dN (Int.ofNat l.gW.length)=s7;have l7:s7.length=s6.length+(dN l.of).length+(fW l.f).length+4+(dN (Int.ofNat l.gW.length)).length:=by rw[<- hs7];simp only[aE,p2]
 rw[<- l7];have M6:LB l=s7++xe l.gW:=by
  unfold LB;rw[WA,pW,pH,Lz,hs4,hs5,hs6,hs7]
 refine qm qo 4 _ [6,7,105,106,107] (l.gW.length-·) (. <=l.gW.length) (fun i=>XF l.gW.length (qZ l.gW) i (s7++xe (l.gW.take i)).length (s7++xe (l.gW.take i))) 0 (aU _) (ajO l s7) all_nil (by simp only[List.take_zero,xe,List.map_nil,List.flatten_nil,List.append_nil];exact .refl) fun i hi=>?_;have ug:=Io (l.gW.take i);rw[bq]at ug;generalize hu:s7++xe (l.gW.take i)=u;have lu:u.length=s7.length+(xe (l.gW.take i)).length:=by rw[<- hu,aE]
 refine⟨_,qo,[],_,_,ajP l.gW.length (qZ l.gW) i u (l.gW.getD i (0,0)).1 (l.gW.getD i (0,0)).2,dD (g1 fun h=>?_) (dB (g1 fun h=>⟨all_nil,rfl,?_⟩))⟩
 . have eO:=jW h;obtain⟨p,hp⟩:∃p,l.gW[i]? =some p:=⟨_,au eO⟩;have ev:l.gW.getD i (0,0)=p:=by rw[ax,hp];rfl
   rw[ev];have q1:=gp p.1;have q2:=gp p.2;have mV:=Qd hp;refine⟨?_,i+1,w5 eO,eO,?_⟩
   . repeat' (first|exact all_nil|refine S ?_ ?_)
     all_goals first|decide|exact iI eO|exact Bv _|exact mV|exact lq H|exact gJ H|omega|(simp only[ki,aE]<;>omega)
   . show ek _ _ _ _ (XF l.gW.length (qZ l.gW) (i+1) (s7++xe (l.gW.take (i+1))).length (s7++xe (l.gW.take (i+1))));rw[Na hp,<- de,hu];have e:ap (ap u (dN p.1)) (dN p.2)=u++(dN p.1++dN p.2):=by simp only[yu,de]
     have e2:u.length+(dN p.1).length+(dN p.2).length=(u++(dN p.1++dN p.2)).length:=by simp only[aE];omega
     rw[e,e2];exact .refl
 . obtain rfl:i=l.gW.length:=by have:=r9 h;omega
   rw[bz]at hu;rw[M6,hu];exact eK qo (ajQ _ _ _ u) (dB (g0 ⟨S H (S ⟨rfl,H⟩ (eG H)),_,_,_,rfl,rfl⟩))
structure M9 where
 a:Int
 b:Int
 c:Int
 d:Int
 e:Int
 f:Int
 g:Int
 h:Int
 i:Int
def M9.ds(m:M9):ai:=[.int .i64 m.a,.int .i64 m.b,.int .i64 m.c,.int .i64 m.d,.int .i64 m.e,.int .i64 m.f,.int .i64 m.g,.int .i64 m.h,.int .i64 m.i]
structure Sp where
 c0:List Int
 c1:List Int
 c2:List Int
 to:M9
 N:M9
def Sp.ds(s:Sp):ai:=[.eB s.c0.length (dO s.c0),.eB s.c1.length (dO s.c1),.eB s.c2.length (dO s.c2)]++(s.to.ds++s.N.ds)
def Sp.v(s:Sp):V:=.agg (D.fQ s.ds)
def mE(l:List Sp):ai:=(l.map Sp.ds).flatten
def eJ.ds(l:eJ):ai:=[.int .i64 l.id,.int .i64 l.kd,.str l.nm,.bool l.hid,.int .i64 l.op,.int .i64 l.md,.bool l.clip,.int .i64 l.pl.a,.int .i64 l.pl.b,.int .i64 l.pl.c,.int .i64 l.pl.d,.int .i64 l.pl.e,.int .i64 l.pl.f,.int .i64 l.pl.n,.int .i64 l.sp,.eB l.kids.length (dO l.kids),.int .i64 l.of,.int .i64 l.f.k,.int .i64 l.f.r,.eB l.f.eM.length (dO l.f.eM),.int .i64 l.f.dv,.int .i64 l.f.vl,.eB l.f.cu.length (dO l.f.cu),.int .u8 l.fi.r,.int .u8 l.fi.g,.int .u8 l.fi.b,.int .u8 l.fi.a,.eB l.gW.length (qZ l.gW),.eB l.gd.length (jE l.gd),.bool l.K,.eB l.iH.length (jE l.iH)]
def gy:eJ:=⟨0,0,[],false,0,0,false,z7,0,[],0,tW,z4,[],[],false,[]⟩
def fc(l:List eJ):ai:=(l.map eJ.ds).flatten
structure Dc where
 sp:List Sp
 root:Int
 nx:Int
 ly:List eJ
def Dc.R(d:Dc):ag:=[.eB false d.sp.length (mE d.sp),L d.root,L d.nx,.eB false d.ly.length (fc d.ly)]
def Dc.v(d:Dc):V:=.agg d.R
noncomputable abbrev acE:Code:=dI Tryz.f24
noncomputable abbrev XJ:Code:=dr 1 acE
def sAx(d:Dc)(k:Int)(i:Nat):St:=fq [(1,L k),(2,.ptr (some (0,0))),(5,M i)] (G [(0,.cells d.R)]) 1
theorem ajT(d:Dc)(k:Int):dw (U dY []) [] 0 Tryz.f24 [1,2] (dM 1 acE) (dy [d.v,L k] .nil 0) [([],
   [],
   .to .normal (fq [(1,.int .i64 k),(2,.ptr (some (0,0)))] (G [(0,.cells [.eB false (d.sp.length) (mE d.sp),.int .i64 (d.root),.int .i64 (d.nx),.eB false (d.ly.length) (fc d.ly)])]) 1))]
 :=dj.of C C C
theorem ajU(d:Dc)(k:Int):dw (U dY []) [] 0 Tryz.f24 [1,2,5] (dF (dF XJ)) (fq [(1,L k),(2,.ptr (some (0,0)))] (G [(0,.cells d.R)]) 1) [([],
   [],
   .to .normal (sAx d k 0))]
 :=dj.of C C C
theorem ajV(d:Dc)(k:Int)(i:Nat)(l:eJ):dw (U dY []) [(10,.split),(16,.dz (.dx l.ds)),(20,.split),(12,.dz (M (i+1)))] 0 Tryz.f24 [1,2,5] (dG (dG (dX (dF XJ)))) (sAx d k i) [([((decide (Int.ofNat i<(Int.ofNat d.ly.length))),true),((l.id==k),true)],
   [((0:Int)<=Int.ofNat i/\Int.ofNat i<(Int.ofNat d.ly.length)),((fc d.ly).length=d.ly.length*31),(V.dx (dn (fc d.ly) (i*31) 31)=V.dx l.ds)],
   .ret (.int .i64 (Int.ofNat i)) (G []) 0),
  ([((decide (Int.ofNat i<(Int.ofNat d.ly.length))),true),((l.id==k),false)],
   [((0:Int)<=Int.ofNat i/\Int.ofNat i<(Int.ofNat d.ly.length)),((fc d.ly).length=d.ly.length*31),(V.dx (dn (fc d.ly) (i*31) 31)=V.dx l.ds),(V.int A (IntKind.i64.wrap (Int.ofNat i+(1:Int)))=M (i+1))],
   .to .normal (sAx d k (i+1))),
  ([((decide (Int.ofNat i<(Int.ofNat d.ly.length))),false)],
   [],
   .to (.exit 0) (sAx d k i))]
 :=dj.of C C C
theorem ajW(d:Dc)(k:Int)(i:Nat):dw (U dY []) [] 0 Tryz.f24 [] (dX XJ) (sAx d k i) [([],
   [],
   .ret (.int .i64 (-1)) (G []) 0)]
 :=dj.of C C C
noncomputable abbrev acF:Code:=dI Tryz.f55
noncomputable abbrev XK:Code:=dr 1 acF
def sHs(l:List Int)(k:Int)(i:Nat):St:=fq [(0,fj l),(1,L k),(5,M i)] (G []) 0
theorem ajX(l:List Int)(k:Int):dw (U dY []) [] 0 Tryz.f55 [0,1] (dM 1 acF) (dy [fj l,L k] .nil 0) [([],
   [],
   .to .normal (fq [(0,.eB false (l.length) (dO l)),(1,.int .i64 k)] (G []) 0))]
 :=dj.of C C C
theorem ajY(l:List Int)(k:Int):dw (U dY []) [] 0 Tryz.f55 [0,1,5] (dF (dF XK)) (fq [(0,fj l),(1,L k)] (G []) 0) [([],
   [],
   .to .normal (sHs l k 0))]
 :=dj.of C C C
theorem ajZ(l:List Int)(k:Int)(i:Nat)(x:Int):dw (U dY []) [(9,.split),(14,.dz (.dx [.int .i64 x])),(17,.split),(11,.dz (M (i+1)))] 0 Tryz.f55 [0,1,5] (dG (dG (dX (dF XK)))) (sHs l k i) [([((decide (Int.ofNat i<(Int.ofNat l.length))),true),((x==k),true)],
   [((0:Int)<=Int.ofNat i/\Int.ofNat i<(Int.ofNat l.length)),((dO l).length=l.length*1),(V.dx (dn (dO l) (i*1) 1)=V.dx [D.int A x])],
   .ret (.bool true) (G []) 0),
  ([((decide (Int.ofNat i<(Int.ofNat l.length))),true),((x==k),false)],
   [((0:Int)<=Int.ofNat i/\Int.ofNat i<(Int.ofNat l.length)),((dO l).length=l.length*1),(V.dx (dn (dO l) (i*1) 1)=V.dx [D.int A x]),(V.int A (IntKind.i64.wrap (Int.ofNat i+(1:Int)))=M (i+1))],
   .to .normal (sHs l k (i+1))),
  ([((decide (Int.ofNat i<(Int.ofNat l.length))),false)],
   [],
   .to (.exit 0) (sHs l k i))]
 :=dj.of C C C
theorem aj0(l:List Int)(k:Int)(i:Nat):dw (U dY []) [] 0 Tryz.f55 [] (dX XK) (sHs l k i) [([],
   [],
   .ret (.bool false) (G []) 0)]
 :=dj.of C C C
theorem aj1(l:eJ):dw (U dY []) [(5,.split)] 0 Tryz.f98 [] (dI Tryz.f98) (dy [l.v] .nil 0) [([((l.kd==(4:Int)),true)],
   [],
   .ret (.eR (some (0,0)) 1 1 1) (G [(0,.cells [.int .i64 (l.of)])]) 1),
  ([((l.kd==(4:Int)),false)],
   [],
   .ret (.eB false (l.kids.length) (dO l.kids)) (G []) 0)]
 :=dj.of C C C
theorem aj2(x k:Int):dw (U dY []) [(8,.split)] 0 Tryz.f143 [] (dI Tryz.f143) (dy [L x,L k] .nil 0) [([((decide (x>=IntKind.i64.wrap ((0:Int)-k))),true)],
   [],
   .ret (.bool (decide (x<=k))) (G []) 0),
  ([((decide (x>=IntKind.i64.wrap ((0:Int)-k))),false)],
   [],
   .ret (.bool false) (G []) 0)]
 :=dj.of C C C
section
variable{F fr:Nat}{c:Code}{s:St}{hk:gF}{fn:Func}
abbrev lt?(i n:Nat):Bool:=decide (Int.ofNat i<Int.ofNat n)
theorem VG(b:Nat)(n:Nat){cs:V->J h2->Nat->Prop}(live:List Nat)(fm:Nat->St)(t:Nat->Bool)(v:Nat->V×J h2×Nat)(A1 A2:Nat->ah){W0:gF}(X0:eU ak W0)
  {h0h:List (Nat×List (Nat×lM))} {H0:List (Nat×lM)} {aj:ah} {s0:St} (Vs:dw (U W0 h0h) H0 F fn live (dF (dF c)) s [([],aj,.to .normal s0)]) (VH:∀a∈aj,a) (h0:ek ak F fr s0 (fm 0))
  (hb:∀i,i<=n->∃(hk:gF) (_:eU ak hk) (hh:_) (dm:_),dw (U hk hh) dm F fn live (dG (dG (dX (dF c)))) (fm i) [([(lt? i n,true),(t i,true)],A1 i,.ret (v i).1 (v i).2.1 (v i).2.2),([(lt? i n,true),(t i,false)],A2 i,.to .normal (fm (i+1))),([(lt? i n,false)],[],.to (.exit b) (fm i))])
  (hA:∀i,i<n->(∀a∈A1 i,a)/\∀a∈A2 i,a)
  (hr:∀i,i<n->(∀j,j<i->t j=false)->t i=true->cs (v i).1 (v i).2.1 (v i).2.2) (he:(∀j,j<n->t j=false)->TG ak F fr (dX c) (fm n) (fH ak F fn cs))
  (hs:((rT c&&rT (dF c))&&(eL fr (dF (dF c))&&(nf (dX (dF c)) b&&(oM (dG (dX (dF c)))&&eL fr (dG (dG (dX (dF c))))))))=true:=by kernel_rfl):TG ak F fr c s (fH ak F fn cs):=by
 refine qm X0 b cs live (n-·) (fun i=>i<=n/\∀j,j<i->t j=false) fm 0 ⟨aU _,fun _ h=>absurd h (bC _)⟩ Vs VH h0 (fun i ⟨hi,hj⟩=>?_) hs;obtain⟨hk,s',hh,dm,gm⟩:=hb i hi;refine⟨hk,s',hh,dm,_,gm,dD (g2 fun Q O=>?_) (dD (g2 fun Q O=>?_) (dB (g1 fun h=>⟨all_nil,rfl,?_⟩)))⟩
 . exact⟨(hA i (jW Q)).1,hr i (jW Q) hj O⟩
 . refine⟨(hA i (jW Q)).2,i+1,by have:=jW Q;show n-(i+1)<n-i;omega,⟨jW Q,fun j VI=>?_⟩,.refl⟩;rcases bt j i with q|q
   . exact hj j q
   . obtain rfl:j=i:=by omega
     exact O
 . obtain rfl:i=n:=by have:=r9 h;omega
   exact he hj
end
def Ip(F:Nat)(ms live:List Nat)(s:St):Option (ah×St):=match NV ms s with
 |some (aj,s1)=>match ld F live s1 with
  |some fm=>some (aj,fm)
  |none=>none
 |none=>none
theorem ek.Ip{P:Program}{F fr:Nat}{s fm:St}(ms live:List Nat){aj:ah}(e:Ip F ms live s=some (aj,fm))(hA:∀x∈aj,x):ek P F fr s fm:=by
 unfold YtmjggdmekboefaaGreat.Ip at e;split at e
 case h_2=>cases e
 rename_i A1 s1 Q;split at e
 case h_2=>cases e
 rename_i S1 O;simp only[aq,aF]at e;obtain⟨rfl,rfl⟩:=e;exact(ek.Bu ms Q hA).trans (.norm O)
theorem F1(l:eJ):l.ds.length=31:=rfl
theorem gj(l:List eJ):(fc l).length=l.length*31:=sg (f:=eJ.ds) F1 l
theorem XL{l:List eJ}{i:Nat}{x:eJ}(h:l[i]? =some x):V.dx (dn (fc l) (i*31) 31)= .dx x.ds:=by
 obtain⟨eO,rfl⟩:=aR.1 h;exact aI V.dx (si (f:=eJ.ds) F1 l i eO)
theorem iw{l:List eJ}{i:Nat}(h:i<l.length):V.dx (dn (fc l) (i*31) 31)= .dx (l.getD i gy).ds:=XL (by rw[ax,au h];rfl)
theorem fD{l:List Int}{i:Nat}(h:i<l.length):V.dx (dn (dO l) (i*1) 1)= .dx [.int .i64 (l.getD i 0)]:=tA (by rw[ax,au h];rfl)
theorem xg{x k:Int}:(x==k)=true↔x=k:=cG
section
variable(ls:List eJ)(k:Int)
def jy:Option Nat:=ls.findIdx? fun l=>l.id==k
def Ba:Int:=match jy ls k with
 |some i=>Int.ofNat i
 |none=> -1
end
section
variable{ls:List eJ}{k:Int}
theorem Iq{i:Nat}(h:i<ls.length)(Q:(ls.getD i gy).id==k)(O:∀j,j<i->((ls.getD j gy).id==k)=false):jy ls k=some i:=by
 unfold jy;rw[bO];refine⟨h,?_,fun j hj=>?_⟩
 . rw[ax,au h]at Q;exact Q
 . have:=O j hj;rw[ax,au H]at this;simpa using this
theorem Qe(O:∀j,j<ls.length->((ls.getD j gy).id==k)=false):jy ls k=none:=by
 unfold jy;rw[cH];intro x I;obtain⟨j,hj,rfl⟩:=b6 I;have:=O j hj;rw[ax,au hj]at this;exact this
end
theorem atD(d:Dc)(k:Int)(hl:d.ly.length<=1000000):dU ak 24 [d.v,L k] (L (Ba d.ly k)):=by
 refine eX Tryz.func24 (fF 1 (di _) (ajT d k) all_nil ?_);refine VG 0 d.ly.length [1,2,5] (sAx d k) (fun i=>(d.ly.getD i gy).id==k) (fun i=>(M i,G [],0)) _ _ (di _) (ajU d k) all_nil .refl (fun i _=>⟨_,di _,_,_,ajV d k i (d.ly.getD i gy)⟩) (fun i hi=>?_) (fun i hi hj ht=>?_) (fun hj=>?_)
 . exact⟨S (iI hi) (S (gj _) (eG (iw hi))),S (iI hi) (S (gj _) (S (iw hi) (eG (gJ H))))⟩
 . unfold Ba;rw[Iq hi ht hj]
 . refine eK (di _) (ajW d k _) (dB (g0 ⟨all_nil,_,_,_,rfl,?_⟩));unfold Ba;rw[Qe hj]
theorem acG(l:List Int)(k:Int)(hl:l.length<=1000000):dU ak 55 [fj l,L k] (.bool (l.contains k)):=by
 refine eX Tryz.func55 (fF 1 (di _) (ajX l k) all_nil ?_);refine VG 0 l.length [0,1,5] (sHs l k) (fun i=>l.getD i 0==k) (fun i=>(.bool true,G [],0)) _ _ (di _) (ajY l k) all_nil .refl (fun i _=>⟨_,di _,_,_,ajZ l k i (l.getD i 0)⟩) (fun i hi=>?_) (fun i hi hj ht=>?_) (fun hj=>?_)
 . exact⟨S (iI hi) (S (eo _) (eG (fD hi))),S (iI hi) (S (eo _) (S (fD hi) (eG (gJ H))))⟩
 . refine aI V.bool (Eq.symm ?_);rw[cM];have:l.getD i 0=k:=xg.1 ht;rw[<- this,ax,au hi];exact bK hi
 . refine eK (di _) (aj0 l k _) (dB (g0 ⟨all_nil,_,_,_,rfl,aI V.bool (Eq.symm ?_)⟩));rw[<- Bool.not_eq_true,cM];intro K;obtain⟨j,xy,rfl⟩:=b6 K;have:=hj j xy;rw[ax,au xy]at this;simp at this
def fN(l:eJ):List Int:=if l.kd=4 then[l.of]else l.kids
theorem Qf(l:eJ):dU ak 98 [l.v] (fj (fN l)):=by
 refine qL Tryz.func98 (eK (di _) (aj1 l) (dD (g1 fun h=>⟨all_nil,_,_,_,rfl,?_⟩) (dB (g1 fun h=>⟨all_nil,_,_,_,rfl,?_⟩))))
 . unfold fN;rw[aG (xg.1 h)];exact .Bu (v0:=fj [l.of]) [0] (aj:=[[D.int .i64 l.of].length=1*1]) C (eG rfl) C C
 . unfold fN;rw[aB (by simpa using h)];exact vD.self C C
noncomputable abbrev acH:Code:=dI Tryz.f118
noncomputable abbrev XM:Code:=dr 1 acH
section
variable(s:aa)(p:P7)(i:Nat)(a:Bool)(x c:Int)
def sNa:St:=fq [(0,.str s),(3,M i)] (G []) 0
theorem aj4:dw (U dY []) [] 0 Tryz.f118 [0] (dM 1 acH) (dy [.str s] .nil 0) [([],
   [],
   .to .normal (fq [(0,.str s)] (G []) 0))]
 :=dj.of C C C
theorem aj5:dw (U dY []) [] 0 Tryz.f118 [0,3] (dF (dF XM)) (fq [(0,.str s)] (G []) 0) [([],
   [],
   .to .normal (sNa s 0))]
 :=dj.of C C C
abbrev mg:Prop:=V.int IntKind.u8 (Int.ofNat (s.getD i (0:UInt8)).toNat)=V.int IntKind.u8 c
abbrev qp:Prop:=V.int A (IntKind.i64.wrap (Int.ofNat i+(1:Int)))=M (i+1)
theorem aj6:dw (U dY []) [(8,.split),(13,.dz (.int .u8 c)),(15,.split),(18,.split),(22,.split),(25,.split),(30,.split),(34,.split),(10,.dz (M (i+1)))] 0 Tryz.f118 [0,3] (dG (dG (dX (dF XM)))) (sNa s i) [([((decide (Int.ofNat i<(Int.ofNat s.length))),true),((decide (c<(97:Int))),true),((decide (c<(48:Int))),true),((c !=(45:Int)),true),((c !=(95:Int)),true)],
   [((0:Int)<=Int.ofNat i/\i<s.length),mg s i c],
   .ret (.bool false) (G []) 0),
  ([((decide (Int.ofNat i<(Int.ofNat s.length))),true),((decide (c<(97:Int))),true),((decide (c<(48:Int))),true),((c !=(45:Int)),true),((c !=(95:Int)),false)],
   [((0:Int)<=Int.ofNat i/\i<s.length),mg s i c,qp i],
   .to .normal (fq [(0,.str s),(3,.int .i64 (Int.ofNat (i+1)))] (G []) 0)),
  ([((decide (Int.ofNat i<(Int.ofNat s.length))),true),((decide (c<(97:Int))),true),((decide (c<(48:Int))),true),((c !=(45:Int)),false)],
   [((0:Int)<=Int.ofNat i/\i<s.length),mg s i c,qp i],
   .to .normal (fq [(0,.str s),(3,.int .i64 (Int.ofNat (i+1)))] (G []) 0)),
  ([((decide (Int.ofNat i<(Int.ofNat s.length))),true),((decide (c<(97:Int))),true),((decide (c<(48:Int))),false),((decide (c>(57:Int))),true),((c !=(45:Int)),true),((c !=(95:Int)),true)],
   [((0:Int)<=Int.ofNat i/\i<s.length),mg s i c],
   .ret (.bool false) (G []) 0),
  ([((decide (Int.ofNat i<(Int.ofNat s.length))),true),((decide (c<(97:Int))),true),((decide (c<(48:Int))),false),((decide (c>(57:Int))),true),((c !=(45:Int)),true),((c !=(95:Int)),false)],
   [((0:Int)<=Int.ofNat i/\i<s.length),mg s i c,qp i],
   .to .normal (fq [(0,.str s),(3,.int .i64 (Int.ofNat (i+1)))] (G []) 0)),
  ([((decide (Int.ofNat i<(Int.ofNat s.length))),true),((decide (c<(97:Int))),true),((decide (c<(48:Int))),false),((decide (c>(57:Int))),true),((c !=(45:Int)),false)],
   [((0:Int)<=Int.ofNat i/\i<s.length),mg s i c,qp i],
   .to .normal (fq [(0,.str s),(3,.int .i64 (Int.ofNat (i+1)))] (G []) 0)),
  ([((decide (Int.ofNat i<(Int.ofNat s.length))),true),((decide (c<(97:Int))),true),((decide (c<(48:Int))),false),((decide (c>(57:Int))),false)],
   [((0:Int)<=Int.ofNat i/\i<s.length),mg s i c,qp i],
   .to .normal (fq [(0,.str s),(3,.int .i64 (Int.ofNat (i+1)))] (G []) 0)),
  ([((decide (Int.ofNat i<(Int.ofNat s.length))),true),((decide (c<(97:Int))),false),((decide (c>(122:Int))),true),((decide (c<(48:Int))),true),((c !=(45:Int)),true),((c !=(95:Int)),true)],
   [((0:Int)<=Int.ofNat i/\i<s.length),mg s i c],
   .ret (.bool false) (G []) 0),
  ([((decide (Int.ofNat i<(Int.ofNat s.length))),true),((decide (c<(97:Int))),false),((decide (c>(122:Int))),true),((decide (c<(48:Int))),true),((c !=(45:Int)),true),((c !=(95:Int)),false)],
   [((0:Int)<=Int.ofNat i/\i<s.length),mg s i c,qp i],
   .to .normal (fq [(0,.str s),(3,.int .i64 (Int.ofNat (i+1)))] (G []) 0)),
  ([((decide (Int.ofNat i<(Int.ofNat s.length))),true),((decide (c<(97:Int))),false),((decide (c>(122:Int))),true),((decide (c<(48:Int))),true),((c !=(45:Int)),false)],
   [((0:Int)<=Int.ofNat i/\i<s.length),mg s i c,qp i],
   .to .normal (fq [(0,.str s),(3,.int .i64 (Int.ofNat (i+1)))] (G []) 0)),
  ([((decide (Int.ofNat i<(Int.ofNat s.length))),true),((decide (c<(97:Int))),false),((decide (c>(122:Int))),true),((decide (c<(48:Int))),false),((decide (c>(57:Int))),true),((c !=(45:Int)),true),((c !=(95:Int)),true)],
   [((0:Int)<=Int.ofNat i/\i<s.length),mg s i c],
   .ret (.bool false) (G []) 0),
  ([((decide (Int.ofNat i<(Int.ofNat s.length))),true),((decide (c<(97:Int))),false),((decide (c>(122:Int))),true),((decide (c<(48:Int))),false),((decide (c>(57:Int))),true),((c !=(45:Int)),true),((c !=(95:Int)),false)],
   [((0:Int)<=Int.ofNat i/\i<s.length),mg s i c,qp i],
   .to .normal (fq [(0,.str s),(3,.int .i64 (Int.ofNat (i+1)))] (G []) 0)),
  ([((decide (Int.ofNat i<(Int.ofNat s.length))),true),((decide (c<(97:Int))),false),((decide (c>(122:Int))),true),((decide (c<(48:Int))),false),((decide (c>(57:Int))),true),((c !=(45:Int)),false)],
   [((0:Int)<=Int.ofNat i/\i<s.length),mg s i c,qp i],
   .to .normal (fq [(0,.str s),(3,.int .i64 (Int.ofNat (i+1)))] (G []) 0)),
  ([((decide (Int.ofNat i<(Int.ofNat s.length))),true),((decide (c<(97:Int))),false),((decide (c>(122:Int))),true),((decide (c<(48:Int))),false),((decide (c>(57:Int))),false)],
   [((0:Int)<=Int.ofNat i/\i<s.length),mg s i c,qp i],
   .to .normal (fq [(0,.str s),(3,.int .i64 (Int.ofNat (i+1)))] (G []) 0)),
  ([((decide (Int.ofNat i<(Int.ofNat s.length))),true),((decide (c<(97:Int))),false),((decide (c>(122:Int))),false)],
   [((0:Int)<=Int.ofNat i/\i<s.length),mg s i c,qp i],
   .to .normal (fq [(0,.str s),(3,.int .i64 (Int.ofNat (i+1)))] (G []) 0)),
  ([((decide (Int.ofNat i<(Int.ofNat s.length))),false)],
   [],
   .to (.exit 0) (fq [(0,.str s),(3,.int .i64 (Int.ofNat i))] (G []) 0))]
 :=dj.of C C C
theorem aj7:dw (U dY []) [] 0 Tryz.f118 [] (dX XM) (sNa s i) [([],
   [],
   .ret (.bool (decide ((Int.ofNat s.length)<=(12:Int)))) (G []) 0)]
 :=dj.of C C C
noncomputable abbrev acJ:Code:=dI Tryz.f120
noncomputable abbrev XN:Code:=dr 1 acJ
def sPh(l:List (Int×Int))(i:Nat):St:=fq [(0,w8 l),(3,M i)] (G []) 0
theorem aj8(l:List (Int×Int)):dw (U dY []) [] 0 Tryz.f120 [0] (dM 1 acJ) (dy [w8 l] .nil 0) [([],
   [],
   .to .normal (fq [(0,.eB false (l.length) (qZ l))] (G []) 0))]
 :=dj.of C C C
theorem aj9(l:List (Int×Int)):dw (U dY []) [] 0 Tryz.f120 [0,3] (dF (dF XN)) (fq [(0,w8 l)] (G []) 0) [([],
   [],
   .to .normal (sPh l 0))]
 :=dj.of C C C
abbrev ni(l:List (Int×Int))(i:Nat)(x y:Int):Prop:=V.dx (dn (qZ l) (i*2) 2)=V.dx [D.int A x,D.int A y]
theorem aka(l:List (Int×Int))(i:Nat)(x y:Int):dw (U dY []) [(7,.split),(12,.dz (.dx [.int .i64 x,.int .i64 y])),(19,.dz (.dx [.int .i64 x,.int .i64 y])),(27,.dz (.dx [.int .i64 x,.int .i64 y])),(35,.dz (.dx [.int .i64 x,.int .i64 y])),(15,.split),(22,.split),(30,.split),(38,.split),(9,.dz (M (i+1)))] 0 Tryz.f120 [0,3] (dG (dG (dX (dF XN)))) (sPh l i) [([((decide (Int.ofNat i<(Int.ofNat l.length))),true),((decide (x<(-65536:Int))),true)],
   [((0:Int)<=Int.ofNat i/\Int.ofNat i<(Int.ofNat l.length)),((qZ l).length=l.length*2),ni l i x y],
   .ret (.bool false) (G []) 0),
  ([((decide (Int.ofNat i<(Int.ofNat l.length))),true),((decide (x<(-65536:Int))),false),((decide (x>(65536:Int))),true)],
   [((0:Int)<=Int.ofNat i/\Int.ofNat i<(Int.ofNat l.length)),((qZ l).length=l.length*2),ni l i x y,((0:Int)<=Int.ofNat i/\Int.ofNat i<(Int.ofNat l.length)),((qZ l).length=l.length*2),ni l i x y],
   .ret (.bool false) (G []) 0),
  ([((decide (Int.ofNat i<(Int.ofNat l.length))),true),((decide (x<(-65536:Int))),false),((decide (x>(65536:Int))),false),((decide (y<(-65536:Int))),true)],
   [((0:Int)<=Int.ofNat i/\Int.ofNat i<(Int.ofNat l.length)),((qZ l).length=l.length*2),ni l i x y,((0:Int)<=Int.ofNat i/\Int.ofNat i<(Int.ofNat l.length)),((qZ l).length=l.length*2),ni l i x y,((0:Int)<=Int.ofNat i/\Int.ofNat i<(Int.ofNat l.length)),((qZ l).length=l.length*2),ni l i x y],
   .ret (.bool false) (G []) 0),
  ([((decide (Int.ofNat i<(Int.ofNat l.length))),true),((decide (x<(-65536:Int))),false),((decide (x>(65536:Int))),false),((decide (y<(-65536:Int))),false),((decide (y>(65536:Int))),true)],
   [((0:Int)<=Int.ofNat i/\Int.ofNat i<(Int.ofNat l.length)),((qZ l).length=l.length*2),ni l i x y,((0:Int)<=Int.ofNat i/\Int.ofNat i<(Int.ofNat l.length)),((qZ l).length=l.length*2),ni l i x y,((0:Int)<=Int.ofNat i/\Int.ofNat i<(Int.ofNat l.length)),((qZ l).length=l.length*2),ni l i x y,((0:Int)<=Int.ofNat i/\Int.ofNat i<(Int.ofNat l.length)),((qZ l).length=l.length*2),ni l i x y],
   .ret (.bool false) (G []) 0),
  ([((decide (Int.ofNat i<(Int.ofNat l.length))),true),((decide (x<(-65536:Int))),false),((decide (x>(65536:Int))),false),((decide (y<(-65536:Int))),false),((decide (y>(65536:Int))),false)],
   [((0:Int)<=Int.ofNat i/\Int.ofNat i<(Int.ofNat l.length)),((qZ l).length=l.length*2),ni l i x y,((0:Int)<=Int.ofNat i/\Int.ofNat i<(Int.ofNat l.length)),((qZ l).length=l.length*2),ni l i x y,((0:Int)<=Int.ofNat i/\Int.ofNat i<(Int.ofNat l.length)),((qZ l).length=l.length*2),ni l i x y,((0:Int)<=Int.ofNat i/\Int.ofNat i<(Int.ofNat l.length)),((qZ l).length=l.length*2),ni l i x y,(V.int A (IntKind.i64.wrap (Int.ofNat i+(1:Int)))=M (i+1))],
   .to .normal (fq [(0,.eB false (l.length) (qZ l)),(3,.int .i64 (Int.ofNat (i+1)))] (G []) 0)),
  ([((decide (Int.ofNat i<(Int.ofNat l.length))),false)],
   [],
   .to (.exit 0) (fq [(0,.eB false (l.length) (qZ l)),(3,.int .i64 (Int.ofNat i))] (G []) 0))]
 :=dj.of C C C
theorem akb(l:List (Int×Int))(i:Nat):dw (U dY []) [(42,.split)] 0 Tryz.f120 [] (dX XN) (sPh l i) [([((decide ((Int.ofNat l.length)>=(3:Int))),true)],
   [],
   .ret (.bool (decide ((Int.ofNat l.length)<=(64:Int)))) (G []) 0),
  ([((decide ((Int.ofNat l.length)>=(3:Int))),false)],
   [],
   .ret (.bool false) (G []) 0)]
 :=dj.of C C C
def w9(k:Int):Bool:=decide (-k<=x)&&decide (x<=k)
def Kj:ag->Option (ah×V)
 | [.int .i64 x,.int .i64 k]=>some ([0<=k/\k<=1000000000],.bool (w9 x k))
 |_=>none
noncomputable abbrev Wv9:gF:=jZ 143 (gV Kj) dY
noncomputable abbrev Qg:Code:=dI Tryz.f116
def NZ(r:List (Nat×V)):St:=fq ([(1,.ptr (some (0,0)))]++r) (G [(0,.cells p.R)]) 1
theorem akd:dw (U Wv9 []) [(7,.split),(11,.split),(16,.split),(21,.split)] 0 Tryz.f116 [1,3] (dM 2 Qg) (dy [.agg p.R] .nil 0) [([((w9 p.a (4096:Int)),true),((w9 p.b (4096:Int)),true),((w9 p.d (4096:Int)),true),((w9 p.e (4096:Int)),true)],
   [((0:Int)<=(4096:Int)/\(4096:Int)<=(1000000000:Int)),((0:Int)<=(4096:Int)/\(4096:Int)<=(1000000000:Int)),((0:Int)<=(4096:Int)/\(4096:Int)<=(1000000000:Int)),((0:Int)<=(4096:Int)/\(4096:Int)<=(1000000000:Int))],
   .to .normal (NZ p [(3,.bool true)])),
  ([((w9 p.a (4096:Int)),true),((w9 p.b (4096:Int)),true),((w9 p.d (4096:Int)),true),((w9 p.e (4096:Int)),false)],
   [((0:Int)<=(4096:Int)/\(4096:Int)<=(1000000000:Int)),((0:Int)<=(4096:Int)/\(4096:Int)<=(1000000000:Int)),((0:Int)<=(4096:Int)/\(4096:Int)<=(1000000000:Int)),((0:Int)<=(4096:Int)/\(4096:Int)<=(1000000000:Int))],
   .to .normal (NZ p [(3,.bool false)])),
  ([((w9 p.a (4096:Int)),true),((w9 p.b (4096:Int)),true),((w9 p.d (4096:Int)),false)],
   [((0:Int)<=(4096:Int)/\(4096:Int)<=(1000000000:Int)),((0:Int)<=(4096:Int)/\(4096:Int)<=(1000000000:Int)),((0:Int)<=(4096:Int)/\(4096:Int)<=(1000000000:Int))],
   .to .normal (NZ p [(3,.bool false)])),
  ([((w9 p.a (4096:Int)),true),((w9 p.b (4096:Int)),false)],
   [((0:Int)<=(4096:Int)/\(4096:Int)<=(1000000000:Int)),((0:Int)<=(4096:Int)/\(4096:Int)<=(1000000000:Int))],
   .to .normal (NZ p [(3,.bool false)])),
  ([((w9 p.a (4096:Int)),false)],
   [((0:Int)<=(4096:Int)/\(4096:Int)<=(1000000000:Int))],
   .to .normal (NZ p [(3,.bool false)]))]
 :=dj.of C C C
abbrev CZ:Prop:=(0:Int)<=(268435456:Int)/\(268435456:Int)<=(1000000000:Int)
theorem ake:dw (U Wv9 []) [(25,.split),(29,.split)] 0 Tryz.f116 [1,3,4] (dM 1 (dr 2 Qg)) (NZ p [(3,.bool a)]) [([((w9 p.c (268435456:Int)),true),((w9 p.f (268435456:Int)),true)],
   [CZ,CZ],
   .to .normal (NZ p [(3,.bool a),(4,.bool true)])),
  ([((w9 p.c (268435456:Int)),true),((w9 p.f (268435456:Int)),false)],
   [CZ,CZ],
   .to .normal (NZ p [(3,.bool a),(4,.bool false)])),
  ([((w9 p.c (268435456:Int)),false)],
   [CZ],
   .to .normal (NZ p [(3,.bool a),(4,.bool false)]))]
 :=dj.of C C C
theorem akf(b:Bool):dw (U dY []) [(33,.split),(37,.split),(40,.split),(43,.split),(48,.split)] 0 Tryz.f116 [] (dr 3 Qg) (NZ p [(3,.bool a),(4,.bool b)]) [([((decide (p.n>=(1:Int))),true),((decide (p.n<=(4096:Int))),true),(a,true),(b,true),((IntKind.i64.wrap (IntKind.i64.wrap (p.a*p.e)-IntKind.i64.wrap (p.b*p.d)) !=(0:Int)),true)],
   [],
   .ret (.bool true) (G []) 0),
  ([((decide (p.n>=(1:Int))),true),((decide (p.n<=(4096:Int))),true),(a,true),(b,true),((IntKind.i64.wrap (IntKind.i64.wrap (p.a*p.e)-IntKind.i64.wrap (p.b*p.d)) !=(0:Int)),false)],
   [],
   .ret (.bool false) (G []) 0),
  ([((decide (p.n>=(1:Int))),true),((decide (p.n<=(4096:Int))),true),(a,true),(b,false)],
   [],
   .ret (.bool false) (G []) 0),
  ([((decide (p.n>=(1:Int))),true),((decide (p.n<=(4096:Int))),true),(a,false)],
   [],
   .ret (.bool false) (G []) 0),
  ([((decide (p.n>=(1:Int))),true),((decide (p.n<=(4096:Int))),false)],
   [],
   .ret (.bool false) (G []) 0),
  ([((decide (p.n>=(1:Int))),false)],
   [],
   .ret (.bool false) (G []) 0)]
 :=dj.of C C C
noncomputable abbrev acK:Code:=dI Tryz.f137
noncomputable abbrev Qh:Code:=dr 3 acK
def sC5(l:List Int)(i:Nat):St:=fq [(0,fj l),(4,M i)] (G []) 0
theorem akg(l:List Int):dw (U dY [(168,[(4,.split)])]) [(9,.split)] 0 Tryz.f137 [0] (dM 3 acK) (dy [fj l] .nil 0) [([((decide ((Int.ofNat l.length)>=(2:Int))),true),((!decide ((Int.ofNat l.length)<=(257:Int))),true)],
   [],
   .ret (.bool false) (G []) 0),
  ([((decide ((Int.ofNat l.length)>=(2:Int))),true),((!decide ((Int.ofNat l.length)<=(257:Int))),false)],
   [],
   .to .normal (fq [(0,.eB false (l.length) (dO l))] (G []) 0)),
  ([((decide ((Int.ofNat l.length)>=(2:Int))),false),((!false),true)],
   [],
   .ret (.bool false) (G []) 0),
  ([((decide ((Int.ofNat l.length)>=(2:Int))),false),((!false),false)],
   [],
   .to .normal (fq [(0,.eB false (l.length) (dO l))] (G []) 0))]
 :=dj.of C C C
theorem akh(l:List Int):dw (U dY []) [] 0 Tryz.f137 [0,4] (dF (dF Qh)) (fq [(0,fj l)] (G []) 0) [([],
   [],
   .to .normal (sC5 l 0))]
 :=dj.of C C C
theorem aki(l:List Int)(x:Int):dw (U dY []) [(13,.split),(18,.dz (.dx [.int .i64 x])),(24,.dz (.dx [.int .i64 x])),(20,.split),(26,.split),(15,.dz (M 1))] 0 Tryz.f137 [0,4] (dG (dG (dX (dF Qh)))) (sC5 l 0) [([((decide ((0:Int)<(Int.ofNat l.length))),true),((decide (x<(0:Int))),true)],
   [((0:Int)<=(0:Int)/\(0:Int)<(Int.ofNat l.length)),((dO l).length=l.length*1),(V.dx (dn (dO l) 0 1)=V.dx [D.int A x])],
   .ret (.bool false) (G []) 0),
  ([((decide ((0:Int)<(Int.ofNat l.length))),true),((decide (x<(0:Int))),false),((decide (x>(65535:Int))),true)],
   [((0:Int)<=(0:Int)/\(0:Int)<(Int.ofNat l.length)),((dO l).length=l.length*1),(V.dx (dn (dO l) 0 1)=V.dx [D.int A x]),((0:Int)<=(0:Int)/\(0:Int)<(Int.ofNat l.length)),((dO l).length=l.length*1),(V.dx (dn (dO l) 0 1)=V.dx [D.int A x])],
   .ret (.bool false) (G []) 0),
  ([((decide ((0:Int)<(Int.ofNat l.length))),true),((decide (x<(0:Int))),false),((decide (x>(65535:Int))),false)],
   [((0:Int)<=(0:Int)/\(0:Int)<(Int.ofNat l.length)),((dO l).length=l.length*1),(V.dx (dn (dO l) 0 1)=V.dx [D.int A x]),((0:Int)<=(0:Int)/\(0:Int)<(Int.ofNat l.length)),((dO l).length=l.length*1),(V.dx (dn (dO l) 0 1)=V.dx [D.int A x]),(V.int A (1:Int)=M 1)],
   .to .normal (fq [(0,.eB false (l.length) (dO l)),(4,.int .i64 1)] (G []) 0)),
  ([((decide ((0:Int)<(Int.ofNat l.length))),false)],
   [],
   .to (.exit 0) (fq [(0,.eB false (l.length) (dO l)),(4,.int .i64 0)] (G []) 0))]
 :=dj.of C C C
abbrev Qi:Prop:=V.int A (IntKind.i64.wrap (Int.ofNat (i+1)-(1:Int)))=M i
abbrev tB(l:List Int)(i:Nat):Prop:=(0:Int)<=Int.ofNat (i+1)/\Int.ofNat (i+1)<(Int.ofNat l.length)
abbrev tC(l:List Int)(i:Nat)(x:Int):Prop:=V.dx (dn (dO l) ((i+1)*1) 1)=V.dx [D.int A x]
end
theorem akj(l:List Int)(i:Nat)(x y:Int):dw (U dY []) [(13,.split),(18,.dz (.dx [.int .i64 x])),(24,.dz (.dx [.int .i64 x])),(34,.dz (.dx [.int .i64 x])),(38,.dz (M i)),(39,.dz (.dx [.int .i64 y])),(20,.split),(26,.split),(30,.dz (.bool true)),(41,.split),(15,.dz (M (i+2)))] 0 Tryz.f137 [0,4] (dG (dG (dX (dF Qh)))) (sC5 l (i+1)) [([((decide (Int.ofNat (i+1)<(Int.ofNat l.length))),true),((decide (x<(0:Int))),true)],
   [tB l i,((dO l).length=l.length*1),tC l i x],
   .ret (.bool false) (G []) 0),
  ([((decide (Int.ofNat (i+1)<(Int.ofNat l.length))),true),((decide (x<(0:Int))),false),((decide (x>(65535:Int))),true)],
   [tB l i,((dO l).length=l.length*1),tC l i x,tB l i,((dO l).length=l.length*1),tC l i x],
   .ret (.bool false) (G []) 0),
  ([((decide (Int.ofNat (i+1)<(Int.ofNat l.length))),true),((decide (x<(0:Int))),false),((decide (x>(65535:Int))),false),((decide (x<y)),true)],
   [tB l i,((dO l).length=l.length*1),tC l i x,tB l i,((dO l).length=l.length*1),tC l i x,(V.bool (decide (Int.ofNat (i+1)>(0:Int)))=V.bool true),tB l i,((dO l).length=l.length*1),tC l i x,Qi i,((0:Int)<=Int.ofNat i/\Int.ofNat i<(Int.ofNat l.length)),((dO l).length=l.length*1),(V.dx (dn (dO l) (i*1) 1)=V.dx [D.int A y])],
   .ret (.bool false) (G []) 0),
  ([((decide (Int.ofNat (i+1)<(Int.ofNat l.length))),true),((decide (x<(0:Int))),false),((decide (x>(65535:Int))),false),((decide (x<y)),false)],
   [tB l i,((dO l).length=l.length*1),tC l i x,tB l i,((dO l).length=l.length*1),tC l i x,(V.bool (decide (Int.ofNat (i+1)>(0:Int)))=V.bool true),tB l i,((dO l).length=l.length*1),tC l i x,Qi i,((0:Int)<=Int.ofNat i/\Int.ofNat i<(Int.ofNat l.length)),((dO l).length=l.length*1),(V.dx (dn (dO l) (i*1) 1)=V.dx [D.int A y]),(V.int A (IntKind.i64.wrap (Int.ofNat (i+1)+(1:Int)))=M (i+2))],
   .to .normal (fq [(0,.eB false (l.length) (dO l)),(4,.int .i64 (Int.ofNat (i+2)))] (G []) 0)),
  ([((decide (Int.ofNat (i+1)<(Int.ofNat l.length))),false)],
   [],
   .to (.exit 0) (fq [(0,.eB false (l.length) (dO l)),(4,.int .i64 (Int.ofNat (i+1)))] (G []) 0))]
 :=dj.of C C C
theorem akk(l:List Int)(i:Nat):dw (U dY []) [] 0 Tryz.f137 [] (dX Qh) (sC5 l i) [([],
   [],
   .ret (.bool true) (G []) 0)]
 :=dj.of C C C
section
variable{F fr:Nat}{c:Code}{s:St}{fn:Func}
def LpS(b n:Nat)(fm:Nat->St)(t:Nat->Bool)(v:V×J h2×Nat)(i:Nat):jL->Prop
 | .to .normal s=>i<n/\t i=false/\s=fm (i+1)
 | .to (.exit j) s=>j=b/\n<=i/\s=fm i
 | .ret u h m=>i<n/\t i=true/\(u,h,m)=v
 |_=>False
theorem LC(b:Nat)(n:Nat){cs:V->J h2->Nat->Prop}(live:List Nat)(fm:Nat->St)(t:Nat->Bool)(v:V×J h2×Nat){W0:gF}(X0:eU ak W0)
  {h0h:List (Nat×List (Nat×lM))} {H0:List (Nat×lM)} {aj:ah} {s0:St} (Vs:dw (U W0 h0h) H0 F fn live (dF (dF c)) s [([],aj,.to .normal s0)]) (VH:∀a∈aj,a) (h0:ek ak F fr s0 (fm 0))
  (hb:∀i,i<=n->∃(hk:gF) (_:eU ak hk) (hh:_) (dm:_) (hL:_),dw (U hk hh) dm F fn live (dG (dG (dX (dF c)))) (fm i) hL/\∀g∈hL,(∀b∈g.1,b.1=b.2)->(∀a∈g.2.1,a)/\LpS b n fm t v i g.2.2)
  (hr:∀i,i<n->(∀j,j<i->t j=false)->t i=true->cs v.1 v.2.1 v.2.2) (he:(∀j,j<n->t j=false)->TG ak F fr (dX c) (fm n) (fH ak F fn cs))
  (hs:((rT c&&rT (dF c))&&(eL fr (dF (dF c))&&(nf (dX (dF c)) b&&(oM (dG (dX (dF c)))&&eL fr (dG (dG (dX (dF c))))))))=true:=by kernel_rfl):TG ak F fr c s (fH ak F fn cs):=by
 refine qm X0 b cs live (n-·) (fun i=>i<=n/\∀j,j<i->t j=false) fm 0 ⟨aU _,fun _ h=>absurd h (bC _)⟩ Vs VH h0 (fun i ⟨hi,hj⟩=>?_) hs;obtain⟨hk,s',hh,dm,hL,gm,hG⟩:=hb i hi;refine⟨hk,s',hh,dm,hL,gm,fun g hg B=>?_⟩;obtain⟨Q,O⟩:=hG g hg B;refine⟨Q,?_⟩;obtain⟨_,_,r⟩:=g;simp only at O ⊢;cases r with
 |to y s1=>
  cases y with
  |normal=>
   obtain⟨k1,k2,rfl⟩:=O;refine⟨i+1,by show n-(i+1)<n-i;omega,⟨k1,fun j VI=>?_⟩,.refl⟩;rcases bt j i with q|q
   . exact hj j q
   . obtain rfl:j=i:=by omega
     exact k2
  |exit j=>
   obtain⟨rfl,k2,rfl⟩:=O;obtain rfl:i=n:=by omega
   exact⟨rfl,he hj⟩
  |_=>exact O.elim
 |ret u h m=>
  obtain⟨k1,k2,k3⟩:=O;have:=hr i k1 hj k2;rw[<- k3]at this;exact this
 |bad=>exact O.elim
end
theorem Kk{i n:Nat}:decide (Int.ofNat i<Int.ofNat n)=true↔i<n:=⟨jW,fun h=>aZ (cm.2 h)⟩
theorem Kl{i n:Nat}:decide (Int.ofNat i<Int.ofNat n)=false↔n<=i:=⟨r9,fun h=>aT (by simp only[gQ];omega)⟩
def C0(c:Int):Bool:=(((decide (c<97)||decide (c>122))&&(decide (c<48)||decide (c>57)))&&(c !=45))&&(c !=95)
def sk(s:aa):Bool:=!(s.any fun b=>C0 (Int.ofNat b.toNat))&&decide (Int.ofNat s.length<=12)
theorem acM(s:aa)(hl:s.length<=1000000000):dU ak 118 [.str s] (.bool (sk s)):=by
 refine eX Tryz.func118 (fF 1 (di _) (aj4 s) all_nil ?_);refine LC 0 s.length [0,3] (sNa s) (fun i=>C0 (Int.ofNat (s.getD i 0).toNat)) (.bool false,G [],0) (di _) (aj5 s) all_nil .refl (fun i _=>⟨_,di _,_,_,_,aj6 s i (Int.ofNat (s.getD i 0).toNat),fun g hg B=>?_⟩) (fun i hi _ ht=>?_) (fun hj=>?_)
 . simp only[aD,aJ,bn]at hg;rcases hg with rfl|rfl|rfl|rfl|rfl|rfl|rfl|rfl|rfl|rfl|rfl|rfl|rfl|rfl|rfl|rfl
   all_goals
    simp only[aD,aJ,bn,aL,bh,Kk,Kl]at B;refine⟨?_,?_⟩
    . repeat' (first|exact all_nil|refine S ?_ ?_)
      all_goals first
       |trivial
       |exact⟨bZ _,B.1⟩
       |exact gJ H
    . first
      |exact⟨B.1,by simp only[C0,B,aN,cC,cr,cq,cO,ct,cB,aS],rfl⟩
      |exact⟨rfl,B,rfl⟩
 . refine aI V.bool (Eq.symm ?_);unfold sk;have:(s.any fun b=>C0 (Int.ofNat b.toNat))=true:=List.any_eq_true.2 ⟨s.getD i 0,by rw[ax,au hi];exact bK hi,ht⟩;rw[this];rfl
 . refine eK (di _) (aj7 s _) (dB (g0 ⟨all_nil,_,_,_,rfl,aI V.bool (Eq.symm ?_)⟩));unfold sk;have:(s.any fun b=>C0 (Int.ofNat b.toNat))=false:=by
    rw[cT];intro x I;obtain⟨j,xy,rfl⟩:=b6 I;have:=hj j xy;rw[ax,au xy]at this;simpa using this
   rw[this];rfl
theorem akl(f:FL):dw (U dY []) [(11,.split),(17,.split),(24,.split),(31,.split),(40,.split),(49,.split)] 0 Tryz.f169 [2,3] (dM 2 (dI Tryz.f169)) (dy [f.v,tW.v] .nil 0) [([((f.k !=(0:Int)),true)],
   [],
   .ret (.bool false) (G []) 0),
  ([((f.k !=(0:Int)),false),((f.r !=(0:Int)),true)],
   [],
   .ret (.bool false) (G []) 0),
  ([((f.k !=(0:Int)),false),((f.r !=(0:Int)),false),((f.dv !=(0:Int)),true)],
   [],
   .ret (.bool false) (G []) 0),
  ([((f.k !=(0:Int)),false),((f.r !=(0:Int)),false),((f.dv !=(0:Int)),false),((f.vl !=(0:Int)),true)],
   [],
   .ret (.bool false) (G []) 0),
  ([((f.k !=(0:Int)),false),((f.r !=(0:Int)),false),((f.dv !=(0:Int)),false),((f.vl !=(0:Int)),false),(((Int.ofNat f.eM.length) !=(0:Int)),true)],
   [],
   .ret (.bool false) (G []) 0),
  ([((f.k !=(0:Int)),false),((f.r !=(0:Int)),false),((f.dv !=(0:Int)),false),((f.vl !=(0:Int)),false),(((Int.ofNat f.eM.length) !=(0:Int)),false),(((Int.ofNat f.cu.length) !=(0:Int)),true)],
   [],
   .ret (.bool false) (G []) 0),
  ([((f.k !=(0:Int)),false),((f.r !=(0:Int)),false),((f.dv !=(0:Int)),false),((f.vl !=(0:Int)),false),(((Int.ofNat f.eM.length) !=(0:Int)),false),(((Int.ofNat f.cu.length) !=(0:Int)),false)],
   [],
   .to .normal (fq [(2,.ptr (some (0,0))),(3,.ptr (some (1,0)))] (G [(0,.cells [.int .i64 (f.k),.int .i64 (f.r),.eB false (f.eM.length) (dO f.eM),.int .i64 (f.dv),.int .i64 (f.vl),.eB false (f.cu.length) (dO f.cu)]),(1,.cells [.int .i64 0,.int .i64 0,.eB false 0 [],.int .i64 0,.int .i64 0,.eB false 0 []])]) 2))]
 :=dj.of C C C
theorem akm(f:FL):dw (U dY []) [(11,.split),(17,.split),(24,.split),(31,.split)] 0 Tryz.f169 [] (dI Tryz.f169) (dy [{ f with eM:=[],cu:=[] }.v,tW.v] .nil 0) [([((f.k !=(0:Int)),true)],
   [],
   .ret (.bool false) (G []) 0),
  ([((f.k !=(0:Int)),false),((f.r !=(0:Int)),true)],
   [],
   .ret (.bool false) (G []) 0),
  ([((f.k !=(0:Int)),false),((f.r !=(0:Int)),false),((f.dv !=(0:Int)),true)],
   [],
   .ret (.bool false) (G []) 0),
  ([((f.k !=(0:Int)),false),((f.r !=(0:Int)),false),((f.dv !=(0:Int)),false),((f.vl !=(0:Int)),true)],
   [],
   .ret (.bool false) (G []) 0),
  ([((f.k !=(0:Int)),false),((f.r !=(0:Int)),false),((f.dv !=(0:Int)),false),((f.vl !=(0:Int)),false)],
   [],
   .ret (.bool true) (G []) 0)]
 :=dj.of C C C
theorem akn(f:FL)(b:Bool):dw (U (fb 169 [f.v,tW.v] (.bool b) dY) []) [] 0 Tryz.f146 [] (dI Tryz.f146) (dy [f.v,tW.v] .nil 0) [([],
   [(fa [f.v,tW.v])],
   .ret (.bool b) (G []) 0)]
 :=dj.of C C C
def eP(l:eJ)(k:Int):eJ:={ l with kd:=k }
def uY(p:P7):Bool:=p.a==(0:Int)&&(p.b==(0:Int)&&(p.c==(0:Int)&&(p.d==(0:Int)&&(p.e==(0:Int)&&(p.f==(0:Int)&&(p.n==(0:Int)&&true))))))
def F2(p:C4):Bool:=p.r==(0:Int)&&(p.g==(0:Int)&&(p.b==(0:Int)&&(p.a==(0:Int)&&true)))
abbrev nN(n:Nat):Bool:=(Int.ofNat n)==(0:Int)
abbrev Hun:List (Nat×lM):=[(17,.split),(26,.split),(32,.split),(44,.split),(54,.split),(66,.split),(76,.split)]
theorem ako(l:eJ)(b:Bool):dw (U (fb 146 [l.f.v,tW.v] (.bool b) dY) []) Hun 0 Tryz.f119 [] (dI Tryz.f119) (dy [(eP l 1).v] .nil 0) [([((nN l.kids.length),true),((l.of==(0:Int)),true),(b,true),((nN l.gW.length),true)],
   [(fa [l.f.v,tW.v])],
   .ret (.bool (F2 l.fi)) (G []) 0),
  ([((nN l.kids.length),true),((l.of==(0:Int)),true),(b,true),((nN l.gW.length),false)],
   [(fa [l.f.v,tW.v])],
   .ret (.bool false) (G []) 0),
  ([((nN l.kids.length),true),((l.of==(0:Int)),true),(b,false)],
   [(fa [l.f.v,tW.v])],
   .ret (.bool false) (G []) 0),
  ([((nN l.kids.length),true),((l.of==(0:Int)),false)],
   [],
   .ret (.bool false) (G []) 0),
  ([((nN l.kids.length),false)],
   [],
   .ret (.bool false) (G []) 0)]
 :=dj.of C C C
theorem akp(l:eJ)(b:Bool):dw (U (fb 146 [l.f.v,tW.v] (.bool b) dY) []) Hun 0 Tryz.f119 [] (dI Tryz.f119) (dy [(eP l 2).v] .nil 0) [([((uY l.pl),true),((l.sp==(0:Int)),true),((nN l.gd.length),true),((l.of==(0:Int)),true),(b,true),((nN l.gW.length),true)],
   [(fa [l.f.v,tW.v])],
   .ret (.bool (F2 l.fi)) (G []) 0),
  ([((uY l.pl),true),((l.sp==(0:Int)),true),((nN l.gd.length),true),((l.of==(0:Int)),true),(b,true),((nN l.gW.length),false)],
   [(fa [l.f.v,tW.v])],
   .ret (.bool false) (G []) 0),
  ([((uY l.pl),true),((l.sp==(0:Int)),true),((nN l.gd.length),true),((l.of==(0:Int)),true),(b,false)],
   [(fa [l.f.v,tW.v])],
   .ret (.bool false) (G []) 0),
  ([((uY l.pl),true),((l.sp==(0:Int)),true),((nN l.gd.length),true),((l.of==(0:Int)),false)],
   [],
   .ret (.bool false) (G []) 0),
  ([((uY l.pl),true),((l.sp==(0:Int)),true),((nN l.gd.length),false)],
   [],
   .ret (.bool false) (G []) 0),
  ([((uY l.pl),true),((l.sp==(0:Int)),false)],
   [],
   .ret (.bool false) (G []) 0),
  ([((uY l.pl),false)],
   [],
   .ret (.bool false) (G []) 0)]
 :=dj.of C C C
theorem akq(l:eJ)(b:Bool):dw (U (fb 146 [l.f.v,tW.v] (.bool b) dY) []) Hun 0 Tryz.f119 [] (dI Tryz.f119) (dy [(eP l 3).v] .nil 0) [([((uY l.pl),true),((l.sp==(0:Int)),true),((nN l.gd.length),true),((nN l.kids.length),true),((l.of==(0:Int)),true),(true,true),((nN l.gW.length),true)],
   [],
   .ret (.bool (F2 l.fi)) (G []) 0),
  ([((uY l.pl),true),((l.sp==(0:Int)),true),((nN l.gd.length),true),((nN l.kids.length),true),((l.of==(0:Int)),true),(true,true),((nN l.gW.length),false)],
   [],
   .ret (.bool false) (G []) 0),
  ([((uY l.pl),true),((l.sp==(0:Int)),true),((nN l.gd.length),true),((nN l.kids.length),true),((l.of==(0:Int)),true),(true,false)],
   [],
   .ret (.bool false) (G []) 0),
  ([((uY l.pl),true),((l.sp==(0:Int)),true),((nN l.gd.length),true),((nN l.kids.length),true),((l.of==(0:Int)),false)],
   [],
   .ret (.bool false) (G []) 0),
  ([((uY l.pl),true),((l.sp==(0:Int)),true),((nN l.gd.length),true),((nN l.kids.length),false)],
   [],
   .ret (.bool false) (G []) 0),
  ([((uY l.pl),true),((l.sp==(0:Int)),true),((nN l.gd.length),false)],
   [],
   .ret (.bool false) (G []) 0),
  ([((uY l.pl),true),((l.sp==(0:Int)),false)],
   [],
   .ret (.bool false) (G []) 0),
  ([((uY l.pl),false)],
   [],
   .ret (.bool false) (G []) 0)]
 :=dj.of C C C
theorem akr(l:eJ)(b:Bool):dw (U (fb 146 [l.f.v,tW.v] (.bool b) dY) []) Hun 0 Tryz.f119 [] (dI Tryz.f119) (dy [(eP l 4).v] .nil 0) [([((l.sp==(0:Int)),true),((nN l.gd.length),true),((nN l.kids.length),true),(b,true),((nN l.gW.length),true)],
   [(fa [l.f.v,tW.v])],
   .ret (.bool (F2 l.fi)) (G []) 0),
  ([((l.sp==(0:Int)),true),((nN l.gd.length),true),((nN l.kids.length),true),(b,true),((nN l.gW.length),false)],
   [(fa [l.f.v,tW.v])],
   .ret (.bool false) (G []) 0),
  ([((l.sp==(0:Int)),true),((nN l.gd.length),true),((nN l.kids.length),true),(b,false)],
   [(fa [l.f.v,tW.v])],
   .ret (.bool false) (G []) 0),
  ([((l.sp==(0:Int)),true),((nN l.gd.length),true),((nN l.kids.length),false)],
   [],
   .ret (.bool false) (G []) 0),
  ([((l.sp==(0:Int)),true),((nN l.gd.length),false)],
   [],
   .ret (.bool false) (G []) 0),
  ([((l.sp==(0:Int)),false)],
   [],
   .ret (.bool false) (G []) 0)]
 :=dj.of C C C
theorem aks(l:eJ)(b:Bool):dw (U (fb 146 [l.f.v,tW.v] (.bool b) dY) []) Hun 0 Tryz.f119 [] (dI Tryz.f119) (dy [(eP l 5).v] .nil 0) [([((uY l.pl),true),((l.sp==(0:Int)),true),((nN l.gd.length),true),((nN l.kids.length),true),((l.of==(0:Int)),true),(b,true)],
   [(fa [l.f.v,tW.v])],
   .ret (.bool true) (G []) 0),
  ([((uY l.pl),true),((l.sp==(0:Int)),true),((nN l.gd.length),true),((nN l.kids.length),true),((l.of==(0:Int)),true),(b,false)],
   [(fa [l.f.v,tW.v])],
   .ret (.bool false) (G []) 0),
  ([((uY l.pl),true),((l.sp==(0:Int)),true),((nN l.gd.length),true),((nN l.kids.length),true),((l.of==(0:Int)),false)],
   [],
   .ret (.bool false) (G []) 0),
  ([((uY l.pl),true),((l.sp==(0:Int)),true),((nN l.gd.length),true),((nN l.kids.length),false)],
   [],
   .ret (.bool false) (G []) 0),
  ([((uY l.pl),true),((l.sp==(0:Int)),true),((nN l.gd.length),false)],
   [],
   .ret (.bool false) (G []) 0),
  ([((uY l.pl),true),((l.sp==(0:Int)),false)],
   [],
   .ret (.bool false) (G []) 0),
  ([((uY l.pl),false)],
   [],
   .ret (.bool false) (G []) 0)]
 :=dj.of C C C
theorem qq{l:List (Bool×Bool)}{q:Prop}(h:(∀b∈l,b.1=b.2)->q):(∀b∈l,b.1=b.2)->q:=h
theorem acO{x:Int}:(x !=0)=!(x==0):=rfl
section
variable(f:FL){n:Nat}
def tD:Bool:=(f.k==(0:Int))&&((f.r==(0:Int))&&((f.dv==(0:Int))&&((f.vl==(0:Int))&&(nN f.eM.length&&nN f.cu.length))))
theorem F3:nN n=true↔n=0:=by
 unfold nN;rw[xg,gQ];omega
theorem akt:((Int.ofNat n) !=(0:Int))=!nN n:=rfl
theorem eqD:dU ak 169 [f.v,tW.v] (.bool (tD f)):=by
 refine eX Tryz.func169 ?_;by_cases h:f.eM=[]/\f.cu=[]
 . have hr:=akm f;have e:({ f with eM:=[],cu:=[] }:FL)=f:=by
    obtain⟨a,b,c,d,e,g⟩:=f;obtain⟨Q,O⟩:=h;simp only at Q O;subst Q O;rfl
   rw[e]at hr;have Q:nN f.eM.length=true:=F3.2 (by rw[h.1];rfl);have O:nN f.cu.length=true:=F3.2 (by rw[h.2];rfl);refine eK (di _) hr fun g hg B=>?_;simp only[aD,aJ,bn]at hg;rcases hg with rfl|rfl|rfl|rfl|rfl
   all_goals
    simp only[aD,aJ,bn,aL,bh,acO,bV,Bool.not_eq_false']at B;exact⟨all_nil,_,_,_,rfl,aI V.bool (by simp only[tD,B,Q,O,aN,aS,ct])⟩
 . have hn:¬(nN f.eM.length=true/\nN f.cu.length=true):=fun q=>h ⟨List.length_eq_zero_iff.1 (F3.1 q.1),List.length_eq_zero_iff.1 (F3.1 q.2)⟩;refine isH 2 (di _) (akl f) fun g hg B=>?_;simp only[aD,aJ,bn]at hg;rcases hg with rfl|rfl|rfl|rfl|rfl|rfl|rfl
   all_goals
    simp only[aD,aJ,bn,aL,bh,acO,akt,bV,Bool.not_eq_false']at B
   all_goals first
    |(refine absurd ?_ hn;simp only[nN,B,and_self];done)
    |exact⟨all_nil,aI V.bool (by simp only[tD,nN,B,aN,aS,cB])⟩
theorem aku:dU ak 146 [f.v,tW.v] (.bool (tD f)):=
 eX Tryz.func146 (eK (fu (eqD f) (di _)) (akn f (tD f)) (dB (g0 ⟨eG rfl,_,_,_,rfl,rfl⟩)))
end
def F4(k:Int)(l:eJ):Bool:=((k==1||k==4)||uY l.pl)&&((k==1||((l.sp==(0:Int))&&nN l.gd.length))&&((k==2||nN l.kids.length)&&((k==4||(l.of==(0:Int)))&&((k==3||tD l.f)&&(k==5||(nN l.gW.length&&F2 l.fi))))))
def GO(l:eJ):Bool:=F4 l.kd l
theorem unD(l:eJ)(Q:1<=l.kd)(h5:l.kd<=5):dU ak 119 [l.v] (.bool (GO l)):=by
 have el:l=eP l l.kd:=rfl;have s':=fu (aku l.f) (di _);have key:∀k,1<=k->k<=5->dU ak 119 [(eP l k).v] (.bool (F4 k l)):=by
  intro k k1 k5;rcases(by omega:k=1\/k=2\/k=3\/k=4\/k=5)with rfl|rfl|rfl|rfl|rfl
  . have e:F4 1 l=(nN l.kids.length&&((l.of==(0:Int))&&(tD l.f&&(nN l.gW.length&&F2 l.fi)))):=rfl;rw[e];refine eX Tryz.func119 (eK s' (ako l (tD l.f)) ?_)
    repeat' (first|exact gH|refine dD ?_ ?_)
    all_goals
     intro B;simp only[aD,aJ,bn,aL,bh]at B;exact⟨by first|exact all_nil|exact eG rfl,_,_,_,rfl,aI V.bool (by simp only[B,aN,aS,cB])⟩
  . have e:F4 2 l=(uY l.pl&&(((l.sp==(0:Int))&&nN l.gd.length)&&((l.of==(0:Int))&&(tD l.f&&(nN l.gW.length&&F2 l.fi))))):=rfl;rw[e];refine eX Tryz.func119 (eK s' (akp l (tD l.f)) ?_)
    repeat' (first|exact gH|refine dD ?_ ?_)
    all_goals
     intro B;simp only[aD,aJ,bn,aL,bh]at B;exact⟨by first|exact all_nil|exact eG rfl,_,_,_,rfl,aI V.bool (by simp only[B,aN,aS,cB])⟩
  . have e:F4 3 l=(uY l.pl&&(((l.sp==(0:Int))&&nN l.gd.length)&&(nN l.kids.length&&((l.of==(0:Int))&&(nN l.gW.length&&F2 l.fi))))):=rfl;rw[e];refine eX Tryz.func119 (eK s' (akq l (tD l.f)) ?_)
    repeat' (first|exact gH|refine dD ?_ ?_)
    all_goals
     intro B;simp only[aD,aJ,bn,aL,bh]at B;exact⟨by first|exact all_nil|exact eG rfl,_,_,_,rfl,aI V.bool (by simp only[B,aN,aS,cB])⟩
  . have e:F4 4 l=(((l.sp==(0:Int))&&nN l.gd.length)&&(nN l.kids.length&&(tD l.f&&(nN l.gW.length&&F2 l.fi)))):=rfl;rw[e];refine eX Tryz.func119 (eK s' (akr l (tD l.f)) ?_)
    repeat' (first|exact gH|refine dD ?_ ?_)
    all_goals
     intro B;simp only[aD,aJ,bn,aL,bh]at B;exact⟨by first|exact all_nil|exact eG rfl,_,_,_,rfl,aI V.bool (by simp only[B,aN,aS,cB])⟩
  . have e:F4 5 l=(uY l.pl&&(((l.sp==(0:Int))&&nN l.gd.length)&&(nN l.kids.length&&((l.of==(0:Int))&&(tD l.f&&true))))):=rfl;rw[e];refine eX Tryz.func119 (eK s' (aks l (tD l.f)) ?_)
    repeat' (first|exact gH|refine dD ?_ ?_)
    all_goals
     intro B;simp only[aD,aJ,bn,aL,bh]at B;exact⟨by first|exact all_nil|exact eG rfl,_,_,_,rfl,aI V.bool (by simp only[B,aN,aS,cB])⟩
 exact key l.kd Q h5
theorem Tv(f:FL):dw (U dY []) [(16,.split),(20,.split),(28,.split),(37,.split),(45,.split)] 0 Tryz.f145 [] (dI Tryz.f145) (dy [f.v,.bool true,.bool false,.bool false,.bool true] .nil 0) [([((f.vl==(0:Int)),true),((nN f.cu.length),true)],
   [],
   .ret (.bool true) (G []) 0),
  ([((f.vl==(0:Int)),true),((nN f.cu.length),false)],
   [],
   .ret (.bool false) (G []) 0),
  ([((f.vl==(0:Int)),false)],
   [],
   .ret (.bool false) (G []) 0)]
 :=dj.of C C C
theorem Tw(f:FL):dw (U dY []) [(16,.split),(20,.split),(28,.split),(37,.split),(45,.split)] 0 Tryz.f145 [] (dI Tryz.f145) (dy [f.v,.bool false,.bool false,.bool false,.bool true] .nil 0) [([((nN f.eM.length),true),((f.dv==(0:Int)),true),((f.vl==(0:Int)),true),((nN f.cu.length),true)],
   [],
   .ret (.bool true) (G []) 0),
  ([((nN f.eM.length),true),((f.dv==(0:Int)),true),((f.vl==(0:Int)),true),((nN f.cu.length),false)],
   [],
   .ret (.bool false) (G []) 0),
  ([((nN f.eM.length),true),((f.dv==(0:Int)),true),((f.vl==(0:Int)),false)],
   [],
   .ret (.bool false) (G []) 0),
  ([((nN f.eM.length),true),((f.dv==(0:Int)),false)],
   [],
   .ret (.bool false) (G []) 0),
  ([((nN f.eM.length),false)],
   [],
   .ret (.bool false) (G []) 0)]
 :=dj.of C C C
theorem Tx(f:FL):dw (U dY []) [(16,.split),(20,.split),(28,.split),(37,.split),(45,.split)] 0 Tryz.f145 [] (dI Tryz.f145) (dy [f.v,.bool false,.bool false,.bool true,.bool false] .nil 0) [([((nN f.eM.length),true),((f.dv==(0:Int)),true),((f.vl==(0:Int)),true),((f.r==(0:Int)),true)],
   [],
   .ret (.bool true) (G []) 0),
  ([((nN f.eM.length),true),((f.dv==(0:Int)),true),((f.vl==(0:Int)),true),((f.r==(0:Int)),false)],
   [],
   .ret (.bool false) (G []) 0),
  ([((nN f.eM.length),true),((f.dv==(0:Int)),true),((f.vl==(0:Int)),false)],
   [],
   .ret (.bool false) (G []) 0),
  ([((nN f.eM.length),true),((f.dv==(0:Int)),false)],
   [],
   .ret (.bool false) (G []) 0),
  ([((nN f.eM.length),false)],
   [],
   .ret (.bool false) (G []) 0)]
 :=dj.of C C C
section
variable(f:FL)(b:Bool)(i:Nat)(x:Int)(p:Bool)
theorem Tz:dw (U dY []) [(16,.split),(20,.split),(28,.split),(37,.split),(45,.split)] 0 Tryz.f145 [] (dI Tryz.f145) (dy [f.v,.bool false,.bool false,.bool false,.bool false] .nil 0) [([((nN f.eM.length),true),((f.dv==(0:Int)),true),((f.vl==(0:Int)),true),((nN f.cu.length),true),((f.r==(0:Int)),true)],
   [],
   .ret (.bool true) (G []) 0),
  ([((nN f.eM.length),true),((f.dv==(0:Int)),true),((f.vl==(0:Int)),true),((nN f.cu.length),true),((f.r==(0:Int)),false)],
   [],
   .ret (.bool false) (G []) 0),
  ([((nN f.eM.length),true),((f.dv==(0:Int)),true),((f.vl==(0:Int)),true),((nN f.cu.length),false)],
   [],
   .ret (.bool false) (G []) 0),
  ([((nN f.eM.length),true),((f.dv==(0:Int)),true),((f.vl==(0:Int)),false)],
   [],
   .ret (.bool false) (G []) 0),
  ([((nN f.eM.length),true),((f.dv==(0:Int)),false)],
   [],
   .ret (.bool false) (G []) 0),
  ([((nN f.eM.length),false)],
   [],
   .ret (.bool false) (G []) 0)]
 :=dj.of C C C
theorem TA:dw (U dY []) [(16,.split),(20,.split),(28,.split),(37,.split),(45,.split)] 0 Tryz.f145 [] (dI Tryz.f145) (dy [f.v,.bool false,.bool true,.bool false,.bool false] .nil 0) [([((nN f.eM.length),true),((f.dv==(0:Int)),true),((nN f.cu.length),true),((f.r==(0:Int)),true)],
   [],
   .ret (.bool true) (G []) 0),
  ([((nN f.eM.length),true),((f.dv==(0:Int)),true),((nN f.cu.length),true),((f.r==(0:Int)),false)],
   [],
   .ret (.bool false) (G []) 0),
  ([((nN f.eM.length),true),((f.dv==(0:Int)),true),((nN f.cu.length),false)],
   [],
   .ret (.bool false) (G []) 0),
  ([((nN f.eM.length),true),((f.dv==(0:Int)),false)],
   [],
   .ret (.bool false) (G []) 0),
  ([((nN f.eM.length),false)],
   [],
   .ret (.bool false) (G []) 0)]
 :=dj.of C C C
theorem TB:dw (U dY []) [(16,.split),(20,.split),(28,.split),(37,.split),(45,.split)] 0 Tryz.f145 [] (dI Tryz.f145) (dy [f.v,.bool false,.bool true,.bool false,.bool true] .nil 0) [([((nN f.eM.length),true),((f.dv==(0:Int)),true),((nN f.cu.length),true)],
   [],
   .ret (.bool true) (G []) 0),
  ([((nN f.eM.length),true),((f.dv==(0:Int)),true),((nN f.cu.length),false)],
   [],
   .ret (.bool false) (G []) 0),
  ([((nN f.eM.length),true),((f.dv==(0:Int)),false)],
   [],
   .ret (.bool false) (G []) 0),
  ([((nN f.eM.length),false)],
   [],
   .ret (.bool false) (G []) 0)]
 :=dj.of C C C
noncomputable abbrev Bb:Code:=dI Tryz.f117
noncomputable abbrev XO:Code:=dX (dF (dr 2 Bb))
noncomputable abbrev XP:Code:=lK (dX (dG XO))
noncomputable abbrev XQ:Code:=dX XP
def kf(k:Int):FL:={ f with k:=k }
def AH(r:List (Nat×V)):St:=fq ([(1,.ptr (some (0,0)))]++r) (G [(0,.cells f.R)]) 1
theorem akv:dw (U dY []) [(7,.split)] 0 Tryz.f117 [1,3] (dM 2 Bb) (dy [f.v] .nil 0) [([((decide (f.r>=(0:Int))),true)],
   [],
   .to .normal (AH f [(3,.bool (decide (f.r<=(3:Int))))])),
  ([((decide (f.r>=(0:Int))),false)],
   [],
   .to .normal (AH f [(3,.bool false)]))]
 :=dj.of C C C
theorem akw:dw (U dY []) [] 0 Tryz.f117 [1,3,14] (dF (dF (dr 2 Bb))) (AH (kf f 1) [(3,.bool b)]) [([],
   [],
   .to .normal (AH (kf f 1) [(3,.bool b),(14,L 1)]))]
 :=dj.of C C C
theorem akx:dw (U dY []) [] 0 Tryz.f117 [1,3,15] (dF (dG XO)) (AH (kf f 1) [(3,.bool b),(14,L 1)]) [([],
   [],
   .to .normal (AH (kf f 1) [(3,.bool b),(15,.bool true)]))]
 :=dj.of C C C
abbrev F5:Prop:=V.int A (IntKind.i64.wrap (IntKind.i64.wrap (IntKind.i64.wrap ((2:Int)*f.r)+(1:Int))*IntKind.i64.wrap (IntKind.i64.wrap ((2:Int)*f.r)+(1:Int))))=L (((2:Int)*f.r+(1:Int))*((2:Int)*f.r+(1:Int)))
theorem aky:dw (U dY []) [(31,.dz (L ((2*f.r+1)*(2*f.r+1)))),(32,.split),(37,.split),(42,.split)] 0 Tryz.f117 [1] (dF XP) (AH (kf f 1) [(3,.bool true),(15,.bool true)]) [([(((Int.ofNat f.eM.length) !=((2:Int)*f.r+(1:Int))*((2:Int)*f.r+(1:Int))),true)],
   [F5 f],
   .ret (.bool false) (G []) 0),
  ([(((Int.ofNat f.eM.length) !=((2:Int)*f.r+(1:Int))*((2:Int)*f.r+(1:Int))),false),((decide (f.dv<(1:Int))),true)],
   [F5 f],
   .ret (.bool false) (G []) 0),
  ([(((Int.ofNat f.eM.length) !=((2:Int)*f.r+(1:Int))*((2:Int)*f.r+(1:Int))),false),((decide (f.dv<(1:Int))),false),((decide (f.dv>(1048576:Int))),true)],
   [F5 f],
   .ret (.bool false) (G []) 0),
  ([(((Int.ofNat f.eM.length) !=((2:Int)*f.r+(1:Int))*((2:Int)*f.r+(1:Int))),false),((decide (f.dv<(1:Int))),false),((decide (f.dv>(1048576:Int))),false)],
   [F5 f],
   .to .normal (AH (kf f 1) []))]
 :=dj.of C C C
theorem akz:dw (U dY []) [] 0 Tryz.f117 [] (dF XP) (AH (kf f 1) [(3,.bool false),(15,.bool true)]) [([],
   [],
   .ret (.bool false) (G []) 0)]
 :=dj.of C C C
theorem akA:dw (U dY []) [] 0 Tryz.f117 [1,4] (dF (dF XQ)) (AH (kf f 1) []) [([],
   [],
   .to .normal (AH (kf f 1) [(4,M 0)]))]
 :=dj.of C C C
abbrev C3:Prop:=V.dx (dn (dO f.eM) (i*1) 1)=V.dx [D.int A x]
theorem akB:dw (U dY []) [(48,.split),(54,.dz (.dx [.int .i64 x])),(61,.dz (.dx [.int .i64 x])),(56,.split),(63,.split),(50,.dz (M (i+1)))] 0 Tryz.f117 [1,4] (dG (dG (dX (dF XQ)))) (AH (kf f 1) [(4,M i)]) [([((decide (Int.ofNat i<(Int.ofNat f.eM.length))),true),((decide (x<(-4096:Int))),true)],
   [((0:Int)<=Int.ofNat i/\Int.ofNat i<(Int.ofNat f.eM.length)),((dO f.eM).length=f.eM.length*1),C3 f i x],
   .ret (.bool false) (G []) 0),
  ([((decide (Int.ofNat i<(Int.ofNat f.eM.length))),true),((decide (x<(-4096:Int))),false),((decide (x>(4096:Int))),true)],
   [((0:Int)<=Int.ofNat i/\Int.ofNat i<(Int.ofNat f.eM.length)),((dO f.eM).length=f.eM.length*1),C3 f i x,((0:Int)<=Int.ofNat i/\Int.ofNat i<(Int.ofNat f.eM.length)),((dO f.eM).length=f.eM.length*1),C3 f i x],
   .ret (.bool false) (G []) 0),
  ([((decide (Int.ofNat i<(Int.ofNat f.eM.length))),true),((decide (x<(-4096:Int))),false),((decide (x>(4096:Int))),false)],
   [((0:Int)<=Int.ofNat i/\Int.ofNat i<(Int.ofNat f.eM.length)),((dO f.eM).length=f.eM.length*1),C3 f i x,((0:Int)<=Int.ofNat i/\Int.ofNat i<(Int.ofNat f.eM.length)),((dO f.eM).length=f.eM.length*1),C3 f i x,(V.int A (IntKind.i64.wrap (Int.ofNat i+(1:Int)))=M (i+1))],
   .to .normal (AH (kf f 1) [(4,M (i+1))])),
  ([((decide (Int.ofNat i<(Int.ofNat f.eM.length))),false)],
   [],
   .to (.exit 1) (AH (kf f 1) [(4,M i)]))]
 :=dj.of C C C
theorem akC:dw (U (fb 145 [(kf f 1).v,.bool true,.bool false,.bool false,.bool true] (.bool p) dY) []) [] 0 Tryz.f117 [] (dX XQ) (AH (kf f 1) [(4,M i)]) [([],
   [(fa [(kf f 1).v,.bool true,.bool false,.bool false,.bool true])],
   .ret (.bool p) (G []) 0)]
 :=dj.of C C C
theorem acP:dw (U (fb 145 [(kf f 2).v,.bool false,.bool false,.bool false,.bool true] (.bool p) dY) []) [(72,.split)] 0 Tryz.f117 [] (dr 2 Bb) (AH (kf f 2) [(3,.bool b)]) [([(b,true)],
   [(fa [(kf f 2).v,.bool false,.bool false,.bool false,.bool true])],
   .ret (.bool p) (G []) 0),
  ([(b,false)],
   [],
   .ret (.bool false) (G []) 0)]
 :=dj.of C C C
theorem acQ:dw (U (fb 145 [(kf f 3).v,.bool false,.bool false,.bool false,.bool true] (.bool p) dY) []) [(72,.split)] 0 Tryz.f117 [] (dr 2 Bb) (AH (kf f 3) [(3,.bool b)]) [([(b,true)],
   [(fa [(kf f 3).v,.bool false,.bool false,.bool false,.bool true])],
   .ret (.bool p) (G []) 0),
  ([(b,false)],
   [],
   .ret (.bool false) (G []) 0)]
 :=dj.of C C C
theorem acR:dw (U (fb 145 [(kf f 4).v,.bool false,.bool false,.bool false,.bool true] (.bool p) dY) []) [(72,.split)] 0 Tryz.f117 [] (dr 2 Bb) (AH (kf f 4) [(3,.bool b)]) [([(b,true)],
   [(fa [(kf f 4).v,.bool false,.bool false,.bool false,.bool true])],
   .ret (.bool p) (G []) 0),
  ([(b,false)],
   [],
   .ret (.bool false) (G []) 0)]
 :=dj.of C C C
theorem acS(c p:Bool):dw (U (fb 145 [(kf f 5).v,.bool false,.bool false,.bool true,.bool false] (.bool p) (fb 137 [fj f.cu] (.bool c) dY)) []) [(81,.split)] 0 Tryz.f117 [] (dr 2 Bb) (AH (kf f 5) [(3,.bool b)]) [([(c,true)],
   [(fa [fj f.cu]),(fa [(kf f 5).v,.bool false,.bool false,.bool true,.bool false])],
   .ret (.bool p) (G []) 0),
  ([(c,false)],
   [(fa [fj f.cu])],
   .ret (.bool false) (G []) 0)]
 :=dj.of C C C
theorem acT:dw (U (fb 145 [(kf f 6).v,.bool false,.bool false,.bool false,.bool false] (.bool p) dY) []) [] 0 Tryz.f117 [] (dr 2 Bb) (AH (kf f 6) [(3,.bool b)]) [([],
   [(fa [(kf f 6).v,.bool false,.bool false,.bool false,.bool false])],
   .ret (.bool p) (G []) 0)]
 :=dj.of C C C
theorem acU:dw (U (fb 145 [(kf f 7).v,.bool false,.bool true,.bool false,.bool false] (.bool p) dY) []) [(93,.split),(97,.split)] 0 Tryz.f117 [] (dr 2 Bb) (AH (kf f 7) [(3,.bool b)]) [([((decide (f.vl>=(0:Int))),true),((decide (f.vl<=(256:Int))),true)],
   [(fa [(kf f 7).v,.bool false,.bool true,.bool false,.bool false])],
   .ret (.bool p) (G []) 0),
  ([((decide (f.vl>=(0:Int))),true),((decide (f.vl<=(256:Int))),false)],
   [],
   .ret (.bool false) (G []) 0),
  ([((decide (f.vl>=(0:Int))),false)],
   [],
   .ret (.bool false) (G []) 0)]
 :=dj.of C C C
theorem acV:dw (U (fb 145 [(kf f 8).v,.bool false,.bool true,.bool false,.bool true] (.bool p) dY) []) [(107,.split),(111,.split),(116,.split),(121,.split)] 0 Tryz.f117 [] (dr 2 Bb) (AH (kf f 8) [(3,.bool b)]) [([((decide (f.r>=(-3:Int))),true),((decide (f.r<=(3:Int))),true),((decide (f.vl>=(-3:Int))),true),((decide (f.vl<=(3:Int))),true)],
   [(fa [(kf f 8).v,.bool false,.bool true,.bool false,.bool true])],
   .ret (.bool p) (G []) 0),
  ([((decide (f.r>=(-3:Int))),true),((decide (f.r<=(3:Int))),true),((decide (f.vl>=(-3:Int))),true),((decide (f.vl<=(3:Int))),false)],
   [],
   .ret (.bool false) (G []) 0),
  ([((decide (f.r>=(-3:Int))),true),((decide (f.r<=(3:Int))),true),((decide (f.vl>=(-3:Int))),false)],
   [],
   .ret (.bool false) (G []) 0),
  ([((decide (f.r>=(-3:Int))),true),((decide (f.r<=(3:Int))),false)],
   [],
   .ret (.bool false) (G []) 0),
  ([((decide (f.r>=(-3:Int))),false)],
   [],
   .ret (.bool false) (G []) 0)]
 :=dj.of C C C
theorem acW:dw (U dY []) [(16,.dz (.bool false)),(68,.dz (.bool false)),(69,.dz (.bool false)),(70,.dz (.bool false)),(77,.dz (.bool false)),(86,.dz (.bool false)),(90,.dz (.bool false)),(104,.dz (.bool false))] 0 Tryz.f117 [] (dr 2 Bb) (AH f [(3,.bool b)]) [([],
   [(V.bool (f.k==(1:Int))=V.bool false),(V.bool (f.k==(2:Int))=V.bool false),(V.bool (f.k==(3:Int))=V.bool false),(V.bool (f.k==(4:Int))=V.bool false),(V.bool (f.k==(5:Int))=V.bool false),(V.bool (f.k==(6:Int))=V.bool false),(V.bool (f.k==(7:Int))=V.bool false),(V.bool (f.k==(8:Int))=V.bool false)],
   .ret (.bool false) (G []) 0)]
 :=dj.of C C C
end
set_option maxRecDepth 10000
section
variable(p:P7)(c:List Int){α:Type}{n i:Nat}
theorem EK{l:List α}{d:α}{f:α->Bool}{i:Nat}(hi:i<l.length)(h:f (l.getD i d)=true):l.any f=true:=
 List.any_eq_true.2 ⟨l.getD i d,by rw[ax,au hi];exact bK hi,h⟩
theorem Ir{l:List α}{d:α}{f:α->Bool}(h:∀j,j<l.length->f (l.getD j d)=false):l.any f=false:=by
 rw[cT];intro x I;obtain⟨j,xy,rfl⟩:=b6 I;have:=h j xy;rw[ax,au xy]at this;simpa using this
theorem F6{l:List (Int×Int)}{i:Nat}(h:i<l.length):V.dx (dn (qZ l) (i*2) 2)= .dx [.int .i64 (l.getD i (0,0)).1,.int .i64 (l.getD i (0,0)).2]:=Qd (by rw[ax,au h];rfl)
def Km(p:Int×Int):Bool:=((decide (p.1< -65536)||decide (p.1>65536))||decide (p.2< -65536))||decide (p.2>65536)
def jF(l:List (Int×Int)):Bool:=!(l.any Km)&&(decide (Int.ofNat l.length>=3)&&decide (Int.ofNat l.length<=64))
theorem acX(l:List (Int×Int))(hl:l.length<=1000000000):dU ak 120 [w8 l] (.bool (jF l)):=by
 refine eX Tryz.func120 (fF 1 (di _) (aj8 l) all_nil ?_);refine LC 0 l.length [0,3] (sPh l) (fun i=>Km (l.getD i (0,0))) (.bool false,G [],0) (di _) (aj9 l) all_nil .refl (fun i _=>⟨_,di _,_,_,_,aka l i (l.getD i (0,0)).1 (l.getD i (0,0)).2,?_⟩) (fun i hi _ ht=>?_) (fun hj=>?_)
 . have hp:=Bv l;have hg:=fun h=>F6 (l:=l) (i:=i) h
   repeat' (first|exact gH|refine dD ?_ ?_)
   all_goals
    intro B;simp only[aD,aJ,bn,aL,bh,Kk,Kl]at B;refine⟨?_,?_⟩
    . repeat' (first|exact all_nil|refine S ?_ ?_)
      all_goals first
       |exact iI B.1
       |exact hp
       |exact hg B.1
       |exact gJ H
    . first
      |exact⟨B.1,by simp only[Km,B,cC,cr,cq,cO],rfl⟩
      |exact⟨rfl,B,rfl⟩
 . refine aI V.bool (Eq.symm ?_);unfold jF;rw[EK hi ht];rfl
 . have e:jF l=(decide (Int.ofNat l.length>=3)&&decide (Int.ofNat l.length<=64)):=by unfold jF;rw[Ir hj];rfl
   rw[e];exact eK (di _) (akb l _) (dD (g1 fun h=>⟨all_nil,_,_,_,rfl,by rw[h];rfl⟩) (dB (g1 fun h=>⟨all_nil,_,_,_,rfl,by rw[h];rfl⟩)))
theorem XR:jK ak 143 (gV Kj):=by
 refine ow Tryz.func143 fun args aj v e=>?_;unfold Kj at e;split at e
 case h_2=>cases e
 rename_i x k;obtain⟨rfl,rfl⟩:=sm e;refine⟨rfl,rfl,rfl,fun hA=>?_⟩;have W:0<=k/\k<=1000000000:=hA _ (by simp);have e1:IntKind.i64.wrap ((0:Int)-k)= -k:=by rw[gZ H H];omega
 refine eK (di _) (aj2 x k) (dD (g1 fun h=>⟨all_nil,_,_,_,rfl,?_⟩) (dB (g1 fun h=>⟨all_nil,_,_,_,rfl,?_⟩)))
 . rw[e1]at h;unfold w9;rw[show decide (-k<=x)=true from h];rfl
 . rw[e1]at h;unfold w9;rw[show decide (-k<=x)=false from h];rfl
theorem Qj:eU ak Wv9:=fC XR (di _)
def Nb:Int:=IntKind.i64.wrap (IntKind.i64.wrap (p.a*p.e)-IntKind.i64.wrap (p.b*p.d))
def Sf:Bool:=w9 p.a 4096&&(w9 p.b 4096&&(w9 p.d 4096&&w9 p.e 4096))
def VJ:Bool:=w9 p.c 268435456&&w9 p.f 268435456
def AI:Bool:=decide (p.n>=1)&&(decide (p.n<=4096)&&(Sf p&&(VJ p&&(Nb p !=0))))
theorem v9D:dU ak 116 [.agg p.R] (.bool (AI p)):=by
 have A1:∀{l:ah},(∀a∈l,a)->∀a∈((0:Int)<=(4096:Int)/\(4096:Int)<=(1000000000:Int))::l,a:=fun h=>S eY h;have A2:∀{l:ah},(∀a∈l,a)->∀a∈((0:Int)<=(268435456:Int)/\(268435456:Int)<=(1000000000:Int))::l,a:=fun h=>S eY h;have k3:TG ak 0 Tryz.f116.ntmps (dr 3 Qg) (NZ p [(3,.bool (Sf p)),(4,.bool (VJ p))]) (fH ak 0 Tryz.f116 fun u _ _=>u= .bool (AI p)):=by
  refine eK (di _) (akf p (Sf p) (VJ p)) ?_
  repeat' (first|exact gH|refine dD ?_ ?_)
  all_goals
   intro B;simp only[aD,aJ,bn,aL,bh]at B;exact⟨all_nil,_,_,_,rfl,aI V.bool (by simp only[AI,Nb,B,aN,aS])⟩
 have k2:TG ak 0 Tryz.f116.ntmps (dr 2 Qg) (NZ p [(3,.bool (Sf p))]) (fH ak 0 Tryz.f116 fun u _ _=>u= .bool (AI p)):=by
  refine ud 1 Qj (ake p (Sf p)) ?_
  repeat' (first|exact gH|refine dD ?_ ?_)
  all_goals
   intro B;simp only[aD,aJ,bn,aL,bh]at B;refine⟨by repeat' (first|exact all_nil|refine A2 ?_),_,rfl,?_⟩
   first
   |(rw[show VJ p=true by simp only[VJ,B,aN]]at k3;exact k3)
   |(rw[show VJ p=false by simp only[VJ,B,aN,aS]]at k3;exact k3)
 refine eX Tryz.func116 (ud 2 Qj (akd p) ?_)
 repeat' (first|exact gH|refine dD ?_ ?_)
 all_goals
  intro B;simp only[aD,aJ,bn,aL,bh]at B;refine⟨by repeat' (first|exact all_nil|refine A1 ?_),_,rfl,?_⟩
  first
  |(rw[show Sf p=true by simp only[Sf,B,aN]]at k2;exact k2)
  |(rw[show Sf p=false by simp only[Sf,B,aN,aS]]at k2;exact k2)
def Nc(i:Nat):Bool:=(decide (c.getD i 0<0)||decide (c.getD i 0>65535))||(match i with|0=>false|j+1=>decide (c.getD (j+1) 0<c.getD j 0))
def jN:Bool:=(decide (Int.ofNat c.length>=2)&&decide (Int.ofNat c.length<=257))&& !((List.range c.length).any (Nc c))
theorem qO{f:Nat->Bool}(hi:i<n)(h:f i=true):(List.range n).any f=true:=List.any_eq_true.2 ⟨i,bL.2 hi,h⟩
theorem qP{f:Nat->Bool}(h:∀j,j<n->f j=false):(List.range n).any f=false:=by
 rw[cT];intro x I;rw[h x (bL.1 I)];simp
theorem c5D(hl:c.length<=1000000000):dU ak 137 [fj c] (.bool (jN c)):=by
 refine eX Tryz.func137 ?_;have hp:=eo c;have qv:(decide (Int.ofNat c.length>=2)&&decide (Int.ofNat c.length<=257))=true->TG ak 0 Tryz.f137.ntmps Qh (fq [(0,fj c)] (G []) 0) (fH ak 0 Tryz.f137 fun u _ _=>u= .bool (jN c)):=fun hn=>by
  refine LC 0 c.length [0,4] (sC5 c) (Nc c) (.bool false,G [],0) (di _) (akh c) all_nil .refl (fun i hi=>?_) (fun i hi _ ht=>?_) (fun hj=>?_)
  . cases i with
    |zero=>
     refine⟨_,di _,_,_,_,aki c (c.getD 0 0),?_⟩;have hg:=fun h=>fD (l:=c) (i:=0) h
     repeat' (first|exact gH|refine dD ?_ ?_)
     all_goals
      intro B;simp only[aD,aJ,bn,aL,bh]at B;refine⟨?_,?_⟩
      . repeat' (first|exact all_nil|refine S ?_ ?_)
        all_goals first
         |exact⟨Int.le_refl _,aX B.1⟩
         |exact hp
         |exact hg (cm.1 (aX B.1))
         |rfl
      . first
        |exact⟨cm.1 (aX B.1),by simp only[Nc,B,cC,cr,cq,cO],rfl⟩
        |exact⟨rfl,by have:=bB B;simp only[gQ]at this;omega,rfl⟩
    |succ j=>
     refine⟨_,di _,_,_,_,akj c j (c.getD (j+1) 0) (c.getD j 0),?_⟩;have hg:=fun h=>fD (l:=c) (i:=j+1) h;have hg2:=fun h=>fD (l:=c) (i:=j) h
     repeat' (first|exact gH|refine dD ?_ ?_)
     all_goals
      intro B;simp only[aD,aJ,bn,aL,bh,Kk,Kl]at B;refine⟨?_,?_⟩
      . repeat' (first|exact all_nil|refine S ?_ ?_)
        all_goals first
         |exact iI B.1
         |exact hp
         |exact hg B.1
         |exact hg2 H
         |exact iI (i:=j) H
         |exact aI V.bool (aZ (by simp only[gQ];omega))
         |exact wY (by simp only[gQ];omega) H
      . first
        |exact⟨B.1,by simp only[Nc,B,cC,cr,cq,cO],rfl⟩
        |exact⟨rfl,B,rfl⟩
  . refine aI V.bool (Eq.symm ?_);unfold jN;rw[qO hi ht];simp
  . refine eK (di _) (akk c _) (dB (g0 ⟨all_nil,_,_,_,rfl,aI V.bool (Eq.symm ?_)⟩));unfold jN;rw[qP hj,hn];rfl
 refine isH 3 (di _) (akg c) ?_
 repeat' (first|exact gH|refine dD ?_ ?_)
 all_goals
  intro B;simp only[aD,aJ,bn,aL,bh]at B;refine⟨all_nil,?_⟩
  first
  |exact absurd B.2 eY
  |exact qv (by simp only[Bool.not_eq_false']at B;rw[B.1,B.2];rfl)
  |exact aI V.bool (Eq.symm (by simp only[bV]at B;simp only[jN,B,aS,cB]))
end
set_option maxRecDepth 10000
section
variable{F fr:Nat}{c:Code}{s:St}{h1:Exit->St->Prop}{hk:gF}{hh:List (Nat×List (Nat×lM))}{dm:List (Nat×lM)}{fn:Func}{live:List Nat}{hL:List (List (Bool×Bool)×ah×jL)}
def SqQ(P:Program)(F fr:Nat)(fn:Func)(live:List Nat)(cs:V->J h2->Nat->Prop)(b:Code)(h1:Exit->St->Prop):jL->Prop
 | .to .normal s1=>TG P F fr b s1 h1
 | .to y s1=>∀X,ld F live X=some s1->h1 y X
 | .ret v h n=>cs v h n/\∀X,fH P F fn cs .ret X->h1 .ret X
 | .bad=>False
theorem qt(s':eU ak hk)(cs:V->J h2->Nat->Prop)(hr:dw (U hk hh) dm F fn live (dF c) s hL)(h:∀g∈hL,(∀b∈g.1,b.1=b.2)->(∀a∈g.2.1,a)/\SqQ ak F fr fn live cs (dX c) h1 g.2.2)(hs:(rT c&&eL fr (dF c))=true:=by kernel_rfl):TG ak F fr c s h1:=by
 rw[ay]at hs;refine dK hs.1 (gv s' cs hr (fun g hg B=>?_) hs.2);obtain⟨Q,O⟩:=h g hg B;refine⟨Q,?_⟩;obtain⟨_,_,r⟩:=g;cases r with
 |to y s1=>
  cases y with
  |normal=>exact fun X dQ=>fU dQ O
  |_=>exact O
 |ret v h n=>exact O
 |bad=>exact O.elim
end
section
variable(f:FL)(b:Bool)
def rA(a b c d:Bool):Bool:=(a||(nN f.eM.length&&(f.dv==(0:Int))))&&((b||(f.vl==(0:Int)))&&((c||nN f.cu.length)&&(d||(f.r==(0:Int)))))
theorem pn1:dU ak 145 [f.v,.bool true,.bool false,.bool false,.bool true] (.bool (rA f true false false true)):=by
 have e:rA f true false false true=((f.vl==(0:Int))&&(nN f.cu.length&&true)):=rfl;rw[e];refine eX Tryz.func145 (eK (di _) (Tv f) ?_)
 repeat' (first|exact gH|refine dD ?_ ?_)
 all_goals
  intro B;simp only[aD,aJ,bn,aL,bh]at B;exact⟨all_nil,_,_,_,rfl,aI V.bool (by simp only[B,aN,aS,ct])⟩
theorem pn2:dU ak 145 [f.v,.bool false,.bool false,.bool false,.bool true] (.bool (rA f false false false true)):=by
 have e:rA f false false false true=((nN f.eM.length&&(f.dv==(0:Int)))&&((f.vl==(0:Int))&&(nN f.cu.length&&true))):=rfl;rw[e];refine eX Tryz.func145 (eK (di _) (Tw f) ?_)
 repeat' (first|exact gH|refine dD ?_ ?_)
 all_goals
  intro B;simp only[aD,aJ,bn,aL,bh]at B;exact⟨all_nil,_,_,_,rfl,aI V.bool (by simp only[B,aN,aS,ct])⟩
theorem pn3:dU ak 145 [f.v,.bool false,.bool false,.bool true,.bool false] (.bool (rA f false false true false)):=by
 have e:rA f false false true false=((nN f.eM.length&&(f.dv==(0:Int)))&&((f.vl==(0:Int))&&(f.r==(0:Int)))):=rfl;rw[e];refine eX Tryz.func145 (eK (di _) (Tx f) ?_)
 repeat' (first|exact gH|refine dD ?_ ?_)
 all_goals
  intro B;simp only[aD,aJ,bn,aL,bh]at B;exact⟨all_nil,_,_,_,rfl,aI V.bool (by simp only[B,aN,aS,ct])⟩
theorem pn4:dU ak 145 [f.v,.bool false,.bool false,.bool false,.bool false] (.bool (rA f false false false false)):=by
 have e:rA f false false false false=((nN f.eM.length&&(f.dv==(0:Int)))&&((f.vl==(0:Int))&&(nN f.cu.length&&(f.r==(0:Int))))):=rfl;rw[e];refine eX Tryz.func145 (eK (di _) (Tz f) ?_)
 repeat' (first|exact gH|refine dD ?_ ?_)
 all_goals
  intro B;simp only[aD,aJ,bn,aL,bh]at B;exact⟨all_nil,_,_,_,rfl,aI V.bool (by simp only[B,aN,aS,ct])⟩
theorem pn5:dU ak 145 [f.v,.bool false,.bool true,.bool false,.bool false] (.bool (rA f false true false false)):=by
 have e:rA f false true false false=((nN f.eM.length&&(f.dv==(0:Int)))&&(nN f.cu.length&&(f.r==(0:Int)))):=rfl;rw[e];refine eX Tryz.func145 (eK (di _) (TA f) ?_)
 repeat' (first|exact gH|refine dD ?_ ?_)
 all_goals
  intro B;simp only[aD,aJ,bn,aL,bh]at B;exact⟨all_nil,_,_,_,rfl,aI V.bool (by simp only[B,aN,aS,ct])⟩
theorem pn6:dU ak 145 [f.v,.bool false,.bool true,.bool false,.bool true] (.bool (rA f false true false true)):=by
 have e:rA f false true false true=((nN f.eM.length&&(f.dv==(0:Int)))&&(nN f.cu.length&&true)):=rfl;rw[e];refine eX Tryz.func145 (eK (di _) (TB f) ?_)
 repeat' (first|exact gH|refine dD ?_ ?_)
 all_goals
  intro B;simp only[aD,aJ,bn,aL,bh]at B;exact⟨all_nil,_,_,_,rfl,aI V.bool (by simp only[B,aN,aS,ct])⟩
def zP:Bool:=decide (f.r>=0)&&decide (f.r<=3)
def C5(x:Int):Bool:=decide (x< -4096)||decide (x>4096)
def Kn:Bool:=zP f&&(!((Int.ofNat f.eM.length) !=(2*f.r+1)*(2*f.r+1))&&(!decide (f.dv<1)&&(!decide (f.dv>1048576)&&(!f.eM.any C5&&rA f true false false true))))
def iM:Bool:=if f.k=1 then Kn f else if f.k=2\/f.k=3\/f.k=4 then zP f&&rA f false false false true else if f.k=5 then jN f.cu&&rA f false false true false
 else if f.k=6 then rA f false false false false else if f.k=7 then(decide (f.vl>=0)&&decide (f.vl<=256))&&rA f false true false false
 else if f.k=8 then(decide (f.r>= -3)&&(decide (f.r<=3)&&(decide (f.vl>= -3)&&decide (f.vl<=3))))&&rA f false true false true else false
theorem acY(W:f.eM.length<=1000000000)(Q:f=kf f 1)(b:Bool)(hb:b=zP f){h1:Exit->St->Prop}(hQ:∀X,fH ak 0 Tryz.f117 (fun u _ _=>u= .bool (Kn f)) .ret X->h1 .ret X):TG ak 0 Tryz.f117.ntmps (dG XO) (AH f [(3,.bool b),(14,L 1)]) h1:=by
 have r3:=akx f b;have r4:=aky f;have r5:=akz f;have r6:=akA f;have r7:=fun i=>akB f i (f.eM.getD i 0);have r8:=fun i=>akC f i (rA f true false false true);rw[<- Q]at r3 r4 r5 r6 r7 r8;refine qt (di _) eE r3 (dB (g0 ⟨all_nil,?_⟩));refine jR (t:=true) C C (fun _=>?_) (fun h=>by cases h);cases b with
 |false=>
  have e2:Kn f=false:=by unfold Kn;rw[<- hb];rfl
  exact qt (di _) _ r5 (dB (g0 ⟨all_nil,aI V.bool e2.symm,hQ⟩))
 |true=>
  have hr:zP f=true:=hb.symm;have Js:=hr;unfold zP at Js;rw[ay,aY,aY]at Js;have hw:V.int A (IntKind.i64.wrap (IntKind.i64.wrap (IntKind.i64.wrap ((2:Int)*f.r)+(1:Int))*IntKind.i64.wrap (IntKind.i64.wrap ((2:Int)*f.r)+(1:Int))))=L (((2:Int)*f.r+(1:Int))*((2:Int)*f.r+(1:Int))):=by
   obtain⟨k1,k2⟩:=Js;rcases(by omega:f.r=0\/f.r=1\/f.r=2\/f.r=3)with h|h|h|h<;>rw[h]<;>rfl
  refine qt (di _) (fun u _ _=>u= .bool (Kn f)) r4 ?_
  repeat' (first|exact gH|refine dD ?_ ?_)
  all_goals
   intro B;simp only[aD,aJ,bn,aL,bh]at B;refine⟨eG hw,?_⟩
  . exact⟨aI V.bool (by simp only[Kn,hr,B,aN,Bool.not_true,aS]),hQ⟩
  . exact⟨aI V.bool (by simp only[Kn,hr,B,aN,Bool.not_true,Bool.not_false,aS]),hQ⟩
  . exact⟨aI V.bool (by simp only[Kn,hr,B,aN,Bool.not_true,Bool.not_false,aS]),hQ⟩
  have e3:Kn f=(!f.eM.any C5&&rA f true false false true):=by simp only[Kn,hr,B,aN,Bool.not_false]
  rw[e3]at hQ;have hp:=eo f.eM;have hP:=pn1 f;refine dK C (qt (di _) eE r6 (dB (g0 ⟨all_nil,?_⟩)));refine EH (fn:=Tryz.f117) 1 (fun u _ _=>u= .bool (!f.eM.any C5&&rA f true false false true)) [1,4] (f.eM.length-·) (fun i=>i<=f.eM.length/\∀j,j<i->C5 (f.eM.getD j 0)=false) (fun i=>AH f [(4,M i)]) 0 ⟨aU _,fun _ h=>absurd h (bC _)⟩ .refl (fun i ⟨hi,hj⟩=>?_);refine⟨_,di _,_,_,_,r7 i,?_⟩;have hg:=fun h=>fD (l:=f.eM) (i:=i) h
  repeat' (first|exact gH|refine dD ?_ ?_)
  all_goals
   intro B;simp only[aD,aJ,bn,aL,bh,Kk,Kl]at B
  . refine⟨S (iI B.1) (S hp (eG (hg B.1))),aI V.bool (Eq.symm ?_),hQ⟩;rw[EK (d:=0) B.1 (by simp only[C5,B,cq])];rfl
  . refine⟨S (iI B.1) (S hp (S (hg B.1) (S (iI B.1) (S hp (eG (hg B.1)))))),aI V.bool (Eq.symm ?_),hQ⟩;rw[EK (d:=0) B.1 (by simp only[C5,B,cO])];rfl
  . refine⟨S (iI B.1) (S hp (S (hg B.1) (S (iI B.1) (S hp (S (hg B.1) (eG (gJ H))))))),i+1,by show f.eM.length-(i+1)<f.eM.length-i;omega,⟨B.1,fun j VI=>?_⟩,.refl⟩;rcases bt j i with q|q
    . exact hj j q
    . obtain rfl:j=i:=by omega
      simp only[C5,B,cC]
  . refine⟨all_nil,fun s3 Lz=>?_⟩;rw[gY];refine fU Lz ?_;have he:(!f.eM.any C5&&rA f true false false true)=rA f true false false true:=by rw[Ir (d:=0) (fun j VI=>hj j H)];rfl
    rw[he]at hQ;exact gv (fu hP (di _)) (fun u _ _=>u= .bool (rA f true false false true)) (r8 i) (dB (g0 ⟨eG rfl,rfl,hQ⟩))
abbrev RB:Exit->St->Prop:=fH ak 0 Tryz.f117 fun u _ _=>u= .bool b
theorem v3T(W:f.eM.length<=1000000000)(JH:f.cu.length<=1000000000)(b:Bool)(hb:b=zP f):TG ak 0 Tryz.f117.ntmps (dr 2 Bb) (AH f [(3,.bool b)]) (RB (iM f)):=by
 have C6:∀k,f.k=k->f=kf f k:=fun k h=>by obtain⟨a,_,_,_,_,_⟩:=f;simp only at h;subst h;rfl
 by_cases Q:f.k=1
 . have e:iM f=Kn f:=by unfold iM;rw[aG Q]
   have ef:=C6 1 Q;rw[e];have r2:=akw f b;rw[<- ef]at r2;refine dK C (qt (di _) eE r2 (dB (g0 ⟨all_nil,?_⟩)));exact fh (i:=0) C (acY f W ef b hb fun X h=>h)
 by_cases O:f.k=2\/f.k=3\/f.k=4
 . have e:iM f=(zP f&&rA f false false false true):=by unfold iM;rw[aB Q,aG O]
   rw[e,<- hb];rcases O with h|h|h
   . have hP:=pn2 f;have hr:=acP f b (rA f false false false true);rw[<- C6 _ h]at hr;exact eK (fu hP (di _)) hr (dD (g1 fun q=>⟨eG rfl,_,_,_,rfl,by rw[q];rfl⟩) (dB (g1 fun q=>⟨all_nil,_,_,_,rfl,by rw[q];rfl⟩)))
   . have hP:=pn2 f;have hr:=acQ f b (rA f false false false true);rw[<- C6 _ h]at hr;exact eK (fu hP (di _)) hr (dD (g1 fun q=>⟨eG rfl,_,_,_,rfl,by rw[q];rfl⟩) (dB (g1 fun q=>⟨all_nil,_,_,_,rfl,by rw[q];rfl⟩)))
   . have hP:=pn2 f;have hr:=acR f b (rA f false false false true);rw[<- C6 _ h]at hr;exact eK (fu hP (di _)) hr (dD (g1 fun q=>⟨eG rfl,_,_,_,rfl,by rw[q];rfl⟩) (dB (g1 fun q=>⟨all_nil,_,_,_,rfl,by rw[q];rfl⟩)))
 by_cases h5:f.k=5
 . have e:iM f=(jN f.cu&&rA f false false true false):=by unfold iM;rw[aB Q,aB O,aG h5]
   rw[e];have hr:=acS f b (jN f.cu) (rA f false false true false);rw[<- C6 _ h5]at hr;exact eK (fu (pn3 f) (fu (c5D f.cu JH) (di _))) hr (dD (g1 fun q=>⟨S rfl (eG rfl),_,_,_,rfl,by rw[q];rfl⟩) (dB (g1 fun q=>⟨eG rfl,_,_,_,rfl,by rw[q];rfl⟩)))
 by_cases h6:f.k=6
 . have e:iM f=rA f false false false false:=by unfold iM;rw[aB Q,aB O,aB h5,aG h6]
   rw[e];have hr:=acT f b (rA f false false false false);rw[<- C6 _ h6]at hr;exact eK (fu (pn4 f) (di _)) hr (dB (g0 ⟨eG rfl,_,_,_,rfl,rfl⟩))
 by_cases h7:f.k=7
 . have e:iM f=((decide (f.vl>=0)&&decide (f.vl<=256))&&rA f false true false false):=by unfold iM;rw[aB Q,aB O,aB h5,aB h6,aG h7]
   rw[e];have hr:=acU f b (rA f false true false false);rw[<- C6 _ h7]at hr;refine eK (fu (pn5 f) (di _)) hr ?_
   repeat' (first|exact gH|refine dD ?_ ?_)
   all_goals
    intro B;simp only[aD,aJ,bn,aL,bh]at B;exact⟨by first|exact all_nil|exact eG rfl,_,_,_,rfl,aI V.bool (by simp only[B,aN,aS])⟩
 by_cases h8:f.k=8
 . have e:iM f=((decide (f.r>= -3)&&(decide (f.r<=3)&&(decide (f.vl>= -3)&&decide (f.vl<=3))))&&rA f false true false true):=by unfold iM;rw[aB Q,aB O,aB h5,aB h6,aB h7,aG h8]
   rw[e];have hr:=acV f b (rA f false true false true);rw[<- C6 _ h8]at hr;refine eK (fu (pn6 f) (di _)) hr ?_
   repeat' (first|exact gH|refine dD ?_ ?_)
   all_goals
    intro B;simp only[aD,aJ,bn,aL,bh]at B;exact⟨by first|exact all_nil|exact eG rfl,_,_,_,rfl,aI V.bool (by simp only[B,aN,aS])⟩
 . have e:iM f=false:=by unfold iM;rw[aB Q,aB O,aB h5,aB h6,aB h7,aB h8]
   rw[e];have nb:∀k:Int,f.k≠k->V.bool (f.k==k)=V.bool false:=fun k h=>aI V.bool (b5.2 h);refine eK (di _) (acW f b) (dB (g0 ⟨?_,_,_,_,rfl,rfl⟩));exact S (nb 1 Q) (S (nb 2 fun q=>O (.inl q)) (S (nb 3 fun q=>O (.inr (.inl q))) (S (nb 4 fun q=>O (.inr (.inr q))) (S (nb 5 h5) (S (nb 6 h6) (S (nb 7 h7) (eG (nb 8 h8))))))))
theorem akE(W:f.eM.length<=1000000000)(B:f.cu.length<=1000000000):dU ak 117 [f.v] (.bool (iM f)):=by
 refine eX Tryz.func117 (ud 2 (di _) (akv f) (dD (g1 fun h=>⟨all_nil,_,rfl,?_⟩) (dB (g1 fun h=>⟨all_nil,_,rfl,?_⟩))))
 . exact v3T f W B _ (by unfold zP;rw[h];rfl)
 . exact v3T f W B _ (by unfold zP;rw[h];rfl)
end
set_option maxRecDepth 10000
noncomputable def Is(R:ai):List Tl:=@dite _ (∃l,R=jE l) (Classical.propDecidable _) (fun h=>Classical.choose h) (fun _=>[])
noncomputable def Ko:ai->Option (ah×V)
 | [.agg [.eB n R]]=>some ([R=jE (Is R),n=(Is R).length,n<=1000000],.bool (cD (fg (Is R))))
 |_=>none
noncomputable abbrev It:Code:=dI Tryz.f86
noncomputable abbrev akF:Code:=dF (dr 5 It)
noncomputable abbrev TC:Code:=dG akF
noncomputable abbrev XS:Code:=oW (dX TC)
noncomputable abbrev XT:Code:=oW (dX XS)
noncomputable abbrev XU:Code:=oW (dX XT)
noncomputable abbrev XV:Code:=oW (dX XU)
noncomputable abbrev XW:Code:=oW (dX XV)
noncomputable abbrev acZ:Code:=oW (dX XW)
def nt(d:Dc)(l:eJ)(m c p f:Bool)(r:List (Nat×V)):St:=fq ([(2,.ptr (some (0,0))),(3,.ptr (some (1,0))),(5,.bool m),(6,.bool c),(7,.bool p),(8,.bool f)]++r) (G [(0,.cells d.R),(1,.cells l.R)]) 2
noncomputable abbrev Wfd(l:eJ)(p f:Bool):gF:=fb 116 [.agg l.pl.R] (.bool p) (fb 117 [l.f.v] (.bool f) (jZ 115 (Go.Eng.dW Ko) dY))
theorem akG(d:Dc)(l:eJ)(p f:Bool):dw (U (Wfd l p f) []) [] 0 Tryz.f86 [2,3,5,6,7,8] (dM 5 It) (dy [d.v,l.v] .nil 0) [([],
   [(jE l.iH=jE (Is (jE l.iH))),(l.iH.length=(Is (jE l.iH)).length),(l.iH.length<=1000000),(jE l.gd=jE (Is (jE l.gd))),(l.gd.length=(Is (jE l.gd)).length),(l.gd.length<=1000000),(fa [.agg l.pl.R]),(fa [l.f.v])],
   .to .normal (nt d l (cD (fg (Is (jE l.iH)))) (cD (fg (Is (jE l.gd)))) p f []))]
 :=dj.of C C C
theorem akH(d:Dc)(l:eJ)(m c p f:Bool):dw (U dY []) [(24,.split),(28,.split)] 0 Tryz.f86 [2,3,5,6,7,8,21] (dF TC) (nt d l m c p f []) [([((decide (l.kd<(1:Int))),true)],
   [],
   .to .normal (nt d l m c p f [(21,.bool true)])),
  ([((decide (l.kd<(1:Int))),false),((decide (l.kd>(5:Int))),true)],
   [],
   .to .normal (nt d l m c p f [(21,.bool true)])),
  ([((decide (l.kd<(1:Int))),false),((decide (l.kd>(5:Int))),false)],
   [],
   .to .normal (nt d l m c p f [(21,.bool false)]))]
 :=dj.of C C C
theorem ac0(d:Dc)(l:eJ)(m c p f:Bool):dw (U dY []) [] 0 Tryz.f86 [] (lK (dX TC)) (nt d l m c p f [(21,.bool true)]) [([],
   [],
   .ret (.int .i64 41) (G []) 0)]
 :=dj.of C C C
theorem akI(d:Dc)(l:eJ)(m c p f:Bool)(nm:Bool):dw (U (fb 118 [.str l.nm] (.bool nm) dY) []) [] 0 Tryz.f86 [2,3,5,6,7,8,30] (dF XS) (nt d l m c p f []) [([],
   [(fa [.str l.nm])],
   .to .normal (nt d l m c p f [(30,.bool (!nm))]))]
 :=dj.of C C C
theorem ac1(d:Dc)(l:eJ)(m c p f:Bool):dw (U dY []) [] 0 Tryz.f86 [] (lK (dX XS)) (nt d l m c p f [(30,.bool true)]) [([],
   [],
   .ret (.int .i64 72) (G []) 0)]
 :=dj.of C C C
theorem akJ(d:Dc)(l:eJ)(m c p f:Bool):dw (U dY []) [(38,.split),(42,.split),(47,.split),(52,.split),(56,.split),(61,.split),(67,.split)] 0 Tryz.f86 [2,3,5,6,7,8,35] (dF XT) (nt d l m c p f []) [([((decide (l.op<(0:Int))),true)],
   [],
   .to .normal (nt d l m c p f [(35,.bool true)])),
  ([((decide (l.op<(0:Int))),false),((decide (l.op>(255:Int))),true)],
   [],
   .to .normal (nt d l m c p f [(35,.bool true)])),
  ([((decide (l.op<(0:Int))),false),((decide (l.op>(255:Int))),false),((decide (l.md<(0:Int))),true)],
   [],
   .to .normal (nt d l m c p f [(35,.bool true)])),
  ([((decide (l.op<(0:Int))),false),((decide (l.op>(255:Int))),false),((decide (l.md<(0:Int))),false),((decide (l.md>(15:Int))),true)],
   [],
   .to .normal (nt d l m c p f [(35,.bool true)])),
  ([((decide (l.op<(0:Int))),false),((decide (l.op>(255:Int))),false),((decide (l.md<(0:Int))),false),((decide (l.md>(15:Int))),false),((!m),true)],
   [],
   .to .normal (nt d l m c p f [(35,.bool true)])),
  ([((decide (l.op<(0:Int))),false),((decide (l.op>(255:Int))),false),((decide (l.md<(0:Int))),false),((decide (l.md>(15:Int))),false),((!m),false),((!l.K),true),((decide ((Int.ofNat l.iH.length)>(0:Int))),true)],
   [],
   .to .normal (nt d l m c p f [(35,.bool true)])),
  ([((decide (l.op<(0:Int))),false),((decide (l.op>(255:Int))),false),((decide (l.md<(0:Int))),false),((decide (l.md>(15:Int))),false),((!m),false),((!l.K),true),((decide ((Int.ofNat l.iH.length)>(0:Int))),false)],
   [],
   .to .normal (nt d l m c p f [(35,.bool false)])),
  ([((decide (l.op<(0:Int))),false),((decide (l.op>(255:Int))),false),((decide (l.md<(0:Int))),false),((decide (l.md>(15:Int))),false),((!m),false),((!l.K),false)],
   [],
   .to .normal (nt d l m c p f [(35,.bool false)]))]
 :=dj.of C C C
theorem ac2(d:Dc)(l:eJ)(m c p f:Bool):dw (U dY []) [] 0 Tryz.f86 [] (lK (dX XT)) (nt d l m c p f [(35,.bool true)]) [([],
   [],
   .ret (.int .i64 1) (G []) 0)]
 :=dj.of C C C
theorem akK(d:Dc)(l:eJ)(m c p f:Bool)(un:Bool):dw (U (fb 119 [l.v] (.bool un) dY) []) [] 0 Tryz.f86 [2,3,5,6,7,8,70] (dF XU) (nt d l m c p f []) [([],
   [(fa [l.v])],
   .to .normal (nt d l m c p f [(70,.bool (!un))]))]
 :=dj.of C C C
theorem ac3(d:Dc)(l:eJ)(m c p f:Bool):dw (U dY []) [] 0 Tryz.f86 [] (lK (dX XU)) (nt d l m c p f [(70,.bool true)]) [([],
   [],
   .ret (.int .i64 41) (G []) 0)]
 :=dj.of C C C
theorem akL(d:Dc)(l:eJ)(m c p f:Bool):dw (U dY []) [(77,.split),(81,.split)] 0 Tryz.f86 [2,3,5,6,7,8,74] (dF XV) (nt d l m c p f []) [([((l.kd==(1:Int)),true)],
   [],
   .to .normal (nt d l m c p f [(74,.bool (!p))])),
  ([((l.kd==(1:Int)),false),((l.kd==(4:Int)),true)],
   [],
   .to .normal (nt d l m c p f [(74,.bool (!p))])),
  ([((l.kd==(1:Int)),false),((l.kd==(4:Int)),false)],
   [],
   .to .normal (nt d l m c p f [(74,.bool false)]))]
 :=dj.of C C C
theorem ac4(d:Dc)(l:eJ)(m c p f:Bool):dw (U dY []) [] 0 Tryz.f86 [] (lK (dX XV)) (nt d l m c p f [(74,.bool true)]) [([],
   [],
   .ret (.int .i64 44) (G []) 0)]
 :=dj.of C C C
theorem akM(d:Dc)(l:eJ)(m c p f:Bool):dw (U dY []) [(90,.split),(97,.split)] 0 Tryz.f86 [2,3,5,6,7,8,87] (dF XW) (nt d l m c p f []) [([((decide (l.sp<(0:Int))),true)],
   [],
   .to .normal (nt d l m c p f [(87,.bool true)])),
  ([((decide (l.sp<(0:Int))),false),((decide (l.sp>(Int.ofNat d.sp.length))),true)],
   [],
   .to .normal (nt d l m c p f [(87,.bool true)])),
  ([((decide (l.sp<(0:Int))),false),((decide (l.sp>(Int.ofNat d.sp.length))),false)],
   [],
   .to .normal (nt d l m c p f [(87,.bool false)]))]
 :=dj.of C C C
theorem ac5(d:Dc)(l:eJ)(m c p f:Bool):dw (U dY []) [] 0 Tryz.f86 [] (lK (dX XW)) (nt d l m c p f [(87,.bool true)]) [([],
   [],
   .ret (.int .i64 23) (G []) 0)]
 :=dj.of C C C
theorem akN(d:Dc)(l:eJ)(m c p f:Bool)(ph:Bool):dw (U (fb 120 [w8 l.gW] (.bool ph) dY) []) [(101,.split),(105,.split),(108,.split),(114,.split)] 0 Tryz.f86 [2,3,5,6,7,8,99] (dF acZ) (nt d l m c p f []) [([((!c),true)],
   [],
   .to .normal (nt d l m c p f [(99,.bool true)])),
  ([((!c),false),((l.kd==(3:Int)),true),((!f),true)],
   [],
   .to .normal (nt d l m c p f [(99,.bool true)])),
  ([((!c),false),((l.kd==(3:Int)),true),((!f),false),((l.kd==(5:Int)),true)],
   [(fa [w8 l.gW])],
   .to .normal (nt d l m c p f [(99,.bool (!ph))])),
  ([((!c),false),((l.kd==(3:Int)),true),((!f),false),((l.kd==(5:Int)),false)],
   [],
   .to .normal (nt d l m c p f [(99,.bool false)])),
  ([((!c),false),((l.kd==(3:Int)),false),((l.kd==(5:Int)),true)],
   [(fa [w8 l.gW])],
   .to .normal (nt d l m c p f [(99,.bool (!ph))])),
  ([((!c),false),((l.kd==(3:Int)),false),((l.kd==(5:Int)),false)],
   [],
   .to .normal (nt d l m c p f [(99,.bool false)]))]
 :=dj.of C C C
theorem ac6(d:Dc)(l:eJ)(m c p f:Bool):dw (U dY []) [] 0 Tryz.f86 [] (lK (dX acZ)) (nt d l m c p f [(99,.bool true)]) [([],
   [],
   .ret (.int .i64 1) (G []) 0)]
 :=dj.of C C C
theorem akO(d:Dc)(l:eJ)(m c p f:Bool):dw (U dY []) [] 0 Tryz.f86 [] (dX (dr 5 It)) (nt d l m c p f []) [([],
   [],
   .ret (.int .i64 0) (G []) 0)]
 :=dj.of C C C
set_option maxRecDepth 10000
theorem Bw(l:List Tl):jE (Is (jE l))=jE l:=by
 have h:∃k,jE l=jE k:=⟨l,rfl⟩;unfold Is;rw[dif_pos h];exact(Classical.choose_spec h).symm
theorem TD(l:List Tl):(Is (jE l)).length=l.length:=by
 have h:=aI List.length (Bw l);rw[kD,kD]at h;omega
theorem XX:jK ak 115 (Go.Eng.dW Ko):=by
 refine Ph (az C) fun ds aj v e hA=>?_;unfold Ko at e;split at e
 case h_2=>cases e
 rename_i n R;obtain⟨rfl,rfl⟩:=sm e;have e1:R=jE (Is R):=hA _ (by simp);have e2:n=(Is R).length:=hA (n=(Is R).length) (by simp);have e3:n<=1000000:=hA (n<=1000000) (by simp);generalize Is R=l at *;subst e1 e2;exact PI l e3
section
variable{F fr:Nat}{c:Code}{s:St}{h1:Exit->St->Prop}{hk:gF}{hh:List (Nat×List (Nat×lM))}{dm:List (Nat×lM)}{fn:Func}{live:List Nat}{hL:List (List (Bool×Bool)×ah×jL)}
theorem Kp(s':eU ak hk)(β:Bool)(fm:Bool->St)(hr:dw (U hk hh) dm F fn live (dF c) s hL)(h:∀g∈hL,(∀b∈g.1,b.1=b.2)->(∀a∈g.2.1,a)/\g.2.2= .to .normal (fm β))
  (ho:iP (fm β).N (Vi (dX c))=some (.bool β)) (k1:β=true->TG ak F fr (lK (dX c)) (fm true) h1) (ac7:List Nat) (S0:St) (hn:ld F ac7 (fm false)=some S0) (k2:β=false->TG ak F fr (oW (dX c)) S0 h1)
  (hs:((rT c&&eL fr (dF c))&&JP (dX c) (fun _=>true))=true:=by kernel_rfl):TG ak F fr c s h1:=by
 rw[ay]at hs;refine qt s' eE hr (fun g hg B=>?_) hs.1;obtain⟨Q,O⟩:=h g hg B;refine⟨Q,?_⟩;obtain⟨_,_,r⟩:=g;simp only at O;subst O;exact jR (t:=β) hs.2 ho (fun q=>by subst q;exact k1 rfl) (fun q=>by subst q;exact fU hn (k2 rfl))
end
def bk(l:eJ):Bool:=decide (l.kd<1)||decide (l.kd>5)
def ba(l:eJ)(m:Bool):Bool:=decide (l.op<0)||(decide (l.op>255)||(decide (l.md<0)||(decide (l.md>15)||(!m||(!l.K&&decide (Int.ofNat l.iH.length>0))))))
def bp(l:eJ)(p:Bool):Bool:=((l.kd==1)||(l.kd==4))&& !p
def bs(n:Nat)(l:eJ):Bool:=decide (l.sp<0)||decide (l.sp>Int.ofNat n)
def bc(l:eJ)(c f p:Bool):Bool:=!c||(((l.kd==3)&& !f)||((l.kd==5)&& !p))
def Kq(n:Nat)(l:eJ)(m c p f nm un ph:Bool):Int:=if bk l=true then 41 else if nm=false then 72 else if ba l m=true then 1 else if un=false then 41 else if bp l p=true then 44 else if bs n l=true then 23 else if bc l c f ph=true then 1 else 0
noncomputable def vQ(n:Nat)(l:eJ):Int:=Kq n l (cD (fg l.iH)) (cD (fg l.gd)) (AI l.pl) (iM l.f) (sk l.nm) (GO l) (jF l.gW)
structure DC(l:eJ):Prop where
 nm:l.nm.length<=1000000
 kids:l.kids.length<=1000000
 eM:l.f.eM.length<=1000000
 cu:l.f.cu.length<=1000000
 gW:l.gW.length<=1000000
 gd:l.gd.length<=1000000
 iH:l.iH.length<=1000000
theorem C7{p q:Prop}(h:p↔q):cD p=cD q:=by
 by_cases hp:p
 . rw[PA hp,PA (h.1 hp)]
 . rw[Th hp,Th (fun x=>hp (h.2 x))]
theorem TE{p q:Nat->Int}(h:DB p=DB q){j:Nat}(hj:j<256):p j=q j:=by
 have:=aI (fun l=>l[j]?) h;simp only[DB,bI,cZ hj,bw,aq,D.int.injEq,true_and]at this;exact this
theorem LD:∀{a b:List Tl},jE a=jE b->a.length=b.length/\∀i (h:i<a.length) (h':i<b.length),a[i].x=b[i].x/\a[i].y=b[i].y/\∀j,j<256->a[i].p j=b[i].p j
 | [],[],_=>⟨rfl,fun _ h=>absurd h (bC _)⟩
 | [],t::b,h=>by cases h
 |t::a,[],h=>by cases h
 |t::a,u::b,h=>by
  have h:t.d++jE a=u.d++jE b:=h;obtain⟨Q,O⟩:=List.append_inj h (by rw[Tl.Ih,Tl.Ih]);obtain⟨i1,i2⟩:=LD O;refine⟨by simp[i1],fun i h h'=>?_⟩;cases i with
  |zero=>
   simp only[Tl.d,List.cons.injEq,D.int.injEq,true_and]at Q;exact⟨Q.1,Q.2.1,fun j hj=>TE Q.2.2 hj⟩
  |succ i=>exact i2 i (by simpa using h) (by simpa using h')
theorem Nd{t u:Tl}(I:t.x=u.x)(hy:t.y=u.y)(hp:∀j,j<256->t.p j=u.p j):okT t->okT u:=by
 rintro⟨Q,O,h3⟩;have ez:nh t.p=nh u.p:=C7 ⟨fun h i hi=>by rw[<- hp _ H];exact h i hi,fun h i hi=>by rw[hp _ H];exact h i hi⟩;have ec:∀j,j<256->iA t.p j=iA u.p j:=fun j hj=>by unfold iA;rw[hp _ H,hp _ hj]
 have T:uW (iA t.p) t.p=uW (iA u.p) u.p:=C7 ⟨fun h j hj=>by rw[<- ec j hj,<- hp j hj];exact h j hj,fun h j hj=>by rw[ec j hj,hp j hj];exact h j hj⟩;exact⟨by rw[<- I,<- hy];exact Q,by rw[<- ez];exact O,by rw[<- T];exact h3⟩
theorem yw{a b:List Tl}(h:jE a=jE b):fg a->fg b:=by
 obtain⟨hl,hi⟩:=LD h;rintro⟨Q,O⟩;refine⟨hl▸Q,fun i hb t ht=>?_⟩;have ha:i<a.length:=by omega
 obtain⟨Bn,rfl⟩:=aR.1 ht;obtain⟨k1,k2⟩:=O i ha a[i] (au ha);obtain⟨e1,e2,e3⟩:=hi i ha Bn;refine⟨Nd e1 e2 e3 k1,fun h0 u hu=>?_⟩;obtain⟨NP,rfl⟩:=aR.1 hu;obtain⟨q1,q2,_⟩:=hi (i-1) H NP;have:=k2 h0 a[i-1] (au H);rw[<- e1,<- e2,<- q1,<- q2];exact this
theorem Iu(l:List Tl):cD (fg (Is (jE l)))=cD (fg l):=C7 ⟨yw (Bw l),yw (Bw l).symm⟩
theorem akP(d:Dc)(l:eJ)(h:DC l)(m c p f nm un ph:Bool)(hnm:nm=sk l.nm)(hun:un=GO l)(hph:ph=jF l.gW):TG ak 0 Tryz.f86.ntmps (dr 5 It) (nt d l m c p f []) (fH ak 0 Tryz.f86 fun u _ _=>u=L (Kq d.sp.length l m c p f nm un ph)):=by
 have hN:dU ak 118 [.str l.nm] (.bool nm):=hnm▸acM l.nm (by have:=h.nm;omega);have hP:dU ak 120 [w8 l.gW] (.bool ph):=hph▸acX l.gW (by have:=h.gW;omega);refine dK C (fh (i:=0) C ?_);show TG _ _ _ TC _ _;generalize hv:L (Kq d.sp.length l m c p f nm un ph)=v;have hQ:∀X,fH ak 0 Tryz.f86 (fun u _ _=>u=v) .ret X->gk 0 (andThen (fun X=>TG ak 0 Tryz.f86.ntmps (dX (dr 5 It)) X (fH ak 0 Tryz.f86 fun u _ _=>u=v)) (fH ak 0 Tryz.f86 fun u _ _=>u=v)) .ret X:=fun X h=>h;have hN':∀X,TG ak 0 Tryz.f86.ntmps (dX (dr 5 It)) X (fH ak 0 Tryz.f86 fun u _ _=>u=v)->gk 0 (andThen (fun X=>TG ak 0 Tryz.f86.ntmps (dX (dr 5 It)) X (fH ak 0 Tryz.f86 fun u _ _=>u=v)) (fH ak 0 Tryz.f86 fun u _ _=>u=v)) .normal X:=fun X h=>h;generalize gk 0 (andThen (fun X=>TG ak 0 Tryz.f86.ntmps (dX (dr 5 It)) X (fH ak 0 Tryz.f86 fun u _ _=>u=v)) (fH ak 0 Tryz.f86 fun u _ _=>u=v))=h1 at hQ hN' ⊢;unfold Kq at hv;refine Kp (di _) (bk l) (fun b=>nt d l m c p f [(21,.bool b)]) (akH d l m c p f) ?_ C (fun q=>gv (di _) (fun u _ _=>u=v) (ac0 d l m c p f) (dB (g0 ⟨all_nil,by rw[<- hv,aG q],hQ⟩))) [2,3,5,6,7,8] (nt d l m c p f []) C (fun q=>?_)
 . repeat' (first|exact gH|refine dD ?_ ?_)
   all_goals
    intro B;simp only[aD,aJ,bn,aL,bh]at B;exact⟨all_nil,by simp only[bk,B,cO,cq,cC]⟩
 have hU:dU ak 119 [l.v] (.bool un):=by
  unfold bk at q;rw[cK,bu,bu]at q;exact hun▸unD l H H
 rw[aB (by rw[q];decide)]at hv;refine Kp (fu hN (di _)) (!nm) (fun b=>nt d l m c p f [(30,.bool b)]) (akI d l m c p f nm) (by exact dB (g0 ⟨eG rfl,rfl⟩)) C (fun q=>gv (di _) (fun u _ _=>u=v) (ac1 d l m c p f) (dB (g0 ⟨all_nil,by rw[<- hv,aG (by simpa using q)],hQ⟩))) [2,3,5,6,7,8] (nt d l m c p f []) C (fun q=>?_);rw[aB (by simpa using q)]at hv;refine Kp (di _) (ba l m) (fun b=>nt d l m c p f [(35,.bool b)]) (akJ d l m c p f) ?_ C (fun q=>gv (di _) (fun u _ _=>u=v) (ac2 d l m c p f) (dB (g0 ⟨all_nil,by rw[<- hv,aG q],hQ⟩))) [2,3,5,6,7,8] (nt d l m c p f []) C (fun q=>?_)
 . repeat' (first|exact gH|refine dD ?_ ?_)
   all_goals
    intro B;simp only[aD,aJ,bn,aL,bh]at B;exact⟨all_nil,by simp only[ba,B,cO,cq,cC,cr,ct,cB,aS]⟩
 rw[aB (by rw[q];decide)]at hv;refine Kp (fu hU (di _)) (!un) (fun b=>nt d l m c p f [(70,.bool b)]) (akK d l m c p f un) (by exact dB (g0 ⟨eG rfl,rfl⟩)) C (fun q=>gv (di _) (fun u _ _=>u=v) (ac3 d l m c p f) (dB (g0 ⟨all_nil,by rw[<- hv,aG (by simpa using q)],hQ⟩))) [2,3,5,6,7,8] (nt d l m c p f []) C (fun q=>?_);rw[aB (by simpa using q)]at hv;refine Kp (di _) (bp l p) (fun b=>nt d l m c p f [(74,.bool b)]) (akL d l m c p f) ?_ C (fun q=>gv (di _) (fun u _ _=>u=v) (ac4 d l m c p f) (dB (g0 ⟨all_nil,by rw[<- hv,aG q],hQ⟩))) [2,3,5,6,7,8] (nt d l m c p f []) C (fun q=>?_)
 . repeat' (first|exact gH|refine dD ?_ ?_)
   all_goals
    intro B;simp only[aD,aJ,bn,aL,bh]at B;exact⟨all_nil,by simp only[bp,B,cO,cq,cC,aN,aS]⟩
 rw[aB (by rw[q];decide)]at hv;refine Kp (di _) (bs d.sp.length l) (fun b=>nt d l m c p f [(87,.bool b)]) (akM d l m c p f) ?_ C (fun q=>gv (di _) (fun u _ _=>u=v) (ac5 d l m c p f) (dB (g0 ⟨all_nil,by rw[<- hv,aG q],hQ⟩))) [2,3,5,6,7,8] (nt d l m c p f []) C (fun q=>?_)
 . repeat' (first|exact gH|refine dD ?_ ?_)
   all_goals
    intro B;simp only[aD,aJ,bn,aL,bh]at B;exact⟨all_nil,by simp only[bs,B,cO,cq,cC]⟩
 rw[aB (by rw[q];decide)]at hv;refine Kp (fu hP (di _)) (bc l c f ph) (fun b=>nt d l m c p f [(99,.bool b)]) (akN d l m c p f ph) ?_ C (fun q=>gv (di _) (fun u _ _=>u=v) (ac6 d l m c p f) (dB (g0 ⟨all_nil,by rw[<- hv,aG q],hQ⟩))) [2,3,5,6,7,8] (nt d l m c p f []) C (fun q=>?_)
 . have k35:(l.kd==3)=true->(l.kd==5)=false:=fun h=>by rw[cG]at h;rw[h];rfl
   repeat' (first|exact gH|refine dD ?_ ?_)
   all_goals
    intro B;simp only[aD,aJ,bn,aL,bh]at B;refine⟨by first|exact all_nil|exact eG rfl,?_⟩;simp only[bc,B,cO,cq,cC,cr,aN,aS,Bool.not_true,Bool.not_false]
 rw[aB (by rw[q];decide)]at hv;refine qH (cf:=fun _ _ _ _=>none) (n0:=10) (fun _ _ _ _ _ _ _ e=>by cases e) mo C (x:=.normal) (y:=.normal) (X:=nt d l m c p f []) C rfl (hN' _ ?_);exact eK (di _) (akO d l m c p f) (dB (g0 ⟨all_nil,_,_,_,rfl,hv⟩))
theorem TF(d:Dc)(l:eJ)(h:DC l):dU ak 86 [d.v,l.v] (L (vQ d.sp.length l)):=by
 refine eX Tryz.func86 ?_;have s':eU ak (Wfd l (AI l.pl) (iM l.f)):=fu (v9D l.pl) (fu (akE l.f (by have:=h.eM;omega) (by have:=h.cu;omega)) (fC XX (di _)));refine fF 5 s' (akG d l _ _) ?_ ?_
 . repeat' (first|exact all_nil|refine S ?_ ?_)
   all_goals first
    |rfl
    |exact(Bw _).symm
    |exact(TD _).symm
    |exact h.gd
    |exact h.iH
 rw[Iu,Iu];exact akP d l h _ _ _ _ _ _ _ rfl rfl rfl
set_option maxRecDepth 10000
noncomputable abbrev D1:Code:=dI Tryz.f87
noncomputable abbrev bKi:Code:=dG (dG (dX (dF (dr 3 D1))))
noncomputable abbrev ac8:Code:=dG (dF (dX bKi))
noncomputable abbrev akQ:Code:=dG (dG (dX ac8))
def yT(d:Dc)(l:eJ)(r:List (Nat×V)):St:=fq ([(2,.ptr (some (0,0))),(3,.ptr (some (1,0)))]++r) (G [(0,.cells d.R),(1,.cells l.R)]) 2
theorem akR(d:Dc)(l:eJ):dw (U dY []) [] 0 Tryz.f87 [2,3] (dM 1 D1) (dy [d.v,l.v] .nil 0) [([],
   [],
   .to .normal (yT d l []))]
 :=dj.of C C C
theorem akS(d:Dc)(l:eJ):dw (U dY []) [] 0 Tryz.f87 [2,3,5] (dF (dF (dr 1 D1))) (yT d l []) [([],
   [],
   .to .normal (yT d l [(5,M 0)]))]
 :=dj.of C C C
abbrev Qk(l:eJ)(i:Nat)(k:Int):Prop:=V.dx (dn (dO l.kids) (i*1) 1)=V.dx [D.int A k]
theorem akT(d:Dc)(l:eJ)(i:Nat)(k a:Int):dw (U (fb 24 [d.v,L k] (L a) dY) []) [(13,.split),(20,.dz (.dx [.int .i64 k])),(23,.split),(15,.dz (M (i+1)))] 0 Tryz.f87 [2,3,5] (dG (dG (dX (dF (dr 1 D1))))) (yT d l [(5,M i)]) [([((decide (Int.ofNat i<(Int.ofNat l.kids.length))),true),((decide (a<(0:Int))),true)],
   [((0:Int)<=Int.ofNat i/\Int.ofNat i<(Int.ofNat l.kids.length)),((dO l.kids).length=l.kids.length*1),Qk l i k,(fa [d.v,L k])],
   .ret (.bool false) (G []) 0),
  ([((decide (Int.ofNat i<(Int.ofNat l.kids.length))),true),((decide (a<(0:Int))),false)],
   [((0:Int)<=Int.ofNat i/\Int.ofNat i<(Int.ofNat l.kids.length)),((dO l.kids).length=l.kids.length*1),Qk l i k,(fa [d.v,L k]),(V.int A (IntKind.i64.wrap (Int.ofNat i+(1:Int)))=M (i+1))],
   .to .normal (yT d l [(5,M (i+1))])),
  ([((decide (Int.ofNat i<(Int.ofNat l.kids.length))),false)],
   [],
   .to (.exit 0) (yT d l [(5,M i)]))]
 :=dj.of C C C
theorem akU(d:Dc)(l:eJ)(i:Nat):dw (U dY []) [] 0 Tryz.f87 [2,3,6] (dM 1 (dr 2 D1)) (yT d l [(5,M i)]) [([],
   [],
   .to .normal (yT d l [(6,M 0)]))]
 :=dj.of C C C
theorem akV(d:Dc)(l:eJ):dw (U dY []) [] 0 Tryz.f87 [2,3,6,7] (dF (dF (dr 3 D1))) (yT d l [(6,M 0)]) [([],
   [],
   .to .normal (yT d l [(6,M 0),(7,M 0)]))]
 :=dj.of C C C
theorem ac9(d:Dc)(l:eJ)(n i:Nat):dw (U dY []) [(28,.split)] 0 Tryz.f87 [2,3,6,7] (dF bKi) (yT d l [(6,M n),(7,M i)]) [([((decide (Int.ofNat i<(Int.ofNat d.ly.length))),true)],
   [],
   .to .normal (yT d l [(6,M n),(7,M i)])),
  ([((decide (Int.ofNat i<(Int.ofNat d.ly.length))),false)],
   [],
   .to (.exit 2) (yT d l [(6,M n),(7,M i)]))]
 :=dj.of C C C
theorem akW(d:Dc)(l:eJ)(n i:Nat):dw (U dY []) [] 0 Tryz.f87 [2,3,6,7,8] (dF ac8) (yT d l [(6,M n),(7,M i)]) [([],
   [],
   .to .normal (yT d l [(6,M n),(7,M i),(8,M 0)]))]
 :=dj.of C C C
section
variable(x:eJ)(e:Int)(j:Nat)
abbrev Ql:Prop:=V.int A (IntKind.i64.wrap (Int.ofNat j+(1:Int)))=M (j+1)
abbrev Qm(k:Int):Prop:=V.dx (dn (dO x.kids) (j*1) 1)=V.dx [D.int A k]
theorem akX(d:Dc)(l x:eJ)(n i j:Nat)(k:Int):dw (U dY []) [(35,.dz (.dx x.ds)),(39,.split),(45,.dz (.dx x.ds)),(49,.dz (.dx [.int .i64 k])),(53,.split),(55,.dz (M (n+1))),(41,.dz (M (j+1)))] 0 Tryz.f87 [2,3,6,7,8] (akQ) (yT d l [(6,M n),(7,M i),(8,M j)]) [([((decide (Int.ofNat j<(Int.ofNat x.kids.length))),true),((k==l.id),true)],
   [((0:Int)<=Int.ofNat i/\Int.ofNat i<(Int.ofNat d.ly.length)),((fc d.ly).length=d.ly.length*31),(V.dx (dn (fc d.ly) (i*31) 31)=V.dx x.ds),((0:Int)<=Int.ofNat i/\Int.ofNat i<(Int.ofNat d.ly.length)),((fc d.ly).length=d.ly.length*31),(V.dx (dn (fc d.ly) (i*31) 31)=V.dx x.ds),((0:Int)<=Int.ofNat j/\Int.ofNat j<(Int.ofNat x.kids.length)),((dO x.kids).length=x.kids.length*1),Qm x j k,(V.int A (IntKind.i64.wrap (Int.ofNat n+(1:Int)))=M (n+1)),Ql j],
   .to .normal (yT d l [(6,M (n+1)),(7,M i),(8,M (j+1))])),
  ([((decide (Int.ofNat j<(Int.ofNat x.kids.length))),true),((k==l.id),false)],
   [((0:Int)<=Int.ofNat i/\Int.ofNat i<(Int.ofNat d.ly.length)),((fc d.ly).length=d.ly.length*31),(V.dx (dn (fc d.ly) (i*31) 31)=V.dx x.ds),((0:Int)<=Int.ofNat i/\Int.ofNat i<(Int.ofNat d.ly.length)),((fc d.ly).length=d.ly.length*31),(V.dx (dn (fc d.ly) (i*31) 31)=V.dx x.ds),((0:Int)<=Int.ofNat j/\Int.ofNat j<(Int.ofNat x.kids.length)),((dO x.kids).length=x.kids.length*1),Qm x j k,Ql j],
   .to .normal (yT d l [(6,M n),(7,M i),(8,M (j+1))])),
  ([((decide (Int.ofNat j<(Int.ofNat x.kids.length))),false)],
   [((0:Int)<=Int.ofNat i/\Int.ofNat i<(Int.ofNat d.ly.length)),((fc d.ly).length=d.ly.length*31),(V.dx (dn (fc d.ly) (i*31) 31)=V.dx x.ds)],
   .to (.exit 4) (yT d l [(6,M n),(7,M i),(8,M j)]))]
 :=dj.of C C C
theorem akY(d:Dc)(l:eJ)(n i j:Nat):dw (U dY []) [(30,.dz (M (i+1)))] 0 Tryz.f87 [2,3,6,7] (dX (dX bKi)) (yT d l [(6,M n),(7,M i),(8,M j)]) [([],
   [(V.int A (IntKind.i64.wrap (Int.ofNat i+(1:Int)))=M (i+1))],
   .to .normal (yT d l [(6,M n),(7,M (i+1))]))]
 :=dj.of C C C
theorem akZ(d:Dc)(l:eJ)(n i:Nat):dw (U dY []) [(60,.split),(63,.split),(70,.split)] 0 Tryz.f87 [] (dX (dr 3 D1)) (yT d l [(6,M n),(7,M i)]) [([((l.id==d.root),true),((Int.ofNat n==(0:Int)),true)],
   [],
   .ret (.bool true) (G []) 0),
  ([((l.id==d.root),true),((Int.ofNat n==(0:Int)),false),((l.id !=d.root),true)],
   [],
   .ret (.bool (Int.ofNat n==(1:Int))) (G []) 0),
  ([((l.id==d.root),true),((Int.ofNat n==(0:Int)),false),((l.id !=d.root),false)],
   [],
   .ret (.bool false) (G []) 0),
  ([((l.id==d.root),false),((l.id !=d.root),true)],
   [],
   .ret (.bool (Int.ofNat n==(1:Int))) (G []) 0),
  ([((l.id==d.root),false),((l.id !=d.root),false)],
   [],
   .ret (.bool false) (G []) 0)]
 :=dj.of C C C
noncomputable abbrev Qn:Code:=dI Tryz.f25
noncomputable abbrev bPg:Code:=dG (dG (dX (dF (dr 1 Qn))))
noncomputable abbrev ada:Code:=dG (dF (dX bPg))
noncomputable abbrev ak0:Code:=dG (dG (dX (dX ada)))
def Qo(d:Dc)(k:Int)(r:List (Nat×V)):St:=fq ([(1,L k),(2,.ptr (some (0,0))),(4,.ptr (some (1,0)))]++r) (G [(0,.cells d.R),(1,.cells [L 0,L 0,.bool false])]) 2
def VK(d:Dc)(x:eJ)(k:Int)(r:List (Nat×V)):St:=fq ([(1,L k),(2,.ptr (some (0,0))),(4,.ptr (some (1,0))),(6,.ptr (some (2,0)))]++r) (G [(0,.cells d.R),(1,.cells [L 0,L 0,.bool false]),(2,.cells x.R)]) 3
theorem ak1(d:Dc)(k:Int):dw (U dY []) [] 0 Tryz.f25 [1,2,4] (dM 1 Qn) (dy [d.v,L k] .nil 0) [([],
   [],
   .to .normal (Qo d k []))]
 :=dj.of C C C
theorem ak2(d:Dc)(k:Int):dw (U dY []) [] 0 Tryz.f25 [1,2,4,5] (dF (dF (dr 1 Qn))) (Qo d k []) [([],
   [],
   .to .normal (Qo d k [(5,M 0)]))]
 :=dj.of C C C
theorem ak3(d:Dc)(k:Int)(i:Nat):dw (U dY []) [(12,.split)] 0 Tryz.f25 [1,2,4,5] (dF bPg) (Qo d k [(5,M i)]) [([((decide (Int.ofNat i<(Int.ofNat d.ly.length))),true)],
   [],
   .to .normal (Qo d k [(5,M i)])),
  ([((decide (Int.ofNat i<(Int.ofNat d.ly.length))),false)],
   [],
   .to (.exit 0) (Qo d k [(5,M i)]))]
 :=dj.of C C C
theorem ak4(d:Dc)(x:eJ)(k:Int)(i:Nat):dw (U dY []) [(18,.dz (.dx x.ds))] 0 Tryz.f25 [1,2,4,5,6,7] (dM 2 ada) (Qo d k [(5,M i)]) [([],
   [((0:Int)<=Int.ofNat i/\Int.ofNat i<(Int.ofNat d.ly.length)),((fc d.ly).length=d.ly.length*31),(V.dx (dn (fc d.ly) (i*31) 31)=V.dx x.ds)],
   .to .normal (VK d x k [(5,M i),(7,M 0)]))]
 :=dj.of C C C
abbrev Qp:Prop:=V.dx (dn (dO x.kids) (j*1) 1)=V.dx [D.int A e]
theorem ak5(d:Dc)(x:eJ)(k e:Int)(i j:Nat):dw (U dY []) [(24,.split),(28,.split),(35,.dz (.dx [.int .i64 e])),(38,.split),(31,.dz (M (j+1)))] 0 Tryz.f25 [1,2,4,5,6,7] (ak0) (VK d x k [(5,M i),(7,M j)]) [([((decide (Int.ofNat j<(Int.ofNat x.kids.length))),true),((x.kd==(2:Int)),true),((e==k),true)],
   [((0:Int)<=Int.ofNat j/\Int.ofNat j<(Int.ofNat x.kids.length)),((dO x.kids).length=x.kids.length*1),Qp x e j],
   .ret (.agg [.int .i64 (x.id),.int .i64 (Int.ofNat j),.bool true]) (G []) 0),
  ([((decide (Int.ofNat j<(Int.ofNat x.kids.length))),true),((x.kd==(2:Int)),true),((e==k),false)],
   [((0:Int)<=Int.ofNat j/\Int.ofNat j<(Int.ofNat x.kids.length)),((dO x.kids).length=x.kids.length*1),Qp x e j,(V.int A (IntKind.i64.wrap (Int.ofNat j+(1:Int)))=M (j+1))],
   .to .normal (VK d x k [(5,M i),(7,M (j+1))])),
  ([((decide (Int.ofNat j<(Int.ofNat x.kids.length))),true),((x.kd==(2:Int)),false)],
   [],
   .to (.exit 2) (VK d x k [(5,M i),(7,M j)])),
  ([((decide (Int.ofNat j<(Int.ofNat x.kids.length))),false)],
   [],
   .to (.exit 2) (VK d x k [(5,M i),(7,M j)]))]
 :=dj.of C C C
theorem ak6(d:Dc)(x:eJ)(k:Int)(i j:Nat):dw (U dY []) [(14,.dz (M (i+1)))] 0 Tryz.f25 [1,2,4,5] (dX (dX bPg)) (VK d x k [(5,M i),(7,M j)]) [([],
   [(V.int A (IntKind.i64.wrap (Int.ofNat i+(1:Int)))=M (i+1))],
   .to .normal (Qo d k [(5,M (i+1))]))]
 :=dj.of C C C
end
theorem ak7(d:Dc)(k:Int)(i:Nat):dw (U dY []) [] 0 Tryz.f25 [] (dX (dr 1 Qn)) (Qo d k [(5,M i)]) [([],
   [],
   .ret (.agg [.int .i64 0,.int .i64 0,.bool false]) (G []) 0)]
 :=dj.of C C C
set_option maxRecDepth 10000
theorem getD_some{α:Type}{l:List α}{i:Nat}(d:α)(h:i<l.length):l[i]? =some (l.getD i d):=by
 rw[ax,au h];rfl
theorem TH{ls:List eJ}{k:Int}:decide (Ba ls k<0)=(jy ls k).isNone:=by
 unfold Ba;cases jy ls k with
 |none=>rfl
 |some i=>exact aT (by show ¬(Int.ofNat i<0);rw[gQ];omega)
def lW(ls:List eJ)(id:Int):Nat:=(ls.map fun l=>l.kids.count id).sum
theorem Nf{ls:List eJ}{i:Nat}(h:i<ls.length)(id:Int):lW (ls.take (i+1)) id=lW (ls.take i) id+(ls.getD i gy).kids.count id:=by
 unfold lW;rw[bY,getD_some gy h];simp
def q8(d:Dc)(l:eJ):Bool:=!(l.kids.any fun k=>(jy d.ly k).isNone)&&(((l.id==d.root)&&(Int.ofNat (lW d.ly l.id)==(0:Int)))||((l.id !=d.root)&&(Int.ofNat (lW d.ly l.id)==(1:Int))))
structure F7(d:Dc):Prop where
 ly:d.ly.length<=1000000
 kids:∀l∈d.ly,l.kids.length<=1000000
theorem F7.at{d:Dc}(h:F7 d){i:Nat}(hi:i<d.ly.length):(d.ly.getD i gy).kids.length<=1000000:=h.kids _ (by rw[ax,au hi];exact bK hi)
theorem C8{l:List Int}{j:Nat}(h:j<l.length)(id:Int):(l.take (j+1)).count id=(l.take j).count id+(if l.getD j 0==id then 1 else 0):=by
 rw[bY,getD_some 0 h,List.count_append,Option.toList_some];congr 1;rw[List.count_cons,List.count_nil,b7]
theorem F8(ls:List eJ)(id:Int)(h:∀l∈ls,l.kids.length<=1000000):lW ls id<=ls.length*1000000:=by
 induction ls with
 |nil=>exact aK _
 |cons x ls ih=>
  have Q:=ih fun l hl=>h l (bj _ hl);have O:=h x (bx ..);have h3:x.kids.count id<=x.kids.length:=List.count_le_length;have e:lW (x::ls) id=x.kids.count id+lW ls id:=by unfold lW;rw[bP,List.sum_cons]
  rw[e,aP];omega
theorem adb(d:Dc)(l:eJ)(hd:F7 d)(hl:l.kids.length<=1000000)(h40:d.ly.length<=1000):dU ak 87 [d.v,l.v] (.bool (q8 d l)):=by
 refine eX Tryz.func87 (fF 1 (di _) (akR d l) all_nil ?_);have jx:=eo l.kids;refine LC 0 l.kids.length [2,3,5] (fun i=>yT d l [(5,M i)]) (fun i=>(jy d.ly (l.kids.getD i 0)).isNone) (.bool false,G [],0) (di _) (akS d l) all_nil .refl (fun i _=>⟨_,fu (atD d (l.kids.getD i 0) hd.ly) (di _),_,_,_,akT d l i (l.kids.getD i 0) _,?_⟩) (fun i hi _ ht=>?_) (fun hj=>?_)
 . have hg:=fun h=>fD (l:=l.kids) (i:=i) h
   repeat' (first|exact gH|refine dD ?_ ?_)
   all_goals
    intro B;simp only[aD,aJ,bn,aL,bh,Kk,Kl,TH]at B
   . exact⟨S (iI B.1) (S jx (S (hg B.1) (eG rfl))),B.1,B.2,rfl⟩
   . exact⟨S (iI B.1) (S jx (S (hg B.1) (S rfl (eG (gJ H))))),B.1,B.2,rfl⟩
   . exact⟨all_nil,rfl,B,rfl⟩
 . refine aI V.bool (Eq.symm ?_);unfold q8;rw[EK (d:=0) hi ht];rfl
 have e0:q8 d l=(((l.id==d.root)&&(Int.ofNat (lW d.ly l.id)==(0:Int)))||((l.id !=d.root)&&(Int.ofNat (lW d.ly l.id)==(1:Int)))):=by unfold q8;rw[Ir (d:=0) hj];rfl
 rw[e0];refine fF 1 (di _) (akU d l _) all_nil ?_;rw[show dr 1 (dX (dr 1 D1))=dr 3 D1 by kernel_rfl];have A8:TG ak 0 Tryz.f87.ntmps (dX (dr 3 D1)) (yT d l [(6,M (lW d.ly l.id)),(7,M d.ly.length)]) (fH ak 0 Tryz.f87 fun u _ _=>u= .bool (((l.id==d.root)&&(Int.ofNat (lW d.ly l.id)==(0:Int)))||((l.id !=d.root)&&(Int.ofNat (lW d.ly l.id)==(1:Int))))):=by
  refine eK (di _) (akZ d l _ _) ?_
  repeat' (first|exact gH|refine dD ?_ ?_)
  all_goals
   intro B;simp only[aD,aJ,bn,aL,bh]at B;exact⟨all_nil,_,_,_,rfl,aI V.bool (by simp only[B,aN,aS,cC,cr,cq])⟩
 have zQ:=gj d.ly;have hcn:=F8 d.ly l.id hd.kids;have hcm:∀i,lW (d.ly.take i) l.id<=d.ly.length*1000000:=fun i=>bE (F8 _ l.id fun x I=>hd.kids x (cJ I)) (cI _ (by rw[bq];omega));refine dK C (dK C (gv (di _) eE (akV d l) (dB (g0 ⟨all_nil,fun X dQ=>?_⟩))));refine S9 2 d.ly.length (fun i=>yT d l [(6,M (lW (d.ly.take i) l.id)),(7,M i)]) C C (.norm dQ) (fun i hi=>?_) ?_
 . refine qt (di _) eE (ac9 d l _ i) (dD (g1 fun _=>⟨all_nil,?_⟩) (dB (g1 fun h=>absurd (r9 h) H)));refine dK C (fh (i:=3) C (qt (di _) eE (akW d l _ i) (dB (g0 ⟨all_nil,?_⟩))));have I:=iw (l:=d.ly) hi;have W:=hd.at hi;have vK:=Nf hi l.id;have h0:=hcm i;have Q:=hcm (i+1);generalize d.ly.getD i gy=x at I W vK;have Jy:=eo x.kids;refine EH (fn:=Tryz.f87) 4 eE [2,3,6,7,8] (x.kids.length-·) (. <=x.kids.length) (fun j=>yT d l [(6,M (lW (d.ly.take i) l.id+(x.kids.take j).count l.id)),(7,M i),(8,M j)]) 0 (aU _) .refl (fun j hj=>?_);refine⟨_,di _,_,_,_,akX d l x _ i j (x.kids.getD j 0),?_⟩;have hg:=fun h=>fD (l:=x.kids) (i:=j) h;have hcj:(x.kids.take j).count l.id<=x.kids.length:=bE List.count_le_length (by rw[bq];omega)
   repeat' (first|exact gH|refine dD ?_ ?_)
   all_goals
    intro B;simp only[aD,aJ,bn,aL,bh,Kk,Kl]at B
   . have OG:=C8 B.1 l.id;rw[B.2,aG rfl]at OG;refine⟨?_,j+1,by show x.kids.length-(j+1)<x.kids.length-j;omega,B.1,?_⟩
     . repeat' (first|exact all_nil|refine S ?_ ?_)
       all_goals first
        |exact iI hi
        |exact zQ
        |exact I
        |exact iI B.1
        |exact Jy
        |exact hg B.1
        |exact gJ H
     . show ek _ _ _ _ (yT d l [(6,M (lW (d.ly.take i) l.id+(x.kids.take (j+1)).count l.id)),(7,M i),(8,M (j+1))]);rw[OG];exact .refl
   . have OG:=C8 B.1 l.id;rw[B.2,aB eY,Nat.add_zero]at OG;refine⟨?_,j+1,by show x.kids.length-(j+1)<x.kids.length-j;omega,B.1,?_⟩
     . repeat' (first|exact all_nil|refine S ?_ ?_)
       all_goals first
        |exact iI hi
        |exact zQ
        |exact I
        |exact iI B.1
        |exact Jy
        |exact hg B.1
        |exact gJ H
     . show ek _ _ _ _ (yT d l [(6,M (lW (d.ly.take i) l.id+(x.kids.take (j+1)).count l.id)),(7,M i),(8,M (j+1))]);rw[OG];exact .refl
   . refine⟨S (iI hi) (S zQ (eG I)),fun s2 pH=>?_⟩;rw[gY];obtain rfl:j=x.kids.length:=by omega
     rw[bz,<- vK]at pH;show TG _ _ _ (dX (dX bKi)) s2 _;refine fU pH (gv (di _) eE (akY d l _ i _) (dB (g0 ⟨eG (gJ H),fun s3 Lz=>?_⟩)));exact .norm Lz
 . refine qt (di _) eE (ac9 d l _ _) (dD (g1 fun h=>absurd (jW h) H) (dB (g1 fun _=>⟨all_nil,fun s2 pH=>⟨by simp,?_⟩⟩)));rw[gY];rw[bz]at pH;exact fU pH A8
def jt:List eJ->Int->Option (Int×Nat)
 | [],_=>none
 |x::ls,k=>match(if x.kd=2 then x.kids.findIdx? (. ==k)else none)with
  |some j=>some (x.id,j)
  |none=>jt ls k
def xh:Option (Int×Nat)->V
 |some (i,j)=>.agg [L i,M j,.bool true]
 |none=>.agg [L 0,L 0,.bool false]
theorem zR{ls:List eJ}{i:Nat}(h:i<ls.length)(k:Int):jt (ls.drop i) k=match(if(ls.getD i gy).kd=2 then(ls.getD i gy).kids.findIdx? (. ==k)else none)with
  |some j=>some ((ls.getD i gy).id,j)
  |none=>jt (ls.drop (i+1)) k:=by
 rw[b9 h];have e:ls.getD i gy=ls[i]:=by rw[ax,au h];rfl
 rw[e];rfl
theorem Ng{l:List Int}{j:Nat}{k:Int}(h:j<l.length)(Q:(l.getD j 0==k)=true)(O:∀i,i<j->(l.getD i 0==k)=false):l.findIdx? (. ==k)=some j:=by
 rw[bO];refine⟨h,?_,fun i hi=>?_⟩
 . rw[ax,au h]at Q;exact Q
 . have:=O i hi;rw[ax,au H]at this;simpa using this
theorem Nh{l:List Int}{k:Int}(O:∀i,i<l.length->(l.getD i 0==k)=false):l.findIdx? (. ==k)=none:=by
 rw[cH];intro x I;obtain⟨j,hj,rfl⟩:=b6 I;have:=O j hj;rw[ax,au hj]at this;exact this
theorem ak8(d:Dc)(k:Int)(hd:F7 d):dU ak 25 [d.v,L k] (xh (jt d.ly k)):=by
 refine qL Tryz.func25 (fF 1 (di _) (ak1 d k) all_nil ?_);have zQ:=gj d.ly;have hw:(xh (jt d.ly k)).deep=true/\(xh (jt d.ly k)).nl=xh (jt d.ly k):=by
  cases jt d.ly k with
  |none=>exact⟨rfl,rfl⟩
  |some p=>exact⟨rfl,rfl⟩
 have hQ:∀(v:V) (h:J h2) (n:Nat),v=xh (jt d.ly k)->vD (xh (jt d.ly k)) v h n:=fun v h n e=>by subst e;exact vD.self hw.1 hw.2
 have A8:=fun(e:jt d.ly k=none)=>eK (cs:=vD (xh (jt d.ly k))) (di _) (ak7 d k d.ly.length) (dB (g0 ⟨all_nil,_,_,_,rfl,hQ _ _ _ (by rw[e];rfl)⟩)) (fr:=Tryz.f25.ntmps);have Tu:∀(v:V) (h:J h2) (n:Nat),v=xh (jt d.ly k)->vD (xh (jt d.ly k)) v h n/\∀X,fH ak 0 Tryz.f25 (vD (xh (jt d.ly k))) .ret X->fH ak 0 Tryz.f25 (vD (xh (jt d.ly k))) .ret X:=fun v h n e=>⟨hQ v h n e,fun _ h=>h⟩;refine dK C (dK C (gv (di _) eE (ak2 d k) (dB (g0 ⟨all_nil,fun X dQ=>?_⟩))));refine fh (i:=0) C (jD (fun m s=>∃i,m=d.ly.length-i/\i<=d.ly.length/\jt d.ly k=jt (d.ly.drop i) k/\ek ak 0 Tryz.f25.ntmps s (Qo d k [(5,M i)])) C ?_ d.ly.length ⟨0,rfl,aU _,rfl,.norm dQ⟩);rintro m s1 ⟨i,rfl,hi,hp,pW⟩;refine pW _ _ ?_;refine qt (di _) eE (ak3 d k i) (dD (g1 fun h=>⟨all_nil,?_⟩) (dB (g1 fun h=>⟨all_nil,fun s2 pH=>?_⟩)))
 . have eO:=jW h;have I:=iw (l:=d.ly) eO;have W:=hd.at eO;have vK:=zR eO k;generalize d.ly.getD i gy=x at I W vK;have Jy:=eo x.kids;refine dK C (fh (i:=1) C (fF 2 (di _) (ak4 d x k i) (S (iI eO) (S zQ (eG I))) ?_));have oI:∀j s2,ld 0 [1,2,4,5,6,7] s2=some (VK d x k [(5,M i),(7,M j)])->jt (d.ly.drop i) k=jt (d.ly.drop (i+1)) k->TG ak 0 Tryz.f25.ntmps (dX (dX bPg)) s2 (andThen (fun s=>∃m',m'<d.ly.length-i/\∃i,m'=d.ly.length-i/\i<=d.ly.length/\jt d.ly k=jt (d.ly.drop i) k/\ek ak 0 Tryz.f25.ntmps s (Qo d k [(5,M i)])) (gk 0 (andThen (fun X=>TG ak 0 Tryz.f25.ntmps (dX (dr 1 Qn)) X (fH ak 0 Tryz.f25 (vD (xh (jt d.ly k))))) (fH ak 0 Tryz.f25 (vD (xh (jt d.ly k))))))):=fun j s2 pH he=>
    fU pH (gv (di _) eE (ak6 d x k i j) (dB (g0 ⟨eG (gJ (by have:=hd.ly;omega)),fun s3 Lz=>⟨d.ly.length-(i+1),H,i+1,rfl,eO,by rw[hp,he],.norm Lz⟩⟩)))
   refine EH (fn:=Tryz.f25) 2 (vD (xh (jt d.ly k))) [1,2,4,5,6,7] (x.kids.length-·) (fun j=>j<=x.kids.length/\∀q,q<j->(x.kids.getD q 0==k)=false) (fun j=>VK d x k [(5,M i),(7,M j)]) 0 ⟨aU _,fun _ h=>absurd h (bC _)⟩ .refl (fun j ⟨hj,hq⟩=>?_);refine⟨_,di _,_,_,_,ak5 d x k (x.kids.getD j 0) i j,?_⟩;have hg:=fun h=>fD (l:=x.kids) (i:=j) h
   repeat' (first|exact gH|refine dD ?_ ?_)
   all_goals
    intro B;simp only[aD,aJ,bn,aL,bh,Kk,Kl]at B
   . refine⟨S (iI B.1) (S Jy (eG (hg B.1))),Tu _ _ _ ?_⟩;rw[hp,vK,aG (xg.1 B.2.1),Ng B.1 B.2.2 hq];rfl
   . refine⟨S (iI B.1) (S Jy (S (hg B.1) (eG (gJ H)))),j+1,by show x.kids.length-(j+1)<x.kids.length-j;omega,⟨B.1,fun q hqj=>?_⟩,.refl⟩;rcases bt q j with z|z
     . exact hq q z
     . obtain rfl:q=j:=by omega
       exact B.2.2
   . refine⟨all_nil,fun s2 pH=>?_⟩;rw[gY];exact oI j s2 pH (by rw[vK,aB (by have:=B.2;simpa using this)])
   . refine⟨all_nil,fun s2 pH=>?_⟩;rw[gY];refine oI j s2 pH ?_;rw[vK];split
     . rename_i q Z7;split at Z7
       . rw[Nh (fun q hqj=>hq q H)]at Z7;cases Z7
       . cases Z7
     . rfl
 . simp only[andThen];rw[gY];obtain rfl:i=d.ly.length:=by have:=r9 h;omega
   exact fU pH (A8 (by rw[hp,List.drop_length];rfl))
set_option maxRecDepth 10000
noncomputable abbrev Bc:Code:=dI Tryz.f103
def sSx(d:Dc)(id:Int)(fR:Bool)(r:List (Nat×V)):St:=fq ([(1,L id),(2,.bool fR),(3,.ptr (some (0,0)))]++r) (G [(0,.cells d.R)]) 1
theorem ak9(d:Dc)(id a:Int)(fR:Bool):dw (U (fb 24 [d.v,L id] (L a) dY) []) [] 0 Tryz.f103 [1,2,3,7] (dM 2 Bc) (dy [d.v,L id,.bool fR] .nil 0) [([],
   [(fa [d.v,L id])],
   .to .normal (sSx d id fR [(7,L a)]))]
 :=dj.of C C C
theorem ala(d:Dc)(id:Int)(fR:Bool):dw (U dY []) [] 0 Tryz.f103 [] (dM 1 (dr 2 Bc)) (sSx d id fR [(7,L (-1))]) [([],
   [],
   .ret (.eR none 0 0 0) (G []) 0)]
 :=dj.of C C C
theorem alb(d:Dc)(id:Int)(fR:Bool)(n:Nat):dw (U dY []) [(15,.dz (.bool false))] 0 Tryz.f103 [1,2,3,7] (dM 1 (dr 2 Bc)) (sSx d id fR [(7,M n)]) [([],
   [(V.bool (decide (Int.ofNat n<(0:Int)))=V.bool false)],
   .to .normal (sSx d id fR [(7,M n)]))]
 :=dj.of C C C
def sSy(d:Dc)(id:Int)(fR:Bool)(n:Nat)(ps:List Int):St:=fq [(1,L id),(2,.bool fR),(3,.ptr (some (0,0))),(7,M n),(8,.eR (some (1,0)) ps.length ps.length 1)] (G [(0,.cells d.R),(1,.deep (dO ps))]) 2
def sSz(d:Dc)(id:Int)(fR:Bool)(n:Nat)(ps:List Int)(a b:Int)(o:Bool):St:=fq [(1,L id),(2,.bool fR),(3,.ptr (some (0,0))),(7,M n),(8,.eR (some (1,0)) ps.length ps.length 1),(9,.ptr (some (2,0)))] (G [(0,.cells d.R),(1,.deep (dO ps)),(2,.cells [L a,L b,.bool o])]) 3
theorem ald(d:Dc)(id:Int)(fR:Bool)(n:Nat)(x:eJ)(ps:List Int):dw (U (fb 98 [x.v] (fj ps) dY) []) [(20,.dz (.dx x.ds))] 0 Tryz.f103 [1,2,3,7,8] (dM 1 (dr 3 Bc)) (sSx d id fR [(7,M n)]) [([],
   [((0:Int)<=Int.ofNat n/\Int.ofNat n<(Int.ofNat d.ly.length)),((fc d.ly).length=d.ly.length*31),(V.dx (dn (fc d.ly) (n*31) 31)=V.dx x.ds),(fa [x.v]),((dO ps).length=ps.length*1),(fo (0+ps.length) 1 8=true)],
   .to .normal (fq [(1,.int .i64 id),(2,.bool fR),(3,.ptr (some (0,0))),(7,.int .i64 (Int.ofNat n)),(8,.eR (some (1,0)) (0+ps.length) (0+ps.length) 1)] (G [(0,.cells [.eB false (d.sp.length) (mE d.sp),.int .i64 (d.root),.int .i64 (d.nx),.eB false (d.ly.length) (fc d.ly)]),(1,.deep ([]++dO ps))]) 2))]
 :=dj.of C C C
theorem adf(d:Dc)(id:Int)(fR:Bool)(n:Nat)(ps:List Int)(a b:Int)(o:Bool):dw (U (fb 25 [d.v,L id] (.agg [L a,L b,.bool o]) dY) []) [] 0 Tryz.f103 [1,2,3,7,8,9] (dM 1 (dr 4 Bc)) (sSy d id fR n ps) [([],
   [(fa [d.v,L id])],
   .to .normal (sSz d id fR n ps a b o))]
 :=dj.of C C C
noncomputable abbrev TI:Code:=dF (dr 5 Bc)
def TJ(d:Dc)(id:Int)(fR:Bool)(n:Nat)(ps:List Int)(a b:Int)(o q:Bool):St:=fq [(1,L id),(2,.bool fR),(3,.ptr (some (0,0))),(7,M n),(8,.eR (some (1,0)) ps.length ps.length 1),(9,.ptr (some (2,0))),(40,.bool q)] (G [(0,.cells d.R),(1,.deep (dO ps)),(2,.cells [L a,L b,.bool o])]) 3
theorem adg(d:Dc)(id:Int)(n:Nat)(x:eJ)(ps:List Int)(a b:Int)(o:Bool):dw (U dY []) [(32,.dz (.dx x.ds)),(35,.split),(39,.split)] 0 Tryz.f103 [1,2,3,7,8,9,40] (dF TI) (sSz d id true n ps a b o) [([((x.kd==(3:Int)),true),(o,true)],
   [((0:Int)<=Int.ofNat n/\Int.ofNat n<(Int.ofNat d.ly.length)),((fc d.ly).length=d.ly.length*31),(V.dx (dn (fc d.ly) (n*31) 31)=V.dx x.ds)],
   .to .normal (TJ d id true n ps a b o true)),
  ([((x.kd==(3:Int)),true),(o,false)],
   [((0:Int)<=Int.ofNat n/\Int.ofNat n<(Int.ofNat d.ly.length)),((fc d.ly).length=d.ly.length*31),(V.dx (dn (fc d.ly) (n*31) 31)=V.dx x.ds)],
   .to .normal (TJ d id true n ps a b o false)),
  ([((x.kd==(3:Int)),false)],
   [((0:Int)<=Int.ofNat n/\Int.ofNat n<(Int.ofNat d.ly.length)),((fc d.ly).length=d.ly.length*31),(V.dx (dn (fc d.ly) (n*31) 31)=V.dx x.ds)],
   .to .normal (TJ d id true n ps a b o false))]
 :=dj.of C C C
theorem ale(d:Dc)(id:Int)(n:Nat)(ps:List Int)(a b:Int)(o:Bool):dw (U dY []) [] 0 Tryz.f103 [1,2,3,7,8,9,40] (dF TI) (sSz d id false n ps a b o) [([],
   [],
   .to .normal (TJ d id false n ps a b o false))]
 :=dj.of C C C
theorem alf(d:Dc)(id:Int)(fR:Bool)(n m j:Nat)(g:eJ)(ps:List Int)(a:Int)(o:Bool):dw (U (fb 24 [d.v,L a] (M m) dY) []) [(47,.dz (.dx g.ds))] 0 Tryz.f103 [8] (lK (dX TI)) (TJ d id fR n ps a (Int.ofNat j) o true) [([],
   [(fa [d.v,L a]),((0:Int)<=Int.ofNat m/\Int.ofNat m<(Int.ofNat d.ly.length)),((fc d.ly).length=d.ly.length*31),(V.dx (dn (fc d.ly) (m*31) 31)=V.dx g.ds),((dO g.kids).length=g.kids.length*1),((0:Int)<=Int.ofNat j/\Int.ofNat j<=(Int.ofNat g.kids.length)),((dn (dO g.kids) 0 ((j-0)*1)).length=(j-0)*1),(0+ps.length*1<=(dO ps).length),(fo (ps.length+(j-0)) 1 8=true)],
   .to .normal (fq [(8,.eR (some (0,0)) (ps.length+(j-0)) (ps.length+(j-0)) 1)] (G [(0,.deep (List.take (ps.length*1) (List.drop 0 (dO ps))++dn (dO g.kids) 0 ((j-0)*1)))]) 1))]
 :=dj.of C C C
theorem alg(d:Dc)(id:Int)(fR:Bool)(n:Nat)(ps:List Int)(a b:Int)(o:Bool):dw (U dY []) [] 0 Tryz.f103 [] (dX (dr 5 Bc)) (TJ d id fR n ps a b o false) [([],
   [],
   .ret (.eR (some (0,0)) (ps.length) (ps.length) 1) (G [(0,.deep (dO ps))]) 1)]
 :=dj.of C C C
theorem alh(qs:List Int):dw (U dY []) [] 0 Tryz.f103 [] (dX (dr 5 Bc)) (fq [(8,fj qs)] (G []) 0) [([],
   [],
   .ret (.eB false (qs.length) (dO qs)) (G []) 0)]
 :=dj.of C C C
noncomputable abbrev yx:Code:=dI Tryz.f56
noncomputable abbrev bRe:Code:=dG (dG (dF (dr 3 yx)))
noncomputable abbrev XY:Code:=dG (dX bRe)
def mRe(d:Dc)(r:af):J h2:=G ((0,.cells d.R)::r)
def Kr:ai->Option (ah×V)
 | [.eB n R,.int .i64 k]=>some ([R=dO (ee R),n=(ee R).length,n<=1000000],.bool ((ee R).contains k))
 |_=>none
noncomputable abbrev Whs:gF:=jZ 55 (wo Kr) dY
def Iv(d:Dc)(fR:Bool)(td:List Int)(r:List (Nat×V)):St:=fq ([(2,.bool fR),(3,.ptr (some (0,0))),(7,.eR (some (1,0)) 0 0 1),(8,fj td)]++r) (mRe d [(1,.cells [])]) 2
def F9(d:Dc)(fR:Bool)(l td:List Int)(r:List (Nat×V)):St:=fq ([(2,.bool fR),(3,.ptr (some (0,0))),(7,.eR (some (1,0)) l.length l.length 1),(8,fj td)]++r) (mRe d [(1,.own .i64 l)]) 2
theorem alk(d:Dc)(id:Int)(fR:Bool)(ts:List Int):dw (U (fb 103 [d.v,L id,.bool fR] (fj ts) dY) []) [] 0 Tryz.f56 [2,3,7,8] (dM 3 yx) (dy [d.v,L id,.bool fR] .nil 0) [([],
   [(fa [d.v,L id,.bool fR])],
   .to .normal (Iv d fR ts []))]
 :=dj.of C C C
theorem adh(d:Dc)(fR:Bool)(td:List Int):dw (U dY []) [(17,.split)] 0 Tryz.f56 [2,3,7,8] (dF bRe) (Iv d fR td []) [([((decide ((Int.ofNat td.length)>(0:Int))),true)],
   [],
   .to .normal (Iv d fR td [])),
  ([((decide ((Int.ofNat td.length)>(0:Int))),false)],
   [],
   .to (.exit 0) (Iv d fR td []))]
 :=dj.of C C C
theorem VL(d:Dc)(fR:Bool)(l td:List Int):dw (U dY []) [(17,.split)] 0 Tryz.f56 [2,3,7,8] (dF bRe) (F9 d fR l td []) [([((decide ((Int.ofNat td.length)>(0:Int))),true)],
   [],
   .to .normal (F9 d fR l td [])),
  ([((decide ((Int.ofNat td.length)>(0:Int))),false)],
   [],
   .to (.exit 0) (F9 d fR l td []))]
 :=dj.of C C C
theorem alm(d:Dc)(fR:Bool)(td:List Int)(x:Int):dw (U Whs []) [(19,.dz (.dx [.int .i64 x])),(22,.dz (fj td))] 0 Tryz.f56 [2,3,7,8,9,26] (dM 3 XY) (Iv d fR (x::td) []) [([],
   [((0:Int)<=(0:Int)/\(0:Int)<(Int.ofNat (x::td).length)),((dO (x::td)).length=(x::td).length*1),(V.dx (dn (dO (x::td)) 0 1)=V.dx [D.int A x]),((dO (x::td)).length=(x::td).length*1),((0:Int)<=(1:Int)/\(1:Int)<=(Int.ofNat (x::td).length)),(V.eB false ((x::td).length-1) (dn (dO (x::td)) 1 (((x::td).length-1)*1))=fj td),(0=0),([]=dO (ee [])),(0=0),(0<=1000000)],
   .to .normal (fq [(2,.bool fR),(3,.ptr (some (0,0))),(7,.eR (some (1,0)) 0 0 1),(8,.eB false (td.length) (dO td)),(9,.int .i64 x),(26,.bool true)] (G [(0,.cells [.eB false (d.sp.length) (mE d.sp),.int .i64 (d.root),.int .i64 (d.nx),.eB false (d.ly.length) (fc d.ly)]),(1,.cells [])]) 2))]
 :=dj.of C C C
abbrev LF(td:List Int)(x:Int):Prop:=V.eB false ((x::td).length-1) (dn (dO (x::td)) 1 (((x::td).length-1)*1))=fj td
theorem adi(d:Dc)(fR:Bool)(l td:List Int)(x:Int):dw (U Whs []) [(19,.dz (.dx [.int .i64 x])),(22,.dz (fj td)),(26,.split)] 0 Tryz.f56 [2,3,7,8,9,26] (dM 3 XY) (F9 d fR l (x::td) []) [([((!(ee (dO l)).contains x),true)],
   [((0:Int)<=(0:Int)/\(0:Int)<(Int.ofNat (x::td).length)),((dO (x::td)).length=(x::td).length*1),(V.dx (dn (dO (x::td)) 0 1)=V.dx [D.int A x]),((dO (x::td)).length=(x::td).length*1),((0:Int)<=(1:Int)/\(1:Int)<=(Int.ofNat (x::td).length)),LF td x,((dO l).length=l.length*1),(dO l=dO (ee (dO l))),(l.length=(ee (dO l)).length),(l.length<=1000000)],
   .to .normal (fq [(2,.bool fR),(3,.ptr (some (0,0))),(7,.eR (some (1,0)) (l.length) (l.length) 1),(8,.eB false (td.length) (dO td)),(9,.int .i64 x),(26,.bool true)] (G [(0,.cells [.eB false (d.sp.length) (mE d.sp),.int .i64 (d.root),.int .i64 (d.nx),.eB false (d.ly.length) (fc d.ly)]),(1,.own .i64 l)]) 2)),
  ([((!(ee (dO l)).contains x),false)],
   [((0:Int)<=(0:Int)/\(0:Int)<(Int.ofNat (x::td).length)),((dO (x::td)).length=(x::td).length*1),(V.dx (dn (dO (x::td)) 0 1)=V.dx [D.int A x]),((dO (x::td)).length=(x::td).length*1),((0:Int)<=(1:Int)/\(1:Int)<=(Int.ofNat (x::td).length)),LF td x,((dO l).length=l.length*1),(dO l=dO (ee (dO l))),(l.length=(ee (dO l)).length),(l.length<=1000000)],
   .to .normal (fq [(2,.bool fR),(3,.ptr (some (0,0))),(7,.eR (some (1,0)) (l.length) (l.length) 1),(8,.eB false (td.length) (dO td)),(9,.int .i64 x),(26,.bool false)] (G [(0,.cells [.eB false (d.sp.length) (mE d.sp),.int .i64 (d.root),.int .i64 (d.nx),.eB false (d.ly.length) (fc d.ly)]),(1,.own .i64 l)]) 2))]
 :=dj.of C C C
noncomputable abbrev XZ:Code:=dr 3 XY
theorem aln(d:Dc)(fR:Bool)(td ts:List Int)(x:Int):dw (U (fb 103 [d.v,L x,.bool fR] (fj ts) dY) []) [] 0 Tryz.f56 [2,3,7,8] (lK XZ) (Iv d fR td [(9,L x),(26,.bool true)]) [([],
   [((dO td).length=td.length*1),(fo (0+td.length) 1 8=true),(fa [d.v,L x,.bool fR]),((dO ts).length=ts.length*1),(0+(0+td.length)*1<=([]++dO td).length),(fo (0+td.length+ts.length) 1 8=true)],
   .to .normal (fq [(2,.bool fR),(3,.ptr (some (0,0))),(7,.eR (some (1,0)) 1 1 1),(8,.eR (some (2,0)) (0+td.length+ts.length) (0+td.length+ts.length) 1)] (G [(0,.cells [.eB false (d.sp.length) (mE d.sp),.int .i64 (d.root),.int .i64 (d.nx),.eB false (d.ly.length) (fc d.ly)]),(1,.cells [.int .i64 x]),(2,.deep (List.take ((0+td.length)*1) (List.drop 0 ([]++dO td))++dO ts))]) 3))]
 :=dj.of C C C
theorem adk(d:Dc)(fR:Bool)(l td ts:List Int)(x:Int):dw (U (fb 103 [d.v,L x,.bool fR] (fj ts) dY) []) [] 0 Tryz.f56 [2,3,7,8] (lK XZ) (F9 d fR l td [(9,L x),(26,.bool true)]) [([],
   [(0<l.length),(0+l.length*1<=l.length),(0<1),(fo (l.length+1) 1 8=true),((dO td).length=td.length*1),(fo (0+td.length) 1 8=true),(fa [d.v,L x,.bool fR]),((dO ts).length=ts.length*1),(0+(0+td.length)*1<=([]++dO td).length),(fo (0+td.length+ts.length) 1 8=true)],
   .to .normal (fq [(2,.bool fR),(3,.ptr (some (0,0))),(7,.eR (some (1,0)) (l.length+1) (l.length+1) 1),(8,.eR (some (2,0)) (0+td.length+ts.length) (0+td.length+ts.length) 1)] (G [(0,.cells [.eB false (d.sp.length) (mE d.sp),.int .i64 (d.root),.int .i64 (d.nx),.eB false (d.ly.length) (fc d.ly)]),(1,.own .i64 (List.take (l.length*1) (List.drop 0 l)++[x])),(2,.deep (List.take ((0+td.length)*1) (List.drop 0 ([]++dO td))++dO ts))]) 3))]
 :=dj.of C C C
theorem alo(d:Dc)(fR:Bool)(l td:List Int)(x:Int):dw (U dY []) [] 0 Tryz.f56 [2,3,7,8] (oW XZ) (F9 d fR l td [(9,L x),(26,.bool false)]) [([],
   [],
   .to .normal (F9 d fR l td []))]
 :=dj.of C C C
theorem alp(d:Dc)(fR:Bool)(td:List Int):dw (U dY []) [] 0 Tryz.f56 [] (dX (dr 3 yx)) (Iv d fR td []) [([],
   [],
   .ret (.eR (some (0,0)) 0 0 1) (G [(0,.cells [])]) 1)]
 :=dj.of C C C
theorem adl(d:Dc)(fR:Bool)(l td:List Int):dw (U dY []) [] 0 Tryz.f56 [] (dX (dr 3 yx)) (F9 d fR l td []) [([],
   [],
   .ret (.eR (some (0,0)) (l.length) (l.length) 1) (G [(0,.own .i64 l)]) 1)]
 :=dj.of C C C
set_option maxRecDepth 10000
theorem Ks{k:Nat}(h:k<=1000000000):fo k 1 8=true:=by
 unfold fo;exact aZ ⟨H,H⟩
section
variable(ls:List eJ)(id:Int)
def Iw:Prop:=(ls.map (·.id)).Nodup
def jr:List Int:=match jt ls id with
 |some (g,j)=>match jy ls g with
  |some m=>(ls.getD m gy).kids.take j
  |none=>[]
 |none=>[]
def ia(fR:Bool)(id:Int):List Int:=match jy ls id with
 |some n=>fN (ls.getD n gy)++(if fR=true/\(ls.getD n gy).kd=3 then jr ls id else[])
 |none=>[]
end
theorem C9:∀{ls:List eJ} {k g:Int} {j:Nat},jt ls k=some (g,j)->∃x∈ls,x.id=g/\x.kd=2/\j<x.kids.length/\x.kids.getD j 0=k
 | [],_,_,_,h=>by cases h
 |x::ls,k,g,j,h=>by
  unfold jt at h;split at h
  . rename_i q hq;split at hq
    . rename_i W;simp only[aq,aF]at h;obtain⟨rfl,rfl⟩:=h;rw[bO]at hq;obtain⟨Q,O,_⟩:=hq;exact⟨x,bx ..,rfl,W,Q,by rw[ax,au Q];simpa using O⟩
    . cases hq
  . obtain⟨y,Q,O⟩:=C9 h;exact⟨y,bj _ Q,O⟩
theorem yy{ls:List eJ}(hu:Iw ls){x:eJ}(I:x∈ls):∃m,jy ls x.id=some m/\m<ls.length/\ls.getD m gy=x:=by
 obtain⟨m,K,rfl⟩:=b6 I;have e:ls.getD m gy=ls[m]:=by rw[ax,au K];rfl
 refine⟨m,Iq K (by rw[e];simp) (fun j hj=>?_),K,e⟩;have xy:j<ls.length:=by omega
 rw[ax,au xy];simp only[ck,b5,ne_eq];intro h;have:=(List.getElem_inj (h₀:=by simpa using xy) (h₁:=by simpa using K) hu).1 (by simpa using h);omega
theorem jn{ls:List eJ}{k:Int}{n:Nat}(h:jy ls k=some n):n<ls.length/\(ls.getD n gy).id=k/\ls.getD n gy∈ls:=by
 unfold jy at h;rw[bO]at h;obtain⟨Q,O,_⟩:=h;have e:ls.getD n gy=ls[n]:=by rw[ax,au Q];rfl
 rw[e];exact⟨Q,by simpa using O,bK Q⟩
theorem Qq{d:Dc}(hd:F7 d){x:eJ}(I:x∈d.ly):(fN x).length<=1000000:=by
 unfold fN;split
 . simp
 . exact hd.kids x I
theorem X3(d:Dc)(id:Int)(fR:Bool)(hd:F7 d)(hu:fR=true->Iw d.ly):dU ak 103 [d.v,L id,.bool fR] (fj (ia d.ly fR id)):=by
 have hA:=atD d id hd.ly;have zQ:=gj d.ly;refine qL Tryz.func103 (fF 2 (fu hA (di _)) (ak9 d id _ fR) (eG rfl) ?_);cases mV:jy d.ly id with
 |none=>
  have e1:Ba d.ly id= -1:=by unfold Ba;rw[mV]
  have e2:ia d.ly fR id=[]:=by unfold ia;rw[mV]
  rw[e1,e2];exact isH 1 (di _) (ala d id fR) (dB (g0 ⟨all_nil,vD.self C C⟩))
 |some n=>
  have e1:Ba d.ly id=Int.ofNat n:=by unfold Ba;rw[mV]
  obtain⟨hn,hid,qx⟩:=jn mV;have I:=iw (l:=d.ly) hn;have vL:=Qq hd qx;have e2:ia d.ly fR id=fN (d.ly.getD n gy)++(if fR=true/\(d.ly.getD n gy).kd=3 then jr d.ly id else[]):=by unfold ia;rw[mV]
  rw[e1,e2];have hP:=Qf (d.ly.getD n gy);generalize d.ly.getD n gy=x at *;refine fF 1 (di _) (alb d id fR n) (eG (aI V.bool (aT V3))) ?_;rw[gS];have h4:=ald d id fR n x (fN x);rw[b7,cP]at h4;refine fF 1 (fu hP (di _)) h4 (S (iI hn) (S zQ (S I (S rfl (S (eo _) (eG (Ks H))))))) ?_;rw[gS];generalize fN x=ps at *;have hR:=ak8 d id hd;have oI:∀(a b:Int) (o:Bool),(if fR=true/\x.kd=3 then jr d.ly id else[])=[]->TG ak 0 Tryz.f103.ntmps (dX (dr 5 Bc)) (TJ d id fR n ps a b o false) (fH ak 0 Tryz.f103 (vD (fj (ps++(if fR=true/\x.kd=3 then jr d.ly id else[]))))):=fun a b o e=>by
   rw[e,List.append_nil];exact eK (di _) (alg d id fR n ps a b o) (dB (g0 ⟨all_nil,_,_,_,rfl,.Bu (v0:=fj ps) [0] (aj:=[(dO ps).length=ps.length*1]) C (eG (eo _)) C C⟩))
  have skip:∀(a b:Int) (o:Bool),(if fR=true/\x.kd=3 then jr d.ly id else[])=[]->TG ak 0 Tryz.f103.ntmps (dX TI) (TJ d id fR n ps a b o false) (andThen (fun X=>TG ak 0 Tryz.f103.ntmps (dX (dr 5 Bc)) X (fH ak 0 Tryz.f103 (vD (fj (ps++(if fR=true/\x.kd=3 then jr d.ly id else[])))))) (fH ak 0 Tryz.f103 (vD (fj (ps++(if fR=true/\x.kd=3 then jr d.ly id else[])))))):=fun a b o e=>
   jR (t:=false) C C (fun h=>by cases h) (fun _=>qH (cf:=fun _ _ _ _=>none) (n0:=10) (fun _ _ _ _ _ _ _ e=>by cases e) mo C (x:=.normal) (y:=.normal) (X:=TJ d id fR n ps a b o false) C rfl (oI a b o e))
  have no1:∀(a b:Int) (o:Bool),(if fR=true/\x.kd=3 then jr d.ly id else[])=[]->xh (jt d.ly id)= .agg [L a,L b,.bool o]->(fR=true->x.kd=3->o=false)->TG ak 0 Tryz.f103.ntmps (dr 4 Bc) (sSy d id fR n ps) (fH ak 0 Tryz.f103 (vD (fj (ps++(if fR=true/\x.kd=3 then jr d.ly id else[]))))):=fun a b o e ep ho=>by
   rw[ep]at hR;refine fF 1 (fu hR (di _)) (adf d id fR n ps a b o) (eG rfl) ?_;rw[gS];refine dK C ?_;cases fR with
   |false=>exact qt (di _) eE (ale d id n ps a b o) (dB (g0 ⟨all_nil,skip a b o e⟩))
   |true=>
    have aj:=S (iI hn) (S zQ (eG I));refine qt (di _) eE (adg d id n x ps a b o) (dD (g2 fun Q O=>?_) (dD (g2 fun Q O=>⟨aj,skip a b o e⟩) (dB (g1 fun Q=>⟨aj,skip a b o e⟩))));rw[ho rfl (xg.1 Q)]at O;cases O
  by_cases B:fR=true/\x.kd=3
  . have hb:(if fR=true/\x.kd=3 then jr d.ly id else[])=jr d.ly id:=aG B;cases hp:jt d.ly id with
    |none=>exact no1 0 0 false (by rw[hb];unfold jr;rw[hp]) (by rw[hp];rfl) (fun _ _=>rfl)
    |some q=>
     obtain⟨g,j⟩:=q;obtain⟨ha,h3⟩:=B;subst ha;obtain⟨y,hy,hyg,_,hj,_⟩:=C9 hp;obtain⟨m,TK,U3,hm3⟩:=yy (hu rfl) hy;rw[hyg]at TK;have hbe:jr d.ly id=y.kids.take j:=by unfold jr;rw[hp];simp only;rw[TK];simp only;rw[hm3]
     have hyx:=iw (l:=d.ly) U3;rw[hm3]at hyx;have hAg:=atD d g hd.ly;have Tf:Ba d.ly g=Int.ofNat m:=by unfold Ba;rw[TK]
     rw[Tf]at hAg;have hyk:=hd.kids y hy;rw[hp]at hR;refine fF 1 (fu hR (di _)) (adf d id true n ps g (Int.ofNat j) true) (eG rfl) ?_;rw[gS];refine dK C ?_;have aj:=S (iI hn) (S zQ (eG I));refine qt (di _) eE (adg d id n x ps g (Int.ofNat j) true) (dD (g2 fun Q O=>⟨aj,?_⟩) (dD (g2 fun Q O=>by cases O) (dB (g1 fun Q=>by rw[h3]at Q;cases Q))));refine jR (t:=true) C C (fun _=>?_) (fun h=>by cases h);have vY:dn (dO y.kids) 0 ((j-0)*1)=dO (y.kids.take j):=by
      unfold dn dO;rw[Nat.sub_zero,cU,cA,List.map_take]
     have h8:=alf d id true n m j y ps g true;rw[vY,cA,cW ((Nat.le_of_eq (eo ps)))]at h8;refine gv (fu hAg (di _)) eE h8 (dB (g0 ⟨?_,fun X dQ=>?_⟩))
     . refine S rfl (S (iI U3) (S zQ (S hyx (S (eo _) (S ⟨bZ _,by simp only[gQ];omega⟩ (S ?_ (S (by rw[eo];omega) (eG (Ks H)))))))));rw[eo,bq];omega
     . show TG _ _ _ (dX (dr 5 Bc)) X _;rw[hb,hbe];have hl:(ps++y.kids.take j).length=ps.length+(j-0):=by rw[aE,bq];omega
       have TL:dO ps++dO (y.kids.take j)=dO (ps++y.kids.take j):=(bQ ..).symm;rw[TL,<- hl]at dQ;generalize ps++y.kids.take j=qs at dQ hl;refine fU dQ (ek.Ip [0] [8] (fm:=fq [(8,fj qs)] (G []) 0) (aj:=[(dO qs).length=qs.length*1]) C (eG (eo _)) _ _ ?_);exact eK (di _) (alh qs) (dB (g0 ⟨all_nil,_,_,_,rfl,vD.self C C⟩))
  . have hb:(if fR=true/\x.kd=3 then jr d.ly id else[])=[]:=aB B;cases hp:jt d.ly id with
    |none=>exact no1 0 0 false hb (by rw[hp];rfl) (fun _ _=>rfl)
    |some q=>exact no1 q.1 (Int.ofNat q.2) true hb (by rw[hp];rfl) (fun Q O=>absurd ⟨Q,O⟩ B)
end Go.Proofs.YtmjggdmekboefaaGreat
