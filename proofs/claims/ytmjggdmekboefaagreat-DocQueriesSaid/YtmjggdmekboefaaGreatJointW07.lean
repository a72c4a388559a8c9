/- The Doc laws: filter.Bytes: pieces. No conditions. -/
import Derived.Test.YtmjggdmekboefaaGreatJointW05
import Derived.Test.YtmjggdmekboefaaGreatJointW06
set_option linter.unusedVariables false
set_option linter.unusedSimpArgs false
set_option linter.unusedSectionVars false
namespace Go.Proofs.YtmjggdmekboefaaGreat
open Go Go.Eng
noncomputable abbrev aeq:Code:=dQ Tryz.f106
noncomputable abbrev Zi:Code:=dH 2 aeq
noncomputable abbrev alV:Code:=dQ Tryz.f63
def sNu(n:Nat)(cs:ai)(s:aa)(i:Nat):St:=fI [(3,.str s),(6,.eM false n cs),(7,J n),(8,J i)] .nil 0
def eN:ai->List Int
 | .int .i64 x::r=>x::eN r
 |_=>[]
theorem fO:∀l:List Int,eN (eL l)=l
 | []=>rfl
 |x::l=>by
  show x::eN (eL l)=_;rw[fO l]
def gP(l:List Int):aa:=(l.map eU).flatten
def Rd(s:aa):aa:=eU (Int.ofNat s.length)++s
def K0:ai->Option (ah×V)
 | [.eM n cs]=>some ([cs=eL (eN cs),n=(eN cs).length,n<=4000000],.str (gP (eN cs)))
 |_=>none
section
variable(n:Nat)
theorem alW(cs:ai):H (M W4 []) [] 0 Tryz.f106 [0,3] (ek 2 aeq) (dI [.eM false n cs] .nil 0) [([],[],eC (fI [(0,.eM false n cs),(3,.str [])] (hL []) 0))]:=G.Y
theorem alX(cs:ai):H (M W4 []) [] 0 Tryz.f106 [3,6,7,8] (dO (dO Zi)) (fI [(0,.eM false n cs),(3,.str [])] .nil 0) [([],[],eC (sNu n cs [] 0))]:=G.Y
theorem alY(cs:ai)(s:aa)(i:Nat)(v:Int):H (M W4 []) [(9,.split),(10,.dL (.eo [.int .i64 v])),(16,.dL (J (i+1)))] 0 Tryz.f106 [3,6,7,8] (dP (dP (eB (dO Zi)))) (sNu n cs s i) (fV (decide (Int.ofNat i<Int.ofNat n)) ([fT i n,cs.length=n*1,gv cs i 1 [D.int B v],s.length+(eU v).length<=9223372036854775807,oq i],eC (sNu n cs (s++eU v) (i+1))) ([],.to (.exit 0) (sNu n cs s i))):=G.Y
theorem alZ(cs:ai)(s:aa)(i:Nat):H (M W4 []) [] 0 Tryz.f106 [] (eB Zi) (sNu n cs s i) [([],[],.ret (.str s) (hL []) 0)]:=G.Y
end
theorem al0(f:FL):H (M (jC 106 (yQ K0) W4) []) [] 0 Tryz.f63 [] (alV) (dI [f.v] .nil 0) [([],[[D.int B f.k,D.int B f.r,D.int B (Int.ofNat f.fh.length)].length=3,[D.int B f.k,D.int B f.r,D.int B (Int.ofNat f.fh.length)]=eL (eN [D.int B f.k,D.int B f.r,D.int B (Int.ofNat f.fh.length)]),3=(eN [D.int B f.k,D.int B f.r,D.int B (Int.ofNat f.fh.length)]).length,3<=4000000,eL f.fh=eL (eN (eL f.fh)),f.fh.length=(eN (eL f.fh)).length,f.fh.length<=4000000,(gP (eN [D.int B f.k,D.int B f.r,D.int B (Int.ofNat f.fh.length)])).length+(gP (eN (eL f.fh))).length<=9223372036854775807,[D.int B f.dv,D.int B f.vl,D.int B (Int.ofNat f.cu.length)].length=3,[D.int B f.dv,D.int B f.vl,D.int B (Int.ofNat f.cu.length)]=eL (eN [D.int B f.dv,D.int B f.vl,D.int B (Int.ofNat f.cu.length)]),3=(eN [D.int B f.dv,D.int B f.vl,D.int B (Int.ofNat f.cu.length)]).length,3<=4000000,(gP (eN [D.int B f.k,D.int B f.r,D.int B (Int.ofNat f.fh.length)])++gP (eN (eL f.fh))).length+(gP (eN [D.int B f.dv,D.int B f.vl,D.int B (Int.ofNat f.cu.length)])).length<=9223372036854775807,eL f.cu=eL (eN (eL f.cu)),f.cu.length=(eN (eL f.cu)).length,f.cu.length<=4000000,(gP (eN [D.int B f.k,D.int B f.r,D.int B (Int.ofNat f.fh.length)])++gP (eN (eL f.fh))++gP (eN [D.int B f.dv,D.int B f.vl,D.int B (Int.ofNat f.cu.length)])).length+(gP (eN (eL f.cu))).length<=9223372036854775807],.ret (.str (gP [f.k,f.r,Int.ofNat f.fh.length]++gP (eN (eL f.fh))++gP [f.dv,f.vl,Int.ofNat f.cu.length]++gP (eN (eL f.cu)))) (hL []) 0)]:=G.Y
theorem tO{l:List Int}{i:Nat}{v:Int}(h:l[i]? =some v):gP (l.take (i+1))=gP (l.take i)++eU v:=by
 unfold gP;rw[cz,h];simp
theorem jd:∀l:List Int,(gP l).length<=10*l.length
 | []=>by simp[gP]
 |x::l=>by
  have:=jd l;have h:=(sJ x).2;unfold gP at this ⊢;simp only[b9,de,az,aN];omega
theorem aer(l:List Int)(hl:l.length<=4000000):ee ak 106 [fD l] (.str (gP l)):=by
 refine fc Tryz.func106 ?_;refine fN 2 sM (alW l.length (eL l)) all_nil ?_;refine nO sM 0 _ [3,6,7,8] (l.length-·) (. <=l.length) (fun i=>sNu l.length (eL l) (gP (l.take i)) i) 0 (aR _) (alX _ _) all_nil .refl fun i hi=>?_;refine⟨_,sM,[],_,_,alY _ _ _ i (l.getD i 0),dN (g1 fun h=>?_) (dK (g1 fun h=>⟨all_nil,rfl,?_⟩))⟩
 . have fj:=kA h;obtain⟨v,hv⟩:∃v,l[i]? =some v:=⟨_,au fj⟩;have ev:l.getD i 0=v:=by rw[ax,hv];rfl
   rw[ev];have h1:=jd (l.take i);have C:=(sJ v).2;rw[bf]at h1;refine⟨X (iI fj) (X (eI l) (X (rH hv) (X S (eO (gV S))))),i+1,uD fj,fj,?_⟩;rw[<- tO hv];exact .refl
 . obtain rfl:i=l.length:=by have:=rG h;omega
   rw[br];exact eR sM (alZ _ _ _ _) (dK (g0 ⟨all_nil,_,_,_,rfl,rfl⟩))
theorem Zj:jM ak 106 (yQ K0):=by
 refine yR dJ fun ds hc v e hA=>?_;unfold K0 at e;split at e
 case h_2=>cases e
 rename_i n cs;obtain⟨rfl,rfl⟩:=sm e;have h1:cs=eL (eN cs):=hA _ (by simp);have C:n=(eN cs).length:=hA (n=(eN cs).length) (by simp);have h3:n<=4000000:=hA (n<=4000000) (by simp);generalize eN cs=l at *;subst h1 C;exact aer l h3
def iw(f:FL):aa:=gP [f.k,f.r,Int.ofNat f.fh.length]++gP f.fh++gP [f.dv,f.vl,Int.ofNat f.cu.length]++gP f.cu
theorem K1(f:FL):(iw f).length<=60+10*f.fh.length+10*f.cu.length:=by
 have h1:=jd [f.k,f.r,Int.ofNat f.fh.length];have C:=jd f.fh;have h3:=jd [f.dv,f.vl,Int.ofNat f.cu.length];have h4:=jd f.cu;simp only[aN,cm]at h1 h3;unfold iw;simp only[az];omega
theorem Zk(f:FL)(h1:f.fh.length<=2000000)(C:f.cu.length<=2000000):ee ak 63 [f.v] (.str (iw f)):=by
 refine fc Tryz.func63 ?_;have hr:=al0 f;have e1:=jd [f.k,f.r,Int.ofNat f.fh.length];have e2:=jd f.fh;have e3:=jd [f.dv,f.vl,Int.ofNat f.cu.length];have e4:=jd f.cu;simp only[aN,cm]at e1 e3;have i3:∀a b c:Int,eN [D.int B a,D.int B b,D.int B c]=[a,b,c]:=fun _ _ _=>rfl;simp only[fO,i3]at hr;refine eR (fq Zj sM) hr (dK (g0 ⟨?_,_,_,_,rfl,rfl⟩))
 repeat' (first|exact all_nil|refine X ?_ ?_)
 all_goals first|rfl|omega|(simp only[az]<;>omega)
def flg(a b c:Bool):Int:=(if a then 1 else 0)+((if b then 2 else 0)+(if c then 4 else 0))
def fiB(c:C4):aa:=[UInt8.ofNat c.r.toNat,UInt8.ofNat c.g.toNat,UInt8.ofNat c.b.toNat,UInt8.ofNat c.a.toNat]
def Gz(l:List (Int×Int)):aa:=(l.map fun p=>eU p.1++eU p.2).flatten
def Oa(p:P7):aa:=eU p.a++eU p.b++eU p.c++eU p.d++eU p.e++eU p.f++eU p.n
def Re(l:eV):aa:=eU l.id++eU l.kd++(Rd l.nm++Ap (flg l.hid l.clip l.L))++eU l.op++eU l.md++Oa l.pl++eU l.sp++eU (Int.ofNat l.kids.length)++gP l.kids++eU l.of++iw l.f++fiB l.fi++eU (Int.ofNat l.gA.length)++Gz l.gA
structure okL(l:eV):Prop where
 nm:l.nm.length<=2000000
 kids:l.kids.length<=2000000
 fh:l.f.fh.length<=2000000
 cu:l.f.cu.length<=2000000
 gA:l.gA.length<=2000000
theorem pK(l:List (Int×Int)):(nf l).length=l.length*2:=sK (f:=fun p:Int×Int=>[D.int .i64 p.1,D.int .i64 p.2]) (fun _=>rfl) l
theorem K2{l:List (Int×Int)}{i:Nat}{p:Int×Int}(h:l[i]? =some p):V.eo (dU (nf l) (i*2) 2)= .eo [.int .i64 p.1,.int .i64 p.2]:=by
 have fj:i<l.length:=(aS.1 h).1;have hv:l[i]=p:=(aS.1 h).2;rw[<- hv];exact aG _ (sL (f:=fun p:Int×Int=>[D.int .i64 p.1,D.int .i64 p.2]) (fun _=>rfl) l i fj)
theorem Oc{l:List (Int×Int)}{i:Nat}{p:Int×Int}(h:l[i]? =some p):Gz (l.take (i+1))=Gz (l.take i)++(eU p.1++eU p.2):=by
 unfold Gz;rw[cz,h];simp
theorem Jc:∀l:List (Int×Int),(Gz l).length<=20*l.length
 | []=>by simp[Gz]
 |p::l=>by
  have:=Jc l;have h:=(sJ p.1).2;have h':=(sJ p.2).2;unfold Gz at this ⊢;simp only[b9,de,az,aN];omega
structure M9 where
 a:Int
 b:Int
 c:Int
 d:Int
 e:Int
 f:Int
 g:Int
 h:Int
 i:Int
def M9.ds(m:M9):ai:=[.int .i64 m.a,.int .i64 m.b,.int .i64 m.c,.int .i64 m.d,.int .i64 m.e,.int .i64 m.f,.int .i64 m.g,.int .i64 m.h,.int .i64 m.i]
structure Sp where
 c0:List Int
 c1:List Int
 c2:List Int
 to:M9
 F:M9
def Sp.ds(s:Sp):ai:=[.eM s.c0.length (eL s.c0),.eM s.c1.length (eL s.c1),.eM s.c2.length (eL s.c2)]++(s.to.ds++s.F.ds)
def Sp.v(s:Sp):V:=.agg (D.gk s.ds)
def lj(l:List Sp):ai:=(l.map Sp.ds).flatten
def eV.ds(l:eV):ai:=[.int .i64 l.id,.int .i64 l.kd,.str l.nm,.bool l.hid,.int .i64 l.op,.int .i64 l.md,.bool l.clip,.int .i64 l.pl.a,.int .i64 l.pl.b,.int .i64 l.pl.c,.int .i64 l.pl.d,.int .i64 l.pl.e,.int .i64 l.pl.f,.int .i64 l.pl.n,.int .i64 l.sp,.eM l.kids.length (eL l.kids),.int .i64 l.of,.int .i64 l.f.k,.int .i64 l.f.r,.eM l.f.fh.length (eL l.f.fh),.int .i64 l.f.dv,.int .i64 l.f.vl,.eM l.f.cu.length (eL l.f.cu),.int .u8 l.fi.r,.int .u8 l.fi.g,.int .u8 l.fi.b,.int .u8 l.fi.a,.eM l.gA.length (nf l.gA),.eM l.gx.length (iO l.gx),.bool l.L,.eM l.ig.length (iO l.ig)]
def gM:eV:=⟨0,0,[],false,0,0,false,z7,0,[],0,uv,z4,[],[],false,[]⟩
def fR(l:List eV):ai:=(l.map eV.ds).flatten
abbrev nK(l:List eV):Prop:=(fR l).length=l.length*31
structure Dc where
 sp:List Sp
 root:Int
 nx:Int
 ly:List eV
def Dc.cs(d:Dc):ag:=[.eM false d.sp.length (lj d.sp),R d.root,R d.nx,.eM false d.ly.length (fR d.ly)]
def Dc.v(d:Dc):V:=.agg d.cs
noncomputable abbrev aet:Code:=dQ Tryz.f24
noncomputable abbrev Zl:Code:=dH 1 aet
def sAx(d:Dc)(k:Int)(i:Nat):St:=fI [(1,R k),(2,.ptr (some (0,0))),(5,J i)] (hL [(0,.cells d.cs)]) 1
theorem al2(d:Dc)(k:Int):H (M ew []) [] 0 Tryz.f24 [1,2] (ek 1 aet) (dI [d.v,R k] .nil 0) [([],[],eC (fI [(1,.int .i64 k),(2,.ptr (some (0,0)))] (hL [(0,.cells [.eM false (d.sp.length) (lj d.sp),.int .i64 (d.root),.int .i64 (d.nx),.eM false (d.ly.length) (fR d.ly)])]) 1))]:=G.Y
theorem al3(d:Dc)(k:Int):H (M ew []) [] 0 Tryz.f24 [1,2,5] (dO (dO Zl)) (fI [(1,R k),(2,.ptr (some (0,0)))] (hL [(0,.cells d.cs)]) 1) [([],[],eC (sAx d k 0))]:=G.Y
theorem al4(d:Dc)(k:Int)(i:Nat)(l:eV):H (M ew []) [(10,.split),(16,.dL (.eo l.ds)),(20,.split),(12,.dL (J (i+1)))] 0 Tryz.f24 [1,2,5] (dP (dP (eB (dO Zl)))) (sAx d k i) (sI (decide (Int.ofNat i<(Int.ofNat d.ly.length))) (l.id==k) ([fT i d.ly.length,nK d.ly,gv (fR d.ly) i 31 l.ds],.ret (.int .i64 (Int.ofNat i)) (hL []) 0) ([fT i d.ly.length,nK d.ly,gv (fR d.ly) i 31 l.ds,oq i],eC (sAx d k (i+1))) ([],.to (.exit 0) (sAx d k i))):=G.Y
theorem al5(d:Dc)(k:Int)(i:Nat):H (M ew []) [] 0 Tryz.f24 [] (eB Zl) (sAx d k i) [([],[],.ret (.int .i64 (-1)) (hL []) 0)]:=G.Y
noncomputable abbrev aeu:Code:=dQ Tryz.f55
noncomputable abbrev Zm:Code:=dH 1 aeu
def sHs(l:List Int)(k:Int)(i:Nat):St:=fI [(0,fD l),(1,R k),(5,J i)] (hL []) 0
theorem al6(l:List Int)(k:Int):H (M ew []) [] 0 Tryz.f55 [0,1] (ek 1 aeu) (dI [fD l,R k] .nil 0) [([],[],eC (fI [(0,.eM false (l.length) (eL l)),(1,.int .i64 k)] (hL []) 0))]:=G.Y
theorem al7(l:List Int)(k:Int):H (M ew []) [] 0 Tryz.f55 [0,1,5] (dO (dO Zm)) (fI [(0,fD l),(1,R k)] (hL []) 0) [([],[],eC (sHs l k 0))]:=G.Y
theorem al8(l:List Int)(k:Int)(i:Nat)(x:Int):H (M ew []) [(9,.split),(14,.dL (.eo [.int .i64 x])),(17,.split),(11,.dL (J (i+1)))] 0 Tryz.f55 [0,1,5] (dP (dP (eB (dO Zm)))) (sHs l k i) (sI (decide (Int.ofNat i<(Int.ofNat l.length))) (x==k) ([fT i l.length,jo l,gv (eL l) i 1 [D.int B x]],B0) ([fT i l.length,jo l,gv (eL l) i 1 [D.int B x],oq i],eC (sHs l k (i+1))) ([],.to (.exit 0) (sHs l k i))):=G.Y
theorem al9(l:List Int)(k:Int)(i:Nat):H (M ew []) [] 0 Tryz.f55 [] (eB Zm) (sHs l k i) [([],[],ji)]:=G.Y
theorem ama(l:eV):H (M ew []) [(5,.split)] 0 Tryz.f98 [] (dQ Tryz.f98) (dI [l.v] .nil 0) (fV (l.kd==(4:Int)) ([],.ret (.fk (some (0,0)) 1 1 1) (hL [(0,.cells [.int .i64 (l.of)])]) 1) ([],.ret (.eM false (l.kids.length) (eL l.kids)) (hL []) 0)):=G.Y
theorem amb(x k:Int):H (M ew []) [(8,.split)] 0 Tryz.f143 [] (dQ Tryz.f143) (dI [R x,R k] .nil 0) (fV (decide (x>=IntKind.i64.wrap ((0:Int)-k))) ([],.ret (.bool (decide (x<=k))) (hL []) 0) ([],ji)):=G.Y
section
variable{N n0:Nat}{c:Code}{s:St}{ks:gG}{fn:Func}
abbrev lt?(i n:Nat):Bool:=decide (Int.ofNat i<Int.ofNat n)
theorem W6(b:Nat)(n:Nat){iX:V->I es->Nat->Prop}(live:List Nat)(dF:Nat->St)(t:Nat->Bool)(v:Nat->V×I es×Nat)(A1 A2:Nat->ah){W0:gG}(X0:fo ak W0)
  {h0h:List (Nat×List (Nat×mH))} {H0:List (Nat×mH)} {hc:ah} {s0:St} (WR:H (M W0 h0h) H0 N fn live (dO (dO c)) s [([],hc,.to .normal s0)]) (W7:∀a∈hc,a) (h0:eJ ak N n0 s0 (dF 0))
  (U:∀i,i<=n->∃(ks:gG) (_:fo ak ks) (hh:_) (dG:_),H (M ks hh) dG N fn live (dP (dP (eB (dO c)))) (dF i) [([(lt? i n,true),(t i,true)],A1 i,.ret (v i).1 (v i).2.1 (v i).2.2),([(lt? i n,true),(t i,false)],A2 i,.to .normal (dF (i+1))),([(lt? i n,false)],[],.to (.exit b) (dF i))])
  (hA:∀i,i<n->(∀a∈A1 i,a)/\∀a∈A2 i,a)
  (hr:∀i,i<n->(∀j,j<i->t j=false)->t i=true->iX (v i).1 (v i).2.1 (v i).2.2) (he:(∀j,j<n->t j=false)->TG ak N n0 (eB c) (dF n) (gi ak N fn iX))
  (hs:((sB c&&sB (dO c))&&(fe n0 (dO (dO c))&&(nC (eB (dO c)) b&&(o4 (dP (eB (dO c)))&&fe n0 (dP (dP (eB (dO c))))))))=true:=by kernel_rfl):TG ak N n0 c s (gi ak N fn iX):=by
 refine nO X0 b iX live (n-·) (fun i=>i<=n/\∀j,j<i->t j=false) dF 0 ⟨aR _,fun _ h=>absurd h (bE _)⟩ WR W7 h0 (fun i ⟨hi,hj⟩=>?_) hs;obtain⟨ks,fm,hh,dG,gF⟩:=U i hi;refine⟨ks,fm,hh,dG,_,gF,dN (g2 fun h1 C=>?_) (dN (g2 fun h1 C=>?_) (dK (g1 fun h=>⟨all_nil,rfl,?_⟩)))⟩
 . exact⟨(hA i (kA h1)).1,hr i (kA h1) hj C⟩
 . refine⟨(hA i (kA h1)).2,i+1,by have:=kA h1;show n-(i+1)<n-i;omega,⟨kA h1,fun j W8=>?_⟩,.refl⟩;rcases bx j i with q|q
   . exact hj j q
   . obtain rfl:j=i:=by omega
     exact C
 . obtain rfl:i=n:=by have:=rG h;omega
   exact he hj
end
def Fl(N:Nat)(ms live:List Nat)(s:St):Option (ah×St):=match Ue ms s with
 |some (hc,s1)=>match lB N live s1 with
  |some dF=>some (hc,dF)
  |none=>none
 |none=>none
theorem eJ.Fl{P:Program}{N n0:Nat}{s dF:St}(ms live:List Nat){hc:ah}(e:Fl N ms live s=some (hc,dF))(hA:∀x∈hc,x):eJ P N n0 s dF:=by
 unfold YtmjggdmekboefaaGreat.Fl at e;split at e
 case h_2=>cases e
 rename_i A1 s1 h1;split at e
 case h_2=>cases e
 rename_i S1 C;simp only[aq,aB]at e;obtain⟨rfl,rfl⟩:=e;exact(eJ.Am ms h1 hA).trans (.norm C)
theorem Ax(l:eV):l.ds.length=31:=rfl
theorem fS(l:List eV):(fR l).length=l.length*31:=sK (f:=eV.ds) Ax l
theorem Zn{l:List eV}{i:Nat}{x:eV}(h:l[i]? =some x):V.eo (dU (fR l) (i*31) 31)= .eo x.ds:=by
 obtain⟨fj,rfl⟩:=aS.1 h;exact aG V.eo (sL (f:=eV.ds) Ax l i fj)
theorem ik{l:List eV}{i:Nat}(h:i<l.length):V.eo (dU (fR l) (i*31) 31)= .eo (l.getD i gM).ds:=Zn (by rw[ax,au h];rfl)
theorem fP{l:List Int}{i:Nat}(h:i<l.length):V.eo (dU (eL l) (i*1) 1)= .eo [.int .i64 (l.getD i 0)]:=rH (by rw[ax,au h];rfl)
theorem xJ{x k:Int}:(x==k)=true↔x=k:=ct
section
variable(ls:List eV)(k:Int)
def jq:Option Nat:=ls.findIdx? fun l=>l.id==k
def pW:Int:=match jq ls k with
 |some i=>Int.ofNat i
 |none=> -1
end
section
variable{ls:List eV}{k:Int}
theorem Dx{i:Nat}(h:i<ls.length)(h1:(ls.getD i gM).id==k)(C:∀j,j<i->((ls.getD j gM).id==k)=false):jq ls k=some i:=by
 unfold jq;rw[bW];refine⟨h,?_,fun j hj=>?_⟩
 . rw[ax,au h]at h1;exact h1
 . have:=C j hj;rw[ax,au S]at this;simpa using this
theorem Rf(C:∀j,j<ls.length->((ls.getD j gM).id==k)=false):jq ls k=none:=by
 unfold jq;rw[cH];intro x K;obtain⟨j,hj,rfl⟩:=ck K;have:=C j hj;rw[ax,au hj]at this;exact this
end
theorem Ts(d:Dc)(k:Int)(hl:d.ly.length<=1000000):ee ak 24 [d.v,R k] (R (pW d.ly k)):=by
 refine fc Tryz.func24 (fN 1 (be _) (al2 d k) all_nil ?_);refine W6 0 d.ly.length [1,2,5] (sAx d k) (fun i=>(d.ly.getD i gM).id==k) (fun i=>(J i,hL [],0)) _ _ (be _) (al3 d k) all_nil .refl (fun i _=>⟨_,be _,_,_,al4 d k i (d.ly.getD i gM)⟩) (fun i hi=>?_) (fun i hi hj ht=>?_) (fun hj=>?_)
 . exact⟨X (iI hi) (X (fS _) (eO (ik hi))),X (iI hi) (X (fS _) (X (ik hi) (eO (gV S))))⟩
 . unfold pW;rw[Dx hi ht hj]
 . refine eR (be _) (al5 d k _) (dK (g0 ⟨all_nil,_,_,_,rfl,?_⟩));unfold pW;rw[Rf hj]
theorem Zo(l:List Int)(k:Int)(hl:l.length<=1000000):ee ak 55 [fD l,R k] (.bool (l.contains k)):=by
 refine fc Tryz.func55 (fN 1 (be _) (al6 l k) all_nil ?_);refine W6 0 l.length [0,1,5] (sHs l k) (fun i=>l.getD i 0==k) (fun i=>(.bool true,hL [],0)) _ _ (be _) (al7 l k) all_nil .refl (fun i _=>⟨_,be _,_,_,al8 l k i (l.getD i 0)⟩) (fun i hi=>?_) (fun i hi hj ht=>?_) (fun hj=>?_)
 . exact⟨X (iI hi) (X (eI _) (eO (fP hi))),X (iI hi) (X (eI _) (X (fP hi) (eO (gV S))))⟩
 . refine aG V.bool (Eq.symm ?_);rw[cQ];have:l.getD i 0=k:=xJ.1 ht;rw[<- this,ax,au hi];exact bV hi
 . refine eR (be _) (al9 l k _) (dK (g0 ⟨all_nil,_,_,_,rfl,aG V.bool (Eq.symm ?_)⟩));rw[<- Bool.not_eq_true,cQ];intro L;obtain⟨j,zB,rfl⟩:=ck L;have:=hj j zB;rw[ax,au zB]at this;simp at this
def gp(l:eV):List Int:=if l.kd=4 then[l.of]else l.kids
theorem Rg(l:eV):ee ak 98 [l.v] (fD (gp l)):=by
 refine mz Tryz.func98 (eR (be _) (ama l) (dN (g1 fun h=>⟨all_nil,_,_,_,rfl,?_⟩) (dK (g1 fun h=>⟨all_nil,_,_,_,rfl,?_⟩))))
 . unfold gp;rw[aF (xJ.1 h)];exact .Am (v0:=fD [l.of]) [0] (hc:=[[D.int .i64 l.of].length=1*1]) dJ (eO rfl) dJ dJ
 . unfold gp;rw[aD (by simpa using h)];exact uI.self dJ dJ
noncomputable abbrev aev:Code:=dQ Tryz.f118
noncomputable abbrev Zp:Code:=dH 1 aev
section
variable(s:aa)(p:P7)(i:Nat)(a:Bool)(x c:Int)
def sNa:St:=fI [(0,.str s),(3,J i)] (hL []) 0
theorem amd:H (M ew []) [] 0 Tryz.f118 [0] (ek 1 aev) (dI [.str s] .nil 0) [([],[],eC (fI [(0,.str s)] (hL []) 0))]:=G.Y
theorem ame:H (M ew []) [] 0 Tryz.f118 [0,3] (dO (dO Zp)) (fI [(0,.str s)] (hL []) 0) [([],[],eC (sNa s 0))]:=G.Y
abbrev mP:Prop:=V.int IntKind.u8 (Int.ofNat (s.getD i (0:UInt8)).toNat)=V.int IntKind.u8 c
abbrev qF:Prop:=V.int B (IntKind.i64.wrap (Int.ofNat i+(1:Int)))=J (i+1)
theorem amf:H (M ew []) [(8,.split),(13,.dL (.int .u8 c)),(15,.split),(18,.split),(22,.split),(25,.split),(30,.split),(34,.split),(10,.dL (J (i+1)))] 0 Tryz.f118 [0,3] (dP (dP (eB (dO Zp)))) (sNa s i) [([(decide (Int.ofNat i<(Int.ofNat s.length)),true),(decide (c<(97:Int)),true),(decide (c<(48:Int)),true),(c !=(45:Int),true),(c !=(95:Int),true)],[(0:Int)<=Int.ofNat i/\i<s.length,mP s i c],ji),([(decide (Int.ofNat i<(Int.ofNat s.length)),true),(decide (c<(97:Int)),true),(decide (c<(48:Int)),true),(c !=(45:Int),true),(c !=(95:Int),false)],[(0:Int)<=Int.ofNat i/\i<s.length,mP s i c,qF i],eC (fI [(0,.str s),(3,.int .i64 (Int.ofNat (i+1)))] (hL []) 0)),([(decide (Int.ofNat i<(Int.ofNat s.length)),true),(decide (c<(97:Int)),true),(decide (c<(48:Int)),true),(c !=(45:Int),false)],[(0:Int)<=Int.ofNat i/\i<s.length,mP s i c,qF i],eC (fI [(0,.str s),(3,.int .i64 (Int.ofNat (i+1)))] (hL []) 0)),([(decide (Int.ofNat i<(Int.ofNat s.length)),true),(decide (c<(97:Int)),true),(decide (c<(48:Int)),false),(decide (c>(57:Int)),true),(c !=(45:Int),true),(c !=(95:Int),true)],[(0:Int)<=Int.ofNat i/\i<s.length,mP s i c],ji),([(decide (Int.ofNat i<(Int.ofNat s.length)),true),(decide (c<(97:Int)),true),(decide (c<(48:Int)),false),(decide (c>(57:Int)),true),(c !=(45:Int),true),(c !=(95:Int),false)],[(0:Int)<=Int.ofNat i/\i<s.length,mP s i c,qF i],eC (fI [(0,.str s),(3,.int .i64 (Int.ofNat (i+1)))] (hL []) 0)),([(decide (Int.ofNat i<(Int.ofNat s.length)),true),(decide (c<(97:Int)),true),(decide (c<(48:Int)),false),(decide (c>(57:Int)),true),(c !=(45:Int),false)],[(0:Int)<=Int.ofNat i/\i<s.length,mP s i c,qF i],eC (fI [(0,.str s),(3,.int .i64 (Int.ofNat (i+1)))] (hL []) 0)),([(decide (Int.ofNat i<(Int.ofNat s.length)),true),(decide (c<(97:Int)),true),(decide (c<(48:Int)),false),(decide (c>(57:Int)),false)],[(0:Int)<=Int.ofNat i/\i<s.length,mP s i c,qF i],eC (fI [(0,.str s),(3,.int .i64 (Int.ofNat (i+1)))] (hL []) 0)),([(decide (Int.ofNat i<(Int.ofNat s.length)),true),(decide (c<(97:Int)),false),(decide (c>(122:Int)),true),(decide (c<(48:Int)),true),(c !=(45:Int),true),(c !=(95:Int),true)],[(0:Int)<=Int.ofNat i/\i<s.length,mP s i c],ji),([(decide (Int.ofNat i<(Int.ofNat s.length)),true),(decide (c<(97:Int)),false),(decide (c>(122:Int)),true),(decide (c<(48:Int)),true),(c !=(45:Int),true),(c !=(95:Int),false)],[(0:Int)<=Int.ofNat i/\i<s.length,mP s i c,qF i],eC (fI [(0,.str s),(3,.int .i64 (Int.ofNat (i+1)))] (hL []) 0)),([(decide (Int.ofNat i<(Int.ofNat s.length)),true),(decide (c<(97:Int)),false),(decide (c>(122:Int)),true),(decide (c<(48:Int)),true),(c !=(45:Int),false)],[(0:Int)<=Int.ofNat i/\i<s.length,mP s i c,qF i],eC (fI [(0,.str s),(3,.int .i64 (Int.ofNat (i+1)))] (hL []) 0)),([(decide (Int.ofNat i<(Int.ofNat s.length)),true),(decide (c<(97:Int)),false),(decide (c>(122:Int)),true),(decide (c<(48:Int)),false),(decide (c>(57:Int)),true),(c !=(45:Int),true),(c !=(95:Int),true)],[(0:Int)<=Int.ofNat i/\i<s.length,mP s i c],ji),([(decide (Int.ofNat i<(Int.ofNat s.length)),true),(decide (c<(97:Int)),false),(decide (c>(122:Int)),true),(decide (c<(48:Int)),false),(decide (c>(57:Int)),true),(c !=(45:Int),true),(c !=(95:Int),false)],[(0:Int)<=Int.ofNat i/\i<s.length,mP s i c,qF i],eC (fI [(0,.str s),(3,.int .i64 (Int.ofNat (i+1)))] (hL []) 0)),([(decide (Int.ofNat i<(Int.ofNat s.length)),true),(decide (c<(97:Int)),false),(decide (c>(122:Int)),true),(decide (c<(48:Int)),false),(decide (c>(57:Int)),true),(c !=(45:Int),false)],[(0:Int)<=Int.ofNat i/\i<s.length,mP s i c,qF i],eC (fI [(0,.str s),(3,.int .i64 (Int.ofNat (i+1)))] (hL []) 0)),([(decide (Int.ofNat i<(Int.ofNat s.length)),true),(decide (c<(97:Int)),false),(decide (c>(122:Int)),true),(decide (c<(48:Int)),false),(decide (c>(57:Int)),false)],[(0:Int)<=Int.ofNat i/\i<s.length,mP s i c,qF i],eC (fI [(0,.str s),(3,.int .i64 (Int.ofNat (i+1)))] (hL []) 0)),([(decide (Int.ofNat i<(Int.ofNat s.length)),true),(decide (c<(97:Int)),false),(decide (c>(122:Int)),false)],[(0:Int)<=Int.ofNat i/\i<s.length,mP s i c,qF i],eC (fI [(0,.str s),(3,.int .i64 (Int.ofNat (i+1)))] (hL []) 0)),([(decide (Int.ofNat i<(Int.ofNat s.length)),false)],[],.to (.exit 0) (fI [(0,.str s),(3,.int .i64 (Int.ofNat i))] (hL []) 0))]:=G.Y
theorem amg:H (M ew []) [] 0 Tryz.f118 [] (eB Zp) (sNa s i) [([],[],.ret (.bool (decide ((Int.ofNat s.length)<=(12:Int)))) (hL []) 0)]:=G.Y
noncomputable abbrev aew:Code:=dQ Tryz.f120
noncomputable abbrev Zq:Code:=dH 1 aew
def sPh(l:List (Int×Int))(i:Nat):St:=fI [(0,wA l),(3,J i)] (hL []) 0
theorem amh(l:List (Int×Int)):H (M ew []) [] 0 Tryz.f120 [0] (ek 1 aew) (dI [wA l] .nil 0) [([],[],eC (fI [(0,.eM false (l.length) (nf l))] (hL []) 0))]:=G.Y
theorem ami(l:List (Int×Int)):H (M ew []) [] 0 Tryz.f120 [0,3] (dO (dO Zq)) (fI [(0,wA l)] (hL []) 0) [([],[],eC (sPh l 0))]:=G.Y
abbrev nF(l:List (Int×Int))(i:Nat)(x y:Int):Prop:=V.eo (dU (nf l) (i*2) 2)=V.eo [D.int B x,D.int B y]
theorem amj(l:List (Int×Int))(i:Nat)(x y:Int):H (M ew []) [(7,.split),(12,.dL (.eo [.int .i64 x,.int .i64 y])),(19,.dL (.eo [.int .i64 x,.int .i64 y])),(27,.dL (.eo [.int .i64 x,.int .i64 y])),(35,.dL (.eo [.int .i64 x,.int .i64 y])),(15,.split),(22,.split),(30,.split),(38,.split),(9,.dL (J (i+1)))] 0 Tryz.f120 [0,3] (dP (dP (eB (dO Zq)))) (sPh l i) [([(decide (Int.ofNat i<(Int.ofNat l.length)),true),(decide (x<(-65536:Int)),true)],[fT i l.length,(nf l).length=l.length*2,nF l i x y],ji),([(decide (Int.ofNat i<(Int.ofNat l.length)),true),(decide (x<(-65536:Int)),false),(decide (x>(65536:Int)),true)],[fT i l.length,(nf l).length=l.length*2,nF l i x y,fT i l.length,(nf l).length=l.length*2,nF l i x y],ji),([(decide (Int.ofNat i<(Int.ofNat l.length)),true),(decide (x<(-65536:Int)),false),(decide (x>(65536:Int)),false),(decide (y<(-65536:Int)),true)],[fT i l.length,(nf l).length=l.length*2,nF l i x y,fT i l.length,(nf l).length=l.length*2,nF l i x y,fT i l.length,(nf l).length=l.length*2,nF l i x y],ji),([(decide (Int.ofNat i<(Int.ofNat l.length)),true),(decide (x<(-65536:Int)),false),(decide (x>(65536:Int)),false),(decide (y<(-65536:Int)),false),(decide (y>(65536:Int)),true)],[fT i l.length,(nf l).length=l.length*2,nF l i x y,fT i l.length,(nf l).length=l.length*2,nF l i x y,fT i l.length,(nf l).length=l.length*2,nF l i x y,fT i l.length,(nf l).length=l.length*2,nF l i x y],ji),([(decide (Int.ofNat i<(Int.ofNat l.length)),true),(decide (x<(-65536:Int)),false),(decide (x>(65536:Int)),false),(decide (y<(-65536:Int)),false),(decide (y>(65536:Int)),false)],[fT i l.length,(nf l).length=l.length*2,nF l i x y,fT i l.length,(nf l).length=l.length*2,nF l i x y,fT i l.length,(nf l).length=l.length*2,nF l i x y,fT i l.length,(nf l).length=l.length*2,nF l i x y,oq i],eC (fI [(0,.eM false (l.length) (nf l)),(3,.int .i64 (Int.ofNat (i+1)))] (hL []) 0)),([(decide (Int.ofNat i<(Int.ofNat l.length)),false)],[],.to (.exit 0) (fI [(0,.eM false (l.length) (nf l)),(3,.int .i64 (Int.ofNat i))] (hL []) 0))]:=G.Y
theorem amk(l:List (Int×Int))(i:Nat):H (M ew []) [(42,.split)] 0 Tryz.f120 [] (eB Zq) (sPh l i) (fV (decide ((Int.ofNat l.length)>=(3:Int))) ([],.ret (.bool (decide ((Int.ofNat l.length)<=(64:Int)))) (hL []) 0) ([],ji)):=G.Y
def w9(k:Int):Bool:=decide (-k<=x)&&decide (x<=k)
def K3:ag->Option (ah×V)
 | [.int .i64 x,.int .i64 k]=>some ([0<=k/\k<=1000000000],.bool (w9 x k))
 |_=>none
noncomputable abbrev Wv9:gG:=jC 143 (ic K3) ew
noncomputable abbrev Rh:Code:=dQ Tryz.f116
def OY(r:List (Nat×V)):St:=fI ([(1,.ptr (some (0,0)))]++r) (hL [(0,.cells p.cs)]) 1
theorem amm:H (M Wv9 []) [(7,.split),(11,.split),(16,.split),(21,.split)] 0 Tryz.f116 [1,3] (ek 2 Rh) (dI [.agg p.cs] .nil 0) (YB (w9 p.a (4096:Int)) (w9 p.b (4096:Int)) (w9 p.d (4096:Int)) (w9 p.e (4096:Int)) ([(0:Int)<=(4096:Int)/\(4096:Int)<=(1000000000:Int),(0:Int)<=(4096:Int)/\(4096:Int)<=(1000000000:Int),(0:Int)<=(4096:Int)/\(4096:Int)<=(1000000000:Int),(0:Int)<=(4096:Int)/\(4096:Int)<=(1000000000:Int)],eC (OY p [(3,.bool true)])) ([(0:Int)<=(4096:Int)/\(4096:Int)<=(1000000000:Int),(0:Int)<=(4096:Int)/\(4096:Int)<=(1000000000:Int),(0:Int)<=(4096:Int)/\(4096:Int)<=(1000000000:Int),(0:Int)<=(4096:Int)/\(4096:Int)<=(1000000000:Int)],eC (OY p [(3,.bool false)])) ([(0:Int)<=(4096:Int)/\(4096:Int)<=(1000000000:Int),(0:Int)<=(4096:Int)/\(4096:Int)<=(1000000000:Int),(0:Int)<=(4096:Int)/\(4096:Int)<=(1000000000:Int)],eC (OY p [(3,.bool false)])) ([(0:Int)<=(4096:Int)/\(4096:Int)<=(1000000000:Int),(0:Int)<=(4096:Int)/\(4096:Int)<=(1000000000:Int)],eC (OY p [(3,.bool false)])) ([(0:Int)<=(4096:Int)/\(4096:Int)<=(1000000000:Int)],eC (OY p [(3,.bool false)]))):=G.Y
abbrev Dy:Prop:=(0:Int)<=(268435456:Int)/\(268435456:Int)<=(1000000000:Int)
theorem amn:H (M Wv9 []) [(25,.split),(29,.split)] 0 Tryz.f116 [1,3,4] (ek 1 (dH 2 Rh)) (OY p [(3,.bool a)]) (sI (w9 p.c (268435456:Int)) (w9 p.f (268435456:Int)) ([Dy,Dy],eC (OY p [(3,.bool a),(4,.bool true)])) ([Dy,Dy],eC (OY p [(3,.bool a),(4,.bool false)])) ([Dy],eC (OY p [(3,.bool a),(4,.bool false)]))):=G.Y
theorem amo(b:Bool):H (M ew []) [(33,.split),(37,.split),(40,.split),(43,.split),(48,.split)] 0 Tryz.f116 [] (dH 3 Rh) (OY p [(3,.bool a),(4,.bool b)]) (Us (decide (p.n>=(1:Int))) (decide (p.n<=(4096:Int))) a b (IntKind.i64.wrap (IntKind.i64.wrap (p.a*p.e)-IntKind.i64.wrap (p.b*p.d)) !=(0:Int)) ([],B0) ([],ji)):=G.Y
noncomputable abbrev aex:Code:=dQ Tryz.f137
noncomputable abbrev Ri:Code:=dH 3 aex
def W9(l:List Int)(i:Nat):St:=fI [(0,fD l),(4,J i)] (hL []) 0
theorem amp(l:List Int):H (M ew [(168,[(4,.split)])]) [(9,.split)] 0 Tryz.f137 [0] (ek 3 aex) (dI [fD l] .nil 0) [([(decide ((Int.ofNat l.length)>=(2:Int)),true),(!decide ((Int.ofNat l.length)<=(257:Int)),true)],[],ji),([(decide ((Int.ofNat l.length)>=(2:Int)),true),(!decide ((Int.ofNat l.length)<=(257:Int)),false)],[],eC (fI [(0,.eM false (l.length) (eL l))] (hL []) 0)),([(decide ((Int.ofNat l.length)>=(2:Int)),false),(!false,true)],[],ji),([(decide ((Int.ofNat l.length)>=(2:Int)),false),(!false,false)],[],eC (fI [(0,.eM false (l.length) (eL l))] (hL []) 0))]:=G.Y
theorem amq(l:List Int):H (M ew []) [] 0 Tryz.f137 [0,4] (dO (dO Ri)) (fI [(0,fD l)] (hL []) 0) [([],[],eC (W9 l 0))]:=G.Y
theorem amr(l:List Int)(x:Int):H (M ew []) [(13,.split),(18,.dL (.eo [.int .i64 x])),(24,.dL (.eo [.int .i64 x])),(20,.split),(26,.split),(15,.dL (J 1))] 0 Tryz.f137 [0,4] (dP (dP (eB (dO Ri)))) (W9 l 0) [([(decide ((0:Int)<(Int.ofNat l.length)),true),(decide (x<(0:Int)),true)],[(0:Int)<=(0:Int)/\(0:Int)<(Int.ofNat l.length),jo l,V.eo (dU (eL l) 0 1)=V.eo [D.int B x]],ji),([(decide ((0:Int)<(Int.ofNat l.length)),true),(decide (x<(0:Int)),false),(decide (x>(65535:Int)),true)],[(0:Int)<=(0:Int)/\(0:Int)<(Int.ofNat l.length),jo l,V.eo (dU (eL l) 0 1)=V.eo [D.int B x],(0:Int)<=(0:Int)/\(0:Int)<(Int.ofNat l.length),jo l,V.eo (dU (eL l) 0 1)=V.eo [D.int B x]],ji),([(decide ((0:Int)<(Int.ofNat l.length)),true),(decide (x<(0:Int)),false),(decide (x>(65535:Int)),false)],[(0:Int)<=(0:Int)/\(0:Int)<(Int.ofNat l.length),jo l,V.eo (dU (eL l) 0 1)=V.eo [D.int B x],(0:Int)<=(0:Int)/\(0:Int)<(Int.ofNat l.length),jo l,V.eo (dU (eL l) 0 1)=V.eo [D.int B x],V.int B (1:Int)=J 1],eC (fI [(0,.eM false (l.length) (eL l)),(4,.int .i64 1)] (hL []) 0)),([(decide ((0:Int)<(Int.ofNat l.length)),false)],[],.to (.exit 0) (fI [(0,.eM false (l.length) (eL l)),(4,.int .i64 0)] (hL []) 0))]:=G.Y
abbrev Rj:Prop:=V.int B (IntKind.i64.wrap (Int.ofNat (i+1)-(1:Int)))=J i
abbrev tP(l:List Int)(i:Nat):Prop:=(0:Int)<=Int.ofNat (i+1)/\Int.ofNat (i+1)<(Int.ofNat l.length)
abbrev tQ(l:List Int)(i:Nat)(x:Int):Prop:=V.eo (dU (eL l) ((i+1)*1) 1)=V.eo [D.int B x]
end
theorem ams(l:List Int)(i:Nat)(x y:Int):H (M ew []) [(13,.split),(18,.dL (.eo [.int .i64 x])),(24,.dL (.eo [.int .i64 x])),(34,.dL (.eo [.int .i64 x])),(38,.dL (J i)),(39,.dL (.eo [.int .i64 y])),(20,.split),(26,.split),(30,.dL (.bool true)),(41,.split),(15,.dL (J (i+2)))] 0 Tryz.f137 [0,4] (dP (dP (eB (dO Ri)))) (W9 l (i+1)) [([(decide (Int.ofNat (i+1)<(Int.ofNat l.length)),true),(decide (x<(0:Int)),true)],[tP l i,jo l,tQ l i x],ji),([(decide (Int.ofNat (i+1)<(Int.ofNat l.length)),true),(decide (x<(0:Int)),false),(decide (x>(65535:Int)),true)],[tP l i,jo l,tQ l i x,tP l i,jo l,tQ l i x],ji),([(decide (Int.ofNat (i+1)<(Int.ofNat l.length)),true),(decide (x<(0:Int)),false),(decide (x>(65535:Int)),false),(decide (x<y),true)],[tP l i,jo l,tQ l i x,tP l i,jo l,tQ l i x,kr (decide (Int.ofNat (i+1)>(0:Int))),tP l i,jo l,tQ l i x,Rj i,fT i l.length,jo l,gv (eL l) i 1 [D.int B y]],ji),([(decide (Int.ofNat (i+1)<(Int.ofNat l.length)),true),(decide (x<(0:Int)),false),(decide (x>(65535:Int)),false),(decide (x<y),false)],[tP l i,jo l,tQ l i x,tP l i,jo l,tQ l i x,kr (decide (Int.ofNat (i+1)>(0:Int))),tP l i,jo l,tQ l i x,Rj i,fT i l.length,jo l,gv (eL l) i 1 [D.int B y],V.int B (IntKind.i64.wrap (Int.ofNat (i+1)+(1:Int)))=J (i+2)],eC (fI [(0,.eM false (l.length) (eL l)),(4,.int .i64 (Int.ofNat (i+2)))] (hL []) 0)),([(decide (Int.ofNat (i+1)<(Int.ofNat l.length)),false)],[],.to (.exit 0) (fI [(0,.eM false (l.length) (eL l)),(4,.int .i64 (Int.ofNat (i+1)))] (hL []) 0))]:=G.Y
theorem amt(l:List Int)(i:Nat):H (M ew []) [] 0 Tryz.f137 [] (eB Ri) (W9 l i) [([],[],B0)]:=G.Y
section
variable{N n0:Nat}{c:Code}{s:St}{fn:Func}
def LpS(b n:Nat)(dF:Nat->St)(t:Nat->Bool)(v:V×I es×Nat)(i:Nat):ko->Prop
 | .to .normal s=>i<n/\t i=false/\s=dF (i+1)
 | .to (.exit j) s=>j=b/\n<=i/\s=dF i
 | .ret u h m=>i<n/\t i=true/\(u,h,m)=v
 |_=>False
theorem Ms(b:Nat)(n:Nat){iX:V->I es->Nat->Prop}(live:List Nat)(dF:Nat->St)(t:Nat->Bool)(v:V×I es×Nat){W0:gG}(X0:fo ak W0)
  {h0h:List (Nat×List (Nat×mH))} {H0:List (Nat×mH)} {hc:ah} {s0:St} (WR:H (M W0 h0h) H0 N fn live (dO (dO c)) s [([],hc,.to .normal s0)]) (W7:∀a∈hc,a) (h0:eJ ak N n0 s0 (dF 0))
  (U:∀i,i<=n->∃(ks:gG) (_:fo ak ks) (hh:_) (dG:_) (dD:_),H (M ks hh) dG N fn live (dP (dP (eB (dO c)))) (dF i) dD/\∀g∈dD,(∀b∈g.1,b.1=b.2)->(∀a∈g.2.1,a)/\LpS b n dF t v i g.2.2)
  (hr:∀i,i<n->(∀j,j<i->t j=false)->t i=true->iX v.1 v.2.1 v.2.2) (he:(∀j,j<n->t j=false)->TG ak N n0 (eB c) (dF n) (gi ak N fn iX))
  (hs:((sB c&&sB (dO c))&&(fe n0 (dO (dO c))&&(nC (eB (dO c)) b&&(o4 (dP (eB (dO c)))&&fe n0 (dP (dP (eB (dO c))))))))=true:=by kernel_rfl):TG ak N n0 c s (gi ak N fn iX):=by
 refine nO X0 b iX live (n-·) (fun i=>i<=n/\∀j,j<i->t j=false) dF 0 ⟨aR _,fun _ h=>absurd h (bE _)⟩ WR W7 h0 (fun i ⟨hi,hj⟩=>?_) hs;obtain⟨ks,fm,hh,dG,dD,gF,hG⟩:=U i hi;refine⟨ks,fm,hh,dG,dD,gF,fun g hg A=>?_⟩;obtain⟨h1,C⟩:=hG g hg A;refine⟨h1,?_⟩;obtain⟨_,_,r⟩:=g;simp only at C ⊢;cases r with
 |to y s1=>
  cases y with
  |normal=>
   obtain⟨k1,k2,rfl⟩:=C;refine⟨i+1,by show n-(i+1)<n-i;omega,⟨k1,fun j W8=>?_⟩,.refl⟩;rcases bx j i with q|q
   . exact hj j q
   . obtain rfl:j=i:=by omega
     exact k2
  |exit j=>
   obtain⟨rfl,k2,rfl⟩:=C;obtain rfl:i=n:=by omega
   exact⟨rfl,he hj⟩
  |_=>exact C.elim
 |ret u h m=>
  obtain⟨k1,k2,k3⟩:=C;have:=hr i k1 hj k2;rw[<- k3]at this;exact this
 |bad=>exact C.elim
end
theorem K4{i n:Nat}:decide (Int.ofNat i<Int.ofNat n)=true↔i<n:=⟨kA,fun h=>aW (cE.2 h)⟩
theorem K5{i n:Nat}:decide (Int.ofNat i<Int.ofNat n)=false↔n<=i:=⟨rG,fun h=>aX (by simp only[gD];omega)⟩
def Dz(c:Int):Bool:=(((decide (c<97)||decide (c>122))&&(decide (c<48)||decide (c>57)))&&(c !=45))&&(c !=95)
def qY(s:aa):Bool:=!(s.any fun b=>Dz (Int.ofNat b.toNat))&&decide (Int.ofNat s.length<=12)
theorem aey(s:aa)(hl:s.length<=1000000000):ee ak 118 [.str s] (.bool (qY s)):=by
 refine fc Tryz.func118 (fN 1 (be _) (amd s) all_nil ?_);refine Ms 0 s.length [0,3] (sNa s) (fun i=>Dz (Int.ofNat (s.getD i 0).toNat)) (.bool false,hL [],0) (be _) (ame s) all_nil .refl (fun i _=>⟨_,be _,_,_,_,amf s i (Int.ofNat (s.getD i 0).toNat),fun g hg A=>?_⟩) (fun i hi _ ht=>?_) (fun hj=>?_)
 . simp only[aA,aH,bq]at hg;rcases hg with rfl|rfl|rfl|rfl|rfl|rfl|rfl|rfl|rfl|rfl|rfl|rfl|rfl|rfl|rfl|rfl
   all_goals
    simp only[aA,aH,bq,aL,bn,K4,K5]at A;refine⟨?_,?_⟩
    . repeat' (first|exact all_nil|refine X ?_ ?_)
      all_goals first
       |trivial
       |exact⟨bJ _,A.1⟩
       |exact gV S
    . first
      |exact⟨A.1,by simp only[Dz,A,aP,cL,bX,bY,dg,cG,cJ,aT],rfl⟩
      |exact⟨rfl,A,rfl⟩
 . refine aG V.bool (Eq.symm ?_);unfold qY;have:(s.any fun b=>Dz (Int.ofNat b.toNat))=true:=List.any_eq_true.2 ⟨s.getD i 0,by rw[ax,au hi];exact bV hi,ht⟩;rw[this];rfl
 . refine eR (be _) (amg s _) (dK (g0 ⟨all_nil,_,_,_,rfl,aG V.bool (Eq.symm ?_)⟩));unfold qY;have:(s.any fun b=>Dz (Int.ofNat b.toNat))=false:=by
    rw[dn];intro x K;obtain⟨j,zB,rfl⟩:=ck K;have:=hj j zB;rw[ax,au zB]at this;simpa using this
   rw[this];rfl
theorem amu(f:FL):H (M ew []) [(11,.split),(17,.split),(24,.split),(31,.split),(40,.split),(49,.split)] 0 Tryz.f169 [2,3] (ek 2 (dQ Tryz.f169)) (dI [f.v,uv.v] .nil 0) (akw (f.k !=(0:Int)) (f.r !=(0:Int)) (f.dv !=(0:Int)) (f.vl !=(0:Int)) ((Int.ofNat f.fh.length) !=(0:Int)) ((Int.ofNat f.cu.length) !=(0:Int)) ([],ji) ([],eC (fI [(2,.ptr (some (0,0))),(3,.ptr (some (1,0)))] (hL [(0,.cells [.int .i64 (f.k),.int .i64 (f.r),.eM false (f.fh.length) (eL f.fh),.int .i64 (f.dv),.int .i64 (f.vl),.eM false (f.cu.length) (eL f.cu)]),(1,.cells [.int .i64 0,.int .i64 0,.eM false 0 [],.int .i64 0,.int .i64 0,.eM false 0 []])]) 2))):=G.Y
theorem amv(f:FL):H (M ew []) [(11,.split),(17,.split),(24,.split),(31,.split)] 0 Tryz.f169 [] (dQ Tryz.f169) (dI [{ f with fh:=[],cu:=[] }.v,uv.v] .nil 0) (adP (f.k !=(0:Int)) (f.r !=(0:Int)) (f.dv !=(0:Int)) (f.vl !=(0:Int)) ([],ji) ([],B0)):=G.Y
theorem amw(f:FL)(b:Bool):H (M (fa 169 [f.v,uv.v] (.bool b) ew) []) [] 0 Tryz.f146 [] (dQ Tryz.f146) (dI [f.v,uv.v] .nil 0) [([],[fG [f.v,uv.v]],.ret (.bool b) (hL []) 0)]:=G.Y
def fF(l:eV)(k:Int):eV:={ l with kd:=k }
def JX(p:P7):Bool:=p.a==(0:Int)&&(p.b==(0:Int)&&(p.c==(0:Int)&&(p.d==(0:Int)&&(p.e==(0:Int)&&(p.f==(0:Int)&&(p.n==(0:Int)&&true))))))
def GA(p:C4):Bool:=p.r==(0:Int)&&(p.g==(0:Int)&&(p.b==(0:Int)&&(p.a==(0:Int)&&true)))
abbrev nN(n:Nat):Bool:=(Int.ofNat n)==(0:Int)
abbrev Hun:List (Nat×mH):=[(17,.split),(26,.split),(32,.split),(44,.split),(54,.split),(66,.split),(76,.split)]
theorem amx(l:eV)(b:Bool):H (M (fa 146 [l.f.v,uv.v] (.bool b) ew) []) Hun 0 Tryz.f119 [] (dQ Tryz.f119) (dI [(fF l 1).v] .nil 0) (YB (nN l.kids.length) (l.of==(0:Int)) b (nN l.gA.length) ([fG [l.f.v,uv.v]],.ret (.bool (GA l.fi)) (hL []) 0) ([fG [l.f.v,uv.v]],ji) ([fG [l.f.v,uv.v]],ji) ([],ji) ([],ji)):=G.Y
theorem amy(l:eV)(b:Bool):H (M (fa 146 [l.f.v,uv.v] (.bool b) ew) []) Hun 0 Tryz.f119 [] (dQ Tryz.f119) (dI [(fF l 2).v] .nil 0) (YD (JX l.pl) (l.sp==(0:Int)) (nN l.gx.length) (l.of==(0:Int)) b (nN l.gA.length) ([fG [l.f.v,uv.v]],.ret (.bool (GA l.fi)) (hL []) 0) ([fG [l.f.v,uv.v]],ji) ([fG [l.f.v,uv.v]],ji) ([],ji) ([],ji) ([],ji) ([],ji)):=G.Y
theorem amz(l:eV)(b:Bool):H (M (fa 146 [l.f.v,uv.v] (.bool b) ew) []) Hun 0 Tryz.f119 [] (dQ Tryz.f119) (dI [(fF l 3).v] .nil 0) (adO (JX l.pl) (l.sp==(0:Int)) (nN l.gx.length) (nN l.kids.length) (l.of==(0:Int)) true (nN l.gA.length) ([],.ret (.bool (GA l.fi)) (hL []) 0) ([],ji)):=G.Y
theorem amA(l:eV)(b:Bool):H (M (fa 146 [l.f.v,uv.v] (.bool b) ew) []) Hun 0 Tryz.f119 [] (dQ Tryz.f119) (dI [(fF l 4).v] .nil 0) (YC (l.sp==(0:Int)) (nN l.gx.length) (nN l.kids.length) b (nN l.gA.length) ([fG [l.f.v,uv.v]],.ret (.bool (GA l.fi)) (hL []) 0) ([fG [l.f.v,uv.v]],ji) ([fG [l.f.v,uv.v]],ji) ([],ji) ([],ji) ([],ji)):=G.Y
theorem amB(l:eV)(b:Bool):H (M (fa 146 [l.f.v,uv.v] (.bool b) ew) []) Hun 0 Tryz.f119 [] (dQ Tryz.f119) (dI [(fF l 5).v] .nil 0) (YD (JX l.pl) (l.sp==(0:Int)) (nN l.gx.length) (nN l.kids.length) (l.of==(0:Int)) b ([fG [l.f.v,uv.v]],B0) ([fG [l.f.v,uv.v]],ji) ([],ji) ([],ji) ([],ji) ([],ji) ([],ji)):=G.Y
theorem qH{l:List (Bool×Bool)}{q:Prop}(h:(∀b∈l,b.1=b.2)->q):(∀b∈l,b.1=b.2)->q:=h
theorem GB{x:Int}:(x !=0)=!(x==0):=rfl
section
variable(f:FL){n:Nat}
def tR:Bool:=(f.k==(0:Int))&&((f.r==(0:Int))&&((f.dv==(0:Int))&&((f.vl==(0:Int))&&(nN f.fh.length&&nN f.cu.length))))
theorem GC:nN n=true↔n=0:=by
 unfold nN;rw[xJ,gD];omega
theorem amC:((Int.ofNat n) !=(0:Int))=!nN n:=rfl
theorem eqD:ee ak 169 [f.v,uv.v] (.bool (tR f)):=by
 refine fc Tryz.func169 ?_;by_cases h:f.fh=[]/\f.cu=[]
 . have hr:=amv f;have e:({ f with fh:=[],cu:=[] }:FL)=f:=by
    obtain⟨a,b,c,d,e,g⟩:=f;obtain⟨h1,C⟩:=h;simp only at h1 C;subst h1 C;rfl
   rw[e]at hr;have h1:nN f.fh.length=true:=GC.2 (by rw[h.1];rfl);have C:nN f.cu.length=true:=GC.2 (by rw[h.2];rfl);refine eR (be _) hr fun g hg A=>?_;simp only[aA,aH,bq]at hg;rcases hg with rfl|rfl|rfl|rfl|rfl
   all_goals
    simp only[aA,aH,bq,aL,bn,GB,bZ,dx]at A;exact⟨all_nil,_,_,_,rfl,aG V.bool (by simp only[tR,A,h1,C,aP,aT,cG])⟩
 . have hn:¬(nN f.fh.length=true/\nN f.cu.length=true):=fun q=>h ⟨cS.1 (GC.1 q.1),cS.1 (GC.1 q.2)⟩;refine isH 2 (be _) (amu f) fun g hg A=>?_;simp only[aA,aH,bq]at hg;rcases hg with rfl|rfl|rfl|rfl|rfl|rfl|rfl
   all_goals
    simp only[aA,aH,bq,aL,bn,GB,amC,bZ,dx]at A
   all_goals first
    |(refine absurd ?_ hn;simp only[nN,A,and_self];done)
    |exact⟨all_nil,aG V.bool (by simp only[tR,nN,A,aP,aT,cJ])⟩
theorem amD:ee ak 146 [f.v,uv.v] (.bool (tR f)):=
 fc Tryz.func146 (eR (ff (eqD f) (be _)) (amw f (tR f)) (dK (g0 ⟨eO rfl,_,_,_,rfl,rfl⟩)))
end
def GD(k:Int)(l:eV):Bool:=((k==1||k==4)||JX l.pl)&&((k==1||((l.sp==(0:Int))&&nN l.gx.length))&&((k==2||nN l.kids.length)&&((k==4||(l.of==(0:Int)))&&((k==3||tR l.f)&&(k==5||(nN l.gA.length&&GA l.fi))))))
def HF(l:eV):Bool:=GD l.kd l
theorem unD(l:eV)(h1:1<=l.kd)(h5:l.kd<=5):ee ak 119 [l.v] (.bool (HF l)):=by
 have el:l=fF l l.kd:=rfl;have fm:=ff (amD l.f) (be _);have key:∀k,1<=k->k<=5->ee ak 119 [(fF l k).v] (.bool (GD k l)):=by
  intro k k1 k5;rcases(by omega:k=1\/k=2\/k=3\/k=4\/k=5)with rfl|rfl|rfl|rfl|rfl
  . have e:GD 1 l=(nN l.kids.length&&((l.of==(0:Int))&&(tR l.f&&(nN l.gA.length&&GA l.fi)))):=rfl;rw[e];refine fc Tryz.func119 (eR fm (amx l (tR l.f)) ?_)
    repeat' (first|exact ij|refine dN ?_ ?_)
    all_goals
     intro A;simp only[aA,aH,bq,aL,bn]at A;exact⟨by first|exact all_nil|exact eO rfl,_,_,_,rfl,aG V.bool (by simp only[A,aP,aT,cJ])⟩
  . have e:GD 2 l=(JX l.pl&&(((l.sp==(0:Int))&&nN l.gx.length)&&((l.of==(0:Int))&&(tR l.f&&(nN l.gA.length&&GA l.fi))))):=rfl;rw[e];refine fc Tryz.func119 (eR fm (amy l (tR l.f)) ?_)
    repeat' (first|exact ij|refine dN ?_ ?_)
    all_goals
     intro A;simp only[aA,aH,bq,aL,bn]at A;exact⟨by first|exact all_nil|exact eO rfl,_,_,_,rfl,aG V.bool (by simp only[A,aP,aT,cJ])⟩
  . have e:GD 3 l=(JX l.pl&&(((l.sp==(0:Int))&&nN l.gx.length)&&(nN l.kids.length&&((l.of==(0:Int))&&(nN l.gA.length&&GA l.fi))))):=rfl;rw[e];refine fc Tryz.func119 (eR fm (amz l (tR l.f)) ?_)
    repeat' (first|exact ij|refine dN ?_ ?_)
    all_goals
     intro A;simp only[aA,aH,bq,aL,bn]at A;exact⟨by first|exact all_nil|exact eO rfl,_,_,_,rfl,aG V.bool (by simp only[A,aP,aT,cJ])⟩
  . have e:GD 4 l=(((l.sp==(0:Int))&&nN l.gx.length)&&(nN l.kids.length&&(tR l.f&&(nN l.gA.length&&GA l.fi)))):=rfl;rw[e];refine fc Tryz.func119 (eR fm (amA l (tR l.f)) ?_)
    repeat' (first|exact ij|refine dN ?_ ?_)
    all_goals
     intro A;simp only[aA,aH,bq,aL,bn]at A;exact⟨by first|exact all_nil|exact eO rfl,_,_,_,rfl,aG V.bool (by simp only[A,aP,aT,cJ])⟩
  . have e:GD 5 l=(JX l.pl&&(((l.sp==(0:Int))&&nN l.gx.length)&&(nN l.kids.length&&((l.of==(0:Int))&&(tR l.f&&true))))):=rfl;rw[e];refine fc Tryz.func119 (eR fm (amB l (tR l.f)) ?_)
    repeat' (first|exact ij|refine dN ?_ ?_)
    all_goals
     intro A;simp only[aA,aH,bq,aL,bn]at A;exact⟨by first|exact all_nil|exact eO rfl,_,_,_,rfl,aG V.bool (by simp only[A,aP,aT,cJ])⟩
 exact key l.kd h1 h5
theorem UH(f:FL):H (M ew []) [(16,.split),(20,.split),(28,.split),(37,.split),(45,.split)] 0 Tryz.f145 [] (dQ Tryz.f145) (dI [f.v,.bool true,.bool false,.bool false,.bool true] .nil 0) (BJ (f.vl==(0:Int)) (nN f.cu.length) ([],B0) ([],ji)):=G.Y
theorem UI(f:FL):H (M ew []) [(16,.split),(20,.split),(28,.split),(37,.split),(45,.split)] 0 Tryz.f145 [] (dQ Tryz.f145) (dI [f.v,.bool false,.bool false,.bool false,.bool true] .nil 0) (Er (nN f.fh.length) (f.dv==(0:Int)) (f.vl==(0:Int)) (nN f.cu.length) ([],B0) ([],ji)):=G.Y
theorem UJ(f:FL):H (M ew []) [(16,.split),(20,.split),(28,.split),(37,.split),(45,.split)] 0 Tryz.f145 [] (dQ Tryz.f145) (dI [f.v,.bool false,.bool false,.bool true,.bool false] .nil 0) (Er (nN f.fh.length) (f.dv==(0:Int)) (f.vl==(0:Int)) (f.r==(0:Int)) ([],B0) ([],ji)):=G.Y
section
variable(f:FL)(b:Bool)(i:Nat)(x:Int)(p:Bool)
theorem UK:H (M ew []) [(16,.split),(20,.split),(28,.split),(37,.split),(45,.split)] 0 Tryz.f145 [] (dQ Tryz.f145) (dI [f.v,.bool false,.bool false,.bool false,.bool false] .nil 0) (Us (nN f.fh.length) (f.dv==(0:Int)) (f.vl==(0:Int)) (nN f.cu.length) (f.r==(0:Int)) ([],B0) ([],ji)):=G.Y
theorem UL:H (M ew []) [(16,.split),(20,.split),(28,.split),(37,.split),(45,.split)] 0 Tryz.f145 [] (dQ Tryz.f145) (dI [f.v,.bool false,.bool true,.bool false,.bool false] .nil 0) (Er (nN f.fh.length) (f.dv==(0:Int)) (nN f.cu.length) (f.r==(0:Int)) ([],B0) ([],ji)):=G.Y
theorem UM:H (M ew []) [(16,.split),(20,.split),(28,.split),(37,.split),(45,.split)] 0 Tryz.f145 [] (dQ Tryz.f145) (dI [f.v,.bool false,.bool true,.bool false,.bool true] .nil 0) (Qy (nN f.fh.length) (f.dv==(0:Int)) (nN f.cu.length) ([],B0) ([],ji)):=G.Y
noncomputable abbrev BK:Code:=dQ Tryz.f117
noncomputable abbrev Zr:Code:=eB (dO (dH 2 BK))
noncomputable abbrev Zs:Code:=l9 (eB (dP Zr))
noncomputable abbrev Zt:Code:=eB Zs
def mh(k:Int):FL:={ f with k:=k }
def Bm(r:List (Nat×V)):St:=fI ([(1,.ptr (some (0,0)))]++r) (hL [(0,.cells f.cs)]) 1
theorem amE:H (M ew []) [(7,.split)] 0 Tryz.f117 [1,3] (ek 2 BK) (dI [f.v] .nil 0) (fV (decide (f.r>=(0:Int))) ([],eC (Bm f [(3,.bool (decide (f.r<=(3:Int))))])) ([],eC (Bm f [(3,.bool false)]))):=G.Y
theorem amF:H (M ew []) [] 0 Tryz.f117 [1,3,14] (dO (dO (dH 2 BK))) (Bm (mh f 1) [(3,.bool b)]) [([],[],eC (Bm (mh f 1) [(3,.bool b),(14,R 1)]))]:=G.Y
theorem amG:H (M ew []) [] 0 Tryz.f117 [1,3,15] (dO (dP Zr)) (Bm (mh f 1) [(3,.bool b),(14,R 1)]) [([],[],eC (Bm (mh f 1) [(3,.bool b),(15,.bool true)]))]:=G.Y
abbrev Rk:Prop:=V.int B (IntKind.i64.wrap (IntKind.i64.wrap (IntKind.i64.wrap ((2:Int)*f.r)+(1:Int))*IntKind.i64.wrap (IntKind.i64.wrap ((2:Int)*f.r)+(1:Int))))=R (((2:Int)*f.r+(1:Int))*((2:Int)*f.r+(1:Int)))
theorem amH:H (M ew []) [(31,.dL (R ((2*f.r+1)*(2*f.r+1)))),(32,.split),(37,.split),(42,.split)] 0 Tryz.f117 [1] (dO Zs) (Bm (mh f 1) [(3,.bool true),(15,.bool true)]) (akv ((Int.ofNat f.fh.length) !=((2:Int)*f.r+(1:Int))*((2:Int)*f.r+(1:Int))) (decide (f.dv<(1:Int))) (decide (f.dv>(1048576:Int))) ([Rk f],ji) ([Rk f],eC (Bm (mh f 1) []))):=G.Y
theorem amI:H (M ew []) [] 0 Tryz.f117 [] (dO Zs) (Bm (mh f 1) [(3,.bool false),(15,.bool true)]) [([],[],ji)]:=G.Y
theorem amJ:H (M ew []) [] 0 Tryz.f117 [1,4] (dO (dO Zt)) (Bm (mh f 1) []) [([],[],eC (Bm (mh f 1) [(4,J 0)]))]:=G.Y
abbrev DA:Prop:=V.eo (dU (eL f.fh) (i*1) 1)=V.eo [D.int B x]
theorem amK:H (M ew []) [(48,.split),(54,.dL (.eo [.int .i64 x])),(61,.dL (.eo [.int .i64 x])),(56,.split),(63,.split),(50,.dL (J (i+1)))] 0 Tryz.f117 [1,4] (dP (dP (eB (dO Zt)))) (Bm (mh f 1) [(4,J i)]) [([(decide (Int.ofNat i<(Int.ofNat f.fh.length)),true),(decide (x<(-4096:Int)),true)],[fT i f.fh.length,jo f.fh,DA f i x],ji),([(decide (Int.ofNat i<(Int.ofNat f.fh.length)),true),(decide (x<(-4096:Int)),false),(decide (x>(4096:Int)),true)],[fT i f.fh.length,jo f.fh,DA f i x,fT i f.fh.length,jo f.fh,DA f i x],ji),([(decide (Int.ofNat i<(Int.ofNat f.fh.length)),true),(decide (x<(-4096:Int)),false),(decide (x>(4096:Int)),false)],[fT i f.fh.length,jo f.fh,DA f i x,fT i f.fh.length,jo f.fh,DA f i x,oq i],eC (Bm (mh f 1) [(4,J (i+1))])),([(decide (Int.ofNat i<(Int.ofNat f.fh.length)),false)],[],.to (.exit 1) (Bm (mh f 1) [(4,J i)]))]:=G.Y
theorem amL:H (M (fa 145 [(mh f 1).v,.bool true,.bool false,.bool false,.bool true] (.bool p) ew) []) [] 0 Tryz.f117 [] (eB Zt) (Bm (mh f 1) [(4,J i)]) [([],[fG [(mh f 1).v,.bool true,.bool false,.bool false,.bool true]],.ret (.bool p) (hL []) 0)]:=G.Y
theorem aeA:H (M (fa 145 [(mh f 2).v,.bool false,.bool false,.bool false,.bool true] (.bool p) ew) []) [(72,.split)] 0 Tryz.f117 [] (dH 2 BK) (Bm (mh f 2) [(3,.bool b)]) (fV b ([fG [(mh f 2).v,.bool false,.bool false,.bool false,.bool true]],.ret (.bool p) (hL []) 0) ([],ji)):=G.Y
theorem aeB:H (M (fa 145 [(mh f 3).v,.bool false,.bool false,.bool false,.bool true] (.bool p) ew) []) [(72,.split)] 0 Tryz.f117 [] (dH 2 BK) (Bm (mh f 3) [(3,.bool b)]) (fV b ([fG [(mh f 3).v,.bool false,.bool false,.bool false,.bool true]],.ret (.bool p) (hL []) 0) ([],ji)):=G.Y
theorem aeC:H (M (fa 145 [(mh f 4).v,.bool false,.bool false,.bool false,.bool true] (.bool p) ew) []) [(72,.split)] 0 Tryz.f117 [] (dH 2 BK) (Bm (mh f 4) [(3,.bool b)]) (fV b ([fG [(mh f 4).v,.bool false,.bool false,.bool false,.bool true]],.ret (.bool p) (hL []) 0) ([],ji)):=G.Y
theorem aeD(c p:Bool):H (M (fa 145 [(mh f 5).v,.bool false,.bool false,.bool true,.bool false] (.bool p) (fa 137 [fD f.cu] (.bool c) ew)) []) [(81,.split)] 0 Tryz.f117 [] (dH 2 BK) (Bm (mh f 5) [(3,.bool b)]) (fV c ([fG [fD f.cu],fG [(mh f 5).v,.bool false,.bool false,.bool true,.bool false]],.ret (.bool p) (hL []) 0) ([fG [fD f.cu]],ji)):=G.Y
theorem aeE:H (M (fa 145 [(mh f 6).v,.bool false,.bool false,.bool false,.bool false] (.bool p) ew) []) [] 0 Tryz.f117 [] (dH 2 BK) (Bm (mh f 6) [(3,.bool b)]) [([],[fG [(mh f 6).v,.bool false,.bool false,.bool false,.bool false]],.ret (.bool p) (hL []) 0)]:=G.Y
theorem aeF:H (M (fa 145 [(mh f 7).v,.bool false,.bool true,.bool false,.bool false] (.bool p) ew) []) [(93,.split),(97,.split)] 0 Tryz.f117 [] (dH 2 BK) (Bm (mh f 7) [(3,.bool b)]) (BJ (decide (f.vl>=(0:Int))) (decide (f.vl<=(256:Int))) ([fG [(mh f 7).v,.bool false,.bool true,.bool false,.bool false]],.ret (.bool p) (hL []) 0) ([],ji)):=G.Y
theorem aeG:H (M (fa 145 [(mh f 8).v,.bool false,.bool true,.bool false,.bool true] (.bool p) ew) []) [(107,.split),(111,.split),(116,.split),(121,.split)] 0 Tryz.f117 [] (dH 2 BK) (Bm (mh f 8) [(3,.bool b)]) (Er (decide (f.r>=(-3:Int))) (decide (f.r<=(3:Int))) (decide (f.vl>=(-3:Int))) (decide (f.vl<=(3:Int))) ([fG [(mh f 8).v,.bool false,.bool true,.bool false,.bool true]],.ret (.bool p) (hL []) 0) ([],ji)):=G.Y
theorem aeH:H (M ew []) [(16,.dL (.bool false)),(68,.dL (.bool false)),(69,.dL (.bool false)),(70,.dL (.bool false)),(77,.dL (.bool false)),(86,.dL (.bool false)),(90,.dL (.bool false)),(104,.dL (.bool false))] 0 Tryz.f117 [] (dH 2 BK) (Bm f [(3,.bool b)]) [([],[kP (f.k==(1:Int)),kP (f.k==(2:Int)),kP (f.k==(3:Int)),kP (f.k==(4:Int)),kP (f.k==(5:Int)),kP (f.k==(6:Int)),kP (f.k==(7:Int)),kP (f.k==(8:Int))],ji)]:=G.Y
end
set_option maxRecDepth 10000
section
variable(p:P7)(c:List Int){α:Type}{n i:Nat}
theorem Fm{l:List α}{d:α}{f:α->Bool}{i:Nat}(hi:i<l.length)(h:f (l.getD i d)=true):l.any f=true:=
 List.any_eq_true.2 ⟨l.getD i d,by rw[ax,au hi];exact bV hi,h⟩
theorem Jd{l:List α}{d:α}{f:α->Bool}(h:∀j,j<l.length->f (l.getD j d)=false):l.any f=false:=by
 rw[dn];intro x K;obtain⟨j,zB,rfl⟩:=ck K;have:=h j zB;rw[ax,au zB]at this;simpa using this
theorem GF{l:List (Int×Int)}{i:Nat}(h:i<l.length):V.eo (dU (nf l) (i*2) 2)= .eo [.int .i64 (l.getD i (0,0)).1,.int .i64 (l.getD i (0,0)).2]:=K2 (by rw[ax,au h];rfl)
def K6(p:Int×Int):Bool:=((decide (p.1< -65536)||decide (p.1>65536))||decide (p.2< -65536))||decide (p.2>65536)
def kf(l:List (Int×Int)):Bool:=!(l.any K6)&&(decide (Int.ofNat l.length>=3)&&decide (Int.ofNat l.length<=64))
theorem aeI(l:List (Int×Int))(hl:l.length<=1000000000):ee ak 120 [wA l] (.bool (kf l)):=by
 refine fc Tryz.func120 (fN 1 (be _) (amh l) all_nil ?_);refine Ms 0 l.length [0,3] (sPh l) (fun i=>K6 (l.getD i (0,0))) (.bool false,hL [],0) (be _) (ami l) all_nil .refl (fun i _=>⟨_,be _,_,_,_,amj l i (l.getD i (0,0)).1 (l.getD i (0,0)).2,?_⟩) (fun i hi _ ht=>?_) (fun hj=>?_)
 . have hp:=pK l;have hg:=fun h=>GF (l:=l) (i:=i) h
   repeat' (first|exact ij|refine dN ?_ ?_)
   all_goals
    intro A;simp only[aA,aH,bq,aL,bn,K4,K5]at A;refine⟨?_,?_⟩
    . repeat' (first|exact all_nil|refine X ?_ ?_)
      all_goals first
       |exact iI A.1
       |exact hp
       |exact hg A.1
       |exact gV S
    . first
      |exact⟨A.1,by simp only[K6,A,cL,bX,bY,dg],rfl⟩
      |exact⟨rfl,A,rfl⟩
 . refine aG V.bool (Eq.symm ?_);unfold kf;rw[Fm hi ht];rfl
 . have e:kf l=(decide (Int.ofNat l.length>=3)&&decide (Int.ofNat l.length<=64)):=by unfold kf;rw[Jd hj];rfl
   rw[e];exact eR (be _) (amk l _) (dN (g1 fun h=>⟨all_nil,_,_,_,rfl,by rw[h];rfl⟩) (dK (g1 fun h=>⟨all_nil,_,_,_,rfl,by rw[h];rfl⟩)))
theorem Zu:jM ak 143 (ic K3):=by
 refine nD Tryz.func143 fun args hc v e=>?_;unfold K3 at e;split at e
 case h_2=>cases e
 rename_i x k;obtain⟨rfl,rfl⟩:=sm e;refine⟨rfl,rfl,rfl,fun hA=>?_⟩;have hk:0<=k/\k<=1000000000:=hA _ (by simp);have e1:IntKind.i64.wrap ((0:Int)-k)= -k:=by rw[iz S S];omega
 refine eR (be _) (amb x k) (dN (g1 fun h=>⟨all_nil,_,_,_,rfl,?_⟩) (dK (g1 fun h=>⟨all_nil,_,_,_,rfl,?_⟩)))
 . rw[e1]at h;unfold w9;rw[show decide (-k<=x)=true from h];rfl
 . rw[e1]at h;unfold w9;rw[show decide (-k<=x)=false from h];rfl
theorem Rl:fo ak Wv9:=fq Zu (be _)
def Od:Int:=IntKind.i64.wrap (IntKind.i64.wrap (p.a*p.e)-IntKind.i64.wrap (p.b*p.d))
def Tt:Bool:=w9 p.a 4096&&(w9 p.b 4096&&(w9 p.d 4096&&w9 p.e 4096))
def Xa:Bool:=w9 p.c 268435456&&w9 p.f 268435456
def Bn:Bool:=decide (p.n>=1)&&(decide (p.n<=4096)&&(Tt p&&(Xa p&&(Od p !=0))))
theorem v9D:ee ak 116 [.agg p.cs] (.bool (Bn p)):=by
 have A1:∀{l:ah},(∀a∈l,a)->∀a∈((0:Int)<=(4096:Int)/\(4096:Int)<=(1000000000:Int))::l,a:=fun h=>X fg h;have A2:∀{l:ah},(∀a∈l,a)->∀a∈((0:Int)<=(268435456:Int)/\(268435456:Int)<=(1000000000:Int))::l,a:=fun h=>X fg h;have k3:TG ak 0 Tryz.f116.ntmps (dH 3 Rh) (OY p [(3,.bool (Tt p)),(4,.bool (Xa p))]) (gi ak 0 Tryz.f116 fun u _ _=>u= .bool (Bn p)):=by
  refine eR (be _) (amo p (Tt p) (Xa p)) ?_
  repeat' (first|exact ij|refine dN ?_ ?_)
  all_goals
   intro A;simp only[aA,aH,bq,aL,bn]at A;exact⟨all_nil,_,_,_,rfl,aG V.bool (by simp only[Bn,Od,A,aP,aT])⟩
 have k2:TG ak 0 Tryz.f116.ntmps (dH 2 Rh) (OY p [(3,.bool (Tt p))]) (gi ak 0 Tryz.f116 fun u _ _=>u= .bool (Bn p)):=by
  refine uB 1 Rl (amn p (Tt p)) ?_
  repeat' (first|exact ij|refine dN ?_ ?_)
  all_goals
   intro A;simp only[aA,aH,bq,aL,bn]at A;refine⟨by repeat' (first|exact all_nil|refine A2 ?_),_,rfl,?_⟩
   first
   |(rw[show Xa p=true by simp only[Xa,A,aP]]at k3;exact k3)
   |(rw[show Xa p=false by simp only[Xa,A,aP,aT]]at k3;exact k3)
 refine fc Tryz.func116 (uB 2 Rl (amm p) ?_)
 repeat' (first|exact ij|refine dN ?_ ?_)
 all_goals
  intro A;simp only[aA,aH,bq,aL,bn]at A;refine⟨by repeat' (first|exact all_nil|refine A1 ?_),_,rfl,?_⟩
  first
  |(rw[show Tt p=true by simp only[Tt,A,aP]]at k2;exact k2)
  |(rw[show Tt p=false by simp only[Tt,A,aP,aT]]at k2;exact k2)
def Oe(i:Nat):Bool:=(decide (c.getD i 0<0)||decide (c.getD i 0>65535))||(match i with|0=>false|j+1=>decide (c.getD (j+1) 0<c.getD j 0))
def kp:Bool:=(decide (Int.ofNat c.length>=2)&&decide (Int.ofNat c.length<=257))&& !((List.range c.length).any (Oe c))
theorem qZ{f:Nat->Bool}(hi:i<n)(h:f i=true):(List.range n).any f=true:=List.any_eq_true.2 ⟨i,bQ.2 hi,h⟩
theorem q8{f:Nat->Bool}(h:∀j,j<n->f j=false):(List.range n).any f=false:=by
 rw[dn];intro x K;rw[h x (bQ.1 K)];simp
theorem c5D(hl:c.length<=1000000000):ee ak 137 [fD c] (.bool (kp c)):=by
 refine fc Tryz.func137 ?_;have hp:=eI c;have qI:(decide (Int.ofNat c.length>=2)&&decide (Int.ofNat c.length<=257))=true->TG ak 0 Tryz.f137.ntmps Ri (fI [(0,fD c)] (hL []) 0) (gi ak 0 Tryz.f137 fun u _ _=>u= .bool (kp c)):=fun hn=>by
  refine Ms 0 c.length [0,4] (W9 c) (Oe c) (.bool false,hL [],0) (be _) (amq c) all_nil .refl (fun i hi=>?_) (fun i hi _ ht=>?_) (fun hj=>?_)
  . cases i with
    |zero=>
     refine⟨_,be _,_,_,_,amr c (c.getD 0 0),?_⟩;have hg:=fun h=>fP (l:=c) (i:=0) h
     repeat' (first|exact ij|refine dN ?_ ?_)
     all_goals
      intro A;simp only[aA,aH,bq,aL,bn]at A;refine⟨?_,?_⟩
      . repeat' (first|exact all_nil|refine X ?_ ?_)
        all_goals first
         |exact⟨Int.le_refl _,aZ A.1⟩
         |exact hp
         |exact hg (cE.1 (aZ A.1))
         |rfl
      . first
        |exact⟨cE.1 (aZ A.1),by simp only[Oe,A,cL,bX,bY,dg],rfl⟩
        |exact⟨rfl,by have:=bt A;simp only[gD]at this;omega,rfl⟩
    |succ j=>
     refine⟨_,be _,_,_,_,ams c j (c.getD (j+1) 0) (c.getD j 0),?_⟩;have hg:=fun h=>fP (l:=c) (i:=j+1) h;have hg2:=fun h=>fP (l:=c) (i:=j) h
     repeat' (first|exact ij|refine dN ?_ ?_)
     all_goals
      intro A;simp only[aA,aH,bq,aL,bn,K4,K5]at A;refine⟨?_,?_⟩
      . repeat' (first|exact all_nil|refine X ?_ ?_)
        all_goals first
         |exact iI A.1
         |exact hp
         |exact hg A.1
         |exact hg2 S
         |exact iI (i:=j) S
         |exact aG V.bool (aW (by simp only[gD];omega))
         |exact xD (by simp only[gD];omega) S
      . first
        |exact⟨A.1,by simp only[Oe,A,cL,bX,bY,dg],rfl⟩
        |exact⟨rfl,A,rfl⟩
  . refine aG V.bool (Eq.symm ?_);unfold kp;rw[qZ hi ht];simp
  . refine eR (be _) (amt c _) (dK (g0 ⟨all_nil,_,_,_,rfl,aG V.bool (Eq.symm ?_)⟩));unfold kp;rw[q8 hj,hn];rfl
 refine isH 3 (be _) (amp c) ?_
 repeat' (first|exact ij|refine dN ?_ ?_)
 all_goals
  intro A;simp only[aA,aH,bq,aL,bn]at A;refine⟨all_nil,?_⟩
  first
  |exact absurd A.2 fg
  |exact qI (by simp only[dx]at A;rw[A.1,A.2];rfl)
  |exact aG V.bool (Eq.symm (by simp only[bZ]at A;simp only[kp,A,aT,cJ]))
end
set_option maxRecDepth 10000
section
variable{N n0:Nat}{c:Code}{s:St}{Q:Exit->St->Prop}{ks:gG}{hh:List (Nat×List (Nat×mH))}{dG:List (Nat×mH)}{fn:Func}{live:List Nat}{dD:List (List (Bool×Bool)×ah×ko)}
def SqQ(P:Program)(N n0:Nat)(fn:Func)(live:List Nat)(iX:V->I es->Nat->Prop)(b:Code)(Q:Exit->St->Prop):ko->Prop
 | .to .normal s1=>TG P N n0 b s1 Q
 | .to y s1=>∀T,lB N live T=some s1->Q y T
 | .ret v h n=>iX v h n/\∀T,gi P N fn iX .ret T->Q .ret T
 | .bad=>False
theorem qm(fm:fo ak ks)(iX:V->I es->Nat->Prop)(hr:H (M ks hh) dG N fn live (dO c) s dD)(h:∀g∈dD,(∀b∈g.1,b.1=b.2)->(∀a∈g.2.1,a)/\SqQ ak N n0 fn live iX (eB c) Q g.2.2)(hs:(sB c&&fe n0 (dO c))=true:=by kernel_rfl):TG ak N n0 c s Q:=by
 rw[ay]at hs;refine dY hs.1 (gw fm iX hr (fun g hg A=>?_) hs.2);obtain⟨h1,C⟩:=h g hg A;refine⟨h1,?_⟩;obtain⟨_,_,r⟩:=g;cases r with
 |to y s1=>
  cases y with
  |normal=>exact fun T eu=>gj eu C
  |_=>exact C
 |ret v h n=>exact C
 |bad=>exact C.elim
end
section
variable(f:FL)(b:Bool)
def pX(a b c d:Bool):Bool:=(a||(nN f.fh.length&&(f.dv==(0:Int))))&&((b||(f.vl==(0:Int)))&&((c||nN f.cu.length)&&(d||(f.r==(0:Int)))))
theorem pn1:ee ak 145 [f.v,.bool true,.bool false,.bool false,.bool true] (.bool (pX f true false false true)):=by
 have e:pX f true false false true=((f.vl==(0:Int))&&(nN f.cu.length&&true)):=rfl;rw[e];refine fc Tryz.func145 (eR (be _) (UH f) ?_)
 repeat' (first|exact ij|refine dN ?_ ?_)
 all_goals
  intro A;simp only[aA,aH,bq,aL,bn]at A;exact⟨all_nil,_,_,_,rfl,aG V.bool (by simp only[A,aP,aT,cG])⟩
theorem pn2:ee ak 145 [f.v,.bool false,.bool false,.bool false,.bool true] (.bool (pX f false false false true)):=by
 have e:pX f false false false true=((nN f.fh.length&&(f.dv==(0:Int)))&&((f.vl==(0:Int))&&(nN f.cu.length&&true))):=rfl;rw[e];refine fc Tryz.func145 (eR (be _) (UI f) ?_)
 repeat' (first|exact ij|refine dN ?_ ?_)
 all_goals
  intro A;simp only[aA,aH,bq,aL,bn]at A;exact⟨all_nil,_,_,_,rfl,aG V.bool (by simp only[A,aP,aT,cG])⟩
theorem pn3:ee ak 145 [f.v,.bool false,.bool false,.bool true,.bool false] (.bool (pX f false false true false)):=by
 have e:pX f false false true false=((nN f.fh.length&&(f.dv==(0:Int)))&&((f.vl==(0:Int))&&(f.r==(0:Int)))):=rfl;rw[e];refine fc Tryz.func145 (eR (be _) (UJ f) ?_)
 repeat' (first|exact ij|refine dN ?_ ?_)
 all_goals
  intro A;simp only[aA,aH,bq,aL,bn]at A;exact⟨all_nil,_,_,_,rfl,aG V.bool (by simp only[A,aP,aT,cG])⟩
theorem pn4:ee ak 145 [f.v,.bool false,.bool false,.bool false,.bool false] (.bool (pX f false false false false)):=by
 have e:pX f false false false false=((nN f.fh.length&&(f.dv==(0:Int)))&&((f.vl==(0:Int))&&(nN f.cu.length&&(f.r==(0:Int))))):=rfl;rw[e];refine fc Tryz.func145 (eR (be _) (UK f) ?_)
 repeat' (first|exact ij|refine dN ?_ ?_)
 all_goals
  intro A;simp only[aA,aH,bq,aL,bn]at A;exact⟨all_nil,_,_,_,rfl,aG V.bool (by simp only[A,aP,aT,cG])⟩
theorem pn5:ee ak 145 [f.v,.bool false,.bool true,.bool false,.bool false] (.bool (pX f false true false false)):=by
 have e:pX f false true false false=((nN f.fh.length&&(f.dv==(0:Int)))&&(nN f.cu.length&&(f.r==(0:Int)))):=rfl;rw[e];refine fc Tryz.func145 (eR (be _) (UL f) ?_)
 repeat' (first|exact ij|refine dN ?_ ?_)
 all_goals
  intro A;simp only[aA,aH,bq,aL,bn]at A;exact⟨all_nil,_,_,_,rfl,aG V.bool (by simp only[A,aP,aT,cG])⟩
theorem pn6:ee ak 145 [f.v,.bool false,.bool true,.bool false,.bool true] (.bool (pX f false true false true)):=by
 have e:pX f false true false true=((nN f.fh.length&&(f.dv==(0:Int)))&&(nN f.cu.length&&true)):=rfl;rw[e];refine fc Tryz.func145 (eR (be _) (UM f) ?_)
 repeat' (first|exact ij|refine dN ?_ ?_)
 all_goals
  intro A;simp only[aA,aH,bq,aL,bn]at A;exact⟨all_nil,_,_,_,rfl,aG V.bool (by simp only[A,aP,aT,cG])⟩
def yS:Bool:=decide (f.r>=0)&&decide (f.r<=3)
def DB(x:Int):Bool:=decide (x< -4096)||decide (x>4096)
def JY:Bool:=yS f&&(!((Int.ofNat f.fh.length) !=(2*f.r+1)*(2*f.r+1))&&(!decide (f.dv<1)&&(!decide (f.dv>1048576)&&(!f.fh.any DB&&pX f true false false true))))
def iV:Bool:=if f.k=1 then JY f else if f.k=2\/f.k=3\/f.k=4 then yS f&&pX f false false false true else if f.k=5 then kp f.cu&&pX f false false true false
 else if f.k=6 then pX f false false false false else if f.k=7 then(decide (f.vl>=0)&&decide (f.vl<=256))&&pX f false true false false
 else if f.k=8 then(decide (f.r>= -3)&&(decide (f.r<=3)&&(decide (f.vl>= -3)&&decide (f.vl<=3))))&&pX f false true false true else false
theorem aeJ(hk:f.fh.length<=1000000000)(h1:f=mh f 1)(b:Bool)(U:b=yS f){Q:Exit->St->Prop}(hQ:∀T,gi ak 0 Tryz.f117 (fun u _ _=>u= .bool (JY f)) .ret T->Q .ret T):TG ak 0 Tryz.f117.ntmps (dP Zr) (Bm f [(3,.bool b),(14,R 1)]) Q:=by
 have r3:=amG f b;have r4:=amH f;have r5:=amI f;have r6:=amJ f;have r7:=fun i=>amK f i (f.fh.getD i 0);have r8:=fun i=>amL f i (pX f true false false true);rw[<- h1]at r3 r4 r5 r6 r7 r8;refine qm (be _) eP r3 (dK (g0 ⟨all_nil,?_⟩));refine kz (t:=true) dJ dJ (fun _=>?_) (fun h=>by cases h);cases b with
 |false=>
  have e2:JY f=false:=by unfold JY;rw[<- U];rfl
  exact qm (be _) _ r5 (dK (g0 ⟨all_nil,aG V.bool e2.symm,hQ⟩))
 |true=>
  have hr:yS f=true:=U.symm;have Kg:=hr;unfold yS at Kg;rw[ay,aU,aU]at Kg;have hw:V.int B (IntKind.i64.wrap (IntKind.i64.wrap (IntKind.i64.wrap ((2:Int)*f.r)+(1:Int))*IntKind.i64.wrap (IntKind.i64.wrap ((2:Int)*f.r)+(1:Int))))=R (((2:Int)*f.r+(1:Int))*((2:Int)*f.r+(1:Int))):=by
   obtain⟨k1,k2⟩:=Kg;rcases(by omega:f.r=0\/f.r=1\/f.r=2\/f.r=3)with h|h|h|h<;>rw[h]<;>rfl
  refine qm (be _) (fun u _ _=>u= .bool (JY f)) r4 ?_
  repeat' (first|exact ij|refine dN ?_ ?_)
  all_goals
   intro A;simp only[aA,aH,bq,aL,bn]at A;refine⟨eO hw,?_⟩
  . exact⟨aG V.bool (by simp only[JY,hr,A,aP,Bool.not_true,aT]),hQ⟩
  . exact⟨aG V.bool (by simp only[JY,hr,A,aP,Bool.not_true,Bool.not_false,aT]),hQ⟩
  . exact⟨aG V.bool (by simp only[JY,hr,A,aP,Bool.not_true,Bool.not_false,aT]),hQ⟩
  have e3:JY f=(!f.fh.any DB&&pX f true false false true):=by simp only[JY,hr,A,aP,Bool.not_false]
  rw[e3]at hQ;have hp:=eI f.fh;have hP:=pn1 f;refine dY dJ (qm (be _) eP r6 (dK (g0 ⟨all_nil,?_⟩)));refine Fi (fn:=Tryz.f117) 1 (fun u _ _=>u= .bool (!f.fh.any DB&&pX f true false false true)) [1,4] (f.fh.length-·) (fun i=>i<=f.fh.length/\∀j,j<i->DB (f.fh.getD j 0)=false) (fun i=>Bm f [(4,J i)]) 0 ⟨aR _,fun _ h=>absurd h (bE _)⟩ .refl (fun i ⟨hi,hj⟩=>?_);refine⟨_,be _,_,_,_,r7 i,?_⟩;have hg:=fun h=>fP (l:=f.fh) (i:=i) h
  repeat' (first|exact ij|refine dN ?_ ?_)
  all_goals
   intro A;simp only[aA,aH,bq,aL,bn,K4,K5]at A
  . refine⟨X (iI A.1) (X hp (eO (hg A.1))),aG V.bool (Eq.symm ?_),hQ⟩;rw[Fm (d:=0) A.1 (by simp only[DB,A,bY])];rfl
  . refine⟨X (iI A.1) (X hp (X (hg A.1) (X (iI A.1) (X hp (eO (hg A.1)))))),aG V.bool (Eq.symm ?_),hQ⟩;rw[Fm (d:=0) A.1 (by simp only[DB,A,dg])];rfl
  . refine⟨X (iI A.1) (X hp (X (hg A.1) (X (iI A.1) (X hp (X (hg A.1) (eO (gV S))))))),i+1,by show f.fh.length-(i+1)<f.fh.length-i;omega,⟨A.1,fun j W8=>?_⟩,.refl⟩;rcases bx j i with q|q
    . exact hj j q
    . obtain rfl:j=i:=by omega
      simp only[DB,A,cL]
  . refine⟨all_nil,fun s3 N9=>?_⟩;rw[jc];refine gj N9 ?_;have he:(!f.fh.any DB&&pX f true false false true)=pX f true false false true:=by rw[Jd (d:=0) (fun j W8=>hj j S)];rfl
    rw[he]at hQ;exact gw (ff hP (be _)) (fun u _ _=>u= .bool (pX f true false false true)) (r8 i) (dK (g0 ⟨eO rfl,rfl,hQ⟩))
abbrev RB:Exit->St->Prop:=gi ak 0 Tryz.f117 fun u _ _=>u= .bool b
theorem v3T(hk:f.fh.length<=1000000000)(Ku:f.cu.length<=1000000000)(b:Bool)(U:b=yS f):TG ak 0 Tryz.f117.ntmps (dH 2 BK) (Bm f [(3,.bool b)]) (RB (iV f)):=by
 have DC:∀k,f.k=k->f=mh f k:=fun k h=>by obtain⟨a,_,_,_,_,_⟩:=f;simp only at h;subst h;rfl
 by_cases h1:f.k=1
 . have e:iV f=JY f:=by unfold iV;rw[aF h1]
   have ef:=DC 1 h1;rw[e];have r2:=amF f b;rw[<- ef]at r2;refine dY dJ (qm (be _) eP r2 (dK (g0 ⟨all_nil,?_⟩)));exact fJ (i:=0) dJ (aeJ f hk ef b U fun T h=>h)
 by_cases C:f.k=2\/f.k=3\/f.k=4
 . have e:iV f=(yS f&&pX f false false false true):=by unfold iV;rw[aD h1,aF C]
   rw[e,<- U];rcases C with h|h|h
   . have hP:=pn2 f;have hr:=aeA f b (pX f false false false true);rw[<- DC _ h]at hr;exact eR (ff hP (be _)) hr (dN (g1 fun q=>⟨eO rfl,_,_,_,rfl,by rw[q];rfl⟩) (dK (g1 fun q=>⟨all_nil,_,_,_,rfl,by rw[q];rfl⟩)))
   . have hP:=pn2 f;have hr:=aeB f b (pX f false false false true);rw[<- DC _ h]at hr;exact eR (ff hP (be _)) hr (dN (g1 fun q=>⟨eO rfl,_,_,_,rfl,by rw[q];rfl⟩) (dK (g1 fun q=>⟨all_nil,_,_,_,rfl,by rw[q];rfl⟩)))
   . have hP:=pn2 f;have hr:=aeC f b (pX f false false false true);rw[<- DC _ h]at hr;exact eR (ff hP (be _)) hr (dN (g1 fun q=>⟨eO rfl,_,_,_,rfl,by rw[q];rfl⟩) (dK (g1 fun q=>⟨all_nil,_,_,_,rfl,by rw[q];rfl⟩)))
 by_cases h5:f.k=5
 . have e:iV f=(kp f.cu&&pX f false false true false):=by unfold iV;rw[aD h1,aD C,aF h5]
   rw[e];have hr:=aeD f b (kp f.cu) (pX f false false true false);rw[<- DC _ h5]at hr;exact eR (ff (pn3 f) (ff (c5D f.cu Ku) (be _))) hr (dN (g1 fun q=>⟨X rfl (eO rfl),_,_,_,rfl,by rw[q];rfl⟩) (dK (g1 fun q=>⟨eO rfl,_,_,_,rfl,by rw[q];rfl⟩)))
 by_cases h6:f.k=6
 . have e:iV f=pX f false false false false:=by unfold iV;rw[aD h1,aD C,aD h5,aF h6]
   rw[e];have hr:=aeE f b (pX f false false false false);rw[<- DC _ h6]at hr;exact eR (ff (pn4 f) (be _)) hr (dK (g0 ⟨eO rfl,_,_,_,rfl,rfl⟩))
 by_cases h7:f.k=7
 . have e:iV f=((decide (f.vl>=0)&&decide (f.vl<=256))&&pX f false true false false):=by unfold iV;rw[aD h1,aD C,aD h5,aD h6,aF h7]
   rw[e];have hr:=aeF f b (pX f false true false false);rw[<- DC _ h7]at hr;refine eR (ff (pn5 f) (be _)) hr ?_
   repeat' (first|exact ij|refine dN ?_ ?_)
   all_goals
    intro A;simp only[aA,aH,bq,aL,bn]at A;exact⟨by first|exact all_nil|exact eO rfl,_,_,_,rfl,aG V.bool (by simp only[A,aP,aT])⟩
 by_cases h8:f.k=8
 . have e:iV f=((decide (f.r>= -3)&&(decide (f.r<=3)&&(decide (f.vl>= -3)&&decide (f.vl<=3))))&&pX f false true false true):=by unfold iV;rw[aD h1,aD C,aD h5,aD h6,aD h7,aF h8]
   rw[e];have hr:=aeG f b (pX f false true false true);rw[<- DC _ h8]at hr;refine eR (ff (pn6 f) (be _)) hr ?_
   repeat' (first|exact ij|refine dN ?_ ?_)
   all_goals
    intro A;simp only[aA,aH,bq,aL,bn]at A;exact⟨by first|exact all_nil|exact eO rfl,_,_,_,rfl,aG V.bool (by simp only[A,aP,aT])⟩
 . have e:iV f=false:=by unfold iV;rw[aD h1,aD C,aD h5,aD h6,aD h7,aD h8]
   rw[e];have nb:∀k:Int,f.k≠k->V.bool (f.k==k)=V.bool false:=fun k h=>aG V.bool (cB.2 h);refine eR (be _) (aeH f b) (dK (g0 ⟨?_,_,_,_,rfl,rfl⟩));exact X (nb 1 h1) (X (nb 2 fun q=>C (.inl q)) (X (nb 3 fun q=>C (.inr (.inl q))) (X (nb 4 fun q=>C (.inr (.inr q))) (X (nb 5 h5) (X (nb 6 h6) (X (nb 7 h7) (eO (nb 8 h8))))))))
theorem amN(hk:f.fh.length<=1000000000)(A:f.cu.length<=1000000000):ee ak 117 [f.v] (.bool (iV f)):=by
 refine fc Tryz.func117 (uB 2 (be _) (amE f) (dN (g1 fun h=>⟨all_nil,_,rfl,?_⟩) (dK (g1 fun h=>⟨all_nil,_,rfl,?_⟩))))
 . exact v3T f hk A _ (by unfold yS;rw[h];rfl)
 . exact v3T f hk A _ (by unfold yS;rw[h];rfl)
end
set_option maxRecDepth 10000
noncomputable def B4(cs:ai):List Tl:=@dite _ (∃l,cs=iO l) (Classical.propDecidable _) (fun h=>Classical.choose h) (fun _=>[])
noncomputable def K7:ai->Option (ah×V)
 | [.agg [.eM n cs]]=>some ([cs=iO (B4 cs),n=(B4 cs).length,n<=1000000],.bool (cD (fK (B4 cs))))
 |_=>none
noncomputable abbrev Je:Code:=dQ Tryz.f86
noncomputable abbrev amO:Code:=dO (dH 5 Je)
noncomputable abbrev UN:Code:=dP amO
noncomputable abbrev Zv:Code:=pc (eB UN)
noncomputable abbrev Zw:Code:=pc (eB Zv)
noncomputable abbrev Zx:Code:=pc (eB Zw)
noncomputable abbrev Zy:Code:=pc (eB Zx)
noncomputable abbrev Zz:Code:=pc (eB Zy)
noncomputable abbrev aeK:Code:=pc (eB Zz)
def oz(d:Dc)(l:eV)(m c p f:Bool)(r:List (Nat×V)):St:=fI ([(2,.ptr (some (0,0))),(3,.ptr (some (1,0))),(5,.bool m),(6,.bool c),(7,.bool p),(8,.bool f)]++r) (hL [(0,.cells d.cs),(1,.cells l.cs)]) 2
noncomputable abbrev Wfd(l:eV)(p f:Bool):gG:=fa 116 [.agg l.pl.cs] (.bool p) (fa 117 [l.f.v] (.bool f) (jC 115 (Go.Eng.dW K7) ew))
theorem amP(d:Dc)(l:eV)(p f:Bool):H (M (Wfd l p f) []) [] 0 Tryz.f86 [2,3,5,6,7,8] (ek 5 Je) (dI [d.v,l.v] .nil 0) [([],[iO l.ig=iO (B4 (iO l.ig)),l.ig.length=(B4 (iO l.ig)).length,l.ig.length<=1000000,iO l.gx=iO (B4 (iO l.gx)),l.gx.length=(B4 (iO l.gx)).length,l.gx.length<=1000000,fG [.agg l.pl.cs],fG [l.f.v]],eC (oz d l (cD (fK (B4 (iO l.ig)))) (cD (fK (B4 (iO l.gx)))) p f []))]:=G.Y
theorem amQ(d:Dc)(l:eV)(m c p f:Bool):H (M ew []) [(24,.split),(28,.split)] 0 Tryz.f86 [2,3,5,6,7,8,21] (dO UN) (oz d l m c p f []) (Ut (decide (l.kd<(1:Int))) (decide (l.kd>(5:Int))) ([],eC (oz d l m c p f [(21,.bool true)])) ([],eC (oz d l m c p f [(21,.bool false)]))):=G.Y
theorem aeL(d:Dc)(l:eV)(m c p f:Bool):H (M ew []) [] 0 Tryz.f86 [] (l9 (eB UN)) (oz d l m c p f [(21,.bool true)]) [([],[],.ret (.int .i64 41) (hL []) 0)]:=G.Y
theorem amR(d:Dc)(l:eV)(m c p f:Bool)(nm:Bool):H (M (fa 118 [.str l.nm] (.bool nm) ew) []) [] 0 Tryz.f86 [2,3,5,6,7,8,30] (dO Zv) (oz d l m c p f []) [([],[fG [.str l.nm]],eC (oz d l m c p f [(30,.bool (!nm))]))]:=G.Y
theorem aeM(d:Dc)(l:eV)(m c p f:Bool):H (M ew []) [] 0 Tryz.f86 [] (l9 (eB Zv)) (oz d l m c p f [(30,.bool true)]) [([],[],.ret (.int .i64 72) (hL []) 0)]:=G.Y
theorem amS(d:Dc)(l:eV)(m c p f:Bool):H (M ew []) [(38,.split),(42,.split),(47,.split),(52,.split),(56,.split),(61,.split),(67,.split)] 0 Tryz.f86 [2,3,5,6,7,8,35] (dO Zw) (oz d l m c p f []) [([(decide (l.op<(0:Int)),true)],[],eC (oz d l m c p f [(35,.bool true)])),([(decide (l.op<(0:Int)),false),(decide (l.op>(255:Int)),true)],[],eC (oz d l m c p f [(35,.bool true)])),([(decide (l.op<(0:Int)),false),(decide (l.op>(255:Int)),false),(decide (l.md<(0:Int)),true)],[],eC (oz d l m c p f [(35,.bool true)])),([(decide (l.op<(0:Int)),false),(decide (l.op>(255:Int)),false),(decide (l.md<(0:Int)),false),(decide (l.md>(15:Int)),true)],[],eC (oz d l m c p f [(35,.bool true)])),([(decide (l.op<(0:Int)),false),(decide (l.op>(255:Int)),false),(decide (l.md<(0:Int)),false),(decide (l.md>(15:Int)),false),(!m,true)],[],eC (oz d l m c p f [(35,.bool true)])),([(decide (l.op<(0:Int)),false),(decide (l.op>(255:Int)),false),(decide (l.md<(0:Int)),false),(decide (l.md>(15:Int)),false),(!m,false),(!l.L,true),(decide ((Int.ofNat l.ig.length)>(0:Int)),true)],[],eC (oz d l m c p f [(35,.bool true)])),([(decide (l.op<(0:Int)),false),(decide (l.op>(255:Int)),false),(decide (l.md<(0:Int)),false),(decide (l.md>(15:Int)),false),(!m,false),(!l.L,true),(decide ((Int.ofNat l.ig.length)>(0:Int)),false)],[],eC (oz d l m c p f [(35,.bool false)])),([(decide (l.op<(0:Int)),false),(decide (l.op>(255:Int)),false),(decide (l.md<(0:Int)),false),(decide (l.md>(15:Int)),false),(!m,false),(!l.L,false)],[],eC (oz d l m c p f [(35,.bool false)]))]:=G.Y
theorem aeN(d:Dc)(l:eV)(m c p f:Bool):H (M ew []) [] 0 Tryz.f86 [] (l9 (eB Zw)) (oz d l m c p f [(35,.bool true)]) [([],[],.ret (.int .i64 1) (hL []) 0)]:=G.Y
theorem amT(d:Dc)(l:eV)(m c p f:Bool)(un:Bool):H (M (fa 119 [l.v] (.bool un) ew) []) [] 0 Tryz.f86 [2,3,5,6,7,8,70] (dO Zx) (oz d l m c p f []) [([],[fG [l.v]],eC (oz d l m c p f [(70,.bool (!un))]))]:=G.Y
theorem aeO(d:Dc)(l:eV)(m c p f:Bool):H (M ew []) [] 0 Tryz.f86 [] (l9 (eB Zx)) (oz d l m c p f [(70,.bool true)]) [([],[],.ret (.int .i64 41) (hL []) 0)]:=G.Y
theorem amU(d:Dc)(l:eV)(m c p f:Bool):H (M ew []) [(77,.split),(81,.split)] 0 Tryz.f86 [2,3,5,6,7,8,74] (dO Zy) (oz d l m c p f []) (Ut (l.kd==(1:Int)) (l.kd==(4:Int)) ([],eC (oz d l m c p f [(74,.bool (!p))])) ([],eC (oz d l m c p f [(74,.bool false)]))):=G.Y
theorem aeP(d:Dc)(l:eV)(m c p f:Bool):H (M ew []) [] 0 Tryz.f86 [] (l9 (eB Zy)) (oz d l m c p f [(74,.bool true)]) [([],[],.ret (.int .i64 44) (hL []) 0)]:=G.Y
theorem amV(d:Dc)(l:eV)(m c p f:Bool):H (M ew []) [(90,.split),(97,.split)] 0 Tryz.f86 [2,3,5,6,7,8,87] (dO Zz) (oz d l m c p f []) (Ut (decide (l.sp<(0:Int))) (decide (l.sp>(Int.ofNat d.sp.length))) ([],eC (oz d l m c p f [(87,.bool true)])) ([],eC (oz d l m c p f [(87,.bool false)]))):=G.Y
theorem aeQ(d:Dc)(l:eV)(m c p f:Bool):H (M ew []) [] 0 Tryz.f86 [] (l9 (eB Zz)) (oz d l m c p f [(87,.bool true)]) [([],[],.ret (.int .i64 23) (hL []) 0)]:=G.Y
theorem amW(d:Dc)(l:eV)(m c p f:Bool)(ph:Bool):H (M (fa 120 [wA l.gA] (.bool ph) ew) []) [(101,.split),(105,.split),(108,.split),(114,.split)] 0 Tryz.f86 [2,3,5,6,7,8,99] (dO aeK) (oz d l m c p f []) [([(!c,true)],[],eC (oz d l m c p f [(99,.bool true)])),([(!c,false),(l.kd==(3:Int),true),(!f,true)],[],eC (oz d l m c p f [(99,.bool true)])),([(!c,false),(l.kd==(3:Int),true),(!f,false),(l.kd==(5:Int),true)],[fG [wA l.gA]],eC (oz d l m c p f [(99,.bool (!ph))])),([(!c,false),(l.kd==(3:Int),true),(!f,false),(l.kd==(5:Int),false)],[],eC (oz d l m c p f [(99,.bool false)])),([(!c,false),(l.kd==(3:Int),false),(l.kd==(5:Int),true)],[fG [wA l.gA]],eC (oz d l m c p f [(99,.bool (!ph))])),([(!c,false),(l.kd==(3:Int),false),(l.kd==(5:Int),false)],[],eC (oz d l m c p f [(99,.bool false)]))]:=G.Y
theorem aeR(d:Dc)(l:eV)(m c p f:Bool):H (M ew []) [] 0 Tryz.f86 [] (l9 (eB aeK)) (oz d l m c p f [(99,.bool true)]) [([],[],.ret (.int .i64 1) (hL []) 0)]:=G.Y
theorem amX(d:Dc)(l:eV)(m c p f:Bool):H (M ew []) [] 0 Tryz.f86 [] (eB (dH 5 Je)) (oz d l m c p f []) [([],[],.ret (.int .i64 0) (hL []) 0)]:=G.Y
set_option maxRecDepth 10000
theorem yT(l:List Tl):iO (B4 (iO l))=iO l:=by
 have h:∃k,iO l=iO k:=⟨l,rfl⟩;unfold B4;rw[dif_pos h];exact(Classical.choose_spec h).symm
theorem Mt(l:List Tl):(B4 (iO l)).length=l.length:=by
 have h:=aG List.length (yT l);rw[iS,iS]at h;omega
theorem ZA:jM ak 115 (Go.Eng.dW K7):=by
 refine Qp (aE dJ) fun ds hc v e hA=>?_;unfold K7 at e;split at e
 case h_2=>cases e
 rename_i n cs;obtain⟨rfl,rfl⟩:=sm e;have e1:cs=iO (B4 cs):=hA _ (by simp);have e2:n=(B4 cs).length:=hA (n=(B4 cs).length) (by simp);have e3:n<=1000000:=hA (n<=1000000) (by simp);generalize B4 cs=l at *;subst e1 e2;exact QL l e3
section
variable{N n0:Nat}{c:Code}{s:St}{Q:Exit->St->Prop}{ks:gG}{hh:List (Nat×List (Nat×mH))}{dG:List (Nat×mH)}{fn:Func}{live:List Nat}{dD:List (List (Bool×Bool)×ah×ko)}
theorem K8(fm:fo ak ks)(β:Bool)(dF:Bool->St)(hr:H (M ks hh) dG N fn live (dO c) s dD)(h:∀g∈dD,(∀b∈g.1,b.1=b.2)->(∀a∈g.2.1,a)/\g.2.2= .to .normal (dF β))
  (ho:jn (dF β).F (WD (eB c))=some (.bool β)) (k1:β=true->TG ak N n0 (l9 (eB c)) (dF true) Q) (aeS:List Nat) (S0:St) (hn:lB N aeS (dF false)=some S0) (k2:β=false->TG ak N n0 (pc (eB c)) S0 Q)
  (hs:((sB c&&fe n0 (dO c))&&KC (eB c) (fun _=>true))=true:=by kernel_rfl):TG ak N n0 c s Q:=by
 rw[ay]at hs;refine qm fm eP hr (fun g hg A=>?_) hs.1;obtain⟨h1,C⟩:=h g hg A;refine⟨h1,?_⟩;obtain⟨_,_,r⟩:=g;simp only at C;subst C;exact kz (t:=β) hs.2 ho (fun q=>by subst q;exact k1 rfl) (fun q=>by subst q;exact gj hn (k2 rfl))
end
def bk(l:eV):Bool:=decide (l.kd<1)||decide (l.kd>5)
def ba(l:eV)(m:Bool):Bool:=decide (l.op<0)||(decide (l.op>255)||(decide (l.md<0)||(decide (l.md>15)||(!m||(!l.L&&decide (Int.ofNat l.ig.length>0))))))
def bp(l:eV)(p:Bool):Bool:=((l.kd==1)||(l.kd==4))&& !p
def bs(n:Nat)(l:eV):Bool:=decide (l.sp<0)||decide (l.sp>Int.ofNat n)
def bc(l:eV)(c f p:Bool):Bool:=!c||(((l.kd==3)&& !f)||((l.kd==5)&& !p))
def K9(n:Nat)(l:eV)(m c p f nm un ph:Bool):Int:=if bk l=true then 41 else if nm=false then 72 else if ba l m=true then 1 else if un=false then 41 else if bp l p=true then 44 else if bs n l=true then 23 else if bc l c f ph=true then 1 else 0
noncomputable def wB(n:Nat)(l:eV):Int:=K9 n l (cD (fK l.ig)) (cD (fK l.gx)) (Bn l.pl) (iV l.f) (qY l.nm) (HF l) (kf l.gA)
structure zC(l:eV):Prop where
 nm:l.nm.length<=1000000
 kids:l.kids.length<=1000000
 fh:l.f.fh.length<=1000000
 cu:l.f.cu.length<=1000000
 gA:l.gA.length<=1000000
 gx:l.gx.length<=1000000
 ig:l.ig.length<=1000000
theorem DD{p q:Prop}(h:p↔q):cD p=cD q:=by
 by_cases hp:p
 . rw[QD hp,QD (h.1 hp)]
 . rw[Uw hp,Uw (fun x=>hp (h.2 x))]
theorem UO{p q:Nat->Int}(h:vZ p=vZ q){j:Nat}(hj:j<256):p j=q j:=by
 have:=aG (fun l=>l[j]?) h;simp only[vZ,bD,di hj,bz,aq,D.int.injEq,true_and]at this;exact this
theorem Mu:∀{a b:List Tl},iO a=iO b->a.length=b.length/\∀i (h:i<a.length) (h':i<b.length),a[i].x=b[i].x/\a[i].y=b[i].y/\∀j,j<256->a[i].p j=b[i].p j
 | [],[],_=>⟨rfl,fun _ h=>absurd h (bE _)⟩
 | [],t::b,h=>by cases h
 |t::a,[],h=>by cases h
 |t::a,u::b,h=>by
  have h:t.d++iO a=u.d++iO b:=h;obtain⟨h1,C⟩:=List.append_inj h (by rw[Tl.Fk,Tl.Fk]);obtain⟨i1,i2⟩:=Mu C;refine⟨by simp[i1],fun i h h'=>?_⟩;cases i with
  |zero=>
   simp only[Tl.d,List.cons.injEq,D.int.injEq,true_and]at h1;exact⟨h1.1,h1.2.1,fun j hj=>UO h1.2.2 hj⟩
  |succ i=>exact i2 i (by simpa using h) (by simpa using h')
theorem Of{t u:Tl}(K:t.x=u.x)(hy:t.y=u.y)(hp:∀j,j<256->t.p j=u.p j):okT t->okT u:=by
 rintro⟨h1,C,h3⟩;have ez:nE t.p=nE u.p:=DD ⟨fun h i hi=>by rw[<- hp _ S];exact h i hi,fun h i hi=>by rw[hp _ S];exact h i hi⟩;have ec:∀j,j<256->iU t.p j=iU u.p j:=fun j hj=>by unfold iU;rw[hp _ S,hp _ hj]
 have O:vp (iU t.p) t.p=vp (iU u.p) u.p:=DD ⟨fun h j hj=>by rw[<- ec j hj,<- hp j hj];exact h j hj,fun h j hj=>by rw[ec j hj,hp j hj];exact h j hj⟩;exact⟨by rw[<- K,<- hy];exact h1,by rw[<- ez];exact C,by rw[<- O];exact h3⟩
theorem yU{a b:List Tl}(h:iO a=iO b):fK a->fK b:=by
 obtain⟨hl,hi⟩:=Mu h;rintro⟨h1,C⟩;refine⟨hl▸h1,fun i U t ht=>?_⟩;have ha:i<a.length:=by omega
 obtain⟨D3,rfl⟩:=aS.1 ht;obtain⟨k1,k2⟩:=C i ha a[i] (au ha);obtain⟨e1,e2,e3⟩:=hi i ha D3;refine⟨Of e1 e2 e3 k1,fun h0 u hu=>?_⟩;obtain⟨OS,rfl⟩:=aS.1 hu;obtain⟨q1,q2,_⟩:=hi (i-1) S OS;have:=k2 h0 a[i-1] (au S);rw[<- e1,<- e2,<- q1,<- q2];exact this
theorem Jf(l:List Tl):cD (fK (B4 (iO l)))=cD (fK l):=DD ⟨yU (yT l),yU (yT l).symm⟩
theorem amY(d:Dc)(l:eV)(h:zC l)(m c p f nm un ph:Bool)(hnm:nm=qY l.nm)(hun:un=HF l)(hph:ph=kf l.gA):TG ak 0 Tryz.f86.ntmps (dH 5 Je) (oz d l m c p f []) (gi ak 0 Tryz.f86 fun u _ _=>u=R (K9 d.sp.length l m c p f nm un ph)):=by
 have hN:ee ak 118 [.str l.nm] (.bool nm):=hnm▸aey l.nm (by have:=h.nm;omega);have hP:ee ak 120 [wA l.gA] (.bool ph):=hph▸aeI l.gA (by have:=h.gA;omega);refine dY dJ (fJ (i:=0) dJ ?_);show TG _ _ _ UN _ _;generalize hv:R (K9 d.sp.length l m c p f nm un ph)=v;have hQ:∀T,gi ak 0 Tryz.f86 (fun u _ _=>u=v) .ret T->gT 0 (andThen (fun T=>TG ak 0 Tryz.f86.ntmps (eB (dH 5 Je)) T (gi ak 0 Tryz.f86 fun u _ _=>u=v)) (gi ak 0 Tryz.f86 fun u _ _=>u=v)) .ret T:=fun T h=>h;have hN':∀T,TG ak 0 Tryz.f86.ntmps (eB (dH 5 Je)) T (gi ak 0 Tryz.f86 fun u _ _=>u=v)->gT 0 (andThen (fun T=>TG ak 0 Tryz.f86.ntmps (eB (dH 5 Je)) T (gi ak 0 Tryz.f86 fun u _ _=>u=v)) (gi ak 0 Tryz.f86 fun u _ _=>u=v)) .normal T:=fun T h=>h;generalize gT 0 (andThen (fun T=>TG ak 0 Tryz.f86.ntmps (eB (dH 5 Je)) T (gi ak 0 Tryz.f86 fun u _ _=>u=v)) (gi ak 0 Tryz.f86 fun u _ _=>u=v))=Q at hQ hN' ⊢;unfold K9 at hv;refine K8 (be _) (bk l) (fun b=>oz d l m c p f [(21,.bool b)]) (amQ d l m c p f) ?_ dJ (fun q=>gw (be _) (fun u _ _=>u=v) (aeL d l m c p f) (dK (g0 ⟨all_nil,by rw[<- hv,aF q],hQ⟩))) [2,3,5,6,7,8] (oz d l m c p f []) dJ (fun q=>?_)
 . repeat' (first|exact ij|refine dN ?_ ?_)
   all_goals
    intro A;simp only[aA,aH,bq,aL,bn]at A;exact⟨all_nil,by simp only[bk,A,dg,bY,cL]⟩
 have hU:ee ak 119 [l.v] (.bool un):=by
  unfold bk at q;rw[cM,bu,bu]at q;exact hun▸unD l S S
 rw[aD (by rw[q];decide)]at hv;refine K8 (ff hN (be _)) (!nm) (fun b=>oz d l m c p f [(30,.bool b)]) (amR d l m c p f nm) (by exact dK (g0 ⟨eO rfl,rfl⟩)) dJ (fun q=>gw (be _) (fun u _ _=>u=v) (aeM d l m c p f) (dK (g0 ⟨all_nil,by rw[<- hv,aF (by simpa using q)],hQ⟩))) [2,3,5,6,7,8] (oz d l m c p f []) dJ (fun q=>?_);rw[aD (by simpa using q)]at hv;refine K8 (be _) (ba l m) (fun b=>oz d l m c p f [(35,.bool b)]) (amS d l m c p f) ?_ dJ (fun q=>gw (be _) (fun u _ _=>u=v) (aeN d l m c p f) (dK (g0 ⟨all_nil,by rw[<- hv,aF q],hQ⟩))) [2,3,5,6,7,8] (oz d l m c p f []) dJ (fun q=>?_)
 . repeat' (first|exact ij|refine dN ?_ ?_)
   all_goals
    intro A;simp only[aA,aH,bq,aL,bn]at A;exact⟨all_nil,by simp only[ba,A,dg,bY,cL,bX,cG,cJ,aT]⟩
 rw[aD (by rw[q];decide)]at hv;refine K8 (ff hU (be _)) (!un) (fun b=>oz d l m c p f [(70,.bool b)]) (amT d l m c p f un) (by exact dK (g0 ⟨eO rfl,rfl⟩)) dJ (fun q=>gw (be _) (fun u _ _=>u=v) (aeO d l m c p f) (dK (g0 ⟨all_nil,by rw[<- hv,aF (by simpa using q)],hQ⟩))) [2,3,5,6,7,8] (oz d l m c p f []) dJ (fun q=>?_);rw[aD (by simpa using q)]at hv;refine K8 (be _) (bp l p) (fun b=>oz d l m c p f [(74,.bool b)]) (amU d l m c p f) ?_ dJ (fun q=>gw (be _) (fun u _ _=>u=v) (aeP d l m c p f) (dK (g0 ⟨all_nil,by rw[<- hv,aF q],hQ⟩))) [2,3,5,6,7,8] (oz d l m c p f []) dJ (fun q=>?_)
 . repeat' (first|exact ij|refine dN ?_ ?_)
   all_goals
    intro A;simp only[aA,aH,bq,aL,bn]at A;exact⟨all_nil,by simp only[bp,A,dg,bY,cL,aP,aT]⟩
 rw[aD (by rw[q];decide)]at hv;refine K8 (be _) (bs d.sp.length l) (fun b=>oz d l m c p f [(87,.bool b)]) (amV d l m c p f) ?_ dJ (fun q=>gw (be _) (fun u _ _=>u=v) (aeQ d l m c p f) (dK (g0 ⟨all_nil,by rw[<- hv,aF q],hQ⟩))) [2,3,5,6,7,8] (oz d l m c p f []) dJ (fun q=>?_)
 . repeat' (first|exact ij|refine dN ?_ ?_)
   all_goals
    intro A;simp only[aA,aH,bq,aL,bn]at A;exact⟨all_nil,by simp only[bs,A,dg,bY,cL]⟩
 rw[aD (by rw[q];decide)]at hv;refine K8 (ff hP (be _)) (bc l c f ph) (fun b=>oz d l m c p f [(99,.bool b)]) (amW d l m c p f ph) ?_ dJ (fun q=>gw (be _) (fun u _ _=>u=v) (aeR d l m c p f) (dK (g0 ⟨all_nil,by rw[<- hv,aF q],hQ⟩))) [2,3,5,6,7,8] (oz d l m c p f []) dJ (fun q=>?_)
 . have k35:(l.kd==3)=true->(l.kd==5)=false:=fun h=>by rw[ct]at h;rw[h];rfl
   repeat' (first|exact ij|refine dN ?_ ?_)
   all_goals
    intro A;simp only[aA,aH,bq,aL,bn]at A;refine⟨by first|exact all_nil|exact eO rfl,?_⟩;simp only[bc,A,dg,bY,cL,bX,aP,aT,Bool.not_true,Bool.not_false]
 rw[aD (by rw[q];decide)]at hv;refine qU (cf:=fun _ _ _ _=>none) (fr:=10) (fun _ _ _ _ _ _ _ e=>by cases e) mo dJ (x:=.normal) (y:=.normal) (T:=oz d l m c p f []) dJ rfl (hN' _ ?_);exact eR (be _) (amX d l m c p f) (dK (g0 ⟨all_nil,_,_,_,rfl,hv⟩))
theorem UP(d:Dc)(l:eV)(h:zC l):ee ak 86 [d.v,l.v] (R (wB d.sp.length l)):=by
 refine fc Tryz.func86 ?_;have fm:fo ak (Wfd l (Bn l.pl) (iV l.f)):=ff (v9D l.pl) (ff (amN l.f (by have:=h.fh;omega) (by have:=h.cu;omega)) (fq ZA (be _)));refine fN 5 fm (amP d l _ _) ?_ ?_
 . repeat' (first|exact all_nil|refine X ?_ ?_)
   all_goals first
    |rfl
    |exact(yT _).symm
    |exact(Mt _).symm
    |exact h.gx
    |exact h.ig
 rw[Jf,Jf];exact amY d l h _ _ _ _ _ _ _ rfl rfl rfl
set_option maxRecDepth 10000
noncomputable abbrev Eu:Code:=dQ Tryz.f87
noncomputable abbrev bKi:Code:=dP (dP (eB (dO (dH 3 Eu))))
noncomputable abbrev aeT:Code:=dP (dO (eB bKi))
noncomputable abbrev amZ:Code:=dP (dP (eB aeT))
def zD(d:Dc)(l:eV)(r:List (Nat×V)):St:=fI ([(2,.ptr (some (0,0))),(3,.ptr (some (1,0)))]++r) (hL [(0,.cells d.cs),(1,.cells l.cs)]) 2
theorem am0(d:Dc)(l:eV):H (M ew []) [] 0 Tryz.f87 [2,3] (ek 1 Eu) (dI [d.v,l.v] .nil 0) [([],[],eC (zD d l []))]:=G.Y
theorem am1(d:Dc)(l:eV):H (M ew []) [] 0 Tryz.f87 [2,3,5] (dO (dO (dH 1 Eu))) (zD d l []) [([],[],eC (zD d l [(5,J 0)]))]:=G.Y
abbrev Rm(l:eV)(i:Nat)(k:Int):Prop:=V.eo (dU (eL l.kids) (i*1) 1)=V.eo [D.int B k]
theorem am2(d:Dc)(l:eV)(i:Nat)(k a:Int):H (M (fa 24 [d.v,R k] (R a) ew) []) [(13,.split),(20,.dL (.eo [.int .i64 k])),(23,.split),(15,.dL (J (i+1)))] 0 Tryz.f87 [2,3,5] (dP (dP (eB (dO (dH 1 Eu))))) (zD d l [(5,J i)]) (sI (decide (Int.ofNat i<(Int.ofNat l.kids.length))) (decide (a<(0:Int))) ([fT i l.kids.length,jo l.kids,Rm l i k,fG [d.v,R k]],ji) ([fT i l.kids.length,jo l.kids,Rm l i k,fG [d.v,R k],oq i],eC (zD d l [(5,J (i+1))])) ([],.to (.exit 0) (zD d l [(5,J i)]))):=G.Y
theorem am3(d:Dc)(l:eV)(i:Nat):H (M ew []) [] 0 Tryz.f87 [2,3,6] (ek 1 (dH 2 Eu)) (zD d l [(5,J i)]) [([],[],eC (zD d l [(6,J 0)]))]:=G.Y
theorem am4(d:Dc)(l:eV):H (M ew []) [] 0 Tryz.f87 [2,3,6,7] (dO (dO (dH 3 Eu))) (zD d l [(6,J 0)]) [([],[],eC (zD d l [(6,J 0),(7,J 0)]))]:=G.Y
theorem aeU(d:Dc)(l:eV)(n i:Nat):H (M ew []) [(28,.split)] 0 Tryz.f87 [2,3,6,7] (dO bKi) (zD d l [(6,J n),(7,J i)]) (fV (decide (Int.ofNat i<(Int.ofNat d.ly.length))) ([],eC (zD d l [(6,J n),(7,J i)])) ([],.to (.exit 2) (zD d l [(6,J n),(7,J i)]))):=G.Y
theorem am5(d:Dc)(l:eV)(n i:Nat):H (M ew []) [] 0 Tryz.f87 [2,3,6,7,8] (dO aeT) (zD d l [(6,J n),(7,J i)]) [([],[],eC (zD d l [(6,J n),(7,J i),(8,J 0)]))]:=G.Y
section
variable(x:eV)(e:Int)(j:Nat)
abbrev Rn:Prop:=V.int B (IntKind.i64.wrap (Int.ofNat j+(1:Int)))=J (j+1)
abbrev Ro(k:Int):Prop:=V.eo (dU (eL x.kids) (j*1) 1)=V.eo [D.int B k]
theorem am6(d:Dc)(l x:eV)(n i j:Nat)(k:Int):H (M ew []) [(35,.dL (.eo x.ds)),(39,.split),(45,.dL (.eo x.ds)),(49,.dL (.eo [.int .i64 k])),(53,.split),(55,.dL (J (n+1))),(41,.dL (J (j+1)))] 0 Tryz.f87 [2,3,6,7,8] (amZ) (zD d l [(6,J n),(7,J i),(8,J j)]) (sI (decide (Int.ofNat j<(Int.ofNat x.kids.length))) (k==l.id) ([fT i d.ly.length,nK d.ly,gv (fR d.ly) i 31 x.ds,fT i d.ly.length,nK d.ly,gv (fR d.ly) i 31 x.ds,fT j x.kids.length,jo x.kids,Ro x j k,oq n,Rn j],eC (zD d l [(6,J (n+1)),(7,J i),(8,J (j+1))])) ([fT i d.ly.length,nK d.ly,gv (fR d.ly) i 31 x.ds,fT i d.ly.length,nK d.ly,gv (fR d.ly) i 31 x.ds,fT j x.kids.length,jo x.kids,Ro x j k,Rn j],eC (zD d l [(6,J n),(7,J i),(8,J (j+1))])) ([fT i d.ly.length,nK d.ly,gv (fR d.ly) i 31 x.ds],.to (.exit 4) (zD d l [(6,J n),(7,J i),(8,J j)]))):=G.Y
theorem am7(d:Dc)(l:eV)(n i j:Nat):H (M ew []) [(30,.dL (J (i+1)))] 0 Tryz.f87 [2,3,6,7] (eB (eB bKi)) (zD d l [(6,J n),(7,J i),(8,J j)]) [([],[oq i],eC (zD d l [(6,J n),(7,J (i+1))]))]:=G.Y
theorem am8(d:Dc)(l:eV)(n i:Nat):H (M ew []) [(60,.split),(63,.split),(70,.split)] 0 Tryz.f87 [] (eB (dH 3 Eu)) (zD d l [(6,J n),(7,J i)]) [([(l.id==d.root,true),(Int.ofNat n==(0:Int),true)],[],B0),([(l.id==d.root,true),(Int.ofNat n==(0:Int),false),(l.id !=d.root,true)],[],.ret (.bool (Int.ofNat n==(1:Int))) (hL []) 0),([(l.id==d.root,true),(Int.ofNat n==(0:Int),false),(l.id !=d.root,false)],[],ji),([(l.id==d.root,false),(l.id !=d.root,true)],[],.ret (.bool (Int.ofNat n==(1:Int))) (hL []) 0),([(l.id==d.root,false),(l.id !=d.root,false)],[],ji)]:=G.Y
noncomputable abbrev Rp:Code:=dQ Tryz.f25
noncomputable abbrev bPg:Code:=dP (dP (eB (dO (dH 1 Rp))))
noncomputable abbrev aeV:Code:=dP (dO (eB bPg))
noncomputable abbrev am9:Code:=dP (dP (eB (eB aeV)))
def Rq(d:Dc)(k:Int)(r:List (Nat×V)):St:=fI ([(1,R k),(2,.ptr (some (0,0))),(4,.ptr (some (1,0)))]++r) (hL [(0,.cells d.cs),(1,.cells [R 0,R 0,.bool false])]) 2
def Xb(d:Dc)(x:eV)(k:Int)(r:List (Nat×V)):St:=fI ([(1,R k),(2,.ptr (some (0,0))),(4,.ptr (some (1,0))),(6,.ptr (some (2,0)))]++r) (hL [(0,.cells d.cs),(1,.cells [R 0,R 0,.bool false]),(2,.cells x.cs)]) 3
theorem ana(d:Dc)(k:Int):H (M ew []) [] 0 Tryz.f25 [1,2,4] (ek 1 Rp) (dI [d.v,R k] .nil 0) [([],[],eC (Rq d k []))]:=G.Y
theorem anb(d:Dc)(k:Int):H (M ew []) [] 0 Tryz.f25 [1,2,4,5] (dO (dO (dH 1 Rp))) (Rq d k []) [([],[],eC (Rq d k [(5,J 0)]))]:=G.Y
theorem ane(d:Dc)(k:Int)(i:Nat):H (M ew []) [(12,.split)] 0 Tryz.f25 [1,2,4,5] (dO bPg) (Rq d k [(5,J i)]) (fV (decide (Int.ofNat i<(Int.ofNat d.ly.length))) ([],eC (Rq d k [(5,J i)])) ([],.to (.exit 0) (Rq d k [(5,J i)]))):=G.Y
theorem anf(d:Dc)(x:eV)(k:Int)(i:Nat):H (M ew []) [(18,.dL (.eo x.ds))] 0 Tryz.f25 [1,2,4,5,6,7] (ek 2 aeV) (Rq d k [(5,J i)]) [([],[fT i d.ly.length,nK d.ly,gv (fR d.ly) i 31 x.ds],eC (Xb d x k [(5,J i),(7,J 0)]))]:=G.Y
abbrev Rr:Prop:=V.eo (dU (eL x.kids) (j*1) 1)=V.eo [D.int B e]
theorem ang(d:Dc)(x:eV)(k e:Int)(i j:Nat):H (M ew []) [(24,.split),(28,.split),(35,.dL (.eo [.int .i64 e])),(38,.split),(31,.dL (J (j+1)))] 0 Tryz.f25 [1,2,4,5,6,7] (am9) (Xb d x k [(5,J i),(7,J j)]) (N4 (decide (Int.ofNat j<(Int.ofNat x.kids.length))) (x.kd==(2:Int)) (e==k) ([fT j x.kids.length,jo x.kids,Rr x e j],.ret (.agg [.int .i64 (x.id),.int .i64 (Int.ofNat j),.bool true]) (hL []) 0) ([fT j x.kids.length,jo x.kids,Rr x e j,oq j],eC (Xb d x k [(5,J i),(7,J (j+1))])) ([],.to (.exit 2) (Xb d x k [(5,J i),(7,J j)])) ([],.to (.exit 2) (Xb d x k [(5,J i),(7,J j)]))):=G.Y
theorem anh(d:Dc)(x:eV)(k:Int)(i j:Nat):H (M ew []) [(14,.dL (J (i+1)))] 0 Tryz.f25 [1,2,4,5] (eB (eB bPg)) (Xb d x k [(5,J i),(7,J j)]) [([],[oq i],eC (Rq d k [(5,J (i+1))]))]:=G.Y
end
theorem ani(d:Dc)(k:Int)(i:Nat):H (M ew []) [] 0 Tryz.f25 [] (eB (dH 1 Rp)) (Rq d k [(5,J i)]) [([],[],.ret (.agg [.int .i64 0,.int .i64 0,.bool false]) (hL []) 0)]:=G.Y
set_option maxRecDepth 10000
theorem getD_some{α:Type}{l:List α}{i:Nat}(d:α)(h:i<l.length):l[i]? =some (l.getD i d):=by
 rw[ax,au h];rfl
theorem UQ{ls:List eV}{k:Int}:decide (pW ls k<0)=(jq ls k).isNone:=by
 unfold pW;cases jq ls k with
 |none=>rfl
 |some i=>exact aX (by show ¬(Int.ofNat i<0);rw[gD];omega)
def mB(ls:List eV)(id:Int):Nat:=(ls.map fun l=>l.kids.count id).sum
theorem Og{ls:List eV}{i:Nat}(h:i<ls.length)(id:Int):mB (ls.take (i+1)) id=mB (ls.take i) id+(ls.getD i gM).kids.count id:=by
 unfold mB;rw[cz,getD_some gM h];simp
def rJ(d:Dc)(l:eV):Bool:=!(l.kids.any fun k=>(jq d.ly k).isNone)&&(((l.id==d.root)&&(Int.ofNat (mB d.ly l.id)==(0:Int)))||((l.id !=d.root)&&(Int.ofNat (mB d.ly l.id)==(1:Int))))
structure D5(d:Dc):Prop where
 ly:d.ly.length<=1000000
 kids:∀l∈d.ly,l.kids.length<=1000000
theorem D5.at{d:Dc}(h:D5 d){i:Nat}(hi:i<d.ly.length):(d.ly.getD i gM).kids.length<=1000000:=h.kids _ (by rw[ax,au hi];exact bV hi)
theorem DE{l:List Int}{j:Nat}(h:j<l.length)(id:Int):(l.take (j+1)).count id=(l.take j).count id+(if l.getD j 0==id then 1 else 0):=by
 rw[cz,getD_some 0 h,List.count_append,Option.toList_some];congr 1;rw[List.count_cons,List.count_nil,bI]
theorem GG(ls:List eV)(id:Int)(h:∀l∈ls,l.kids.length<=1000000):mB ls id<=ls.length*1000000:=by
 induction ls with
 |nil=>exact aK _
 |cons x ls ih=>
  have h1:=ih fun l hl=>h l (bh _ hl);have C:=h x (bB ..);have h3:x.kids.count id<=x.kids.length:=List.count_le_length;have e:mB (x::ls) id=x.kids.count id+mB ls id:=by unfold mB;rw[b9,List.sum_cons]
  rw[e,aN];omega
theorem aeW(d:Dc)(l:eV)(hd:D5 d)(hl:l.kids.length<=1000000)(h40:d.ly.length<=1000):ee ak 87 [d.v,l.v] (.bool (rJ d l)):=by
 refine fc Tryz.func87 (fN 1 (be _) (am0 d l) all_nil ?_);have jJ:=eI l.kids;refine Ms 0 l.kids.length [2,3,5] (fun i=>zD d l [(5,J i)]) (fun i=>(jq d.ly (l.kids.getD i 0)).isNone) (.bool false,hL [],0) (be _) (am1 d l) all_nil .refl (fun i _=>⟨_,ff (Ts d (l.kids.getD i 0) hd.ly) (be _),_,_,_,am2 d l i (l.kids.getD i 0) _,?_⟩) (fun i hi _ ht=>?_) (fun hj=>?_)
 . have hg:=fun h=>fP (l:=l.kids) (i:=i) h
   repeat' (first|exact ij|refine dN ?_ ?_)
   all_goals
    intro A;simp only[aA,aH,bq,aL,bn,K4,K5,UQ]at A
   . exact⟨X (iI A.1) (X jJ (X (hg A.1) (eO rfl))),A.1,A.2,rfl⟩
   . exact⟨X (iI A.1) (X jJ (X (hg A.1) (X rfl (eO (gV S))))),A.1,A.2,rfl⟩
   . exact⟨all_nil,rfl,A,rfl⟩
 . refine aG V.bool (Eq.symm ?_);unfold rJ;rw[Fm (d:=0) hi ht];rfl
 have e0:rJ d l=(((l.id==d.root)&&(Int.ofNat (mB d.ly l.id)==(0:Int)))||((l.id !=d.root)&&(Int.ofNat (mB d.ly l.id)==(1:Int)))):=by unfold rJ;rw[Jd (d:=0) hj];rfl
 rw[e0];refine fN 1 (be _) (am3 d l _) all_nil ?_;rw[show dH 1 (eB (dH 1 Eu))=dH 3 Eu by kernel_rfl];have xw:TG ak 0 Tryz.f87.ntmps (eB (dH 3 Eu)) (zD d l [(6,J (mB d.ly l.id)),(7,J d.ly.length)]) (gi ak 0 Tryz.f87 fun u _ _=>u= .bool (((l.id==d.root)&&(Int.ofNat (mB d.ly l.id)==(0:Int)))||((l.id !=d.root)&&(Int.ofNat (mB d.ly l.id)==(1:Int))))):=by
  refine eR (be _) (am8 d l _ _) ?_
  repeat' (first|exact ij|refine dN ?_ ?_)
  all_goals
   intro A;simp only[aA,aH,bq,aL,bn]at A;exact⟨all_nil,_,_,_,rfl,aG V.bool (by simp only[A,aP,aT,cL,bX,bY])⟩
 have Ay:=fS d.ly;have hcn:=GG d.ly l.id hd.kids;have hcm:∀i,mB (d.ly.take i) l.id<=d.ly.length*1000000:=fun i=>bN (GG _ l.id fun x K=>hd.kids x (cK K)) (cV _ (by rw[bf];omega));refine dY dJ (dY dJ (gw (be _) eP (am4 d l) (dK (g0 ⟨all_nil,fun T eu=>?_⟩))));refine Um 2 d.ly.length (fun i=>zD d l [(6,J (mB (d.ly.take i) l.id)),(7,J i)]) dJ dJ (.norm eu) (fun i hi=>?_) ?_
 . refine qm (be _) eP (aeU d l _ i) (dN (g1 fun _=>⟨all_nil,?_⟩) (dK (g1 fun h=>absurd (rG h) S)));refine dY dJ (fJ (i:=3) dJ (qm (be _) eP (am5 d l _ i) (dK (g0 ⟨all_nil,?_⟩))));have K:=ik (l:=d.ly) hi;have hk:=hd.at hi;have wm:=Og hi l.id;have h0:=hcm i;have h1:=hcm (i+1);generalize d.ly.getD i gM=x at K hk wm;have Km:=eI x.kids;refine Fi (fn:=Tryz.f87) 4 eP [2,3,6,7,8] (x.kids.length-·) (. <=x.kids.length) (fun j=>zD d l [(6,J (mB (d.ly.take i) l.id+(x.kids.take j).count l.id)),(7,J i),(8,J j)]) 0 (aR _) .refl (fun j hj=>?_);refine⟨_,be _,_,_,_,am6 d l x _ i j (x.kids.getD j 0),?_⟩;have hg:=fun h=>fP (l:=x.kids) (i:=j) h;have hcj:(x.kids.take j).count l.id<=x.kids.length:=bN List.count_le_length (by rw[bf];omega)
   repeat' (first|exact ij|refine dN ?_ ?_)
   all_goals
    intro A;simp only[aA,aH,bq,aL,bn,K4,K5]at A
   . have PF:=DE A.1 l.id;rw[A.2,aF rfl]at PF;refine⟨?_,j+1,by show x.kids.length-(j+1)<x.kids.length-j;omega,A.1,?_⟩
     . repeat' (first|exact all_nil|refine X ?_ ?_)
       all_goals first
        |exact iI hi
        |exact Ay
        |exact K
        |exact iI A.1
        |exact Km
        |exact hg A.1
        |exact gV S
     . show eJ _ _ _ _ (zD d l [(6,J (mB (d.ly.take i) l.id+(x.kids.take (j+1)).count l.id)),(7,J i),(8,J (j+1))]);rw[PF];exact .refl
   . have PF:=DE A.1 l.id;rw[A.2,aD fg,Nat.add_zero]at PF;refine⟨?_,j+1,by show x.kids.length-(j+1)<x.kids.length-j;omega,A.1,?_⟩
     . repeat' (first|exact all_nil|refine X ?_ ?_)
       all_goals first
        |exact iI hi
        |exact Ay
        |exact K
        |exact iI A.1
        |exact Km
        |exact hg A.1
        |exact gV S
     . show eJ _ _ _ _ (zD d l [(6,J (mB (d.ly.take i) l.id+(x.kids.take (j+1)).count l.id)),(7,J i),(8,J (j+1))]);rw[PF];exact .refl
   . refine⟨X (iI hi) (X Ay (eO K)),fun s2 rP=>?_⟩;rw[jc];obtain rfl:j=x.kids.length:=by omega
     rw[br,<- wm]at rP;show TG _ _ _ (eB (eB bKi)) s2 _;refine gj rP (gw (be _) eP (am7 d l _ i _) (dK (g0 ⟨eO (gV S),fun s3 N9=>?_⟩)));exact .norm N9
 . refine qm (be _) eP (aeU d l _ _) (dN (g1 fun h=>absurd (kA h) S) (dK (g1 fun _=>⟨all_nil,fun s2 rP=>⟨by simp,?_⟩⟩)));rw[jc];rw[br]at rP;exact gj rP xw
def jN:List eV->Int->Option (Int×Nat)
 | [],_=>none
 |x::ls,k=>match(if x.kd=2 then x.kids.findIdx? (. ==k)else none)with
  |some j=>some (x.id,j)
  |none=>jN ls k
def wC:Option (Int×Nat)->V
 |some (i,j)=>.agg [R i,J j,.bool true]
 |none=>.agg [R 0,R 0,.bool false]
theorem Az{ls:List eV}{i:Nat}(h:i<ls.length)(k:Int):jN (ls.drop i) k=match(if(ls.getD i gM).kd=2 then(ls.getD i gM).kids.findIdx? (. ==k)else none)with
  |some j=>some ((ls.getD i gM).id,j)
  |none=>jN (ls.drop (i+1)) k:=by
 rw[bC h];have e:ls.getD i gM=ls[i]:=by rw[ax,au h];rfl
 rw[e];rfl
theorem Oh{l:List Int}{j:Nat}{k:Int}(h:j<l.length)(h1:(l.getD j 0==k)=true)(C:∀i,i<j->(l.getD i 0==k)=false):l.findIdx? (. ==k)=some j:=by
 rw[bW];refine⟨h,?_,fun i hi=>?_⟩
 . rw[ax,au h]at h1;exact h1
 . have:=C i hi;rw[ax,au S]at this;simpa using this
theorem Oi{l:List Int}{k:Int}(C:∀i,i<l.length->(l.getD i 0==k)=false):l.findIdx? (. ==k)=none:=by
 rw[cH];intro x K;obtain⟨j,hj,rfl⟩:=ck K;have:=C j hj;rw[ax,au hj]at this;exact this
theorem aeX(d:Dc)(k:Int)(hd:D5 d):ee ak 25 [d.v,R k] (wC (jN d.ly k)):=by
 refine mz Tryz.func25 (fN 1 (be _) (ana d k) all_nil ?_);have Ay:=fS d.ly;have hw:(wC (jN d.ly k)).deep=true/\(wC (jN d.ly k)).nl=wC (jN d.ly k):=by
  cases jN d.ly k with
  |none=>exact⟨rfl,rfl⟩
  |some p=>exact⟨rfl,rfl⟩
 have hQ:∀(v:V) (h:I es) (n:Nat),v=wC (jN d.ly k)->uI (wC (jN d.ly k)) v h n:=fun v h n e=>by subst e;exact uI.self hw.1 hw.2
 have xw:=fun(e:jN d.ly k=none)=>eR (iX:=uI (wC (jN d.ly k))) (be _) (ani d k d.ly.length) (dK (g0 ⟨all_nil,_,_,_,rfl,hQ _ _ _ (by rw[e];rfl)⟩)) (n0:=Tryz.f25.ntmps);have anj:∀(v:V) (h:I es) (n:Nat),v=wC (jN d.ly k)->uI (wC (jN d.ly k)) v h n/\∀T,gi ak 0 Tryz.f25 (uI (wC (jN d.ly k))) .ret T->gi ak 0 Tryz.f25 (uI (wC (jN d.ly k))) .ret T:=fun v h n e=>⟨hQ v h n e,fun _ h=>h⟩;refine dY dJ (dY dJ (gw (be _) eP (anb d k) (dK (g0 ⟨all_nil,fun T eu=>?_⟩))));refine fJ (i:=0) dJ (j9 (fun m s=>∃i,m=d.ly.length-i/\i<=d.ly.length/\jN d.ly k=jN (d.ly.drop i) k/\eJ ak 0 Tryz.f25.ntmps s (Rq d k [(5,J i)])) dJ ?_ d.ly.length ⟨0,rfl,aR _,rfl,.norm eu⟩);rintro m s1 ⟨i,rfl,hi,hp,pQ⟩;refine pQ _ _ ?_;refine qm (be _) eP (ane d k i) (dN (g1 fun h=>⟨all_nil,?_⟩) (dK (g1 fun h=>⟨all_nil,fun s2 rP=>?_⟩)))
 . have fj:=kA h;have K:=ik (l:=d.ly) fj;have hk:=hd.at fj;have wm:=Az fj k;generalize d.ly.getD i gM=x at K hk wm;have Km:=eI x.kids;refine dY dJ (fJ (i:=1) dJ (fN 2 (be _) (anf d x k i) (X (iI fj) (X Ay (eO K))) ?_));have oc:∀j s2,lB 0 [1,2,4,5,6,7] s2=some (Xb d x k [(5,J i),(7,J j)])->jN (d.ly.drop i) k=jN (d.ly.drop (i+1)) k->TG ak 0 Tryz.f25.ntmps (eB (eB bPg)) s2 (andThen (fun s=>∃m',m'<d.ly.length-i/\∃i,m'=d.ly.length-i/\i<=d.ly.length/\jN d.ly k=jN (d.ly.drop i) k/\eJ ak 0 Tryz.f25.ntmps s (Rq d k [(5,J i)])) (gT 0 (andThen (fun T=>TG ak 0 Tryz.f25.ntmps (eB (dH 1 Rp)) T (gi ak 0 Tryz.f25 (uI (wC (jN d.ly k))))) (gi ak 0 Tryz.f25 (uI (wC (jN d.ly k))))))):=fun j s2 rP he=>
    gj rP (gw (be _) eP (anh d x k i j) (dK (g0 ⟨eO (gV (by have:=hd.ly;omega)),fun s3 N9=>⟨d.ly.length-(i+1),S,i+1,rfl,fj,by rw[hp,he],.norm N9⟩⟩)))
   refine Fi (fn:=Tryz.f25) 2 (uI (wC (jN d.ly k))) [1,2,4,5,6,7] (x.kids.length-·) (fun j=>j<=x.kids.length/\∀q,q<j->(x.kids.getD q 0==k)=false) (fun j=>Xb d x k [(5,J i),(7,J j)]) 0 ⟨aR _,fun _ h=>absurd h (bE _)⟩ .refl (fun j ⟨hj,hq⟩=>?_);refine⟨_,be _,_,_,_,ang d x k (x.kids.getD j 0) i j,?_⟩;have hg:=fun h=>fP (l:=x.kids) (i:=j) h
   repeat' (first|exact ij|refine dN ?_ ?_)
   all_goals
    intro A;simp only[aA,aH,bq,aL,bn,K4,K5]at A
   . refine⟨X (iI A.1) (X Km (eO (hg A.1))),anj _ _ _ ?_⟩;rw[hp,wm,aF (xJ.1 A.2.1),Oh A.1 A.2.2 hq];rfl
   . refine⟨X (iI A.1) (X Km (X (hg A.1) (eO (gV S)))),j+1,by show x.kids.length-(j+1)<x.kids.length-j;omega,⟨A.1,fun q hqj=>?_⟩,.refl⟩;rcases bx q j with z|z
     . exact hq q z
     . obtain rfl:q=j:=by omega
       exact A.2.2
   . refine⟨all_nil,fun s2 rP=>?_⟩;rw[jc];exact oc j s2 rP (by rw[wm,aD (by have:=A.2;simpa using this)])
   . refine⟨all_nil,fun s2 rP=>?_⟩;rw[jc];refine oc j s2 rP ?_;rw[wm];split
     . rename_i q hq2;split at hq2
       . rw[Oi (fun q hqj=>hq q S)]at hq2;cases hq2
       . cases hq2
     . rfl
 . simp only[andThen];rw[jc];obtain rfl:i=d.ly.length:=by have:=rG h;omega
   exact gj rP (xw (by rw[hp,List.drop_length];rfl))
set_option maxRecDepth 10000
noncomputable abbrev BL:Code:=dQ Tryz.f103
def sSx(d:Dc)(id:Int)(gm:Bool)(r:List (Nat×V)):St:=fI ([(1,R id),(2,.bool gm),(3,.ptr (some (0,0)))]++r) (hL [(0,.cells d.cs)]) 1
theorem ank(d:Dc)(id a:Int)(gm:Bool):H (M (fa 24 [d.v,R id] (R a) ew) []) [] 0 Tryz.f103 [1,2,3,7] (ek 2 BL) (dI [d.v,R id,.bool gm] .nil 0) [([],[fG [d.v,R id]],eC (sSx d id gm [(7,R a)]))]:=G.Y
theorem anl(d:Dc)(id:Int)(gm:Bool):H (M ew []) [] 0 Tryz.f103 [] (ek 1 (dH 2 BL)) (sSx d id gm [(7,R (-1))]) [([],[],.ret (.fk none 0 0 0) (hL []) 0)]:=G.Y
theorem anm(d:Dc)(id:Int)(gm:Bool)(n:Nat):H (M ew []) [(15,.dL (.bool false))] 0 Tryz.f103 [1,2,3,7] (ek 1 (dH 2 BL)) (sSx d id gm [(7,J n)]) [([],[kP (decide (Int.ofNat n<(0:Int)))],eC (sSx d id gm [(7,J n)]))]:=G.Y
def sSy(d:Dc)(id:Int)(gm:Bool)(n:Nat)(ps:List Int):St:=fI [(1,R id),(2,.bool gm),(3,.ptr (some (0,0))),(7,J n),(8,.fk (some (1,0)) ps.length ps.length 1)] (hL [(0,.cells d.cs),(1,.deep (eL ps))]) 2
def sSz(d:Dc)(id:Int)(gm:Bool)(n:Nat)(ps:List Int)(a b:Int)(o:Bool):St:=fI [(1,R id),(2,.bool gm),(3,.ptr (some (0,0))),(7,J n),(8,.fk (some (1,0)) ps.length ps.length 1),(9,.ptr (some (2,0)))] (hL [(0,.cells d.cs),(1,.deep (eL ps)),(2,.cells [R a,R b,.bool o])]) 3
theorem ano(d:Dc)(id:Int)(gm:Bool)(n:Nat)(x:eV)(ps:List Int):H (M (fa 98 [x.v] (fD ps) ew) []) [(20,.dL (.eo x.ds))] 0 Tryz.f103 [1,2,3,7,8] (ek 1 (dH 3 BL)) (sSx d id gm [(7,J n)]) [([],[fT n d.ly.length,nK d.ly,gv (fR d.ly) n 31 x.ds,fG [x.v],jo ps,fM (0+ps.length) 1 8=true],eC (fI [(1,.int .i64 id),(2,.bool gm),(3,.ptr (some (0,0))),(7,.int .i64 (Int.ofNat n)),(8,.fk (some (1,0)) (0+ps.length) (0+ps.length) 1)] (hL [(0,.cells [.eM false (d.sp.length) (lj d.sp),.int .i64 (d.root),.int .i64 (d.nx),.eM false (d.ly.length) (fR d.ly)]),(1,.deep ([]++eL ps))]) 2))]:=G.Y
theorem aeZ(d:Dc)(id:Int)(gm:Bool)(n:Nat)(ps:List Int)(a b:Int)(o:Bool):H (M (fa 25 [d.v,R id] (.agg [R a,R b,.bool o]) ew) []) [] 0 Tryz.f103 [1,2,3,7,8,9] (ek 1 (dH 4 BL)) (sSy d id gm n ps) [([],[fG [d.v,R id]],eC (sSz d id gm n ps a b o))]:=G.Y
noncomputable abbrev UR:Code:=dO (dH 5 BL)
def Xc(d:Dc)(id:Int)(gm:Bool)(n:Nat)(ps:List Int)(a b:Int)(o q:Bool):St:=fI [(1,R id),(2,.bool gm),(3,.ptr (some (0,0))),(7,J n),(8,.fk (some (1,0)) ps.length ps.length 1),(9,.ptr (some (2,0))),(40,.bool q)] (hL [(0,.cells d.cs),(1,.deep (eL ps)),(2,.cells [R a,R b,.bool o])]) 3
theorem ae0(d:Dc)(id:Int)(n:Nat)(x:eV)(ps:List Int)(a b:Int)(o:Bool):H (M ew []) [(32,.dL (.eo x.ds)),(35,.split),(39,.split)] 0 Tryz.f103 [1,2,3,7,8,9,40] (dO UR) (sSz d id true n ps a b o) (BJ (x.kd==(3:Int)) o ([fT n d.ly.length,nK d.ly,gv (fR d.ly) n 31 x.ds],eC (Xc d id true n ps a b o true)) ([fT n d.ly.length,nK d.ly,gv (fR d.ly) n 31 x.ds],eC (Xc d id true n ps a b o false))):=G.Y
theorem anp(d:Dc)(id:Int)(n:Nat)(ps:List Int)(a b:Int)(o:Bool):H (M ew []) [] 0 Tryz.f103 [1,2,3,7,8,9,40] (dO UR) (sSz d id false n ps a b o) [([],[],eC (Xc d id false n ps a b o false))]:=G.Y
theorem anq(d:Dc)(id:Int)(gm:Bool)(n m j:Nat)(g:eV)(ps:List Int)(a:Int)(o:Bool):H (M (fa 24 [d.v,R a] (J m) ew) []) [(47,.dL (.eo g.ds))] 0 Tryz.f103 [8] (l9 (eB UR)) (Xc d id gm n ps a (Int.ofNat j) o true) [([],[fG [d.v,R a],fT m d.ly.length,nK d.ly,gv (fR d.ly) m 31 g.ds,jo g.kids,(0:Int)<=Int.ofNat j/\Int.ofNat j<=(Int.ofNat g.kids.length),(dU (eL g.kids) 0 ((j-0)*1)).length=(j-0)*1,0+ps.length*1<=(eL ps).length,fM (ps.length+(j-0)) 1 8=true],eC (fI [(8,.fk (some (0,0)) (ps.length+(j-0)) (ps.length+(j-0)) 1)] (hL [(0,.deep (List.take (ps.length*1) (List.drop 0 (eL ps))++dU (eL g.kids) 0 ((j-0)*1)))]) 1))]:=G.Y
theorem anr(d:Dc)(id:Int)(gm:Bool)(n:Nat)(ps:List Int)(a b:Int)(o:Bool):H (M ew []) [] 0 Tryz.f103 [] (eB (dH 5 BL)) (Xc d id gm n ps a b o false) [([],[],.ret (.fk (some (0,0)) (ps.length) (ps.length) 1) (hL [(0,.deep (eL ps))]) 1)]:=G.Y
theorem ans(qs:List Int):H (M ew []) [] 0 Tryz.f103 [] (eB (dH 5 BL)) (fI [(8,fD qs)] (hL []) 0) [([],[],.ret (.eM false (qs.length) (eL qs)) (hL []) 0)]:=G.Y
noncomputable abbrev yV:Code:=dQ Tryz.f56
noncomputable abbrev bRe:Code:=dP (dP (dO (dH 3 yV)))
noncomputable abbrev ZB:Code:=dP (eB bRe)
def mRe(d:Dc)(r:af):I es:=hL ((0,.cells d.cs)::r)
def La:ai->Option (ah×V)
 | [.eM n cs,.int .i64 k]=>some ([cs=eL (eN cs),n=(eN cs).length,n<=1000000],.bool ((eN cs).contains k))
 |_=>none
noncomputable abbrev Whs:gG:=jC 55 (yQ La) ew
def Jg(d:Dc)(gm:Bool)(td:List Int)(r:List (Nat×V)):St:=fI ([(2,.bool gm),(3,.ptr (some (0,0))),(7,.fk (some (1,0)) 0 0 1),(8,fD td)]++r) (mRe d [(1,.cells [])]) 2
def GH(d:Dc)(gm:Bool)(l td:List Int)(r:List (Nat×V)):St:=fI ([(2,.bool gm),(3,.ptr (some (0,0))),(7,.fk (some (1,0)) l.length l.length 1),(8,fD td)]++r) (mRe d [(1,.own .i64 l)]) 2
theorem anv(d:Dc)(id:Int)(gm:Bool)(ts:List Int):H (M (fa 103 [d.v,R id,.bool gm] (fD ts) ew) []) [] 0 Tryz.f56 [2,3,7,8] (ek 3 yV) (dI [d.v,R id,.bool gm] .nil 0) [([],[fG [d.v,R id,.bool gm]],eC (Jg d gm ts []))]:=G.Y
theorem ae1(d:Dc)(gm:Bool)(td:List Int):H (M ew []) [(17,.split)] 0 Tryz.f56 [2,3,7,8] (dO bRe) (Jg d gm td []) (fV (decide ((Int.ofNat td.length)>(0:Int))) ([],eC (Jg d gm td [])) ([],.to (.exit 0) (Jg d gm td []))):=G.Y
theorem Xd(d:Dc)(gm:Bool)(l td:List Int):H (M ew []) [(17,.split)] 0 Tryz.f56 [2,3,7,8] (dO bRe) (GH d gm l td []) (fV (decide ((Int.ofNat td.length)>(0:Int))) ([],eC (GH d gm l td [])) ([],.to (.exit 0) (GH d gm l td []))):=G.Y
theorem anw(d:Dc)(gm:Bool)(td:List Int)(x:Int):H (M Whs []) [(19,.dL (.eo [.int .i64 x])),(22,.dL (fD td))] 0 Tryz.f56 [2,3,7,8,9,26] (ek 3 ZB) (Jg d gm (x::td) []) [([],[(0:Int)<=(0:Int)/\(0:Int)<(Int.ofNat (x::td).length),jo (x::td),V.eo (dU (eL (x::td)) 0 1)=V.eo [D.int B x],jo (x::td),(0:Int)<=(1:Int)/\(1:Int)<=(Int.ofNat (x::td).length),V.eM false ((x::td).length-1) (dU (eL (x::td)) 1 (((x::td).length-1)*1))=fD td,0=0,[]=eL (eN []),0=0,0<=1000000],eC (fI [(2,.bool gm),(3,.ptr (some (0,0))),(7,.fk (some (1,0)) 0 0 1),(8,.eM false (td.length) (eL td)),(9,.int .i64 x),(26,.bool true)] (hL [(0,.cells [.eM false (d.sp.length) (lj d.sp),.int .i64 (d.root),.int .i64 (d.nx),.eM false (d.ly.length) (fR d.ly)]),(1,.cells [])]) 2))]:=G.Y
abbrev Mv(td:List Int)(x:Int):Prop:=V.eM false ((x::td).length-1) (dU (eL (x::td)) 1 (((x::td).length-1)*1))=fD td
theorem ae2(d:Dc)(gm:Bool)(l td:List Int)(x:Int):H (M Whs []) [(19,.dL (.eo [.int .i64 x])),(22,.dL (fD td)),(26,.split)] 0 Tryz.f56 [2,3,7,8,9,26] (ek 3 ZB) (GH d gm l (x::td) []) (fV (!(eN (eL l)).contains x) ([(0:Int)<=(0:Int)/\(0:Int)<(Int.ofNat (x::td).length),jo (x::td),V.eo (dU (eL (x::td)) 0 1)=V.eo [D.int B x],jo (x::td),(0:Int)<=(1:Int)/\(1:Int)<=(Int.ofNat (x::td).length),Mv td x,jo l,eL l=eL (eN (eL l)),l.length=(eN (eL l)).length,l.length<=1000000],eC (fI [(2,.bool gm),(3,.ptr (some (0,0))),(7,.fk (some (1,0)) (l.length) (l.length) 1),(8,.eM false (td.length) (eL td)),(9,.int .i64 x),(26,.bool true)] (hL [(0,.cells [.eM false (d.sp.length) (lj d.sp),.int .i64 (d.root),.int .i64 (d.nx),.eM false (d.ly.length) (fR d.ly)]),(1,.own .i64 l)]) 2)) ([(0:Int)<=(0:Int)/\(0:Int)<(Int.ofNat (x::td).length),jo (x::td),V.eo (dU (eL (x::td)) 0 1)=V.eo [D.int B x],jo (x::td),(0:Int)<=(1:Int)/\(1:Int)<=(Int.ofNat (x::td).length),Mv td x,jo l,eL l=eL (eN (eL l)),l.length=(eN (eL l)).length,l.length<=1000000],eC (fI [(2,.bool gm),(3,.ptr (some (0,0))),(7,.fk (some (1,0)) (l.length) (l.length) 1),(8,.eM false (td.length) (eL td)),(9,.int .i64 x),(26,.bool false)] (hL [(0,.cells [.eM false (d.sp.length) (lj d.sp),.int .i64 (d.root),.int .i64 (d.nx),.eM false (d.ly.length) (fR d.ly)]),(1,.own .i64 l)]) 2))):=G.Y
noncomputable abbrev ZC:Code:=dH 3 ZB
theorem anx(d:Dc)(gm:Bool)(td ts:List Int)(x:Int):H (M (fa 103 [d.v,R x,.bool gm] (fD ts) ew) []) [] 0 Tryz.f56 [2,3,7,8] (l9 ZC) (Jg d gm td [(9,R x),(26,.bool true)]) [([],[jo td,fM (0+td.length) 1 8=true,fG [d.v,R x,.bool gm],jo ts,0+(0+td.length)*1<=([]++eL td).length,fM (0+td.length+ts.length) 1 8=true],eC (fI [(2,.bool gm),(3,.ptr (some (0,0))),(7,.fk (some (1,0)) 1 1 1),(8,.fk (some (2,0)) (0+td.length+ts.length) (0+td.length+ts.length) 1)] (hL [(0,.cells [.eM false (d.sp.length) (lj d.sp),.int .i64 (d.root),.int .i64 (d.nx),.eM false (d.ly.length) (fR d.ly)]),(1,.cells [.int .i64 x]),(2,.deep (List.take ((0+td.length)*1) (List.drop 0 ([]++eL td))++eL ts))]) 3))]:=G.Y
theorem ae3(d:Dc)(gm:Bool)(l td ts:List Int)(x:Int):H (M (fa 103 [d.v,R x,.bool gm] (fD ts) ew) []) [] 0 Tryz.f56 [2,3,7,8] (l9 ZC) (GH d gm l td [(9,R x),(26,.bool true)]) [([],[0<l.length,0+l.length*1<=l.length,0<1,fM (l.length+1) 1 8=true,jo td,fM (0+td.length) 1 8=true,fG [d.v,R x,.bool gm],jo ts,0+(0+td.length)*1<=([]++eL td).length,fM (0+td.length+ts.length) 1 8=true],eC (fI [(2,.bool gm),(3,.ptr (some (0,0))),(7,.fk (some (1,0)) (l.length+1) (l.length+1) 1),(8,.fk (some (2,0)) (0+td.length+ts.length) (0+td.length+ts.length) 1)] (hL [(0,.cells [.eM false (d.sp.length) (lj d.sp),.int .i64 (d.root),.int .i64 (d.nx),.eM false (d.ly.length) (fR d.ly)]),(1,.own .i64 (List.take (l.length*1) (List.drop 0 l)++[x])),(2,.deep (List.take ((0+td.length)*1) (List.drop 0 ([]++eL td))++eL ts))]) 3))]:=G.Y
theorem anz(d:Dc)(gm:Bool)(l td:List Int)(x:Int):H (M ew []) [] 0 Tryz.f56 [2,3,7,8] (pc ZC) (GH d gm l td [(9,R x),(26,.bool false)]) [([],[],eC (GH d gm l td []))]:=G.Y
theorem anA(d:Dc)(gm:Bool)(td:List Int):H (M ew []) [] 0 Tryz.f56 [] (eB (dH 3 yV)) (Jg d gm td []) [([],[],.ret (.fk (some (0,0)) 0 0 1) (hL [(0,.cells [])]) 1)]:=G.Y
theorem ae4(d:Dc)(gm:Bool)(l td:List Int):H (M ew []) [] 0 Tryz.f56 [] (eB (dH 3 yV)) (GH d gm l td []) [([],[],.ret (.fk (some (0,0)) (l.length) (l.length) 1) (hL [(0,.own .i64 l)]) 1)]:=G.Y
set_option maxRecDepth 10000
theorem GI{k:Nat}(h:k<=1000000000):fM k 1 8=true:=by
 unfold fM;exact aW ⟨S,S⟩
section
variable(ls:List eV)(id:Int)
def Jh:Prop:=(ls.map (·.id)).Nodup
def iT:List Int:=match jN ls id with
 |some (g,j)=>match jq ls g with
  |some m=>(ls.getD m gM).kids.take j
  |none=>[]
 |none=>[]
def gB(gm:Bool)(id:Int):List Int:=match jq ls id with
 |some n=>gp (ls.getD n gM)++(if gm=true/\(ls.getD n gM).kd=3 then iT ls id else[])
 |none=>[]
end
theorem DF:∀{ls:List eV} {k g:Int} {j:Nat},jN ls k=some (g,j)->∃x∈ls,x.id=g/\x.kd=2/\j<x.kids.length/\x.kids.getD j 0=k
 | [],_,_,_,h=>by cases h
 |x::ls,k,g,j,h=>by
  unfold jN at h;split at h
  . rename_i q hq;split at hq
    . rename_i hk;simp only[aq,aB]at h;obtain⟨rfl,rfl⟩:=h;rw[bW]at hq;obtain⟨h1,C,_⟩:=hq;exact⟨x,bB ..,rfl,hk,h1,by rw[ax,au h1];simpa using C⟩
    . cases hq
  . obtain⟨y,h1,C⟩:=DF h;exact⟨y,bh _ h1,C⟩
theorem yW{ls:List eV}(hu:Jh ls){x:eV}(K:x∈ls):∃m,jq ls x.id=some m/\m<ls.length/\ls.getD m gM=x:=by
 obtain⟨m,L,rfl⟩:=ck K;have e:ls.getD m gM=ls[m]:=by rw[ax,au L];rfl
 refine⟨m,Dx L (by rw[e];simp) (fun j hj=>?_),L,e⟩;have zB:j<ls.length:=by omega
 rw[ax,au zB];simp only[cA,cB,ne_eq];intro h;have:=(List.getElem_inj (h₀:=by simpa using zB) (h₁:=by simpa using L) hu).1 (by simpa using h);omega
theorem iG{ls:List eV}{k:Int}{n:Nat}(h:jq ls k=some n):n<ls.length/\(ls.getD n gM).id=k/\ls.getD n gM∈ls:=by
 unfold jq at h;rw[bW]at h;obtain⟨h1,C,_⟩:=h;have e:ls.getD n gM=ls[n]:=by rw[ax,au h1];rfl
 rw[e];exact⟨h1,by simpa using C,bV h1⟩
theorem Rs{d:Dc}(hd:D5 d){x:eV}(K:x∈d.ly):(gp x).length<=1000000:=by
 unfold gp;split
 . simp
 . exact hd.kids x K
theorem ZD(d:Dc)(id:Int)(gm:Bool)(hd:D5 d)(hu:gm=true->Jh d.ly):ee ak 103 [d.v,R id,.bool gm] (fD (gB d.ly gm id)):=by
 have hA:=Ts d id hd.ly;have Ay:=fS d.ly;refine mz Tryz.func103 (fN 2 (ff hA (be _)) (ank d id _ gm) (eO rfl) ?_);cases nJ:jq d.ly id with
 |none=>
  have e1:pW d.ly id= -1:=by unfold pW;rw[nJ]
  have e2:gB d.ly gm id=[]:=by unfold gB;rw[nJ]
  rw[e1,e2];exact isH 1 (be _) (anl d id gm) (dK (g0 ⟨all_nil,uI.self dJ dJ⟩))
 |some n=>
  have e1:pW d.ly id=Int.ofNat n:=by unfold pW;rw[nJ]
  obtain⟨hn,hid,oJ⟩:=iG nJ;have K:=ik (l:=d.ly) hn;have wo:=Rs hd oJ;have e2:gB d.ly gm id=gp (d.ly.getD n gM)++(if gm=true/\(d.ly.getD n gM).kd=3 then iT d.ly id else[]):=by unfold gB;rw[nJ]
  rw[e1,e2];have hP:=Rg (d.ly.getD n gM);generalize d.ly.getD n gM=x at *;refine fN 1 (be _) (anm d id gm n) (eO (aG V.bool (aX XG))) ?_;rw[lg];have h4:=ano d id gm n x (gp x);rw[bI,bG]at h4;refine fN 1 (ff hP (be _)) h4 (X (iI hn) (X Ay (X K (X rfl (X (eI _) (eO (GI S))))))) ?_;rw[lg];generalize gp x=ps at *;have hR:=aeX d id hd;have oc:∀(a b:Int) (o:Bool),(if gm=true/\x.kd=3 then iT d.ly id else[])=[]->TG ak 0 Tryz.f103.ntmps (eB (dH 5 BL)) (Xc d id gm n ps a b o false) (gi ak 0 Tryz.f103 (uI (fD (ps++(if gm=true/\x.kd=3 then iT d.ly id else[]))))):=fun a b o e=>by
   rw[e,c5];exact eR (be _) (anr d id gm n ps a b o) (dK (g0 ⟨all_nil,_,_,_,rfl,.Am (v0:=fD ps) [0] (hc:=[(eL ps).length=ps.length*1]) dJ (eO (eI _)) dJ dJ⟩))
  have skip:∀(a b:Int) (o:Bool),(if gm=true/\x.kd=3 then iT d.ly id else[])=[]->TG ak 0 Tryz.f103.ntmps (eB UR) (Xc d id gm n ps a b o false) (andThen (fun T=>TG ak 0 Tryz.f103.ntmps (eB (dH 5 BL)) T (gi ak 0 Tryz.f103 (uI (fD (ps++(if gm=true/\x.kd=3 then iT d.ly id else[])))))) (gi ak 0 Tryz.f103 (uI (fD (ps++(if gm=true/\x.kd=3 then iT d.ly id else[])))))):=fun a b o e=>
   kz (t:=false) dJ dJ (fun h=>by cases h) (fun _=>qU (cf:=fun _ _ _ _=>none) (fr:=10) (fun _ _ _ _ _ _ _ e=>by cases e) mo dJ (x:=.normal) (y:=.normal) (T:=Xc d id gm n ps a b o false) dJ rfl (oc a b o e))
  have no1:∀(a b:Int) (o:Bool),(if gm=true/\x.kd=3 then iT d.ly id else[])=[]->wC (jN d.ly id)= .agg [R a,R b,.bool o]->(gm=true->x.kd=3->o=false)->TG ak 0 Tryz.f103.ntmps (dH 4 BL) (sSy d id gm n ps) (gi ak 0 Tryz.f103 (uI (fD (ps++(if gm=true/\x.kd=3 then iT d.ly id else[]))))):=fun a b o e ep ho=>by
   rw[ep]at hR;refine fN 1 (ff hR (be _)) (aeZ d id gm n ps a b o) (eO rfl) ?_;rw[lg];refine dY dJ ?_;cases gm with
   |false=>exact qm (be _) eP (anp d id n ps a b o) (dK (g0 ⟨all_nil,skip a b o e⟩))
   |true=>
    have hc:=X (iI hn) (X Ay (eO K));refine qm (be _) eP (ae0 d id n x ps a b o) (dN (g2 fun h1 C=>?_) (dN (g2 fun h1 C=>⟨hc,skip a b o e⟩) (dK (g1 fun h1=>⟨hc,skip a b o e⟩))));rw[ho rfl (xJ.1 h1)]at C;cases C
  by_cases A:gm=true/\x.kd=3
  . have U:(if gm=true/\x.kd=3 then iT d.ly id else[])=iT d.ly id:=aF A;cases hp:jN d.ly id with
    |none=>exact no1 0 0 false (by rw[U];unfold iT;rw[hp]) (by rw[hp];rfl) (fun _ _=>rfl)
    |some q=>
     obtain⟨g,j⟩:=q;obtain⟨ha,h3⟩:=A;subst ha;obtain⟨y,hy,hyg,_,hj,_⟩:=DF hp;obtain⟨m,US,Te,hm3⟩:=yW (hu rfl) hy;rw[hyg]at US;have hbe:iT d.ly id=y.kids.take j:=by unfold iT;rw[hp];simp only;rw[US];simp only;rw[hm3]
     have hyx:=ik (l:=d.ly) Te;rw[hm3]at hyx;have hAg:=Ts d g hd.ly;have Uu:pW d.ly g=Int.ofNat m:=by unfold pW;rw[US]
     rw[Uu]at hAg;have hyk:=hd.kids y hy;rw[hp]at hR;refine fN 1 (ff hR (be _)) (aeZ d id true n ps g (Int.ofNat j) true) (eO rfl) ?_;rw[lg];refine dY dJ ?_;have hc:=X (iI hn) (X Ay (eO K));refine qm (be _) eP (ae0 d id n x ps g (Int.ofNat j) true) (dN (g2 fun h1 C=>⟨hc,?_⟩) (dN (g2 fun h1 C=>by cases C) (dK (g1 fun h1=>by rw[h3]at h1;cases h1))));refine kz (t:=true) dJ dJ (fun _=>?_) (fun h=>by cases h);have vN:dU (eL y.kids) 0 ((j-0)*1)=eL (y.kids.take j):=by
      unfold dU eL;rw[dz,cR,bA,dh]
     have h8:=anq d id true n m j y ps g true;rw[vN,bA,cr ((Nat.le_of_eq (eI ps)))]at h8;refine gw (ff hAg (be _)) eP h8 (dK (g0 ⟨?_,fun T eu=>?_⟩))
     . refine X rfl (X (iI Te) (X Ay (X hyx (X (eI _) (X ⟨bJ _,by simp only[gD];omega⟩ (X ?_ (X (by rw[eI];omega) (eO (GI S)))))))));rw[eI,bf];omega
     . show TG _ _ _ (eB (dH 5 BL)) T _;rw[U,hbe];have hl:(ps++y.kids.take j).length=ps.length+(j-0):=by rw[az,bf];omega
       have UT:eL ps++eL (y.kids.take j)=eL (ps++y.kids.take j):=(bL ..).symm;rw[UT,<- hl]at eu;generalize ps++y.kids.take j=qs at eu hl;refine gj eu (eJ.Fl [0] [8] (dF:=fI [(8,fD qs)] (hL []) 0) (hc:=[(eL qs).length=qs.length*1]) dJ (eO (eI _)) _ _ ?_);exact eR (be _) (ans qs) (dK (g0 ⟨all_nil,_,_,_,rfl,uI.self dJ dJ⟩))
  . have U:(if gm=true/\x.kd=3 then iT d.ly id else[])=[]:=aD A;cases hp:jN d.ly id with
    |none=>exact no1 0 0 false U (by rw[hp];rfl) (fun _ _=>rfl)
    |some q=>exact no1 q.1 (Int.ofNat q.2) true U (by rw[hp];rfl) (fun h1 C=>absurd ⟨h1,C⟩ A)
end Go.Proofs.YtmjggdmekboefaaGreat
