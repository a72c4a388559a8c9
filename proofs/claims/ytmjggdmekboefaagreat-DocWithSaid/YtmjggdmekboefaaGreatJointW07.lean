/- The Doc laws: filter.Bytes: pieces. No conditions. -/
import Derived.Test.YtmjggdmekboefaaGreatJointW05
import Derived.Test.YtmjggdmekboefaaGreatJointW06
set_option linter.unusedVariables false
set_option linter.unusedSimpArgs false
set_option linter.unusedSectionVars false
namespace Go.Proofs.YtmjggdmekboefaaGreat
open Go Go.Eng
noncomputable abbrev adK:Code:=dL Tryz.f106
noncomputable abbrev Yw:Code:=dA 2 adK
noncomputable abbrev ala:Code:=dL Tryz.f63
def sNu(n:Nat)(cs:ai)(s:aa)(i:Nat):St:=fB [(3,.str s),(6,.eE false n cs),(7,L n),(8,L i)] .nil 0
def eH:ai->List Int
 | .int .i64 x::r=>x::eH r
 |_=>[]
theorem fI:∀l:List Int,eH (eG l)=l
 | []=>rfl
 |x::l=>by
  show x::eH (eG l)=_;rw[fI l]
def gC(l:List Int):aa:=(l.map eO).flatten
def QA(s:aa):aa:=eO (Int.ofNat s.length)++s
def Kx:ai->Option (ah×V)
 | [.eE n cs]=>some ([cs=eG (eH cs),n=(eH cs).length,n<=4000000],.str (gC (eH cs)))
 |_=>none
section
variable(n:Nat)
theorem alb(cs:ai):H (M W4 []) [] 0 Tryz.f106 [0,3] (dU 2 adK) (dB [.eE false n cs] .nil 0) [([],[],eu (fB [(0,.eE false n cs),(3,.str [])] (hL []) 0))]:=G.W
theorem alc(cs:ai):H (M W4 []) [] 0 Tryz.f106 [3,6,7,8] (dI (dI Yw)) (fB [(0,.eE false n cs),(3,.str [])] .nil 0) [([],[],eu (sNu n cs [] 0))]:=G.W
theorem ald(cs:ai)(s:aa)(i:Nat)(v:Int):H (M W4 []) [(9,.split),(10,.dG (.dS [.int .i64 v])),(16,.dG (L (i+1)))] 0 Tryz.f106 [3,6,7,8] (dK (dK (dY (dI Yw)))) (sNu n cs s i) (fP (decide (Int.ofNat i<Int.ofNat n)) ([fR i n,cs.length=n*1,gG cs i 1 [D.int B v],s.length+(eO v).length<=9223372036854775807,oH i],eu (sNu n cs (s++eO v) (i+1))) ([],.to (.exit 0) (sNu n cs s i))):=G.W
theorem ale(cs:ai)(s:aa)(i:Nat):H (M W4 []) [] 0 Tryz.f106 [] (dY Yw) (sNu n cs s i) [([],[],.ret (.str s) (hL []) 0)]:=G.W
end
theorem alf(f:FL):H (M (kp 106 (yz Kx) W4) []) [] 0 Tryz.f63 [] (ala) (dB [f.v] .nil 0) [([],[[D.int B f.k,D.int B f.r,D.int B (Int.ofNat f.eW.length)].length=3,[D.int B f.k,D.int B f.r,D.int B (Int.ofNat f.eW.length)]=eG (eH [D.int B f.k,D.int B f.r,D.int B (Int.ofNat f.eW.length)]),3=(eH [D.int B f.k,D.int B f.r,D.int B (Int.ofNat f.eW.length)]).length,3<=4000000,eG f.eW=eG (eH (eG f.eW)),f.eW.length=(eH (eG f.eW)).length,f.eW.length<=4000000,(gC (eH [D.int B f.k,D.int B f.r,D.int B (Int.ofNat f.eW.length)])).length+(gC (eH (eG f.eW))).length<=9223372036854775807,[D.int B f.dv,D.int B f.vl,D.int B (Int.ofNat f.cu.length)].length=3,[D.int B f.dv,D.int B f.vl,D.int B (Int.ofNat f.cu.length)]=eG (eH [D.int B f.dv,D.int B f.vl,D.int B (Int.ofNat f.cu.length)]),3=(eH [D.int B f.dv,D.int B f.vl,D.int B (Int.ofNat f.cu.length)]).length,3<=4000000,(gC (eH [D.int B f.k,D.int B f.r,D.int B (Int.ofNat f.eW.length)])++gC (eH (eG f.eW))).length+(gC (eH [D.int B f.dv,D.int B f.vl,D.int B (Int.ofNat f.cu.length)])).length<=9223372036854775807,eG f.cu=eG (eH (eG f.cu)),f.cu.length=(eH (eG f.cu)).length,f.cu.length<=4000000,(gC (eH [D.int B f.k,D.int B f.r,D.int B (Int.ofNat f.eW.length)])++gC (eH (eG f.eW))++gC (eH [D.int B f.dv,D.int B f.vl,D.int B (Int.ofNat f.cu.length)])).length+(gC (eH (eG f.cu))).length<=9223372036854775807],.ret (.str (gC [f.k,f.r,Int.ofNat f.eW.length]++gC (eH (eG f.eW))++gC [f.dv,f.vl,Int.ofNat f.cu.length]++gC (eH (eG f.cu)))) (hL []) 0)]:=G.W
theorem tE{l:List Int}{i:Nat}{v:Int}(h:l[i]? =some v):gC (l.take (i+1))=gC (l.take i)++eO v:=by
 unfold gC;rw[bY,h];simp
theorem iU:∀l:List Int,(gC l).length<=10*l.length
 | []=>by simp[gC]
 |x::l=>by
  have:=iU l;have h:=(sj x).2;unfold gC at this ⊢;simp only[bQ,cU,aH,aR];omega
theorem adL(l:List Int)(hl:l.length<=4000000):dV ak 106 [fF l] (.str (gC l)):=by
 refine fc Tryz.func106 ?_;refine fH 2 sw (alb l.length (eG l)) all_nil ?_;refine nD sw 0 _ [3,6,7,8] (l.length-·) (. <=l.length) (fun i=>sNu l.length (eG l) (gC (l.take i)) i) 0 (aN _) (alc _ _) all_nil .refl fun i hi=>?_;refine⟨_,sw,[],_,_,ald _ _ _ i (l.getD i 0),dJ (g1 fun h=>?_) (dF (g1 fun h=>⟨all_nil,rfl,?_⟩))⟩
 . have eY:=j9 h;obtain⟨v,hv⟩:∃v,l[i]? =some v:=⟨_,au eY⟩;have ev:l.getD i 0=v:=by rw[ax,hv];rfl
   rw[ev];have h1:=iU (l.take i);have C:=(sj v).2;rw[aW]at h1;refine⟨A (iT eY) (A (eK l) (A (q8 hv) (A S (eM (gK S))))),i+1,um eY,eY,?_⟩;rw[<- tE hv];exact .refl
 . obtain rfl:i=l.length:=by have:=qZ h;omega
   rw[bn];exact eR sw (ale _ _ _ _) (dF (g0 ⟨all_nil,_,_,_,rfl,rfl⟩))
theorem Yx:kj ak 106 (yz Kx):=by
 refine yA dD fun ds fm v e hA=>?_;unfold Kx at e;split at e
 case h_2=>cases e
 rename_i n cs;obtain⟨rfl,rfl⟩:=sm e;have h1:cs=eG (eH cs):=hA _ (by simp);have C:n=(eH cs).length:=hA (n=(eH cs).length) (by simp);have h3:n<=4000000:=hA (n<=4000000) (by simp);generalize eH cs=l at *;subst h1 C;exact adL l h3
def ic(f:FL):aa:=gC [f.k,f.r,Int.ofNat f.eW.length]++gC f.eW++gC [f.dv,f.vl,Int.ofNat f.cu.length]++gC f.cu
theorem Ky(f:FL):(ic f).length<=60+10*f.eW.length+10*f.cu.length:=by
 have h1:=iU [f.k,f.r,Int.ofNat f.eW.length];have C:=iU f.eW;have h3:=iU [f.dv,f.vl,Int.ofNat f.cu.length];have h4:=iU f.cu;simp only[aR,b9]at h1 h3;unfold ic;simp only[aH];omega
theorem Yy(f:FL)(h1:f.eW.length<=2000000)(C:f.cu.length<=2000000):dV ak 63 [f.v] (.str (ic f)):=by
 refine fc Tryz.func63 ?_;have hr:=alf f;have e1:=iU [f.k,f.r,Int.ofNat f.eW.length];have e2:=iU f.eW;have e3:=iU [f.dv,f.vl,Int.ofNat f.cu.length];have e4:=iU f.cu;simp only[aR,b9]at e1 e3;have i3:∀a b c:Int,eH [D.int B a,D.int B b,D.int B c]=[a,b,c]:=fun _ _ _=>rfl;simp only[fI,i3]at hr;refine eR (fN Yx sw) hr (dF (g0 ⟨?_,_,_,_,rfl,rfl⟩))
 repeat' (first|exact all_nil|refine A ?_ ?_)
 all_goals first|rfl|omega|(simp only[aH]<;>omega)
def flg(a b c:Bool):Int:=(if a then 1 else 0)+((if b then 2 else 0)+(if c then 4 else 0))
def fiB(c:C4):aa:=[UInt8.ofNat c.r.toNat,UInt8.ofNat c.g.toNat,UInt8.ofNat c.b.toNat,UInt8.ofNat c.a.toNat]
def F9(l:List (Int×Int)):aa:=(l.map fun p=>eO p.1++eO p.2).flatten
def Nv(p:P7):aa:=eO p.a++eO p.b++eO p.c++eO p.d++eO p.e++eO p.f++eO p.n
def QB(l:eJ):aa:=eO l.id++eO l.kd++(QA l.nm++zV (flg l.hid l.clip l.K))++eO l.op++eO l.md++Nv l.pl++eO l.sp++eO (Int.ofNat l.kids.length)++gC l.kids++eO l.of++ic l.f++fiB l.fi++eO (Int.ofNat l.gu.length)++F9 l.gu
structure okL(l:eJ):Prop where
 nm:l.nm.length<=2000000
 kids:l.kids.length<=2000000
 eW:l.f.eW.length<=2000000
 cu:l.f.cu.length<=2000000
 gu:l.gu.length<=2000000
theorem pn(l:List (Int×Int)):(mQ l).length=l.length*2:=sk (f:=fun p:Int×Int=>[D.int .i64 p.1,D.int .i64 p.2]) (fun _=>rfl) l
theorem Kz{l:List (Int×Int)}{i:Nat}{p:Int×Int}(h:l[i]? =some p):V.dS (dO (mQ l) (i*2) 2)= .dS [.int .i64 p.1,.int .i64 p.2]:=by
 have eY:i<l.length:=(aO.1 h).1;have hv:l[i]=p:=(aO.1 h).2;rw[<- hv];exact aI _ (su (f:=fun p:Int×Int=>[D.int .i64 p.1,D.int .i64 p.2]) (fun _=>rfl) l i eY)
theorem Nw{l:List (Int×Int)}{i:Nat}{p:Int×Int}(h:l[i]? =some p):F9 (l.take (i+1))=F9 (l.take i)++(eO p.1++eO p.2):=by
 unfold F9;rw[bY,h];simp
theorem IK:∀l:List (Int×Int),(F9 l).length<=20*l.length
 | []=>by simp[F9]
 |p::l=>by
  have:=IK l;have h:=(sj p.1).2;have h':=(sj p.2).2;unfold F9 at this ⊢;simp only[bQ,cU,aH,aR];omega
structure M9 where
 a:Int
 b:Int
 c:Int
 d:Int
 e:Int
 f:Int
 g:Int
 h:Int
 i:Int
def M9.ds(m:M9):ai:=[.int .i64 m.a,.int .i64 m.b,.int .i64 m.c,.int .i64 m.d,.int .i64 m.e,.int .i64 m.f,.int .i64 m.g,.int .i64 m.h,.int .i64 m.i]
structure Sp where
 c0:List Int
 c1:List Int
 c2:List Int
 to:M9
 T:M9
def Sp.ds(s:Sp):ai:=[.eE s.c0.length (eG s.c0),.eE s.c1.length (eG s.c1),.eE s.c2.length (eG s.c2)]++(s.to.ds++s.T.ds)
def Sp.v(s:Sp):V:=.agg (D.fU s.ds)
def jy(l:List Sp):ai:=(l.map Sp.ds).flatten
def eJ.ds(l:eJ):ai:=[.int .i64 l.id,.int .i64 l.kd,.str l.nm,.bool l.hid,.int .i64 l.op,.int .i64 l.md,.bool l.clip,.int .i64 l.pl.a,.int .i64 l.pl.b,.int .i64 l.pl.c,.int .i64 l.pl.d,.int .i64 l.pl.e,.int .i64 l.pl.f,.int .i64 l.pl.n,.int .i64 l.sp,.eE l.kids.length (eG l.kids),.int .i64 l.of,.int .i64 l.f.k,.int .i64 l.f.r,.eE l.f.eW.length (eG l.f.eW),.int .i64 l.f.dv,.int .i64 l.f.vl,.eE l.f.cu.length (eG l.f.cu),.int .u8 l.fi.r,.int .u8 l.fi.g,.int .u8 l.fi.b,.int .u8 l.fi.a,.eE l.gu.length (mQ l.gu),.eE l.gp.length (iH l.gp),.bool l.K,.eE l.gT.length (iH l.gT)]
def gv:eJ:=⟨0,0,[],false,0,0,false,z7,0,[],0,tZ,z4,[],[],false,[]⟩
def fD(l:List eJ):ai:=(l.map eJ.ds).flatten
abbrev nE(l:List eJ):Prop:=(fD l).length=l.length*31
structure Dc where
 sp:List Sp
 root:Int
 nx:Int
 ly:List eJ
def Dc.cs(d:Dc):ag:=[.eE false d.sp.length (jy d.sp),F d.root,F d.nx,.eE false d.ly.length (fD d.ly)]
def Dc.v(d:Dc):V:=.agg d.cs
noncomputable abbrev adN:Code:=dL Tryz.f24
noncomputable abbrev Yz:Code:=dA 1 adN
def sAx(d:Dc)(k:Int)(i:Nat):St:=fB [(1,F k),(2,.ptr (some (0,0))),(5,L i)] (hL [(0,.cells d.cs)]) 1
theorem alh(d:Dc)(k:Int):H (M ek []) [] 0 Tryz.f24 [1,2] (dU 1 adN) (dB [d.v,F k] .nil 0) [([],[],eu (fB [(1,.int .i64 k),(2,.ptr (some (0,0)))] (hL [(0,.cells [.eE false (d.sp.length) (jy d.sp),.int .i64 (d.root),.int .i64 (d.nx),.eE false (d.ly.length) (fD d.ly)])]) 1))]:=G.W
theorem ali(d:Dc)(k:Int):H (M ek []) [] 0 Tryz.f24 [1,2,5] (dI (dI Yz)) (fB [(1,F k),(2,.ptr (some (0,0)))] (hL [(0,.cells d.cs)]) 1) [([],[],eu (sAx d k 0))]:=G.W
theorem alj(d:Dc)(k:Int)(i:Nat)(l:eJ):H (M ek []) [(10,.split),(16,.dG (.dS l.ds)),(20,.split),(12,.dG (L (i+1)))] 0 Tryz.f24 [1,2,5] (dK (dK (dY (dI Yz)))) (sAx d k i) (si (decide (Int.ofNat i<(Int.ofNat d.ly.length))) (l.id==k) ([fR i d.ly.length,nE d.ly,gG (fD d.ly) i 31 l.ds],.ret (.int .i64 (Int.ofNat i)) (hL []) 0) ([fR i d.ly.length,nE d.ly,gG (fD d.ly) i 31 l.ds,oH i],eu (sAx d k (i+1))) ([],.to (.exit 0) (sAx d k i))):=G.W
theorem alk(d:Dc)(k:Int)(i:Nat):H (M ek []) [] 0 Tryz.f24 [] (dY Yz) (sAx d k i) [([],[],.ret (.int .i64 (-1)) (hL []) 0)]:=G.W
noncomputable abbrev adO:Code:=dL Tryz.f55
noncomputable abbrev YA:Code:=dA 1 adO
def sHs(l:List Int)(k:Int)(i:Nat):St:=fB [(0,fF l),(1,F k),(5,L i)] (hL []) 0
theorem alm(l:List Int)(k:Int):H (M ek []) [] 0 Tryz.f55 [0,1] (dU 1 adO) (dB [fF l,F k] .nil 0) [([],[],eu (fB [(0,.eE false (l.length) (eG l)),(1,.int .i64 k)] (hL []) 0))]:=G.W
theorem aln(l:List Int)(k:Int):H (M ek []) [] 0 Tryz.f55 [0,1,5] (dI (dI YA)) (fB [(0,fF l),(1,F k)] (hL []) 0) [([],[],eu (sHs l k 0))]:=G.W
theorem alo(l:List Int)(k:Int)(i:Nat)(x:Int):H (M ek []) [(9,.split),(14,.dG (.dS [.int .i64 x])),(17,.split),(11,.dG (L (i+1)))] 0 Tryz.f55 [0,1,5] (dK (dK (dY (dI YA)))) (sHs l k i) (si (decide (Int.ofNat i<(Int.ofNat l.length))) (x==k) ([fR i l.length,jC l,gG (eG l) i 1 [D.int B x]],By) ([fR i l.length,jC l,gG (eG l) i 1 [D.int B x],oH i],eu (sHs l k (i+1))) ([],.to (.exit 0) (sHs l k i))):=G.W
theorem alp(l:List Int)(k:Int)(i:Nat):H (M ek []) [] 0 Tryz.f55 [] (dY YA) (sHs l k i) [([],[],ja)]:=G.W
theorem alq(l:eJ):H (M ek []) [(5,.split)] 0 Tryz.f98 [] (dL Tryz.f98) (dB [l.v] .nil 0) (fP (l.kd==(4:Int)) ([],.ret (.eZ (some (0,0)) 1 1 1) (hL [(0,.cells [.int .i64 (l.of)])]) 1) ([],.ret (.eE false (l.kids.length) (eG l.kids)) (hL []) 0)):=G.W
theorem alr(x k:Int):H (M ek []) [(8,.split)] 0 Tryz.f143 [] (dL Tryz.f143) (dB [F x,F k] .nil 0) (fP (decide (x>=IntKind.i64.wrap ((0:Int)-k))) ([],.ret (.bool (decide (x<=k))) (hL []) 0) ([],ja)):=G.W
section
variable{X hc:Nat}{c:Code}{s:St}{dP:gJ}{fn:Func}
abbrev lt?(i n:Nat):Bool:=decide (Int.ofNat i<Int.ofNat n)
theorem We(b:Nat)(n:Nat){s':V->I es->Nat->Prop}(live:List Nat)(dy:Nat->St)(t:Nat->Bool)(v:Nat->V×I es×Nat)(A1 A2:Nat->ah){W0:gJ}(X0:fe ak W0)
  {h0h:List (Nat×List (Nat×mj))} {H0:List (Nat×mj)} {fm:ah} {s0:St} (V4:H (M W0 h0h) H0 X fn live (dI (dI c)) s [([],fm,.to .normal s0)]) (Wf:∀a∈fm,a) (h0:ew ak X hc s0 (dy 0))
  (Y:∀i,i<=n->∃(dP:gJ) (_:fe ak dP) (hh:_) (dz:_),H (M dP hh) dz X fn live (dK (dK (dY (dI c)))) (dy i) [([(lt? i n,true),(t i,true)],A1 i,.ret (v i).1 (v i).2.1 (v i).2.2),([(lt? i n,true),(t i,false)],A2 i,.to .normal (dy (i+1))),([(lt? i n,false)],[],.to (.exit b) (dy i))])
  (hA:∀i,i<n->(∀a∈A1 i,a)/\∀a∈A2 i,a)
  (hr:∀i,i<n->(∀j,j<i->t j=false)->t i=true->s' (v i).1 (v i).2.1 (v i).2.2) (he:(∀j,j<n->t j=false)->TG ak X hc (dY c) (dy n) (fV ak X fn s'))
  (hs:((qf c&&qf (dI c))&&(eV hc (dI (dI c))&&(nq (dY (dI c)) b&&(oL (dK (dY (dI c)))&&eV hc (dK (dK (dY (dI c))))))))=true:=by kernel_rfl):TG ak X hc c s (fV ak X fn s'):=by
 refine nD X0 b s' live (n-·) (fun i=>i<=n/\∀j,j<i->t j=false) dy 0 ⟨aN _,fun _ h=>absurd h (bL _)⟩ V4 Wf h0 (fun i ⟨hi,hj⟩=>?_) hs;obtain⟨dP,n0,hh,dz,gx⟩:=Y i hi;refine⟨dP,n0,hh,dz,_,gx,dJ (g2 fun h1 C=>?_) (dJ (g2 fun h1 C=>?_) (dF (g1 fun h=>⟨all_nil,rfl,?_⟩)))⟩
 . exact⟨(hA i (j9 h1)).1,hr i (j9 h1) hj C⟩
 . refine⟨(hA i (j9 h1)).2,i+1,by have:=j9 h1;show n-(i+1)<n-i;omega,⟨j9 h1,fun j hji=>?_⟩,.refl⟩;rcases bj j i with q|q
   . exact hj j q
   . obtain rfl:j=i:=by omega
     exact C
 . obtain rfl:i=n:=by have:=qZ h;omega
   exact he hj
end
def DJ(X:Nat)(ms live:List Nat)(s:St):Option (ah×St):=match Ts ms s with
 |some (fm,s1)=>match ld X live s1 with
  |some dy=>some (fm,dy)
  |none=>none
 |none=>none
theorem ew.DJ{P:Program}{X hc:Nat}{s dy:St}(ms live:List Nat){fm:ah}(e:DJ X ms live s=some (fm,dy))(hA:∀x∈fm,x):ew P X hc s dy:=by
 unfold YtmjggdmekboefaaGreat.DJ at e;split at e
 case h_2=>cases e
 rename_i A1 s1 h1;split at e
 case h_2=>cases e
 rename_i S1 C;simp only[aq,aB]at e;obtain⟨rfl,rfl⟩:=e;exact(ew.Bi ms h1 hA).trans (.norm C)
theorem Ab(l:eJ):l.ds.length=31:=rfl
theorem fE(l:List eJ):(fD l).length=l.length*31:=sk (f:=eJ.ds) Ab l
theorem YB{l:List eJ}{i:Nat}{x:eJ}(h:l[i]? =some x):V.dS (dO (fD l) (i*31) 31)= .dS x.ds:=by
 obtain⟨eY,rfl⟩:=aO.1 h;exact aI V.dS (su (f:=eJ.ds) Ab l i eY)
theorem iu{l:List eJ}{i:Nat}(h:i<l.length):V.dS (dO (fD l) (i*31) 31)= .dS (l.getD i gv).ds:=YB (by rw[ax,au h];rfl)
theorem gi{l:List Int}{i:Nat}(h:i<l.length):V.dS (dO (eG l) (i*1) 1)= .dS [.int .i64 (l.getD i 0)]:=q8 (by rw[ax,au h];rfl)
theorem Bj{x k:Int}:(x==k)=true↔x=k:=cm
section
variable(ls:List eJ)(k:Int)
def jK:Option Nat:=ls.findIdx? fun l=>l.id==k
def xl:Int:=match jK ls k with
 |some i=>Int.ofNat i
 |none=> -1
end
section
variable{ls:List eJ}{k:Int}
theorem C8{i:Nat}(h:i<ls.length)(h1:(ls.getD i gv).id==k)(C:∀j,j<i->((ls.getD j gv).id==k)=false):jK ls k=some i:=by
 unfold jK;rw[bZ];refine⟨h,?_,fun j hj=>?_⟩
 . rw[ax,au h]at h1;exact h1
 . have:=C j hj;rw[ax,au S]at this;simpa using this
theorem QC(C:∀j,j<ls.length->((ls.getD j gv).id==k)=false):jK ls k=none:=by
 unfold jK;rw[cV];intro x J;obtain⟨j,hj,rfl⟩:=ck J;have:=C j hj;rw[ax,au hj]at this;exact this
end
theorem YC(d:Dc)(k:Int)(hl:d.ly.length<=1000000):dV ak 24 [d.v,F k] (F (xl d.ly k)):=by
 refine fc Tryz.func24 (fH 1 (be _) (alh d k) all_nil ?_);refine We 0 d.ly.length [1,2,5] (sAx d k) (fun i=>(d.ly.getD i gv).id==k) (fun i=>(L i,hL [],0)) _ _ (be _) (ali d k) all_nil .refl (fun i _=>⟨_,be _,_,_,alj d k i (d.ly.getD i gv)⟩) (fun i hi=>?_) (fun i hi hj ht=>?_) (fun hj=>?_)
 . exact⟨A (iT hi) (A (fE _) (eM (iu hi))),A (iT hi) (A (fE _) (A (iu hi) (eM (gK S))))⟩
 . unfold xl;rw[C8 hi ht hj]
 . refine eR (be _) (alk d k _) (dF (g0 ⟨all_nil,_,_,_,rfl,?_⟩));unfold xl;rw[QC hj]
theorem adP(l:List Int)(k:Int)(hl:l.length<=1000000):dV ak 55 [fF l,F k] (.bool (l.contains k)):=by
 refine fc Tryz.func55 (fH 1 (be _) (alm l k) all_nil ?_);refine We 0 l.length [0,1,5] (sHs l k) (fun i=>l.getD i 0==k) (fun i=>(.bool true,hL [],0)) _ _ (be _) (aln l k) all_nil .refl (fun i _=>⟨_,be _,_,_,alo l k i (l.getD i 0)⟩) (fun i hi=>?_) (fun i hi hj ht=>?_) (fun hj=>?_)
 . exact⟨A (iT hi) (A (eK _) (eM (gi hi))),A (iT hi) (A (eK _) (A (gi hi) (eM (gK S))))⟩
 . refine aI V.bool (Eq.symm ?_);rw[cR];have:l.getD i 0=k:=Bj.1 ht;rw[<- this,ax,au hi];exact bJ hi
 . refine eR (be _) (alp l k _) (dF (g0 ⟨all_nil,_,_,_,rfl,aI V.bool (Eq.symm ?_)⟩));rw[<- Bool.not_eq_true,cR];intro K;obtain⟨j,Bh,rfl⟩:=ck K;have:=hj j Bh;rw[ax,au Bh]at this;simp at this
def gA(l:eJ):List Int:=if l.kd=4 then[l.of]else l.kids
theorem QD(l:eJ):dV ak 98 [l.v] (fF (gA l)):=by
 refine mJ Tryz.func98 (eR (be _) (alq l) (dJ (g1 fun h=>⟨all_nil,_,_,_,rfl,?_⟩) (dF (g1 fun h=>⟨all_nil,_,_,_,rfl,?_⟩))))
 . unfold gA;rw[aD (Bj.1 h)];exact .Bi (v0:=fF [l.of]) [0] (fm:=[[D.int .i64 l.of].length=1*1]) dD (eM rfl) dD dD
 . unfold gA;rw[aA (by simpa using h)];exact rE.self dD dD
noncomputable abbrev adQ:Code:=dL Tryz.f118
noncomputable abbrev YD:Code:=dA 1 adQ
section
variable(s:aa)(p:P7)(i:Nat)(a:Bool)(x c:Int)
def sNa:St:=fB [(0,.str s),(3,L i)] (hL []) 0
theorem alu:H (M ek []) [] 0 Tryz.f118 [0] (dU 1 adQ) (dB [.str s] .nil 0) [([],[],eu (fB [(0,.str s)] (hL []) 0))]:=G.W
theorem alv:H (M ek []) [] 0 Tryz.f118 [0,3] (dI (dI YD)) (fB [(0,.str s)] (hL []) 0) [([],[],eu (sNa s 0))]:=G.W
abbrev mC:Prop:=V.int IntKind.u8 (Int.ofNat (s.getD i (0:UInt8)).toNat)=V.int IntKind.u8 c
abbrev qq:Prop:=V.int B (IntKind.i64.wrap (Int.ofNat i+(1:Int)))=L (i+1)
theorem alw:H (M ek []) [(8,.split),(13,.dG (.int .u8 c)),(15,.split),(18,.split),(22,.split),(25,.split),(30,.split),(34,.split),(10,.dG (L (i+1)))] 0 Tryz.f118 [0,3] (dK (dK (dY (dI YD)))) (sNa s i) [([(decide (Int.ofNat i<(Int.ofNat s.length)),true),(decide (c<(97:Int)),true),(decide (c<(48:Int)),true),(c !=(45:Int),true),(c !=(95:Int),true)],[(0:Int)<=Int.ofNat i/\i<s.length,mC s i c],ja),([(decide (Int.ofNat i<(Int.ofNat s.length)),true),(decide (c<(97:Int)),true),(decide (c<(48:Int)),true),(c !=(45:Int),true),(c !=(95:Int),false)],[(0:Int)<=Int.ofNat i/\i<s.length,mC s i c,qq i],eu (fB [(0,.str s),(3,.int .i64 (Int.ofNat (i+1)))] (hL []) 0)),([(decide (Int.ofNat i<(Int.ofNat s.length)),true),(decide (c<(97:Int)),true),(decide (c<(48:Int)),true),(c !=(45:Int),false)],[(0:Int)<=Int.ofNat i/\i<s.length,mC s i c,qq i],eu (fB [(0,.str s),(3,.int .i64 (Int.ofNat (i+1)))] (hL []) 0)),([(decide (Int.ofNat i<(Int.ofNat s.length)),true),(decide (c<(97:Int)),true),(decide (c<(48:Int)),false),(decide (c>(57:Int)),true),(c !=(45:Int),true),(c !=(95:Int),true)],[(0:Int)<=Int.ofNat i/\i<s.length,mC s i c],ja),([(decide (Int.ofNat i<(Int.ofNat s.length)),true),(decide (c<(97:Int)),true),(decide (c<(48:Int)),false),(decide (c>(57:Int)),true),(c !=(45:Int),true),(c !=(95:Int),false)],[(0:Int)<=Int.ofNat i/\i<s.length,mC s i c,qq i],eu (fB [(0,.str s),(3,.int .i64 (Int.ofNat (i+1)))] (hL []) 0)),([(decide (Int.ofNat i<(Int.ofNat s.length)),true),(decide (c<(97:Int)),true),(decide (c<(48:Int)),false),(decide (c>(57:Int)),true),(c !=(45:Int),false)],[(0:Int)<=Int.ofNat i/\i<s.length,mC s i c,qq i],eu (fB [(0,.str s),(3,.int .i64 (Int.ofNat (i+1)))] (hL []) 0)),([(decide (Int.ofNat i<(Int.ofNat s.length)),true),(decide (c<(97:Int)),true),(decide (c<(48:Int)),false),(decide (c>(57:Int)),false)],[(0:Int)<=Int.ofNat i/\i<s.length,mC s i c,qq i],eu (fB [(0,.str s),(3,.int .i64 (Int.ofNat (i+1)))] (hL []) 0)),([(decide (Int.ofNat i<(Int.ofNat s.length)),true),(decide (c<(97:Int)),false),(decide (c>(122:Int)),true),(decide (c<(48:Int)),true),(c !=(45:Int),true),(c !=(95:Int),true)],[(0:Int)<=Int.ofNat i/\i<s.length,mC s i c],ja),([(decide (Int.ofNat i<(Int.ofNat s.length)),true),(decide (c<(97:Int)),false),(decide (c>(122:Int)),true),(decide (c<(48:Int)),true),(c !=(45:Int),true),(c !=(95:Int),false)],[(0:Int)<=Int.ofNat i/\i<s.length,mC s i c,qq i],eu (fB [(0,.str s),(3,.int .i64 (Int.ofNat (i+1)))] (hL []) 0)),([(decide (Int.ofNat i<(Int.ofNat s.length)),true),(decide (c<(97:Int)),false),(decide (c>(122:Int)),true),(decide (c<(48:Int)),true),(c !=(45:Int),false)],[(0:Int)<=Int.ofNat i/\i<s.length,mC s i c,qq i],eu (fB [(0,.str s),(3,.int .i64 (Int.ofNat (i+1)))] (hL []) 0)),([(decide (Int.ofNat i<(Int.ofNat s.length)),true),(decide (c<(97:Int)),false),(decide (c>(122:Int)),true),(decide (c<(48:Int)),false),(decide (c>(57:Int)),true),(c !=(45:Int),true),(c !=(95:Int),true)],[(0:Int)<=Int.ofNat i/\i<s.length,mC s i c],ja),([(decide (Int.ofNat i<(Int.ofNat s.length)),true),(decide (c<(97:Int)),false),(decide (c>(122:Int)),true),(decide (c<(48:Int)),false),(decide (c>(57:Int)),true),(c !=(45:Int),true),(c !=(95:Int),false)],[(0:Int)<=Int.ofNat i/\i<s.length,mC s i c,qq i],eu (fB [(0,.str s),(3,.int .i64 (Int.ofNat (i+1)))] (hL []) 0)),([(decide (Int.ofNat i<(Int.ofNat s.length)),true),(decide (c<(97:Int)),false),(decide (c>(122:Int)),true),(decide (c<(48:Int)),false),(decide (c>(57:Int)),true),(c !=(45:Int),false)],[(0:Int)<=Int.ofNat i/\i<s.length,mC s i c,qq i],eu (fB [(0,.str s),(3,.int .i64 (Int.ofNat (i+1)))] (hL []) 0)),([(decide (Int.ofNat i<(Int.ofNat s.length)),true),(decide (c<(97:Int)),false),(decide (c>(122:Int)),true),(decide (c<(48:Int)),false),(decide (c>(57:Int)),false)],[(0:Int)<=Int.ofNat i/\i<s.length,mC s i c,qq i],eu (fB [(0,.str s),(3,.int .i64 (Int.ofNat (i+1)))] (hL []) 0)),([(decide (Int.ofNat i<(Int.ofNat s.length)),true),(decide (c<(97:Int)),false),(decide (c>(122:Int)),false)],[(0:Int)<=Int.ofNat i/\i<s.length,mC s i c,qq i],eu (fB [(0,.str s),(3,.int .i64 (Int.ofNat (i+1)))] (hL []) 0)),([(decide (Int.ofNat i<(Int.ofNat s.length)),false)],[],.to (.exit 0) (fB [(0,.str s),(3,.int .i64 (Int.ofNat i))] (hL []) 0))]:=G.W
theorem alx:H (M ek []) [] 0 Tryz.f118 [] (dY YD) (sNa s i) [([],[],.ret (.bool (decide ((Int.ofNat s.length)<=(12:Int)))) (hL []) 0)]:=G.W
noncomputable abbrev adR:Code:=dL Tryz.f120
noncomputable abbrev YE:Code:=dA 1 adR
def sPh(l:List (Int×Int))(i:Nat):St:=fB [(0,vV l),(3,L i)] (hL []) 0
theorem aly(l:List (Int×Int)):H (M ek []) [] 0 Tryz.f120 [0] (dU 1 adR) (dB [vV l] .nil 0) [([],[],eu (fB [(0,.eE false (l.length) (mQ l))] (hL []) 0))]:=G.W
theorem alz(l:List (Int×Int)):H (M ek []) [] 0 Tryz.f120 [0,3] (dI (dI YE)) (fB [(0,vV l)] (hL []) 0) [([],[],eu (sPh l 0))]:=G.W
abbrev nv(l:List (Int×Int))(i:Nat)(x y:Int):Prop:=V.dS (dO (mQ l) (i*2) 2)=V.dS [D.int B x,D.int B y]
theorem alA(l:List (Int×Int))(i:Nat)(x y:Int):H (M ek []) [(7,.split),(12,.dG (.dS [.int .i64 x,.int .i64 y])),(19,.dG (.dS [.int .i64 x,.int .i64 y])),(27,.dG (.dS [.int .i64 x,.int .i64 y])),(35,.dG (.dS [.int .i64 x,.int .i64 y])),(15,.split),(22,.split),(30,.split),(38,.split),(9,.dG (L (i+1)))] 0 Tryz.f120 [0,3] (dK (dK (dY (dI YE)))) (sPh l i) [([(decide (Int.ofNat i<(Int.ofNat l.length)),true),(decide (x<(-65536:Int)),true)],[fR i l.length,(mQ l).length=l.length*2,nv l i x y],ja),([(decide (Int.ofNat i<(Int.ofNat l.length)),true),(decide (x<(-65536:Int)),false),(decide (x>(65536:Int)),true)],[fR i l.length,(mQ l).length=l.length*2,nv l i x y,fR i l.length,(mQ l).length=l.length*2,nv l i x y],ja),([(decide (Int.ofNat i<(Int.ofNat l.length)),true),(decide (x<(-65536:Int)),false),(decide (x>(65536:Int)),false),(decide (y<(-65536:Int)),true)],[fR i l.length,(mQ l).length=l.length*2,nv l i x y,fR i l.length,(mQ l).length=l.length*2,nv l i x y,fR i l.length,(mQ l).length=l.length*2,nv l i x y],ja),([(decide (Int.ofNat i<(Int.ofNat l.length)),true),(decide (x<(-65536:Int)),false),(decide (x>(65536:Int)),false),(decide (y<(-65536:Int)),false),(decide (y>(65536:Int)),true)],[fR i l.length,(mQ l).length=l.length*2,nv l i x y,fR i l.length,(mQ l).length=l.length*2,nv l i x y,fR i l.length,(mQ l).length=l.length*2,nv l i x y,fR i l.length,(mQ l).length=l.length*2,nv l i x y],ja),([(decide (Int.ofNat i<(Int.ofNat l.length)),true),(decide (x<(-65536:Int)),false),(decide (x>(65536:Int)),false),(decide (y<(-65536:Int)),false),(decide (y>(65536:Int)),false)],[fR i l.length,(mQ l).length=l.length*2,nv l i x y,fR i l.length,(mQ l).length=l.length*2,nv l i x y,fR i l.length,(mQ l).length=l.length*2,nv l i x y,fR i l.length,(mQ l).length=l.length*2,nv l i x y,oH i],eu (fB [(0,.eE false (l.length) (mQ l)),(3,.int .i64 (Int.ofNat (i+1)))] (hL []) 0)),([(decide (Int.ofNat i<(Int.ofNat l.length)),false)],[],.to (.exit 0) (fB [(0,.eE false (l.length) (mQ l)),(3,.int .i64 (Int.ofNat i))] (hL []) 0))]:=G.W
theorem alB(l:List (Int×Int))(i:Nat):H (M ek []) [(42,.split)] 0 Tryz.f120 [] (dY YE) (sPh l i) (fP (decide ((Int.ofNat l.length)>=(3:Int))) ([],.ret (.bool (decide ((Int.ofNat l.length)<=(64:Int)))) (hL []) 0) ([],ja)):=G.W
def w9(k:Int):Bool:=decide (-k<=x)&&decide (x<=k)
def KA:ag->Option (ah×V)
 | [.int .i64 x,.int .i64 k]=>some ([0<=k/\k<=1000000000],.bool (w9 x k))
 |_=>none
noncomputable abbrev Wv9:gJ:=kp 143 (gQ KA) ek
noncomputable abbrev QE:Code:=dL Tryz.f116
def Oq(r:List (Nat×V)):St:=fB ([(1,.ptr (some (0,0)))]++r) (hL [(0,.cells p.cs)]) 1
theorem alD:H (M Wv9 []) [(7,.split),(11,.split),(16,.split),(21,.split)] 0 Tryz.f116 [1,3] (dU 2 QE) (dB [.agg p.cs] .nil 0) (XQ (w9 p.a (4096:Int)) (w9 p.b (4096:Int)) (w9 p.d (4096:Int)) (w9 p.e (4096:Int)) ([(0:Int)<=(4096:Int)/\(4096:Int)<=(1000000000:Int),(0:Int)<=(4096:Int)/\(4096:Int)<=(1000000000:Int),(0:Int)<=(4096:Int)/\(4096:Int)<=(1000000000:Int),(0:Int)<=(4096:Int)/\(4096:Int)<=(1000000000:Int)],eu (Oq p [(3,.bool true)])) ([(0:Int)<=(4096:Int)/\(4096:Int)<=(1000000000:Int),(0:Int)<=(4096:Int)/\(4096:Int)<=(1000000000:Int),(0:Int)<=(4096:Int)/\(4096:Int)<=(1000000000:Int),(0:Int)<=(4096:Int)/\(4096:Int)<=(1000000000:Int)],eu (Oq p [(3,.bool false)])) ([(0:Int)<=(4096:Int)/\(4096:Int)<=(1000000000:Int),(0:Int)<=(4096:Int)/\(4096:Int)<=(1000000000:Int),(0:Int)<=(4096:Int)/\(4096:Int)<=(1000000000:Int)],eu (Oq p [(3,.bool false)])) ([(0:Int)<=(4096:Int)/\(4096:Int)<=(1000000000:Int),(0:Int)<=(4096:Int)/\(4096:Int)<=(1000000000:Int)],eu (Oq p [(3,.bool false)])) ([(0:Int)<=(4096:Int)/\(4096:Int)<=(1000000000:Int)],eu (Oq p [(3,.bool false)]))):=G.W
abbrev C9:Prop:=(0:Int)<=(268435456:Int)/\(268435456:Int)<=(1000000000:Int)
theorem alE:H (M Wv9 []) [(25,.split),(29,.split)] 0 Tryz.f116 [1,3,4] (dU 1 (dA 2 QE)) (Oq p [(3,.bool a)]) (si (w9 p.c (268435456:Int)) (w9 p.f (268435456:Int)) ([C9,C9],eu (Oq p [(3,.bool a),(4,.bool true)])) ([C9,C9],eu (Oq p [(3,.bool a),(4,.bool false)])) ([C9],eu (Oq p [(3,.bool a),(4,.bool false)]))):=G.W
theorem alF(b:Bool):H (M ek []) [(33,.split),(37,.split),(40,.split),(43,.split),(48,.split)] 0 Tryz.f116 [] (dA 3 QE) (Oq p [(3,.bool a),(4,.bool b)]) (TH (decide (p.n>=(1:Int))) (decide (p.n<=(4096:Int))) a b (IntKind.i64.wrap (IntKind.i64.wrap (p.a*p.e)-IntKind.i64.wrap (p.b*p.d)) !=(0:Int)) ([],By) ([],ja)):=G.W
noncomputable abbrev adS:Code:=dL Tryz.f137
noncomputable abbrev QF:Code:=dA 3 adS
def Wg(l:List Int)(i:Nat):St:=fB [(0,fF l),(4,L i)] (hL []) 0
theorem alG(l:List Int):H (M ek [(168,[(4,.split)])]) [(9,.split)] 0 Tryz.f137 [0] (dU 3 adS) (dB [fF l] .nil 0) [([(decide ((Int.ofNat l.length)>=(2:Int)),true),(!decide ((Int.ofNat l.length)<=(257:Int)),true)],[],ja),([(decide ((Int.ofNat l.length)>=(2:Int)),true),(!decide ((Int.ofNat l.length)<=(257:Int)),false)],[],eu (fB [(0,.eE false (l.length) (eG l))] (hL []) 0)),([(decide ((Int.ofNat l.length)>=(2:Int)),false),(!false,true)],[],ja),([(decide ((Int.ofNat l.length)>=(2:Int)),false),(!false,false)],[],eu (fB [(0,.eE false (l.length) (eG l))] (hL []) 0))]:=G.W
theorem alH(l:List Int):H (M ek []) [] 0 Tryz.f137 [0,4] (dI (dI QF)) (fB [(0,fF l)] (hL []) 0) [([],[],eu (Wg l 0))]:=G.W
theorem alI(l:List Int)(x:Int):H (M ek []) [(13,.split),(18,.dG (.dS [.int .i64 x])),(24,.dG (.dS [.int .i64 x])),(20,.split),(26,.split),(15,.dG (L 1))] 0 Tryz.f137 [0,4] (dK (dK (dY (dI QF)))) (Wg l 0) [([(decide ((0:Int)<(Int.ofNat l.length)),true),(decide (x<(0:Int)),true)],[(0:Int)<=(0:Int)/\(0:Int)<(Int.ofNat l.length),jC l,V.dS (dO (eG l) 0 1)=V.dS [D.int B x]],ja),([(decide ((0:Int)<(Int.ofNat l.length)),true),(decide (x<(0:Int)),false),(decide (x>(65535:Int)),true)],[(0:Int)<=(0:Int)/\(0:Int)<(Int.ofNat l.length),jC l,V.dS (dO (eG l) 0 1)=V.dS [D.int B x],(0:Int)<=(0:Int)/\(0:Int)<(Int.ofNat l.length),jC l,V.dS (dO (eG l) 0 1)=V.dS [D.int B x]],ja),([(decide ((0:Int)<(Int.ofNat l.length)),true),(decide (x<(0:Int)),false),(decide (x>(65535:Int)),false)],[(0:Int)<=(0:Int)/\(0:Int)<(Int.ofNat l.length),jC l,V.dS (dO (eG l) 0 1)=V.dS [D.int B x],(0:Int)<=(0:Int)/\(0:Int)<(Int.ofNat l.length),jC l,V.dS (dO (eG l) 0 1)=V.dS [D.int B x],V.int B (1:Int)=L 1],eu (fB [(0,.eE false (l.length) (eG l)),(4,.int .i64 1)] (hL []) 0)),([(decide ((0:Int)<(Int.ofNat l.length)),false)],[],.to (.exit 0) (fB [(0,.eE false (l.length) (eG l)),(4,.int .i64 0)] (hL []) 0))]:=G.W
abbrev QG:Prop:=V.int B (IntKind.i64.wrap (Int.ofNat (i+1)-(1:Int)))=L i
abbrev tF(l:List Int)(i:Nat):Prop:=(0:Int)<=Int.ofNat (i+1)/\Int.ofNat (i+1)<(Int.ofNat l.length)
abbrev tG(l:List Int)(i:Nat)(x:Int):Prop:=V.dS (dO (eG l) ((i+1)*1) 1)=V.dS [D.int B x]
end
theorem alJ(l:List Int)(i:Nat)(x y:Int):H (M ek []) [(13,.split),(18,.dG (.dS [.int .i64 x])),(24,.dG (.dS [.int .i64 x])),(34,.dG (.dS [.int .i64 x])),(38,.dG (L i)),(39,.dG (.dS [.int .i64 y])),(20,.split),(26,.split),(30,.dG (.bool true)),(41,.split),(15,.dG (L (i+2)))] 0 Tryz.f137 [0,4] (dK (dK (dY (dI QF)))) (Wg l (i+1)) [([(decide (Int.ofNat (i+1)<(Int.ofNat l.length)),true),(decide (x<(0:Int)),true)],[tF l i,jC l,tG l i x],ja),([(decide (Int.ofNat (i+1)<(Int.ofNat l.length)),true),(decide (x<(0:Int)),false),(decide (x>(65535:Int)),true)],[tF l i,jC l,tG l i x,tF l i,jC l,tG l i x],ja),([(decide (Int.ofNat (i+1)<(Int.ofNat l.length)),true),(decide (x<(0:Int)),false),(decide (x>(65535:Int)),false),(decide (x<y),true)],[tF l i,jC l,tG l i x,tF l i,jC l,tG l i x,kO (decide (Int.ofNat (i+1)>(0:Int))),tF l i,jC l,tG l i x,QG i,fR i l.length,jC l,gG (eG l) i 1 [D.int B y]],ja),([(decide (Int.ofNat (i+1)<(Int.ofNat l.length)),true),(decide (x<(0:Int)),false),(decide (x>(65535:Int)),false),(decide (x<y),false)],[tF l i,jC l,tG l i x,tF l i,jC l,tG l i x,kO (decide (Int.ofNat (i+1)>(0:Int))),tF l i,jC l,tG l i x,QG i,fR i l.length,jC l,gG (eG l) i 1 [D.int B y],V.int B (IntKind.i64.wrap (Int.ofNat (i+1)+(1:Int)))=L (i+2)],eu (fB [(0,.eE false (l.length) (eG l)),(4,.int .i64 (Int.ofNat (i+2)))] (hL []) 0)),([(decide (Int.ofNat (i+1)<(Int.ofNat l.length)),false)],[],.to (.exit 0) (fB [(0,.eE false (l.length) (eG l)),(4,.int .i64 (Int.ofNat (i+1)))] (hL []) 0))]:=G.W
theorem alK(l:List Int)(i:Nat):H (M ek []) [] 0 Tryz.f137 [] (dY QF) (Wg l i) [([],[],By)]:=G.W
section
variable{X hc:Nat}{c:Code}{s:St}{fn:Func}
def LpS(b n:Nat)(dy:Nat->St)(t:Nat->Bool)(v:V×I es×Nat)(i:Nat):jU->Prop
 | .to .normal s=>i<n/\t i=false/\s=dy (i+1)
 | .to (.exit j) s=>j=b/\n<=i/\s=dy i
 | .ret u h m=>i<n/\t i=true/\(u,h,m)=v
 |_=>False
theorem LV(b:Nat)(n:Nat){s':V->I es->Nat->Prop}(live:List Nat)(dy:Nat->St)(t:Nat->Bool)(v:V×I es×Nat){W0:gJ}(X0:fe ak W0)
  {h0h:List (Nat×List (Nat×mj))} {H0:List (Nat×mj)} {fm:ah} {s0:St} (V4:H (M W0 h0h) H0 X fn live (dI (dI c)) s [([],fm,.to .normal s0)]) (Wf:∀a∈fm,a) (h0:ew ak X hc s0 (dy 0))
  (Y:∀i,i<=n->∃(dP:gJ) (_:fe ak dP) (hh:_) (dz:_) (dx:_),H (M dP hh) dz X fn live (dK (dK (dY (dI c)))) (dy i) dx/\∀g∈dx,(∀b∈g.1,b.1=b.2)->(∀a∈g.2.1,a)/\LpS b n dy t v i g.2.2)
  (hr:∀i,i<n->(∀j,j<i->t j=false)->t i=true->s' v.1 v.2.1 v.2.2) (he:(∀j,j<n->t j=false)->TG ak X hc (dY c) (dy n) (fV ak X fn s'))
  (hs:((qf c&&qf (dI c))&&(eV hc (dI (dI c))&&(nq (dY (dI c)) b&&(oL (dK (dY (dI c)))&&eV hc (dK (dK (dY (dI c))))))))=true:=by kernel_rfl):TG ak X hc c s (fV ak X fn s'):=by
 refine nD X0 b s' live (n-·) (fun i=>i<=n/\∀j,j<i->t j=false) dy 0 ⟨aN _,fun _ h=>absurd h (bL _)⟩ V4 Wf h0 (fun i ⟨hi,hj⟩=>?_) hs;obtain⟨dP,n0,hh,dz,dx,gx,hG⟩:=Y i hi;refine⟨dP,n0,hh,dz,dx,gx,fun g hg N=>?_⟩;obtain⟨h1,C⟩:=hG g hg N;refine⟨h1,?_⟩;obtain⟨_,_,r⟩:=g;simp only at C ⊢;cases r with
 |to y s1=>
  cases y with
  |normal=>
   obtain⟨k1,k2,rfl⟩:=C;refine⟨i+1,by show n-(i+1)<n-i;omega,⟨k1,fun j hji=>?_⟩,.refl⟩;rcases bj j i with q|q
   . exact hj j q
   . obtain rfl:j=i:=by omega
     exact k2
  |exit j=>
   obtain⟨rfl,k2,rfl⟩:=C;obtain rfl:i=n:=by omega
   exact⟨rfl,he hj⟩
  |_=>exact C.elim
 |ret u h m=>
  obtain⟨k1,k2,k3⟩:=C;have:=hr i k1 hj k2;rw[<- k3]at this;exact this
 |bad=>exact C.elim
end
theorem KB{i n:Nat}:decide (Int.ofNat i<Int.ofNat n)=true↔i<n:=⟨j9,fun h=>aT (cB.2 h)⟩
theorem KC{i n:Nat}:decide (Int.ofNat i<Int.ofNat n)=false↔n<=i:=⟨qZ,fun h=>aV (by simp only[gB];omega)⟩
def Da(c:Int):Bool:=(((decide (c<97)||decide (c>122))&&(decide (c<48)||decide (c>57)))&&(c !=45))&&(c !=95)
def qK(s:aa):Bool:=!(s.any fun b=>Da (Int.ofNat b.toNat))&&decide (Int.ofNat s.length<=12)
theorem adT(s:aa)(hl:s.length<=1000000000):dV ak 118 [.str s] (.bool (qK s)):=by
 refine fc Tryz.func118 (fH 1 (be _) (alu s) all_nil ?_);refine LV 0 s.length [0,3] (sNa s) (fun i=>Da (Int.ofNat (s.getD i 0).toNat)) (.bool false,hL [],0) (be _) (alv s) all_nil .refl (fun i _=>⟨_,be _,_,_,_,alw s i (Int.ofNat (s.getD i 0).toNat),fun g hg N=>?_⟩) (fun i hi _ ht=>?_) (fun hj=>?_)
 . simp only[az,aF,bh]at hg;rcases hg with rfl|rfl|rfl|rfl|rfl|rfl|rfl|rfl|rfl|rfl|rfl|rfl|rfl|rfl|rfl|rfl
   all_goals
    simp only[az,aF,bh,aL,bg,KB,KC]at N;refine⟨?_,?_⟩
    . repeat' (first|exact all_nil|refine A ?_ ?_)
      all_goals first
       |trivial
       |exact⟨bO _,N.1⟩
       |exact gK S
    . first
      |exact⟨N.1,by simp only[Da,N,aP,cC,bR,bU,cW,cz,cI,aQ],rfl⟩
      |exact⟨rfl,N,rfl⟩
 . refine aI V.bool (Eq.symm ?_);unfold qK;have:(s.any fun b=>Da (Int.ofNat b.toNat))=true:=List.any_eq_true.2 ⟨s.getD i 0,by rw[ax,au hi];exact bJ hi,ht⟩;rw[this];rfl
 . refine eR (be _) (alx s _) (dF (g0 ⟨all_nil,_,_,_,rfl,aI V.bool (Eq.symm ?_)⟩));unfold qK;have:(s.any fun b=>Da (Int.ofNat b.toNat))=false:=by
    rw[dc];intro x J;obtain⟨j,Bh,rfl⟩:=ck J;have:=hj j Bh;rw[ax,au Bh]at this;simpa using this
   rw[this];rfl
theorem alL(f:FL):H (M ek []) [(11,.split),(17,.split),(24,.split),(31,.split),(40,.split),(49,.split)] 0 Tryz.f169 [2,3] (dU 2 (dL Tryz.f169)) (dB [f.v,tZ.v] .nil 0) (ajJ (f.k !=(0:Int)) (f.r !=(0:Int)) (f.dv !=(0:Int)) (f.vl !=(0:Int)) ((Int.ofNat f.eW.length) !=(0:Int)) ((Int.ofNat f.cu.length) !=(0:Int)) ([],ja) ([],eu (fB [(2,.ptr (some (0,0))),(3,.ptr (some (1,0)))] (hL [(0,.cells [.int .i64 (f.k),.int .i64 (f.r),.eE false (f.eW.length) (eG f.eW),.int .i64 (f.dv),.int .i64 (f.vl),.eE false (f.cu.length) (eG f.cu)]),(1,.cells [.int .i64 0,.int .i64 0,.eE false 0 [],.int .i64 0,.int .i64 0,.eE false 0 []])]) 2))):=G.W
theorem alM(f:FL):H (M ek []) [(11,.split),(17,.split),(24,.split),(31,.split)] 0 Tryz.f169 [] (dL Tryz.f169) (dB [{ f with eW:=[],cu:=[] }.v,tZ.v] .nil 0) (ac3 (f.k !=(0:Int)) (f.r !=(0:Int)) (f.dv !=(0:Int)) (f.vl !=(0:Int)) ([],ja) ([],By)):=G.W
theorem alN(f:FL)(b:Bool):H (M (fa 169 [f.v,tZ.v] (.bool b) ek) []) [] 0 Tryz.f146 [] (dL Tryz.f146) (dB [f.v,tZ.v] .nil 0) [([],[fu [f.v,tZ.v]],.ret (.bool b) (hL []) 0)]:=G.W
def fq(l:eJ)(k:Int):eJ:={ l with kd:=k }
def Ju(p:P7):Bool:=p.a==(0:Int)&&(p.b==(0:Int)&&(p.c==(0:Int)&&(p.d==(0:Int)&&(p.e==(0:Int)&&(p.f==(0:Int)&&(p.n==(0:Int)&&true))))))
def Ga(p:C4):Bool:=p.r==(0:Int)&&(p.g==(0:Int)&&(p.b==(0:Int)&&(p.a==(0:Int)&&true)))
abbrev nN(n:Nat):Bool:=(Int.ofNat n)==(0:Int)
abbrev Hun:List (Nat×mj):=[(17,.split),(26,.split),(32,.split),(44,.split),(54,.split),(66,.split),(76,.split)]
theorem alO(l:eJ)(b:Bool):H (M (fa 146 [l.f.v,tZ.v] (.bool b) ek) []) Hun 0 Tryz.f119 [] (dL Tryz.f119) (dB [(fq l 1).v] .nil 0) (XQ (nN l.kids.length) (l.of==(0:Int)) b (nN l.gu.length) ([fu [l.f.v,tZ.v]],.ret (.bool (Ga l.fi)) (hL []) 0) ([fu [l.f.v,tZ.v]],ja) ([fu [l.f.v,tZ.v]],ja) ([],ja) ([],ja)):=G.W
theorem alP(l:eJ)(b:Bool):H (M (fa 146 [l.f.v,tZ.v] (.bool b) ek) []) Hun 0 Tryz.f119 [] (dL Tryz.f119) (dB [(fq l 2).v] .nil 0) (XS (Ju l.pl) (l.sp==(0:Int)) (nN l.gp.length) (l.of==(0:Int)) b (nN l.gu.length) ([fu [l.f.v,tZ.v]],.ret (.bool (Ga l.fi)) (hL []) 0) ([fu [l.f.v,tZ.v]],ja) ([fu [l.f.v,tZ.v]],ja) ([],ja) ([],ja) ([],ja) ([],ja)):=G.W
theorem alQ(l:eJ)(b:Bool):H (M (fa 146 [l.f.v,tZ.v] (.bool b) ek) []) Hun 0 Tryz.f119 [] (dL Tryz.f119) (dB [(fq l 3).v] .nil 0) (ac2 (Ju l.pl) (l.sp==(0:Int)) (nN l.gp.length) (nN l.kids.length) (l.of==(0:Int)) true (nN l.gu.length) ([],.ret (.bool (Ga l.fi)) (hL []) 0) ([],ja)):=G.W
theorem alR(l:eJ)(b:Bool):H (M (fa 146 [l.f.v,tZ.v] (.bool b) ek) []) Hun 0 Tryz.f119 [] (dL Tryz.f119) (dB [(fq l 4).v] .nil 0) (XR (l.sp==(0:Int)) (nN l.gp.length) (nN l.kids.length) b (nN l.gu.length) ([fu [l.f.v,tZ.v]],.ret (.bool (Ga l.fi)) (hL []) 0) ([fu [l.f.v,tZ.v]],ja) ([fu [l.f.v,tZ.v]],ja) ([],ja) ([],ja) ([],ja)):=G.W
theorem alS(l:eJ)(b:Bool):H (M (fa 146 [l.f.v,tZ.v] (.bool b) ek) []) Hun 0 Tryz.f119 [] (dL Tryz.f119) (dB [(fq l 5).v] .nil 0) (XS (Ju l.pl) (l.sp==(0:Int)) (nN l.gp.length) (nN l.kids.length) (l.of==(0:Int)) b ([fu [l.f.v,tZ.v]],By) ([fu [l.f.v,tZ.v]],ja) ([],ja) ([],ja) ([],ja) ([],ja) ([],ja)):=G.W
theorem qu{l:List (Bool×Bool)}{q:Prop}(h:(∀b∈l,b.1=b.2)->q):(∀b∈l,b.1=b.2)->q:=h
theorem adV{x:Int}:(x !=0)=!(x==0):=rfl
section
variable(f:FL){n:Nat}
def tH:Bool:=(f.k==(0:Int))&&((f.r==(0:Int))&&((f.dv==(0:Int))&&((f.vl==(0:Int))&&(nN f.eW.length&&nN f.cu.length))))
theorem Gb:nN n=true↔n=0:=by
 unfold nN;rw[Bj,gB];omega
theorem alT:((Int.ofNat n) !=(0:Int))=!nN n:=rfl
theorem eqD:dV ak 169 [f.v,tZ.v] (.bool (tH f)):=by
 refine fc Tryz.func169 ?_;by_cases h:f.eW=[]/\f.cu=[]
 . have hr:=alM f;have e:({ f with eW:=[],cu:=[] }:FL)=f:=by
    obtain⟨a,b,c,d,e,g⟩:=f;obtain⟨h1,C⟩:=h;simp only at h1 C;subst h1 C;rfl
   rw[e]at hr;have h1:nN f.eW.length=true:=Gb.2 (by rw[h.1];rfl);have C:nN f.cu.length=true:=Gb.2 (by rw[h.2];rfl);refine eR (be _) hr fun g hg N=>?_;simp only[az,aF,bh]at hg;rcases hg with rfl|rfl|rfl|rfl|rfl
   all_goals
    simp only[az,aF,bh,aL,bg,adV,bV,di]at N;exact⟨all_nil,_,_,_,rfl,aI V.bool (by simp only[tH,N,h1,C,aP,aQ,cz])⟩
 . have hn:¬(nN f.eW.length=true/\nN f.cu.length=true):=fun q=>h ⟨de.1 (Gb.1 q.1),de.1 (Gb.1 q.2)⟩;refine isH 2 (be _) (alL f) fun g hg N=>?_;simp only[az,aF,bh]at hg;rcases hg with rfl|rfl|rfl|rfl|rfl|rfl|rfl
   all_goals
    simp only[az,aF,bh,aL,bg,adV,alT,bV,di]at N
   all_goals first
    |(refine absurd ?_ hn;simp only[nN,N,and_self];done)
    |exact⟨all_nil,aI V.bool (by simp only[tH,nN,N,aP,aQ,cI])⟩
theorem alU:dV ak 146 [f.v,tZ.v] (.bool (tH f)):=
 fc Tryz.func146 (eR (fk (eqD f) (be _)) (alN f (tH f)) (dF (g0 ⟨eM rfl,_,_,_,rfl,rfl⟩)))
end
def Gc(k:Int)(l:eJ):Bool:=((k==1||k==4)||Ju l.pl)&&((k==1||((l.sp==(0:Int))&&nN l.gp.length))&&((k==2||nN l.kids.length)&&((k==4||(l.of==(0:Int)))&&((k==3||tH l.f)&&(k==5||(nN l.gu.length&&Ga l.fi))))))
def G5(l:eJ):Bool:=Gc l.kd l
theorem unD(l:eJ)(h1:1<=l.kd)(h5:l.kd<=5):dV ak 119 [l.v] (.bool (G5 l)):=by
 have el:l=fq l l.kd:=rfl;have n0:=fk (alU l.f) (be _);have key:∀k,1<=k->k<=5->dV ak 119 [(fq l k).v] (.bool (Gc k l)):=by
  intro k k1 k5;rcases(by omega:k=1\/k=2\/k=3\/k=4\/k=5)with rfl|rfl|rfl|rfl|rfl
  . have e:Gc 1 l=(nN l.kids.length&&((l.of==(0:Int))&&(tH l.f&&(nN l.gu.length&&Ga l.fi)))):=rfl;rw[e];refine fc Tryz.func119 (eR n0 (alO l (tH l.f)) ?_)
    repeat' (first|exact gU|refine dJ ?_ ?_)
    all_goals
     intro N;simp only[az,aF,bh,aL,bg]at N;exact⟨by first|exact all_nil|exact eM rfl,_,_,_,rfl,aI V.bool (by simp only[N,aP,aQ,cI])⟩
  . have e:Gc 2 l=(Ju l.pl&&(((l.sp==(0:Int))&&nN l.gp.length)&&((l.of==(0:Int))&&(tH l.f&&(nN l.gu.length&&Ga l.fi))))):=rfl;rw[e];refine fc Tryz.func119 (eR n0 (alP l (tH l.f)) ?_)
    repeat' (first|exact gU|refine dJ ?_ ?_)
    all_goals
     intro N;simp only[az,aF,bh,aL,bg]at N;exact⟨by first|exact all_nil|exact eM rfl,_,_,_,rfl,aI V.bool (by simp only[N,aP,aQ,cI])⟩
  . have e:Gc 3 l=(Ju l.pl&&(((l.sp==(0:Int))&&nN l.gp.length)&&(nN l.kids.length&&((l.of==(0:Int))&&(nN l.gu.length&&Ga l.fi))))):=rfl;rw[e];refine fc Tryz.func119 (eR n0 (alQ l (tH l.f)) ?_)
    repeat' (first|exact gU|refine dJ ?_ ?_)
    all_goals
     intro N;simp only[az,aF,bh,aL,bg]at N;exact⟨by first|exact all_nil|exact eM rfl,_,_,_,rfl,aI V.bool (by simp only[N,aP,aQ,cI])⟩
  . have e:Gc 4 l=(((l.sp==(0:Int))&&nN l.gp.length)&&(nN l.kids.length&&(tH l.f&&(nN l.gu.length&&Ga l.fi)))):=rfl;rw[e];refine fc Tryz.func119 (eR n0 (alR l (tH l.f)) ?_)
    repeat' (first|exact gU|refine dJ ?_ ?_)
    all_goals
     intro N;simp only[az,aF,bh,aL,bg]at N;exact⟨by first|exact all_nil|exact eM rfl,_,_,_,rfl,aI V.bool (by simp only[N,aP,aQ,cI])⟩
  . have e:Gc 5 l=(Ju l.pl&&(((l.sp==(0:Int))&&nN l.gp.length)&&(nN l.kids.length&&((l.of==(0:Int))&&(tH l.f&&true))))):=rfl;rw[e];refine fc Tryz.func119 (eR n0 (alS l (tH l.f)) ?_)
    repeat' (first|exact gU|refine dJ ?_ ?_)
    all_goals
     intro N;simp only[az,aF,bh,aL,bg]at N;exact⟨by first|exact all_nil|exact eM rfl,_,_,_,rfl,aI V.bool (by simp only[N,aP,aQ,cI])⟩
 exact key l.kd h1 h5
theorem TX(f:FL):H (M ek []) [(16,.split),(20,.split),(28,.split),(37,.split),(45,.split)] 0 Tryz.f145 [] (dL Tryz.f145) (dB [f.v,.bool true,.bool false,.bool false,.bool true] .nil 0) (CW (f.vl==(0:Int)) (nN f.cu.length) ([],By) ([],ja)):=G.W
theorem TY(f:FL):H (M ek []) [(16,.split),(20,.split),(28,.split),(37,.split),(45,.split)] 0 Tryz.f145 [] (dL Tryz.f145) (dB [f.v,.bool false,.bool false,.bool false,.bool true] .nil 0) (D3 (nN f.eW.length) (f.dv==(0:Int)) (f.vl==(0:Int)) (nN f.cu.length) ([],By) ([],ja)):=G.W
theorem TZ(f:FL):H (M ek []) [(16,.split),(20,.split),(28,.split),(37,.split),(45,.split)] 0 Tryz.f145 [] (dL Tryz.f145) (dB [f.v,.bool false,.bool false,.bool true,.bool false] .nil 0) (D3 (nN f.eW.length) (f.dv==(0:Int)) (f.vl==(0:Int)) (f.r==(0:Int)) ([],By) ([],ja)):=G.W
section
variable(f:FL)(b:Bool)(i:Nat)(x:Int)(p:Bool)
theorem T0:H (M ek []) [(16,.split),(20,.split),(28,.split),(37,.split),(45,.split)] 0 Tryz.f145 [] (dL Tryz.f145) (dB [f.v,.bool false,.bool false,.bool false,.bool false] .nil 0) (TH (nN f.eW.length) (f.dv==(0:Int)) (f.vl==(0:Int)) (nN f.cu.length) (f.r==(0:Int)) ([],By) ([],ja)):=G.W
theorem T1:H (M ek []) [(16,.split),(20,.split),(28,.split),(37,.split),(45,.split)] 0 Tryz.f145 [] (dL Tryz.f145) (dB [f.v,.bool false,.bool true,.bool false,.bool false] .nil 0) (D3 (nN f.eW.length) (f.dv==(0:Int)) (nN f.cu.length) (f.r==(0:Int)) ([],By) ([],ja)):=G.W
theorem T2:H (M ek []) [(16,.split),(20,.split),(28,.split),(37,.split),(45,.split)] 0 Tryz.f145 [] (dL Tryz.f145) (dB [f.v,.bool false,.bool true,.bool false,.bool true] .nil 0) (P0 (nN f.eW.length) (f.dv==(0:Int)) (nN f.cu.length) ([],By) ([],ja)):=G.W
noncomputable abbrev Bk:Code:=dL Tryz.f117
noncomputable abbrev YF:Code:=dY (dI (dA 2 Bk))
noncomputable abbrev YG:Code:=lF (dY (dK YF))
noncomputable abbrev YH:Code:=dY YG
def lZ(k:Int):FL:={ f with k:=k }
def AQ(r:List (Nat×V)):St:=fB ([(1,.ptr (some (0,0)))]++r) (hL [(0,.cells f.cs)]) 1
theorem alV:H (M ek []) [(7,.split)] 0 Tryz.f117 [1,3] (dU 2 Bk) (dB [f.v] .nil 0) (fP (decide (f.r>=(0:Int))) ([],eu (AQ f [(3,.bool (decide (f.r<=(3:Int))))])) ([],eu (AQ f [(3,.bool false)]))):=G.W
theorem alW:H (M ek []) [] 0 Tryz.f117 [1,3,14] (dI (dI (dA 2 Bk))) (AQ (lZ f 1) [(3,.bool b)]) [([],[],eu (AQ (lZ f 1) [(3,.bool b),(14,F 1)]))]:=G.W
theorem alX:H (M ek []) [] 0 Tryz.f117 [1,3,15] (dI (dK YF)) (AQ (lZ f 1) [(3,.bool b),(14,F 1)]) [([],[],eu (AQ (lZ f 1) [(3,.bool b),(15,.bool true)]))]:=G.W
abbrev QH:Prop:=V.int B (IntKind.i64.wrap (IntKind.i64.wrap (IntKind.i64.wrap ((2:Int)*f.r)+(1:Int))*IntKind.i64.wrap (IntKind.i64.wrap ((2:Int)*f.r)+(1:Int))))=F (((2:Int)*f.r+(1:Int))*((2:Int)*f.r+(1:Int)))
theorem alY:H (M ek []) [(31,.dG (F ((2*f.r+1)*(2*f.r+1)))),(32,.split),(37,.split),(42,.split)] 0 Tryz.f117 [1] (dI YG) (AQ (lZ f 1) [(3,.bool true),(15,.bool true)]) (ajI ((Int.ofNat f.eW.length) !=((2:Int)*f.r+(1:Int))*((2:Int)*f.r+(1:Int))) (decide (f.dv<(1:Int))) (decide (f.dv>(1048576:Int))) ([QH f],ja) ([QH f],eu (AQ (lZ f 1) []))):=G.W
theorem alZ:H (M ek []) [] 0 Tryz.f117 [] (dI YG) (AQ (lZ f 1) [(3,.bool false),(15,.bool true)]) [([],[],ja)]:=G.W
theorem al0:H (M ek []) [] 0 Tryz.f117 [1,4] (dI (dI YH)) (AQ (lZ f 1) []) [([],[],eu (AQ (lZ f 1) [(4,L 0)]))]:=G.W
abbrev Db:Prop:=V.dS (dO (eG f.eW) (i*1) 1)=V.dS [D.int B x]
theorem al1:H (M ek []) [(48,.split),(54,.dG (.dS [.int .i64 x])),(61,.dG (.dS [.int .i64 x])),(56,.split),(63,.split),(50,.dG (L (i+1)))] 0 Tryz.f117 [1,4] (dK (dK (dY (dI YH)))) (AQ (lZ f 1) [(4,L i)]) [([(decide (Int.ofNat i<(Int.ofNat f.eW.length)),true),(decide (x<(-4096:Int)),true)],[fR i f.eW.length,jC f.eW,Db f i x],ja),([(decide (Int.ofNat i<(Int.ofNat f.eW.length)),true),(decide (x<(-4096:Int)),false),(decide (x>(4096:Int)),true)],[fR i f.eW.length,jC f.eW,Db f i x,fR i f.eW.length,jC f.eW,Db f i x],ja),([(decide (Int.ofNat i<(Int.ofNat f.eW.length)),true),(decide (x<(-4096:Int)),false),(decide (x>(4096:Int)),false)],[fR i f.eW.length,jC f.eW,Db f i x,fR i f.eW.length,jC f.eW,Db f i x,oH i],eu (AQ (lZ f 1) [(4,L (i+1))])),([(decide (Int.ofNat i<(Int.ofNat f.eW.length)),false)],[],.to (.exit 1) (AQ (lZ f 1) [(4,L i)]))]:=G.W
theorem al2:H (M (fa 145 [(lZ f 1).v,.bool true,.bool false,.bool false,.bool true] (.bool p) ek) []) [] 0 Tryz.f117 [] (dY YH) (AQ (lZ f 1) [(4,L i)]) [([],[fu [(lZ f 1).v,.bool true,.bool false,.bool false,.bool true]],.ret (.bool p) (hL []) 0)]:=G.W
theorem adW:H (M (fa 145 [(lZ f 2).v,.bool false,.bool false,.bool false,.bool true] (.bool p) ek) []) [(72,.split)] 0 Tryz.f117 [] (dA 2 Bk) (AQ (lZ f 2) [(3,.bool b)]) (fP b ([fu [(lZ f 2).v,.bool false,.bool false,.bool false,.bool true]],.ret (.bool p) (hL []) 0) ([],ja)):=G.W
theorem adX:H (M (fa 145 [(lZ f 3).v,.bool false,.bool false,.bool false,.bool true] (.bool p) ek) []) [(72,.split)] 0 Tryz.f117 [] (dA 2 Bk) (AQ (lZ f 3) [(3,.bool b)]) (fP b ([fu [(lZ f 3).v,.bool false,.bool false,.bool false,.bool true]],.ret (.bool p) (hL []) 0) ([],ja)):=G.W
theorem adY:H (M (fa 145 [(lZ f 4).v,.bool false,.bool false,.bool false,.bool true] (.bool p) ek) []) [(72,.split)] 0 Tryz.f117 [] (dA 2 Bk) (AQ (lZ f 4) [(3,.bool b)]) (fP b ([fu [(lZ f 4).v,.bool false,.bool false,.bool false,.bool true]],.ret (.bool p) (hL []) 0) ([],ja)):=G.W
theorem adZ(c p:Bool):H (M (fa 145 [(lZ f 5).v,.bool false,.bool false,.bool true,.bool false] (.bool p) (fa 137 [fF f.cu] (.bool c) ek)) []) [(81,.split)] 0 Tryz.f117 [] (dA 2 Bk) (AQ (lZ f 5) [(3,.bool b)]) (fP c ([fu [fF f.cu],fu [(lZ f 5).v,.bool false,.bool false,.bool true,.bool false]],.ret (.bool p) (hL []) 0) ([fu [fF f.cu]],ja)):=G.W
theorem ad0:H (M (fa 145 [(lZ f 6).v,.bool false,.bool false,.bool false,.bool false] (.bool p) ek) []) [] 0 Tryz.f117 [] (dA 2 Bk) (AQ (lZ f 6) [(3,.bool b)]) [([],[fu [(lZ f 6).v,.bool false,.bool false,.bool false,.bool false]],.ret (.bool p) (hL []) 0)]:=G.W
theorem ad1:H (M (fa 145 [(lZ f 7).v,.bool false,.bool true,.bool false,.bool false] (.bool p) ek) []) [(93,.split),(97,.split)] 0 Tryz.f117 [] (dA 2 Bk) (AQ (lZ f 7) [(3,.bool b)]) (CW (decide (f.vl>=(0:Int))) (decide (f.vl<=(256:Int))) ([fu [(lZ f 7).v,.bool false,.bool true,.bool false,.bool false]],.ret (.bool p) (hL []) 0) ([],ja)):=G.W
theorem ad2:H (M (fa 145 [(lZ f 8).v,.bool false,.bool true,.bool false,.bool true] (.bool p) ek) []) [(107,.split),(111,.split),(116,.split),(121,.split)] 0 Tryz.f117 [] (dA 2 Bk) (AQ (lZ f 8) [(3,.bool b)]) (D3 (decide (f.r>=(-3:Int))) (decide (f.r<=(3:Int))) (decide (f.vl>=(-3:Int))) (decide (f.vl<=(3:Int))) ([fu [(lZ f 8).v,.bool false,.bool true,.bool false,.bool true]],.ret (.bool p) (hL []) 0) ([],ja)):=G.W
theorem ad3:H (M ek []) [(16,.dG (.bool false)),(68,.dG (.bool false)),(69,.dG (.bool false)),(70,.dG (.bool false)),(77,.dG (.bool false)),(86,.dG (.bool false)),(90,.dG (.bool false)),(104,.dG (.bool false))] 0 Tryz.f117 [] (dA 2 Bk) (AQ f [(3,.bool b)]) [([],[lu (f.k==(1:Int)),lu (f.k==(2:Int)),lu (f.k==(3:Int)),lu (f.k==(4:Int)),lu (f.k==(5:Int)),lu (f.k==(6:Int)),lu (f.k==(7:Int)),lu (f.k==(8:Int))],ja)]:=G.W
end
set_option maxRecDepth 10000
section
variable(p:P7)(c:List Int){α:Type}{n i:Nat}
theorem EV{l:List α}{d:α}{f:α->Bool}{i:Nat}(hi:i<l.length)(h:f (l.getD i d)=true):l.any f=true:=
 List.any_eq_true.2 ⟨l.getD i d,by rw[ax,au hi];exact bJ hi,h⟩
theorem IL{l:List α}{d:α}{f:α->Bool}(h:∀j,j<l.length->f (l.getD j d)=false):l.any f=false:=by
 rw[dc];intro x J;obtain⟨j,Bh,rfl⟩:=ck J;have:=h j Bh;rw[ax,au Bh]at this;simpa using this
theorem Gd{l:List (Int×Int)}{i:Nat}(h:i<l.length):V.dS (dO (mQ l) (i*2) 2)= .dS [.int .i64 (l.getD i (0,0)).1,.int .i64 (l.getD i (0,0)).2]:=Kz (by rw[ax,au h];rfl)
def KD(p:Int×Int):Bool:=((decide (p.1< -65536)||decide (p.1>65536))||decide (p.2< -65536))||decide (p.2>65536)
def jP(l:List (Int×Int)):Bool:=!(l.any KD)&&(decide (Int.ofNat l.length>=3)&&decide (Int.ofNat l.length<=64))
theorem ad4(l:List (Int×Int))(hl:l.length<=1000000000):dV ak 120 [vV l] (.bool (jP l)):=by
 refine fc Tryz.func120 (fH 1 (be _) (aly l) all_nil ?_);refine LV 0 l.length [0,3] (sPh l) (fun i=>KD (l.getD i (0,0))) (.bool false,hL [],0) (be _) (alz l) all_nil .refl (fun i _=>⟨_,be _,_,_,_,alA l i (l.getD i (0,0)).1 (l.getD i (0,0)).2,?_⟩) (fun i hi _ ht=>?_) (fun hj=>?_)
 . have hp:=pn l;have hg:=fun h=>Gd (l:=l) (i:=i) h
   repeat' (first|exact gU|refine dJ ?_ ?_)
   all_goals
    intro N;simp only[az,aF,bh,aL,bg,KB,KC]at N;refine⟨?_,?_⟩
    . repeat' (first|exact all_nil|refine A ?_ ?_)
      all_goals first
       |exact iT N.1
       |exact hp
       |exact hg N.1
       |exact gK S
    . first
      |exact⟨N.1,by simp only[KD,N,cC,bR,bU,cW],rfl⟩
      |exact⟨rfl,N,rfl⟩
 . refine aI V.bool (Eq.symm ?_);unfold jP;rw[EV hi ht];rfl
 . have e:jP l=(decide (Int.ofNat l.length>=3)&&decide (Int.ofNat l.length<=64)):=by unfold jP;rw[IL hj];rfl
   rw[e];exact eR (be _) (alB l _) (dJ (g1 fun h=>⟨all_nil,_,_,_,rfl,by rw[h];rfl⟩) (dF (g1 fun h=>⟨all_nil,_,_,_,rfl,by rw[h];rfl⟩)))
theorem YI:kj ak 143 (gQ KA):=by
 refine nt Tryz.func143 fun args fm v e=>?_;unfold KA at e;split at e
 case h_2=>cases e
 rename_i x k;obtain⟨rfl,rfl⟩:=sm e;refine⟨rfl,rfl,rfl,fun hA=>?_⟩;have U:0<=k/\k<=1000000000:=hA _ (by simp);have e1:IntKind.i64.wrap ((0:Int)-k)= -k:=by rw[ij S S];omega
 refine eR (be _) (alr x k) (dJ (g1 fun h=>⟨all_nil,_,_,_,rfl,?_⟩) (dF (g1 fun h=>⟨all_nil,_,_,_,rfl,?_⟩)))
 . rw[e1]at h;unfold w9;rw[show decide (-k<=x)=true from h];rfl
 . rw[e1]at h;unfold w9;rw[show decide (-k<=x)=false from h];rfl
theorem QI:fe ak Wv9:=fN YI (be _)
def Nx:Int:=IntKind.i64.wrap (IntKind.i64.wrap (p.a*p.e)-IntKind.i64.wrap (p.b*p.d))
def SG:Bool:=w9 p.a 4096&&(w9 p.b 4096&&(w9 p.d 4096&&w9 p.e 4096))
def Wh:Bool:=w9 p.c 268435456&&w9 p.f 268435456
def AR:Bool:=decide (p.n>=1)&&(decide (p.n<=4096)&&(SG p&&(Wh p&&(Nx p !=0))))
theorem v9D:dV ak 116 [.agg p.cs] (.bool (AR p)):=by
 have A1:∀{l:ah},(∀a∈l,a)->∀a∈((0:Int)<=(4096:Int)/\(4096:Int)<=(1000000000:Int))::l,a:=fun h=>A eX h;have A2:∀{l:ah},(∀a∈l,a)->∀a∈((0:Int)<=(268435456:Int)/\(268435456:Int)<=(1000000000:Int))::l,a:=fun h=>A eX h;have k3:TG ak 0 Tryz.f116.ntmps (dA 3 QE) (Oq p [(3,.bool (SG p)),(4,.bool (Wh p))]) (fV ak 0 Tryz.f116 fun u _ _=>u= .bool (AR p)):=by
  refine eR (be _) (alF p (SG p) (Wh p)) ?_
  repeat' (first|exact gU|refine dJ ?_ ?_)
  all_goals
   intro N;simp only[az,aF,bh,aL,bg]at N;exact⟨all_nil,_,_,_,rfl,aI V.bool (by simp only[AR,Nx,N,aP,aQ])⟩
 have k2:TG ak 0 Tryz.f116.ntmps (dA 2 QE) (Oq p [(3,.bool (SG p))]) (fV ak 0 Tryz.f116 fun u _ _=>u= .bool (AR p)):=by
  refine uh 1 QI (alE p (SG p)) ?_
  repeat' (first|exact gU|refine dJ ?_ ?_)
  all_goals
   intro N;simp only[az,aF,bh,aL,bg]at N;refine⟨by repeat' (first|exact all_nil|refine A2 ?_),_,rfl,?_⟩
   first
   |(rw[show Wh p=true by simp only[Wh,N,aP]]at k3;exact k3)
   |(rw[show Wh p=false by simp only[Wh,N,aP,aQ]]at k3;exact k3)
 refine fc Tryz.func116 (uh 2 QI (alD p) ?_)
 repeat' (first|exact gU|refine dJ ?_ ?_)
 all_goals
  intro N;simp only[az,aF,bh,aL,bg]at N;refine⟨by repeat' (first|exact all_nil|refine A1 ?_),_,rfl,?_⟩
  first
  |(rw[show SG p=true by simp only[SG,N,aP]]at k2;exact k2)
  |(rw[show SG p=false by simp only[SG,N,aP,aQ]]at k2;exact k2)
def Ny(i:Nat):Bool:=(decide (c.getD i 0<0)||decide (c.getD i 0>65535))||(match i with|0=>false|j+1=>decide (c.getD (j+1) 0<c.getD j 0))
def jV:Bool:=(decide (Int.ofNat c.length>=2)&&decide (Int.ofNat c.length<=257))&& !((List.range c.length).any (Ny c))
theorem qL{f:Nat->Bool}(hi:i<n)(h:f i=true):(List.range n).any f=true:=List.any_eq_true.2 ⟨i,bN.2 hi,h⟩
theorem qM{f:Nat->Bool}(h:∀j,j<n->f j=false):(List.range n).any f=false:=by
 rw[dc];intro x J;rw[h x (bN.1 J)];simp
theorem c5D(hl:c.length<=1000000000):dV ak 137 [fF c] (.bool (jV c)):=by
 refine fc Tryz.func137 ?_;have hp:=eK c;have vO:(decide (Int.ofNat c.length>=2)&&decide (Int.ofNat c.length<=257))=true->TG ak 0 Tryz.f137.ntmps QF (fB [(0,fF c)] (hL []) 0) (fV ak 0 Tryz.f137 fun u _ _=>u= .bool (jV c)):=fun hn=>by
  refine LV 0 c.length [0,4] (Wg c) (Ny c) (.bool false,hL [],0) (be _) (alH c) all_nil .refl (fun i hi=>?_) (fun i hi _ ht=>?_) (fun hj=>?_)
  . cases i with
    |zero=>
     refine⟨_,be _,_,_,_,alI c (c.getD 0 0),?_⟩;have hg:=fun h=>gi (l:=c) (i:=0) h
     repeat' (first|exact gU|refine dJ ?_ ?_)
     all_goals
      intro N;simp only[az,aF,bh,aL,bg]at N;refine⟨?_,?_⟩
      . repeat' (first|exact all_nil|refine A ?_ ?_)
        all_goals first
         |exact⟨Int.le_refl _,aX N.1⟩
         |exact hp
         |exact hg (cB.1 (aX N.1))
         |rfl
      . first
        |exact⟨cB.1 (aX N.1),by simp only[Ny,N,cC,bR,bU,cW],rfl⟩
        |exact⟨rfl,by have:=bq N;simp only[gB]at this;omega,rfl⟩
    |succ j=>
     refine⟨_,be _,_,_,_,alJ c j (c.getD (j+1) 0) (c.getD j 0),?_⟩;have hg:=fun h=>gi (l:=c) (i:=j+1) h;have hg2:=fun h=>gi (l:=c) (i:=j) h
     repeat' (first|exact gU|refine dJ ?_ ?_)
     all_goals
      intro N;simp only[az,aF,bh,aL,bg,KB,KC]at N;refine⟨?_,?_⟩
      . repeat' (first|exact all_nil|refine A ?_ ?_)
        all_goals first
         |exact iT N.1
         |exact hp
         |exact hg N.1
         |exact hg2 S
         |exact iT (i:=j) S
         |exact aI V.bool (aT (by simp only[gB];omega))
         |exact xe (by simp only[gB];omega) S
      . first
        |exact⟨N.1,by simp only[Ny,N,cC,bR,bU,cW],rfl⟩
        |exact⟨rfl,N,rfl⟩
  . refine aI V.bool (Eq.symm ?_);unfold jV;rw[qL hi ht];simp
  . refine eR (be _) (alK c _) (dF (g0 ⟨all_nil,_,_,_,rfl,aI V.bool (Eq.symm ?_)⟩));unfold jV;rw[qM hj,hn];rfl
 refine isH 3 (be _) (alG c) ?_
 repeat' (first|exact gU|refine dJ ?_ ?_)
 all_goals
  intro N;simp only[az,aF,bh,aL,bg]at N;refine⟨all_nil,?_⟩
  first
  |exact absurd N.2 eX
  |exact vO (by simp only[di]at N;rw[N.1,N.2];rfl)
  |exact aI V.bool (Eq.symm (by simp only[bV]at N;simp only[jV,N,aQ,cI]))
end
set_option maxRecDepth 10000
section
variable{X hc:Nat}{c:Code}{s:St}{Q:Exit->St->Prop}{dP:gJ}{hh:List (Nat×List (Nat×mj))}{dz:List (Nat×mj)}{fn:Func}{live:List Nat}{dx:List (List (Bool×Bool)×ah×jU)}
def SqQ(P:Program)(X hc:Nat)(fn:Func)(live:List Nat)(s':V->I es->Nat->Prop)(b:Code)(Q:Exit->St->Prop):jU->Prop
 | .to .normal s1=>TG P X hc b s1 Q
 | .to y s1=>∀R,ld X live R=some s1->Q y R
 | .ret v h n=>s' v h n/\∀R,fV P X fn s' .ret R->Q .ret R
 | .bad=>False
theorem qv(n0:fe ak dP)(s':V->I es->Nat->Prop)(hr:H (M dP hh) dz X fn live (dI c) s dx)(h:∀g∈dx,(∀b∈g.1,b.1=b.2)->(∀a∈g.2.1,a)/\SqQ ak X hc fn live s' (dY c) Q g.2.2)(hs:(qf c&&eV hc (dI c))=true:=by kernel_rfl):TG ak X hc c s Q:=by
 rw[ay]at hs;refine dM hs.1 (gk n0 s' hr (fun g hg N=>?_) hs.2);obtain⟨h1,C⟩:=h g hg N;refine⟨h1,?_⟩;obtain⟨_,_,r⟩:=g;cases r with
 |to y s1=>
  cases y with
  |normal=>exact fun R dX=>fQ dX C
  |_=>exact C
 |ret v h n=>exact C
 |bad=>exact C.elim
end
section
variable(f:FL)(b:Bool)
def pH(a b c d:Bool):Bool:=(a||(nN f.eW.length&&(f.dv==(0:Int))))&&((b||(f.vl==(0:Int)))&&((c||nN f.cu.length)&&(d||(f.r==(0:Int)))))
theorem pn1:dV ak 145 [f.v,.bool true,.bool false,.bool false,.bool true] (.bool (pH f true false false true)):=by
 have e:pH f true false false true=((f.vl==(0:Int))&&(nN f.cu.length&&true)):=rfl;rw[e];refine fc Tryz.func145 (eR (be _) (TX f) ?_)
 repeat' (first|exact gU|refine dJ ?_ ?_)
 all_goals
  intro N;simp only[az,aF,bh,aL,bg]at N;exact⟨all_nil,_,_,_,rfl,aI V.bool (by simp only[N,aP,aQ,cz])⟩
theorem pn2:dV ak 145 [f.v,.bool false,.bool false,.bool false,.bool true] (.bool (pH f false false false true)):=by
 have e:pH f false false false true=((nN f.eW.length&&(f.dv==(0:Int)))&&((f.vl==(0:Int))&&(nN f.cu.length&&true))):=rfl;rw[e];refine fc Tryz.func145 (eR (be _) (TY f) ?_)
 repeat' (first|exact gU|refine dJ ?_ ?_)
 all_goals
  intro N;simp only[az,aF,bh,aL,bg]at N;exact⟨all_nil,_,_,_,rfl,aI V.bool (by simp only[N,aP,aQ,cz])⟩
theorem pn3:dV ak 145 [f.v,.bool false,.bool false,.bool true,.bool false] (.bool (pH f false false true false)):=by
 have e:pH f false false true false=((nN f.eW.length&&(f.dv==(0:Int)))&&((f.vl==(0:Int))&&(f.r==(0:Int)))):=rfl;rw[e];refine fc Tryz.func145 (eR (be _) (TZ f) ?_)
 repeat' (first|exact gU|refine dJ ?_ ?_)
 all_goals
  intro N;simp only[az,aF,bh,aL,bg]at N;exact⟨all_nil,_,_,_,rfl,aI V.bool (by simp only[N,aP,aQ,cz])⟩
theorem pn4:dV ak 145 [f.v,.bool false,.bool false,.bool false,.bool false] (.bool (pH f false false false false)):=by
 have e:pH f false false false false=((nN f.eW.length&&(f.dv==(0:Int)))&&((f.vl==(0:Int))&&(nN f.cu.length&&(f.r==(0:Int))))):=rfl;rw[e];refine fc Tryz.func145 (eR (be _) (T0 f) ?_)
 repeat' (first|exact gU|refine dJ ?_ ?_)
 all_goals
  intro N;simp only[az,aF,bh,aL,bg]at N;exact⟨all_nil,_,_,_,rfl,aI V.bool (by simp only[N,aP,aQ,cz])⟩
theorem pn5:dV ak 145 [f.v,.bool false,.bool true,.bool false,.bool false] (.bool (pH f false true false false)):=by
 have e:pH f false true false false=((nN f.eW.length&&(f.dv==(0:Int)))&&(nN f.cu.length&&(f.r==(0:Int)))):=rfl;rw[e];refine fc Tryz.func145 (eR (be _) (T1 f) ?_)
 repeat' (first|exact gU|refine dJ ?_ ?_)
 all_goals
  intro N;simp only[az,aF,bh,aL,bg]at N;exact⟨all_nil,_,_,_,rfl,aI V.bool (by simp only[N,aP,aQ,cz])⟩
theorem pn6:dV ak 145 [f.v,.bool false,.bool true,.bool false,.bool true] (.bool (pH f false true false true)):=by
 have e:pH f false true false true=((nN f.eW.length&&(f.dv==(0:Int)))&&(nN f.cu.length&&true)):=rfl;rw[e];refine fc Tryz.func145 (eR (be _) (T2 f) ?_)
 repeat' (first|exact gU|refine dJ ?_ ?_)
 all_goals
  intro N;simp only[az,aF,bh,aL,bg]at N;exact⟨all_nil,_,_,_,rfl,aI V.bool (by simp only[N,aP,aQ,cz])⟩
def yB:Bool:=decide (f.r>=0)&&decide (f.r<=3)
def Dd(x:Int):Bool:=decide (x< -4096)||decide (x>4096)
def Jv:Bool:=yB f&&(!((Int.ofNat f.eW.length) !=(2*f.r+1)*(2*f.r+1))&&(!decide (f.dv<1)&&(!decide (f.dv>1048576)&&(!f.eW.any Dd&&pH f true false false true))))
def iM:Bool:=if f.k=1 then Jv f else if f.k=2\/f.k=3\/f.k=4 then yB f&&pH f false false false true else if f.k=5 then jV f.cu&&pH f false false true false
 else if f.k=6 then pH f false false false false else if f.k=7 then(decide (f.vl>=0)&&decide (f.vl<=256))&&pH f false true false false
 else if f.k=8 then(decide (f.r>= -3)&&(decide (f.r<=3)&&(decide (f.vl>= -3)&&decide (f.vl<=3))))&&pH f false true false true else false
theorem ad5(U:f.eW.length<=1000000000)(h1:f=lZ f 1)(b:Bool)(Y:b=yB f){Q:Exit->St->Prop}(hQ:∀R,fV ak 0 Tryz.f117 (fun u _ _=>u= .bool (Jv f)) .ret R->Q .ret R):TG ak 0 Tryz.f117.ntmps (dK YF) (AQ f [(3,.bool b),(14,F 1)]) Q:=by
 have r3:=alX f b;have r4:=alY f;have r5:=alZ f;have r6:=al0 f;have r7:=fun i=>al1 f i (f.eW.getD i 0);have r8:=fun i=>al2 f i (pH f true false false true);rw[<- h1]at r3 r4 r5 r6 r7 r8;refine qv (be _) eI r3 (dF (g0 ⟨all_nil,?_⟩));refine jZ (t:=true) dD dD (fun _=>?_) (fun h=>by cases h);cases b with
 |false=>
  have e2:Jv f=false:=by unfold Jv;rw[<- Y];rfl
  exact qv (be _) _ r5 (dF (g0 ⟨all_nil,aI V.bool e2.symm,hQ⟩))
 |true=>
  have hr:yB f=true:=Y.symm;have JM:=hr;unfold yB at JM;rw[ay,aS,aS]at JM;have hw:V.int B (IntKind.i64.wrap (IntKind.i64.wrap (IntKind.i64.wrap ((2:Int)*f.r)+(1:Int))*IntKind.i64.wrap (IntKind.i64.wrap ((2:Int)*f.r)+(1:Int))))=F (((2:Int)*f.r+(1:Int))*((2:Int)*f.r+(1:Int))):=by
   obtain⟨k1,k2⟩:=JM;rcases(by omega:f.r=0\/f.r=1\/f.r=2\/f.r=3)with h|h|h|h<;>rw[h]<;>rfl
  refine qv (be _) (fun u _ _=>u= .bool (Jv f)) r4 ?_
  repeat' (first|exact gU|refine dJ ?_ ?_)
  all_goals
   intro N;simp only[az,aF,bh,aL,bg]at N;refine⟨eM hw,?_⟩
  . exact⟨aI V.bool (by simp only[Jv,hr,N,aP,Bool.not_true,aQ]),hQ⟩
  . exact⟨aI V.bool (by simp only[Jv,hr,N,aP,Bool.not_true,Bool.not_false,aQ]),hQ⟩
  . exact⟨aI V.bool (by simp only[Jv,hr,N,aP,Bool.not_true,Bool.not_false,aQ]),hQ⟩
  have e3:Jv f=(!f.eW.any Dd&&pH f true false false true):=by simp only[Jv,hr,N,aP,Bool.not_false]
  rw[e3]at hQ;have hp:=eK f.eW;have hP:=pn1 f;refine dM dD (qv (be _) eI r6 (dF (g0 ⟨all_nil,?_⟩)));refine ES (fn:=Tryz.f117) 1 (fun u _ _=>u= .bool (!f.eW.any Dd&&pH f true false false true)) [1,4] (f.eW.length-·) (fun i=>i<=f.eW.length/\∀j,j<i->Dd (f.eW.getD j 0)=false) (fun i=>AQ f [(4,L i)]) 0 ⟨aN _,fun _ h=>absurd h (bL _)⟩ .refl (fun i ⟨hi,hj⟩=>?_);refine⟨_,be _,_,_,_,r7 i,?_⟩;have hg:=fun h=>gi (l:=f.eW) (i:=i) h
  repeat' (first|exact gU|refine dJ ?_ ?_)
  all_goals
   intro N;simp only[az,aF,bh,aL,bg,KB,KC]at N
  . refine⟨A (iT N.1) (A hp (eM (hg N.1))),aI V.bool (Eq.symm ?_),hQ⟩;rw[EV (d:=0) N.1 (by simp only[Dd,N,bU])];rfl
  . refine⟨A (iT N.1) (A hp (A (hg N.1) (A (iT N.1) (A hp (eM (hg N.1)))))),aI V.bool (Eq.symm ?_),hQ⟩;rw[EV (d:=0) N.1 (by simp only[Dd,N,cW])];rfl
  . refine⟨A (iT N.1) (A hp (A (hg N.1) (A (iT N.1) (A hp (A (hg N.1) (eM (gK S))))))),i+1,by show f.eW.length-(i+1)<f.eW.length-i;omega,⟨N.1,fun j hji=>?_⟩,.refl⟩;rcases bj j i with q|q
    . exact hj j q
    . obtain rfl:j=i:=by omega
      simp only[Dd,N,cC]
  . refine⟨all_nil,fun s3 Qq=>?_⟩;rw[iS];refine fQ Qq ?_;have he:(!f.eW.any Dd&&pH f true false false true)=pH f true false false true:=by rw[IL (d:=0) (fun j hji=>hj j S)];rfl
    rw[he]at hQ;exact gk (fk hP (be _)) (fun u _ _=>u= .bool (pH f true false false true)) (r8 i) (dF (g0 ⟨eM rfl,rfl,hQ⟩))
abbrev RB:Exit->St->Prop:=fV ak 0 Tryz.f117 fun u _ _=>u= .bool b
theorem v3T(U:f.eW.length<=1000000000)(J0:f.cu.length<=1000000000)(b:Bool)(Y:b=yB f):TG ak 0 Tryz.f117.ntmps (dA 2 Bk) (AQ f [(3,.bool b)]) (RB (iM f)):=by
 have De:∀k,f.k=k->f=lZ f k:=fun k h=>by obtain⟨a,_,_,_,_,_⟩:=f;simp only at h;subst h;rfl
 by_cases h1:f.k=1
 . have e:iM f=Jv f:=by unfold iM;rw[aD h1]
   have ef:=De 1 h1;rw[e];have r2:=alW f b;rw[<- ef]at r2;refine dM dD (qv (be _) eI r2 (dF (g0 ⟨all_nil,?_⟩)));exact fL (i:=0) dD (ad5 f U ef b Y fun R h=>h)
 by_cases C:f.k=2\/f.k=3\/f.k=4
 . have e:iM f=(yB f&&pH f false false false true):=by unfold iM;rw[aA h1,aD C]
   rw[e,<- Y];rcases C with h|h|h
   . have hP:=pn2 f;have hr:=adW f b (pH f false false false true);rw[<- De _ h]at hr;exact eR (fk hP (be _)) hr (dJ (g1 fun q=>⟨eM rfl,_,_,_,rfl,by rw[q];rfl⟩) (dF (g1 fun q=>⟨all_nil,_,_,_,rfl,by rw[q];rfl⟩)))
   . have hP:=pn2 f;have hr:=adX f b (pH f false false false true);rw[<- De _ h]at hr;exact eR (fk hP (be _)) hr (dJ (g1 fun q=>⟨eM rfl,_,_,_,rfl,by rw[q];rfl⟩) (dF (g1 fun q=>⟨all_nil,_,_,_,rfl,by rw[q];rfl⟩)))
   . have hP:=pn2 f;have hr:=adY f b (pH f false false false true);rw[<- De _ h]at hr;exact eR (fk hP (be _)) hr (dJ (g1 fun q=>⟨eM rfl,_,_,_,rfl,by rw[q];rfl⟩) (dF (g1 fun q=>⟨all_nil,_,_,_,rfl,by rw[q];rfl⟩)))
 by_cases h5:f.k=5
 . have e:iM f=(jV f.cu&&pH f false false true false):=by unfold iM;rw[aA h1,aA C,aD h5]
   rw[e];have hr:=adZ f b (jV f.cu) (pH f false false true false);rw[<- De _ h5]at hr;exact eR (fk (pn3 f) (fk (c5D f.cu J0) (be _))) hr (dJ (g1 fun q=>⟨A rfl (eM rfl),_,_,_,rfl,by rw[q];rfl⟩) (dF (g1 fun q=>⟨eM rfl,_,_,_,rfl,by rw[q];rfl⟩)))
 by_cases h6:f.k=6
 . have e:iM f=pH f false false false false:=by unfold iM;rw[aA h1,aA C,aA h5,aD h6]
   rw[e];have hr:=ad0 f b (pH f false false false false);rw[<- De _ h6]at hr;exact eR (fk (pn4 f) (be _)) hr (dF (g0 ⟨eM rfl,_,_,_,rfl,rfl⟩))
 by_cases h7:f.k=7
 . have e:iM f=((decide (f.vl>=0)&&decide (f.vl<=256))&&pH f false true false false):=by unfold iM;rw[aA h1,aA C,aA h5,aA h6,aD h7]
   rw[e];have hr:=ad1 f b (pH f false true false false);rw[<- De _ h7]at hr;refine eR (fk (pn5 f) (be _)) hr ?_
   repeat' (first|exact gU|refine dJ ?_ ?_)
   all_goals
    intro N;simp only[az,aF,bh,aL,bg]at N;exact⟨by first|exact all_nil|exact eM rfl,_,_,_,rfl,aI V.bool (by simp only[N,aP,aQ])⟩
 by_cases h8:f.k=8
 . have e:iM f=((decide (f.r>= -3)&&(decide (f.r<=3)&&(decide (f.vl>= -3)&&decide (f.vl<=3))))&&pH f false true false true):=by unfold iM;rw[aA h1,aA C,aA h5,aA h6,aA h7,aD h8]
   rw[e];have hr:=ad2 f b (pH f false true false true);rw[<- De _ h8]at hr;refine eR (fk (pn6 f) (be _)) hr ?_
   repeat' (first|exact gU|refine dJ ?_ ?_)
   all_goals
    intro N;simp only[az,aF,bh,aL,bg]at N;exact⟨by first|exact all_nil|exact eM rfl,_,_,_,rfl,aI V.bool (by simp only[N,aP,aQ])⟩
 . have e:iM f=false:=by unfold iM;rw[aA h1,aA C,aA h5,aA h6,aA h7,aA h8]
   rw[e];have nb:∀k:Int,f.k≠k->V.bool (f.k==k)=V.bool false:=fun k h=>aI V.bool (cr.2 h);refine eR (be _) (ad3 f b) (dF (g0 ⟨?_,_,_,_,rfl,rfl⟩));exact A (nb 1 h1) (A (nb 2 fun q=>C (.inl q)) (A (nb 3 fun q=>C (.inr (.inl q))) (A (nb 4 fun q=>C (.inr (.inr q))) (A (nb 5 h5) (A (nb 6 h6) (A (nb 7 h7) (eM (nb 8 h8))))))))
theorem al4(U:f.eW.length<=1000000000)(N:f.cu.length<=1000000000):dV ak 117 [f.v] (.bool (iM f)):=by
 refine fc Tryz.func117 (uh 2 (be _) (alV f) (dJ (g1 fun h=>⟨all_nil,_,rfl,?_⟩) (dF (g1 fun h=>⟨all_nil,_,rfl,?_⟩))))
 . exact v3T f U N _ (by unfold yB;rw[h];rfl)
 . exact v3T f U N _ (by unfold yB;rw[h];rfl)
end
set_option maxRecDepth 10000
noncomputable def BA(cs:ai):List Tl:=@dite _ (∃l,cs=iH l) (Classical.propDecidable _) (fun h=>Classical.choose h) (fun _=>[])
noncomputable def KE:ai->Option (ah×V)
 | [.agg [.eE n cs]]=>some ([cs=iH (BA cs),n=(BA cs).length,n<=1000000],.bool (cD (fC (BA cs))))
 |_=>none
noncomputable abbrev IM:Code:=dL Tryz.f86
noncomputable abbrev al5:Code:=dI (dA 5 IM)
noncomputable abbrev T3:Code:=dK al5
noncomputable abbrev YJ:Code:=oy (dY T3)
noncomputable abbrev YK:Code:=oy (dY YJ)
noncomputable abbrev YL:Code:=oy (dY YK)
noncomputable abbrev YM:Code:=oy (dY YL)
noncomputable abbrev YN:Code:=oy (dY YM)
noncomputable abbrev ad6:Code:=oy (dY YN)
def oe(d:Dc)(l:eJ)(m c p f:Bool)(r:List (Nat×V)):St:=fB ([(2,.ptr (some (0,0))),(3,.ptr (some (1,0))),(5,.bool m),(6,.bool c),(7,.bool p),(8,.bool f)]++r) (hL [(0,.cells d.cs),(1,.cells l.cs)]) 2
noncomputable abbrev Wfd(l:eJ)(p f:Bool):gJ:=fa 116 [.agg l.pl.cs] (.bool p) (fa 117 [l.f.v] (.bool f) (kp 115 (Go.Eng.dW KE) ek))
theorem al6(d:Dc)(l:eJ)(p f:Bool):H (M (Wfd l p f) []) [] 0 Tryz.f86 [2,3,5,6,7,8] (dU 5 IM) (dB [d.v,l.v] .nil 0) [([],[iH l.gT=iH (BA (iH l.gT)),l.gT.length=(BA (iH l.gT)).length,l.gT.length<=1000000,iH l.gp=iH (BA (iH l.gp)),l.gp.length=(BA (iH l.gp)).length,l.gp.length<=1000000,fu [.agg l.pl.cs],fu [l.f.v]],eu (oe d l (cD (fC (BA (iH l.gT)))) (cD (fC (BA (iH l.gp)))) p f []))]:=G.W
theorem al7(d:Dc)(l:eJ)(m c p f:Bool):H (M ek []) [(24,.split),(28,.split)] 0 Tryz.f86 [2,3,5,6,7,8,21] (dI T3) (oe d l m c p f []) (TI (decide (l.kd<(1:Int))) (decide (l.kd>(5:Int))) ([],eu (oe d l m c p f [(21,.bool true)])) ([],eu (oe d l m c p f [(21,.bool false)]))):=G.W
theorem ad7(d:Dc)(l:eJ)(m c p f:Bool):H (M ek []) [] 0 Tryz.f86 [] (lF (dY T3)) (oe d l m c p f [(21,.bool true)]) [([],[],.ret (.int .i64 41) (hL []) 0)]:=G.W
theorem al8(d:Dc)(l:eJ)(m c p f:Bool)(nm:Bool):H (M (fa 118 [.str l.nm] (.bool nm) ek) []) [] 0 Tryz.f86 [2,3,5,6,7,8,30] (dI YJ) (oe d l m c p f []) [([],[fu [.str l.nm]],eu (oe d l m c p f [(30,.bool (!nm))]))]:=G.W
theorem ad8(d:Dc)(l:eJ)(m c p f:Bool):H (M ek []) [] 0 Tryz.f86 [] (lF (dY YJ)) (oe d l m c p f [(30,.bool true)]) [([],[],.ret (.int .i64 72) (hL []) 0)]:=G.W
theorem al9(d:Dc)(l:eJ)(m c p f:Bool):H (M ek []) [(38,.split),(42,.split),(47,.split),(52,.split),(56,.split),(61,.split),(67,.split)] 0 Tryz.f86 [2,3,5,6,7,8,35] (dI YK) (oe d l m c p f []) [([(decide (l.op<(0:Int)),true)],[],eu (oe d l m c p f [(35,.bool true)])),([(decide (l.op<(0:Int)),false),(decide (l.op>(255:Int)),true)],[],eu (oe d l m c p f [(35,.bool true)])),([(decide (l.op<(0:Int)),false),(decide (l.op>(255:Int)),false),(decide (l.md<(0:Int)),true)],[],eu (oe d l m c p f [(35,.bool true)])),([(decide (l.op<(0:Int)),false),(decide (l.op>(255:Int)),false),(decide (l.md<(0:Int)),false),(decide (l.md>(15:Int)),true)],[],eu (oe d l m c p f [(35,.bool true)])),([(decide (l.op<(0:Int)),false),(decide (l.op>(255:Int)),false),(decide (l.md<(0:Int)),false),(decide (l.md>(15:Int)),false),(!m,true)],[],eu (oe d l m c p f [(35,.bool true)])),([(decide (l.op<(0:Int)),false),(decide (l.op>(255:Int)),false),(decide (l.md<(0:Int)),false),(decide (l.md>(15:Int)),false),(!m,false),(!l.K,true),(decide ((Int.ofNat l.gT.length)>(0:Int)),true)],[],eu (oe d l m c p f [(35,.bool true)])),([(decide (l.op<(0:Int)),false),(decide (l.op>(255:Int)),false),(decide (l.md<(0:Int)),false),(decide (l.md>(15:Int)),false),(!m,false),(!l.K,true),(decide ((Int.ofNat l.gT.length)>(0:Int)),false)],[],eu (oe d l m c p f [(35,.bool false)])),([(decide (l.op<(0:Int)),false),(decide (l.op>(255:Int)),false),(decide (l.md<(0:Int)),false),(decide (l.md>(15:Int)),false),(!m,false),(!l.K,false)],[],eu (oe d l m c p f [(35,.bool false)]))]:=G.W
theorem ad9(d:Dc)(l:eJ)(m c p f:Bool):H (M ek []) [] 0 Tryz.f86 [] (lF (dY YK)) (oe d l m c p f [(35,.bool true)]) [([],[],.ret (.int .i64 1) (hL []) 0)]:=G.W
theorem ama(d:Dc)(l:eJ)(m c p f:Bool)(un:Bool):H (M (fa 119 [l.v] (.bool un) ek) []) [] 0 Tryz.f86 [2,3,5,6,7,8,70] (dI YL) (oe d l m c p f []) [([],[fu [l.v]],eu (oe d l m c p f [(70,.bool (!un))]))]:=G.W
theorem aea(d:Dc)(l:eJ)(m c p f:Bool):H (M ek []) [] 0 Tryz.f86 [] (lF (dY YL)) (oe d l m c p f [(70,.bool true)]) [([],[],.ret (.int .i64 41) (hL []) 0)]:=G.W
theorem amb(d:Dc)(l:eJ)(m c p f:Bool):H (M ek []) [(77,.split),(81,.split)] 0 Tryz.f86 [2,3,5,6,7,8,74] (dI YM) (oe d l m c p f []) (TI (l.kd==(1:Int)) (l.kd==(4:Int)) ([],eu (oe d l m c p f [(74,.bool (!p))])) ([],eu (oe d l m c p f [(74,.bool false)]))):=G.W
theorem aeb(d:Dc)(l:eJ)(m c p f:Bool):H (M ek []) [] 0 Tryz.f86 [] (lF (dY YM)) (oe d l m c p f [(74,.bool true)]) [([],[],.ret (.int .i64 44) (hL []) 0)]:=G.W
theorem amc(d:Dc)(l:eJ)(m c p f:Bool):H (M ek []) [(90,.split),(97,.split)] 0 Tryz.f86 [2,3,5,6,7,8,87] (dI YN) (oe d l m c p f []) (TI (decide (l.sp<(0:Int))) (decide (l.sp>(Int.ofNat d.sp.length))) ([],eu (oe d l m c p f [(87,.bool true)])) ([],eu (oe d l m c p f [(87,.bool false)]))):=G.W
theorem aec(d:Dc)(l:eJ)(m c p f:Bool):H (M ek []) [] 0 Tryz.f86 [] (lF (dY YN)) (oe d l m c p f [(87,.bool true)]) [([],[],.ret (.int .i64 23) (hL []) 0)]:=G.W
theorem amd(d:Dc)(l:eJ)(m c p f:Bool)(ph:Bool):H (M (fa 120 [vV l.gu] (.bool ph) ek) []) [(101,.split),(105,.split),(108,.split),(114,.split)] 0 Tryz.f86 [2,3,5,6,7,8,99] (dI ad6) (oe d l m c p f []) [([(!c,true)],[],eu (oe d l m c p f [(99,.bool true)])),([(!c,false),(l.kd==(3:Int),true),(!f,true)],[],eu (oe d l m c p f [(99,.bool true)])),([(!c,false),(l.kd==(3:Int),true),(!f,false),(l.kd==(5:Int),true)],[fu [vV l.gu]],eu (oe d l m c p f [(99,.bool (!ph))])),([(!c,false),(l.kd==(3:Int),true),(!f,false),(l.kd==(5:Int),false)],[],eu (oe d l m c p f [(99,.bool false)])),([(!c,false),(l.kd==(3:Int),false),(l.kd==(5:Int),true)],[fu [vV l.gu]],eu (oe d l m c p f [(99,.bool (!ph))])),([(!c,false),(l.kd==(3:Int),false),(l.kd==(5:Int),false)],[],eu (oe d l m c p f [(99,.bool false)]))]:=G.W
theorem aed(d:Dc)(l:eJ)(m c p f:Bool):H (M ek []) [] 0 Tryz.f86 [] (lF (dY ad6)) (oe d l m c p f [(99,.bool true)]) [([],[],.ret (.int .i64 1) (hL []) 0)]:=G.W
theorem ame(d:Dc)(l:eJ)(m c p f:Bool):H (M ek []) [] 0 Tryz.f86 [] (dY (dA 5 IM)) (oe d l m c p f []) [([],[],.ret (.int .i64 0) (hL []) 0)]:=G.W
set_option maxRecDepth 10000
theorem yC(l:List Tl):iH (BA (iH l))=iH l:=by
 have h:∃k,iH l=iH k:=⟨l,rfl⟩;unfold BA;rw[dif_pos h];exact(Classical.choose_spec h).symm
theorem LW(l:List Tl):(BA (iH l)).length=l.length:=by
 have h:=aI List.length (yC l);rw[iK,iK]at h;omega
theorem YO:kj ak 115 (Go.Eng.dW KE):=by
 refine PR (aE dD) fun ds fm v e hA=>?_;unfold KE at e;split at e
 case h_2=>cases e
 rename_i n cs;obtain⟨rfl,rfl⟩:=sm e;have e1:cs=iH (BA cs):=hA _ (by simp);have e2:n=(BA cs).length:=hA (n=(BA cs).length) (by simp);have e3:n<=1000000:=hA (n<=1000000) (by simp);generalize BA cs=l at *;subst e1 e2;exact Qd l e3
section
variable{X hc:Nat}{c:Code}{s:St}{Q:Exit->St->Prop}{dP:gJ}{hh:List (Nat×List (Nat×mj))}{dz:List (Nat×mj)}{fn:Func}{live:List Nat}{dx:List (List (Bool×Bool)×ah×jU)}
theorem KF(n0:fe ak dP)(β:Bool)(dy:Bool->St)(hr:H (M dP hh) dz X fn live (dI c) s dx)(h:∀g∈dx,(∀b∈g.1,b.1=b.2)->(∀a∈g.2.1,a)/\g.2.2= .to .normal (dy β))
  (ho:jc (dy β).T (VT (dY c))=some (.bool β)) (k1:β=true->TG ak X hc (lF (dY c)) (dy true) Q) (aee:List Nat) (S0:St) (hn:ld X aee (dy false)=some S0) (k2:β=false->TG ak X hc (oy (dY c)) S0 Q)
  (hs:((qf c&&eV hc (dI c))&&J8 (dY c) (fun _=>true))=true:=by kernel_rfl):TG ak X hc c s Q:=by
 rw[ay]at hs;refine qv n0 eI hr (fun g hg N=>?_) hs.1;obtain⟨h1,C⟩:=h g hg N;refine⟨h1,?_⟩;obtain⟨_,_,r⟩:=g;simp only at C;subst C;exact jZ (t:=β) hs.2 ho (fun q=>by subst q;exact k1 rfl) (fun q=>by subst q;exact fQ hn (k2 rfl))
end
def bk(l:eJ):Bool:=decide (l.kd<1)||decide (l.kd>5)
def ba(l:eJ)(m:Bool):Bool:=decide (l.op<0)||(decide (l.op>255)||(decide (l.md<0)||(decide (l.md>15)||(!m||(!l.K&&decide (Int.ofNat l.gT.length>0))))))
def bp(l:eJ)(p:Bool):Bool:=((l.kd==1)||(l.kd==4))&& !p
def bs(n:Nat)(l:eJ):Bool:=decide (l.sp<0)||decide (l.sp>Int.ofNat n)
def bc(l:eJ)(c f p:Bool):Bool:=!c||(((l.kd==3)&& !f)||((l.kd==5)&& !p))
def KG(n:Nat)(l:eJ)(m c p f nm un ph:Bool):Int:=if bk l=true then 41 else if nm=false then 72 else if ba l m=true then 1 else if un=false then 41 else if bp l p=true then 44 else if bs n l=true then 23 else if bc l c f ph=true then 1 else 0
noncomputable def vW(n:Nat)(l:eJ):Int:=KG n l (cD (fC l.gT)) (cD (fC l.gp)) (AR l.pl) (iM l.f) (qK l.nm) (G5 l) (jP l.gu)
structure uq(l:eJ):Prop where
 nm:l.nm.length<=1000000
 kids:l.kids.length<=1000000
 eW:l.f.eW.length<=1000000
 cu:l.f.cu.length<=1000000
 gu:l.gu.length<=1000000
 gp:l.gp.length<=1000000
 gT:l.gT.length<=1000000
theorem Df{p q:Prop}(h:p↔q):cD p=cD q:=by
 by_cases hp:p
 . rw[P5 hp,P5 (h.1 hp)]
 . rw[TL hp,TL (fun x=>hp (h.2 x))]
theorem T4{p q:Nat->Int}(h:vI p=vI q){j:Nat}(hj:j<256):p j=q j:=by
 have:=aI (fun l=>l[j]?) h;simp only[vI,bC,cZ hj,bu,aq,D.int.injEq,true_and]at this;exact this
theorem LX:∀{a b:List Tl},iH a=iH b->a.length=b.length/\∀i (h:i<a.length) (h':i<b.length),a[i].x=b[i].x/\a[i].y=b[i].y/\∀j,j<256->a[i].p j=b[i].p j
 | [],[],_=>⟨rfl,fun _ h=>absurd h (bL _)⟩
 | [],t::b,h=>by cases h
 |t::a,[],h=>by cases h
 |t::a,u::b,h=>by
  have h:t.d++iH a=u.d++iH b:=h;obtain⟨h1,C⟩:=List.append_inj h (by rw[Tl.EU,Tl.EU]);obtain⟨i1,i2⟩:=LX C;refine⟨by simp[i1],fun i h h'=>?_⟩;cases i with
  |zero=>
   simp only[Tl.d,List.cons.injEq,D.int.injEq,true_and]at h1;exact⟨h1.1,h1.2.1,fun j hj=>T4 h1.2.2 hj⟩
  |succ i=>exact i2 i (by simpa using h) (by simpa using h')
theorem Nz{t u:Tl}(J:t.x=u.x)(hy:t.y=u.y)(hp:∀j,j<256->t.p j=u.p j):okT t->okT u:=by
 rintro⟨h1,C,h3⟩;have ez:nu t.p=nu u.p:=Df ⟨fun h i hi=>by rw[<- hp _ S];exact h i hi,fun h i hi=>by rw[hp _ S];exact h i hi⟩;have ec:∀j,j<256->iL t.p j=iL u.p j:=fun j hj=>by unfold iL;rw[hp _ S,hp _ hj]
 have O:u7 (iL t.p) t.p=u7 (iL u.p) u.p:=Df ⟨fun h j hj=>by rw[<- ec j hj,<- hp j hj];exact h j hj,fun h j hj=>by rw[ec j hj,hp j hj];exact h j hj⟩;exact⟨by rw[<- J,<- hy];exact h1,by rw[<- ez];exact C,by rw[<- O];exact h3⟩
theorem yD{a b:List Tl}(h:iH a=iH b):fC a->fC b:=by
 obtain⟨hl,hi⟩:=LX h;rintro⟨h1,C⟩;refine⟨hl▸h1,fun i Y t ht=>?_⟩;have ha:i<a.length:=by omega
 obtain⟨DH,rfl⟩:=aO.1 ht;obtain⟨k1,k2⟩:=C i ha a[i] (au ha);obtain⟨e1,e2,e3⟩:=hi i ha DH;refine⟨Nz e1 e2 e3 k1,fun h0 u hu=>?_⟩;obtain⟨Oh,rfl⟩:=aO.1 hu;obtain⟨q1,q2,_⟩:=hi (i-1) S Oh;have:=k2 h0 a[i-1] (au S);rw[<- e1,<- e2,<- q1,<- q2];exact this
theorem IN(l:List Tl):cD (fC (BA (iH l)))=cD (fC l):=Df ⟨yD (yC l),yD (yC l).symm⟩
theorem amf(d:Dc)(l:eJ)(h:uq l)(m c p f nm un ph:Bool)(hnm:nm=qK l.nm)(hun:un=G5 l)(hph:ph=jP l.gu):TG ak 0 Tryz.f86.ntmps (dA 5 IM) (oe d l m c p f []) (fV ak 0 Tryz.f86 fun u _ _=>u=F (KG d.sp.length l m c p f nm un ph)):=by
 have hN:dV ak 118 [.str l.nm] (.bool nm):=hnm▸adT l.nm (by have:=h.nm;omega);have hP:dV ak 120 [vV l.gu] (.bool ph):=hph▸ad4 l.gu (by have:=h.gu;omega);refine dM dD (fL (i:=0) dD ?_);show TG _ _ _ T3 _ _;generalize hv:F (KG d.sp.length l m c p f nm un ph)=v;have hQ:∀R,fV ak 0 Tryz.f86 (fun u _ _=>u=v) .ret R->gZ 0 (andThen (fun R=>TG ak 0 Tryz.f86.ntmps (dY (dA 5 IM)) R (fV ak 0 Tryz.f86 fun u _ _=>u=v)) (fV ak 0 Tryz.f86 fun u _ _=>u=v)) .ret R:=fun R h=>h;have hN':∀R,TG ak 0 Tryz.f86.ntmps (dY (dA 5 IM)) R (fV ak 0 Tryz.f86 fun u _ _=>u=v)->gZ 0 (andThen (fun R=>TG ak 0 Tryz.f86.ntmps (dY (dA 5 IM)) R (fV ak 0 Tryz.f86 fun u _ _=>u=v)) (fV ak 0 Tryz.f86 fun u _ _=>u=v)) .normal R:=fun R h=>h;generalize gZ 0 (andThen (fun R=>TG ak 0 Tryz.f86.ntmps (dY (dA 5 IM)) R (fV ak 0 Tryz.f86 fun u _ _=>u=v)) (fV ak 0 Tryz.f86 fun u _ _=>u=v))=Q at hQ hN' ⊢;unfold KG at hv;refine KF (be _) (bk l) (fun b=>oe d l m c p f [(21,.bool b)]) (al7 d l m c p f) ?_ dD (fun q=>gk (be _) (fun u _ _=>u=v) (ad7 d l m c p f) (dF (g0 ⟨all_nil,by rw[<- hv,aD q],hQ⟩))) [2,3,5,6,7,8] (oe d l m c p f []) dD (fun q=>?_)
 . repeat' (first|exact gU|refine dJ ?_ ?_)
   all_goals
    intro N;simp only[az,aF,bh,aL,bg]at N;exact⟨all_nil,by simp only[bk,N,cW,bU,cC]⟩
 have hU:dV ak 119 [l.v] (.bool un):=by
  unfold bk at q;rw[cE,bt,bt]at q;exact hun▸unD l S S
 rw[aA (by rw[q];decide)]at hv;refine KF (fk hN (be _)) (!nm) (fun b=>oe d l m c p f [(30,.bool b)]) (al8 d l m c p f nm) (by exact dF (g0 ⟨eM rfl,rfl⟩)) dD (fun q=>gk (be _) (fun u _ _=>u=v) (ad8 d l m c p f) (dF (g0 ⟨all_nil,by rw[<- hv,aD (by simpa using q)],hQ⟩))) [2,3,5,6,7,8] (oe d l m c p f []) dD (fun q=>?_);rw[aA (by simpa using q)]at hv;refine KF (be _) (ba l m) (fun b=>oe d l m c p f [(35,.bool b)]) (al9 d l m c p f) ?_ dD (fun q=>gk (be _) (fun u _ _=>u=v) (ad9 d l m c p f) (dF (g0 ⟨all_nil,by rw[<- hv,aD q],hQ⟩))) [2,3,5,6,7,8] (oe d l m c p f []) dD (fun q=>?_)
 . repeat' (first|exact gU|refine dJ ?_ ?_)
   all_goals
    intro N;simp only[az,aF,bh,aL,bg]at N;exact⟨all_nil,by simp only[ba,N,cW,bU,cC,bR,cz,cI,aQ]⟩
 rw[aA (by rw[q];decide)]at hv;refine KF (fk hU (be _)) (!un) (fun b=>oe d l m c p f [(70,.bool b)]) (ama d l m c p f un) (by exact dF (g0 ⟨eM rfl,rfl⟩)) dD (fun q=>gk (be _) (fun u _ _=>u=v) (aea d l m c p f) (dF (g0 ⟨all_nil,by rw[<- hv,aD (by simpa using q)],hQ⟩))) [2,3,5,6,7,8] (oe d l m c p f []) dD (fun q=>?_);rw[aA (by simpa using q)]at hv;refine KF (be _) (bp l p) (fun b=>oe d l m c p f [(74,.bool b)]) (amb d l m c p f) ?_ dD (fun q=>gk (be _) (fun u _ _=>u=v) (aeb d l m c p f) (dF (g0 ⟨all_nil,by rw[<- hv,aD q],hQ⟩))) [2,3,5,6,7,8] (oe d l m c p f []) dD (fun q=>?_)
 . repeat' (first|exact gU|refine dJ ?_ ?_)
   all_goals
    intro N;simp only[az,aF,bh,aL,bg]at N;exact⟨all_nil,by simp only[bp,N,cW,bU,cC,aP,aQ]⟩
 rw[aA (by rw[q];decide)]at hv;refine KF (be _) (bs d.sp.length l) (fun b=>oe d l m c p f [(87,.bool b)]) (amc d l m c p f) ?_ dD (fun q=>gk (be _) (fun u _ _=>u=v) (aec d l m c p f) (dF (g0 ⟨all_nil,by rw[<- hv,aD q],hQ⟩))) [2,3,5,6,7,8] (oe d l m c p f []) dD (fun q=>?_)
 . repeat' (first|exact gU|refine dJ ?_ ?_)
   all_goals
    intro N;simp only[az,aF,bh,aL,bg]at N;exact⟨all_nil,by simp only[bs,N,cW,bU,cC]⟩
 rw[aA (by rw[q];decide)]at hv;refine KF (fk hP (be _)) (bc l c f ph) (fun b=>oe d l m c p f [(99,.bool b)]) (amd d l m c p f ph) ?_ dD (fun q=>gk (be _) (fun u _ _=>u=v) (aed d l m c p f) (dF (g0 ⟨all_nil,by rw[<- hv,aD q],hQ⟩))) [2,3,5,6,7,8] (oe d l m c p f []) dD (fun q=>?_)
 . have k35:(l.kd==3)=true->(l.kd==5)=false:=fun h=>by rw[cm]at h;rw[h];rfl
   repeat' (first|exact gU|refine dJ ?_ ?_)
   all_goals
    intro N;simp only[az,aF,bh,aL,bg]at N;refine⟨by first|exact all_nil|exact eM rfl,?_⟩;simp only[bc,N,cW,bU,cC,bR,aP,aQ,Bool.not_true,Bool.not_false]
 rw[aA (by rw[q];decide)]at hv;refine qG (cf:=fun _ _ _ _=>none) (iX:=10) (fun _ _ _ _ _ _ _ e=>by cases e) mo dD (x:=.normal) (y:=.normal) (R:=oe d l m c p f []) dD rfl (hN' _ ?_);exact eR (be _) (ame d l m c p f) (dF (g0 ⟨all_nil,_,_,_,rfl,hv⟩))
theorem T5(d:Dc)(l:eJ)(h:uq l):dV ak 86 [d.v,l.v] (F (vW d.sp.length l)):=by
 refine fc Tryz.func86 ?_;have n0:fe ak (Wfd l (AR l.pl) (iM l.f)):=fk (v9D l.pl) (fk (al4 l.f (by have:=h.eW;omega) (by have:=h.cu;omega)) (fN YO (be _)));refine fH 5 n0 (al6 d l _ _) ?_ ?_
 . repeat' (first|exact all_nil|refine A ?_ ?_)
   all_goals first
    |rfl
    |exact(yC _).symm
    |exact(LW _).symm
    |exact h.gp
    |exact h.gT
 rw[IN,IN];exact amf d l h _ _ _ _ _ _ _ rfl rfl rfl
set_option maxRecDepth 10000
noncomputable abbrev D6:Code:=dL Tryz.f87
noncomputable abbrev bKi:Code:=dK (dK (dY (dI (dA 3 D6))))
noncomputable abbrev aef:Code:=dK (dI (dY bKi))
noncomputable abbrev amg:Code:=dK (dK (dY aef))
def zb(d:Dc)(l:eJ)(r:List (Nat×V)):St:=fB ([(2,.ptr (some (0,0))),(3,.ptr (some (1,0)))]++r) (hL [(0,.cells d.cs),(1,.cells l.cs)]) 2
theorem amh(d:Dc)(l:eJ):H (M ek []) [] 0 Tryz.f87 [2,3] (dU 1 D6) (dB [d.v,l.v] .nil 0) [([],[],eu (zb d l []))]:=G.W
theorem ami(d:Dc)(l:eJ):H (M ek []) [] 0 Tryz.f87 [2,3,5] (dI (dI (dA 1 D6))) (zb d l []) [([],[],eu (zb d l [(5,L 0)]))]:=G.W
abbrev QJ(l:eJ)(i:Nat)(k:Int):Prop:=V.dS (dO (eG l.kids) (i*1) 1)=V.dS [D.int B k]
theorem amj(d:Dc)(l:eJ)(i:Nat)(k a:Int):H (M (fa 24 [d.v,F k] (F a) ek) []) [(13,.split),(20,.dG (.dS [.int .i64 k])),(23,.split),(15,.dG (L (i+1)))] 0 Tryz.f87 [2,3,5] (dK (dK (dY (dI (dA 1 D6))))) (zb d l [(5,L i)]) (si (decide (Int.ofNat i<(Int.ofNat l.kids.length))) (decide (a<(0:Int))) ([fR i l.kids.length,jC l.kids,QJ l i k,fu [d.v,F k]],ja) ([fR i l.kids.length,jC l.kids,QJ l i k,fu [d.v,F k],oH i],eu (zb d l [(5,L (i+1))])) ([],.to (.exit 0) (zb d l [(5,L i)]))):=G.W
theorem amk(d:Dc)(l:eJ)(i:Nat):H (M ek []) [] 0 Tryz.f87 [2,3,6] (dU 1 (dA 2 D6)) (zb d l [(5,L i)]) [([],[],eu (zb d l [(6,L 0)]))]:=G.W
theorem aml(d:Dc)(l:eJ):H (M ek []) [] 0 Tryz.f87 [2,3,6,7] (dI (dI (dA 3 D6))) (zb d l [(6,L 0)]) [([],[],eu (zb d l [(6,L 0),(7,L 0)]))]:=G.W
theorem aeg(d:Dc)(l:eJ)(n i:Nat):H (M ek []) [(28,.split)] 0 Tryz.f87 [2,3,6,7] (dI bKi) (zb d l [(6,L n),(7,L i)]) (fP (decide (Int.ofNat i<(Int.ofNat d.ly.length))) ([],eu (zb d l [(6,L n),(7,L i)])) ([],.to (.exit 2) (zb d l [(6,L n),(7,L i)]))):=G.W
theorem amm(d:Dc)(l:eJ)(n i:Nat):H (M ek []) [] 0 Tryz.f87 [2,3,6,7,8] (dI aef) (zb d l [(6,L n),(7,L i)]) [([],[],eu (zb d l [(6,L n),(7,L i),(8,L 0)]))]:=G.W
section
variable(x:eJ)(e:Int)(j:Nat)
abbrev QK:Prop:=V.int B (IntKind.i64.wrap (Int.ofNat j+(1:Int)))=L (j+1)
abbrev QL(k:Int):Prop:=V.dS (dO (eG x.kids) (j*1) 1)=V.dS [D.int B k]
theorem amn(d:Dc)(l x:eJ)(n i j:Nat)(k:Int):H (M ek []) [(35,.dG (.dS x.ds)),(39,.split),(45,.dG (.dS x.ds)),(49,.dG (.dS [.int .i64 k])),(53,.split),(55,.dG (L (n+1))),(41,.dG (L (j+1)))] 0 Tryz.f87 [2,3,6,7,8] (amg) (zb d l [(6,L n),(7,L i),(8,L j)]) (si (decide (Int.ofNat j<(Int.ofNat x.kids.length))) (k==l.id) ([fR i d.ly.length,nE d.ly,gG (fD d.ly) i 31 x.ds,fR i d.ly.length,nE d.ly,gG (fD d.ly) i 31 x.ds,fR j x.kids.length,jC x.kids,QL x j k,oH n,QK j],eu (zb d l [(6,L (n+1)),(7,L i),(8,L (j+1))])) ([fR i d.ly.length,nE d.ly,gG (fD d.ly) i 31 x.ds,fR i d.ly.length,nE d.ly,gG (fD d.ly) i 31 x.ds,fR j x.kids.length,jC x.kids,QL x j k,QK j],eu (zb d l [(6,L n),(7,L i),(8,L (j+1))])) ([fR i d.ly.length,nE d.ly,gG (fD d.ly) i 31 x.ds],.to (.exit 4) (zb d l [(6,L n),(7,L i),(8,L j)]))):=G.W
theorem amo(d:Dc)(l:eJ)(n i j:Nat):H (M ek []) [(30,.dG (L (i+1)))] 0 Tryz.f87 [2,3,6,7] (dY (dY bKi)) (zb d l [(6,L n),(7,L i),(8,L j)]) [([],[oH i],eu (zb d l [(6,L n),(7,L (i+1))]))]:=G.W
theorem amp(d:Dc)(l:eJ)(n i:Nat):H (M ek []) [(60,.split),(63,.split),(70,.split)] 0 Tryz.f87 [] (dY (dA 3 D6)) (zb d l [(6,L n),(7,L i)]) [([(l.id==d.root,true),(Int.ofNat n==(0:Int),true)],[],By),([(l.id==d.root,true),(Int.ofNat n==(0:Int),false),(l.id !=d.root,true)],[],.ret (.bool (Int.ofNat n==(1:Int))) (hL []) 0),([(l.id==d.root,true),(Int.ofNat n==(0:Int),false),(l.id !=d.root,false)],[],ja),([(l.id==d.root,false),(l.id !=d.root,true)],[],.ret (.bool (Int.ofNat n==(1:Int))) (hL []) 0),([(l.id==d.root,false),(l.id !=d.root,false)],[],ja)]:=G.W
noncomputable abbrev QM:Code:=dL Tryz.f25
noncomputable abbrev bPg:Code:=dK (dK (dY (dI (dA 1 QM))))
noncomputable abbrev aeh:Code:=dK (dI (dY bPg))
noncomputable abbrev amq:Code:=dK (dK (dY (dY aeh)))
def QN(d:Dc)(k:Int)(r:List (Nat×V)):St:=fB ([(1,F k),(2,.ptr (some (0,0))),(4,.ptr (some (1,0)))]++r) (hL [(0,.cells d.cs),(1,.cells [F 0,F 0,.bool false])]) 2
def Wi(d:Dc)(x:eJ)(k:Int)(r:List (Nat×V)):St:=fB ([(1,F k),(2,.ptr (some (0,0))),(4,.ptr (some (1,0))),(6,.ptr (some (2,0)))]++r) (hL [(0,.cells d.cs),(1,.cells [F 0,F 0,.bool false]),(2,.cells x.cs)]) 3
theorem amr(d:Dc)(k:Int):H (M ek []) [] 0 Tryz.f25 [1,2,4] (dU 1 QM) (dB [d.v,F k] .nil 0) [([],[],eu (QN d k []))]:=G.W
theorem ams(d:Dc)(k:Int):H (M ek []) [] 0 Tryz.f25 [1,2,4,5] (dI (dI (dA 1 QM))) (QN d k []) [([],[],eu (QN d k [(5,L 0)]))]:=G.W
theorem amt(d:Dc)(k:Int)(i:Nat):H (M ek []) [(12,.split)] 0 Tryz.f25 [1,2,4,5] (dI bPg) (QN d k [(5,L i)]) (fP (decide (Int.ofNat i<(Int.ofNat d.ly.length))) ([],eu (QN d k [(5,L i)])) ([],.to (.exit 0) (QN d k [(5,L i)]))):=G.W
theorem amu(d:Dc)(x:eJ)(k:Int)(i:Nat):H (M ek []) [(18,.dG (.dS x.ds))] 0 Tryz.f25 [1,2,4,5,6,7] (dU 2 aeh) (QN d k [(5,L i)]) [([],[fR i d.ly.length,nE d.ly,gG (fD d.ly) i 31 x.ds],eu (Wi d x k [(5,L i),(7,L 0)]))]:=G.W
abbrev QO:Prop:=V.dS (dO (eG x.kids) (j*1) 1)=V.dS [D.int B e]
theorem amv(d:Dc)(x:eJ)(k e:Int)(i j:Nat):H (M ek []) [(24,.split),(28,.split),(35,.dG (.dS [.int .i64 e])),(38,.split),(31,.dG (L (j+1)))] 0 Tryz.f25 [1,2,4,5,6,7] (amq) (Wi d x k [(5,L i),(7,L j)]) (Nr (decide (Int.ofNat j<(Int.ofNat x.kids.length))) (x.kd==(2:Int)) (e==k) ([fR j x.kids.length,jC x.kids,QO x e j],.ret (.agg [.int .i64 (x.id),.int .i64 (Int.ofNat j),.bool true]) (hL []) 0) ([fR j x.kids.length,jC x.kids,QO x e j,oH j],eu (Wi d x k [(5,L i),(7,L (j+1))])) ([],.to (.exit 2) (Wi d x k [(5,L i),(7,L j)])) ([],.to (.exit 2) (Wi d x k [(5,L i),(7,L j)]))):=G.W
theorem amw(d:Dc)(x:eJ)(k:Int)(i j:Nat):H (M ek []) [(14,.dG (L (i+1)))] 0 Tryz.f25 [1,2,4,5] (dY (dY bPg)) (Wi d x k [(5,L i),(7,L j)]) [([],[oH i],eu (QN d k [(5,L (i+1))]))]:=G.W
end
theorem amx(d:Dc)(k:Int)(i:Nat):H (M ek []) [] 0 Tryz.f25 [] (dY (dA 1 QM)) (QN d k [(5,L i)]) [([],[],.ret (.agg [.int .i64 0,.int .i64 0,.bool false]) (hL []) 0)]:=G.W
set_option maxRecDepth 10000
theorem getD_some{α:Type}{l:List α}{i:Nat}(d:α)(h:i<l.length):l[i]? =some (l.getD i d):=by
 rw[ax,au h];rfl
theorem T6{ls:List eJ}{k:Int}:decide (xl ls k<0)=(jK ls k).isNone:=by
 unfold xl;cases jK ls k with
 |none=>rfl
 |some i=>exact aV (by show ¬(Int.ofNat i<0);rw[gB];omega)
def mc(ls:List eJ)(id:Int):Nat:=(ls.map fun l=>l.kids.count id).sum
theorem NA{ls:List eJ}{i:Nat}(h:i<ls.length)(id:Int):mc (ls.take (i+1)) id=mc (ls.take i) id+(ls.getD i gv).kids.count id:=by
 unfold mc;rw[bY,getD_some gv h];simp
def rq(d:Dc)(l:eJ):Bool:=!(l.kids.any fun k=>(jK d.ly k).isNone)&&(((l.id==d.root)&&(Int.ofNat (mc d.ly l.id)==(0:Int)))||((l.id !=d.root)&&(Int.ofNat (mc d.ly l.id)==(1:Int))))
structure IP(d:Dc):Prop where
 ly:d.ly.length<=1000000
 kids:∀l∈d.ly,l.kids.length<=1000000
theorem IP.at{d:Dc}(h:IP d){i:Nat}(hi:i<d.ly.length):(d.ly.getD i gv).kids.length<=1000000:=h.kids _ (by rw[ax,au hi];exact bJ hi)
theorem Dg{l:List Int}{j:Nat}(h:j<l.length)(id:Int):(l.take (j+1)).count id=(l.take j).count id+(if l.getD j 0==id then 1 else 0):=by
 rw[bY,getD_some 0 h,List.count_append,Option.toList_some];congr 1;rw[List.count_cons,List.count_nil,bB]
theorem Ge(ls:List eJ)(id:Int)(h:∀l∈ls,l.kids.length<=1000000):mc ls id<=ls.length*1000000:=by
 induction ls with
 |nil=>exact aK _
 |cons x ls ih=>
  have h1:=ih fun l hl=>h l (aZ _ hl);have C:=h x (bw ..);have h3:x.kids.count id<=x.kids.length:=List.count_le_length;have e:mc (x::ls) id=x.kids.count id+mc ls id:=by unfold mc;rw[bQ,List.sum_cons]
  rw[e,aR];omega
theorem aei(d:Dc)(l:eJ)(hd:IP d)(hl:l.kids.length<=1000000)(h40:d.ly.length<=1000):dV ak 87 [d.v,l.v] (.bool (rq d l)):=by
 refine fc Tryz.func87 (fH 1 (be _) (amh d l) all_nil ?_);have jl:=eK l.kids;refine LV 0 l.kids.length [2,3,5] (fun i=>zb d l [(5,L i)]) (fun i=>(jK d.ly (l.kids.getD i 0)).isNone) (.bool false,hL [],0) (be _) (ami d l) all_nil .refl (fun i _=>⟨_,fk (YC d (l.kids.getD i 0) hd.ly) (be _),_,_,_,amj d l i (l.kids.getD i 0) _,?_⟩) (fun i hi _ ht=>?_) (fun hj=>?_)
 . have hg:=fun h=>gi (l:=l.kids) (i:=i) h
   repeat' (first|exact gU|refine dJ ?_ ?_)
   all_goals
    intro N;simp only[az,aF,bh,aL,bg,KB,KC,T6]at N
   . exact⟨A (iT N.1) (A jl (A (hg N.1) (eM rfl))),N.1,N.2,rfl⟩
   . exact⟨A (iT N.1) (A jl (A (hg N.1) (A rfl (eM (gK S))))),N.1,N.2,rfl⟩
   . exact⟨all_nil,rfl,N,rfl⟩
 . refine aI V.bool (Eq.symm ?_);unfold rq;rw[EV (d:=0) hi ht];rfl
 have e0:rq d l=(((l.id==d.root)&&(Int.ofNat (mc d.ly l.id)==(0:Int)))||((l.id !=d.root)&&(Int.ofNat (mc d.ly l.id)==(1:Int)))):=by unfold rq;rw[IL (d:=0) hj];rfl
 rw[e0];refine fH 1 (be _) (amk d l _) all_nil ?_;rw[show dA 1 (dY (dA 1 D6))=dA 3 D6 by kernel_rfl];have wY:TG ak 0 Tryz.f87.ntmps (dY (dA 3 D6)) (zb d l [(6,L (mc d.ly l.id)),(7,L d.ly.length)]) (fV ak 0 Tryz.f87 fun u _ _=>u= .bool (((l.id==d.root)&&(Int.ofNat (mc d.ly l.id)==(0:Int)))||((l.id !=d.root)&&(Int.ofNat (mc d.ly l.id)==(1:Int))))):=by
  refine eR (be _) (amp d l _ _) ?_
  repeat' (first|exact gU|refine dJ ?_ ?_)
  all_goals
   intro N;simp only[az,aF,bh,aL,bg]at N;exact⟨all_nil,_,_,_,rfl,aI V.bool (by simp only[N,aP,aQ,cC,bR,bU])⟩
 have AS:=fE d.ly;have hcn:=Ge d.ly l.id hd.kids;have hcm:∀i,mc (d.ly.take i) l.id<=d.ly.length*1000000:=fun i=>bH (Ge _ l.id fun x J=>hd.kids x (cN J)) (cM _ (by rw[aW];omega));refine dM dD (dM dD (gk (be _) eI (aml d l) (dF (g0 ⟨all_nil,fun R dX=>?_⟩))));refine TA 2 d.ly.length (fun i=>zb d l [(6,L (mc (d.ly.take i) l.id)),(7,L i)]) dD dD (.norm dX) (fun i hi=>?_) ?_
 . refine qv (be _) eI (aeg d l _ i) (dJ (g1 fun _=>⟨all_nil,?_⟩) (dF (g1 fun h=>absurd (qZ h) S)));refine dM dD (fL (i:=3) dD (qv (be _) eI (amm d l _ i) (dF (g0 ⟨all_nil,?_⟩))));have J:=iu (l:=d.ly) hi;have U:=hd.at hi;have vt:=NA hi l.id;have h0:=hcm i;have h1:=hcm (i+1);generalize d.ly.getD i gv=x at J U vt;have JS:=eK x.kids;refine ES (fn:=Tryz.f87) 4 eI [2,3,6,7,8] (x.kids.length-·) (. <=x.kids.length) (fun j=>zb d l [(6,L (mc (d.ly.take i) l.id+(x.kids.take j).count l.id)),(7,L i),(8,L j)]) 0 (aN _) .refl (fun j hj=>?_);refine⟨_,be _,_,_,_,amn d l x _ i j (x.kids.getD j 0),?_⟩;have hg:=fun h=>gi (l:=x.kids) (i:=j) h;have hcj:(x.kids.take j).count l.id<=x.kids.length:=bH List.count_le_length (by rw[aW];omega)
   repeat' (first|exact gU|refine dJ ?_ ?_)
   all_goals
    intro N;simp only[az,aF,bh,aL,bg,KB,KC]at N
   . have O7:=Dg N.1 l.id;rw[N.2,aD rfl]at O7;refine⟨?_,j+1,by show x.kids.length-(j+1)<x.kids.length-j;omega,N.1,?_⟩
     . repeat' (first|exact all_nil|refine A ?_ ?_)
       all_goals first
        |exact iT hi
        |exact AS
        |exact J
        |exact iT N.1
        |exact JS
        |exact hg N.1
        |exact gK S
     . show ew _ _ _ _ (zb d l [(6,L (mc (d.ly.take i) l.id+(x.kids.take (j+1)).count l.id)),(7,L i),(8,L (j+1))]);rw[O7];exact .refl
   . have O7:=Dg N.1 l.id;rw[N.2,aA eX,Nat.add_zero]at O7;refine⟨?_,j+1,by show x.kids.length-(j+1)<x.kids.length-j;omega,N.1,?_⟩
     . repeat' (first|exact all_nil|refine A ?_ ?_)
       all_goals first
        |exact iT hi
        |exact AS
        |exact J
        |exact iT N.1
        |exact JS
        |exact hg N.1
        |exact gK S
     . show ew _ _ _ _ (zb d l [(6,L (mc (d.ly.take i) l.id+(x.kids.take (j+1)).count l.id)),(7,L i),(8,L (j+1))]);rw[O7];exact .refl
   . refine⟨A (iT hi) (A AS (eM J)),fun s2 vQ=>?_⟩;rw[iS];obtain rfl:j=x.kids.length:=by omega
     rw[bn,<- vt]at vQ;show TG _ _ _ (dY (dY bKi)) s2 _;refine fQ vQ (gk (be _) eI (amo d l _ i _) (dF (g0 ⟨eM (gK S),fun s3 Qq=>?_⟩)));exact .norm Qq
 . refine qv (be _) eI (aeg d l _ _) (dJ (g1 fun h=>absurd (j9 h) S) (dF (g1 fun _=>⟨all_nil,fun s2 vQ=>⟨by simp,?_⟩⟩)));rw[iS];rw[bn]at vQ;exact fQ vQ wY
def lP:List eJ->Int->Option (Int×Nat)
 | [],_=>none
 |x::ls,k=>match(if x.kd=2 then x.kids.findIdx? (. ==k)else none)with
  |some j=>some (x.id,j)
  |none=>lP ls k
def xm:Option (Int×Nat)->V
 |some (i,j)=>.agg [F i,L j,.bool true]
 |none=>.agg [F 0,F 0,.bool false]
theorem NB{ls:List eJ}{i:Nat}(h:i<ls.length)(k:Int):lP (ls.drop i) k=match(if(ls.getD i gv).kd=2 then(ls.getD i gv).kids.findIdx? (. ==k)else none)with
  |some j=>some ((ls.getD i gv).id,j)
  |none=>lP (ls.drop (i+1)) k:=by
 rw[bz h];have e:ls.getD i gv=ls[i]:=by rw[ax,au h];rfl
 rw[e];rfl
theorem ND{l:List Int}{j:Nat}{k:Int}(h:j<l.length)(h1:(l.getD j 0==k)=true)(C:∀i,i<j->(l.getD i 0==k)=false):l.findIdx? (. ==k)=some j:=by
 rw[bZ];refine⟨h,?_,fun i hi=>?_⟩
 . rw[ax,au h]at h1;exact h1
 . have:=C i hi;rw[ax,au S]at this;simpa using this
theorem NG{l:List Int}{k:Int}(C:∀i,i<l.length->(l.getD i 0==k)=false):l.findIdx? (. ==k)=none:=by
 rw[cV];intro x J;obtain⟨j,hj,rfl⟩:=ck J;have:=C j hj;rw[ax,au hj]at this;exact this
theorem amy(d:Dc)(k:Int)(hd:IP d):dV ak 25 [d.v,F k] (xm (lP d.ly k)):=by
 refine mJ Tryz.func25 (fH 1 (be _) (amr d k) all_nil ?_);have AS:=fE d.ly;have hw:(xm (lP d.ly k)).deep=true/\(xm (lP d.ly k)).nl=xm (lP d.ly k):=by
  cases lP d.ly k with
  |none=>exact⟨rfl,rfl⟩
  |some p=>exact⟨rfl,rfl⟩
 have hQ:∀(v:V) (h:I es) (n:Nat),v=xm (lP d.ly k)->rE (xm (lP d.ly k)) v h n:=fun v h n e=>by subst e;exact rE.self hw.1 hw.2
 have wY:=fun(e:lP d.ly k=none)=>eR (s':=rE (xm (lP d.ly k))) (be _) (amx d k d.ly.length) (dF (g0 ⟨all_nil,_,_,_,rfl,hQ _ _ _ (by rw[e];rfl)⟩)) (hc:=Tryz.f25.ntmps);have amz:∀(v:V) (h:I es) (n:Nat),v=xm (lP d.ly k)->rE (xm (lP d.ly k)) v h n/\∀R,fV ak 0 Tryz.f25 (rE (xm (lP d.ly k))) .ret R->fV ak 0 Tryz.f25 (rE (xm (lP d.ly k))) .ret R:=fun v h n e=>⟨hQ v h n e,fun _ h=>h⟩;refine dM dD (dM dD (gk (be _) eI (ams d k) (dF (g0 ⟨all_nil,fun R dX=>?_⟩))));refine fL (i:=0) dD (jO (fun m s=>∃i,m=d.ly.length-i/\i<=d.ly.length/\lP d.ly k=lP (d.ly.drop i) k/\ew ak 0 Tryz.f25.ntmps s (QN d k [(5,L i)])) dD ?_ d.ly.length ⟨0,rfl,aN _,rfl,.norm dX⟩);rintro m s1 ⟨i,rfl,hi,hp,oV⟩;refine oV _ _ ?_;refine qv (be _) eI (amt d k i) (dJ (g1 fun h=>⟨all_nil,?_⟩) (dF (g1 fun h=>⟨all_nil,fun s2 vQ=>?_⟩)))
 . have eY:=j9 h;have J:=iu (l:=d.ly) eY;have U:=hd.at eY;have vt:=NB eY k;generalize d.ly.getD i gv=x at J U vt;have JS:=eK x.kids;refine dM dD (fL (i:=1) dD (fH 2 (be _) (amu d x k i) (A (iT eY) (A AS (eM J))) ?_));have pX:∀j s2,ld 0 [1,2,4,5,6,7] s2=some (Wi d x k [(5,L i),(7,L j)])->lP (d.ly.drop i) k=lP (d.ly.drop (i+1)) k->TG ak 0 Tryz.f25.ntmps (dY (dY bPg)) s2 (andThen (fun s=>∃m',m'<d.ly.length-i/\∃i,m'=d.ly.length-i/\i<=d.ly.length/\lP d.ly k=lP (d.ly.drop i) k/\ew ak 0 Tryz.f25.ntmps s (QN d k [(5,L i)])) (gZ 0 (andThen (fun R=>TG ak 0 Tryz.f25.ntmps (dY (dA 1 QM)) R (fV ak 0 Tryz.f25 (rE (xm (lP d.ly k))))) (fV ak 0 Tryz.f25 (rE (xm (lP d.ly k))))))):=fun j s2 vQ he=>
    fQ vQ (gk (be _) eI (amw d x k i j) (dF (g0 ⟨eM (gK (by have:=hd.ly;omega)),fun s3 Qq=>⟨d.ly.length-(i+1),S,i+1,rfl,eY,by rw[hp,he],.norm Qq⟩⟩)))
   refine ES (fn:=Tryz.f25) 2 (rE (xm (lP d.ly k))) [1,2,4,5,6,7] (x.kids.length-·) (fun j=>j<=x.kids.length/\∀q,q<j->(x.kids.getD q 0==k)=false) (fun j=>Wi d x k [(5,L i),(7,L j)]) 0 ⟨aN _,fun _ h=>absurd h (bL _)⟩ .refl (fun j ⟨hj,hq⟩=>?_);refine⟨_,be _,_,_,_,amv d x k (x.kids.getD j 0) i j,?_⟩;have hg:=fun h=>gi (l:=x.kids) (i:=j) h
   repeat' (first|exact gU|refine dJ ?_ ?_)
   all_goals
    intro N;simp only[az,aF,bh,aL,bg,KB,KC]at N
   . refine⟨A (iT N.1) (A JS (eM (hg N.1))),amz _ _ _ ?_⟩;rw[hp,vt,aD (Bj.1 N.2.1),ND N.1 N.2.2 hq];rfl
   . refine⟨A (iT N.1) (A JS (A (hg N.1) (eM (gK S)))),j+1,by show x.kids.length-(j+1)<x.kids.length-j;omega,⟨N.1,fun q hqj=>?_⟩,.refl⟩;rcases bj q j with z|z
     . exact hq q z
     . obtain rfl:q=j:=by omega
       exact N.2.2
   . refine⟨all_nil,fun s2 vQ=>?_⟩;rw[iS];exact pX j s2 vQ (by rw[vt,aA (by have:=N.2;simpa using this)])
   . refine⟨all_nil,fun s2 vQ=>?_⟩;rw[iS];refine pX j s2 vQ ?_;rw[vt];split
     . rename_i q hq2;split at hq2
       . rw[NG (fun q hqj=>hq q S)]at hq2;cases hq2
       . cases hq2
     . rfl
 . simp only[andThen];rw[iS];obtain rfl:i=d.ly.length:=by have:=qZ h;omega
   exact fQ vQ (wY (by rw[hp,List.drop_length];rfl))
set_option maxRecDepth 10000
noncomputable abbrev Bl:Code:=dL Tryz.f103
def sSx(d:Dc)(id:Int)(gj:Bool)(r:List (Nat×V)):St:=fB ([(1,F id),(2,.bool gj),(3,.ptr (some (0,0)))]++r) (hL [(0,.cells d.cs)]) 1
theorem amA(d:Dc)(id a:Int)(gj:Bool):H (M (fa 24 [d.v,F id] (F a) ek) []) [] 0 Tryz.f103 [1,2,3,7] (dU 2 Bl) (dB [d.v,F id,.bool gj] .nil 0) [([],[fu [d.v,F id]],eu (sSx d id gj [(7,F a)]))]:=G.W
theorem amB(d:Dc)(id:Int)(gj:Bool):H (M ek []) [] 0 Tryz.f103 [] (dU 1 (dA 2 Bl)) (sSx d id gj [(7,F (-1))]) [([],[],.ret (.eZ none 0 0 0) (hL []) 0)]:=G.W
theorem amC(d:Dc)(id:Int)(gj:Bool)(n:Nat):H (M ek []) [(15,.dG (.bool false))] 0 Tryz.f103 [1,2,3,7] (dU 1 (dA 2 Bl)) (sSx d id gj [(7,L n)]) [([],[lu (decide (Int.ofNat n<(0:Int)))],eu (sSx d id gj [(7,L n)]))]:=G.W
def sSy(d:Dc)(id:Int)(gj:Bool)(n:Nat)(ps:List Int):St:=fB [(1,F id),(2,.bool gj),(3,.ptr (some (0,0))),(7,L n),(8,.eZ (some (1,0)) ps.length ps.length 1)] (hL [(0,.cells d.cs),(1,.deep (eG ps))]) 2
def sSz(d:Dc)(id:Int)(gj:Bool)(n:Nat)(ps:List Int)(a b:Int)(o:Bool):St:=fB [(1,F id),(2,.bool gj),(3,.ptr (some (0,0))),(7,L n),(8,.eZ (some (1,0)) ps.length ps.length 1),(9,.ptr (some (2,0)))] (hL [(0,.cells d.cs),(1,.deep (eG ps)),(2,.cells [F a,F b,.bool o])]) 3
theorem amE(d:Dc)(id:Int)(gj:Bool)(n:Nat)(x:eJ)(ps:List Int):H (M (fa 98 [x.v] (fF ps) ek) []) [(20,.dG (.dS x.ds))] 0 Tryz.f103 [1,2,3,7,8] (dU 1 (dA 3 Bl)) (sSx d id gj [(7,L n)]) [([],[fR n d.ly.length,nE d.ly,gG (fD d.ly) n 31 x.ds,fu [x.v],jC ps,fJ (0+ps.length) 1 8=true],eu (fB [(1,.int .i64 id),(2,.bool gj),(3,.ptr (some (0,0))),(7,.int .i64 (Int.ofNat n)),(8,.eZ (some (1,0)) (0+ps.length) (0+ps.length) 1)] (hL [(0,.cells [.eE false (d.sp.length) (jy d.sp),.int .i64 (d.root),.int .i64 (d.nx),.eE false (d.ly.length) (fD d.ly)]),(1,.deep ([]++eG ps))]) 2))]:=G.W
theorem aek(d:Dc)(id:Int)(gj:Bool)(n:Nat)(ps:List Int)(a b:Int)(o:Bool):H (M (fa 25 [d.v,F id] (.agg [F a,F b,.bool o]) ek) []) [] 0 Tryz.f103 [1,2,3,7,8,9] (dU 1 (dA 4 Bl)) (sSy d id gj n ps) [([],[fu [d.v,F id]],eu (sSz d id gj n ps a b o))]:=G.W
noncomputable abbrev T7:Code:=dI (dA 5 Bl)
def Wj(d:Dc)(id:Int)(gj:Bool)(n:Nat)(ps:List Int)(a b:Int)(o q:Bool):St:=fB [(1,F id),(2,.bool gj),(3,.ptr (some (0,0))),(7,L n),(8,.eZ (some (1,0)) ps.length ps.length 1),(9,.ptr (some (2,0))),(40,.bool q)] (hL [(0,.cells d.cs),(1,.deep (eG ps)),(2,.cells [F a,F b,.bool o])]) 3
theorem ael(d:Dc)(id:Int)(n:Nat)(x:eJ)(ps:List Int)(a b:Int)(o:Bool):H (M ek []) [(32,.dG (.dS x.ds)),(35,.split),(39,.split)] 0 Tryz.f103 [1,2,3,7,8,9,40] (dI T7) (sSz d id true n ps a b o) (CW (x.kd==(3:Int)) o ([fR n d.ly.length,nE d.ly,gG (fD d.ly) n 31 x.ds],eu (Wj d id true n ps a b o true)) ([fR n d.ly.length,nE d.ly,gG (fD d.ly) n 31 x.ds],eu (Wj d id true n ps a b o false))):=G.W
theorem amF(d:Dc)(id:Int)(n:Nat)(ps:List Int)(a b:Int)(o:Bool):H (M ek []) [] 0 Tryz.f103 [1,2,3,7,8,9,40] (dI T7) (sSz d id false n ps a b o) [([],[],eu (Wj d id false n ps a b o false))]:=G.W
theorem amG(d:Dc)(id:Int)(gj:Bool)(n m j:Nat)(g:eJ)(ps:List Int)(a:Int)(o:Bool):H (M (fa 24 [d.v,F a] (L m) ek) []) [(47,.dG (.dS g.ds))] 0 Tryz.f103 [8] (lF (dY T7)) (Wj d id gj n ps a (Int.ofNat j) o true) [([],[fu [d.v,F a],fR m d.ly.length,nE d.ly,gG (fD d.ly) m 31 g.ds,jC g.kids,(0:Int)<=Int.ofNat j/\Int.ofNat j<=(Int.ofNat g.kids.length),(dO (eG g.kids) 0 ((j-0)*1)).length=(j-0)*1,0+ps.length*1<=(eG ps).length,fJ (ps.length+(j-0)) 1 8=true],eu (fB [(8,.eZ (some (0,0)) (ps.length+(j-0)) (ps.length+(j-0)) 1)] (hL [(0,.deep (List.take (ps.length*1) (List.drop 0 (eG ps))++dO (eG g.kids) 0 ((j-0)*1)))]) 1))]:=G.W
theorem amH(d:Dc)(id:Int)(gj:Bool)(n:Nat)(ps:List Int)(a b:Int)(o:Bool):H (M ek []) [] 0 Tryz.f103 [] (dY (dA 5 Bl)) (Wj d id gj n ps a b o false) [([],[],.ret (.eZ (some (0,0)) (ps.length) (ps.length) 1) (hL [(0,.deep (eG ps))]) 1)]:=G.W
theorem amI(qs:List Int):H (M ek []) [] 0 Tryz.f103 [] (dY (dA 5 Bl)) (fB [(8,fF qs)] (hL []) 0) [([],[],.ret (.eE false (qs.length) (eG qs)) (hL []) 0)]:=G.W
noncomputable abbrev yE:Code:=dL Tryz.f56
noncomputable abbrev bRe:Code:=dK (dK (dI (dA 3 yE)))
noncomputable abbrev YP:Code:=dK (dY bRe)
def mRe(d:Dc)(r:af):I es:=hL ((0,.cells d.cs)::r)
def KH:ai->Option (ah×V)
 | [.eE n cs,.int .i64 k]=>some ([cs=eG (eH cs),n=(eH cs).length,n<=1000000],.bool ((eH cs).contains k))
 |_=>none
noncomputable abbrev Whs:gJ:=kp 55 (yz KH) ek
def IQ(d:Dc)(gj:Bool)(td:List Int)(r:List (Nat×V)):St:=fB ([(2,.bool gj),(3,.ptr (some (0,0))),(7,.eZ (some (1,0)) 0 0 1),(8,fF td)]++r) (mRe d [(1,.cells [])]) 2
def Gf(d:Dc)(gj:Bool)(l td:List Int)(r:List (Nat×V)):St:=fB ([(2,.bool gj),(3,.ptr (some (0,0))),(7,.eZ (some (1,0)) l.length l.length 1),(8,fF td)]++r) (mRe d [(1,.own .i64 l)]) 2
theorem amL(d:Dc)(id:Int)(gj:Bool)(ts:List Int):H (M (fa 103 [d.v,F id,.bool gj] (fF ts) ek) []) [] 0 Tryz.f56 [2,3,7,8] (dU 3 yE) (dB [d.v,F id,.bool gj] .nil 0) [([],[fu [d.v,F id,.bool gj]],eu (IQ d gj ts []))]:=G.W
theorem aem(d:Dc)(gj:Bool)(td:List Int):H (M ek []) [(17,.split)] 0 Tryz.f56 [2,3,7,8] (dI bRe) (IQ d gj td []) (fP (decide ((Int.ofNat td.length)>(0:Int))) ([],eu (IQ d gj td [])) ([],.to (.exit 0) (IQ d gj td []))):=G.W
theorem Wk(d:Dc)(gj:Bool)(l td:List Int):H (M ek []) [(17,.split)] 0 Tryz.f56 [2,3,7,8] (dI bRe) (Gf d gj l td []) (fP (decide ((Int.ofNat td.length)>(0:Int))) ([],eu (Gf d gj l td [])) ([],.to (.exit 0) (Gf d gj l td []))):=G.W
theorem amM(d:Dc)(gj:Bool)(td:List Int)(x:Int):H (M Whs []) [(19,.dG (.dS [.int .i64 x])),(22,.dG (fF td))] 0 Tryz.f56 [2,3,7,8,9,26] (dU 3 YP) (IQ d gj (x::td) []) [([],[(0:Int)<=(0:Int)/\(0:Int)<(Int.ofNat (x::td).length),jC (x::td),V.dS (dO (eG (x::td)) 0 1)=V.dS [D.int B x],jC (x::td),(0:Int)<=(1:Int)/\(1:Int)<=(Int.ofNat (x::td).length),V.eE false ((x::td).length-1) (dO (eG (x::td)) 1 (((x::td).length-1)*1))=fF td,0=0,[]=eG (eH []),0=0,0<=1000000],eu (fB [(2,.bool gj),(3,.ptr (some (0,0))),(7,.eZ (some (1,0)) 0 0 1),(8,.eE false (td.length) (eG td)),(9,.int .i64 x),(26,.bool true)] (hL [(0,.cells [.eE false (d.sp.length) (jy d.sp),.int .i64 (d.root),.int .i64 (d.nx),.eE false (d.ly.length) (fD d.ly)]),(1,.cells [])]) 2))]:=G.W
abbrev LY(td:List Int)(x:Int):Prop:=V.eE false ((x::td).length-1) (dO (eG (x::td)) 1 (((x::td).length-1)*1))=fF td
theorem aen(d:Dc)(gj:Bool)(l td:List Int)(x:Int):H (M Whs []) [(19,.dG (.dS [.int .i64 x])),(22,.dG (fF td)),(26,.split)] 0 Tryz.f56 [2,3,7,8,9,26] (dU 3 YP) (Gf d gj l (x::td) []) (fP (!(eH (eG l)).contains x) ([(0:Int)<=(0:Int)/\(0:Int)<(Int.ofNat (x::td).length),jC (x::td),V.dS (dO (eG (x::td)) 0 1)=V.dS [D.int B x],jC (x::td),(0:Int)<=(1:Int)/\(1:Int)<=(Int.ofNat (x::td).length),LY td x,jC l,eG l=eG (eH (eG l)),l.length=(eH (eG l)).length,l.length<=1000000],eu (fB [(2,.bool gj),(3,.ptr (some (0,0))),(7,.eZ (some (1,0)) (l.length) (l.length) 1),(8,.eE false (td.length) (eG td)),(9,.int .i64 x),(26,.bool true)] (hL [(0,.cells [.eE false (d.sp.length) (jy d.sp),.int .i64 (d.root),.int .i64 (d.nx),.eE false (d.ly.length) (fD d.ly)]),(1,.own .i64 l)]) 2)) ([(0:Int)<=(0:Int)/\(0:Int)<(Int.ofNat (x::td).length),jC (x::td),V.dS (dO (eG (x::td)) 0 1)=V.dS [D.int B x],jC (x::td),(0:Int)<=(1:Int)/\(1:Int)<=(Int.ofNat (x::td).length),LY td x,jC l,eG l=eG (eH (eG l)),l.length=(eH (eG l)).length,l.length<=1000000],eu (fB [(2,.bool gj),(3,.ptr (some (0,0))),(7,.eZ (some (1,0)) (l.length) (l.length) 1),(8,.eE false (td.length) (eG td)),(9,.int .i64 x),(26,.bool false)] (hL [(0,.cells [.eE false (d.sp.length) (jy d.sp),.int .i64 (d.root),.int .i64 (d.nx),.eE false (d.ly.length) (fD d.ly)]),(1,.own .i64 l)]) 2))):=G.W
noncomputable abbrev YQ:Code:=dA 3 YP
theorem amN(d:Dc)(gj:Bool)(td ts:List Int)(x:Int):H (M (fa 103 [d.v,F x,.bool gj] (fF ts) ek) []) [] 0 Tryz.f56 [2,3,7,8] (lF YQ) (IQ d gj td [(9,F x),(26,.bool true)]) [([],[jC td,fJ (0+td.length) 1 8=true,fu [d.v,F x,.bool gj],jC ts,0+(0+td.length)*1<=([]++eG td).length,fJ (0+td.length+ts.length) 1 8=true],eu (fB [(2,.bool gj),(3,.ptr (some (0,0))),(7,.eZ (some (1,0)) 1 1 1),(8,.eZ (some (2,0)) (0+td.length+ts.length) (0+td.length+ts.length) 1)] (hL [(0,.cells [.eE false (d.sp.length) (jy d.sp),.int .i64 (d.root),.int .i64 (d.nx),.eE false (d.ly.length) (fD d.ly)]),(1,.cells [.int .i64 x]),(2,.deep (List.take ((0+td.length)*1) (List.drop 0 ([]++eG td))++eG ts))]) 3))]:=G.W
theorem aeo(d:Dc)(gj:Bool)(l td ts:List Int)(x:Int):H (M (fa 103 [d.v,F x,.bool gj] (fF ts) ek) []) [] 0 Tryz.f56 [2,3,7,8] (lF YQ) (Gf d gj l td [(9,F x),(26,.bool true)]) [([],[0<l.length,0+l.length*1<=l.length,0<1,fJ (l.length+1) 1 8=true,jC td,fJ (0+td.length) 1 8=true,fu [d.v,F x,.bool gj],jC ts,0+(0+td.length)*1<=([]++eG td).length,fJ (0+td.length+ts.length) 1 8=true],eu (fB [(2,.bool gj),(3,.ptr (some (0,0))),(7,.eZ (some (1,0)) (l.length+1) (l.length+1) 1),(8,.eZ (some (2,0)) (0+td.length+ts.length) (0+td.length+ts.length) 1)] (hL [(0,.cells [.eE false (d.sp.length) (jy d.sp),.int .i64 (d.root),.int .i64 (d.nx),.eE false (d.ly.length) (fD d.ly)]),(1,.own .i64 (List.take (l.length*1) (List.drop 0 l)++[x])),(2,.deep (List.take ((0+td.length)*1) (List.drop 0 ([]++eG td))++eG ts))]) 3))]:=G.W
theorem amO(d:Dc)(gj:Bool)(l td:List Int)(x:Int):H (M ek []) [] 0 Tryz.f56 [2,3,7,8] (oy YQ) (Gf d gj l td [(9,F x),(26,.bool false)]) [([],[],eu (Gf d gj l td []))]:=G.W
theorem amP(d:Dc)(gj:Bool)(td:List Int):H (M ek []) [] 0 Tryz.f56 [] (dY (dA 3 yE)) (IQ d gj td []) [([],[],.ret (.eZ (some (0,0)) 0 0 1) (hL [(0,.cells [])]) 1)]:=G.W
theorem aep(d:Dc)(gj:Bool)(l td:List Int):H (M ek []) [] 0 Tryz.f56 [] (dY (dA 3 yE)) (Gf d gj l td []) [([],[],.ret (.eZ (some (0,0)) (l.length) (l.length) 1) (hL [(0,.own .i64 l)]) 1)]:=G.W
set_option maxRecDepth 10000
theorem LZ{k:Nat}(h:k<=1000000000):fJ k 1 8=true:=by
 unfold fJ;exact aT ⟨S,S⟩
section
variable(ls:List eJ)(id:Int)
def IS:Prop:=(ls.map (·.id)).Nodup
def jx:List Int:=match lP ls id with
 |some (g,j)=>match jK ls g with
  |some m=>(ls.getD m gv).kids.take j
  |none=>[]
 |none=>[]
def iB(gj:Bool)(id:Int):List Int:=match jK ls id with
 |some n=>gA (ls.getD n gv)++(if gj=true/\(ls.getD n gv).kd=3 then jx ls id else[])
 |none=>[]
end
theorem IT:∀{ls:List eJ} {k g:Int} {j:Nat},lP ls k=some (g,j)->∃x∈ls,x.id=g/\x.kd=2/\j<x.kids.length/\x.kids.getD j 0=k
 | [],_,_,_,h=>by cases h
 |x::ls,k,g,j,h=>by
  unfold lP at h;split at h
  . rename_i q hq;split at hq
    . rename_i U;simp only[aq,aB]at h;obtain⟨rfl,rfl⟩:=h;rw[bZ]at hq;obtain⟨h1,C,_⟩:=hq;exact⟨x,bw ..,rfl,U,h1,by rw[ax,au h1];simpa using C⟩
    . cases hq
  . obtain⟨y,h1,C⟩:=IT h;exact⟨y,aZ _ h1,C⟩
theorem IU{ls:List eJ}(hu:IS ls){x:eJ}(J:x∈ls):∃m,jK ls x.id=some m/\m<ls.length/\ls.getD m gv=x:=by
 obtain⟨m,K,rfl⟩:=ck J;have e:ls.getD m gv=ls[m]:=by rw[ax,au K];rfl
 refine⟨m,C8 K (by rw[e];simp) (fun j hj=>?_),K,e⟩;have Bh:j<ls.length:=by omega
 rw[ax,au Bh];simp only[cq,cr,ne_eq];intro h;have:=(List.getElem_inj (h₀:=by simpa using Bh) (h₁:=by simpa using K) hu).1 (by simpa using h);omega
theorem jv{ls:List eJ}{k:Int}{n:Nat}(h:jK ls k=some n):n<ls.length/\(ls.getD n gv).id=k/\ls.getD n gv∈ls:=by
 unfold jK at h;rw[bZ]at h;obtain⟨h1,C,_⟩:=h;have e:ls.getD n gv=ls[n]:=by rw[ax,au h1];rfl
 rw[e];exact⟨h1,by simpa using C,bJ h1⟩
theorem QS{d:Dc}(hd:IP d){x:eJ}(J:x∈d.ly):(gA x).length<=1000000:=by
 unfold gA;split
 . simp
 . exact hd.kids x J
theorem YR(d:Dc)(id:Int)(gj:Bool)(hd:IP d)(hu:gj=true->IS d.ly):dV ak 103 [d.v,F id,.bool gj] (fF (iB d.ly gj id)):=by
 have hA:=YC d id hd.ly;have AS:=fE d.ly;refine mJ Tryz.func103 (fH 2 (fk hA (be _)) (amA d id _ gj) (eM rfl) ?_);cases ny:jK d.ly id with
 |none=>
  have e1:xl d.ly id= -1:=by unfold xl;rw[ny]
  have e2:iB d.ly gj id=[]:=by unfold iB;rw[ny]
  rw[e1,e2];exact isH 1 (be _) (amB d id gj) (dF (g0 ⟨all_nil,rE.self dD dD⟩))
 |some n=>
  have e1:xl d.ly id=Int.ofNat n:=by unfold xl;rw[ny]
  obtain⟨hn,hid,tc⟩:=jv ny;have J:=iu (l:=d.ly) hn;have Jt:=QS hd tc;have e2:iB d.ly gj id=gA (d.ly.getD n gv)++(if gj=true/\(d.ly.getD n gv).kd=3 then jx d.ly id else[]):=by unfold iB;rw[ny]
  rw[e1,e2];have hP:=QD (d.ly.getD n gv);generalize d.ly.getD n gv=x at *;refine fH 1 (be _) (amC d id gj n) (eM (aI V.bool (aV WT))) ?_;rw[kU];have h4:=amE d id gj n x (gA x);rw[bB,bA]at h4;refine fH 1 (fk hP (be _)) h4 (A (iT hn) (A AS (A J (A rfl (A (eK _) (eM (LZ S))))))) ?_;rw[kU];generalize gA x=ps at *;have hR:=amy d id hd;have pX:∀(a b:Int) (o:Bool),(if gj=true/\x.kd=3 then jx d.ly id else[])=[]->TG ak 0 Tryz.f103.ntmps (dY (dA 5 Bl)) (Wj d id gj n ps a b o false) (fV ak 0 Tryz.f103 (rE (fF (ps++(if gj=true/\x.kd=3 then jx d.ly id else[]))))):=fun a b o e=>by
   rw[e,dw];exact eR (be _) (amH d id gj n ps a b o) (dF (g0 ⟨all_nil,_,_,_,rfl,.Bi (v0:=fF ps) [0] (fm:=[(eG ps).length=ps.length*1]) dD (eM (eK _)) dD dD⟩))
  have skip:∀(a b:Int) (o:Bool),(if gj=true/\x.kd=3 then jx d.ly id else[])=[]->TG ak 0 Tryz.f103.ntmps (dY T7) (Wj d id gj n ps a b o false) (andThen (fun R=>TG ak 0 Tryz.f103.ntmps (dY (dA 5 Bl)) R (fV ak 0 Tryz.f103 (rE (fF (ps++(if gj=true/\x.kd=3 then jx d.ly id else[])))))) (fV ak 0 Tryz.f103 (rE (fF (ps++(if gj=true/\x.kd=3 then jx d.ly id else[])))))):=fun a b o e=>
   jZ (t:=false) dD dD (fun h=>by cases h) (fun _=>qG (cf:=fun _ _ _ _=>none) (iX:=10) (fun _ _ _ _ _ _ _ e=>by cases e) mo dD (x:=.normal) (y:=.normal) (R:=Wj d id gj n ps a b o false) dD rfl (pX a b o e))
  have no1:∀(a b:Int) (o:Bool),(if gj=true/\x.kd=3 then jx d.ly id else[])=[]->xm (lP d.ly id)= .agg [F a,F b,.bool o]->(gj=true->x.kd=3->o=false)->TG ak 0 Tryz.f103.ntmps (dA 4 Bl) (sSy d id gj n ps) (fV ak 0 Tryz.f103 (rE (fF (ps++(if gj=true/\x.kd=3 then jx d.ly id else[]))))):=fun a b o e ep ho=>by
   rw[ep]at hR;refine fH 1 (fk hR (be _)) (aek d id gj n ps a b o) (eM rfl) ?_;rw[kU];refine dM dD ?_;cases gj with
   |false=>exact qv (be _) eI (amF d id n ps a b o) (dF (g0 ⟨all_nil,skip a b o e⟩))
   |true=>
    have fm:=A (iT hn) (A AS (eM J));refine qv (be _) eI (ael d id n x ps a b o) (dJ (g2 fun h1 C=>?_) (dJ (g2 fun h1 C=>⟨fm,skip a b o e⟩) (dF (g1 fun h1=>⟨fm,skip a b o e⟩))));rw[ho rfl (Bj.1 h1)]at C;cases C
  by_cases N:gj=true/\x.kd=3
  . have Y:(if gj=true/\x.kd=3 then jx d.ly id else[])=jx d.ly id:=aD N;cases hp:lP d.ly id with
    |none=>exact no1 0 0 false (by rw[Y];unfold jx;rw[hp]) (by rw[hp];rfl) (fun _ _=>rfl)
    |some q=>
     obtain⟨g,j⟩:=q;obtain⟨ha,h3⟩:=N;subst ha;obtain⟨y,hy,hyg,_,hj,_⟩:=IT hp;obtain⟨m,hm1,W8,hm3⟩:=IU (hu rfl) hy;rw[hyg]at hm1;have hbe:jx d.ly id=y.kids.take j:=by unfold jx;rw[hp];simp only;rw[hm1];simp only;rw[hm3]
     have T8:=iu (l:=d.ly) W8;rw[hm3]at T8;have hAg:=YC d g hd.ly;have TJ:xl d.ly g=Int.ofNat m:=by unfold xl;rw[hm1]
     rw[TJ]at hAg;have hyk:=hd.kids y hy;rw[hp]at hR;refine fH 1 (fk hR (be _)) (aek d id true n ps g (Int.ofNat j) true) (eM rfl) ?_;rw[kU];refine dM dD ?_;have fm:=A (iT hn) (A AS (eM J));refine qv (be _) eI (ael d id n x ps g (Int.ofNat j) true) (dJ (g2 fun h1 C=>⟨fm,?_⟩) (dJ (g2 fun h1 C=>by cases C) (dF (g1 fun h1=>by rw[h3]at h1;cases h1))));refine jZ (t:=true) dD dD (fun _=>?_) (fun h=>by cases h);have xB:dO (eG y.kids) 0 ((j-0)*1)=eG (y.kids.take j):=by
      unfold dO eG;rw[dr,cP,bx,dm]
     have h8:=amG d id true n m j y ps g true;rw[xB,bx,cj ((Nat.le_of_eq (eK ps)))]at h8;refine gk (fk hAg (be _)) eI h8 (dF (g0 ⟨?_,fun R dX=>?_⟩))
     . refine A rfl (A (iT W8) (A AS (A T8 (A (eK _) (A ⟨bO _,by simp only[gB];omega⟩ (A ?_ (A (by rw[eK];omega) (eM (LZ S)))))))));rw[eK,aW];omega
     . show TG _ _ _ (dY (dA 5 Bl)) R _;rw[Y,hbe];have hl:(ps++y.kids.take j).length=ps.length+(j-0):=by rw[aH,aW];omega
       have T9:eG ps++eG (y.kids.take j)=eG (ps++y.kids.take j):=(bM ..).symm;rw[T9,<- hl]at dX;generalize ps++y.kids.take j=qs at dX hl;refine fQ dX (ew.DJ [0] [8] (dy:=fB [(8,fF qs)] (hL []) 0) (fm:=[(eG qs).length=qs.length*1]) dD (eM (eK _)) _ _ ?_);exact eR (be _) (amI qs) (dF (g0 ⟨all_nil,_,_,_,rfl,rE.self dD dD⟩))
  . have Y:(if gj=true/\x.kd=3 then jx d.ly id else[])=[]:=aA N;cases hp:lP d.ly id with
    |none=>exact no1 0 0 false Y (by rw[hp];rfl) (fun _ _=>rfl)
    |some q=>exact no1 q.1 (Int.ofNat q.2) true Y (by rw[hp];rfl) (fun h1 C=>absurd ⟨h1,C⟩ N)
end Go.Proofs.YtmjggdmekboefaaGreat
