/- Lemmas on the chunk store. No conditions. -/
import Derived.Test.YtfihojpgobmmdaaGreatDoorProg
import Derived.Test.YtfihojpgobmmdaaGreatDoorJointW04
import Derived.Shelf.Strings.Repeat
set_option linter.unusedVariables false
set_option linter.unusedSimpArgs false
set_option linter.unusedSectionVars false
set_option maxRecDepth 20000
namespace Go.Proofs.YtfihojpgobmmdaaGreatDoor
open Go Go.Eng
noncomputable abbrev ak:=Tryz.prog
theorem po:kW ak=true:=by kernel_rfl
theorem mo:Tryz.prog.follows .mixedOrders=true:=by kernel_rfl
noncomputable def dN(f:Func):Code:=match f.body with|some c=>c|none=>.skip
abbrev H0:FuncId->List (Nat×oZ):=fun _=>[]
noncomputable abbrev Z5:fb:=gP ak noW H0 1000 40
noncomputable abbrev X0:CX ak:=CX.of mo po (QX _) H0 1000 40
section
variable{M h1:Nat}{c:Code}{s:St}{es:Exit->St->Prop}{Tr:List (Nat×oZ)}{fn:Func}{live:List Nat}{hx:List (List (Bool×Bool)×ah×pQ)}
abbrev c9(C:fb)(Tr:List (Nat×oZ))(M:Nat)(fn:Func)(live:List Nat)(c:Code)(s:St)(hx:List (List (Bool×Bool)×ah×pQ)):Prop:=∃aa,cR ak C Tr 1000 M fn live c s aa hx
theorem fO(fl:CX ak)(hr:c9 fl.C Tr M fn live c s hx)(h:∀g∈hx,(∀b∈g.1,b.1=b.2)->(∀a∈g.2.1,a)/\g.2.2.post ak M fn live l9 es)(I:fc h1 c=true:=by kernel_rfl):TG ak M h1 c s es:=
 hr.elim fun _ hr=>gC fl mo l9 I hr h
theorem iF(k:Nat)(fl:CX ak){cS:ah}{s1:St}(hr:c9 fl.C Tr M fn live (eV k c) s [([],cS,.to .normal s1)])(hA:∀a∈cS,a)(h:TG ak M h1 (dh k c) s1 es)(I:fc h1 c=true:=by kernel_rfl):TG ak M h1 c s es:=
 hr.elim fun _ hr=>lX k fl mo I hr hA h
theorem fh{nx:V->H lf->Nat->Prop}(fl:CX ak)(hr:c9 fl.C Tr M fn live c s hx)(h:∀g∈hx,(∀b∈g.1,b.1=b.2)->(∀a∈g.2.1,a)/\∃v h n,g.2.2= .ret v h n/\nx v h n)(I:fc h1 c=true:=by kernel_rfl):TG ak M h1 c s (fJ ak M fn nx):=
 hr.elim fun _ hr=>gA fl mo nx I hr h
end
abbrev w32(x:Int):Int:=IntKind.u32.wrap x
def J4(a b:Int):Int:=w32 ↑(BitVec.ofInt 32 a|||BitVec.ofInt 32 b).toNat
def nH(a b:Int):Int:=w32 ↑(BitVec.ofInt 32 a^^^BitVec.ofInt 32 b).toNat
def Dl(m d x:Int):Int:=J4 (w32 (x*m)) (x.fdiv d)
section
variable(ws:List Int)(x:Int)(b:L)(i:Nat)
abbrev gW:Int:=ws.getD (0+i*1) 0
def sg0:Int:=nH (nH (Dl 33554432 128 x) (Dl 16384 262144 x)) (x.fdiv 8)
def sg1:Int:=nH (nH (Dl 32768 131072 x) (Dl 8192 524288 x)) (x.fdiv 1024)
def IZ:Int:=w32 (w32 (w32 (gW ws (i-16)+sg0 (gW ws (i-15)))+gW ws (i-7))+sg1 (gW ws (i-2)))
abbrev U9:Int:=w32 ↑(b.getD i 0).toNat
def I0:Int:=J4 (J4 (J4 (w32 (U9 b (i*4)*16777216)) (w32 (U9 b (i*4+1)*65536))) (w32 (U9 b (i*4+2)*256))) (U9 b (i*4+3))
end
noncomputable abbrev Z6:Code:=dN Tryz.f97
noncomputable abbrev Z7:Code:=dh 1 Z6
noncomputable abbrev aex:Code:=dP Z7
noncomputable abbrev aey:Code:=dz (dY aex)
noncomputable abbrev Z8:Code:=dY Z7
noncomputable abbrev aez:Code:=dP Z8
noncomputable abbrev ak2:Code:=dz (dY aez)
noncomputable abbrev ak3:Code:=dY Z8
section
variable(b:L)(ws:List Int)(i:Nat)
def zW:lf:=.cells (List.replicate 64 (.int .u32 0))
def sS0(o:lf):St:=eG [(0,.str b),(2,.ptr (some (3,0)))] (J [(3,o)]) 4
def Z9:St:=eG [(0,.str b),(2,.ptr (some (3,0))),(9,.int .i64 (Int.ofNat i))] (J [(3,.own .u32 ws)]) 4
def sSB:St:=eG [(2,.ptr (some (3,0))),(4,.int .i64 (Int.ofNat i))] (J [(3,.own .u32 ws)]) 4
theorem ak4:cR ak Z5 [] 1000 3 Tryz.f97 [0,2] (eV 1 Z6) (cU [.str b] .nil 3) [] [([],[],.to .normal (sS0 b zW))]:=by
 unfold cR;kernel_rfl
theorem aab:KT [(3,.u32)] (sS0 b zW)=some (sS0 b (.own .u32 (List.replicate 64 0))):=by kernel_rfl
theorem ak5:cR ak Z5 [] 1000 3 Tryz.f97 [0,2,9] (dP aex) (sS0 b (.own .u32 ws)) [] [([],[],.to .normal (Z9 b ws 0))]:=by
 unfold cR;kernel_rfl
abbrev kY(x:Int)(n:Nat):Prop:=V.int .i64 (IntKind.i64.wrap x)=V.int .i64 (Int.ofNat n)
abbrev ibd(n l:Nat):Prop:=0<=Int.ofNat n/\n<l
abbrev iN(n:Nat):Prop:=0<=Int.ofNat n/\Int.ofNat n<64
def scA:ah:=[kY (Int.ofNat i*4) (i*4),ibd (i*4) b.length,kY (Int.ofNat i*4) (i*4),kY (Int.ofNat (i*4)+1) (i*4+1),ibd (i*4+1) b.length,kY (Int.ofNat i*4) (i*4),kY (Int.ofNat (i*4)+2) (i*4+2),ibd (i*4+2) b.length,kY (Int.ofNat i*4) (i*4),kY (Int.ofNat (i*4)+3) (i*4+3),ibd (i*4+3) b.length,
 iN i,0+i*1+1<=ws.length,kY (Int.ofNat i+1) (i+1)]
theorem ak6:cR ak Z5 [(10,.split),(15,.di (.int .i64 (Int.ofNat (i*4)))),(21,.di (.int .i64 (Int.ofNat (i*4)))),(22,.di (.int .i64 (Int.ofNat (i*4+1)))),(29,.di (.int .i64 (Int.ofNat (i*4)))),(30,.di (.int .i64 (Int.ofNat (i*4+2)))),(37,.di (.int .i64 (Int.ofNat (i*4)))),(38,.di (.int .i64 (Int.ofNat (i*4+3)))),(43,.di (.int .i64 (Int.ofNat (i+1))))] 1000 3 Tryz.f97 [0,2,9] (dz aey) (Z9 b ws i) []
  [([(decide (Int.ofNat i<16),true)],scA b ws i,.to .normal (Z9 b (fZ ws (0+i*1) [I0 b i]) (i+1))),([(decide (Int.ofNat i<16),false)],[],.to (.exit 0) (Z9 b ws i))]:=by
 unfold cR;kernel_rfl
theorem ak7:cR ak Z5 [(4,.di (.int .i64 (Int.ofNat 16)))] 1000 3 Tryz.f97 [2,4] (dP aez) (Z9 b ws i) [] [([],[V.int .i64 16=V.int .i64 16],.to .normal (sSB ws 16))]:=by
 unfold cR;kernel_rfl
def scB:ah:=[kY (Int.ofNat i-15) (i-15),iN (i-15),0+(i-15)*1<ws.length,kY (Int.ofNat i-2) (i-2),iN (i-2),0+(i-2)*1<ws.length,kY (Int.ofNat i-16) (i-16),iN (i-16),0+(i-16)*1<ws.length,kY (Int.ofNat i-7) (i-7),iN (i-7),0+(i-7)*1<ws.length,
 iN i,0+i*1+1<=ws.length,kY (Int.ofNat i+1) (i+1)]
theorem ak8:cR ak Z5 [(45,.split),(49,.di (.int .i64 (Int.ofNat (i-15)))),(53,.di (.int .i64 (Int.ofNat (i-2)))),(74,.di (.int .i64 (Int.ofNat (i-16)))),(80,.di (.int .i64 (Int.ofNat (i-7)))),(47,.di (.int .i64 (Int.ofNat (i+1))))] 1000 3 Tryz.f97 [2,4] (dz ak2) (sSB ws i) []
  [([(decide (Int.ofNat i<64),true)],scB ws i,.to .normal (sSB (fZ ws (0+i*1) [IZ ws i]) (i+1))),([(decide (Int.ofNat i<64),false)],[],.to (.exit 2) (sSB ws i))]:=by
 unfold cR;kernel_rfl
def aac:V:=.agg ((List.range 64).map fun j=>.int .u32 (ws.getD j 0))
theorem ak9:cR ak Z5 [] 1000 3 Tryz.f97 [] ak3 (sSB ws i) [] [([],[64<=ws.length,64<=ws.length],.ret (aac ws) (J []) 3)]:=by
 unfold cR;kernel_rfl
end
theorem dV{i:Nat}{es:Exit->St->Prop}{s:St}:mY i es (.exit i) s=es .normal s:=by simp[mY]
theorem Dm{px:List Int}{o:Nat}{l:List Int}(h:o+l.length<=px.length):(fZ px o l).length=px.length:=by
 unfold fZ;simp only[ax,aZ,bV];omega
theorem fK{x:Int}(N:-9000000000000000000<=x)(B:x<=9000000000000000000):IntKind.i64.wrap x=x:=by
 unfold IntKind.wrap;have e1:(2^IntKind.i64.bits:Int)=18446744073709551616:=by decide
 have e2:(2^(IntKind.i64.bits-1):Int)=9223372036854775808:=by decide
 have e3:IntKind.i64.signed=true:=rfl;simp only[e1,e2,e3,Bool.true_and,bD];split<;>omega
theorem fL{x:Int}{n:Nat}(h:x=(n:Int))(hb:n<1000000000000):kY x n:=by
 unfold kY;rw[fK K K,h];rfl
def Yz(b:L):Nat->List Int
 |0=>List.replicate 64 0
 |i+1=>fZ (Yz b i) (0+i*1) [I0 b i]
theorem B2(b:L):∀i,i<=16->(Yz b i).length=64
 |0,_=>bM ..
 |i+1,h=>by
  have ih:=B2 b i K;show(fZ (Yz b i) (0+i*1) [I0 b i]).length=64;rw[Dm (by simp only[aS,bR];omega),ih]
def Ew(b:L):Nat->List Int
 |0=>Yz b 16
 |j+1=>fZ (Ew b j) (0+(16+j)*1) [IZ (Ew b j) (16+j)]
theorem zm(b:L):∀j,j<=48->(Ew b j).length=64
 |0,_=>B2 b 16 (aA _)
 |j+1,h=>by
  have ih:=zm b j K;show(fZ (Ew b j) (0+(16+j)*1) [IZ (Ew b j) (16+j)]).length=64;rw[Dm (by simp only[aS,bR];omega),ih]
theorem ala(b:L)(hb:64<=b.length):TG ak 3 Tryz.f97.ntmps Z6 (cU [.str b] .nil 3) (fJ ak 3 Tryz.f97 fun u _ _=>u=aac (Ew b 48)):=by
 have hO:∀n:Nat,Int.ofNat n=(n:Int):=fun _=>rfl;refine lX 1 X0 mo U (ak4 b) (by simp) ?_;refine tS _ (aab b) ?_;show TG ak 3 Tryz.f97.ntmps Z7 _ _;refine cZ U ?_;refine zk X0 mo l9 U U (ak5 b _) (dG ?_);refine⟨by simp,fun s' dO=>?_⟩;refine fB (i:=0) U (fA (Q1:=fun z s'=>z= .exit 0/\∃aa,fa 3 aa s'=some (Z9 b (Yz b 16) 16)) (gw (fun k' s=>∃i,k'=16-i/\i<=16/\∃aa,fa 3 aa s=some (Z9 b (Yz b i) i)) U ?_ 16 ⟨0,rfl,aX _,_,dO⟩) ?_)
 . rintro k' s ⟨i,hk,hi,aa,hs⟩;refine c6 hs ?_;refine gC X0 mo l9 U (ak6 b (Yz b i) i) fun g hg I=>?_;simp only[aF,aL,bw]at hg;rcases hg with rfl|rfl
   . have fI:i<16:=by
      have:=aE (I _ (aq.2 rfl));rw[hO]at this;omega
     refine⟨fun p hp=>?_,fun s' dO=>⟨16-(i+1),K,i+1,rfl,K,[0,2,9],dO⟩⟩;have hl:=B2 b i K;simp only[scA,aF,aL,bw]at hp;rcases hp with rfl|rfl|rfl|rfl|rfl|rfl|rfl|rfl|rfl|rfl|rfl|rfl|rfl|rfl
     . exact fL dm K
     . exact⟨az _,K⟩
     . exact fL dm K
     . exact fL dm K
     . exact⟨az _,K⟩
     . exact fL dm K
     . exact fL dm K
     . exact⟨az _,K⟩
     . exact fL dm K
     . exact fL dm K
     . exact⟨az _,K⟩
     . exact⟨az _,dm⟩
     . omega
     . exact fL dm K
   . have y6:¬i<16:=by
      have:=aJ (I _ (aq.2 rfl));rw[hO]at this;omega
     obtain rfl:i=16:=by omega
     exact⟨by simp,fun s' dO=>⟨rfl,_,dO⟩⟩
 rintro y s2 ⟨rfl,aa,jr⟩;rw[dV];simp only[andThen];refine c6 jr ?_;show TG ak 3 Tryz.f97.ntmps Z8 _ _;refine cZ U ?_;refine zk X0 mo l9 U U (ak7 b _ 16) (dG ?_);refine⟨fun p hp=>by rw[aq]at hp;subst hp;rfl,fun s' dO=>?_⟩;refine fB (i:=2) U (fA (Q1:=fun z s'=>z= .exit 2/\∃aa,fa 3 aa s'=some (sSB (Ew b 48) 64)) (gw (fun k' s=>∃j,k'=48-j/\j<=48/\∃aa,fa 3 aa s=some (sSB (Ew b j) (16+j))) U ?_ 48 ⟨0,rfl,aX _,_,dO⟩) ?_)
 . rintro k' s ⟨j,hk,hj,aa,hs⟩;refine c6 hs ?_;refine gC X0 mo l9 U (ak8 (Ew b j) (16+j)) fun g hg I=>?_;simp only[aF,aL,bw]at hg;rcases hg with rfl|rfl
   . have fI:j<48:=by
      have:=aE (I _ (aq.2 rfl));rw[hO]at this;omega
     refine⟨fun p hp=>?_,fun s' dO=>⟨48-(j+1),K,j+1,rfl,K,[2,4],dO⟩⟩;have hl:=zm b j K;simp only[scB,aF,aL,bw]at hp;rcases hp with rfl|rfl|rfl|rfl|rfl|rfl|rfl|rfl|rfl|rfl|rfl|rfl|rfl|rfl|rfl
     . exact fL dm K
     . exact⟨az _,dm⟩
     . omega
     . exact fL dm K
     . exact⟨az _,dm⟩
     . omega
     . exact fL dm K
     . exact⟨az _,dm⟩
     . omega
     . exact fL dm K
     . exact⟨az _,dm⟩
     . omega
     . exact⟨az _,dm⟩
     . omega
     . exact fL dm K
   . have y6:¬j<48:=by
      have:=aJ (I _ (aq.2 rfl));rw[hO]at this;omega
     obtain rfl:j=48:=by omega
     exact⟨by simp,fun s' dO=>⟨rfl,_,dO⟩⟩
 . rintro y s2 ⟨rfl,aa,jr⟩;rw[dV];simp only[andThen];refine c6 jr ?_;refine gA X0 mo _ U (ak9 (Ew b 48) 64) (dG ?_);have hl:=zm b 48 (aA _);refine⟨fun p hp=>?_,_,_,_,rfl,rfl⟩;simp only[aF,aL,bw]at hp;rcases hp with rfl|rfl<;>omega
def KX:ag->Option (ah×V)
 | [.str b]=>some ([64<=b.length],aac (Ew b 48))
 |_=>none
theorem aad:jv ak 97 (jS KX):=by
 refine kj (au U) fun args cS v e=>?_;unfold KX at e;split at e
 . obtain⟨rfl,rfl⟩:=fg e;exact⟨rfl,U,fun hA=>ic mo po Tryz.func97 U U rfl (ala _ (hA _ (by simp)))⟩
 . cases e
noncomputable abbrev W1:jQ:=jD 97 (jS KX) noW
theorem YA:gl ak W1:=e9 aad (QX _)
noncomputable abbrev cs1:fb:=gP ak W1 H0 1000 40
noncomputable abbrev X1:CX ak:=CX.of mo po YA H0 1000 40
def AG(a b:Int):Int:=w32 ↑(BitVec.ofInt 32 a&&&BitVec.ofInt 32 b).toNat
abbrev E8:=Int×Int×Int×Int×Int×Int×Int×Int
def bS1(e:Int):Int:=nH (nH (Dl 67108864 64 e) (Dl 2097152 2048 e)) (Dl 128 33554432 e)
def bS0(a:Int):Int:=nH (nH (Dl 1073741824 4 a) (Dl 524288 8192 a)) (Dl 1024 4194304 a)
def chI(e f g:Int):Int:=nH (AG e f) (AG (nH 4294967295 e) g)
def maI(a b c:Int):Int:=nH (nH (AG a b) (AG a c)) (AG b c)
section
variable(rd ws:List Int)(i:Nat)
def rdX:E8->Int
 |(_,_,_,_,e,f,g,h)=>w32 (w32 (w32 (w32 (h+bS1 e)+chI e f g)+gW rd i)+gW ws i)
def BL:E8->E8
 |(a,b,c,d,e,f,g,h)=>(w32 (rdX rd ws i (a,b,c,d,e,f,g,h)+w32 (bS0 a+maI a b c)),a,b,c,w32 (d+rdX rd ws i (a,b,c,d,e,f,g,h)),e,f,g)
def c8(q:E8):ag:=[.int .u32 q.1,.int .u32 q.2.1,.int .u32 q.2.2.1,.int .u32 q.2.2.2.1,.int .u32 q.2.2.2.2.1,.int .u32 q.2.2.2.2.2.1,.int .u32 q.2.2.2.2.2.2.1,.int .u32 q.2.2.2.2.2.2.2]
def aae:E8->E8->E8
 |(a,b,c,d,e,f,g,h),(a',b',c',d',e',f',g',h')=>(w32 (a+a'),w32 (b+b'),w32 (c+c'),w32 (d+d'),w32 (e+e'),w32 (f+f'),w32 (g+g'),w32 (h+h'))
noncomputable abbrev Va:Code:=dN Tryz.f72
noncomputable abbrev aaf:Code:=dh 3 Va
noncomputable abbrev aeB:Code:=dP aaf
noncomputable abbrev alf:Code:=dz (dY aeB)
noncomputable abbrev alg:Code:=dY aaf
def Dn:List Int:=(List.range 64).map fun j=>ws.getD j 0
end
section
variable(rd ws:List Int)(a b c d e f g h a' b' c' d' e' f' g' h':Int)(i:Nat)
def aeC:List (Nat×V):=[(2,.ptr (some (3,0))),(4,.ptr (some (4,0))),(5,.ptr (some (5,0))),(6,.ptr (some (6,0)))]
def sC0(o:lf):St:=eG aeC (J [(1,.ints .u32 rd),(3,.cells (c8 (a,b,c,d,e,f,g,h))),(4,.cells (c8 (0,0,0,0,0,0,0,0))),(5,o),(6,.cells (c8 (a',b',c',d',e',f',g',h')))]) 7
def sCi:St:=eG (aeC++[(18,.int .i64 (Int.ofNat i))]) (J [(1,.ints .u32 rd),(3,.cells (c8 (a,b,c,d,e,f,g,h))),(4,.cells (c8 (0,0,0,0,0,0,0,0))),(5,.own .u32 ws),(6,.cells (c8 (a',b',c',d',e',f',g',h')))]) 7
theorem alh(s:L):cR ak cs1 [] 1000 3 Tryz.f72 [2,4,5,6] (eV 3 Va) (cU [.agg (c8 (a,b,c,d,e,f,g,h)),.str s] (J [(1,.ints .u32 rd)]) 3) []
  [([],[64<=s.length],.to .normal (sC0 rd a b c d e f g h a b c d e f g h (.cells ((List.range 64).map fun j=>.int .u32 ((Ew s 48).getD j 0)))))]:=by
 unfold cR;kernel_rfl
theorem aag:KT [(5,.u32)] (sC0 rd a b c d e f g h a' b' c' d' e' f' g' h' (.cells ((List.range 64).map fun j=>.int .u32 (ws.getD j 0))))=some (sC0 rd a b c d e f g h a' b' c' d' e' f' g' h' (.own .u32 (Dn ws))):=by
 kernel_rfl
theorem ali:cR ak cs1 [(18,.di (.int .i64 (Int.ofNat 0)))] 1000 3 Tryz.f72 [2,4,5,6,18] (dP aeB) (sC0 rd a b c d e f g h a' b' c' d' e' f' g' h' (.own .u32 ws)) [] [([],[V.int .i64 0=V.int .i64 0],.to .normal (sCi rd ws a b c d e f g h a' b' c' d' e' f' g' h' 0))]:=by
 unfold cR;kernel_rfl
theorem alj:c9 cs1 [(19,.split),(101,.di (.int .i64 (Int.ofNat (i+1))))] 3 Tryz.f72 [2,4,5,6,18] (dz alf) (sCi rd ws a b c d e f g h a' b' c' d' e' f' g' h' i) [([(decide (Int.ofNat i<64),true)],[iN i,0+i*1<rd.length,iN i,0+i*1<ws.length,kY (Int.ofNat i+1) (i+1)],
   .to .normal (sCi rd ws a b c d e f g h (BL rd ws i (a',b',c',d',e',f',g',h')).1 (BL rd ws i (a',b',c',d',e',f',g',h')).2.1 (BL rd ws i (a',b',c',d',e',f',g',h')).2.2.1 (BL rd ws i (a',b',c',d',e',f',g',h')).2.2.2.1 (BL rd ws i (a',b',c',d',e',f',g',h')).2.2.2.2.1 (BL rd ws i (a',b',c',d',e',f',g',h')).2.2.2.2.2.1 (BL rd ws i (a',b',c',d',e',f',g',h')).2.2.2.2.2.2.1 (BL rd ws i (a',b',c',d',e',f',g',h')).2.2.2.2.2.2.2 (i+1))),
   ([(decide (Int.ofNat i<64),false)],[],.to (.exit 0) (sCi rd ws a b c d e f g h a' b' c' d' e' f' g' h' i))]:=
 cR.of U U U
abbrev YB(k:Int):ah:=[0<=k/\k<8,0<=k/\k<8,0<=k/\k<8]
theorem alk:cR ak cs1 [] 1000 3 Tryz.f72 [] alg (sCi rd ws a b c d e f g h a' b' c' d' e' f' g' h' i) []
  [([],YB 0++(YB 1++(YB 2++(YB 3++(YB 4++(YB 5++(YB 6++YB 7)))))),.ret (.agg (c8 (aae (a',b',c',d',e',f',g',h') (a,b,c,d,e,f,g,h)))) (J [(1,.ints .u32 rd)]) 3)]:=by
 unfold cR;kernel_rfl
end
def vF(rd ws:List Int)(q:E8):Nat->E8
 |0=>q
 |i+1=>BL rd ws i (vF rd ws q i)
abbrev sCq(rd ws:List Int)(q q':E8)(i:Nat):St:=sCi rd ws q.1 q.2.1 q.2.2.1 q.2.2.2.1 q.2.2.2.2.1 q.2.2.2.2.2.1 q.2.2.2.2.2.2.1 q.2.2.2.2.2.2.2 q'.1 q'.2.1 q'.2.2.1 q'.2.2.2.1 q'.2.2.2.2.1 q'.2.2.2.2.2.1 q'.2.2.2.2.2.2.1 q'.2.2.2.2.2.2.2 i
def zn(rd:List Int)(s:L)(q:E8):E8:=aae (vF rd (Dn (Ew s 48)) q 64) q
theorem alm(rd:List Int)(ZG:64<=rd.length)(s:L)(aln:64<=s.length)(q:E8):TG ak 3 Tryz.f72.ntmps Va (cU [.agg (c8 q),.str s] (J [(1,.ints .u32 rd)]) 3)
  (fJ ak 3 Tryz.f72 fun u _ _=>u= .agg (c8 (zn rd s q))):=by
 have hO:∀n:Nat,Int.ofNat n=(n:Int):=fun _=>rfl;obtain⟨a,b,c,d,e,f,g,h⟩:=q;refine lX 3 X1 mo U (alh rd a b c d e f g h s) (fun p hp=>by rw[aq]at hp;subst hp;exact aln) ?_;refine tS _ (aag rd (Ew s 48) a b c d e f g h a b c d e f g h) ?_;show TG ak 3 Tryz.f72.ntmps aaf _ _;have uz:(Dn (Ew s 48)).length=64:=by unfold Dn;rw[aT,List.length_range]
 generalize hW:Dn (Ew s 48)=ws at uz ⊢;refine cZ U ?_;refine zk X1 mo l9 U U (ali rd ws a b c d e f g h a b c d e f g h) fun g' hg _=>?_;rw[aq]at hg;subst hg;refine⟨fun p hp=>by rw[aq]at hp;subst hp;rfl,fun s' dO=>?_⟩;refine fB (i:=0) U (fA (Q1:=fun z s'=>z= .exit 0/\∃aa,fa 3 aa s'=some (sCq rd ws (a,b,c,d,e,f,g,h) (vF rd ws (a,b,c,d,e,f,g,h) 64) 64)) (gw (fun k' s=>∃i,k'=64-i/\i<=64/\∃aa,fa 3 aa s=some (sCq rd ws (a,b,c,d,e,f,g,h) (vF rd ws (a,b,c,d,e,f,g,h) i) i)) U ?_ 64 ⟨0,rfl,aX _,_,dO⟩) ?_)
 . rintro k' s0 ⟨i,hk,hi,aa,hs⟩;refine c6 hs ?_;obtain⟨L',hr⟩:=alj rd ws a b c d e f g h (vF rd ws (a,b,c,d,e,f,g,h) i).1 (vF rd ws (a,b,c,d,e,f,g,h) i).2.1 (vF rd ws (a,b,c,d,e,f,g,h) i).2.2.1 (vF rd ws (a,b,c,d,e,f,g,h) i).2.2.2.1 (vF rd ws (a,b,c,d,e,f,g,h) i).2.2.2.2.1 (vF rd ws (a,b,c,d,e,f,g,h) i).2.2.2.2.2.1 (vF rd ws (a,b,c,d,e,f,g,h) i).2.2.2.2.2.2.1 (vF rd ws (a,b,c,d,e,f,g,h) i).2.2.2.2.2.2.2 i;refine gC X1 mo l9 U hr fun g' hg I=>?_;simp only[aF,aL,bw]at hg;rcases hg with rfl|rfl
   . have fI:i<64:=by
      have:=aE (I _ (aq.2 rfl));rw[hO]at this;omega
     refine⟨fun p hp=>?_,fun s' dO=>⟨64-(i+1),K,i+1,rfl,K,[2,4,5,6,18],dO⟩⟩;simp only[aF,aL,bw]at hp;rcases hp with rfl|rfl|rfl|rfl|rfl
     . exact⟨az _,dm⟩
     . omega
     . exact⟨az _,dm⟩
     . omega
     . exact fL dm K
   . have y6:¬i<64:=by
      have:=aJ (I _ (aq.2 rfl));rw[hO]at this;omega
     obtain rfl:i=64:=by omega
     exact⟨by simp,fun s' dO=>⟨rfl,[2,4,5,6,18],dO⟩⟩
 . rintro y s2 ⟨rfl,aa,jr⟩;rw[dV];simp only[andThen];refine c6 jr ?_;refine gA X1 mo _ U (alk rd ws a b c d e f g h _ _ _ _ _ _ _ _ 64) fun g' hg _=>?_;rw[aq]at hg;subst hg;refine⟨fun p hp=>?_,_,_,_,rfl,?_⟩
   . simp only[aW,aF,aL,bw,or_self]at hp;rcases hp with rfl|rfl|rfl|rfl|rfl|rfl|rfl|rfl<;>decide
   . unfold zn;rw[hW]
def PE:List (Option (Nat×Nat)):=[some (0,0),some (1,0),some (2,0)]
theorem Ri:∀p∈jU,PE[p.2]? =some (some (p.2,0)):=by
 intro p hp;simp only[jU,aF,aL,bw]at hp;rcases hp with rfl|rfl|rfl<;>rfl
def KY:ag->H lf->Option (ah×V)
 | [.agg [.int .u32 a,.int .u32 b,.int .u32 c,.int .u32 d,.int .u32 e,.int .u32 f,.int .u32 g,.int .u32 x],.str s],h=>match h.get 1 with
   |some (.ints .u32 rd)=>some ([64<=rd.length,64<=s.length],.agg (c8 (zn rd s (a,b,c,d,e,f,g,x))))
   |_=>none
 |_,_=>none
theorem aah:QU ak 72 KY:=by
 refine⟨au U,fun args h cS u e=>?_⟩;unfold KY at e;split at e
 case h_2=>cases e
 rename_i a b c d e1 f g x s;split at e
 case h_2=>cases e
 rename_i rd W;obtain⟨rfl,rfl⟩:=fg e;refine⟨rfl,fun hA E n' w' de ra g0 hd I=>?_⟩;obtain⟨g2,d2,n2⟩:=MH g0 PE [none,some (.u32,rd),none] (au rfl) Ri (by
  intro j k' Yc hj
  match j,hj with
  |0,hj=>cases hj
  |1,hj=>cases hj;exact⟨1,0,rd,rfl,W,rfl⟩
  |2,hj=>cases hj
  |j+3,hj=>simp at hj)
 exact Dd mo po Tryz.func72 (code:=Va) U U (alm rd (hA _ (by simp)) s (hA (64<=s.length) (by simp)) (a,b,c,d,e1,f,g,x)) (E:=E.rows PE) g2 d2 n2 (mX _ _ rfl ra)
noncomputable abbrev W2:jQ:=jD 72 (MG KY) W1
theorem YC:gl ak W2:=e9 (IQ aah) YA
noncomputable abbrev vw:fb:=gP ak W2 H0 1000 40
noncomputable abbrev X2:CX ak:=CX.of mo po YC H0 1000 40
section
variable(x:Int)
def pB(d:Int):UInt8:=UInt8.ofNat (IntKind.u8.wrap ((IntKind.u64.wrap x).fdiv d)).toNat
def mD:L:=[pB x 72057594037927936,pB x 281474976710656,pB x 1099511627776,pB x 4294967296,pB x 16777216,pB x 65536,pB x 256,pB x 1]
def dX:L:=[pB x 16777216,pB x 65536,pB x 256,pB x 1]
def pR:L:=[pB x 1]
abbrev b8:ah:=[(0:Int)<=0/\(0:Int)<8,(0:Int)<=1/\(1:Int)<8,(0:Int)<=2/\(2:Int)<8,(0:Int)<=3/\(3:Int)<8,(0:Int)<=4/\(4:Int)<8,(0:Int)<=5/\(5:Int)<8,(0:Int)<=6/\(6:Int)<8,(0:Int)<=7/\(7:Int)<8]
theorem Rj:∀p∈b8,p:=by
 intro p hp;simp only[aF,aL,bw]at hp;rcases hp with rfl|rfl|rfl|rfl|rfl|rfl|rfl|rfl<;>decide
noncomputable abbrev aai:Code:=dN Tryz.f59
theorem alo:cR ak vw [] 1000 3 Tryz.f59 [] aai (cU [.int .i64 x,.int .i64 8] .nil 3) [] [([],b8,.ret (.str (mD x)) (J []) 3)]:=by
 unfold cR;kernel_rfl
theorem alp:cR ak vw [] 1000 3 Tryz.f59 [] aai (cU [.int .i64 x,.int .i64 4] .nil 3) [] [([],b8,.ret (.str (dX x)) (J []) 3)]:=by
 unfold cR;kernel_rfl
theorem alq:cR ak vw [] 1000 3 Tryz.f59 [] aai (cU [.int .i64 x,.int .i64 1] .nil 3) [] [([],b8,.ret (.str (pR x)) (J []) 3)]:=by
 unfold cR;kernel_rfl
end
def KZ:ag->Option (ah×V)
 | [.int .i64 x,.int .i64 k]=>match k with
   | .ofNat 8=>some ([],.str (mD x))
   | .ofNat 4=>some ([],.str (dX x))
   | .ofNat 1=>some ([],.str (pR x))
   |_=>none
 |_=>none
theorem GO{P:Program}{M:Nat}{fn:Func}{c:Code}{s:St}(X':CX P)(W:P.follows .mixedOrders=true){Tr:List (Nat×oZ)}{rt:Nat}{live:List Nat}{cS:ah}{v:V}{h:H lf}{n:Nat}(I:fc fn.ntmps c=true)
  (hr:cR P X'.C Tr rt M fn live c s [] [([],cS,.ret v h n)]) (hA:∀a∈cS,a):TG P M fn.ntmps c s (fJ P M fn fun u _ _=>u=v):=by
 refine gA X' W _ I hr (dG ?_);exact⟨hA,_,_,_,rfl,rfl⟩
theorem aaj:jv ak 59 (jS KZ):=by
 refine kj (au U) fun args cS v e=>?_;unfold KZ at e;split at e
 . split at e
   . obtain⟨rfl,rfl⟩:=fg e;exact⟨rfl,U,fun _=>ic mo po Tryz.func59 U U rfl (GO X2 mo U (alo _) Rj)⟩
   . obtain⟨rfl,rfl⟩:=fg e;exact⟨rfl,U,fun _=>ic mo po Tryz.func59 U U rfl (GO X2 mo U (alp _) Rj)⟩
   . obtain⟨rfl,rfl⟩:=fg e;exact⟨rfl,U,fun _=>ic mo po Tryz.func59 U U rfl (GO X2 mo U (alq _) Rj)⟩
   . cases e
 . cases e
open Go.Shelf Go.RowKit
def Rk:Go.Shelf.Ren:=⟨fun|105=>71|212=>93|99=>94|165=>95|166=>58|170=>96|169=>60|263=>118|264=>119|206=>120|240=>84|241=>121|276=>112|277=>146|n=>n,fun|9=>9|3=>3|4=>4|20=>20|0=>0|46=>144|109=>145|5=>5|72=>102|76=>105|51=>120|146=>164|53=>135|148=>166|70=>100|37=>30|75=>104|127=>137|164=>158|80=>108|n=>n,fun n=>n⟩
theorem tY:Lays.n105 ak Rk:={
 mixed:=mo
 f99:=Tryz.func94.trans (aN some U)
 f105:=Tryz.func71.trans (aN some U)
 f165:=Tryz.func95.trans (aN some U)
 f166:=Tryz.func58.trans (aN some U)
 f169:=Tryz.func60.trans (aN some U)
 f170:=Tryz.func96.trans (aN some U)
 f206:=Tryz.func120.trans (aN some U)
 f212:=Tryz.func93.trans (aN some U)
 f240:=Tryz.func84.trans (aN some U)
 f241:=Tryz.func121.trans (aN some U)
 f263:=Tryz.func118.trans (aN some U)
 f264:=Tryz.func119.trans (aN some U)
 f276:=Tryz.func112.trans (aN some U)
 f277:=Tryz.func146.trans (aN some U)
 t0:=Tryz.underlying0
 a0:=Tryz.isAgg0
 z0:=Tryz.sizeOf0
 v0:=Tryz.zeroValue0
 t3:=Tryz.underlying3
 a3:=Tryz.isAgg3
 z3:=Tryz.sizeOf3
 v3:=Tryz.zeroValue3
 t4:=Tryz.underlying4
 a4:=Tryz.isAgg4
 z4:=Tryz.sizeOf4
 v4:=Tryz.zeroValue4
 t5:=Tryz.underlying5
 a5:=Tryz.isAgg5
 z5:=Tryz.sizeOf5
 v5:=Tryz.zeroValue5
 t9:=Tryz.underlying9
 a9:=Tryz.isAgg9
 z9:=Tryz.sizeOf9
 v9:=Tryz.zeroValue9
 t20:=Tryz.underlying20
 a20:=Tryz.isAgg20
 z20:=Tryz.sizeOf20
 v20:=Tryz.zeroValue20
 t37:=Tryz.underlying30
 a37:=Tryz.isAgg30
 z37:=Tryz.sizeOf30
 v37:=Tryz.zeroValue30
 t46:=Tryz.underlying144
 a46:=Tryz.isAgg144
 z46:=Tryz.sizeOf144
 v46:=Tryz.zeroValue144
 t51:=Tryz.underlying120
 a51:=Tryz.isAgg120
 z51:=Tryz.sizeOf120
 v51:=Tryz.zeroValue120
 t53:=Tryz.underlying135
 a53:=Tryz.isAgg135
 z53:=Tryz.sizeOf135
 v53:=Tryz.zeroValue135
 t70:=Tryz.underlying100
 a70:=Tryz.isAgg100
 z70:=Tryz.sizeOf100
 v70:=Tryz.zeroValue100
 t72:=Tryz.underlying102
 a72:=Tryz.isAgg102
 z72:=Tryz.sizeOf102
 v72:=Tryz.zeroValue102
 t75:=Tryz.underlying104
 a75:=Tryz.isAgg104
 z75:=Tryz.sizeOf104
 v75:=Tryz.zeroValue104
 t76:=Tryz.underlying105
 a76:=Tryz.isAgg105
 z76:=Tryz.sizeOf105
 v76:=Tryz.zeroValue105
 t109:=Tryz.underlying145
 a109:=Tryz.isAgg145
 z109:=Tryz.sizeOf145
 v109:=Tryz.zeroValue145
 t127:=Tryz.underlying137
 a127:=Tryz.isAgg137
 z127:=Tryz.sizeOf137
 v127:=Tryz.zeroValue137
 t146:=Tryz.underlying164
 a146:=Tryz.isAgg164
 z146:=Tryz.sizeOf164
 v146:=Tryz.zeroValue164
 t148:=Tryz.underlying166
 a148:=Tryz.isAgg166
 z148:=Tryz.sizeOf166
 v148:=Tryz.zeroValue166
 t164:=Tryz.underlying158
 a164:=Tryz.isAgg158
 z164:=Tryz.sizeOf158
 v164:=Tryz.zeroValue158
}
theorem GP:Builder.Extra ak Rk where
 sizeBuilder:=by kernel_rfl
 liesBuilder:=by kernel_rfl
 t5:=tY.t5
 a5:=tY.a5
 z5:=tY.z5
 v5:=tY.v5
 infoByte:=by kernel_rfl
 cellsByte:=by kernel_rfl
 sizeByte:=by kernel_rfl
 neB5:=by decide
def K0:ag->Option (ah×V)
 | [.str [0],.int .i64 x]=>some ([0<=x/\x<=1000],.str (List.replicate x.toNat 0))
 |_=>none
theorem aak:jv ak 71 (jS K0):=by
 refine kj (au U) fun args cS v e=>?_;unfold K0 at e;split at e
 . rename_i x;obtain⟨rfl,rfl⟩:=fg e;refine⟨rfl,rfl,fun hA E w de _ ra=>?_⟩;have G:=hA _ (aq.2 rfl);obtain⟨c,rfl⟩:∃c:Nat,x=(c:Int):=⟨x.toNat,K⟩;obtain⟨y,ys,r0,⟨z,zs,r1,D,rfl⟩,rfl⟩:=ra;have D:zs=[]:=D;subst D;have r1:z= .int .i64 (c:Int):=r1;subst r1;have r0:y= .string ⟨#[0]⟩:=r0;subst r0;have h:=Any.strings_Repeat tY GP ⟨#[0]⟩ c w K (by show 1*c<=_;omega);refine h.mono fun en w' ⟨he,hw⟩=>⟨⟨E,?_⟩,hw⟩;rw[he];have e:Lib.repeatL (ByteArray.mk #[0]).data.toList c=List.replicate c 0:=by
    have:=Lib.repeatL_replicate 0 1 c;rw[bk]at this;exact this
   rw[e];exact rfl
 . cases e
noncomputable abbrev W3:jQ:=jD 71 (jS K0) (jD 59 (jS KZ) W2)
theorem aeD:gl ak W3:=e9 aak (e9 aaj YC)
def K1:ag->H lf->Nat->Option (ah×V×H lf×Nat)
 | [.ptr (some (m,0))],h,n=>match h.get m with
   |some (.AX t _ x)=>match Nat.beq t 102&&Nat.blt m fP with
    |true=>some ([],.ew [],h.set m (some (.AX t true x)),n)
    |false=>none
   |_=>none
 |_,_,_=>none
theorem aal:jv ak 84 K1:=by
 refine⟨au U,fun args h n cS v h' n' e hA E w de ra g hd I=>?_⟩;unfold K1 at e;split at e
 case h_2=>cases e
 rename_i m;split at e
 case h_2=>cases e
 rename_i t self x W;split at e
 case h_2=>cases e
 rename_i hq;simp only[aC]at hq;obtain⟨ht,y8⟩:=hq;have ht:=aD ht;subst ht;have y8:m<fP:=au y8;simp only[an,aB]at e;obtain⟨rfl,rfl,rfl,rfl⟩:=e;obtain⟨y,ys,r0,D,rfl⟩:=ra;have D:ys=[]:=D;subst D;obtain⟨b,s,e1,rfl⟩:=r0;obtain⟨b',s',e2,hs,x',fz,k1,k2,k3,k4⟩:=g.rel m _ W;rw[e1]at e2;simp only[an,aB]at e2;obtain⟨rfl,rfl⟩:=e2;subst hs;have hbb:b<w.heap.size:=g.mK m b 0 e1;have iH:eE h m:=⟨_,W,rfl⟩;have mC:∀{self:Bool},w.heap[b]? =some (.cells #[.pointer (if self then some ⟨b,0,none⟩else none),x'] 102 fz)->w.cell? ⟨b,0,none⟩=some (.pointer (if self then some ⟨b,0,none⟩else none)):=by
  intro self k1;unfold World.cell?;rw[k1];rfl
 have Rl:∀w',w'.heap.size=w.heap.size->w'.tape=w.tape->w'.os=w.os->w'.output=w.output->(∀j,j≠b->w'.heap[j]? =w.heap[j]?)->w'.heap[b]? =some (.cells #[.pointer (some ⟨b,0,none⟩),x'] 102 fz)->
   jI E h n w (.ret (.ew [])) (h.set m (some (.AX 102 true x))) n (.returned (.tuple #[])) w':=by
  intro w' N B h3 h4 h5 h6;refine⟨E,iG.write g y8 iH e1 N B h3 h4 h5 ⟨rfl,x',fz,h6,k2,k3,k4⟩,fun _ _=>rfl,hd,aA _,⟨[],rfl,rfl⟩⟩
 cases self with
 |true=>
  have h:=Any.Builder_copyCheck_used { tY with } { GP with } b w (mC k1);refine h.mono fun en w' ⟨he,hw⟩=>?_;subst he;subst hw;exact Rl w' rfl rfl rfl rfl (fun _ _=>rfl) k1
 |false=>
  have h:=Any.Builder_copyCheck_fresh { tY with } { GP with } b w (mC k1) (by unfold World.shape?;rw[k1];rfl) (by
   unfold World.frozen?;simp only[k1];have:=k3 0 K;obtain⟨lo,hi⟩:=fz;simp only at this ⊢;cases hq:(decide (lo<=0)&&decide (0<hi))with
   |false=>rfl
   |true=>simp only[aC,bD]at hq;exact absurd hq this)
  refine h.mono fun en w' ⟨he,hw⟩=>?_;subst he;subst hw;refine Rl _ (by simp[World.setCell]) rfl rfl rfl (fun j hj=>by simp[World.setCell,cq,Ne.symm hj]) ?_;simp[World.setCell,cq,k1]
noncomputable abbrev W4:jQ:=jD 84 K1 W3
theorem YD:gl ak W4:=e9 aal aeD
noncomputable abbrev cs4:fb:=gP ak W4 H0 1000 40
noncomputable abbrev X4:CX ak:=CX.of mo po YD H0 1000 40
noncomputable abbrev Vb:Code:=dN Tryz.f38
noncomputable abbrev aam:Code:=dh 4 Vb
noncomputable abbrev aeF:Code:=dP aam
noncomputable abbrev Vc:Code:=dY aam
noncomputable abbrev alr:Code:=dP Vc
noncomputable abbrev als:Code:=dY Vc
section
variable(s:L)(st:List Int)
def Ed(rd:List Int):H lf:=J [(0,.ints .u32 st),(1,.ints .u32 rd)]
def iA:Nat:=(119-s.length%64)%64
def mZ:L:=((s.take s.length).drop (s.length/64*64)++[128]++List.replicate (iA s) 0)++mD (Int.ofNat (s.length*8))
def K2:E8:=(st.getD 0 0,st.getD 1 0,st.getD 2 0,st.getD 3 0,st.getD 4 0,st.getD 5 0,st.getD 6 0,st.getD 7 0)
def B3(i:Nat):L:=(s.take (i+64)).drop i
end
def jT(rd:List Int)(s:L)(q:E8):Nat->E8
 |0=>q
 |j+1=>zn rd (B3 s (64*j)) (jT rd s q j)
def wB(x:Int):L:=dX (IntKind.i64.wrap x)
section
variable(st rd:List Int)(q:E8)(s p:L)
def Rm:L:=wB q.1++eT (ef (wB q.2.1))++eT (ef (wB q.2.2.1))++eT (ef (wB q.2.2.2.1))++eT (ef (wB q.2.2.2.2.1))++eT (ef (wB q.2.2.2.2.2.1))++eT (ef (wB q.2.2.2.2.2.2.1))++eT (ef (wB q.2.2.2.2.2.2.2))
def Rn:L:=Rm (jT rd (mZ s) (jT rd s (K2 st) (s.length/64)) ((mZ s).length/64))
def aeG:St:=eG [(0,.str s),(3,.ptr (some (3,0))),(5,.str p)] (J [(0,.ints .u32 st),(1,.ints .u32 rd),(3,.cells (c8 q))]) 4
def Oz(i:Nat):St:=eG [(0,.str s),(3,.ptr (some (3,0))),(5,.str p),(6,.int .i64 (Int.ofNat i))] (J [(0,.ints .u32 st),(1,.ints .u32 rd),(3,.cells (c8 q))]) 4
def I1:St:=eG [(3,.ptr (some (3,0))),(5,.str p)] (J [(0,.ints .u32 st),(1,.ints .u32 rd),(3,.cells (c8 q))]) 4
theorem alu:c9 cs4 [(13,.di (.int .i64 (Int.ofNat (s.length%64)))),(15,.di (.int .i64 (Int.ofNat (iA s)))),(20,.di (.int .i64 (Int.ofNat (s.length/64*64)))),(28,.di (.int .i64 (Int.ofNat (s.length*8))))] 3 Tryz.f38 [0,3,5] (eV 4 Vb) (cU [.str s] (Ed st rd) 3) [([],
   [(8<=st.length),(V.int aj (((Int.ofNat s.length)).tmod (64:Int))=V.int aj (Int.ofNat (s.length%64))),(V.int aj ((IntKind.i64.wrap ((119:Int)-Int.ofNat (s.length%64))).tmod (64:Int))=V.int aj (Int.ofNat (iA s))),((64:Int)≠(0:Int)),(V.int aj (IntKind.i64.wrap (IntKind.i64.wrap (((Int.ofNat s.length)).tdiv (64:Int))*(64:Int)))=V.int aj (Int.ofNat (s.length/64*64))),((0:Int)<=Int.ofNat (s.length/64*64)/\Int.ofNat (s.length/64*64)<=(Int.ofNat s.length)),((List.drop (Int.ofNat (s.length/64*64)).toNat (List.take s.length s)).length+1<=9223372036854775807),((0:Int)<=Int.ofNat (iA s)/\Int.ofNat (iA s)<=(1000:Int)),((0:Int)<=Int.ofNat (s.length/64*64)/\Int.ofNat (s.length/64*64)<=(Int.ofNat s.length)),((List.drop (Int.ofNat (s.length/64*64)).toNat (List.take s.length s)++([(128:UInt8)]:L)).length+(List.replicate (Int.ofNat (iA s)).toNat (0:UInt8)).length<=9223372036854775807),(V.int aj (IntKind.i64.wrap ((Int.ofNat s.length)*(8:Int)))=V.int aj (Int.ofNat (s.length*8))),((0:Int)<=Int.ofNat (s.length/64*64)/\Int.ofNat (s.length/64*64)<=(Int.ofNat s.length)),((List.drop (Int.ofNat (s.length/64*64)).toNat (List.take s.length s)++([(128:UInt8)]:L)++List.replicate (Int.ofNat (iA s)).toNat (0:UInt8)).length+(mD (Int.ofNat (s.length*8))).length<=9223372036854775807)],
   .to .normal (eG [(0,.str (s)),(3,.ptr (some (3,0))),(5,.str (List.drop (Int.ofNat (s.length/64*64)).toNat (List.take s.length s)++([(128:UInt8)]:L)++List.replicate (Int.ofNat (iA s)).toNat (0:UInt8)++mD (Int.ofNat (s.length*8))))] (J [(0,.ints .u32 (st)),(1,.ints .u32 (rd)),(3,.cells [.int .u32 (st.getD 0 (0:Int)),.int .u32 (st.getD 1 (0:Int)),.int .u32 (st.getD 2 (0:Int)),.int .u32 (st.getD 3 (0:Int)),.int .u32 (st.getD 4 (0:Int)),.int .u32 (st.getD 5 (0:Int)),.int .u32 (st.getD 6 (0:Int)),.int .u32 (st.getD 7 (0:Int))])]) 4))]
 :=cR.of U U U
theorem alv:c9 cs4 [(6,.di (.int .i64 (Int.ofNat 0)))] 3 Tryz.f38 [0,3,5,6] (dP aeF) (aeG st rd q s p) [([],
   [(V.int aj (0:Int)=V.int aj (0:Int))],
   .to .normal (eG [(0,.str (s)),(3,.ptr (some (3,0))),(5,.str (p)),(6,.int .i64 0)] (J [(0,.ints .u32 (st)),(1,.ints .u32 (rd)),(3,.cells [.int .u32 (q.1),.int .u32 (q.2.1),.int .u32 (q.2.2.1),.int .u32 (q.2.2.2.1),.int .u32 (q.2.2.2.2.1),.int .u32 (q.2.2.2.2.2.1),.int .u32 (q.2.2.2.2.2.2.1),.int .u32 (q.2.2.2.2.2.2.2)])]) 4))]
 :=cR.of U U U
theorem alw:c9 cs4 [] 3 Tryz.f38 [] (als) (I1 st rd q p) [([],
   [(0<(dX (IntKind.i64.wrap q.1)).length),(eU (dX (IntKind.i64.wrap q.1)).length 1 1=true),(0<(dX (IntKind.i64.wrap q.1)).length),((dX (IntKind.i64.wrap q.1)).length=(dX (IntKind.i64.wrap q.1)).length),(eU ((dX (IntKind.i64.wrap q.1)).length+(dX (IntKind.i64.wrap q.2.1)).length) 1 1=true),(0<(dX (IntKind.i64.wrap q.1)).length+(dX (IntKind.i64.wrap q.2.1)).length),((dX (IntKind.i64.wrap q.1)).length+(dX (IntKind.i64.wrap q.2.1)).length=(dX (IntKind.i64.wrap q.1)++eT (ef (dX (IntKind.i64.wrap q.2.1)))).length),(eU ((dX (IntKind.i64.wrap q.1)).length+(dX (IntKind.i64.wrap q.2.1)).length+(dX (IntKind.i64.wrap q.2.2.1)).length) 1 1=true),(0<(dX (IntKind.i64.wrap q.1)).length+(dX (IntKind.i64.wrap q.2.1)).length+(dX (IntKind.i64.wrap q.2.2.1)).length),((dX (IntKind.i64.wrap q.1)).length+(dX (IntKind.i64.wrap q.2.1)).length+(dX (IntKind.i64.wrap q.2.2.1)).length=(dX (IntKind.i64.wrap q.1)++eT (ef (dX (IntKind.i64.wrap q.2.1)))++eT (ef (dX (IntKind.i64.wrap q.2.2.1)))).length),(eU ((dX (IntKind.i64.wrap q.1)).length+(dX (IntKind.i64.wrap q.2.1)).length+(dX (IntKind.i64.wrap q.2.2.1)).length+(dX (IntKind.i64.wrap q.2.2.2.1)).length) 1 1=true),(0<(dX (IntKind.i64.wrap q.1)).length+(dX (IntKind.i64.wrap q.2.1)).length+(dX (IntKind.i64.wrap q.2.2.1)).length+(dX (IntKind.i64.wrap q.2.2.2.1)).length),((dX (IntKind.i64.wrap q.1)).length+(dX (IntKind.i64.wrap q.2.1)).length+(dX (IntKind.i64.wrap q.2.2.1)).length+(dX (IntKind.i64.wrap q.2.2.2.1)).length=(dX (IntKind.i64.wrap q.1)++eT (ef (dX (IntKind.i64.wrap q.2.1)))++eT (ef (dX (IntKind.i64.wrap q.2.2.1)))++eT (ef (dX (IntKind.i64.wrap q.2.2.2.1)))).length),(eU ((dX (IntKind.i64.wrap q.1)).length+(dX (IntKind.i64.wrap q.2.1)).length+(dX (IntKind.i64.wrap q.2.2.1)).length+(dX (IntKind.i64.wrap q.2.2.2.1)).length+(dX (IntKind.i64.wrap q.2.2.2.2.1)).length) 1 1=true),(0<(dX (IntKind.i64.wrap q.1)).length+(dX (IntKind.i64.wrap q.2.1)).length+(dX (IntKind.i64.wrap q.2.2.1)).length+(dX (IntKind.i64.wrap q.2.2.2.1)).length+(dX (IntKind.i64.wrap q.2.2.2.2.1)).length),((dX (IntKind.i64.wrap q.1)).length+(dX (IntKind.i64.wrap q.2.1)).length+(dX (IntKind.i64.wrap q.2.2.1)).length+(dX (IntKind.i64.wrap q.2.2.2.1)).length+(dX (IntKind.i64.wrap q.2.2.2.2.1)).length=(dX (IntKind.i64.wrap q.1)++eT (ef (dX (IntKind.i64.wrap q.2.1)))++eT (ef (dX (IntKind.i64.wrap q.2.2.1)))++eT (ef (dX (IntKind.i64.wrap q.2.2.2.1)))++eT (ef (dX (IntKind.i64.wrap q.2.2.2.2.1)))).length),(eU ((dX (IntKind.i64.wrap q.1)).length+(dX (IntKind.i64.wrap q.2.1)).length+(dX (IntKind.i64.wrap q.2.2.1)).length+(dX (IntKind.i64.wrap q.2.2.2.1)).length+(dX (IntKind.i64.wrap q.2.2.2.2.1)).length+(dX (IntKind.i64.wrap q.2.2.2.2.2.1)).length) 1 1=true),(0<(dX (IntKind.i64.wrap q.1)).length+(dX (IntKind.i64.wrap q.2.1)).length+(dX (IntKind.i64.wrap q.2.2.1)).length+(dX (IntKind.i64.wrap q.2.2.2.1)).length+(dX (IntKind.i64.wrap q.2.2.2.2.1)).length+(dX (IntKind.i64.wrap q.2.2.2.2.2.1)).length),((dX (IntKind.i64.wrap q.1)).length+(dX (IntKind.i64.wrap q.2.1)).length+(dX (IntKind.i64.wrap q.2.2.1)).length+(dX (IntKind.i64.wrap q.2.2.2.1)).length+(dX (IntKind.i64.wrap q.2.2.2.2.1)).length+(dX (IntKind.i64.wrap q.2.2.2.2.2.1)).length=(dX (IntKind.i64.wrap q.1)++eT (ef (dX (IntKind.i64.wrap q.2.1)))++eT (ef (dX (IntKind.i64.wrap q.2.2.1)))++eT (ef (dX (IntKind.i64.wrap q.2.2.2.1)))++eT (ef (dX (IntKind.i64.wrap q.2.2.2.2.1)))++eT (ef (dX (IntKind.i64.wrap q.2.2.2.2.2.1)))).length),(eU ((dX (IntKind.i64.wrap q.1)).length+(dX (IntKind.i64.wrap q.2.1)).length+(dX (IntKind.i64.wrap q.2.2.1)).length+(dX (IntKind.i64.wrap q.2.2.2.1)).length+(dX (IntKind.i64.wrap q.2.2.2.2.1)).length+(dX (IntKind.i64.wrap q.2.2.2.2.2.1)).length+(dX (IntKind.i64.wrap q.2.2.2.2.2.2.1)).length) 1 1=true),(0<(dX (IntKind.i64.wrap q.1)).length+(dX (IntKind.i64.wrap q.2.1)).length+(dX (IntKind.i64.wrap q.2.2.1)).length+(dX (IntKind.i64.wrap q.2.2.2.1)).length+(dX (IntKind.i64.wrap q.2.2.2.2.1)).length+(dX (IntKind.i64.wrap q.2.2.2.2.2.1)).length+(dX (IntKind.i64.wrap q.2.2.2.2.2.2.1)).length),((dX (IntKind.i64.wrap q.1)).length+(dX (IntKind.i64.wrap q.2.1)).length+(dX (IntKind.i64.wrap q.2.2.1)).length+(dX (IntKind.i64.wrap q.2.2.2.1)).length+(dX (IntKind.i64.wrap q.2.2.2.2.1)).length+(dX (IntKind.i64.wrap q.2.2.2.2.2.1)).length+(dX (IntKind.i64.wrap q.2.2.2.2.2.2.1)).length=(dX (IntKind.i64.wrap q.1)++eT (ef (dX (IntKind.i64.wrap q.2.1)))++eT (ef (dX (IntKind.i64.wrap q.2.2.1)))++eT (ef (dX (IntKind.i64.wrap q.2.2.2.1)))++eT (ef (dX (IntKind.i64.wrap q.2.2.2.2.1)))++eT (ef (dX (IntKind.i64.wrap q.2.2.2.2.2.1)))++eT (ef (dX (IntKind.i64.wrap q.2.2.2.2.2.2.1)))).length),(eU ((dX (IntKind.i64.wrap q.1)).length+(dX (IntKind.i64.wrap q.2.1)).length+(dX (IntKind.i64.wrap q.2.2.1)).length+(dX (IntKind.i64.wrap q.2.2.2.1)).length+(dX (IntKind.i64.wrap q.2.2.2.2.1)).length+(dX (IntKind.i64.wrap q.2.2.2.2.2.1)).length+(dX (IntKind.i64.wrap q.2.2.2.2.2.2.1)).length+(dX (IntKind.i64.wrap q.2.2.2.2.2.2.2)).length) 1 1=true),(0<(dX (IntKind.i64.wrap q.1)).length+(dX (IntKind.i64.wrap q.2.1)).length+(dX (IntKind.i64.wrap q.2.2.1)).length+(dX (IntKind.i64.wrap q.2.2.2.1)).length+(dX (IntKind.i64.wrap q.2.2.2.2.1)).length+(dX (IntKind.i64.wrap q.2.2.2.2.2.1)).length+(dX (IntKind.i64.wrap q.2.2.2.2.2.2.1)).length+(dX (IntKind.i64.wrap q.2.2.2.2.2.2.2)).length),((Int.ofNat ((dX (IntKind.i64.wrap q.1)).length+(dX (IntKind.i64.wrap q.2.1)).length+(dX (IntKind.i64.wrap q.2.2.1)).length+(dX (IntKind.i64.wrap q.2.2.2.1)).length+(dX (IntKind.i64.wrap q.2.2.2.2.1)).length+(dX (IntKind.i64.wrap q.2.2.2.2.2.1)).length+(dX (IntKind.i64.wrap q.2.2.2.2.2.2.1)).length+(dX (IntKind.i64.wrap q.2.2.2.2.2.2.2)).length))=(Int.ofNat (dX (IntKind.i64.wrap q.1)++eT (ef (dX (IntKind.i64.wrap q.2.1)))++eT (ef (dX (IntKind.i64.wrap q.2.2.1)))++eT (ef (dX (IntKind.i64.wrap q.2.2.2.1)))++eT (ef (dX (IntKind.i64.wrap q.2.2.2.2.1)))++eT (ef (dX (IntKind.i64.wrap q.2.2.2.2.2.1)))++eT (ef (dX (IntKind.i64.wrap q.2.2.2.2.2.2.1)))++eT (ef (dX (IntKind.i64.wrap q.2.2.2.2.2.2.2)))).length)/\0<(dX (IntKind.i64.wrap q.1)++eT (ef (dX (IntKind.i64.wrap q.2.1)))++eT (ef (dX (IntKind.i64.wrap q.2.2.1)))++eT (ef (dX (IntKind.i64.wrap q.2.2.2.1)))++eT (ef (dX (IntKind.i64.wrap q.2.2.2.2.1)))++eT (ef (dX (IntKind.i64.wrap q.2.2.2.2.2.1)))++eT (ef (dX (IntKind.i64.wrap q.2.2.2.2.2.2.1)))++eT (ef (dX (IntKind.i64.wrap q.2.2.2.2.2.2.2)))).length),((dX (IntKind.i64.wrap q.1)++eT (ef (dX (IntKind.i64.wrap q.2.1)))++eT (ef (dX (IntKind.i64.wrap q.2.2.1)))++eT (ef (dX (IntKind.i64.wrap q.2.2.2.1)))++eT (ef (dX (IntKind.i64.wrap q.2.2.2.2.1)))++eT (ef (dX (IntKind.i64.wrap q.2.2.2.2.2.1)))++eT (ef (dX (IntKind.i64.wrap q.2.2.2.2.2.2.1)))++eT (ef (dX (IntKind.i64.wrap q.2.2.2.2.2.2.2)))).length<=9223372036854775807)],
   .ret (.str (dX (IntKind.i64.wrap q.1)++eT (ef (dX (IntKind.i64.wrap q.2.1)))++eT (ef (dX (IntKind.i64.wrap q.2.2.1)))++eT (ef (dX (IntKind.i64.wrap q.2.2.2.1)))++eT (ef (dX (IntKind.i64.wrap q.2.2.2.2.1)))++eT (ef (dX (IntKind.i64.wrap q.2.2.2.2.2.1)))++eT (ef (dX (IntKind.i64.wrap q.2.2.2.2.2.2.1)))++eT (ef (dX (IntKind.i64.wrap q.2.2.2.2.2.2.2))))) (J [(0,.ints .u32 (st)),(1,.ints .u32 (rd))]) 3)]
 :=cR.of U U U
end
section
variable(st rd:List Int)(s p:L)(q:E8)
def GQ:L:=Rm (jT rd p q (p.length/64))
theorem cT:∀a∈([]:ah),a:=fun _ h=>absurd h aL
theorem vG(x:Int):(mD x).length=8:=rfl
theorem Fo:(mZ s).length=(s.length-s.length/64*64)+1+iA s+8:=by
 unfold mZ;simp only[ax,bV,aZ,bM,vG,aS,bR,Nat.min_self]
theorem OA:∃k,(mZ s).length=64*k:=by
 rw[Fo];unfold iA;refine⟨((s.length-s.length/64*64)+1+((119-s.length%64)%64)+8)/64,?_⟩;omega
theorem aeH(p p1 b1:L)(N:List.drop 64 (List.take p.length p)=p1)(B:List.drop 0 (List.take 64 p)=b1):c9 cs4 [(47,.split)] 3 Tryz.f38 [3,5] (dz (dz alr)) (I1 st rd q p) [([((decide ((Int.ofNat p.length)>(0:Int))),true)],
   [((0:Int)<=(64:Int)/\(64:Int)<=(Int.ofNat p.length)),(64<=rd.length),(64<=b1.length),((0:Int)<=(64:Int)/\(64:Int)<=(Int.ofNat p.length))],
   .to .normal (I1 st rd (zn rd b1 q) p1)),
   ([((decide ((Int.ofNat p.length)>(0:Int))),false)],[],.to (.exit 2) (I1 st rd q p))]:=by
 subst N B;exact cR.of U U U
theorem aeI(s p:L)(i:Nat):c9 cs4 [(35,.split),(32,.di (.int .i64 (Int.ofNat (i+64)))),(42,.di (.int .i64 (Int.ofNat (i+64)))),(37,.di (.int .i64 (Int.ofNat (i+64))))] 3 Tryz.f38 [0,3,5,6] (dz (dz (dY aeF))) (Oz st rd q s p i) [([((decide (Int.ofNat (i+64)<=(Int.ofNat s.length))),true)],
   [kY (Int.ofNat i+64) (i+64),kY (Int.ofNat i+64) (i+64),((0:Int)<=Int.ofNat (i+64)/\Int.ofNat (i+64)<=(Int.ofNat s.length)),((0:Int)<=Int.ofNat i/\Int.ofNat i<=(Int.ofNat (Int.ofNat (i+64)).toNat)),(64<=rd.length),(64<=(B3 s i).length),kY (Int.ofNat i+64) (i+64)],
   .to .normal (Oz st rd (zn rd (B3 s i) q) s p (i+64))),
   ([((decide (Int.ofNat (i+64)<=(Int.ofNat s.length))),false)],[kY (Int.ofNat i+64) (i+64)],.to (.exit 0) (Oz st rd q s p i))]:=
 cR.of U U U
theorem MN{s:L}{i:Nat}(h:i+64<=s.length):(B3 s i).length=64:=by
 unfold B3;rw[bV,aZ];omega
theorem OB(j:Nat):List.drop 64 (List.take (p.drop (64*j)).length (p.drop (64*j)))=p.drop (64*(j+1)):=by
 rw[aU,List.drop_drop,Nat.mul_succ]
theorem Ro(j:Nat):List.drop 0 (List.take 64 (p.drop (64*j)))=B3 p (64*j):=by
 unfold B3;rw[bn,List.drop_take];rw[Nat.add_sub_cancel_left]
theorem aeJ(ZG:64<=rd.length)(q0:E8)(p:L)(kp:Nat)(hkp:p.length=64*kp)(oM:p.length<=200):TG ak 3 Tryz.f38.ntmps Vc (I1 st rd q0 p)
  (fJ ak 3 Tryz.f38 fun u _ _=>u= .str (GQ rd p q0)):=by
 have hO:∀n:Nat,Int.ofNat n=(n:Int):=fun _=>rfl;have qW:GQ rd p q0=Rm (jT rd p q0 kp):=by unfold GQ;rw[hkp,Nat.mul_div_cancel_left _ K]
 rw[qW];clear qW;refine cZ U ?_;refine fB (i:=2) U (fA (Q1:=fun z s'=>z= .exit 2/\∃aa,fa 3 aa s'=some (I1 st rd (jT rd p q0 kp) (p.drop (64*kp)))) (gw (fun k' s'=>∃j,k'=kp-j/\j<=kp/\∃aa,fa 3 aa s'=some (I1 st rd (jT rd p q0 j) (p.drop (64*j)))) U ?_ kp ⟨0,rfl,aX _,[3,5],U⟩) ?_)
 . rintro k' s1 ⟨j,hk,hj,aa,gi⟩;refine c6 gi ?_;have iQ:(p.drop (64*j)).length=64*kp-64*j:=by rw[bV,hkp]
   refine fO X4 (aeH st rd (jT rd p q0 j) (p.drop (64*j)) (p.drop (64*(j+1))) (B3 p (64*j)) (OB p j) (Ro p j)) fun g hg I=>?_;simp only[aF,aL,bw]at hg;rcases hg with rfl|rfl
   . have fI:j<kp:=by
      have:=aE (I _ (aq.2 rfl));rw[hO,iQ]at this;omega
     refine⟨fun p' PD=>?_,fun s' dO=>⟨kp-(j+1),K,j+1,rfl,K,_,dO⟩⟩;simp only[aF,aL,bw]at PD;rcases PD with rfl|rfl|rfl|rfl
     . exact⟨dU,by rw[hO,iQ];omega⟩
     . exact ZG
     . rw[MN K];exact aA _
     . exact⟨dU,by rw[hO,iQ];omega⟩
   . have y6:¬j<kp:=by
      have:=aJ (I _ (aq.2 rfl));rw[hO,iQ]at this;omega
     obtain rfl:j=kp:=by omega
     exact⟨cT,fun s' dO=>⟨rfl,_,dO⟩⟩
 rintro y s2 ⟨rfl,aa,jr⟩;rw[dV];simp only[andThen];refine c6 jr ?_;refine fh X4 (alw st rd (jT rd p q0 kp) (p.drop (64*kp))) (dG ?_);refine⟨?_,_,_,_,rfl,rfl⟩
 repeat' (first|exact cT|refine iI ?_ ?_)
 all_goals first|exact au U|exact⟨U,au U⟩|kernel_rfl
theorem alx(st rd:List Int)(BC:8<=st.length)(ZG:64<=rd.length)(s:L)(hs:s.length<=1000000000):TG ak 3 Tryz.f38.ntmps Vb (cU [.str s] (Ed st rd) 3)
  (fJ ak 3 Tryz.f38 fun u _ _=>u= .str (Rn st rd s)):=by
 have hO:∀n:Nat,Int.ofNat n=(n:Int):=fun _=>rfl;have hz:iA s<64:=by unfold iA;omega
 refine iF  4 X4 (alu st rd s) ?_ ?_
 . intro p hp;simp only[aF,aL,bw]at hp;rcases hp with rfl|rfl|rfl|rfl|rfl|rfl|rfl|rfl|rfl|rfl|rfl|rfl|rfl
   . exact BC
   . rfl
   . have e:IntKind.i64.wrap ((119:Int)-Int.ofNat (s.length%64))=Int.ofNat (119-s.length%64):=by
      rw[fK dm dm,hO,hO];omega
     rw[e];rfl
   . decide
   . have e:(Int.ofNat s.length).tdiv 64=Int.ofNat (s.length/64):=rfl;rw[e,fK (x:=Int.ofNat (s.length/64)) dm dm];exact fL dm K
   . exact⟨az _,dm⟩
   . simp only[bV,aZ,Nat.min_self];omega
   . exact⟨az _,dm⟩
   . exact⟨az _,dm⟩
   . simp only[ax,bV,aZ,bM,aS,bR,Nat.min_self,hO,Int.toNat_natCast];omega
   . exact fL dm K
   . exact⟨az _,dm⟩
   . simp only[ax,bV,aZ,bM,aS,bR,Nat.min_self,hO,Int.toNat_natCast,vG];omega
 show TG ak 3 Tryz.f38.ntmps aam (aeG st rd (K2 st) s (mZ s)) _;refine cZ U ?_;obtain⟨L2,Ee⟩:=alv st rd (K2 st) s (mZ s);refine zk X4 mo l9 U U Ee (dG ?_);refine⟨fun p hp=>by rw[aq]at hp;subst hp;rfl,fun s' dO=>?_⟩;have dO:fa 3 [0,3,5,6] s'=some (Oz st rd (jT rd s (K2 st) 0) s (mZ s) (64*0)):=dO;refine fB (i:=0) U (fA (Q1:=fun z s'=>z= .exit 0/\∃aa,fa 3 aa s'=some (Oz st rd (jT rd s (K2 st) (s.length/64)) s (mZ s) (64*(s.length/64)))) (gw (fun k' s'=>∃j,k'=s.length/64-j/\j<=s.length/64/\∃aa,fa 3 aa s'=some (Oz st rd (jT rd s (K2 st) j) s (mZ s) (64*j))) U ?_ (s.length/64) ⟨0,rfl,aX _,_,dO⟩) ?_)
 . rintro k' s1 ⟨j,hk,hj,aa,gi⟩;refine c6 gi ?_;refine fO X4 (aeI st rd (jT rd s (K2 st) j) s (mZ s) (64*j)) fun g hg I=>?_;simp only[aF,aL,bw]at hg;rcases hg with rfl|rfl
   . have fI:64*j+64<=s.length:=by
      have:=aE (I _ (aq.2 rfl));rw[hO,hO]at this;omega
     refine⟨fun p hp=>?_,fun s' dO=>⟨s.length/64-(j+1),K,j+1,rfl,K,_,dO⟩⟩;simp only[aF,aL,bw]at hp;rcases hp with rfl|rfl|rfl|rfl|rfl|rfl|rfl
     . exact fL dm K
     . exact fL dm K
     . exact⟨az _,dm⟩
     . exact⟨az _,by simp only[hO,Int.toNat_natCast];omega⟩
     . exact ZG
     . rw[MN fI];exact aA _
     . exact fL dm K
   . have y6:¬64*j+64<=s.length:=by
      have:=aJ (I _ (aq.2 rfl));rw[hO,hO]at this;omega
     obtain rfl:j=s.length/64:=by omega
     refine⟨fun p hp=>?_,fun s' dO=>⟨rfl,_,dO⟩⟩;rw[aq]at hp;subst hp;exact fL dm K
 rintro y s2 ⟨rfl,aa,jr⟩;rw[dV];simp only[andThen];refine c6 jr ?_;refine c6 (live:=[3,5]) (s2:=I1 st rd (jT rd s (K2 st) (s.length/64)) (mZ s)) U ?_;show TG ak 3 Tryz.f38.ntmps Vc _ (fJ ak 3 Tryz.f38 fun u _ _=>u= .str (GQ rd (mZ s) (jT rd s (K2 st) (s.length/64))));obtain⟨kp,hkp⟩:=OA s;have oM:(mZ s).length<=200:=by rw[Fo];omega
 exact aeJ st rd ZG _ _ kp hkp oM
end
def gS:List Int:=[1779033703,3144134277,1013904242,2773480762,1359893119,2600822924,528734635,1541459225]
def gR:List Int:=[1116352408,1899447441,3049323471,3921009573,961987163,1508970993,2453635748,2870763221,3624381080,310598401,607225278,1426881987,1925078388,2162078206,2614888103,3248222580,3835390401,4022224774,264347078,604807628,770255983,1249150122,1555081692,1996064986,2554220882,2821834349,2952996808,3210313671,3336571891,3584528711,113926993,338241895,666307205,773529912,1294757372,1396182291,1695183700,1986661051,2177026350,2456956037,2730485921,2820302411,3259730800,3345764771,3516065817,3600352804,4094571909,275423344,430227734,506948616,659060556,883997877,958139571,1322822218,1537002063,1747873779,1955562222,2024104815,2227730452,2361852424,2428436474,2756734187,3204031479,3329325298]
def Ex(s:L):L:=Rn gS gR s
def GR(h:H lf):Option (List Int×List Int):=match h.get 0,h.get 1 with
 |some (.ints .u32 st),some (.ints .u32 rd)=>some (st,rd)
 |_,_=>none
theorem wJ{h:H lf}{st rd:List Int}(e:GR h=some (st,rd)):h.get 0=some (.ints .u32 st)/\h.get 1=some (.ints .u32 rd):=by
 unfold GR at e;split at e
 . rename_i a b h0 N;obtain⟨rfl,rfl⟩:=fg e;exact⟨h0,N⟩
 . cases e
def K3:ag->H lf->Option (ah×V)
 | [.str s],h=>match GR h with
   |some (st,rd)=>some ([st=gS,rd=gR,s.length<=1000000000],.str (Ex s))
   |none=>none
 |_,_=>none
theorem AH{E:Env}{h:H lf}{w:World}{st rd:List Int}(g0:Eng.Good E h w)(h0:h.get 0=some (.ints .u32 st))(N:h.get 1=some (.ints .u32 rd)):
  Eng.Good (E.rows PE) (Ed st rd) w/\qH (E.rows PE) 3/\∀m,¬eE (Ed st rd) m:=
 MH g0 PE [some (.u32,st),some (.u32,rd),none] (au rfl) Ri (by
  intro j k' Yc hj
  match j,hj with
  |0,hj=>cases hj;exact⟨0,0,st,rfl,h0,rfl⟩
  |1,hj=>cases hj;exact⟨1,0,rd,rfl,N,rfl⟩
  |2,hj=>cases hj
  |j+3,hj=>simp at hj)
theorem aan:QU ak 38 K3:=by
 refine⟨au U,fun args h cS u e=>?_⟩;unfold K3 at e;split at e
 case h_2=>cases e
 rename_i s;split at e
 case h_2=>cases e
 rename_i st rd ht;obtain⟨h0,N⟩:=wJ ht;obtain⟨rfl,rfl⟩:=fg e;refine⟨rfl,fun hA E n' w' de ra g0 hd I=>?_⟩;have e1:st=gS:=hA _ (by simp);have e2:rd=gR:=hA _ (by simp);have e3:s.length<=1000000000:=hA (s.length<=1000000000) (by simp);subst e1 e2;obtain⟨g2,d2,n2⟩:=AH g0 h0 N;exact Dd mo po Tryz.func38 (code:=Vb) U U (alx gS gR (au rfl) (au rfl) s e3) (E:=E.rows PE) g2 d2 n2 (mX _ _ rfl ra)
noncomputable abbrev W5:jQ:=jD 38 (MG K3) W4
theorem YE:gl ak W5:=e9 (IQ aan) YD
noncomputable abbrev cs5:fb:=gP ak W5 H0 1000 40
noncomputable abbrev X5:CX ak:=CX.of mo po YE H0 1000 40
theorem gk(u:L):eT (ef u)=u:=by
 induction u with
 |nil=>rfl
 |cons x u ih=>
  show UInt8.ofNat ((x.toNat:Int)).toNat::eT (ef u)=x::u;rw[ih];simp
noncomputable abbrev aao:Code:=dN Tryz.f22
noncomputable abbrev aap:Code:=dh 2 aao
noncomputable abbrev aaq:Code:=dP aap
noncomputable abbrev aly:Code:=dY aap
section
variable(f:Bool)(ps:List (L))(i T:Nat)(gy:L)
def hT:af:=[(0,.ints .u32 gS),(1,.ints .u32 gR)]
def strs:ai:=ps.map .str
def sJ0:St:=eG [(3,.ptr (some (3,0))),(6,.dS f ps.length (strs ps)),(7,.int .i64 (Int.ofNat ps.length)),(8,.int .i64 (Int.ofNat 0))] (J [(0,.ints .u32 gS),(1,.ints .u32 gR),(3,.AX 102 false (.dj none 0 0 0))]) 4
def sJ1:St:=eG [(3,.ptr (some (3,0))),(6,.dS f ps.length (strs ps)),(7,.int .i64 (Int.ofNat ps.length)),(8,.int .i64 (Int.ofNat i))] (J [(0,.ints .u32 gS),(1,.ints .u32 gR),(3,.AX 102 true (.dj (some (4,0)) T T 1)),(4,.jf 5 false gy)]) 5
def sJa:St:=eG [(0,.dS f ps.length (strs ps)),(3,.ptr (some (3,0)))] (J [(0,.ints .u32 gS),(1,.ints .u32 gR),(3,.AX 102 false (.dj none 0 0 0))]) 4
theorem alz:c9 cs5 [] 3 Tryz.f22 [0,3] (eV 2 aao) (cU [.dS f ps.length (strs ps)] (Ed gS gR) 3) [([],
   [],
   .to .normal (eG [(0,.dS (f) (ps.length) (strs ps)),(3,.ptr (some (3,0)))] (J [(0,.ints .u32 gS),(1,.ints .u32 gR),(3,.AX 102 false (.dj none 0 0 0))]) 4))]
 :=cR.of U U U
theorem aeL:c9 cs5 [(8,.di (.int .i64 (Int.ofNat 0)))] 3 Tryz.f22 [3,6,7,8] (dP aaq) (sJa f ps) [([],
   [(V.int aj (0:Int)=V.int aj (0:Int))],
   .to .normal (eG [(3,.ptr (some (3,0))),(6,.dS (f) (ps.length) (strs ps)),(7,.int .i64 ((Int.ofNat ps.length))),(8,.int .i64 0)] (J [(0,.ints .u32 gS),(1,.ints .u32 gR),(3,.AX 102 false (.dj none 0 0 0))]) 4))]
 :=cR.of U U U
theorem alA:c9 cs5 [] 3 Tryz.f22 [] (aly) (sJ1 f ps i T gy) [([],
   [(0<T),((Int.ofNat T)=(Int.ofNat gy.length)/\0<gy.length),(gy.length<=9223372036854775807),(gS=gS),(gR=gR),(gy.length<=1000000000)],
   .ret (.str (Ex gy)) (J [(0,.ints .u32 gS),(1,.ints .u32 gR)]) 3)]
 :=cR.of U U U
end
section
variable(f:Bool)(ps:List (L))
def eI:L:=ps.flatMap fun p=>mD (Int.ofNat p.length)++p
theorem tZ{ps:List (L)}{i:Nat}{p:L}(h:ps[i]? =some p):eI (ps.take (i+1))=eI (ps.take i)++mD (Int.ofNat p.length)++p:=by
 have fI:i<ps.length:=(aG.1 h).1;have e:ps.take (i+1)=ps.take i++[p]:=by
  rw[bG,h];rfl
 unfold eI;rw[e,List.flatMap_append];simp
theorem Rp(i:Nat):(eI (ps.take i)).length<=(eI ps).length:=by
 have:eI ps=eI (ps.take i)++eI (ps.drop i):=by
  unfold eI;rw[<- List.flatMap_append,cn]
 rw[this,ax];omega
theorem jk{k:Nat}(h:k<=100000000000):eU k 1 1=true:=by
 unfold eU;exact bQ ⟨K,K⟩
theorem eN:(strs ps).length=ps.length:=aT ..
theorem fM{ps:List (L)}{i:Nat}{p:L}(h:ps[i]? =some p):dF (strs ps) (i*1) 1=[rs.str p]:=by
 unfold dF strs;rw[bk];have fI:i<ps.length:=(aG.1 h).1;have:(ps.drop i).take 1=[p]:=by
  rw[bH fI];have:ps[i]=p:=(aG.1 h).2;simp[this]
 rw[<- List.map_drop,<- cN,this];rfl
theorem aeM(p gy:L)(h:mD (Int.ofNat p.length)++eT (ef p)=gy):c9 cs5 [(9,.split),(10,.di (.dx [.str p])),(18,.di (.int .i64 (Int.ofNat 1)))] 3 Tryz.f22 [3,6,7,8] (dz (dz (dY aaq))) (sJ0 f ps) [([((decide ((0:Int)<Int.ofNat ps.length)),true)],
   [((0:Int)<=(0:Int)/\(0:Int)<(Int.ofNat ps.length)),((strs ps).length=ps.length*1),(V.dx (dF (strs ps) 0 1)=V.dx [rs.str p]),(0<(mD (Int.ofNat p.length)).length),(eU (mD (Int.ofNat p.length)).length 1 1=true),(0<(mD (Int.ofNat p.length)).length),((mD (Int.ofNat p.length)).length=(mD (Int.ofNat p.length)).length),(eU ((mD (Int.ofNat p.length)).length+p.length) 1 1=true),(V.int aj (1:Int)=V.int aj (1:Int))],
   .to .normal (sJ1 f ps 1 ((mD (Int.ofNat p.length)).length+p.length) gy)),
  ([((decide ((0:Int)<Int.ofNat ps.length)),false)],[],.to (.exit 0) (sJ0 f ps))]:=by
 subst h;exact cR.of U U U
theorem YF(p:L)(i T:Nat)(gy aeN:L)(h:gy++eT (ef (mD (Int.ofNat p.length)))++eT (ef p)=aeN):c9 cs5 [(9,.split),(10,.di (.dx [.str p])),(18,.di (.int .i64 (Int.ofNat (i+1))))] 3 Tryz.f22 [3,6,7,8] (dz (dz (dY aaq))) (sJ1 f ps i T gy) [([((decide (Int.ofNat i<Int.ofNat ps.length)),true)],
   [((0:Int)<=Int.ofNat i/\Int.ofNat i<(Int.ofNat ps.length)),((strs ps).length=ps.length*1),(V.dx (dF (strs ps) ((Int.ofNat i).toNat*1) 1)=V.dx [rs.str p]),(0<T),(T=gy.length),(eU (T+(mD (Int.ofNat p.length)).length) 1 1=true),(0<T+(mD (Int.ofNat p.length)).length),(T+(mD (Int.ofNat p.length)).length=(gy++eT (ef (mD (Int.ofNat p.length)))).length),(eU (T+(mD (Int.ofNat p.length)).length+p.length) 1 1=true),kY (Int.ofNat i+1) (i+1)],
   .to .normal (sJ1 f ps (i+1) (T+(mD (Int.ofNat p.length)).length+p.length) aeN)),
  ([((decide (Int.ofNat i<Int.ofNat ps.length)),false)],[],.to (.exit 0) (sJ1 f ps i T gy))]:=by
 subst h;exact cR.of U U U
def JoI(k':Nat)(s:St):Prop:=∃i,k'=ps.length-i/\i<=ps.length/\((i=0/\∃aa,fa 3 aa s=some (sJ0 f ps))\/(0<i/\∃aa,fa 3 aa s=some (sJ1 f ps i (eI (ps.take i)).length (eI (ps.take i)))))
theorem alB(h0:0<ps.length)(HG:ps.length<=1000000000)(hs:(eI ps).length<=1000000000):TG ak 3 Tryz.f22.ntmps aao (cU [.dS f ps.length (strs ps)] (Ed gS gR) 3)
  (fJ ak 3 Tryz.f22 fun u _ _=>u= .str (Ex (eI ps))):=by
 have hO:∀n:Nat,Int.ofNat n=(n:Int):=fun _=>rfl;have hb:=Rp ps;have Rq:=fun x=>vG x;refine iF  2 X5 (alz f ps) cT ?_;show TG ak 3 Tryz.f22.ntmps aap (sJa f ps) _;refine cZ U ?_;refine cZ U ?_;refine fO X5 (aeL f ps) (dG ?_);refine⟨fun p hp=>by rw[aq]at hp;subst hp;rfl,fun s' dO=>?_⟩;have dO:fa 3 [3,6,7,8] s'=some (sJ0 f ps):=dO;refine fB (i:=0) U (fA (Q1:=fun z s'=>z= .exit 0/\∃aa,fa 3 aa s'=some (sJ1 f ps ps.length (eI ps).length (eI ps))) (gw (JoI f ps) U ?_ ps.length ⟨0,rfl,aX _,.inl ⟨rfl,_,dO⟩⟩) ?_)
 . rintro k' s1 ⟨i,hk,hi,⟨rfl,aa,gi⟩|⟨N,aa,gi⟩⟩
   . refine c6 gi ?_;obtain⟨p,hp⟩:∃p,ps[0]? =some p:=⟨_,ay h0⟩;have hj:=tZ hp;have hj:eI (ps.take 1)=mD (Int.ofNat p.length)++p:=hj;have yO:=hb 1;rw[hj,ax,Rq]at yO;refine fO X5 (aeM f ps p (eI (ps.take 1)) (by rw[gk,hj])) fun g hg I=>?_;simp only[aF,aL,bw]at hg;rcases hg with rfl|rfl
     . refine⟨fun p' PD=>?_,fun s' dO=>⟨ps.length-1,K,1,rfl,K,.inr ⟨K,[3,6,7,8],?_⟩⟩⟩
       . revert p' PD
         repeat' (first|exact cT|refine iI ?_ ?_)
         . exact⟨dU,dm⟩
         . rw[eN,bk]
         . exact aN V.dx (fM hp)
         . rw[Rq];decide
         . rw[Rq];rfl
         . rw[Rq];decide
         . first|rfl|trivial
         . rw[Rq];exact jk K
         . first|rfl|trivial
       . rw[dO,hj,ax]
     . exact absurd (aJ (I _ (aq.2 rfl))) dm
   . refine c6 gi ?_;rcases bK i ps.length with fI|y6
     . obtain⟨p,hp⟩:∃p,ps[i]? =some p:=⟨_,ay fI⟩;have hj:=tZ hp;have yO:=hb (i+1);rw[hj,ax,ax,Rq]at yO;have mL:0<(eI (ps.take i)).length:=by
        obtain⟨j,rfl⟩:∃j,i=j+1:=⟨i-1,K⟩;rw[tZ (ay (show j<ps.length by omega)),ax,ax,Rq];omega
       refine fO X5 (YF f ps p i (eI (ps.take i)).length (eI (ps.take i)) (eI (ps.take (i+1))) (by rw[gk,gk,hj])) fun g hg I=>?_;simp only[aF,aL,bw]at hg;rcases hg with rfl|rfl
       . refine⟨fun p' PD=>?_,fun s' dO=>⟨ps.length-(i+1),K,i+1,rfl,K,.inr ⟨K,[3,6,7,8],?_⟩⟩⟩
         . revert p' PD
           repeat' (first|exact cT|refine iI ?_ ?_)
           . exact⟨az _,dm⟩
           . rw[eN,bk]
           . exact aN V.dx (fM hp)
           . exact mL
           . first|rfl|trivial
           . rw[Rq];exact jk K
           . rw[Rq];omega
           . rw[gk,ax]
           . rw[Rq];exact jk K
           . exact fL dm K
         . rw[dO,hj,ax,ax]
       . exact absurd (aJ (I _ (aq.2 rfl))) dm
     . obtain rfl:i=ps.length:=by omega
       refine fO X5 (YF f ps [] ps.length (eI (ps.take ps.length)).length (eI (ps.take ps.length)) _ rfl) fun g hg I=>?_;simp only[aF,aL,bw]at hg;rcases hg with rfl|rfl
       . exact absurd (aE (I _ (aq.2 rfl))) dm
       . refine⟨cT,fun s' dO=>⟨rfl,[3,6,7,8],?_⟩⟩;rw[dO,aU]
 rintro y s2 ⟨rfl,aa,jr⟩;rw[dV];simp only[andThen];refine c6 jr ?_;have mL:0<(eI ps).length:=by
  have hj:=tZ (ay h0);have yO:=hb 1;rw[hj,ax,ax,Rq]at yO;omega
 refine fh X5 (alA f ps ps.length (eI ps).length (eI ps)) (dG ?_);refine⟨fun p' PD=>?_,_,_,_,rfl,rfl⟩;revert p' PD
 repeat' (first|exact cT|refine iI ?_ ?_)
 . exact mL
 . exact⟨rfl,mL⟩
 . omega
 . first|rfl|trivial
 . first|rfl|trivial
 . exact hs
end
def Rr(f:FuncId)(args:ag)(v:V):Prop:=∀E h n w de,GR h=some (gS,gR)->dL E args de->Eng.Good E h w->qH E n->Calls ak f de.toArray w (jI E h n w (.ret v) h n)
def tW(f:ai->Option (ah×V)):ag->H lf->Nat->Option (ah×V×H lf×Nat):=fun args h n=>match GR h,Fm args with
 |some (st,rd),some ds=>match f ds with
  |some (cS,v)=>some ((st=gS)::(rd=gR)::cS,v,h,n)
  |none=>none
 |_,_=>none
theorem Rs{f:FuncId}{spec:ai->Option (ah×V)}(fI:f<Tryz.prog.funcs.size)(h:∀args cS v,spec args=some (cS,v)->(∀a∈cS,a)->Rr f (args.map rs.iZ) v):jv ak f (tW spec):=by
 refine⟨fI,fun args h' n cS v B n2 e hA E w de ra g hd I=>?_⟩;unfold tW at e;split at e
 case h_2=>cases e
 rename_i st rd ds ht hds;split at e
 case h_2=>cases e
 rename_i A' v' hs;simp only[an,aB]at e;obtain⟨rfl,rfl,rfl,rfl⟩:=e;have e1:st=gS:=hA _ (by simp);have e2:rd=gR:=hA _ (by simp);subst e1 e2;exact h ds _ _ hs (fun a ha=>hA a (by simp[ha])) E h' n w de ht (AA hds ra) g hd
theorem x6{f:FuncId}{fn:Func}{code:Code}(hf:Tryz.prog.funcs[f]? =some fn)(hb:fn.body=some code){args:ag}
  (l:(Nat.ble args.length fn.ntmps&&Nat.blt fn.ntmps fP)=true) {v:V} (hdp:V.pX args=true) (hv:v.deep=true) (hT:TG ak 3 fn.ntmps code (cU args (Ed gS gR) 3) (fJ ak 3 fn (nQ v))):Rr f args v:=by
 intro E h n w de ht ra g hd;obtain⟨h0,N⟩:=wJ ht;obtain⟨g0,d0,M⟩:=AH g h0 N;have ra0:dL (E.rows PE) args de:=lY (E:=E) (E':=E.rows PE) (fun _ _ q=>q) _ _ hdp ra;exact(o7 mo po hf hb l _ hT ra0 g0 d0).mono fun e w' ⟨u,h',n',hz,k⟩=>Dj (E1:=E.rows PE) g hd rfl M hv hz k
theorem ko{P:Program}{M:Nat}{fn:Func}{v:V}{y:Exit}{s:St}(h:fJ P M fn (fun u _ _=>u=v) y s):fJ P M fn (nQ v) y s:=by
 obtain⟨hy,u,h',n',e,rfl⟩:=h;exact⟨hy,_,h',n',e,.self⟩
def rs.aas:rs->L
 | .str p=>p
 |_=>[]
def dy(C:ai):List (L):=C.map rs.aas
theorem fR(ps:List (L)):dy (strs ps)=ps:=by
 unfold dy strs;rw[List.map_map];exact List.map_id ps
def K4:ai->Option (ah×V)
 | [.dS n C]=>some ([C=strs (dy C),n=(dy C).length,0<n,n<=1000000000,(eI (dy C)).length<=1000000000],.str (Ex (eI (dy C))))
 |_=>none
theorem aat:jv ak 22 (tW K4):=by
 refine Rs (au U) fun args cS v e hA=>?_;unfold K4 at e;split at e
 case h_2=>cases e
 rename_i n C;simp only[an,aB]at e;obtain⟨rfl,rfl⟩:=e;have e1:C=strs (dy C):=hA _ (by simp);have e2:n=(dy C).length:=hA (n=(dy C).length) (by simp);have e3:0<n:=hA (0<n) (by simp);have e4:n<=1000000000:=hA (n<=1000000000) (by simp);have e5:(eI (dy C)).length<=1000000000:=hA ((eI (dy C)).length<=1000000000) (by simp);generalize dy C=ps at *;subst e1 e2;exact x6 Tryz.func22 U U rfl rfl (fA (alB false ps e3 e4 e5) fun y s h=>ko h)
noncomputable abbrev W6:jQ:=jD 22 (tW K4) W5
theorem YG:gl ak W6:=e9 aat YE
noncomputable abbrev cs6:fb:=gP ak W6 H0 1000 40
noncomputable abbrev X6:CX ak:=CX.of mo po YG H0 1000 40
noncomputable abbrev aau:Code:=dN Tryz.f45
noncomputable abbrev aav:Code:=dh 2 aau
noncomputable abbrev aeO:Code:=dP aav
noncomputable abbrev alC:Code:=dY aav
section
variable(D:List (L))(n:Nat)(ds:ai)
def sN0(d:L)(o:lf):St:=eG [(1,.dS false D.length (strs D)),(5,.dj (some (3,0)) 1 1 1)] (J [(0,.ints .u32 gS),(1,.ints .u32 gR),(3,o)]) 4
def sN1(i T:Nat):St:=eG [(5,.dj (some (3,0)) T T 1),(10,.dS false D.length (strs D)),(11,.int .i64 (Int.ofNat D.length)),(12,.int .i64 (Int.ofNat i))] (J [(0,.ints .u32 gS),(1,.ints .u32 gR),(3,.deep ds)]) 4
def sN2:St:=eG [(5,.dS false n ds)] (J [(0,.ints .u32 gS),(1,.ints .u32 gR)]) 3
theorem alD(d:L):c9 cs6 [] 3 Tryz.f45 [1,5] (eV 2 aau) (cU [.str d,.dS false D.length (strs D)] (Ed gS gR) 3) [([],
   [],
   .to .normal (eG [(1,.dS false (D.length) (strs D)),(5,.dj (some (3,0)) 1 1 1)] (J [(0,.ints .u32 gS),(1,.ints .u32 gR),(3,.cells [.str (d)])]) 4))]
 :=cR.of U U U
theorem alE(d:L)(ds:ai):c9 cs6 [(12,.di (.int .i64 (Int.ofNat 0)))] 3 Tryz.f45 [5,10,11,12] (dP aeO) (sN0 D d (.deep ds)) [([],
   [(V.int aj (0:Int)=V.int aj (0:Int))],
   .to .normal (eG [(5,.dj (some (3,0)) 1 1 1),(10,.dS false (D.length) (strs D)),(11,.int .i64 ((Int.ofNat D.length))),(12,.int .i64 0)] (J [(0,.ints .u32 gS),(1,.ints .u32 gR),(3,.deep (ds))]) 4))]
 :=cR.of U U U
theorem alF(qs:List (L))(n:Nat):c9 cs6 [] 3 Tryz.f45 [] (alC) (sN2 n (strs qs)) [([],
   [(gS=gS),(gR=gR),(strs qs=strs (dy (strs qs))),(n=(dy (strs qs)).length),(0<n),(n<=1000000000),((eI (dy (strs qs))).length<=1000000000)],
   .ret (.str (Ex (eI (dy (strs qs))))) (J [(0,.ints .u32 gS),(1,.ints .u32 gR)]) 3)]
 :=cR.of U U U
end
def dw(d:L)(D:List (L)):L:=Ex (eI (d::D))
theorem K5(d:L)(D:List (L)):(dw d D).length=32:=rfl
theorem lZ{k:Nat}(h:k<=1000000000):eU k 1 16=true:=by
 unfold eU;exact bQ ⟨K,K⟩
section
variable(D:List (L))
theorem YH(ds ds2:ai)(p:L)(i T:Nat)(h:List.take (T*1) (List.drop 0 ds)++[rs.str p]=ds2):c9 cs6 [(13,.split),(14,.di (.dx [.str p])),(20,.di (.int .i64 (Int.ofNat (i+1))))] 3 Tryz.f45 [5,10,11,12] (dz (dz (dY aeO))) (sN1 D ds i T) [([((decide (Int.ofNat i<Int.ofNat D.length)),true)],
   [((0:Int)<=Int.ofNat i/\Int.ofNat i<(Int.ofNat D.length)),((strs D).length=D.length*1),(V.dx (dF (strs D) ((Int.ofNat i).toNat*1) 1)=V.dx [rs.str p]),(0+T*1<=ds.length),(0<1),(eU (T+1) 1 16=true),kY (Int.ofNat i+1) (i+1)],
   .to .normal (sN1 D ds2 (i+1) (T+1))),
  ([((decide (Int.ofNat i<Int.ofNat D.length)),false)],[],.to (.exit 0) (sN1 D ds i T))]:=by
 subst h;exact cR.of U U U
theorem OC(d:L){D:List (L)}{i:Nat}{p:L}(h:D[i]? =some p):List.take ((i+1)*1) (List.drop 0 (strs (d::D.take i)))++[rs.str p]=strs (d::D.take (i+1)):=by
 have fI:i<D.length:=(aG.1 h).1;rw[bn,bk,bq (by rw[eN,aS,aZ];omega),bG,h];unfold strs;simp
theorem alG(d:L)(H6:D.length<=1000000)(hs:(eI (d::D)).length<=1000000000):TG ak 3 Tryz.f45.ntmps aau (cU [.str d,.dS false D.length (strs D)] (Ed gS gR) 3)
  (fJ ak 3 Tryz.f45 fun u _ _=>u= .str (dw d D)):=by
 have hO:∀n:Nat,Int.ofNat n=(n:Int):=fun _=>rfl;refine iF  2 X6 (alD D d) cT ?_;refine tX [3] (s2:=sN0 D d (.deep [.str d])) U ?_;show TG ak 3 Tryz.f45.ntmps aav _ _;refine cZ U ?_;refine cZ U ?_;refine fO X6 (alE D d [.str d]) (dG ?_);refine⟨fun p hp=>by rw[aq]at hp;subst hp;rfl,fun s' dO=>?_⟩;have dO:fa 3 [5,10,11,12] s'=some (sN1 D (strs (d::D.take 0)) 0 1):=dO;refine fB (i:=0) U (fA (Q1:=fun z s'=>z= .exit 0/\∃aa,fa 3 aa s'=some (sN1 D (strs (d::D)) D.length (D.length+1))) (gw (fun k' s=>∃i,k'=D.length-i/\i<=D.length/\∃aa,fa 3 aa s=some (sN1 D (strs (d::D.take i)) i (i+1))) U ?_ D.length ⟨0,rfl,aX _,_,dO⟩) ?_)
 . rintro k' s1 ⟨i,hk,hi,aa,gi⟩;refine c6 gi ?_;rcases bK i D.length with fI|y6
   . obtain⟨p,hp⟩:∃p,D[i]? =some p:=⟨_,ay fI⟩;refine fO X6 (YH D (strs (d::D.take i)) _ p i (i+1) (OC d hp)) fun g hg I=>?_;simp only[aF,aL,bw]at hg;rcases hg with rfl|rfl
     . refine⟨?_,fun s' dO=>⟨D.length-(i+1),K,i+1,rfl,K,_,dO⟩⟩
       repeat' (first|exact cT|refine iI ?_ ?_)
       . exact⟨az _,dm⟩
       . rw[eN,bk]
       . exact aN V.dx (fM hp)
       . rw[eN,aS,aZ];omega
       . decide
       . exact lZ K
       . exact fL dm K
     . exact absurd (aJ (I _ (aq.2 rfl))) dm
   . obtain rfl:i=D.length:=by omega
     refine fO X6 (YH D (strs (d::D.take D.length)) _ [] D.length (D.length+1) rfl) fun g hg I=>?_;simp only[aF,aL,bw]at hg;rcases hg with rfl|rfl
     . exact absurd (aE (I _ (aq.2 rfl))) dm
     . refine⟨cT,fun s' dO=>⟨rfl,[5,10,11,12],?_⟩⟩;rw[dO,aU]
 rintro y s2 ⟨rfl,aa,jr⟩;rw[dV];simp only[andThen];refine c6 jr ?_;refine c6 (live:=[5]) (s2:=eG [(5,.dj (some (3,0)) (D.length+1) (D.length+1) 1)] (J [(0,.ints .u32 gS),(1,.ints .u32 gR),(3,.deep (strs (d::D)))]) 4) U ?_;refine tV [3] (cS:=[(strs (d::D)).length=(D.length+1)*1]) (s2:=eG [(5,.dS false (D.length+1) (strs (d::D)))] ((J [(0,.ints .u32 gS),(1,.ints .u32 gR),(3,.deep (strs (d::D)))]).set 3 none) 4) U (fun x G=>?_) ?_
 . rw[aq]at G;subst G;rw[eN,bk];rfl
 refine c6 (live:=[5]) (s2:=sN2 (D.length+1) (strs (d::D))) U ?_;obtain⟨L5,wK⟩:=alF (d::D) (D.length+1);rw[fR]at wK;refine gA X6 mo _ U wK (dG ?_);refine⟨?_,_,_,_,rfl,rfl⟩
 repeat' (first|exact cT|refine iI ?_ ?_)
 . first|rfl|trivial
 . first|rfl|trivial
 . first|rfl|trivial
 . first|rfl|trivial
 . omega
 . omega
 . exact hs
end
def GS:ai->Option (ah×V)
 | [.str d,.dS n C]=>some ([C=strs (dy C),n=(dy C).length,n<=1000000,(eI (d::dy C)).length<=1000000000],.str (dw d (dy C)))
 |_=>none
theorem Rt:jv ak 45 (tW GS):=by
 refine Rs (au U) fun args cS v e hA=>?_;unfold GS at e;split at e
 case h_2=>cases e
 rename_i d n C;simp only[an,aB]at e;obtain⟨rfl,rfl⟩:=e;have e1:C=strs (dy C):=hA _ (by simp);have e2:n=(dy C).length:=hA (n=(dy C).length) (by simp);have e4:n<=1000000:=hA (n<=1000000) (by simp);have e5:(eI (d::dy C)).length<=1000000000:=hA ((eI (d::dy C)).length<=1000000000) (by simp);generalize dy C=ps at *;subst e1 e2;exact x6 Tryz.func45 U U rfl rfl (fA (alG ps d e4 e5) fun y s h=>ko h)
noncomputable abbrev W7:jQ:=jD 45 (tW GS) W6
theorem YI:gl ak W7:=e9 Rt YG
noncomputable abbrev cs7:fb:=gP ak W7 H0 1000 40
noncomputable abbrev X7:CX ak:=CX.of mo po YI H0 1000 40
noncomputable abbrev aaw:Code:=dN Tryz.f75
noncomputable abbrev Vd:Code:=dh 3 aaw
noncomputable abbrev aeQ:Code:=dP Vd
noncomputable abbrev aax:Code:=dY Vd
section
variable(u:Int)
def sV0:St:=eG [(3,.dj none 0 0 0),(4,.int .u64 u)] (J []) 3
def Ru(o:lf)(T:Nat):St:=eG [(3,.dj (some (3,0)) T T 1),(4,.int .u64 u)] (J [(3,o)]) 4
theorem alH(n:Int):c9 cs7 [(6,.di (.int .u64 n))] 3 Tryz.f75 [3,4] (eV 3 aaw) (cU [.int .i64 n] .nil 3) [([],
   [(V.int IntKind.u64 (IntKind.u64.wrap n)=V.int IntKind.u64 n)],
   .to .normal (eG [(3,.dj none 0 0 0),(4,.int .u64 n)] (J []) 3))]
 :=cR.of U U U
theorem alI:c9 cs7 [] 3 Tryz.f75 [] (aax) (sV0 u) [([],
   [],
   .ret (.str ([UInt8.ofNat (IntKind.u8.wrap u).toNat])) (J []) 3)]
 :=cR.of U U U
theorem alJ(ks:List Int)(T:Nat):c9 cs7 [] 3 Tryz.f75 [] (aax) (Ru u (.own .u8 ks) T) [([],
   [(0<T),(0+T*1<=ks.length),(0<1),(eU (T+1) 1 1=true),(0+(T+1)<=(List.take (T*1) (List.drop 0 ks)++[IntKind.u8.wrap u]).length)],
   .ret (.str (eT (List.take (T+1) (List.drop 0 (List.take (T*1) (List.drop 0 ks)++[IntKind.u8.wrap u]))))) (J []) 3)]
 :=cR.of U U U
end
def Uk(u:Int):Int:=IntKind.u8.wrap (Int.ofNat (BitVec.ofInt 8 (IntKind.u8.wrap u)|||BitVec.ofInt 8 (128:Int)).toNat)
def loB(u:Int):Int:=IntKind.u8.wrap u
def oD:Nat->Int->List Int
 |0,u=>[loB u]
 |k+1,u=>if 128<=u then Uk u::oD k (u.fdiv 128)else[loB u]
def jw(n:Int):L:=eT (oD 4 n)
theorem Rv{k:Nat}{u:Int}(h:¬128<=u):oD k u=[loB u]:=by
 cases k with
 |zero=>rfl
 |succ k=>show(if 128<=u then _ else _)=_;rw[aI h]
theorem Dp:∀(k:Nat) (u:Int),0<(oD k u).length/\(oD k u).length<=k+1
 |0,u=>by simp[oD]
 |k+1,u=>by
  have:=Dp k (u.fdiv 128);show 0<(if 128<=u then _ else _:List Int).length/\(if 128<=u then _ else _:List Int).length<=_;split
  . simp only[aS];omega
  . simp only[aS,bR];omega
theorem mE(n:Int):0<(jw n).length/\(jw n).length<=5:=by
 have:=Dp 4 n;unfold jw eT;rw[aT];exact this
theorem aeS(u:Int):c9 cs7 [(8,.split)] 3 Tryz.f75 [3,4] (dz (dz aeQ)) (sV0 u) [([((decide (u>=(128:Int))),true)],[],.to .normal (Ru (u.fdiv 128) (.cells [.int .u8 (Uk u)]) 1)),
   ([((decide (u>=(128:Int))),false)],[],.to (.exit 0) (sV0 u))]:=cR.of U U U
theorem aeT(u:Int)(ks ks2:List Int)(T:Nat)(h:List.take (T*1) (List.drop 0 ks)++[Uk u]=ks2):c9 cs7 [(8,.split)] 3 Tryz.f75 [3,4] (dz (dz aeQ)) (Ru u (.own .u8 ks) T) [([((decide (u>=(128:Int))),true)],[(0<T),(0+T*1<=ks.length),(0<1),(eU (T+1) 1 1=true)],.to .normal (Ru (u.fdiv 128) (.own .u8 ks2) (T+1))),
   ([((decide (u>=(128:Int))),false)],[],.to (.exit 0) (Ru u (.own .u8 ks) T))]:=by
 subst h;exact cR.of U U U
def VaS(ks:List Int)(u:Int)(s:St):Prop:=(ks=[]/\∃aa,fa 3 aa s=some (sV0 u))\/(0<ks.length/\∃aa,fa 3 aa s=some (Ru u (.own .u8 ks) ks.length))\/(∃x,ks=[x]/\∃aa,fa 3 aa s=some (Ru u (.cells [.int .u8 x]) 1))
def VaI(n:Int)(k:Nat)(s:St):Prop:=∃ks u,0<=u/\u<128^(k+1)/\ks.length+k<=10/\ks++oD k u=oD 4 n/\VaS ks u s
def VaE(n:Int)(s:St):Prop:=∃ks u,ks.length<=10/\ks++[loB u]=oD 4 n/\VaS ks u s
theorem alK(n:Int)(h0:0<=n)(hn:n<1000000000):TG ak 3 Tryz.f75.ntmps aaw (cU [.int .i64 n] .nil 3) (fJ ak 3 Tryz.f75 fun u _ _=>u= .str (jw n)):=by
 refine iF  3 X7 (alH n) (fun p hp=>?_) ?_
 . rw[aq]at hp;subst hp;have:IntKind.u64.wrap n=n:=by
    unfold IntKind.wrap;have e1:(2^IntKind.u64.bits:Int)=18446744073709551616:=by decide
    have e3:IntKind.u64.signed=false:=rfl;simp only[e1,e3,Bool.false_and,aO,cI];omega
   rw[this]
 show TG ak 3 Tryz.f75.ntmps Vd (sV0 n) _;refine cZ U ?_;refine fB (i:=0) U (fA (Q1:=fun z s'=>z= .exit 0/\VaE n s') (gw (VaI n) U ?_ 4 ⟨[],n,h0,K,dU,rfl,.inl ⟨rfl,[3,4],U⟩⟩) ?_)
 . rintro k s1 ⟨ks,u,hu0,hu,hl,hv,hs⟩;have key:∀hk:128<=u,∃j,k=j+1/\0<=u.fdiv 128/\u.fdiv 128<128^(j+1)/\(ks++[Uk u])++oD j (u.fdiv 128)=oD 4 n:=by
    intro hk;cases k with
    |zero=>simp at hu;omega
    |succ j=>
     have ed:u.fdiv 128=u/128:=cM _ dU;refine⟨j,rfl,by rw[ed];omega,?_,?_⟩
     . rw[ed];have:(128:Int)^(j+1+1)=128^(j+1)*128:=Int.pow_succ ..;rw[this]at hu;exact Int.ediv_lt_of_lt_mul dU hu
     . rw[<- hv];show _=ks++(if 128<=u then _ else _);rw[aH hk];simp
   have EV:∀hk:¬128<=u,ks++[loB u]=oD 4 n:=fun hk=>by rw[<- hv,Rv hk]
   have own:∀s2,0<ks.length->s2=Ru u (.own .u8 ks) ks.length->TG ak 3 Tryz.f75.ntmps (dz (dz (dP Vd))) s2 (andThen (fun s'=>∃k',k'<k/\VaI n k' s') fun z s'=>z= .exit 0/\VaE n s'):=by
    rintro s2 mL rfl;refine fO X7 (aeT u ks (ks++[Uk u]) ks.length (by rw[bn,bk,aU])) fun g hg I=>?_;simp only[aF,aL,bw]at hg;rcases hg with rfl|rfl
    . have hk:128<=u:=aE (I _ (aq.2 rfl));obtain⟨j,rfl,a1,a2,a3⟩:=key hk;have HI:(ks++[Uk u]).length+j<=10:=by
       clear a2 hu;rw[ax,aS,bR];omega
      refine⟨?_,fun s' dO=>⟨j,Nat.lt_succ_self j,_,_,a1,a2,HI,a3,.inr (.inl ⟨by simp,[3,4],by rw[dO,ax];rfl⟩)⟩⟩
      repeat' (first|exact cT|refine iI ?_ ?_)
      . exact mL
      . omega
      . decide
      . exact jk K
    . have hk:¬128<=u:=aJ (I _ (aq.2 rfl));exact⟨cT,fun s' dO=>⟨rfl,ks,u,K,EV hk,.inr (.inl ⟨mL,_,dO⟩)⟩⟩
   rcases hs with⟨rfl,aa,hs⟩|⟨mL,aa,hs⟩|⟨x,rfl,aa,hs⟩
   . refine c6 hs ?_;refine fO X7 (aeS u) fun g hg I=>?_;simp only[aF,aL,bw]at hg;rcases hg with rfl|rfl
     . have hk:128<=u:=aE (I _ (aq.2 rfl));obtain⟨j,rfl,a1,a2,a3⟩:=key hk;have HI:[Uk u].length+j<=10:=by
        clear a2 hu;simp only[aS,bR]at hl ⊢;omega
       exact⟨cT,fun s' dO=>⟨j,Nat.lt_succ_self j,_,_,a1,a2,HI,a3,.inr (.inr ⟨_,rfl,_,dO⟩)⟩⟩
     . have hk:¬128<=u:=aJ (I _ (aq.2 rfl));exact⟨cT,fun s' dO=>⟨rfl,[],u,dU,EV hk,.inl ⟨rfl,_,dO⟩⟩⟩
   . exact c6 hs (own _ mL rfl)
   . refine c6 hs ?_;refine tS [(3,.u8)] (s2:=Ru u (.own .u8 [x]) 1) U ?_;exact own _ Nat.zero_lt_one rfl
 rintro y s2 ⟨rfl,ks,u,hl,hv,hs⟩;rw[dV];simp only[andThen];have own:∀s2,0<ks.length->s2=Ru u (.own .u8 ks) ks.length->TG ak 3 Tryz.f75.ntmps aax s2 (fJ ak 3 Tryz.f75 fun u _ _=>u= .str (jw n)):=by
  rintro s2 mL rfl;refine fh X7 (alJ u ks ks.length) (dG ?_);have e:List.take (ks.length*1) (List.drop 0 ks)++[IntKind.u8.wrap u]=oD 4 n:=by rw[bn,bk,aU];exact hv
  have el:(oD 4 n).length=ks.length+1:=by rw[<- hv,ax];rfl
  rw[e];refine⟨?_,_,_,_,rfl,?_⟩
  . repeat' (first|exact cT|refine iI ?_ ?_)
    . exact mL
    . omega
    . decide
    . exact jk K
    . omega
  . unfold jw;rw[bn,<- el,aU]
 rcases hs with⟨rfl,aa,hs⟩|⟨mL,aa,hs⟩|⟨x,rfl,aa,hs⟩
 . refine c6 hs ?_;refine fh X7 (alI u) (dG ?_);refine⟨cT,_,_,_,rfl,?_⟩;unfold jw;rw[<- hv];rfl
 . exact c6 hs (own _ mL rfl)
 . refine c6 hs ?_;refine tS [(3,.u8)] (s2:=Ru u (.own .u8 [x]) 1) U ?_;exact own _ Nat.zero_lt_one rfl
def K6:ag->Option (ah×V)
 | [.int .i64 n]=>some ([0<=n/\n<1000000000],.str (jw n))
 |_=>none
theorem aaz:jv ak 75 (jS K6):=by
 refine kj (au U) fun args cS v e=>?_;unfold K6 at e;split at e
 . obtain⟨rfl,rfl⟩:=fg e;exact⟨rfl,U,fun hA=>ic mo po Tryz.func75 U U rfl (alK _ (hA _ (aq.2 rfl)).1 (hA _ (aq.2 rfl)).2)⟩
 . cases e
noncomputable abbrev W8:jQ:=jD 75 (jS K6) W7
theorem YJ:gl ak W8:=e9 aaz YI
noncomputable abbrev cs8:fb:=gP ak W8 H0 1000 40
noncomputable abbrev X8:CX ak:=CX.of mo po YJ H0 1000 40
noncomputable abbrev aaA:Code:=dN Tryz.f122
noncomputable abbrev aaB:Code:=dh 1 aaA
noncomputable abbrev aeU:Code:=dP aaB
noncomputable abbrev alL:Code:=dY aaB
noncomputable abbrev aaC:Code:=dN Tryz.f99
noncomputable abbrev aaD:Code:=dh 4 aaC
noncomputable abbrev aeV:Code:=dP aaD
noncomputable abbrev alM:Code:=dY aaD
def YK(c:Int):Int:=nH (c.fdiv 2) (w32 (3988292384*AG c 1))
def sT0(o:lf):St:=eG [(0,.ptr (some (3,0)))] (J [(3,o)]) 4
section
variable(s:L)(ws:List Int)(i:Nat)
def YL:St:=eG [(0,.ptr (some (3,0))),(3,.int .i64 (Int.ofNat i))] (J [(3,.own .u32 ws)]) 4
def aaE:V:=.agg ((List.range 256).map fun j=>.int .u32 (ws.getD j 0))
def sU0(c:Int)(o:lf):St:=eG [(0,.str s),(4,.ptr (some (3,0))),(5,.fn (.func 123) [] [.ptr (some (4,0)),.ptr (some (3,0))])] (J [(3,.cells [.int .u32 c]),(4,o)]) 5
def sU1(c:Int)(ws:List Int)(i:Nat):St:=eG [(0,.str s),(4,.ptr (some (3,0))),(5,.fn (.func 123) [] [.ptr (some (4,0)),.ptr (some (3,0))]),(10,.int .i64 (Int.ofNat s.length)),(11,.int .i64 (Int.ofNat i))] (J [(3,.cells [.int .u32 c]),(4,.own .u32 ws)]) 5
def aaG:Int:=YK (YK (YK (YK (YK (YK (YK (YK (w32 (Int.ofNat i)))))))))
theorem alN:cR ak cs8 [] 1000 3 Tryz.f122 [0] (eV 1 aaA) (cU [] .nil 3) [] [([],[],.to .normal (sT0 (.cells (List.replicate 256 (.int .u32 0)))))]:=by
 unfold cR;kernel_rfl
theorem aaH:KT [(3,.u32)] (sT0 (.cells (List.replicate 256 (.int .u32 0))))=some (sT0 (.own .u32 (List.replicate 256 0))):=by kernel_rfl
theorem alO:c9 cs8 [(3,.di (.int .i64 (Int.ofNat 0)))] 3 Tryz.f122 [0,3] (dP aeU) (sT0 (.own .u32 ws)) [([],[V.int .i64 0=V.int .i64 0],.to .normal (YL ws 0))]:=
 cR.of U U U
theorem alP:c9 cs8 [(4,.split),(20,.di (.int .i64 (Int.ofNat (i+1))))] 3 Tryz.f122 [0,3] (dz (dz (dY aeU))) (YL ws i) [([(decide (Int.ofNat i<256),true)],[0<=Int.ofNat i/\Int.ofNat i<256,0+i*1+1<=ws.length,kY (Int.ofNat i+1) (i+1)],.to .normal (YL (fZ ws (0+i*1) [aaG i]) (i+1))),
   ([(decide (Int.ofNat i<256),false)],[],.to (.exit 0) (YL ws i))]:=
 cR.of U U U
theorem alQ:c9 cs8 [] 3 Tryz.f122 [] alL (YL ws i) [([],[256<=ws.length,256<=ws.length],.ret (aaE ws) (J []) 3)]:=
 cR.of U U U
theorem alR(c:Int)(ws:List Int):c9 cs8 [(11,.di (.int .i64 (Int.ofNat 0)))] 3 Tryz.f99 [0,4,5,10,11] (dP aeV) (sU0 s c (.own .u32 ws)) [([],
   [(V.int aj (0:Int)=V.int aj (0:Int))],
   .to .normal (eG [(0,.str (s)),(4,.ptr (some (3,0))),(5,.fn (.func 123) [] [.ptr (some (4,0)),.ptr (some (3,0))]),(10,.int .i64 ((Int.ofNat s.length))),(11,.int .i64 0)] (J [(3,.cells [.int .u32 c]),(4,.own .u32 (ws))]) 5))]
 :=cR.of U U U
theorem alS(c:Int)(ws:List Int)(i:Nat):c9 cs8 [] 3 Tryz.f99 [] (alM) (sU1 s c ws i) [([],
   [],
   .ret (.int .u32 (IntKind.u32.wrap (Int.ofNat (BitVec.ofInt 32 (4294967295:Int)^^^BitVec.ofInt 32 c).toNat))) (J []) 3)]
 :=cR.of U U U
end
def K7:Nat->List Int
 |0=>List.replicate 256 0
 |i+1=>fZ (K7 i) (0+i*1) [aaG i]
theorem Dq:∀i,i<=256->(K7 i).length=256
 |0,_=>bM ..
 |i+1,h=>by
  have ih:=Dq i K;show(fZ (K7 i) (0+i*1) [aaG i]).length=256;rw[Dm (by simp only[aS,bR];omega),ih]
def zo:List Int:=K7 256
theorem alT:TG ak 3 Tryz.f122.ntmps aaA (cU [] .nil 3) (fJ ak 3 Tryz.f122 fun u _ _=>u=aaE zo):=by
 have hO:∀n:Nat,Int.ofNat n=(n:Int):=fun _=>rfl;refine lX 1 X8 mo U alN cT ?_;refine tS _ aaH ?_;show TG ak 3 Tryz.f122.ntmps aaB _ _;refine cZ U ?_;refine cZ U ?_;refine fO X8 (alO (List.replicate 256 0)) (dG ?_);refine⟨fun p hp=>by rw[aq]at hp;subst hp;rfl,fun s' dO=>?_⟩;have dO:fa 3 [0,3] s'=some (YL (K7 0) 0):=dO;refine fB (i:=0) U (fA (Q1:=fun z s'=>z= .exit 0/\∃aa,fa 3 aa s'=some (YL zo 256)) (gw (fun k' s=>∃i,k'=256-i/\i<=256/\∃aa,fa 3 aa s=some (YL (K7 i) i)) U ?_ 256 ⟨0,rfl,aX _,_,dO⟩) ?_)
 . rintro k' s1 ⟨i,hk,hi,aa,gi⟩;refine c6 gi ?_;refine fO X8 (alP (K7 i) i) fun g hg I=>?_;simp only[aF,aL,bw]at hg;rcases hg with rfl|rfl
   . have fI:i<256:=by
      have:=aE (I _ (aq.2 rfl));rw[hO]at this;omega
     have hl:=Dq i hi;refine⟨?_,fun s' dO=>⟨256-(i+1),K,i+1,rfl,K,_,dO⟩⟩
     repeat' (first|exact cT|refine iI ?_ ?_)
     . exact⟨az _,dm⟩
     . omega
     . exact fL dm K
   . have y6:¬i<256:=by
      have:=aJ (I _ (aq.2 rfl));rw[hO]at this;omega
     obtain rfl:i=256:=by omega
     exact⟨cT,fun s' dO=>⟨rfl,_,dO⟩⟩
 rintro y s2 ⟨rfl,aa,jr⟩;rw[dV];simp only[andThen];refine c6 jr ?_;refine fh X8 (alQ zo 256) (dG ?_);have hl:zo.length=256:=Dq 256 (aA _);refine⟨?_,_,_,_,rfl,rfl⟩
 repeat' (first|exact cT|refine iI ?_ ?_)
 . omega
 . omega
def K8:ag->Option (ah×V)
 | []=>some ([],aaE zo)
 |_=>none
theorem aaI:jv ak 122 (jS K8):=by
 refine kj (au U) fun args cS v e=>?_;unfold K8 at e;split at e
 . obtain⟨rfl,rfl⟩:=fg e;exact⟨rfl,U,fun hA=>ic mo po Tryz.func122 U U rfl alT⟩
 . cases e
noncomputable abbrev W9:jQ:=jD 122 (jS K8) W8
theorem YM:gl ak W9:=e9 aaI YJ
noncomputable abbrev cs9:fb:=gP ak W9 H0 1000 40
noncomputable abbrev X9:CX ak:=CX.of mo po YM H0 1000 40
section
variable(ws:List Int)(s:L)
theorem alU:c9 cs9 [] 3 Tryz.f99 [0,4,5] (eV 4 aaC) (cU [.str s] .nil 3) [([],[],.to .normal (sU0 s 4294967295 (.cells ((List.range 256).map fun j=>.int .u32 (zo.getD j 0)))))]:=
 cR.of U U U
def w256:List Int:=(List.range 256).map fun j=>ws.getD j 0
theorem Rw:(w256 ws).length=256:=by unfold w256;rw[aT,List.length_range]
theorem aaJ(c:Int):KT [(4,.u32)] (sU0 s c (.cells ((List.range 256).map fun j=>.int .u32 (zo.getD j 0))))=some (sU0 s c (.own .u32 (w256 zo))):=by
 kernel_rfl
def K9(c:Int)(b:UInt8):Int:=IntKind.u8.wrap (Int.ofNat (BitVec.ofInt 8 (IntKind.u8.wrap c)^^^BitVec.ofInt 8 (Int.ofNat b.toNat)).toNat)
def aeW(c:Int)(b:UInt8):Int:=nH (ws.getD (0+(K9 c b).toNat*1) 0) (c.fdiv 256)
end
def Ds(ws:List Int)(s:L):Nat->Int
 |0=>4294967295
 |i+1=>aeW ws (Ds ws s i) (s.getD i 0)
section
variable(s:L)
def qX:Int:=nH 4294967295 (Ds (w256 zo) s s.length)
theorem aeX(c:Int)(ws:List Int)(i:Nat):c9 cs9 [(12,.split),(19,.di (.int .i64 (Int.ofNat (i+1))))] 3 Tryz.f99 [0,4,5,10,11] (dz (dz (dY aeV))) (sU1 s c ws i) [([(decide (Int.ofNat i<Int.ofNat s.length),true)],[0<=Int.ofNat i/\(Int.ofNat i).toNat<s.length,0<=K9 c (s.getD i 0)/\K9 c (s.getD i 0)<256,0+(K9 c (s.getD i 0)).toNat*1<ws.length,kY (Int.ofNat i+1) (i+1)],.to .normal (sU1 s (aeW ws c (s.getD i 0)) ws (i+1))),
   ([(decide (Int.ofNat i<Int.ofNat s.length),false)],[],.to (.exit 0) (sU1 s c ws i))]:=
 cR.of U U U
theorem Ve(c:Int)(b:UInt8):0<=K9 c b/\K9 c b<256:=by
 unfold K9 IntKind.wrap;have e1:(2^IntKind.u8.bits:Int)=256:=by decide
 have e3:IntKind.u8.signed=false:=rfl;simp only[e1,e3,Bool.false_and,aO,cI];omega
theorem alV(hs:s.length<1000000000):TG ak 3 Tryz.f99.ntmps aaC (cU [.str s] .nil 3) (fJ ak 3 Tryz.f99 fun u _ _=>u= .int .u32 (qX s)):=by
 have hO:∀n:Nat,Int.ofNat n=(n:Int):=fun _=>rfl;refine iF  4 X9 (alU s) cT ?_;refine tS _ (aaJ s 4294967295) ?_;show TG ak 3 Tryz.f99.ntmps aaD _ _;have hw:=Rw zo;unfold qX;generalize w256 zo=ws at hw ⊢;refine cZ U ?_;refine cZ U ?_;refine fO X8 (alR s 4294967295 ws) (dG ?_);refine⟨fun p hp=>by rw[aq]at hp;subst hp;rfl,fun s' dO=>?_⟩;have dO:fa 3 [0,4,5,10,11] s'=some (sU1 s (Ds ws s 0) ws 0):=dO;refine fB (i:=0) U (fA (Q1:=fun z s'=>z= .exit 0/\∃aa,fa 3 aa s'=some (sU1 s (Ds ws s s.length) ws s.length)) (gw (fun k' s'=>∃i,k'=s.length-i/\i<=s.length/\∃aa,fa 3 aa s'=some (sU1 s (Ds ws s i) ws i)) U ?_ s.length ⟨0,rfl,aX _,_,dO⟩) ?_)
 . rintro k' s1 ⟨i,hk,hi,aa,gi⟩;refine c6 gi ?_;refine fO X9 (aeX s (Ds ws s i) ws i) fun g hg I=>?_;simp only[aF,aL,bw]at hg;rcases hg with rfl|rfl
   . have fI:i<s.length:=by
      have:=aE (I _ (aq.2 rfl));rw[hO,hO]at this;omega
     have G:=Ve (Ds ws s i) (s.getD i 0);refine⟨?_,fun s' dO=>⟨s.length-(i+1),K,i+1,rfl,K,_,dO⟩⟩
     repeat' (first|exact cT|refine iI ?_ ?_)
     . exact⟨az _,fI⟩
     . exact G
     . omega
     . exact fL dm K
   . have y6:¬i<s.length:=by
      have:=aJ (I _ (aq.2 rfl));rw[hO,hO]at this;omega
     obtain rfl:i=s.length:=by omega
     exact⟨cT,fun s' dO=>⟨rfl,_,dO⟩⟩
 rintro y s2 ⟨rfl,aa,jr⟩;rw[dV];simp only[andThen];refine c6 jr ?_;refine fh X8 (alS s (Ds ws s s.length) ws s.length) (dG ?_);exact⟨cT,_,_,_,rfl,rfl⟩
end
def La:ag->Option (ah×V)
 | [.str s]=>some ([s.length<1000000000],.int .u32 (qX s))
 |_=>none
theorem aaK:jv ak 99 (jS La):=by
 refine kj (au U) fun args cS v e=>?_;unfold La at e;split at e
 . obtain⟨rfl,rfl⟩:=fg e;exact⟨rfl,U,fun hA=>ic mo po Tryz.func99 U U rfl (alV _ (hA _ (aq.2 rfl)))⟩
 . cases e
noncomputable abbrev W10:jQ:=jD 99 (jS La) W9
theorem Rx:gl ak W10:=e9 aaK YM
noncomputable abbrev aaL:fb:=gP ak W10 H0 1000 40
noncomputable abbrev X10:CX ak:=CX.of mo po Rx H0 1000 40
noncomputable abbrev aaM:Code:=dN Tryz.f47
noncomputable abbrev aaN:Code:=dh 2 aaM
noncomputable abbrev aeY:Code:=dP aaN
noncomputable abbrev alY:Code:=dY aaN
section
variable(b:L)(D:List (L))
def sR0:St:=eG [(1,.dS false D.length (strs D)),(5,.str b)] (J []) 3
def sR1(i:Nat):St:=eG [(5,.str b),(16,.dS false D.length (strs D)),(17,.int .i64 (Int.ofNat D.length)),(18,.int .i64 (Int.ofNat i))] (J []) 3
theorem alZ:c9 aaL [] 3 Tryz.f76 [] (dN Tryz.f76) (cU [.str b] .nil 3) [([],
   [((0:Int)<=(Int.ofNat b.length)/\(Int.ofNat b.length)<(1000000000:Int)),((jw (Int.ofNat b.length)).length+b.length<=9223372036854775807),(b.length<1000000000),((jw (Int.ofNat b.length)++b).length+(dX (IntKind.i64.wrap (qX b))).length<=9223372036854775807)],
   .ret (.str (jw (Int.ofNat b.length)++b++dX (IntKind.i64.wrap (qX b)))) (J []) 3)]
 :=cR.of U U U
theorem al0(d:L)(D:List (L)):c9 aaL [] 3 Tryz.f47 [1,5] (eV 2 aaM) (cU [.str d,.dS false D.length (strs D)] .nil 3) [([],
   [((0:Int)<=(Int.ofNat d.length)/\(Int.ofNat d.length)<(1000000000:Int)),((jw (Int.ofNat d.length)).length+d.length<=9223372036854775807),(1+(jw (Int.ofNat d.length)++d).length<=9223372036854775807),((0:Int)<=(Int.ofNat D.length)/\(Int.ofNat D.length)<(1000000000:Int)),((pR (1:Int)++(jw (Int.ofNat d.length)++d)).length+(jw (Int.ofNat D.length)).length<=9223372036854775807)],
   .to .normal (eG [(1,.dS false (D.length) (strs D)),(5,.str (pR (1:Int)++(jw (Int.ofNat d.length)++d)++jw (Int.ofNat D.length)))] (J []) 3))]
 :=cR.of U U U
theorem al1:c9 aaL [(18,.di (.int .i64 (Int.ofNat 0)))] 3 Tryz.f47 [5,16,17,18] (dP aeY) (sR0 b D) [([],
   [(V.int aj (0:Int)=V.int aj (0:Int))],
   .to .normal (eG [(5,.str (b)),(16,.dS false (D.length) (strs D)),(17,.int .i64 ((Int.ofNat D.length))),(18,.int .i64 0)] (J []) 3))]
 :=cR.of U U U
end
section
variable(s b n:L)(D:List (L))(i:Nat)
def jz:L:=jw (Int.ofNat s.length)++s
def nI:L:=jz b++dX (IntKind.i64.wrap (qX b))
def vH(d:L)(n:Nat):L:=pR 1++jz d++jw (Int.ofNat n)
def gd(d:L)(D:List (L)):L:=nI (vH d D.length++D.flatten)
def kZ(d:L):L:=nI (pR 2++jz n++jz d)
theorem o9:s.length<(jz s).length/\(jz s).length<=s.length+5:=by
 have:=mE (Int.ofNat s.length);unfold jz;rw[ax];omega
theorem x7:s.length+4<(nI s).length/\(nI s).length<=s.length+9:=by
 have:=o9 s;unfold nI;rw[ax];show _<_+4/\_+4<=_;omega
theorem wL(d:L)(n:Nat):d.length<(vH d n).length/\(vH d n).length<=d.length+11:=by
 have:=o9 d;have B:=mE (Int.ofNat n);unfold vH;rw[ax,ax];show _<1+_+_/\1+_+_<=_;omega
theorem I2(d:L)(D:List (L)):0<(gd d D).length/\(gd d D).length<=d.length+20+D.flatten.length:=by
 have h:=x7 (vH d D.length++D.flatten);have N:=wL d D.length;rw[ax]at h;unfold gd;omega
theorem Ry(d:L):0<(kZ n d).length/\(kZ n d).length<=n.length+d.length+20:=by
 have h:=x7 (pR 2++jz n++jz d);have N:=o9 n;have B:=o9 d;rw[ax,ax]at h;have e:(pR 2).length=1:=rfl;unfold kZ;omega
def Lb:ag->Option (ah×V)
 | [.str b]=>some ([b.length<1000000000],.str (nI b))
 |_=>none
theorem aaP:jv ak 76 (jS Lb):=by
 refine kj (au U) fun args cS v e=>?_;unfold Lb at e;split at e
 . rename_i b;obtain⟨rfl,rfl⟩:=fg e;refine⟨rfl,U,fun hA=>?_⟩;have hb:b.length<1000000000:=hA _ (aq.2 rfl);have hO:∀n:Nat,Int.ofNat n=(n:Int):=fun _=>rfl;have N:=mE (Int.ofNat b.length);obtain⟨aa,hr⟩:=alZ b;refine ic mo po Tryz.func76 U U rfl (gA X10 mo _ U hr fun g hg _=>?_);rw[aq]at hg;subst hg;refine⟨?_,_,_,_,rfl,rfl⟩
   repeat' (first|exact cT|refine iI ?_ ?_)
   . exact⟨az _,dm⟩
   . omega
   . exact hb
   . rw[ax];show _+4<=_;omega
 . cases e
noncomputable abbrev W11:jQ:=jD 76 (jS Lb) W10
theorem Rz:gl ak W11:=e9 aaP Rx
noncomputable abbrev aaQ:fb:=gP ak W11 H0 1000 40
noncomputable abbrev X11:CX ak:=CX.of mo po Rz H0 1000 40
theorem YN(b2:L)(D:List (L))(p:L)(i:Nat)(h:b++p=b2):c9 aaQ [(19,.split),(20,.di (.dx [.str p])),(25,.di (.int .i64 (Int.ofNat (i+1))))] 3 Tryz.f47 [5,16,17,18] (dz (dz (dY aeY))) (sR1 b D i) [([((decide (Int.ofNat i<Int.ofNat D.length)),true)],
   [((0:Int)<=Int.ofNat i/\Int.ofNat i<(Int.ofNat D.length)),((strs D).length=D.length*1),(V.dx (dF (strs D) ((Int.ofNat i).toNat*1) 1)=V.dx [rs.str p]),(b.length+p.length<=9223372036854775807),kY (Int.ofNat i+1) (i+1)],
   .to .normal (sR1 b2 D (i+1))),
  ([((decide (Int.ofNat i<Int.ofNat D.length)),false)],[],.to (.exit 0) (sR1 b D i))]:=by
 subst h;exact cR.of U U U
theorem al3:c9 aaQ [] 3 Tryz.f47 [] alY (sR1 b D i) [([],[b.length<1000000000],.ret (.str (nI b)) (J []) 3)]:=
 cR.of U U U
theorem Fp{D:List (L)}{i:Nat}{p:L}(h:D[i]? =some p):(D.take (i+1)).flatten=(D.take i).flatten++p:=by
 rw[bG,h,cz];simp
theorem Vf:(D.take i).flatten.length<=D.flatten.length:=by
 have:D.flatten=(D.take i).flatten++(D.drop i).flatten:=by
  rw[<- cz,cn]
 rw[this,ax];omega
theorem al4(d:L)(D:List (L))(hd:d.length<=100000000)(H6:D.length<=1000000)(hf:D.flatten.length<=100000000):TG ak 3 Tryz.f47.ntmps aaM (cU [.str d,.dS false D.length (strs D)] .nil 3)
  (fJ ak 3 Tryz.f47 fun u _ _=>u= .str (gd d D)):=by
 have hO:∀n:Nat,Int.ofNat n=(n:Int):=fun _=>rfl;have hh:=wL d D.length;refine iF  2 X10 (al0 d D) ?_ ?_
 . have N:=mE (Int.ofNat d.length);have B:=mE (Int.ofNat D.length)
   repeat' (first|exact cT|refine iI ?_ ?_)
   . exact⟨az _,dm⟩
   . omega
   . rw[ax];omega
   . exact⟨az _,dm⟩
   . rw[ax,ax];show 1+_+_<=_;omega
 show TG ak 3 Tryz.f47.ntmps aaN (sR0 (vH d D.length) D) _;unfold gd;generalize vH d D.length=hb at hh ⊢;refine cZ U ?_;refine cZ U ?_;refine fO X10 (al1 hb D) (dG ?_);refine⟨fun p hp=>by rw[aq]at hp;subst hp;rfl,fun s' dO=>?_⟩;have dO:fa 3 [5,16,17,18] s'=some (sR1 (hb++(D.take 0).flatten) D 0):=by rw[dO];simp;rfl
 refine fB (i:=0) U (fA (Q1:=fun z s'=>z= .exit 0/\∃aa,fa 3 aa s'=some (sR1 (hb++D.flatten) D D.length)) (gw (fun k' s=>∃i,k'=D.length-i/\i<=D.length/\∃aa,fa 3 aa s=some (sR1 (hb++(D.take i).flatten) D i)) U ?_ D.length ⟨0,rfl,aX _,_,dO⟩) ?_)
 . rintro k' s1 ⟨i,hk,hi,aa,gi⟩;refine c6 gi ?_;rcases bK i D.length with fI|y6
   . obtain⟨p,hp⟩:∃p,D[i]? =some p:=⟨_,ay fI⟩;have QT:=Vf D (i+1);rw[Fp hp,ax]at QT;refine fO X11 (YN (hb++(D.take i).flatten) (hb++(D.take (i+1)).flatten) D p i (by rw[Fp hp,bB])) fun g hg I=>?_;simp only[aF,aL,bw]at hg;rcases hg with rfl|rfl
     . refine⟨?_,fun s' dO=>⟨D.length-(i+1),K,i+1,rfl,K,_,dO⟩⟩
       repeat' (first|exact cT|refine iI ?_ ?_)
       . exact⟨az _,dm⟩
       . rw[eN,bk]
       . exact aN V.dx (fM hp)
       . rw[ax];omega
       . exact fL dm K
     . exact absurd (aJ (I _ (aq.2 rfl))) dm
   . obtain rfl:i=D.length:=by omega
     refine fO X11 (YN (hb++(D.take D.length).flatten) _ D [] D.length rfl) fun g hg I=>?_;simp only[aF,aL,bw]at hg;rcases hg with rfl|rfl
     . exact absurd (aE (I _ (aq.2 rfl))) dm
     . refine⟨cT,fun s' dO=>⟨rfl,[5,16,17,18],?_⟩⟩;rw[dO,aU]
 rintro y s2 ⟨rfl,aa,jr⟩;rw[dV];simp only[andThen];refine c6 jr ?_;refine fh X11 (al3 (hb++D.flatten) D D.length) (dG ?_);refine⟨fun p hp=>?_,_,_,_,rfl,rfl⟩;rw[aq]at hp;subst hp;rw[ax];omega
def GU:ai->Option (ah×V)
 | [.str d,.dS n C]=>some ([C=strs (dy C),n=(dy C).length,d.length<=100000000,n<=1000000,(dy C).flatten.length<=100000000],.str (gd d (dy C)))
 |_=>none
theorem RA:jv ak 47 (dW GU):=by
 refine vE (au U) fun args cS v e hA=>?_;unfold GU at e;split at e
 case h_2=>cases e
 rename_i d n C;simp only[an,aB]at e;obtain⟨rfl,rfl⟩:=e;have e1:C=strs (dy C):=hA _ (by simp);have e2:n=(dy C).length:=hA (n=(dy C).length) (by simp);have e3:d.length<=100000000:=hA (d.length<=100000000) (by simp);have e4:n<=1000000:=hA (n<=1000000) (by simp);have e5:(dy C).flatten.length<=100000000:=hA ((dy C).flatten.length<=100000000) (by simp);generalize dy C=ps at *;subst e1 e2;exact ig mo po Tryz.func47 U U rfl rfl (fA (al4 d ps e3 e4 e5) fun y s h=>ko h)
def Lc:ag->Option (ah×V)
 | [.str n,.str d]=>some ([n.length<100000000,d.length<100000000],.str (kZ n d))
 |_=>none
theorem al5(d:L):c9 aaQ [] 3 Tryz.f49 [] (dN Tryz.f49) (cU [.str n,.str d] .nil 3) [([],[0<=Int.ofNat n.length/\Int.ofNat n.length<1000000000,(jw (Int.ofNat n.length)).length+n.length<=9223372036854775807,1+(jw (Int.ofNat n.length)++n).length<=9223372036854775807,0<=Int.ofNat d.length/\Int.ofNat d.length<1000000000,(jw (Int.ofNat d.length)).length+d.length<=9223372036854775807,(pR 2++(jw (Int.ofNat n.length)++n)).length+(jw (Int.ofNat d.length)++d).length<=9223372036854775807,(pR 2++(jw (Int.ofNat n.length)++n)++(jw (Int.ofNat d.length)++d)).length<1000000000],.ret (.str (kZ n d)) (J []) 3)]:=
 cR.of U U U
theorem aaR:jv ak 49 (jS Lc):=by
 refine kj (au U) fun args cS v e=>?_;unfold Lc at e;split at e
 . rename_i n d;obtain⟨rfl,rfl⟩:=fg e;refine⟨rfl,U,fun hA=>?_⟩;have hn:n.length<100000000:=hA _ (by simp);have hd:d.length<100000000:=hA (d.length<100000000) (by simp);have hO:∀n:Nat,Int.ofNat n=(n:Int):=fun _=>rfl;have N:=mE (Int.ofNat n.length);have B:=mE (Int.ofNat d.length);obtain⟨aa,hr⟩:=al5 n d;refine ic mo po Tryz.func49 U U rfl (gA X11 mo _ U hr fun g hg _=>?_);rw[aq]at hg;subst hg;refine⟨?_,_,_,_,rfl,rfl⟩;have e1:(pR 2).length=1:=rfl
   repeat' (first|exact cT|refine iI ?_ ?_)
   . exact⟨az _,dm⟩
   . omega
   . rw[ax];omega
   . exact⟨az _,dm⟩
   . omega
   . simp only[ax,e1];omega
   . simp only[ax,e1];omega
 . cases e
noncomputable abbrev W12:jQ:=jD 49 (jS Lc) (jD 47 (dW GU) W11)
end
theorem RB:gl ak W12:=e9 aaR (e9 RA Rz)
noncomputable abbrev Vg:fb:=gP ak W12 H0 1000 40
noncomputable abbrev X12:CX ak:=CX.of mo po RB H0 1000 40
end Go.Proofs.YtfihojpgobmmdaaGreatDoor
