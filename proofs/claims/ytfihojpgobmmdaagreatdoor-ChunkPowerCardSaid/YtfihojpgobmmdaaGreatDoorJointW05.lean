/- Lemmas on the chunk store. No conditions. -/
import Derived.Test.YtfihojpgobmmdaaGreatDoorProg
import Derived.Test.YtfihojpgobmmdaaGreatDoorJointW04
import Derived.Shelf.Strings.Repeat
set_option linter.unusedVariables false
set_option linter.unusedSimpArgs false
set_option linter.unusedSectionVars false
set_option maxRecDepth 20000
namespace Go.Proofs.YtfihojpgobmmdaaGreatDoor
open Go Go.Eng
noncomputable abbrev ak:=Tryz.prog
theorem po:l6 ak=true:=by kernel_rfl
theorem mo:Tryz.prog.follows .mixedOrders=true:=by kernel_rfl
noncomputable def dO(f:Func):Code:=match f.body with|some c=>c|none=>.skip
abbrev H0:FuncId->List (Nat×pC):=fun _=>[]
noncomputable abbrev cs0:e9:=gL ak noW H0 1000 40
noncomputable abbrev X0:CX ak:=CX.of mo po (RE _) H0 1000 40
section
variable{I rt:Nat}{c:Code}{s:St}{cs:Exit->St->Prop}{Tr:List (Nat×pC)}{fn:Func}{live:List Nat}{fm:List (List (Bool×Bool)×ah×od)}
abbrev dc(Q:e9)(Tr:List (Nat×pC))(I:Nat)(fn:Func)(live:List Nat)(c:Code)(s:St)(fm:List (List (Bool×Bool)×ah×od)):Prop:=∃be,cT ak Q Tr 1000 I fn live c s be fm
abbrev QtG:=ah×od
abbrev PtG:=List (Bool×Bool)×QtG
abbrev eP(s:St):od:=.to .normal s
abbrev kJ(a b:Nat):Prop:=(0:Int)<=Int.ofNat a/\Int.ofNat a<Int.ofNat b
abbrev Ez(i:Nat):Prop:=V.int aj (IntKind.i64.wrap (Int.ofNat i+(1:Int)))=V.int .i64 (Int.ofNat (i+1))
abbrev nT(be:ai)(i w:Nat)(c:ai):Prop:=V.eK (eX be (i*w) w)=V.eK c
abbrev jC(b:Bool):Prop:=V.bool b=V.bool false
abbrev EA(b:Bool):Prop:=V.bool b=V.bool true
abbrev iU(a:Bool)(p q:QtG):List PtG:=[([(a,true)],p),([(a,false)],q)]
abbrev Jl(a b:Bool)(p q r:QtG):List PtG:=[([(a,true),(b,true)],p),([(a,true),(b,false)],q),([(a,false)],r)]
abbrev afw(a b:Bool)(p q r:QtG):List PtG:=[([(a,true)],p),([(a,false),(b,true)],q),([(a,false),(b,false)],r)]
abbrev afx(a b:Bool)(p q:QtG):List PtG:=Jl a b p q q
abbrev alH(a b:Bool)(p q:QtG):List PtG:=afw a b p p q
theorem cT.ef{P:Program}{Q:e9}{Tr:List (Nat×pC)}{fl I:Nat}{fn:Func}{live:List Nat}{c:Code}{s:St}{fm:List (List (Bool×Bool)×ah×od)}(X:xD P Q Tr fl c s=true:=by kernel_rfl)(h2:xj P Q Tr fl c s=zE P Q Tr fl c s:=by kernel_rfl)(h3:ET P Q Tr fl I fn live c s=fm:=by kernel_rfl):∃be,cT P Q Tr fl I fn live c s be fm:=cT.of X h2 h3
theorem fV(h1:CX ak)(hr:dc h1.Q Tr I fn live c s fm)(h:∀g∈fm,(∀b∈g.1,b.1=b.2)->(∀a∈g.2.1,a)/\g.2.2.post ak I fn live oL cs)(J:fb rt c=true:=by kernel_rfl):TG ak I rt c s cs:=
 hr.elim fun _ hr=>gP h1 mo oL J hr h
theorem iw(k:Nat)(h1:CX ak){cU:ah}{s1:St}(hr:dc h1.Q Tr I fn live (eU k c) s [([],cU,.to .normal s1)])(hA:∀a∈cU,a)(h:TG ak I rt (dw k c) s1 cs)(J:fb rt c=true:=by kernel_rfl):TG ak I rt c s cs:=
 hr.elim fun _ hr=>nP k h1 mo J hr hA h
theorem eZ{nx:V->H rs->Nat->Prop}(h1:CX ak)(hr:dc h1.Q Tr I fn live c s fm)(h:∀g∈fm,(∀b∈g.1,b.1=b.2)->(∀a∈g.2.1,a)/\∃v h n,g.2.2= .ret v h n/\nx v h n)(J:fb rt c=true:=by kernel_rfl):TG ak I rt c s (fL ak I fn nx):=
 hr.elim fun _ hr=>ij h1 mo nx J hr h
end
abbrev w32(x:Int):Int:=IntKind.u32.wrap x
def Kr(a b:Int):Int:=w32 ↑(BitVec.ofInt 32 a|||BitVec.ofInt 32 b).toNat
def nU(a b:Int):Int:=w32 ↑(BitVec.ofInt 32 a^^^BitVec.ofInt 32 b).toNat
def DC(m d x:Int):Int:=Kr (w32 (x*m)) (x.fdiv d)
section
variable(ws:List Int)(x:Int)(b:B)(i:Nat)
abbrev gW:Int:=ws.getD (0+i*1) 0
def sg0:Int:=nU (nU (DC 33554432 128 x) (DC 16384 262144 x)) (x.fdiv 8)
def sg1:Int:=nU (nU (DC 32768 131072 x) (DC 8192 524288 x)) (x.fdiv 1024)
def Jm:Int:=w32 (w32 (w32 (gW ws (i-16)+sg0 (gW ws (i-15)))+gW ws (i-7))+sg1 (gW ws (i-2)))
abbrev VV:Int:=w32 ↑(b.getD i 0).toNat
def Jn:Int:=Kr (Kr (Kr (w32 (VV b (i*4)*16777216)) (w32 (VV b (i*4+1)*65536))) (w32 (VV b (i*4+2)*256))) (VV b (i*4+3))
end
noncomputable abbrev aaN:Code:=dO Tryz.f97
noncomputable abbrev aaO:Code:=dw 1 aaN
noncomputable abbrev afy:Code:=dS aaO
noncomputable abbrev afz:Code:=dD (dU afy)
noncomputable abbrev aaP:Code:=dU aaO
noncomputable abbrev afA:Code:=dS aaP
noncomputable abbrev alK:Code:=dD (dU afA)
noncomputable abbrev alL:Code:=dU aaP
section
variable(b:B)(ws:List Int)(i:Nat)
def zW:rs:=.cells (List.replicate 64 (.int .u32 0))
def sS0(o:rs):St:=eL [(0,.str b),(2,.ptr (some (3,0)))] (K [(3,o)]) 4
def sSA:St:=eL [(0,.str b),(2,.ptr (some (3,0))),(9,.int .i64 (Int.ofNat i))] (K [(3,.own .u32 ws)]) 4
def sSB:St:=eL [(2,.ptr (some (3,0))),(4,.int .i64 (Int.ofNat i))] (K [(3,.own .u32 ws)]) 4
theorem alM:cT ak cs0 [] 1000 3 Tryz.f97 [0,2] (eU 1 aaN) (cZ [.str b] .nil 3) [] [([],[],.to .normal (sS0 b zW))]:=by
 unfold cT;kernel_rfl
theorem aaS:Le [(3,.u32)] (sS0 b zW)=some (sS0 b (.own .u32 (List.replicate 64 0))):=by kernel_rfl
theorem alN:cT ak cs0 [] 1000 3 Tryz.f97 [0,2,9] (dS afy) (sS0 b (.own .u32 ws)) [] [([],[],.to .normal (sSA b ws 0))]:=by
 unfold cT;kernel_rfl
abbrev lA(x:Int)(n:Nat):Prop:=V.int .i64 (IntKind.i64.wrap x)=V.int .i64 (Int.ofNat n)
abbrev ibd(n l:Nat):Prop:=0<=Int.ofNat n/\n<l
abbrev iN(n:Nat):Prop:=0<=Int.ofNat n/\Int.ofNat n<64
def scA:ah:=[lA (Int.ofNat i*4) (i*4),ibd (i*4) b.length,lA (Int.ofNat i*4) (i*4),lA (Int.ofNat (i*4)+1) (i*4+1),ibd (i*4+1) b.length,lA (Int.ofNat i*4) (i*4),lA (Int.ofNat (i*4)+2) (i*4+2),ibd (i*4+2) b.length,lA (Int.ofNat i*4) (i*4),lA (Int.ofNat (i*4)+3) (i*4+3),ibd (i*4+3) b.length,
 iN i,0+i*1+1<=ws.length,lA (Int.ofNat i+1) (i+1)]
theorem alO:cT ak cs0 [(10,.split),(15,.di (.int .i64 (Int.ofNat (i*4)))),(21,.di (.int .i64 (Int.ofNat (i*4)))),(22,.di (.int .i64 (Int.ofNat (i*4+1)))),(29,.di (.int .i64 (Int.ofNat (i*4)))),(30,.di (.int .i64 (Int.ofNat (i*4+2)))),(37,.di (.int .i64 (Int.ofNat (i*4)))),(38,.di (.int .i64 (Int.ofNat (i*4+3)))),(43,.di (.int .i64 (Int.ofNat (i+1))))] 1000 3 Tryz.f97 [0,2,9] (dD afz) (sSA b ws i) []
  [([(decide (Int.ofNat i<16),true)],scA b ws i,.to .normal (sSA b (fZ ws (0+i*1) [Jn b i]) (i+1))),([(decide (Int.ofNat i<16),false)],[],.to (.exit 0) (sSA b ws i))]:=by
 unfold cT;kernel_rfl
theorem alP:cT ak cs0 [(4,.di (.int .i64 (Int.ofNat 16)))] 1000 3 Tryz.f97 [2,4] (dS afA) (sSA b ws i) [] [([],[V.int .i64 16=V.int .i64 16],.to .normal (sSB ws 16))]:=by
 unfold cT;kernel_rfl
def scB:ah:=[lA (Int.ofNat i-15) (i-15),iN (i-15),0+(i-15)*1<ws.length,lA (Int.ofNat i-2) (i-2),iN (i-2),0+(i-2)*1<ws.length,lA (Int.ofNat i-16) (i-16),iN (i-16),0+(i-16)*1<ws.length,lA (Int.ofNat i-7) (i-7),iN (i-7),0+(i-7)*1<ws.length,
 iN i,0+i*1+1<=ws.length,lA (Int.ofNat i+1) (i+1)]
theorem alQ:cT ak cs0 [(45,.split),(49,.di (.int .i64 (Int.ofNat (i-15)))),(53,.di (.int .i64 (Int.ofNat (i-2)))),(74,.di (.int .i64 (Int.ofNat (i-16)))),(80,.di (.int .i64 (Int.ofNat (i-7)))),(47,.di (.int .i64 (Int.ofNat (i+1))))] 1000 3 Tryz.f97 [2,4] (dD alK) (sSB ws i) []
  [([(decide (Int.ofNat i<64),true)],scB ws i,.to .normal (sSB (fZ ws (0+i*1) [Jm ws i]) (i+1))),([(decide (Int.ofNat i<64),false)],[],.to (.exit 2) (sSB ws i))]:=by
 unfold cT;kernel_rfl
def aaT:V:=.agg ((List.range 64).map fun j=>.int .u32 (ws.getD j 0))
theorem alR:cT ak cs0 [] 1000 3 Tryz.f97 [] alL (sSB ws i) [] [([],[64<=ws.length,64<=ws.length],.ret (aaT ws) (K []) 3)]:=by
 unfold cT;kernel_rfl
end
theorem dY{i:Nat}{cs:Exit->St->Prop}{s:St}:mK i cs (.exit i) s=cs .normal s:=by simp[mK]
theorem DD{px:List Int}{o:Nat}{l:List Int}(h:o+l.length<=px.length):(fZ px o l).length=px.length:=by
 unfold fZ;simp only[ay,aY,b7];omega
theorem eV{x:Int}(X:-9000000000000000000<=x)(h2:x<=9000000000000000000):IntKind.i64.wrap x=x:=by
 unfold IntKind.wrap;have e1:(2^IntKind.i64.bits:Int)=18446744073709551616:=by decide
 have e2:(2^(IntKind.i64.bits-1):Int)=9223372036854775808:=by decide
 have e3:IntKind.i64.signed=true:=rfl;simp only[e1,e2,e3,Bool.true_and,bD];split<;>omega
theorem fP{x:Int}{n:Nat}(h:x=(n:Int))(hb:n<1000000000000):lA x n:=by
 unfold lA;rw[eV L L,h];rfl
def Y8(b:B):Nat->List Int
 |0=>List.replicate 64 0
 |i+1=>fZ (Y8 b i) (0+i*1) [Jn b i]
theorem Ck(b:B):∀i,i<=16->(Y8 b i).length=64
 |0,_=>bM ..
 |i+1,h=>by
  have ih:=Ck b i L;show(fZ (Y8 b i) (0+i*1) [Jn b i]).length=64;rw[DD (by simp only[aT,bP];omega),ih]
def EV(b:B):Nat->List Int
 |0=>Y8 b 16
 |j+1=>fZ (EV b j) (0+(16+j)*1) [Jm (EV b j) (16+j)]
theorem zJ(b:B):∀j,j<=48->(EV b j).length=64
 |0,_=>Ck b 16 (aC _)
 |j+1,h=>by
  have ih:=zJ b j L;show(fZ (EV b j) (0+(16+j)*1) [Jm (EV b j) (16+j)]).length=64;rw[DD (by simp only[aT,bP];omega),ih]
theorem alS(b:B)(hb:64<=b.length):TG ak 3 Tryz.f97.ntmps aaN (cZ [.str b] .nil 3) (fL ak 3 Tryz.f97 fun u _ _=>u=aaT (EV b 48)):=by
 have hO:∀n:Nat,Int.ofNat n=(n:Int):=fun _=>rfl;refine nP 1 X0 mo U (alM b) (by simp) ?_;refine uo _ (aaS b) ?_;show TG ak 3 Tryz.f97.ntmps aaO _ _;refine c6 U ?_;refine zG X0 mo oL U U (alN b _) (dG ?_);refine⟨by simp,fun s' ek=>?_⟩;refine fk (i:=0) U (fB (Q1:=fun z s'=>z= .exit 0/\∃be,fe 3 be s'=some (sSA b (Y8 b 16) 16)) (gw (fun k' s=>∃i,k'=16-i/\i<=16/\∃be,fe 3 be s=some (sSA b (Y8 b i) i)) U ?_ 16 ⟨0,rfl,aX _,_,ek⟩) ?_)
 . rintro k' s ⟨i,hk,hi,be,hs⟩;refine dh hs ?_;refine gP X0 mo oL U (alO b (Y8 b i) i) fun g hg J=>?_;simp only[aD,aN,br]at hg;rcases hg with rfl|rfl
   . have fH:i<16:=by
      have:=aI (J _ (au.2 rfl));rw[hO]at this;omega
     refine⟨fun p hp=>?_,fun s' ek=>⟨16-(i+1),L,i+1,rfl,L,[0,2,9],ek⟩⟩;have hl:=Ck b i L;simp only[scA,aD,aN,br]at hp;rcases hp with rfl|rfl|rfl|rfl|rfl|rfl|rfl|rfl|rfl|rfl|rfl|rfl|rfl|rfl
     . exact fP dr L
     . exact⟨aA _,L⟩
     . exact fP dr L
     . exact fP dr L
     . exact⟨aA _,L⟩
     . exact fP dr L
     . exact fP dr L
     . exact⟨aA _,L⟩
     . exact fP dr L
     . exact fP dr L
     . exact⟨aA _,L⟩
     . exact⟨aA _,dr⟩
     . omega
     . exact fP dr L
   . have AE:¬i<16:=by
      have:=aK (J _ (au.2 rfl));rw[hO]at this;omega
     obtain rfl:i=16:=by omega
     exact⟨by simp,fun s' ek=>⟨rfl,_,ek⟩⟩
 rintro y s2 ⟨rfl,be,gY⟩;rw[dY];simp only[andThen];refine dh gY ?_;show TG ak 3 Tryz.f97.ntmps aaP _ _;refine c6 U ?_;refine zG X0 mo oL U U (alP b _ 16) (dG ?_);refine⟨fun p hp=>by rw[au]at hp;subst hp;rfl,fun s' ek=>?_⟩;refine fk (i:=2) U (fB (Q1:=fun z s'=>z= .exit 2/\∃be,fe 3 be s'=some (sSB (EV b 48) 64)) (gw (fun k' s=>∃j,k'=48-j/\j<=48/\∃be,fe 3 be s=some (sSB (EV b j) (16+j))) U ?_ 48 ⟨0,rfl,aX _,_,ek⟩) ?_)
 . rintro k' s ⟨j,hk,hj,be,hs⟩;refine dh hs ?_;refine gP X0 mo oL U (alQ (EV b j) (16+j)) fun g hg J=>?_;simp only[aD,aN,br]at hg;rcases hg with rfl|rfl
   . have fH:j<48:=by
      have:=aI (J _ (au.2 rfl));rw[hO]at this;omega
     refine⟨fun p hp=>?_,fun s' ek=>⟨48-(j+1),L,j+1,rfl,L,[2,4],ek⟩⟩;have hl:=zJ b j L;simp only[scB,aD,aN,br]at hp;rcases hp with rfl|rfl|rfl|rfl|rfl|rfl|rfl|rfl|rfl|rfl|rfl|rfl|rfl|rfl|rfl
     . exact fP dr L
     . exact⟨aA _,dr⟩
     . omega
     . exact fP dr L
     . exact⟨aA _,dr⟩
     . omega
     . exact fP dr L
     . exact⟨aA _,dr⟩
     . omega
     . exact fP dr L
     . exact⟨aA _,dr⟩
     . omega
     . exact⟨aA _,dr⟩
     . omega
     . exact fP dr L
   . have AE:¬j<48:=by
      have:=aK (J _ (au.2 rfl));rw[hO]at this;omega
     obtain rfl:j=48:=by omega
     exact⟨by simp,fun s' ek=>⟨rfl,_,ek⟩⟩
 . rintro y s2 ⟨rfl,be,gY⟩;rw[dY];simp only[andThen];refine dh gY ?_;refine ij X0 mo _ U (alR (EV b 48) 64) (dG ?_);have hl:=zJ b 48 (aC _);refine⟨fun p hp=>?_,_,_,_,rfl,rfl⟩;simp only[aD,aN,br]at hp;rcases hp with rfl|rfl<;>omega
def Ll:ag->Option (ah×V)
 | [.str b]=>some ([64<=b.length],aaT (EV b 48))
 |_=>none
theorem aaU:jK ak 97 (jW Ll):=by
 refine kD (ax U) fun args cU v e=>?_;unfold Ll at e;split at e
 . obtain⟨rfl,rfl⟩:=fg e;exact⟨rfl,U,fun hA=>ik mo po Tryz.func97 U U rfl (alS _ (hA _ (by simp)))⟩
 . cases e
noncomputable abbrev W1:jY:=kC 97 (jW Ll) noW
theorem Y9:gm ak W1:=fh aaU (RE _)
noncomputable abbrev cs1:e9:=gL ak W1 H0 1000 40
noncomputable abbrev X1:CX ak:=CX.of mo po Y9 H0 1000 40
def AU(a b:Int):Int:=w32 ↑(BitVec.ofInt 32 a&&&BitVec.ofInt 32 b).toNat
abbrev E8:=Int×Int×Int×Int×Int×Int×Int×Int
def bS1(e:Int):Int:=nU (nU (DC 67108864 64 e) (DC 2097152 2048 e)) (DC 128 33554432 e)
def bS0(a:Int):Int:=nU (nU (DC 1073741824 4 a) (DC 524288 8192 a)) (DC 1024 4194304 a)
def chI(e f g:Int):Int:=nU (AU e f) (AU (nU 4294967295 e) g)
def maI(a b c:Int):Int:=nU (nU (AU a b) (AU a c)) (AU b c)
section
variable(rd ws:List Int)(i:Nat)
def rdX:E8->Int
 |(_,_,_,_,e,f,g,h)=>w32 (w32 (w32 (w32 (h+bS1 e)+chI e f g)+gW rd i)+gW ws i)
def BY:E8->E8
 |(a,b,c,d,e,f,g,h)=>(w32 (rdX rd ws i (a,b,c,d,e,f,g,h)+w32 (bS0 a+maI a b c)),a,b,c,w32 (d+rdX rd ws i (a,b,c,d,e,f,g,h)),e,f,g)
def c8(q:E8):ag:=[.int .u32 q.1,.int .u32 q.2.1,.int .u32 q.2.2.1,.int .u32 q.2.2.2.1,.int .u32 q.2.2.2.2.1,.int .u32 q.2.2.2.2.2.1,.int .u32 q.2.2.2.2.2.2.1,.int .u32 q.2.2.2.2.2.2.2]
def aaV:E8->E8->E8
 |(a,b,c,d,e,f,g,h),(a',b',c',d',e',f',g',h')=>(w32 (a+a'),w32 (b+b'),w32 (c+c'),w32 (d+d'),w32 (e+e'),w32 (f+f'),w32 (g+g'),w32 (h+h'))
noncomputable abbrev VW:Code:=dO Tryz.f72
noncomputable abbrev aaW:Code:=dw 3 VW
noncomputable abbrev afC:Code:=dS aaW
noncomputable abbrev alX:Code:=dD (dU afC)
noncomputable abbrev alY:Code:=dU aaW
def DE:List Int:=(List.range 64).map fun j=>ws.getD j 0
end
section
variable(rd ws:List Int)(a b c d e f g h a' b' c' d' e' f' g' h':Int)(i:Nat)
def afD:List (Nat×V):=[(2,.ptr (some (3,0))),(4,.ptr (some (4,0))),(5,.ptr (some (5,0))),(6,.ptr (some (6,0)))]
def sC0(o:rs):St:=eL afD (K [(1,.ints .u32 rd),(3,.cells (c8 (a,b,c,d,e,f,g,h))),(4,.cells (c8 (0,0,0,0,0,0,0,0))),(5,o),(6,.cells (c8 (a',b',c',d',e',f',g',h')))]) 7
def sCi:St:=eL (afD++[(18,.int .i64 (Int.ofNat i))]) (K [(1,.ints .u32 rd),(3,.cells (c8 (a,b,c,d,e,f,g,h))),(4,.cells (c8 (0,0,0,0,0,0,0,0))),(5,.own .u32 ws),(6,.cells (c8 (a',b',c',d',e',f',g',h')))]) 7
theorem alZ(s:B):cT ak cs1 [] 1000 3 Tryz.f72 [2,4,5,6] (eU 3 VW) (cZ [.agg (c8 (a,b,c,d,e,f,g,h)),.str s] (K [(1,.ints .u32 rd)]) 3) []
  [([],[64<=s.length],.to .normal (sC0 rd a b c d e f g h a b c d e f g h (.cells ((List.range 64).map fun j=>.int .u32 ((EV s 48).getD j 0)))))]:=by
 unfold cT;kernel_rfl
theorem aaX:Le [(5,.u32)] (sC0 rd a b c d e f g h a' b' c' d' e' f' g' h' (.cells ((List.range 64).map fun j=>.int .u32 (ws.getD j 0))))=some (sC0 rd a b c d e f g h a' b' c' d' e' f' g' h' (.own .u32 (DE ws))):=by
 kernel_rfl
theorem al0:cT ak cs1 [(18,.di (.int .i64 (Int.ofNat 0)))] 1000 3 Tryz.f72 [2,4,5,6,18] (dS afC) (sC0 rd a b c d e f g h a' b' c' d' e' f' g' h' (.own .u32 ws)) [] [([],[V.int .i64 0=V.int .i64 0],.to .normal (sCi rd ws a b c d e f g h a' b' c' d' e' f' g' h' 0))]:=by
 unfold cT;kernel_rfl
theorem al1:dc cs1 [(19,.split),(101,.di (.int .i64 (Int.ofNat (i+1))))] 3 Tryz.f72 [2,4,5,6,18] (dD alX) (sCi rd ws a b c d e f g h a' b' c' d' e' f' g' h' i) (iU (decide (Int.ofNat i<64)) ([iN i,0+i*1<rd.length,iN i,0+i*1<ws.length,lA (Int.ofNat i+1) (i+1)],eP (sCi rd ws a b c d e f g h (BY rd ws i (a',b',c',d',e',f',g',h')).1 (BY rd ws i (a',b',c',d',e',f',g',h')).2.1 (BY rd ws i (a',b',c',d',e',f',g',h')).2.2.1 (BY rd ws i (a',b',c',d',e',f',g',h')).2.2.2.1 (BY rd ws i (a',b',c',d',e',f',g',h')).2.2.2.2.1 (BY rd ws i (a',b',c',d',e',f',g',h')).2.2.2.2.2.1 (BY rd ws i (a',b',c',d',e',f',g',h')).2.2.2.2.2.2.1 (BY rd ws i (a',b',c',d',e',f',g',h')).2.2.2.2.2.2.2 (i+1))) ([],.to (.exit 0) (sCi rd ws a b c d e f g h a' b' c' d' e' f' g' h' i))):=
 cT.ef
abbrev Za(k:Int):ah:=[0<=k/\k<8,0<=k/\k<8,0<=k/\k<8]
theorem al2:cT ak cs1 [] 1000 3 Tryz.f72 [] alY (sCi rd ws a b c d e f g h a' b' c' d' e' f' g' h' i) []
  [([],Za 0++(Za 1++(Za 2++(Za 3++(Za 4++(Za 5++(Za 6++Za 7)))))),.ret (.agg (c8 (aaV (a',b',c',d',e',f',g',h') (a,b,c,d,e,f,g,h)))) (K [(1,.ints .u32 rd)]) 3)]:=by
 unfold cT;kernel_rfl
end
def vT(rd ws:List Int)(q:E8):Nat->E8
 |0=>q
 |i+1=>BY rd ws i (vT rd ws q i)
abbrev sCq(rd ws:List Int)(q q':E8)(i:Nat):St:=sCi rd ws q.1 q.2.1 q.2.2.1 q.2.2.2.1 q.2.2.2.2.1 q.2.2.2.2.2.1 q.2.2.2.2.2.2.1 q.2.2.2.2.2.2.2 q'.1 q'.2.1 q'.2.2.1 q'.2.2.2.1 q'.2.2.2.2.1 q'.2.2.2.2.2.1 q'.2.2.2.2.2.2.1 q'.2.2.2.2.2.2.2 i
def zK(rd:List Int)(s:B)(q:E8):E8:=aaV (vT rd (DE (EV s 48)) q 64) q
theorem al3(rd:List Int)(hrd:64<=rd.length)(s:B)(al4:64<=s.length)(q:E8):TG ak 3 Tryz.f72.ntmps VW (cZ [.agg (c8 q),.str s] (K [(1,.ints .u32 rd)]) 3)
  (fL ak 3 Tryz.f72 fun u _ _=>u= .agg (c8 (zK rd s q))):=by
 have hO:∀n:Nat,Int.ofNat n=(n:Int):=fun _=>rfl;obtain⟨a,b,c,d,e,f,g,h⟩:=q;refine nP 3 X1 mo U (alZ rd a b c d e f g h s) (fun p hp=>by rw[au]at hp;subst hp;exact al4) ?_;refine uo _ (aaX rd (EV s 48) a b c d e f g h a b c d e f g h) ?_;show TG ak 3 Tryz.f72.ntmps aaW _ _;have uL:(DE (EV s 48)).length=64:=by unfold DE;rw[bf,List.length_range]
 generalize hW:DE (EV s 48)=ws at uL ⊢;refine c6 U ?_;refine zG X1 mo oL U U (al0 rd ws a b c d e f g h a b c d e f g h) fun g' hg _=>?_;rw[au]at hg;subst hg;refine⟨fun p hp=>by rw[au]at hp;subst hp;rfl,fun s' ek=>?_⟩;refine fk (i:=0) U (fB (Q1:=fun z s'=>z= .exit 0/\∃be,fe 3 be s'=some (sCq rd ws (a,b,c,d,e,f,g,h) (vT rd ws (a,b,c,d,e,f,g,h) 64) 64)) (gw (fun k' s=>∃i,k'=64-i/\i<=64/\∃be,fe 3 be s=some (sCq rd ws (a,b,c,d,e,f,g,h) (vT rd ws (a,b,c,d,e,f,g,h) i) i)) U ?_ 64 ⟨0,rfl,aX _,_,ek⟩) ?_)
 . rintro k' s0 ⟨i,hk,hi,be,hs⟩;refine dh hs ?_;obtain⟨L',hr⟩:=al1 rd ws a b c d e f g h (vT rd ws (a,b,c,d,e,f,g,h) i).1 (vT rd ws (a,b,c,d,e,f,g,h) i).2.1 (vT rd ws (a,b,c,d,e,f,g,h) i).2.2.1 (vT rd ws (a,b,c,d,e,f,g,h) i).2.2.2.1 (vT rd ws (a,b,c,d,e,f,g,h) i).2.2.2.2.1 (vT rd ws (a,b,c,d,e,f,g,h) i).2.2.2.2.2.1 (vT rd ws (a,b,c,d,e,f,g,h) i).2.2.2.2.2.2.1 (vT rd ws (a,b,c,d,e,f,g,h) i).2.2.2.2.2.2.2 i;refine gP X1 mo oL U hr fun g' hg J=>?_;simp only[aD,aN,br]at hg;rcases hg with rfl|rfl
   . have fH:i<64:=by
      have:=aI (J _ (au.2 rfl));rw[hO]at this;omega
     refine⟨fun p hp=>?_,fun s' ek=>⟨64-(i+1),L,i+1,rfl,L,[2,4,5,6,18],ek⟩⟩;simp only[aD,aN,br]at hp;rcases hp with rfl|rfl|rfl|rfl|rfl
     . exact⟨aA _,dr⟩
     . omega
     . exact⟨aA _,dr⟩
     . omega
     . exact fP dr L
   . have AE:¬i<64:=by
      have:=aK (J _ (au.2 rfl));rw[hO]at this;omega
     obtain rfl:i=64:=by omega
     exact⟨by simp,fun s' ek=>⟨rfl,[2,4,5,6,18],ek⟩⟩
 . rintro y s2 ⟨rfl,be,gY⟩;rw[dY];simp only[andThen];refine dh gY ?_;refine ij X1 mo _ U (al2 rd ws a b c d e f g h _ _ _ _ _ _ _ _ 64) fun g' hg _=>?_;rw[au]at hg;subst hg;refine⟨fun p hp=>?_,_,_,_,rfl,?_⟩
   . simp only[aW,aD,aN,br,or_self]at hp;rcases hp with rfl|rfl|rfl|rfl|rfl|rfl|rfl|rfl<;>decide
   . unfold zK;rw[hW]
def U7:List (Option (Nat×Nat)):=[some (0,0),some (1,0),some (2,0)]
theorem R2:∀p∈kf,U7[p.2]? =some (some (p.2,0)):=by
 intro p hp;simp only[kf,aD,aN,br]at hp;rcases hp with rfl|rfl|rfl<;>rfl
def Lm:ag->H rs->Option (ah×V)
 | [.agg [.int .u32 a,.int .u32 b,.int .u32 c,.int .u32 d,.int .u32 e,.int .u32 f,.int .u32 g,.int .u32 x],.str s],h=>match h.get 1 with
   |some (.ints .u32 rd)=>some ([64<=rd.length,64<=s.length],.agg (c8 (zK rd s (a,b,c,d,e,f,g,x))))
   |_=>none
 |_,_=>none
theorem aaY:RB ak 72 Lm:=by
 refine⟨ax U,fun args h cU u e=>?_⟩;unfold Lm at e;split at e
 case h_2=>cases e
 rename_i a b c d e1 f g x s;split at e
 case h_2=>cases e
 rename_i rd W;obtain⟨rfl,rfl⟩:=fg e;refine⟨rfl,fun hA E n' w' dm ra g0 hd J=>?_⟩;obtain⟨g2,d2,n2⟩:=Nh g0 U7 [none,some (.u32,rd),none] (ax rfl) R2 (by
  intro j k' YJ hj
  match j,hj with
  |0,hj=>cases hj
  |1,hj=>cases hj;exact⟨1,0,rd,rfl,W,rfl⟩
  |2,hj=>cases hj
  |j+3,hj=>simp at hj)
 exact Du mo po Tryz.func72 (code:=VW) U U (al3 rd (hA _ (by simp)) s (hA (64<=s.length) (by simp)) (a,b,c,d,e1,f,g,x)) (E:=E.rows U7) g2 d2 n2 (nl _ _ rfl ra)
noncomputable abbrev W2:jY:=kC 72 (Ng Lm) W1
theorem Zb:gm ak W2:=fh (Jf aaY) Y9
noncomputable abbrev vK:e9:=gL ak W2 H0 1000 40
noncomputable abbrev X2:CX ak:=CX.of mo po Zb H0 1000 40
section
variable(x:Int)
def pB(d:Int):UInt8:=UInt8.ofNat (IntKind.u8.wrap ((IntKind.u64.wrap x).fdiv d)).toNat
def mM:B:=[pB x 72057594037927936,pB x 281474976710656,pB x 1099511627776,pB x 4294967296,pB x 16777216,pB x 65536,pB x 256,pB x 1]
def dX:B:=[pB x 16777216,pB x 65536,pB x 256,pB x 1]
def pX:B:=[pB x 1]
abbrev b8:ah:=[(0:Int)<=0/\(0:Int)<8,(0:Int)<=1/\(1:Int)<8,(0:Int)<=2/\(2:Int)<8,(0:Int)<=3/\(3:Int)<8,(0:Int)<=4/\(4:Int)<8,(0:Int)<=5/\(5:Int)<8,(0:Int)<=6/\(6:Int)<8,(0:Int)<=7/\(7:Int)<8]
theorem R3:∀p∈b8,p:=by
 intro p hp;simp only[aD,aN,br]at hp;rcases hp with rfl|rfl|rfl|rfl|rfl|rfl|rfl|rfl<;>decide
noncomputable abbrev aaZ:Code:=dO Tryz.f59
theorem al5:cT ak vK [] 1000 3 Tryz.f59 [] aaZ (cZ [.int .i64 x,.int .i64 8] .nil 3) [] [([],b8,.ret (.str (mM x)) (K []) 3)]:=by
 unfold cT;kernel_rfl
theorem al6:cT ak vK [] 1000 3 Tryz.f59 [] aaZ (cZ [.int .i64 x,.int .i64 4] .nil 3) [] [([],b8,.ret (.str (dX x)) (K []) 3)]:=by
 unfold cT;kernel_rfl
theorem al7:cT ak vK [] 1000 3 Tryz.f59 [] aaZ (cZ [.int .i64 x,.int .i64 1] .nil 3) [] [([],b8,.ret (.str (pX x)) (K []) 3)]:=by
 unfold cT;kernel_rfl
end
def Ln:ag->Option (ah×V)
 | [.int .i64 x,.int .i64 k]=>match k with
   | .ofNat 8=>some ([],.str (mM x))
   | .ofNat 4=>some ([],.str (dX x))
   | .ofNat 1=>some ([],.str (pX x))
   |_=>none
 |_=>none
theorem Hq{P:Program}{I:Nat}{fn:Func}{c:Code}{s:St}(X':CX P)(W:P.follows .mixedOrders=true){Tr:List (Nat×pC)}{fl:Nat}{live:List Nat}{cU:ah}{v:V}{h:H rs}{n:Nat}(J:fb fn.ntmps c=true)
  (hr:cT P X'.Q Tr fl I fn live c s [] [([],cU,.ret v h n)]) (hA:∀a∈cU,a):TG P I fn.ntmps c s (fL P I fn fun u _ _=>u=v):=by
 refine ij X' W _ J hr (dG ?_);exact⟨hA,_,_,_,rfl,rfl⟩
theorem aa0:jK ak 59 (jW Ln):=by
 refine kD (ax U) fun args cU v e=>?_;unfold Ln at e;split at e
 . split at e
   . obtain⟨rfl,rfl⟩:=fg e;exact⟨rfl,U,fun _=>ik mo po Tryz.func59 U U rfl (Hq X2 mo U (al5 _) R3)⟩
   . obtain⟨rfl,rfl⟩:=fg e;exact⟨rfl,U,fun _=>ik mo po Tryz.func59 U U rfl (Hq X2 mo U (al6 _) R3)⟩
   . obtain⟨rfl,rfl⟩:=fg e;exact⟨rfl,U,fun _=>ik mo po Tryz.func59 U U rfl (Hq X2 mo U (al7 _) R3)⟩
   . cases e
 . cases e
open Go.Shelf Go.RowKit
def R4:Go.Shelf.Ren:=⟨fun|105=>71|212=>93|99=>94|165=>95|166=>58|170=>96|169=>60|263=>118|264=>119|206=>120|240=>84|241=>121|276=>112|277=>146|n=>n,fun|9=>9|3=>3|4=>4|20=>20|0=>0|46=>144|109=>145|5=>5|72=>102|76=>105|51=>120|146=>164|53=>135|148=>166|70=>100|37=>30|75=>104|127=>137|164=>158|80=>108|n=>n,fun n=>n⟩
theorem uv:Lays.n105 ak R4:={
 mixed:=mo
 f99:=Tryz.func94.trans (aL some U)
 f105:=Tryz.func71.trans (aL some U)
 f165:=Tryz.func95.trans (aL some U)
 f166:=Tryz.func58.trans (aL some U)
 f169:=Tryz.func60.trans (aL some U)
 f170:=Tryz.func96.trans (aL some U)
 f206:=Tryz.func120.trans (aL some U)
 f212:=Tryz.func93.trans (aL some U)
 f240:=Tryz.func84.trans (aL some U)
 f241:=Tryz.func121.trans (aL some U)
 f263:=Tryz.func118.trans (aL some U)
 f264:=Tryz.func119.trans (aL some U)
 f276:=Tryz.func112.trans (aL some U)
 f277:=Tryz.func146.trans (aL some U)
 t0:=Tryz.underlying0
 a0:=Tryz.isAgg0
 z0:=Tryz.sizeOf0
 v0:=Tryz.zeroValue0
 t3:=Tryz.underlying3
 a3:=Tryz.isAgg3
 z3:=Tryz.sizeOf3
 v3:=Tryz.zeroValue3
 t4:=Tryz.underlying4
 a4:=Tryz.isAgg4
 z4:=Tryz.sizeOf4
 v4:=Tryz.zeroValue4
 t5:=Tryz.underlying5
 a5:=Tryz.isAgg5
 z5:=Tryz.sizeOf5
 v5:=Tryz.zeroValue5
 t9:=Tryz.underlying9
 a9:=Tryz.isAgg9
 z9:=Tryz.sizeOf9
 v9:=Tryz.zeroValue9
 t20:=Tryz.underlying20
 a20:=Tryz.isAgg20
 z20:=Tryz.sizeOf20
 v20:=Tryz.zeroValue20
 t37:=Tryz.underlying30
 a37:=Tryz.isAgg30
 z37:=Tryz.sizeOf30
 v37:=Tryz.zeroValue30
 t46:=Tryz.underlying144
 a46:=Tryz.isAgg144
 z46:=Tryz.sizeOf144
 v46:=Tryz.zeroValue144
 t51:=Tryz.underlying120
 a51:=Tryz.isAgg120
 z51:=Tryz.sizeOf120
 v51:=Tryz.zeroValue120
 t53:=Tryz.underlying135
 a53:=Tryz.isAgg135
 z53:=Tryz.sizeOf135
 v53:=Tryz.zeroValue135
 t70:=Tryz.underlying100
 a70:=Tryz.isAgg100
 z70:=Tryz.sizeOf100
 v70:=Tryz.zeroValue100
 t72:=Tryz.underlying102
 a72:=Tryz.isAgg102
 z72:=Tryz.sizeOf102
 v72:=Tryz.zeroValue102
 t75:=Tryz.underlying104
 a75:=Tryz.isAgg104
 z75:=Tryz.sizeOf104
 v75:=Tryz.zeroValue104
 t76:=Tryz.underlying105
 a76:=Tryz.isAgg105
 z76:=Tryz.sizeOf105
 v76:=Tryz.zeroValue105
 t109:=Tryz.underlying145
 a109:=Tryz.isAgg145
 z109:=Tryz.sizeOf145
 v109:=Tryz.zeroValue145
 t127:=Tryz.underlying137
 a127:=Tryz.isAgg137
 z127:=Tryz.sizeOf137
 v127:=Tryz.zeroValue137
 t146:=Tryz.underlying164
 a146:=Tryz.isAgg164
 z146:=Tryz.sizeOf164
 v146:=Tryz.zeroValue164
 t148:=Tryz.underlying166
 a148:=Tryz.isAgg166
 z148:=Tryz.sizeOf166
 v148:=Tryz.zeroValue166
 t164:=Tryz.underlying158
 a164:=Tryz.isAgg158
 z164:=Tryz.sizeOf158
 v164:=Tryz.zeroValue158
}
theorem Hr:Builder.Extra ak R4 where
 sizeBuilder:=by kernel_rfl
 liesBuilder:=by kernel_rfl
 t5:=uv.t5
 a5:=uv.a5
 z5:=uv.z5
 v5:=uv.v5
 infoByte:=by kernel_rfl
 cellsByte:=by kernel_rfl
 sizeByte:=by kernel_rfl
 neB5:=by decide
def Lo:ag->Option (ah×V)
 | [.str [0],.int .i64 x]=>some ([0<=x/\x<=1000],.str (List.replicate x.toNat 0))
 |_=>none
theorem aa1:jK ak 71 (jW Lo):=by
 refine kD (ax U) fun args cU v e=>?_;unfold Lo at e;split at e
 . rename_i x;obtain⟨rfl,rfl⟩:=fg e;refine⟨rfl,rfl,fun hA E w dm _ ra=>?_⟩;have M:=hA _ (au.2 rfl);obtain⟨c,rfl⟩:∃c:Nat,x=(c:Int):=⟨x.toNat,L⟩;obtain⟨y,ys,r0,⟨z,zs,r1,O,rfl⟩,rfl⟩:=ra;have O:zs=[]:=O;subst O;have r1:z= .int .i64 (c:Int):=r1;subst r1;have r0:y= .string ⟨#[0]⟩:=r0;subst r0;have h:=Any.strings_Repeat uv Hr ⟨#[0]⟩ c w L (by show 1*c<=_;omega);refine h.mono fun en w' ⟨he,hw⟩=>⟨⟨E,?_⟩,hw⟩;rw[he];have e:Lib.repeatL (ByteArray.mk #[0]).data.toList c=List.replicate c 0:=by
    have:=Lib.repeatL_replicate 0 1 c;rw[bn]at this;exact this
   rw[e];exact rfl
 . cases e
noncomputable abbrev W3:jY:=kC 71 (jW Lo) (kC 59 (jW Ln) W2)
theorem afE:gm ak W3:=fh aa1 (fh aa0 Zb)
def Lp:ag->H rs->Nat->Option (ah×V×H rs×Nat)
 | [.ptr (some (m,0))],h,n=>match h.get m with
   |some (.BO t _ x)=>match Nat.beq t 102&&Nat.blt m fW with
    |true=>some ([],.ew [],h.set m (some (.BO t true x)),n)
    |false=>none
   |_=>none
 |_,_,_=>none
theorem aa2:jK ak 84 Lp:=by
 refine⟨ax U,fun args h n cU v h' n' e hA E w dm ra g hd J=>?_⟩;unfold Lp at e;split at e
 case h_2=>cases e
 rename_i m;split at e
 case h_2=>cases e
 rename_i t self x W;split at e
 case h_2=>cases e
 rename_i hq;simp only[aE]at hq;obtain⟨ht,zw⟩:=hq;have ht:=aG ht;subst ht;have zw:m<fW:=ax zw;simp only[an,aB]at e;obtain⟨rfl,rfl,rfl,rfl⟩:=e;obtain⟨y,ys,r0,O,rfl⟩:=ra;have O:ys=[]:=O;subst O;obtain⟨b,s,e1,rfl⟩:=r0;obtain⟨b',s',e2,hs,x',fz,k1,k2,k3,k4⟩:=g.rel m _ W;rw[e1]at e2;simp only[an,aB]at e2;obtain⟨rfl,rfl⟩:=e2;subst hs;have hbb:b<w.heap.size:=g.ny m b 0 e1;have iJ:eG h m:=⟨_,W,rfl⟩;have mJ:∀{self:Bool},w.heap[b]? =some (.cells #[.pointer (if self then some ⟨b,0,none⟩else none),x'] 102 fz)->w.cell? ⟨b,0,none⟩=some (.pointer (if self then some ⟨b,0,none⟩else none)):=by
  intro self k1;unfold World.cell?;rw[k1];rfl
 have R5:∀w',w'.heap.size=w.heap.size->w'.tape=w.tape->w'.os=w.os->w'.output=w.output->(∀j,j≠b->w'.heap[j]? =w.heap[j]?)->w'.heap[b]? =some (.cells #[.pointer (some ⟨b,0,none⟩),x'] 102 fz)->
   kz E h n w (.ret (.ew [])) (h.set m (some (.BO 102 true x))) n (.returned (.tuple #[])) w':=by
  intro w' X h2 h3 h4 h5 h6;refine⟨E,iI.write g zw iJ e1 X h2 h3 h4 h5 ⟨rfl,x',fz,h6,k2,k3,k4⟩,fun _ _=>rfl,hd,aC _,⟨[],rfl,rfl⟩⟩
 cases self with
 |true=>
  have h:=Any.Builder_copyCheck_used { uv with } { Hr with } b w (mJ k1);refine h.mono fun en w' ⟨he,hw⟩=>?_;subst he;subst hw;exact R5 w' rfl rfl rfl rfl (fun _ _=>rfl) k1
 |false=>
  have h:=Any.Builder_copyCheck_fresh { uv with } { Hr with } b w (mJ k1) (by unfold World.shape?;rw[k1];rfl) (by
   unfold World.frozen?;simp only[k1];have:=k3 0 L;obtain⟨lo,hi⟩:=fz;simp only at this ⊢;cases hq:(decide (lo<=0)&&decide (0<hi))with
   |false=>rfl
   |true=>simp only[aE,bD]at hq;exact absurd hq this)
  refine h.mono fun en w' ⟨he,hw⟩=>?_;subst he;subst hw;refine R5 _ (by simp[World.setCell]) rfl rfl rfl (fun j hj=>by simp[World.setCell,cr,Ne.symm hj]) ?_;simp[World.setCell,cr,k1]
noncomputable abbrev W4:jY:=kC 84 Lp W3
theorem Zc:gm ak W4:=fh aa2 afE
noncomputable abbrev cs4:e9:=gL ak W4 H0 1000 40
noncomputable abbrev X4:CX ak:=CX.of mo po Zc H0 1000 40
noncomputable abbrev VX:Code:=dO Tryz.f38
noncomputable abbrev aa3:Code:=dw 4 VX
noncomputable abbrev afG:Code:=dS aa3
noncomputable abbrev VY:Code:=dU aa3
noncomputable abbrev al8:Code:=dS VY
noncomputable abbrev al9:Code:=dU VY
section
variable(s:B)(st:List Int)
def EB(rd:List Int):H rs:=K [(0,.ints .u32 st),(1,.ints .u32 rd)]
def iz:Nat:=(119-s.length%64)%64
def nr:B:=((s.take s.length).drop (s.length/64*64)++[128]++List.replicate (iz s) 0)++mM (Int.ofNat (s.length*8))
def Lq:E8:=(st.getD 0 0,st.getD 1 0,st.getD 2 0,st.getD 3 0,st.getD 4 0,st.getD 5 0,st.getD 6 0,st.getD 7 0)
def Cl(i:Nat):B:=(s.take (i+64)).drop i
end
def jX(rd:List Int)(s:B)(q:E8):Nat->E8
 |0=>q
 |j+1=>zK rd (Cl s (64*j)) (jX rd s q j)
def wB(x:Int):B:=dX (IntKind.i64.wrap x)
section
variable(st rd:List Int)(q:E8)(s p:B)
def R6:B:=wB q.1++eW (eo (wB q.2.1))++eW (eo (wB q.2.2.1))++eW (eo (wB q.2.2.2.1))++eW (eo (wB q.2.2.2.2.1))++eW (eo (wB q.2.2.2.2.2.1))++eW (eo (wB q.2.2.2.2.2.2.1))++eW (eo (wB q.2.2.2.2.2.2.2))
def R7:B:=R6 (jX rd (nr s) (jX rd s (Lq st) (s.length/64)) ((nr s).length/64))
def afH:St:=eL [(0,.str s),(3,.ptr (some (3,0))),(5,.str p)] (K [(0,.ints .u32 st),(1,.ints .u32 rd),(3,.cells (c8 q))]) 4
def Pe(i:Nat):St:=eL [(0,.str s),(3,.ptr (some (3,0))),(5,.str p),(6,.int .i64 (Int.ofNat i))] (K [(0,.ints .u32 st),(1,.ints .u32 rd),(3,.cells (c8 q))]) 4
def Jo:St:=eL [(3,.ptr (some (3,0))),(5,.str p)] (K [(0,.ints .u32 st),(1,.ints .u32 rd),(3,.cells (c8 q))]) 4
theorem ama:dc cs4 [(13,.di (.int .i64 (Int.ofNat (s.length%64)))),(15,.di (.int .i64 (Int.ofNat (iz s)))),(20,.di (.int .i64 (Int.ofNat (s.length/64*64)))),(28,.di (.int .i64 (Int.ofNat (s.length*8))))] 3 Tryz.f38 [0,3,5] (eU 4 VX) (cZ [.str s] (EB st rd) 3) [([],[8<=st.length,V.int aj (((Int.ofNat s.length)).tmod (64:Int))=V.int aj (Int.ofNat (s.length%64)),V.int aj ((IntKind.i64.wrap ((119:Int)-Int.ofNat (s.length%64))).tmod (64:Int))=V.int aj (Int.ofNat (iz s)),(64:Int)≠(0:Int),V.int aj (IntKind.i64.wrap (IntKind.i64.wrap (((Int.ofNat s.length)).tdiv (64:Int))*(64:Int)))=V.int aj (Int.ofNat (s.length/64*64)),(0:Int)<=Int.ofNat (s.length/64*64)/\Int.ofNat (s.length/64*64)<=(Int.ofNat s.length),(List.drop (Int.ofNat (s.length/64*64)).toNat (List.take s.length s)).length+1<=9223372036854775807,(0:Int)<=Int.ofNat (iz s)/\Int.ofNat (iz s)<=(1000:Int),(0:Int)<=Int.ofNat (s.length/64*64)/\Int.ofNat (s.length/64*64)<=(Int.ofNat s.length),(List.drop (Int.ofNat (s.length/64*64)).toNat (List.take s.length s)++([(128:UInt8)]:B)).length+(List.replicate (Int.ofNat (iz s)).toNat (0:UInt8)).length<=9223372036854775807,V.int aj (IntKind.i64.wrap ((Int.ofNat s.length)*(8:Int)))=V.int aj (Int.ofNat (s.length*8)),(0:Int)<=Int.ofNat (s.length/64*64)/\Int.ofNat (s.length/64*64)<=(Int.ofNat s.length),(List.drop (Int.ofNat (s.length/64*64)).toNat (List.take s.length s)++([(128:UInt8)]:B)++List.replicate (Int.ofNat (iz s)).toNat (0:UInt8)).length+(mM (Int.ofNat (s.length*8))).length<=9223372036854775807],eP (eL [(0,.str (s)),(3,.ptr (some (3,0))),(5,.str (List.drop (Int.ofNat (s.length/64*64)).toNat (List.take s.length s)++([(128:UInt8)]:B)++List.replicate (Int.ofNat (iz s)).toNat (0:UInt8)++mM (Int.ofNat (s.length*8))))] (K [(0,.ints .u32 (st)),(1,.ints .u32 (rd)),(3,.cells [.int .u32 (st.getD 0 (0:Int)),.int .u32 (st.getD 1 (0:Int)),.int .u32 (st.getD 2 (0:Int)),.int .u32 (st.getD 3 (0:Int)),.int .u32 (st.getD 4 (0:Int)),.int .u32 (st.getD 5 (0:Int)),.int .u32 (st.getD 6 (0:Int)),.int .u32 (st.getD 7 (0:Int))])]) 4))]:=cT.ef
theorem amb:dc cs4 [(6,.di (.int .i64 (Int.ofNat 0)))] 3 Tryz.f38 [0,3,5,6] (dS afG) (afH st rd q s p) [([],[V.int aj (0:Int)=V.int aj (0:Int)],eP (eL [(0,.str (s)),(3,.ptr (some (3,0))),(5,.str (p)),(6,.int .i64 0)] (K [(0,.ints .u32 (st)),(1,.ints .u32 (rd)),(3,.cells [.int .u32 (q.1),.int .u32 (q.2.1),.int .u32 (q.2.2.1),.int .u32 (q.2.2.2.1),.int .u32 (q.2.2.2.2.1),.int .u32 (q.2.2.2.2.2.1),.int .u32 (q.2.2.2.2.2.2.1),.int .u32 (q.2.2.2.2.2.2.2)])]) 4))]:=cT.ef
theorem amc:dc cs4 [] 3 Tryz.f38 [] (al9) (Jo st rd q p) [([],[0<(dX (IntKind.i64.wrap q.1)).length,fa (dX (IntKind.i64.wrap q.1)).length 1 1=true,0<(dX (IntKind.i64.wrap q.1)).length,(dX (IntKind.i64.wrap q.1)).length=(dX (IntKind.i64.wrap q.1)).length,fa ((dX (IntKind.i64.wrap q.1)).length+(dX (IntKind.i64.wrap q.2.1)).length) 1 1=true,0<(dX (IntKind.i64.wrap q.1)).length+(dX (IntKind.i64.wrap q.2.1)).length,(dX (IntKind.i64.wrap q.1)).length+(dX (IntKind.i64.wrap q.2.1)).length=(dX (IntKind.i64.wrap q.1)++eW (eo (dX (IntKind.i64.wrap q.2.1)))).length,fa ((dX (IntKind.i64.wrap q.1)).length+(dX (IntKind.i64.wrap q.2.1)).length+(dX (IntKind.i64.wrap q.2.2.1)).length) 1 1=true,0<(dX (IntKind.i64.wrap q.1)).length+(dX (IntKind.i64.wrap q.2.1)).length+(dX (IntKind.i64.wrap q.2.2.1)).length,(dX (IntKind.i64.wrap q.1)).length+(dX (IntKind.i64.wrap q.2.1)).length+(dX (IntKind.i64.wrap q.2.2.1)).length=(dX (IntKind.i64.wrap q.1)++eW (eo (dX (IntKind.i64.wrap q.2.1)))++eW (eo (dX (IntKind.i64.wrap q.2.2.1)))).length,fa ((dX (IntKind.i64.wrap q.1)).length+(dX (IntKind.i64.wrap q.2.1)).length+(dX (IntKind.i64.wrap q.2.2.1)).length+(dX (IntKind.i64.wrap q.2.2.2.1)).length) 1 1=true,0<(dX (IntKind.i64.wrap q.1)).length+(dX (IntKind.i64.wrap q.2.1)).length+(dX (IntKind.i64.wrap q.2.2.1)).length+(dX (IntKind.i64.wrap q.2.2.2.1)).length,(dX (IntKind.i64.wrap q.1)).length+(dX (IntKind.i64.wrap q.2.1)).length+(dX (IntKind.i64.wrap q.2.2.1)).length+(dX (IntKind.i64.wrap q.2.2.2.1)).length=(dX (IntKind.i64.wrap q.1)++eW (eo (dX (IntKind.i64.wrap q.2.1)))++eW (eo (dX (IntKind.i64.wrap q.2.2.1)))++eW (eo (dX (IntKind.i64.wrap q.2.2.2.1)))).length,fa ((dX (IntKind.i64.wrap q.1)).length+(dX (IntKind.i64.wrap q.2.1)).length+(dX (IntKind.i64.wrap q.2.2.1)).length+(dX (IntKind.i64.wrap q.2.2.2.1)).length+(dX (IntKind.i64.wrap q.2.2.2.2.1)).length) 1 1=true,0<(dX (IntKind.i64.wrap q.1)).length+(dX (IntKind.i64.wrap q.2.1)).length+(dX (IntKind.i64.wrap q.2.2.1)).length+(dX (IntKind.i64.wrap q.2.2.2.1)).length+(dX (IntKind.i64.wrap q.2.2.2.2.1)).length,(dX (IntKind.i64.wrap q.1)).length+(dX (IntKind.i64.wrap q.2.1)).length+(dX (IntKind.i64.wrap q.2.2.1)).length+(dX (IntKind.i64.wrap q.2.2.2.1)).length+(dX (IntKind.i64.wrap q.2.2.2.2.1)).length=(dX (IntKind.i64.wrap q.1)++eW (eo (dX (IntKind.i64.wrap q.2.1)))++eW (eo (dX (IntKind.i64.wrap q.2.2.1)))++eW (eo (dX (IntKind.i64.wrap q.2.2.2.1)))++eW (eo (dX (IntKind.i64.wrap q.2.2.2.2.1)))).length,fa ((dX (IntKind.i64.wrap q.1)).length+(dX (IntKind.i64.wrap q.2.1)).length+(dX (IntKind.i64.wrap q.2.2.1)).length+(dX (IntKind.i64.wrap q.2.2.2.1)).length+(dX (IntKind.i64.wrap q.2.2.2.2.1)).length+(dX (IntKind.i64.wrap q.2.2.2.2.2.1)).length) 1 1=true,0<(dX (IntKind.i64.wrap q.1)).length+(dX (IntKind.i64.wrap q.2.1)).length+(dX (IntKind.i64.wrap q.2.2.1)).length+(dX (IntKind.i64.wrap q.2.2.2.1)).length+(dX (IntKind.i64.wrap q.2.2.2.2.1)).length+(dX (IntKind.i64.wrap q.2.2.2.2.2.1)).length,(dX (IntKind.i64.wrap q.1)).length+(dX (IntKind.i64.wrap q.2.1)).length+(dX (IntKind.i64.wrap q.2.2.1)).length+(dX (IntKind.i64.wrap q.2.2.2.1)).length+(dX (IntKind.i64.wrap q.2.2.2.2.1)).length+(dX (IntKind.i64.wrap q.2.2.2.2.2.1)).length=(dX (IntKind.i64.wrap q.1)++eW (eo (dX (IntKind.i64.wrap q.2.1)))++eW (eo (dX (IntKind.i64.wrap q.2.2.1)))++eW (eo (dX (IntKind.i64.wrap q.2.2.2.1)))++eW (eo (dX (IntKind.i64.wrap q.2.2.2.2.1)))++eW (eo (dX (IntKind.i64.wrap q.2.2.2.2.2.1)))).length,fa ((dX (IntKind.i64.wrap q.1)).length+(dX (IntKind.i64.wrap q.2.1)).length+(dX (IntKind.i64.wrap q.2.2.1)).length+(dX (IntKind.i64.wrap q.2.2.2.1)).length+(dX (IntKind.i64.wrap q.2.2.2.2.1)).length+(dX (IntKind.i64.wrap q.2.2.2.2.2.1)).length+(dX (IntKind.i64.wrap q.2.2.2.2.2.2.1)).length) 1 1=true,0<(dX (IntKind.i64.wrap q.1)).length+(dX (IntKind.i64.wrap q.2.1)).length+(dX (IntKind.i64.wrap q.2.2.1)).length+(dX (IntKind.i64.wrap q.2.2.2.1)).length+(dX (IntKind.i64.wrap q.2.2.2.2.1)).length+(dX (IntKind.i64.wrap q.2.2.2.2.2.1)).length+(dX (IntKind.i64.wrap q.2.2.2.2.2.2.1)).length,(dX (IntKind.i64.wrap q.1)).length+(dX (IntKind.i64.wrap q.2.1)).length+(dX (IntKind.i64.wrap q.2.2.1)).length+(dX (IntKind.i64.wrap q.2.2.2.1)).length+(dX (IntKind.i64.wrap q.2.2.2.2.1)).length+(dX (IntKind.i64.wrap q.2.2.2.2.2.1)).length+(dX (IntKind.i64.wrap q.2.2.2.2.2.2.1)).length=(dX (IntKind.i64.wrap q.1)++eW (eo (dX (IntKind.i64.wrap q.2.1)))++eW (eo (dX (IntKind.i64.wrap q.2.2.1)))++eW (eo (dX (IntKind.i64.wrap q.2.2.2.1)))++eW (eo (dX (IntKind.i64.wrap q.2.2.2.2.1)))++eW (eo (dX (IntKind.i64.wrap q.2.2.2.2.2.1)))++eW (eo (dX (IntKind.i64.wrap q.2.2.2.2.2.2.1)))).length,fa ((dX (IntKind.i64.wrap q.1)).length+(dX (IntKind.i64.wrap q.2.1)).length+(dX (IntKind.i64.wrap q.2.2.1)).length+(dX (IntKind.i64.wrap q.2.2.2.1)).length+(dX (IntKind.i64.wrap q.2.2.2.2.1)).length+(dX (IntKind.i64.wrap q.2.2.2.2.2.1)).length+(dX (IntKind.i64.wrap q.2.2.2.2.2.2.1)).length+(dX (IntKind.i64.wrap q.2.2.2.2.2.2.2)).length) 1 1=true,0<(dX (IntKind.i64.wrap q.1)).length+(dX (IntKind.i64.wrap q.2.1)).length+(dX (IntKind.i64.wrap q.2.2.1)).length+(dX (IntKind.i64.wrap q.2.2.2.1)).length+(dX (IntKind.i64.wrap q.2.2.2.2.1)).length+(dX (IntKind.i64.wrap q.2.2.2.2.2.1)).length+(dX (IntKind.i64.wrap q.2.2.2.2.2.2.1)).length+(dX (IntKind.i64.wrap q.2.2.2.2.2.2.2)).length,(Int.ofNat ((dX (IntKind.i64.wrap q.1)).length+(dX (IntKind.i64.wrap q.2.1)).length+(dX (IntKind.i64.wrap q.2.2.1)).length+(dX (IntKind.i64.wrap q.2.2.2.1)).length+(dX (IntKind.i64.wrap q.2.2.2.2.1)).length+(dX (IntKind.i64.wrap q.2.2.2.2.2.1)).length+(dX (IntKind.i64.wrap q.2.2.2.2.2.2.1)).length+(dX (IntKind.i64.wrap q.2.2.2.2.2.2.2)).length))=(Int.ofNat (dX (IntKind.i64.wrap q.1)++eW (eo (dX (IntKind.i64.wrap q.2.1)))++eW (eo (dX (IntKind.i64.wrap q.2.2.1)))++eW (eo (dX (IntKind.i64.wrap q.2.2.2.1)))++eW (eo (dX (IntKind.i64.wrap q.2.2.2.2.1)))++eW (eo (dX (IntKind.i64.wrap q.2.2.2.2.2.1)))++eW (eo (dX (IntKind.i64.wrap q.2.2.2.2.2.2.1)))++eW (eo (dX (IntKind.i64.wrap q.2.2.2.2.2.2.2)))).length)/\0<(dX (IntKind.i64.wrap q.1)++eW (eo (dX (IntKind.i64.wrap q.2.1)))++eW (eo (dX (IntKind.i64.wrap q.2.2.1)))++eW (eo (dX (IntKind.i64.wrap q.2.2.2.1)))++eW (eo (dX (IntKind.i64.wrap q.2.2.2.2.1)))++eW (eo (dX (IntKind.i64.wrap q.2.2.2.2.2.1)))++eW (eo (dX (IntKind.i64.wrap q.2.2.2.2.2.2.1)))++eW (eo (dX (IntKind.i64.wrap q.2.2.2.2.2.2.2)))).length,(dX (IntKind.i64.wrap q.1)++eW (eo (dX (IntKind.i64.wrap q.2.1)))++eW (eo (dX (IntKind.i64.wrap q.2.2.1)))++eW (eo (dX (IntKind.i64.wrap q.2.2.2.1)))++eW (eo (dX (IntKind.i64.wrap q.2.2.2.2.1)))++eW (eo (dX (IntKind.i64.wrap q.2.2.2.2.2.1)))++eW (eo (dX (IntKind.i64.wrap q.2.2.2.2.2.2.1)))++eW (eo (dX (IntKind.i64.wrap q.2.2.2.2.2.2.2)))).length<=9223372036854775807],.ret (.str (dX (IntKind.i64.wrap q.1)++eW (eo (dX (IntKind.i64.wrap q.2.1)))++eW (eo (dX (IntKind.i64.wrap q.2.2.1)))++eW (eo (dX (IntKind.i64.wrap q.2.2.2.1)))++eW (eo (dX (IntKind.i64.wrap q.2.2.2.2.1)))++eW (eo (dX (IntKind.i64.wrap q.2.2.2.2.2.1)))++eW (eo (dX (IntKind.i64.wrap q.2.2.2.2.2.2.1)))++eW (eo (dX (IntKind.i64.wrap q.2.2.2.2.2.2.2))))) (K [(0,.ints .u32 (st)),(1,.ints .u32 (rd))]) 3)]:=cT.ef
end
section
variable(st rd:List Int)(s p:B)(q:E8)
def Hs:B:=R6 (jX rd p q (p.length/64))
theorem cW:∀a∈([]:ah),a:=fun _ h=>absurd h aN
theorem vU(x:Int):(mM x).length=8:=rfl
theorem FT:(nr s).length=(s.length-s.length/64*64)+1+iz s+8:=by
 unfold nr;simp only[ay,b7,aY,bM,vU,aT,bP,Nat.min_self]
theorem Pf:∃k,(nr s).length=64*k:=by
 rw[FT];unfold iz;refine⟨((s.length-s.length/64*64)+1+((119-s.length%64)%64)+8)/64,?_⟩;omega
theorem afI(p p1 b1:B)(X:List.drop 64 (List.take p.length p)=p1)(h2:List.drop 0 (List.take 64 p)=b1):dc cs4 [(47,.split)] 3 Tryz.f38 [3,5] (dD (dD al8)) (Jo st rd q p) (iU (decide ((Int.ofNat p.length)>(0:Int))) ([(0:Int)<=(64:Int)/\(64:Int)<=(Int.ofNat p.length),64<=rd.length,64<=b1.length,(0:Int)<=(64:Int)/\(64:Int)<=(Int.ofNat p.length)],eP (Jo st rd (zK rd b1 q) p1)) ([],.to (.exit 2) (Jo st rd q p))):=by
 subst X h2;exact cT.ef
theorem afJ(s p:B)(i:Nat):dc cs4 [(35,.split),(32,.di (.int .i64 (Int.ofNat (i+64)))),(42,.di (.int .i64 (Int.ofNat (i+64)))),(37,.di (.int .i64 (Int.ofNat (i+64))))] 3 Tryz.f38 [0,3,5,6] (dD (dD (dU afG))) (Pe st rd q s p i) (iU (decide (Int.ofNat (i+64)<=(Int.ofNat s.length))) ([lA (Int.ofNat i+64) (i+64),lA (Int.ofNat i+64) (i+64),(0:Int)<=Int.ofNat (i+64)/\Int.ofNat (i+64)<=(Int.ofNat s.length),(0:Int)<=Int.ofNat i/\Int.ofNat i<=(Int.ofNat (Int.ofNat (i+64)).toNat),64<=rd.length,64<=(Cl s i).length,lA (Int.ofNat i+64) (i+64)],eP (Pe st rd (zK rd (Cl s i) q) s p (i+64))) ([lA (Int.ofNat i+64) (i+64)],.to (.exit 0) (Pe st rd q s p i))):=
 cT.ef
theorem Nn{s:B}{i:Nat}(h:i+64<=s.length):(Cl s i).length=64:=by
 unfold Cl;rw[b7,aY];omega
theorem Pg(j:Nat):List.drop 64 (List.take (p.drop (64*j)).length (p.drop (64*j)))=p.drop (64*(j+1)):=by
 rw[aU,List.drop_drop,Nat.mul_succ]
theorem R8(j:Nat):List.drop 0 (List.take 64 (p.drop (64*j)))=Cl p (64*j):=by
 unfold Cl;rw[bw,List.drop_take];rw[Nat.add_sub_cancel_left]
theorem afK(hrd:64<=rd.length)(q0:E8)(p:B)(kp:Nat)(hkp:p.length=64*kp)(ni:p.length<=200):TG ak 3 Tryz.f38.ntmps VY (Jo st rd q0 p)
  (fL ak 3 Tryz.f38 fun u _ _=>u= .str (Hs rd p q0)):=by
 have hO:∀n:Nat,Int.ofNat n=(n:Int):=fun _=>rfl;have pY:Hs rd p q0=R6 (jX rd p q0 kp):=by unfold Hs;rw[hkp,Nat.mul_div_cancel_left _ L]
 rw[pY];clear pY;refine c6 U ?_;refine fk (i:=2) U (fB (Q1:=fun z s'=>z= .exit 2/\∃be,fe 3 be s'=some (Jo st rd (jX rd p q0 kp) (p.drop (64*kp)))) (gw (fun k' s'=>∃j,k'=kp-j/\j<=kp/\∃be,fe 3 be s'=some (Jo st rd (jX rd p q0 j) (p.drop (64*j)))) U ?_ kp ⟨0,rfl,aX _,[3,5],U⟩) ?_)
 . rintro k' s1 ⟨j,hk,hj,be,fQ⟩;refine dh fQ ?_;have ja:(p.drop (64*j)).length=64*kp-64*j:=by rw[b7,hkp]
   refine fV X4 (afI st rd (jX rd p q0 j) (p.drop (64*j)) (p.drop (64*(j+1))) (Cl p (64*j)) (Pg p j) (R8 p j)) fun g hg J=>?_;simp only[aD,aN,br]at hg;rcases hg with rfl|rfl
   . have fH:j<kp:=by
      have:=aI (J _ (au.2 rfl));rw[hO,ja]at this;omega
     refine⟨fun p' Qp=>?_,fun s' ek=>⟨kp-(j+1),L,j+1,rfl,L,_,ek⟩⟩;simp only[aD,aN,br]at Qp;rcases Qp with rfl|rfl|rfl|rfl
     . exact⟨dP,by rw[hO,ja];omega⟩
     . exact hrd
     . rw[Nn L];exact aC _
     . exact⟨dP,by rw[hO,ja];omega⟩
   . have AE:¬j<kp:=by
      have:=aK (J _ (au.2 rfl));rw[hO,ja]at this;omega
     obtain rfl:j=kp:=by omega
     exact⟨cW,fun s' ek=>⟨rfl,_,ek⟩⟩
 rintro y s2 ⟨rfl,be,gY⟩;rw[dY];simp only[andThen];refine dh gY ?_;refine eZ X4 (amc st rd (jX rd p q0 kp) (p.drop (64*kp))) (dG ?_);refine⟨?_,_,_,_,rfl,rfl⟩
 repeat' (first|exact cW|refine kg ?_ ?_)
 all_goals first|exact ax U|exact⟨U,ax U⟩|kernel_rfl
theorem amd(st rd:List Int)(wF:8<=st.length)(hrd:64<=rd.length)(s:B)(hs:s.length<=1000000000):TG ak 3 Tryz.f38.ntmps VX (cZ [.str s] (EB st rd) 3)
  (fL ak 3 Tryz.f38 fun u _ _=>u= .str (R7 st rd s)):=by
 have hO:∀n:Nat,Int.ofNat n=(n:Int):=fun _=>rfl;have hz:iz s<64:=by unfold iz;omega
 refine iw  4 X4 (ama st rd s) ?_ ?_
 . intro p hp;simp only[aD,aN,br]at hp;rcases hp with rfl|rfl|rfl|rfl|rfl|rfl|rfl|rfl|rfl|rfl|rfl|rfl|rfl
   . exact wF
   . rfl
   . have e:IntKind.i64.wrap ((119:Int)-Int.ofNat (s.length%64))=Int.ofNat (119-s.length%64):=by
      rw[eV dr dr,hO,hO];omega
     rw[e];rfl
   . decide
   . have e:(Int.ofNat s.length).tdiv 64=Int.ofNat (s.length/64):=rfl;rw[e,eV (x:=Int.ofNat (s.length/64)) dr dr];exact fP dr L
   . exact⟨aA _,dr⟩
   . simp only[b7,aY,Nat.min_self];omega
   . exact⟨aA _,dr⟩
   . exact⟨aA _,dr⟩
   . simp only[ay,b7,aY,bM,aT,bP,Nat.min_self,hO,Int.toNat_natCast];omega
   . exact fP dr L
   . exact⟨aA _,dr⟩
   . simp only[ay,b7,aY,bM,aT,bP,Nat.min_self,hO,Int.toNat_natCast,vU];omega
 show TG ak 3 Tryz.f38.ntmps aa3 (afH st rd (Lq st) s (nr s)) _;refine c6 U ?_;obtain⟨L2,Ht⟩:=amb st rd (Lq st) s (nr s);refine zG X4 mo oL U U Ht (dG ?_);refine⟨fun p hp=>by rw[au]at hp;subst hp;rfl,fun s' ek=>?_⟩;have ek:fe 3 [0,3,5,6] s'=some (Pe st rd (jX rd s (Lq st) 0) s (nr s) (64*0)):=ek;refine fk (i:=0) U (fB (Q1:=fun z s'=>z= .exit 0/\∃be,fe 3 be s'=some (Pe st rd (jX rd s (Lq st) (s.length/64)) s (nr s) (64*(s.length/64)))) (gw (fun k' s'=>∃j,k'=s.length/64-j/\j<=s.length/64/\∃be,fe 3 be s'=some (Pe st rd (jX rd s (Lq st) j) s (nr s) (64*j))) U ?_ (s.length/64) ⟨0,rfl,aX _,_,ek⟩) ?_)
 . rintro k' s1 ⟨j,hk,hj,be,fQ⟩;refine dh fQ ?_;refine fV X4 (afJ st rd (jX rd s (Lq st) j) s (nr s) (64*j)) fun g hg J=>?_;simp only[aD,aN,br]at hg;rcases hg with rfl|rfl
   . have fH:64*j+64<=s.length:=by
      have:=aI (J _ (au.2 rfl));rw[hO,hO]at this;omega
     refine⟨fun p hp=>?_,fun s' ek=>⟨s.length/64-(j+1),L,j+1,rfl,L,_,ek⟩⟩;simp only[aD,aN,br]at hp;rcases hp with rfl|rfl|rfl|rfl|rfl|rfl|rfl
     . exact fP dr L
     . exact fP dr L
     . exact⟨aA _,dr⟩
     . exact⟨aA _,by simp only[hO,Int.toNat_natCast];omega⟩
     . exact hrd
     . rw[Nn fH];exact aC _
     . exact fP dr L
   . have AE:¬64*j+64<=s.length:=by
      have:=aK (J _ (au.2 rfl));rw[hO,hO]at this;omega
     obtain rfl:j=s.length/64:=by omega
     refine⟨fun p hp=>?_,fun s' ek=>⟨rfl,_,ek⟩⟩;rw[au]at hp;subst hp;exact fP dr L
 rintro y s2 ⟨rfl,be,gY⟩;rw[dY];simp only[andThen];refine dh gY ?_;refine dh (live:=[3,5]) (s2:=Jo st rd (jX rd s (Lq st) (s.length/64)) (nr s)) U ?_;show TG ak 3 Tryz.f38.ntmps VY _ (fL ak 3 Tryz.f38 fun u _ _=>u= .str (Hs rd (nr s) (jX rd s (Lq st) (s.length/64))));obtain⟨kp,hkp⟩:=Pf s;have ni:(nr s).length<=200:=by rw[FT];omega
 exact afK st rd hrd _ _ kp hkp ni
end
def gS:List Int:=[1779033703,3144134277,1013904242,2773480762,1359893119,2600822924,528734635,1541459225]
def gR:List Int:=[1116352408,1899447441,3049323471,3921009573,961987163,1508970993,2453635748,2870763221,3624381080,310598401,607225278,1426881987,1925078388,2162078206,2614888103,3248222580,3835390401,4022224774,264347078,604807628,770255983,1249150122,1555081692,1996064986,2554220882,2821834349,2952996808,3210313671,3336571891,3584528711,113926993,338241895,666307205,773529912,1294757372,1396182291,1695183700,1986661051,2177026350,2456956037,2730485921,2820302411,3259730800,3345764771,3516065817,3600352804,4094571909,275423344,430227734,506948616,659060556,883997877,958139571,1322822218,1537002063,1747873779,1955562222,2024104815,2227730452,2361852424,2428436474,2756734187,3204031479,3329325298]
def EX(s:B):B:=R7 gS gR s
def Lr(h:H rs):Option (List Int×List Int):=match h.get 0,h.get 1 with
 |some (.ints .u32 st),some (.ints .u32 rd)=>some (st,rd)
 |_,_=>none
theorem AV{h:H rs}{st rd:List Int}(e:Lr h=some (st,rd)):h.get 0=some (.ints .u32 st)/\h.get 1=some (.ints .u32 rd):=by
 unfold Lr at e;split at e
 . rename_i a b h0 X;obtain⟨rfl,rfl⟩:=fg e;exact⟨h0,X⟩
 . cases e
def Ls:ag->H rs->Option (ah×V)
 | [.str s],h=>match Lr h with
   |some (st,rd)=>some ([st=gS,rd=gR,s.length<=1000000000],.str (EX s))
   |none=>none
 |_,_=>none
theorem FU{E:Env}{h:H rs}{w:World}{st rd:List Int}(g0:Eng.Good E h w)(h0:h.get 0=some (.ints .u32 st))(X:h.get 1=some (.ints .u32 rd)):
  Eng.Good (E.rows U7) (EB st rd) w/\rL (E.rows U7) 3/\∀m,¬eG (EB st rd) m:=
 Nh g0 U7 [some (.u32,st),some (.u32,rd),none] (ax rfl) R2 (by
  intro j k' YJ hj
  match j,hj with
  |0,hj=>cases hj;exact⟨0,0,st,rfl,h0,rfl⟩
  |1,hj=>cases hj;exact⟨1,0,rd,rfl,X,rfl⟩
  |2,hj=>cases hj
  |j+3,hj=>simp at hj)
theorem aa4:RB ak 38 Ls:=by
 refine⟨ax U,fun args h cU u e=>?_⟩;unfold Ls at e;split at e
 case h_2=>cases e
 rename_i s;split at e
 case h_2=>cases e
 rename_i st rd ht;obtain⟨h0,X⟩:=AV ht;obtain⟨rfl,rfl⟩:=fg e;refine⟨rfl,fun hA E n' w' dm ra g0 hd J=>?_⟩;have e1:st=gS:=hA _ (by simp);have e2:rd=gR:=hA _ (by simp);have e3:s.length<=1000000000:=hA (s.length<=1000000000) (by simp);subst e1 e2;obtain⟨g2,d2,n2⟩:=FU g0 h0 X;exact Du mo po Tryz.func38 (code:=VX) U U (amd gS gR (ax rfl) (ax rfl) s e3) (E:=E.rows U7) g2 d2 n2 (nl _ _ rfl ra)
noncomputable abbrev W5:jY:=kC 38 (Ng Ls) W4
theorem Zd:gm ak W5:=fh (Jf aa4) Zc
noncomputable abbrev cs5:e9:=gL ak W5 H0 1000 40
noncomputable abbrev X5:CX ak:=CX.of mo po Zd H0 1000 40
theorem gu(u:B):eW (eo u)=u:=by
 induction u with
 |nil=>rfl
 |cons x u ih=>
  show UInt8.ofNat ((x.toNat:Int)).toNat::eW (eo u)=x::u;rw[ih];simp
noncomputable abbrev aa5:Code:=dO Tryz.f22
noncomputable abbrev aa6:Code:=dw 2 aa5
noncomputable abbrev aa7:Code:=dS aa6
noncomputable abbrev ame:Code:=dU aa6
section
variable(f:Bool)(ps:List (B))(i T:Nat)(gz:B)
def hT:af:=[(0,.ints .u32 gS),(1,.ints .u32 gR)]
def strs:ai:=ps.map .str
def sJ0:St:=eL [(3,.ptr (some (3,0))),(6,.dV f ps.length (strs ps)),(7,.int .i64 (Int.ofNat ps.length)),(8,.int .i64 (Int.ofNat 0))] (K [(0,.ints .u32 gS),(1,.ints .u32 gR),(3,.BO 102 false (.dx none 0 0 0))]) 4
def sJ1:St:=eL [(3,.ptr (some (3,0))),(6,.dV f ps.length (strs ps)),(7,.int .i64 (Int.ofNat ps.length)),(8,.int .i64 (Int.ofNat i))] (K [(0,.ints .u32 gS),(1,.ints .u32 gR),(3,.BO 102 true (.dx (some (4,0)) T T 1)),(4,.ia 5 false gz)]) 5
def sJa:St:=eL [(0,.dV f ps.length (strs ps)),(3,.ptr (some (3,0)))] (K [(0,.ints .u32 gS),(1,.ints .u32 gR),(3,.BO 102 false (.dx none 0 0 0))]) 4
theorem amf:dc cs5 [] 3 Tryz.f22 [0,3] (eU 2 aa5) (cZ [.dV f ps.length (strs ps)] (EB gS gR) 3) [([],[],eP (eL [(0,.dV (f) (ps.length) (strs ps)),(3,.ptr (some (3,0)))] (K [(0,.ints .u32 gS),(1,.ints .u32 gR),(3,.BO 102 false (.dx none 0 0 0))]) 4))]:=cT.ef
theorem afM:dc cs5 [(8,.di (.int .i64 (Int.ofNat 0)))] 3 Tryz.f22 [3,6,7,8] (dS aa7) (sJa f ps) [([],[V.int aj (0:Int)=V.int aj (0:Int)],eP (eL [(3,.ptr (some (3,0))),(6,.dV (f) (ps.length) (strs ps)),(7,.int .i64 ((Int.ofNat ps.length))),(8,.int .i64 0)] (K [(0,.ints .u32 gS),(1,.ints .u32 gR),(3,.BO 102 false (.dx none 0 0 0))]) 4))]:=cT.ef
theorem amg:dc cs5 [] 3 Tryz.f22 [] (ame) (sJ1 f ps i T gz) [([],[0<T,(Int.ofNat T)=(Int.ofNat gz.length)/\0<gz.length,gz.length<=9223372036854775807,gS=gS,gR=gR,gz.length<=1000000000],.ret (.str (EX gz)) (K [(0,.ints .u32 gS),(1,.ints .u32 gR)]) 3)]:=cT.ef
end
section
variable(f:Bool)(ps:List (B))
def eJ:B:=ps.flatMap fun p=>mM (Int.ofNat p.length)++p
theorem uw{ps:List (B)}{i:Nat}{p:B}(h:ps[i]? =some p):eJ (ps.take (i+1))=eJ (ps.take i)++mM (Int.ofNat p.length)++p:=by
 have fH:i<ps.length:=(aH.1 h).1;have e:ps.take (i+1)=ps.take i++[p]:=by
  rw[bH,h];rfl
 unfold eJ;rw[e,List.flatMap_append];simp
theorem R9(i:Nat):(eJ (ps.take i)).length<=(eJ ps).length:=by
 have:eJ ps=eJ (ps.take i)++eJ (ps.drop i):=by
  unfold eJ;rw[<- List.flatMap_append,cg]
 rw[this,ay];omega
theorem jD{k:Nat}(h:k<=100000000000):fa k 1 1=true:=by
 unfold fa;exact bE ⟨L,L⟩
theorem eN:(strs ps).length=ps.length:=bf ..
theorem fR{ps:List (B)}{i:Nat}{p:B}(h:ps[i]? =some p):eX (strs ps) (i*1) 1=[lf.str p]:=by
 unfold eX strs;rw[bn];have fH:i<ps.length:=(aH.1 h).1;have:(ps.drop i).take 1=[p]:=by
  rw[bJ fH];have:ps[i]=p:=(aH.1 h).2;simp[this]
 rw[<- List.map_drop,<- cN,this];rfl
theorem afN(p gz:B)(h:mM (Int.ofNat p.length)++eW (eo p)=gz):dc cs5 [(9,.split),(10,.di (.eK [.str p])),(18,.di (.int .i64 (Int.ofNat 1)))] 3 Tryz.f22 [3,6,7,8] (dD (dD (dU aa7))) (sJ0 f ps) (iU (decide ((0:Int)<Int.ofNat ps.length)) ([(0:Int)<=(0:Int)/\(0:Int)<(Int.ofNat ps.length),(strs ps).length=ps.length*1,V.eK (eX (strs ps) 0 1)=V.eK [lf.str p],0<(mM (Int.ofNat p.length)).length,fa (mM (Int.ofNat p.length)).length 1 1=true,0<(mM (Int.ofNat p.length)).length,(mM (Int.ofNat p.length)).length=(mM (Int.ofNat p.length)).length,fa ((mM (Int.ofNat p.length)).length+p.length) 1 1=true,V.int aj (1:Int)=V.int aj (1:Int)],eP (sJ1 f ps 1 ((mM (Int.ofNat p.length)).length+p.length) gz)) ([],.to (.exit 0) (sJ0 f ps))):=by
 subst h;exact cT.ef
theorem Ze(p:B)(i T:Nat)(gz afO:B)(h:gz++eW (eo (mM (Int.ofNat p.length)))++eW (eo p)=afO):dc cs5 [(9,.split),(10,.di (.eK [.str p])),(18,.di (.int .i64 (Int.ofNat (i+1))))] 3 Tryz.f22 [3,6,7,8] (dD (dD (dU aa7))) (sJ1 f ps i T gz) (iU (decide (Int.ofNat i<Int.ofNat ps.length)) ([kJ i ps.length,(strs ps).length=ps.length*1,V.eK (eX (strs ps) ((Int.ofNat i).toNat*1) 1)=V.eK [lf.str p],0<T,T=gz.length,fa (T+(mM (Int.ofNat p.length)).length) 1 1=true,0<T+(mM (Int.ofNat p.length)).length,T+(mM (Int.ofNat p.length)).length=(gz++eW (eo (mM (Int.ofNat p.length)))).length,fa (T+(mM (Int.ofNat p.length)).length+p.length) 1 1=true,lA (Int.ofNat i+1) (i+1)],eP (sJ1 f ps (i+1) (T+(mM (Int.ofNat p.length)).length+p.length) afO)) ([],.to (.exit 0) (sJ1 f ps i T gz))):=by
 subst h;exact cT.ef
def JoI(k':Nat)(s:St):Prop:=∃i,k'=ps.length-i/\i<=ps.length/\((i=0/\∃be,fe 3 be s=some (sJ0 f ps))\/(0<i/\∃be,fe 3 be s=some (sJ1 f ps i (eJ (ps.take i)).length (eJ (ps.take i)))))
theorem amh(h0:0<ps.length)(Fw:ps.length<=1000000000)(hs:(eJ ps).length<=1000000000):TG ak 3 Tryz.f22.ntmps aa5 (cZ [.dV f ps.length (strs ps)] (EB gS gR) 3)
  (fL ak 3 Tryz.f22 fun u _ _=>u= .str (EX (eJ ps))):=by
 have hO:∀n:Nat,Int.ofNat n=(n:Int):=fun _=>rfl;have hb:=R9 ps;have Sa:=fun x=>vU x;refine iw  2 X5 (amf f ps) cW ?_;show TG ak 3 Tryz.f22.ntmps aa6 (sJa f ps) _;refine c6 U ?_;refine c6 U ?_;refine fV X5 (afM f ps) (dG ?_);refine⟨fun p hp=>by rw[au]at hp;subst hp;rfl,fun s' ek=>?_⟩;have ek:fe 3 [3,6,7,8] s'=some (sJ0 f ps):=ek;refine fk (i:=0) U (fB (Q1:=fun z s'=>z= .exit 0/\∃be,fe 3 be s'=some (sJ1 f ps ps.length (eJ ps).length (eJ ps))) (gw (JoI f ps) U ?_ ps.length ⟨0,rfl,aX _,.inl ⟨rfl,_,ek⟩⟩) ?_)
 . rintro k' s1 ⟨i,hk,hi,⟨rfl,be,fQ⟩|⟨X,be,fQ⟩⟩
   . refine dh fQ ?_;obtain⟨p,hp⟩:∃p,ps[0]? =some p:=⟨_,az h0⟩;have hj:=uw hp;have hj:eJ (ps.take 1)=mM (Int.ofNat p.length)++p:=hj;have zb:=hb 1;rw[hj,ay,Sa]at zb;refine fV X5 (afN f ps p (eJ (ps.take 1)) (by rw[gu,hj])) fun g hg J=>?_;simp only[aD,aN,br]at hg;rcases hg with rfl|rfl
     . refine⟨fun p' Qp=>?_,fun s' ek=>⟨ps.length-1,L,1,rfl,L,.inr ⟨L,[3,6,7,8],?_⟩⟩⟩
       . revert p' Qp
         repeat' (first|exact cW|refine kg ?_ ?_)
         . exact⟨dP,dr⟩
         . rw[eN,bn]
         . exact aL V.eK (fR hp)
         . rw[Sa];decide
         . rw[Sa];rfl
         . rw[Sa];decide
         . first|rfl|trivial
         . rw[Sa];exact jD L
         . first|rfl|trivial
       . rw[ek,hj,ay]
     . exact absurd (aK (J _ (au.2 rfl))) dr
   . refine dh fQ ?_;rcases bO i ps.length with fH|AE
     . obtain⟨p,hp⟩:∃p,ps[i]? =some p:=⟨_,az fH⟩;have hj:=uw hp;have zb:=hb (i+1);rw[hj,ay,ay,Sa]at zb;have mT:0<(eJ (ps.take i)).length:=by
        obtain⟨j,rfl⟩:∃j,i=j+1:=⟨i-1,L⟩;rw[uw (az (show j<ps.length by omega)),ay,ay,Sa];omega
       refine fV X5 (Ze f ps p i (eJ (ps.take i)).length (eJ (ps.take i)) (eJ (ps.take (i+1))) (by rw[gu,gu,hj])) fun g hg J=>?_;simp only[aD,aN,br]at hg;rcases hg with rfl|rfl
       . refine⟨fun p' Qp=>?_,fun s' ek=>⟨ps.length-(i+1),L,i+1,rfl,L,.inr ⟨L,[3,6,7,8],?_⟩⟩⟩
         . revert p' Qp
           repeat' (first|exact cW|refine kg ?_ ?_)
           . exact⟨aA _,dr⟩
           . rw[eN,bn]
           . exact aL V.eK (fR hp)
           . exact mT
           . first|rfl|trivial
           . rw[Sa];exact jD L
           . rw[Sa];omega
           . rw[gu,ay]
           . rw[Sa];exact jD L
           . exact fP dr L
         . rw[ek,hj,ay,ay]
       . exact absurd (aK (J _ (au.2 rfl))) dr
     . obtain rfl:i=ps.length:=by omega
       refine fV X5 (Ze f ps [] ps.length (eJ (ps.take ps.length)).length (eJ (ps.take ps.length)) _ rfl) fun g hg J=>?_;simp only[aD,aN,br]at hg;rcases hg with rfl|rfl
       . exact absurd (aI (J _ (au.2 rfl))) dr
       . refine⟨cW,fun s' ek=>⟨rfl,[3,6,7,8],?_⟩⟩;rw[ek,aU]
 rintro y s2 ⟨rfl,be,gY⟩;rw[dY];simp only[andThen];refine dh gY ?_;have mT:0<(eJ ps).length:=by
  have hj:=uw (az h0);have zb:=hb 1;rw[hj,ay,ay,Sa]at zb;omega
 refine eZ X5 (amg f ps ps.length (eJ ps).length (eJ ps)) (dG ?_);refine⟨fun p' Qp=>?_,_,_,_,rfl,rfl⟩;revert p' Qp
 repeat' (first|exact cW|refine kg ?_ ?_)
 . exact mT
 . exact⟨rfl,mT⟩
 . omega
 . first|rfl|trivial
 . first|rfl|trivial
 . exact hs
end
def Sb(f:FuncId)(args:ag)(v:V):Prop:=∀E h n w dm,Lr h=some (gS,gR)->dK E args dm->Eng.Good E h w->rL E n->Calls ak f dm.toArray w (kz E h n w (.ret v) h n)
def tW(f:ai->Option (ah×V)):ag->H rs->Nat->Option (ah×V×H rs×Nat):=fun args h n=>match Lr h,FQ args with
 |some (st,rd),some ds=>match f ds with
  |some (cU,v)=>some ((st=gS)::(rd=gR)::cU,v,h,n)
  |none=>none
 |_,_=>none
theorem Sc{f:FuncId}{spec:ai->Option (ah×V)}(fH:f<Tryz.prog.funcs.size)(h:∀args cU v,spec args=some (cU,v)->(∀a∈cU,a)->Sb f (args.map lf.iZ) v):jK ak f (tW spec):=by
 refine⟨fH,fun args h' n cU v h2 n2 e hA E w dm ra g hd J=>?_⟩;unfold tW at e;split at e
 case h_2=>cases e
 rename_i st rd ds ht hds;split at e
 case h_2=>cases e
 rename_i A' v' hs;simp only[an,aB]at e;obtain⟨rfl,rfl,rfl,rfl⟩:=e;have e1:st=gS:=hA _ (by simp);have e2:rd=gR:=hA _ (by simp);subst e1 e2;exact h ds _ _ hs (fun a ha=>hA a (by simp[ha])) E h' n w dm ht (AQ hds ra) g hd
theorem yj{f:FuncId}{fn:Func}{code:Code}(hf:Tryz.prog.funcs[f]? =some fn)(hb:fn.body=some code){args:ag}
  (l:(Nat.ble args.length fn.ntmps&&Nat.blt fn.ntmps fW)=true) {v:V} (hdp:V.rC args=true) (hv:v.deep=true) (hT:TG ak 3 fn.ntmps code (cZ args (EB gS gR) 3) (fL ak 3 fn (oe v))):Sb f args v:=by
 intro E h n w dm ht ra g hd;obtain⟨h0,X⟩:=AV ht;obtain⟨g0,d0,I⟩:=FU g h0 X;have ra0:dK (E.rows U7) args dm:=oM (E:=E) (E':=E.rows U7) (fun _ _ q=>q) _ _ hdp ra;exact(pF mo po hf hb l _ hT ra0 g0 d0).mono fun e w' ⟨u,h',n',hz,k⟩=>DB (E1:=E.rows U7) g hd rfl I hv hz k
theorem kE{P:Program}{I:Nat}{fn:Func}{v:V}{y:Exit}{s:St}(h:fL P I fn (fun u _ _=>u=v) y s):fL P I fn (oe v) y s:=by
 obtain⟨hy,u,h',n',e,rfl⟩:=h;exact⟨hy,_,h',n',e,.self⟩
def lf.aa9:lf->B
 | .str p=>p
 |_=>[]
def dI(Q:ai):List (B):=Q.map lf.aa9
theorem iu(ps:List (B)):dI (strs ps)=ps:=by
 unfold dI strs;rw[List.map_map];exact List.map_id ps
def Lt:ai->Option (ah×V)
 | [.dV n Q]=>some ([Q=strs (dI Q),n=(dI Q).length,0<n,n<=1000000000,(eJ (dI Q)).length<=1000000000],.str (EX (eJ (dI Q))))
 |_=>none
theorem aba:jK ak 22 (tW Lt):=by
 refine Sc (ax U) fun args cU v e hA=>?_;unfold Lt at e;split at e
 case h_2=>cases e
 rename_i n Q;simp only[an,aB]at e;obtain⟨rfl,rfl⟩:=e;have e1:Q=strs (dI Q):=hA _ (by simp);have e2:n=(dI Q).length:=hA (n=(dI Q).length) (by simp);have e3:0<n:=hA (0<n) (by simp);have e4:n<=1000000000:=hA (n<=1000000000) (by simp);have e5:(eJ (dI Q)).length<=1000000000:=hA ((eJ (dI Q)).length<=1000000000) (by simp);generalize dI Q=ps at *;subst e1 e2;exact yj Tryz.func22 U U rfl rfl (fB (amh false ps e3 e4 e5) fun y s h=>kE h)
noncomputable abbrev W6:jY:=kC 22 (tW Lt) W5
theorem Zf:gm ak W6:=fh aba Zd
noncomputable abbrev cs6:e9:=gL ak W6 H0 1000 40
noncomputable abbrev X6:CX ak:=CX.of mo po Zf H0 1000 40
noncomputable abbrev abb:Code:=dO Tryz.f45
noncomputable abbrev abc:Code:=dw 2 abb
noncomputable abbrev afP:Code:=dS abc
noncomputable abbrev ami:Code:=dU abc
section
variable(O:List (B))(n:Nat)(ds:ai)
def sN0(d:B)(o:rs):St:=eL [(1,.dV false O.length (strs O)),(5,.dx (some (3,0)) 1 1 1)] (K [(0,.ints .u32 gS),(1,.ints .u32 gR),(3,o)]) 4
def sN1(i T:Nat):St:=eL [(5,.dx (some (3,0)) T T 1),(10,.dV false O.length (strs O)),(11,.int .i64 (Int.ofNat O.length)),(12,.int .i64 (Int.ofNat i))] (K [(0,.ints .u32 gS),(1,.ints .u32 gR),(3,.deep ds)]) 4
def sN2:St:=eL [(5,.dV false n ds)] (K [(0,.ints .u32 gS),(1,.ints .u32 gR)]) 3
theorem amj(d:B):dc cs6 [] 3 Tryz.f45 [1,5] (eU 2 abb) (cZ [.str d,.dV false O.length (strs O)] (EB gS gR) 3) [([],[],eP (eL [(1,.dV false (O.length) (strs O)),(5,.dx (some (3,0)) 1 1 1)] (K [(0,.ints .u32 gS),(1,.ints .u32 gR),(3,.cells [.str (d)])]) 4))]:=cT.ef
theorem amk(d:B)(ds:ai):dc cs6 [(12,.di (.int .i64 (Int.ofNat 0)))] 3 Tryz.f45 [5,10,11,12] (dS afP) (sN0 O d (.deep ds)) [([],[V.int aj (0:Int)=V.int aj (0:Int)],eP (eL [(5,.dx (some (3,0)) 1 1 1),(10,.dV false (O.length) (strs O)),(11,.int .i64 ((Int.ofNat O.length))),(12,.int .i64 0)] (K [(0,.ints .u32 gS),(1,.ints .u32 gR),(3,.deep (ds))]) 4))]:=cT.ef
theorem aml(qs:List (B))(n:Nat):dc cs6 [] 3 Tryz.f45 [] (ami) (sN2 n (strs qs)) [([],[gS=gS,gR=gR,strs qs=strs (dI (strs qs)),n=(dI (strs qs)).length,0<n,n<=1000000000,(eJ (dI (strs qs))).length<=1000000000],.ret (.str (EX (eJ (dI (strs qs))))) (K [(0,.ints .u32 gS),(1,.ints .u32 gR)]) 3)]:=cT.ef
end
def dL(d:B)(O:List (B)):B:=EX (eJ (d::O))
theorem DF(d:B)(O:List (B)):(dL d O).length=32:=rfl
theorem qu{k:Nat}(h:k<=1000000000):fa k 1 16=true:=by
 unfold fa;exact bE ⟨L,L⟩
section
variable(O:List (B))
theorem Zg(ds ds2:ai)(p:B)(i T:Nat)(h:List.take (T*1) (List.drop 0 ds)++[lf.str p]=ds2):dc cs6 [(13,.split),(14,.di (.eK [.str p])),(20,.di (.int .i64 (Int.ofNat (i+1))))] 3 Tryz.f45 [5,10,11,12] (dD (dD (dU afP))) (sN1 O ds i T) (iU (decide (Int.ofNat i<Int.ofNat O.length)) ([kJ i O.length,(strs O).length=O.length*1,V.eK (eX (strs O) ((Int.ofNat i).toNat*1) 1)=V.eK [lf.str p],0+T*1<=ds.length,0<1,fa (T+1) 1 16=true,lA (Int.ofNat i+1) (i+1)],eP (sN1 O ds2 (i+1) (T+1))) ([],.to (.exit 0) (sN1 O ds i T))):=by
 subst h;exact cT.ef
theorem Ph(d:B){O:List (B)}{i:Nat}{p:B}(h:O[i]? =some p):List.take ((i+1)*1) (List.drop 0 (strs (d::O.take i)))++[lf.str p]=strs (d::O.take (i+1)):=by
 have fH:i<O.length:=(aH.1 h).1;rw[bw,bn,bk (by rw[eN,aT,aY];omega),bH,h];unfold strs;simp
theorem amn(d:B)(GB:O.length<=1000000)(hs:(eJ (d::O)).length<=1000000000):TG ak 3 Tryz.f45.ntmps abb (cZ [.str d,.dV false O.length (strs O)] (EB gS gR) 3)
  (fL ak 3 Tryz.f45 fun u _ _=>u= .str (dL d O)):=by
 have hO:∀n:Nat,Int.ofNat n=(n:Int):=fun _=>rfl;refine iw  2 X6 (amj O d) cW ?_;refine wV [3] (s2:=sN0 O d (.deep [.str d])) U ?_;show TG ak 3 Tryz.f45.ntmps abc _ _;refine c6 U ?_;refine c6 U ?_;refine fV X6 (amk O d [.str d]) (dG ?_);refine⟨fun p hp=>by rw[au]at hp;subst hp;rfl,fun s' ek=>?_⟩;have ek:fe 3 [5,10,11,12] s'=some (sN1 O (strs (d::O.take 0)) 0 1):=ek;refine fk (i:=0) U (fB (Q1:=fun z s'=>z= .exit 0/\∃be,fe 3 be s'=some (sN1 O (strs (d::O)) O.length (O.length+1))) (gw (fun k' s=>∃i,k'=O.length-i/\i<=O.length/\∃be,fe 3 be s=some (sN1 O (strs (d::O.take i)) i (i+1))) U ?_ O.length ⟨0,rfl,aX _,_,ek⟩) ?_)
 . rintro k' s1 ⟨i,hk,hi,be,fQ⟩;refine dh fQ ?_;rcases bO i O.length with fH|AE
   . obtain⟨p,hp⟩:∃p,O[i]? =some p:=⟨_,az fH⟩;refine fV X6 (Zg O (strs (d::O.take i)) _ p i (i+1) (Ph d hp)) fun g hg J=>?_;simp only[aD,aN,br]at hg;rcases hg with rfl|rfl
     . refine⟨?_,fun s' ek=>⟨O.length-(i+1),L,i+1,rfl,L,_,ek⟩⟩
       repeat' (first|exact cW|refine kg ?_ ?_)
       . exact⟨aA _,dr⟩
       . rw[eN,bn]
       . exact aL V.eK (fR hp)
       . rw[eN,aT,aY];omega
       . decide
       . exact qu L
       . exact fP dr L
     . exact absurd (aK (J _ (au.2 rfl))) dr
   . obtain rfl:i=O.length:=by omega
     refine fV X6 (Zg O (strs (d::O.take O.length)) _ [] O.length (O.length+1) rfl) fun g hg J=>?_;simp only[aD,aN,br]at hg;rcases hg with rfl|rfl
     . exact absurd (aI (J _ (au.2 rfl))) dr
     . refine⟨cW,fun s' ek=>⟨rfl,[5,10,11,12],?_⟩⟩;rw[ek,aU]
 rintro y s2 ⟨rfl,be,gY⟩;rw[dY];simp only[andThen];refine dh gY ?_;refine dh (live:=[5]) (s2:=eL [(5,.dx (some (3,0)) (O.length+1) (O.length+1) 1)] (K [(0,.ints .u32 gS),(1,.ints .u32 gR),(3,.deep (strs (d::O)))]) 4) U ?_;refine Dy [3] (cU:=[(strs (d::O)).length=(O.length+1)*1]) (s2:=eL [(5,.dV false (O.length+1) (strs (d::O)))] ((K [(0,.ints .u32 gS),(1,.ints .u32 gR),(3,.deep (strs (d::O)))]).set 3 none) 4) U (fun x M=>?_) ?_
 . rw[au]at M;subst M;rw[eN,bn];rfl
 refine dh (live:=[5]) (s2:=sN2 (O.length+1) (strs (d::O))) U ?_;obtain⟨L5,yl⟩:=aml (d::O) (O.length+1);rw[iu]at yl;refine ij X6 mo _ U yl (dG ?_);refine⟨?_,_,_,_,rfl,rfl⟩
 repeat' (first|exact cW|refine kg ?_ ?_)
 . first|rfl|trivial
 . first|rfl|trivial
 . first|rfl|trivial
 . first|rfl|trivial
 . omega
 . omega
 . exact hs
end
def Lu:ai->Option (ah×V)
 | [.str d,.dV n Q]=>some ([Q=strs (dI Q),n=(dI Q).length,n<=1000000,(eJ (d::dI Q)).length<=1000000000],.str (dL d (dI Q)))
 |_=>none
theorem abd:jK ak 45 (tW Lu):=by
 refine Sc (ax U) fun args cU v e hA=>?_;unfold Lu at e;split at e
 case h_2=>cases e
 rename_i d n Q;simp only[an,aB]at e;obtain⟨rfl,rfl⟩:=e;have e1:Q=strs (dI Q):=hA _ (by simp);have e2:n=(dI Q).length:=hA (n=(dI Q).length) (by simp);have e4:n<=1000000:=hA (n<=1000000) (by simp);have e5:(eJ (d::dI Q)).length<=1000000000:=hA ((eJ (d::dI Q)).length<=1000000000) (by simp);generalize dI Q=ps at *;subst e1 e2;exact yj Tryz.func45 U U rfl rfl (fB (amn ps d e4 e5) fun y s h=>kE h)
noncomputable abbrev W7:jY:=kC 45 (tW Lu) W6
theorem Zh:gm ak W7:=fh abd Zf
noncomputable abbrev cs7:e9:=gL ak W7 H0 1000 40
noncomputable abbrev X7:CX ak:=CX.of mo po Zh H0 1000 40
noncomputable abbrev abe:Code:=dO Tryz.f75
noncomputable abbrev VZ:Code:=dw 3 abe
noncomputable abbrev afR:Code:=dS VZ
noncomputable abbrev abf:Code:=dU VZ
section
variable(u:Int)
def sV0:St:=eL [(3,.dx none 0 0 0),(4,.int .u64 u)] (K []) 3
def Sd(o:rs)(T:Nat):St:=eL [(3,.dx (some (3,0)) T T 1),(4,.int .u64 u)] (K [(3,o)]) 4
theorem amo(n:Int):dc cs7 [(6,.di (.int .u64 n))] 3 Tryz.f75 [3,4] (eU 3 abe) (cZ [.int .i64 n] .nil 3) [([],[V.int IntKind.u64 (IntKind.u64.wrap n)=V.int IntKind.u64 n],eP (eL [(3,.dx none 0 0 0),(4,.int .u64 n)] (K []) 3))]:=cT.ef
theorem amq:dc cs7 [] 3 Tryz.f75 [] (abf) (sV0 u) [([],[],.ret (.str ([UInt8.ofNat (IntKind.u8.wrap u).toNat])) (K []) 3)]:=cT.ef
theorem amr(ks:List Int)(T:Nat):dc cs7 [] 3 Tryz.f75 [] (abf) (Sd u (.own .u8 ks) T) [([],[0<T,0+T*1<=ks.length,0<1,fa (T+1) 1 1=true,0+(T+1)<=(List.take (T*1) (List.drop 0 ks)++[IntKind.u8.wrap u]).length],.ret (.str (eW (List.take (T+1) (List.drop 0 (List.take (T*1) (List.drop 0 ks)++[IntKind.u8.wrap u]))))) (K []) 3)]:=cT.ef
end
def U8(u:Int):Int:=IntKind.u8.wrap (Int.ofNat (BitVec.ofInt 8 (IntKind.u8.wrap u)|||BitVec.ofInt 8 (128:Int)).toNat)
def loB(u:Int):Int:=IntKind.u8.wrap u
def oO:Nat->Int->List Int
 |0,u=>[loB u]
 |k+1,u=>if 128<=u then U8 u::oO k (u.fdiv 128)else[loB u]
def jE(n:Int):B:=eW (oO 4 n)
theorem Se{k:Nat}{u:Int}(h:¬128<=u):oO k u=[loB u]:=by
 cases k with
 |zero=>rfl
 |succ k=>show(if 128<=u then _ else _)=_;rw[aJ h]
theorem DG:∀(k:Nat) (u:Int),0<(oO k u).length/\(oO k u).length<=k+1
 |0,u=>by simp[oO]
 |k+1,u=>by
  have:=DG k (u.fdiv 128);show 0<(if 128<=u then _ else _:List Int).length/\(if 128<=u then _ else _:List Int).length<=_;split
  . simp only[aT];omega
  . simp only[aT,bP];omega
theorem mN(n:Int):0<(jE n).length/\(jE n).length<=5:=by
 have:=DG 4 n;unfold jE eW;rw[bf];exact this
theorem afT(u:Int):dc cs7 [(8,.split)] 3 Tryz.f75 [3,4] (dD (dD afR)) (sV0 u) (iU (decide (u>=(128:Int))) ([],eP (Sd (u.fdiv 128) (.cells [.int .u8 (U8 u)]) 1)) ([],.to (.exit 0) (sV0 u))):=cT.ef
theorem afU(u:Int)(ks ks2:List Int)(T:Nat)(h:List.take (T*1) (List.drop 0 ks)++[U8 u]=ks2):dc cs7 [(8,.split)] 3 Tryz.f75 [3,4] (dD (dD afR)) (Sd u (.own .u8 ks) T) (iU (decide (u>=(128:Int))) ([0<T,0+T*1<=ks.length,0<1,fa (T+1) 1 1=true],eP (Sd (u.fdiv 128) (.own .u8 ks2) (T+1))) ([],.to (.exit 0) (Sd u (.own .u8 ks) T))):=by
 subst h;exact cT.ef
def VaS(ks:List Int)(u:Int)(s:St):Prop:=(ks=[]/\∃be,fe 3 be s=some (sV0 u))\/(0<ks.length/\∃be,fe 3 be s=some (Sd u (.own .u8 ks) ks.length))\/(∃x,ks=[x]/\∃be,fe 3 be s=some (Sd u (.cells [.int .u8 x]) 1))
def VaI(n:Int)(k:Nat)(s:St):Prop:=∃ks u,0<=u/\u<128^(k+1)/\ks.length+k<=10/\ks++oO k u=oO 4 n/\VaS ks u s
def VaE(n:Int)(s:St):Prop:=∃ks u,ks.length<=10/\ks++[loB u]=oO 4 n/\VaS ks u s
theorem ams(n:Int)(h0:0<=n)(hn:n<1000000000):TG ak 3 Tryz.f75.ntmps abe (cZ [.int .i64 n] .nil 3) (fL ak 3 Tryz.f75 fun u _ _=>u= .str (jE n)):=by
 refine iw  3 X7 (amo n) (fun p hp=>?_) ?_
 . rw[au]at hp;subst hp;have:IntKind.u64.wrap n=n:=by
    unfold IntKind.wrap;have e1:(2^IntKind.u64.bits:Int)=18446744073709551616:=by decide
    have e3:IntKind.u64.signed=false:=rfl;simp only[e1,e3,Bool.false_and,aP,cJ];omega
   rw[this]
 show TG ak 3 Tryz.f75.ntmps VZ (sV0 n) _;refine c6 U ?_;refine fk (i:=0) U (fB (Q1:=fun z s'=>z= .exit 0/\VaE n s') (gw (VaI n) U ?_ 4 ⟨[],n,h0,L,dP,rfl,.inl ⟨rfl,[3,4],U⟩⟩) ?_)
 . rintro k s1 ⟨ks,u,hu0,hu,hl,hv,hs⟩;have key:∀hk:128<=u,∃j,k=j+1/\0<=u.fdiv 128/\u.fdiv 128<128^(j+1)/\(ks++[U8 u])++oO j (u.fdiv 128)=oO 4 n:=by
    intro hk;cases k with
    |zero=>simp at hu;omega
    |succ j=>
     have ed:u.fdiv 128=u/128:=cM _ dP;refine⟨j,rfl,by rw[ed];omega,?_,?_⟩
     . rw[ed];have:(128:Int)^(j+1+1)=128^(j+1)*128:=Int.pow_succ ..;rw[this]at hu;exact Int.ediv_lt_of_lt_mul dP hu
     . rw[<- hv];show _=ks++(if 128<=u then _ else _);rw[aF hk];simp
   have Fx:∀hk:¬128<=u,ks++[loB u]=oO 4 n:=fun hk=>by rw[<- hv,Se hk]
   have own:∀s2,0<ks.length->s2=Sd u (.own .u8 ks) ks.length->TG ak 3 Tryz.f75.ntmps (dD (dD (dS VZ))) s2 (andThen (fun s'=>∃k',k'<k/\VaI n k' s') fun z s'=>z= .exit 0/\VaE n s'):=by
    rintro s2 mT rfl;refine fV X7 (afU u ks (ks++[U8 u]) ks.length (by rw[bw,bn,aU])) fun g hg J=>?_;simp only[aD,aN,br]at hg;rcases hg with rfl|rfl
    . have hk:128<=u:=aI (J _ (au.2 rfl));obtain⟨j,rfl,a1,a2,a3⟩:=key hk;have Ex:(ks++[U8 u]).length+j<=10:=by
       clear a2 hu;rw[ay,aT,bP];omega
      refine⟨?_,fun s' ek=>⟨j,Nat.lt_succ_self j,_,_,a1,a2,Ex,a3,.inr (.inl ⟨by simp,[3,4],by rw[ek,ay];rfl⟩)⟩⟩
      repeat' (first|exact cW|refine kg ?_ ?_)
      . exact mT
      . omega
      . decide
      . exact jD L
    . have hk:¬128<=u:=aK (J _ (au.2 rfl));exact⟨cW,fun s' ek=>⟨rfl,ks,u,L,Fx hk,.inr (.inl ⟨mT,_,ek⟩)⟩⟩
   rcases hs with⟨rfl,be,hs⟩|⟨mT,be,hs⟩|⟨x,rfl,be,hs⟩
   . refine dh hs ?_;refine fV X7 (afT u) fun g hg J=>?_;simp only[aD,aN,br]at hg;rcases hg with rfl|rfl
     . have hk:128<=u:=aI (J _ (au.2 rfl));obtain⟨j,rfl,a1,a2,a3⟩:=key hk;have Ex:[U8 u].length+j<=10:=by
        clear a2 hu;simp only[aT,bP]at hl ⊢;omega
       exact⟨cW,fun s' ek=>⟨j,Nat.lt_succ_self j,_,_,a1,a2,Ex,a3,.inr (.inr ⟨_,rfl,_,ek⟩)⟩⟩
     . have hk:¬128<=u:=aK (J _ (au.2 rfl));exact⟨cW,fun s' ek=>⟨rfl,[],u,dP,Fx hk,.inl ⟨rfl,_,ek⟩⟩⟩
   . exact dh hs (own _ mT rfl)
   . refine dh hs ?_;refine uo [(3,.u8)] (s2:=Sd u (.own .u8 [x]) 1) U ?_;exact own _ Nat.zero_lt_one rfl
 rintro y s2 ⟨rfl,ks,u,hl,hv,hs⟩;rw[dY];simp only[andThen];have own:∀s2,0<ks.length->s2=Sd u (.own .u8 ks) ks.length->TG ak 3 Tryz.f75.ntmps abf s2 (fL ak 3 Tryz.f75 fun u _ _=>u= .str (jE n)):=by
  rintro s2 mT rfl;refine eZ X7 (amr u ks ks.length) (dG ?_);have e:List.take (ks.length*1) (List.drop 0 ks)++[IntKind.u8.wrap u]=oO 4 n:=by rw[bw,bn,aU];exact hv
  have el:(oO 4 n).length=ks.length+1:=by rw[<- hv,ay];rfl
  rw[e];refine⟨?_,_,_,_,rfl,?_⟩
  . repeat' (first|exact cW|refine kg ?_ ?_)
    . exact mT
    . omega
    . decide
    . exact jD L
    . omega
  . unfold jE;rw[bw,<- el,aU]
 rcases hs with⟨rfl,be,hs⟩|⟨mT,be,hs⟩|⟨x,rfl,be,hs⟩
 . refine dh hs ?_;refine eZ X7 (amq u) (dG ?_);refine⟨cW,_,_,_,rfl,?_⟩;unfold jE;rw[<- hv];rfl
 . exact dh hs (own _ mT rfl)
 . refine dh hs ?_;refine uo [(3,.u8)] (s2:=Sd u (.own .u8 [x]) 1) U ?_;exact own _ Nat.zero_lt_one rfl
def Lv:ag->Option (ah×V)
 | [.int .i64 n]=>some ([0<=n/\n<1000000000],.str (jE n))
 |_=>none
theorem abh:jK ak 75 (jW Lv):=by
 refine kD (ax U) fun args cU v e=>?_;unfold Lv at e;split at e
 . obtain⟨rfl,rfl⟩:=fg e;exact⟨rfl,U,fun hA=>ik mo po Tryz.func75 U U rfl (ams _ (hA _ (au.2 rfl)).1 (hA _ (au.2 rfl)).2)⟩
 . cases e
noncomputable abbrev W8:jY:=kC 75 (jW Lv) W7
theorem Zi:gm ak W8:=fh abh Zh
noncomputable abbrev cs8:e9:=gL ak W8 H0 1000 40
noncomputable abbrev X8:CX ak:=CX.of mo po Zi H0 1000 40
noncomputable abbrev abi:Code:=dO Tryz.f122
noncomputable abbrev abj:Code:=dw 1 abi
noncomputable abbrev afV:Code:=dS abj
noncomputable abbrev amt:Code:=dU abj
noncomputable abbrev abk:Code:=dO Tryz.f99
noncomputable abbrev abl:Code:=dw 4 abk
noncomputable abbrev afW:Code:=dS abl
noncomputable abbrev amu:Code:=dU abl
def Zj(c:Int):Int:=nU (c.fdiv 2) (w32 (3988292384*AU c 1))
def sT0(o:rs):St:=eL [(0,.ptr (some (3,0)))] (K [(3,o)]) 4
section
variable(s:B)(ws:List Int)(i:Nat)
def Zk:St:=eL [(0,.ptr (some (3,0))),(3,.int .i64 (Int.ofNat i))] (K [(3,.own .u32 ws)]) 4
def abm:V:=.agg ((List.range 256).map fun j=>.int .u32 (ws.getD j 0))
def sU0(c:Int)(o:rs):St:=eL [(0,.str s),(4,.ptr (some (3,0))),(5,.fn (.func 123) [] [.ptr (some (4,0)),.ptr (some (3,0))])] (K [(3,.cells [.int .u32 c]),(4,o)]) 5
def sU1(c:Int)(ws:List Int)(i:Nat):St:=eL [(0,.str s),(4,.ptr (some (3,0))),(5,.fn (.func 123) [] [.ptr (some (4,0)),.ptr (some (3,0))]),(10,.int .i64 (Int.ofNat s.length)),(11,.int .i64 (Int.ofNat i))] (K [(3,.cells [.int .u32 c]),(4,.own .u32 ws)]) 5
def abo:Int:=Zj (Zj (Zj (Zj (Zj (Zj (Zj (Zj (w32 (Int.ofNat i)))))))))
theorem amv:cT ak cs8 [] 1000 3 Tryz.f122 [0] (eU 1 abi) (cZ [] .nil 3) [] [([],[],.to .normal (sT0 (.cells (List.replicate 256 (.int .u32 0)))))]:=by
 unfold cT;kernel_rfl
theorem abp:Le [(3,.u32)] (sT0 (.cells (List.replicate 256 (.int .u32 0))))=some (sT0 (.own .u32 (List.replicate 256 0))):=by kernel_rfl
theorem amw:dc cs8 [(3,.di (.int .i64 (Int.ofNat 0)))] 3 Tryz.f122 [0,3] (dS afV) (sT0 (.own .u32 ws)) [([],[V.int .i64 0=V.int .i64 0],eP (Zk ws 0))]:=
 cT.ef
theorem amx:dc cs8 [(4,.split),(20,.di (.int .i64 (Int.ofNat (i+1))))] 3 Tryz.f122 [0,3] (dD (dD (dU afV))) (Zk ws i) (iU (decide (Int.ofNat i<256)) ([0<=Int.ofNat i/\Int.ofNat i<256,0+i*1+1<=ws.length,lA (Int.ofNat i+1) (i+1)],eP (Zk (fZ ws (0+i*1) [abo i]) (i+1))) ([],.to (.exit 0) (Zk ws i))):=
 cT.ef
theorem amy:dc cs8 [] 3 Tryz.f122 [] amt (Zk ws i) [([],[256<=ws.length,256<=ws.length],.ret (abm ws) (K []) 3)]:=
 cT.ef
theorem amz(c:Int)(ws:List Int):dc cs8 [(11,.di (.int .i64 (Int.ofNat 0)))] 3 Tryz.f99 [0,4,5,10,11] (dS afW) (sU0 s c (.own .u32 ws)) [([],[V.int aj (0:Int)=V.int aj (0:Int)],eP (eL [(0,.str (s)),(4,.ptr (some (3,0))),(5,.fn (.func 123) [] [.ptr (some (4,0)),.ptr (some (3,0))]),(10,.int .i64 ((Int.ofNat s.length))),(11,.int .i64 0)] (K [(3,.cells [.int .u32 c]),(4,.own .u32 (ws))]) 5))]:=cT.ef
theorem amA(c:Int)(ws:List Int)(i:Nat):dc cs8 [] 3 Tryz.f99 [] (amu) (sU1 s c ws i) [([],[],.ret (.int .u32 (IntKind.u32.wrap (Int.ofNat (BitVec.ofInt 32 (4294967295:Int)^^^BitVec.ofInt 32 c).toNat))) (K []) 3)]:=cT.ef
end
def Lw:Nat->List Int
 |0=>List.replicate 256 0
 |i+1=>fZ (Lw i) (0+i*1) [abo i]
theorem DH:∀i,i<=256->(Lw i).length=256
 |0,_=>bM ..
 |i+1,h=>by
  have ih:=DH i L;show(fZ (Lw i) (0+i*1) [abo i]).length=256;rw[DD (by simp only[aT,bP];omega),ih]
def zL:List Int:=Lw 256
theorem amB:TG ak 3 Tryz.f122.ntmps abi (cZ [] .nil 3) (fL ak 3 Tryz.f122 fun u _ _=>u=abm zL):=by
 have hO:∀n:Nat,Int.ofNat n=(n:Int):=fun _=>rfl;refine nP 1 X8 mo U amv cW ?_;refine uo _ abp ?_;show TG ak 3 Tryz.f122.ntmps abj _ _;refine c6 U ?_;refine c6 U ?_;refine fV X8 (amw (List.replicate 256 0)) (dG ?_);refine⟨fun p hp=>by rw[au]at hp;subst hp;rfl,fun s' ek=>?_⟩;have ek:fe 3 [0,3] s'=some (Zk (Lw 0) 0):=ek;refine fk (i:=0) U (fB (Q1:=fun z s'=>z= .exit 0/\∃be,fe 3 be s'=some (Zk zL 256)) (gw (fun k' s=>∃i,k'=256-i/\i<=256/\∃be,fe 3 be s=some (Zk (Lw i) i)) U ?_ 256 ⟨0,rfl,aX _,_,ek⟩) ?_)
 . rintro k' s1 ⟨i,hk,hi,be,fQ⟩;refine dh fQ ?_;refine fV X8 (amx (Lw i) i) fun g hg J=>?_;simp only[aD,aN,br]at hg;rcases hg with rfl|rfl
   . have fH:i<256:=by
      have:=aI (J _ (au.2 rfl));rw[hO]at this;omega
     have hl:=DH i hi;refine⟨?_,fun s' ek=>⟨256-(i+1),L,i+1,rfl,L,_,ek⟩⟩
     repeat' (first|exact cW|refine kg ?_ ?_)
     . exact⟨aA _,dr⟩
     . omega
     . exact fP dr L
   . have AE:¬i<256:=by
      have:=aK (J _ (au.2 rfl));rw[hO]at this;omega
     obtain rfl:i=256:=by omega
     exact⟨cW,fun s' ek=>⟨rfl,_,ek⟩⟩
 rintro y s2 ⟨rfl,be,gY⟩;rw[dY];simp only[andThen];refine dh gY ?_;refine eZ X8 (amy zL 256) (dG ?_);have hl:zL.length=256:=DH 256 (aC _);refine⟨?_,_,_,_,rfl,rfl⟩
 repeat' (first|exact cW|refine kg ?_ ?_)
 . omega
 . omega
def Lx:ag->Option (ah×V)
 | []=>some ([],abm zL)
 |_=>none
theorem abq:jK ak 122 (jW Lx):=by
 refine kD (ax U) fun args cU v e=>?_;unfold Lx at e;split at e
 . obtain⟨rfl,rfl⟩:=fg e;exact⟨rfl,U,fun hA=>ik mo po Tryz.func122 U U rfl amB⟩
 . cases e
noncomputable abbrev W9:jY:=kC 122 (jW Lx) W8
theorem Zl:gm ak W9:=fh abq Zi
noncomputable abbrev cs9:e9:=gL ak W9 H0 1000 40
noncomputable abbrev X9:CX ak:=CX.of mo po Zl H0 1000 40
section
variable(ws:List Int)(s:B)
theorem amC:dc cs9 [] 3 Tryz.f99 [0,4,5] (eU 4 abk) (cZ [.str s] .nil 3) [([],[],eP (sU0 s 4294967295 (.cells ((List.range 256).map fun j=>.int .u32 (zL.getD j 0)))))]:=
 cT.ef
def w256:List Int:=(List.range 256).map fun j=>ws.getD j 0
theorem Sf:(w256 ws).length=256:=by unfold w256;rw[bf,List.length_range]
theorem abr(c:Int):Le [(4,.u32)] (sU0 s c (.cells ((List.range 256).map fun j=>.int .u32 (zL.getD j 0))))=some (sU0 s c (.own .u32 (w256 zL))):=by
 kernel_rfl
def Lz(c:Int)(b:UInt8):Int:=IntKind.u8.wrap (Int.ofNat (BitVec.ofInt 8 (IntKind.u8.wrap c)^^^BitVec.ofInt 8 (Int.ofNat b.toNat)).toNat)
def afX(c:Int)(b:UInt8):Int:=nU (ws.getD (0+(Lz c b).toNat*1) 0) (c.fdiv 256)
end
def DI(ws:List Int)(s:B):Nat->Int
 |0=>4294967295
 |i+1=>afX ws (DI ws s i) (s.getD i 0)
section
variable(s:B)
def rE:Int:=nU 4294967295 (DI (w256 zL) s s.length)
theorem afY(c:Int)(ws:List Int)(i:Nat):dc cs9 [(12,.split),(19,.di (.int .i64 (Int.ofNat (i+1))))] 3 Tryz.f99 [0,4,5,10,11] (dD (dD (dU afW))) (sU1 s c ws i) (iU (decide (Int.ofNat i<Int.ofNat s.length)) ([0<=Int.ofNat i/\(Int.ofNat i).toNat<s.length,0<=Lz c (s.getD i 0)/\Lz c (s.getD i 0)<256,0+(Lz c (s.getD i 0)).toNat*1<ws.length,lA (Int.ofNat i+1) (i+1)],eP (sU1 s (afX ws c (s.getD i 0)) ws (i+1))) ([],.to (.exit 0) (sU1 s c ws i))):=
 cT.ef
theorem V0(c:Int)(b:UInt8):0<=Lz c b/\Lz c b<256:=by
 unfold Lz IntKind.wrap;have e1:(2^IntKind.u8.bits:Int)=256:=by decide
 have e3:IntKind.u8.signed=false:=rfl;simp only[e1,e3,Bool.false_and,aP,cJ];omega
theorem amD(hs:s.length<1000000000):TG ak 3 Tryz.f99.ntmps abk (cZ [.str s] .nil 3) (fL ak 3 Tryz.f99 fun u _ _=>u= .int .u32 (rE s)):=by
 have hO:∀n:Nat,Int.ofNat n=(n:Int):=fun _=>rfl;refine iw  4 X9 (amC s) cW ?_;refine uo _ (abr s 4294967295) ?_;show TG ak 3 Tryz.f99.ntmps abl _ _;have hw:=Sf zL;unfold rE;generalize w256 zL=ws at hw ⊢;refine c6 U ?_;refine c6 U ?_;refine fV X8 (amz s 4294967295 ws) (dG ?_);refine⟨fun p hp=>by rw[au]at hp;subst hp;rfl,fun s' ek=>?_⟩;have ek:fe 3 [0,4,5,10,11] s'=some (sU1 s (DI ws s 0) ws 0):=ek;refine fk (i:=0) U (fB (Q1:=fun z s'=>z= .exit 0/\∃be,fe 3 be s'=some (sU1 s (DI ws s s.length) ws s.length)) (gw (fun k' s'=>∃i,k'=s.length-i/\i<=s.length/\∃be,fe 3 be s'=some (sU1 s (DI ws s i) ws i)) U ?_ s.length ⟨0,rfl,aX _,_,ek⟩) ?_)
 . rintro k' s1 ⟨i,hk,hi,be,fQ⟩;refine dh fQ ?_;refine fV X9 (afY s (DI ws s i) ws i) fun g hg J=>?_;simp only[aD,aN,br]at hg;rcases hg with rfl|rfl
   . have fH:i<s.length:=by
      have:=aI (J _ (au.2 rfl));rw[hO,hO]at this;omega
     have M:=V0 (DI ws s i) (s.getD i 0);refine⟨?_,fun s' ek=>⟨s.length-(i+1),L,i+1,rfl,L,_,ek⟩⟩
     repeat' (first|exact cW|refine kg ?_ ?_)
     . exact⟨aA _,fH⟩
     . exact M
     . omega
     . exact fP dr L
   . have AE:¬i<s.length:=by
      have:=aK (J _ (au.2 rfl));rw[hO,hO]at this;omega
     obtain rfl:i=s.length:=by omega
     exact⟨cW,fun s' ek=>⟨rfl,_,ek⟩⟩
 rintro y s2 ⟨rfl,be,gY⟩;rw[dY];simp only[andThen];refine dh gY ?_;refine eZ X8 (amA s (DI ws s s.length) ws s.length) (dG ?_);exact⟨cW,_,_,_,rfl,rfl⟩
end
def LB:ag->Option (ah×V)
 | [.str s]=>some ([s.length<1000000000],.int .u32 (rE s))
 |_=>none
theorem abt:jK ak 99 (jW LB):=by
 refine kD (ax U) fun args cU v e=>?_;unfold LB at e;split at e
 . obtain⟨rfl,rfl⟩:=fg e;exact⟨rfl,U,fun hA=>ik mo po Tryz.func99 U U rfl (amD _ (hA _ (au.2 rfl)))⟩
 . cases e
noncomputable abbrev W10:jY:=kC 99 (jW LB) W9
theorem Sg:gm ak W10:=fh abt Zl
noncomputable abbrev abu:e9:=gL ak W10 H0 1000 40
noncomputable abbrev X10:CX ak:=CX.of mo po Sg H0 1000 40
noncomputable abbrev abv:Code:=dO Tryz.f47
noncomputable abbrev abw:Code:=dw 2 abv
noncomputable abbrev afZ:Code:=dS abw
noncomputable abbrev amG:Code:=dU abw
section
variable(b:B)(O:List (B))
def sR0:St:=eL [(1,.dV false O.length (strs O)),(5,.str b)] (K []) 3
def sR1(i:Nat):St:=eL [(5,.str b),(16,.dV false O.length (strs O)),(17,.int .i64 (Int.ofNat O.length)),(18,.int .i64 (Int.ofNat i))] (K []) 3
theorem amH:dc abu [] 3 Tryz.f76 [] (dO Tryz.f76) (cZ [.str b] .nil 3) [([],[(0:Int)<=(Int.ofNat b.length)/\(Int.ofNat b.length)<(1000000000:Int),(jE (Int.ofNat b.length)).length+b.length<=9223372036854775807,b.length<1000000000,(jE (Int.ofNat b.length)++b).length+(dX (IntKind.i64.wrap (rE b))).length<=9223372036854775807],.ret (.str (jE (Int.ofNat b.length)++b++dX (IntKind.i64.wrap (rE b)))) (K []) 3)]:=cT.ef
theorem amI(d:B)(O:List (B)):dc abu [] 3 Tryz.f47 [1,5] (eU 2 abv) (cZ [.str d,.dV false O.length (strs O)] .nil 3) [([],[(0:Int)<=(Int.ofNat d.length)/\(Int.ofNat d.length)<(1000000000:Int),(jE (Int.ofNat d.length)).length+d.length<=9223372036854775807,1+(jE (Int.ofNat d.length)++d).length<=9223372036854775807,(0:Int)<=(Int.ofNat O.length)/\(Int.ofNat O.length)<(1000000000:Int),(pX (1:Int)++(jE (Int.ofNat d.length)++d)).length+(jE (Int.ofNat O.length)).length<=9223372036854775807],eP (eL [(1,.dV false (O.length) (strs O)),(5,.str (pX (1:Int)++(jE (Int.ofNat d.length)++d)++jE (Int.ofNat O.length)))] (K []) 3))]:=cT.ef
theorem amJ:dc abu [(18,.di (.int .i64 (Int.ofNat 0)))] 3 Tryz.f47 [5,16,17,18] (dS afZ) (sR0 b O) [([],[V.int aj (0:Int)=V.int aj (0:Int)],eP (eL [(5,.str (b)),(16,.dV false (O.length) (strs O)),(17,.int .i64 ((Int.ofNat O.length))),(18,.int .i64 0)] (K []) 3))]:=cT.ef
end
section
variable(s b n:B)(O:List (B))(i:Nat)
def jH:B:=jE (Int.ofNat s.length)++s
def nV:B:=jH b++dX (IntKind.i64.wrap (rE b))
def vV(d:B)(n:Nat):B:=pX 1++jH d++jE (Int.ofNat n)
def gM(d:B)(O:List (B)):B:=nV (vV d O.length++O.flatten)
def jP(d:B):B:=nV (pX 2++jH n++jH d)
theorem pH:s.length<(jH s).length/\(jH s).length<=s.length+5:=by
 have:=mN (Int.ofNat s.length);unfold jH;rw[ay];omega
theorem yn:s.length+4<(nV s).length/\(nV s).length<=s.length+9:=by
 have:=pH s;unfold nV;rw[ay];show _<_+4/\_+4<=_;omega
theorem wX(d:B)(n:Nat):d.length<(vV d n).length/\(vV d n).length<=d.length+11:=by
 have:=pH d;have h2:=mN (Int.ofNat n);unfold vV;rw[ay,ay];show _<1+_+_/\1+_+_<=_;omega
theorem Jp(d:B)(O:List (B)):0<(gM d O).length/\(gM d O).length<=d.length+20+O.flatten.length:=by
 have h:=yn (vV d O.length++O.flatten);have X:=wX d O.length;rw[ay]at h;unfold gM;omega
theorem Sh(d:B):0<(jP n d).length/\(jP n d).length<=n.length+d.length+20:=by
 have h:=yn (pX 2++jH n++jH d);have X:=pH n;have h2:=pH d;rw[ay,ay]at h;have e:(pX 2).length=1:=rfl;unfold jP;omega
def LD:ag->Option (ah×V)
 | [.str b]=>some ([b.length<1000000000],.str (nV b))
 |_=>none
theorem aby:jK ak 76 (jW LD):=by
 refine kD (ax U) fun args cU v e=>?_;unfold LD at e;split at e
 . rename_i b;obtain⟨rfl,rfl⟩:=fg e;refine⟨rfl,U,fun hA=>?_⟩;have hb:b.length<1000000000:=hA _ (au.2 rfl);have hO:∀n:Nat,Int.ofNat n=(n:Int):=fun _=>rfl;have X:=mN (Int.ofNat b.length);obtain⟨be,hr⟩:=amH b;refine ik mo po Tryz.func76 U U rfl (ij X10 mo _ U hr fun g hg _=>?_);rw[au]at hg;subst hg;refine⟨?_,_,_,_,rfl,rfl⟩
   repeat' (first|exact cW|refine kg ?_ ?_)
   . exact⟨aA _,dr⟩
   . omega
   . exact hb
   . rw[ay];show _+4<=_;omega
 . cases e
noncomputable abbrev W11:jY:=kC 76 (jW LD) W10
theorem Si:gm ak W11:=fh aby Sg
noncomputable abbrev abz:e9:=gL ak W11 H0 1000 40
noncomputable abbrev X11:CX ak:=CX.of mo po Si H0 1000 40
theorem Zm(b2:B)(O:List (B))(p:B)(i:Nat)(h:b++p=b2):dc abz [(19,.split),(20,.di (.eK [.str p])),(25,.di (.int .i64 (Int.ofNat (i+1))))] 3 Tryz.f47 [5,16,17,18] (dD (dD (dU afZ))) (sR1 b O i) (iU (decide (Int.ofNat i<Int.ofNat O.length)) ([kJ i O.length,(strs O).length=O.length*1,V.eK (eX (strs O) ((Int.ofNat i).toNat*1) 1)=V.eK [lf.str p],b.length+p.length<=9223372036854775807,lA (Int.ofNat i+1) (i+1)],eP (sR1 b2 O (i+1))) ([],.to (.exit 0) (sR1 b O i))):=by
 subst h;exact cT.ef
theorem amL:dc abz [] 3 Tryz.f47 [] amG (sR1 b O i) [([],[b.length<1000000000],.ret (.str (nV b)) (K []) 3)]:=
 cT.ef
theorem FV{O:List (B)}{i:Nat}{p:B}(h:O[i]? =some p):(O.take (i+1)).flatten=(O.take i).flatten++p:=by
 rw[bH,h,ct];simp
theorem V1:(O.take i).flatten.length<=O.flatten.length:=by
 have:O.flatten=(O.take i).flatten++(O.drop i).flatten:=by
  rw[<- ct,cg]
 rw[this,ay];omega
theorem amM(d:B)(O:List (B))(hd:d.length<=100000000)(GB:O.length<=1000000)(hf:O.flatten.length<=100000000):TG ak 3 Tryz.f47.ntmps abv (cZ [.str d,.dV false O.length (strs O)] .nil 3)
  (fL ak 3 Tryz.f47 fun u _ _=>u= .str (gM d O)):=by
 have hO:∀n:Nat,Int.ofNat n=(n:Int):=fun _=>rfl;have hh:=wX d O.length;refine iw  2 X10 (amI d O) ?_ ?_
 . have X:=mN (Int.ofNat d.length);have h2:=mN (Int.ofNat O.length)
   repeat' (first|exact cW|refine kg ?_ ?_)
   . exact⟨aA _,dr⟩
   . omega
   . rw[ay];omega
   . exact⟨aA _,dr⟩
   . rw[ay,ay];show 1+_+_<=_;omega
 show TG ak 3 Tryz.f47.ntmps abw (sR0 (vV d O.length) O) _;unfold gM;generalize vV d O.length=hb at hh ⊢;refine c6 U ?_;refine c6 U ?_;refine fV X10 (amJ hb O) (dG ?_);refine⟨fun p hp=>by rw[au]at hp;subst hp;rfl,fun s' ek=>?_⟩;have ek:fe 3 [5,16,17,18] s'=some (sR1 (hb++(O.take 0).flatten) O 0):=by rw[ek];simp;rfl
 refine fk (i:=0) U (fB (Q1:=fun z s'=>z= .exit 0/\∃be,fe 3 be s'=some (sR1 (hb++O.flatten) O O.length)) (gw (fun k' s=>∃i,k'=O.length-i/\i<=O.length/\∃be,fe 3 be s=some (sR1 (hb++(O.take i).flatten) O i)) U ?_ O.length ⟨0,rfl,aX _,_,ek⟩) ?_)
 . rintro k' s1 ⟨i,hk,hi,be,fQ⟩;refine dh fQ ?_;rcases bO i O.length with fH|AE
   . obtain⟨p,hp⟩:∃p,O[i]? =some p:=⟨_,az fH⟩;have RA:=V1 O (i+1);rw[FV hp,ay]at RA;refine fV X11 (Zm (hb++(O.take i).flatten) (hb++(O.take (i+1)).flatten) O p i (by rw[FV hp,bA])) fun g hg J=>?_;simp only[aD,aN,br]at hg;rcases hg with rfl|rfl
     . refine⟨?_,fun s' ek=>⟨O.length-(i+1),L,i+1,rfl,L,_,ek⟩⟩
       repeat' (first|exact cW|refine kg ?_ ?_)
       . exact⟨aA _,dr⟩
       . rw[eN,bn]
       . exact aL V.eK (fR hp)
       . rw[ay];omega
       . exact fP dr L
     . exact absurd (aK (J _ (au.2 rfl))) dr
   . obtain rfl:i=O.length:=by omega
     refine fV X11 (Zm (hb++(O.take O.length).flatten) _ O [] O.length rfl) fun g hg J=>?_;simp only[aD,aN,br]at hg;rcases hg with rfl|rfl
     . exact absurd (aI (J _ (au.2 rfl))) dr
     . refine⟨cW,fun s' ek=>⟨rfl,[5,16,17,18],?_⟩⟩;rw[ek,aU]
 rintro y s2 ⟨rfl,be,gY⟩;rw[dY];simp only[andThen];refine dh gY ?_;refine eZ X11 (amL (hb++O.flatten) O O.length) (dG ?_);refine⟨fun p hp=>?_,_,_,_,rfl,rfl⟩;rw[au]at hp;subst hp;rw[ay];omega
def LF:ai->Option (ah×V)
 | [.str d,.dV n Q]=>some ([Q=strs (dI Q),n=(dI Q).length,d.length<=100000000,n<=1000000,(dI Q).flatten.length<=100000000],.str (gM d (dI Q)))
 |_=>none
theorem abA:jK ak 47 (dW LF):=by
 refine vR (ax U) fun args cU v e hA=>?_;unfold LF at e;split at e
 case h_2=>cases e
 rename_i d n Q;simp only[an,aB]at e;obtain⟨rfl,rfl⟩:=e;have e1:Q=strs (dI Q):=hA _ (by simp);have e2:n=(dI Q).length:=hA (n=(dI Q).length) (by simp);have e3:d.length<=100000000:=hA (d.length<=100000000) (by simp);have e4:n<=1000000:=hA (n<=1000000) (by simp);have e5:(dI Q).flatten.length<=100000000:=hA ((dI Q).flatten.length<=100000000) (by simp);generalize dI Q=ps at *;subst e1 e2;exact iq mo po Tryz.func47 U U rfl rfl (fB (amM d ps e3 e4 e5) fun y s h=>kE h)
def LG:ag->Option (ah×V)
 | [.str n,.str d]=>some ([n.length<100000000,d.length<100000000],.str (jP n d))
 |_=>none
theorem amN(d:B):dc abz [] 3 Tryz.f49 [] (dO Tryz.f49) (cZ [.str n,.str d] .nil 3) [([],[0<=Int.ofNat n.length/\Int.ofNat n.length<1000000000,(jE (Int.ofNat n.length)).length+n.length<=9223372036854775807,1+(jE (Int.ofNat n.length)++n).length<=9223372036854775807,0<=Int.ofNat d.length/\Int.ofNat d.length<1000000000,(jE (Int.ofNat d.length)).length+d.length<=9223372036854775807,(pX 2++(jE (Int.ofNat n.length)++n)).length+(jE (Int.ofNat d.length)++d).length<=9223372036854775807,(pX 2++(jE (Int.ofNat n.length)++n)++(jE (Int.ofNat d.length)++d)).length<1000000000],.ret (.str (jP n d)) (K []) 3)]:=
 cT.ef
theorem abB:jK ak 49 (jW LG):=by
 refine kD (ax U) fun args cU v e=>?_;unfold LG at e;split at e
 . rename_i n d;obtain⟨rfl,rfl⟩:=fg e;refine⟨rfl,U,fun hA=>?_⟩;have hn:n.length<100000000:=hA _ (by simp);have hd:d.length<100000000:=hA (d.length<100000000) (by simp);have hO:∀n:Nat,Int.ofNat n=(n:Int):=fun _=>rfl;have X:=mN (Int.ofNat n.length);have h2:=mN (Int.ofNat d.length);obtain⟨be,hr⟩:=amN n d;refine ik mo po Tryz.func49 U U rfl (ij X11 mo _ U hr fun g hg _=>?_);rw[au]at hg;subst hg;refine⟨?_,_,_,_,rfl,rfl⟩;have e1:(pX 2).length=1:=rfl
   repeat' (first|exact cW|refine kg ?_ ?_)
   . exact⟨aA _,dr⟩
   . omega
   . rw[ay];omega
   . exact⟨aA _,dr⟩
   . omega
   . simp only[ay,e1];omega
   . simp only[ay,e1];omega
 . cases e
noncomputable abbrev W12:jY:=kC 49 (jW LG) (kC 47 (dW LF) W11)
end
theorem Sj:gm ak W12:=fh abB (fh abA Si)
noncomputable abbrev V2:e9:=gL ak W12 H0 1000 40
noncomputable abbrev X12:CX ak:=CX.of mo po Sj H0 1000 40
end Go.Proofs.YtfihojpgobmmdaaGreatDoor
